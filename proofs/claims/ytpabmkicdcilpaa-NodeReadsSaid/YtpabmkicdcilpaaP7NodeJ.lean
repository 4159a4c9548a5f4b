/- A leaf out of words: DecodeLeaf, by both. -/
import Derived.Test.YtpabmkicdcilpaaP7U
namespace Go.Proofs.Ytpabmkicdcilpaa
open Go.Vm
set_option linter.unusedSimpArgs false
set_option linter.unusedVariables false
set_option maxRecDepth 100000
variable {T : Vm.Prog} {h : AH}
theorem andNot_w {a b : Nat} (ha : a < 18446744073709551616) (hb : b < 18446744073709551616) : binV .andNot (.int .u64 (a : Int)) (.int .u64 (b : Int)) = some (.int .u64 ((a &&& (18446744073709551615 - b) : Nat) : Int)) := by
  have hab : a &&& (18446744073709551615 - b) < 18446744073709551616 := Nat.lt_of_le_of_lt Nat.and_le_left ha
  show some (AV.int .u64 (IntKind.u64.wrap ((BitVec.ofInt 64 (a : Int) &&& ~~~(BitVec.ofInt 64 (b : Int))).toNat : Int))) = _
  rw [BitVec.toNat_and, BitVec.toNat_not, BitVec.ofInt_natCast, BitVec.ofInt_natCast, BitVec.toNat_ofNat, BitVec.toNat_ofNat, Nat.mod_eq_of_lt (show a < 2 ^ 64 by omega), Nat.mod_eq_of_lt (show b < 2 ^ 64 by omega),
    show (2 : Nat) ^ 64 - 1 - b = 18446744073709551615 - b by omega, wrap_u64 hab]
theorem andNot_zero {x : Nat} (hx : x < 18446744073709551616) : x &&& (18446744073709551615 - 65280) = 0 ↔ x % 256 = 0 ∧ x < 65536 := by
  have h1 : (x &&& (18446744073709551615 - 65280)) % 2 ^ 8 = x % 2 ^ 8 &&& (18446744073709551615 - 65280) % 2 ^ 8 := Nat.and_mod_two_pow
  have h2 : (x &&& (18446744073709551615 - 65280)) / 2 ^ 16 = x / 2 ^ 16 &&& (18446744073709551615 - 65280) / 2 ^ 16 := Nat.and_div_two_pow
  have h3 : (x &&& (18446744073709551615 - 65280)) / 2 ^ 8 = x / 2 ^ 8 &&& (18446744073709551615 - 65280) / 2 ^ 8 := Nat.and_div_two_pow
  have h4 : (x / 2 ^ 8 &&& (18446744073709551615 - 65280) / 2 ^ 8) % 2 ^ 8 = x / 2 ^ 8 % 2 ^ 8 &&& (18446744073709551615 - 65280) / 2 ^ 8 % 2 ^ 8 := Nat.and_mod_two_pow
  rw [show (18446744073709551615 - 65280) % 2 ^ 8 = 2 ^ 8 - 1 by decide, Nat.and_two_pow_sub_one_eq_mod, Nat.mod_mod] at h1
  rw [show (18446744073709551615 - 65280) / 2 ^ 16 = 2 ^ 48 - 1 by decide, Nat.and_two_pow_sub_one_eq_mod] at h2
  rw [show (18446744073709551615 - 65280) / 2 ^ 8 % 2 ^ 8 = 0 by decide, Nat.and_zero, ← h3] at h4
  generalize (x &&& (18446744073709551615 - 65280)) = z at *
  simp only [show (2 : Nat) ^ 8 = 256 from rfl, show (2 : Nat) ^ 16 = 65536 from rfl, show (2 : Nat) ^ 48 = 281474976710656 from rfl] at h1 h2 h4
  omega
/-- Eight words. -/
def W8 (h : AH) (v : AV) (ws : List Nat) : Prop := Sees h v (wcells ws) ∧ capOk v ∧ ws.length = 8
variable {v : AV} {ws : List Nat}
theorem W8.sees (w : W8 h v ws) : Sees h v (wcells ws) := w.1
theorem W8.eight (w : W8 h v ws) : ws.length = 8 := w.2.2
theorem W8.len (w : W8 h v ws) : lenOfV v = some 8 := by rw [w.1.len, wcells_len, w.2.2]
theorem W8.quiet (w : W8 h v ws) (hl : Low h) {h' : AH} (q : Quiet h h') : W8 h' v ws := ⟨sees_keep w.1 hl q, w.2⟩
theorem W8.row (r : Row1 h v (wcells ws)) (hl : ws.length = 8) : W8 h v ws := ⟨r.sees, row_cap r, hl⟩
theorem W8.at (w : W8 h v ws) {i x : Nat} (hx : ws[i]? = some x) : ∃ p, idxAddrV 1 v (.int .i64 (i : Int)) = some p ∧ loadV h false 1 p = some (.int .u64 (x : Int)) := w.sees.at (wcells_get hx) .i64
theorem W8.mid (w : W8 h v ws) : ∃ v2, slcV 1 v (some (.int .i64 2)) (some (.int .i64 4)) none = some v2 ∧ Sees h v2 (wcells ((ws.drop 2).take 2)) := by
  obtain ⟨s, hc, hl⟩ := w
  rcases s with ⟨rfl, h0⟩ | ⟨o, off, cap, ex, l, rw, rfl, hg, h1, h2⟩
  · have := congrArg List.length h0
    rw [wcells_len, hl] at this
    cases this
  · have e8 : (wcells ws).length = 8 := by rw [wcells_len, hl]
    have hc' : (wcells ws).length ≤ cap := hc
    rw [e8] at hc' h1 ⊢
    have hne : ¬ cap = 2 := by omega
    have h4 : 4 ≤ cap := by omega
    have el : (wcells ((ws.drop 2).take 2)).length = 2 := by rw [wcells_len]; simp [hl]
    refine ⟨.slice o (off + 2) 1 2 (cap - 2) ex, ?_, .inr ⟨o, off + 2, cap - 2, ex, l, rw, by rw [el], hg, ?_, fun i x hx => ?_⟩⟩
    · simp [slcV, bounds, boundM, boundH, boundL, natOf, Option.filter, hne, h4]
    · rw [el]; omega
    · rw [show off + 2 + i = off + (2 + i) by omega]
      refine h2 _ x ?_
      simp only [wcells, List.getElem?_map, List.getElem?_take, List.getElem?_drop] at hx ⊢
      split at hx
      · exact hx
      · cases hx
theorem eight {ws : List Nat} (hl : ws.length = 8) : ∃ w0 w1 w2 w3 w4 w5 w6 w7, ws = [w0, w1, w2, w3, w4, w5, w6, w7] := by
  match ws, hl with
  | [a, b, c, d, e, f, g, i], _ => exact ⟨a, b, c, d, e, f, g, i, rfl⟩
/-- What is answered. -/
def leafO : Option LeafP → List AV
  | some l => l.cells
  | none => [.str [], .int .i64 0]
theorem lz_set {g : AH} {q : Nat} {l : List AV} {s : List UInt8} {V : Int} (hz : g.get q = some (.cells l true)) (hl : l.length = 2) : storeV g 2 (.ptr q 0) (.agg [.str s, .int .i64 V]) = some (g.set q (.cells [.str s, .int .i64 V] true)) := store_all hz hl rfl rfl
theorem fill2 : fillV [AV.str [], .int .i64 0] [] = some [AV.str [], .int .i64 0] := rfl
theorem fillL (s : List UInt8) (V : Int) : fillV [AV.str [], .int .i64 0] [(0, 1, .str s), (1, 1, .int .i64 V)] = some [AV.str s, .int .i64 V] := by simp [fillV, AV.isDef, AV.cells, setMany]
theorem leafE_eq {l : LeafP} {ws : List Nat} (hl : ws.length = 8) (e : leafE l = ws) : rightL l = true ∧ leafW l = ws := by
  unfold leafE at e
  split at e
  · rename_i hr; exact ⟨hr, e⟩
  · subst e; cases hl
theorem decodeLeaf_ok (k : Fits T) (hl : Low h) (w : W8 h v ws) (h64 : ∀ x ∈ ws, x < 18446744073709551616) :
    Gives T 43 [v] h fun r h' => Quiet h h' ∧ Low h' ∧ ∃ o, LeafIs ws o ∧ r = .tuple [.agg (leafO o), .bool o.isSome] := by
  refine gives_func (k.env _ (by decide)) (k.at (fn := a43) rfl) rfl ?_
  have hlen : ws.length = 8 := w.eight
  obtain ⟨w0, w1, w2, w3, w4, w5, w6, w7, rfl⟩ := eight hlen
  have b1 := h64 w1 (by simp)
  have b2 := h64 w2 (by simp)
  have b3 := h64 w3 (by simp)
  have b4 := h64 w4 (by simp)
  have q1 : Quiet h (h.new (.cells [.str [], .int .i64 0] true)) := (Quiet.refl _).new _
  have lo1 : Low (h.new (.cells [.str [], .int .i64 0] true)) := hl.new _
  have g1 : (h.new (.cells [.str [], .int .i64 0] true)).get h.next = some (.cells [.str [], .int .i64 0] true) := get_new_same
  have n1 : (h.new (.cells [.str [], .int .i64 0] true)).next = h.next + 1 := rfl
  simp only [a43, c43, vms, vmc, AOpd.val, Nat.reduceEqDiff, reduceCtorEq, Nat.reduceAdd, Nat.reduceBEq]
  generalize (h.new (.cells [.str [], .int .i64 0] true)) = h1 at *
  have w1' := w.quiet hl q1
  simp only [vms, vmc, AOpd.val, Nat.reduceEqDiff, reduceCtorEq, Nat.reduceAdd, Nat.reduceBEq, w1'.len]
  refine Gives.bind ((size_ok k (x := 0)).mono ?_)
  rintro _ _ ⟨rfl, rfl⟩
  rename_i h1
  obtain ⟨v2, sl, sv2⟩ := w1'.mid
  obtain ⟨p1, ip1, lp1⟩ := w1'.at (i := 1) (x := w1) rfl
  have ip1' : idxAddrV 1 v (.int .i64 1) = some p1 := ip1
  have hn255 : w1 / 256 % 256 < 256 := Nat.mod_lt _ (by decide)
  have wi : IntKind.i64.wrap ((w1 / 256 % 256 : Nat) : Int) = ((w1 / 256 % 256 : Nat) : Int) := wrap_i64n (by omega)
  simp only [vms, vmc, AOpd.val, Nat.reduceEqDiff, reduceCtorEq, Nat.reduceAdd, Nat.reduceBEq, show sizeP 0 = 8 from rfl, bne_self_eq_false, sl, ip1', lp1, shr8, and255 (show w1 / 256 < 18446744073709551616 by omega), wi]
  refine Gives.bind ((bytes_ok (g := 69) (k.env _ (by decide)) (k.at rfl) lo1 sv2 (by simp) (by omega) (by omega)).mono ?_)
  intro r2 h2 it
  obtain ⟨ex2, lo2, rfl⟩ := it
  have q2 := ex2.quiet
  have w2' := w1'.quiet lo1 q2
  have g2 := q2.get g1 (lo1 _ _ g1)
  obtain ⟨p4, ip4, lp4⟩ := w2'.at (i := 4) (x := w4) rfl
  have ip4' : idxAddrV 1 v (.int .i64 4) = some p4 := ip4
  have hbr : bytesR (([w0, w1, w2, w3, w4, w5, w6, w7].drop 2).take 2) ((w1 / 256 % 256 : Nat) : Int) = bytesR [w2, w3] ((w1 / 256 % 256 : Nat) : Int) := rfl
  rw [hbr]
  obtain ⟨s, e, hse⟩ : ∃ s e, bytesR [w2, w3] ((w1 / 256 % 256 : Nat) : Int) = (s, e) := ⟨_, _, rfl⟩
  rw [hse]
  obtain ⟨V, hV⟩ : ∃ V, IntKind.i64.wrap (w4 : Int) = V := ⟨_, rfl⟩
  simp only [vms, vmc, AOpd.val, Nat.reduceEqDiff, reduceCtorEq, Nat.reduceAdd, Nat.reduceBEq, ip4', lp4, hV, fillL]
  have q3 : Quiet h2 (h2.new (.cells [.str [], .int .i64 0] true)) := (Quiet.refl _).new _
  have g3 : (h2.new (.cells [.str [], .int .i64 0] true)).get h2.next = some (.cells [.str [], .int .i64 0] true) := get_new_same
  have st3 := lz_set (s := s) (V := V) g3 rfl
  have q4 : Quiet h2 ((h2.new (.cells [.str [], .int .i64 0] true)).set h2.next (.cells [.str s, .int .i64 V] true)) := q3.set (Nat.le_refl _) _
  have lo4 : Low ((h2.new (.cells [.str [], .int .i64 0] true)).set h2.next (.cells [.str s, .int .i64 V] true)) := (lo2.new _).set (by rw [next_new]; omega) _
  have g4 : ((h2.new (.cells [.str [], .int .i64 0] true)).set h2.next (.cells [.str s, .int .i64 V] true)).get h2.next = some (.cells [.str s, .int .i64 V] true) := get_set_same
  have n4 : ((h2.new (.cells [.str [], .int .i64 0] true)).set h2.next (.cells [.str s, .int .i64 V] true)).next = h2.next + 1 := rfl
  simp only [vms, vmc, AOpd.val, Nat.reduceEqDiff, reduceCtorEq, Nat.reduceAdd, Nat.reduceBEq, st3]
  obtain ⟨t, ht⟩ : ∃ t, t = h2.next := ⟨_, rfl⟩
  rw [← ht] at g4 n4 ⊢
  rw [← ht] at q4 lo4
  generalize ((h2.new (.cells [.str [], .int .i64 0] true)).set t (.cells [.str s, .int .i64 V] true)) = h4 at *
  have gp4 := q4.get g2 (lo2 _ _ g2)
  have w4' := w2'.quiet lo2 q4
  have q14 := (q1.trans q2).trans q4
  by_cases he : e = 0
  · subst he
    simp only [vms, vmc, AOpd.val, Nat.reduceEqDiff, reduceCtorEq, Nat.reduceAdd, Nat.reduceBEq, show ((0 : Int) != 0) = false from rfl, load_all g4 (n := 2) rfl]
    obtain ⟨hsl, hn16, hd0, hd1⟩ := bytes_words b2 b3 hse
    refine Gives.bind ((encLeaf_ok k lo4 (l := ⟨s, V⟩) (by show s.length < _; omega)).mono ?_)
    rintro r5 h5 ⟨q5, lo5, r5r, r5n⟩
    have w5' := w4'.quiet lo4 q5
    have g5 := q5.get g4 (lo4 _ _ g4)
    have gp5 := q5.get gp4 (lo4 _ _ gp4)
    simp only [vms, vmc, AOpd.val, Nat.reduceEqDiff, reduceCtorEq, Nat.reduceAdd, Nat.reduceBEq]
    refine Gives.bind ((equal_ok k r5r.sees w5'.sees (by unfold leafE; split <;> simp [leafW]) (by simp)).mono ?_)
    rintro _ _ ⟨rfl, rfl⟩
    rename_i h5
    by_cases hw : leafE ⟨s, V⟩ = [w0, w1, w2, w3, w4, w5, w6, w7]
    · have d1 : decide (leafE ⟨s, V⟩ = [w0, w1, w2, w3, w4, w5, w6, w7]) = true := by simpa using hw
      have st6 := lz_set (s := s) (V := V) gp5 rfl
      have hr6 : (h5.set h.next (.cells [.str s, .int .i64 V] true)).get h.next = some (.cells [.str s, .int .i64 V] true) := get_set_same
      simp only [vms, vmc, AOpd.val, Nat.reduceEqDiff, reduceCtorEq, Nat.reduceAdd, Nat.reduceBEq, d1, Bool.not_true, load_all g5 (n := 2) rfl, st6, res_cell, load_all hr6 (n := 2) rfl]
      exact ⟨(q14.trans q5).set (Nat.le_refl _) _, lo5.set (lo5 _ _ gp5) _, some ⟨s, V⟩, leafE_eq rfl hw, rfl⟩
    · have d1 : decide (leafE ⟨s, V⟩ = [w0, w1, w2, w3, w4, w5, w6, w7]) = false := by simpa using hw
      have st6 := lz_set (s := []) (V := 0) gp5 rfl
      have hr6 : (h5.set h.next (.cells [.str [], .int .i64 0] true)).get h.next = some (.cells [.str [], .int .i64 0] true) := get_set_same
      simp only [vms, vmc, AOpd.val, Nat.reduceEqDiff, reduceCtorEq, Nat.reduceAdd, Nat.reduceBEq, d1, Bool.not_false, fill2, st6, res_cell, load_all hr6 (n := 2) rfl]
      refine ⟨(q14.trans q5).set (Nat.le_refl _) _, lo5.set (lo5 _ _ gp5) _, none, fun l hr hlw => hw ?_, rfl⟩
      obtain ⟨ht1, ht2⟩ := leaf_tells hr
      obtain ⟨h13, hv0, hv1⟩ := right_len hr
      rw [hlw] at ht1
      simp only [List.cons.injEq, and_true] at ht1
      obtain ⟨e0, e1, e2, e3, e4, e5, e6, e7⟩ := ht1
      rw [e1, show l.key.length * 256 / 256 % 256 = l.key.length by omega, e2, e3, ht2] at hse
      have hs : l.key = s := congrArg Prod.fst hse
      have hVv : V = l.val := by rw [← hV, e4, Int.toNat_of_nonneg hv0]; exact wrap_i64 (by omega) (by omega)
      have hle : (⟨s, V⟩ : LeafP) = l := by rw [← hs, hVv]
      rw [hle]; unfold leafE; rw [if_pos hr]; exact hlw
  · have d0 : (e != 0) = true := by simpa using he
    have st6 := lz_set (s := []) (V := 0) gp4 rfl
    have hr6 : (h4.set h.next (.cells [.str [], .int .i64 0] true)).get h.next = some (.cells [.str [], .int .i64 0] true) := get_set_same
    simp only [vms, vmc, AOpd.val, Nat.reduceEqDiff, reduceCtorEq, Nat.reduceAdd, Nat.reduceBEq, d0, fill2, st6, res_cell, load_all hr6 (n := 2) rfl]
    refine ⟨q14.set (Nat.le_refl _) _, lo4.set (lo4 _ _ gp4) _, none, fun l hr hlw => he ?_, rfl⟩
    obtain ⟨ht1, ht2⟩ := leaf_tells hr
    obtain ⟨h13, hv0, hv1⟩ := right_len hr
    rw [hlw] at ht1
    simp only [List.cons.injEq, and_true] at ht1
    obtain ⟨e0, e1, e2, e3, e4, e5, e6, e7⟩ := ht1
    rw [e1, show l.key.length * 256 / 256 % 256 = l.key.length by omega, e2, e3, ht2] at hse
    exact (congrArg Prod.snd hse).symm
end Go.Proofs.Ytpabmkicdcilpaa
/- A leaf out of words by the reference. -/
namespace Go.Proofs.Ytpabmkicdcilpaa
open Go.Vm
set_option linter.unusedSimpArgs false
set_option linter.unusedVariables false
set_option maxRecDepth 100000
variable {T : Vm.Prog} {h : AH} {v : AV} {ws : List Nat}
theorem tells8 {w0 w1 w2 w3 w4 w5 w6 w7 : Nat} {l : LeafP} (hr : rightL l = true) (e : leafW l = [w0, w1, w2, w3, w4, w5, w6, w7]) :
    w0 = 0 ∧ w1 = l.key.length * 256 ∧ w4 = l.val.toNat ∧ w5 = 0 ∧ w6 = 0 ∧ w7 = 0 ∧ bytesR [w2, w3] (l.key.length : Int) = (l.key, 0) ∧ l.key.length ≤ 13 ∧ 0 ≤ l.val ∧ l.val ≤ 1099511627776 := by
  obtain ⟨ht1, ht2⟩ := leaf_tells hr
  obtain ⟨h13, hv0, hv1⟩ := right_len hr
  rw [e] at ht1
  simp only [List.cons.injEq, and_true] at ht1
  obtain ⟨e0, e1, e2, e3, e4, e5, e6, e7⟩ := ht1
  exact ⟨e0, e1, e4, e5, e6, e7, by rw [e2, e3]; exact ht2, h13, hv0, hv1⟩
theorem or_zero {a b c : Nat} : (a ||| b) ||| c = 0 ↔ a = 0 ∧ b = 0 ∧ c = 0 := by
  rw [Nat.or_eq_zero_iff, Nat.or_eq_zero_iff, and_assoc]
theorem decodeLeaf_ref (k : Fits T) (hl : Low h) (w : W8 h v ws) (h64 : ∀ x ∈ ws, x < 18446744073709551616) :
    Gives T 44 [v] h fun r h' => Quiet h h' ∧ Low h' ∧ ∃ o, LeafIs ws o ∧ r = .tuple [.agg (leafO o), .bool o.isSome] := by
  refine gives_func (k.env _ (by decide)) (k.at (fn := a44) rfl) rfl ?_
  have hlen : ws.length = 8 := w.eight
  obtain ⟨w0, w1, w2, w3, w4, w5, w6, w7, rfl⟩ := eight hlen
  have b1 := h64 w1 (by simp)
  have b2 := h64 w2 (by simp)
  have b3 := h64 w3 (by simp)
  have b4 := h64 w4 (by simp)
  have b5 := h64 w5 (by simp)
  have b6 := h64 w6 (by simp)
  have b7 := h64 w7 (by simp)
  have q1 : Quiet h (h.new (.cells [.str [], .int .i64 0] true)) := (Quiet.refl _).new _
  have lo1 : Low (h.new (.cells [.str [], .int .i64 0] true)) := hl.new _
  have g1 : (h.new (.cells [.str [], .int .i64 0] true)).get h.next = some (.cells [.str [], .int .i64 0] true) := get_new_same
  simp only [a44, c44, vms, vmc, AOpd.val, Nat.reduceEqDiff, reduceCtorEq, Nat.reduceAdd, Nat.reduceBEq]
  generalize (h.new (.cells [.str [], .int .i64 0] true)) = h1 at *
  have w1' := w.quiet hl q1
  simp only [vms, vmc, AOpd.val, Nat.reduceEqDiff, reduceCtorEq, Nat.reduceAdd, Nat.reduceBEq, w1'.len]
  refine Gives.bind ((size0_ref k).mono ?_)
  rintro _ _ ⟨rfl, rfl⟩
  rename_i h1
  obtain ⟨p0, ip0, lp0⟩ := w1'.at (i := 0) (x := w0) rfl
  obtain ⟨p1, ip1, lp1⟩ := w1'.at (i := 1) (x := w1) rfl
  obtain ⟨p4, ip4, lp4⟩ := w1'.at (i := 4) (x := w4) rfl
  obtain ⟨p5, ip5, lp5⟩ := w1'.at (i := 5) (x := w5) rfl
  obtain ⟨p6, ip6, lp6⟩ := w1'.at (i := 6) (x := w6) rfl
  obtain ⟨p7, ip7, lp7⟩ := w1'.at (i := 7) (x := w7) rfl
  have jp0 : idxAddrV 1 v (.int .i64 0) = some p0 := ip0
  have jp1 : idxAddrV 1 v (.int .i64 1) = some p1 := ip1
  have jp4 : idxAddrV 1 v (.int .i64 4) = some p4 := ip4
  have jp5 : idxAddrV 1 v (.int .i64 5) = some p5 := ip5
  have jp6 : idxAddrV 1 v (.int .i64 6) = some p6 := ip6
  have jp7 : idxAddrV 1 v (.int .i64 7) = some p7 := ip7
  have st1 := lz_set (s := []) (V := 0) g1 rfl
  have hr1 : (h1.set h.next (.cells [.str [], .int .i64 0] true)).get h.next = some (.cells [.str [], .int .i64 0] true) := get_set_same
  have e8 : (((8 : Nat) : Int) != 8) = false := rfl
  have an := andNot_w b1 (show 65280 < 18446744073709551616 by decide)
  have an' : binV .andNot (.int .u64 (w1 : Int)) (.int .u64 65280) = some (.int .u64 ((w1 &&& (18446744073709551615 - 65280) : Nat) : Int)) := an
  by_cases c0 : w0 = 0
  rotate_left
  · have d0 : ((w0 : Int) != 0) = true := by simp; omega
    simp only [vms, vmc, AOpd.val, Nat.reduceEqDiff, reduceCtorEq, Nat.reduceAdd, Nat.reduceBEq, e8, jp0, lp0, d0, fill2, st1, res_cell, load_all hr1 (n := 2) rfl]
    exact ⟨q1.set (Nat.le_refl _) _, lo1.set (lo1 _ _ g1) _, none, fun l hr e => c0 (tells8 hr e).1, rfl⟩
  have d0 : ((w0 : Int) != 0) = false := by rw [c0]; rfl
  by_cases c1 : w1 &&& (18446744073709551615 - 65280) = 0
  rotate_left
  · have d1 : (((w1 &&& (18446744073709551615 - 65280) : Nat) : Int) != 0) = true := by simp only [bne_iff_ne]; omega
    simp only [vms, vmc, AOpd.val, Nat.reduceEqDiff, reduceCtorEq, Nat.reduceAdd, Nat.reduceBEq, e8, jp0, lp0, d0, jp1, lp1, an', d1, fill2, st1, res_cell, load_all hr1 (n := 2) rfl]
    refine ⟨q1.set (Nat.le_refl _) _, lo1.set (lo1 _ _ g1) _, none, fun l hr e => c1 ?_, rfl⟩
    obtain ⟨_, e1, _, _, _, _, _, h13, _⟩ := tells8 hr e
    exact (andNot_zero b1).2 (by omega)
  have d1 : (((w1 &&& (18446744073709551615 - 65280) : Nat) : Int) != 0) = false := by rw [c1]; rfl
  obtain ⟨z1, z2⟩ := (andNot_zero b1).1 c1
  by_cases c4 : w4 ≤ 1099511627776
  rotate_left
  · have d4 : decide ((w4 : Int) > 1099511627776) = true := by rw [decide_eq_true_eq]; omega
    simp only [vms, vmc, AOpd.val, Nat.reduceEqDiff, reduceCtorEq, Nat.reduceAdd, Nat.reduceBEq, e8, jp0, lp0, d0, jp1, lp1, an', d1, jp4, lp4, d4, fill2, st1, res_cell, load_all hr1 (n := 2) rfl]
    refine ⟨q1.set (Nat.le_refl _) _, lo1.set (lo1 _ _ g1) _, none, fun l hr e => c4 ?_, rfl⟩
    obtain ⟨_, _, e4, _, _, _, _, _, v0, v1⟩ := tells8 hr e
    omega
  have d4 : decide ((w4 : Int) > 1099511627776) = false := by rw [decide_eq_false_iff_not]; omega
  have o56 : w5 ||| w6 < 18446744073709551616 := Nat.or_lt_two_pow (n := 64) b5 b6
  have o567 : w5 ||| w6 ||| w7 < 18446744073709551616 := Nat.or_lt_two_pow (n := 64) o56 b7
  have or1 := bin_or_u64 b5 b6 o56
  have or2 := bin_or_u64 o56 b7 o567
  by_cases c5 : w5 ||| w6 ||| w7 = 0
  rotate_left
  · have d5 : (((w5 ||| w6 ||| w7 : Nat) : Int) != 0) = true := by simp only [bne_iff_ne]; omega
    simp only [vms, vmc, AOpd.val, Nat.reduceEqDiff, reduceCtorEq, Nat.reduceAdd, Nat.reduceBEq, e8, jp0, lp0, d0, jp1, lp1, an', d1, jp4, lp4, d4, jp5, lp5, jp6, lp6, jp7, lp7, or1, or2, d5, fill2, st1, res_cell, load_all hr1 (n := 2) rfl]
    refine ⟨q1.set (Nat.le_refl _) _, lo1.set (lo1 _ _ g1) _, none, fun l hr e => c5 ?_, rfl⟩
    obtain ⟨_, _, _, e5, e6, e7, _⟩ := tells8 hr e
    exact or_zero.2 ⟨e5, e6, e7⟩
  have d5 : (((w5 ||| w6 ||| w7 : Nat) : Int) != 0) = false := by rw [c5]; rfl
  obtain ⟨z5, z6, z7⟩ := or_zero.1 c5
  obtain ⟨v2, sl, sv2⟩ := w1'.mid
  have wi : IntKind.i64.wrap ((w1 / 256 : Nat) : Int) = ((w1 / 256 : Nat) : Int) := wrap_i64n (by omega)
  simp only [vms, vmc, AOpd.val, Nat.reduceEqDiff, reduceCtorEq, Nat.reduceAdd, Nat.reduceBEq, e8, jp0, lp0, d0, jp1, lp1, an', d1, jp4, lp4, d4, jp5, lp5, jp6, lp6, jp7, lp7, or1, or2, d5, sl, shr8, wi]
  refine Gives.bind ((bytes_ref (g := 72) (k.env _ (by decide)) (k.at rfl) lo1 sv2 (by simp) (fun x hx => by simp at hx; rcases hx with rfl | rfl <;> assumption) (by omega) (by omega)).mono ?_)
  intro r2 h2 it
  obtain ⟨ex2, lo2, rfl⟩ := it
  have q2 := ex2.quiet
  have w2' := w1'.quiet lo1 q2
  have g2 := q2.get g1 (lo1 _ _ g1)
  obtain ⟨p42, ip42, lp42⟩ := w2'.at (i := 4) (x := w4) rfl
  have jp42 : idxAddrV 1 v (.int .i64 4) = some p42 := ip42
  have hbr : bytesR (([w0, w1, w2, w3, w4, w5, w6, w7].drop 2).take 2) ((w1 / 256 : Nat) : Int) = bytesR [w2, w3] ((w1 / 256 : Nat) : Int) := rfl
  rw [hbr]
  obtain ⟨s, e, hse⟩ : ∃ s e, bytesR [w2, w3] ((w1 / 256 : Nat) : Int) = (s, e) := ⟨_, _, rfl⟩
  rw [hse]
  have hV : IntKind.i64.wrap (w4 : Int) = (w4 : Int) := wrap_i64n (by omega)
  simp only [vms, vmc, AOpd.val, Nat.reduceEqDiff, reduceCtorEq, Nat.reduceAdd, Nat.reduceBEq, jp42, lp42, hV, fillL]
  have g3 : (h2.new (.cells [.str [], .int .i64 0] true)).get h2.next = some (.cells [.str [], .int .i64 0] true) := get_new_same
  have st3 := lz_set (s := s) (V := (w4 : Int)) g3 rfl
  have q4 : Quiet h2 ((h2.new (.cells [.str [], .int .i64 0] true)).set h2.next (.cells [.str s, .int .i64 (w4 : Int)] true)) := ((Quiet.refl _).new _).set (Nat.le_refl _) _
  have lo4 : Low ((h2.new (.cells [.str [], .int .i64 0] true)).set h2.next (.cells [.str s, .int .i64 (w4 : Int)] true)) := (lo2.new _).set (by rw [next_new]; omega) _
  have g4 : ((h2.new (.cells [.str [], .int .i64 0] true)).set h2.next (.cells [.str s, .int .i64 (w4 : Int)] true)).get h2.next = some (.cells [.str s, .int .i64 (w4 : Int)] true) := get_set_same
  simp only [vms, vmc, AOpd.val, Nat.reduceEqDiff, reduceCtorEq, Nat.reduceAdd, Nat.reduceBEq, st3]
  obtain ⟨t, ht⟩ : ∃ t, t = h2.next := ⟨_, rfl⟩
  rw [← ht] at g4 ⊢
  rw [← ht] at q4 lo4
  generalize ((h2.new (.cells [.str [], .int .i64 0] true)).set t (.cells [.str s, .int .i64 (w4 : Int)] true)) = h4 at *
  have gp4 := q4.get g2 (lo2 _ _ g2)
  have q14 := (q1.trans q2).trans q4
  by_cases he : e = 0
  · subst he
    obtain ⟨hsl, hn16, hd0, hd1⟩ := bytes_words b2 b3 hse
    simp only [vms, vmc, AOpd.val, Nat.reduceEqDiff, reduceCtorEq, Nat.reduceAdd, Nat.reduceBEq, show ((0 : Int) != 0) = false from rfl, load_all g4 (n := 2) rfl]
    refine Gives.bind ((rightLeaf_ref k lo4 (l := ⟨s, (w4 : Int)⟩) (by show s.length < _; omega)).mono ?_)
    rintro _ h5 ⟨rfl, q5, lo5⟩
    have g5 := q5.get g4 (lo4 _ _ g4)
    have gp5 := q5.get gp4 (lo4 _ _ gp4)
    by_cases hw : rightL ⟨s, (w4 : Int)⟩ = true
    · have st6 := lz_set (s := s) (V := (w4 : Int)) gp5 rfl
      have hr6 : (h5.set h.next (.cells [.str s, .int .i64 (w4 : Int)] true)).get h.next = some (.cells [.str s, .int .i64 (w4 : Int)] true) := get_set_same
      simp only [vms, vmc, AOpd.val, Nat.reduceEqDiff, reduceCtorEq, Nat.reduceAdd, Nat.reduceBEq, hw, Bool.not_true, load_all g5 (n := 2) rfl, st6, res_cell, load_all hr6 (n := 2) rfl]
      refine ⟨(q14.trans q5).set (Nat.le_refl _) _, lo5.set (lo5 _ _ gp5) _, some ⟨s, (w4 : Int)⟩, ⟨hw, ?_⟩, rfl⟩
      rw [(leaf_tells hw).1]
      show [0, s.length * 256, dig (blk (nat8 s) 0), dig (blk (nat8 s) 1), ((w4 : Int)).toNat, 0, 0, 0] = _
      rw [hd0, hd1, hsl, Int.toNat_natCast, c0, z5, z6, z7, show w1 / 256 * 256 = w1 by omega]
    · have hw' : rightL ⟨s, (w4 : Int)⟩ = false := by simpa using hw
      have st6 := lz_set (s := []) (V := 0) gp5 rfl
      have hr6 : (h5.set h.next (.cells [.str [], .int .i64 0] true)).get h.next = some (.cells [.str [], .int .i64 0] true) := get_set_same
      simp only [vms, vmc, AOpd.val, Nat.reduceEqDiff, reduceCtorEq, Nat.reduceAdd, Nat.reduceBEq, hw', Bool.not_false, fill2, st6, res_cell, load_all hr6 (n := 2) rfl]
      refine ⟨(q14.trans q5).set (Nat.le_refl _) _, lo5.set (lo5 _ _ gp5) _, none, fun l hr e => hw ?_, rfl⟩
      obtain ⟨_, e1, e4, _, _, _, hb, h13, v0, v1⟩ := tells8 hr e
      rw [e1, show l.key.length * 256 / 256 = l.key.length by omega, hb] at hse
      have hs : l.key = s := congrArg Prod.fst hse
      have hle : (⟨s, (w4 : Int)⟩ : LeafP) = l := by rw [← hs, e4, Int.toNat_of_nonneg v0]
      rw [hle]; exact hr
  · have d6 : (e != 0) = true := by simpa using he
    have st6 := lz_set (s := []) (V := 0) gp4 rfl
    have hr6 : (h4.set h.next (.cells [.str [], .int .i64 0] true)).get h.next = some (.cells [.str [], .int .i64 0] true) := get_set_same
    simp only [vms, vmc, AOpd.val, Nat.reduceEqDiff, reduceCtorEq, Nat.reduceAdd, Nat.reduceBEq, d6, fill2, st6, res_cell, load_all hr6 (n := 2) rfl]
    refine ⟨q14.set (Nat.le_refl _) _, lo4.set (lo4 _ _ gp4) _, none, fun l hr e' => he ?_, rfl⟩
    obtain ⟨_, e1, e4, _, _, _, hb, h13, v0, v1⟩ := tells8 hr e'
    rw [e1, show l.key.length * 256 / 256 = l.key.length by omega, hb] at hse
    exact (congrArg Prod.snd hse).symm
end Go.Proofs.Ytpabmkicdcilpaa

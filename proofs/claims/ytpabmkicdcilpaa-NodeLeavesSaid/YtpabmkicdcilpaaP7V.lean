/- A leaf out of words: DecodeLeaf, by both. -/
import Derived.Test.YtpabmkicdcilpaaP7U
namespace Go.Proofs.Ytpabmkicdcilpaa
open Go.Vm
set_option linter.unusedSimpArgs false
set_option linter.unusedVariables false
set_option maxRecDepth 100000
variable {T : Vm.Prog} {h : AH}
theorem andNot_w {a b : Nat} (ha : a < 18446744073709551616) (hb : b < 18446744073709551616) : binV .andNot (.int .u64 (a : Int)) (.int .u64 (b : Int)) = some (.int .u64 ((a &&& (18446744073709551615 - b) : Nat) : Int)) := by
  have hab : a &&& (18446744073709551615 - b) < 18446744073709551616 := Nat.lt_of_le_of_lt Nat.and_le_left ha
  show some (AV.int .u64 (IntKind.u64.wrap ((BitVec.ofInt 64 (a : Int) &&& ~~~(BitVec.ofInt 64 (b : Int))).toNat : Int))) = _
  rw [BitVec.toNat_and, BitVec.toNat_not, BitVec.ofInt_natCast, BitVec.ofInt_natCast, BitVec.toNat_ofNat, BitVec.toNat_ofNat, Nat.mod_eq_of_lt (show a < 2 ^ 64 by omega), Nat.mod_eq_of_lt (show b < 2 ^ 64 by omega),
    show (2 : Nat) ^ 64 - 1 - b = 18446744073709551615 - b by omega, wrap_u64 hab]
theorem andNot_zero {x : Nat} (hx : x < 18446744073709551616) : x &&& (18446744073709551615 - 65280) = 0 ↔ x % 256 = 0 ∧ x < 65536 := by
  have h1 : (x &&& (18446744073709551615 - 65280)) % 2 ^ 8 = x % 2 ^ 8 &&& (18446744073709551615 - 65280) % 2 ^ 8 := Nat.and_mod_two_pow
  have h2 : (x &&& (18446744073709551615 - 65280)) / 2 ^ 16 = x / 2 ^ 16 &&& (18446744073709551615 - 65280) / 2 ^ 16 := Nat.and_div_two_pow
  have h3 : (x &&& (18446744073709551615 - 65280)) / 2 ^ 8 = x / 2 ^ 8 &&& (18446744073709551615 - 65280) / 2 ^ 8 := Nat.and_div_two_pow
  have h4 : (x / 2 ^ 8 &&& (18446744073709551615 - 65280) / 2 ^ 8) % 2 ^ 8 = x / 2 ^ 8 % 2 ^ 8 &&& (18446744073709551615 - 65280) / 2 ^ 8 % 2 ^ 8 := Nat.and_mod_two_pow
  rw [show (18446744073709551615 - 65280) % 2 ^ 8 = 2 ^ 8 - 1 by decide, Nat.and_two_pow_sub_one_eq_mod, Nat.mod_mod] at h1
  rw [show (18446744073709551615 - 65280) / 2 ^ 16 = 2 ^ 48 - 1 by decide, Nat.and_two_pow_sub_one_eq_mod] at h2
  rw [show (18446744073709551615 - 65280) / 2 ^ 8 % 2 ^ 8 = 0 by decide, Nat.and_zero, ← h3] at h4
  generalize (x &&& (18446744073709551615 - 65280)) = z at *
  simp only [show (2 : Nat) ^ 8 = 256 from rfl, show (2 : Nat) ^ 16 = 65536 from rfl, show (2 : Nat) ^ 48 = 281474976710656 from rfl] at h1 h2 h4
  omega
/-- Eight words. -/
def W8 (h : AH) (v : AV) (ws : List Nat) : Prop := ∃ o cap ex l b, v = .slice o 0 1 8 cap ex ∧ 8 ≤ cap ∧ h.get o = some (.cells l b) ∧ ws.length = 8 ∧ 8 ≤ l.length ∧ ∀ (i : Nat) (x : AV), (wcells ws)[i]? = some x → l[i]? = some x
variable {v : AV} {ws : List Nat}
theorem W8.sees (w : W8 h v ws) : Sees h v (wcells ws) := by
  obtain ⟨o, cap, ex, l, b, rfl, hc, hg, hl, hll, hx⟩ := w
  refine .inr ⟨o, 0, cap, ex, l, b, by simp [wcells, hl], hg, by rw [wcells_len]; omega, fun i x h => by rw [Nat.zero_add]; exact hx i x h⟩
theorem W8.len (w : W8 h v ws) : lenOfV v = some 8 := by
  obtain ⟨o, cap, ex, l, b, rfl, hc, hg, hl, hll, hx⟩ := w; rfl
theorem W8.eight (w : W8 h v ws) : ws.length = 8 := by
  obtain ⟨o, cap, ex, l, b, rfl, hc, hg, hl, hll, hx⟩ := w; exact hl
theorem W8.quiet (w : W8 h v ws) (hl : Low h) {h' : AH} (q : Quiet h h') : W8 h' v ws := by
  obtain ⟨o, cap, ex, l, b, rfl, hc, hg, hl2, hll, hx⟩ := w
  exact ⟨o, cap, ex, l, b, rfl, hc, q.get hg (hl _ _ hg), hl2, hll, hx⟩
theorem W8.row (r : Row1 h v (wcells ws)) (hl : ws.length = 8) : W8 h v ws := by
  rcases r with ⟨rfl, he⟩ | ⟨o, cap, ex, l, rfl, hg, h1, h2, h3⟩
  · exfalso
    have : ws = [] := by cases ws with
      | nil => rfl
      | cons a r => simp [wcells] at he
    subst this; cases hl
  · have e8 : ((wcells ws).map fun x => [x]).length = 8 := by simp [wcells, hl]
    refine ⟨o, cap, ex, l, true, by rw [e8], by omega, hg, hl, by omega, Row1.get h3⟩
theorem slc24c {o cap : Nat} {ex : Bool} (hc : 8 ≤ cap) : slcV 1 (.slice o 0 1 8 cap ex) (some (.int .i64 2)) (some (.int .i64 4)) none = some (.slice o 2 1 2 (cap - 2) ex) := by
  have : ¬ cap = 2 := by omega
  have h4 : 4 ≤ cap := by omega
  simp [slcV, bounds, boundM, boundH, boundL, natOf, Option.filter, this, h4]
theorem W8.at (w : W8 h v ws) {i x : Nat} (hx : ws[i]? = some x) : ∃ p, idxAddrV 1 v (.int .i64 (i : Int)) = some p ∧ loadV h false 1 p = some (.int .u64 (x : Int)) := w.sees.at (wcells_get hx) .i64
theorem W8.mid (w : W8 h v ws) : ∃ v2, slcV 1 v (some (.int .i64 2)) (some (.int .i64 4)) none = some v2 ∧ Sees h v2 (wcells ((ws.drop 2).take 2)) := by
  obtain ⟨o, cap, ex, l, b, rfl, hc, hg, hl, hll, hx⟩ := w
  refine ⟨_, slc24c hc, .inr ⟨o, 2, cap - 2, ex, l, b, ?_, hg, ?_, fun i x h => ?_⟩⟩
  · rw [wcells_len]; simp [hl]
  · rw [wcells_len]; simp [hl]; omega
  · refine hx (2 + i) x ?_
    simp only [wcells, List.getElem?_map, List.getElem?_take, List.getElem?_drop] at h ⊢
    split at h
    · exact h
    · cases h
theorem eight {ws : List Nat} (hl : ws.length = 8) : ∃ w0 w1 w2 w3 w4 w5 w6 w7, ws = [w0, w1, w2, w3, w4, w5, w6, w7] := by
  match ws, hl with
  | [a, b, c, d, e, f, g, i], _ => exact ⟨a, b, c, d, e, f, g, i, rfl⟩
/-- What is answered. -/
def leafO : Option LeafP → List AV
  | some l => l.cells
  | none => [.str [], .int .i64 0]
theorem lz_set {g : AH} {q : Nat} {l : List AV} {s : List UInt8} {V : Int} (hz : g.get q = some (.cells l true)) (hl : l.length = 2) : storeV g 2 (.ptr q 0) (.agg [.str s, .int .i64 V]) = some (g.set q (.cells [.str s, .int .i64 V] true)) := store_all hz hl rfl rfl
theorem fill2 : fillV [AV.str [], .int .i64 0] [] = some [AV.str [], .int .i64 0] := rfl
theorem fillL (s : List UInt8) (V : Int) : fillV [AV.str [], .int .i64 0] [(0, 1, .str s), (1, 1, .int .i64 V)] = some [AV.str s, .int .i64 V] := by simp [fillV, AV.isDef, AV.cells, setMany]
theorem leafE_eq {l : LeafP} {ws : List Nat} (hl : ws.length = 8) (e : leafE l = ws) : rightL l = true ∧ leafW l = ws := by
  unfold leafE at e
  split at e
  · rename_i hr; exact ⟨hr, e⟩
  · subst e; cases hl
theorem decodeLeaf_ok (k : Fits T) (hl : Low h) (w : W8 h v ws) (h64 : ∀ x ∈ ws, x < 18446744073709551616) :
    Gives T 43 [v] h fun r h' => Quiet h h' ∧ Low h' ∧ ∃ o, LeafIs ws o ∧ r = .tuple [.agg (leafO o), .bool o.isSome] := by
  refine gives_func (k.env _ (by decide)) (k.at (fn := a43) rfl) rfl ?_
  have hlen : ws.length = 8 := w.eight
  obtain ⟨w0, w1, w2, w3, w4, w5, w6, w7, rfl⟩ := eight hlen
  have b1 := h64 w1 (by simp)
  have b2 := h64 w2 (by simp)
  have b3 := h64 w3 (by simp)
  have b4 := h64 w4 (by simp)
  have q1 : Quiet h (h.new (.cells [.str [], .int .i64 0] true)) := (Quiet.refl _).new _
  have lo1 : Low (h.new (.cells [.str [], .int .i64 0] true)) := hl.new _
  have g1 : (h.new (.cells [.str [], .int .i64 0] true)).get h.next = some (.cells [.str [], .int .i64 0] true) := get_new_same
  have n1 : (h.new (.cells [.str [], .int .i64 0] true)).next = h.next + 1 := rfl
  simp only [a43, c43, vms, vmc, AOpd.val, Nat.reduceEqDiff, reduceCtorEq, Nat.reduceAdd, Nat.reduceBEq]
  generalize (h.new (.cells [.str [], .int .i64 0] true)) = h1 at *
  have w1' := w.quiet hl q1
  simp only [vms, vmc, AOpd.val, Nat.reduceEqDiff, reduceCtorEq, Nat.reduceAdd, Nat.reduceBEq, w1'.len]
  refine Gives.bind ((size_ok k (x := 0)).mono ?_)
  rintro _ _ ⟨rfl, rfl⟩
  rename_i h1
  obtain ⟨v2, sl, sv2⟩ := w1'.mid
  obtain ⟨p1, ip1, lp1⟩ := w1'.at (i := 1) (x := w1) rfl
  have ip1' : idxAddrV 1 v (.int .i64 1) = some p1 := ip1
  have hn255 : w1 / 256 % 256 < 256 := Nat.mod_lt _ (by decide)
  have wi : IntKind.i64.wrap ((w1 / 256 % 256 : Nat) : Int) = ((w1 / 256 % 256 : Nat) : Int) := wrap_i64n (by omega)
  simp only [vms, vmc, AOpd.val, Nat.reduceEqDiff, reduceCtorEq, Nat.reduceAdd, Nat.reduceBEq, show sizeP 0 = 8 from rfl, bne_self_eq_false, sl, ip1', lp1, shr8, and255 (show w1 / 256 < 18446744073709551616 by omega), wi]
  refine Gives.bind ((bytes_ok (g := 69) (k.env _ (by decide)) (k.at rfl) lo1 sv2 (by simp) (by omega) (by omega)).mono ?_)
  intro r2 h2 it
  obtain ⟨ex2, lo2, rfl⟩ := it
  have q2 := ex2.quiet
  have w2' := w1'.quiet lo1 q2
  have g2 := q2.get g1 (lo1 _ _ g1)
  obtain ⟨p4, ip4, lp4⟩ := w2'.at (i := 4) (x := w4) rfl
  have ip4' : idxAddrV 1 v (.int .i64 4) = some p4 := ip4
  have hbr : bytesR (([w0, w1, w2, w3, w4, w5, w6, w7].drop 2).take 2) ((w1 / 256 % 256 : Nat) : Int) = bytesR [w2, w3] ((w1 / 256 % 256 : Nat) : Int) := rfl
  rw [hbr]
  obtain ⟨s, e, hse⟩ : ∃ s e, bytesR [w2, w3] ((w1 / 256 % 256 : Nat) : Int) = (s, e) := ⟨_, _, rfl⟩
  rw [hse]
  obtain ⟨V, hV⟩ : ∃ V, IntKind.i64.wrap (w4 : Int) = V := ⟨_, rfl⟩
  simp only [vms, vmc, AOpd.val, Nat.reduceEqDiff, reduceCtorEq, Nat.reduceAdd, Nat.reduceBEq, ip4', lp4, hV, fillL]
  have q3 : Quiet h2 (h2.new (.cells [.str [], .int .i64 0] true)) := (Quiet.refl _).new _
  have g3 : (h2.new (.cells [.str [], .int .i64 0] true)).get h2.next = some (.cells [.str [], .int .i64 0] true) := get_new_same
  have st3 := lz_set (s := s) (V := V) g3 rfl
  have q4 : Quiet h2 ((h2.new (.cells [.str [], .int .i64 0] true)).set h2.next (.cells [.str s, .int .i64 V] true)) := q3.set (Nat.le_refl _) _
  have lo4 : Low ((h2.new (.cells [.str [], .int .i64 0] true)).set h2.next (.cells [.str s, .int .i64 V] true)) := (lo2.new _).set (by rw [next_new]; omega) _
  have g4 : ((h2.new (.cells [.str [], .int .i64 0] true)).set h2.next (.cells [.str s, .int .i64 V] true)).get h2.next = some (.cells [.str s, .int .i64 V] true) := get_set_same
  have n4 : ((h2.new (.cells [.str [], .int .i64 0] true)).set h2.next (.cells [.str s, .int .i64 V] true)).next = h2.next + 1 := rfl
  simp only [vms, vmc, AOpd.val, Nat.reduceEqDiff, reduceCtorEq, Nat.reduceAdd, Nat.reduceBEq, st3]
  obtain ⟨t, ht⟩ : ∃ t, t = h2.next := ⟨_, rfl⟩
  rw [← ht] at g4 n4 ⊢
  rw [← ht] at q4 lo4
  generalize ((h2.new (.cells [.str [], .int .i64 0] true)).set t (.cells [.str s, .int .i64 V] true)) = h4 at *
  have gp4 := q4.get g2 (lo2 _ _ g2)
  have w4' := w2'.quiet lo2 q4
  have q14 := (q1.trans q2).trans q4
  by_cases he : e = 0
  · subst he
    simp only [vms, vmc, AOpd.val, Nat.reduceEqDiff, reduceCtorEq, Nat.reduceAdd, Nat.reduceBEq, show ((0 : Int) != 0) = false from rfl, load_all g4 (n := 2) rfl]
    obtain ⟨hsl, hn16, hd0, hd1⟩ := bytes_words b2 b3 hse
    refine Gives.bind ((encLeaf_ok k lo4 (l := ⟨s, V⟩) (by show s.length < _; omega)).mono ?_)
    rintro r5 h5 ⟨q5, lo5, r5r, r5n⟩
    have w5' := w4'.quiet lo4 q5
    have g5 := q5.get g4 (lo4 _ _ g4)
    have gp5 := q5.get gp4 (lo4 _ _ gp4)
    simp only [vms, vmc, AOpd.val, Nat.reduceEqDiff, reduceCtorEq, Nat.reduceAdd, Nat.reduceBEq]
    refine Gives.bind ((equal_ok k r5r.sees w5'.sees (by unfold leafE; split <;> simp [leafW]) (by simp)).mono ?_)
    rintro _ _ ⟨rfl, rfl⟩
    rename_i h5
    by_cases hw : leafE ⟨s, V⟩ = [w0, w1, w2, w3, w4, w5, w6, w7]
    · have d1 : decide (leafE ⟨s, V⟩ = [w0, w1, w2, w3, w4, w5, w6, w7]) = true := by simpa using hw
      have st6 := lz_set (s := s) (V := V) gp5 rfl
      have hr6 : (h5.set h.next (.cells [.str s, .int .i64 V] true)).get h.next = some (.cells [.str s, .int .i64 V] true) := get_set_same
      simp only [vms, vmc, AOpd.val, Nat.reduceEqDiff, reduceCtorEq, Nat.reduceAdd, Nat.reduceBEq, d1, Bool.not_true, load_all g5 (n := 2) rfl, st6, res_cell, load_all hr6 (n := 2) rfl]
      exact ⟨(q14.trans q5).set (Nat.le_refl _) _, lo5.set (lo5 _ _ gp5) _, some ⟨s, V⟩, leafE_eq rfl hw, rfl⟩
    · have d1 : decide (leafE ⟨s, V⟩ = [w0, w1, w2, w3, w4, w5, w6, w7]) = false := by simpa using hw
      have st6 := lz_set (s := []) (V := 0) gp5 rfl
      have hr6 : (h5.set h.next (.cells [.str [], .int .i64 0] true)).get h.next = some (.cells [.str [], .int .i64 0] true) := get_set_same
      simp only [vms, vmc, AOpd.val, Nat.reduceEqDiff, reduceCtorEq, Nat.reduceAdd, Nat.reduceBEq, d1, Bool.not_false, fill2, st6, res_cell, load_all hr6 (n := 2) rfl]
      refine ⟨(q14.trans q5).set (Nat.le_refl _) _, lo5.set (lo5 _ _ gp5) _, none, fun l hr hlw => hw ?_, rfl⟩
      obtain ⟨ht1, ht2⟩ := leaf_tells hr
      obtain ⟨h13, hv0, hv1⟩ := right_len hr
      rw [hlw] at ht1
      simp only [List.cons.injEq, and_true] at ht1
      obtain ⟨e0, e1, e2, e3, e4, e5, e6, e7⟩ := ht1
      rw [e1, show l.key.length * 256 / 256 % 256 = l.key.length by omega, e2, e3, ht2] at hse
      have hs : l.key = s := congrArg Prod.fst hse
      have hVv : V = l.val := by rw [← hV, e4, Int.toNat_of_nonneg hv0]; exact wrap_i64 (by omega) (by omega)
      have hle : (⟨s, V⟩ : LeafP) = l := by rw [← hs, hVv]
      rw [hle]; unfold leafE; rw [if_pos hr]; exact hlw
  · have d0 : (e != 0) = true := by simpa using he
    have st6 := lz_set (s := []) (V := 0) gp4 rfl
    have hr6 : (h4.set h.next (.cells [.str [], .int .i64 0] true)).get h.next = some (.cells [.str [], .int .i64 0] true) := get_set_same
    simp only [vms, vmc, AOpd.val, Nat.reduceEqDiff, reduceCtorEq, Nat.reduceAdd, Nat.reduceBEq, d0, fill2, st6, res_cell, load_all hr6 (n := 2) rfl]
    refine ⟨q14.set (Nat.le_refl _) _, lo4.set (lo4 _ _ gp4) _, none, fun l hr hlw => he ?_, rfl⟩
    obtain ⟨ht1, ht2⟩ := leaf_tells hr
    obtain ⟨h13, hv0, hv1⟩ := right_len hr
    rw [hlw] at ht1
    simp only [List.cons.injEq, and_true] at ht1
    obtain ⟨e0, e1, e2, e3, e4, e5, e6, e7⟩ := ht1
    rw [e1, show l.key.length * 256 / 256 % 256 = l.key.length by omega, e2, e3, ht2] at hse
    exact (congrArg Prod.snd hse).symm
end Go.Proofs.Ytpabmkicdcilpaa

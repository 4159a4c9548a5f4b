/- The reference's Decode: the whole. -/
import Derived.Test.YtpabmkicdcilpaaP7NodeK
import Derived.Test.YtpabmkicdcilpaaP7NodeJ
namespace Go.Proofs.Ytpabmkicdcilpaa
open Go.Vm
set_option linter.unusedSimpArgs false
set_option linter.unusedVariables false
set_option maxRecDepth 100000
variable {T : Vm.Prog} {h : AH}
set_option maxHeartbeats 1600000 in
theorem refDecode_ok (k : Fits T) (hl : Low h) {v : AV} {w : List Nat} (s : Sees h v (wcells w)) (hc : capOk v) (hw : ∀ x ∈ w, x < 18446744073709551616) (hwl : w.length < 1000000) :
    Gives T 51 [v] h (IsDec w h) := by
  refine gives_func (k.env _ (by decide)) (k.at (fn := a51) rfl) rfl ?_
  have bz : fillV [AV.int .i64 0, .int .u64 0, .str [], .nilSlice, .nilSlice] [] = some [AV.int .i64 0, .int .u64 0, .str [], .nilSlice, .nilSlice] := rfl
  obtain ⟨h1, e1⟩ : ∃ g, g = h.new (.cells zl true) := ⟨_, rfl⟩
  have q1 : Quiet h h1 := by rw [e1]; exact (Quiet.refl _).new _
  have lo1 : Low h1 := by rw [e1]; exact hl.new _
  have hz1 : h1.get h.next = some (.cells zl true) := by rw [e1]; exact get_new_same
  have nx1 : h1.next = h.next + 1 := by rw [e1]; rfl
  have ezl : ∀ g : AH, g.new (.cells [.int .i64 0, .int .u64 0, .str [], .nilSlice, .nilSlice] true) = g.new (.cells zl true) := fun _ => rfl
  have s1 := sees_keep s hl q1
  have ln := sees_words s
  have stz : ∀ {g : AH}, g.get h.next = some (.cells zl true) → storeV g 5 (.ptr h.next 0) (.agg [.int .i64 0, .int .u64 0, .str [], .nilSlice, .nilSlice]) = some (g.set h.next (.cells zl true)) := fun hz => store_all (n := 5) (l' := zl) hz rfl rfl rfl
  have ldz : ∀ {g : AH}, loadV (g.set h.next (.cells zl true)) true 5 (.ptr h.next 0) = some (.agg zl) := fun {g} => load_all get_set_same (n := 5) rfl
  have no : ∀ {g : AH}, Quiet h g → Low g → g.get h.next = some (.cells zl true) → (∀ N, ¬ Src w N) → IsDec w h (.tuple [.agg zl, .bool false]) (g.set h.next (.cells zl true)) := fun q lo hz hn => ⟨q.set (Nat.le_refl _) _, lo.set (lo _ _ hz) _, .inr ⟨rfl, hn⟩⟩
  simp only [a51]
  rw [c51_eq]
  simp only [c7Put, c51, vms, vmc, AOpd.val, Nat.reduceEqDiff, reduceCtorEq, Nat.reduceAdd, Nat.reduceBEq, ezl, ln, ← e1]
  clear e1
  by_cases h4 : w.length < 4
  · have d1 : decide ((w.length : Int) < 4) = true := by rw [decide_eq_true_eq]; omega
    simp only [vms, vmc, AOpd.val, Nat.reduceEqDiff, reduceCtorEq, Nat.reduceAdd, Nat.reduceBEq, d1, bz, stz hz1, res_cell, ldz]
    refine no q1 lo1 hz1 fun N sN => ?_
    have := sN.len
    have h5 : 4 ≤ sizeP N.kind := by rcases sN.right.kinds with e | e | e | e <;> rw [e] <;> decide
    omega
  have d1 : decide ((w.length : Int) < 4) = false := by rw [decide_eq_false_iff_not]; omega
  obtain ⟨x1, hx1⟩ : ∃ x, w[1]? = some x := ⟨_, List.getElem?_eq_getElem (by omega)⟩
  obtain ⟨x0, hx0⟩ : ∃ x, w[0]? = some x := ⟨_, List.getElem?_eq_getElem (by omega)⟩
  have hb1 := hw x1 (List.mem_of_getElem? hx1)
  have hb0 := hw x0 (List.mem_of_getElem? hx0)
  obtain ⟨a1, ha1, ha2⟩ := s1.word hx1 .i64
  have ha1' : idxAddrV 1 v (.int .i64 1) = some a1 := ha1
  obtain ⟨a0, hc1, hc2⟩ := s1.word hx0 .i64
  have hc1' : idxAddrV 1 v (.int .i64 0) = some a0 := hc1
  have b1 : x1 / 256 < 18446744073709551616 := by omega
  have b2 : x1 / 65536 < 18446744073709551616 := by omega
  have e1 : IntKind.i64.wrap ((x1 % 256 : Nat) : Int) = ((x1 % 256 : Nat) : Int) := wrap_i64 (by omega) (by omega)
  have e2 : IntKind.i64.wrap ((x1 / 256 % 256 : Nat) : Int) = ((x1 / 256 % 256 : Nat) : Int) := wrap_i64 (by omega) (by omega)
  have e3 : IntKind.i64.wrap ((x1 / 65536 % 65536 : Nat) : Int) = ((x1 / 65536 % 65536 : Nat) : Int) := wrap_i64 (by omega) (by omega)
  have hd : ∀ N, Src w N → N.kind = ((x1 % 256 : Nat) : Int) ∧ N.word = x0 ∧ N.pre.length = x1 / 256 % 256 ∧ N.keys.length = x1 / 65536 % 65536 := fun N sN => by
    obtain ⟨g0, g1, g2, g3, g4, g5⟩ := sN.hd
    rw [hx0] at g0; rw [hx1] at g1
    cases g0; cases g1
    exact ⟨by rw [g2]; exact g5.symm, rfl, g3.symm, g4.symm⟩
  have i1 : ∀ k n, AV.isDef (.int k n) = true := fun _ _ => rfl
  have i3 : ∀ k n, (AV.int k n).cells = [.int k n] := fun _ _ => rfl
  have bf : fillV [AV.int .i64 0, .int .u64 0, .str [], .nilSlice, .nilSlice] [(0, 1, .int .i64 ((x1 % 256 : Nat) : Int)), (1, 1, .int .u64 (x0 : Int))] = some [.int .i64 ((x1 % 256 : Nat) : Int), .int .u64 (x0 : Int), .str [], .nilSlice, .nilSlice] := by
    simp [fillV, i1, i3, setMany]
  have q2 : Quiet h1 (h1.new (.cells zl true)) := (Quiet.refl _).new _
  have lo2 := lo1.new (.cells zl true)
  have s2 := sees_keep s1 lo1 q2
  obtain ⟨a1', g1, g2⟩ := s2.word hx1 .i64
  obtain rfl : a1 = a1' := Option.some.inj (ha1.symm.trans g1)
  obtain ⟨a0', g3, g4⟩ := s2.word hx0 .i64
  obtain rfl : a0 = a0' := Option.some.inj (hc1.symm.trans g3)
  have z4 : (h1.new (.cells zl true)).get h1.next = some (.cells zl true) := get_new_same
  simp only [vms, vmc, AOpd.val, Nat.reduceEqDiff, reduceCtorEq, Nat.reduceAdd, Nat.reduceBEq, d1, ha1', ha2, and255 hb1, toInt_int, e1, hc1', hc2, bf, ezl]
  rw [items_look (look_load (v := .int .u64 (x1 : Int)) (by show loadV _ _ _ (Fr.at _ _) = _; simp only [vms, vmc, AOpd.val, Nat.reduceEqDiff, reduceCtorEq, Nat.reduceAdd, Nat.reduceBEq]; exact g2) (by simp only [vms, vmc, AOpd.val, Nat.reduceEqDiff, reduceCtorEq, Nat.reduceAdd, Nat.reduceBEq]) (by simp [AV.beq])),
    items_look (look_load (v := .int .u64 (x0 : Int)) (by show loadV _ _ _ (Fr.at _ _) = _; simp only [vms, vmc, AOpd.val, Nat.reduceEqDiff, reduceCtorEq, Nat.reduceAdd, Nat.reduceBEq]; exact g4) (by simp only [vms, vmc, AOpd.val, Nat.reduceEqDiff, reduceCtorEq, Nat.reduceAdd, Nat.reduceBEq]) (by simp [AV.beq])),
    items_look (look_new5 (q := h1.next) (by simp only [vms, vmc, AOpd.val, Nat.reduceEqDiff, reduceCtorEq, Nat.reduceAdd, Nat.reduceBEq]) z4)]
  generalize hkd : ((x1 % 256 : Nat) : Int) = kd at *
  have hkd0 : 0 ≤ kd ∧ kd < 256 := by omega
  have st4 : storeV (h1.new (.cells zl true)) 5 (.ptr h1.next 0) (.agg [.int .i64 kd, .int .u64 (x0 : Int), .str [], .nilSlice, .nilSlice]) = some ((h1.new (.cells zl true)).set h1.next (.cells [.int .i64 kd, .int .u64 (x0 : Int), .str [], .nilSlice, .nilSlice] true)) := store_all (n := 5) (l' := [.int .i64 kd, .int .u64 (x0 : Int), .str [], .nilSlice, .nilSlice]) z4 rfl rfl rfl
  simp only [vms, vmc, AOpd.val, Nat.reduceEqDiff, reduceCtorEq, Nat.reduceAdd, Nat.reduceBEq, st4]
  have q3 : Quiet h1 ((h1.new (.cells zl true)).set h1.next (.cells [.int .i64 kd, .int .u64 (x0 : Int), .str [], .nilSlice, .nilSlice] true)) := q2.set (Nat.le_refl _) _
  have lo3 : Low ((h1.new (.cells zl true)).set h1.next (.cells [.int .i64 kd, .int .u64 (x0 : Int), .str [], .nilSlice, .nilSlice] true)) := lo2.set (by rw [next_new]; omega) _
  have gp3 : ((h1.new (.cells zl true)).set h1.next (.cells [.int .i64 kd, .int .u64 (x0 : Int), .str [], .nilSlice, .nilSlice] true)).get h1.next = some (.cells [.int .i64 kd, .int .u64 (x0 : Int), .str [], .nilSlice, .nilSlice] true) := get_set_same
  generalize ((h1.new (.cells zl true)).set h1.next (.cells [.int .i64 kd, .int .u64 (x0 : Int), .str [], .nilSlice, .nilSlice] true)) = h3 at *
  have q03 := q1.trans q3
  have hz3 := q3.get hz1 (lo1 _ _ hz1)
  have s3 := sees_keep s hl q03
  obtain ⟨a1', g5, g6⟩ := s3.word hx1 .i64
  obtain rfl : a1 = a1' := Option.some.inj (ha1.symm.trans g5)
  have fa : ∀ j, fieldAddrV j (.ptr h1.next 0) = some (.ptr h1.next (0 + j)) := fun j => rfl
  have l0 := load_at gp3 (i := 0) (v := .int .i64 kd) rfl
  generalize hsz : x1 / 256 % 256 = size at *
  generalize hn : x1 / 65536 % 65536 = many at *
  have hmany : many < 65536 := by omega
  simp only [vms, vmc, AOpd.val, Nat.reduceEqDiff, reduceCtorEq, Nat.reduceAdd, Nat.reduceBEq, ha1', g6, shr16, and65535 b2, hn, toInt_int, e3, fa, Nat.zero_add, l0]
  have nokind : ¬ (kd = 1 ∨ kd = 2 ∨ kd = 3 ∨ kd = 4) → ∀ N, ¬ Src w N := fun hh N sN => hh (by rw [← (hd N sN).1]; exact sN.right.kinds)
  by_cases hlow : kd < 1
  · simp only [vms, vmc, AOpd.val, Nat.reduceEqDiff, reduceCtorEq, Nat.reduceAdd, Nat.reduceBEq, decide_eq_true hlow, bz, stz hz3, res_cell, ldz]
    exact no q03 lo3 hz3 (nokind (by omega))
  simp only [vms, vmc, AOpd.val, Nat.reduceEqDiff, reduceCtorEq, Nat.reduceAdd, Nat.reduceBEq, decide_eq_false hlow, fa, Nat.zero_add, l0]
  by_cases hbig : kd > 4
  · simp only [vms, vmc, AOpd.val, Nat.reduceEqDiff, reduceCtorEq, Nat.reduceAdd, Nat.reduceBEq, decide_eq_true hbig, bz, stz hz3, res_cell, ldz]
    exact no q03 lo3 hz3 (nokind (by omega))
  have h4k : kd = 1 ∨ kd = 2 ∨ kd = 3 ∨ kd = 4 := by omega
  simp only [vms, vmc, AOpd.val, Nat.reduceEqDiff, reduceCtorEq, Nat.reduceAdd, Nat.reduceBEq, decide_eq_false hbig, ln, fa, Nat.zero_add, l0]
  refine Gives.bind ((size71_ok k).mono ?_)
  rintro _ _ ⟨rfl, rfl⟩
  rename_i h3
  by_cases hlen : w.length = sizeP kd
  case neg =>
    have d3 : ((w.length : Int) != (sizeP kd : Int)) = true := by simp; omega
    simp only [vms, vmc, AOpd.val, Nat.reduceEqDiff, reduceCtorEq, Nat.reduceAdd, Nat.reduceBEq, d3, bz, stz hz3, res_cell, ldz]
    exact no q03 lo3 hz3 fun N sN => hlen (by rw [sN.len, (hd N sN).1])
  have d3 : ((w.length : Int) != (sizeP kd : Int)) = false := by rw [hlen]; simp
  obtain ⟨sv, j1, j2⟩ := sees_mid s3 hc (a := 2) (b := 4) (by omega) (by rw [wcells_len]; omega)
  have j1' : slcV 1 v (some (.int .i64 2)) (some (.int .i64 4)) none = some sv := j1
  rw [wcells_sub] at j2
  simp only [vms, vmc, AOpd.val, Nat.reduceEqDiff, reduceCtorEq, Nat.reduceAdd, Nat.reduceBEq, d3, j1', ha1', g6, shr8, and255 b1, hsz, toInt_int, e2]
  refine Gives.bind ((bytes_ref (k.env 72 (by decide)) (k.at (n := 72) (fn := aRBytes) rfl) (n := (size : Int)) lo3 j2 (by simp; omega) (fun x hx => hw x (List.mem_of_mem_drop (List.mem_of_mem_take hx))) (by omega) (by omega)).mono ?_)
  rintro _ h5 ⟨ex, lo5, rfl⟩
  have q5 := q03.trans ex.quiet
  have hz5 := ex.quiet.get hz3 (lo3 _ _ hz3)
  have gp5 := ex.quiet.get gp3 (lo3 _ _ gp3)
  have txt : ∀ N, Src w N → bytesR ((w.drop 2).take (4 - 2)) (size : Int) = (N.pre, 0) := fun N sN => by rw [← (hd N sN).2.2.1]; exact sN.text
  have tl : (bytesR ((w.drop 2).take (4 - 2)) (size : Int)).1.length < 1000000 := by
    unfold bytesR
    split
    · simp
    · split
      · simp only [strB_len]; omega
      · simp
  generalize hT : bytesR ((w.drop 2).take (4 - 2)) (size : Int) = t at *
  by_cases he : t.2 = 0
  case neg =>
    have d5 : (t.2 != 0) = true := by simp [he]
    simp only [vms, vmc, AOpd.val, Nat.reduceEqDiff, reduceCtorEq, Nat.reduceAdd, Nat.reduceBEq, d5, bz, stz hz5, res_cell, ldz]
    exact no q5 lo5 hz5 fun N sN => he (by rw [txt N sN])
  have d5 : (t.2 != 0) = false := by simp [he]
  have st2 : storeV h5 1 (.ptr h1.next 2) (.str t.1) = some (h5.set h1.next (.cells [.int .i64 kd, .int .u64 (x0 : Int), .str t.1, .nilSlice, .nilSlice] true)) := store_str gp5 (by simp)
  have lo6 : Low (h5.set h1.next (.cells [.int .i64 kd, .int .u64 (x0 : Int), .str t.1, .nilSlice, .nilSlice] true)) := lo5.set (lo5 _ _ gp5) _
  have q6 : Quiet h (h5.set h1.next (.cells [.int .i64 kd, .int .u64 (x0 : Int), .str t.1, .nilSlice, .nilSlice] true)) := q5.set (by omega) _
  have gp6 : (h5.set h1.next (.cells [.int .i64 kd, .int .u64 (x0 : Int), .str t.1, .nilSlice, .nilSlice] true)).get h1.next = some (.cells [.int .i64 kd, .int .u64 (x0 : Int), .str t.1, .nilSlice, .nilSlice] true) := get_set_same
  have hz6 : (h5.set h1.next (.cells [.int .i64 kd, .int .u64 (x0 : Int), .str t.1, .nilSlice, .nilSlice] true)).get h.next = some (.cells zl true) := by rw [AH.get_set, if_neg (by omega)]; exact hz5
  have n5 := lo5 _ _ gp5
  simp only [vms, vmc, AOpd.val, Nat.reduceEqDiff, reduceCtorEq, Nat.reduceAdd, Nat.reduceBEq, d5, fa, Nat.zero_add, st2]
  have nx6 : (h5.set h1.next (.cells [.int .i64 kd, .int .u64 (x0 : Int), .str t.1, .nilSlice, .nilSlice] true)).next = h5.next := rfl
  generalize (h5.set h1.next (.cells [.int .i64 kd, .int .u64 (x0 : Int), .str t.1, .nilSlice, .nilSlice] true)) = h6 at *
  have s6 := sees_keep s hl q6
  have l6 := load_at gp6 (i := 0) (v := .int .i64 kd) rfl
  simp only [vms, vmc, AOpd.val, Nat.reduceEqDiff, reduceCtorEq, Nat.reduceAdd, Nat.reduceBEq, fa, Nat.zero_add, l6]
  refine Gives.bind ((refParts_ok k lo6 s6 h4k hlen hw (by omega)).mono ?_)
  rintro _ h7 ⟨kv, iv, L, K, rfl, tw, hL256, hLl, hKl, hsrc⟩
  have gp7 := tw.quiet.get gp6 (by omega)
  have hz7 := tw.quiet.get hz6 (lo6 _ _ hz6)
  have ck := sees_cell tw.rk.sees
  have ci := sees_cell tw.ri.sees
  have st3 : storeV h7 1 (.ptr h1.next 3) kv = some (h7.set h1.next (.cells [.int .i64 kd, .int .u64 (x0 : Int), .str t.1, kv, .nilSlice] true)) := store_at gp7 (by simp) ck.1 ck.2
  have st5 : storeV (h7.set h1.next (.cells [.int .i64 kd, .int .u64 (x0 : Int), .str t.1, kv, .nilSlice] true)) 1 (.ptr h1.next 4) iv = some ((h7.set h1.next (.cells [.int .i64 kd, .int .u64 (x0 : Int), .str t.1, kv, .nilSlice] true)).set h1.next (.cells [.int .i64 kd, .int .u64 (x0 : Int), .str t.1, kv, iv] true)) := store_at get_set_same (by simp) ci.1 ci.2
  have kf : ∀ o ∈ objs kv, h1.next < o := fun o ho => by have := tw.fk o ho; omega
  have if' : ∀ o ∈ objs iv, h1.next < o := fun o ho => by have := tw.fi o ho; omega
  simp only [vms, vmc, AOpd.val, Nat.reduceEqDiff, reduceCtorEq, Nat.reduceAdd, Nat.reduceBEq, fa, Nat.zero_add, st3, st5]
  refine refDec_end k hl (p := h1.next) (kv := kv) (iv := iv) (L := L) (K := K) (wd := x0) (pre := t.1) s hlen h4k hLl hKl hL256 hb0 tl (((q6.trans tw.quiet).set (by omega) _).set (by omega) _) ((tw.low.set (tw.low _ _ gp7) _).set (tw.low _ _ gp7) _) ?_ (by omega) get_set_same ?_ ?_ (fun hm => by have := kf _ hm; omega) (fun hm => by have := if' _ hm; omega) (fun N sN => ?_) ?_ ?_ ?_
  · rw [AH.get_set, if_neg (by omega), AH.get_set, if_neg (by omega)]; exact hz7
  · exact sees_set (sees_set tw.rk.sees (fun hm => by have := kf _ hm; omega) _) (fun hm => by have := kf _ hm; omega) _
  · exact sees_set (sees_set tw.ri.sees (fun hm => by have := if' _ hm; omega) _) (fun hm => by have := if' _ hm; omega) _
  · obtain ⟨f1, f2, f3, f4⟩ := hd N sN
    obtain ⟨f5, f6⟩ := hsrc N sN f1 f4
    exact ⟨f1, f2, by rw [txt N sN], f5.symm, f6.symm⟩
  all_goals simp only [vms, vmc, AOpd.val, Nat.reduceEqDiff, reduceCtorEq, Nat.reduceAdd, Nat.reduceBEq]
end Go.Proofs.Ytpabmkicdcilpaa
/- DecodeLeaf, both, of any words. -/
namespace Go.Proofs.Ytpabmkicdcilpaa
open Go.Vm
set_option linter.unusedSimpArgs false
set_option linter.unusedVariables false
set_option maxRecDepth 100000
variable {T : Vm.Prog} {h : AH}
def IsLeafDec (w : List Nat) (h : AH) (r : AV) (h' : AH) : Prop := Quiet h h' ∧ Low h' ∧ ∃ o, LeafIs w o ∧ r = .tuple [.agg (leafO o), .bool o.isSome]
theorem leaf_none {w : List Nat} (hl : w.length ≠ 8) : LeafIs w none := fun l hr e => hl (by rw [← e]; rfl)
theorem leafDec_ok (k : Fits T) (hl : Low h) {v : AV} {w : List Nat} (s : Sees h v (wcells w)) (hc : capOk v) (hw : ∀ x ∈ w, x < 18446744073709551616) : Gives T 43 [v] h (IsLeafDec w h) := by
  by_cases h8 : w.length = 8
  · exact decodeLeaf_ok k hl ⟨s, hc, h8⟩ hw
  refine gives_func (k.env _ (by decide)) (k.at (fn := a43) rfl) rfl ?_
  have ln := sees_words s
  have q1 : Quiet h (h.new (.cells [.str [], .int .i64 0] true)) := (Quiet.refl _).new _
  have lo1 : Low (h.new (.cells [.str [], .int .i64 0] true)) := hl.new _
  have g1 : (h.new (.cells [.str [], .int .i64 0] true)).get h.next = some (.cells [.str [], .int .i64 0] true) := get_new_same
  simp only [a43, c43, vms, vmc, AOpd.val, Nat.reduceEqDiff, reduceCtorEq, Nat.reduceAdd, Nat.reduceBEq, ln]
  generalize (h.new (.cells [.str [], .int .i64 0] true)) = h1 at *
  refine Gives.bind ((size_ok k (x := 0)).mono ?_)
  rintro _ _ ⟨rfl, rfl⟩
  rename_i h1
  have e8 : ((w.length : Int) != 8) = true := by simp; omega
  have st1 := lz_set (s := []) (V := 0) g1 rfl
  have hr1 : (h1.set h.next (.cells [.str [], .int .i64 0] true)).get h.next = some (.cells [.str [], .int .i64 0] true) := get_set_same
  simp only [vms, vmc, AOpd.val, Nat.reduceEqDiff, reduceCtorEq, Nat.reduceAdd, Nat.reduceBEq, show ((sizeP 0 : Nat) : Int) = 8 from rfl, e8, fill2, st1, res_cell, load_all hr1 (n := 2) rfl]
  exact ⟨q1.set (Nat.le_refl _) _, lo1.set (lo1 _ _ g1) _, none, leaf_none h8, rfl⟩
theorem leafDecR_ok (k : Fits T) (hl : Low h) {v : AV} {w : List Nat} (s : Sees h v (wcells w)) (hc : capOk v) (hw : ∀ x ∈ w, x < 18446744073709551616) : Gives T 44 [v] h (IsLeafDec w h) := by
  by_cases h8 : w.length = 8
  · exact decodeLeaf_ref k hl ⟨s, hc, h8⟩ hw
  refine gives_func (k.env _ (by decide)) (k.at (fn := a44) rfl) rfl ?_
  have ln := sees_words s
  have q1 : Quiet h (h.new (.cells [.str [], .int .i64 0] true)) := (Quiet.refl _).new _
  have lo1 : Low (h.new (.cells [.str [], .int .i64 0] true)) := hl.new _
  have g1 : (h.new (.cells [.str [], .int .i64 0] true)).get h.next = some (.cells [.str [], .int .i64 0] true) := get_new_same
  simp only [a44, c44, vms, vmc, AOpd.val, Nat.reduceEqDiff, reduceCtorEq, Nat.reduceAdd, Nat.reduceBEq, ln]
  generalize (h.new (.cells [.str [], .int .i64 0] true)) = h1 at *
  refine Gives.bind ((size0_ref k).mono ?_)
  rintro _ _ ⟨rfl, rfl⟩
  rename_i h1
  have e8 : ((w.length : Int) != 8) = true := by simp; omega
  have st1 := lz_set (s := []) (V := 0) g1 rfl
  have hr1 : (h1.set h.next (.cells [.str [], .int .i64 0] true)).get h.next = some (.cells [.str [], .int .i64 0] true) := get_set_same
  simp only [vms, vmc, AOpd.val, Nat.reduceEqDiff, reduceCtorEq, Nat.reduceAdd, Nat.reduceBEq, e8, fill2, st1, res_cell, load_all hr1 (n := 2) rfl]
  exact ⟨q1.set (Nat.le_refl _) _, lo1.set (lo1 _ _ g1) _, none, leaf_none h8, rfl⟩
end Go.Proofs.Ytpabmkicdcilpaa
/- NodeReads: the four answers. -/
namespace Go.Proofs.Ytpabmkicdcilpaa
open Go.Vm
set_option linter.unusedSimpArgs false
set_option linter.unusedVariables false
set_option maxRecDepth 100000
variable {T : Vm.Prog} {h : AH}
def c14m : ACode := c7Tail 4 c14
/-- What a decoder says, as a node and a bool. -/
theorem IsDec.shown {w : List Nat} {h' : AH} {r : AV} (d : IsDec w h r h') : ∃ kv iv n ok, r = .tuple [.agg (n.cells kv iv), .bool ok] ∧ Sees h' kv (kcells n.keys) ∧ Sees h' iv (icells n.kids) ∧ n.Ok ∧ ((ok = true ∧ Src w n ∧ ∀ N, Src w N → N = n) ∨ (ok = false ∧ n = ⟨0, 0, [], [], []⟩ ∧ ∀ N, ¬ Src w N)) := by
  obtain ⟨_, _, ⟨nv, n, rfl, ⟨kv, iv, rfl, s1, s2⟩, sN, u⟩ | ⟨rfl, no⟩⟩ := d
  · exact ⟨kv, iv, n, true, rfl, s1, s2, sN.ok, .inl ⟨rfl, sN, u⟩⟩
  · exact ⟨.nilSlice, .nilSlice, ⟨0, 0, [], [], []⟩, false, rfl, .inl ⟨rfl, rfl⟩, .inl ⟨rfl, rfl⟩, ⟨by decide, by decide, by decide, by decide⟩, .inr ⟨rfl, rfl, no⟩⟩
theorem leafO_cells (o : Option LeafP) : ∃ l : LeafP, leafO o = l.cells ∧ l = (o.getD ⟨[], 0⟩) := by
  cases o with
  | none => exact ⟨⟨[], 0⟩, rfl, rfl⟩
  | some l => exact ⟨l, rfl, rfl⟩
set_option maxHeartbeats 1600000 in
theorem reads_main (k : Fits T) (hl : Low h) {ov : AV} {w : List Nat} (s : Sees h ov (wcells w)) (hc : capOk ov) (hw : ∀ x ∈ w, x < 18446744073709551616) (hlen : w.length ≤ 300) {f : Fr} (f11 : f.at 11 = ov) : Wp (code T c14m f h) (Vm.Ends [.tmp 10] fun r _ => r = .bool true) := by
  have wl : (wcells w).length = w.length := wcells_len w
  have wfl : (wcells w).all AV.flat = true := by rw [List.all_eq_true]; intro y hy; simp only [wcells, List.mem_map] at hy; obtain ⟨x, _, rfl⟩ := hy; rfl
  simp only [c14m, c7Tail, c14, vms, vmc, AOpd.val, Nat.reduceEqDiff, reduceCtorEq, Nat.reduceAdd, Nat.reduceBEq, f11]
  refine Gives.bind ((roomy_ok (bytes := 8) (z := .int .u64 0) (k.env 50 (by decide)) (k.at (n := 50) (fn := aRoomy 8 (.int .u64 0)) rfl) (by decide) (m := .int .u64 9) hl s (by omega) wfl rfl rfl).mono ?_)
  rintro _ h1 ⟨ex, lo1, rfl, hn1, l, hg, hll, hla, hma⟩
  rw [wl] at hll hma
  have q1 := ex.quiet
  have s1 := sees_keep s hl q1
  have ln1 := sees_words s1
  have sf : Sees h1 (.slice h.next 0 1 w.length (w.length + 80) true) (wcells w) := by
    refine .inr ⟨h.next, 0, w.length + 80, true, l, some true, by rw [wl], hg, by rw [wl]; omega, fun i x hx => ?_⟩
    rw [Nat.zero_add]; exact hla i x hx
  have cf : capOk (.slice h.next 0 1 w.length (w.length + 80) true) := show w.length ≤ w.length + 80 by omega
  have hst := slc_to0 (o := h.next) (len := w.length + 80) (cap := w.length + 80) (ex := true) (show w.length ≤ w.length + 80 by omega)
  have ezl : ∀ g : AH, g.new (.cells [.int .i64 0, .int .u64 0, .str [], .nilSlice, .nilSlice] true) = g.new (.cells zl true) := fun _ => rfl
  simp only [vms, vmc, AOpd.val, Nat.reduceEqDiff, reduceCtorEq, Nat.reduceAdd, Nat.reduceBEq, f11, wl, ln1, hst]
  refine Gives.bind ((decode_ok k lo1 sf cf hw (by omega)).mono ?_)
  intro r h2 dA
  have q2 : Quiet h1 h2 := dA.1
  have lo2 := dA.2.1
  obtain ⟨kv, iv, n, ok, rfl, sk, si, oN, cA⟩ := dA.shown
  have ck := sees_cell sk
  have ci := sees_cell si
  have stA : storeV (h2.new (.cells zl true)) 5 (.ptr h2.next 0) (.agg (n.cells kv iv)) = some ((h2.new (.cells zl true)).set h2.next (.cells (n.cells kv iv) true)) :=
    store_all get_new_same rfl rfl (by simp only [NodeP.cells, List.all_cons, List.all_nil, ck.2, ci.2]; rfl)
  have q3 : Quiet h2 ((h2.new (.cells zl true)).set h2.next (.cells (n.cells kv iv) true)) := ((Quiet.refl _).new _).set (Nat.le_refl _) _
  have lo3 : Low ((h2.new (.cells zl true)).set h2.next (.cells (n.cells kv iv) true)) := (lo2.new _).set (by rw [next_new]; omega) _
  have LA : Lies ((h2.new (.cells zl true)).set h2.next (.cells (n.cells kv iv) true)) h2.next kv iv n := ⟨get_set_same, sees_keep sk lo2 q3, sees_keep si lo2 q3⟩
  simp only [vms, vmc, AOpd.val, Nat.reduceEqDiff, reduceCtorEq, Nat.reduceAdd, Nat.reduceBEq, ezl, stA]
  generalize ((h2.new (.cells zl true)).set h2.next (.cells (n.cells kv iv) true)) = h3 at *
  have q13 := q2.trans q3
  have s3 := sees_keep s1 lo1 q13
  simp only [vms, vmc, AOpd.val, Nat.reduceEqDiff, reduceCtorEq, Nat.reduceAdd, Nat.reduceBEq, f11]
  refine Gives.bind ((refDecode_ok k lo3 s3 hc hw (by omega)).mono ?_)
  intro r h4 dB
  have q4 : Quiet h3 h4 := dB.1
  have lo4 := dB.2.1
  obtain ⟨kv', iv', m, ok', rfl, sk', si', oM, cB⟩ := dB.shown
  have ck' := sees_cell sk'
  have ci' := sees_cell si'
  have stB : storeV (h4.new (.cells zl true)) 5 (.ptr h4.next 0) (.agg (m.cells kv' iv')) = some ((h4.new (.cells zl true)).set h4.next (.cells (m.cells kv' iv') true)) :=
    store_all get_new_same rfl rfl (by simp only [NodeP.cells, List.all_cons, List.all_nil, ck'.2, ci'.2]; rfl)
  have q5 : Quiet h4 ((h4.new (.cells zl true)).set h4.next (.cells (m.cells kv' iv') true)) := ((Quiet.refl _).new _).set (Nat.le_refl _) _
  have lo5 : Low ((h4.new (.cells zl true)).set h4.next (.cells (m.cells kv' iv') true)) := (lo4.new _).set (by rw [next_new]; omega) _
  have LB : Lies ((h4.new (.cells zl true)).set h4.next (.cells (m.cells kv' iv') true)) h4.next kv' iv' m := ⟨get_set_same, sees_keep sk' lo4 q5, sees_keep si' lo4 q5⟩
  simp only [vms, vmc, AOpd.val, Nat.reduceEqDiff, reduceCtorEq, Nat.reduceAdd, Nat.reduceBEq, ezl, stB]
  generalize ((h4.new (.cells zl true)).set h4.next (.cells (m.cells kv' iv') true)) = h5 at *
  have q35 := q4.trans q5
  have LA5 := LA.keep lo3 q35
  have q15 := q13.trans q35
  have sf5 := sees_keep sf lo1 q15
  have s5 := sees_keep s1 lo1 q15
  have ln5 := sees_words s5
  have both : n = m ∧ ok = ok' := by
    rcases cA with ⟨rfl, sN, u⟩ | ⟨rfl, rfl, no⟩
    · rcases cB with ⟨rfl, sM, u'⟩ | ⟨_, _, no'⟩
      · exact ⟨u' n sN, rfl⟩
      · exact absurd sN (no' n)
    · rcases cB with ⟨_, sM, _⟩ | ⟨rfl, rfl, _⟩
      · exact absurd sM (no m)
      · exact ⟨rfl, rfl⟩
  simp only [vms, vmc, AOpd.val, Nat.reduceEqDiff, reduceCtorEq, Nat.reduceAdd, Nat.reduceBEq, f11, ln5, hst]
  refine Gives.bind ((leafDec_ok k lo5 sf5 cf hw).mono ?_)
  rintro _ h6 ⟨q6, lo6, o, hoA, rfl⟩
  obtain ⟨la, ela, ela'⟩ := leafO_cells o
  rw [ela]
  have z6 : (h6.new (.cells [.str [], .int .i64 0] true)).get h6.next = some (.cells [.str [], .int .i64 0] true) := get_new_same
  have stC : storeV (h6.new (.cells [.str [], .int .i64 0] true)) 2 (.ptr h6.next 0) (.agg la.cells) = some ((h6.new (.cells [.str [], .int .i64 0] true)).set h6.next (.cells la.cells true)) := store_all z6 rfl rfl rfl
  have q7 : Quiet h6 ((h6.new (.cells [.str [], .int .i64 0] true)).set h6.next (.cells la.cells true)) := ((Quiet.refl _).new _).set (Nat.le_refl _) _
  have lo7 : Low ((h6.new (.cells [.str [], .int .i64 0] true)).set h6.next (.cells la.cells true)) := (lo6.new _).set (by rw [next_new]; omega) _
  have gC : ((h6.new (.cells [.str [], .int .i64 0] true)).set h6.next (.cells la.cells true)).get h6.next = some (.cells la.cells true) := get_set_same
  simp only [vms, vmc, AOpd.val, Nat.reduceEqDiff, reduceCtorEq, Nat.reduceAdd, Nat.reduceBEq, stC]
  generalize ((h6.new (.cells [.str [], .int .i64 0] true)).set h6.next (.cells la.cells true)) = h7 at *
  have q57 := q6.trans q7
  have s7 := sees_keep s5 lo5 q57
  simp only [vms, vmc, AOpd.val, Nat.reduceEqDiff, reduceCtorEq, Nat.reduceAdd, Nat.reduceBEq, f11]
  refine Gives.bind ((leafDecR_ok k lo7 s7 hc hw).mono ?_)
  rintro _ h8 ⟨q8, lo8, o', hoB, rfl⟩
  obtain rfl := LeafIs.same hoA hoB
  rw [ela]
  have z8 : (h8.new (.cells [.str [], .int .i64 0] true)).get h8.next = some (.cells [.str [], .int .i64 0] true) := get_new_same
  have stD : storeV (h8.new (.cells [.str [], .int .i64 0] true)) 2 (.ptr h8.next 0) (.agg la.cells) = some ((h8.new (.cells [.str [], .int .i64 0] true)).set h8.next (.cells la.cells true)) := store_all z8 rfl rfl rfl
  have q9 : Quiet h8 ((h8.new (.cells [.str [], .int .i64 0] true)).set h8.next (.cells la.cells true)) := ((Quiet.refl _).new _).set (Nat.le_refl _) _
  have lo9 : Low ((h8.new (.cells [.str [], .int .i64 0] true)).set h8.next (.cells la.cells true)) := (lo8.new _).set (by rw [next_new]; omega) _
  have gD : ((h8.new (.cells [.str [], .int .i64 0] true)).set h8.next (.cells la.cells true)).get h8.next = some (.cells la.cells true) := get_set_same
  simp only [vms, vmc, AOpd.val, Nat.reduceEqDiff, reduceCtorEq, Nat.reduceAdd, Nat.reduceBEq, stD]
  generalize ((h8.new (.cells [.str [], .int .i64 0] true)).set h8.next (.cells la.cells true)) = h9 at *
  have q79 := q8.trans q9
  have q59 := q57.trans q79
  have LA9 := LA5.keep lo5 q59
  have LB9 := LB.keep lo5 q59
  have gC9 := q79.get gC (lo7 _ _ gC)
  obtain ⟨rfl, rfl⟩ := both
  simp only [vms, vmc, AOpd.val, Nat.reduceEqDiff, reduceCtorEq, Nat.reduceAdd, Nat.reduceBEq, liesL LA9, liesL LB9]
  refine Gives.bind ((same_ok k lo9 oN oM (liesV LA9) (liesV LB9)).mono ?_)
  rintro _ h10 ⟨q10, lo10, b, rfl, hbt⟩
  obtain rfl : b = true := hbt.2 rfl
  have gC10 := q10.get gC9 (lo9 _ _ gC9)
  have gD10 := q10.get gD (lo9 _ _ gD)
  have q110 := (q15.trans q59).trans q10
  have hg10 := q110.get hg hn1
  have s10 := sees_keep s1 lo1 q110
  rw [wcells_int] at s10 hla
  have eb : ∀ t : Bool, eqBV false (.bool t) (.bool t) = some (.bool true) := fun t => by cases t <;> rfl
  have dd : decide (la = la) = true := decide_eq_true rfl
  have il : (w.map fun n : Nat => (n : Int)).length = w.length := by simp
  simp only [vms, vmc, AOpd.val, Nat.reduceEqDiff, reduceCtorEq, Nat.reduceAdd, Nat.reduceBEq, f11, eb, load_all gC10 (n := 2) rfl, load_all gD10 (n := 2) rfl, step_eqAgg, leaf_eq, dd]
  have it := intact_ok (h := h10) (T := T) (g := 52) (gs := 18) (k := .u64) (k.env 52 (by decide)) (k.at (n := 52) (fn := aIntact 18) rfl) (k.env 18 (by decide)) (k.at (n := 18) (fn := aSame) rfl) (m := 9) s10 (by rw [il]; omega) hg10 (by rw [il]; exact hll) hla (by rw [il]; exact hma)
  rw [il] at it
  refine Gives.bind (it.mono ?_)
  rintro _ _ ⟨rfl, rfl⟩
  simp only [vms, vmc, AOpd.val, Nat.reduceEqDiff, reduceCtorEq, Nat.reduceAdd, Nat.reduceBEq]
  refine Gives.bind ((k.yes _).mono ?_)
  rintro _ _ ⟨rfl, rfl⟩
  simp only [vms, vmc, AOpd.val, Nat.reduceEqDiff, reduceCtorEq, Nat.reduceAdd, Nat.reduceBEq]
end Go.Proofs.Ytpabmkicdcilpaa
/- NodeReads. -/
namespace Go.Proofs.Ytpabmkicdcilpaa
open Go.Vm
set_option linter.unusedSimpArgs false
set_option linter.unusedVariables false
set_option maxRecDepth 100000
variable {T : Vm.Prog} {h : AH}
theorem xor_u64 {a b : Nat} (ha : a < 18446744073709551616) (hb : b < 18446744073709551616) : (a ^^^ b) < 18446744073709551616 ∧ binV .xor (.int .u64 (a : Int)) (.int .u64 (b : Int)) = some (.int .u64 ((a ^^^ b : Nat) : Int)) := by
  have hab : a ^^^ b < 18446744073709551616 := Nat.xor_lt_two_pow (n := 64) ha hb
  refine ⟨hab, ?_⟩
  show some (AV.int .u64 (IntKind.u64.wrap ((BitVec.ofInt 64 (a : Int) ^^^ BitVec.ofInt 64 (b : Int)).toNat : Int))) = _
  rw [BitVec.toNat_xor, BitVec.ofInt_natCast, BitVec.ofInt_natCast, BitVec.toNat_ofNat, BitVec.toNat_ofNat, Nat.mod_eq_of_lt (show a < 2 ^ 64 by omega), Nat.mod_eq_of_lt (show b < 2 ^ 64 by omega), wrap_u64 (by omega)]
theorem words_in {v : AV} {xs : List Int} (s : Sees h v (xs.map (.int .u64))) (hw : ∀ x ∈ xs, (Lit.int .u64 x).wf = true) : ∃ ws : List Nat, Sees h v (wcells ws) ∧ (∀ x ∈ ws, x < 18446744073709551616) ∧ ws.length = xs.length := by
  refine ⟨xs.map Int.toNat, ?_, fun x hx => ?_, by simp⟩
  · have e : wcells (xs.map Int.toNat) = xs.map (.int .u64) := by
      simp only [wcells, List.map_map]
      apply List.map_congr_left
      intro x hx
      obtain ⟨n, rfl, _⟩ := u64_in (hw x hx)
      rfl
    rw [e]; exact s
  · obtain ⟨y, hy, rfl⟩ := List.mem_map.1 hx
    obtain ⟨n, rfl, hn⟩ := u64_in (hw y hy)
    simpa using hn
theorem row_put {r : AV} {E : List Nat} (row : Row1 h r (wcells E)) (hl : Low h) {i x y : Nat} (hx : E[i]? = some x) : ∃ p h', idxAddrV 1 r (.int .i64 (i : Int)) = some p ∧ loadV h false 1 p = some (.int .u64 (x : Int)) ∧ storeV h 1 p (.int .u64 (y : Int)) = some h' ∧ Row1 h' r (wcells (E.set i y)) ∧ (∀ o ∈ objs r, ∃ g, h' = h.set o g) ∧ Low h' ∧ h'.next = h.next := by
  have hlt := (List.getElem?_eq_some_iff.1 hx).1
  rcases row with ⟨rfl, h0⟩ | ⟨o, cap, ex, l, rfl, hg, h1, h2, h3⟩
  · have := congrArg List.length h0
    simp [wcells] at this; subst this; cases hx
  · simp only [List.length_map, Nat.mul_one] at h1 h2
    have h3' := Row1.get h3
    have hlen : (wcells E).length = E.length := wcells_len E
    have hi : i < l.length := by omega
    refine ⟨.ptr o i, h.set o (.cells (l.set i (.int .u64 (y : Int))) true), by simp [idxAddrV, wcells]; omega, load_at hg (h3' i _ (wcells_get hx)), store_int hg hi, row1_of get_set_same (by simpa using h1) (by simp [wcells]) (by rw [wcells_len, List.length_set]; omega) fun j z hz => ?_, fun q hq => by simp [objs] at hq; subst hq; exact ⟨_, rfl⟩, hl.set (hl _ _ hg) _, rfl⟩
    by_cases e : j = i
    · subst e
      rw [wcells_get (List.getElem?_set_self (by omega))] at hz
      rw [List.getElem?_set_self (by omega), hz]
    · rw [List.getElem?_set_ne (Ne.symm e)]
      refine h3' j z ?_
      simp only [wcells, List.getElem?_map, List.getElem?_set_ne (Ne.symm e)] at hz ⊢
      exact hz
theorem head_cap {v : AV} {xs : List AV} (s : Sees h v xs) (hc : capOk v) {n : Nat} (hn : n ≤ xs.length) : ∃ v', slcV 1 v none (some (.int .i64 (n : Int))) none = some v' ∧ Sees h v' (xs.take n) ∧ capOk v' := by
  rcases s with ⟨rfl, rfl⟩ | ⟨o, off, cap, ex, l, rw, rfl, hg, h1, h2⟩
  · have : n = 0 := by simpa using hn
    subst this
    exact ⟨.nilSlice, by simp [slcV, bounds, boundM, boundH, boundL, natOf, Option.filter], .inl ⟨rfl, rfl⟩, trivial⟩
  · have hc' : xs.length ≤ cap := hc
    refine ⟨.slice o off 1 n cap ex, ?_, .inr ⟨o, off, cap, ex, l, rw, by rw [List.length_take, Nat.min_eq_left hn], hg, by rw [List.length_take]; omega, fun i x hx => ?_⟩, ?_⟩
    · simp [slcV, bounds, boundM, boundH, boundL, natOf, Option.filter, show n ≤ cap by omega]
    · rw [List.getElem?_take] at hx
      split at hx
      · exact h2 i x hx
      · cases hx
    · show n ≤ cap; omega
def c14h : ACode := c7Tail 3 c14
theorem c14_eq3 : c14 = c7Put 3 c14 c14h := rfl
theorem c14h_eq : c14h = c7Put 1 c14h c14m := rfl
theorem reads_how (k : Fits T) (hl : Low h) {kd : Int} {wd p : Nat} {px : List UInt8} {skv : AV} {fr at_ how : Int} {to : Nat} {ks : List Nat} (hwd : wd < 18446744073709551616) (hpx : px.length < 9223372036854775808) (ss : Sees h skv (kcells ks)) (hks : ∀ x ∈ ks, x < 256) (hto : to < 18446744073709551616)
    (gp : h.get p = some (.cells (kidsCells kd wd px skv fr) true)) {ov : AV} {w : List Nat} (s : Sees h ov (wcells w)) (hc : capOk ov) (hw : ∀ x ∈ w, x < 18446744073709551616) (hlen : w.length ≤ 300) {f : Fr} (f2 : f.at 2 = .int .i64 at_) (f3 : f.at 3 = .int .u64 (to : Int)) (f4 : f.at 4 = .int .i64 how) (f5 : f.at 5 = .ptr p 0) (f11 : f.at 11 = ov) :
    Wp (code T c14h f h) (Vm.Ends [.tmp 10] fun r _ => r = .bool true) := by
  rw [c14h_eq]
  simp only [c7Put, c14h, c7Tail, c14, vms, vmc, AOpd.val, Nat.reduceEqDiff, reduceCtorEq, Nat.reduceAdd, Nat.reduceBEq, f4]
  by_cases hh : how ≥ 0
  case neg =>
    simp only [vms, vmc, AOpd.val, Nat.reduceEqDiff, reduceCtorEq, Nat.reduceAdd, Nat.reduceBEq, decide_eq_false hh]
    exact reads_main k hl s hc hw hlen (by simp only [vms, vmc, AOpd.val, Nat.reduceEqDiff, reduceCtorEq, Nat.reduceAdd, Nat.reduceBEq, f11])
  simp only [vms, vmc, AOpd.val, Nat.reduceEqDiff, reduceCtorEq, Nat.reduceAdd, Nat.reduceBEq, decide_eq_true hh, f5, load_all gp (n := 5) rfl]
  refine Gives.bind ((made_ok k hl hwd hpx ss hks).mono ?_)
  rintro mv h2 ⟨q2, lo2, n, hN, hR, ok, hk1, hk4, hby⟩
  have hbk : ∀ x ∈ n.keys, x < 256 := fun x hx => by
    obtain ⟨i, hi⟩ := List.getElem?_of_mem hx
    exact hby i x hi
  simp only [vms, vmc, AOpd.val, Nat.reduceEqDiff, reduceCtorEq, Nat.reduceAdd, Nat.reduceBEq]
  refine Gives.bind ((encode38_ok k lo2 ok hN.v hbk).mono ?_)
  rintro ev h3 ⟨q3, lo3, row, _⟩
  have eN : encW n = encP n := by unfold encW; rw [rightP_iff.2 hR]; rfl
  have elt : ∀ x ∈ encW n, x < 18446744073709551616 := by rw [eN]; exact encP_lt hR ok hbk
  have el : (encW n).length = sizeP n.kind := by rw [eN]; simp [encP]
  have hs := (high_four hR.kind).2.2
  have h12 : 1 ≤ sizeP n.kind := by rcases hR.kinds with e | e | e | e <;> rw [e] <;> decide
  have hrem := bin_rem (k := .i64) (a := how) (b := 3) (by decide)
  simp only [vms, vmc, AOpd.val, Nat.reduceEqDiff, reduceCtorEq, Nat.reduceAdd, Nat.reduceBEq, f4, hrem]
  by_cases h0 : how.tmod 3 > 0
  case neg =>
    simp only [vms, vmc, AOpd.val, Nat.reduceEqDiff, reduceCtorEq, Nat.reduceAdd, Nat.reduceBEq, decide_eq_false h0]
    exact reads_main k lo3 row.sees (row_cap row) elt (by omega) (by simp only [vms, vmc, AOpd.val, Nat.reduceEqDiff, reduceCtorEq, Nat.reduceAdd, Nat.reduceBEq])
  have lne := sees_words row.sees
  have w1 : IntKind.i64.wrap (((encW n).length : Int) - 1) = (((encW n).length - 1 : Nat) : Int) := by rw [wrap_i64 (by omega) (by omega)]; omega
  simp only [vms, vmc, AOpd.val, Nat.reduceEqDiff, reduceCtorEq, Nat.reduceAdd, Nat.reduceBEq, decide_eq_true h0, f2, lne, w1]
  refine Gives.bind ((within_nat k (hi := (encW n).length - 1) (by omega)).mono ?_)
  rintro _ _ ⟨m, rfl, hm, rfl⟩
  rename_i h3
  obtain ⟨x, hx⟩ : ∃ x, (encW n)[m]? = some x := ⟨_, List.getElem?_eq_getElem (by omega)⟩
  have hx64 := elt x (List.mem_of_getElem? hx)
  obtain ⟨hxt, ex⟩ := xor_u64 hx64 hto
  obtain ⟨a, h5, r1, r2, r3, row5, _, lo5, _⟩ := row_put row lo3 (y := x ^^^ to) hx
  simp only [vms, vmc, AOpd.val, Nat.reduceEqDiff, reduceCtorEq, Nat.reduceAdd, Nat.reduceBEq, f3, r1, r2, ex, r3]
  refine reads_main k lo5 row5.sees (row_cap row5) (fun y hy => ?_) (by rw [List.length_set]; omega) (by simp only [vms, vmc, AOpd.val, Nat.reduceEqDiff, reduceCtorEq, Nat.reduceAdd, Nat.reduceBEq])
  rcases List.mem_or_eq_of_mem_set hy with h6 | h6
  · exact elt y h6
  · rw [h6]; exact hxt
theorem reads_run (k : Fits T) (hl : Low h) {kd : Int} {wd : Nat} {px : List UInt8} {skv : AV} {fr at_ how : Int} {to : Nat} {ks : List Nat} (hwd : wd < 18446744073709551616) (hpx : px.length < 9223372036854775808) (ss : Sees h skv (kcells ks)) (hks : ∀ x ∈ ks, x < 256) (hto : to < 18446744073709551616) {ov : AV} {w : List Nat} (s : Sees h ov (wcells w)) (hc : capOk ov) (hw : ∀ x ∈ w, x < 18446744073709551616) :
    Gives T 14 [.agg (kidsCells kd wd px skv fr), ov, .int .i64 at_, .int .u64 (to : Int), .int .i64 how] h fun r _ => r = .bool true := by
  refine gives_func (k.env _ (by decide)) (k.at (fn := a14) rfl) rfl ?_
  have q1 : Quiet h (h.new (.cells (kidsCells kd wd px skv fr) true)) := (Quiet.refl _).new _
  have lo1 := hl.new (.cells (kidsCells kd wd px skv fr) true)
  have g1 : (h.new (.cells (kidsCells kd wd px skv fr) true)).get h.next = some (.cells (kidsCells kd wd px skv fr) true) := get_new_same
  have ln := sees_words s
  simp only [a14]
  rw [c14_eq3]
  simp only [c7Put, c14, vms, vmc, AOpd.val, Nat.reduceEqDiff, reduceCtorEq, Nat.reduceAdd, Nat.reduceBEq, box_agg, ln]
  have s1 := sees_keep s hl q1
  have ss1 := sees_keep ss hl q1
  generalize (h.new (.cells (kidsCells kd wd px skv fr) true)) = h1 at *
  by_cases hg : w.length > 300
  · have d1 : decide ((w.length : Int) > 300) = true := by rw [decide_eq_true_eq]; omega
    obtain ⟨v', j1, j2, j3⟩ := head_cap s1 hc (n := 300) (by rw [wcells_len]; omega)
    have j1' : slcV 1 ov none (some (.int .i64 300)) none = some v' := j1
    have j2' : Sees h1 v' (wcells (w.take 300)) := by simpa [wcells, List.map_take] using j2
    simp only [vms, vmc, AOpd.val, Nat.reduceEqDiff, reduceCtorEq, Nat.reduceAdd, Nat.reduceBEq, d1, j1']
    exact reads_how (at_ := at_) (how := how) (to := to) k lo1 hwd hpx ss1 hks hto g1 j2' j3 (fun x hx => hw x (List.mem_of_mem_take hx)) (by rw [List.length_take]; omega) (by simp only [vms, vmc, AOpd.val, Nat.reduceEqDiff, reduceCtorEq, Nat.reduceAdd, Nat.reduceBEq]) (by simp only [vms, vmc, AOpd.val, Nat.reduceEqDiff, reduceCtorEq, Nat.reduceAdd, Nat.reduceBEq]) (by simp only [vms, vmc, AOpd.val, Nat.reduceEqDiff, reduceCtorEq, Nat.reduceAdd, Nat.reduceBEq]) (by simp only [vms, vmc, AOpd.val, Nat.reduceEqDiff, reduceCtorEq, Nat.reduceAdd, Nat.reduceBEq]) (by simp only [vms, vmc, AOpd.val, Nat.reduceEqDiff, reduceCtorEq, Nat.reduceAdd, Nat.reduceBEq])
  · have d1 : decide ((w.length : Int) > 300) = false := by rw [decide_eq_false_iff_not]; omega
    simp only [vms, vmc, AOpd.val, Nat.reduceEqDiff, reduceCtorEq, Nat.reduceAdd, Nat.reduceBEq, d1]
    exact reads_how (at_ := at_) (how := how) (to := to) k lo1 hwd hpx ss1 hks hto g1 s1 hc hw (by omega) (by simp only [vms, vmc, AOpd.val, Nat.reduceEqDiff, reduceCtorEq, Nat.reduceAdd, Nat.reduceBEq]) (by simp only [vms, vmc, AOpd.val, Nat.reduceEqDiff, reduceCtorEq, Nat.reduceAdd, Nat.reduceBEq]) (by simp only [vms, vmc, AOpd.val, Nat.reduceEqDiff, reduceCtorEq, Nat.reduceAdd, Nat.reduceBEq]) (by simp only [vms, vmc, AOpd.val, Nat.reduceEqDiff, reduceCtorEq, Nat.reduceAdd, Nat.reduceBEq]) (by simp only [vms, vmc, AOpd.val, Nat.reduceEqDiff, reduceCtorEq, Nat.reduceAdd, Nat.reduceBEq])
theorem cameVs5 {P : Program} {h : AH} {t u v w x : TypeId} {l : List AV} (c : CameVs P h [t, u, v, w, x] l) : ∃ a b d e g, l = [a, b, d, e, g] ∧ CameV P h t a ∧ CameV P h u b ∧ CameV P h v d ∧ CameV P h w e ∧ CameV P h x g := by
  match l, c with
  | [a, b, d, e, g], c => exact ⟨a, b, d, e, g, rfl, c.1, c.2.1, c.2.2.1, c.2.2.2.1, c.2.2.2.2.1⟩
theorem capV_in {P : Program} {t e : TypeId} {a : AV} (ht : P.underlying t = some (.slice e)) (c : CameV P h t a) : capOk a := by
  obtain ⟨ys, c, rfl⟩ := c
  cases c <;> simp_all [avOf, capOk]
end Go.Proofs.Ytpabmkicdcilpaa

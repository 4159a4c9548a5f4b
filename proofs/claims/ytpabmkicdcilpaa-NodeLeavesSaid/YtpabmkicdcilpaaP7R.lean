/- The law NodeLeafApart. -/
import Derived.Test.YtpabmkicdcilpaaP7Q
namespace Go.Proofs.Ytpabmkicdcilpaa
open Go.Vm
set_option linter.unusedSimpArgs false
set_option linter.unusedVariables false
set_option maxRecDepth 100000
variable {T : Vm.Prog} {h : AH}
theorem and255 {x : Nat} (hx : x < 18446744073709551616) : binV .and (.int .u64 (x : Int)) (.int .u64 255) = some (.int .u64 ((x % 256 : Nat) : Int)) := by
  have := and_u64 hx (show 255 < 18446744073709551616 by decide)
  rw [show x &&& 255 = x % 256 from Nat.and_two_pow_sub_one_eq_mod x 8] at this
  exact this
theorem and65535 {x : Nat} (hx : x < 18446744073709551616) : binV .and (.int .u64 (x : Int)) (.int .u64 65535) = some (.int .u64 ((x % 65536 : Nat) : Int)) := by
  have := and_u64 hx (show 65535 < 18446744073709551616 by decide)
  rw [show x &&& 65535 = x % 65536 from Nat.and_two_pow_sub_one_eq_mod x 16] at this
  exact this
theorem shr8 {x : Nat} : binV .shr (.int .u64 (x : Int)) (.int .u64 8) = some (.int .u64 ((x / 256 : Nat) : Int)) := bin_shr_u64 (n := 8) (by decide) .u64
theorem shr16 {x : Nat} : binV .shr (.int .u64 (x : Int)) (.int .u64 16) = some (.int .u64 ((x / 65536 : Nat) : Int)) := bin_shr_u64 (n := 16) (by decide) .u64
def zN : List AV := [.int .i64 0, .int .u64 0, .str [], .nilSlice, .nilSlice]
theorem zN_set {g : AH} {q : Nat} (hz : g.get q = some (.cells [.int .i64 0, .int .u64 0, .str [], .nilSlice, .nilSlice] true)) : storeV g 5 (.ptr q 0) (.agg [.int .i64 0, .int .u64 0, .str [], .nilSlice, .nilSlice]) = some (g.set q (.cells [.int .i64 0, .int .u64 0, .str [], .nilSlice, .nilSlice] true)) := store_all hz rfl rfl rfl
theorem fill5 : fillV [AV.int .i64 0, .int .u64 0, .str [], .nilSlice, .nilSlice] [] = some [AV.int .i64 0, .int .u64 0, .str [], .nilSlice, .nilSlice] := rfl
/-- Words whose kind is none are no node's. -/
theorem decode_no (k : Fits T) (hl : Low h) {v : AV} {ws : List Nat} {x : Nat} (s : Sees h v (wcells ws)) (hn : ws.length < 1000000) (h1 : 4 ≤ ws.length) (hx : ws[1]? = some x) (hx64 : x < 18446744073709551616) (h0 : x % 256 = 0) :
    Gives T 49 [v] h fun r h' => r = .tuple [zeroNode, .bool false] ∧ Quiet h h' ∧ Low h' := by
  refine gives_func (k.env _ (by decide)) (k.at (fn := a49) rfl) rfl ?_
  have q1 : Quiet h (h.new (.cells [.int .i64 0, .int .u64 0, .str [], .nilSlice, .nilSlice] true)) := (Quiet.refl _).new _
  have lo1 : Low (h.new (.cells [.int .i64 0, .int .u64 0, .str [], .nilSlice, .nilSlice] true)) := hl.new _
  have g1 : (h.new (.cells [.int .i64 0, .int .u64 0, .str [], .nilSlice, .nilSlice] true)).get h.next = some (.cells [.int .i64 0, .int .u64 0, .str [], .nilSlice, .nilSlice] true) := get_new_same
  have s1 := sees_keep s hl q1
  have ln : lenOfV v = some ws.length := by rw [s.len, wcells_len]
  have d1 : decide ((ws.length : Int) < 4) = false := by rw [decide_eq_false_iff_not]; omega
  obtain ⟨p, hp1, hp2⟩ := s1.at (wcells_get hx) .i64
  have hp1' : idxAddrV 1 v (.int .i64 1) = some p := hp1
  have w1 : ∀ n : Nat, n < 65536 → IntKind.i64.wrap ((n : Nat) : Int) = ((n : Nat) : Int) := fun n hn => wrap_i64n (by omega)
  simp only [a49, c49, vms, vmc, AOpd.val, Nat.reduceEqDiff, reduceCtorEq, Nat.reduceAdd, Nat.reduceBEq, ln, d1]
  generalize (h.new (.cells [.int .i64 0, .int .u64 0, .str [], .nilSlice, .nilSlice] true)) = h1 at *
  simp only [vms, vmc, AOpd.val, Nat.reduceEqDiff, reduceCtorEq, Nat.reduceAdd, Nat.reduceBEq, hp1', hp2, and255 hx64, shr8, and255 (show x / 256 < 18446744073709551616 by omega), shr16, and65535 (show x / 65536 < 18446744073709551616 by omega), w1 0 (by decide), w1 _ (show x / 256 % 256 < 65536 by omega), w1 _ (show x / 65536 % 65536 < 65536 by omega), h0]
  refine Gives.bind ((high_ok k).mono ?_)
  rintro _ _ ⟨rfl, rfl⟩
  rename_i h1
  have e0 : (((highP ((0 : Nat) : Int) : Nat) : Int) == 0) = true := rfl
  have st := zN_set g1
  simp only [vms, vmc, AOpd.val, Nat.reduceEqDiff, reduceCtorEq, Nat.reduceAdd, Nat.reduceBEq, e0, fill5, st, res_cell, load_all (get_set_same (h := h1) (o := h.next) (x := .cells [.int .i64 0, .int .u64 0, .str [], .nilSlice, .nilSlice] true)) (n := 5) rfl]
  exact ⟨rfl, q1.set (Nat.le_refl _) _, lo1.set (lo1 _ _ g1) _⟩
theorem mnx2 {k : IntKind} {a b : Int} : mnxAll false (.int k a) [.int k b] = some (.int k (if b < a then b else a)) := by
  simp [mnxAll, mnxV]
theorem min30 (n : Nat) : (if (30 : Int) < (n : Int) then (30 : Int) else (n : Int)) = ((min n 30 : Nat) : Int) := by
  split <;> omega
theorem leaf_eq {a b : LeafP} : eqAggV [1, 0] false (.agg a.cells) (.agg b.cells) = some (.bool (decide (a = b))) := by
  obtain ⟨ka, va⟩ := a
  obtain ⟨kb, vb⟩ := b
  simp only [eqAggV, LeafP.cells, leavesEq, keyEq, if_true, Option.map_some, Bool.false_eq_true, if_false, Bool.and_true]
  congr 2
  rw [Bool.eq_iff_iff]
  simp
theorem leaf_beq (a : LeafP) : AV.beq (.agg a.cells) (.agg a.cells) = true := by simp [AV.beq, AV.beqs, LeafP.cells]
theorem leafApart_run (k : Fits T) (hl : Low h) {a b : LeafP} (ha : a.key.length < 9223372036854775808) (hb : b.key.length < 9223372036854775808) : Gives T 13 [.agg a.cells, .agg b.cells] h fun r _ => r = .bool true := by
  refine gives_func (k.env _ (by decide)) (k.at (fn := a13) rfl) rfl ?_
  have fa : ∀ o j, fieldAddrV j (.ptr o 0) = some (.ptr o (0 + j)) := fun o j => rfl
  have lo2 : Low ((h.new (.cells a.cells true)).new (.cells b.cells true)) := (hl.new _).new _
  have gp : ((h.new (.cells a.cells true)).new (.cells b.cells true)).get h.next = some (.cells a.cells true) := by rw [AH.get_new, if_neg (by rw [next_new]; omega), get_new_same]
  have gq : ((h.new (.cells a.cells true)).new (.cells b.cells true)).get (h.next + 1) = some (.cells b.cells true) := get_new_same
  have nx : ((h.new (.cells a.cells true)).new (.cells b.cells true)).next = h.next + 2 := rfl
  simp only [a13, c13, vms, vmc, AOpd.val, Nat.reduceEqDiff, reduceCtorEq, Nat.reduceAdd, Nat.reduceBEq, box_agg, next_new]
  generalize ((h.new (.cells a.cells true)).new (.cells b.cells true)) = h2 at *
  obtain ⟨A, hA⟩ : ∃ A : LeafP, A = ⟨a.key.take (min a.key.length 30), a.val⟩ := ⟨_, rfl⟩
  obtain ⟨B, hB⟩ : ∃ B : LeafP, B = ⟨b.key.take (min b.key.length 30), b.val⟩ := ⟨_, rfl⟩
  have la0 := load_at gp (i := 0) (v := .str a.key) rfl
  have lb0 := load_at gq (i := 0) (v := .str b.key) rfl
  have st3 : storeV h2 1 (.ptr h.next 0) (.str (a.key.take (min a.key.length 30))) = some (h2.set h.next (.cells A.cells true)) := by rw [hA]; exact store_str gp (by simp [LeafP.cells])
  have gp3 : (h2.set h.next (.cells A.cells true)).get h.next = some (.cells A.cells true) := get_set_same
  have gq3 : (h2.set h.next (.cells A.cells true)).get (h.next + 1) = some (.cells b.cells true) := by rw [AH.get_set, if_neg (by omega)]; exact gq
  have lo3 : Low (h2.set h.next (.cells A.cells true)) := lo2.set (by omega) _
  have nx3 : (h2.set h.next (.cells A.cells true)).next = h2.next := rfl
  simp only [vms, vmc, AOpd.val, Nat.reduceEqDiff, reduceCtorEq, Nat.reduceAdd, Nat.reduceBEq, fa, Nat.zero_add, la0, lb0, mnx2, min30, slcStr_to (show min a.key.length 30 ≤ a.key.length by omega), slcStr_to (show min b.key.length 30 ≤ b.key.length by omega), st3, step_mnx]
  generalize (h2.set h.next (.cells A.cells true)) = h3 at *
  have lb3 := load_at gq3 (i := 0) (v := .str b.key) rfl
  have st4 : storeV h3 1 (.ptr (h.next + 1) 0) (.str (b.key.take (min b.key.length 30))) = some (h3.set (h.next + 1) (.cells B.cells true)) := by rw [hB]; exact store_str gq3 (by simp [LeafP.cells])
  have gp4 : (h3.set (h.next + 1) (.cells B.cells true)).get h.next = some (.cells A.cells true) := by rw [AH.get_set, if_neg (by omega)]; exact gp3
  have gq4 : (h3.set (h.next + 1) (.cells B.cells true)).get (h.next + 1) = some (.cells B.cells true) := get_set_same
  have lo4 : Low (h3.set (h.next + 1) (.cells B.cells true)) := lo3.set (by omega) _
  have bs : AV.beq (.str b.key) (.str b.key) = true := by simp [AV.beq]
  have lkb : ∀ {f : Fr} {t d : Nat}, f.at t = .ptr (h.next + 1) 0 → f.at d = .str b.key → AOper.lookAgain ⟨some d, .load false 1 (.tmp t), none⟩ f h3 = true := fun ht hd => look_load (v := .str b.key) (by show loadV _ _ _ (Fr.at _ _) = _; rw [ht]; exact lb3) hd bs
  rw [items_look (lkb (by simp only [vms, vmc, AOpd.val, Nat.reduceEqDiff, reduceCtorEq, Nat.reduceAdd, Nat.reduceBEq]) (by simp only [vms, vmc, AOpd.val, Nat.reduceEqDiff, reduceCtorEq, Nat.reduceAdd, Nat.reduceBEq])), items_look (lkb (by simp only [vms, vmc, AOpd.val, Nat.reduceEqDiff, reduceCtorEq, Nat.reduceAdd, Nat.reduceBEq]) (by simp only [vms, vmc, AOpd.val, Nat.reduceEqDiff, reduceCtorEq, Nat.reduceAdd, Nat.reduceBEq]))]
  simp only [vms, vmc, AOpd.val, Nat.reduceEqDiff, reduceCtorEq, Nat.reduceAdd, Nat.reduceBEq, st4, load_all gp4 (n := 2) rfl]
  generalize (h3.set (h.next + 1) (.cells B.cells true)) = h4 at *
  have hAk : A.key.length < 9223372036854775808 := by rw [hA]; simp; omega
  have hBk : B.key.length < 9223372036854775808 := by rw [hB]; simp; omega
  refine Gives.bind ((rightLeaf_ok k lo4 hAk).mono ?_)
  rintro _ h5 ⟨rfl, q5, lo5⟩
  have gp5 := q5.get gp4 (lo4 _ _ gp4)
  have gq5 := q5.get gq4 (lo4 _ _ gq4)
  by_cases rA : rightL A = true
  rotate_left
  · have rA' : rightL A = false := by simpa using rA
    simp only [vms, vmc, AOpd.val, Nat.reduceEqDiff, reduceCtorEq, Nat.reduceAdd, Nat.reduceBEq, rA', Bool.not_false]
    refine Gives.bind ((k.yes _).mono ?_)
    rintro _ _ ⟨rfl, rfl⟩
    simp only [vms, vmc, AOpd.val, Nat.reduceEqDiff, reduceCtorEq, Nat.reduceAdd, Nat.reduceBEq]
  simp only [vms, vmc, AOpd.val, Nat.reduceEqDiff, reduceCtorEq, Nat.reduceAdd, Nat.reduceBEq, rA, Bool.not_true, load_all gq5 (n := 2) rfl]
  refine Gives.bind ((rightLeaf_ok k lo5 hBk).mono ?_)
  rintro _ h6 ⟨rfl, q6, lo6⟩
  have gp6 := q6.get gp5 (lo5 _ _ gp5)
  have gq6 := q6.get gq5 (lo5 _ _ gq5)
  by_cases rB : rightL B = true
  rotate_left
  · have rB' : rightL B = false := by simpa using rB
    simp only [vms, vmc, AOpd.val, Nat.reduceEqDiff, reduceCtorEq, Nat.reduceAdd, Nat.reduceBEq, rB', Bool.not_false]
    refine Gives.bind ((k.yes _).mono ?_)
    rintro _ _ ⟨rfl, rfl⟩
    simp only [vms, vmc, AOpd.val, Nat.reduceEqDiff, reduceCtorEq, Nat.reduceAdd, Nat.reduceBEq]
  simp only [vms, vmc, AOpd.val, Nat.reduceEqDiff, reduceCtorEq, Nat.reduceAdd, Nat.reduceBEq, rB, Bool.not_true, load_all gp6 (n := 2) rfl, load_all gq6 (n := 2) rfl]
  refine Gives.bind ((encLeaf_ok k lo6 hAk).mono ?_)
  rintro xv h7 ⟨q7, lo7, rx, ox⟩
  have gp7 := q7.get gp6 (lo6 _ _ gp6)
  have gq7 := q7.get gq6 (lo6 _ _ gq6)
  have lkB : ∀ {g : AH} {f : Fr} {t d : Nat}, g.get (h.next + 1) = some (.cells B.cells true) → f.at t = .ptr (h.next + 1) 0 → f.at d = .agg B.cells → AOper.lookAgain ⟨some d, .load true 2 (.tmp t), none⟩ f g = true := fun hg ht hd => look_load (v := .agg B.cells) (by show loadV _ _ _ (Fr.at _ _) = _; rw [ht]; exact load_all hg (n := 2) rfl) hd (leaf_beq B)
  have lkA : ∀ {g : AH} {f : Fr} {t d : Nat}, g.get h.next = some (.cells A.cells true) → f.at t = .ptr h.next 0 → f.at d = .agg A.cells → AOper.lookAgain ⟨some d, .load true 2 (.tmp t), none⟩ f g = true := fun hg ht hd => look_load (v := .agg A.cells) (by show loadV _ _ _ (Fr.at _ _) = _; rw [ht]; exact load_all hg (n := 2) rfl) hd (leaf_beq A)
  simp only [vms, vmc, AOpd.val, Nat.reduceEqDiff, reduceCtorEq, Nat.reduceAdd, Nat.reduceBEq]
  rw [items_look (lkB gq7 (by simp only [vms, vmc, AOpd.val, Nat.reduceEqDiff, reduceCtorEq, Nat.reduceAdd, Nat.reduceBEq]) (by simp only [vms, vmc, AOpd.val, Nat.reduceEqDiff, reduceCtorEq, Nat.reduceAdd, Nat.reduceBEq]))]
  simp only [vms, vmc, AOpd.val, Nat.reduceEqDiff, reduceCtorEq, Nat.reduceAdd, Nat.reduceBEq]
  refine Gives.bind ((encLeaf_ok k lo7 hBk).mono ?_)
  rintro yv h8 ⟨q8, lo8, ry, oy⟩
  have rx8 := row_quiet rx lo7 q8
  have gp8 := q8.get gp7 (lo7 _ _ gp7)
  have gq8 := q8.get gq7 (lo7 _ _ gq7)
  have eA : leafE A = leafW A := by unfold leafE; rw [if_pos rA]
  have eB : leafE B = leafW B := by unfold leafE; rw [if_pos rB]
  rw [eA] at rx8
  rw [eB] at ry
  have lw : ∀ l : LeafP, (leafW l).length = 8 := fun l => by simp [leafW]
  obtain ⟨⟨s, hs⟩, _⟩ := rightL_iff.1 rA
  have hsl := ofT_len hs
  have hx1 : (leafW A)[1]? = some (A.key.length * 256) := rfl
  have hkl : A.key.length ≤ 13 := by rw [hsl.1]; simp; omega
  simp only [vms, vmc, AOpd.val, Nat.reduceEqDiff, reduceCtorEq, Nat.reduceAdd, Nat.reduceBEq]
  refine Gives.bind ((decode_no k lo8 rx8.sees (by rw [lw]; decide) (by rw [lw]; decide) hx1 (by omega) (by omega)).mono ?_)
  rintro _ h9 ⟨rfl, q9, lo9⟩
  have st10 := zN_set (g := h9.new (.cells [.int .i64 0, .int .u64 0, .str [], .nilSlice, .nilSlice] true)) get_new_same
  have q10 : Quiet h9 ((h9.new (.cells [.int .i64 0, .int .u64 0, .str [], .nilSlice, .nilSlice] true)).set h9.next (.cells [.int .i64 0, .int .u64 0, .str [], .nilSlice, .nilSlice] true)) := ((Quiet.refl _).new _).set (Nat.le_refl _) _
  have lo10 : Low ((h9.new (.cells [.int .i64 0, .int .u64 0, .str [], .nilSlice, .nilSlice] true)).set h9.next (.cells [.int .i64 0, .int .u64 0, .str [], .nilSlice, .nilSlice] true)) := (lo9.new _).set (by rw [next_new]; omega) _
  simp only [vms, vmc, AOpd.val, Nat.reduceEqDiff, reduceCtorEq, Nat.reduceAdd, Nat.reduceBEq, zeroNode, st10]
  generalize ((h9.new (.cells [.int .i64 0, .int .u64 0, .str [], .nilSlice, .nilSlice] true)).set h9.next (.cells [.int .i64 0, .int .u64 0, .str [], .nilSlice, .nilSlice] true)) = h10 at *
  have q810 := q9.trans q10
  have rx10 := (row_quiet rx8 lo8 q810).sees
  have ry10 := (row_quiet ry lo8 q810).sees
  have gp10 := q810.get gp8 (lo8 _ _ gp8)
  have gq10 := q810.get gq8 (lo8 _ _ gq8)
  have lx : lenOfV xv = some 8 := by rw [rx10.len, wcells_len, lw]
  rw [wcells_int] at rx10 ry10
  have d8 : (((8 : Nat) : Int) == 8) = true := rfl
  simp only [vms, vmc, AOpd.val, Nat.reduceEqDiff, reduceCtorEq, Nat.reduceAdd, Nat.reduceBEq, items_test, lx, d8, load_all gp10 (n := 2) rfl, load_all gq10 (n := 2) rfl, step_eqAgg, leaf_eq]
  refine Gives.bind ((sameG_ok (k := .u64) (k.env _ (by decide)) (k.at (fn := a18) rfl) rx10 ry10 (by simp [lw]) (by simp [lw])).mono ?_)
  rintro _ _ ⟨rfl, rfl⟩
  rename_i h10
  have hd : decide ((leafW A).map (fun n : Nat => (n : Int)) = (leafW B).map fun n : Nat => (n : Int)) = decide (A = B) := by
    rw [decide_eq_decide, nat_int_inj]
    exact ⟨leafW_inj rA rB, fun e => by rw [e]⟩
  have eb : ∀ t : Bool, eqBV false (.bool t) (.bool t) = some (.bool true) := fun t => by cases t <;> rfl
  simp only [vms, vmc, AOpd.val, Nat.reduceEqDiff, reduceCtorEq, Nat.reduceAdd, Nat.reduceBEq, items_test, hd, eb, Bool.not_false]
  rw [items_look (look_want (by simp only [vms, vmc, AOpd.val, Nat.reduceEqDiff, reduceCtorEq, Nat.reduceAdd, Nat.reduceBEq]) (lkA gp10 (by simp only [vms, vmc, AOpd.val, Nat.reduceEqDiff, reduceCtorEq, Nat.reduceAdd, Nat.reduceBEq]) (by simp only [vms, vmc, AOpd.val, Nat.reduceEqDiff, reduceCtorEq, Nat.reduceAdd, Nat.reduceBEq]))), items_look (look_want (by simp only [vms, vmc, AOpd.val, Nat.reduceEqDiff, reduceCtorEq, Nat.reduceAdd, Nat.reduceBEq]) (lkB gq10 (by simp only [vms, vmc, AOpd.val, Nat.reduceEqDiff, reduceCtorEq, Nat.reduceAdd, Nat.reduceBEq]) (by simp only [vms, vmc, AOpd.val, Nat.reduceEqDiff, reduceCtorEq, Nat.reduceAdd, Nat.reduceBEq])))]
  simp only [vms, vmc, AOpd.val, Nat.reduceEqDiff, reduceCtorEq, Nat.reduceAdd, Nat.reduceBEq, items_test]
  refine Gives.bind ((k.yes _).mono ?_)
  rintro _ _ ⟨rfl, rfl⟩
  simp only [vms, vmc, AOpd.val, Nat.reduceEqDiff, reduceCtorEq, Nat.reduceAdd, Nat.reduceBEq]
/-- A leaf that came in. -/
theorem leaf_in {P : Program} {cs : List AV} (c : CellsAre P h [.str, .int .i64] cs) : ∃ l : LeafP, cs = l.cells ∧ l.key.length < 9223372036854775808 := by
  obtain ⟨b1, r1, rfl, ⟨kd, rfl, hk⟩, c1⟩ := c.cons_inv
  obtain ⟨b2, r2, rfl, ⟨wd, rfl, hw⟩, c2⟩ := c1.cons_inv
  cases c2.nil_inv
  rw [maxLen_eq] at hk
  exact ⟨⟨kd, wd⟩, rfl, by show kd.length < _; omega⟩
end Go.Proofs.Ytpabmkicdcilpaa

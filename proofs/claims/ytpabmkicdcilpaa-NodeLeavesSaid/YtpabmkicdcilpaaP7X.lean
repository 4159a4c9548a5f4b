/- The law NodeLeaves. -/
import Derived.Test.YtpabmkicdcilpaaP7W
import Derived.Test.YtpabmkicdcilpaaVmZj
namespace Go.Proofs.Ytpabmkicdcilpaa
open Go.Vm
set_option linter.unusedSimpArgs false
set_option linter.unusedVariables false
set_option maxRecDepth 100000
variable {T : Vm.Prog} {h : AH}
def slcArr8 (h : AH) : AV → Option AV
  | .ptr o off => if (h.load o off 8).isSome then some (.slice o off 1 8 8 true) else none
  | _ => none
theorem step_slcArr8 {call : Handler} {f : Fr} {x : AOpd} : stepV call (.slcArr 8 1 x none none none) f h = (slcArr8 h (x.val f)).map fun v => (v, h) :=
  stepV_map (by
    simp only [AOp.eval]; generalize x.val f = p
    cases p <;> try rfl
    rename_i o off
    unfold slcArr8
    simp only [Nat.mul_one]
    by_cases hs : (h.load o off 8).isSome = true
    · simp [hs, bounds, boundM, boundH, boundL]
    · simp [hs])
theorem slcArr8_ptr {o : Nat} {l : List AV} {b : Bool} (hg : h.get o = some (.cells l b)) (hl : l.length = 8) : slcArr8 h (.ptr o 0) = some (.slice o 0 1 8 8 true) := by
  unfold slcArr8
  simp [AH.load, hg, hl]
theorem leafO_len (o : Option LeafP) : (leafO o).length = 2 ∧ (leafO o).all AV.flat = true ∧ AV.beq (.agg (leafO o)) (.agg (leafO o)) = true := by
  cases o with
  | none => exact ⟨rfl, rfl, by simp [leafO, AV.beq, AV.beqs]⟩
  | some l => exact ⟨rfl, rfl, by simp [leafO, LeafP.cells, AV.beq, AV.beqs]⟩
theorem leafO_eq (o : Option LeafP) : eqAggV [1, 0] true (.agg (leafO o)) (.agg (leafO o)) = some (.bool false) := by
  cases o with
  | none => simp [leafO, eqAggV, leavesEq, keyEq]
  | some l => simp [leafO, LeafP.cells, eqAggV, leavesEq, keyEq]
def c11a : ACode := match c11 with
  | .seq a _ => a
  | c => c
def c11b : ACode := match c11 with
  | .seq _ (.seq b _) => b
  | c => c
def c11r : ACode := match c11 with
  | .seq _ (.seq _ r) => r
  | c => c
theorem c11_parts : c11 = .seq c11a (.seq c11b c11r) := rfl
theorem eqB_self (b : Bool) : eqBV true (.bool b) (.bool b) = some (.bool false) := by cases b <;> rfl
theorem leaves_main (k : Fits T) (hl : Low h) {A : LeafP} {p q : Nat} {ws : List Nat} (hA : A.key.length ≤ 40) (gp : h.get p = some (.cells A.cells true)) (gq : h.get q = some (.cells (wcells ws) true)) (hw : ws.length = 8) (h64 : ∀ x ∈ ws, x < 18446744073709551616) {f : Fr} (f3 : f.at 3 = .ptr p 0) (f4 : f.at 4 = .ptr q 0) : Wp (code T c11r f h) (Vm.Ends [.tmp 6] fun r _ => r = .bool true) := by
  have wl : (wcells ws).length = 8 := by rw [wcells_len]; exact hw
  have mk8 : ∀ {g : AH}, g.get q = some (.cells (wcells ws) true) → W8 g (.slice q 0 1 8 8 true) ws := fun hg => ⟨q, 8, true, wcells ws, true, rfl, Nat.le_refl _, hg, hw, by omega, fun i x hx => hx⟩
  have hAk : A.key.length < 9223372036854775807 := by omega
  simp only [c11r, c11, vms, vmc, AOpd.val, Nat.reduceEqDiff, reduceCtorEq, Nat.reduceAdd, Nat.reduceBEq, f4, step_slcArr8, slcArr8_ptr gq wl]
  refine Gives.bind ((decodeLeaf_ok k hl (mk8 gq) h64).mono ?_)
  rintro _ h1 ⟨q1, lo1, o1, is1, rfl⟩
  obtain ⟨ol, of, ob⟩ := leafO_len o1
  have gp1 := q1.get gp (hl _ _ gp)
  have gq1 := q1.get gq (hl _ _ gq)
  have st2 := store_all (h := h1.new (.cells [.str [], .int .i64 0] true)) (o := h1.next) (n := 2) (l' := leafO o1) get_new_same rfl ol of
  have q2 : Quiet h1 ((h1.new (.cells [.str [], .int .i64 0] true)).set h1.next (.cells (leafO o1) true)) := ((Quiet.refl _).new _).set (Nat.le_refl _) _
  have lo2 : Low ((h1.new (.cells [.str [], .int .i64 0] true)).set h1.next (.cells (leafO o1) true)) := (lo1.new _).set (by rw [next_new]; omega) _
  have gx2 : ((h1.new (.cells [.str [], .int .i64 0] true)).set h1.next (.cells (leafO o1) true)).get h1.next = some (.cells (leafO o1) true) := get_set_same
  have gp2 := q2.get gp1 (lo1 _ _ gp1)
  have gq2 := q2.get gq1 (lo1 _ _ gq1)
  simp only [vms, vmc, AOpd.val, Nat.reduceEqDiff, reduceCtorEq, Nat.reduceAdd, Nat.reduceBEq, st2, f4, step_slcArr8, slcArr8_ptr gq2 wl]
  generalize ((h1.new (.cells [.str [], .int .i64 0] true)).set h1.next (.cells (leafO o1) true)) = h2 at *
  generalize h1.next = x at *
  refine Gives.bind ((decodeLeaf_ref k lo2 (mk8 gq2) h64).mono ?_)
  rintro _ h3 ⟨q3, lo3, o3, is3, rfl⟩
  obtain rfl := is1.same is3
  have gp3 := q3.get gp2 (lo2 _ _ gp2)
  have gx3 := q3.get gx2 (lo2 _ _ gx2)
  have st4 := store_all (h := h3.new (.cells [.str [], .int .i64 0] true)) (o := h3.next) (n := 2) (l' := leafO o1) get_new_same rfl ol of
  have q4 : Quiet h3 ((h3.new (.cells [.str [], .int .i64 0] true)).set h3.next (.cells (leafO o1) true)) := ((Quiet.refl _).new _).set (Nat.le_refl _) _
  have lo4 : Low ((h3.new (.cells [.str [], .int .i64 0] true)).set h3.next (.cells (leafO o1) true)) := (lo3.new _).set (by rw [next_new]; omega) _
  have gy4 : ((h3.new (.cells [.str [], .int .i64 0] true)).set h3.next (.cells (leafO o1) true)).get h3.next = some (.cells (leafO o1) true) := get_set_same
  have gp4 := q4.get gp3 (lo3 _ _ gp3)
  have gx4 := q4.get gx3 (lo3 _ _ gx3)
  simp only [vms, vmc, AOpd.val, Nat.reduceEqDiff, reduceCtorEq, Nat.reduceAdd, Nat.reduceBEq, st4, f3, load_all gp4 (n := 2) rfl]
  generalize ((h3.new (.cells [.str [], .int .i64 0] true)).set h3.next (.cells (leafO o1) true)) = h4 at *
  generalize h3.next = y at *
  refine Gives.bind ((encLeaf_ok k lo4 (l := A) (by omega)).mono ?_)
  rintro ev h5 ⟨q5, lo5, r5, n5⟩
  have gp5 := q5.get gp4 (lo4 _ _ gp4)
  have gx5 := q5.get gx4 (lo4 _ _ gx4)
  have gy5 := q5.get gy4 (lo4 _ _ gy4)
  have lkA : ∀ {g : AH} {f : Fr} {t d : Nat}, g.get p = some (.cells A.cells true) → f.at t = .ptr p 0 → f.at d = .agg A.cells → AOper.lookAgain ⟨some d, .load true 2 (.tmp t), none⟩ f g = true := fun hg ht hd => look_load (v := .agg A.cells) (by show loadV _ _ _ (Fr.at _ _) = _; rw [ht]; exact load_all hg rfl) hd (leaf_beq A)
  simp only [vms, vmc, AOpd.val, Nat.reduceEqDiff, reduceCtorEq, Nat.reduceAdd, Nat.reduceBEq, f3, load_all gp5 (n := 2) rfl]
  refine Gives.bind ((rightLeaf_ok k lo5 (l := A) (by omega)).mono ?_)
  rintro _ h6 ⟨rfl, q6, lo6⟩
  have gp6 := q6.get gp5 (lo5 _ _ gp5)
  have gx6 := q6.get gx5 (lo5 _ _ gx5)
  have gy6 := q6.get gy5 (lo5 _ _ gy5)
  have r6 := row_quiet r5 lo5 q6
  simp only [vms, vmc, AOpd.val, Nat.reduceEqDiff, reduceCtorEq, Nat.reduceAdd, Nat.reduceBEq]
  rw [items_look (lkA gp6 (by simp only [vms, vmc, AOpd.val, Nat.reduceEqDiff, reduceCtorEq, Nat.reduceAdd, Nat.reduceBEq, f3]) (by simp only [vms, vmc, AOpd.val, Nat.reduceEqDiff, reduceCtorEq, Nat.reduceAdd, Nat.reduceBEq]))]
  simp only [vms, vmc, AOpd.val, Nat.reduceEqDiff, reduceCtorEq, Nat.reduceAdd, Nat.reduceBEq]
  refine Gives.bind ((rightLeaf_ref k lo6 hAk).mono ?_)
  rintro _ h7 ⟨rfl, q7, lo7⟩
  have gp7 := q7.get gp6 (lo6 _ _ gp6)
  have gx7 := q7.get gx6 (lo6 _ _ gx6)
  have gy7 := q7.get gy6 (lo6 _ _ gy6)
  have r7 := row_quiet r6 lo6 q7
  simp only [vms, vmc, AOpd.val, Nat.reduceEqDiff, reduceCtorEq, Nat.reduceAdd, Nat.reduceBEq, items_test, eqB_self, f3, load_all gp7 (n := 2) rfl]
  refine Gives.bind ((encLeaf_ref k lo7 hAk).mono ?_)
  rintro rv h8 ⟨q8, lo8, r8', n8⟩
  have gp8 := q8.get gp7 (lo7 _ _ gp7)
  have gx8 := q8.get gx7 (lo7 _ _ gx7)
  have gy8 := q8.get gy7 (lo7 _ _ gy7)
  have r8 := row_quiet r7 lo7 q8
  have sa := r8.sees
  have sb := r8'.sees
  have hE : (leafE A).length ≤ 8 := by unfold leafE; split <;> simp [leafW]
  rw [wcells_eq] at sa sb
  simp only [vms, vmc, AOpd.val, Nat.reduceEqDiff, reduceCtorEq, Nat.reduceAdd, Nat.reduceBEq, items_test]
  refine Gives.bind ((sameG_ok (k := .u64) (k.env _ (by decide)) (k.at (fn := a18) rfl) sa sb (by simp; omega) (by simp; omega)).mono ?_)
  rintro _ _ ⟨rfl, rfl⟩
  rename_i h8
  simp only [vms, vmc, AOpd.val, Nat.reduceEqDiff, reduceCtorEq, Nat.reduceAdd, Nat.reduceBEq, items_test, decide_true, Bool.not_true, load_all gx8 ol, load_all gy8 ol, step_eqAgg, leafO_eq, eqB_self, f3, load_all gp8 (n := 2) rfl]
  refine Gives.bind ((rightLeaf_ok k lo8 (l := A) (by omega)).mono ?_)
  rintro _ h9 ⟨rfl, q9, lo9⟩
  have gp9 := q9.get gp8 (lo8 _ _ gp8)
  have r9 := row_quiet r8 lo8 q9
  by_cases hr : rightL A = true
  · have eE : leafE A = leafW A := by unfold leafE; rw [if_pos hr]
    rw [eE] at r9
    have lw : (leafW A).length = 8 := by simp [leafW]
    have w9 := W8.row r9 lw
    obtain ⟨h13, hv0, hv1⟩ := right_len hr
    simp only [vms, vmc, AOpd.val, Nat.reduceEqDiff, reduceCtorEq, Nat.reduceAdd, Nat.reduceBEq, hr, Bool.not_true]
    refine Gives.bind ((decodeLeaf_ok k lo9 w9 ?_).mono ?_)
    · intro z hz
      rw [(leaf_tells hr).1] at hz
      have d0 := dig_lt _ (blk_small (nat8_small A.key) 0)
      have d1 := dig_lt _ (blk_small (nat8_small A.key) 1)
      have p0 : 256 ^ (blk (nat8 A.key) 0).length ≤ 18446744073709551616 := Nat.le_trans (Nat.pow_le_pow_right (by decide) (blk_len _ 0)) (by decide)
      have p1 : 256 ^ (blk (nat8 A.key) 1).length ≤ 18446744073709551616 := Nat.le_trans (Nat.pow_le_pow_right (by decide) (blk_len _ 1)) (by decide)
      simp only [List.mem_cons, List.not_mem_nil, or_false] at hz
      rcases hz with h | h | h | h | h | h | h | h <;> omega
    rintro _ h10 ⟨q10, lo10, o10, is10, rfl⟩
    obtain rfl : o10 = some A := is10.same (show LeafIs (leafW A) (some A) from ⟨hr, rfl⟩)
    have gp10 := q10.get gp9 (lo9 _ _ gp9)
    have st11 := store_all (h := h10.new (.cells [.str [], .int .i64 0] true)) (o := h10.next) (n := 2) (l' := A.cells) get_new_same rfl rfl rfl
    have q11 : Quiet h10 ((h10.new (.cells [.str [], .int .i64 0] true)).set h10.next (.cells A.cells true)) := ((Quiet.refl _).new _).set (Nat.le_refl _) _
    have gz11 : ((h10.new (.cells [.str [], .int .i64 0] true)).set h10.next (.cells A.cells true)).get h10.next = some (.cells A.cells true) := get_set_same
    have gp11 := q11.get gp10 (lo10 _ _ gp10)
    simp only [vms, vmc, AOpd.val, Nat.reduceEqDiff, reduceCtorEq, Nat.reduceAdd, Nat.reduceBEq, leafO, st11, f3, load_all gz11 (n := 2) rfl, load_all gp11 (n := 2) rfl, step_eqAgg, leaf_eq, decide_true, Option.isSome_some]
    refine Gives.bind ((k.yes _).mono ?_)
    rintro _ _ ⟨rfl, rfl⟩
    simp only [vms, vmc, AOpd.val, Nat.reduceEqDiff, reduceCtorEq, Nat.reduceAdd, Nat.reduceBEq]
  · have hr' : rightL A = false := by simpa using hr
    have eE : leafE A = [] := by unfold leafE; rw [if_neg hr]
    rw [eE] at r9
    have l9 : lenOfV ev = some 0 := r9.sees.len
    simp only [vms, vmc, AOpd.val, Nat.reduceEqDiff, reduceCtorEq, Nat.reduceAdd, Nat.reduceBEq, hr', Bool.not_false, l9, show (((0 : Nat) : Int) == 0) = true from rfl]
    refine Gives.bind ((k.yes _).mono ?_)
    rintro _ _ ⟨rfl, rfl⟩
    simp only [vms, vmc, AOpd.val, Nat.reduceEqDiff, reduceCtorEq, Nat.reduceAdd, Nat.reduceBEq]
theorem leaves_run (k : Fits T) (hl : Low h) {l : LeafP} {ws : List Nat} {b : Bool} (hk : l.key.length < 9223372036854775808) (hw : ws.length = 8) (h64 : ∀ x ∈ ws, x < 18446744073709551616) : Gives T 11 [.agg l.cells, .agg (wcells ws), .bool b] h fun r _ => r = .bool true := by
  refine gives_func (k.env _ (by decide)) (k.at (fn := a11) rfl) rfl ?_
  have fa : ∀ o j, fieldAddrV j (.ptr o 0) = some (.ptr o (0 + j)) := fun o j => rfl
  have lo2 : Low ((h.new (.cells l.cells true)).new (.cells (wcells ws) true)) := (hl.new _).new _
  have gp : ((h.new (.cells l.cells true)).new (.cells (wcells ws) true)).get h.next = some (.cells l.cells true) := by rw [AH.get_new, if_neg (by rw [next_new]; omega), get_new_same]
  have gq : ((h.new (.cells l.cells true)).new (.cells (wcells ws) true)).get (h.next + 1) = some (.cells (wcells ws) true) := get_new_same
  have nx : ((h.new (.cells l.cells true)).new (.cells (wcells ws) true)).next = h.next + 2 := rfl
  show Wp (code T c11 _ _) _
  rw [c11_parts]
  simp only [c11a, c11b, c11, vms, vmc, AOpd.val, Nat.reduceEqDiff, reduceCtorEq, Nat.reduceAdd, Nat.reduceBEq, box_agg, next_new]
  generalize ((h.new (.cells l.cells true)).new (.cells (wcells ws) true)) = h2 at *
  have l0 := load_at gp (i := 0) (v := .str l.key) rfl
  by_cases h40 : l.key.length ≤ 40
  · have d1 : decide ((l.key.length : Int) > 40) = false := by rw [decide_eq_false_iff_not]; omega
    simp only [vms, vmc, AOpd.val, Nat.reduceEqDiff, reduceCtorEq, Nat.reduceAdd, Nat.reduceBEq, fa, Nat.zero_add, l0, d1]
    refine leaves_main k lo2 h40 gp gq hw h64 ?_ ?_ <;> simp only [vms, vmc, AOpd.val, Nat.reduceEqDiff, reduceCtorEq, Nat.reduceAdd, Nat.reduceBEq]
  · have d1 : decide ((l.key.length : Int) > 40) = true := by rw [decide_eq_true_eq]; omega
    have st3 : storeV h2 1 (.ptr h.next 0) (.str (l.key.take 40)) = some (h2.set h.next (.cells (⟨l.key.take 40, l.val⟩ : LeafP).cells true)) := store_str gp (by simp [LeafP.cells])
    have sl : slcStrV (.str l.key) none (some (.int .i64 40)) = some (.str (l.key.take 40)) := slcStr_to (n := 40) (by omega)
    simp only [vms, vmc, AOpd.val, Nat.reduceEqDiff, reduceCtorEq, Nat.reduceAdd, Nat.reduceBEq, fa, Nat.zero_add, l0, d1, sl, st3]
    refine leaves_main k (lo2.set (by omega) _) (A := ⟨l.key.take 40, l.val⟩) (p := h.next) (q := h.next + 1) (by simp; omega) get_set_same (by rw [AH.get_set, if_neg (by omega)]; exact gq) hw h64 ?_ ?_ <;> simp only [vms, vmc, AOpd.val, Nat.reduceEqDiff, reduceCtorEq, Nat.reduceAdd, Nat.reduceBEq]
/-- Words that came in. -/
theorem words_in {P : Program} {n : Nat} {cs : List AV} (c : CellsAre P h (List.replicate n (.int .u64)) cs) : ∃ ws : List Nat, cs = wcells ws ∧ ws.length = n ∧ ∀ x ∈ ws, x < 18446744073709551616 := by
  obtain ⟨z, rfl, hz, hw⟩ := cells_ints c
  refine ⟨z.map Int.toNat, ?_, by simp [hz], fun x hx => ?_⟩
  · simp only [wcells, List.map_map]
    refine List.map_congr_left fun x hx => ?_
    obtain ⟨n, rfl, _⟩ := u64_in (hw x hx)
    simp
  · obtain ⟨y, hy, rfl⟩ := List.mem_map.1 hx
    obtain ⟨n, rfl, hn⟩ := u64_in (hw y hy)
    simpa using hn
end Go.Proofs.Ytpabmkicdcilpaa

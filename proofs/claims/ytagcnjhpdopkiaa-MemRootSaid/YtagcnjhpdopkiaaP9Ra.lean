/- The root's words, read by the reference. -/
import Derived.Test.YtagcnjhpdopkiaaP9Mg
namespace Go.Proofs.Ytagcnjhpdopkiaa
open Go.Vm
set_option linter.unusedSimpArgs false
set_option linter.unusedVariables false
set_option maxRecDepth 100000
variable {T : Vm.Prog} {h : AH}
def rootC : List AV := [.int .i64 4, .int .u64 0, .str [], .nilSlice, .nilSlice]
theorem root_at {i : Nat} (hi : i < 264) : rootW[i]? = some (if i = 1 then 4 else 0) := by
  unfold rootW
  match i with
  | 0 => rfl
  | 1 => rfl
  | i + 2 =>
    rw [List.getElem?_cons_succ, List.getElem?_cons_succ, List.getElem?_replicate, if_pos (by omega), if_neg (by omega)]
theorem root_len : rootW.length = 264 := by simp [rootW]
theorem root_cell {i : Nat} (hi : i < 264) : (wcells rootW)[i]? = some (.int .u64 ((if i = 1 then 4 else 0 : Nat) : Int)) := by rw [wcells, List.getElem?_map, root_at hi]; rfl
theorem size4_ref (k : Fits T) : Gives T 41 [.int .i64 4] h fun r h' => r = .int .i64 264 ∧ h' = h := by
  refine gives_func (k.env _ (by decide)) (k.at (fn := a41) rfl) rfl ?_
  simp only [a41, c41, vms, vmc, AOpd.val, Nat.reduceEqDiff, reduceCtorEq, Nat.reduceAdd, Nat.reduceBEq, show ((4 : Int) == 0) = false from rfl, show ((4 : Int) == 1) = false from rfl, show ((4 : Int) == 2) = false from rfl, show ((4 : Int) == 3) = false from rfl, show ((4 : Int) == 4) = true from rfl]
  exact ⟨trivial, trivial⟩
theorem high4_ref (k : Fits T) : Gives T 76 [.int .i64 4] h fun r h' => r = .int .i64 256 ∧ h' = h := by
  refine gives_func (k.env _ (by decide)) (k.at (fn := a76) rfl) rfl ?_
  simp only [a76, c76, vms, vmc, AOpd.val, Nat.reduceEqDiff, reduceCtorEq, Nat.reduceAdd, Nat.reduceBEq, show ((4 : Int) == 1) = false from rfl, show ((4 : Int) == 2) = false from rfl, show ((4 : Int) == 3) = false from rfl, show ((4 : Int) == 4) = true from rfl]
  exact ⟨trivial, trivial⟩
theorem right_ref (k : Fits T) (hl : Low h) : Gives T 77 [.agg rootC] h fun r h' => r = .bool true ∧ Quiet h h' ∧ Low h' := by
  refine gives_func (k.env _ (by decide)) (k.at (fn := a77) rfl) rfl ?_
  have fa : ∀ j, fieldAddrV j (.ptr h.next 0) = some (.ptr h.next (0 + j)) := fun j => rfl
  have hg : (h.new (.cells [.int .i64 4, .int .u64 0, .str [], .nilSlice, .nilSlice] true)).get h.next = some (.cells [.int .i64 4, .int .u64 0, .str [], .nilSlice, .nilSlice] true) := get_new_same
  have l0 := load_at hg (i := 0) rfl
  have l1 := load_at hg (i := 1) rfl
  have l2 := load_at hg (i := 2) rfl
  have l3 := load_at hg (i := 3) rfl
  have l4 := load_at hg (i := 4) rfl
  simp only [a77, c77, vms, vmc, AOpd.val, Nat.reduceEqDiff, reduceCtorEq, Nat.reduceAdd, Nat.reduceBEq, items_test, rootC, box_agg, fa, l0, l1, l2, l3, l4, Nat.zero_add, show decide ((4 : Int) < 1) = false from rfl, show decide ((4 : Int) > 4) = false from rfl, show binV .and (.int .u64 0) (.int .u64 3) = some (.int .u64 0) from rfl, show ((0 : Int) == 3) = false from rfl, show decide ((([] : List UInt8).length : Int) > 12) = false from rfl, show (((0 : Nat) : Int) != ((0 : Nat) : Int)) = false from rfl]
  refine Gives.bind ((high4_ref k).mono ?_)
  rintro _ _ ⟨rfl, rfl⟩
  simp only [vms, vmc, AOpd.val, Nat.reduceEqDiff, reduceCtorEq, Nat.reduceAdd, Nat.reduceBEq, items_test, show decide (((0 : Nat) : Int) > 256) = false from rfl]
  rw [items_look (look_want (by simp only [vms, vmc, AOpd.val, Nat.reduceEqDiff, reduceCtorEq, Nat.reduceAdd, Nat.reduceBEq]) (look_load (v := .nilSlice) (by simp only [vms, vmc, AOpd.val, Nat.reduceEqDiff, reduceCtorEq, Nat.reduceAdd, Nat.reduceBEq, fa, Nat.zero_add]; exact l3) (by simp only [vms, vmc, AOpd.val, Nat.reduceEqDiff, reduceCtorEq, Nat.reduceAdd, Nat.reduceBEq]) (by simp [AV.beq])))]
  simp only [vms, vmc, AOpd.val, Nat.reduceEqDiff, reduceCtorEq, Nat.reduceAdd, Nat.reduceBEq, items_test, fa, l0, l1, l2, l3, l4, Nat.zero_add]
  refine wpc_loop (fun m f h' => f.at 48 = .int .i64 0 ∧ f.at 49 = .int .i64 0 ∧ h' = h.new (.cells [.int .i64 4, .int .u64 0, .str [], .nilSlice, .nilSlice] true)) ?_ 0 _ _ ⟨?_, ?_, rfl⟩
  · rintro m f h' ⟨f46, f47, rfl⟩
    simp only [c77l0, vms, vmc, AOpd.val, Nat.reduceEqDiff, reduceCtorEq, Nat.reduceAdd, Nat.reduceBEq, f46, f47, show decide ((0 : Int) < 0) = false from rfl]
    exact ⟨trivial, (Quiet.refl h).new _, hl.new _⟩
  · simp only [vms, vmc, AOpd.val, Nat.reduceEqDiff, reduceCtorEq, Nat.reduceAdd, Nat.reduceBEq]; rfl
  · simp only [vms, vmc, AOpd.val, Nat.reduceEqDiff, reduceCtorEq, Nat.reduceAdd, Nat.reduceBEq]
theorem words0_ref (k : Fits T) (hl : Low h) : Gives T 79 [.str []] h fun r h' => r = .slice h.next 0 1 0 0 true ∧ h' = h.new (.cells [] true) := by
  refine gives_func (k.env _ (by decide)) (k.at (fn := a79) rfl) rfl ?_
  have q : binV .quo (.int .i64 7) (.int .i64 8) = some (.int .i64 0) := rfl
  have w7 : IntKind.i64.wrap ((([] : List UInt8).length : Int) + 7) = 7 := rfl
  have mk : mkSliceV h 1 8 [.int .u64 0] (.int .i64 0) (.int .i64 0) = some (.slice h.next 0 1 0 0 true, h.new (.cells [] true)) := rfl
  simp only [a79, c79, vms, vmc, AOpd.val, Nat.reduceEqDiff, reduceCtorEq, Nat.reduceAdd, Nat.reduceBEq, w7, q, mk]
  refine wpc_loop (fun m f h' => f.at 0 = .str [] ∧ f.at 3 = .slice h.next 0 1 0 0 true ∧ f.at 4 = .int .i64 0 ∧ h' = h.new (.cells [] true)) ?_ 0 _ _ ⟨?_, ?_, ?_, rfl⟩
  · rintro m f h' ⟨f0, f3, f4, rfl⟩
    simp only [c79l0, vms, vmc, AOpd.val, Nat.reduceEqDiff, reduceCtorEq, Nat.reduceAdd, Nat.reduceBEq, f0, f3, f4, show decide ((0 : Int) < (([] : List UInt8).length : Int)) = false from rfl]
    exact ⟨trivial, trivial⟩
  · simp only [vms, vmc, AOpd.val, Nat.reduceEqDiff, reduceCtorEq, Nat.reduceAdd, Nat.reduceBEq]
  · simp only [vms, vmc, AOpd.val, Nat.reduceEqDiff, reduceCtorEq, Nat.reduceAdd, Nat.reduceBEq]
  · simp only [vms, vmc, AOpd.val, Nat.reduceEqDiff, reduceCtorEq, Nat.reduceAdd, Nat.reduceBEq]
theorem root_set : ((List.replicate 264 (AV.int .u64 0)).set 0 (.int .u64 0)).set 1 (.int .u64 4) = wcells rootW := by
  rw [show (264 : Nat) = 262 + 1 + 1 from rfl, List.replicate_succ, List.replicate_succ]
  simp [wcells, rootW]
/-- The root's words, made anew. -/
def RootV (h : AH) (v : AV) : Prop := ∃ o ex, v = .slice o 0 1 264 264 ex ∧ h.get o = some (.cells (wcells rootW) true)
theorem RootV.quiet {v : AV} (r : RootV h v) (hl : Low h) {h' : AH} (q : Quiet h h') : RootV h' v := by
  obtain ⟨o, ex, rfl, hg⟩ := r
  exact ⟨o, ex, rfl, q.get hg (hl _ _ hg)⟩
theorem RootV.at {v : AV} (r : RootV h v) {i : Nat} (hi : i < 264) : ∃ p, idxAddrV 1 v (.int .i64 (i : Int)) = some p ∧ loadV h false 1 p = some (.int .u64 ((if i = 1 then 4 else 0 : Nat) : Int)) := by
  obtain ⟨o, ex, rfl, hg⟩ := r
  exact ⟨_, idx_nat hi, load_at hg (by rw [Nat.zero_add]; exact root_cell hi)⟩
theorem RootV.len {v : AV} (r : RootV h v) : lenOfV v = some 264 := by
  obtain ⟨o, ex, rfl, hg⟩ := r; rfl
theorem slc24r {o : Nat} {ex : Bool} : slcV 1 (.slice o 0 1 264 264 ex) (some (.int .i64 2)) (some (.int .i64 4)) none = some (.slice o 2 1 2 262 ex) := by
  simp [slcV, bounds, boundM, boundH, boundL, natOf, Option.filter]
theorem head_ref (k : Fits T) (hl : Low h) : Gives T 78 [.agg rootC] h fun r h' => RootV h' r ∧ Quiet h h' ∧ Low h' := by
  refine gives_func (k.env _ (by decide)) (k.at (fn := a78) rfl) rfl ?_
  have fa : ∀ j, fieldAddrV j (.ptr h.next 0) = some (.ptr h.next (0 + j)) := fun j => rfl
  have q1 : Quiet h (h.new (.cells [.int .i64 4, .int .u64 0, .str [], .nilSlice, .nilSlice] true)) := (Quiet.refl _).new _
  have lo1 : Low (h.new (.cells [.int .i64 4, .int .u64 0, .str [], .nilSlice, .nilSlice] true)) := hl.new _
  have hg : (h.new (.cells [.int .i64 4, .int .u64 0, .str [], .nilSlice, .nilSlice] true)).get h.next = some (.cells [.int .i64 4, .int .u64 0, .str [], .nilSlice, .nilSlice] true) := get_new_same
  have n1 : (h.new (.cells [.int .i64 4, .int .u64 0, .str [], .nilSlice, .nilSlice] true)).next = h.next + 1 := rfl
  simp only [a78, c78, vms, vmc, AOpd.val, Nat.reduceEqDiff, reduceCtorEq, Nat.reduceAdd, Nat.reduceBEq, rootC, box_agg, fa, Nat.zero_add, load_at hg (i := 0) rfl]
  generalize (h.new (.cells [.int .i64 4, .int .u64 0, .str [], .nilSlice, .nilSlice] true)) = h1 at *
  refine Gives.bind ((size4_ref k).mono ?_)
  rintro _ _ ⟨rfl, rfl⟩
  rename_i h1
  have mk : mkSliceV h1 1 8 [.int .u64 0] (.int .i64 264) (.int .i64 264) = some (.slice h1.next 0 1 264 264 true, h1.new (.cells (List.replicate 264 (.int .u64 0)) true)) := by
    have := mkSlice_nat (h := h1) (sz := 1) (bytes := 8) (zero := [.int .u64 0]) (k := .i64) (k' := .i64) (Nat.le_refl 264) (by omega) (by omega)
    rw [rep_one] at this
    exact this
  obtain ⟨o, ho⟩ : ∃ o, o = h1.next := ⟨_, rfl⟩
  have g2 : (h1.new (.cells (List.replicate 264 (AV.int .u64 0)) true)).get o = some (.cells (List.replicate 264 (.int .u64 0)) true) := by rw [ho]; exact get_new_same
  have q2 : Quiet h1 (h1.new (.cells (List.replicate 264 (AV.int .u64 0)) true)) := (Quiet.refl _).new _
  have lo2 : Low (h1.new (.cells (List.replicate 264 (AV.int .u64 0)) true)) := lo1.new _
  have hp2 := q2.get hg (lo1 _ _ hg)
  simp only [vms, vmc, AOpd.val, Nat.reduceEqDiff, reduceCtorEq, Nat.reduceAdd, Nat.reduceBEq, mk]
  rw [← ho]
  generalize (h1.new (.cells (List.replicate 264 (AV.int .u64 0)) true)) = h2 at *
  have ix0 : idxAddrV 1 (.slice o 0 1 264 264 true) (.int .i64 0) = some (.ptr o 0) := idx_nat (i := 0) (by decide)
  have ix1 : idxAddrV 1 (.slice o 0 1 264 264 true) (.int .i64 1) = some (.ptr o 1) := idx_nat (i := 1) (by decide)
  have st3 := store_int (k := .u64) (n := 0) g2 (show 0 < (List.replicate 264 (AV.int .u64 0)).length by simp)
  have hpo : h.next ≠ o := by omega
  have g3 : (h2.set o (.cells ((List.replicate 264 (AV.int .u64 0)).set 0 (.int .u64 0)) true)).get o = some (.cells ((List.replicate 264 (AV.int .u64 0)).set 0 (.int .u64 0)) true) := get_set_same
  have hp3 : (h2.set o (.cells ((List.replicate 264 (AV.int .u64 0)).set 0 (.int .u64 0)) true)).get h.next = some (.cells [.int .i64 4, .int .u64 0, .str [], .nilSlice, .nilSlice] true) := by rw [AH.get_set, if_neg (Ne.symm hpo)]; exact hp2
  have lo3 : Low (h2.set o (.cells ((List.replicate 264 (AV.int .u64 0)).set 0 (.int .u64 0)) true)) := lo2.set (lo2 _ _ g2) _
  have q3 : Quiet h (h2.set o (.cells ((List.replicate 264 (AV.int .u64 0)).set 0 (.int .u64 0)) true)) := (q1.trans q2).set (by omega) _
  simp only [vms, vmc, AOpd.val, Nat.reduceEqDiff, reduceCtorEq, Nat.reduceAdd, Nat.reduceBEq, fa, Nat.zero_add, load_at hp2 (i := 1) rfl, ix0, st3]
  generalize (h2.set o (.cells ((List.replicate 264 (AV.int .u64 0)).set 0 (.int .u64 0)) true)) = h3 at *
  have st4 := store_int (k := .u64) (n := 4) g3 (show 1 < ((List.replicate 264 (AV.int .u64 0)).set 0 (.int .u64 0)).length by simp)
  rw [root_set] at st4
  have g4 : (h3.set o (.cells (wcells rootW) true)).get o = some (.cells (wcells rootW) true) := get_set_same
  have hp4 : (h3.set o (.cells (wcells rootW) true)).get h.next = some (.cells [.int .i64 4, .int .u64 0, .str [], .nilSlice, .nilSlice] true) := by rw [AH.get_set, if_neg (Ne.symm hpo)]; exact hp3
  have lo4 : Low (h3.set o (.cells (wcells rootW) true)) := lo3.set (lo3 _ _ g3) _
  have q4 : Quiet h (h3.set o (.cells (wcells rootW) true)) := q3.set (by omega) _
  have w4 : IntKind.u64.wrap 4 = 4 := rfl
  have w0 : IntKind.u64.wrap (([] : List UInt8).length : Int) = 0 := rfl
  have w00 : IntKind.u64.wrap ((0 : Nat) : Int) = 0 := rfl
  have s8 : binV .shl (.int .u64 0) (.int .u64 8) = some (.int .u64 0) := rfl
  have s16 : binV .shl (.int .u64 0) (.int .u64 16) = some (.int .u64 0) := rfl
  have o4 : binV .or (.int .u64 4) (.int .u64 0) = some (.int .u64 4) := rfl
  simp only [vms, vmc, AOpd.val, Nat.reduceEqDiff, reduceCtorEq, Nat.reduceAdd, Nat.reduceBEq, fa, Nat.zero_add, load_at hp3 (i := 0) rfl, load_at hp3 (i := 2) rfl, load_at hp3 (i := 3) rfl, w4, w0, w00, s8, s16, o4, ix1, st4, slc24r, load_at hp4 (i := 2) rfl]
  generalize (h3.set o (.cells (wcells rootW) true)) = h4 at *
  refine Gives.bind ((words0_ref k lo4).mono ?_)
  rintro _ _ ⟨rfl, rfl⟩
  have q5 : Quiet h4 (h4.new (.cells [] true)) := (Quiet.refl _).new _
  have cp : copyV 1 (h4.new (.cells [] true)) (.slice o 2 1 2 262 true) (.slice h4.next 0 1 0 0 true) = some (.int .i64 ((0 : Nat) : Int), h4.new (.cells [] true)) := by
    simp [copyV, len_slice, AH.elems, AH.load, get_new_same]
  simp only [vms, vmc, AOpd.val, Nat.reduceEqDiff, reduceCtorEq, Nat.reduceAdd, Nat.reduceBEq, cp]
  exact ⟨⟨o, true, rfl, q5.get g4 (lo4 _ _ g4)⟩, q4.trans q5, lo4.new _⟩
theorem encode_ref (k : Fits T) (hl : Low h) : Gives T 44 [.agg rootC] h fun r h' => RootV h' r ∧ Quiet h h' ∧ Low h' := by
  refine gives_func (k.env _ (by decide)) (k.at (fn := a44) rfl) rfl ?_
  have fa : ∀ j, fieldAddrV j (.ptr h.next 0) = some (.ptr h.next (0 + j)) := fun j => rfl
  have q1 : Quiet h (h.new (.cells rootC true)) := (Quiet.refl _).new _
  have lo1 : Low (h.new (.cells rootC true)) := hl.new _
  have hg : (h.new (.cells rootC true)).get h.next = some (.cells rootC true) := get_new_same
  simp only [a44, c44, vms, vmc, AOpd.val, Nat.reduceEqDiff, reduceCtorEq, Nat.reduceAdd, Nat.reduceBEq, box_agg, load_all hg (n := 5) rfl]
  generalize (h.new (.cells rootC true)) = h1 at *
  refine Gives.bind ((right_ref k lo1).mono ?_)
  rintro _ h2 ⟨rfl, q2, lo2⟩
  have hp2 := q2.get hg (lo1 _ _ hg)
  simp only [vms, vmc, AOpd.val, Nat.reduceEqDiff, reduceCtorEq, Nat.reduceAdd, Nat.reduceBEq, Bool.not_true, load_all hp2 (n := 5) rfl]
  refine Gives.bind ((head_ref k lo2).mono ?_)
  rintro rv h3 ⟨r3, q3, lo3⟩
  have hp3 := q3.get hp2 (lo2 _ _ hp2)
  have e0 : loadV h3 false 1 (.ptr h.next 0) = some (.int .i64 4) := load_at hp3 rfl
  have e3 : loadV h3 false 1 (.ptr h.next 3) = some .nilSlice := load_at hp3 rfl
  simp only [vms, vmc, AOpd.val, Nat.reduceEqDiff, reduceCtorEq, Nat.reduceAdd, Nat.reduceBEq, fa, Nat.zero_add, e0, e3, show ((4 : Int) == 1) = false from rfl, show ((4 : Int) == 2) = false from rfl, show ((4 : Int) == 3) = false from rfl, show ((4 : Int) == 4) = true from rfl]
  refine wpc_loop (fun m f h' => f.at 3 = rv ∧ f.at 114 = .int .i64 ((0 : Nat) : Int) ∧ f.at 115 = .int .i64 0 ∧ h' = h3) ?_ 0 _ _ ⟨?_, ?_, ?_, rfl⟩
  · rintro m f h' ⟨f3, f4, f5, rfl⟩
    simp only [c44l3, vms, vmc, AOpd.val, Nat.reduceEqDiff, reduceCtorEq, Nat.reduceAdd, Nat.reduceBEq, f3, f4, f5, show decide ((0 : Int) < ((0 : Nat) : Int)) = false from rfl]
    exact ⟨r3, (q1.trans q2).trans q3, lo3⟩
  · simp only [vms, vmc, AOpd.val, Nat.reduceEqDiff, reduceCtorEq, Nat.reduceAdd, Nat.reduceBEq]
  · simp only [vms, vmc, AOpd.val, Nat.reduceEqDiff, reduceCtorEq, Nat.reduceAdd, Nat.reduceBEq]
  · simp only [vms, vmc, AOpd.val, Nat.reduceEqDiff, reduceCtorEq, Nat.reduceAdd, Nat.reduceBEq]
end Go.Proofs.Ytagcnjhpdopkiaa

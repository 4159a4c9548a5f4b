/- Lists of blocks: where an id stands. -/
import Derived.Test.YteokopjiaiflnaaP20L
namespace Go.Proofs.Yteokopjiaiflnaa
open Go.Vm
set_option linter.unusedSimpArgs false
set_option linter.unusedVariables false
set_option maxRecDepth 100000
variable {T : Vm.Prog} {h : AH}
def BlkV (h : AH) (x : AV) (b : List Int) : Prop := Sees h x (izs b) ∧ capOk x
def BlksV (h : AH) (v : AV) (bs : List (List Int)) : Prop := ∃ vs, Sees h v vs ∧ capOk v ∧ vs.length = bs.length ∧ ∀ (i : Nat) x b, vs[i]? = some x → bs[i]? = some b → BlkV h x b
def ListV (h : AH) (v : AV) (bs : List (List Int)) : Prop := ∃ sl, v = .agg [sl] ∧ BlksV h sl bs
theorem BlkV.keep {h' : AH} {x : AV} {b : List Int} (s : BlkV h x b) (hl : Low h) (q : Quiet h h') : BlkV h' x b := ⟨sees_keep s.1 hl q, s.2⟩
theorem BlksV.keep {h' : AH} {v : AV} {bs : List (List Int)} (s : BlksV h v bs) (hl : Low h) (q : Quiet h h') : BlksV h' v bs := by
  obtain ⟨vs, h1, h2, h3, h4⟩ := s
  exact ⟨vs, sees_keep h1 hl q, h2, h3, fun i x b hx hb => (h4 i x b hx hb).keep hl q⟩
theorem ListV.keep {h' : AH} {v : AV} {bs : List (List Int)} (s : ListV h v bs) (hl : Low h) (q : Quiet h h') : ListV h' v bs := by
  obtain ⟨sl, rfl, h1⟩ := s
  exact ⟨sl, rfl, h1.keep hl q⟩
theorem BlksV.len {v : AV} {bs : List (List Int)} (s : BlksV h v bs) : lenOfV v = some bs.length := by
  obtain ⟨vs, h1, h2, h3, h4⟩ := s
  rw [h1.len, h3]
theorem BlksV.at {v : AV} {bs : List (List Int)} (s : BlksV h v bs) {i : Nat} {b : List Int} (hb : bs[i]? = some b) (k : IntKind) : ∃ a x, idxAddrV 1 v (.int k (i : Int)) = some a ∧ loadV h false 1 a = some x ∧ BlkV h x b := by
  obtain ⟨vs, h1, h2, h3, h4⟩ := s
  have hlt := (List.getElem?_eq_some_iff.1 hb).1
  obtain ⟨x, hx⟩ : ∃ x, vs[i]? = some x := ⟨_, List.getElem?_eq_getElem (h3 ▸ hlt)⟩
  obtain ⟨a, ha, hla⟩ := h1.at hx k
  exact ⟨a, x, ha, hla, h4 i x b hx hb⟩
theorem BlksV.cell {v : AV} {bs : List (List Int)} (s : BlksV h v bs) : v.cells = [v] ∧ v.flat = true ∧ AV.beq v v = true := by
  obtain ⟨vs, h1, _⟩ := s
  exact ⟨(sees_cell h1).1, (sees_cell h1).2, sees_beq h1⟩
theorem box_list {sl : AV} : boxV h (.agg [sl]) = some (.ptr h.next 0, h.new (.cells [sl] true)) := rfl
theorem load_box {sl : AV} {g : AH} {p : Nat} (hg : g.get p = some (.cells [sl] true)) : loadV g false 1 (.ptr p 0) = some sl := load_at hg rfl
theorem load_boxA {sl : AV} {g : AH} {p : Nat} (hg : g.get p = some (.cells [sl] true)) : loadV g true 1 (.ptr p 0) = some (.agg [sl]) := load_all hg rfl
theorem fa0 (p : Nat) : fieldAddrV 0 (.ptr p 0) = some (.ptr p 0) := rfl
theorem cmp_ok (k : Base T) {x : AV} {b : List Int} {id : Int} (s : BlkV h x b) (hb : b ≠ []) : Gives T 49 [x, .int .i64 id] h fun r h' => r = .int .i64 (if hd b ≤ id then -1 else 1) ∧ h' = h := by
  refine gives_func (k.env 49 (by decide)) (k.at (n := 49) rfl) rfl ?_
  obtain ⟨y, r, rfl⟩ := List.exists_cons_of_ne_nil hb
  obtain ⟨p, hp1, hp2⟩ := s.1.at (i := 0) (x := .int .i64 y) rfl .i64
  have hp1' : idxAddrV 1 x (.int .i64 0) = some p := hp1
  simp only [a49, c49, vms, vmc, AOpd.val, Nat.reduceEqDiff, reduceCtorEq, Nat.reduceAdd, Nat.reduceBEq, hp1', hp2]
  by_cases hy : y ≤ id
  · have : hd (y :: r) ≤ id := hy
    simp only [vms, vmc, AOpd.val, Nat.reduceEqDiff, reduceCtorEq, Nat.reduceAdd, Nat.reduceBEq, decide_eq_true hy, if_pos this]
    exact ⟨trivial, trivial⟩
  · have : ¬ hd (y :: r) ≤ id := hy
    simp only [vms, vmc, AOpd.val, Nat.reduceEqDiff, reduceCtorEq, Nat.reduceAdd, Nat.reduceBEq, decide_eq_false hy, if_neg this]
    exact ⟨trivial, trivial⟩
theorem bsf_ok (k : Base T) {v : AV} {bs : List (List Int)} {id : Int} (s : BlksV h v bs) (g : Good bs) :
    Gives T 48 [v, .int .i64 id, .func (.func 49) [] []] h fun w h' => w = .tuple [.int .i64 (bcnt bs id : Int), .bool false] ∧ h' = h := by
  refine gives_func (k.env 48 (by decide)) (k.at (n := 48) rfl) rfl ?_
  have ln := s.len
  have hp := bcnt_le bs id
  have hs := g.len
  simp only [a48, c48, vms, vmc, AOpd.val, Nat.reduceEqDiff, reduceCtorEq, Nat.reduceAdd, Nat.reduceBEq, ln]
  refine wpc_loop (fun m f h' => ∃ i j, m = j - i ∧ i ≤ bcnt bs id ∧ bcnt bs id ≤ j ∧ j ≤ bs.length ∧ h' = h ∧ f.at 0 = v ∧ f.at 1 = .int .i64 id ∧ f.at 2 = .func (.func 49) [] [] ∧ f.at 8 = .int .i64 (bs.length : Int) ∧ f.at 9 = .int .i64 (i : Int) ∧ f.at 10 = .int .i64 (j : Int)) ?_ bs.length _ _ ⟨0, bs.length, by omega, by omega, by omega, by omega, rfl, ?_⟩
  · rintro m f h' ⟨i, j, rfl, h1, h2, h3, rfl, f0, f1, f2, f8, f9, f10⟩
    by_cases hij : i < j
    · have d1 : decide ((i : Int) < (j : Int)) = true := by rw [decide_eq_true_eq]; omega
      obtain ⟨b, hb⟩ : ∃ b, bs[(i + j) / 2]? = some b := ⟨_, List.getElem?_eq_getElem (by omega)⟩
      obtain ⟨p, x, hp1, hp2, hx⟩ := s.at hb .i64
      simp only [c48l0, vms, vmc, AOpd.val, Nat.reduceEqDiff, reduceCtorEq, Nat.reduceAdd, Nat.reduceBEq, f0, f1, f2, f9, f10, d1, half_i64 (show i + j < 4611686018427387904 by omega), u64_of (show i + j < 4611686018427387904 by omega), shr1 (show i + j < 4611686018427387904 by omega), i64_of (show (i + j) / 2 < 4611686018427387904 by omega), hp1, hp2, step_callV, callVal_func]
      refine Gives.bind ((cmp_ok k hx (g.block hb).1).mono ?_)
      rintro _ _ ⟨rfl, rfl⟩
      have hiff := g.bcnt_iff (id := id) hb
      by_cases hlt : hd b ≤ id
      · have w1 : IntKind.i64.wrap ((((i + j) / 2 : Nat) : Int) + 1) = (((i + j) / 2 + 1 : Nat) : Int) := by rw [wrap_i64 (by omega) (by omega)]; omega
        have := hiff.2 hlt
        simp only [vms, vmc, AOpd.val, Nat.reduceEqDiff, reduceCtorEq, Nat.reduceAdd, Nat.reduceBEq, f0, f1, f2, f8, f9, f10, if_pos hlt, show decide ((-1 : Int) < 0) = true from rfl, w1]
        exact ⟨j - ((i + j) / 2 + 1), by omega, (i + j) / 2 + 1, j, rfl, by omega, h2, h3, by trivial, by trivial, by trivial, by trivial, by trivial, by trivial, by trivial⟩
      · have : ¬ (i + j) / 2 < bcnt bs id := fun hh => hlt (hiff.1 hh)
        simp only [vms, vmc, AOpd.val, Nat.reduceEqDiff, reduceCtorEq, Nat.reduceAdd, Nat.reduceBEq, f0, f1, f2, f8, f9, f10, if_neg hlt, show decide ((1 : Int) < 0) = false from rfl]
        exact ⟨(i + j) / 2 - i, by omega, i, (i + j) / 2, rfl, h1, by omega, by omega, by trivial, by trivial, by trivial, by trivial, by trivial, by trivial, by trivial⟩
    · have d1 : decide ((i : Int) < (j : Int)) = false := by rw [decide_eq_false_iff_not]; omega
      have hi : i = bcnt bs id := by omega
      subst hi
      simp only [c48l0, vms, vmc, AOpd.val, Nat.reduceEqDiff, reduceCtorEq, Nat.reduceAdd, Nat.reduceBEq, f9, f10, d1, f0, f1, f2, f8]
      by_cases hn : bcnt bs id < bs.length
      · have d2 : decide (((bcnt bs id : Nat) : Int) < (bs.length : Int)) = true := by rw [decide_eq_true_eq]; omega
        obtain ⟨b, hb⟩ : ∃ b, bs[bcnt bs id]? = some b := ⟨_, List.getElem?_eq_getElem hn⟩
        obtain ⟨p, x, hp1, hp2, hx⟩ := s.at hb .i64
        have hnl : ¬ hd b ≤ id := fun hh => by have := (g.bcnt_iff hb).2 hh; omega
        simp only [vms, vmc, AOpd.val, Nat.reduceEqDiff, reduceCtorEq, Nat.reduceAdd, Nat.reduceBEq, d2, f0, f1, f2, f9, hp1, hp2, step_callV, callVal_func]
        refine Gives.bind ((cmp_ok k hx (g.block hb).1).mono ?_)
        rintro _ _ ⟨rfl, rfl⟩
        simp only [vms, vmc, AOpd.val, Nat.reduceEqDiff, reduceCtorEq, Nat.reduceAdd, Nat.reduceBEq, if_neg hnl, show ((1 : Int) == 0) = false from rfl]
        exact ⟨by trivial, by trivial⟩
      · have d2 : decide (((bcnt bs id : Nat) : Int) < (bs.length : Int)) = false := by rw [decide_eq_false_iff_not]; omega
        simp only [vms, vmc, AOpd.val, Nat.reduceEqDiff, reduceCtorEq, Nat.reduceAdd, Nat.reduceBEq, d2, f9]
        exact ⟨by trivial, by trivial⟩
  · simp only [vms, vmc, AOpd.val, Nat.reduceEqDiff, reduceCtorEq, Nat.reduceAdd, Nat.reduceBEq]
    simp
theorem block_ok (k : Base T) (hl : Low h) {v : AV} {bs : List (List Int)} {id : Int} (s : ListV h v bs) (g : Good bs) :
    Gives T 41 [v, .int .i64 id] h fun r h' => r = .int .i64 (kOf bs id : Int) ∧ Quiet h h' ∧ Low h' := by
  refine gives_func (k.env 41 (by decide)) (k.at (n := 41) rfl) rfl ?_
  obtain ⟨sl, rfl, sb⟩ := s
  have q1 := (Quiet.refl h).new (.cells [sl] true)
  have lo1 := hl.new (.cells [sl] true)
  have hg : (h.new (.cells [sl] true)).get h.next = some (.cells [sl] true) := get_new_same
  simp only [a41, c41, vms, vmc, AOpd.val, Nat.reduceEqDiff, reduceCtorEq, Nat.reduceAdd, Nat.reduceBEq, box_list, fa0, load_box hg]
  refine Gives.bind ((bsf_ok k (sb.keep hl q1) g).mono ?_)
  rintro _ _ ⟨rfl, rfl⟩
  have hb := bcnt_le bs id
  have hs := g.len
  have w1 : IntKind.i64.wrap (((bcnt bs id : Nat) : Int) - 1) = ((bcnt bs id : Nat) : Int) - 1 := wrap_i64 (by omega) (by omega)
  have mx : mnxAll true (.int .i64 (((bcnt bs id : Nat) : Int) - 1)) [.int .i64 0] = some (.int .i64 ((kOf bs id : Nat) : Int)) := by
    simp only [mnxAll, mnxV, if_true, Option.bind_some]
    unfold kOf
    congr 2
    split <;> omega
  simp only [vms, vmc, AOpd.val, Nat.reduceEqDiff, reduceCtorEq, Nat.reduceAdd, Nat.reduceBEq, step_mnx, w1, mx]
  exact ⟨by trivial, q1, lo1⟩
end Go.Proofs.Yteokopjiaiflnaa

/- Chapter 23: a set of ids: cloned, sorted, each once. -/
import Derived.Test.YtjbkjffolnodjaaP23Heap
import Derived.Test.YtjbkjffolnodjaaVmZz
import Derived.Test.YtjbkjffolnodjaaVmZf
import Derived.Lib.SlicesCompact
namespace Go.Proofs.Ytjbkjffolnodjaa
open Go.Vm
set_option linter.unusedSimpArgs false
set_option linter.unusedVariables false
set_option maxRecDepth 100000
variable {T : Vm.Prog} {h h0 h' : AH}
def sortI (l : List Int) : List Int := l.mergeSort fun x y => decide (x ≤ y)
theorem sortI_len (l : List Int) : (sortI l).length = l.length := List.length_mergeSort l
def cptI (l : List Int) : List Int := Lib.compact l ++ List.replicate (l.length - (Lib.compact l).length) 0
theorem compactI_len (l : List Int) : (Lib.compact l).length ≤ l.length := by
  unfold Lib.compact Lib.compactUpTo
  rw [List.length_map]
  exact Nat.le_trans (List.length_filter_le _ _) (by simp)
theorem cptI_len (l : List Int) : (cptI l).length = l.length := by
  have := compactI_len l
  simp [cptI]; omega
def setI (l : List Int) : List Int := Lib.compact (sortI l)
theorem setI_len (l : List Int) : (setI l).length ≤ l.length := by
  have := compactI_len (sortI l)
  rw [sortI_len] at this
  exact this
theorem setI_nil : setI [] = [] := List.eq_nil_of_length_eq_zero (by have := setI_len []; simpa using this)
def retNone : Nat → Nat → Nat → Bool → List Int → AV := fun _ _ _ _ _ => AV.none
def retCpt : Nat → Nat → Nat → Bool → List Int → AV := fun o off cap ex zs => .slice o off 1 (Lib.compact zs).length cap ex
def sortZ (args : List AV) (h : AH) : Option (AV × AH) := match args with
  | [.slice _ _ 1 0 0 true] => some (AV.none, h)
  | _ => turnV encZ sortI retNone AV.none args h
def cptZ (args : List AV) (h : AH) : Option (AV × AH) := match args with
  | [.slice o off 1 0 0 true] => some (.slice o off 1 0 0 true, h)
  | _ => turnV encZ cptI retCpt .nilSlice args h
/-- The functions, slices.Sort and slices.Compact as the library says. -/
structure BaseS (T : Vm.Prog) : Prop where
  base : Base T
  srt : T.env 37 = some sortZ
  cpt : T.env 38 = some cptZ
theorem row_empty {o : Nat} {l : List Int} (row : Row1 h (.slice o 0 1 0 0 true) (izs l)) : l = [] := by
  have h1 := row.sees.len
  rw [izs_len] at h1
  simp [lenOfV] at h1
  exact List.eq_nil_of_length_eq_zero h1.symm
theorem gives_same {T' : Vm.Prog} {g : Nat} {args : List AV} {Q : AV → AH → Prop} (he : run T g args h = run T' g args h) (G : Gives T' g args h Q) : Gives T g args h Q := by
  obtain ⟨r, h', hr, hq⟩ := G
  exact ⟨r, h', by rw [he]; exact hr, hq⟩
theorem sort_ok (k : BaseS T) (hl : Low h) {v : AV} {l : List Int} (row : Row1 h v (izs l)) (hs : l.length < 1000000) :
    Gives T 37 [v] h fun r h' => Row1 h' v (izs (sortI l)) ∧ Mods h h' (fun o => o ∈ objs v) ∧ Low h' ∧ h'.next = h.next := by
  by_cases hx : ∃ o, v = .slice o 0 1 0 0 true
  · obtain ⟨o, rfl⟩ := hx
    obtain rfl := row_empty row
    exact ⟨AV.none, h, by rw [run_env k.srt]; rfl, by rw [show sortI [] = [] by simp [sortI]]; exact row, Mods.refl _ _, hl, rfl⟩
  · have hne : ∀ o, v ≠ .slice o 0 1 0 0 true := fun o e => hx ⟨o, e⟩
    have he : (withEnv T 37 (turnV encZ sortI retNone AV.none)).env 37 = some (turnV encZ sortI retNone AV.none) := by simp [withEnv]
    refine gives_same (T' := withEnv T 37 (turnV encZ sortI retNone AV.none)) ?_ ((turn_row (E := encZ) he sortI_len hl row hs hne).mono ?_)
    · rw [run_env k.srt, run_env he]
      rcases row with ⟨rfl, _⟩ | ⟨o, cap, ex, m, rfl, _⟩
      · rfl
      · unfold sortZ
        split
        · rename_i heq
          simp only [List.cons.injEq, and_true, AV.slice.injEq] at heq
          obtain ⟨h1, h2, _, h4, h5, h6⟩ := heq
          exact absurd (by rw [h4, h5, h6]) (hne o)
        · rfl
    · rintro r h' ⟨_, h2, h3, h4, h5⟩
      exact ⟨h2, h3, h4, h5⟩
theorem cpt_ok (k : BaseS T) (hl : Low h) {v : AV} {l : List Int} (row : Row1 h v (izs l)) (hs : l.length < 1000000) :
    Gives T 38 [v] h fun r h' => Row1 h' r (izs (Lib.compact l)) ∧ (∀ o ∈ objs r, o ∈ objs v) ∧ Mods h h' (fun o => o ∈ objs v) ∧ Low h' ∧ h'.next = h.next := by
  by_cases hx : ∃ o, v = .slice o 0 1 0 0 true
  · obtain ⟨o, rfl⟩ := hx
    obtain rfl := row_empty row
    have e : Lib.compact ([] : List Int) = [] := List.eq_nil_of_length_eq_zero (by have := compactI_len []; simpa using this)
    exact ⟨_, h, by rw [run_env k.cpt]; rfl, by rw [e]; exact row, fun o ho => ho, Mods.refl _ _, hl, rfl⟩
  · have hne : ∀ o, v ≠ .slice o 0 1 0 0 true := fun o e => hx ⟨o, e⟩
    have he : (withEnv T 38 (turnV encZ cptI retCpt .nilSlice)).env 38 = some (turnV encZ cptI retCpt .nilSlice) := by simp [withEnv]
    refine gives_same (T' := withEnv T 38 (turnV encZ cptI retCpt .nilSlice)) ?_ ((turn_row (E := encZ) he cptI_len hl row hs hne).mono ?_)
    · rw [run_env k.cpt, run_env he]
      rcases row with ⟨rfl, _⟩ | ⟨o, cap, ex, m, rfl, _⟩
      · rfl
      · unfold cptZ
        split
        · rename_i heq
          simp only [List.cons.injEq, and_true, AV.slice.injEq] at heq
          obtain ⟨h1, h2, _, h4, h5, h6⟩ := heq
          exact absurd (by rw [h4, h5, h6]) (hne o)
        · rfl
    · rintro r h' ⟨h1, h2, h3, h4, h5⟩
      refine ⟨?_, ?_, h3, h4, h5⟩
      · rcases h1 with ⟨rfl, rfl, rfl⟩ | ⟨o, cap, ex, rfl, rfl, m, hg, hl1, hl2, hat⟩
        · exact .inl ⟨rfl, rfl⟩
        · have hcl := compactI_len l
          unfold retCpt
          rw [show (Lib.compact l).length = ((izs (Lib.compact l)).map fun x => [x]).length by rw [List.length_map, izs_len]]
          refine .inr ⟨o, cap, ex, m, rfl, hg, by omega, by rw [List.length_map, izs_len]; omega, fun i x hx => ?_⟩
          rw [List.getElem?_map] at hx
          cases hy : (izs (Lib.compact l))[i]? with
          | none => rw [hy] at hx; simp at hx
          | some y =>
            rw [hy] at hx
            simp at hx; subst hx
            refine ⟨rfl, fun j z hz => ?_⟩
            cases j with
            | zero =>
              simp at hz; subst hz
              rw [Nat.mul_one, Nat.add_zero]
              refine hat i _ ?_
              have hi := (List.getElem?_eq_some_iff.1 hy).1
              simp only [cptI, List.map_append]
              exact (List.getElem?_append_left hi).trans hy
            | succ j => simp at hz
      · rcases h1 with ⟨rfl, rfl, rfl⟩ | ⟨o, cap, ex, rfl, rfl, _⟩
        · exact fun o ho => ho
        · exact fun o ho => by simpa [objs, retCpt] using ho
theorem sees_S1 {v : AV} {xs : List AV} (s : Sees h v xs) : SeesS h 1 v (xs.map fun x => [x]) := by
  rcases s with ⟨rfl, rfl⟩ | ⟨o, off, cap, ex, l, rw', rfl, hg, h1, h2⟩
  · exact .inl ⟨rfl, rfl⟩
  · refine .inr ⟨o, off, cap, ex, l, rw', by rw [List.length_map], hg, by rw [List.length_map]; omega, fun i x hx => ?_⟩
    rw [List.getElem?_map] at hx
    cases hy : xs[i]? with
    | none => rw [hy] at hx; simp at hx
    | some y =>
      rw [hy] at hx
      simp at hx; subst hx
      refine ⟨rfl, fun j z hz => ?_⟩
      cases j with
      | zero => simp at hz; subst hz; rw [Nat.mul_one, Nat.add_zero]; exact h2 i y hy
      | succ j => simp at hz
theorem set_ok (k : BaseS T) (hl : Low h) {v : AV} {l : List Int} (s : Sees h v (izs l)) (hs : l.length < 1000000) : Gives T 25 [v] h fun r h' => NewI h h' r (setI l) := by
  refine gives_func (k.base.env _ (by decide)) (k.base.at (fn := a25) rfl) rfl ?_
  simp only [a25, c25, vms, vmc, AOpd.val, Nat.reduceEqDiff, reduceCtorEq, Nat.reduceAdd, Nat.reduceBEq]
  refine Gives.bind ((cloneS_ok (g := 36) (sz := 1) (bytes := 8) (k.base.env _ (by decide)) (k.base.at rfl) hl (sees_S1 s) (by decide) (by decide) (by rw [List.length_map, izs_len]; exact hs)).mono ?_)
  rintro r1 h1 ⟨row1, new1, q1, lo1⟩
  have row1' : Row1 h1 r1 (izs l) := row1
  simp only [vms, vmc, AOpd.val, Nat.reduceEqDiff, reduceCtorEq, Nat.reduceAdd, Nat.reduceBEq]
  refine Gives.bind ((sort_ok k lo1 row1' hs).mono ?_)
  rintro r2 h2 ⟨row2, m2, lo2, n2⟩
  simp only [vms, vmc, AOpd.val, Nat.reduceEqDiff, reduceCtorEq, Nat.reduceAdd, Nat.reduceBEq]
  refine Gives.bind ((cpt_ok k lo2 row2 (by rw [sortI_len]; exact hs)).mono ?_)
  rintro r3 h3 ⟨row3, ob3, m3, lo3, n3⟩
  simp only [vms, vmc, AOpd.val, Nat.reduceEqDiff, reduceCtorEq, Nat.reduceAdd, Nat.reduceBEq]
  refine ⟨row3, fun o ho => new1 o (ob3 o ho), ⟨by have := q1.1; omega, fun o ho hf => ?_⟩, lo3⟩
  have hq := q1.1
  rw [m3.2 o (by omega) fun e => by have := new1 o e; omega, m2.2 o (by omega) fun e => by have := new1 o e; omega]
  exact q1.2 o ho hf
end Go.Proofs.Ytjbkjffolnodjaa

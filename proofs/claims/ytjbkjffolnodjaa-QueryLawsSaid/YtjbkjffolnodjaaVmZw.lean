/- Parts of rows; a row with one element left out. -/
import Derived.Test.YtjbkjffolnodjaaVmZv
namespace Go.Vm
open Go.RowKit
set_option linter.unusedSimpArgs false
set_option linter.unusedVariables false
variable {T : Prog} {h : AH}
theorem sees_keep {h' : AH} {v : AV} {xs : List AV} (s : Sees h v xs) (hl : Low h) (q : Quiet h h') : Sees h' v xs := by
  exact ((Sees.res s hl).quiet q).holds
theorem sees_beq {v : AV} {xs : List AV} (s : Sees h v xs) : AV.beq v v = true := by
  rcases s with ⟨rfl, _⟩ | ⟨o, off, cap, ex, l, rw, rfl, _⟩ <;> simp [AV.beq]
theorem sees_cell {v : AV} {xs : List AV} (s : Sees h v xs) : v.cells = [v] ∧ v.flat = true := by
  rcases s with ⟨rfl, _⟩ | ⟨o, off, cap, ex, l, rw, rfl, _⟩ <;> exact ⟨rfl, rfl⟩
theorem sees_low {v : AV} {xs : List AV} (s : Sees h v xs) (hl : Low h) : ∀ o ∈ objs v, o < h.next := by
  intro p hp
  rcases s with ⟨rfl, _⟩ | ⟨o, off, cap, ex, l, rw, rfl, hg, _⟩
  · simp [objs] at hp
  · simp [objs] at hp; subst hp; exact hl _ _ hg
theorem sees_from {v : AV} {xs : List AV} (s : Sees h v xs) {n : Nat} (hn : n ≤ xs.length) {k : IntKind} : ∃ v', slcV 1 v (some (.int k (n : Int))) none none = some v' ∧ Sees h v' (xs.drop n) ∧ v'.cells = [v'] ∧ v'.flat = true ∧ AV.isDef v' = true ∨ ¬ capOk v := by
  by_cases hc : capOk v
  · rcases s with ⟨rfl, rfl⟩ | ⟨o, off, cap, ex, l, rw, rfl, hg, h1, h2⟩
    · have : n = 0 := by simpa using hn
      subst this
      exact ⟨.nilSlice, .inl ⟨by simp [slcV, bounds, boundM, boundH, boundL, natOf, Option.filter], .inl ⟨rfl, rfl⟩, rfl, rfl, rfl⟩⟩
    · have hc' : xs.length ≤ cap := hc
      refine ⟨.slice o (if (ex || false) && decide (cap = n) then off else off + n * 1) 1 (xs.length - n) (cap - n) (ex || false), .inl ⟨?_, .inr ⟨o, _, _, _, l, rw, by rw [List.length_drop], hg, ?_, ?_⟩, rfl, rfl, rfl⟩⟩
      · simp [slcV, bounds, boundM, boundH, boundL, natOf, Option.filter, hn]
      · rw [List.length_drop]; split <;> omega
      · intro i x hx
        have hi := (List.getElem?_eq_some_iff.1 hx).1
        rw [List.length_drop] at hi
        rw [List.getElem?_drop] at hx
        rw [if_neg (by simp; intro _; omega), show off + n * 1 + i = off + (n + i) by omega]
        exact h2 _ _ hx
  · exact ⟨.nilSlice, .inr hc⟩
theorem sees_tail {v : AV} {xs : List AV} (s : Sees h v xs) (hc : capOk v) {n : Nat} (hn : n ≤ xs.length) {k : IntKind} : ∃ v', slcV 1 v (some (.int k (n : Int))) none none = some v' ∧ Sees h v' (xs.drop n) ∧ v'.cells = [v'] ∧ v'.flat = true ∧ AV.isDef v' = true := by
  obtain ⟨v', h1 | h1⟩ := sees_from s hn (k := k)
  · exact ⟨v', h1⟩
  · exact absurd hc h1
theorem row_cap {v : AV} {xs : List AV} (r : Row1 h v xs) : capOk v := by
  rcases r with ⟨rfl, _⟩ | ⟨o, cap, ex, l, rfl, hg, h1, h2, h3⟩
  · trivial
  · exact h2
end Go.Vm

/- Parts of rows; a row with one element left out. -/
import Derived.Test.YtpabmkicdcilpaaVmZv
namespace Go.Vm
open Go.RowKit
set_option linter.unusedSimpArgs false
set_option linter.unusedVariables false
variable {T : Prog} {h : AH}
theorem sees_keep {h' : AH} {v : AV} {xs : List AV} (s : Sees h v xs) (hl : Low h) (q : Quiet h h') : Sees h' v xs := by
  exact ((Sees.res s hl).quiet q).holds
theorem sees_beq {v : AV} {xs : List AV} (s : Sees h v xs) : AV.beq v v = true := by
  rcases s with ⟨rfl, _⟩ | ⟨o, off, cap, ex, l, rw, rfl, _⟩ <;> simp [AV.beq]
theorem sees_cell {v : AV} {xs : List AV} (s : Sees h v xs) : v.cells = [v] ∧ v.flat = true := by
  rcases s with ⟨rfl, _⟩ | ⟨o, off, cap, ex, l, rw, rfl, _⟩ <;> exact ⟨rfl, rfl⟩
theorem sees_low {v : AV} {xs : List AV} (s : Sees h v xs) (hl : Low h) : ∀ o ∈ objs v, o < h.next := by
  intro p hp
  rcases s with ⟨rfl, _⟩ | ⟨o, off, cap, ex, l, rw, rfl, hg, _⟩
  · simp [objs] at hp
  · simp [objs] at hp; subst hp; exact hl _ _ hg
theorem sees_get {h' : AH} {v : AV} {xs : List AV} (s : Sees h v xs) (hk : ∀ o ∈ objs v, h'.get o = h.get o) : Sees h' v xs := by
  rcases s with ⟨rfl, he⟩ | ⟨o, off, cap, ex, l, rw, rfl, hg, h1⟩
  · exact .inl ⟨rfl, he⟩
  · exact .inr ⟨o, off, cap, ex, l, rw, rfl, (hk o (by simp [objs])).trans hg, h1⟩
theorem row_cap {v : AV} {xs : List AV} (r : Row1 h v xs) : capOk v := by
  rcases r with ⟨rfl, _⟩ | ⟨o, cap, ex, l, rfl, hg, h1, h2, h3⟩
  · trivial
  · exact h2
end Go.Vm

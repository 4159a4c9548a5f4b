/- Parts of rows; a row with one element left out. -/
import Derived.Test.YteajnglncglmfaaDoorVmZv
namespace Go.Vm
open Go.RowKit
set_option linter.unusedSimpArgs false
set_option linter.unusedVariables false
variable {T : Prog} {h : AH}
theorem sees_beq {v : AV} {xs : List AV} (s : Sees h v xs) : AV.beq v v = true := by
  rcases s with ⟨rfl, _⟩ | ⟨o, off, cap, ex, l, rw, rfl, _⟩ <;> simp [AV.beq]
theorem sees_cell {v : AV} {xs : List AV} (s : Sees h v xs) : v.cells = [v] ∧ v.flat = true := by
  rcases s with ⟨rfl, _⟩ | ⟨o, off, cap, ex, l, rw, rfl, _⟩ <;> exact ⟨rfl, rfl⟩
end Go.Vm

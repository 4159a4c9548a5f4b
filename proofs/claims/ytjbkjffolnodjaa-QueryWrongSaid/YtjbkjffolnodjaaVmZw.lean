/- Parts of rows; a row with one element left out. -/
import Derived.Test.YtjbkjffolnodjaaVmZv
namespace Go.Vm
open Go.RowKit
set_option linter.unusedSimpArgs false
set_option linter.unusedVariables false
variable {T : Prog} {h : AH}
theorem sees_keep {h' : AH} {v : AV} {xs : List AV} (s : Sees h v xs) (hl : Low h) (q : Quiet h h') : Sees h' v xs := by
  exact ((Sees.res s hl).quiet q).holds
end Go.Vm

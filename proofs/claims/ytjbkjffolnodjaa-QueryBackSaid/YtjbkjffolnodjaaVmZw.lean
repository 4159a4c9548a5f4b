/- Parts of rows; a row with one element left out. -/
import Derived.Test.YtjbkjffolnodjaaVmZv
namespace Go.Vm
open Go.RowKit
set_option linter.unusedSimpArgs false
set_option linter.unusedVariables false
variable {T : Prog} {h : AH}
end Go.Vm

/- Rows beside what changes; one element behind a row. -/
import Derived.Test.YtakgcpmemalmaaaGreatDoorVmZs
namespace Go.Vm
open Go.RowKit
set_option linter.unusedSimpArgs false
set_option linter.unusedVariables false
variable {T : Vm.Prog} {h : AH}
end Go.Vm

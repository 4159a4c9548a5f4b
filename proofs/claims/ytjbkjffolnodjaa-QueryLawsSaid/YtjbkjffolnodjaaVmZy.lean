/- Ranges over functions, in steps. -/
import Derived.Test.YtjbkjffolnodjaaVmZx
import Derived.Test.YtjbkjffolnodjaaVmS
namespace Go.Vm
set_option linter.unusedSimpArgs false
set_option linter.unusedVariables false
variable {T : Prog} {it : ItH} {cd : ACode → Fr → AH → Out} {f : Fr} {h : AH}
end Go.Vm

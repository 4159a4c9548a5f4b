/- The program that the laws are run in. -/
import Derived.Test.YtjbkjffolnodjaaP23Q
namespace Go.Proofs.Ytjbkjffolnodjaa
open Go.Vm
set_option linter.unusedSimpArgs false
set_option linter.unusedVariables false
set_option maxRecDepth 1000000
noncomputable def lawProg : Vm.Prog := withYes table 3
theorem law_ok : TabOk Try.prog lawProg := ran_yes table_ok (k := 100000) ran
end Go.Proofs.Ytjbkjffolnodjaa

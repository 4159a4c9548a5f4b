/- The closed sentence of chapter 23. -/
import Derived.Test.YtjbkjffolnodjaaP23All
import Derived.Test.YtjbkjffolnodjaaVmZz
namespace Go.Proofs.Ytjbkjffolnodjaa
open Go.Vm
set_option maxRecDepth 1000000
theorem ran : Vm.saysTrue (Vm.arunT table 100000 3 [] Vm.AH.empty) = true := by kernel_rfl
end Go.Proofs.Ytjbkjffolnodjaa

/- The closed sentence of chapter 14. -/
import Derived.Test.YtgecjbbdaahilaaP14Code
namespace Go.Proofs.Ytgecjbbdaahilaa
open Go.Vm
set_option maxRecDepth 1000000
theorem ran : Vm.saysTrue (Vm.arunT table 100000 3 [] Vm.AH.empty) = true := by kernel_rfl
end Go.Proofs.Ytgecjbbdaahilaa

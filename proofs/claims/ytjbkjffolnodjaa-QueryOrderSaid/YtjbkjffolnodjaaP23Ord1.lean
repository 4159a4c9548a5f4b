/- How words bind in a query: the law's runs at each of its arguments. -/
import Derived.Test.YtjbkjffolnodjaaP23Code
namespace Go.Proofs.Ytjbkjffolnodjaa
open Go.Vm
set_option maxRecDepth 1000000
theorem ordttt : Vm.saysTrue (Vm.arunY table 3 100000 6 [.bool true, .bool true, .bool true] Vm.AH.empty) = true := by kernel_rfl
theorem ordttf : Vm.saysTrue (Vm.arunY table 3 100000 6 [.bool true, .bool true, .bool false] Vm.AH.empty) = true := by kernel_rfl
theorem ordtft : Vm.saysTrue (Vm.arunY table 3 100000 6 [.bool true, .bool false, .bool true] Vm.AH.empty) = true := by kernel_rfl
theorem ordtff : Vm.saysTrue (Vm.arunY table 3 100000 6 [.bool true, .bool false, .bool false] Vm.AH.empty) = true := by kernel_rfl
end Go.Proofs.Ytjbkjffolnodjaa

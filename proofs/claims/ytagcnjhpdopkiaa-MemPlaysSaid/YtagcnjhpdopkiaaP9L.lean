/- The program that the laws of chapter 9 are asked of. -/
import Derived.Test.YtagcnjhpdopkiaaP9T
import Derived.Test.YtagcnjhpdopkiaaVmZj
namespace Go.Proofs.Ytagcnjhpdopkiaa
open Go.Vm
def lawProg : Vm.Prog:=withYes table 3
theorem law_fits : Fits lawProg:=fits
theorem law_ok : TabOk Try.prog lawProg:=tab_ok
end Go.Proofs.Ytagcnjhpdopkiaa

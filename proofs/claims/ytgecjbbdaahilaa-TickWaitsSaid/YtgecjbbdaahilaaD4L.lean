/- The program that the laws of chapter 14 are asked of. -/
import Derived.Test.YtgecjbbdaahilaaD4T
import Derived.Test.YtgecjbbdaahilaaVmZj
namespace Go.Proofs.Ytgecjbbdaahilaa
open Go.Vm
def lawProg : Vm.Prog := withYes table 3
theorem law_fits : Fits lawProg := fits
theorem law_ok : TabOk Try.prog lawProg := tab_ok
end Go.Proofs.Ytgecjbbdaahilaa

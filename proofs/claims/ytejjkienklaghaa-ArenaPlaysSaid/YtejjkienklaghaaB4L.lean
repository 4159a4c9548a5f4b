/- The program that the laws of chapter 4 are asked of. -/
import Derived.Test.YtejjkienklaghaaB4T
import Derived.Test.YtejjkienklaghaaVmZj
namespace Go.Proofs.Ytejjkienklaghaa
open Go.Vm
def lawProg : Vm.Prog := withYes table 3
theorem law_fits : Fits lawProg := fits
theorem law_ok : TabOk Try.prog lawProg := tab_ok
end Go.Proofs.Ytejjkienklaghaa

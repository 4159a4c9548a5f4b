/- Laws of chapter 4: what comes in. -/
import Derived.Test.YtejjkienklaghaaP4O
import Derived.Test.YtejjkienklaghaaVmZb
namespace Go.Proofs.Ytejjkienklaghaa
open Go.Vm
theorem low_empty : Low AH.empty := fun o x h => by cases h
end Go.Proofs.Ytejjkienklaghaa

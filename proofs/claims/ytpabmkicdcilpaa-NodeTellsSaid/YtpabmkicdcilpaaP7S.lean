/- Leaves by the reference: terms, words; slices.Equal. -/
import Derived.Test.YtpabmkicdcilpaaP7R
namespace Go.Proofs.Ytpabmkicdcilpaa
open Go.Vm
set_option linter.unusedSimpArgs false
set_option linter.unusedVariables false
set_option maxRecDepth 100000
variable {T : Vm.Prog} {h : AH}
/-! ### the reference's terms -/
end Go.Proofs.Ytpabmkicdcilpaa

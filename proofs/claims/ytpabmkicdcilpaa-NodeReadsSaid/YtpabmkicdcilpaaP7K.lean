/- Nodes, as what they have at each byte. -/
import Derived.Test.YtpabmkicdcilpaaP7J
namespace Go.Proofs.Ytpabmkicdcilpaa
open Go.Vm
set_option linter.unusedSimpArgs false
set_option linter.unusedVariables false
variable {T : Vm.Prog} {h : AH}
/-- At c there is x. -/
def At (n : NodeP) (c : Nat) (x : Int) : Prop := ∃ i : Nat, n.keys[i]? = some c ∧ n.kids[i]? = some x
end Go.Proofs.Ytpabmkicdcilpaa

/- Nodes, as what they have at each byte. -/
import Derived.Test.YtpabmkicdcilpaaP7J
namespace Go.Proofs.Ytpabmkicdcilpaa
open Go.Vm
set_option linter.unusedSimpArgs false
set_option linter.unusedVariables false
variable {T : Vm.Prog} {h : AH}
/-- At c there is x. -/
def At (n : NodeP) (c : Nat) (x : Int) : Prop := ∃ i : Nat, n.keys[i]? = some c ∧ n.kids[i]? = some x
theorem RightP.uniq {n : NodeP} (r : RightP n) {i j c : Nat} (hi : n.keys[i]? = some c) (hj : n.keys[j]? = some c) : i = j := by
  rcases Nat.lt_trichotomy i j with h1 | h1 | h1
  · have := rise_of r.rise h1 hi hj; omega
  · exact h1
  · have := rise_of r.rise h1 hj hi; omega
end Go.Proofs.Ytpabmkicdcilpaa

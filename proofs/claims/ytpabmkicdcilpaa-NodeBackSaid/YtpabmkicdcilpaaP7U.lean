/- Leaves by the reference: Encode. What a leaf's words tell. -/
import Derived.Test.YtpabmkicdcilpaaP7S
namespace Go.Proofs.Ytpabmkicdcilpaa
open Go.Vm
set_option linter.unusedSimpArgs false
set_option linter.unusedVariables false
set_option maxRecDepth 100000
variable {T : Vm.Prog} {h : AH}
/-! ### what a leaf's words tell -/
/-- Words of a leaf, or of none. -/
def LeafIs (ws : List Nat) : Option LeafP → Prop
  | some l => rightL l = true ∧ leafW l = ws
  | none => ∀ l, rightL l = true → leafW l ≠ ws
theorem LeafIs.same {ws : List Nat} : ∀ {a b : Option LeafP}, LeafIs ws a → LeafIs ws b → a = b
  | some a, some b, ha, hb => by rw [leafW_inj ha.1 hb.1 (ha.2.trans hb.2.symm)]
  | some a, none, ha, hb => absurd ha.2 (hb a ha.1)
  | none, some b, ha, hb => absurd hb.2 (ha b hb.1)
  | none, none, _, _ => rfl
end Go.Proofs.Ytpabmkicdcilpaa

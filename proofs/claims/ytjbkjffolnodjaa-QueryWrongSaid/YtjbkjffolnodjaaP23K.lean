/- The program that the laws are run in. -/
import Derived.Test.YtjbkjffolnodjaaP23Q
namespace Go.Proofs.Ytjbkjffolnodjaa
open Go.Vm
set_option linter.unusedSimpArgs false
set_option linter.unusedVariables false
set_option maxRecDepth 1000000
noncomputable def lawProg : Vm.Prog := withYes table 3
theorem law_ok : TabOk Try.prog lawProg := ran_yes table_ok (k := 100000) ran
theorem law_fits : Fits lawProg where
  base := {
    func := rfl
    env := fun n ⟨h0, h1, h2, h3⟩ => by simp [lawProg, withYes, h1] }
  yes := fun h => ⟨_, _, by rw [run_env (e := Vm.yes) (by simp [lawProg, withYes])]; rfl, rfl, rfl⟩
theorem u8_in {x : Int} (w : (Lit.int .u8 x).wf = true) : ∃ c : UInt8, x = (c.toNat : Int) := by
  have h : 0 ≤ x ∧ x ≤ 255 := by simpa [Lit.wf, IntKind.min, IntKind.max, IntKind.signed, IntKind.bits] using w
  refine ⟨UInt8.ofNat x.toNat, ?_⟩
  have : (UInt8.ofNat x.toNat).toNat = x.toNat := by simp; omega
  omega
end Go.Proofs.Ytjbkjffolnodjaa

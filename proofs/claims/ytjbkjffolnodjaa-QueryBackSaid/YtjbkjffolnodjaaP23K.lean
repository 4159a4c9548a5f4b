/- The program that the laws are run in. -/
import Derived.Test.YtjbkjffolnodjaaP23Q
namespace Go.Proofs.Ytjbkjffolnodjaa
open Go.Vm
set_option linter.unusedSimpArgs false
set_option linter.unusedVariables false
set_option maxRecDepth 1000000
noncomputable def lawProg : Vm.Prog := withYes table 3
theorem law_ok : TabOk Try.prog lawProg := ran_yes table_ok (k := 100000) ran
theorem law_fits : Fits lawProg where
  base := {
    func := rfl
    env := fun n ⟨h0, h1, h2, h3⟩ => by simp [lawProg, withYes, h1] }
  yes := fun h => ⟨_, _, by rw [run_env (e := Vm.yes) (by simp [lawProg, withYes])]; rfl, rfl, rfl⟩
end Go.Proofs.Ytjbkjffolnodjaa

/- The program that the laws are run in. -/
import Derived.Test.YteajnglncglmfaaDoorP22D
import Derived.Test.YteajnglncglmfaaDoorP22S
namespace Go.Proofs.YteajnglncglmfaaDoor
open Go.Vm
set_option linter.unusedSimpArgs false
set_option linter.unusedVariables false
set_option maxRecDepth 1000000
noncomputable def LT1 : Vm.Prog := withEnv T0 17 sortV
theorem LT1_ok : TabOk Tryd.prog LT1 := withEnv_ok T0_ok sortV_ok
noncomputable def LT2 : Vm.Prog := withEnv LT1 18 compactV
theorem LT2_ok : TabOk Tryd.prog LT2 := withEnv_ok LT1_ok compactV_ok
noncomputable def LT3 : Vm.Prog := withEnv LT2 9 (rL LT2 rf9)
theorem LT3_ok : TabOk Tryd.prog LT3 := withEnv_ok LT2_ok (rL_ok LT2_ok (fn := Tryd.f9) Tryd.func9 kr9)
noncomputable def lawProg : Vm.Prog := withEnv LT3 3 yes
theorem law_ok : TabOk Tryd.prog lawProg := withEnv_ok LT3_ok fun _ _ _ _ hr => .inl (closed_yes T1_ok ran rfl _ _ _ _ hr)
theorem base2 : Base LT2 where
  func := rfl
  env := fun n ⟨h0, h1, h2, h3, h4, h5⟩ => by simp [LT2, LT1, T0, withEnv, h3, h4, h5]
  ib := by simp [LT2, LT1, T0, withEnv]
  srt := by simp [LT2, LT1, T0, withEnv]
  cpt := by simp [LT2, LT1, T0, withEnv]
theorem law_fits : Fits lawProg where
  base := {
    func := rfl
    env := fun n ⟨h0, h1, h2, h3, h4, h5⟩ => by simp [lawProg, LT3, LT2, LT1, T0, withEnv, h1, h2, h3, h4, h5]
    ib := by simp [lawProg, LT3, LT2, LT1, T0, withEnv]
    srt := by simp [lawProg, LT3, LT2, LT1, T0, withEnv]
    cpt := by simp [lawProg, LT3, LT2, LT1, T0, withEnv] }
  yes := fun h => ⟨_, _, by rw [run_env (e := Vm.yes) (by simp [lawProg, withEnv])]; rfl, rfl, rfl⟩
  tm := ⟨LT2, base2, by simp [lawProg, LT3, withEnv]⟩
end Go.Proofs.YteajnglncglmfaaDoor

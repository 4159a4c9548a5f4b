/- The closed sentence of chapter 22; the program that the laws are run in. -/
import Derived.Test.YteajnglncglmfaaDoorP22Code
import Derived.Test.YteajnglncglmfaaDoorVmZv
namespace Go.Proofs.YteajnglncglmfaaDoor
open Go.Vm
set_option maxRecDepth 1000000
theorem ibF : ∀ args h r h', ibs args h = some (r, h') → CSim Tryd.prog 39 args h r h' := ibs_ok (fn := Tryd.f39) Tryd.func39 (by kernel_rfl) (by kernel_rfl) (by kernel_rfl) (by kernel_rfl)
def T0 : Vm.Prog := withEnv ⟨table, fun _ => none⟩ 39 ibs
theorem T0_ok : TabOk Tryd.prog T0 := withEnv_ok (bare_ok table_ok) ibF
def T1 : Vm.Prog := withEnv T0 9 (rK T0 1000 rf9)
theorem T1_ok : TabOk Tryd.prog T1 := withEnv_ok T0_ok (rK_ok T0_ok 1000 (fn := Tryd.f9) Tryd.func9 kr9)
theorem ran : Vm.saysTrue (Vm.arun T1 100000 3 [] Vm.AH.empty) = true := by kernel_rfl
end Go.Proofs.YteajnglncglmfaaDoor

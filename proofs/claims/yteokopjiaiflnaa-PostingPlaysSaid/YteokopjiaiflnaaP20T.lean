/- The closed sentence of chapter 20; the program that the laws are run in. -/
import Derived.Test.YteokopjiaiflnaaP20Code
import Derived.Test.YteokopjiaiflnaaVmZv
namespace Go.Proofs.Yteokopjiaiflnaa
open Go.Vm
set_option maxRecDepth 1000000
theorem ovI : ∀ args h r h', ovl args h = some (r, h') → CSim Try.prog 43 args h r h' :=
  ovl_some (fn := Try.f43) (tS := 28) (tR := 4) (e := 3) Try.func43 (by kernel_rfl) (by kernel_rfl) (by kernel_rfl) (by kernel_rfl) (by kernel_rfl) (by kernel_rfl)
def T0 : Vm.Prog := withEnv ⟨table, fun _ => none⟩ 43 ovl
theorem T0_ok : TabOk Try.prog T0 := withEnv_ok (bare_ok table_ok) ovI
def T1 : Vm.Prog := withEnv T0 33 (insV fun a h => arun T0 1000 33 a h)
theorem T1_ok : TabOk Try.prog T1 := withEnv_ok T0_ok (insV_ok (z := .int .i64 0) (bytes := 8) (gv := 43) (gr := 44) T0_ok rfl rfl rfl (by decide))
def T2 : Vm.Prog := withEnv T1 10 (rK T1 1000 rf10)
theorem T2_ok : TabOk Try.prog T2 := withEnv_ok T1_ok (rK_ok T1_ok 1000 (fn := Try.f10) Try.func10 kr10)
theorem ran : Vm.saysTrue (Vm.arun T2 100000 3 [] Vm.AH.empty) = true := by kernel_rfl
end Go.Proofs.Yteokopjiaiflnaa

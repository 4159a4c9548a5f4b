/- The closed sentence of chapter 7. -/
import Derived.Test.YtpabmkicdcilpaaP7Code
import Derived.Test.YtpabmkicdcilpaaVmZp
namespace Go.Proofs.Ytpabmkicdcilpaa
open Go.Vm
set_option maxRecDepth 1000000
theorem ovB : ∀ args h r h', ovl args h = some (r, h') → CSim Try.prog 82 args h r h' :=
  ovl_some (fn := Try.f82) (tS := 23) (tR := 4) (e := 5) Try.func82 (by kernel_rfl) (by kernel_rfl) (by kernel_rfl) (by kernel_rfl) (by kernel_rfl) (by kernel_rfl)
theorem ovI : ∀ args h r h', ovl args h = some (r, h') → CSim Try.prog 84 args h r h' :=
  ovl_some (fn := Try.f84) (tS := 24) (tR := 4) (e := 3) Try.func84 (by kernel_rfl) (by kernel_rfl) (by kernel_rfl) (by kernel_rfl) (by kernel_rfl) (by kernel_rfl)
def insProg : Vm.Prog := withIns table 82 84 60 61
theorem ins_ok : TabOk Try.prog insProg := withIns_ok (z1 := .int .u8 0) (z2 := .int .i64 0) (y1 := 1) (y2 := 8) (r1 := 83) (r2 := 85) table_ok ovB ovI rfl rfl (by decide) (by decide) (by decide)
theorem ran : Vm.saysTrue (Vm.arun insProg 100000 3 [] Vm.AH.empty) = true := by kernel_rfl
end Go.Proofs.Ytpabmkicdcilpaa

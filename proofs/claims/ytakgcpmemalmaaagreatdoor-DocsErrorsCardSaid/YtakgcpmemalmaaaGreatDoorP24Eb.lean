/- Calls of chapter 24's run, as they were run. -/
import Derived.Test.YtakgcpmemalmaaaGreatDoorP24D
namespace Go.Proofs.YtakgcpmemalmaaaGreatDoor
open Go.Vm
open Go.RowKit
set_option linter.unusedSimpArgs false
set_option linter.unusedVariables false
set_option maxRecDepth 100000
theorem sim9 : CSim Tryz.prog 51 lit9.args lit9.h lit9.r lit9.h':=Lit.gc_ok T4_ok (k:=100000) (l:=src9) rfl (by kernel_rfl)
theorem sim11 : CSim Tryz.prog 53 lit11.args lit11.h lit11.r lit11.h':=Lit.gc_ok T4_ok (k:=100000) (l:=src11) rfl (by kernel_rfl)
theorem sim13 : CSim Tryz.prog 53 lit13.args lit13.h lit13.r lit13.h':=Lit.gc_ok T4_ok (k:=100000) (l:=src13) rfl (by kernel_rfl)
theorem sim14 : CSim Tryz.prog 53 lit14.args lit14.h lit14.r lit14.h':=Lit.gc_ok T4_ok (k:=100000) (l:=src14) rfl (by kernel_rfl)
theorem sim19 : CSim Tryz.prog 64 lit19.args lit19.h lit19.r lit19.h':=Lit.gc_ok T4_ok (k:=100000) (l:=src19) rfl (by kernel_rfl)
end Go.Proofs.YtakgcpmemalmaaaGreatDoor

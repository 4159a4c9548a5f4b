/- Calls of chapter 24's run, as they were run. -/
import Derived.Test.YtakgcpmemalmaaaGreatDoorP24D
namespace Go.Proofs.YtakgcpmemalmaaaGreatDoor
open Go.Vm
open Go.RowKit
set_option linter.unusedSimpArgs false
set_option linter.unusedVariables false
set_option maxRecDepth 100000
theorem sim20 : CSim Tryz.prog 64 lit20.args lit20.h lit20.r lit20.h':=Lit.gc_ok T4_ok (k:=100000) (l:=src20) rfl (by kernel_rfl)
theorem sim22 : CSim Tryz.prog 53 lit22.args lit22.h lit22.r lit22.h':=Lit.gc_ok T4_ok (k:=100000) (l:=src22) rfl (by kernel_rfl)
theorem sim24 : CSim Tryz.prog 64 lit24.args lit24.h lit24.r lit24.h':=Lit.gc_ok T4_ok (k:=100000) (l:=src24) rfl (by kernel_rfl)
theorem sim25 : CSim Tryz.prog 64 lit25.args lit25.h lit25.r lit25.h':=Lit.gc_ok T4_ok (k:=100000) (l:=src25) rfl (by kernel_rfl)
theorem sim26 : CSim Tryz.prog 64 lit26.args lit26.h lit26.r lit26.h':=Lit.gc_ok T4_ok (k:=100000) (l:=src26) rfl (by kernel_rfl)
end Go.Proofs.YtakgcpmemalmaaaGreatDoor

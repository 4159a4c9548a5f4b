/- Calls of chapter 24's run, as they were run. -/
import Derived.Test.YtakgcpmemalmaaaGreatDoorP24D
namespace Go.Proofs.YtakgcpmemalmaaaGreatDoor
open Go.Vm
open Go.RowKit
set_option linter.unusedSimpArgs false
set_option linter.unusedVariables false
set_option maxRecDepth 100000
theorem sim3 : CSim Tryz.prog 51 lit3.args lit3.h lit3.r lit3.h':=Lit.gc_ok T4_ok (k:=100000) (l:=src3) rfl (by kernel_rfl)
theorem sim4 : CSim Tryz.prog 51 lit4.args lit4.h lit4.r lit4.h':=Lit.gc_ok T4_ok (k:=100000) (l:=src4) rfl (by kernel_rfl)
theorem sim6 : CSim Tryz.prog 51 lit6.args lit6.h lit6.r lit6.h':=Lit.gc_ok T4_ok (k:=100000) (l:=src6) rfl (by kernel_rfl)
theorem sim7 : CSim Tryz.prog 51 lit7.args lit7.h lit7.r lit7.h':=Lit.gc_ok T4_ok (k:=100000) (l:=src7) rfl (by kernel_rfl)
theorem sim8 : CSim Tryz.prog 51 lit8.args lit8.h lit8.r lit8.h':=Lit.gc_ok T4_ok (k:=100000) (l:=src8) rfl (by kernel_rfl)
end Go.Proofs.YtakgcpmemalmaaaGreatDoor

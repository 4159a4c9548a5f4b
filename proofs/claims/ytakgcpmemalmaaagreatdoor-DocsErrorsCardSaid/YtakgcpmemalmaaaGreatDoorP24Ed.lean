/- Calls of chapter 24's run, as they were run. -/
import Derived.Test.YtakgcpmemalmaaaGreatDoorP24D
namespace Go.Proofs.YtakgcpmemalmaaaGreatDoor
open Go.Vm
open Go.RowKit
set_option linter.unusedSimpArgs false
set_option linter.unusedVariables false
set_option maxRecDepth 100000
theorem sim27 : CSim Tryz.prog 64 lit27.args lit27.h lit27.r lit27.h':=Lit.gc_ok T4_ok (k:=100000) (l:=src27) rfl (by kernel_rfl)
end Go.Proofs.YtakgcpmemalmaaaGreatDoor

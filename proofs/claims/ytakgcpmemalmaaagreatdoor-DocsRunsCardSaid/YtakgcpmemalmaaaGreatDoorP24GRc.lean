/- Closed facts of the card of DocsRuns. -/
import Derived.Test.YtakgcpmemalmaaaGreatDoorRows
import Derived.JoinedOf
import Derived.SevenTiedAt
import Derived.KernelRfl
namespace Go.Proofs.YtakgcpmemalmaaaGreatDoor.docsRunsCard
set_option linter.unusedVariables false
set_option maxRecDepth 100000
theorem fact2 : (mapsRowed Tryz.prog : Bool)=true:=by kernel_rfl
theorem fact11 : (( Rows.docsRunsRow.recurses == Tryz.prog.recurses 3) : Bool)=true:=by kernel_rfl
theorem fact25 : (Tryz.prog.mayEnter : Bool)=true:=by kernel_rfl
theorem nameF : Tryz.prog.funcNamed "tendril/tendrillaw24.DocsRuns"=some 3:=by kernel_rfl
end Go.Proofs.YtakgcpmemalmaaaGreatDoor.docsRunsCard

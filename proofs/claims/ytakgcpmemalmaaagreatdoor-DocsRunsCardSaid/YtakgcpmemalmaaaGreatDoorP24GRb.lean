/- Closed facts of the card of DocsRuns. -/
import Derived.Test.YtakgcpmemalmaaaGreatDoorRows
import Derived.JoinedOf
import Derived.SevenTiedAt
import Derived.KernelRfl
namespace Go.Proofs.YtakgcpmemalmaaaGreatDoor.docsRunsCard
set_option linter.unusedVariables false
set_option maxRecDepth 100000
theorem fact1 : (laidOutB Tryz.prog : Bool)=true:=by kernel_rfl
theorem fact10 : (( Rows.docsRunsRow.unfollowed == Tryz.prog.unfollowed 3) : Bool)=true:=by kernel_rfl
theorem fact24 : (Tryz.prog.stopsHeard : Bool)=true:=by kernel_rfl
theorem wfF : Rows.docsRunsRow.wfByText (OpenSpec.ofChange Rows.docsRunsSpec)=true:=by kernel_rfl
end Go.Proofs.YtakgcpmemalmaaaGreatDoor.docsRunsCard

/- Closed facts of the card of DocsErrors. -/
import Derived.Test.YtakgcpmemalmaaaGreatDoorRows
import Derived.JoinedOf
import Derived.SevenTiedAt
import Derived.KernelRfl
namespace Go.Proofs.YtakgcpmemalmaaaGreatDoor.docsErrorsCard
set_option linter.unusedVariables false
set_option maxRecDepth 100000
theorem fact1 : (laidOutB Tryz.prog : Bool)=true:=by kernel_rfl
theorem fact10 : (( Rows.docsErrorsRow.unfollowed == Tryz.prog.unfollowed 9) : Bool)=true:=by kernel_rfl
theorem fact24 : (Tryz.prog.stopsHeard : Bool)=true:=by kernel_rfl
theorem wfF : Rows.docsErrorsRow.wfByText (OpenSpec.ofChange Rows.docsErrorsSpec)=true:=by kernel_rfl
end Go.Proofs.YtakgcpmemalmaaaGreatDoor.docsErrorsCard

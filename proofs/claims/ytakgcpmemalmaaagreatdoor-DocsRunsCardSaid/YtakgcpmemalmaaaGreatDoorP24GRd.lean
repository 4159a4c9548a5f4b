/- Closed facts of the card of DocsRuns. -/
import Derived.Test.YtakgcpmemalmaaaGreatDoorRows
import Derived.JoinedOf
import Derived.SevenTiedAt
import Derived.KernelRfl
namespace Go.Proofs.YtakgcpmemalmaaaGreatDoor.docsRunsCard
set_option linter.unusedVariables false
set_option maxRecDepth 100000
theorem fact4 : (namedTie Tryz.prog  Rows.docsRunsRow.named Rows.docsRunsSpec.vars : Bool)=true:=by kernel_rfl
theorem fact12 : (( Rows.docsRunsRow.named == Tryz.prog.varsNamed 3) : Bool)=true:=by kernel_rfl
theorem fact26 : (( Rows.docsRunsRow.lifted == Tryz.prog.liftsFinal) : Bool)=true:=by kernel_rfl
theorem looksF : true=Tryz.prog.looks []:=by kernel_rfl
end Go.Proofs.YtakgcpmemalmaaaGreatDoor.docsRunsCard

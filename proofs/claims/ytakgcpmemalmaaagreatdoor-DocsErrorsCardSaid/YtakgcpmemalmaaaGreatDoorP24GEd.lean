/- Closed facts of the card of DocsErrors. -/
import Derived.Test.YtakgcpmemalmaaaGreatDoorRows
import Derived.JoinedOf
import Derived.SevenTiedAt
import Derived.KernelRfl
namespace Go.Proofs.YtakgcpmemalmaaaGreatDoor.docsErrorsCard
set_option linter.unusedVariables false
set_option maxRecDepth 100000
theorem fact4 : (namedTie Tryz.prog  Rows.docsErrorsRow.named Rows.docsErrorsSpec.vars : Bool)=true:=by kernel_rfl
theorem fact12 : (( Rows.docsErrorsRow.named == Tryz.prog.varsNamed 9) : Bool)=true:=by kernel_rfl
theorem fact26 : (( Rows.docsErrorsRow.lifted == Tryz.prog.liftsFinal) : Bool)=true:=by kernel_rfl
theorem looksF : true=Tryz.prog.looks []:=by kernel_rfl
end Go.Proofs.YtakgcpmemalmaaaGreatDoor.docsErrorsCard

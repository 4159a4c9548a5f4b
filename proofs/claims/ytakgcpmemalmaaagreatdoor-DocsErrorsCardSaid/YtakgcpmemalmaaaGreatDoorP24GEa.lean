/- Closed facts of the card of DocsErrors. -/
import Derived.Test.YtakgcpmemalmaaaGreatDoorRows
import Derived.JoinedOf
import Derived.SevenTiedAt
import Derived.KernelRfl
namespace Go.Proofs.YtakgcpmemalmaaaGreatDoor.docsErrorsCard
set_option linter.unusedVariables false
set_option maxRecDepth 100000
theorem fact0 : (Rows.docsErrorsRow.wf (OpenSpec.ofChange Rows.docsErrorsSpec) : Bool)=true:=by kernel_rfl
theorem fact9 : (( Rows.docsErrorsRow.inPlace == Tryz.prog.inPlace 9) : Bool)=true:=by kernel_rfl
theorem fact22 : (( Rows.docsErrorsRow.plainKeys == Tryz.prog.plainKeys) : Bool)=true:=by kernel_rfl
theorem fact27 : ((Tryz.prog.make == some  Rows.docsErrorsRow.make) : Bool)=true:=by kernel_rfl
theorem goesF : false=Rows.docsErrorsRow.goesBy Tryz.prog:=by kernel_rfl
theorem fact3 : (Tryz.f9.params.all (Tryz.prog.readableRec ·) : Bool)=true:=by kernel_rfl
theorem fact5 : (( Rows.docsErrorsRow.stops == []) : Bool)=true:=by kernel_rfl
theorem fact6 : ((Tryz.prog.stops == []) : Bool)=true:=by kernel_rfl
theorem fact7 : (( Rows.docsErrorsRow.knobs == []) : Bool)=true:=by kernel_rfl
theorem fact8 : ((Tryz.prog.stopKnobs == []) : Bool)=true:=by kernel_rfl
theorem fact13 : (( Rows.docsErrorsRow.maps == (Tryz.f9.params.toList ++ Rows.docsErrorsSpec.plain.varTypes Tryz.prog).any (Tryz.prog.mapsRec ·)) : Bool)=true:=by kernel_rfl
theorem fact14 : (( Rows.docsErrorsRow.ifaces == (Tryz.f9.params.toList ++ Rows.docsErrorsSpec.plain.varTypes Tryz.prog).any (Tryz.prog.ifacesRec ·)) : Bool)=true:=by kernel_rfl
theorem fact15 : (( Rows.docsErrorsRow.mapsOut == Tryz.prog.mapsAmong Tryz.f9.resultTypes.toList) : Bool)=true:=by kernel_rfl
theorem fact16 : (( Rows.docsErrorsRow.loops == (Tryz.f9.params.toList ++ Rows.docsErrorsSpec.plain.varTypes Tryz.prog).any (Tryz.prog.loopsFrom ·)) : Bool)=true:=by kernel_rfl
theorem fact17 : (( Rows.docsErrorsRow.wideKeys == (Tryz.f9.params.toList ++ Rows.docsErrorsSpec.plain.varTypes Tryz.prog ++ Tryz.f9.resultTypes.toList).any (Tryz.prog.wideKeysFrom ·)) : Bool)=true:=by kernel_rfl
theorem fact18 : (Rows.docsErrorsSpec.vars.all (Tryz.prog.varReadable ·) : Bool)=true:=by kernel_rfl
theorem fact19 : (Tryz.f9.resultTypes.all (fun t => Tryz.prog.readableRec t && decide (t < Tryz.prog.types.size)) : Bool)=true:=by kernel_rfl
theorem fact20 : (( Rows.docsErrorsRow.ifacesOut == Tryz.f9.resultTypes.toList.any (Tryz.prog.ifacesRec ·)) : Bool)=true:=by kernel_rfl
theorem fact21 : (( Rows.docsErrorsRow.loopsOut == Tryz.f9.resultTypes.toList.any (Tryz.prog.loopsFrom ·)) : Bool)=true:=by kernel_rfl
theorem fact23 : (Rows.docsErrorsRow.shortTexts.isNone : Bool)=true:=by kernel_rfl
theorem fact28 : (( Rows.docsErrorsRow.kinds == (if  Rows.docsErrorsRow.domain.isEmpty then [] else Tryz.f9.params.toList.map fun t => match Tryz.prog.underlying t with | some (.int k) => some k | _ => none)) : Bool)=true:=by kernel_rfl
theorem fact29 : (( Rows.docsErrorsRow.pinned ==  Rows.docsErrorsRow.pinnedBy) : Bool)=true:=by kernel_rfl
theorem fact30 : (( Rows.docsErrorsRow.veiled == (Tryz.f9.params.toList ++ Rows.docsErrorsSpec.plain.varTypes Tryz.prog ++ Tryz.f9.resultTypes.toList).any (Tryz.prog.veiledRec ·)) : Bool)=true:=by kernel_rfl
theorem fact31 : (Rows.docsErrorsRow.veiledFits Tryz.prog Tryz.f9.params.toList (Tryz.f9.params.toList ++ Rows.docsErrorsSpec.plain.varTypes Tryz.prog ++ Tryz.f9.resultTypes.toList) : Bool)=true:=by kernel_rfl
theorem mainF : Tryz.prog.mainIs=some (true,("72c547fed5e774719475fdd190ff529d2e503c0feb0d0dad986fb4d32265e482" : String).toList):=by kernel_rfl
end Go.Proofs.YtakgcpmemalmaaaGreatDoor.docsErrorsCard

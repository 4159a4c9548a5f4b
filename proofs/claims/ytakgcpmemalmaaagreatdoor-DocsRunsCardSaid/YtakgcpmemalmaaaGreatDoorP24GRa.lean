/- Closed facts of the card of DocsRuns. -/
import Derived.Test.YtakgcpmemalmaaaGreatDoorRows
import Derived.JoinedOf
import Derived.SevenTiedAt
import Derived.KernelRfl
namespace Go.Proofs.YtakgcpmemalmaaaGreatDoor.docsRunsCard
set_option linter.unusedVariables false
set_option maxRecDepth 100000
theorem fact0 : (Rows.docsRunsRow.wf (OpenSpec.ofChange Rows.docsRunsSpec) : Bool)=true:=by kernel_rfl
theorem fact9 : (( Rows.docsRunsRow.inPlace == Tryz.prog.inPlace 3) : Bool)=true:=by kernel_rfl
theorem fact22 : (( Rows.docsRunsRow.plainKeys == Tryz.prog.plainKeys) : Bool)=true:=by kernel_rfl
theorem fact27 : ((Tryz.prog.make == some  Rows.docsRunsRow.make) : Bool)=true:=by kernel_rfl
theorem goesF : false=Rows.docsRunsRow.goesBy Tryz.prog:=by kernel_rfl
theorem fact3 : (Tryz.f3.params.all (Tryz.prog.readableRec ·) : Bool)=true:=by kernel_rfl
theorem fact5 : (( Rows.docsRunsRow.stops == []) : Bool)=true:=by kernel_rfl
theorem fact6 : ((Tryz.prog.stops == []) : Bool)=true:=by kernel_rfl
theorem fact7 : (( Rows.docsRunsRow.knobs == []) : Bool)=true:=by kernel_rfl
theorem fact8 : ((Tryz.prog.stopKnobs == []) : Bool)=true:=by kernel_rfl
theorem fact13 : (( Rows.docsRunsRow.maps == (Tryz.f3.params.toList ++ Rows.docsRunsSpec.plain.varTypes Tryz.prog).any (Tryz.prog.mapsRec ·)) : Bool)=true:=by kernel_rfl
theorem fact14 : (( Rows.docsRunsRow.ifaces == (Tryz.f3.params.toList ++ Rows.docsRunsSpec.plain.varTypes Tryz.prog).any (Tryz.prog.ifacesRec ·)) : Bool)=true:=by kernel_rfl
theorem fact15 : (( Rows.docsRunsRow.mapsOut == Tryz.prog.mapsAmong Tryz.f3.resultTypes.toList) : Bool)=true:=by kernel_rfl
theorem fact16 : (( Rows.docsRunsRow.loops == (Tryz.f3.params.toList ++ Rows.docsRunsSpec.plain.varTypes Tryz.prog).any (Tryz.prog.loopsFrom ·)) : Bool)=true:=by kernel_rfl
theorem fact17 : (( Rows.docsRunsRow.wideKeys == (Tryz.f3.params.toList ++ Rows.docsRunsSpec.plain.varTypes Tryz.prog ++ Tryz.f3.resultTypes.toList).any (Tryz.prog.wideKeysFrom ·)) : Bool)=true:=by kernel_rfl
theorem fact18 : (Rows.docsRunsSpec.vars.all (Tryz.prog.varReadable ·) : Bool)=true:=by kernel_rfl
theorem fact19 : (Tryz.f3.resultTypes.all (fun t => Tryz.prog.readableRec t && decide (t < Tryz.prog.types.size)) : Bool)=true:=by kernel_rfl
theorem fact20 : (( Rows.docsRunsRow.ifacesOut == Tryz.f3.resultTypes.toList.any (Tryz.prog.ifacesRec ·)) : Bool)=true:=by kernel_rfl
theorem fact21 : (( Rows.docsRunsRow.loopsOut == Tryz.f3.resultTypes.toList.any (Tryz.prog.loopsFrom ·)) : Bool)=true:=by kernel_rfl
theorem fact23 : (Rows.docsRunsRow.shortTexts.isNone : Bool)=true:=by kernel_rfl
theorem fact28 : (( Rows.docsRunsRow.kinds == (if  Rows.docsRunsRow.domain.isEmpty then [] else Tryz.f3.params.toList.map fun t => match Tryz.prog.underlying t with | some (.int k) => some k | _ => none)) : Bool)=true:=by kernel_rfl
theorem fact29 : (( Rows.docsRunsRow.pinned ==  Rows.docsRunsRow.pinnedBy) : Bool)=true:=by kernel_rfl
theorem fact30 : (( Rows.docsRunsRow.veiled == (Tryz.f3.params.toList ++ Rows.docsRunsSpec.plain.varTypes Tryz.prog ++ Tryz.f3.resultTypes.toList).any (Tryz.prog.veiledRec ·)) : Bool)=true:=by kernel_rfl
theorem fact31 : (Rows.docsRunsRow.veiledFits Tryz.prog Tryz.f3.params.toList (Tryz.f3.params.toList ++ Rows.docsRunsSpec.plain.varTypes Tryz.prog ++ Tryz.f3.resultTypes.toList) : Bool)=true:=by kernel_rfl
theorem mainF : Tryz.prog.mainIs=some (true,("72c547fed5e774719475fdd190ff529d2e503c0feb0d0dad986fb4d32265e482" : String).toList):=by kernel_rfl
end Go.Proofs.YtakgcpmemalmaaaGreatDoor.docsRunsCard

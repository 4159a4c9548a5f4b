/- Ranges over functions, in steps. -/
import Derived.Test.YtakgcpmemalmaaaGreatDoorVmZx
import Derived.Test.YtakgcpmemalmaaaGreatDoorVmS
namespace Go.Vm
set_option linter.unusedSimpArgs false
set_option linter.unusedVariables false
variable {T : Prog} {it : ItH} {cd : ACode→Fr→AH→Out} {f : Fr} {h : AH}
theorem wr_base {c : ACode} {Q : AExit→Fr→AH→Prop} : Wp (rcode it cd (.base c) f h) Q↔Wp (cd c f h) Q:=Iff.rfl
theorem wr_seq {a b : RCode} {Q : AExit→Fr→AH→Prop} (hw : Wp (rcode it cd a f h) (Then (fun f h => Wp (rcode it cd b f h) Q) Q)) : Wp (rcode it cd (.seq a b) f h) Q:=by
 obtain ⟨e,f',h',hr,hq⟩:=hw
 cases e with
 | normal =>
  obtain ⟨e2,f2,h2,hr2,hq2⟩:=hq
  exact ⟨e2,f2,h2,by simp only [rcode,hr,hr2],hq2⟩
 | exit i => exact ⟨.exit i,f',h',by simp only [rcode,hr],hq⟩
 | ret => exact ⟨.ret,f',h',by simp only [rcode,hr],hq⟩
theorem rL_gives {T' : Prog} {fn : RFunc} {g : Nat} {args : List AV} {Q : AV→AH→Prop} (he : T'.env g=some (rL T fn)) (hl : args.length=fn.nargs) (hw : Wp (rcode (itL T) (code T) fn.body (Fr.ofArgs 0 args .nil) h) (Ends fn.results Q)) : Gives T' g args h Q:=by
 obtain ⟨e,f,h',hc,hx⟩:=hw
 cases e with
 | normal =>
  obtain ⟨l,hl',hq⟩:=hx
  exact ⟨tupleV l,h',by rw [run_env he]; simp only [rL,RFunc.run,if_pos hl,hc,hl',Option.map_some],hq⟩
 | ret =>
  obtain ⟨l,hl',hq⟩:=hx
  exact ⟨tupleV l,h',by rw [run_env he]; simp only [rL,RFunc.run,if_pos hl,hc,hl',Option.map_some],hq⟩
 | exit i => exact hx.elim
end Go.Vm

/- The first place of a byte in a text: what the model answers itself; one more function that stands by its answer. -/
import Derived.Test.YtakgcpmemalmaaaGreatDoorVmZu
import Derived.Lib.Bytealg
namespace Go.Vm
open Go.RowKit
set_option linter.unusedSimpArgs false
set_option linter.unusedVariables false
def ibs : List AV→AH→Option (AV×AH)
 | [.str s,.int .u8 c],h => some (.int .i64 (Lib.indexByte s c.toNat.toUInt8),h)
 | _,_ => none
theorem ibs_ok {P : Program} {g : Nat} {fn : Func} (hf : P.funcs[g]?=some fn) (hname : (fn.name == "runtime.NumGoroutine")=false) (hb : fn.body.isNone=true) (hn : Extern.findNext fn=none)
  (he : Extern.find fn=some Extern.BytealgIndexByte.indexByte) : ∀ args h r h',ibs args h=some (r,h')→CSim P g args h r h':=by
 intro args h r h' hr
 right
 intro π N w₀ μ w vargs hR hv
 unfold ibs at hr
 split at hr
 ·rename_i s c
  cases hr
  obtain ⟨v1,v2,rfl⟩ : ∃ v1 v2,vargs=#[v1,v2]:=by
   obtain ⟨l⟩:=vargs
   have h2:=hv.1
   match l,h2 with
   | [v1,v2],_ => exact ⟨v1,v2,rfl⟩
  have k1:=hv.head
  have k2:=hv.tail.head
  generalize hs : AV.str s=sv at k1
  generalize hc : AV.int .u8 c=cv at k2
  cases k1 with
  | str b =>
   cases hs
   cases k2 with
   | int k n =>
    cases hc
    refine ⟨μ,w,_,.refl (Nat.le_refl _),hR,.int _ _,?_⟩
    rw [run_callFunc_extern hf hname hb hn he,Lib.run_indexByteString]
    rfl
   | undef => cases hc
   | _ => cases hc
  | _ => cases hs
 ·cases hr
def withEnv (T : Prog) (g : Nat) (e : List AV→AH→Option (AV×AH)) : Prog:=⟨T.func,fun n => if n=g then some e else T.env n⟩
theorem withEnv_ok {P : Program} {T : Prog} (hT : TabOk P T) {g : Nat} {e : List AV→AH→Option (AV×AH)} (he : ∀ args h r h',e args h=some (r,h')→CSim P g args h r h') : TabOk P (withEnv T g e) where
 low:=hT.low
 func:=hT.func
 env:=fun n e' h' => by
  simp only [withEnv] at h'
  split at h'
  ·rename_i e2; subst e2; cases h'; exact he
  ·exact hT.env n e' h'
def idxB (s : List UInt8) (c : UInt8) : Int:=Lib.indexByte s c
end Go.Vm

/- Laws whose arguments are numbers, texts and bits alone: they are asked in an empty heap. -/
import Derived.Test.YtakgcpmemalmaaaGreatDoorVmZj
namespace Go.Vm
open Go.RowKit
set_option linter.unusedSimpArgs false
set_option linter.unusedVariables false
def AV.scal : AV→Bool
 | .int .. => true
 | .str _ => true
 | .bool _ => true
 | _ => false
theorem VRel.scal {μ ν : Inj} {a : AV} {v : Value} (h : VRel μ a v) (hs : a.scal=true) : VRel ν a v:=by
 cases h with
 | bool b => exact .bool b
 | int k n => exact .int k n
 | str s => exact .str s
 | _ => simp [AV.scal] at hs
section
variable {H : Type} {enc : TypeId×Value→H} {P : Program} {W : World} {held : Bool}
theorem row_calls0 {T : Prog} (hT : TabOk P T) {g base d : Nat} {ts : List TypeId} {vs : Array Value} {ys : List (DataW H)} {ps : List MemPlace} (ht : DataW.TrodAll enc P W 0 (fun _ => true) held ts vs.toList ys ps) (hok : ∀ (j : Nat) t v,ts[j]?=some t→vs[j]?=some v→Value.okWide P W .any base t v) (hp : ts.all (plainT P false d)=true)
  (hlaw : ∀ (h : AH) (as : List AV),CameVs P h ts as→(as.all AV.scal=true)∧Gives T g as AH.empty fun r _ => r = .bool true) (he : T.env g=none:=by rfl) : Calls P g vs W fun e w' => e = .returned (.bool true)∧Below W.heap.size W w':=by
 obtain ⟨μ,h,as,_,r,hv,c,_,lo⟩:=bring_all ht (fun j t v h1 h2 => hok j t v h1 (by simpa using h2)) hp (R.start W) low_none
 obtain ⟨h1,h2⟩:=hlaw h as c
 exact law_calls hT (R.start W) ⟨hv.1,fun i x y hx hy => (hv.2 i x y hx hy).scal (List.all_eq_true.1 h1 x (List.mem_of_getElem? hx))⟩ h2 he
end
end Go.Vm

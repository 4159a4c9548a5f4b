/- A pool is given its greatest number: to the last cell. -/
import Derived.Test.YtakgcpmemalmaaaGreatDoorP24T
import Derived.Test.YtakgcpmemalmaaaGreatDoorVmZf
namespace Go.Proofs.YtakgcpmemalmaaaGreatDoor
open Go.Vm
open Go.Vm.AOpd renaming val → vA
open Nat renaming reduceEqDiff → vB,reduceAdd → vC,reduceBEq → vD
open Go.RowKit
set_option linter.unusedSimpArgs false
set_option linter.unusedVariables false
set_option maxRecDepth 100000
variable {T : Vm.Prog} {h : AH}
theorem len_ok (he : T.env 437=none) (hf : T.func 437=some a437) {v : AV} {n : Nat} (hv : lenOfV v=some n) : Gives T 437 [v] h fun r h' => r = .int .i64 (n : Int)∧h'=h:=by
 refine gives_func he hf rfl ?_
 simp only [a437,c437,vms,vmc,vA,vB,reduceCtorEq,vC,vD,hv]
 exact ⟨trivial,trivial⟩
def LastOk (hD : AH) (v : AV) (m : Nat) : Prop:=m=0∨∃ pa pb x y,m≠0∧idxAddrV 1 v (.int .i64 (m : Int))=some pa∧loadV hD false 1 pa=some (.int .i64 x)∧idxAddrV 1 v (.int .i64 (((m - 1) / 2 : Nat) : Int))=some pb∧loadV hD false 1 pb=some (.int .i64 y)∧¬ x < y
theorem has_exact (k : Fits T) {p mo : Nat} {n : Int} {b : Bool} (l2 : loadV h false 1 (.ptr p 2)=some (.map mo)) (lk : lookupV h 0 (.agg []) true (.map mo) (.int .i64 n)=some (.tuple [.agg [],.bool b])) :
  Gives T 86 [.ptr p 0,.int .i64 n] h fun r h' => r = .bool b∧h'=(h.new (.cells [] true)).set h.next (.cells [] true):=by
 refine gives_func (k.env _ (by decide)) (k.at (fn:=a86) rfl) rfl ?_
 have hst : storeV (h.new (.cells [] true)) 0 (.ptr h.next 0) (.agg [])=some ((h.new (.cells [] true)).set h.next (.cells [] true)):=by
  simp only [storeV,AV.cells,List.length_nil,AH.store,get_new_same,setMany,List.all_nil]
  rw [if_pos trivial,if_pos ⟨Nat.le_refl _,trivial⟩]
 simp only [a86,c86,vms,vmc,vA,vB,reduceCtorEq,vC,vD,show nilChkV (.ptr p 0)=some (.ptr p 0) from rfl,show fieldAddrV 2 (.ptr p 0)=some (.ptr p 2) from rfl,l2,lk,hst]
 exact ⟨trivial,trivial⟩
theorem push_exact (k : Fits T) {p : Nat} {x : Int} {v v' : AV} {hC hD : AH} (l1 : loadV h false 1 (.ptr p 1)=some v) (l1' : loadV (h.new (.cells [.int .i64 x] true)) false 1 (.ptr p 1)=some v) (b1 : AV.beq v v=true)
  (ap : appV 1 8 (h.new (.cells [.int .i64 x] true)) v (.slice h.next 0 1 1 1 true)=some (v',hC)) (st : storeV hC 1 (.ptr p 1) v'=some hD) :
  Gives T 441 [.ptr p 1,.iface 3 (.int .i64 x)] h fun _ h' => h'=hD:=by
 refine gives_func (k.env _ (by decide)) (k.at (fn:=a441) rfl) rfl ?_
 have hbuild : fillV [AV.int .i64 0] [(0,1,AV.int .i64 x)]=some [.int .i64 x]:=by simp [fillV,AV.isDef,AV.cells,setMany]
 simp only [a441,c441,vms,vmc,vA,vB,reduceCtorEq,vC,vD,show nilChkV (.ptr p 1)=some (.ptr p 1) from rfl,l1,hbuild]
 rw [items_look (look_load (v:=v) (by simp only [vms,vmc,vA,vB,reduceCtorEq,vC,vD]; exact l1') (by simp only [vms,vmc,vA,vB,reduceCtorEq,vC,vD]) b1)]
 rw [items_look (look_build (l:=[.int .i64 x]) (q:=h.next) (by simp only [vms,vmc,vA,vB,reduceCtorEq,vC,vD]; exact hbuild) (by simp only [vms,vmc,vA,vB,reduceCtorEq,vC,vD]; rfl) get_new_same (by unfold AV.beqs AV.beq AV.beqs; simp))]
 simp only [vms,vmc,vA,vB,reduceCtorEq,vC,vD,ap,show nilChkV (.ptr p 1)=some (.ptr p 1) from rfl,st]
theorem up_exact (k : Fits T) {p m : Nat} {v : AV} (ld : loadV h false 1 (.ptr p 1)=some v) (hm : m < 1000000) (lo : LastOk h v m) :
  Gives T 131 [.iface 151 (.ptr p 1),.int .i64 (m : Int)] h fun _ h' => h'=h:=by
 refine gives_func (k.env _ (by decide)) (k.at (fn:=a131) rfl) rfl ?_
 simp only [a131,c131,vms,vmc,vA,vB,reduceCtorEq,vC,vD]
 refine wpc_loop (fun _ f h' => h'=h∧f.at 0 = .iface 151 (.ptr p 1)∧f.at 1 = .int .i64 (m : Int)) ?_ 0 _ _ ⟨rfl,?_⟩
 ·rintro q f h' ⟨rfl,f0,f1⟩
  rcases lo with rfl | ⟨pa,pb,x,y,h0,i1,l1,i2,l2,hxy⟩
  ·have e1 : IntKind.i64.wrap (((0 : Nat) : Int) - 1) = -1:=rfl
   have e2 : binV .quo (.int .i64 (-1)) (.int .i64 2)=some (.int .i64 0):=rfl
   have e3 : ((0 : Int) == ((0 : Nat) : Int))=true:=rfl
   simp only [c131l0,vms,vmc,vA,vB,reduceCtorEq,vC,vD,f0,f1,e1,e2,e3]
  ·have e1 : IntKind.i64.wrap ((m : Int) - 1)=((m - 1 : Nat) : Int):=by rw [wrap_i64 (by omega) (by omega)]; omega
   have e2 : binV .quo (.int .i64 ((m - 1 : Nat) : Int)) (.int .i64 2)=some (.int .i64 (((m - 1) / 2 : Nat) : Int)):=by
    rw [bin_quo (by omega),show (2 : Int)=((2 : Nat) : Int) from rfl,← Int.ofNat_tdiv,wrap_i64 (by omega) (by omega)]
   have e3 : ((((m - 1) / 2 : Nat) : Int) == (m : Int))=false:=by rw [beq_eq_false_iff_ne]; omega
   have less : Gives T 438 [v,.int .i64 (m : Int),.int .i64 (((m - 1) / 2 : Nat) : Int)] h' fun r h2 => r = .bool false∧h2=h':=by
    refine gives_func (k.env _ (by decide)) (k.at (fn:=a438) rfl) rfl ?_
    have d : decide (x < y)=false:=by simpa using hxy
    simp only [a438,c438,vms,vmc,vA,vB,reduceCtorEq,vC,vD,i1,l1,i2,l2,d]
    exact ⟨trivial,trivial⟩
   simp only [c131l0,vms,vmc,vA,vB,reduceCtorEq,vC,vD,f0,f1,e1,e2,e3,ld]
   refine Gives.bind (less.mono ?_)
   rintro _ _ ⟨rfl,rfl⟩
   simp only [vms,vmc,vA,vB,reduceCtorEq,vC,vD]
 ·simp only [vms,vmc,vA,vB,reduceCtorEq,vC,vD]
  simp
theorem put_exact (k : Fits T) {p mo m : Nat} {n most : Int} {v v' : AV} {hB hC hD : AH} (n0 : ¬ n < 0) (n1 : ¬ n ≥ most)
  (l0 : loadV h false 1 (.ptr p 0)=some (.int .i64 most)) (l2 : loadV h false 1 (.ptr p 2)=some (.map mo)) (lk : lookupV h 0 (.agg []) true (.map mo) (.int .i64 n)=some (.tuple [.agg [],.bool false]))
  (l2A : loadV ((h.new (.cells [] true)).set h.next (.cells [] true)) false 1 (.ptr p 2)=some (.map mo)) (up : mapUpdV ((h.new (.cells [] true)).set h.next (.cells [] true)) 0 (.map mo) (.int .i64 n) (.agg [])=some hB)
  (l1 : loadV hB false 1 (.ptr p 1)=some v) (l1' : loadV (hB.new (.cells [.int .i64 n] true)) false 1 (.ptr p 1)=some v) (b1 : AV.beq v v=true)
  (ap : appV 1 8 (hB.new (.cells [.int .i64 n] true)) v (.slice hB.next 0 1 1 1 true)=some (v',hC)) (st : storeV hC 1 (.ptr p 1) v'=some hD)
  (ld : loadV hD false 1 (.ptr p 1)=some v') (ln : lenOfV v'=some (m + 1)) (hm : m < 1000000) (lo : LastOk hD v' m) :
  Gives T 47 [.ptr p 0,.int .i64 n] h fun r h' => r = .bool true∧h'=hD:=by
 refine gives_func (k.env _ (by decide)) (k.at (fn:=a47) rfl) rfl ?_
 have nil0 : nilChkV (.ptr p 0)=some (.ptr p 0):=rfl
 have fa0 : fieldAddrV 0 (.ptr p 0)=some (.ptr p 0):=rfl
 have fa1 : fieldAddrV 1 (.ptr p 0)=some (.ptr p 1):=rfl
 have fa2 : fieldAddrV 2 (.ptr p 0)=some (.ptr p 2):=rfl
 have d1 : decide (n < 0)=false:=by simpa using n0
 have d2 : decide (n ≥ most)=false:=by simpa using n1
 have hfill : fillV [] []=some []:=rfl
 have hpush : Gives T 87 [.iface 151 (.ptr p 1),.iface 3 (.int .i64 n)] hB fun _ h' => h'=hD:=by
  refine gives_func (k.env _ (by decide)) (k.at (fn:=a87) rfl) rfl ?_
  simp only [a87,c87,vms,vmc,vA,vB,reduceCtorEq,vC,vD]
  refine Gives.bind ((push_exact k l1 l1' b1 ap st).mono ?_)
  rintro _ h1 rfl
  simp only [vms,vmc,vA,vB,reduceCtorEq,vC,vD,ld]
  refine Gives.bind ((len_ok (k.env _ (by decide)) (k.at rfl) ln).mono ?_)
  rintro _ _ ⟨rfl,rfl⟩
  rename_i h1
  have e1 : IntKind.i64.wrap (((m + 1 : Nat) : Int) - 1)=(m : Int):=by rw [wrap_i64 (by omega) (by omega)]; omega
  simp only [vms,vmc,vA,vB,reduceCtorEq,vC,vD,e1]
  refine Gives.bind ((up_exact k ld hm lo).mono ?_)
  rintro _ _ rfl
  simp only [vms,vmc,vA,vB,reduceCtorEq,vC,vD]
 simp only [a47,c47,vms,vmc,vA,vB,reduceCtorEq,vC,vD,d1,nil0,fa0,l0,d2]
 refine Gives.bind ((has_exact k l2 lk).mono ?_)
 rintro _ _ ⟨rfl,rfl⟩
 simp only [vms,vmc,vA,vB,reduceCtorEq,vC,vD,nil0,fa1,fa2,l2A,hfill,up]
 refine Gives.bind (hpush.mono ?_)
 rintro _ _ rfl
 simp only [vms,vmc,vA,vB,reduceCtorEq,vC,vD]
 exact ⟨trivial,trivial⟩
end Go.Proofs.YtakgcpmemalmaaaGreatDoor

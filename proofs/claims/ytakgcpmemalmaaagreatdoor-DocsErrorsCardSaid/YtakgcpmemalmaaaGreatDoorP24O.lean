/- arena.New: a round of its inner loop, and that loop. -/
import Derived.Test.YtakgcpmemalmaaaGreatDoorP24N
namespace Go.Proofs.YtakgcpmemalmaaaGreatDoor
open Go.Vm
open Go.RowKit
set_option linter.unusedSimpArgs false
set_option linter.unusedVariables false
set_option maxRecDepth 100000
variable {T : Vm.Prog} {h : AH}
def slotL (S : List (Nat×AV)) : List AV:=S.flatMap fun p => [.int .i64 (p.1 : Int),.int .i64 1,.bool false,p.2]
theorem slotL_add (S : List (Nat×AV)) (c : Nat) (w : AV) : slotL S ++ [.int .i64 (c : Int),.int .i64 1,.bool false,w]=slotL (S ++ [(c,w)]):=by simp [slotL]
structure ArX (h : AH) (a : Nat) (sv : AV) (S : List (Nat×AV)) (ps : List AV) : Prop where
 obj : h.get a=some (.cells (sv :: ps) true)
 slots : TRow h 4 S.length sv (slotL S)
 apart : a∉objs sv
theorem ArX.sv_load {a : Nat} {sv : AV} {S : List (Nat×AV)} {ps : List AV} (A : ArX h a sv S ps) : loadV h false 1 (.ptr a 0)=some sv:=load_at A.obj rfl
theorem ArX.keep {h' : AH} {a : Nat} {sv : AV} {S : List (Nat×AV)} {ps : List AV} (A : ArX h a sv S ps) (ha : h'.get a=h.get a) (hs : ∀ o∈objs sv,h'.get o=h.get o) : ArX h' a sv S ps :=
 ⟨ha.trans A.obj,A.slots.keep hs,A.apart⟩
theorem slot_aggX {c o n : Nat} {w : AV} (hw : w = .slice o 0 1 n n true) : fillV [AV.int .i64 0,.int .i64 0,.bool false,.nilSlice] [(0,1,.int .i64 (c : Int)),(1,1,.int .i64 1),(3,1,w)]=some [.int .i64 (c : Int),.int .i64 1,.bool false,w]:=by
 subst hw
 simp [fillV,AV.isDef,setMany,AV.cells]
theorem slot_rowX {l : List AV} (h : l.length=4) : fillV [AV.int .i64 0,.int .i64 0,.bool false,.nilSlice] [(0,4,.agg l)]=some l:=by
 match l,h with
 | [a,b,c,d],_ => simp [fillV,AV.isDef,AV.cells,setMany]
def c82i : ACode:=match c82l1 with
 | .seq _ (.seq _ (.seq r _)) => r
 | c => c
theorem c82l1_parts : c82l1 = .seq (.ops [⟨(some 43),.bin .lss (.tmp 42) (.tmp 41),none⟩]) (.seq (.cond (.tmp 43) .skip (.exit 4)) (.seq c82i (.ops [⟨(some 69),.bin .add (.tmp 42) (.con (.int .i64 1)),none⟩,⟨(some 42),.mov (.tmp 69),none⟩]))):=rfl
theorem inner_stepX (k : Fits T) (km : MulOk T) {a c p mo b i : Nat} {sv v : AV} {S : List (Nat×AV)} {ps : List AV} (hl : Low h) (A : ArX h a sv S ps) (P : PoolX h p 1024 b i v mo) (hc : c < 5) (hp : ps[c]?=some (.ptr p 0)) (hb : S.length=b + i) (hlt : b + i < 1024) (dis : ∀ o∈footX p v mo,o≠a∧o∉objs sv)
  {f : Fr} (f7 : f.at 7 = .ptr a 0) (f8 : f.at 8 = .int .i64 (c : Int)) {K : AExit→Fr→AH→Prop}
  (hK : ∀ (f' : Fr) h' sv' v' w,(∀ t,t < 43→f'.at t=f.at t)→ArX h' a sv' (S ++ [(c,w)]) ps→PoolX h' p 1024 b (i + 1) v' mo→(∀ o∈objs sv',h.next≤o)→(∀ o∈objs v',h.next≤o∧o∉objs sv')→Only h h' (a :: (objs sv ++ footX p v mo))→Low h'→K .normal f' h') :
  Wp (code T c82i f h) K:=by
 have nb : nilChkV (.ptr a 0)=some (.ptr a 0):=rfl
 have fa0 : fieldAddrV 0 (.ptr a 0)=some (.ptr a 0):=rfl
 have fa1 : fieldAddrV 1 (.ptr a 0)=some (.ptr a 1):=rfl
 have lp : loadV h false 1 (.ptr a (1 + c))=some (.ptr p 0):=load_at A.obj (by rw [Nat.add_comm,List.getElem?_cons_succ]; exact hp)
 have len : lenOfV sv=some (b + i):=by rw [A.slots.len,hb]
 simp only [c82i,c82l1,vms,vmc,AOpd.val,Nat.reduceEqDiff,reduceCtorEq,Nat.reduceAdd,Nat.reduceBEq,f7,f8,nb,fa0,fa1,idxRow_nat hc,lp,A.sv_load,len]
 refine Gives.bind ((put_rise k P hl (by omega) (by omega)).mono ?_)
 rintro _ h1 ⟨rfl,v1,P1,nv1,on1,lo1⟩
 have al : a < h.next:=hl _ _ A.obj
 have svl:=A.slots.low hl
 have A1 : ArX h1 a sv S ps:=A.keep (on1.2 a al fun e => (dis a e).1 rfl) fun o ho => on1.2 o (svl o ho) fun e => (dis o e).2 ho
 have fl:=P.low hl
 simp only [vms,vmc,AOpd.val,Nat.reduceEqDiff,reduceCtorEq,Nat.reduceAdd,Nat.reduceBEq,f7,f8,nb,fa0,A1.sv_load]
 refine Gives.bind ((poison_ok k km hc lo1).mono ?_)
 rintro w h2 ⟨⟨wo,hwe,hwg⟩,hwf,on2,lo2⟩
 have A2 : ArX h2 a sv S ps:=A1.keep (on2.2 a (by have:=on1.1; omega) (by simp)) fun o ho => on2.2 o (by have:=on1.1; have:=svl o ho; omega) (by simp)
 have P2 : PoolX h2 p 1024 b (i + 1) v1 mo:=P1.keep fun o ho => on2.2 o (P1.low lo1 o ho) (by simp)
 have x4 : ([AV.int .i64 (c : Int),.int .i64 1,.bool false,w] : List AV).length=4:=rfl
 have on3 : Only h2 (h2.new (.cells [.int .i64 (c : Int),.int .i64 1,.bool false,w] true)) []:=(Only.refl h2 []).new _
 have lo3:=lo2.new (.cells [.int .i64 (c : Int),.int .i64 1,.bool false,w] true)
 have nx2 : h.next≤h2.next:=by have:=on1.1; have:=on2.1; omega
 have nx3 : (h2.new (.cells [.int .i64 (c : Int),.int .i64 1,.bool false,w] true)).next=h2.next + 1:=next_new
 have A3 : ArX (h2.new (.cells [.int .i64 (c : Int),.int .i64 1,.bool false,w] true)) a sv S ps:=A2.keep (on3.2 a (by omega) (by simp)) fun o ho => on3.2 o (by have:=svl o ho; omega) (by simp)
 have P3 : PoolX (h2.new (.cells [.int .i64 (c : Int),.int .i64 1,.bool false,w] true)) p 1024 b (i + 1) v1 mo:=P2.keep fun o ho => on3.2 o (P2.low lo2 o ho) (by simp)
 have beqs : AV.beqs [AV.int .i64 (c : Int),.int .i64 1,.bool false,w] [AV.int .i64 (c : Int),.int .i64 1,.bool false,w]=true:=by subst hwe; simp [AV.beqs,AV.beq]
 have cell : (h2.new (.cells [.int .i64 (c : Int),.int .i64 1,.bool false,w] true)).get h2.next=some (.cells [.int .i64 (c : Int),.int .i64 1,.bool false,w] true):=get_new_same
 simp only [vms,vmc,AOpd.val,Nat.reduceEqDiff,reduceCtorEq,Nat.reduceAdd,Nat.reduceBEq,f7,f8,slot_aggX hwe,slot_rowX x4]
 rw [items_look (look_load (v:=sv) (by simp only [vms,vmc,AOpd.val,Nat.reduceEqDiff,reduceCtorEq,Nat.reduceAdd,Nat.reduceBEq,fa0]; exact A3.sv_load) (by simp only [vms,vmc,AOpd.val,Nat.reduceEqDiff,reduceCtorEq,Nat.reduceAdd,Nat.reduceBEq]) A.slots.cell.2.2.1)]
 rw [items_look (look_build (l:=[.int .i64 (c : Int),.int .i64 1,.bool false,w]) (q:=h2.next) (by simp only [vms,vmc,AOpd.val,Nat.reduceEqDiff,reduceCtorEq,Nat.reduceAdd,Nat.reduceBEq]; exact slot_rowX x4) (by simp only [vms,vmc,AOpd.val,Nat.reduceEqDiff,reduceCtorEq,Nat.reduceAdd,Nat.reduceBEq]; rfl) cell beqs)]
 generalize h2.new (.cells [.int .i64 (c : Int),.int .i64 1,.bool false,w] true)=h3 at on3 lo3 nx3 A3 P3 cell
 obtain ⟨h4,app,row4,on4,lo4,nx4⟩:=A3.slots.append (bytes:=48) (sz:=4) lo3 (by omega) (by decide) (by decide) (by omega) cell rfl (by subst hwe; rfl)
 rw [slotL_add,hb] at row4
 rw [hb] at app
 have obj4 : h4.get a=some (.cells (sv :: ps) true):=(on4.2 a (by omega) A.apart).trans A3.obj
 have st : storeV h4 1 (.ptr a 0) (.slice h3.next 0 4 (b + i + 1) (b + i + 1) false)=some (h4.set a (.cells (.slice h3.next 0 4 (b + i + 1) (b + i + 1) false :: ps) true)):=store_at (i:=0) obj4 (by simp) rfl rfl
 simp only [vms,vmc,AOpd.val,Nat.reduceEqDiff,reduceCtorEq,Nat.reduceAdd,Nat.reduceBEq,f7,nb,fa0,app,st]
 have lt1 : ∀ o∈footX p v1 mo,o < h2.next:=P2.low lo2
 have disv : ∀ o∈objs v1,o≠a∧o∉objs sv:=fun o ho => ⟨by have:=nv1 o ho; omega,fun e => by have:=nv1 o ho; have:=svl o e; omega⟩
 have dis1 : ∀ o∈footX p v1 mo,o≠a∧o∉objs sv:=by
  intro o ho
  simp only [footX,List.mem_cons] at ho
  rcases ho with rfl | rfl | ho
  ·exact dis _ (by simp [footX])
  ·exact dis _ (by simp [footX])
  ·exact disv o ho
 refine hK _ _ (.slice h3.next 0 4 (b + i + 1) (b + i + 1) false) v1 w ?_ ⟨get_set_same,?_,?_⟩ ?_ ?_ ?_ ?_ (lo4.set (by omega) _)
 ·intro t ht
  simp only [Fr.at_put,put_none]
  repeat rw [if_neg (by omega)]
 ·have : (S ++ [(c,w)]).length=b + i + 1:=by simp [hb]
  rw [this]
  exact row4.keep fun o ho => by
   simp only [objs,List.mem_cons,List.not_mem_nil,or_false] at ho
   rw [AH.get_set,if_neg (by omega)]
 ·simp only [objs,List.mem_cons,List.not_mem_nil,or_false]; omega
 ·refine P3.keep fun o ho => ?_
  rw [AH.get_set,if_neg (fun e => (dis1 o ho).1 e.symm)]
  exact on4.2 o (by have:=lt1 o ho; omega) (dis1 o ho).2
 ·intro o ho
  simp only [objs,List.mem_cons,List.not_mem_nil,or_false] at ho
  omega
 ·intro o ho
  refine ⟨nv1 o ho,?_⟩
  have:=lt1 o (by simp [footX,ho])
  simp only [objs,List.mem_cons,List.not_mem_nil,or_false]
  omega
 ·refine ⟨by rw [next_set]; omega,fun q hq hF => ?_⟩
  simp only [List.mem_cons,List.mem_append,not_or] at hF
  rw [AH.get_set,if_neg (fun e => hF.1 e.symm),on4.2 q (by omega) hF.2.1,on3.2 q (by omega) (by simp),on2.2 q (by have:=on1.1; omega) (by simp),on1.2 q hq hF.2.2]
theorem inner_loopX (k : Fits T) (km : MulOk T) {a c p mo b n : Nat} {sv : AV} {S : List (Nat×AV)} {ps : List AV} (hl : Low h) (A : ArX h a sv S ps) (P : PoolX h p 1024 b 0 .nilSlice mo) (hc : c < 5) (hp : ps[c]?=some (.ptr p 0)) (hb : S.length=b) (hn : b + n≤1024) (dp : p≠a∧p∉objs sv) (dm : mo≠a∧mo∉objs sv)
  {f : Fr} (f7 : f.at 7 = .ptr a 0) (f8 : f.at 8 = .int .i64 (c : Int)) (f41 : f.at 41 = .int .i64 (n : Int)) (f42 : f.at 42 = .int .i64 0) {K : AExit→Fr→AH→Prop}
  (hK : ∀ (f' : Fr) h' sv' v' (W : List AV),(∀ t,t < 42→f'.at t=f.at t)→W.length=n→ArX h' a sv' (S ++ W.map fun w => (c,w)) ps→PoolX h' p 1024 b n v' mo→(∀ o∈objs sv',o∈objs sv∨h.next≤o)→(∀ o∈objs v',h.next≤o∧o∉objs sv')→Only h h' (a :: (objs sv ++ [p,mo]))→Low h'→K (.exit 4) f' h') :
  Wp (code T (.loop c82l1) f h) K:=by
 refine wpc_loop (fun m f' h' => ∃ (i : Nat) (sv' v' : AV) (W : List AV),m=n - i∧i≤n∧(∀ t,t < 42→f'.at t=f.at t)∧f'.at 42 = .int .i64 (i : Nat)∧W.length=i∧ArX h' a sv' (S ++ W.map fun w => (c,w)) ps∧PoolX h' p 1024 b i v' mo∧(∀ o∈objs sv',o∈objs sv∨h.next≤o)∧(∀ o∈objs v',h.next≤o∧o∉objs sv')∧Only h h' (a :: (objs sv ++ [p,mo]))∧Low h') ?_ n f h
  ⟨0,sv,.nilSlice,[],rfl,Nat.zero_le _,fun _ _ => rfl,f42,rfl,by simpa using A,P,fun o ho => .inl ho,fun o ho => by simp [objs] at ho,Only.refl _ _,hl⟩
 rintro m f' h' ⟨i,sv',v',W,rfl,hi,hf,g42,hW,A',P',nsv,nv,on',lo'⟩
 have g41 : f'.at 41 = .int .i64 (n : Int):=(hf 41 (by omega)).trans f41
 have al : a < h.next:=hl _ _ A.obj
 have pl : p < h.next:=hl _ _ P.obj
 have ml : mo < h.next:=hl _ _ P.keys
 simp only [c82l1_parts,vms,vmc,AOpd.val,Nat.reduceEqDiff,reduceCtorEq,Nat.reduceAdd,Nat.reduceBEq,g41,g42]
 by_cases hlt : i < n
 ·have hd : decide ((i : Int) < (n : Int))=true:=by rw [decide_eq_true_eq]; omega
  simp only [hd,vms,vmc,AOpd.val,Nat.reduceEqDiff,reduceCtorEq,Nat.reduceAdd,Nat.reduceBEq]
  have dsv : ∀ o,o < h.next→o∉objs sv→o∉objs sv':=fun o h1 h2 h3 => by
   rcases nsv o h3 with h4 | h4
   ·exact h2 h4
   ·omega
  refine inner_stepX k km lo' A' P' hc hp (by simp [hb,hW]) (by omega) ?_ (by simp only [vms,vmc,AOpd.val,Nat.reduceEqDiff,reduceCtorEq,Nat.reduceAdd,Nat.reduceBEq]; exact (hf 7 (by omega)).trans f7) (by simp only [vms,vmc,AOpd.val,Nat.reduceEqDiff,reduceCtorEq,Nat.reduceAdd,Nat.reduceBEq]; exact (hf 8 (by omega)).trans f8) ?_
  ·intro o ho
   simp only [footX,List.mem_cons] at ho
   rcases ho with rfl | rfl | ho
   ·exact ⟨dp.1,dsv _ pl dp.2⟩
   ·exact ⟨dm.1,dsv _ ml dm.2⟩
   ·obtain ⟨h1,h2⟩:=nv o ho
    exact ⟨by omega,h2⟩
  ·intro f2 h2 sv2 v2 w e2 A2 P2 nsv2 nv2 on2 lo2
   have g42' : f2.at 42 = .int .i64 (i : Nat):=by rw [e2 42 (by omega)]; simp only [vms,vmc,AOpd.val,Nat.reduceEqDiff,reduceCtorEq,Nat.reduceAdd,Nat.reduceBEq]; exact g42
   have w1 : IntKind.i64.wrap ((i : Int) + 1)=((i + 1 : Nat) : Int):=by rw [wrap_i64 (by omega) (by omega)]; rfl
   have nx:=on'.1
   simp only [vms,vmc,AOpd.val,Nat.reduceEqDiff,reduceCtorEq,Nat.reduceAdd,Nat.reduceBEq,g42',w1]
   refine ⟨n - (i + 1),by omega,i + 1,sv2,v2,W ++ [w],rfl,by omega,?_,rfl,by simp [hW],by simpa using A2,P2,?_,?_,?_,lo2⟩
   ·intro t ht
    rw [if_neg (by omega),if_neg (by omega),e2 t (by omega)]
    simp only [Fr.at_put]
    rw [if_neg (by omega)]
    exact hf t ht
   ·intro o ho
    right; have:=nsv2 o ho; omega
   ·intro o ho
    obtain ⟨h1,h2⟩:=nv2 o ho
    exact ⟨by omega,h2⟩
   ·refine ⟨by have:=on2.1; omega,fun q hq hF => ?_⟩
    simp only [List.mem_cons,List.mem_append,List.not_mem_nil,or_false,not_or] at hF
    rw [on2.2 q (by omega) ?_,on'.2 q hq (by simp [hF.1,hF.2.1,hF.2.2.1,hF.2.2.2])]
    simp only [List.mem_cons,List.mem_append,footX,not_or]
    exact ⟨hF.1,dsv q hq hF.2.1,hF.2.2.1,hF.2.2.2,fun h3 => by have:=(nv q h3).1; omega⟩
 ·have hd : decide ((i : Int) < (n : Int))=false:=by rw [decide_eq_false_iff_not]; omega
  have : i=n:=by omega
  subst this
  simp only [hd,vms,vmc,AOpd.val,Nat.reduceEqDiff,reduceCtorEq,Nat.reduceAdd,Nat.reduceBEq]
  refine hK _ h' sv' v' W ?_ hW A' P' nsv nv on' lo'
  intro t ht
  simp only [Fr.at_put]
  rw [if_neg (by omega)]
  exact hf t ht
end Go.Proofs.YtakgcpmemalmaaaGreatDoor

/- The document's own arena: a new one, slot by slot. -/
import Derived.Test.YtagcnjhpdopkiaaD9Ref
namespace Go.Proofs.Ytagcnjhpdopkiaa
open Go.Vm
open Go.Vm.AOpd renaming val → vA
open Nat renaming reduceEqDiff → vB,reduceAdd → vC,reduceBEq → vD
set_option linter.unusedSimpArgs false
set_option linter.unusedVariables false
variable {T : Vm.Prog} {h : AH}
theorem RAr.addSlot {a : Nat} {sv : AV} {S : List Slot} {Q : List RP} (A : RAr h a sv S Q) (hl : Low h) {x : Slot} {o2 : Nat} (hs : S.length < 1024) (h2 : h.get o2=some (.cells x.cells true)) (hne : ∀ o∈objs sv,o≠o2) (hw : Words h x.wv x.ws)
  (ho : ∀ o∈objs x.wv,o≠a∧o∉objs sv) (hk : x.cls < 5∧x.gen < 9223372036854775807∧x.ws.length=sizeN x.cls) :
  ∃ sv' h1 h',appV 4 48 h sv (.slice o2 0 4 1 1 true)=some (sv',h1)∧storeV h1 1 (.ptr a 0) sv'=some h'∧RAr h' a sv' (S ++ [x]) Q∧Only h h' (a :: objs sv)∧Low h'∧∀ o∈objs sv',o∈objs sv∨h.next≤o:=by
 obtain ⟨sv',h1,happ,r1,hob,hob2,on1,lo1,hc,hf⟩:=append_slot hl A.slots (by omega) h2 hne hw
 obtain ⟨l1,l2,l3,l4⟩:=A.low hl
 have ga : h1.get a=some (.cells (headC sv Q) true):=(on1.2 a l1 A.aside).trans A.obj
 have hne' : ∀ (X : AObj) (o : Nat),o≠a→(h1.set a X).get o=h1.get o:=fun X o e => by rw [AH.get_set,if_neg (Ne.symm e)]
 have hsva : ∀ o∈objs sv',o≠a:=by
  intro o h5 e
  subst e
  rcases hob o h5 with h6 | h6
  ·exact A.aside h6
  ·omega
 have hwl : ∀ o∈objs x.wv,o < h.next:=by
  intro o h5
  obtain ⟨o',e,hg⟩:=hw
  rw [e] at h5; simp [objs] at h5; subst h5
  exact hl _ _ hg
 have hmem : ∀ s∈S ++ [x],s∈S∨s=x:=by intro s hs; simpa using hs
 refine ⟨sv',h1,_,happ,store_at ga (by simp [headC]) hc hf,?_,?_,lo1.set (lo1 _ _ ga) _,hob⟩
 ·refine ⟨by rw [get_set_same]; rfl,A.five,r1.keep fun o h5 => hne' _ o (hsva o h5),?_,?_,?_,?_,fun h5 => hsva a h5 rfl,?_,by simp; omega,A.short,A.caps⟩
  ·intro s hs
   have key : ∀ o∈objs s.wv,o≠a∧o∉objs sv∧o < h.next:=by
    intro o h5
    rcases hmem s hs with h6 | rfl
    ·exact ⟨(A.own s h6 o h5).1,(A.own s h6 o h5).2,l4 s h6 o h5⟩
    ·exact ⟨(ho o h5).1,(ho o h5).2,hwl o h5⟩
   have base : Words h s.wv s.ws:=by
    rcases hmem s hs with h6 | rfl
    ·exact A.words s h6
    ·exact hw
   exact base.keep fun o h5 => (hne' _ o (key o h5).1).trans (on1.2 o (key o h5).2.2 (key o h5).2.1)
  ·intro s hs o h5
   have key : o≠a∧o∉objs sv∧o < h.next:=by
    rcases hmem s hs with h6 | rfl
    ·exact ⟨(A.own s h6 o h5).1,(A.own s h6 o h5).2,l4 s h6 o h5⟩
    ·exact ⟨(ho o h5).1,(ho o h5).2,hwl o h5⟩
   refine ⟨key.1,fun h7 => ?_⟩
   rcases hob o h7 with h8 | h8
   ·exact key.2.1 h8
   ·omega
  ·intro q hq
   exact sees_same (A.lists q hq) fun o h5 => (hne' _ o (A.lown q hq o h5).1).trans (on1.2 o (l3 q hq o h5) (A.lown q hq o h5).2)
  ·intro q hq o h5
   refine ⟨(A.lown q hq o h5).1,fun h6 => ?_⟩
   rcases hob o h6 with h7 | h7
   ·exact (A.lown q hq o h5).2 h7
   ·have:=l3 q hq o h5; omega
  ·intro s hs
   rcases hmem s hs with h6 | rfl
   ·exact A.kinds s h6
   ·exact hk
 ·refine ⟨by rw [next_set]; exact on1.1,fun q hq hF => ?_⟩
  simp only [List.mem_cons,not_or] at hF
  rw [hne' _ q hF.1]
  exact on1.2 q hq hF.2
theorem RAr.setMost {w : Nat} {sv : AV} {S : List Slot} {Q : List RP} (A : RAr h w sv S Q) {c : Nat} {q : RP} (hq : Q[c]?=some q) (m : Int) :
  ∃ h',storeV h 1 (.ptr w (1 + c * 2)) (.int .i64 m)=some h'∧Upd h h' w∧RAr h' w sv S (Q.set c ⟨m,q.v,q.L⟩):=by
 have hc:=cls_of A.five hq
 have hm:=List.mem_of_getElem? hq
 refine ⟨_,store_at A.obj (by rw [headC_len A.five]; omega) rfl rfl,(Upd.refl h _).set _,?_⟩
 rw [headC_m A.five hq]
 have hne : ∀ o,o≠w→(h.set w (.cells (headC sv (Q.set c ⟨m,q.v,q.L⟩)) true)).get o=h.get o:=fun o e => by rw [AH.get_set,if_neg (Ne.symm e)]
 have hmem : ∀ r∈Q.set c ⟨m,q.v,q.L⟩,∃ r0∈Q,r.v=r0.v∧r.L=r0.L:=by
  intro r hr
  rcases List.mem_or_eq_of_mem_set hr with h4 | rfl
  ·exact ⟨r,h4,rfl,rfl⟩
  ·exact ⟨q,hm,rfl,rfl⟩
 refine ⟨get_set_same,by simpa using A.five,A.slots.keep fun o h5 => hne o fun e => A.aside (e ▸ h5),fun s hs => (A.words s hs).keep fun o h5 => hne o (A.own s hs o h5).1,A.own,?_,?_,A.aside,A.kinds,A.small,?_,?_⟩
 ·intro r hr
  obtain ⟨r0,h0,e1,e2⟩:=hmem r hr
  rw [e1,e2]
  exact sees_same (A.lists r0 h0) fun o h5 => hne o (A.lown r0 h0 o h5).1
 ·intro r hr
  obtain ⟨r0,h0,e1,e2⟩:=hmem r hr
  rw [e1]; exact A.lown r0 h0
 ·intro r hr
  obtain ⟨r0,h0,e1,e2⟩:=hmem r hr
  rw [e2]; exact A.short r0 h0
 ·intro r hr
  obtain ⟨r0,h0,e1,e2⟩:=hmem r hr
  rw [e1]; exact A.caps r0 h0
def mkP (c : Nat) : SlotP:=⟨c,1,false,poisonP c⟩
def newP (ns : List Nat) (c i : Nat) : List SlotP:=(newK ns c ++ List.replicate i c).map mkP
theorem isFree_mkP {j c : Nat} : isFree j (mkP c)=(c == j):=by simp [isFree,mkP]
theorem newP_succ {ns : List Nat} {c i : Nat} : newP ns c (i + 1)=newP ns c i ++ [mkP c]:=by
 simp [newP,List.replicate_succ']
theorem newP_next {ns : List Nat} {c n : Nat} (h : ns[c]?=some n) : newP ns c n=newP ns (c + 1) 0:=by
 simp [newP,newK,h]
theorem newK_len {ns : List Nat} : ∀ (c : Nat),(newK ns c).length=pre ns c
 | 0 => by simp [newK,pre]
 | c + 1 => by
  rw [newK,List.length_append,newK_len c,List.length_replicate]
  unfold pre
  rw [List.take_add_one]
  cases ns[c]? <;> simp
theorem newP_len {ns : List Nat} {c i : Nat} : (newP ns c i).length=pre ns c + i:=by
 simp [newP,newK_len]
theorem freeL_append {st : List SlotP} {x : SlotP} {c : Nat} : freeL (st ++ [x]) c=freeL st c ++ if isFree c x=true then [(st.length : Int)] else []:=by
 unfold freeL
 rw [List.length_append,List.length_singleton,List.range_succ,List.filter_append,List.map_append]
 congr 1
 ·congr 1
  refine List.filter_congr fun j hj => ?_
  have hj' : j < st.length:=by simpa using hj
  unfold freeAt
  rw [List.getElem?_append_left hj']
 ·have : freeAt (st ++ [x]) c st.length=isFree c x:=by
   unfold freeAt
   rw [List.getElem?_append_right (Nat.le_refl _),Nat.sub_self]; rfl
  simp only [List.filter_cons,List.filter_nil,this]
  split <;> simp
theorem freeL_lt {st : List SlotP} {c : Nat} : ∀ y∈freeL st c,y < (st.length : Int):=ofNat_lo
theorem insI_last {L : List Int} {n : Int} (h : ∀ y∈L,y < n) : insI L n=L ++ [n]:=by
 have:=tw_append (A:=L) (B:=[]) h (fun y hy => by simp at hy)
 rwa [List.append_nil] at this
structure RMade (h0 : AH) (w : Nat) (ns : List Nat) (c i : Nat) (h : AH) (sv : AV) (S : List Slot) (Q : List RP) : Prop where
 A : RAr h w sv S Q
 lo : Low h
 on : Only h0 h []
 hw : h0.next≤w
 st : S.map Slot.pure=newP ns c i
 fr : ∀ (j : Nat) (q : RP),Q[j]?=some q→q.L=freeL (newP ns c i) j
 nsv : ∀ o∈objs sv,h0.next≤o
 nq : ∀ q∈Q,∀ o∈objs q.v,h0.next≤o
 nw : ∀ s∈S,∀ o∈objs s.wv,h0.next≤o
def c46i : ACode:=match c46l1 with
 | .seq _ (.seq (.block _ r) _) => r
 | c => c
theorem rinner_step (k : Fits T) {h0 : AH} {ns : List Nat} {w c i : Nat} {N : Int} {sv : AV} {S : List Slot} {Q : List RP} (M : RMade h0 w ns c i h sv S Q) (hc5 : c < 5) (hN : ((pre ns c + i : Nat) : Int) < N) (hN2 : N≤1024)
  (hmo : ∀ (j : Nat) (q : RP),Q[j]?=some q→j≤c→q.m=N) {f : Fr} (f7 : f.at 7 = .ptr w 0) (f8 : f.at 8 = .int .i64 (c : Int)) {K : AExit→Fr→AH→Prop}
  (hK : ∀ (f' : Fr) h' sv' S' Q',(∀ t,t < 46→f'.at t=f.at t)→RMade h0 w ns c (i + 1) h' sv' S' Q'→(∀ (j : Nat) (q : RP),Q'[j]?=some q→j≤c→q.m=N)→K .normal f' h') :
  Wp (code T c46i f h) K:=by
 have A:=M.A
 have hl:=M.lo
 have hlenS : S.length=pre ns c + i:=by
  have:=congrArg List.length M.st
  rw [newP_len,List.length_map] at this; exact this
 have nc : nilChkV (.ptr w 0)=some (.ptr w 0):=rfl
 have fa0 : fieldAddrV 0 (.ptr w 0)=some (.ptr w 0):=rfl
 have fa1 : fieldAddrV 1 (.ptr w 0)=some (.ptr w 1):=rfl
 obtain ⟨q,hq⟩ : ∃ q,Q[c]?=some q:=⟨_,List.getElem?_eq_getElem (by rw [A.five]; omega)⟩
 have hqL:=M.fr c q hq
 have hqm:=hmo c q hq (Nat.le_refl _)
 have hlt : ∀ y∈q.L,y < (S.length : Int):=by
  rw [hqL,hlenS,← newP_len]; exact freeL_lt
 have hsh : q.L.length < 1024:=by
  have e:=roomP_le (st:=newP ns c i) (c:=c)
  rw [newP_len] at e
  rw [hqL,freeL_len]; omega
 simp only [c46i,c46l1,vms,vmc,vA,vB,reduceCtorEq,vC,vD,f7,f8,nc,fa0,fa1,idxRow_two hc5,A.sv_load,A.slots.len]
 refine Gives.bind ((rput_ok k A hl hq (n:=(S.length : Int)) (by omega) (by rw [hqm,hlenS]; exact hN) (fun e => by have:=hlt _ e; omega) hsh).mono ?_)
 rintro _ h1 ⟨v1,A1,hv1,on1,lo1⟩
 rw [insI_last hlt] at A1
 simp only [vms,vmc,vA,vB,reduceCtorEq,vC,vD,f7,f8,nc,fa0,A1.sv_load]
 refine Gives.bind ((rpoison_ok k hc5 lo1).mono ?_)
 rintro r2 h2 ⟨hw2,hwf,on2,lo2⟩
 have A2:=A1.grow lo1 on2
 obtain ⟨wo,hwe,hwg⟩:=hw2
 have hpl : (poisonP c).length=sizeN c:=by simp [poisonP]
 rw [hpl] at hwe
 have x4 : ([AV.int .i64 (c : Int),.int .i64 1,.bool false,r2] : List AV).length=4:=rfl
 have on3 : Only h2 (h2.new (.cells [.int .i64 (c : Int),.int .i64 1,.bool false,r2] true)) []:=(Only.refl h2 []).new _
 have lo3:=lo2.new (.cells [.int .i64 (c : Int),.int .i64 1,.bool false,r2] true)
 have A3:=A2.grow lo2 on3
 obtain ⟨l1,l2,l3,l4⟩:=A1.low lo1
 have hwl : wo < h2.next:=lo2 _ _ hwg
 have hw3 : Words (h2.new (.cells [.int .i64 (c : Int),.int .i64 1,.bool false,r2] true)) r2 (poisonP c):=⟨wo,by rw [hpl]; exact hwe,by rw [AH.get_new,if_neg (by omega)]; exact hwg⟩
 have hwown : ∀ o∈objs r2,o≠w∧o∉objs sv:=by
  intro o ho
  have:=hwf o ho
  exact ⟨by omega,fun e => by have:=l2 o e; omega⟩
 obtain ⟨sv',h4,h5',happ,hst,A5,on5,lo5,hob⟩:=A3.addSlot lo3 (x:=⟨c,1,false,poisonP c,r2⟩) (o2:=h2.next) (by omega) get_new_same (fun o ho => by have:=l2 o ho; have:=on2.1; omega) hw3 hwown ⟨hc5,by show 1 < _; omega,hpl⟩
 simp only [vms,vmc,vA,vB,reduceCtorEq,vC,vD,f7,f8,slot_agg hwe,slot_row x4]
 rw [items_look (look_load (v:=sv) (by simp only [vms,vmc,vA,vB,reduceCtorEq,vC,vD,fa0]; exact A3.sv_load) (by simp only [vms,vmc,vA,vB,reduceCtorEq,vC,vD]) (by
  rcases A3.slots with ⟨e,_⟩ | ⟨so,cap,l,e,_⟩
  ·rw [e]; rfl
  ·rw [e]; unfold AV.beq; simp))]
 rw [items_look (look_build (l:=[.int .i64 (c : Int),.int .i64 1,.bool false,r2]) (q:=h2.next) (by simp only [vms,vmc,vA,vB,reduceCtorEq,vC,vD]; exact slot_row x4) (by simp only [vms,vmc,vA,vB,reduceCtorEq,vC,vD]; rfl) get_new_same (slot_beqs (x:=⟨c,1,false,poisonP c,r2⟩) hw3))]
 simp only [vms,vmc,vA,vB,reduceCtorEq,vC,vD,f7,nc,fa0,happ,hst]
 have hm0:=M.on.1
 have hset : ∀ r∈Q.set c ⟨q.m,v1,q.L ++ [(S.length : Int)]⟩,r∈Q∨r=⟨q.m,v1,q.L ++ [(S.length : Int)]⟩:=by
  intro r hr
  exact List.mem_or_eq_of_mem_set hr
 refine hK _ _ sv' (S ++ [⟨c,1,false,poisonP c,r2⟩]) (Q.set c ⟨q.m,v1,q.L ++ [(S.length : Int)]⟩) ?_ ⟨A5,lo5,?_,M.hw,?_,?_,?_,?_,?_⟩ ?_
 ·intro t ht
  simp only [Fr.at_put,put_none]
  repeat rw [if_neg (by omega)]
 ·have o1 : Only h0 h1 []:=M.on.trans on1 (fun o ho => .inr (by simp at ho; subst ho; exact M.hw))
  have o2 : Only h0 (h2.new (.cells [.int .i64 (c : Int),.int .i64 1,.bool false,r2] true)) []:=(o1.trans on2 (fun o ho => by simp at ho)).trans on3 (fun o ho => by simp at ho)
  exact o2.trans on5 (fun o ho => .inr (by
   rcases List.mem_cons.1 ho with rfl | h6
   ·exact M.hw
   ·exact M.nsv o h6))
 ·rw [List.map_append,M.st,newP_succ]; rfl
 ·intro j r hr
  rw [List.getElem?_set] at hr
  rw [newP_succ,freeL_append,isFree_mkP]
  by_cases e : c=j
  ·subst e
   rw [if_pos rfl,if_pos (by rw [A.five]; omega)] at hr
   cases hr
   simp [hqL,newP_len,hlenS]
  ·rw [if_neg e] at hr
   rw [if_neg (by simpa using e),List.append_nil]
   exact M.fr j r hr
 ·intro o ho
  rcases hob o ho with h6 | h6
  ·exact M.nsv o h6
  ·have:=on1.1; have:=on2.1; have:=on3.1; omega
 ·intro r hr o ho
  rcases hset r hr with h6 | rfl
  ·exact M.nq r h6 o ho
  ·have:=hv1 o ho; omega
 ·intro s hs o ho
  rcases List.mem_append.1 hs with h6 | h6
  ·exact M.nw s h6 o ho
  ·simp only [List.mem_cons,List.not_mem_nil,or_false] at h6
   subst h6
   have:=hwf o ho; have:=on1.1; omega
 ·intro j r hr hj
  rw [List.getElem?_set] at hr
  by_cases e : c=j
  ·subst e
   rw [if_pos rfl,if_pos (by rw [A.five]; omega)] at hr
   cases hr
   exact hqm
  ·rw [if_neg e] at hr
   exact hmo j r hr hj
end Go.Proofs.Ytagcnjhpdopkiaa
/- The document's own arena: a new one. -/
namespace Go.Proofs.Ytagcnjhpdopkiaa
open Go.Vm
open Go.Vm.AOpd renaming val → vA
open Nat renaming reduceEqDiff → vB,reduceAdd → vC,reduceBEq → vD
set_option linter.unusedSimpArgs false
set_option linter.unusedVariables false
variable {T : Vm.Prog} {h : AH}
theorem c46l1_parts : c46l1 = .seq (.seq (.ops [⟨(some 41),.mov (.tmp 10),none⟩,⟨(some 42),.mov (.tmp 9),none⟩,⟨(some 43),.bin .lss (.tmp 41) (.tmp 42),none⟩]) (.cond (.tmp 43) .skip (.exit 4)))
  (.seq (.block 5 c46i) (.ops [⟨(some 44),.mov (.tmp 10),none⟩,⟨(some 45),.bin .add (.tmp 44) (.con (.int .i64 1)),none⟩,⟨(some 10),.mov (.tmp 45),none⟩])):=rfl
theorem rinner_loop (k : Fits T) {h0 : AH} {ns : List Nat} {w c n : Nat} {N : Int} {sv : AV} {S : List Slot} {Q : List RP} (M : RMade h0 w ns c 0 h sv S Q) (h5 : ns.length=5) (hc : ns[c]?=some n) (hN : N=(ns.sum : Nat)) (hN2 : N≤1024)
  (hmo : ∀ (j : Nat) (q : RP),Q[j]?=some q→j≤c→q.m=N) {f : Fr} (f7 : f.at 7 = .ptr w 0) (f8 : f.at 8 = .int .i64 (c : Int)) (f9 : f.at 9 = .int .i64 (n : Int)) (f10 : f.at 10 = .int .i64 0) {K : AExit→Fr→AH→Prop}
  (hK : ∀ (f' : Fr) h' sv' S' Q',(∀ t,t < 41→t≠10→f'.at t=f.at t)→RMade h0 w ns (c + 1) 0 h' sv' S' Q'→(∀ (j : Nat) (q : RP),Q'[j]?=some q→j≤c→q.m=N)→K (.exit 4) f' h') :
  Wp (code T (.loop c46l1) f h) K:=by
 have hc5 : c < 5:=by rw [← h5]; exact (List.getElem?_eq_some_iff.1 hc).1
 have hp:=pre_succ hc
 have hp2:=pre_le ns (c + 1)
 refine wpc_loop (fun m f' h' => ∃ i sv' S' Q',m=n - i∧i≤n∧(∀ t,t < 41→t≠10→f'.at t=f.at t)∧f'.at 10 = .int .i64 (i : Nat)∧RMade h0 w ns c i h' sv' S' Q'∧(∀ (j : Nat) (q : RP),Q'[j]?=some q→j≤c→q.m=N)) ?_ n f h
  ⟨0,sv,S,Q,rfl,Nat.zero_le _,fun _ _ _ => rfl,f10,M,hmo⟩
 rintro m f' h' ⟨i,sv',S',Q',rfl,hi,hf,g10,M',hmo'⟩
 have g9 : f'.at 9 = .int .i64 (n : Int):=(hf 9 (by omega) (by omega)).trans f9
 simp only [c46l1_parts,vms,vmc,vA,vB,reduceCtorEq,vC,vD,g10,g9]
 by_cases hlt : i < n
 ·have hd : decide ((i : Int) < (n : Int))=true:=by rw [decide_eq_true_eq]; omega
  simp only [hd,vms,vmc,vA,vB,reduceCtorEq,vC,vD]
  refine rinner_step k M' hc5 (by omega) hN2 hmo' (by simp only [vms,vmc,vA,vB,reduceCtorEq,vC,vD]; exact (hf 7 (by omega) (by omega)).trans f7) (by simp only [vms,vmc,vA,vB,reduceCtorEq,vC,vD]; exact (hf 8 (by omega) (by omega)).trans f8) ?_
  intro f2 h2 sv2 S2 Q2 e2 M2 hmo2
  have g10' : f2.at 10 = .int .i64 (i : Nat):=by rw [e2 10 (by omega)]; simp only [vms,vmc,vA,vB,reduceCtorEq,vC,vD]; exact g10
  have w1 : IntKind.i64.wrap ((i : Int) + 1)=((i + 1 : Nat) : Int):=by rw [wrap_i64 (by omega) (by omega)]; rfl
  simp only [vms,vmc,vA,vB,reduceCtorEq,vC,vD,g10',w1]
  refine ⟨n - (i + 1),by omega,i + 1,sv2,S2,Q2,rfl,by omega,?_,rfl,M2,hmo2⟩
  intro t ht ht2
  rw [if_neg (by omega),if_neg (by omega),if_neg (by omega),e2 t (by omega)]
  simp only [Fr.at_put]
  rw [if_neg (by omega),if_neg (by omega),if_neg (by omega)]
  exact hf t ht ht2
 ·have hd : decide ((i : Int) < (n : Int))=false:=by rw [decide_eq_false_iff_not]; omega
  have : i=n:=by omega
  subst this
  simp only [hd,vms,vmc,vA,vB,reduceCtorEq,vC,vD]
  refine hK _ h' sv' S' Q' ?_ ⟨M'.A,M'.lo,M'.on,M'.hw,by rw [M'.st,newP_next hc],fun j q hq => by rw [M'.fr j q hq,newP_next hc],M'.nsv,M'.nq,M'.nw⟩ hmo'
  intro t ht ht2
  simp only [Fr.at_put]
  rw [if_neg (by omega),if_neg (by omega),if_neg (by omega)]
  exact hf t ht ht2
def newSt (ns : List Nat) : List SlotP:=newP ns 5 0
theorem newK_lt {ns : List Nat} : ∀ (c : Nat),∀ j∈newK ns c,j < c
 | 0,j,hj => by simp [newK] at hj
 | c + 1,j,hj => by
  rw [newK] at hj
  rcases List.mem_append.1 hj with h1 | h1
  ·have:=newK_lt c j h1; omega
  ·have:=List.eq_of_mem_replicate h1; omega
theorem newSt_inv {ns : List Nat} (h5 : ns.length=5) (hsum : ns.sum≤1024) : InvP (newSt ns):=by
 refine ⟨?_,fun n x hx => ?_⟩
 ·unfold newSt; rw [newP_len]; have:=pre_le ns 5; omega
 ·have:=List.mem_of_getElem? hx
  simp only [newSt,newP,List.replicate_zero,List.append_nil,List.mem_map] at this
  obtain ⟨c,hc,rfl⟩:=this
  exact ⟨newK_lt 5 c hc,Nat.le_refl _,by show 1≤_; omega,(fun e => by simp [mkP] at e),by simp [mkP,poisonP]⟩
theorem ref_new (k : Fits T) {ns : List Nat} (hl : Low h) (h5 : ns.length=5) (hsum : ns.sum≤1024) :
  Gives T 46 [.agg (ints ns)] h fun r h' => ∃ w F,r = .tuple [.ptr w 0,.int .i64 0]∧RefR w (newSt ns) F h'∧Quiet h h'∧(∀ o,F o→h.next≤o)∧Low h':=by
 refine gives_func (k.env _ (by decide)) (k.at (fn:=a46) rfl) rfl ?_
 have hli : (ints ns).length=5:=by simp [ints,h5]
 have hsm : ∀ i,pre ns i≤1024:=fun i => Nat.le_trans (pre_le ns i) hsum
 have hp5 : pre ns 5=ns.sum:=by unfold pre; rw [List.take_of_length_le (by omega)]
 simp only [a46,c46,vms,vmc,vA,vB,reduceCtorEq,vC,vD,box_agg,load_all get_new_same hli]
 refine wpc_loop (fun m f h' => ∃ i,m=5 - i∧i≤5∧h'=h.new (.cells (ints ns) true)∧f.at 1 = .ptr h.next 0∧f.at 4 = .int .i64 ((pre ns i : Nat) : Int)∧f.at 11 = .agg (ints ns)∧f.at 12 = .int .i64 (i : Nat)) ?_ 5 _ _ ⟨0,rfl,by omega,rfl,?_⟩
 ·rintro m f h' ⟨i,rfl,hi,rfl,f1,f4,f11,f12⟩
  simp only [c46l0,vms,vmc,vA,vB,reduceCtorEq,vC,vD,f1,f4,f11,f12]
  by_cases hlt : i < 5
  ·have hd : decide ((i : Int) < 5)=true:=by rw [decide_eq_true_eq]; omega
   obtain ⟨n,hn⟩ : ∃ n,ns[i]?=some n:=⟨_,List.getElem?_eq_getElem (by omega)⟩
   have hp:=pre_succ hn
   have hp2:=hsm (i + 1)
   have d1 : decide ((n : Int) < 0)=false:=by rw [decide_eq_false_iff_not]; omega
   have d2 : decide ((n : Int) > 1024)=false:=by rw [decide_eq_false_iff_not]; omega
   have w1 : IntKind.i64.wrap (((pre ns i : Nat) : Int) + (n : Int))=((pre ns (i + 1) : Nat) : Int):=by rw [wrap_i64 (by omega) (by omega)]; omega
   have w2 : IntKind.i64.wrap ((i : Int) + 1)=((i + 1 : Nat) : Int):=by rw [wrap_i64 (by omega) (by omega)]; rfl
   simp only [hd,vms,vmc,vA,vB,reduceCtorEq,vC,vD,f1,f4,f11,f12,idxArr_ints h5 hn,d1,d2,w1,w2]
   exact ⟨5 - (i + 1),by omega,i + 1,rfl,by omega,trivial,trivial,rfl,trivial,rfl⟩
  ·have hd : decide ((i : Int) < 5)=false:=by rw [decide_eq_false_iff_not]; omega
   have : i=5:=by omega
   subst this
   have d3 : decide (((pre ns 5 : Nat) : Int) > 1024)=false:=by have:=hsm 5; rw [decide_eq_false_iff_not]; omega
   have hfill : fillV [AV.nilSlice,.int .i64 0,.nilSlice,.int .i64 0,.nilSlice,.int .i64 0,.nilSlice,.int .i64 0,.nilSlice,.int .i64 0,.nilSlice] []=some [AV.nilSlice,.int .i64 0,.nilSlice,.int .i64 0,.nilSlice,.int .i64 0,.nilSlice,.int .i64 0,.nilSlice,.int .i64 0,.nilSlice]:=rfl
   have g1 : ((h.new (.cells (ints ns) true)).new (.cells [AV.nilSlice,.int .i64 0,.nilSlice,.int .i64 0,.nilSlice,.int .i64 0,.nilSlice,.int .i64 0,.nilSlice,.int .i64 0,.nilSlice] true)).get h.next=some (.cells (ints ns) true):=by rw [AH.get_new,if_neg (by rw [next_new]; omega),get_new_same]
   simp only [hd,vms,vmc,vA,vB,reduceCtorEq,vC,vD,f1,f4,d3,hfill,box_agg,next_new,load_all g1 hli]
   have hA0 : RAr ((h.new (.cells (ints ns) true)).new (.cells [AV.nilSlice,.int .i64 0,.nilSlice,.int .i64 0,.nilSlice,.int .i64 0,.nilSlice,.int .i64 0,.nilSlice,.int .i64 0,.nilSlice] true)) (h.next + 1) .nilSlice [] [⟨0,.nilSlice,[]⟩,⟨0,.nilSlice,[]⟩,⟨0,.nilSlice,[]⟩,⟨0,.nilSlice,[]⟩,⟨0,.nilSlice,[]⟩]:=by
    have hq : ∀ q∈([⟨0,.nilSlice,[]⟩,⟨0,.nilSlice,[]⟩,⟨0,.nilSlice,[]⟩,⟨0,.nilSlice,[]⟩,⟨0,.nilSlice,[]⟩] : List RP),q=⟨0,.nilSlice,[]⟩:=by intro q hq; simpa using hq
    refine ⟨?_,rfl,.inl ⟨rfl,rfl⟩,fun s hs => by simp at hs,fun s hs => by simp at hs,fun q hm => by rw [hq q hm]; exact .inl ⟨rfl,rfl⟩,fun q hm o ho => by rw [hq q hm] at ho; simp [objs] at ho,by simp [objs],fun s hs => by simp at hs,by simp,fun q hm => by rw [hq q hm]; simp,fun q hm => by rw [hq q hm]; trivial⟩
    have:=get_new_same (h:=h.new (.cells (ints ns) true)) (x := .cells [AV.nilSlice,.int .i64 0,.nilSlice,.int .i64 0,.nilSlice,.int .i64 0,.nilSlice,.int .i64 0,.nilSlice,.int .i64 0,.nilSlice] true)
    rw [next_new] at this; exact this
   have hlow0:=(hl.new (.cells (ints ns) true)).new (.cells [AV.nilSlice,.int .i64 0,.nilSlice,.int .i64 0,.nilSlice,.int .i64 0,.nilSlice,.int .i64 0,.nilSlice,.int .i64 0,.nilSlice] true)
   have hon0 : Only h ((h.new (.cells (ints ns) true)).new (.cells [AV.nilSlice,.int .i64 0,.nilSlice,.int .i64 0,.nilSlice,.int .i64 0,.nilSlice,.int .i64 0,.nilSlice,.int .i64 0,.nilSlice] true)) []:=((Only.refl h []).new _).new _
   have hM0 : RMade h (h.next + 1) ns 0 0 ((h.new (.cells (ints ns) true)).new (.cells [AV.nilSlice,.int .i64 0,.nilSlice,.int .i64 0,.nilSlice,.int .i64 0,.nilSlice,.int .i64 0,.nilSlice,.int .i64 0,.nilSlice] true)) .nilSlice [] [⟨0,.nilSlice,[]⟩,⟨0,.nilSlice,[]⟩,⟨0,.nilSlice,[]⟩,⟨0,.nilSlice,[]⟩,⟨0,.nilSlice,[]⟩]:=by
    have hq : ∀ q∈([⟨0,.nilSlice,[]⟩,⟨0,.nilSlice,[]⟩,⟨0,.nilSlice,[]⟩,⟨0,.nilSlice,[]⟩,⟨0,.nilSlice,[]⟩] : List RP),q=⟨0,.nilSlice,[]⟩:=by intro q hq; simpa using hq
    exact ⟨hA0,hlow0,hon0,by omega,rfl,fun j q hj => by rw [hq q (List.mem_of_getElem? hj)]; rfl,fun o ho => by simp [objs] at ho,fun q hm o ho => by rw [hq q hm] at ho; simp [objs] at ho,fun s hs => by simp at hs⟩
   generalize ((h.new (.cells (ints ns) true)).new (.cells [AV.nilSlice,.int .i64 0,.nilSlice,.int .i64 0,.nilSlice,.int .i64 0,.nilSlice,.int .i64 0,.nilSlice,.int .i64 0,.nilSlice] true))=hh at hM0
   refine wpc_loop (fun m f h' => ∃ c sv S Q,m=5 - c∧c≤5∧RMade h (h.next + 1) ns c 0 h' sv S Q∧(∀ (j : Nat) (q : RP),Q[j]?=some q→j < c→q.m=(ns.sum : Nat))∧f.at 4 = .int .i64 ((ns.sum : Nat) : Int)∧f.at 7 = .ptr (h.next + 1) 0∧f.at 29 = .agg (ints ns)∧f.at 30 = .int .i64 (c : Nat)) ?_ 5 _ _ ⟨0,_,_,_,rfl,by omega,hM0,fun j q hj h1 => by omega,?_⟩
   ·rintro m f h' ⟨c,sv,S,Q,rfl,hc5,M,hmo,f4,f7,f29,f30⟩
    simp only [c46l2,vms,vmc,vA,vB,reduceCtorEq,vC,vD,f4,f7,f29,f30]
    by_cases hlt : c < 5
    ·have hd : decide ((c : Int) < 5)=true:=by rw [decide_eq_true_eq]; omega
     obtain ⟨n,hn⟩ : ∃ n,ns[c]?=some n:=⟨_,List.getElem?_eq_getElem (by omega)⟩
     have nb : nilChkV (.ptr (h.next + 1) 0)=some (.ptr (h.next + 1) 0):=rfl
     have fa1 : fieldAddrV 1 (.ptr (h.next + 1) 0)=some (.ptr (h.next + 1) 1):=rfl
     have fa0 : fieldAddrV 0 (.ptr (h.next + 1) (1 + c * 2))=some (.ptr (h.next + 1) (1 + c * 2)):=rfl
     obtain ⟨q,hq⟩ : ∃ q,Q[c]?=some q:=⟨_,List.getElem?_eq_getElem (by rw [M.A.five]; omega)⟩
     obtain ⟨h2,st2,u2,A2⟩:=M.A.setMost hq ((ns.sum : Nat) : Int)
     have hwl:=(M.A.low M.lo).1
     have hset : ∀ (j : Nat) (r : RP),(Q.set c ⟨((ns.sum : Nat) : Int),q.v,q.L⟩)[j]?=some r→(∃ r0,Q[j]?=some r0∧r.v=r0.v∧r.L=r0.L)∧(j < c + 1→r.m=(ns.sum : Nat)):=by
      intro j r hr
      rw [List.getElem?_set] at hr
      by_cases e : c=j
      ·subst e
       rw [if_pos rfl,if_pos (by rw [M.A.five]; omega)] at hr
       cases hr
       exact ⟨⟨q,hq,rfl,rfl⟩,fun _ => rfl⟩
      ·rw [if_neg e] at hr
       exact ⟨⟨r,hr,rfl,rfl⟩,fun h1 => hmo j r hr (by omega)⟩
     have M2 : RMade h (h.next + 1) ns c 0 h2 sv S (Q.set c ⟨((ns.sum : Nat) : Int),q.v,q.L⟩):=by
      refine ⟨A2,M.lo.upd u2 hwl,M.on.trans (u2.only (F:=[h.next + 1]) (.inl (by simp))) (fun o ho => .inr (by simp at ho; omega)),M.hw,M.st,fun j r hr => ?_,M.nsv,fun r hr o ho => ?_,M.nw⟩
      ·obtain ⟨⟨r0,e0,e1,e2⟩,_⟩:=hset j r hr
       rw [e2]; exact M.fr j r0 e0
      ·obtain ⟨j,hj⟩:=List.getElem?_of_mem hr
       obtain ⟨⟨r0,e0,e1,e2⟩,_⟩:=hset j r hj
       rw [e1] at ho
       exact M.nq r0 (List.mem_of_getElem? e0) o ho
     simp only [hd,vms,vmc,vA,vB,reduceCtorEq,vC,vD,f4,f7,f29,f30,idxArr_ints h5 hn,nb,fa1,idxRow_two hlt,fa0,st2]
     refine rinner_loop k M2 h5 hn rfl (by omega) (fun j r hr hj => (hset j r hr).2 (by omega)) ?_ ?_ ?_ ?_ ?_
     rotate_right
     ·intro f3 h3 sv3 S3 Q3 e3 M3 hmo3
      have w2 : IntKind.i64.wrap ((c : Int) + 1)=((c + 1 : Nat) : Int):=by rw [wrap_i64 (by omega) (by omega)]; rfl
      have g4 : f3.at 4 = .int .i64 ((ns.sum : Nat) : Int):=by rw [e3 4 (by omega) (by omega)]; simp only [vms,vmc,vA,vB,reduceCtorEq,vC,vD,f4]
      have g7 : f3.at 7 = .ptr (h.next + 1) 0:=by rw [e3 7 (by omega) (by omega)]; simp only [vms,vmc,vA,vB,reduceCtorEq,vC,vD,f7]
      have g29 : f3.at 29 = .agg (ints ns):=by rw [e3 29 (by omega) (by omega)]; simp only [vms,vmc,vA,vB,reduceCtorEq,vC,vD,f29]
      have g30 : f3.at 30 = .int .i64 (c : Nat):=by rw [e3 30 (by omega) (by omega)]; simp only [vms,vmc,vA,vB,reduceCtorEq,vC,vD,f30]
      simp only [vms,vmc,vA,vB,reduceCtorEq,vC,vD,g4,g7,g29,g30,w2]
      exact ⟨5 - (c + 1),by omega,c + 1,sv3,S3,Q3,rfl,by omega,M3,fun j r hr hj => hmo3 j r hr (by omega),trivial,trivial,trivial,rfl⟩
     all_goals simp only [vms,vmc,vA,vB,reduceCtorEq,vC,vD,f7,f29,f30]
    ·have hd : decide ((c : Int) < 5)=false:=by rw [decide_eq_false_iff_not]; omega
     have : c=5:=by omega
     subst this
     simp only [hd,vms,vmc,vA,vB,reduceCtorEq,vC,vD,f7]
     refine ⟨h.next + 1,RefF (h.next + 1) sv S Q,rfl,⟨sv,S,Q,M.A,M.st,newSt_inv h5 hsum,fun c q hq => ⟨M.fr c q hq,?_⟩,fun o => Iff.rfl⟩,M.on.quiet,fun o ho => ?_,M.lo⟩
     ·rw [hmo c q hq (cls_of M.A.five hq)]
      unfold newSt; rw [newP_len,hp5]; rfl
     ·rcases ho with rfl | e | ⟨q,hq,e⟩ | ⟨s,hs,e⟩
      ·omega
      ·exact M.nsv o e
      ·exact M.nq q hq o e
      ·exact M.nw s hs o e
   ·simp only [vms,vmc,vA,vB,reduceCtorEq,vC,vD,f4,hp5]
    exact ⟨trivial,trivial,trivial,rfl⟩
 ·simp only [vms,vmc,vA,vB,reduceCtorEq,vC,vD]
  exact ⟨trivial,rfl,trivial,rfl⟩
end Go.Proofs.Ytagcnjhpdopkiaa
/- Both arenas: new ones; what is refused; counts. -/
namespace Go.Proofs.Ytagcnjhpdopkiaa
open Go.Vm
open Go.Vm.AOpd renaming val → vA
open Nat renaming reduceEqDiff → vB,reduceAdd → vC,reduceBEq → vD
set_option linter.unusedSimpArgs false
set_option linter.unusedVariables false
set_option maxRecDepth 20000
variable {T : Vm.Prog} {h : AH}
theorem ar_newS (k : Fits T) {ns : List Nat} (hl : Low h) (h5 : ns.length=5) (hsum : ns.sum≤1024) :
  Gives T 27 [.agg (ints ns)] h fun r h' => ∃ a F,r = .tuple [.ptr a 0,.int .i64 0]∧ArR a (newSt ns) F h'∧Quiet h h'∧(∀ o,F o→h.next≤o)∧Low h':=by
 refine (anew_ok k hl h5 hsum).mono ?_
 rintro _ h' ⟨a,sv,S,Q,rfl,A,hQ,M,on,lo,ha,hsv,hgr⟩
 have m1:=(M.all h5 hQ).1
 have hcls : ∀ (n : Nat) (x : Slot),S[n]?=some x→x.cls < 5:=fun n x hx => (A.kinds x (List.mem_of_getElem? hx)).1
 have hfr : ∀ (c : Nat) (q : PR),Q[c]?=some q→∀ y : Int,y∈q.L↔∃ n x,y=((n : Nat) : Int)∧(S.map Slot.pure)[n]?=some x∧isFree c x=true:=by
  intro c q hq y
  constructor
  ·intro hy
   obtain ⟨n,x,rfl,hx,hc⟩:=M.free.2 c q hq y hy
   obtain ⟨g1,g2,_,_⟩:=M.free.1 n x hx
   exact ⟨n,x.pure,rfl,pure_some hx,isFree_iff.2 ⟨hc,g2,by show x.gen≤_; omega⟩⟩
  ·rintro ⟨n,x,rfl,hx,hf⟩
   rw [List.getElem?_map,Option.map_eq_some_iff] at hx
   obtain ⟨x',hx',rfl⟩:=hx
   obtain ⟨_,_,_,q',hq',hin⟩:=M.free.1 n x' hx'
   rw [show x'.cls=c from (isFree_iff.1 hf).1,hq] at hq'
   cases hq'; exact hin
 have hnew : ∀ (n : Nat) (x : SlotP),(S.map Slot.pure)[n]?=some x→x.gen=1∧x.live=false∧x.ws=poisonP x.cls∧x.cls < 5:=by
  intro n x hx
  rw [List.getElem?_map,Option.map_eq_some_iff] at hx
  obtain ⟨x',hx',rfl⟩:=hx
  obtain ⟨g1,g2,g3,_⟩:=M.free.1 n x' hx'
  exact ⟨g1,g2,g3,hcls n x' hx'⟩
 have hst : S.map Slot.pure=newSt ns:=by
  have e1 : S.map Slot.pure=(S.map (·.cls)).map mkP:=by
   rw [List.map_map]
   refine List.map_congr_left fun x hx => ?_
   obtain ⟨n,hn⟩:=List.getElem?_of_mem hx
   obtain ⟨g1,g2,g3,_⟩:=M.free.1 n x hn
   show (⟨x.cls,x.gen,x.live,x.ws⟩ : SlotP)=⟨x.cls,1,false,poisonP x.cls⟩
   rw [g1,g2,g3]; rfl
  rw [e1,M.ord]; rfl
 refine ⟨a,fun o => ¬ Out a sv S Q o,rfl,⟨sv,S,Q,A,hQ,hst,newSt_inv h5 hsum,by rw [← hst]; exact hfr,fun o => Iff.rfl⟩,on.quiet,fun o ho => ?_,lo⟩
 ·rcases not_out.1 ho with rfl | e | ⟨q,hq,e⟩ | ⟨s,hs,e⟩
  ·exact ha
  ·exact hsv o e
  ·rcases hgr.2 q hq o e with ⟨r,hr,_⟩ | h1
   ·simp at hr
   ·exact h1
  ·rcases hgr.1 s hs with h1 | h1
   ·simp at h1
   ·exact h1 o e
def okTo (zs : List Int) (i : Nat) : Prop:=(∀ z∈zs.take i,0≤z)∧(zs.take i).sum≤1024
def okZ (zs : List Int) : Prop:=(∀ z∈zs,0≤z)∧zs.sum≤1024
theorem sum_nonneg : ∀ {zs : List Int},(∀ z∈zs,0≤z)→0≤zs.sum
 | [],_ => by simp
 | z :: zs,h => by
  have:=sum_nonneg (zs:=zs) fun y hy => h y (by simp [hy])
  have:=h z (by simp)
  simp only [List.sum_cons]; omega
theorem take_sum {zs : List Int} {i : Nat} {z : Int} (hz : zs[i]?=some z) : (zs.take (i + 1)).sum=(zs.take i).sum + z∧∀ y∈zs.take (i + 1),y∈zs.take i∨y=z:=by
 rw [List.take_add_one,hz]
 refine ⟨by simp [List.sum_append],fun y hy => by simpa using hy⟩
theorem idxArr_izs {zs : List Int} {c : Nat} {z : Int} (h5 : zs.length=5) (h : zs[c]?=some z) : idxArrV false 5 1 (.agg (izs zs)) (.int .i64 (c : Int))=some (.int .i64 z):=by
 have hc:=(List.getElem?_eq_some_iff.1 h).1
 show (if (0 : Int)≤(c : Int)∧(c : Int).toNat < 5 then partV false (izs zs) ((c : Int).toNat * 1) 1 else none)=_
 rw [if_pos ⟨by omega,by show c < 5; omega⟩]
 show (izs zs)[c * 1]?=_
 rw [Nat.mul_one]; simp [izs,h]
theorem ar_new_no (k : Fits T) (hl : Low h) {zs : List Int} (h5 : zs.length=5) (hbad : ¬ okZ zs) :
  Gives T 27 [.agg (izs zs)] h fun r h' => r = .tuple [.nilPtr,.int .i64 1]∧Quiet h h'∧Low h':=by
 refine gives_func (k.env _ (by decide)) (k.at (fn:=a27) rfl) rfl ?_
 have hli : (izs zs).length=5:=by simp [izs,h5]
 have hq : Quiet h (h.new (.cells (izs zs) true)):=(Quiet.refl h).new _
 have hlo:=hl.new (.cells (izs zs) true)
 simp only [a27,c27,vms,vmc,vA,vB,reduceCtorEq,vC,vD,box_agg,load_all get_new_same hli]
 refine wpc_loop (fun m f h' => ∃ i,m=5 - i∧i≤5∧h'=h.new (.cells (izs zs) true)∧okTo zs i∧f.at 4 = .int .i64 (1024 - (zs.take i).sum)∧f.at 10 = .agg (izs zs)∧f.at 11 = .int .i64 (i : Nat)) ?_ 5 _ _ ⟨0,rfl,by omega,rfl,⟨by simp,by simp⟩,?_⟩
 ·rintro m f h' ⟨i,rfl,hi,rfl,hok,f4,f10,f11⟩
  simp only [c27l0,vms,vmc,vA,vB,reduceCtorEq,vC,vD,f4,f10,f11]
  by_cases hlt : i < 5
  ·have hd : decide ((i : Int) < 5)=true:=by rw [decide_eq_true_eq]; omega
   obtain ⟨z,hz⟩ : ∃ z,zs[i]?=some z:=⟨_,List.getElem?_eq_getElem (by omega)⟩
   obtain ⟨t1,t2⟩:=take_sum hz
   have h0:=sum_nonneg hok.1
   have h1:=hok.2
   by_cases hneg : z < 0
   ·have d1 : decide (z < 0)=true:=by simpa using hneg
    simp only [hd,vms,vmc,vA,vB,reduceCtorEq,vC,vD,f4,f10,f11,idxArr_izs h5 hz,d1]
    exact ⟨trivial,hq,hlo⟩
   ·have d1 : decide (z < 0)=false:=by simpa using hneg
    by_cases hbig : z > 1024 - (zs.take i).sum
    ·have d2 : decide (z > 1024 - (zs.take i).sum)=true:=by simpa using hbig
     simp only [hd,vms,vmc,vA,vB,reduceCtorEq,vC,vD,f4,f10,f11,idxArr_izs h5 hz,d1,d2]
     exact ⟨trivial,hq,hlo⟩
    ·have d2 : decide (z > 1024 - (zs.take i).sum)=false:=by simpa using hbig
     have w1 : IntKind.i64.wrap (1024 - (zs.take i).sum - z)=1024 - (zs.take (i + 1)).sum:=by rw [wrap_i64 (by omega) (by omega)]; omega
     have w2 : IntKind.i64.wrap ((i : Int) + 1)=((i + 1 : Nat) : Int):=by rw [wrap_i64 (by omega) (by omega)]; rfl
     simp only [hd,vms,vmc,vA,vB,reduceCtorEq,vC,vD,f4,f10,f11,idxArr_izs h5 hz,d1,d2,w1,w2]
     refine ⟨5 - (i + 1),by omega,i + 1,rfl,by omega,trivial,⟨fun y hy => ?_,by omega⟩,rfl,trivial,rfl⟩
     rcases t2 y hy with h6 | rfl
     ·exact hok.1 y h6
     ·omega
  ·exfalso
   have : i=5:=by omega
   subst this
   unfold okTo at hok
   rw [List.take_of_length_le (by omega)] at hok
   exact hbad hok
 ·simp only [vms,vmc,vA,vB,reduceCtorEq,vC,vD]
  exact ⟨by simp,trivial,rfl⟩
theorem ref_new_no (k : Fits T) (hl : Low h) {zs : List Int} (h5 : zs.length=5) (hbad : ¬ okZ zs) :
  Gives T 46 [.agg (izs zs)] h fun r h' => r = .tuple [.nilPtr,.int .i64 1]∧Quiet h h'∧Low h':=by
 refine gives_func (k.env _ (by decide)) (k.at (fn:=a46) rfl) rfl ?_
 have hli : (izs zs).length=5:=by simp [izs,h5]
 have hq : Quiet h (h.new (.cells (izs zs) true)):=(Quiet.refl h).new _
 have hlo:=hl.new (.cells (izs zs) true)
 simp only [a46,c46,vms,vmc,vA,vB,reduceCtorEq,vC,vD,box_agg,load_all get_new_same hli]
 refine wpc_loop (fun m f h' => ∃ i,m=5 - i∧i≤5∧h'=h.new (.cells (izs zs) true)∧(∀ z∈zs.take i,0≤z)∧(zs.take i).sum≤1024 * (i : Int)∧f.at 1 = .ptr h.next 0∧f.at 4 = .int .i64 (zs.take i).sum∧f.at 11 = .agg (izs zs)∧f.at 12 = .int .i64 (i : Nat)) ?_ 5 _ _ ⟨0,rfl,by omega,rfl,by simp,by simp,?_⟩
 ·rintro m f h' ⟨i,rfl,hi,rfl,hok,hup,f1,f4,f11,f12⟩
  simp only [c46l0,vms,vmc,vA,vB,reduceCtorEq,vC,vD,f1,f4,f11,f12]
  have h0:=sum_nonneg hok
  by_cases hlt : i < 5
  ·have hd : decide ((i : Int) < 5)=true:=by rw [decide_eq_true_eq]; omega
   obtain ⟨z,hz⟩ : ∃ z,zs[i]?=some z:=⟨_,List.getElem?_eq_getElem (by omega)⟩
   obtain ⟨t1,t2⟩:=take_sum hz
   by_cases hneg : z < 0
   ·have d1 : decide (z < 0)=true:=by simpa using hneg
    simp only [hd,vms,vmc,vA,vB,reduceCtorEq,vC,vD,f1,f4,f11,f12,idxArr_izs h5 hz,d1]
    exact ⟨trivial,hq,hlo⟩
   ·have d1 : decide (z < 0)=false:=by simpa using hneg
    by_cases hbig : z > 1024
    ·have d2 : decide (z > 1024)=true:=by simpa using hbig
     simp only [hd,vms,vmc,vA,vB,reduceCtorEq,vC,vD,f1,f4,f11,f12,idxArr_izs h5 hz,d1,d2]
     exact ⟨trivial,hq,hlo⟩
    ·have d2 : decide (z > 1024)=false:=by simpa using hbig
     have w1 : IntKind.i64.wrap ((zs.take i).sum + z)=(zs.take (i + 1)).sum:=by rw [wrap_i64 (by omega) (by omega)]; omega
     have w2 : IntKind.i64.wrap ((i : Int) + 1)=((i + 1 : Nat) : Int):=by rw [wrap_i64 (by omega) (by omega)]; rfl
     simp only [hd,vms,vmc,vA,vB,reduceCtorEq,vC,vD,f1,f4,f11,f12,idxArr_izs h5 hz,d1,d2,w1,w2]
     refine ⟨5 - (i + 1),by omega,i + 1,rfl,by omega,trivial,fun y hy => ?_,by omega,trivial,rfl,trivial,rfl⟩
     rcases t2 y hy with h6 | rfl
     ·exact hok y h6
     ·omega
  ·have hd : decide ((i : Int) < 5)=false:=by rw [decide_eq_false_iff_not]; omega
   have : i=5:=by omega
   subst this
   have ht : zs.take 5=zs:=List.take_of_length_le (by omega)
   rw [ht] at hok
   have hgt : zs.sum > 1024:=Int.not_le.1 fun hle => hbad ⟨hok,hle⟩
   have d3 : decide ((zs.take 5).sum > 1024)=true:=by rw [ht]; simpa using hgt
   simp only [hd,vms,vmc,vA,vB,reduceCtorEq,vC,vD,f4,d3]
   exact ⟨trivial,hq,hlo⟩
 ·simp only [vms,vmc,vA,vB,reduceCtorEq,vC,vD]
  exact ⟨trivial,by simp,trivial,rfl⟩
theorem okZ_ints {zs : List Int} (h5 : zs.length=5) (h : okZ zs) : ∃ ns : List Nat,izs zs=ints ns∧ns.length=5∧ns.sum≤1024:=by
 have key : ∀ {l : List Int},(∀ z∈l,0≤z)→izs l=ints (l.map Int.toNat)∧(((l.map Int.toNat).sum : Nat) : Int)=l.sum:=by
  intro l
  induction l with
  | nil => intro _; exact ⟨rfl,rfl⟩
  | cons z l ih =>
   intro hz
   obtain ⟨e1,e2⟩:=ih fun y hy => hz y (by simp [hy])
   have h0:=hz z (by simp)
   refine ⟨?_,?_⟩
   ·simp only [izs,ints,List.map_cons] at e1 ⊢
    rw [e1,Int.toNat_of_nonneg h0]
   ·simp only [List.map_cons,List.sum_cons]
    omega
 obtain ⟨e1,e2⟩:=key h.1
 exact ⟨zs.map Int.toNat,e1,by simpa using h5,by have:=h.2; omega⟩
end Go.Proofs.Ytagcnjhpdopkiaa

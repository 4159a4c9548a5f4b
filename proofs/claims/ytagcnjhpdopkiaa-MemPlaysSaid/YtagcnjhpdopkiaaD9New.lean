/- Both memories: new ones, of any configuration. -/
import Derived.Test.YtagcnjhpdopkiaaD9Ep
namespace Go.Proofs.Ytagcnjhpdopkiaa
open Go.Vm
open Go.Vm.AOpd renaming val → vA
open Nat renaming reduceEqDiff → vB,reduceAdd → vC,reduceBEq → vD
set_option linter.unusedSimpArgs false
set_option linter.unusedVariables false
set_option maxRecDepth 20000
variable {T : Vm.Prog} {h : AH}
structure MemDK (h : AH) (m a e : Nat) (Fa Fe : Nat→Prop) (M : MemP) : Prop where
 obj : h.get m=some (.cells [.ptr a 0,.ptr e 0,.int .i64 M.holder,.int .i64 M.root] true)
 ar : RefR a M.ar Fa h
 ep : EdR e M.ep Fe h
 m_a : ¬ Fa m
 m_e : ¬ Fe m
 apart : ∀ o,Fa o→¬ Fe o
def MemD (m : Nat) (M : MemP) (F : Nat→Prop) (h : AH) : Prop:=∃ a e Fa Fe,MemDK h m a e Fa Fe M∧∀ o,F o↔o=m∨Fa o∨Fe o
theorem MemD.res {m : Nat} {M : MemP} {F : Nat→Prop} (r : MemD m M F h) (hl : Low h) : Res (MemD m M F) F h:=by
 obtain ⟨a,e,Fa,Fe,K,hF⟩:=r
 have ra:=K.ar.res hl
 have re:=K.ep.res hl
 refine ⟨fun o ho => ?_,fun h' hn hk => ⟨a,e,Fa,Fe,⟨(hk m ((hF m).2 (.inl rfl))).trans K.obj,ra.loc h' hn fun o ho => hk o ((hF o).2 (.inr (.inl ho))),re.loc h' hn fun o ho => hk o ((hF o).2 (.inr (.inr ho))),K.m_a,K.m_e,K.apart⟩,hF⟩⟩
 rcases (hF o).1 ho with rfl | h1 | h1
 ·exact hl _ _ K.obj
 ·exact ra.low o h1
 ·exact re.low o h1
def cfgC (zs : List Int) (cl lb tr : Int) : List AV:=izs zs ++ [.int .i64 cl,.int .i64 lb,.int .i64 tr]
theorem izs_len (zs : List Int) : (izs zs).length=zs.length:=by simp [izs]
theorem cfg_slots {zs : List Int} {cl lb tr : Int} {p : Nat} (h5 : zs.length=5) (hg : h.get p=some (.cells (cfgC zs cl lb tr) true)) : loadV h true 5 (.ptr p 0)=some (.agg (izs zs)):=by
 simp only [loadV,AH.load,hg,if_true]
 rw [if_pos (by simp [cfgC,izs_len,h5]),List.drop_zero]
 unfold cfgC
 rw [List.take_append,izs_len,h5]
 simp only [Option.map_some,Nat.sub_self,List.take_zero,List.append_nil]
 rw [List.take_of_length_le (by rw [izs_len]; omega)]
theorem cfg_at {zs : List Int} {cl lb tr : Int} {p j : Nat} {v : AV} (h5 : zs.length=5) (hg : h.get p=some (.cells (cfgC zs cl lb tr) true)) (hv : [AV.int .i64 cl,.int .i64 lb,.int .i64 tr][j]?=some v) : loadV h false 1 (.ptr p (5 + j))=some v:=by
 refine load_at hg ?_
 unfold cfgC
 rw [List.getElem?_append_right (by rw [izs_len]; omega),izs_len,h5,show 5 + j - 5=j by omega]
 exact hv
theorem cfg_slot {zs : List Int} {cl lb tr : Int} {p j : Nat} {z : Int} (hg : h.get p=some (.cells (cfgC zs cl lb tr) true)) (hz : zs[j]?=some z) : loadV h false 1 (.ptr p j)=some (.int .i64 z):=by
 refine load_at hg ?_
 have hj:=(List.getElem?_eq_some_iff.1 hz).1
 unfold cfgC
 rw [List.getElem?_append_left (by rw [izs_len]; exact hj)]
 simp [izs,hz]
theorem newSt_room {ns : List Nat} {f : Nat} (hf : ns[4]?=some f) : roomP (newSt ns) 4=f:=by
 have e : newSt ns=(newK ns 4 ++ List.replicate f 4).map mkP:=by
  simp [newSt,newP,newK,hf]
 rw [e]
 unfold roomP
 rw [List.map_append,List.countP_append]
 have h1 : ((newK ns 4).map mkP).countP (isFree 4)=0:=by
  rw [List.countP_eq_zero]
  intro x hx
  obtain ⟨c,hc,rfl⟩:=List.mem_map.1 hx
  rw [isFree_mkP]
  have:=newK_lt 4 c hc
  simp; omega
 have h2 : ((List.replicate f 4).map mkP).countP (isFree 4)=f:=by
  rw [List.map_replicate,List.countP_replicate,isFree_mkP]
  simp
 rw [h1,h2,Nat.zero_add]
theorem alloc_start {st : List SlotP} (hr : 1≤roomP st 4) : (allocI st 4 rootW).2.1=0:=by
 obtain ⟨n,x,hidx,hx,hfx⟩:=find_of_room hr
 unfold allocI allocP
 rw [if_pos ⟨by decide,by decide,by decide⟩,show (4 : Int).toNat=4 from rfl,hidx]
 simp only [hx]
theorem alloc_none {st : List SlotP} (hr : roomP st 4=0) : allocI st 4 rootW=(0,2,st):=by
 have hi : st.findIdx? (isFree 4)=none:=by
  rw [List.findIdx?_eq_none_iff]
  intro x hx
  have h1 : st.countP (isFree 4)=0:=hr
  rw [List.countP_eq_zero] at h1
  have:=h1 x hx
  simpa using this
 unfold allocI allocP
 rw [if_pos ⟨by decide,by decide,by decide⟩,show (4 : Int).toNat=4 from rfl,hi]
noncomputable def startM (ns : List Nat) (n : Nat) (lb : Int) : MemP:=⟨(allocI (newSt ns) 4 rootW).2.2,newEp n lb,(allocI (newSt ns) 4 rootW).1,-1⟩
theorem root_src {F : Nat→Prop} {wo : Nat} (gw : h.get wo=some (.cells (wcells rootW) true)) (hF : ¬ F wo) (hl : Low h) : SrcB h F (.slice wo 0 1 264 264 true) rootW :=
 ⟨.inr ⟨wo,0,264,true,wcells rootW,true,rfl,gw,by rw [wcells_len,Nat.zero_add]; exact Nat.le_refl _,by rw [List.drop_zero,List.take_of_length_le (by rw [wcells_len]; exact Nat.le_refl _)]⟩,fun o ho => by
  simp [objs] at ho; subst ho
  exact ⟨hF,hl _ _ gw⟩,by decide⟩
theorem fill_root : fillV [AV.int .i64 0,.int .u64 0,.str [],.nilSlice,.nilSlice] [(0,1,.int .i64 4)]=some [.int .i64 4,.int .u64 0,.str [],.nilSlice,.nilSlice]:=by simp [fillV,AV.isDef,AV.cells,setMany]
theorem mem_newG (k : Fits T) (hl : Low h) {zs : List Int} {ns : List Nat} {n f : Nat} {lb tr : Int} (z5 : zs.length=5) (hz : izs zs=ints ns) (n5 : ns.length=5) (hsum : ns.sum≤1024) (c1 : 1≤n) (c2 : n≤8) (l1 : 4≤lb) (l2 : lb≤64) (t1 : 1≤tr) (t2 : tr≤100) (hf : ns[4]?=some f) (f1 : 1≤f) :
  Gives T 11 [.agg (cfgC zs (n : Int) lb tr)] h fun r h' => ∃ m F,r = .tuple [.ptr m 0,.int .i64 0]∧MemR m (startM ns n lb) F h'∧Quiet h h'∧(∀ o,F o→h.next≤o)∧Low h':=by
 refine gives_func (k.env _ (by decide)) (k.at (fn:=a11) rfl) rfl ?_
 have fa : ∀ o j,fieldAddrV j (.ptr o 0)=some (.ptr o (0 + j)):=fun o j => rfl
 have q1 : Quiet h (h.new (.cells (cfgC zs (n : Int) lb tr) true)):=(Quiet.refl h).new _
 have lo1 : Low (h.new (.cells (cfgC zs (n : Int) lb tr) true)):=hl.new _
 have g1 : (h.new (.cells (cfgC zs (n : Int) lb tr) true)).get h.next=some (.cells (cfgC zs (n : Int) lb tr) true):=get_new_same
 have n1 : (h.new (.cells (cfgC zs (n : Int) lb tr) true)).next=h.next + 1:=rfl
 simp only [a11,c11,vms,vmc,vA,vB,reduceCtorEq,vC,vD,box_agg,fa,Nat.zero_add,cfg_slots z5 g1]
 generalize (h.new (.cells (cfgC zs (n : Int) lb tr) true))=h1' at *
 rw [hz]
 refine Gives.bind ((ar_newS k lo1 n5 hsum).mono ?_)
 rintro _ h2' ⟨ao,Fa,rfl,ar2,q2,hFa,lo2⟩
 have hcell : ∀ (j : Nat) (v : AV),[AV.int .i64 (n : Int),.int .i64 lb,.int .i64 tr][j]?=some v→∀ h',Quiet h1' h'→loadV h' false 1 (.ptr h.next (5 + j))=some v:=fun j v hv h' q => cfg_at z5 (q.get g1 (by omega)) hv
 simp only [vms,vmc,vA,vB,reduceCtorEq,vC,vD,show ((0 : Int) != 0)=false from rfl,fa,Nat.zero_add,hcell 0 _ rfl h2' q2,hcell 1 _ rfl h2' q2]
 refine Gives.bind ((ep_new k lo2 c1 c2 l1 l2).mono ?_)
 rintro _ h3' ⟨eo,Fe,rfl,er3,q3,hFe,lo3⟩
 have d1 : decide (tr < 1)=false:=by rw [decide_eq_false_iff_not]; omega
 have d2 : decide (tr > 100)=false:=by rw [decide_eq_false_iff_not]; omega
 have ar3:=(ar2.res lo2).quiet q3
 simp only [vms,vmc,vA,vB,reduceCtorEq,vC,vD,show ((0 : Int) != 0)=false from rfl,fa,Nat.zero_add,hcell 2 _ rfl h3' (q2.trans q3),d1,d2,fill_root]
 have her:=enc_root (h:=h3') k lo3
 refine Gives.bind (her.mono ?_)
 rintro _ h4' ⟨wo,rfl,hwo,gw,q4,lo4⟩
 have ar4:=ar3.quiet q4
 have er4:=(er3.res lo3).quiet q4
 have hroom : roomP (newSt ns) 4=f:=newSt_room hf
 have hz0 : (allocI (newSt ns) 4 rootW).2.1=0:=alloc_start (by omega)
 simp only [vms,vmc,vA,vB,reduceCtorEq,vC,vD]
 refine Gives.bind ((ar_alloc k ar4.holds lo4 4 (root_src gw (fun hf => by have:=(ar2.res lo2).low _ hf; have:=q3.1; omega) lo4)).mono ?_)
 rintro _ h5' ⟨rfl,Fa',ar5,act⟩
 have hml:=act.mods.1
 have er5:=er4.act act fun o ho hf => by
  have:=hFe o ho
  have:=(ar2.res lo2).low _ hf
  omega
 have q15 : Quiet h1' h5':=by
  refine ⟨by have:=q2.1; have:=q3.1; have:=q4.1; omega,fun o ho _ => ?_⟩
  have:=q2.1; have:=q3.1; have:=q4.1
  rw [act.mods.2 o (by omega) (fun hf => by have:=hFa o hf; omega),((q2.trans q3).trans q4).2 o ho fun h => h]
 have hb2 : fillV [AV.nilPtr,.nilPtr,.int .i64 0,.int .i64 0,.int .i64 0] [(0,1,.ptr ao 0),(1,1,.ptr eo 0),(2,1,.int .i64 (n : Int)),(3,1,.int .i64 (allocI (newSt ns) 4 rootW).1),(4,1,.int .i64 (-1))]=some [.ptr ao 0,.ptr eo 0,.int .i64 (n : Int),.int .i64 (allocI (newSt ns) 4 rootW).1,.int .i64 (-1)]:=by simp [fillV,AV.isDef,AV.cells,setMany]
 simp only [vms,vmc,vA,vB,reduceCtorEq,vC,vD,hz0,show (((0 : Nat) : Int) != 0)=false from rfl,fa,Nat.zero_add,hcell 0 _ rfl h5' q15,hb2,box_agg]
 have nFa : ∀ o,Fa' o→o < h5'.next:=(ar5.res act.low).low
 have nFe : ∀ o,Fe o→o < h5'.next:=er5.1.low
 have qn : Quiet h5' (h5'.new (.cells [.ptr ao 0,.ptr eo 0,.int .i64 (n : Int),.int .i64 (allocI (newSt ns) 4 rootW).1,.int .i64 (-1)] true)):=(Quiet.refl _).new _
 refine ⟨h5'.next,fun o => o=h5'.next∨Fa' o∨Fe o,rfl,⟨ao,eo,Fa',Fe,⟨?_,((ar5.res act.low).quiet qn).holds,(er5.1.quiet qn).holds,fun hf => by have:=nFa _ hf; omega,fun hf => by have:=nFe _ hf; omega,fun o ho hf => er5.2 o hf ho⟩,fun o => Iff.rfl⟩,(q1.trans q15).trans qn,?_,act.low.new _⟩
 ·rw [get_new_same]
  simp [startM,newEp]
 ·rintro o (rfl | h11 | h11)
  ·have:=q15.1; omega
  ·rcases act.grow o h11 with h12 | h12
   ·have:=hFa o h12; omega
   ·have:=q2.1; have:=q3.1; have:=q4.1; omega
  ·have:=hFe o h11; have:=q2.1; omega
theorem memd_newG (k : Fits T) (hl : Low h) {zs : List Int} {ns : List Nat} {n f : Nat} {lb tr : Int} (z5 : zs.length=5) (hz : izs zs=ints ns) (n5 : ns.length=5) (hsum : ns.sum≤1024) (c1 : 1≤n) (c2 : n≤8) (l1 : 4≤lb) (l2 : lb≤64) (t1 : 1≤tr) (t2 : tr≤100) (hf : ns[4]?=some f) (f1 : 1≤f) :
  Gives T 20 [.agg (cfgC zs (n : Int) lb tr)] h fun r h' => ∃ m F,r = .tuple [.ptr m 0,.int .i64 0]∧MemD m (startM ns n lb) F h'∧Quiet h h'∧(∀ o,F o→h.next≤o)∧Low h':=by
 refine gives_func (k.env _ (by decide)) (k.at (fn:=a20) rfl) rfl ?_
 have fa : ∀ o j,fieldAddrV j (.ptr o 0)=some (.ptr o (0 + j)):=fun o j => rfl
 have q1 : Quiet h (h.new (.cells (cfgC zs (n : Int) lb tr) true)):=(Quiet.refl h).new _
 have lo1 : Low (h.new (.cells (cfgC zs (n : Int) lb tr) true)):=hl.new _
 have g1 : (h.new (.cells (cfgC zs (n : Int) lb tr) true)).get h.next=some (.cells (cfgC zs (n : Int) lb tr) true):=get_new_same
 have n1 : (h.new (.cells (cfgC zs (n : Int) lb tr) true)).next=h.next + 1:=rfl
 have z4 : zs[4]?=some (f : Int):=by
  have : (izs zs)[4]?=some (.int .i64 (f : Int)):=by rw [hz]; simp [ints,hf]
  simp only [izs,List.getElem?_map] at this
  cases hh : zs[4]? with
  | none => rw [hh] at this; simp at this
  | some z => rw [hh] at this; simp at this; rw [this]
 simp only [a20,c20,vms,vmc,vA,vB,reduceCtorEq,vC,vD,box_agg,fa,Nat.zero_add,cfg_slots z5 g1]
 generalize (h.new (.cells (cfgC zs (n : Int) lb tr) true))=h1' at *
 rw [hz]
 refine Gives.bind ((ref_new k lo1 n5 hsum).mono ?_)
 rintro _ h2' ⟨ao,Fa,rfl,ar2,q2,hFa,lo2⟩
 have hcell : ∀ (j : Nat) (v : AV),[AV.int .i64 (n : Int),.int .i64 lb,.int .i64 tr][j]?=some v→∀ h',Quiet h1' h'→loadV h' false 1 (.ptr h.next (5 + j))=some v:=fun j v hv h' q => cfg_at z5 (q.get g1 (by omega)) hv
 simp only [vms,vmc,vA,vB,reduceCtorEq,vC,vD,fa,Nat.zero_add,hcell 0 _ rfl h2' q2,hcell 1 _ rfl h2' q2]
 refine Gives.bind ((ed_new k lo2 c1 c2 l1 l2).mono ?_)
 rintro _ h3' ⟨eo,Fe,rfl,er3,q3,hFe,lo3⟩
 have d1 : decide (tr < 1)=false:=by rw [decide_eq_false_iff_not]; omega
 have d2 : decide (tr > 100)=false:=by rw [decide_eq_false_iff_not]; omega
 have d3 : decide ((f : Int) < 1)=false:=by rw [decide_eq_false_iff_not]; omega
 have ar3:=(ar2.res lo2).quiet q3
 have g3:=cfg_slot (q2.trans q3 |>.get g1 (by omega)) z4
 have hix : idxRowV 5 1 (.ptr h.next 0) (.int .i64 4)=some (.ptr h.next 4):=rfl
 have hb2 : fillV [AV.nilPtr,.nilPtr,.int .i64 0,.int .i64 0] [(0,1,.ptr ao 0),(1,1,.ptr eo 0),(2,1,.int .i64 (-1))]=some [.ptr ao 0,.ptr eo 0,.int .i64 (-1),.int .i64 0]:=by simp [fillV,AV.isDef,AV.cells,setMany]
 simp only [vms,vmc,vA,vB,reduceCtorEq,vC,vD,show ((0 : Int) != 0)=false from rfl,fa,Nat.zero_add,hix,g3,hcell 2 _ rfl h3' (q2.trans q3),d1,d2,d3,hb2,fill_root,box_agg]
 have qm : Quiet h3' (h3'.new (.cells [.ptr ao 0,.ptr eo 0,.int .i64 (-1),.int .i64 0] true)):=(Quiet.refl _).new _
 have lom:=lo3.new (.cells [.ptr ao 0,.ptr eo 0,.int .i64 (-1),.int .i64 0] true)
 have gm : (h3'.new (.cells [.ptr ao 0,.ptr eo 0,.int .i64 (-1),.int .i64 0] true)).get h3'.next=some (.cells [.ptr ao 0,.ptr eo 0,.int .i64 (-1),.int .i64 0] true):=get_new_same
 have nm : (h3'.new (.cells [.ptr ao 0,.ptr eo 0,.int .i64 (-1),.int .i64 0] true)).next=h3'.next + 1:=rfl
 generalize (h3'.new (.cells [.ptr ao 0,.ptr eo 0,.int .i64 (-1),.int .i64 0] true))=hm at *
 refine Gives.bind ((denc_root k lom).mono ?_)
 rintro _ h4' ⟨wo,rfl,hwo,gw,q4,lo4⟩
 have ar4:=(ar3.quiet qm).quiet q4
 have er4:=((er3.res lo3).quiet qm).quiet q4
 have gm4:=q4.get gm (by omega)
 have hroom : roomP (newSt ns) 4=f:=newSt_room hf
 simp only [vms,vmc,vA,vB,reduceCtorEq,vC,vD]
 refine Gives.bind ((ref_alloc k ar4.holds lo4 4 (root_src gw (fun hf => by have:=(ar2.res lo2).low _ hf; have:=q3.1; omega) lo4)).mono ?_)
 rintro _ h5' ⟨rfl,Fa',ar5,act⟩
 have hml:=act.mods.1
 have hn4:=q4.1
 have er5:=er4.act act fun o ho hf => by
  have:=hFe o ho
  have:=(ar2.res lo2).low _ hf
  omega
 have nma : ¬ Fa h3'.next:=fun hf => by have:=(ar2.res lo2).low _ hf; have:=q3.1; omega
 have nme : ¬ Fe h3'.next:=fun hf => by have:=(er3.res lo3).low _ hf; omega
 have gm5:=act.get gm4 (by omega) nma
 have q15 : Quiet h1' h5':=by
  refine ⟨by have:=q2.1; have:=q3.1; omega,fun o ho _ => ?_⟩
  have:=q2.1; have:=q3.1
  rw [act.mods.2 o (by omega) (fun hf => by have:=hFa o hf; omega),(((q2.trans q3).trans qm).trans q4).2 o ho fun h => h]
 have nc : nilChkV (.ptr h3'.next 0)=some (.ptr h3'.next 0):=rfl
 have st3:=store_int gm5 (i:=3) (k := .i64) (n:=(allocI (newSt ns) 4 rootW).1) (by simp)
 simp only [vms,vmc,vA,vB,reduceCtorEq,vC,vD,nc,fa,Nat.zero_add,st3]
 have nma' : ¬ Fa' h3'.next:=act.not (by omega) nma
 have hmd : ∀ x : AObj,Mods h5' (h5'.set h3'.next x) (fun o => o=h3'.next):=fun x => Mods.set (F:=fun o => o=h3'.next) (Mods.refl _ _) (.inl rfl) x
 refine ⟨h3'.next,fun o => o=h3'.next∨Fa' o∨Fe o,rfl,⟨ao,eo,Fa',Fe,⟨?_,((ar5.res act.low).frame (hmd _) fun o ho e => nma' (e ▸ ho)).holds,(er5.1.frame (hmd _) fun o ho e => nme (e ▸ ho)).holds,nma',nme,fun o ho hf => er5.2 o hf ho⟩,fun o => Iff.rfl⟩,?_,?_,act.low.set (act.low _ _ gm5) _⟩
 ·rw [get_set_same]
  simp [startM]
 ·refine (q1.trans q15).set ?_ _
  have:=q2.1; have:=q3.1; omega
 ·rintro o (rfl | h11 | h11)
  ·have:=q2.1; have:=q3.1; omega
  ·rcases act.grow o h11 with h12 | h12
   ·have:=hFa o h12; omega
   ·have:=q2.1; have:=q3.1; omega
  ·have:=hFe o h11; have:=q2.1; omega
def okC (zs : List Int) (cl lb tr : Int) : Prop:=okZ zs∧(1≤cl∧cl≤8∧4≤lb∧lb≤64)∧(1≤tr∧tr≤100)∧∀ z,zs[4]?=some z→1≤z
theorem okZ_slot {zs : List Int} {ns : List Nat} (hz : izs zs=ints ns) {j : Nat} {z : Int} (h : zs[j]?=some z) : ∃ f : Nat,z=f∧ns[j]?=some f:=by
 have h1 : (ints ns)[j]?=some (.int .i64 z):=by rw [← hz]; simp [izs,h]
 simp only [ints,List.getElem?_map] at h1
 cases hh : ns[j]? with
 | none => rw [hh] at h1; simp at h1
 | some f => rw [hh] at h1; simp at h1; exact ⟨f,h1.symm,rfl⟩
theorem mem_new_no (k : Fits T) (hl : Low h) {zs : List Int} {cl lb tr : Int} (z5 : zs.length=5) (hbad : ¬ okC zs cl lb tr) :
  Gives T 11 [.agg (cfgC zs cl lb tr)] h fun r h' => r = .tuple [.nilPtr,.int .i64 1]∧Quiet h h'∧Low h':=by
 refine gives_func (k.env _ (by decide)) (k.at (fn:=a11) rfl) rfl ?_
 have fa : ∀ o j,fieldAddrV j (.ptr o 0)=some (.ptr o (0 + j)):=fun o j => rfl
 have q1 : Quiet h (h.new (.cells (cfgC zs cl lb tr) true)):=(Quiet.refl h).new _
 have lo1 : Low (h.new (.cells (cfgC zs cl lb tr) true)):=hl.new _
 have g1 : (h.new (.cells (cfgC zs cl lb tr) true)).get h.next=some (.cells (cfgC zs cl lb tr) true):=get_new_same
 have n1 : (h.new (.cells (cfgC zs cl lb tr) true)).next=h.next + 1:=rfl
 simp only [a11,c11,vms,vmc,vA,vB,reduceCtorEq,vC,vD,box_agg,fa,Nat.zero_add,cfg_slots z5 g1]
 generalize (h.new (.cells (cfgC zs cl lb tr) true))=h1' at *
 by_cases hok : okZ zs
 rotate_left
 ·refine Gives.bind ((ar_new_no k lo1 z5 hok).mono ?_)
  rintro _ h2' ⟨rfl,q2,lo2⟩
  simp only [vms,vmc,vA,vB,reduceCtorEq,vC,vD,show ((1 : Int) != 0)=true from rfl]
  exact ⟨trivial,q1.trans q2,lo2⟩
 obtain ⟨ns,hz,n5,hsum⟩:=okZ_ints z5 hok
 rw [hz]
 refine Gives.bind ((ar_newS k lo1 n5 hsum).mono ?_)
 rintro _ h2' ⟨ao,Fa,rfl,ar2,q2,hFa,lo2⟩
 have hcell : ∀ (j : Nat) (v : AV),[AV.int .i64 cl,.int .i64 lb,.int .i64 tr][j]?=some v→∀ h',Quiet h1' h'→loadV h' false 1 (.ptr h.next (5 + j))=some v:=fun j v hv h' q => cfg_at z5 (q.get g1 (by omega)) hv
 simp only [vms,vmc,vA,vB,reduceCtorEq,vC,vD,show ((0 : Int) != 0)=false from rfl,fa,Nat.zero_add,hcell 0 _ rfl h2' q2,hcell 1 _ rfl h2' q2]
 by_cases hcl : 1≤cl∧cl≤8∧4≤lb∧lb≤64
 rotate_left
 ·refine Gives.bind ((ep_new_bad k (c:=cl) (l:=lb) (by omega)).mono ?_)
  rintro _ _ ⟨rfl,rfl⟩
  rename_i h2'
  simp only [vms,vmc,vA,vB,reduceCtorEq,vC,vD,show ((1 : Int) != 0)=true from rfl]
  exact ⟨trivial,q1.trans q2,lo2⟩
 obtain ⟨n,rfl⟩ : ∃ n : Nat,cl=n:=⟨cl.toNat,by omega⟩
 refine Gives.bind ((ep_new k lo2 (by omega) (by omega) hcl.2.2.1 hcl.2.2.2).mono ?_)
 rintro _ h3' ⟨eo,Fe,rfl,er3,q3,hFe,lo3⟩
 by_cases t1 : tr < 1
 ·have d1 : decide (tr < 1)=true:=by simpa using t1
  simp only [vms,vmc,vA,vB,reduceCtorEq,vC,vD,show ((0 : Int) != 0)=false from rfl,fa,Nat.zero_add,hcell 2 _ rfl h3' (q2.trans q3),d1]
  exact ⟨trivial,(q1.trans q2).trans q3,lo3⟩
 have d1 : decide (tr < 1)=false:=by simpa using t1
 by_cases t2 : tr > 100
 ·have d2 : decide (tr > 100)=true:=by simpa using t2
  simp only [vms,vmc,vA,vB,reduceCtorEq,vC,vD,show ((0 : Int) != 0)=false from rfl,fa,Nat.zero_add,hcell 2 _ rfl h3' (q2.trans q3),d1,d2]
  exact ⟨trivial,(q1.trans q2).trans q3,lo3⟩
 have d2 : decide (tr > 100)=false:=by simpa using t2
 obtain ⟨z4,hz4⟩ : ∃ z,zs[4]?=some z:=⟨_,List.getElem?_eq_getElem (by omega)⟩
 obtain ⟨f,rfl,hf⟩:=okZ_slot hz hz4
 have f0 : f=0:=by
  rcases Nat.eq_zero_or_pos f with h5 | h5
  ·exact h5
  ·exact absurd ⟨hok,hcl,⟨by omega,by omega⟩,fun z hz5 => by rw [hz4] at hz5; cases hz5; omega⟩ hbad
 subst f0
 simp only [vms,vmc,vA,vB,reduceCtorEq,vC,vD,show ((0 : Int) != 0)=false from rfl,fa,Nat.zero_add,hcell 2 _ rfl h3' (q2.trans q3),d1,d2,fill_root]
 have ar3:=(ar2.res lo2).quiet q3
 have her:=enc_root (h:=h3') k lo3
 refine Gives.bind (her.mono ?_)
 rintro _ h4' ⟨wo,rfl,hwo,gw,q4,lo4⟩
 have ar4:=ar3.quiet q4
 have hal:=alloc_none (newSt_room hf)
 simp only [vms,vmc,vA,vB,reduceCtorEq,vC,vD]
 refine Gives.bind ((ar_alloc k ar4.holds lo4 4 (root_src gw (fun hf => by have:=(ar2.res lo2).low _ hf; have:=q3.1; omega) lo4)).mono ?_)
 rintro _ h5' ⟨rfl,Fa',ar5,act⟩
 rw [hal]
 simp only [vms,vmc,vA,vB,reduceCtorEq,vC,vD,show (((2 : Nat) : Int) != 0)=true from rfl]
 refine ⟨trivial,q1.trans ⟨by have:=q2.1; have:=q3.1; have:=q4.1; have:=act.mods.1; omega,fun o ho _ => ?_⟩,act.low⟩
 have:=q2.1; have:=q3.1; have:=q4.1
 rw [act.mods.2 o (by omega) (fun hf => by have:=hFa o hf; omega),((q2.trans q3).trans q4).2 o ho fun h => h]
theorem memd_new_no (k : Fits T) (hl : Low h) {zs : List Int} {cl lb tr : Int} (z5 : zs.length=5) (hbad : ¬ okC zs cl lb tr) :
  Gives T 20 [.agg (cfgC zs cl lb tr)] h fun r h' => r = .tuple [.nilPtr,.int .i64 1]∧Quiet h h'∧Low h':=by
 refine gives_func (k.env _ (by decide)) (k.at (fn:=a20) rfl) rfl ?_
 have fa : ∀ o j,fieldAddrV j (.ptr o 0)=some (.ptr o (0 + j)):=fun o j => rfl
 have q1 : Quiet h (h.new (.cells (cfgC zs cl lb tr) true)):=(Quiet.refl h).new _
 have lo1 : Low (h.new (.cells (cfgC zs cl lb tr) true)):=hl.new _
 have g1 : (h.new (.cells (cfgC zs cl lb tr) true)).get h.next=some (.cells (cfgC zs cl lb tr) true):=get_new_same
 have n1 : (h.new (.cells (cfgC zs cl lb tr) true)).next=h.next + 1:=rfl
 obtain ⟨z4,hz4⟩ : ∃ z,zs[4]?=some z:=⟨_,List.getElem?_eq_getElem (by omega)⟩
 have hix : idxRowV 5 1 (.ptr h.next 0) (.int .i64 4)=some (.ptr h.next 4):=rfl
 simp only [a20,c20,vms,vmc,vA,vB,reduceCtorEq,vC,vD,box_agg,fa,Nat.zero_add,cfg_slots z5 g1]
 generalize (h.new (.cells (cfgC zs cl lb tr) true))=h1' at *
 have both : Gives T 46 [.agg (izs zs)] h1' fun r h' => ((okZ zs∧∃ v,r = .tuple [v,.int .i64 0])∨r = .tuple [.nilPtr,.int .i64 1])∧Quiet h1' h'∧Low h':=by
  by_cases hok : okZ zs
  ·obtain ⟨ns,hz,n5,hsum⟩:=okZ_ints z5 hok
   rw [hz]
   refine (ref_new k lo1 n5 hsum).mono ?_
   rintro _ h2' ⟨ao,Fa,rfl,_,q2,_,lo2⟩
   exact ⟨.inl ⟨hok,_,rfl⟩,q2,lo2⟩
  ·refine (ref_new_no k lo1 z5 hok).mono ?_
   rintro _ h2' ⟨rfl,q2,lo2⟩
   exact ⟨.inr rfl,q2,lo2⟩
 refine Gives.bind (both.mono ?_)
 rintro _ h2' ⟨hr,q2,lo2⟩
 have hcell : ∀ (j : Nat) (v : AV),[AV.int .i64 cl,.int .i64 lb,.int .i64 tr][j]?=some v→∀ h',Quiet h1' h'→loadV h' false 1 (.ptr h.next (5 + j))=some v:=fun j v hv h' q => cfg_at z5 (q.get g1 (by omega)) hv
 have eps : Gives T 47 [.int .i64 cl,.int .i64 lb] h2' fun r h' => (((1≤cl∧cl≤8∧4≤lb∧lb≤64)∧∃ v,r = .tuple [v,.int .i64 0])∨r = .tuple [.nilPtr,.int .i64 1])∧Quiet h2' h'∧Low h':=by
  by_cases hcl : 1≤cl∧cl≤8∧4≤lb∧lb≤64
  ·obtain ⟨n,rfl⟩ : ∃ n : Nat,cl=n:=⟨cl.toNat,by omega⟩
   refine (ed_new k lo2 (by omega) (by omega) hcl.2.2.1 hcl.2.2.2).mono ?_
   rintro _ h3' ⟨eo,Fe,rfl,_,q3,_,lo3⟩
   exact ⟨.inl ⟨hcl,_,rfl⟩,q3,lo3⟩
  ·refine (ed_new_bad k (c:=cl) (l:=lb) (by omega)).mono ?_
   rintro _ _ ⟨rfl,rfl⟩
   exact ⟨.inr rfl,Quiet.refl _,lo2⟩
 have e10 : ((1 : Int) != 0)=true:=rfl
 have e00 : ((0 : Int) != 0)=false:=rfl
 rcases hr with ⟨hok,va,rfl⟩ | rfl
 ·simp only [vms,vmc,vA,vB,reduceCtorEq,vC,vD,fa,Nat.zero_add,hcell 0 _ rfl h2' q2,hcell 1 _ rfl h2' q2]
  refine Gives.bind (eps.mono ?_)
  rintro _ h3' ⟨hr2,q3,lo3⟩
  have g3:=cfg_slot (q2.trans q3 |>.get g1 (by omega)) hz4
  have fin : Quiet h h3':=(q1.trans q2).trans q3
  rcases hr2 with ⟨hcl,ve,rfl⟩ | rfl
  ·by_cases h4 : z4 < 1
   ·have d4 : decide (z4 < 1)=true:=by simpa using h4
    simp only [vms,vmc,vA,vB,reduceCtorEq,vC,vD,e00,fa,Nat.zero_add,hix,g3,d4]
    exact ⟨trivial,fin,lo3⟩
   have d4 : decide (z4 < 1)=false:=by simpa using h4
   by_cases t1 : tr < 1
   ·have d1 : decide (tr < 1)=true:=by simpa using t1
    simp only [vms,vmc,vA,vB,reduceCtorEq,vC,vD,e00,fa,Nat.zero_add,hix,g3,d4,hcell 2 _ rfl h3' (q2.trans q3),d1]
    exact ⟨trivial,fin,lo3⟩
   have d1 : decide (tr < 1)=false:=by simpa using t1
   by_cases t2 : tr > 100
   ·have d2 : decide (tr > 100)=true:=by simpa using t2
    simp only [vms,vmc,vA,vB,reduceCtorEq,vC,vD,e00,fa,Nat.zero_add,hix,g3,d4,hcell 2 _ rfl h3' (q2.trans q3),d1,d2]
    exact ⟨trivial,fin,lo3⟩
   exact absurd ⟨hok,hcl,⟨by omega,by omega⟩,fun z hz5 => by rw [hz4] at hz5; cases hz5; omega⟩ hbad
  ·simp only [vms,vmc,vA,vB,reduceCtorEq,vC,vD,e00,e10]
   exact ⟨trivial,fin,lo3⟩
 ·simp only [vms,vmc,vA,vB,reduceCtorEq,vC,vD,fa,Nat.zero_add,hcell 0 _ rfl h2' q2,hcell 1 _ rfl h2' q2]
  refine Gives.bind (eps.mono ?_)
  rintro _ h3' ⟨hr2,q3,lo3⟩
  rcases hr2 with ⟨hcl,ve,rfl⟩ | rfl
  ·simp only [vms,vmc,vA,vB,reduceCtorEq,vC,vD,e10]
   exact ⟨trivial,(q1.trans q2).trans q3,lo3⟩
  ·simp only [vms,vmc,vA,vB,reduceCtorEq,vC,vD,e10]
   exact ⟨trivial,(q1.trans q2).trans q3,lo3⟩
end Go.Proofs.Ytagcnjhpdopkiaa

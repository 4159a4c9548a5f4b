/- What clients share: what it is in memory; accesses to the arena. -/
import Derived.Test.YtagcnjhpdopkiaaP9Ep
namespace Go.Proofs.Ytagcnjhpdopkiaa
open Go.Vm
open Go.Vm.AOpd renaming val → vA
open Nat renaming reduceEqDiff → vB,reduceAdd → vC,reduceBEq → vD
set_option linter.unusedSimpArgs false
set_option linter.unusedVariables false
variable {T : Vm.Prog} {h : AH}
structure MemP where
 ar : List SlotP
 ep : EpP
 root : Int
 holder : Int
structure MemK (h : AH) (m a e : Nat) (Fa Fe : Nat→Prop) (M : MemP) : Prop where
 obj : h.get m=some (.cells [.ptr a 0,.ptr e 0,.int .i64 (M.ep.cls.length : Int),.int .i64 M.root,.int .i64 M.holder] true)
 ar : ArR a M.ar Fa h
 ep : EpR e M.ep Fe h
 m_a : ¬ Fa m
 m_e : ¬ Fe m
 apart : ∀ o,Fa o→¬ Fe o
def MemR (m : Nat) (M : MemP) (F : Nat→Prop) (h : AH) : Prop:=∃ a e Fa Fe,MemK h m a e Fa Fe M∧∀ o,F o↔o=m∨Fa o∨Fe o
theorem MemR.res {m : Nat} {M : MemP} {F : Nat→Prop} (r : MemR m M F h) (hl : Low h) : Res (MemR m M F) F h:=by
 obtain ⟨a,e,Fa,Fe,K,hF⟩:=r
 have ra:=K.ar.res hl
 have re:=K.ep.res hl
 refine ⟨fun o ho => ?_,fun h' hn hk => ⟨a,e,Fa,Fe,⟨(hk m ((hF m).2 (.inl rfl))).trans K.obj,ra.loc h' hn fun o ho => hk o ((hF o).2 (.inr (.inl ho))),re.loc h' hn fun o ho => hk o ((hF o).2 (.inr (.inr ho))),K.m_a,K.m_e,K.apart⟩,hF⟩⟩
 rcases (hF o).1 ho with rfl | h1 | h1
 ·exact hl _ _ K.obj
 ·exact ra.low o h1
 ·exact re.low o h1
structure AccP where
 kind : Int
 ref : Int
 cls : Int
 n : Int
 was : Int
 ws : List Nat
def AccP.v (a : AccP) (wv : AV) : AV := .agg [.int .i64 a.kind,.int .i64 a.ref,.int .i64 a.cls,.int .i64 a.n,.int .u64 a.was,wv]
def AccP.cells (a : AccP) (wv : AV) : List AV:=[.int .i64 a.kind,.int .i64 a.ref,.int .i64 a.cls,.int .i64 a.n,.int .u64 a.was,wv]
structure ResP where
 err : Nat
 n : Int
 ok : Bool
 ws : List Nat
def ResOk (N : Nat) (h' : AH) (v : AV) (r : ResP) : Prop:=∃ wv,v = .agg [.int .i64 (r.err : Int),.int .i64 r.n,.bool r.ok,wv]∧((wv = .nilSlice∧r.ws=[])∨(Copy h' wv r.ws∧∀ o∈objs wv,N≤o))
noncomputable def slotsP (root : Int) (st : List SlotP) (a : AccP) : ResP×List SlotP :=
 if a.kind=1 then (⟨(loadP st a.ref).1,0,false,(loadP st a.ref).2⟩,st)
 else if a.kind=2 then (⟨(swapP st a.ref a.was a.ws).2.1,0,(swapP st a.ref a.was a.ws).1,[]⟩,(swapP st a.ref a.was a.ws).2.2)
 else if a.kind=3 then (⟨(storeP st a.ref a.ws).1,0,false,[]⟩,(storeP st a.ref a.ws).2)
 else if a.kind=4 then (⟨(allocI st a.cls a.ws).2.1,(allocI st a.cls a.ws).1,false,[]⟩,(allocI st a.cls a.ws).2.2)
 else if a.kind=5 then (if a.ref=root then (⟨1,0,false,[]⟩,st) else (⟨(freeP st a.ref).1,0,false,[]⟩,(freeP st a.ref).2))
 else (⟨0,0,false,[]⟩,st)
theorem loadP_err (st : List SlotP) (ref : Int) : (loadP st ref).1≠0→(loadP st ref).2=[]:=by
 unfold loadP
 split
 ·intro _; rfl
 ·split
  ·intro _; rfl
  ·intro h; exact absurd rfl h
theorem res4 {a b c d : AV} : [a,b,c,d].length=4:=rfl
theorem src_cell {v : AV} {ws : List Nat} (s : Src h v ws) : v.isDef=true∧v.cells=[v]∧v.flat=true:=by
 rcases s with ⟨rfl,_⟩ | ⟨_,_,_,_,_,_,rfl,_⟩ <;> exact ⟨rfl,rfl,rfl⟩
theorem low_set2 {o : Nat} (hl : Low h) (ho : o < h.next) (x y : AObj) : Low ((h.set o x).set o y):=(hl.set ho x).set ho y
theorem slots_end {N : Nat} {h4 : AH} {v0 v1 v2 v3 w0 w1 w2 w3 : AV} (gB : h4.get (N + 1)=some (.cells [v0,v1,v2,v3] true)) (gC : h4.get (N + 1 + 1)=some (.cells [w0,w1,w2,w3] true)) (hf : [w0,w1,w2,w3].all AV.flat=true) :
  loadV h4 true 4 (.ptr (N + 1 + 1) 0)=some (.agg [w0,w1,w2,w3])∧storeV h4 4 (.ptr (N + 1) 0) (.agg [w0,w1,w2,w3])=some (h4.set (N + 1) (.cells [w0,w1,w2,w3] true)) :=
 ⟨load_all gC res4,store_all gB res4 res4 hf⟩
def c31a : ACode:=match c31 with
 | .seq a _ => a
 | c => c
def c31b : ACode:=match c31 with
 | .seq _ (.seq b _) => b
 | c => c
def c31c : ACode:=match c31 with
 | .seq _ (.seq _ (.seq b _)) => b
 | c => c
def c31t : ACode:=match c31 with
 | .seq _ (.seq _ (.seq _ t)) => t
 | c => c
theorem c31_parts : c31 = .seq c31a (.seq c31b (.seq c31c c31t)):=rfl
theorem slots_ok (k : Fits T) {m a e : Nat} {Fa Fe : Nat→Prop} {M : MemP} (K : MemK h m a e Fa Fe M) (hl : Low h) (acc : AccP) {wv : AV} (s : SrcB h Fa wv acc.ws) :
  Gives T 31 [.ptr m 0,acc.v wv] h fun r h' => ResOk h.next h' r (slotsP M.root M.ar acc).1∧∃ Fa',ArR a (slotsP M.root M.ar acc).2 Fa' h'∧Acts h Fa h' Fa':=by
 refine gives_func (k.env _ (by decide)) (k.at (fn:=a31) rfl) rfl ?_
 obtain ⟨wd,wc,wf⟩:=src_cell s.src
 have nm : nilChkV (.ptr m 0)=some (.ptr m 0):=rfl
 have fa : ∀ o j,fieldAddrV j (.ptr o 0)=some (.ptr o (0 + j)):=fun o j => rfl
 have q3 : Quiet h (((h.new (.cells [.int .i64 acc.kind,.int .i64 acc.ref,.int .i64 acc.cls,.int .i64 acc.n,.int .u64 acc.was,wv] true)).new (.cells [.int .i64 0,.int .i64 0,.bool false,.nilSlice] true)).new (.cells [.int .i64 0,.int .i64 0,.bool false,.nilSlice] true)):=(((Quiet.refl h).new _).new _).new _
 have lo3 : Low (((h.new (.cells [.int .i64 acc.kind,.int .i64 acc.ref,.int .i64 acc.cls,.int .i64 acc.n,.int .u64 acc.was,wv] true)).new (.cells [.int .i64 0,.int .i64 0,.bool false,.nilSlice] true)).new (.cells [.int .i64 0,.int .i64 0,.bool false,.nilSlice] true)):=((hl.new _).new _).new _
 have gA : (((h.new (.cells [.int .i64 acc.kind,.int .i64 acc.ref,.int .i64 acc.cls,.int .i64 acc.n,.int .u64 acc.was,wv] true)).new (.cells [.int .i64 0,.int .i64 0,.bool false,.nilSlice] true)).new (.cells [.int .i64 0,.int .i64 0,.bool false,.nilSlice] true)).get h.next=some (.cells [.int .i64 acc.kind,.int .i64 acc.ref,.int .i64 acc.cls,.int .i64 acc.n,.int .u64 acc.was,wv] true):=by
  rw [AH.get_new,if_neg (by simp only [next_new]; omega),AH.get_new,if_neg (by simp only [next_new]; omega),get_new_same]
 have gB : (((h.new (.cells [.int .i64 acc.kind,.int .i64 acc.ref,.int .i64 acc.cls,.int .i64 acc.n,.int .u64 acc.was,wv] true)).new (.cells [.int .i64 0,.int .i64 0,.bool false,.nilSlice] true)).new (.cells [.int .i64 0,.int .i64 0,.bool false,.nilSlice] true)).get (h.next + 1)=some (.cells [.int .i64 0,.int .i64 0,.bool false,.nilSlice] true):=by
  rw [AH.get_new,if_neg (by simp only [next_new]; omega)]
  have:=get_new_same (h:=h.new (.cells [.int .i64 acc.kind,.int .i64 acc.ref,.int .i64 acc.cls,.int .i64 acc.n,.int .u64 acc.was,wv] true)) (x := .cells [.int .i64 0,.int .i64 0,.bool false,.nilSlice] true)
  rw [next_new] at this; exact this
 have gC : (((h.new (.cells [.int .i64 acc.kind,.int .i64 acc.ref,.int .i64 acc.cls,.int .i64 acc.n,.int .u64 acc.was,wv] true)).new (.cells [.int .i64 0,.int .i64 0,.bool false,.nilSlice] true)).new (.cells [.int .i64 0,.int .i64 0,.bool false,.nilSlice] true)).get (h.next + 1 + 1)=some (.cells [.int .i64 0,.int .i64 0,.bool false,.nilSlice] true):=by
  have:=get_new_same (h:=(h.new (.cells [.int .i64 acc.kind,.int .i64 acc.ref,.int .i64 acc.cls,.int .i64 acc.n,.int .u64 acc.was,wv] true)).new (.cells [.int .i64 0,.int .i64 0,.bool false,.nilSlice] true)) (x := .cells [.int .i64 0,.int .i64 0,.bool false,.nilSlice] true)
  simp only [next_new] at this; exact this
 have n3 : (((h.new (.cells [.int .i64 acc.kind,.int .i64 acc.ref,.int .i64 acc.cls,.int .i64 acc.n,.int .u64 acc.was,wv] true)).new (.cells [.int .i64 0,.int .i64 0,.bool false,.nilSlice] true)).new (.cells [.int .i64 0,.int .i64 0,.bool false,.nilSlice] true)).next=h.next + 3:=rfl
 simp only [a31,c31_parts,vms,vmc,vA,vB,reduceCtorEq,vC,vD]
 simp only [c31a,c31b,c31c,c31,AccP.v,vms,vmc,vA,vB,reduceCtorEq,vC,vD,box_agg,next_new]
 generalize (((h.new (.cells [.int .i64 acc.kind,.int .i64 acc.ref,.int .i64 acc.cls,.int .i64 acc.n,.int .u64 acc.was,wv] true)).new (.cells [.int .i64 0,.int .i64 0,.bool false,.nilSlice] true)).new (.cells [.int .i64 0,.int .i64 0,.bool false,.nilSlice] true))=h3 at *
 have hml : m < h.next:=hl _ _ K.obj
 have gm : h3.get m=some (.cells [.ptr a 0,.ptr e 0,.int .i64 (M.ep.cls.length : Int),.int .i64 M.root,.int .i64 M.holder] true):=q3.get K.obj hml
 have ar3 : ArR a M.ar Fa h3:=((K.ar.res hl).quiet q3).holds
 have hFa : ∀ o,Fa o→o < h.next:=(K.ar.res hl).low
 have s3 : SrcB h3 Fa wv acc.ws:=⟨s.src.keep fun o ho => q3.2 o (s.out o ho).2 fun h => h,fun o ho => ⟨(s.out o ho).1,by have:=(s.out o ho).2; omega⟩,s.short⟩
 have l0:=load_at gA (i:=0) rfl
 have l1:=load_at gA (i:=1) rfl
 have l2:=load_at gA (i:=2) rfl
 have l4:=load_at gA (i:=4) rfl
 have l5:=load_at gA (i:=5) rfl
 have m0:=load_at gm (i:=0) rfl
 have m3:=load_at gm (i:=3) rfl
 -- the end,from where the call came to
 have fin : ∀ {h4 : AH} {Fa' : Nat→Prop} {st' : List SlotP} {f : Fr} {r : ResP} {w3 : AV},ArR a st' Fa' h4→Acts h3 Fa h4 Fa'→∀ h5 : AH,Mods h4 h5 (fun o => o=h.next + 1 + 1)→Low h5→h5.get (h.next + 1 + 1)=some (.cells [.int .i64 (r.err : Int),.int .i64 r.n,.bool r.ok,w3] true)→((w3 = .nilSlice∧r.ws=[])∨(Copy h4 w3 r.ws∧∀ o∈objs w3,h3.next≤o)) →
   f.at 4 = .ptr (h.next + 1) 0→f.at 5 = .ptr (h.next + 1 + 1) 0 →
   Wp (code T c31t f h5) (Vm.Ends [.cell 4 true 4] fun r' h' => ResOk h.next h' r' r∧∃ Fa',ArR a st' Fa' h'∧Acts h Fa h' Fa'):=by
  intro h4 Fa' st' f r w3 ar4 act h5 md lo5 g5 hw f4 f5
  have hn4:=act.mods.1
  have nB : ¬ Fa' (h.next + 1):=act.not (by omega) fun hf => by have:=hFa _ hf; omega
  have nC : ¬ Fa' (h.next + 1 + 1):=act.not (by omega) fun hf => by have:=hFa _ hf; omega
  have gB4 : h4.get (h.next + 1)=some (.cells [.int .i64 0,.int .i64 0,.bool false,.nilSlice] true):=act.get gB (by omega) fun hf => by have:=hFa _ hf; omega
  have gB5 : h5.get (h.next + 1)=some (.cells [.int .i64 0,.int .i64 0,.bool false,.nilSlice] true):=(md.2 _ (by omega) (by omega)).trans gB4
  have hwf : w3.flat=true:=by
   rcases hw with ⟨rfl,_⟩ | ⟨⟨_,rfl,_⟩,_⟩ <;> rfl
  obtain ⟨e1,e2⟩:=slots_end gB5 g5 (by simp only [List.all_cons,List.all_nil,hwf]; rfl)
  have e3 : loadV (h5.set (h.next + 1) (.cells [.int .i64 (r.err : Int),.int .i64 r.n,.bool r.ok,w3] true)) true 4 (.ptr (h.next + 1) 0)=some (.agg [.int .i64 (r.err : Int),.int .i64 r.n,.bool r.ok,w3]):=load_all get_set_same rfl
  have hr : ∀ g : Fr,g.at 4 = .ptr (h.next + 1) 0→resultsV g (h5.set (h.next + 1) (.cells [.int .i64 (r.err : Int),.int .i64 r.n,.bool r.ok,w3] true)) [.cell 4 true 4]=some [.agg [.int .i64 (r.err : Int),.int .i64 r.n,.bool r.ok,w3]]:=by
   intro g hg
   simp only [res_cell,hg,e3,vms,vmc,vA,vB,reduceCtorEq,vC,vD]
  simp only [c31t,c31,vms,vmc,vA,vB,reduceCtorEq,vC,vD,f4,f5,e1,e2]
  refine ⟨_,hr _ (by simp only [vms,vmc,vA,vB,reduceCtorEq,vC,vD,f4]),⟨w3,rfl,?_⟩,Fa',?_,?_⟩
  ·rcases hw with ⟨rfl,hw⟩ | ⟨⟨o,rfl,hg⟩,ho⟩
   ·exact .inl ⟨rfl,hw⟩
   ·have hol:=ho o (by simp [objs])
    have : o < h4.next:=act.low _ _ hg
    refine .inr ⟨⟨o,rfl,?_⟩,fun p hp => by have:=ho p hp; omega⟩
    rw [AH.get_set,if_neg (by omega),md.2 o this (by omega)]
    exact hg
  ·exact (((ar4.res act.low).frame md fun o ho e => nC (e ▸ ho)).set nB _).holds
  ·refine Acts.after q3 act (Mods.set (md.mono fun o ho => .inl (by omega)) (.inl (by omega)) _) (lo5.set (lo5 _ _ gB5) _)
 have stC : ∀ {h4 : AH} {Fa' : Nat→Prop},Acts h3 Fa h4 Fa'→h4.get (h.next + 1 + 1)=some (.cells [.int .i64 0,.int .i64 0,.bool false,.nilSlice] true)∧h.next + 1 + 1 < h4.next:=by
  intro h4 Fa' act
  have hn4:=act.mods.1
  exact ⟨act.get gC (by omega) fun hf => by have:=hFa _ hf; omega,by omega⟩
 have mset : ∀ {h4 h5 : AH} (x : AObj),Mods h4 h5 (fun o => o=h.next + 1 + 1)→Mods h4 (h5.set (h.next + 1 + 1) x) (fun o => o=h.next + 1 + 1):=fun x m => m.set (.inl rfl) x
 simp only [fa,Nat.zero_add,l0,vms,vmc,vA,vB,reduceCtorEq,vC,vD]
 unfold slotsP
 by_cases k1 : acc.kind=1
 ·have b1 : (acc.kind == 1)=true:=by simpa using k1
  rw [if_pos k1]
  simp only [vms,vmc,vA,vB,reduceCtorEq,vC,vD,b1,nm,fa,Nat.zero_add,m0,l1]
  refine Gives.bind ((ar_load k ar3 lo3 acc.ref).mono ?_)
  rintro _ h4 ⟨q4,lo4,v,rfl,hv⟩
  have act : Acts h3 Fa h4 Fa:=Acts.same (q4.mods Fa) lo4
  obtain ⟨gC4,hn⟩:=stC act
  have hvd : v.cells=[v]∧v.flat=true:=by
   rcases hv with ⟨rfl,_⟩ | ⟨⟨o,rfl,_⟩,_⟩ <;> exact ⟨rfl,rfl⟩
  have s1:=store_at gC4 (i:=3) (by simp) hvd.1 hvd.2
  have s2:=store_int (h:=h4.set (h.next + 1 + 1) (.cells ([AV.int .i64 0,.int .i64 0,.bool false,.nilSlice].set 3 v) true)) (o:=h.next + 1 + 1) (i:=0) (k := .i64) (n:=((loadP M.ar acc.ref).1 : Nat)) get_set_same (by simp)
  simp only [vms,vmc,vA,vB,reduceCtorEq,vC,vD,fa,Nat.zero_add,s1,s2]
  refine fin (r:=⟨(loadP M.ar acc.ref).1,0,false,(loadP M.ar acc.ref).2⟩) (w3:=v) (((ar3.res lo3).quiet q4).holds) act _ (mset _ (mset _ (Mods.refl _ _))) (low_set2 lo4 hn _ _) get_set_same ?_ ?_ ?_
  ·rcases hv with ⟨rfl,h5,_⟩ | ⟨h5,h6⟩
   ·exact .inl ⟨rfl,h5⟩
   ·exact .inr ⟨h5,h6⟩
  ·simp only [vms,vmc,vA,vB,reduceCtorEq,vC,vD]
  ·simp only [vms,vmc,vA,vB,reduceCtorEq,vC,vD]
 have b1 : (acc.kind == 1)=false:=by simpa using k1
 rw [if_neg k1]
 by_cases k2 : acc.kind=2
 ·have b2 : (acc.kind == 2)=true:=by simpa using k2
  rw [if_pos k2]
  simp only [vms,vmc,vA,vB,reduceCtorEq,vC,vD,b1,b2,nm,fa,Nat.zero_add,m0,l1,l4,l5]
  refine Gives.bind ((ar_swap k ar3 lo3 acc.ref (was:=acc.was) s3).mono ?_)
  rintro _ h4 ⟨rfl,Fa',ar4,act⟩
  obtain ⟨gC4,hn⟩:=stC act
  have s1:=store_bool (b:=(swapP M.ar acc.ref acc.was acc.ws).1) gC4 (i:=2) (by simp)
  have s2:=store_int (h:=h4.set (h.next + 1 + 1) (.cells ([AV.int .i64 0,.int .i64 0,.bool false,.nilSlice].set 2 (.bool (swapP M.ar acc.ref acc.was acc.ws).1)) true)) (o:=h.next + 1 + 1) (i:=0) (k := .i64) (n:=((swapP M.ar acc.ref acc.was acc.ws).2.1 : Nat)) get_set_same (by simp)
  simp only [vms,vmc,vA,vB,reduceCtorEq,vC,vD,fa,Nat.zero_add,s1,s2]
  refine fin (r:=⟨(swapP M.ar acc.ref acc.was acc.ws).2.1,0,(swapP M.ar acc.ref acc.was acc.ws).1,[]⟩) (w3 := .nilSlice) ar4 act _ (mset _ (mset _ (Mods.refl _ _))) (low_set2 act.low hn _ _) get_set_same (.inl ⟨rfl,rfl⟩) ?_ ?_
  ·simp only [vms,vmc,vA,vB,reduceCtorEq,vC,vD]
  ·simp only [vms,vmc,vA,vB,reduceCtorEq,vC,vD]
 have b2 : (acc.kind == 2)=false:=by simpa using k2
 rw [if_neg k2]
 by_cases k3 : acc.kind=3
 ·have b3 : (acc.kind == 3)=true:=by simpa using k3
  rw [if_pos k3]
  simp only [vms,vmc,vA,vB,reduceCtorEq,vC,vD,b1,b2,b3,nm,fa,Nat.zero_add,m0,l1,l5]
  refine Gives.bind ((ar_store k ar3 lo3 acc.ref s3).mono ?_)
  rintro _ h4 ⟨rfl,Fa',ar4,act⟩
  obtain ⟨gC4,hn⟩:=stC act
  have s2:=store_int gC4 (i:=0) (k := .i64) (n:=((storeP M.ar acc.ref acc.ws).1 : Nat)) (by simp)
  simp only [vms,vmc,vA,vB,reduceCtorEq,vC,vD,fa,Nat.zero_add,s2]
  refine fin (r:=⟨(storeP M.ar acc.ref acc.ws).1,0,false,[]⟩) (w3 := .nilSlice) ar4 act _ (mset _ (Mods.refl _ _)) (act.low.set hn _) get_set_same (.inl ⟨rfl,rfl⟩) ?_ ?_
  ·simp only [vms,vmc,vA,vB,reduceCtorEq,vC,vD]
  ·simp only [vms,vmc,vA,vB,reduceCtorEq,vC,vD]
 have b3 : (acc.kind == 3)=false:=by simpa using k3
 rw [if_neg k3]
 by_cases k4 : acc.kind=4
 ·have b4 : (acc.kind == 4)=true:=by simpa using k4
  rw [if_pos k4]
  simp only [vms,vmc,vA,vB,reduceCtorEq,vC,vD,b1,b2,b3,b4,nm,fa,Nat.zero_add,m0,l2,l5]
  refine Gives.bind ((ar_alloc k ar3 lo3 acc.cls s3).mono ?_)
  rintro _ h4 ⟨rfl,Fa',ar4,act⟩
  obtain ⟨gC4,hn⟩:=stC act
  have s1:=store_int gC4 (i:=1) (k := .i64) (n:=(allocI M.ar acc.cls acc.ws).1) (by simp)
  have s2:=store_int (h:=h4.set (h.next + 1 + 1) (.cells ([AV.int .i64 0,.int .i64 0,.bool false,.nilSlice].set 1 (.int .i64 (allocI M.ar acc.cls acc.ws).1)) true)) (o:=h.next + 1 + 1) (i:=0) (k := .i64) (n:=((allocI M.ar acc.cls acc.ws).2.1 : Nat)) get_set_same (by simp)
  simp only [vms,vmc,vA,vB,reduceCtorEq,vC,vD,fa,Nat.zero_add,s1,s2]
  refine fin (r:=⟨(allocI M.ar acc.cls acc.ws).2.1,(allocI M.ar acc.cls acc.ws).1,false,[]⟩) (w3 := .nilSlice) ar4 act _ (mset _ (mset _ (Mods.refl _ _))) (low_set2 act.low hn _ _) get_set_same (.inl ⟨rfl,rfl⟩) ?_ ?_
  ·simp only [vms,vmc,vA,vB,reduceCtorEq,vC,vD]
  ·simp only [vms,vmc,vA,vB,reduceCtorEq,vC,vD]
 have b4 : (acc.kind == 4)=false:=by simpa using k4
 rw [if_neg k4]
 by_cases k5 : acc.kind=5
 ·have b5 : (acc.kind == 5)=true:=by simpa using k5
  rw [if_pos k5]
  simp only [vms,vmc,vA,vB,reduceCtorEq,vC,vD,b1,b2,b3,b4,b5,nm,fa,Nat.zero_add,m3,l1]
  by_cases kr : acc.ref=M.root
  ·have br : (acc.ref == M.root)=true:=by simpa using kr
   rw [if_pos kr]
   have s2:=store_int gC (i:=0) (k := .i64) (n:=1) (by simp)
   simp only [vms,vmc,vA,vB,reduceCtorEq,vC,vD,br,fa,Nat.zero_add,s2]
   refine fin (r:=⟨1,0,false,[]⟩) (w3 := .nilSlice) ar3 (Acts.refl lo3) _ (mset _ (Mods.refl _ _)) (lo3.set (show h.next + 1 + 1 < h3.next by omega) _) get_set_same (.inl ⟨rfl,rfl⟩) ?_ ?_
   ·simp only [vms,vmc,vA,vB,reduceCtorEq,vC,vD]
   ·simp only [vms,vmc,vA,vB,reduceCtorEq,vC,vD]
  ·have br : (acc.ref == M.root)=false:=by simpa using kr
   rw [if_neg kr]
   simp only [vms,vmc,vA,vB,reduceCtorEq,vC,vD,br,nm,fa,Nat.zero_add,m0,l1]
   refine Gives.bind ((ar_free k ar3 lo3 acc.ref).mono ?_)
   rintro _ h4 ⟨rfl,Fa',ar4,act⟩
   obtain ⟨gC4,hn⟩:=stC act
   have s2:=store_int gC4 (i:=0) (k := .i64) (n:=((freeP M.ar acc.ref).1 : Nat)) (by simp)
   simp only [vms,vmc,vA,vB,reduceCtorEq,vC,vD,fa,Nat.zero_add,s2]
   refine fin (r:=⟨(freeP M.ar acc.ref).1,0,false,[]⟩) (w3 := .nilSlice) ar4 act _ (mset _ (Mods.refl _ _)) (act.low.set hn _) get_set_same (.inl ⟨rfl,rfl⟩) ?_ ?_
   ·simp only [vms,vmc,vA,vB,reduceCtorEq,vC,vD]
   ·simp only [vms,vmc,vA,vB,reduceCtorEq,vC,vD]
 have b5 : (acc.kind == 5)=false:=by simpa using k5
 rw [if_neg k5]
 simp only [vms,vmc,vA,vB,reduceCtorEq,vC,vD,b1,b2,b3,b4,b5]
 refine fin (r:=⟨0,0,false,[]⟩) (w3 := .nilSlice) ar3 (Acts.refl lo3) _ (Mods.refl _ _) lo3 gC (.inl ⟨rfl,rfl⟩) ?_ ?_
 ·simp only [vms,vmc,vA,vB,reduceCtorEq,vC,vD]
 ·simp only [vms,vmc,vA,vB,reduceCtorEq,vC,vD]
end Go.Proofs.Ytagcnjhpdopkiaa
/- What clients share: the turnstile,what is collected,each access. -/
namespace Go.Proofs.Ytagcnjhpdopkiaa
open Go.Vm
open Go.Vm.AOpd renaming val → vA
open Nat renaming reduceEqDiff → vB,reduceAdd → vC,reduceBEq → vD
set_option linter.unusedSimpArgs false
set_option linter.unusedVariables false
variable {T : Vm.Prog} {h : AH}
theorem MemK.setAr {m a e : Nat} {Fa Fe Fa' : Nat→Prop} {M : MemP} (K : MemK h m a e Fa Fe M) (hl : Low h) {h' : AH} {st : List SlotP} (ar : ArR a st Fa' h') (act : Acts h Fa h' Fa') : MemK h' m a e Fa' Fe { M with ar:=st }∧Acts h (fun o => o=m∨Fa o∨Fe o) h' (fun o => o=m∨Fa' o∨Fe o):=by
 have hml : m < h.next:=hl _ _ K.obj
 have re:=(K.ep.res hl).act act fun o ho hf => K.apart o hf ho
 refine ⟨⟨act.get K.obj hml K.m_a,ar,re.1.holds,act.not hml K.m_a,K.m_e,fun o ho hf => re.2 o hf ho⟩,act.mods.mono fun o ho => .inl (.inr (.inl ho)),fun o ho => ?_,act.low⟩
 rcases ho with rfl | h1 | h1
 ·exact .inl (.inl rfl)
 ·exact (act.grow o h1).imp (fun h2 => .inr (.inl h2)) id
 ·exact .inl (.inr (.inr h1))
theorem MemK.setEp {m a e : Nat} {Fa Fe Fe' : Nat→Prop} {M : MemP} (K : MemK h m a e Fa Fe M) (hl : Low h) {h' : AH} {ep : EpP} (er : EpR e ep Fe' h') (act : Acts h Fe h' Fe') (hc : ep.cls.length=M.ep.cls.length) : MemK h' m a e Fa Fe' { M with ep:=ep }∧Acts h (fun o => o=m∨Fa o∨Fe o) h' (fun o => o=m∨Fa o∨Fe' o):=by
 have hml : m < h.next:=hl _ _ K.obj
 have ra:=(K.ar.res hl).act act K.apart
 refine ⟨⟨by rw [show ({ M with ep:=ep } : MemP).ep.cls.length=M.ep.cls.length from hc]; exact act.get K.obj hml K.m_e,ra.1.holds,er,K.m_a,act.not hml K.m_e,fun o ho hf => ra.2 o ho hf⟩,act.mods.mono fun o ho => .inl (.inr (.inr ho)),fun o ho => ?_,act.low⟩
 rcases ho with rfl | h1 | h1
 ·exact .inl (.inl rfl)
 ·exact .inl (.inr (.inl h1))
 ·exact (act.grow o h1).imp (fun h2 => .inr (.inr h2)) id
theorem MemK.quiet {m a e : Nat} {Fa Fe : Nat→Prop} {M : MemP} (K : MemK h m a e Fa Fe M) (hl : Low h) {h' : AH} (q : Quiet h h') : MemK h' m a e Fa Fe M :=
 ⟨q.get K.obj (hl _ _ K.obj),((K.ar.res hl).quiet q).holds,((K.ep.res hl).quiet q).holds,K.m_a,K.m_e,K.apart⟩
theorem MemK.aside {m a e : Nat} {Fa Fe : Nat→Prop} {M : MemP} (K : MemK h m a e Fa Fe M) (hl : Low h) {h' : AH} {G : Nat→Prop} (md : Mods h h' G) (hG : ∀ o,G o→o≠m∧¬ Fa o∧¬ Fe o) : MemK h' m a e Fa Fe M :=
 ⟨(md.2 m (hl _ _ K.obj) fun g => (hG m g).1 rfl).trans K.obj,((K.ar.res hl).frame md fun o ho g => (hG o g).2.1 ho).holds,((K.ep.res hl).frame md fun o ho g => (hG o g).2.2 ho).holds,K.m_a,K.m_e,K.apart⟩
theorem setCl_len {ep : EpP} {c : Int} {x : ClP} : (ep.setCl c x).cls.length=ep.cls.length:=by simp [EpP.setCl]
theorem pinE_len {ep : EpP} {c n : Int} : (pinE ep c n).2.cls.length=ep.cls.length:=by
 unfold pinE
 split
 ·rfl
 ·split <;> simp [setCl_len]
theorem unpinE_len {ep : EpP} {c : Int} : (unpinE ep c).2.cls.length=ep.cls.length:=by
 unfold unpinE
 split <;> simp [setCl_len]
theorem advE_len {ep : EpP} {n : Int} : (advE ep n).2.cls.length=ep.cls.length:=by
 unfold advE
 split <;> rfl
theorem retireE_len {ep : EpP} {c n : Int} : (retireE ep c n).2.cls.length=ep.cls.length:=by
 unfold retireE
 split
 ·rfl
 ·split
  ·rfl
  ·split <;> simp [setCl_len]
theorem collectE_len {ep : EpP} {c : Int} : (collectE ep c).2.2.cls.length=ep.cls.length:=by
 unfold collectE
 split
 ·rfl
 ·split
  ·rfl
  ·split <;> simp [setCl_len]
noncomputable def collectP (M : MemP) (c : Int) : ResP×MemP :=
 if (collectE M.ep c).2.1=false then (⟨0,0,false,[]⟩,M)
 else if (freeP M.ar (collectE M.ep c).1).1≠0 then (⟨(freeP M.ar (collectE M.ep c).1).1,0,false,[]⟩,{ M with ep:=(collectE M.ep c).2.2,ar:=(freeP M.ar (collectE M.ep c).1).2 })
 else (⟨0,(collectE M.ep c).1,true,[]⟩,{ M with ep:=(collectE M.ep c).2.2,ar:=(freeP M.ar (collectE M.ep c).1).2 })
theorem collectE_none {ep : EpP} {c : Int} (h : (collectE ep c).2.1=false) : (collectE ep c).2.2=ep:=by
 unfold collectE at *
 split at h
 ·rfl
 ·split at h
  ·rfl
  ·split at h
   ·rename_i h1; simp only [if_pos h1]
   ·cases h
theorem put_res {N : Nat} {h4 : AH} {w0 w1 w2 w3 : AV} {old : List AV} (hg : h4.get N=some (.cells old true)) (ho : old.length=4) (hf : [w0,w1,w2,w3].all AV.flat=true) :
  storeV h4 4 (.ptr N 0) (.agg [w0,w1,w2,w3])=some (h4.set N (.cells [w0,w1,w2,w3] true))∧loadV (h4.set N (.cells [w0,w1,w2,w3] true)) true 4 (.ptr N 0)=some (.agg [w0,w1,w2,w3]) :=
 ⟨store_all hg ho res4 hf,load_all get_set_same res4⟩
def zres : List AV:=[.int .i64 0,.int .i64 0,.bool false,.nilSlice]
theorem res_end {m : Nat} {M : MemP} {F F' : Nat→Prop} {h1 h2 : AH} {N : Nat} (q : Quiet h h1) (act : Acts h1 F h2 F') (R : MemR m M F' h2) (hN : h.next≤N) (hN1 : N < h1.next) (hF : ¬ F N) (x : AObj) : MemR m M F' (h2.set N x)∧Acts h F (h2.set N x) F':=by
 have nN:=act.not hN1 hF
 have hn:=act.mods.1
 exact ⟨((R.res act.low).set nN x).holds,Acts.after q act (Mods.set (Mods.refl _ _) (.inl hN) x) (act.low.set (by omega) x)⟩
theorem collect_ok (k : Fits T) {m : Nat} {M : MemP} {F : Nat→Prop} (R : MemR m M F h) (hl : Low h) (c : Int) :
  Gives T 38 [.ptr m 0,.int .i64 c] h fun r h' => ResOk h.next h' r (collectP M c).1∧∃ F',MemR m (collectP M c).2 F' h'∧Acts h F h' F':=by
 refine gives_func (k.env _ (by decide)) (k.at (fn:=a38) rfl) rfl ?_
 have nF : ¬ F h.next:=(R.res hl).not (Nat.le_refl _)
 have R0:=R
 obtain ⟨a,e,Fa,Fe,K,hF⟩:=R
 have hml : m < h.next:=hl _ _ K.obj
 have nm : nilChkV (.ptr m 0)=some (.ptr m 0):=rfl
 have fa : ∀ o j,fieldAddrV j (.ptr o 0)=some (.ptr o (0 + j)):=fun o j => rfl
 have q1 : Quiet h (h.new (.cells [.int .i64 0,.int .i64 0,.bool false,.nilSlice] true)):=(Quiet.refl h).new _
 have lo1 : Low (h.new (.cells [.int .i64 0,.int .i64 0,.bool false,.nilSlice] true)):=hl.new _
 have g1 : (h.new (.cells [.int .i64 0,.int .i64 0,.bool false,.nilSlice] true)).get h.next=some (.cells [.int .i64 0,.int .i64 0,.bool false,.nilSlice] true):=get_new_same
 have n1 : (h.new (.cells [.int .i64 0,.int .i64 0,.bool false,.nilSlice] true)).next=h.next + 1:=rfl
 have R1:=((R0.res hl).quiet q1).holds
 have K1:=K.quiet hl q1
 simp only [a38,c38,vms,vmc,vA,vB,reduceCtorEq,vC,vD,nm,fa,Nat.zero_add,load_at (K.quiet hl q1).obj (i:=1) rfl]
 generalize (h.new (.cells [.int .i64 0,.int .i64 0,.bool false,.nilSlice] true))=h1 at *
 refine Gives.bind ((ep_collect k K1.ep lo1 c).mono ?_)
 rintro _ h2 ⟨rfl,Fe',er,act⟩
 obtain ⟨K2,act2⟩:=K1.setEp lo1 er act collectE_len
 have nFe : ¬ Fe h.next:=fun h5 => nF ((hF _).2 (.inr (.inr h5)))
 have g2 : h2.get h.next=some (.cells [.int .i64 0,.int .i64 0,.bool false,.nilSlice] true):=act.get g1 (by omega) nFe
 have act2' : Acts h1 F h2 (fun o => o=m∨Fa o∨Fe' o):=⟨act2.mods.mono fun o ho => .inl ((hF o).2 ho),fun o ho => (act2.grow o ho).imp (hF o).2 id,act2.low⟩
 have R2 : MemR m { M with ep:=(collectE M.ep c).2.2 } (fun o => o=m∨Fa o∨Fe' o) h2:=⟨a,e,Fa,Fe',K2,fun o => Iff.rfl⟩
 cases hok : (collectE M.ep c).2.1 with
 | false =>
  have hc : collectP M c=(⟨0,0,false,[]⟩,{ M with ep:=(collectE M.ep c).2.2 }):=by
   unfold collectP; rw [if_pos hok,collectE_none hok]
  have hb : fillV [AV.int .i64 0,.int .i64 0,.bool false,.nilSlice] []=some [.int .i64 0,.int .i64 0,.bool false,.nilSlice]:=rfl
  obtain ⟨s1,s2⟩:=put_res (w0 := .int .i64 0) (w1 := .int .i64 0) (w2 := .bool false) (w3 := .nilSlice) g2 res4 rfl
  obtain ⟨R3,act3⟩:=res_end q1 act2' R2 (Nat.le_refl _) (by omega) nF (.cells [.int .i64 0,.int .i64 0,.bool false,.nilSlice] true)
  rw [hc]
  simp only [vms,vmc,vA,vB,reduceCtorEq,vC,vD,hok,hb,s1]
  refine ⟨[_],?_,⟨.nilSlice,rfl,.inl ⟨rfl,rfl⟩⟩,_,R3,act3⟩
  simp only [res_cell,vms,vmc,vA,vB,reduceCtorEq,vC,vD,s2]; rfl
 | true =>
  simp only [vms,vmc,vA,vB,reduceCtorEq,vC,vD,hok,nm,fa,Nat.zero_add,load_at K2.obj (i:=0) rfl]
  refine Gives.bind ((ar_free k K2.ar act.low (collectE M.ep c).1).mono ?_)
  rintro _ h3 ⟨rfl,Fa',ar3,act3⟩
  obtain ⟨K3,act4⟩:=K2.setAr act.low ar3 act3
  have act4' : Acts h1 F h3 (fun o => o=m∨Fa' o∨Fe' o):=act2'.trans act4
  have R3 : MemR m { M with ep:=(collectE M.ep c).2.2,ar:=(freeP M.ar (collectE M.ep c).1).2 } (fun o => o=m∨Fa' o∨Fe' o) h3:=⟨a,e,Fa',Fe',K3,fun o => Iff.rfl⟩
  have g3 : h3.get h.next=some (.cells [.int .i64 0,.int .i64 0,.bool false,.nilSlice] true):=act3.get g2 (by have:=act.mods.1; omega) fun h5 => nF ((hF _).2 (.inr (.inl h5)))
  by_cases he : (freeP M.ar (collectE M.ep c).1).1=0
  ·have hc : collectP M c=(⟨0,(collectE M.ep c).1,true,[]⟩,{ M with ep:=(collectE M.ep c).2.2,ar:=(freeP M.ar (collectE M.ep c).1).2 }):=by
    unfold collectP; rw [if_neg (by rw [hok]; decide),if_neg (fun hn => hn he)]
   have d : ((((freeP M.ar (collectE M.ep c).1).1 : Nat) : Int) != 0)=false:=by rw [he]; rfl
   have hb : fillV [AV.int .i64 0,.int .i64 0,.bool false,.nilSlice] [(1,1,.int .i64 (collectE M.ep c).1),(2,1,.bool true)]=some [.int .i64 0,.int .i64 (collectE M.ep c).1,.bool true,.nilSlice]:=by simp [fillV,AV.isDef,AV.cells,setMany]
   obtain ⟨s1,s2⟩:=put_res (w0 := .int .i64 0) (w1 := .int .i64 (collectE M.ep c).1) (w2 := .bool true) (w3 := .nilSlice) g3 res4 rfl
   obtain ⟨R4,act5⟩:=res_end q1 act4' R3 (Nat.le_refl _) (by omega) nF (.cells [.int .i64 0,.int .i64 (collectE M.ep c).1,.bool true,.nilSlice] true)
   rw [hc]
   simp only [vms,vmc,vA,vB,reduceCtorEq,vC,vD,d,hb,s1]
   refine ⟨[_],?_,⟨.nilSlice,rfl,.inl ⟨rfl,rfl⟩⟩,_,R4,act5⟩
   simp only [res_cell,vms,vmc,vA,vB,reduceCtorEq,vC,vD,s2]; rfl
  ·have hc : collectP M c=(⟨(freeP M.ar (collectE M.ep c).1).1,0,false,[]⟩,{ M with ep:=(collectE M.ep c).2.2,ar:=(freeP M.ar (collectE M.ep c).1).2 }):=by
    unfold collectP; rw [if_neg (by rw [hok]; decide),if_pos he]
   have d : ((((freeP M.ar (collectE M.ep c).1).1 : Nat) : Int) != 0)=true:=by simpa using he
   have hb : fillV [AV.int .i64 0,.int .i64 0,.bool false,.nilSlice] [(0,1,.int .i64 ((freeP M.ar (collectE M.ep c).1).1 : Nat))]=some [.int .i64 ((freeP M.ar (collectE M.ep c).1).1 : Nat),.int .i64 0,.bool false,.nilSlice]:=by simp [fillV,AV.isDef,AV.cells,setMany]
   obtain ⟨s1,s2⟩:=put_res (w0 := .int .i64 ((freeP M.ar (collectE M.ep c).1).1 : Nat)) (w1 := .int .i64 0) (w2 := .bool false) (w3 := .nilSlice) g3 res4 rfl
   obtain ⟨R4,act5⟩:=res_end q1 act4' R3 (Nat.le_refl _) (by omega) nF (.cells [.int .i64 ((freeP M.ar (collectE M.ep c).1).1 : Nat),.int .i64 0,.bool false,.nilSlice] true)
   rw [hc]
   simp only [vms,vmc,vA,vB,reduceCtorEq,vC,vD,d,hb,s1]
   refine ⟨[_],?_,⟨.nilSlice,rfl,.inl ⟨rfl,rfl⟩⟩,_,R4,act5⟩
   simp only [res_cell,vms,vmc,vA,vB,reduceCtorEq,vC,vD,s2]
def turnP (M : MemP) (c kind : Int) : ResP×MemP :=
 if kind=13 then (⟨0,M.holder,false,[]⟩,M)
 else if kind=14∧M.holder < 0 then (⟨0,0,true,[]⟩,{ M with holder:=c })
 else if kind=15∧M.holder=c then (⟨0,0,true,[]⟩,{ M with holder := -1 })
 else (⟨0,0,false,[]⟩,M)
theorem turn_ok (k : Fits T) {m : Nat} {M : MemP} {F : Nat→Prop} (R : MemR m M F h) (hl : Low h) (c kind : Int) :
  Gives T 39 [.ptr m 0,.int .i64 c,.int .i64 kind] h fun r h' => ResOk h.next h' r (turnP M c kind).1∧∃ F',MemR m (turnP M c kind).2 F' h'∧Acts h F h' F':=by
 refine gives_func (k.env _ (by decide)) (k.at (fn:=a39) rfl) rfl ?_
 have nF : ¬ F h.next:=(R.res hl).not (Nat.le_refl _)
 have R0:=R
 obtain ⟨a,e,Fa,Fe,K,hF⟩:=R
 have hml : m < h.next:=hl _ _ K.obj
 have nm : nilChkV (.ptr m 0)=some (.ptr m 0):=rfl
 have fa : ∀ o j,fieldAddrV j (.ptr o 0)=some (.ptr o (0 + j)):=fun o j => rfl
 have q1 : Quiet h (h.new (.cells [.int .i64 0,.int .i64 0,.bool false,.nilSlice] true)):=(Quiet.refl h).new _
 have lo1 : Low (h.new (.cells [.int .i64 0,.int .i64 0,.bool false,.nilSlice] true)):=hl.new _
 have g1 : (h.new (.cells [.int .i64 0,.int .i64 0,.bool false,.nilSlice] true)).get h.next=some (.cells [.int .i64 0,.int .i64 0,.bool false,.nilSlice] true):=get_new_same
 have n1 : (h.new (.cells [.int .i64 0,.int .i64 0,.bool false,.nilSlice] true)).next=h.next + 1:=rfl
 have R1:=((R0.res hl).quiet q1).holds
 have K1:=K.quiet hl q1
 -- the holder is another one
 have keep : ∀ x : Int,∃ h2,storeV (h.new (.cells [.int .i64 0,.int .i64 0,.bool false,.nilSlice] true)) 1 (.ptr m 4) (.int .i64 x)=some h2∧MemR m { M with holder:=x } F h2∧Acts (h.new (.cells [.int .i64 0,.int .i64 0,.bool false,.nilSlice] true)) F h2 F∧h2.get h.next=some (.cells [.int .i64 0,.int .i64 0,.bool false,.nilSlice] true):=by
  intro x
  have hne : ∀ (y : AObj) (o : Nat),o≠m→((h.new (.cells [.int .i64 0,.int .i64 0,.bool false,.nilSlice] true)).set m y).get o=(h.new (.cells [.int .i64 0,.int .i64 0,.bool false,.nilSlice] true)).get o:=fun y o ho => by rw [AH.get_set,if_neg (Ne.symm ho)]
  refine ⟨_,store_int K1.obj (by simp),⟨a,e,Fa,Fe,⟨get_set_same,((K1.ar.res lo1).set K1.m_a _).holds,((K1.ep.res lo1).set K1.m_e _).holds,K1.m_a,K1.m_e,K1.apart⟩,hF⟩,Acts.same (Mods.set (Mods.refl _ _) (.inl ((hF m).2 (.inl rfl))) _) (lo1.set (by omega) _),?_⟩
  rw [hne _ _ (by omega)]; exact g1
 have m4:=load_at K1.obj (i:=4) rfl
 simp only [a39,c39,vms,vmc,vA,vB,reduceCtorEq,vC,vD,nm,fa,Nat.zero_add]
 generalize (h.new (.cells [.int .i64 0,.int .i64 0,.bool false,.nilSlice] true))=h1 at *
 -- the end
 have fin : ∀ {h2 : AH} {M' : MemP} {r : ResP},MemR m M' F h2→Acts h1 F h2 F→h2.get h.next=some (.cells [.int .i64 0,.int .i64 0,.bool false,.nilSlice] true)→r.ws=[] →
   storeV h2 4 (.ptr h.next 0) (.agg [.int .i64 (r.err : Int),.int .i64 r.n,.bool r.ok,.nilSlice])=some (h2.set h.next (.cells [.int .i64 (r.err : Int),.int .i64 r.n,.bool r.ok,.nilSlice] true)) ∧
   ∀ g : Fr,g.at 6 = .ptr h.next 0→∃ l,resultsV g (h2.set h.next (.cells [.int .i64 (r.err : Int),.int .i64 r.n,.bool r.ok,.nilSlice] true)) [.cell 6 true 4]=some l∧ResOk h.next (h2.set h.next (.cells [.int .i64 (r.err : Int),.int .i64 r.n,.bool r.ok,.nilSlice] true)) (tupleV l) r∧∃ F',MemR m M' F' (h2.set h.next (.cells [.int .i64 (r.err : Int),.int .i64 r.n,.bool r.ok,.nilSlice] true))∧Acts h F (h2.set h.next (.cells [.int .i64 (r.err : Int),.int .i64 r.n,.bool r.ok,.nilSlice] true)) F':=by
  intro h2 M' r R2 act2 g2 hws
  obtain ⟨s1,s2⟩:=put_res (w0 := .int .i64 (r.err : Int)) (w1 := .int .i64 r.n) (w2 := .bool r.ok) (w3 := .nilSlice) g2 res4 rfl
  obtain ⟨R3,act3⟩:=res_end q1 act2 R2 (Nat.le_refl _) (by omega) nF (.cells [.int .i64 (r.err : Int),.int .i64 r.n,.bool r.ok,.nilSlice] true)
  refine ⟨s1,fun g hg => ⟨[_],?_,⟨.nilSlice,rfl,.inl ⟨rfl,hws⟩⟩,F,R3,act3⟩⟩
  simp only [res_cell,hg,s2]; rfl
 unfold turnP
 by_cases k1 : kind=13
 ·have b1 : (kind == 13)=true:=by simpa using k1
  rw [if_pos k1]
  have hb : fillV [AV.int .i64 0,.int .i64 0,.bool false,.nilSlice] [(1,1,.int .i64 M.holder)]=some [.int .i64 0,.int .i64 M.holder,.bool false,.nilSlice]:=by simp [fillV,AV.isDef,AV.cells,setMany]
  obtain ⟨s1,s2⟩:=fin (r:=⟨0,M.holder,false,[]⟩) R1 (Acts.refl lo1) g1 rfl
  have s1' : storeV h1 4 (.ptr h.next 0) (.agg [.int .i64 0,.int .i64 M.holder,.bool false,.nilSlice])=_:=s1
  simp only [vms,vmc,vA,vB,reduceCtorEq,vC,vD,b1,nm,fa,Nat.zero_add,m4,hb,s1']
  exact s2 _ (by simp only [vms,vmc,vA,vB,reduceCtorEq,vC,vD])
 have b1 : (kind == 13)=false:=by simpa using k1
 rw [if_neg k1]
 by_cases k2 : kind=14∧M.holder < 0
 ·obtain ⟨rfl,hneg⟩:=k2
  have d : decide (M.holder < 0)=true:=by simpa using hneg
  rw [if_pos (show (14 : Int)=14∧M.holder < 0 from ⟨rfl,hneg⟩)]
  obtain ⟨h2,st,R2,act2,g2⟩:=keep c
  have hb : fillV [AV.int .i64 0,.int .i64 0,.bool false,.nilSlice] [(2,1,.bool true)]=some [.int .i64 0,.int .i64 0,.bool true,.nilSlice]:=by simp [fillV,AV.isDef,AV.cells,setMany]
  obtain ⟨s1,s2⟩:=fin (r:=⟨0,0,true,[]⟩) R2 act2 g2 rfl
  have s1' : storeV h2 4 (.ptr h.next 0) (.agg [.int .i64 0,.int .i64 0,.bool true,.nilSlice])=_:=s1
  simp only [vms,vmc,vA,vB,reduceCtorEq,vC,vD,b1,show ((14 : Int) == 14)=true from rfl,nm,fa,Nat.zero_add,m4,d,st,hb,s1']
  exact s2 _ (by simp only [vms,vmc,vA,vB,reduceCtorEq,vC,vD])
 rw [if_neg k2]
 by_cases k3 : kind=15∧M.holder=c
 ·obtain ⟨rfl,heq⟩:=k3
  have d : (M.holder == c)=true:=by simpa using heq
  rw [if_pos (show (15 : Int)=15∧M.holder=c from ⟨rfl,heq⟩)]
  obtain ⟨h2,st,R2,act2,g2⟩:=keep (-1)
  have hb : fillV [AV.int .i64 0,.int .i64 0,.bool false,.nilSlice] [(2,1,.bool true)]=some [.int .i64 0,.int .i64 0,.bool true,.nilSlice]:=by simp [fillV,AV.isDef,AV.cells,setMany]
  obtain ⟨s1,s2⟩:=fin (r:=⟨0,0,true,[]⟩) R2 act2 g2 rfl
  have s1' : storeV h2 4 (.ptr h.next 0) (.agg [.int .i64 0,.int .i64 0,.bool true,.nilSlice])=_:=s1
  simp only [vms,vmc,vA,vB,reduceCtorEq,vC,vD,b1,show ((15 : Int) == 14)=false from rfl,show ((15 : Int) == 15)=true from rfl,nm,fa,Nat.zero_add,m4,d,st,hb,s1']
  exact s2 _ (by simp only [vms,vmc,vA,vB,reduceCtorEq,vC,vD])
 rw [if_neg k3]
 have hb : fillV [AV.int .i64 0,.int .i64 0,.bool false,.nilSlice] []=some [.int .i64 0,.int .i64 0,.bool false,.nilSlice]:=rfl
 obtain ⟨s1,s2⟩:=fin (r:=⟨0,0,false,[]⟩) R1 (Acts.refl lo1) g1 rfl
 have s1' : storeV h1 4 (.ptr h.next 0) (.agg [.int .i64 0,.int .i64 0,.bool false,.nilSlice])=_:=s1
 by_cases e14 : kind=14
 ·subst e14
  have d : decide (M.holder < 0)=false:=by simpa using fun hn => k2 ⟨rfl,hn⟩
  simp only [vms,vmc,vA,vB,reduceCtorEq,vC,vD,b1,show ((14 : Int) == 14)=true from rfl,show ((14 : Int) == 15)=false from rfl,nm,fa,Nat.zero_add,m4,d,hb,s1']
  exact s2 _ (by simp only [vms,vmc,vA,vB,reduceCtorEq,vC,vD])
 ·have b2 : (kind == 14)=false:=by simpa using e14
  by_cases e15 : kind=15
  ·subst e15
   have d : (M.holder == c)=false:=by simpa using fun hn => k3 ⟨rfl,hn⟩
   simp only [vms,vmc,vA,vB,reduceCtorEq,vC,vD,b1,show ((15 : Int) == 14)=false from rfl,show ((15 : Int) == 15)=true from rfl,nm,fa,Nat.zero_add,m4,d,hb,s1']
   exact s2 _ (by simp only [vms,vmc,vA,vB,reduceCtorEq,vC,vD])
  ·have b3 : (kind == 15)=false:=by simpa using e15
   simp only [vms,vmc,vA,vB,reduceCtorEq,vC,vD,b1,b2,b3,hb,s1']
   exact s2 _ (by simp only [vms,vmc,vA,vB,reduceCtorEq,vC,vD])
end Go.Proofs.Ytagcnjhpdopkiaa
/- What clients share: each access. -/
namespace Go.Proofs.Ytagcnjhpdopkiaa
open Go.Vm
open Go.Vm.AOpd renaming val → vA
open Nat renaming reduceEqDiff → vB,reduceAdd → vC,reduceBEq → vD
set_option linter.unusedSimpArgs false
set_option linter.unusedVariables false
variable {T : Vm.Prog} {h : AH}
noncomputable def doP (M : MemP) (c : Int) (a : AccP) : ResP×MemP :=
 if c < 0∨(M.ep.cls.length : Int)≤c then (⟨1,0,false,[]⟩,M)
 else if 1≤a.kind∧a.kind≤5 then ((slotsP M.root M.ar a).1,{ M with ar:=(slotsP M.root M.ar a).2 })
 else if a.kind=6 then (if a.ref=M.root then (⟨1,0,false,[]⟩,M) else (⟨(retireE M.ep c a.ref).1,0,false,[]⟩,{ M with ep:=(retireE M.ep c a.ref).2 }))
 else if a.kind=7 then (⟨0,M.ep.now,false,[]⟩,M)
 else if a.kind=8 then (⟨0,0,(pinE M.ep c a.n).1,[]⟩,{ M with ep:=(pinE M.ep c a.n).2 })
 else if a.kind=9 then (⟨0,0,(unpinE M.ep c).1,[]⟩,{ M with ep:=(unpinE M.ep c).2 })
 else if a.kind=10 then (⟨0,pinOfE M.ep a.n,false,[]⟩,M)
 else if a.kind=11 then (⟨0,0,(advE M.ep a.n).1,[]⟩,{ M with ep:=(advE M.ep a.n).2 })
 else if a.kind=12 then collectP M c
 else if 13≤a.kind∧a.kind≤15 then turnP M c a.kind
 else (⟨1,0,false,[]⟩,M)
def c12a : ACode:=match c12 with
 | .seq a _ => a
 | c => c
def c12b : ACode:=match c12 with
 | .seq _ (.seq b _) => b
 | c => c
def c12c : ACode:=match c12 with
 | .seq _ (.seq _ (.seq b _)) => b
 | c => c
def c12t : ACode:=match c12 with
 | .seq _ (.seq _ (.seq _ t)) => t
 | c => c
theorem c12_parts : c12 = .seq c12a (.seq c12b (.seq c12c c12t)):=rfl
theorem fillE {x : Int} : fillV [AV.int .i64 0,.int .i64 0,.bool false,.nilSlice] [(0,1,.int .i64 x)]=some [.int .i64 x,.int .i64 0,.bool false,.nilSlice]:=by simp [fillV,AV.isDef,AV.cells,setMany]
theorem fillN {x : Int} : fillV [AV.int .i64 0,.int .i64 0,.bool false,.nilSlice] [(1,1,.int .i64 x)]=some [.int .i64 0,.int .i64 x,.bool false,.nilSlice]:=by simp [fillV,AV.isDef,AV.cells,setMany]
theorem fillO {x : Bool} : fillV [AV.int .i64 0,.int .i64 0,.bool false,.nilSlice] [(2,1,.bool x)]=some [.int .i64 0,.int .i64 0,.bool x,.nilSlice]:=by simp [fillV,AV.isDef,AV.cells,setMany]
set_option maxHeartbeats 3000000 in
theorem do_ok (k : Fits T) {m : Nat} {M : MemP} {F : Nat→Prop} (R : MemR m M F h) (hl : Low h) (c : Int) (acc : AccP) {wv : AV} (s : SrcB h F wv acc.ws) :
  Gives T 12 [.ptr m 0,.int .i64 c,acc.v wv] h fun r h' => ResOk h.next h' r (doP M c acc).1∧∃ F',MemR m (doP M c acc).2 F' h'∧Acts h F h' F':=by
 refine gives_func (k.env _ (by decide)) (k.at (fn:=a12) rfl) rfl ?_
 have R0:=R
 obtain ⟨a,e,Fa,Fe,K,hF⟩:=R
 have hml : m < h.next:=hl _ _ K.obj
 have hFl:=(R0.res hl).low
 have nm : nilChkV (.ptr m 0)=some (.ptr m 0):=rfl
 have fa : ∀ o j,fieldAddrV j (.ptr o 0)=some (.ptr o (0 + j)):=fun o j => rfl
 have q1 : Quiet h ((h.new (.cells [.int .i64 acc.kind,.int .i64 acc.ref,.int .i64 acc.cls,.int .i64 acc.n,.int .u64 acc.was,wv] true)).new (.cells [.int .i64 0,.int .i64 0,.bool false,.nilSlice] true)):=((Quiet.refl h).new _).new _
 have lo1 : Low ((h.new (.cells [.int .i64 acc.kind,.int .i64 acc.ref,.int .i64 acc.cls,.int .i64 acc.n,.int .u64 acc.was,wv] true)).new (.cells [.int .i64 0,.int .i64 0,.bool false,.nilSlice] true)):=(hl.new _).new _
 have gA : ((h.new (.cells [.int .i64 acc.kind,.int .i64 acc.ref,.int .i64 acc.cls,.int .i64 acc.n,.int .u64 acc.was,wv] true)).new (.cells [.int .i64 0,.int .i64 0,.bool false,.nilSlice] true)).get h.next=some (.cells [.int .i64 acc.kind,.int .i64 acc.ref,.int .i64 acc.cls,.int .i64 acc.n,.int .u64 acc.was,wv] true):=by
  rw [AH.get_new,if_neg (by simp only [next_new]; omega),get_new_same]
 have gB : ((h.new (.cells [.int .i64 acc.kind,.int .i64 acc.ref,.int .i64 acc.cls,.int .i64 acc.n,.int .u64 acc.was,wv] true)).new (.cells [.int .i64 0,.int .i64 0,.bool false,.nilSlice] true)).get (h.next + 1)=some (.cells [.int .i64 0,.int .i64 0,.bool false,.nilSlice] true):=by
  have:=get_new_same (h:=h.new (.cells [.int .i64 acc.kind,.int .i64 acc.ref,.int .i64 acc.cls,.int .i64 acc.n,.int .u64 acc.was,wv] true)) (x := .cells [.int .i64 0,.int .i64 0,.bool false,.nilSlice] true)
  rw [next_new] at this; exact this
 have n1 : ((h.new (.cells [.int .i64 acc.kind,.int .i64 acc.ref,.int .i64 acc.cls,.int .i64 acc.n,.int .u64 acc.was,wv] true)).new (.cells [.int .i64 0,.int .i64 0,.bool false,.nilSlice] true)).next=h.next + 2:=rfl
 have R1:=((R0.res hl).quiet q1).holds
 have K1:=K.quiet hl q1
 simp only [a12,c12_parts,vms,vmc,vA,vB,reduceCtorEq,vC,vD]
 simp only [c12a,c12,AccP.v,vms,vmc,vA,vB,reduceCtorEq,vC,vD,box_agg,next_new]
 generalize ((h.new (.cells [.int .i64 acc.kind,.int .i64 acc.ref,.int .i64 acc.cls,.int .i64 acc.n,.int .u64 acc.was,wv] true)).new (.cells [.int .i64 0,.int .i64 0,.bool false,.nilSlice] true))=h1 at *
 have nB : ¬ F (h.next + 1):=fun hf => by have:=hFl _ hf; omega
 have s1 : SrcB h1 F wv acc.ws:=⟨s.src.keep fun o ho => q1.2 o (s.out o ho).2 fun h => h,fun o ho => ⟨(s.out o ho).1,by have:=(s.out o ho).2; omega⟩,s.short⟩
 have l0:=load_at gA (i:=0) rfl
 have l1:=load_at gA (i:=1) rfl
 have l3:=load_at gA (i:=3) rfl
 have lall:=load_all gA (n:=6) rfl
 have m0:=load_at K1.obj (i:=0) rfl
 have m1:=load_at K1.obj (i:=1) rfl
 have m2:=load_at K1.obj (i:=2) rfl
 have m3:=load_at K1.obj (i:=3) rfl
 have fin : ∀ {h2 : AH} {M' : MemP} {F' : Nat→Prop} {r : ResP} {w3 : AV},MemR m M' F' h2→Acts h1 F h2 F'→((w3 = .nilSlice∧r.ws=[])∨(Copy h2 w3 r.ws∧∀ o∈objs w3,h1.next≤o)) →
   storeV h2 4 (.ptr (h.next + 1) 0) (.agg [.int .i64 (r.err : Int),.int .i64 r.n,.bool r.ok,w3])=some (h2.set (h.next + 1) (.cells [.int .i64 (r.err : Int),.int .i64 r.n,.bool r.ok,w3] true)) ∧
   ∀ g : Fr,g.at 6 = .ptr (h.next + 1) 0→∃ l,resultsV g (h2.set (h.next + 1) (.cells [.int .i64 (r.err : Int),.int .i64 r.n,.bool r.ok,w3] true)) [.cell 6 true 4]=some l∧ResOk h.next (h2.set (h.next + 1) (.cells [.int .i64 (r.err : Int),.int .i64 r.n,.bool r.ok,w3] true)) (tupleV l) r∧∃ F',MemR m M' F' (h2.set (h.next + 1) (.cells [.int .i64 (r.err : Int),.int .i64 r.n,.bool r.ok,w3] true))∧Acts h F (h2.set (h.next + 1) (.cells [.int .i64 (r.err : Int),.int .i64 r.n,.bool r.ok,w3] true)) F':=by
  intro h2 M' F' r w3 R2 act2 hw
  have g2 : h2.get (h.next + 1)=some (.cells [.int .i64 0,.int .i64 0,.bool false,.nilSlice] true):=act2.get gB (by omega) nB
  have hwf : w3.flat=true:=by
   rcases hw with ⟨rfl,_⟩ | ⟨⟨_,rfl,_⟩,_⟩ <;> rfl
  obtain ⟨s1,s2⟩:=put_res (w0 := .int .i64 (r.err : Int)) (w1 := .int .i64 r.n) (w2 := .bool r.ok) (w3:=w3) g2 res4 (by simp only [List.all_cons,List.all_nil,hwf]; rfl)
  obtain ⟨R3,act3⟩:=res_end q1 act2 R2 (show h.next≤h.next + 1 by omega) (by omega) nB (.cells [.int .i64 (r.err : Int),.int .i64 r.n,.bool r.ok,w3] true)
  refine ⟨s1,fun g hg => ⟨[_],?_,⟨w3,rfl,?_⟩,F',R3,act3⟩⟩
  ·simp only [res_cell,hg,s2]; rfl
  ·rcases hw with ⟨rfl,hw⟩ | ⟨⟨o,rfl,hg⟩,ho⟩
   ·exact .inl ⟨rfl,hw⟩
   ·have hol:=ho o (by simp [objs])
    refine .inr ⟨⟨o,rfl,?_⟩,fun p hp => by have:=ho p hp; omega⟩
    rw [AH.get_set,if_neg (by omega)]; exact hg
 have bad : ∀ g : Fr,g.at 6 = .ptr (h.next + 1) 0→_:=(fin (r:=⟨1,0,false,[]⟩) (w3 := .nilSlice) R1 (Acts.refl lo1) (.inl ⟨rfl,rfl⟩)).2
 have badS : storeV h1 4 (.ptr (h.next + 1) 0) (.agg [.int .i64 1,.int .i64 0,.bool false,.nilSlice])=_:=(fin (r:=⟨1,0,false,[]⟩) (w3 := .nilSlice) R1 (Acts.refl lo1) (.inl ⟨rfl,rfl⟩)).1
 have ep : ∀ {h2 : AH} {ep' : EpP} {Fe' : Nat→Prop},EpR e ep' Fe' h2→Acts h1 Fe h2 Fe'→ep'.cls.length=M.ep.cls.length→∃ F',MemR m { M with ep:=ep' } F' h2∧Acts h1 F h2 F':=by
  intro h2 ep' Fe' er act hc
  obtain ⟨K2,act2⟩:=K1.setEp lo1 er act hc
  exact ⟨_,⟨a,e,Fa,Fe',K2,fun o => Iff.rfl⟩,⟨act2.mods.mono fun o ho => .inl ((hF o).2 ho),fun o ho => (act2.grow o ho).imp (hF o).2 id,act2.low⟩⟩
 unfold doP
 by_cases hc1 : c < 0
 ·have d1 : decide (c < 0)=true:=by simpa using hc1
  rw [if_pos (show c < 0∨(M.ep.cls.length : Int)≤c from .inl hc1)]
  simp only [c12b,c12,vms,vmc,vA,vB,reduceCtorEq,vC,vD,d1,fillE,badS]
  exact bad _ (by simp only [vms,vmc,vA,vB,reduceCtorEq,vC,vD])
 have d1 : decide (c < 0)=false:=by simpa using hc1
 by_cases hc2 : (M.ep.cls.length : Int)≤c
 ·have d2 : decide (c ≥ (M.ep.cls.length : Int))=true:=by simpa using hc2
  rw [if_pos (show c < 0∨(M.ep.cls.length : Int)≤c from .inr hc2)]
  simp only [c12b,c12,vms,vmc,vA,vB,reduceCtorEq,vC,vD,d1,nm,fa,Nat.zero_add,m2,d2,fillE,badS]
  exact bad _ (by simp only [vms,vmc,vA,vB,reduceCtorEq,vC,vD])
 have d2 : decide (c ≥ (M.ep.cls.length : Int))=false:=by simpa using hc2
 rw [if_neg (show ¬ (c < 0∨(M.ep.cls.length : Int)≤c) by omega)]
 simp only [c12b,c12,vms,vmc,vA,vB,reduceCtorEq,vC,vD,d1,nm,fa,Nat.zero_add,m2,d2]
 -- accesses to the arena
 by_cases ks : 1≤acc.kind∧acc.kind≤5
 ·rw [if_pos ks]
  have hs:=slots_ok k K1 lo1 acc (wv:=wv) ⟨s1.src,fun o ho => ⟨fun hf => (s1.out o ho).1 ((hF o).2 (.inr (.inl hf))),(s1.out o ho).2⟩,s1.short⟩
  have hk : acc.kind=1∨acc.kind=2∨acc.kind=3∨acc.kind=4∨acc.kind=5:=by omega
  have lall' : loadV h1 true 6 (.ptr h.next 0)=some (acc.v wv):=lall
  rcases hk with e1 | e1 | e1 | e1 | e1 <;>
  ·have eb : ∀ j : Int,(acc.kind == j)=(_ == j):=fun j => by rw [e1]
   simp only [c12c,c12,vms,vmc,vA,vB,reduceCtorEq,vC,vD,fa,Nat.zero_add,l0,eb,Int.reduceBEq,lall']
   refine Gives.bind (hs.mono ?_)
   rintro _ h2 ⟨⟨w3,rfl,hw⟩,Fa',ar2,act⟩
   obtain ⟨K2,act2⟩:=K1.setAr lo1 ar2 act
   obtain ⟨t1,t2⟩:=fin (r:=(slotsP M.root M.ar acc).1) (w3:=w3) ⟨a,e,Fa',Fe,K2,fun o => Iff.rfl⟩ ⟨act2.mods.mono fun o ho => .inl ((hF o).2 ho),fun o ho => (act2.grow o ho).imp (hF o).2 id,act2.low⟩ hw
   simp only [vms,vmc,vA,vB,reduceCtorEq,vC,vD,t1]
   exact t2 _ (by simp only [vms,vmc,vA,vB,reduceCtorEq,vC,vD])
 rw [if_neg ks]
 have no : ∀ j : Int,1≤j→j≤5→(acc.kind == j)=false:=fun j h1 h2 => by rw [beq_eq_false_iff_ne]; omega
 have n1':=no 1 (by decide) (by decide)
 have n2':=no 2 (by decide) (by decide)
 have n3':=no 3 (by decide) (by decide)
 have n4':=no 4 (by decide) (by decide)
 have n5':=no 5 (by decide) (by decide)
 by_cases k6 : acc.kind=6
 ·have b6 : (acc.kind == 6)=true:=by simpa using k6
  rw [if_pos k6]
  by_cases kr : acc.ref=M.root
  ·have br : (acc.ref == M.root)=true:=by simpa using kr
   rw [if_pos kr]
   simp only [c12c,c12,vms,vmc,vA,vB,reduceCtorEq,vC,vD,fa,Nat.zero_add,l0,n1',n2',n3',n4',n5',b6,l1,nm,m3,br,fillE,badS]
   exact bad _ (by simp only [vms,vmc,vA,vB,reduceCtorEq,vC,vD])
  ·have br : (acc.ref == M.root)=false:=by simpa using kr
   rw [if_neg kr]
   simp only [c12c,c12,vms,vmc,vA,vB,reduceCtorEq,vC,vD,fa,Nat.zero_add,l0,n1',n2',n3',n4',n5',b6,l1,nm,m3,br,m1]
   refine Gives.bind ((ep_retire k K1.ep lo1 c acc.ref).mono ?_)
   rintro _ h2 ⟨rfl,Fe',er,act⟩
   obtain ⟨F',R2,act2⟩:=ep er act retireE_len
   obtain ⟨t1,t2⟩:=fin (r:=⟨(retireE M.ep c acc.ref).1,0,false,[]⟩) (w3 := .nilSlice) R2 act2 (.inl ⟨rfl,rfl⟩)
   simp only [vms,vmc,vA,vB,reduceCtorEq,vC,vD,fillE,t1]
   exact t2 _ (by simp only [vms,vmc,vA,vB,reduceCtorEq,vC,vD])
 rw [if_neg k6]
 have n6 : (acc.kind == 6)=false:=by simpa using k6
 by_cases k7 : acc.kind=7
 ·have b7 : (acc.kind == 7)=true:=by simpa using k7
  rw [if_pos k7]
  simp only [c12c,c12,vms,vmc,vA,vB,reduceCtorEq,vC,vD,fa,Nat.zero_add,l0,n1',n2',n3',n4',n5',n6,b7,nm,m1]
  refine Gives.bind ((ep_now k K1.ep).mono ?_)
  rintro _ _ ⟨rfl,rfl⟩
  obtain ⟨t1,t2⟩:=fin (r:=⟨0,M.ep.now,false,[]⟩) (w3 := .nilSlice) R1 (Acts.refl lo1) (.inl ⟨rfl,rfl⟩)
  have t1' : storeV _ 4 (.ptr (h.next + 1) 0) (.agg [.int .i64 0,.int .i64 M.ep.now,.bool false,.nilSlice])=_:=t1
  simp only [vms,vmc,vA,vB,reduceCtorEq,vC,vD,fillN,t1']
  exact t2 _ (by simp only [vms,vmc,vA,vB,reduceCtorEq,vC,vD])
 rw [if_neg k7]
 have n7 : (acc.kind == 7)=false:=by simpa using k7
 by_cases k8 : acc.kind=8
 ·have b8 : (acc.kind == 8)=true:=by simpa using k8
  rw [if_pos k8]
  simp only [c12c,c12,vms,vmc,vA,vB,reduceCtorEq,vC,vD,fa,Nat.zero_add,l0,n1',n2',n3',n4',n5',n6,n7,b8,nm,m1,l3]
  refine Gives.bind ((ep_pin k K1.ep lo1 c acc.n).mono ?_)
  rintro _ h2 ⟨rfl,Fe',er,act⟩
  obtain ⟨F',R2,act2⟩:=ep er act pinE_len
  obtain ⟨t1,t2⟩:=fin (r:=⟨0,0,(pinE M.ep c acc.n).1,[]⟩) (w3 := .nilSlice) R2 act2 (.inl ⟨rfl,rfl⟩)
  have t1' : storeV h2 4 (.ptr (h.next + 1) 0) (.agg [.int .i64 0,.int .i64 0,.bool (pinE M.ep c acc.n).1,.nilSlice])=_:=t1
  simp only [vms,vmc,vA,vB,reduceCtorEq,vC,vD,fillO,t1']
  exact t2 _ (by simp only [vms,vmc,vA,vB,reduceCtorEq,vC,vD])
 rw [if_neg k8]
 have n8 : (acc.kind == 8)=false:=by simpa using k8
 by_cases k9 : acc.kind=9
 ·have b9 : (acc.kind == 9)=true:=by simpa using k9
  rw [if_pos k9]
  simp only [c12c,c12,vms,vmc,vA,vB,reduceCtorEq,vC,vD,fa,Nat.zero_add,l0,n1',n2',n3',n4',n5',n6,n7,n8,b9,nm,m1]
  refine Gives.bind ((ep_unpin k K1.ep lo1 c).mono ?_)
  rintro _ h2 ⟨rfl,Fe',er,act⟩
  obtain ⟨F',R2,act2⟩:=ep er act unpinE_len
  obtain ⟨t1,t2⟩:=fin (r:=⟨0,0,(unpinE M.ep c).1,[]⟩) (w3 := .nilSlice) R2 act2 (.inl ⟨rfl,rfl⟩)
  have t1' : storeV h2 4 (.ptr (h.next + 1) 0) (.agg [.int .i64 0,.int .i64 0,.bool (unpinE M.ep c).1,.nilSlice])=_:=t1
  simp only [vms,vmc,vA,vB,reduceCtorEq,vC,vD,fillO,t1']
  exact t2 _ (by simp only [vms,vmc,vA,vB,reduceCtorEq,vC,vD])
 rw [if_neg k9]
 have n9 : (acc.kind == 9)=false:=by simpa using k9
 by_cases k10 : acc.kind=10
 ·have b10 : (acc.kind == 10)=true:=by simpa using k10
  rw [if_pos k10]
  simp only [c12c,c12,vms,vmc,vA,vB,reduceCtorEq,vC,vD,fa,Nat.zero_add,l0,n1',n2',n3',n4',n5',n6,n7,n8,n9,b10,nm,m1,l3]
  refine Gives.bind ((ep_pinOf k K1.ep acc.n).mono ?_)
  rintro _ _ ⟨rfl,rfl⟩
  obtain ⟨t1,t2⟩:=fin (r:=⟨0,pinOfE M.ep acc.n,false,[]⟩) (w3 := .nilSlice) R1 (Acts.refl lo1) (.inl ⟨rfl,rfl⟩)
  have t1' : storeV _ 4 (.ptr (h.next + 1) 0) (.agg [.int .i64 0,.int .i64 (pinOfE M.ep acc.n),.bool false,.nilSlice])=_:=t1
  simp only [vms,vmc,vA,vB,reduceCtorEq,vC,vD,fillN,t1']
  exact t2 _ (by simp only [vms,vmc,vA,vB,reduceCtorEq,vC,vD])
 rw [if_neg k10]
 have n10 : (acc.kind == 10)=false:=by simpa using k10
 by_cases k11 : acc.kind=11
 ·have b11 : (acc.kind == 11)=true:=by simpa using k11
  rw [if_pos k11]
  simp only [c12c,c12,vms,vmc,vA,vB,reduceCtorEq,vC,vD,fa,Nat.zero_add,l0,n1',n2',n3',n4',n5',n6,n7,n8,n9,n10,b11,nm,m1,l3]
  refine Gives.bind ((ep_adv k K1.ep lo1 acc.n).mono ?_)
  rintro _ h2 ⟨rfl,Fe',er,act⟩
  obtain ⟨F',R2,act2⟩:=ep er act advE_len
  obtain ⟨t1,t2⟩:=fin (r:=⟨0,0,(advE M.ep acc.n).1,[]⟩) (w3 := .nilSlice) R2 act2 (.inl ⟨rfl,rfl⟩)
  have t1' : storeV h2 4 (.ptr (h.next + 1) 0) (.agg [.int .i64 0,.int .i64 0,.bool (advE M.ep acc.n).1,.nilSlice])=_:=t1
  simp only [vms,vmc,vA,vB,reduceCtorEq,vC,vD,fillO,t1']
  exact t2 _ (by simp only [vms,vmc,vA,vB,reduceCtorEq,vC,vD])
 rw [if_neg k11]
 have n11 : (acc.kind == 11)=false:=by simpa using k11
 by_cases k12 : acc.kind=12
 ·have b12 : (acc.kind == 12)=true:=by simpa using k12
  rw [if_pos k12]
  simp only [c12c,c12,vms,vmc,vA,vB,reduceCtorEq,vC,vD,fa,Nat.zero_add,l0,n1',n2',n3',n4',n5',n6,n7,n8,n9,n10,n11,b12]
  refine Gives.bind ((collect_ok k R1 lo1 c).mono ?_)
  rintro _ h2 ⟨⟨w3,rfl,hw⟩,F',R2,act2⟩
  obtain ⟨t1,t2⟩:=fin (r:=(collectP M c).1) (w3:=w3) R2 act2 hw
  simp only [vms,vmc,vA,vB,reduceCtorEq,vC,vD,t1]
  exact t2 _ (by simp only [vms,vmc,vA,vB,reduceCtorEq,vC,vD])
 rw [if_neg k12]
 have n12 : (acc.kind == 12)=false:=by simpa using k12
 by_cases k13 : 13≤acc.kind∧acc.kind≤15
 ·rw [if_pos k13]
  have hk : acc.kind=13∨acc.kind=14∨acc.kind=15:=by omega
  have ht:=turn_ok k R1 lo1 c acc.kind
  rcases hk with e1 | e1 | e1 <;>
  ·have eb : ∀ j : Int,(acc.kind == j)=(_ == j):=fun j => by rw [e1]
   simp only [c12c,c12,vms,vmc,vA,vB,reduceCtorEq,vC,vD,fa,Nat.zero_add,l0,eb,Int.reduceBEq]
   refine Gives.bind (ht.mono ?_)
   rintro _ h2 ⟨⟨w3,rfl,hw⟩,F',R2,act2⟩
   obtain ⟨t1,t2⟩:=fin (r:=(turnP M c acc.kind).1) (w3:=w3) R2 act2 hw
   simp only [vms,vmc,vA,vB,reduceCtorEq,vC,vD,t1]
   exact t2 _ (by simp only [vms,vmc,vA,vB,reduceCtorEq,vC,vD])
 rw [if_neg k13]
 have no2 : ∀ j : Int,13≤j→j≤15→(acc.kind == j)=false:=fun j h1 h2 => by rw [beq_eq_false_iff_ne]; omega
 have n13:=no2 13 (by decide) (by decide)
 have n14:=no2 14 (by decide) (by decide)
 have n15:=no2 15 (by decide) (by decide)
 simp only [c12c,c12t,c12,vms,vmc,vA,vB,reduceCtorEq,vC,vD,fa,Nat.zero_add,l0,n1',n2',n3',n4',n5',n6,n7,n8,n9,n10,n11,n12,n13,n14,n15,fillE,badS]
 exact bad _ (by simp only [vms,vmc,vA,vB,reduceCtorEq,vC,vD])
end Go.Proofs.Ytagcnjhpdopkiaa
/- What clients share: a new one; what is asked of it. -/
namespace Go.Proofs.Ytagcnjhpdopkiaa
open Go.Vm
open Go.Vm.AOpd renaming val → vA
open Nat renaming reduceEqDiff → vB,reduceAdd → vC,reduceBEq → vD
set_option linter.unusedSimpArgs false
set_option linter.unusedVariables false
set_option maxRecDepth 100000
variable {T : Vm.Prog} {h : AH}
structure StartP (c : CfgP) (M : MemP) (st : List SlotP) (n : Nat) (x : SlotP) : Prop where
 new : NewP c.s st
 inv : InvP st
 idx : st.findIdx? (isFree 4)=some n
 slot : st[n]?=some x
 is : M=⟨st.set n ⟨x.cls,x.gen,true,rootW⟩,newEp c.clients c.limbo,(refN n 1 false : Nat),-1⟩
theorem find_of_room {st : List SlotP} {c : Nat} (hr : 1≤roomP st c) : ∃ n x,st.findIdx? (isFree c)=some n∧st[n]?=some x∧isFree c x=true:=by
 obtain ⟨y,hy,hf⟩:=List.countP_pos_iff.1 (show 0 < st.countP (isFree c) from hr)
 cases hi : st.findIdx? (isFree c) with
 | none =>
  rw [List.findIdx?_eq_none_iff] at hi
  have:=hi y hy
  rw [hf] at this; cases this
 | some n =>
  rw [List.findIdx?_eq_some_iff_getElem] at hi
  obtain ⟨h1,h2,_⟩:=hi
  exact ⟨n,st[n],rfl,List.getElem?_eq_getElem h1,h2⟩
theorem mem_root (k : Fits T) {m : Nat} {M : MemP} {F : Nat→Prop} (R : MemR m M F h) : Gives T 13 [.ptr m 0] h fun r h' => r = .int .i64 M.root∧h'=h:=by
 refine gives_func (k.env _ (by decide)) (k.at (fn:=a13) rfl) rfl ?_
 obtain ⟨a,e,Fa,Fe,K,hF⟩:=R
 simp only [a13,c13,vms,vmc,vA,vB,reduceCtorEq,vC,vD,show nilChkV (.ptr m 0)=some (.ptr m 0) from rfl,show fieldAddrV 3 (.ptr m 0)=some (.ptr m 3) from rfl,load_at K.obj (i:=3) rfl]
 exact ⟨trivial,trivial⟩
theorem mem_live (k : Fits T) {m : Nat} {M : MemP} {F : Nat→Prop} (R : MemR m M F h) : Gives T 14 [.ptr m 0] h fun r h' => r = .int .i64 (liveP M.ar)∧h'=h:=by
 refine gives_func (k.env _ (by decide)) (k.at (fn:=a14) rfl) rfl ?_
 obtain ⟨a,e,Fa,Fe,K,hF⟩:=R
 simp only [a14,c14,vms,vmc,vA,vB,reduceCtorEq,vC,vD,show nilChkV (.ptr m 0)=some (.ptr m 0) from rfl,show fieldAddrV 0 (.ptr m 0)=some (.ptr m 0) from rfl,load_at K.obj (i:=0) rfl]
 refine Gives.bind ((ar_live k K.ar).mono ?_)
 rintro _ _ ⟨rfl,rfl⟩
 simp only [vms,vmc,vA,vB,reduceCtorEq,vC,vD]
 exact ⟨trivial,trivial⟩
theorem mem_now (k : Fits T) {m : Nat} {M : MemP} {F : Nat→Prop} (R : MemR m M F h) : Gives T 17 [.ptr m 0] h fun r h' => r = .int .i64 M.ep.now∧h'=h:=by
 refine gives_func (k.env _ (by decide)) (k.at (fn:=a17) rfl) rfl ?_
 obtain ⟨a,e,Fa,Fe,K,hF⟩:=R
 simp only [a17,c17,vms,vmc,vA,vB,reduceCtorEq,vC,vD,show nilChkV (.ptr m 0)=some (.ptr m 0) from rfl,show fieldAddrV 1 (.ptr m 0)=some (.ptr m 1) from rfl,load_at K.obj (i:=1) rfl]
 refine Gives.bind ((ep_now k K.ep).mono ?_)
 rintro _ _ ⟨rfl,rfl⟩
 simp only [vms,vmc,vA,vB,reduceCtorEq,vC,vD]
 exact ⟨trivial,trivial⟩
theorem mem_limbo (k : Fits T) {m : Nat} {M : MemP} {F : Nat→Prop} (R : MemR m M F h) (c : Int) : Gives T 19 [.ptr m 0,.int .i64 c] h fun r h' => r = .int .i64 ((limboE M.ep c : Nat) : Int)∧h'=h:=by
 refine gives_func (k.env _ (by decide)) (k.at (fn:=a19) rfl) rfl ?_
 obtain ⟨a,e,Fa,Fe,K,hF⟩:=R
 simp only [a19,c19,vms,vmc,vA,vB,reduceCtorEq,vC,vD,show nilChkV (.ptr m 0)=some (.ptr m 0) from rfl,show fieldAddrV 1 (.ptr m 0)=some (.ptr m 1) from rfl,load_at K.obj (i:=1) rfl]
 refine Gives.bind ((ep_limbo k K.ep c).mono ?_)
 rintro _ _ ⟨rfl,rfl⟩
 simp only [vms,vmc,vA,vB,reduceCtorEq,vC,vD]
 exact ⟨trivial,trivial⟩
theorem mem_room (k : Fits T) {m : Nat} {M : MemP} {F : Nat→Prop} (R : MemR m M F h) (c : Int) : Gives T 25 [.ptr m 0,.int .i64 c] h fun r h' => r = .int .i64 ((if 0≤c∧c < 5 then roomP M.ar c.toNat else 0 : Nat) : Int)∧h'=h:=by
 refine gives_func (k.env _ (by decide)) (k.at (fn:=a25) rfl) rfl ?_
 obtain ⟨a,e,Fa,Fe,K,hF⟩:=R
 simp only [a25,c25,vms,vmc,vA,vB,reduceCtorEq,vC,vD,show nilChkV (.ptr m 0)=some (.ptr m 0) from rfl,show fieldAddrV 0 (.ptr m 0)=some (.ptr m 0) from rfl,load_at K.obj (i:=0) rfl]
 refine Gives.bind ((ar_room k K.ar c).mono ?_)
 rintro _ _ ⟨rfl,rfl⟩
 simp only [vms,vmc,vA,vB,reduceCtorEq,vC,vD]
 exact ⟨trivial,trivial⟩
end Go.Proofs.Ytagcnjhpdopkiaa

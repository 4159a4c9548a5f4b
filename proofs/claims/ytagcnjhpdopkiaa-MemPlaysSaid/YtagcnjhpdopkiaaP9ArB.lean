/- Arenas: a slot more, a pool more. -/
import Derived.Test.YtagcnjhpdopkiaaP9ArA
import Derived.Test.YtagcnjhpdopkiaaVmZf
namespace Go.Proofs.Ytagcnjhpdopkiaa
open Go.Vm
open Go.Vm.AOpd renaming val → vA
open Nat renaming reduceEqDiff → vB,reduceAdd → vC,reduceBEq → vD
set_option linter.unusedSimpArgs false
set_option linter.unusedVariables false
variable {T : Vm.Prog} {h : AH}
theorem slot_flat {x : Slot} {ws : List Nat} (hw : Words h x.wv ws) : x.cells.all AV.flat=true:=by
 obtain ⟨o,e,_⟩:=hw
 simp [Slot.cells,AV.flat,e]
theorem slot_beqs {x : Slot} {ws : List Nat} (hw : Words h x.wv ws) : AV.beqs x.cells x.cells=true:=by
 obtain ⟨o,e,_⟩:=hw
 simp [Slot.cells,e,AV.beqs,AV.beq]
theorem append_slot {sv : AV} {S : List Slot} {x : Slot} {ws : List Nat} {o2 : Nat} (hlow : Low h) (r : SlotsV h sv S) (hs : S.length≤1024) (h2 : h.get o2=some (.cells x.cells true)) (hne : ∀ o∈objs sv,o≠o2) (hw : Words h x.wv ws) :
  ∃ sv' h',appV 4 48 h sv (.slice o2 0 4 1 1 true)=some (sv',h')∧SlotsV h' sv' (S ++ [x])∧(∀ o∈objs sv',o∈objs sv∨h.next≤o)∧(∀ o∈objs sv',o < h'.next)∧Only h h' (objs sv)∧Low h'∧sv'.cells=[sv']∧sv'.flat=true:=by
 have hfl:=slot_flat hw
 have hx4 : x.cells.length=4:=rfl
 have hel : h.elems 4 1 (.slice o2 0 4 1 1 true)=some x.cells:=by
  simp only [AH.elems,true_and,Nat.le_refl,if_true,AH.load,h2]
  rw [if_pos (by rw [hx4]; omega),List.drop_zero,List.take_of_length_le (by rw [hx4]; omega)]
 rcases r with ⟨rfl,rfl⟩ | ⟨o,cap,l,rfl,hg,h1,h3,h4⟩
 ·refine ⟨.slice h.next 0 4 1 1 false,h.new (.cells x.cells true),?_,?_,?_,?_,Only.new (Only.refl h _) _,hlow.new _,rfl,rfl⟩
  ·simp only [appV,len_slice,Option.bind_some,hel,appendV]
   rfl
  ·refine .inr ⟨h.next,1,x.cells,rfl,get_new_same,rfl,by simp,?_⟩
   intro i s hs j y hy
   cases i with
   | zero => simp at hs; subst hs; simpa using hy
   | succ i => simp at hs
  ·intro o ho; simp [objs] at ho; subst ho; exact .inr (Nat.le_refl _)
  ·intro o ho; simp [objs] at ho; subst ho; rw [next_new]; omega
 ·have hlt : o < h.next:=hlow o _ hg
  by_cases hc : S.length + 1≤cap
  ·obtain ⟨s1,s2⟩:=setMany_get l x.cells (0 + S.length * 4)
   obtain ⟨s3,s4,s5⟩:=s2 (by rw [hx4]; omega)
   have hst : h.store o (0 + S.length * 4) x.cells=some (h.set o (.cells (setMany l (0 + S.length * 4) x.cells) true)):=by
    simp only [AH.store,hg]
    rw [if_pos ⟨by rw [hx4]; omega,hfl⟩]
   refine ⟨.slice o 0 4 (S.length + 1) cap false,_,?_,?_,?_,?_,(Only.refl h _).set (.inl (by simp [objs])) (.cells (setMany l (0 + S.length * 4) x.cells) true),hlow.set hlt _,rfl,rfl⟩
   ·simp only [appV,len_slice,Option.bind_some,hel,appendV,if_true]
    rw [if_pos hc,if_neg (by omega),hst]
    rfl
   ·refine .inr ⟨o,cap,_,by simp,get_set_same,by rw [s1]; exact h1,by simp; omega,?_⟩
    intro i s hs j y hy
    have hj4 : j < 4:=(List.getElem?_eq_some_iff.1 hy).1
    by_cases e : i=S.length
    ·subst e
     rw [List.getElem?_append_right (Nat.le_refl _)] at hs
     simp at hs; subst hs
     have:=s4 j y hy
     rw [show 0 + S.length * 4 + j=S.length * 4 + j by omega] at this; exact this
    ·have hi : i < S.length:=by
      have:=(List.getElem?_eq_some_iff.1 hs).1
      simp at this; omega
     rw [List.getElem?_append_left hi] at hs
     rw [s3 _ (by omega)]
     exact h4 i s hs j y hy
   ·intro q hq; simp [objs] at hq; subst hq; exact .inl (by simp [objs])
   ·intro q hq; simp [objs] at hq; subst hq; rw [next_set]; exact hlt
  ·have hroom : roomOk (S.length + 1) 48 cap false=true:=by
    simp [roomOk]; omega
   have hload : h.load o 0 (S.length * 4)=some (l.take (S.length * 4)):=by
    simp only [AH.load,hg,List.drop_zero]
    rw [if_pos (by omega)]
   have hrw : h.isRw o=true:=by simp [AH.isRw,hg]
   refine ⟨.slice h.next 0 4 (S.length + 1) (S.length + 1) false,(h.set o .dead).new (.cells (l.take (S.length * 4) ++ x.cells) true),?_,?_,?_,?_,((Only.refl h _).set (.inl (by simp [objs])) _).new _,(hlow.set hlt _).new _,rfl,rfl⟩
   ·simp only [appV,len_slice,Option.bind_some,hel,appendV,if_true]
    rw [if_neg hc,if_pos hroom,hload]
    simp [hrw,hfl,next_set]
   ·refine .inr ⟨h.next,S.length + 1,l.take (S.length * 4) ++ x.cells,by simp,?_,by rw [List.length_append,List.length_take,hx4]; omega,by simp,?_⟩
    ·have:=get_new_same (h:=h.set o .dead) (x := .cells (l.take (S.length * 4) ++ x.cells) true)
     rw [next_set] at this; exact this
    ·intro i s hs j y hy
     have hj4 : j < 4:=(List.getElem?_eq_some_iff.1 hy).1
     have hlen : (l.take (S.length * 4)).length=S.length * 4:=by rw [List.length_take]; omega
     by_cases e : i=S.length
     ·subst e
      rw [List.getElem?_append_right (Nat.le_refl _)] at hs
      simp at hs; subst hs
      rw [List.getElem?_append_right (by omega),hlen,show S.length * 4 + j - S.length * 4=j by omega]
      exact hy
     ·have hi : i < S.length:=by
       have:=(List.getElem?_eq_some_iff.1 hs).1
       simp at this; omega
      rw [List.getElem?_append_left hi] at hs
      rw [List.getElem?_append_left (by omega),List.getElem?_take,if_pos (by omega)]
      exact h4 i s hs j y hy
   ·intro q hq; simp [objs] at hq; subst hq; exact .inr (Nat.le_refl _)
   ·intro q hq; simp [objs] at hq; subst hq; rw [next_new,next_set]; omega
theorem Arena.addSlot {a : Nat} {sv : AV} {S : List Slot} {Q : List PR} (A : Arena h a sv S Q) (hl : Low h) {x : Slot} {o2 : Nat} (hs : S.length < 1024) (h2 : h.get o2=some (.cells x.cells true)) (hne : ∀ o∈objs sv,o≠o2) (hw : Words h x.wv x.ws)
  (ho : ∀ o∈objs x.wv,o≠a∧o∉objs sv∧∀ q∈Q,o∉q.foot) (hk : x.cls < 5∧x.gen < 9223372036854775807∧x.ws.length=sizeN x.cls) :
  ∃ sv' h1 h',appV 4 48 h sv (.slice o2 0 4 1 1 true)=some (sv',h1)∧storeV h1 1 (.ptr a 0) sv'=some h'∧Arena h' a sv' (S ++ [x]) Q∧Only h h' (a :: objs sv)∧Low h'∧∀ o∈objs sv',o∈objs sv∨h.next≤o:=by
 obtain ⟨sv',h1,happ,r1,hob,hob2,on1,lo1,hc,hf⟩:=append_slot hl A.slots (by omega) h2 hne hw
 obtain ⟨l1,l2,l3,l4⟩:=A.low hl
 have ga : h1.get a=some (.cells (sv :: ((Q.map fun q => .ptr q.p 0) ++ List.replicate (5 - Q.length) .nilPtr)) true):=(on1.2 a l1 A.aside.1).trans A.obj
 have hne' : ∀ (X : AObj) (o : Nat),o≠a→(h1.set a X).get o=h1.get o:=fun X o e => by rw [AH.get_set,if_neg (Ne.symm e)]
 have hsva : ∀ o∈objs sv',o≠a:=by
  intro o h5 e
  subst e
  rcases hob o h5 with h6 | h6
  ·exact A.aside.1 h6
  ·omega
 have hwl : ∀ o∈objs x.wv,o < h.next:=by
  intro o h5
  obtain ⟨o',e,hg⟩:=hw
  rw [e] at h5; simp [objs] at h5; subst h5
  exact hl _ _ hg
 have hmem : ∀ s∈S ++ [x],s∈S∨s=x:=by intro s hs; simpa using hs
 refine ⟨sv',h1,_,happ,store_at ga (by simp) hc hf,?_,?_,lo1.set (lo1 _ _ ga) _,hob⟩
 ·refine ⟨by rw [get_set_same]; rfl,A.five,r1.keep fun o h5 => hne' _ o (hsva o h5),?_,?_,?_,?_,A.apart,?_,by simp; omega⟩
  ·intro s hs
   have key : ∀ o∈objs s.wv,o≠a∧o∉objs sv∧o < h.next:=by
    intro o h5
    rcases hmem s hs with h6 | rfl
    ·exact ⟨(A.own s h6 o h5).1,(A.own s h6 o h5).2.1,l4 s h6 o h5⟩
    ·exact ⟨(ho o h5).1,(ho o h5).2.1,hwl o h5⟩
   have base : Words h s.wv s.ws:=by
    rcases hmem s hs with h6 | rfl
    ·exact A.words s h6
    ·exact hw
   exact base.keep fun o h5 => (hne' _ o (key o h5).1).trans (on1.2 o (key o h5).2.2 (key o h5).2.1)
  ·intro s hs o h5
   have key : o≠a∧o∉objs sv∧(∀ q∈Q,o∉q.foot)∧o < h.next:=by
    rcases hmem s hs with h6 | rfl
    ·exact ⟨(A.own s h6 o h5).1,(A.own s h6 o h5).2.1,(A.own s h6 o h5).2.2,l4 s h6 o h5⟩
    ·exact ⟨(ho o h5).1,(ho o h5).2.1,(ho o h5).2.2,hwl o h5⟩
   refine ⟨key.1,fun h7 => ?_,key.2.2.1⟩
   rcases hob o h7 with h8 | h8
   ·exact key.2.1 h8
   ·omega
  ·intro q hq
   exact (A.pools q hq).keep fun o h5 => (hne' _ o (fun e => (A.aside.2 q hq).1 (e ▸ h5))).trans (on1.2 o (l3 q hq o h5) fun h6 => (A.aside.2 q hq).2 o h6 h5)
  ·refine ⟨fun h5 => hsva a h5 rfl,fun q hq => ⟨(A.aside.2 q hq).1,fun o h5 h6 => ?_⟩⟩
   rcases hob o h5 with h7 | h7
   ·exact (A.aside.2 q hq).2 o h7 h6
   ·have:=l3 q hq o h6; omega
  ·intro s hs
   rcases hmem s hs with h6 | rfl
   ·exact A.kinds s h6
   ·exact hk
 ·refine ⟨by rw [next_set]; exact on1.1,fun q hq hF => ?_⟩
  simp only [List.mem_cons,not_or] at hF
  rw [hne' _ q hF.1]
  exact on1.2 q hq hF.2
theorem Arena.addPool {h1 : AH} {a : Nat} {sv : AV} {S : List Slot} {Q : List PR} (A : Arena h a sv S Q) (hl : Low h) (hQ : Q.length < 5) (hp : Pool h1 (h.next + 1) 1024 [] .nilSlice h.next) (on : Only h h1 []) (lo : Low h1) (hn : h1.next=h.next + 2) :
  ∃ h',storeV h1 1 (.ptr a (1 + Q.length)) (.ptr (h.next + 1) 0)=some h'∧Arena h' a sv S (Q ++ [⟨h.next + 1,.nilSlice,h.next,[]⟩])∧Only h h' [a]∧Low h':=by
 have A1:=A.grow hl on
 obtain ⟨l1,l2,l3,l4⟩:=A.low hl
 have hcells : (sv :: ((Q.map fun q => AV.ptr q.p 0) ++ List.replicate (5 - Q.length) .nilPtr)).set (1 + Q.length) (.ptr (h.next + 1) 0)=sv :: (((Q ++ [(⟨h.next + 1,.nilSlice,h.next,[]⟩ : PR)]).map fun q => AV.ptr q.p 0) ++ List.replicate (5 - (Q ++ [(⟨h.next + 1,.nilSlice,h.next,[]⟩ : PR)]).length) .nilPtr):=by
  rw [Nat.add_comm,List.set_cons_succ]
  congr 1
  rw [List.set_append,if_neg (by simp)]
  simp only [List.length_map,Nat.sub_self,List.map_append,List.map_cons,List.map_nil,List.length_append,List.length_cons,List.length_nil,List.append_assoc]
  congr 1
  rw [show 5 - Q.length=(5 - (Q.length + (0 + 1))) + 1 by omega,List.replicate_succ,List.set_cons_zero]
  rfl
 have hst:=store_at (v := .ptr (h.next + 1) 0) A1.obj (i:=1 + Q.length) (by simp; omega) rfl rfl
 rw [hcells] at hst
 have hne' : ∀ (X : AObj) (o : Nat),o≠a→(h1.set a X).get o=h1.get o:=fun X o e => by rw [AH.get_set,if_neg (Ne.symm e)]
 have hfoot : ∀ o∈(PR.mk (h.next + 1) .nilSlice h.next []).foot,o=h.next∨o=h.next + 1:=by
  intro o ho
  simp [PR.foot,foot,objs] at ho; omega
 have hmem : ∀ q∈Q ++ [(⟨h.next + 1,.nilSlice,h.next,[]⟩ : PR)],q∈Q∨q=⟨h.next + 1,.nilSlice,h.next,[]⟩:=by intro q hq; simpa using hq
 refine ⟨_,hst,?_,⟨by rw [next_set]; omega,fun q hq hF => ?_⟩,lo.set (lo _ _ A1.obj) _⟩
 ·refine ⟨get_set_same,by simp; omega,A1.slots.keep fun o ho => hne' _ o fun e => A.aside.1 (e ▸ ho),fun s hs => (A1.words s hs).keep fun o ho => hne' _ o (A.own s hs o ho).1,?_,?_,?_,?_,A.kinds,A.small⟩
  ·intro s hs o ho
   refine ⟨(A.own s hs o ho).1,(A.own s hs o ho).2.1,fun q hq h5 => ?_⟩
   rcases hmem q hq with h6 | rfl
   ·exact (A.own s hs o ho).2.2 q h6 h5
   ·have:=hfoot o h5; have:=l4 s hs o ho; omega
  ·intro q hq
   rcases hmem q hq with h6 | rfl
   ·exact (A1.pools q h6).keep fun o ho => hne' _ o fun e => (A.aside.2 q h6).1 (e ▸ ho)
   ·exact hp.keep fun o ho => hne' _ o (by
     have:=hfoot o ho; omega)
  ·refine ⟨A.aside.1,fun q hq => ?_⟩
   rcases hmem q hq with h6 | rfl
   ·exact A.aside.2 q h6
   ·exact ⟨fun h5 => by have:=hfoot a h5; omega,fun o ho h5 => by have:=hfoot o h5; have:=l2 o ho; omega⟩
  ·intro i j q r hij hi hj o ho h5
   have cases' : ∀ (m : Nat) (t : PR),(Q ++ [(⟨h.next + 1,.nilSlice,h.next,[]⟩ : PR)])[m]?=some t→(Q[m]?=some t)∨(m=Q.length∧t=⟨h.next + 1,.nilSlice,h.next,[]⟩):=by
    intro m t hm
    by_cases e : m < Q.length
    ·rw [List.getElem?_append_left e] at hm; exact .inl hm
    ·rw [List.getElem?_append_right (by omega)] at hm
     have:=(List.getElem?_eq_some_iff.1 hm).1
     simp at this
     have e0 : m=Q.length:=by omega
     subst e0
     simp at hm
     exact .inr ⟨rfl,hm.symm⟩
   rcases cases' i q hi with h6 | ⟨e1,rfl⟩
   ·rcases cases' j r hj with h7 | ⟨e2,rfl⟩
    ·exact A.apart i j q r hij h6 h7 o ho h5
    ·have:=hfoot o h5; have:=l3 q (List.mem_of_getElem? h6) o ho; omega
   ·rcases cases' j r hj with h7 | ⟨e2,rfl⟩
    ·have:=hfoot o ho; have:=l3 r (List.mem_of_getElem? h7) o h5; omega
    ·omega
 ·rw [hne' _ q (by simpa using hF)]
  exact on.2 q hq (by simp)
end Go.Proofs.Ytagcnjhpdopkiaa
/- Arenas: New. -/
namespace Go.Proofs.Ytagcnjhpdopkiaa
open Go.Vm
open Go.Vm.AOpd renaming val → vA
open Nat renaming reduceEqDiff → vB,reduceAdd → vC,reduceBEq → vD
set_option linter.unusedSimpArgs false
set_option linter.unusedVariables false
variable {T : Vm.Prog} {h : AH}
def AllFree (S : List Slot) (Q : List PR) : Prop :=
 (∀ (n : Nat) (x : Slot),S[n]?=some x→x.gen=1∧x.live=false∧x.ws=List.replicate (sizeN x.cls) poisonN∧∃ q,Q[x.cls]?=some q∧((n : Nat) : Int)∈q.L) ∧
 ∀ (c : Nat) (q : PR),Q[c]?=some q→∀ y∈q.L,∃ (n : Nat) (x : Slot),y=n∧S[n]?=some x∧x.cls=c
def pre (ns : List Nat) (c : Nat) : Nat:=(ns.take c).sum
theorem pre_succ {ns : List Nat} {c n : Nat} (h : ns[c]?=some n) : pre ns (c + 1)=pre ns c + n:=by
 unfold pre; rw [List.take_add_one,h]; simp
theorem pre_le (ns : List Nat) (c : Nat) : pre ns c≤ns.sum:=by
 unfold pre
 conv => rhs; rw [← List.take_append_drop c ns,List.sum_append]
 omega
def ints (ns : List Nat) : List AV:=ns.map fun (n : Nat) => .int .i64 (n : Int)
theorem idxArr_ints {ns : List Nat} {c n : Nat} (h5 : ns.length=5) (h : ns[c]?=some n) : idxArrV false 5 1 (.agg (ints ns)) (.int .i64 (c : Int))=some (.int .i64 (n : Int)):=by
 have hc:=(List.getElem?_eq_some_iff.1 h).1
 show (if (0 : Int)≤(c : Int)∧(c : Int).toNat < 5 then partV false (ints ns) ((c : Int).toNat * 1) 1 else none)=_
 rw [if_pos ⟨by omega,by show c < 5; omega⟩]
 show (ints ns)[c * 1]?=_
 rw [Nat.mul_one]; simp [ints,h]
def newK (ns : List Nat) : Nat→List Nat
 | 0 => []
 | c + 1 => newK ns c ++ List.replicate ((ns[c]?).getD 0) c
structure Made (ns : List Nat) (c i : Nat) (S : List Slot) (Q : List PR) : Prop where
 len : S.length=pre ns c + i
 free : AllFree S Q
 room : ∀ (j : Nat) (q : PR) (n : Nat),Q[j]?=some q→ns[j]?=some n→j < c→q.L.length=n
 ord : S.map (·.cls)=newK ns c ++ List.replicate i c
theorem slot_agg {c o n : Nat} {w : AV} (hw : w = .slice o 0 1 n n true) : fillV [AV.int .i64 0,.int .i64 0,.bool false,.nilSlice] [(0,1,.int .i64 (c : Int)),(1,1,.int .i64 1),(3,1,w)]=some [.int .i64 (c : Int),.int .i64 1,.bool false,w]:=by
 subst hw
 simp [fillV,AV.isDef,setMany,AV.cells]
theorem slot_row {l : List AV} (h : l.length=4) : fillV [AV.int .i64 0,.int .i64 0,.bool false,.nilSlice] [(0,4,.agg l)]=some l:=by
 match l,h with
 | [a,b,c,d],_ => simp [fillV,AV.isDef,AV.cells,setMany]
def Grew (N : Nat) (S : List Slot) (Q : List PR) (S' : List Slot) (Q' : List PR) : Prop:=(∀ s∈S',s∈S∨∀ p∈objs s.wv,N≤p)∧∀ q'∈Q',∀ o∈q'.foot,(∃ q∈Q,o∈q.foot)∨N≤o
theorem Grew.refl {N : Nat} {S : List Slot} {Q : List PR} : Grew N S Q S Q:=⟨fun s hs => .inl hs,fun q hq o ho => .inl ⟨q,hq,ho⟩⟩
theorem Grew.trans {N M : Nat} {S S' S2 : List Slot} {Q Q' Q2 : List PR} (g : Grew N S Q S' Q') (k : Grew M S' Q' S2 Q2) (hM : N≤M) : Grew N S Q S2 Q2:=by
 refine ⟨fun s hs => ?_,fun q hq o ho => ?_⟩
 ·rcases k.1 s hs with h1 | h1
  ·exact g.1 s h1
  ·exact .inr fun p hp => Nat.le_trans hM (h1 p hp)
 ·rcases k.2 q hq o ho with ⟨r,hr,h1⟩ | h1
  ·exact g.2 r hr o h1
  ·exact .inr (Nat.le_trans hM h1)
def c27i : ACode:=match c27l1 with
 | .seq _ (.seq _ (.seq r _)) => r
 | c => c
theorem inner_step (k : Fits T) {ns : List Nat} {a c i n : Nat} {sv : AV} {S : List Slot} {Q : List PR} {q : PR} (A : Arena h a sv S Q) (hl : Low h) (h5 : ns.length=5) (hsum : ns.sum≤1024) (hc : ns[c]?=some n) (hi : i < n) (M : Made ns c i S Q) (hQ : Q.length=c + 1) (hq : Q[c]?=some q) (hqi : q.L.length=i)
  {f : Fr} (f7 : f.at 7 = .ptr a 0) (f8 : f.at 8 = .int .i64 (c : Int)) {K : AExit→Fr→AH→Prop}
  (hK : ∀ (f' : Fr) h' sv' S' Q' q',(∀ t,t < 43→f'.at t=f.at t)→Arena h' a sv' S' Q'→Low h'→Only h h' (a :: (objs sv ++ q.foot))→Made ns c (i + 1) S' Q'→Q'.length=c + 1→Q'[c]?=some q'→q'.L.length=i + 1→(∀ o∈objs sv',o∈objs sv∨h.next≤o)→(∀ o∈q'.foot,o∈q.foot∨h.next≤o)→Grew h.next S Q S' Q'→K .normal f' h') :
  Wp (code T c27i f h) K:=by
 have hc5 : c < 5:=by rw [← h5]; exact (List.getElem?_eq_some_iff.1 hc).1
 have hlen : S.length < 1024:=by
  have:=pre_succ hc; have:=pre_le ns (c + 1); have:=M.len; omega
 have nb : nilChkV (.ptr a 0)=some (.ptr a 0):=rfl
 have fa0 : fieldAddrV 0 (.ptr a 0)=some (.ptr a 0):=rfl
 have fa1 : fieldAddrV 1 (.ptr a 0)=some (.ptr a 1):=rfl
 simp only [c27i,c27l1,vms,vmc,vA,vB,reduceCtorEq,vC,vD,f7,f8,nb,fa0,fa1,idxRow_nat hc5,A.pool_load hq,A.sv_load,A.slots.len]
 have hP:=A.pools q (List.mem_of_getElem? hq)
 refine Gives.bind ((put_ok k (n:=((S.length : Nat) : Int)) hP hl (by have:=hP.count; omega)).mono ?_)
 rintro _ h1 (⟨hbad,_⟩ | ⟨hgood,rfl,L',hperm,hto⟩)
 ·exfalso
  rcases hbad with h6 | h6 | h6
  ·omega
  ·omega
  ·obtain ⟨m,x,e,hx,_⟩:=M.free.2 c q hq _ h6
   have:=(List.getElem?_eq_some_iff.1 hx).1
   omega
 obtain ⟨q',⟨rp,rm,rL,rf⟩,A1,on1,lo1⟩:=A.pool hl hq hto
 simp only [vms,vmc,vA,vB,reduceCtorEq,vC,vD,f7,f8,nb,fa0,A1.sv_load]
 refine Gives.bind ((poison_ok k hc5 lo1).mono ?_)
 rintro w h2 ⟨hw,hwf,on2,lo2⟩
 have A2:=A1.grow lo1 on2
 obtain ⟨wo,hwe,hwg⟩:=hw
 have hwd : w.isDef=true∧w.cells=[w]:=by rw [hwe]; exact ⟨rfl,rfl⟩
 have x4 : ([AV.int .i64 (c : Int),.int .i64 1,.bool false,w] : List AV).length=4:=rfl
 have on3 : Only h2 (h2.new (.cells [.int .i64 (c : Int),.int .i64 1,.bool false,w] true)) []:=(Only.refl h2 []).new _
 have lo3:=lo2.new (.cells [.int .i64 (c : Int),.int .i64 1,.bool false,w] true)
 have A3:=A2.grow lo2 on3
 obtain ⟨l1,l2,l3,l4⟩:=A1.low lo1
 have hwl : wo < h2.next:=lo2 _ _ hwg
 have hw3 : Words (h2.new (.cells [.int .i64 (c : Int),.int .i64 1,.bool false,w] true)) w (List.replicate (sizeN c) poisonN):=⟨wo,hwe,by rw [AH.get_new,if_neg (by omega)]; exact hwg⟩
 have hwown : ∀ o∈objs w,o≠a∧o∉objs sv∧∀ r∈Q.set c q',o∉r.foot:=by
  intro o ho
  have:=hwf o ho
  exact ⟨by omega,fun e => by have:=l2 o e; omega,fun r hr e => by have:=l3 r hr o e; omega⟩
 obtain ⟨sv',h4,h5',happ,hst,A5,on5,lo5,hob⟩:=A3.addSlot lo3 (x:=⟨c,1,false,List.replicate (sizeN c) poisonN,w⟩) (o2:=h2.next) hlen get_new_same (fun o ho => by have:=l2 o ho; have:=on2.1; omega) hw3 hwown ⟨hc5,by show 1 < _; omega,by simp⟩
 simp only [vms,vmc,vA,vB,reduceCtorEq,vC,vD,f7,f8,slot_agg hwe,slot_row x4]
 rw [items_look (look_load (v:=sv) (by simp only [vms,vmc,vA,vB,reduceCtorEq,vC,vD,fa0]; exact A3.sv_load) (by simp only [vms,vmc,vA,vB,reduceCtorEq,vC,vD]) (by
  rcases A3.slots with ⟨e,_⟩ | ⟨so,cap,l,e,_⟩
  ·rw [e]; rfl
  ·rw [e]; unfold AV.beq; simp))]
 rw [items_look (look_build (l:=[.int .i64 (c : Int),.int .i64 1,.bool false,w]) (q:=h2.next) (by simp only [vms,vmc,vA,vB,reduceCtorEq,vC,vD]; exact slot_row x4) (by simp only [vms,vmc,vA,vB,reduceCtorEq,vC,vD]; rfl) get_new_same (slot_beqs (x:=⟨c,1,false,List.replicate (sizeN c) poisonN,w⟩) hw3))]
 simp only [vms,vmc,vA,vB,reduceCtorEq,vC,vD,f7,nb,fa0,happ,hst]
 have hcl : c < Q.length:=by omega
 have hq' : (Q.set c q')[c]?=some q':=by rw [List.getElem?_set,if_pos rfl,if_pos hcl]
 refine hK _ _ sv' (S ++ [⟨c,1,false,List.replicate (sizeN c) poisonN,w⟩]) (Q.set c q') q' ?_ A5 lo5 ?_ ?_ (by simpa using hQ) hq' ?_ ?_ rf ?_
 ·intro t ht
  simp only [Fr.at_put,put_none]
  repeat rw [if_neg (by omega)]
 ·refine ⟨by have:=on1.1; have:=on2.1; have:=on3.1; have:=on5.1; omega,fun o ho hF => ?_⟩
  simp only [List.mem_cons,List.mem_append,not_or] at hF
  rw [on5.2 o (by have:=on1.1; have:=on2.1; have:=on3.1; omega) (by simp only [List.mem_cons,not_or]; exact ⟨hF.1,hF.2.1⟩),on3.2 o (by have:=on1.1; have:=on2.1; omega) (by simp),on2.2 o (by have:=on1.1; omega) (by simp),on1.2 o ho hF.2.2]
 ·have hset : ∀ (j : Nat),j≠c→(Q.set c q')[j]?=Q[j]?:=fun j e => by rw [List.getElem?_set,if_neg (Ne.symm e)]
  refine ⟨by rw [List.length_append,M.len]; simp; omega,⟨fun m x hx => ?_,fun j r hr y hy => ?_⟩,fun j r m hr hm hj => ?_,by rw [List.map_append,M.ord,List.replicate_succ',List.append_assoc]; rfl⟩
  ·by_cases e : m=S.length
   ·subst e
    rw [List.getElem?_append_right (Nat.le_refl _)] at hx
    simp at hx; subst hx
    exact ⟨rfl,rfl,rfl,q',hq',by rw [rL]; exact hperm.mem_iff.2 (by simp)⟩
   ·have hm : m < S.length:=by
     have:=(List.getElem?_eq_some_iff.1 hx).1
     simp at this; omega
    rw [List.getElem?_append_left hm] at hx
    obtain ⟨g1,g2,g3,r,g4,g5⟩:=M.free.1 m x hx
    refine ⟨g1,g2,g3,?_⟩
    by_cases e2 : x.cls=c
    ·rw [e2] at g4
     rw [hq] at g4; cases g4
     exact ⟨q',by rw [e2]; exact hq',by rw [rL]; exact hperm.mem_iff.2 (by simp [g5])⟩
    ·exact ⟨r,by rw [hset _ e2]; exact g4,g5⟩
  ·by_cases e : j=c
   ·subst e
    rw [hq'] at hr; cases hr
    rw [rL] at hy
    rcases List.mem_cons.1 (hperm.mem_iff.1 hy) with rfl | h6
    ·exact ⟨S.length,⟨j,1,false,List.replicate (sizeN j) poisonN,w⟩,rfl,by rw [List.getElem?_append_right (Nat.le_refl _)]; simp,rfl⟩
    ·obtain ⟨m,x,g1,g2,g3⟩:=M.free.2 j q hq y h6
     exact ⟨m,x,g1,by rw [List.getElem?_append_left (List.getElem?_eq_some_iff.1 g2).1]; exact g2,g3⟩
   ·rw [hset j e] at hr
    obtain ⟨m,x,g1,g2,g3⟩:=M.free.2 j r hr y hy
    exact ⟨m,x,g1,by rw [List.getElem?_append_left (List.getElem?_eq_some_iff.1 g2).1]; exact g2,g3⟩
  ·rw [hset j (by omega)] at hr
   exact M.room j r m hr hm hj
 ·rw [rL,hperm.length_eq,List.length_cons,hqi]
 ·intro o ho
  rcases hob o ho with h6 | h6
  ·exact .inl h6
  ·right
   have:=on1.1; have:=on2.1; have:=on3.1; omega
 ·refine ⟨fun s hs => ?_,fun r hr o ho => ?_⟩
  ·rcases List.mem_append.1 hs with h6 | h6
   ·exact .inl h6
   ·simp only [List.mem_cons,List.not_mem_nil,or_false] at h6
    subst h6
    exact .inr fun p hp => Nat.le_trans on1.1 (hwf p hp)
  ·rcases List.mem_or_eq_of_mem_set hr with h6 | rfl
   ·exact .inl ⟨r,h6,ho⟩
   ·rcases rf o ho with h6 | h6
    ·exact .inl ⟨q,List.mem_of_getElem? hq,h6⟩
    ·exact .inr h6
end Go.Proofs.Ytagcnjhpdopkiaa
/- Arenas: New,the loops. -/
namespace Go.Proofs.Ytagcnjhpdopkiaa
open Go.Vm
open Go.Vm.AOpd renaming val → vA
open Nat renaming reduceEqDiff → vB,reduceAdd → vC,reduceBEq → vD
set_option linter.unusedSimpArgs false
set_option linter.unusedVariables false
variable {T : Vm.Prog} {h : AH}
theorem c27l1_parts : c27l1 = .seq (.ops [⟨(some 43),.bin .lss (.tmp 42) (.tmp 41),none⟩]) (.seq (.cond (.tmp 43) .skip (.exit 4)) (.seq c27i (.ops [⟨(some 69),.bin .add (.tmp 42) (.con (.int .i64 1)),none⟩,⟨(some 42),.mov (.tmp 69),none⟩]))):=rfl
theorem inner_loop (k : Fits T) {ns : List Nat} {a c n : Nat} {sv : AV} {S : List Slot} {Q : List PR} {q : PR} (A : Arena h a sv S Q) (hl : Low h) (h5 : ns.length=5) (hsum : ns.sum≤1024) (hc : ns[c]?=some n) (M : Made ns c 0 S Q) (hQ : Q.length=c + 1) (hq : Q[c]?=some q) (hqi : q.L.length=0)
  {f : Fr} (f7 : f.at 7 = .ptr a 0) (f8 : f.at 8 = .int .i64 (c : Int)) (f41 : f.at 41 = .int .i64 (n : Int)) (f42 : f.at 42 = .int .i64 0) {K : AExit→Fr→AH→Prop}
  (hK : ∀ (f' : Fr) h' sv' S' Q',(∀ t,t < 42→f'.at t=f.at t)→Arena h' a sv' S' Q'→Low h'→Only h h' (a :: (objs sv ++ q.foot))→Made ns (c + 1) 0 S' Q'→Q'.length=c + 1→(∀ o∈objs sv',o∈objs sv∨h.next≤o)→Grew h.next S Q S' Q'→K (.exit 4) f' h') :
  Wp (code T (.loop c27l1) f h) K:=by
 have hn1 : n≤1024:=by have:=pre_succ hc; have:=pre_le ns (c + 1); omega
 refine wpc_loop (fun m f' h' => ∃ i sv' S' Q' q',m=n - i∧i≤n∧(∀ t,t < 42→f'.at t=f.at t)∧f'.at 42 = .int .i64 (i : Nat)∧Arena h' a sv' S' Q'∧Low h'∧Only h h' (a :: (objs sv ++ q.foot))∧Made ns c i S' Q'∧Q'.length=c + 1∧Q'[c]?=some q'∧q'.L.length=i∧(∀ o∈objs sv',o∈objs sv∨h.next≤o)∧(∀ o∈q'.foot,o∈q.foot∨h.next≤o)∧Grew h.next S Q S' Q') ?_ n f h
  ⟨0,sv,S,Q,q,rfl,Nat.zero_le _,fun _ _ => rfl,f42,A,hl,Only.refl _ _,M,hQ,hq,hqi,fun o ho => .inl ho,fun o ho => .inl ho,Grew.refl⟩
 rintro m f' h' ⟨i,sv',S',Q',q',rfl,hi,hf,g42,A',hl',on',M',hQ',hq',hqi',hsv',hfo',hgr'⟩
 have g41 : f'.at 41 = .int .i64 (n : Int):=(hf 41 (by omega)).trans f41
 simp only [c27l1_parts,vms,vmc,vA,vB,reduceCtorEq,vC,vD,g41,g42]
 by_cases hlt : i < n
 ·have hd : decide ((i : Int) < (n : Int))=true:=by rw [decide_eq_true_eq]; omega
  simp only [hd,vms,vmc,vA,vB,reduceCtorEq,vC,vD]
  refine inner_step k A' hl' h5 hsum hc hlt M' hQ' hq' hqi' (by simp only [vms,vmc,vA,vB,reduceCtorEq,vC,vD]; exact (hf 7 (by omega)).trans f7) (by simp only [vms,vmc,vA,vB,reduceCtorEq,vC,vD]; exact (hf 8 (by omega)).trans f8) ?_
  intro f2 h2 sv2 S2 Q2 q2 e2 A2 lo2 on2 M2 hQ2 hq2 hqi2 hsv2 hfo2 hgr2
  have g42' : f2.at 42 = .int .i64 (i : Nat):=by rw [e2 42 (by omega)]; simp only [vms,vmc,vA,vB,reduceCtorEq,vC,vD]; exact g42
  have w1 : IntKind.i64.wrap ((i : Int) + 1)=((i + 1 : Nat) : Int):=by rw [wrap_i64 (by omega) (by omega)]; rfl
  simp only [vms,vmc,vA,vB,reduceCtorEq,vC,vD,g42',w1]
  refine ⟨n - (i + 1),by omega,i + 1,sv2,S2,Q2,q2,rfl,by omega,?_,rfl,A2,lo2,on'.trans on2 ?_,M2,hQ2,hq2,hqi2,?_,?_,hgr'.trans hgr2 on'.1⟩
  ·intro t ht
   rw [if_neg (by omega),if_neg (by omega),e2 t (by omega)]
   simp only [Fr.at_put]
   rw [if_neg (by omega)]
   exact hf t ht
  ·intro o ho
   simp only [List.mem_cons,List.mem_append] at ho ⊢
   rcases ho with rfl | ho | ho
   ·exact .inl (.inl rfl)
   ·rcases hsv' o ho with h6 | h6
    ·exact .inl (.inr (.inl h6))
    ·exact .inr h6
   ·rcases hfo' o ho with h6 | h6
    ·exact .inl (.inr (.inr h6))
    ·exact .inr h6
  ·intro o ho
   rcases hsv2 o ho with h6 | h6
   ·exact hsv' o h6
   ·right; have:=on'.1; omega
  ·intro o ho
   rcases hfo2 o ho with h6 | h6
   ·exact hfo' o h6
   ·right; have:=on'.1; omega
 ·have hd : decide ((i : Int) < (n : Int))=false:=by rw [decide_eq_false_iff_not]; omega
  have : i=n:=by omega
  subst this
  simp only [hd,vms,vmc,vA,vB,reduceCtorEq,vC,vD]
  refine hK _ h' sv' S' Q' ?_ A' hl' on' ⟨by rw [M'.len,pre_succ hc]; rfl,M'.free,?_,by rw [M'.ord]; simp [newK,hc]⟩ hQ' hsv' hgr'
  ·intro t ht
   simp only [Fr.at_put]
   rw [if_neg (by omega)]
   exact hf t ht
  ·intro j r m hr hm hj
   by_cases e : j=c
   ·subst e
    rw [hq'] at hr; cases hr
    rw [hc] at hm; cases hm
    exact hqi'
   ·exact M'.room j r m hr hm (by omega)
theorem anew_ok (k : Fits T) {ns : List Nat} (hl : Low h) (h5 : ns.length=5) (hsum : ns.sum≤1024) :
  Gives T 27 [.agg (ints ns)] h fun r h' => ∃ a sv S Q,r = .tuple [.ptr a 0,.int .i64 0]∧Arena h' a sv S Q∧Q.length=5∧Made ns 5 0 S Q∧Only h h' []∧Low h'∧h.next≤a∧(∀ o∈objs sv,h.next≤o)∧Grew h.next [] [] S Q:=by
 refine gives_func (k.env _ (by decide)) (k.at (fn:=a27) rfl) rfl ?_
 have hli : (ints ns).length=5:=by simp [ints,h5]
 have hsm : ∀ i,pre ns i≤1024:=fun i => Nat.le_trans (pre_le ns i) hsum
 simp only [a27,c27,vms,vmc,vA,vB,reduceCtorEq,vC,vD,box_agg,load_all get_new_same hli]
 refine wpc_loop (fun m f h' => ∃ i,m=5 - i∧i≤5∧h'=h.new (.cells (ints ns) true)∧f.at 1 = .ptr h.next 0∧f.at 4 = .int .i64 ((1024 - pre ns i : Nat) : Int)∧f.at 10 = .agg (ints ns)∧f.at 11 = .int .i64 (i : Nat)) ?_ 5 _ _ ⟨0,rfl,by omega,rfl,?_⟩
 ·rintro m f h' ⟨i,rfl,hi,rfl,f1,f4,f10,f11⟩
  simp only [c27l0,vms,vmc,vA,vB,reduceCtorEq,vC,vD,f1,f4,f10,f11]
  by_cases hlt : i < 5
  ·have hd : decide ((i : Int) < 5)=true:=by rw [decide_eq_true_eq]; omega
   obtain ⟨n,hn⟩ : ∃ n,ns[i]?=some n:=⟨_,List.getElem?_eq_getElem (by omega)⟩
   have hp:=pre_succ hn
   have hp2:=hsm (i + 1)
   have d1 : decide ((n : Int) < 0)=false:=by rw [decide_eq_false_iff_not]; omega
   have d2 : decide ((n : Int) > ((1024 - pre ns i : Nat) : Int))=false:=by rw [decide_eq_false_iff_not]; omega
   have w1 : IntKind.i64.wrap (((1024 - pre ns i : Nat) : Int) - (n : Int))=((1024 - pre ns (i + 1) : Nat) : Int):=by rw [wrap_i64 (by omega) (by omega)]; omega
   have w2 : IntKind.i64.wrap ((i : Int) + 1)=((i + 1 : Nat) : Int):=by rw [wrap_i64 (by omega) (by omega)]; rfl
   simp only [hd,vms,vmc,vA,vB,reduceCtorEq,vC,vD,f1,f4,f10,f11,idxArr_ints h5 hn,d1,d2,w1,w2]
   exact ⟨5 - (i + 1),by omega,i + 1,rfl,by omega,trivial,trivial,rfl,trivial,rfl⟩
  ·have hd : decide ((i : Int) < 5)=false:=by rw [decide_eq_false_iff_not]; omega
   have hfill : fillV [AV.nilSlice,.nilPtr,.nilPtr,.nilPtr,.nilPtr,.nilPtr] []=some [.nilSlice,.nilPtr,.nilPtr,.nilPtr,.nilPtr,.nilPtr]:=rfl
   have g1 : ((h.new (.cells (ints ns) true)).new (.cells [.nilSlice,.nilPtr,.nilPtr,.nilPtr,.nilPtr,.nilPtr] true)).get h.next=some (.cells (ints ns) true):=by rw [AH.get_new,if_neg (by rw [next_new]; omega),get_new_same]
   simp only [hd,vms,vmc,vA,vB,reduceCtorEq,vC,vD,f1,hfill,box_agg,next_new,load_all g1 hli]
   have hA0 : Arena ((h.new (.cells (ints ns) true)).new (.cells [.nilSlice,.nilPtr,.nilPtr,.nilPtr,.nilPtr,.nilPtr] true)) (h.next + 1) .nilSlice [] []:=by
    refine ⟨?_,by simp,.inl ⟨rfl,rfl⟩,fun s hs => by simp at hs,fun s hs => by simp at hs,fun q hq => by simp at hq,⟨by simp [objs],fun q hq => by simp at hq⟩,fun i j q r _ hi => by simp at hi,fun s hs => by simp at hs,by simp⟩
    have:=get_new_same (h:=h.new (.cells (ints ns) true)) (x := .cells [.nilSlice,.nilPtr,.nilPtr,.nilPtr,.nilPtr,.nilPtr] true)
    rw [next_new] at this; exact this
   have hlow0:=(hl.new (.cells (ints ns) true)).new (.cells [.nilSlice,.nilPtr,.nilPtr,.nilPtr,.nilPtr,.nilPtr] true)
   have hon0 : Only h ((h.new (.cells (ints ns) true)).new (.cells [.nilSlice,.nilPtr,.nilPtr,.nilPtr,.nilPtr,.nilPtr] true)) []:=((Only.refl h []).new _).new _
   generalize ((h.new (.cells (ints ns) true)).new (.cells [.nilSlice,.nilPtr,.nilPtr,.nilPtr,.nilPtr,.nilPtr] true))=h0 at hA0 hlow0 hon0
   refine wpc_loop (fun m f h' => ∃ c sv S Q,m=5 - c∧c≤5∧Arena h' (h.next + 1) sv S Q∧Low h'∧Only h h' []∧Made ns c 0 S Q∧Q.length=c∧(∀ o∈objs sv,h.next≤o)∧Grew h.next [] [] S Q∧f.at 7 = .ptr (h.next + 1) 0∧f.at 27 = .agg (ints ns)∧f.at 28 = .int .i64 (c : Nat)) ?_ 5 _ _ ⟨0,.nilSlice,[],[],rfl,by omega,hA0,hlow0,hon0,⟨rfl,⟨fun n x hx => by simp at hx,fun c q hq => by simp at hq⟩,fun j q n hq => by simp at hq,rfl⟩,rfl,fun o ho => by simp [objs] at ho,Grew.refl,?_⟩
   ·rintro m f h' ⟨c,sv,S,Q,rfl,hc5,A,lo,on,M,hQ,hsv,hgr,f7,f27,f28⟩
    simp only [c27l2,vms,vmc,vA,vB,reduceCtorEq,vC,vD,f7,f27,f28]
    by_cases hlt : c < 5
    ·have hd : decide ((c : Int) < 5)=true:=by rw [decide_eq_true_eq]; omega
     obtain ⟨n,hn⟩ : ∃ n,ns[c]?=some n:=⟨_,List.getElem?_eq_getElem (by omega)⟩
     have nb : nilChkV (.ptr (h.next + 1) 0)=some (.ptr (h.next + 1) 0):=rfl
     have fa1 : fieldAddrV 1 (.ptr (h.next + 1) 0)=some (.ptr (h.next + 1) 1):=rfl
     simp only [hd,vms,vmc,vA,vB,reduceCtorEq,vC,vD,f7,f27,f28,idxArr_ints h5 hn,nb,fa1]
     refine Gives.bind ((pnew_ok k (most:=1024) lo (by decide) (by decide)).mono ?_)
     rintro _ h1 ⟨rfl,hP,on1,lo1,nx1⟩
     obtain ⟨h2,st2,A2,on2,lo2⟩:=A.addPool lo (by omega) hP on1 lo1 nx1
     rw [hQ] at st2
     simp only [vms,vmc,vA,vB,reduceCtorEq,vC,vD,idxRow_nat hlt,st2]
     have hqc : (Q ++ [(⟨h'.next + 1,.nilSlice,h'.next,[]⟩ : PR)])[c]?=some ⟨h'.next + 1,.nilSlice,h'.next,[]⟩:=by
      rw [List.getElem?_append_right (by omega),hQ]; simp
     have M2 : Made ns c 0 S (Q ++ [(⟨h'.next + 1,.nilSlice,h'.next,[]⟩ : PR)]):=by
      have hold : ∀ j r,Q[j]?=some r→(Q ++ [(⟨h'.next + 1,.nilSlice,h'.next,[]⟩ : PR)])[j]?=some r:=fun j r hr => by
       rw [List.getElem?_append_left (List.getElem?_eq_some_iff.1 hr).1]; exact hr
      refine ⟨M.len,⟨fun m x hx => ?_,fun j r hr y hy => ?_⟩,fun j r m hr hm hj => ?_,M.ord⟩
      ·obtain ⟨e1,e2,e3,r,e4,e5⟩:=M.free.1 m x hx
       exact ⟨e1,e2,e3,r,hold _ _ e4,e5⟩
      ·by_cases e : j < Q.length
       ·rw [List.getElem?_append_left e] at hr
        exact M.free.2 j r hr y hy
       ·rw [List.getElem?_append_right (by omega)] at hr
        have:=(List.getElem?_eq_some_iff.1 hr).1
        simp at this
        have e0 : j=Q.length:=by omega
        subst e0
        simp at hr; subst hr
        simp at hy
      ·rw [List.getElem?_append_left (by omega)] at hr
       exact M.room j r m hr hm hj
     refine inner_loop k A2 lo2 h5 hsum hn M2 (by simp [hQ]) hqc rfl ?_ ?_ ?_ ?_ ?_
     rotate_right
     ·intro f3 h3 sv3 S3 Q3 e3 A3 lo3 on3 M3 hQ3 hsv3 hgr3
      have w2 : IntKind.i64.wrap ((c : Int) + 1)=((c + 1 : Nat) : Int):=by rw [wrap_i64 (by omega) (by omega)]; rfl
      have g7 : f3.at 7 = .ptr (h.next + 1) 0:=by rw [e3 7 (by omega)]; simp only [vms,vmc,vA,vB,reduceCtorEq,vC,vD,f7]
      have g27 : f3.at 27 = .agg (ints ns):=by rw [e3 27 (by omega)]; simp only [vms,vmc,vA,vB,reduceCtorEq,vC,vD,f27]
      have g28 : f3.at 28 = .int .i64 (c : Nat):=by rw [e3 28 (by omega)]; simp only [vms,vmc,vA,vB,reduceCtorEq,vC,vD,f28]
      simp only [vms,vmc,vA,vB,reduceCtorEq,vC,vD,g7,g27,g28,w2]
      refine ⟨5 - (c + 1),by omega,c + 1,sv3,S3,Q3,rfl,by omega,A3,lo3,?_,M3,hQ3,?_,?_,trivial,trivial,rfl⟩
      ·refine (on.trans on2 fun o ho => .inr (by simp at ho; omega)).trans on3 fun o ho => .inr ?_
       simp only [List.mem_cons,List.mem_append,PR.foot,foot,objs,List.not_mem_nil,or_false] at ho
       have:=on.1
       rcases ho with rfl | ho | rfl | rfl
       ·omega
       ·exact hsv o ho
       ·omega
       ·omega
      ·intro o ho
       rcases hsv3 o ho with h6 | h6
       ·exact hsv o h6
       ·have:=on.1; have:=on2.1; omega
      ·refine Grew.trans (Grew.trans hgr (S2:=S) (Q2:=Q ++ [(⟨h'.next + 1,.nilSlice,h'.next,[]⟩ : PR)]) (M:=h.next) ⟨fun s hs => .inl hs,fun r hr o ho => ?_⟩ (Nat.le_refl _)) hgr3 (by have:=on.1; have:=on2.1; omega)
       rcases List.mem_append.1 hr with h6 | h6
       ·exact .inl ⟨r,h6,ho⟩
       ·simp only [List.mem_cons,List.not_mem_nil,or_false] at h6
        subst h6
        simp only [PR.foot,foot,objs,List.mem_cons,List.not_mem_nil,or_false] at ho
        have:=on.1
        right
        rcases ho with rfl | rfl <;> omega
     all_goals simp only [vms,vmc,vA,vB,reduceCtorEq,vC,vD,f7,f27,f28]
    ·have hd : decide ((c : Int) < 5)=false:=by rw [decide_eq_false_iff_not]; omega
     have : c=5:=by omega
     subst this
     simp only [hd,vms,vmc,vA,vB,reduceCtorEq,vC,vD,f7]
     exact ⟨h.next + 1,sv,S,Q,rfl,A,hQ,M,on,lo,by omega,hsv,hgr⟩
   ·simp only [vms,vmc,vA,vB,reduceCtorEq,vC,vD]
    exact ⟨trivial,trivial,rfl⟩
 ·simp only [vms,vmc,vA,vB,reduceCtorEq,vC,vD]
  exact ⟨trivial,rfl,trivial,rfl⟩
end Go.Proofs.Ytagcnjhpdopkiaa
/- The law ArenaNew on the machine. -/
namespace Go.Proofs.Ytagcnjhpdopkiaa
open Go.Vm
open Go.Vm.AOpd renaming val → vA
open Nat renaming reduceEqDiff → vB,reduceAdd → vC,reduceBEq → vD
set_option linter.unusedSimpArgs false
set_option linter.unusedVariables false
variable {T : Vm.Prog} {h : AH}
noncomputable def outN (S : List Slot) (s g : Nat) (l : Bool) : Except Nat Nat:=match S[s]? with
 | none => .error 1
 | some x => if l≠(x.cls == 0) then .error 1 else if x.gen≠g then .error 4 else if x.live=false then .error 3 else .ok s
theorem OfIs.dec {S : List Slot} {ref : Int} {r : Except Nat Nat} (o : OfIs S ref r) : (∃ s g l,Valid s g∧ref=(refN s g l : Nat)∧r=outN S s g l)∨((∀ s g l,Valid s g→ref≠(refN s g l : Nat))∧r = .error 1):=by
 cases o with
 | none h => exact .inr ⟨h,rfl⟩
 | far s g l hv hr hs => exact .inl ⟨s,g,l,hv,hr,by simp [outN,List.getElem?_eq_none hs]⟩
 | odd s g l x hv hr hx hl => exact .inl ⟨s,g,l,hv,hr,by simp only [outN,hx]; rw [if_pos hl]⟩
 | gone s g x hv hr hx hg => exact .inl ⟨s,g,_,hv,hr,by simp only [outN,hx]; rw [if_neg (by simp),if_pos hg]⟩
 | free s g x hv hr hx hg hl => exact .inl ⟨s,g,_,hv,hr,by simp only [outN,hx]; rw [if_neg (by simp),if_neg (by simp [hg]),if_pos hl]⟩
 | good s x hv hr hx hl => exact .inl ⟨s,x.gen,_,hv,hr,by simp only [outN,hx]; rw [if_neg (by simp),if_neg (by simp),if_neg (by simp [hl])]⟩
end Go.Proofs.Ytagcnjhpdopkiaa
/- The law ArenaNew on the machine. -/
namespace Go.Proofs.Ytagcnjhpdopkiaa
open Go.Vm
open Go.Vm.AOpd renaming val → vA
open Nat renaming reduceEqDiff → vB,reduceAdd → vC,reduceBEq → vD
set_option linter.unusedSimpArgs false
set_option linter.unusedVariables false
variable {T : Vm.Prog} {h : AH}
theorem sum_rooms : ∀ (ns : List Nat) (Q : List PR),Q.length=ns.length→(∀ (j : Nat) (q : PR) (n : Nat),Q[j]?=some q→ns[j]?=some n→q.L.length=n)→sumL Q=ns.sum
 | [],[],_,_ => rfl
 | n :: ns,q :: Q,hl,hr => by
  have h1:=hr 0 q n rfl rfl
  have h2:=sum_rooms ns Q (by simpa using hl) fun j q n hq hn => hr (j + 1) q n (by simpa using hq) (by simpa using hn)
  unfold sumL at h2 ⊢
  simp only [List.map_cons,List.sum_cons,h1,h2]
theorem Made.all {ns : List Nat} {S : List Slot} {Q : List PR} (M : Made ns 5 0 S Q) (h5 : ns.length=5) (hQ : Q.length=5) : S.length=ns.sum∧sumL Q=ns.sum:=by
 constructor
 ·rw [M.len]; unfold pre; rw [List.take_of_length_le (by omega)]; rfl
 ·exact sum_rooms ns Q (by omega) fun j q n hq hn => M.room j q n hq hn (by have:=(List.getElem?_eq_some_iff.1 hq).1; omega)
end Go.Proofs.Ytagcnjhpdopkiaa
/- Arenas: Free. -/
namespace Go.Proofs.Ytagcnjhpdopkiaa
open Go.Vm
open Go.Vm.AOpd renaming val → vA
open Nat renaming reduceEqDiff → vB,reduceAdd → vC,reduceBEq → vD
set_option linter.unusedSimpArgs false
set_option linter.unusedVariables false
variable {T : Vm.Prog} {h : AH}
def Freed (h : AH) (a : Nat) (sv : AV) (S : List Slot) (Q : List PR) (n : Nat) (x : Slot) (q : PR) (h' : AH) : Prop :=
 ∃ w q',Arena h' a sv (S.set n ⟨x.cls,x.gen + 1,false,List.replicate (sizeN x.cls) poisonN,w⟩) (Q.set x.cls q')∧(∀ o∈objs w,h.next≤o) ∧
  (if x.gen + 1≤1073741824 then ∃ L',L'.Perm (((n : Nat) : Int) :: q.L)∧Repooled h Q x.cls q L' q' else q'=q)∧Only h h' (objs sv ++ q.foot)∧Low h'
theorem afree_ok (k : Fits T) {a : Nat} {sv : AV} {S : List Slot} {Q : List PR} (A : Arena h a sv S Q) (hl : Low h) (ref : Int) (hQ : Q.length=5) (hnot : ∀ (n : Nat) (x : Slot) (q : PR),S[n]?=some x→x.live=true→Q[x.cls]?=some q→((n : Nat) : Int)∉q.L) :
  Gives T 72 [.ptr a 0,.int .i64 ref] h fun r h' => (∃ e,OfIs S ref (.error e)∧r = .int .i64 (e : Int)∧h'=h) ∨
   (∃ n x q,OfIs S ref (.ok n)∧S[n]?=some x∧Q[x.cls]?=some q∧r = .int .i64 0∧Freed h a sv S Q n x q h'):=by
 refine gives_func (k.env _ (by decide)) (k.at (fn:=a72) rfl) rfl ?_
 simp only [a72,c72,vms,vmc,vA,vB,reduceCtorEq,vC,vD]
 refine Gives.bind ((of_ok k A ref).mono ?_)
 rintro _ _ ⟨rfl,res,hres,rfl⟩
 rename_i h
 cases res with
 | error e =>
  have he:=hres.err
  have d : (((e : Nat) : Int) != 0)=true:=by simp; omega
  simp only [ofV,vms,vmc,vA,vB,reduceCtorEq,vC,vD,d]
  exact .inl ⟨e,hres,rfl,trivial⟩
 | ok n =>
  obtain ⟨x,hx,hlive,hv,href⟩:=hres.slot
  obtain ⟨so,ho,hsp,l0,l1,l2,l3⟩:=slotPtr_at A hx
  obtain ⟨k1,k2,k3⟩:=A.kinds x (List.mem_of_getElem? hx)
  obtain ⟨q,hq⟩ : ∃ q,Q[x.cls]?=some q:=⟨_,List.getElem?_eq_getElem (by omega)⟩
  have hn:=(List.getElem?_eq_some_iff.1 hx).1
  have hqn:=hnot n x q hx hlive hq
  have nb : nilChkV (.ptr so (n * 4))=some (.ptr so (n * 4)):=rfl
  have fb : ∀ j,fieldAddrV j (.ptr so (n * 4))=some (.ptr so (n * 4 + j)):=fun j => rfl
  have nba : nilChkV (.ptr a 0)=some (.ptr a 0):=rfl
  have fba : fieldAddrV 1 (.ptr a 0)=some (.ptr a 1):=rfl
  have hsol : so < h.next:=(A.low hl).2.1 so (by rw [ho]; simp)
  simp only [ofV,vms,vmc,vA,vB,reduceCtorEq,vC,vD,show ((0 : Int) != 0)=false from rfl,hsp,nb,fb,Nat.add_zero,l0]
  refine Gives.bind ((poison_ok k k1 hl).mono ?_)
  rintro w h1 ⟨hw,hwf,on1,lo1⟩
  have A1:=A.grow hl on1
  obtain ⟨m1,m2,m3,m4⟩:=A.low hl
  have hwd : w.cells=[w]∧w.flat=true:=by obtain ⟨o,e,_⟩:=hw; rw [e]; exact ⟨rfl,rfl⟩
  have hwown : ∀ o∈objs w,o≠a∧o∉objs sv∧∀ q∈Q,o∉q.foot:=by
   intro o hoo
   have:=hwf o hoo
   exact ⟨by omega,fun e => by have:=m2 _ e; omega,fun q hq e => by have:=m3 q hq _ e; omega⟩
  obtain ⟨h2,st2,u2,A2⟩:=A1.setCell (j:=3) (y:=⟨x.cls,x.gen,x.live,List.replicate (sizeN x.cls) poisonN,w⟩) (v:=w) hx ho (by decide) hwd.1 hwd.2 rfl hw hwown ⟨k1,k2,by simp⟩
  have lo2:=lo1.upd u2 (by have:=on1.1; omega)
  have hx2 : (S.set n ⟨x.cls,x.gen,x.live,List.replicate (sizeN x.cls) poisonN,w⟩)[n]?=some ⟨x.cls,x.gen,x.live,List.replicate (sizeN x.cls) poisonN,w⟩:=by rw [List.getElem?_set,if_pos rfl,if_pos hn]
  obtain ⟨so2,ho2,_,_,g2,_,_⟩:=A2.slots.at hx2
  have e2 : so2=so:=by rw [ho] at ho2; simp only [List.cons.injEq,and_true] at ho2; exact ho2.symm
  rw [e2] at g2
  have w1 : IntKind.i64.wrap ((x.gen : Int) + 1)=((x.gen + 1 : Nat) : Int):=by
   have:=hv.2.2
   rw [wrap_i64 (by omega) (by omega)]; rfl
  have hw2 : Words h2 w (List.replicate (sizeN x.cls) poisonN):=A2.words _ (List.mem_of_getElem? hx2)
  obtain ⟨h3,st3,u3,A3⟩:=A2.setCell (j:=1) (y:=⟨x.cls,x.gen + 1,x.live,List.replicate (sizeN x.cls) poisonN,w⟩) (v := .int .i64 ((x.gen + 1 : Nat) : Int)) hx2 ho (by decide) rfl rfl rfl hw2 hwown ⟨k1,by have:=hv.2.2; show x.gen + 1 < _; omega,by simp⟩
  rw [List.set_set] at A3
  have hx3 : (S.set n ⟨x.cls,x.gen + 1,x.live,List.replicate (sizeN x.cls) poisonN,w⟩)[n]?=some ⟨x.cls,x.gen + 1,x.live,List.replicate (sizeN x.cls) poisonN,w⟩:=by rw [List.getElem?_set,if_pos rfl,if_pos hn]
  have hw3 : Words h3 w (List.replicate (sizeN x.cls) poisonN):=A3.words _ (List.mem_of_getElem? hx3)
  obtain ⟨h4,st4,u4,A4⟩:=A3.setCell (j:=2) (y:=⟨x.cls,x.gen + 1,false,List.replicate (sizeN x.cls) poisonN,w⟩) (v := .bool false) hx3 ho (by decide) rfl rfl rfl hw3 hwown ⟨k1,by have:=hv.2.2; show x.gen + 1 < _; omega,by simp⟩
  rw [List.set_set] at A4
  have hx4 : (S.set n ⟨x.cls,x.gen + 1,false,List.replicate (sizeN x.cls) poisonN,w⟩)[n]?=some ⟨x.cls,x.gen + 1,false,List.replicate (sizeN x.cls) poisonN,w⟩:=by rw [List.getElem?_set,if_pos rfl,if_pos hn]
  have u:=(u2.trans u3).trans u4
  have lo4 : Low h4:=lo1.upd u (by have:=on1.1; omega)
  have on4 : Only h h4 (objs sv):=⟨by rw [u.1]; exact on1.1,fun o h5 hF => by
   rw [u.2 o (fun e => hF (by rw [ho,e]; simp)),on1.2 o h5 (by simp)]⟩
  obtain ⟨so4,ho4,_,c4,g4,_,_⟩:=A4.slots.at hx4
  have e4 : so4=so:=by rw [ho] at ho4; simp only [List.cons.injEq,and_true] at ho4; exact ho4.symm
  rw [e4] at g4 c4
  have hex : ∀ {a b c d : AV},extractV 3 (.tuple [a,b,c,d])=some d:=rfl
  simp only [vms,vmc,vA,vB,reduceCtorEq,vC,vD,nb,fb,st2,g2,w1,st3,st4]
  refine Gives.bind ((parts_ok k ref).mono ?_)
  rintro _ _ ⟨rfl,⟨s,g,l,hv',hr',rfl⟩ | ⟨hno,_⟩⟩
  rotate_left
  ·exact absurd href (hno _ _ _ hv)
  rename_i h4
  obtain ⟨rfl,rfl,rfl⟩:=refN_inj hv hv' (Int.ofNat.inj (href.symm.trans hr'))
  have hset : Q.set x.cls q=Q:=by
   apply List.ext_getElem?
   intro i
   rw [List.getElem?_set]
   by_cases e : x.cls=i
   ·subst e; rw [if_pos rfl,if_pos (by omega),hq]
   ·rw [if_neg e]
  by_cases hg : x.gen + 1≤1073741824
  ·have d : decide (((x.gen + 1 : Nat) : Int)≤1073741824)=true:=by rw [decide_eq_true_eq]; omega
   have hpl:=A4.pool_load hq
   simp only [vms,vmc,vA,vB,reduceCtorEq,vC,vD,hex,nb,fb,g4,d,nba,fba,Nat.add_zero,c4,idxRow_nat k1,hpl]
   have hP:=A4.pools q (List.mem_of_getElem? hq)
   refine Gives.bind ((put_ok k (n:=((n : Nat) : Int)) hP lo4 (by have:=hP.count; omega)).mono ?_)
   rintro _ h5 (⟨hbad,_⟩ | ⟨_,rfl,L',hperm,hto⟩)
   ·exfalso
    have:=hv.1
    rcases hbad with h6 | h6 | h6
    ·omega
    ·omega
    ·exact hqn h6
   obtain ⟨q',hrep,A5,on5,lo5⟩:=A4.pool lo4 hq hto
   simp only [vms,vmc,vA,vB,reduceCtorEq,vC,vD]
   refine .inr ⟨n,x,q,hres,hx,hq,trivial,w,q',A5,fun o h6 => by have:=hwf o h6; omega,?_,?_,lo5⟩
   ·rw [if_pos hg]
    exact ⟨L',hperm,hrep.1,hrep.2.1,hrep.2.2.1,fun o h6 => by
     rcases hrep.2.2.2 o h6 with h7 | h7
     ·exact .inl h7
     ·right; have:=on4.1; omega⟩
   ·refine ⟨Nat.le_trans on4.1 on5.1,fun o h6 hF => ?_⟩
    simp only [List.mem_append,not_or] at hF
    rw [on5.2 o (by have:=on4.1; omega) hF.2,on4.2 o h6 hF.1]
  ·have d : decide (((x.gen + 1 : Nat) : Int)≤1073741824)=false:=by rw [decide_eq_false_iff_not]; omega
   simp only [vms,vmc,vA,vB,reduceCtorEq,vC,vD,hex,nb,fb,g4,d]
   refine .inr ⟨n,x,q,hres,hx,hq,trivial,w,q,by rw [hset]; exact A4,fun o h6 => by have:=hwf o h6; omega,by rw [if_neg hg],⟨on4.1,fun o h6 hF => on4.2 o h6 fun h7 => hF (by simp [h7])⟩,lo4⟩
end Go.Proofs.Ytagcnjhpdopkiaa
/- The law ArenaLeast on the machine: what stands beside an arena. -/
namespace Go.Proofs.Ytagcnjhpdopkiaa
open Go.Vm
open Go.Vm.AOpd renaming val → vA
open Nat renaming reduceEqDiff → vB,reduceAdd → vC,reduceBEq → vD
set_option linter.unusedSimpArgs false
set_option linter.unusedVariables false
variable {T : Vm.Prog} {h : AH}
def Out (a : Nat) (sv : AV) (S : List Slot) (Q : List PR) (o : Nat) : Prop:=o≠a∧o∉objs sv∧(∀ q∈Q,o∉q.foot)∧∀ s∈S,o∉objs s.wv
theorem Arena.off {h' : AH} {a : Nat} {sv : AV} {S : List Slot} {Q : List PR} (A : Arena h a sv S Q) (hl : Low h) {F : List Nat} (on : Only h h' F) (hF : ∀ o∈F,o < h.next→Out a sv S Q o) : Arena h' a sv S Q:=by
 obtain ⟨l1,l2,l3,l4⟩:=A.low hl
 exact A.keep (on.2 a l1 fun e => (hF a e l1).1 rfl) (fun o ho => on.2 o (l2 o ho) fun e => (hF o e (l2 o ho)).2.1 ho) (fun q hq o ho => on.2 o (l3 q hq o ho) fun e => (hF o e (l3 q hq o ho)).2.2.1 q hq ho) (fun s hs o ho => on.2 o (l4 s hs o ho) fun e => (hF o e (l4 s hs o ho)).2.2.2 s hs ho)
theorem Out.set {a : Nat} {sv : AV} {S : List Slot} {Q : List PR} {o n c : Nat} {x : Slot} {q q' : PR} (u : Out a sv S Q o) (hlt : o < h.next) (hx : ∀ p∈objs x.wv,h.next≤p) (hq : Q[c]?=some q) (hf : ∀ p∈q'.foot,p∈q.foot∨h.next≤p) : Out a sv (S.set n x) (Q.set c q') o:=by
 refine ⟨u.1,u.2.1,fun r hr => ?_,fun s hs => ?_⟩
 ·rcases List.mem_or_eq_of_mem_set hr with h1 | rfl
  ·exact u.2.2.1 r h1
  ·intro e
   rcases hf o e with h2 | h2
   ·exact u.2.2.1 q (List.mem_of_getElem? hq) h2
   ·omega
 ·rcases List.mem_or_eq_of_mem_set hs with h1 | rfl
  ·exact u.2.2.2 s h1
  ·intro e; have:=hx o e; omega
structure Least (S : List Slot) (Q : List PR) (n : Nat) (G : Nat→Nat) (live : Nat→Bool) : Prop where
 len : S.length=n
 slot : ∀ (j : Nat) (x : Slot),S[j]?=some x→x.cls=0∧x.gen=G j∧x.live=live j
 pool : ∀ q,Q[0]?=some q→∀ y : Int,y∈q.L↔∃ j : Nat,y=j∧j < n∧live j=false
 rest : ∀ (c : Nat) (q : PR),Q[c]?=some q→0 < c→q.L=[]
theorem Least.start {ns : List Nat} {n : Nat} {S : List Slot} {Q : List PR} (hns : ns=[n,0,0,0,0]) (M : Made ns 5 0 S Q) (hQ : Q.length=5) : Least S Q n (fun _ => 1) (fun _ => false):=by
 subst hns
 obtain ⟨m1,m2⟩:=M.all rfl hQ
 have hrest : ∀ (c : Nat) (q : PR),Q[c]?=some q→0 < c→q.L=[]:=by
  intro c q hq hc
  have hc5 : c < 5:=by have:=(List.getElem?_eq_some_iff.1 hq).1; omega
  have : c=1∨c=2∨c=3∨c=4:=by omega
  have h0 : q.L.length=0:=by
   rcases this with rfl | rfl | rfl | rfl <;> exact M.room _ q 0 hq rfl (by omega)
  exact List.eq_nil_of_length_eq_zero h0
 have hcls : ∀ (j : Nat) (x : Slot),S[j]?=some x→x.cls=0:=by
  intro j x hx
  obtain ⟨_,_,_,q,h1,h2⟩:=M.free.1 j x hx
  by_cases e : x.cls=0
  ·exact e
  ·rw [hrest _ q h1 (by omega)] at h2; simp at h2
 refine ⟨by rw [m1]; simp,fun j x hx => ⟨hcls j x hx,(M.free.1 j x hx).1,(M.free.1 j x hx).2.1⟩,fun q hq y => ⟨fun hy => ?_,?_⟩,hrest⟩
 ·obtain ⟨j,x,e1,e2,_⟩:=M.free.2 0 q hq y hy
  refine ⟨j,e1,?_,rfl⟩
  have:=(List.getElem?_eq_some_iff.1 e2).1
  rw [m1] at this; simpa using this
 ·rintro ⟨j,rfl,hj,_⟩
  obtain ⟨x,hx⟩ : ∃ x,S[j]?=some x:=⟨_,List.getElem?_eq_getElem (by rw [m1]; simpa using hj)⟩
  obtain ⟨_,_,_,q',h1,h2⟩:=M.free.1 j x hx
  rw [hcls j x hx,hq] at h1
  cases h1; exact h2
end Go.Proofs.Ytagcnjhpdopkiaa
/- Arenas,memory aside: what each call comes to. -/
namespace Go.Proofs.Ytagcnjhpdopkiaa
open Go.Vm
open Go.Vm.AOpd renaming val → vA
open Nat renaming reduceEqDiff → vB,reduceAdd → vC,reduceBEq → vD
set_option linter.unusedSimpArgs false
set_option linter.unusedVariables false
variable {T : Vm.Prog} {h : AH}
structure SlotP where
 cls : Nat
 gen : Nat
 live : Bool
 ws : List Nat
def Slot.pure (s : Slot) : SlotP:=⟨s.cls,s.gen,s.live,s.ws⟩
def isFree (c : Nat) (x : SlotP) : Bool:=x.cls == c && !x.live && decide (x.gen≤1073741824)
structure InvP (st : List SlotP) : Prop where
 small : st.length≤1024
 each : ∀ (n : Nat) (x : SlotP),st[n]?=some x→x.cls < 5∧1≤x.gen∧x.gen≤1073741825∧(x.live=true→x.gen≤1073741824)∧x.ws.length=sizeN x.cls
noncomputable def outP (st : List SlotP) (s g : Nat) (l : Bool) : Except Nat Nat:=match st[s]? with
 | none => .error 1
 | some x => if l≠(x.cls == 0) then .error 1 else if x.gen≠g then .error 4 else if x.live=false then .error 3 else .ok s
open Classical in
noncomputable def findP (st : List SlotP) (ref : Int) : Except Nat Nat :=
 if hv : ∃ p : Nat×Nat×Bool,Valid p.1 p.2.1∧ref=(refN p.1 p.2.1 p.2.2 : Nat) then outP st hv.choose.1 hv.choose.2.1 hv.choose.2.2 else .error 1
theorem findP_ref {st : List SlotP} {s g : Nat} {l : Bool} (hv : Valid s g) : findP st (refN s g l : Nat)=outP st s g l:=by
 have hx : ∃ p : Nat×Nat×Bool,Valid p.1 p.2.1∧((refN s g l : Nat) : Int)=(refN p.1 p.2.1 p.2.2 : Nat):=⟨(s,g,l),hv,rfl⟩
 unfold findP
 rw [dif_pos hx]
 have h3:=hx.choose_spec
 generalize hx.choose=p at h3
 obtain ⟨p1,p2,p3⟩:=p
 obtain ⟨e1,e2,e3⟩:=refN_inj h3.1 hv (Int.ofNat.inj h3.2.symm)
 subst e1 e2 e3
 rfl
theorem findP_none {st : List SlotP} {ref : Int} (hn : ∀ s g l,Valid s g→ref≠(refN s g l : Nat)) : findP st ref = .error 1:=by
 unfold findP
 rw [dif_neg]
 rintro ⟨⟨s,g,l⟩,hv,e⟩
 exact hn s g l hv e
theorem outN_pure {S : List Slot} {s g : Nat} {l : Bool} : outN S s g l=outP (S.map Slot.pure) s g l:=by
 unfold outN outP
 rw [List.getElem?_map]
 cases S[s]? <;> rfl
theorem OfIs.find {S : List Slot} {ref : Int} {res : Except Nat Nat} (o : OfIs S ref res) : res=findP (S.map Slot.pure) ref:=by
 rcases o.dec with ⟨s,g,l,hv,rfl,rfl⟩ | ⟨hn,rfl⟩
 ·rw [findP_ref hv,outN_pure]
 ·rw [findP_none hn]
def poisonP (c : Nat) : List Nat:=List.replicate (sizeN c) poisonN
def SlotP.fill (x : SlotP) (ws : List Nat) : SlotP:={ x with ws:=padW ws (sizeN x.cls) }
def allocP (st : List SlotP) (c : Nat) (ws : List Nat) : Int×Nat×List SlotP :=
 match st.findIdx? (isFree c) with
 | none => (0,2,st)
 | some n => match st[n]? with
  | none => (0,2,st)
  | some x => ((refN n x.gen (c == 0) : Nat),0,st.set n ⟨x.cls,x.gen,true,padW ws (sizeN c)⟩)
noncomputable def freeP (st : List SlotP) (ref : Int) : Nat×List SlotP :=
 match findP st ref with
 | .error e => (e,st)
 | .ok n => match st[n]? with
  | none => (1,st)
  | some x => (0,st.set n ⟨x.cls,x.gen + 1,false,poisonP x.cls⟩)
noncomputable def loadP (st : List SlotP) (ref : Int) : Nat×List Nat :=
 match findP st ref with
 | .error e => (e,[])
 | .ok n => match st[n]? with
  | none => (1,[])
  | some x => (0,x.ws)
noncomputable def storeP (st : List SlotP) (ref : Int) (ws : List Nat) : Nat×List SlotP :=
 match findP st ref with
 | .error e => (e,st)
 | .ok n => match st[n]? with
  | none => (1,st)
  | some x => if sizeN x.cls < ws.length then (1,st) else (0,st.set n (x.fill ws))
noncomputable def swapP (st : List SlotP) (ref : Int) (was : Int) (ws : List Nat) : Bool×Nat×List SlotP :=
 match findP st ref with
 | .error e => (false,e,st)
 | .ok n => match st[n]? with
  | none => (false,1,st)
  | some x => if sizeN x.cls < ws.length then (false,1,st) else if (((x.ws[0]?).getD 0 : Nat) : Int)≠was then (false,0,st) else (true,0,st.set n (x.fill ws))
def roomP (st : List SlotP) (c : Nat) : Nat:=st.countP (isFree c)
def liveP (st : List SlotP) : Int:=(st.length : Int) - ((roomP st 0 + roomP st 1 + roomP st 2 + roomP st 3 + roomP st 4 : Nat) : Int)
def ArR (a : Nat) (st : List SlotP) (F : Nat→Prop) (h : AH) : Prop:=∃ sv S Q,Arena h a sv S Q∧Q.length=5∧S.map Slot.pure=st∧InvP st ∧
 (∀ (c : Nat) (q : PR),Q[c]?=some q→∀ y : Int,y∈q.L↔∃ n x,y=((n : Nat) : Int)∧st[n]?=some x∧isFree c x=true)∧∀ o,F o↔¬ Out a sv S Q o
theorem not_out {a : Nat} {sv : AV} {S : List Slot} {Q : List PR} {o : Nat} : ¬ Out a sv S Q o↔o=a∨o∈objs sv∨(∃ q∈Q,o∈q.foot)∨∃ s∈S,o∈objs s.wv:=by
 constructor
 ·intro hn
  by_cases h1 : o=a
  ·exact .inl h1
  by_cases h2 : o∈objs sv
  ·exact .inr (.inl h2)
  by_cases h3 : ∃ q∈Q,o∈q.foot
  ·exact .inr (.inr (.inl h3))
  by_cases h4 : ∃ s∈S,o∈objs s.wv
  ·exact .inr (.inr (.inr h4))
  ·exact absurd ⟨h1,h2,fun q hq e => h3 ⟨q,hq,e⟩,fun s hs e => h4 ⟨s,hs,e⟩⟩ hn
 ·rintro hn ⟨h1,h2,h3,h4⟩
  rcases hn with e | e | ⟨q,hq,e⟩ | ⟨s,hs,e⟩
  ·exact h1 e
  ·exact h2 e
  ·exact h3 q hq e
  ·exact h4 s hs e
theorem ArR.res {a : Nat} {st : List SlotP} {F : Nat→Prop} (r : ArR a st F h) (hl : Low h) : Res (ArR a st F) F h:=by
 obtain ⟨sv,S,Q,A,hQ,hS,inv,hfr,hF⟩:=r
 obtain ⟨l1,l2,l3,l4⟩:=A.low hl
 refine ⟨fun o ho => ?_,fun h' hn hk => ⟨sv,S,Q,?_,hQ,hS,inv,hfr,hF⟩⟩
 ·rcases not_out.1 ((hF o).1 ho) with rfl | e | ⟨q,hq,e⟩ | ⟨s,hs,e⟩
  ·exact l1
  ·exact l2 o e
  ·exact l3 q hq o e
  ·exact l4 s hs o e
 ·exact A.keep (hk _ ((hF _).2 (not_out.2 (.inl rfl)))) (fun o ho => hk _ ((hF _).2 (not_out.2 (.inr (.inl ho))))) (fun q hq o ho => hk _ ((hF _).2 (not_out.2 (.inr (.inr (.inl ⟨q,hq,ho⟩)))))) (fun s hs o ho => hk _ ((hF _).2 (not_out.2 (.inr (.inr (.inr ⟨s,hs,ho⟩))))))
theorem pure_some {S : List Slot} {n : Nat} {x : Slot} (hx : S[n]?=some x) : (S.map Slot.pure)[n]?=some x.pure:=by rw [List.getElem?_map,hx]; rfl
theorem set_pure {S : List Slot} {n : Nat} {x : Slot} : (S.set n x).map Slot.pure=(S.map Slot.pure).set n x.pure:=by rw [List.map_set]
theorem InvP.set {st : List SlotP} (i : InvP st) {n : Nat} {x : SlotP} (hx : x.cls < 5∧1≤x.gen∧x.gen≤1073741825∧(x.live=true→x.gen≤1073741824)∧x.ws.length=sizeN x.cls) : InvP (st.set n x):=by
 refine ⟨by simpa using i.small,fun m y hy => ?_⟩
 rw [List.getElem?_set] at hy
 split at hy
 ·split at hy
  ·cases hy; exact hx
  ·cases hy
 ·exact i.each m y hy
theorem ar_load (k : Fits T) {a : Nat} {st : List SlotP} {F : Nat→Prop} (r : ArR a st F h) (hl : Low h) (ref : Int) :
  Gives T 69 [.ptr a 0,.int .i64 ref] h fun r h' => Quiet h h'∧Low h'∧∃ v,r = .tuple [v,.int .i64 ((loadP st ref).1 : Nat)]∧((v = .nilSlice∧(loadP st ref).2=[]∧h'=h)∨(Copy h' v (loadP st ref).2∧∀ o∈objs v,h.next≤o)):=by
 obtain ⟨sv,S,Q,A,hQ,rfl,inv,hfr,hF⟩:=r
 refine (aload_ok k A hl ref).mono ?_
 rintro _ h' (⟨e,he,rfl,rfl⟩ | ⟨n,x,v,hok,hx,rfl,cp,hv,on,lo⟩)
 ·have hf:=he.find
  refine ⟨Quiet.refl _,hl,.nilSlice,?_,.inl ⟨rfl,?_,rfl⟩⟩
  ·simp only [loadP,← hf]
  ·simp only [loadP,← hf]
 ·have hf:=hok.find
  have hp:=pure_some hx
  refine ⟨on.quiet,lo,v,?_,.inr ⟨?_,hv⟩⟩
  ·simp only [loadP,← hf,hp]; rfl
  ·simp only [loadP,← hf,hp]; exact cp
theorem ar_upd {a : Nat} {S : List Slot} {sv : AV} {Q : List PR} {F : Nat→Prop} {n : Nat} {x : Slot} {w : AV} {h' : AH} {ws : List Nat} (hx : S[n]?=some x) (hQ : Q.length=5) (inv : InvP (S.map Slot.pure))
  (hfr : ∀ (c : Nat) (q : PR),Q[c]?=some q→∀ y : Int,y∈q.L↔∃ n x,y=((n : Nat) : Int)∧(S.map Slot.pure)[n]?=some x∧isFree c x=true) (hF : ∀ o,F o↔¬ Out a sv S Q o)
  (A : Arena h' a sv (S.set n { x with ws:=ws,wv:=w }) Q) (hw : ∀ o∈objs w,h.next≤o) (on : Only h h' (objs sv)) (lo : Low h') (hlen : ws.length=sizeN x.cls) :
  ∃ F',ArR a ((S.map Slot.pure).set n ⟨x.cls,x.gen,x.live,ws⟩) F' h'∧Acts h F h' F':=by
 have hn:=(List.getElem?_eq_some_iff.1 hx).1
 obtain ⟨i1,i2,i3,i4,i5⟩:=inv.each n x.pure (pure_some hx)
 refine ⟨fun o => ¬ Out a sv (S.set n { x with ws:=ws,wv:=w }) Q o,⟨sv,_,Q,A,hQ,?_,inv.set ⟨i1,i2,i3,i4,hlen⟩,?_,fun o => Iff.rfl⟩,?_,?_,lo⟩
 ·rw [set_pure]; rfl
 ·intro c q hq y
  rw [hfr c q hq y]
  constructor
  ·rintro ⟨m,z,rfl,hz,hf⟩
   by_cases e : n=m
   ·subst e
    refine ⟨n,⟨x.cls,x.gen,x.live,ws⟩,rfl,by rw [List.getElem?_set,if_pos rfl,if_pos (by simpa using hn)],?_⟩
    rw [pure_some hx] at hz; cases hz; exact hf
   ·exact ⟨m,z,rfl,by rw [List.getElem?_set,if_neg e]; exact hz,hf⟩
  ·rintro ⟨m,z,rfl,hz,hf⟩
   by_cases e : n=m
   ·subst e
    rw [List.getElem?_set,if_pos rfl,if_pos (by simpa using hn)] at hz
    cases hz
    exact ⟨n,x.pure,rfl,pure_some hx,hf⟩
   ·rw [List.getElem?_set,if_neg e] at hz
    exact ⟨m,z,rfl,hz,hf⟩
 ·exact on.mods fun o ho => .inl ((hF o).2 (not_out.2 (.inr (.inl ho))))
 ·intro o ho
  rcases not_out.1 ho with rfl | e | ⟨q,hq,e⟩ | ⟨s,hs,e⟩
  ·exact .inl ((hF _).2 (not_out.2 (.inl rfl)))
  ·exact .inl ((hF _).2 (not_out.2 (.inr (.inl e))))
  ·exact .inl ((hF _).2 (not_out.2 (.inr (.inr (.inl ⟨q,hq,e⟩)))))
  ·rcases List.mem_or_eq_of_mem_set hs with h1 | rfl
   ·exact .inl ((hF _).2 (not_out.2 (.inr (.inr (.inr ⟨s,h1,e⟩)))))
   ·exact .inr (hw o e)
structure SrcB (h : AH) (F : Nat→Prop) (v : AV) (ws : List Nat) : Prop where
 src : Src h v ws
 out : ∀ o∈objs v,¬ F o∧o < h.next
 short : ws.length < 1000000
theorem SrcB.nil {F : Nat→Prop} : SrcB h F .nilSlice []:=⟨.inl ⟨rfl,rfl⟩,fun o ho => by simp [objs] at ho,by decide⟩
theorem ar_store (k : Fits T) {a : Nat} {st : List SlotP} {F : Nat→Prop} (r : ArR a st F h) (hl : Low h) (ref : Int) {v : AV} {ws : List Nat} (s : SrcB h F v ws) :
  Gives T 71 [.ptr a 0,.int .i64 ref,v] h fun r h' => r = .int .i64 ((storeP st ref ws).1 : Nat)∧∃ F',ArR a (storeP st ref ws).2 F' h'∧Acts h F h' F':=by
 have r0:=r
 obtain ⟨sv,S,Q,A,hQ,rfl,inv,hfr,hF⟩:=r
 refine (astore_ok k A hl ref s.src (fun o ho e => (s.out o ho).1 ((hF o).2 (not_out.2 (.inr (.inl e))))) (fun o ho => (s.out o ho).2) s.short).mono ?_
 rintro _ h' (⟨e,he,rfl,rfl⟩ | ⟨n,x,hok,hx,⟨hlt,rfl,rfl⟩ | ⟨hge,rfl,w,A',hw,on,lo⟩⟩)
 ·have hf:=he.find
  simp only [storeP,← hf]
  exact ⟨trivial,F,r0,Acts.refl hl⟩
 ·have hf:=hok.find
  have hp:=pure_some hx
  simp only [storeP,← hf,hp]
  rw [if_pos (show sizeN x.pure.cls < ws.length from hlt)]
  exact ⟨rfl,F,r0,Acts.refl hl⟩
 ·have hf:=hok.find
  have hp:=pure_some hx
  simp only [storeP,← hf,hp]
  rw [if_neg (show ¬ sizeN x.pure.cls < ws.length from by show ¬ sizeN x.cls < _; omega)]
  exact ⟨rfl,ar_upd hx hQ inv hfr hF A' hw on lo (padW_len hge)⟩
theorem ar_swap (k : Fits T) {a : Nat} {st : List SlotP} {F : Nat→Prop} (r : ArR a st F h) (hl : Low h) (ref : Int) {was : Int} {v : AV} {ws : List Nat} (s : SrcB h F v ws) :
  Gives T 70 [.ptr a 0,.int .i64 ref,.int .u64 was,v] h fun r h' => r = .tuple [.bool (swapP st ref was ws).1,.int .i64 ((swapP st ref was ws).2.1 : Nat)]∧∃ F',ArR a (swapP st ref was ws).2.2 F' h'∧Acts h F h' F':=by
 have r0:=r
 obtain ⟨sv,S,Q,A,hQ,rfl,inv,hfr,hF⟩:=r
 refine (aswap_ok k A hl ref (was:=was) s.src (fun o ho e => (s.out o ho).1 ((hF o).2 (not_out.2 (.inr (.inl e))))) (fun o ho => (s.out o ho).2) s.short).mono ?_
 rintro _ h' (⟨e,he,rfl,rfl⟩ | ⟨n,x,hok,hx,⟨hlt,rfl,rfl⟩ | ⟨hge,hne,rfl,rfl⟩ | ⟨hge,heq,rfl,w,A',hw,on,lo⟩⟩)
 ·have hf:=he.find
  simp only [swapP,← hf]
  exact ⟨trivial,F,r0,Acts.refl hl⟩
 ·have hf:=hok.find
  have hp:=pure_some hx
  simp only [swapP,← hf,hp]
  rw [if_pos (show sizeN x.pure.cls < ws.length from hlt)]
  exact ⟨rfl,F,r0,Acts.refl hl⟩
 ·have hf:=hok.find
  have hp:=pure_some hx
  simp only [swapP,← hf,hp]
  rw [if_neg (show ¬ sizeN x.pure.cls < ws.length from by show ¬ sizeN x.cls < _; omega),if_pos (show (((x.pure.ws[0]?).getD 0 : Nat) : Int)≠was from hne)]
  exact ⟨rfl,F,r0,Acts.refl hl⟩
 ·have hf:=hok.find
  have hp:=pure_some hx
  simp only [swapP,← hf,hp]
  rw [if_neg (show ¬ sizeN x.pure.cls < ws.length from by show ¬ sizeN x.cls < _; omega),if_neg (show ¬ (((x.pure.ws[0]?).getD 0 : Nat) : Int)≠was from fun e => e heq)]
  exact ⟨rfl,ar_upd hx hQ inv hfr hF A' hw on lo (padW_len hge)⟩
end Go.Proofs.Ytagcnjhpdopkiaa
/- Arenas,memory aside: slots are taken,given back,counted; a new one. -/
namespace Go.Proofs.Ytagcnjhpdopkiaa
open Go.Vm
open Go.Vm.AOpd renaming val → vA
open Nat renaming reduceEqDiff → vB,reduceAdd → vC,reduceBEq → vD
set_option linter.unusedSimpArgs false
set_option linter.unusedVariables false
variable {T : Vm.Prog} {h : AH}
theorem alloc_bad (k : Fits T) {a : Nat} {c : Int} {v : AV} {n : Nat} (hv : lenOfV v=some n) (hbad : c < 0∨5≤c∨sizeN c.toNat < n) :
  Gives T 29 [.ptr a 0,.int .i64 c,v] h fun r h' => r = .tuple [.int .i64 0,.int .i64 1]∧h'=h:=by
 refine gives_func (k.env _ (by decide)) (k.at (fn:=a29) rfl) rfl ?_
 by_cases h1 : c < 0
 ·have d1 : decide (c < 0)=true:=by simpa using h1
  simp only [a29,c29,vms,vmc,vA,vB,reduceCtorEq,vC,vD,d1]; exact ⟨trivial,trivial⟩
 ·have d1 : decide (c < 0)=false:=by simpa using h1
  by_cases h2 : 5≤c
  ·have d2 : decide (c ≥ 5)=true:=by rw [decide_eq_true_eq]; omega
   simp only [a29,c29,vms,vmc,vA,vB,reduceCtorEq,vC,vD,d1,d2]; exact ⟨trivial,trivial⟩
  ·have d2 : decide (c ≥ 5)=false:=by rw [decide_eq_false_iff_not]; omega
   obtain ⟨m,rfl⟩ : ∃ m : Nat,c=m:=⟨c.toNat,by omega⟩
   have h3 : sizeN m < n:=by rcases hbad with h3 | h3 | h3 <;> first | omega | exact h3
   have d3 : decide (((n : Nat) : Int) > ((sizeN m : Nat) : Int))=true:=by rw [decide_eq_true_eq]; omega
   simp only [a29,c29,vms,vmc,vA,vB,reduceCtorEq,vC,vD,d1,d2,hv]
   refine Gives.bind ((size_ok k (show m < 5 by omega)).mono ?_)
   rintro _ _ ⟨rfl,rfl⟩
   simp only [vms,vmc,vA,vB,reduceCtorEq,vC,vD,d3]; exact ⟨trivial,trivial⟩
theorem count_free {p : SlotP→Bool} : ∀ (n : Nat) (st : List SlotP) (L : List Int),st.length=n→L.Nodup→(∀ y,y∈L↔∃ (n : Nat) (x : SlotP),y=(n : Int)∧st[n]?=some x∧p x=true)→L.length=st.countP p
 | 0,st,L,hn,hd,hm => by
  have : st=[]:=List.eq_nil_of_length_eq_zero hn
  subst this
  cases L with
  | nil => rfl
  | cons y L => obtain ⟨n,x,_,hx,_⟩:=(hm y).1 (by simp); simp at hx
 | n + 1,st,L,hn,hd,hm => by
  rcases List.eq_nil_or_concat st with rfl | ⟨st,x,rfl⟩
  ·simp at hn
  rw [List.concat_eq_append] at *
  have hl : st.length=n:=by simpa using hn
  have hsub : ∀ (m : Nat) (z : SlotP),(st ++ [x])[m]?=some z↔st[m]?=some z∨(m=n∧z=x):=by
   intro m z
   by_cases e : m < st.length
   ·rw [List.getElem?_append_left e]
    constructor
    ·exact .inl
    ·rintro (h1 | ⟨h1,_⟩)
     ·exact h1
     ·omega
   ·rw [List.getElem?_append_right (by omega),List.getElem?_eq_none (show st.length≤m by omega)]
    by_cases e2 : m=n
    ·subst e2
     rw [hl,Nat.sub_self]
     simp [eq_comm]
    ·rw [List.getElem?_eq_none (by simp; omega)]
     simp [e2]
  have hno : ∀ (m : Nat) (z : SlotP),st[m]?=some z→(m : Int)≠(n : Int):=by
   intro m z hz; have:=(List.getElem?_eq_some_iff.1 hz).1; omega
  rw [List.countP_append]
  by_cases hx : p x=true
  ·have hin : (n : Int)∈L:=(hm _).2 ⟨n,x,rfl,(hsub n x).2 (.inr ⟨rfl,rfl⟩),hx⟩
   have ih:=count_free n st (L.erase (n : Int)) hl (hd.erase _) (fun y => by
    rw [hd.mem_erase_iff,hm y]
    constructor
    ·rintro ⟨hne,m,z,rfl,hz,hpz⟩
     rcases (hsub m z).1 hz with h1 | ⟨rfl,rfl⟩
     ·exact ⟨m,z,rfl,h1,hpz⟩
     ·exact absurd rfl hne
    ·rintro ⟨m,z,rfl,hz,hpz⟩
     exact ⟨hno m z hz,m,z,rfl,(hsub m z).2 (.inl hz),hpz⟩)
   have h4:=List.length_erase_of_mem hin
   have h5 : 0 < L.length:=List.length_pos_of_mem hin
   simp only [List.countP_cons,List.countP_nil,hx,if_true]
   omega
  ·have ih:=count_free n st L hl hd (fun y => by
    rw [hm y]
    constructor
    ·rintro ⟨m,z,rfl,hz,hpz⟩
     rcases (hsub m z).1 hz with h1 | ⟨rfl,rfl⟩
     ·exact ⟨m,z,rfl,h1,hpz⟩
     ·exact absurd hpz hx
    ·rintro ⟨m,z,rfl,hz,hpz⟩
     exact ⟨m,z,rfl,(hsub m z).2 (.inl hz),hpz⟩)
   simp only [List.countP_cons,List.countP_nil,hx]
   simpa using ih
theorem ArR.room {a : Nat} {st : List SlotP} {sv : AV} {S : List Slot} {Q : List PR} (A : Arena h a sv S Q)
  (hfr : ∀ (c : Nat) (q : PR),Q[c]?=some q→∀ y : Int,y∈q.L↔∃ n x,y=((n : Nat) : Int)∧st[n]?=some x∧isFree c x=true) {c : Nat} {q : PR} (hq : Q[c]?=some q) : q.L.length=roomP st c :=
 count_free _ st q.L rfl (A.pools q (List.mem_of_getElem? hq)).nodup (hfr c q hq)
theorem ar_room (k : Fits T) {a : Nat} {st : List SlotP} {F : Nat→Prop} (r : ArR a st F h) (c : Int) :
  Gives T 58 [.ptr a 0,.int .i64 c] h fun r h' => r = .int .i64 ((if 0≤c∧c < 5 then roomP st c.toNat else 0 : Nat) : Int)∧h'=h:=by
 obtain ⟨sv,S,Q,A,hQ,rfl,inv,hfr,hF⟩:=r
 by_cases hc : 0≤c∧c < 5
 ·obtain ⟨m,rfl⟩ : ∃ m : Nat,c=m:=⟨c.toNat,by omega⟩
  obtain ⟨q,hq⟩ : ∃ q,Q[m]?=some q:=⟨_,List.getElem?_eq_getElem (by omega)⟩
  rw [if_pos hc,Int.toNat_natCast,← ArR.room A hfr (c:=m) hq]
  exact room_ok k A hq
 ·rw [if_neg hc]
  exact room_no k (by omega)
theorem sumL_five {Q : List PR} {f : Nat→Nat} (h5 : Q.length=5) (hf : ∀ (c : Nat) (q : PR),Q[c]?=some q→q.L.length=f c) : sumL Q=f 0 + f 1 + f 2 + f 3 + f 4:=by
 match Q,h5 with
 | [q0,q1,q2,q3,q4],_ =>
  have e0:=hf 0 q0 rfl
  have e1:=hf 1 q1 rfl
  have e2:=hf 2 q2 rfl
  have e3:=hf 3 q3 rfl
  have e4:=hf 4 q4 rfl
  simp [sumL]
  omega
theorem ar_live (k : Fits T) {a : Nat} {st : List SlotP} {F : Nat→Prop} (r : ArR a st F h) :
  Gives T 40 [.ptr a 0] h fun r h' => r = .int .i64 (liveP st)∧h'=h:=by
 obtain ⟨sv,S,Q,A,hQ,rfl,inv,hfr,hF⟩:=r
 refine (live_ok k A hQ).mono ?_
 rintro _ _ ⟨rfl,rfl⟩
 refine ⟨?_,rfl⟩
 rw [sumL_five hQ (fun c q hq => ArR.room A hfr hq),liveP,List.length_map]
def allocI (st : List SlotP) (c : Int) (ws : List Nat) : Int×Nat×List SlotP :=
 if 0≤c∧c < 5∧ws.length≤sizeN c.toNat then allocP st c.toNat ws else (0,1,st)
theorem Out_mono {a c : Nat} {sv : AV} {S S' : List Slot} {Q : List PR} {q q' : PR} {o : Nat} {N : Nat} (hq : Q[c]?=some q) (hS : ∀ s∈S',s∈S∨∀ p∈objs s.wv,N≤p) (hf : ∀ p∈q'.foot,p∈q.foot∨N≤p) (ho : ¬ Out a sv S' (Q.set c q') o) : ¬ Out a sv S Q o∨N≤o:=by
 rcases not_out.1 ho with rfl | e | ⟨r,hr,e⟩ | ⟨s,hs,e⟩
 ·exact .inl (not_out.2 (.inl rfl))
 ·exact .inl (not_out.2 (.inr (.inl e)))
 ·rcases List.mem_or_eq_of_mem_set hr with h1 | rfl
  ·exact .inl (not_out.2 (.inr (.inr (.inl ⟨r,h1,e⟩))))
  ·rcases hf o e with h2 | h2
   ·exact .inl (not_out.2 (.inr (.inr (.inl ⟨q,List.mem_of_getElem? hq,h2⟩))))
   ·exact .inr h2
 ·rcases hS s hs with h1 | h1
  ·exact .inl (not_out.2 (.inr (.inr (.inr ⟨s,h1,e⟩))))
  ·exact .inr (h1 o e)
theorem isFree_iff {c : Nat} {x : SlotP} : isFree c x=true↔x.cls=c∧x.live=false∧x.gen≤1073741824:=by
 simp [isFree,and_assoc]
theorem ar_alloc (k : Fits T) {a : Nat} {st : List SlotP} {F : Nat→Prop} (r : ArR a st F h) (hl : Low h) (c : Int) {v : AV} {ws : List Nat} (s : SrcB h F v ws) :
  Gives T 29 [.ptr a 0,.int .i64 c,v] h fun r h' => r = .tuple [.int .i64 (allocI st c ws).1,.int .i64 ((allocI st c ws).2.1 : Nat)]∧∃ F',ArR a (allocI st c ws).2.2 F' h'∧Acts h F h' F':=by
 have r0:=r
 by_cases hc : 0≤c∧c < 5∧ws.length≤sizeN c.toNat
 rotate_left
 ·simp only [allocI,if_neg hc]
  refine (alloc_bad k s.src.len (by omega)).mono ?_
  rintro _ _ ⟨rfl,rfl⟩
  exact ⟨rfl,F,r,Acts.refl hl⟩
 simp only [allocI,if_pos hc]
 obtain ⟨m,rfl⟩ : ∃ m : Nat,c=m:=⟨c.toNat,by omega⟩
 rw [Int.toNat_natCast] at hc ⊢
 obtain ⟨sv,S,Q,A,hQ,rfl,inv,hfr,hF⟩:=r
 obtain ⟨q,hq⟩ : ∃ q,Q[m]?=some q:=⟨_,List.getElem?_eq_getElem (by omega)⟩
 have hqc : m < Q.length:=by omega
 have hqF : ∀ o∈q.foot,F o:=fun o ho => (hF o).2 (not_out.2 (.inr (.inr (.inl ⟨q,List.mem_of_getElem? hq,ho⟩))))
 have hsF : ∀ o∈objs sv,F o:=fun o ho => (hF o).2 (not_out.2 (.inr (.inl ho)))
 refine (alloc_ok k A hl (show m < 5 by omega) hq s.src (fun o ho => ⟨fun e => (s.out o ho).1 (hsF o e),fun e => (s.out o ho).1 (hqF o e)⟩) (fun o ho => (s.out o ho).2) hc.2.2 (fun y hy => by
  obtain ⟨n,x,rfl,hx,hf⟩:=(hfr m q hq y).1 hy
  obtain ⟨f1,f2,f3⟩:=isFree_iff.1 hf
  rw [List.getElem?_map,Option.map_eq_some_iff] at hx
  obtain ⟨x',hx',rfl⟩:=hx
  have hi:=inv.each n _ (pure_some hx')
  have hn:=(List.getElem?_eq_some_iff.1 hx').1
  have:=A.small
  exact ⟨n,x',rfl,hx',f1,by omega,hi.2.1,f3⟩)).mono ?_
 rintro _ h' ⟨hall,on,lo⟩
 have hmods : Mods h h' F:=on.mods fun o ho => by
  simp only [List.mem_append] at ho
  exact .inl (ho.elim (hsF o) (hqF o))
 rcases hall with ⟨hnil,rfl,q',⟨rp,rm,rL,rf⟩,A'⟩ | ⟨n,x,L',q',w,hx,hperm,hmin,rfl,⟨rp,rm,rL,rf⟩,A',hwf⟩
 ·have hnone : (S.map Slot.pure).findIdx? (isFree m)=none:=by
   rw [List.findIdx?_eq_none_iff]
   intro x hx
   obtain ⟨n,hn⟩:=List.getElem?_of_mem hx
   cases hf : isFree m x with
   | false => rfl
   | true =>
    have:=(hfr m q hq n).2 ⟨n,x,rfl,hn,hf⟩
    rw [hnil] at this; simp at this
  simp only [allocP,hnone]
  refine ⟨rfl,fun o => ¬ Out a sv S (Q.set m q') o,⟨sv,S,_,A',by simpa using hQ,rfl,inv,?_,fun o => Iff.rfl⟩,hmods,fun o ho => ?_,lo⟩
  ·intro c t ht y
   by_cases e : m=c
   ·subst e
    rw [List.getElem?_set,if_pos rfl,if_pos hqc] at ht
    cases ht
    rw [rL,← hnil]; exact hfr m q hq y
   ·rw [List.getElem?_set,if_neg e] at ht
    exact hfr c t ht y
  ·exact (Out_mono hq (fun s hs => .inl hs) rf ho).imp (hF o).2 id
 ·have hxp:=pure_some hx
  have hn:=(List.getElem?_eq_some_iff.1 hx).1
  have hnL : ((n : Nat) : Int)∈q.L:=hperm.mem_iff.1 (by simp)
  obtain ⟨n',x',e1,e2,e3⟩:=(hfr m q hq _).1 hnL
  have : n=n':=Int.ofNat.inj e1
  subst this
  rw [hxp] at e2; cases e2
  obtain ⟨f1,f2,f3⟩:=isFree_iff.1 e3
  have hfi : (S.map Slot.pure).findIdx? (isFree m)=some n:=by
   rw [List.findIdx?_eq_some_iff_getElem]
   refine ⟨by simpa using hn,?_,fun j hj => ?_⟩
   ·have:=List.getElem?_eq_getElem (l:=S.map Slot.pure) (i:=n) (by simpa using hn)
    rw [hxp] at this
    rw [← Option.some.inj this]; exact e3
   ·intro hfj
    have hjl : j < (S.map Slot.pure).length:=by simp; omega
    have:=hmin _ ((hfr m q hq j).2 ⟨j,_,rfl,List.getElem?_eq_getElem hjl,hfj⟩)
    omega
  simp only [allocP,hfi,hxp]
  have hnd : (((n : Nat) : Int) :: L').Nodup:=hperm.nodup_iff.2 (A.pools q (List.mem_of_getElem? hq)).nodup
  obtain ⟨i1,i2,i3,i4,i5⟩:=inv.each n _ hxp
  have hset : (S.set n { x with live:=true,ws:=padW ws (sizeN m),wv:=w }).map Slot.pure=(S.map Slot.pure).set n ⟨x.cls,x.gen,true,padW ws (sizeN m)⟩:=by rw [set_pure]; rfl
  refine ⟨rfl,fun o => ¬ Out a sv (S.set n { x with live:=true,ws:=padW ws (sizeN m),wv:=w }) (Q.set m q') o,⟨sv,_,_,A',by simpa using hQ,hset,inv.set ⟨i1,i2,i3,fun _ => f3,by
   show (padW ws (sizeN m)).length=sizeN x.cls
   rw [padW_len hc.2.2,← f1]; rfl⟩,?_,fun o => Iff.rfl⟩,hmods,fun o ho => ?_,lo⟩
  ·intro c t ht y
   have hnew : ∀ (j : Nat) (z : SlotP),((S.map Slot.pure).set n ⟨x.cls,x.gen,true,padW ws (sizeN m)⟩)[j]?=some z∧isFree c z=true↔(j≠n∧(S.map Slot.pure)[j]?=some z∧isFree c z=true):=by
    intro j z
    rw [List.getElem?_set]
    by_cases e : n=j
    ·subst e
     rw [if_pos rfl,if_pos (by simpa using hn)]
     constructor
     ·rintro ⟨h1,h2⟩
      cases h1
      simp [isFree] at h2
     ·rintro ⟨h1,_⟩; exact absurd rfl h1
    ·rw [if_neg e]
     exact ⟨fun h1 => ⟨Ne.symm e,h1⟩,fun h1 => h1.2⟩
   by_cases e : m=c
   ·subst e
    rw [List.getElem?_set,if_pos rfl,if_pos hqc] at ht
    cases ht
    rw [rL]
    constructor
    ·intro hy
     have hy2:=hperm.mem_iff.1 (List.mem_cons_of_mem _ hy)
     obtain ⟨j,z,rfl,hz,hf⟩:=(hfr m q hq y).1 hy2
     exact ⟨j,z,rfl,(hnew j z).2 ⟨fun e => by subst e; exact (List.nodup_cons.1 hnd).1 hy,hz,hf⟩⟩
    ·rintro ⟨j,z,rfl,hz⟩
     obtain ⟨h1,h2,h3⟩:=(hnew j z).1 hz
     have:=hperm.mem_iff.2 ((hfr m q hq _).2 ⟨j,z,rfl,h2,h3⟩)
     rcases List.mem_cons.1 this with h5 | h5
     ·exact absurd (Int.ofNat.inj h5) h1
     ·exact h5
   ·rw [List.getElem?_set,if_neg e] at ht
    rw [hfr c t ht y]
    constructor
    ·rintro ⟨j,z,rfl,hz,hf⟩
     refine ⟨j,z,rfl,(hnew j z).2 ⟨fun e2 => ?_,hz,hf⟩⟩
     subst e2
     rw [hxp] at hz; cases hz
     exact e (f1.symm.trans (isFree_iff.1 hf).1)
    ·rintro ⟨j,z,rfl,hz⟩
     obtain ⟨h1,h2,h3⟩:=(hnew j z).1 hz
     exact ⟨j,z,rfl,h2,h3⟩
  ·exact (Out_mono hq (fun s hs => (List.mem_or_eq_of_mem_set hs).imp id fun e => by rw [e]; exact hwf) rf ho).imp (hF o).2 id
theorem ar_free (k : Fits T) {a : Nat} {st : List SlotP} {F : Nat→Prop} (r : ArR a st F h) (hl : Low h) (ref : Int) :
  Gives T 72 [.ptr a 0,.int .i64 ref] h fun r h' => r = .int .i64 ((freeP st ref).1 : Nat)∧∃ F',ArR a (freeP st ref).2 F' h'∧Acts h F h' F':=by
 have r0:=r
 obtain ⟨sv,S,Q,A,hQ,rfl,inv,hfr,hF⟩:=r
 refine (afree_ok k A hl ref hQ (fun n x q hx hlv hq hin => by
  obtain ⟨j,z,e1,hz,hf⟩:=(hfr _ q hq _).1 hin
  have : n=j:=Int.ofNat.inj e1
  subst this
  rw [pure_some hx] at hz; cases hz
  have:=(isFree_iff.1 hf).2.1
  rw [show x.pure.live=x.live from rfl,hlv] at this
  cases this)).mono ?_
 rintro _ h' (⟨e,he,rfl,rfl⟩ | ⟨n,x,q,hok,hx,hq,rfl,w,q',A',hw,hpool,on,lo⟩)
 ·have hf:=he.find
  simp only [freeP,← hf]
  exact ⟨trivial,F,r0,Acts.refl hl⟩
 ·have hf:=hok.find
  have hxp:=pure_some hx
  obtain ⟨x',hx',hlive,hv,href⟩:=hok.slot
  rw [hx] at hx'; cases hx'
  simp only [freeP,← hf,hxp]
  have hn:=(List.getElem?_eq_some_iff.1 hx).1
  obtain ⟨i1,i2,i3,i4,i5⟩:=inv.each n _ hxp
  have hqF : ∀ o∈q.foot,F o:=fun o ho => (hF o).2 (not_out.2 (.inr (.inr (.inl ⟨q,List.mem_of_getElem? hq,ho⟩))))
  have hsF : ∀ o∈objs sv,F o:=fun o ho => (hF o).2 (not_out.2 (.inr (.inl ho)))
  have hqc : x.cls < Q.length:=(List.getElem?_eq_some_iff.1 hq).1
  have hset : (S.set n ⟨x.cls,x.gen + 1,false,List.replicate (sizeN x.cls) poisonN,w⟩).map Slot.pure=(S.map Slot.pure).set n ⟨x.cls,x.gen + 1,false,poisonP x.cls⟩:=by rw [set_pure]; rfl
  have rf : ∀ p∈q'.foot,p∈q.foot∨h.next≤p:=by
   split at hpool
   ·obtain ⟨L',_,_,_,_,hr⟩:=hpool; exact hr
   ·subst hpool; exact fun p hp => .inl hp
  refine ⟨rfl,fun o => ¬ Out a sv (S.set n ⟨x.cls,x.gen + 1,false,List.replicate (sizeN x.cls) poisonN,w⟩) (Q.set x.cls q') o,⟨sv,_,_,A',by simpa using hQ,hset,inv.set ⟨i1,by show 1≤x.gen + 1; omega,by have:=hv.2.2; show x.gen + 1≤_; omega,fun e => by (cases e),by simp [poisonP]⟩,?_,fun o => Iff.rfl⟩,?_,fun o ho => ?_,lo⟩
  ·intro c t ht y
   have hnew : ∀ (j : Nat) (z : SlotP),((S.map Slot.pure).set n ⟨x.cls,x.gen + 1,false,poisonP x.cls⟩)[j]?=some z∧isFree c z=true↔(j≠n∧(S.map Slot.pure)[j]?=some z∧isFree c z=true)∨(j=n∧z=⟨x.cls,x.gen + 1,false,poisonP x.cls⟩∧x.cls=c∧x.gen + 1≤1073741824):=by
    intro j z
    rw [List.getElem?_set]
    by_cases e : n=j
    ·subst e
     rw [if_pos rfl,if_pos (by simpa using hn)]
     constructor
     ·rintro ⟨h1,h2⟩
      cases h1
      obtain ⟨g1,_,g3⟩:=isFree_iff.1 h2
      exact .inr ⟨rfl,rfl,g1,g3⟩
     ·rintro (⟨h1,_⟩ | ⟨_,rfl,g1,g3⟩)
      ·exact absurd rfl h1
      ·exact ⟨rfl,isFree_iff.2 ⟨g1,rfl,g3⟩⟩
    ·rw [if_neg e]
     exact ⟨fun h1 => .inl ⟨Ne.symm e,h1⟩,fun h1 => h1.elim (fun h2 => h2.2) fun h2 => absurd h2.1.symm e⟩
   have hold : ∀ (j : Nat) (z : SlotP),(S.map Slot.pure)[j]?=some z→isFree c z=true→j≠n:=by
    rintro j z hz hf rfl
    rw [hxp] at hz; cases hz
    have:=(isFree_iff.1 hf).2.1
    rw [show x.pure.live=x.live from rfl,hlive] at this
    cases this
   by_cases e : x.cls=c
   ·subst e
    rw [List.getElem?_set,if_pos rfl,if_pos hqc] at ht
    cases ht
    by_cases hg : x.gen + 1≤1073741824
    ·rw [if_pos hg] at hpool
     obtain ⟨L',hperm,_,_,rL,_⟩:=hpool
     rw [rL,hperm.mem_iff,List.mem_cons,hfr _ q hq y]
     constructor
     ·rintro (rfl | ⟨j,z,rfl,hz,hf⟩)
      ·exact ⟨n,_,rfl,(hnew n _).2 (.inr ⟨rfl,rfl,rfl,hg⟩)⟩
      ·exact ⟨j,z,rfl,(hnew j z).2 (.inl ⟨hold j z hz hf,hz,hf⟩)⟩
     ·rintro ⟨j,z,rfl,hz⟩
      rcases (hnew j z).1 hz with ⟨_,h2,h3⟩ | ⟨rfl,_⟩
      ·exact .inr ⟨j,z,rfl,h2,h3⟩
      ·exact .inl rfl
    ·rw [if_neg hg] at hpool
     subst hpool
     rw [hfr _ q' hq y]
     constructor
     ·rintro ⟨j,z,rfl,hz,hf⟩
      exact ⟨j,z,rfl,(hnew j z).2 (.inl ⟨hold j z hz hf,hz,hf⟩)⟩
     ·rintro ⟨j,z,rfl,hz⟩
      rcases (hnew j z).1 hz with ⟨_,h2,h3⟩ | ⟨_,_,_,h4⟩
      ·exact ⟨j,z,rfl,h2,h3⟩
      ·exact absurd h4 hg
   ·rw [List.getElem?_set,if_neg e] at ht
    rw [hfr c t ht y]
    constructor
    ·rintro ⟨j,z,rfl,hz,hf⟩
     exact ⟨j,z,rfl,(hnew j z).2 (.inl ⟨hold j z hz hf,hz,hf⟩)⟩
    ·rintro ⟨j,z,rfl,hz⟩
     rcases (hnew j z).1 hz with ⟨_,h2,h3⟩ | ⟨_,_,h4,_⟩
     ·exact ⟨j,z,rfl,h2,h3⟩
     ·exact absurd h4 e
  ·exact on.mods fun o ho => by
    simp only [List.mem_append] at ho
    exact .inl (ho.elim (hsF o) (hqF o))
  ·exact (Out_mono hq (fun s hs => (List.mem_or_eq_of_mem_set hs).imp id fun e => by rw [e]; exact hw) rf ho).imp (hF o).2 id
def NewP (ns : List Nat) (st : List SlotP) : Prop:=(∀ (n : Nat) (x : SlotP),st[n]?=some x→x.gen=1∧x.live=false∧x.ws=poisonP x.cls∧x.cls < 5)∧st.length=ns.sum∧∀ (c n : Nat),ns[c]?=some n→roomP st c=n
end Go.Proofs.Ytagcnjhpdopkiaa

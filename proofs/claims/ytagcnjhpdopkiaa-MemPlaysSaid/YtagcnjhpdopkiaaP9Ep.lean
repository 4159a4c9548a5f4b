/- Epochs, clients, limbos: what they are in memory, what each call comes to. -/
import Derived.Test.YtagcnjhpdopkiaaP9ArB
import Derived.Test.YtagcnjhpdopkiaaVmZf
namespace Go.Proofs.Ytagcnjhpdopkiaa
open Go.Vm
open Go.Vm.AOpd renaming val → vA
open Nat renaming reduceEqDiff → vB,reduceAdd → vC,reduceBEq → vD
set_option linter.unusedSimpArgs false
set_option linter.unusedVariables false
variable {T : Vm.Prog} {h : AH}
structure ClP where
 pin : Int
 limbo : List (Int×Int)
structure EpP where
 now : Int
 room : Int
 cls : List ClP
def limC (l : List (Int×Int)) : List (List AV):=l.map fun q => [.int .i64 q.1,.int .i64 q.2]
def clC (K : List (ClP×AV)) : List (List AV):=K.map fun p => [.int .i64 p.1.pin,p.2]
structure EpI (ep : EpP) : Prop where
 now0 : 0≤ep.now
 now1 : ep.now≤1073741824
 room : 0≤ep.room∧ep.room≤64
 cls : ep.cls.length≤8
 limbo : ∀ c∈ep.cls,(c.limbo.length : Int)≤ep.room
 at' : ∀ c∈ep.cls,∀ q∈c.limbo,0≤q.2∧q.2≤1073741824
def EpF (e : Nat) (cv : AV) (K : List (ClP×AV)) (o : Nat) : Prop:=o=e∨o∈objs cv∨∃ p∈K,o∈objs p.2
structure EpK (h : AH) (e : Nat) (ep : EpP) (cv : AV) (K : List (ClP×AV)) : Prop where
 obj : h.get e=some (.cells [.int .i64 ep.now,.int .i64 ep.room,cv] true)
 cls : K.map (·.1)=ep.cls
 row : RowS h 2 cv (clC K)
 limbos : ∀ p∈K,RowS h 2 p.2 (limC p.1.limbo)
 e_cv : e∉objs cv
 own : ∀ p∈K,∀ o∈objs p.2,o≠e∧o∉objs cv
 apart : ∀ (i j : Nat) (p q : ClP×AV),i≠j→K[i]?=some p→K[j]?=some q→∀ o∈objs p.2,o∉objs q.2
 inv : EpI ep
def EpR (e : Nat) (ep : EpP) (F : Nat→Prop) (h : AH) : Prop:=∃ cv K,EpK h e ep cv K∧∀ o,F o↔EpF e cv K o
theorem EpK.low {e : Nat} {ep : EpP} {cv : AV} {K : List (ClP×AV)} (k : EpK h e ep cv K) (hl : Low h) : ∀ o,EpF e cv K o→o < h.next:=by
 rintro o (rfl | h1 | ⟨p,hp,h1⟩)
 ·exact hl _ _ k.obj
 ·exact k.row.low hl o h1
 ·exact (k.limbos p hp).low hl o h1
theorem EpK.keep {h' : AH} {e : Nat} {ep : EpP} {cv : AV} {K : List (ClP×AV)} (k : EpK h e ep cv K) (hk : ∀ o,EpF e cv K o→h'.get o=h.get o) : EpK h' e ep cv K where
 obj:=(hk e (.inl rfl)).trans k.obj
 cls:=k.cls
 row:=k.row.keep fun o ho => hk o (.inr (.inl ho))
 limbos:=fun p hp => (k.limbos p hp).keep fun o ho => hk o (.inr (.inr ⟨p,hp,ho⟩))
 e_cv:=k.e_cv
 own:=k.own
 apart:=k.apart
 inv:=k.inv
theorem EpR.res {e : Nat} {ep : EpP} {F : Nat→Prop} (r : EpR e ep F h) (hl : Low h) : Res (EpR e ep F) F h:=by
 obtain ⟨cv,K,k,hF⟩:=r
 exact ⟨fun o ho => k.low hl o ((hF o).1 ho),fun h' hn hk => ⟨cv,K,k.keep fun o ho => hk o ((hF o).2 ho),hF⟩⟩
theorem EpK.len {e : Nat} {ep : EpP} {cv : AV} {K : List (ClP×AV)} (k : EpK h e ep cv K) : lenOfV cv=some ep.cls.length:=by
 have:=k.row.len
 rw [this,← k.cls]; simp [clC]
theorem EpK.cv_load {e : Nat} {ep : EpP} {cv : AV} {K : List (ClP×AV)} (k : EpK h e ep cv K) : loadV h false 1 (.ptr e 2)=some cv:=load_at k.obj rfl
theorem EpK.now_load {e : Nat} {ep : EpP} {cv : AV} {K : List (ClP×AV)} (k : EpK h e ep cv K) : loadV h false 1 (.ptr e 0)=some (.int .i64 ep.now):=load_at k.obj rfl
theorem EpK.room_load {e : Nat} {ep : EpP} {cv : AV} {K : List (ClP×AV)} (k : EpK h e ep cv K) : loadV h false 1 (.ptr e 1)=some (.int .i64 ep.room):=load_at k.obj rfl
def clPtr (cv : AV) (n : Nat) : AV:=match cv with
 | .slice co _ _ _ _ _ => .ptr co (n * 2)
 | _ => .nilPtr
theorem EpK.at {e : Nat} {ep : EpP} {cv : AV} {K : List (ClP×AV)} (k : EpK h e ep cv K) {n : Nat} {p : ClP×AV} (hp : K[n]?=some p) : ∃ co,objs cv=[co]∧clPtr cv n = .ptr co (n * 2)∧idxAddrV 2 cv (.int .i64 (n : Int))=some (.ptr co (n * 2))∧loadV h false 1 (.ptr co (n * 2))=some (.int .i64 p.1.pin)∧loadV h false 1 (.ptr co (n * 2 + 1))=some p.2:=by
 have hx : (clC K)[n]?=some [.int .i64 p.1.pin,p.2]:=by simp [clC,hp]
 obtain ⟨co,h1,h2,h3,_⟩:=k.row.at hx
 refine ⟨co,h1,?_,h2,h3 0 _ rfl,h3 1 _ rfl⟩
 rcases k.row with ⟨rfl,_⟩ | ⟨o,cap,ex,l,rfl,_⟩
 ·simp [objs] at h1
 ·simp only [objs,List.cons.injEq,and_true] at h1; subst h1; rfl
theorem cls_at {e : Nat} {ep : EpP} {cv : AV} {K : List (ClP×AV)} (k : EpK h e ep cv K) {n : Nat} (hn : n < ep.cls.length) : ∃ p,K[n]?=some p∧ep.cls[n]?=some p.1:=by
 have hl : n < K.length:=by rw [← k.cls,List.length_map] at hn; exact hn
 refine ⟨K[n],List.getElem?_eq_getElem hl,?_⟩
 rw [← k.cls,List.getElem?_map,List.getElem?_eq_getElem hl]; rfl
theorem eof_ok (k : Fits T) {e : Nat} {ep : EpP} {cv : AV} {K : List (ClP×AV)} (E : EpK h e ep cv K) (c : Int) :
  Gives T 73 [.ptr e 0,.int .i64 c] h fun r h' => h'=h∧((∃ n : Nat,c=n∧n < ep.cls.length∧r=clPtr cv n)∨((c < 0∨(ep.cls.length : Int)≤c)∧r = .nilPtr)):=by
 refine gives_func (k.env _ (by decide)) (k.at (fn:=a73) rfl) rfl ?_
 have nc : nilChkV (.ptr e 0)=some (.ptr e 0):=rfl
 have fa : fieldAddrV 2 (.ptr e 0)=some (.ptr e 2):=rfl
 by_cases h1 : c < 0
 ·have d1 : decide (c < 0)=true:=by simpa using h1
  simp only [a73,c73,vms,vmc,vA,vB,reduceCtorEq,vC,vD,d1]; exact ⟨trivial,.inr ⟨.inl h1,trivial⟩⟩
 ·have d1 : decide (c < 0)=false:=by simpa using h1
  by_cases h2 : (ep.cls.length : Int)≤c
  ·have d2 : decide (c ≥ (ep.cls.length : Int))=true:=by simpa using h2
   simp only [a73,c73,vms,vmc,vA,vB,reduceCtorEq,vC,vD,d1,nc,fa,E.cv_load,E.len,d2]; exact ⟨trivial,.inr ⟨.inr h2,trivial⟩⟩
  ·have d2 : decide (c ≥ (ep.cls.length : Int))=false:=by simpa using h2
   obtain ⟨n,rfl⟩ : ∃ n : Nat,c=n:=⟨c.toNat,by omega⟩
   obtain ⟨p,hp,_⟩:=cls_at E (n:=n) (by omega)
   obtain ⟨co,_,e2,e3,_⟩:=E.at hp
   simp only [a73,c73,vms,vmc,vA,vB,reduceCtorEq,vC,vD,d1,nc,fa,E.cv_load,E.len,d2,e3]
   exact ⟨trivial,.inl ⟨n,rfl,by omega,e2.symm⟩⟩
theorem clPtr_chk {e : Nat} {ep : EpP} {cv : AV} {K : List (ClP×AV)} (E : EpK h e ep cv K) {n : Nat} (hn : n < ep.cls.length) : ∃ p co,K[n]?=some p∧ep.cls[n]?=some p.1∧objs cv=[co]∧clPtr cv n = .ptr co (n * 2)∧loadV h false 1 (.ptr co (n * 2))=some (.int .i64 p.1.pin)∧loadV h false 1 (.ptr co (n * 2 + 1))=some p.2:=by
 obtain ⟨p,hp,hc⟩:=cls_at E hn
 obtain ⟨co,h1,h2,h3,h4,h5⟩:=E.at hp
 exact ⟨p,co,hp,hc,h1,h2,h4,h5⟩
def isCl (ep : EpP) (c : Int) : Prop:=0≤c∧c < ep.cls.length
instance (ep : EpP) (c : Int) : Decidable (isCl ep c):=inferInstanceAs (Decidable (_∧_))
theorem EpK.setPin {e : Nat} {ep : EpP} {cv : AV} {K : List (ClP×AV)} (E : EpK h e ep cv K) {n : Nat} {p : ClP×AV} {co : Nat} (hp : K[n]?=some p) (hco : objs cv=[co]) (x : Int) :
  ∃ h',storeV h 1 (.ptr co (n * 2)) (.int .i64 x)=some h'∧Upd h h' co∧EpK h' e { ep with cls:=ep.cls.set n { p.1 with pin:=x } } cv (K.set n ({ p.1 with pin:=x },p.2)):=by
 have hx : (clC K)[n]?=some [.int .i64 p.1.pin,p.2]:=by simp [clC,hp]
 have hn:=(List.getElem?_eq_some_iff.1 hp).1
 obtain ⟨co',h1,h2,h3,h4⟩:=E.row.at hx
 rw [hco] at h1
 simp only [List.cons.injEq,and_true] at h1
 subst h1
 obtain ⟨h',st,u,r'⟩:=h4 0 (.int .i64 x) (by decide) rfl rfl
 have hmem : ∀ q∈K.set n ({ p.1 with pin:=x },p.2),∃ q0∈K,q.2=q0.2∧q.1.limbo=q0.1.limbo:=by
  intro q hq
  rcases List.mem_or_eq_of_mem_set hq with h5 | rfl
  ·exact ⟨q,h5,rfl,rfl⟩
  ·exact ⟨p,List.mem_of_getElem? hp,rfl,rfl⟩
 have hget : ∀ (i : Nat) (q : ClP×AV),(K.set n ({ p.1 with pin:=x },p.2))[i]?=some q→∃ q0,K[i]?=some q0∧q.2=q0.2:=by
  intro i q hq
  rw [List.getElem?_set] at hq
  by_cases e2 : n=i
  ·subst e2
   rw [if_pos rfl,if_pos hn] at hq
   cases hq
   exact ⟨p,hp,rfl⟩
  ·rw [if_neg e2] at hq
   exact ⟨q,hq,rfl⟩
 have hne : ∀ q∈K,∀ o∈objs q.2,o≠co:=fun q hq o ho e2 => (E.own q hq o ho).2 (by rw [hco,e2]; simp)
 have hcls : ∀ c∈ep.cls.set n { p.1 with pin:=x },∃ c0∈ep.cls,c.limbo=c0.limbo:=by
  intro c hc
  rcases List.mem_or_eq_of_mem_set hc with h5 | rfl
  ·exact ⟨c,h5,rfl⟩
  ·exact ⟨p.1,by rw [← E.cls]; exact List.mem_map_of_mem (List.mem_of_getElem? hp),rfl⟩
 refine ⟨h',st,u,⟨?_,?_,?_,?_,E.e_cv,?_,?_,⟨E.inv.now0,E.inv.now1,E.inv.room,by simpa using E.inv.cls,fun c hc => ?_,fun c hc => ?_⟩⟩⟩
 ·rw [u.2 e (fun e2 => E.e_cv (by rw [hco,e2]; simp))]; exact E.obj
 ·rw [List.map_set,E.cls]
 ·refine r'.same ?_
  simp [clC,List.map_set]
 ·intro q hq
  obtain ⟨q0,h5,h6,h7⟩:=hmem q hq
  rw [h6,h7]
  exact (E.limbos q0 h5).keep fun o ho => u.2 o (hne q0 h5 o ho)
 ·intro q hq
  obtain ⟨q0,h5,h6,_⟩:=hmem q hq
  rw [h6]; exact E.own q0 h5
 ·intro i j q r hij hi hj
  obtain ⟨q0,h5,h6⟩:=hget i q hi
  obtain ⟨r0,h7,h8⟩:=hget j r hj
  rw [h6,h8]
  exact E.apart i j q0 r0 hij h5 h7
 ·obtain ⟨c0,h5,h6⟩:=hcls c hc
  rw [h6]; exact E.inv.limbo c0 h5
 ·obtain ⟨c0,h5,h6⟩:=hcls c hc
  rw [h6]; exact E.inv.at' c0 h5
theorem EpK.setLimbo {e : Nat} {ep : EpP} {cv : AV} {K : List (ClP×AV)} (E : EpK h e ep cv K) {n : Nat} {p : ClP×AV} {co : Nat} (hp : K[n]?=some p) (hco : objs cv=[co]) {lv : AV} {l : List (Int×Int)} {h1 : AH} (hl : Low h) (lo1 : Low h1) (on : Mods h h1 (fun o => o∈objs p.2)) (r : RowS h1 2 lv (limC l)) (hn : ∀ o∈objs lv,o∈objs p.2∨h.next≤o)
  (h64 : (l.length : Int)≤ep.room) (hat : ∀ q∈l,0≤q.2∧q.2≤1073741824) :
  ∃ h',storeV h1 1 (.ptr co (n * 2 + 1)) lv=some h'∧EpK h' e { ep with cls:=ep.cls.set n { p.1 with limbo:=l } } cv (K.set n ({ p.1 with limbo:=l },lv))∧Mods h h' (fun o => o∈objs p.2∨o=co)∧Low h':=by
 have hx : (clC K)[n]?=some [.int .i64 p.1.pin,p.2]:=by simp [clC,hp]
 have hnK:=(List.getElem?_eq_some_iff.1 hp).1
 have hpK:=List.mem_of_getElem? hp
 have hcol : co < h.next:=E.row.low hl co (by rw [hco]; simp)
 have hco1 : ∀ o∈objs cv,h1.get o=h.get o:=fun o ho => on.2 o (E.row.low hl o ho) fun h5 => (E.own p hpK o h5).2 ho
 have row1:=E.row.keep hco1
 obtain ⟨co',e1,h2,h3,h4⟩:=row1.at hx
 rw [hco] at e1
 simp only [List.cons.injEq,and_true] at e1
 subst e1
 obtain ⟨lc1,lc2,_⟩:=r.cell
 obtain ⟨h',st,u,r'⟩:=h4 1 lv (by decide) lc1 lc2
 have hlv : ∀ o∈objs lv,o≠co∧o≠e∧o∉objs cv:=by
  intro o ho
  rcases hn o ho with h5 | h5
  ·obtain ⟨g1,g2⟩:=E.own p hpK o h5
   exact ⟨fun e2 => g2 (by rw [hco,e2]; simp),g1,g2⟩
  ·have:=hl _ _ E.obj
   exact ⟨by omega,by omega,fun h6 => by have:=E.row.low hl o h6; omega⟩
 have hget : ∀ (i : Nat) (q : ClP×AV),(K.set n ({ p.1 with limbo:=l },lv))[i]?=some q→(i=n∧q=({ p.1 with limbo:=l },lv))∨(i≠n∧K[i]?=some q):=by
  intro i q hq
  rw [List.getElem?_set] at hq
  by_cases e2 : n=i
  ·subst e2
   rw [if_pos rfl,if_pos hnK] at hq
   cases hq
   exact .inl ⟨rfl,rfl⟩
  ·rw [if_neg e2] at hq
   exact .inr ⟨Ne.symm e2,hq⟩
 have hoth : ∀ (i : Nat) (q : ClP×AV),i≠n→K[i]?=some q→∀ o∈objs q.2,o∉objs lv:=by
  intro i q hi hq o ho h5
  rcases hn o h5 with h6 | h6
  ·exact E.apart i n q p hi hq hp o ho h6
  ·have:=(E.limbos q (List.mem_of_getElem? hq)).low hl o ho; omega
 have hcls : ∀ c∈ep.cls.set n { p.1 with limbo:=l },c∈ep.cls∨c={ p.1 with limbo:=l }:=fun c hc => List.mem_or_eq_of_mem_set hc
 refine ⟨h',st,⟨?_,?_,?_,?_,E.e_cv,?_,?_,⟨E.inv.now0,E.inv.now1,E.inv.room,by simpa using E.inv.cls,fun c hc => ?_,fun c hc => ?_⟩⟩,?_,lo1.upd u (by have:=on.1; omega)⟩
 ·rw [u.2 e (fun e2 => E.e_cv (by rw [hco,e2]; simp)),on.2 e (hl _ _ E.obj) fun h5 => (E.own p hpK e h5).1 rfl]; exact E.obj
 ·rw [List.map_set,E.cls]
 ·refine r'.same ?_
  simp [clC,List.map_set]
 ·intro q hq
  obtain ⟨i,hi⟩:=List.getElem?_of_mem hq
  rcases hget i q hi with ⟨_,rfl⟩ | ⟨h5,h6⟩
  ·exact r.keep fun o ho => u.2 o (hlv o ho).1
  ·have hqK:=List.mem_of_getElem? h6
   exact (E.limbos q hqK).keep fun o ho => by
    rw [u.2 o (fun e2 => (E.own q hqK o ho).2 (by rw [hco,e2]; simp)),on.2 o ((E.limbos q hqK).low hl o ho) (E.apart i n q p h5 h6 hp o ho)]
 ·intro q hq
  obtain ⟨i,hi⟩:=List.getElem?_of_mem hq
  rcases hget i q hi with ⟨_,rfl⟩ | ⟨h5,h6⟩
  ·exact fun o ho => ⟨(hlv o ho).2.1,(hlv o ho).2.2⟩
  ·exact E.own q (List.mem_of_getElem? h6)
 ·intro i j q r2 hij hi hj
  rcases hget i q hi with ⟨rfl,rfl⟩ | ⟨h5,h6⟩
  ·rcases hget j r2 hj with ⟨rfl,rfl⟩ | ⟨h7,h8⟩
   ·exact absurd rfl hij
   ·exact fun o ho h9 => hoth j r2 h7 h8 o h9 ho
  ·rcases hget j r2 hj with ⟨rfl,rfl⟩ | ⟨h7,h8⟩
   ·exact hoth i q h5 h6
   ·exact E.apart i j q r2 hij h6 h8
 ·rcases hcls c hc with h5 | rfl
  ·exact E.inv.limbo c h5
  ·exact h64
 ·rcases hcls c hc with h5 | rfl
  ·exact E.inv.at' c h5
  ·exact hat
 ·refine ⟨by rw [u.1]; exact on.1,fun o ho hF => ?_⟩
  rw [u.2 o (fun e2 => hF (.inr e2)),on.2 o ho fun h5 => hF (.inl h5)]
end Go.Proofs.Ytagcnjhpdopkiaa
/- Epochs: each call on the machine. -/
namespace Go.Proofs.Ytagcnjhpdopkiaa
open Go.Vm
open Go.Vm.AOpd renaming val → vA
open Nat renaming reduceEqDiff → vB,reduceAdd → vC,reduceBEq → vD
set_option linter.unusedSimpArgs false
set_option linter.unusedVariables false
variable {T : Vm.Prog} {h : AH}
def EpP.cl (ep : EpP) (c : Int) : Option ClP:=if 0≤c then ep.cls[c.toNat]? else none
def EpP.setCl (ep : EpP) (c : Int) (x : ClP) : EpP:={ ep with cls:=ep.cls.set c.toNat x }
theorem cl_nat {ep : EpP} {n : Nat} : ep.cl (n : Int)=ep.cls[n]?:=by simp [EpP.cl]
theorem cl_out {ep : EpP} {c : Int} (h : c < 0∨(ep.cls.length : Int)≤c) : ep.cl c=none:=by
 unfold EpP.cl
 split
 ·exact List.getElem?_eq_none (by omega)
 ·rfl
def IsRef (ref : Int) : Prop:=∃ s g l,Valid s g∧ref=(refN s g l : Nat)
def pinE (ep : EpP) (c n : Int) : Bool×EpP:=match ep.cl c with
 | none => (false,ep)
 | some x => if n < 0∨ep.now < n then (false,ep) else (true,ep.setCl c { x with pin:=n })
def unpinE (ep : EpP) (c : Int) : Bool×EpP:=match ep.cl c with
 | none => (false,ep)
 | some x => (true,ep.setCl c { x with pin := -1 })
def pinOfE (ep : EpP) (c : Int) : Int:=match ep.cl c with
 | none => -1
 | some x => x.pin
def limboE (ep : EpP) (c : Int) : Nat:=match ep.cl c with
 | none => 0
 | some x => x.limbo.length
def advE (ep : EpP) (n : Int) : Bool×EpP:=if ep.now≠n∨1073741824≤ep.now then (false,ep) else (true,{ ep with now:=ep.now + 1 })
open Classical in
noncomputable def retireE (ep : EpP) (c ref : Int) : Nat×EpP:=match ep.cl c with
 | none => (1,ep)
 | some x => if ¬ IsRef ref then (1,ep) else if ep.room≤x.limbo.length then (2,ep) else (0,ep.setCl c { x with limbo:=x.limbo ++ [(ref,ep.now)] })
def collectE (ep : EpP) (c : Int) : Int×Bool×EpP:=match ep.cl c with
 | none => (0,false,ep)
 | some x => match x.limbo with
  | [] => (0,false,ep)
  | q :: r => if ep.now - q.2 < 2 then (0,false,ep) else (q.1,true,ep.setCl c { x with limbo:=r })
theorem EpF_set {e n : Nat} {cv : AV} {K : List (ClP×AV)} {p : ClP×AV} {x : ClP} {lv : AV} {N o : Nat} (hp : K[n]?=some p) (hn : ∀ o∈objs lv,o∈objs p.2∨N≤o) (ho : EpF e cv (K.set n (x,lv)) o) : EpF e cv K o∨N≤o:=by
 rcases ho with rfl | h1 | ⟨q,hq,h1⟩
 ·exact .inl (.inl rfl)
 ·exact .inl (.inr (.inl h1))
 ·rcases List.mem_or_eq_of_mem_set hq with h2 | rfl
  ·exact .inl (.inr (.inr ⟨q,h2,h1⟩))
  ·rcases hn o h1 with h3 | h3
   ·exact .inl (.inr (.inr ⟨p,List.mem_of_getElem? hp,h3⟩))
   ·exact .inr h3
theorem setPin_res {e : Nat} {ep : EpP} {cv : AV} {K : List (ClP×AV)} {F : Nat→Prop} (E : EpK h e ep cv K) (hF : ∀ o,F o↔EpF e cv K o) (hl : Low h) {n : Nat} {p : ClP×AV} {co : Nat} (hp : K[n]?=some p) (hco : objs cv=[co]) (x : Int) :
  ∃ h',storeV h 1 (.ptr co (n * 2)) (.int .i64 x)=some h'∧∃ F',EpR e (ep.setCl (n : Int) { p.1 with pin:=x }) F' h'∧Acts h F h' F':=by
 obtain ⟨h',st,u,E'⟩:=E.setPin hp hco x
 refine ⟨h',st,EpF e cv _,⟨cv,_,E',fun o => Iff.rfl⟩,⟨by rw [u.1]; exact Nat.le_refl _,fun o ho hn => u.2 o fun e2 => hn ((hF o).2 (.inr (.inl (by rw [hco,e2]; simp))))⟩,fun o ho => ?_,hl.upd u (E.row.low hl co (by rw [hco]; simp))⟩
 exact (EpF_set (x:={ p.1 with pin:=x }) (lv:=p.2) (N:=h.next) hp (fun o ho => .inl ho) ho).imp (hF o).2 id
theorem setLimbo_res {e : Nat} {ep : EpP} {cv : AV} {K : List (ClP×AV)} {F : Nat→Prop} (E : EpK h e ep cv K) (hF : ∀ o,F o↔EpF e cv K o) (hl : Low h) {n : Nat} {p : ClP×AV} {co : Nat} (hp : K[n]?=some p) (hco : objs cv=[co]) {lv : AV} {l : List (Int×Int)} {h1 : AH} (lo1 : Low h1) (on : Mods h h1 (fun o => o∈objs p.2)) (r : RowS h1 2 lv (limC l)) (hn : ∀ o∈objs lv,o∈objs p.2∨h.next≤o)
  (h64 : (l.length : Int)≤ep.room) (hat : ∀ q∈l,0≤q.2∧q.2≤1073741824) :
  ∃ h',storeV h1 1 (.ptr co (n * 2 + 1)) lv=some h'∧∃ F',EpR e (ep.setCl (n : Int) { p.1 with limbo:=l }) F' h'∧Acts h F h' F':=by
 obtain ⟨h',st,E',m,lo⟩:=E.setLimbo hp hco hl lo1 on r hn h64 hat
 refine ⟨h',st,EpF e cv _,⟨cv,_,E',fun o => Iff.rfl⟩,m.mono fun o ho => .inl ((hF o).2 ?_),fun o ho => ?_,lo⟩
 ·rcases ho with h5 | rfl
  ·exact .inr (.inr ⟨p,List.mem_of_getElem? hp,h5⟩)
  ·exact .inr (.inl (by rw [hco]; simp))
 ·exact (EpF_set (x:={ p.1 with limbo:=l }) (lv:=lv) (N:=h.next) hp hn ho).imp (hF o).2 id
theorem nil_eq (o i : Nat) : eqNilV 0 (.ptr o i) .nilPtr=some false:=rfl
theorem nil_eq2 : eqNilV 0 .nilPtr .nilPtr=some true:=rfl
theorem ep_pin (k : Fits T) {e : Nat} {ep : EpP} {F : Nat→Prop} (r : EpR e ep F h) (hl : Low h) (c n : Int) :
  Gives T 34 [.ptr e 0,.int .i64 c,.int .i64 n] h fun r h' => r = .bool (pinE ep c n).1∧∃ F',EpR e (pinE ep c n).2 F' h'∧Acts h F h' F':=by
 have r0:=r
 obtain ⟨cv,K,E,hF⟩:=r
 refine gives_func (k.env _ (by decide)) (k.at (fn:=a34) rfl) rfl ?_
 have nc : nilChkV (.ptr e 0)=some (.ptr e 0):=rfl
 have fa : fieldAddrV 0 (.ptr e 0)=some (.ptr e 0):=rfl
 simp only [a34,c34,vms,vmc,vA,vB,reduceCtorEq,vC,vD]
 refine Gives.bind ((eof_ok k E c).mono ?_)
 rintro _ _ ⟨rfl,⟨m,rfl,hm,rfl⟩ | ⟨hno,rfl⟩⟩
 ·rename_i h
  obtain ⟨p,co,hp,hc,hco,e1,e2,e3⟩:=clPtr_chk E hm
  have nb : nilChkV (.ptr co (m * 2))=some (.ptr co (m * 2)):=rfl
  have fb : fieldAddrV 0 (.ptr co (m * 2))=some (.ptr co (m * 2)):=rfl
  simp only [vms,vmc,vA,vB,reduceCtorEq,vC,vD,e1,nil_eq,pinE,cl_nat,hc]
  by_cases h1 : n < 0
  ·have d1 : decide (n < 0)=true:=by simpa using h1
   simp only [vms,vmc,vA,vB,reduceCtorEq,vC,vD,d1,if_pos (show n < 0∨ep.now < n from .inl h1)]
   exact ⟨trivial,F,r0,Acts.refl hl⟩
  ·have d1 : decide (n < 0)=false:=by simpa using h1
   by_cases h2 : ep.now < n
   ·have d2 : decide (n > ep.now)=true:=by simpa using h2
    simp only [vms,vmc,vA,vB,reduceCtorEq,vC,vD,d1,nc,fa,E.now_load,d2,if_pos (show n < 0∨ep.now < n from .inr h2)]
    exact ⟨trivial,F,r0,Acts.refl hl⟩
   ·have d2 : decide (n > ep.now)=false:=by simpa using h2
    obtain ⟨h',st,F',R',act⟩:=setPin_res E hF hl hp hco n
    simp only [vms,vmc,vA,vB,reduceCtorEq,vC,vD,d1,nc,fa,E.now_load,d2,if_neg (show ¬ (n < 0∨ep.now < n) by omega),nb,fb,st]
    exact ⟨trivial,F',R',act⟩
 ·simp only [vms,vmc,vA,vB,reduceCtorEq,vC,vD,nil_eq2,pinE,cl_out hno]
  exact ⟨trivial,F,r0,Acts.refl hl⟩
theorem ep_unpin (k : Fits T) {e : Nat} {ep : EpP} {F : Nat→Prop} (r : EpR e ep F h) (hl : Low h) (c : Int) :
  Gives T 35 [.ptr e 0,.int .i64 c] h fun r h' => r = .bool (unpinE ep c).1∧∃ F',EpR e (unpinE ep c).2 F' h'∧Acts h F h' F':=by
 have r0:=r
 obtain ⟨cv,K,E,hF⟩:=r
 refine gives_func (k.env _ (by decide)) (k.at (fn:=a35) rfl) rfl ?_
 simp only [a35,c35,vms,vmc,vA,vB,reduceCtorEq,vC,vD]
 refine Gives.bind ((eof_ok k E c).mono ?_)
 rintro _ _ ⟨rfl,⟨m,rfl,hm,rfl⟩ | ⟨hno,rfl⟩⟩
 ·rename_i h
  obtain ⟨p,co,hp,hc,hco,e1,e2,e3⟩:=clPtr_chk E hm
  have nb : nilChkV (.ptr co (m * 2))=some (.ptr co (m * 2)):=rfl
  have fb : fieldAddrV 0 (.ptr co (m * 2))=some (.ptr co (m * 2)):=rfl
  obtain ⟨h',st,F',R',act⟩:=setPin_res E hF hl hp hco (-1)
  simp only [vms,vmc,vA,vB,reduceCtorEq,vC,vD,e1,nil_eq,unpinE,cl_nat,hc,nb,fb,st]
  exact ⟨trivial,F',R',act⟩
 ·simp only [vms,vmc,vA,vB,reduceCtorEq,vC,vD,nil_eq2,unpinE,cl_out hno]
  exact ⟨trivial,F,r0,Acts.refl hl⟩
theorem ep_pinOf (k : Fits T) {e : Nat} {ep : EpP} {F : Nat→Prop} (r : EpR e ep F h) (c : Int) :
  Gives T 36 [.ptr e 0,.int .i64 c] h fun r h' => r = .int .i64 (pinOfE ep c)∧h'=h:=by
 obtain ⟨cv,K,E,hF⟩:=r
 refine gives_func (k.env _ (by decide)) (k.at (fn:=a36) rfl) rfl ?_
 simp only [a36,c36,vms,vmc,vA,vB,reduceCtorEq,vC,vD]
 refine Gives.bind ((eof_ok k E c).mono ?_)
 rintro _ _ ⟨rfl,⟨m,rfl,hm,rfl⟩ | ⟨hno,rfl⟩⟩
 ·rename_i h
  obtain ⟨p,co,hp,hc,hco,e1,e2,e3⟩:=clPtr_chk E hm
  have nb : nilChkV (.ptr co (m * 2))=some (.ptr co (m * 2)):=rfl
  have fb : fieldAddrV 0 (.ptr co (m * 2))=some (.ptr co (m * 2)):=rfl
  simp only [vms,vmc,vA,vB,reduceCtorEq,vC,vD,e1,nil_eq,pinOfE,cl_nat,hc,nb,fb,e2]
  exact ⟨trivial,trivial⟩
 ·simp only [vms,vmc,vA,vB,reduceCtorEq,vC,vD,nil_eq2,pinOfE,cl_out hno]
  exact ⟨trivial,trivial⟩
theorem ep_limbo (k : Fits T) {e : Nat} {ep : EpP} {F : Nat→Prop} (r : EpR e ep F h) (c : Int) :
  Gives T 45 [.ptr e 0,.int .i64 c] h fun r h' => r = .int .i64 ((limboE ep c : Nat) : Int)∧h'=h:=by
 obtain ⟨cv,K,E,hF⟩:=r
 refine gives_func (k.env _ (by decide)) (k.at (fn:=a45) rfl) rfl ?_
 simp only [a45,c45,vms,vmc,vA,vB,reduceCtorEq,vC,vD]
 refine Gives.bind ((eof_ok k E c).mono ?_)
 rintro _ _ ⟨rfl,⟨m,rfl,hm,rfl⟩ | ⟨hno,rfl⟩⟩
 ·rename_i h
  obtain ⟨p,co,hp,hc,hco,e1,e2,e3⟩:=clPtr_chk E hm
  have nb : nilChkV (.ptr co (m * 2))=some (.ptr co (m * 2)):=rfl
  have fb : fieldAddrV 1 (.ptr co (m * 2))=some (.ptr co (m * 2 + 1)):=rfl
  have hlen : lenOfV p.2=some p.1.limbo.length:=by
   rw [(E.limbos p (List.mem_of_getElem? hp)).len]; simp [limC]
  simp only [vms,vmc,vA,vB,reduceCtorEq,vC,vD,e1,nil_eq,limboE,cl_nat,hc,nb,fb,e3,hlen]
  exact ⟨trivial,trivial⟩
 ·simp only [vms,vmc,vA,vB,reduceCtorEq,vC,vD,nil_eq2,limboE,cl_out hno]
  exact ⟨rfl,trivial⟩
theorem ep_now (k : Fits T) {e : Nat} {ep : EpP} {F : Nat→Prop} (r : EpR e ep F h) :
  Gives T 33 [.ptr e 0] h fun r h' => r = .int .i64 ep.now∧h'=h:=by
 obtain ⟨cv,K,E,hF⟩:=r
 refine gives_func (k.env _ (by decide)) (k.at (fn:=a33) rfl) rfl ?_
 have nc : nilChkV (.ptr e 0)=some (.ptr e 0):=rfl
 have fa : fieldAddrV 0 (.ptr e 0)=some (.ptr e 0):=rfl
 simp only [a33,c33,vms,vmc,vA,vB,reduceCtorEq,vC,vD,nc,fa,E.now_load]
 exact ⟨trivial,trivial⟩
theorem ep_adv (k : Fits T) {e : Nat} {ep : EpP} {F : Nat→Prop} (r : EpR e ep F h) (hl : Low h) (n : Int) :
  Gives T 37 [.ptr e 0,.int .i64 n] h fun r h' => r = .bool (advE ep n).1∧∃ F',EpR e (advE ep n).2 F' h'∧Acts h F h' F':=by
 have r0:=r
 obtain ⟨cv,K,E,hF⟩:=r
 refine gives_func (k.env _ (by decide)) (k.at (fn:=a37) rfl) rfl ?_
 have nc : nilChkV (.ptr e 0)=some (.ptr e 0):=rfl
 have fa : fieldAddrV 0 (.ptr e 0)=some (.ptr e 0):=rfl
 have i0:=E.inv.now0
 have i1:=E.inv.now1
 by_cases h1 : ep.now=n
 ·have d1 : (ep.now != n)=false:=by simpa using h1
  by_cases h2 : 1073741824≤ep.now
  ·have d2 : decide (ep.now ≥ 1073741824)=true:=by simpa using h2
   simp only [a37,c37,vms,vmc,vA,vB,reduceCtorEq,vC,vD,nc,fa,E.now_load,d1,d2,advE,if_pos (show ep.now≠n∨1073741824≤ep.now from .inr h2)]
   exact ⟨trivial,F,r0,Acts.refl hl⟩
  ·have d2 : decide (ep.now ≥ 1073741824)=false:=by simpa using h2
   have w : IntKind.i64.wrap (ep.now + 1)=ep.now + 1:=wrap_i64 (by omega) (by omega)
   simp only [a37,c37,vms,vmc,vA,vB,reduceCtorEq,vC,vD,nc,fa,E.now_load,d1,d2,advE,if_neg (show ¬ (ep.now≠n∨1073741824≤ep.now) by omega),w,store_int E.obj (show 0 < 3 by decide)]
   have hne : ∀ o,o≠e→(h.set e (.cells [.int .i64 (ep.now + 1),.int .i64 ep.room,cv] true)).get o=h.get o:=fun o ho => by rw [AH.get_set,if_neg (Ne.symm ho)]
   refine ⟨trivial,F,⟨cv,K,⟨get_set_same,E.cls,E.row.keep fun o ho => hne o fun e2 => E.e_cv (e2 ▸ ho),fun p hp => (E.limbos p hp).keep fun o ho => hne o (E.own p hp o ho).1,E.e_cv,E.own,E.apart,⟨by show 0≤ep.now + 1; omega,by show ep.now + 1≤_; omega,E.inv.room,E.inv.cls,E.inv.limbo,E.inv.at'⟩⟩,hF⟩,Acts.same (Mods.set (Mods.refl h F) (.inl ((hF e).2 (.inl rfl))) _) (hl.set (hl _ _ E.obj) _)⟩
 ·have d1 : (ep.now != n)=true:=by simpa using h1
  simp only [a37,c37,vms,vmc,vA,vB,reduceCtorEq,vC,vD,nc,fa,E.now_load,d1,advE,if_pos (show ep.now≠n∨1073741824≤ep.now from .inl h1)]
  exact ⟨trivial,F,r0,Acts.refl hl⟩
theorem mem_cls {ep : EpP} {n : Nat} {x : ClP} (h : ep.cls[n]?=some x) : x∈ep.cls:=List.mem_of_getElem? h
theorem ep_retire (k : Fits T) {e : Nat} {ep : EpP} {F : Nat→Prop} (r : EpR e ep F h) (hl : Low h) (c ref : Int) :
  Gives T 32 [.ptr e 0,.int .i64 c,.int .i64 ref] h fun r h' => r = .int .i64 ((retireE ep c ref).1 : Nat)∧∃ F',EpR e (retireE ep c ref).2 F' h'∧Acts h F h' F':=by
 have r0:=r
 obtain ⟨cv,K,E,hF⟩:=r
 refine gives_func (k.env _ (by decide)) (k.at (fn:=a32) rfl) rfl ?_
 have nc : nilChkV (.ptr e 0)=some (.ptr e 0):=rfl
 have fa0 : fieldAddrV 0 (.ptr e 0)=some (.ptr e 0):=rfl
 have fa1 : fieldAddrV 1 (.ptr e 0)=some (.ptr e 1):=rfl
 have hex : ∀ {a b c d : AV},extractV 3 (.tuple [a,b,c,d])=some d:=rfl
 simp only [a32,c32,vms,vmc,vA,vB,reduceCtorEq,vC,vD]
 refine Gives.bind ((eof_ok k E c).mono ?_)
 rintro _ _ ⟨rfl,hof⟩
 rename_i h
 simp only [vms,vmc,vA,vB,reduceCtorEq,vC,vD]
 refine Gives.bind ((parts_ok k ref).mono ?_)
 rintro _ _ ⟨rfl,hpt⟩
 rename_i h
 rcases hof with ⟨m,rfl,hm,rfl⟩ | ⟨hno,rfl⟩
 rotate_left
 ·have hr : retireE ep c ref=(1,ep):=by simp only [retireE,cl_out hno]
  rw [hr]
  rcases hpt with ⟨s,g,l,hv,rfl,rfl⟩ | ⟨_,rfl⟩ <;>
  ·simp only [vms,vmc,vA,vB,reduceCtorEq,vC,vD,hex,nil_eq2]
   exact ⟨rfl,F,r0,Acts.refl hl⟩
 obtain ⟨p,co,hp,hc,hco,e1,e2,e3⟩:=clPtr_chk E hm
 have nb : nilChkV (.ptr co (m * 2))=some (.ptr co (m * 2)):=rfl
 have fb : fieldAddrV 1 (.ptr co (m * 2))=some (.ptr co (m * 2 + 1)):=rfl
 have hpK:=List.mem_of_getElem? hp
 have rw0:=E.limbos p hpK
 have hlen : lenOfV p.2=some p.1.limbo.length:=by rw [rw0.len]; simp [limC]
 rcases hpt with ⟨s,g,l,hv,hre,rfl⟩ | ⟨hnr,rfl⟩
 rotate_left
 ·have hr : retireE ep (m : Int) ref=(1,ep):=by
   simp only [retireE,cl_nat,hc]
   rw [if_pos]
   rintro ⟨s,g,l,hv,e⟩
   exact hnr s g l hv e
  rw [hr]
  simp only [vms,vmc,vA,vB,reduceCtorEq,vC,vD,hex,e1,nil_eq]
  exact ⟨rfl,F,r0,Acts.refl hl⟩
 have hir : IsRef ref:=⟨s,g,l,hv,hre⟩
 simp only [vms,vmc,vA,vB,reduceCtorEq,vC,vD,hex,e1,nil_eq,nb,fb,e3,hlen,nc,fa1,E.room_load]
 by_cases hfull : ep.room≤p.1.limbo.length
 ·have hr : retireE ep (m : Int) ref=(2,ep):=by
   simp only [retireE,cl_nat,hc]
   rw [if_neg (fun hn => hn hir),if_pos hfull]
  have d : decide (((p.1.limbo.length : Nat) : Int) ≥ ep.room)=true:=by simpa using hfull
  rw [hr]
  simp only [vms,vmc,vA,vB,reduceCtorEq,vC,vD,d]
  exact ⟨rfl,F,r0,Acts.refl hl⟩
 have hr : retireE ep (m : Int) ref=(0,ep.setCl (m : Int) { p.1 with limbo:=p.1.limbo ++ [(ref,ep.now)] }):=by
  simp only [retireE,cl_nat,hc]
  rw [if_neg (fun hn => hn hir),if_neg hfull]
 have d : decide (((p.1.limbo.length : Nat) : Int) ≥ ep.room)=false:=by simpa using hfull
 rw [hr]
 have hb1 : fillV [AV.int .i64 0,.int .i64 0] [(0,1,.int .i64 ref),(1,1,.int .i64 ep.now)]=some [.int .i64 ref,.int .i64 ep.now]:=by simp [fillV,AV.isDef,AV.cells,setMany]
 have hb2 : fillV [AV.int .i64 0,.int .i64 0] [(0,2,.agg [.int .i64 ref,.int .i64 ep.now])]=some [.int .i64 ref,.int .i64 ep.now]:=by simp [fillV,AV.isDef,AV.cells,setMany]
 have irm:=E.inv.room
 have hcol:=E.low hl
 have on1 : Only h (h.new (.cells [.int .i64 ref,.int .i64 ep.now] true)) []:=(Only.refl h []).new _
 have lo1:=hl.new (.cells [.int .i64 ref,.int .i64 ep.now] true)
 have E1 : EpK (h.new (.cells [.int .i64 ref,.int .i64 ep.now] true)) e ep cv K:=E.keep fun o ho => on1.2 o (hcol o ho) (by simp)
 obtain ⟨p',co',hp',hc',hco',e1',e2',e3'⟩:=clPtr_chk E1 hm
 have : p'=p:=by rw [hp] at hp'; exact (Option.some.inj hp').symm
 subst this
 have : co'=co:=by rw [hco] at hco'; simp only [List.cons.injEq,and_true] at hco'; exact hco'.symm
 subst this
 have rw1:=E1.limbos p' hpK
 obtain ⟨lv,h2,happ,r2,hob,hob2,on2,lo2⟩:=rw1.append (bytes:=16) (x:=[.int .i64 ref,.int .i64 ep.now]) (o2:=h.next) lo1 (by decide) (by decide) (by decide) (by simp [limC]; omega) get_new_same rfl rfl
 have hm2 : Mods h h2 (fun o => o∈objs p'.2):=by
  refine ⟨by have:=on1.1; have:=on2.1; omega,fun o ho hF => ?_⟩
  rw [on2.2 o (by have:=on1.1; omega) hF,on1.2 o ho (by simp)]
 obtain ⟨h',st,F',R',act⟩:=setLimbo_res E hF hl hp hco lo2 hm2 (r2.same (by simp [limC]) : RowS h2 2 lv (limC (p'.1.limbo ++ [(ref,ep.now)]))) (fun o ho => (hob o ho).imp id fun h5 => by have:=on1.1; omega) (by simp; omega) (fun q hq => by
  rcases List.mem_append.1 hq with h5 | h5
  ·exact E.inv.at' _ (mem_cls hc) q h5
  ·simp only [List.mem_cons,List.not_mem_nil,or_false] at h5
   subst h5
   exact ⟨E.inv.now0,E.inv.now1⟩)
 simp only [vms,vmc,vA,vB,reduceCtorEq,vC,vD,d,e1,nb,fb,e3,nc,fa0,E.now_load,hb1,hb2]
 rw [items_look (look_load (v:=p'.2) (by simp only [vms,vmc,vA,vB,reduceCtorEq,vC,vD,nb,fb]; exact e3') (by simp only [vms,vmc,vA,vB,reduceCtorEq,vC,vD]) rw0.cell.2.2)]
 rw [items_look (look_load (v := .int .i64 ep.now) (by simp only [vms,vmc,vA,vB,reduceCtorEq,vC,vD,nc,fa0]; exact E1.now_load) (by simp only [vms,vmc,vA,vB,reduceCtorEq,vC,vD]) (by simp [AV.beq]))]
 rw [items_look (look_build (l:=[.int .i64 ref,.int .i64 ep.now]) (q:=h.next) (by simp only [vms,vmc,vA,vB,reduceCtorEq,vC,vD]; exact hb2) (by simp only [vms,vmc,vA,vB,reduceCtorEq,vC,vD]; rfl) get_new_same (by simp [AV.beqs,AV.beq]))]
 simp only [vms,vmc,vA,vB,reduceCtorEq,vC,vD,nb,fb,happ,st]
 exact ⟨rfl,F',R',act⟩
theorem ep_collect (k : Fits T) {e : Nat} {ep : EpP} {F : Nat→Prop} (r : EpR e ep F h) (hl : Low h) (c : Int) :
  Gives T 75 [.ptr e 0,.int .i64 c] h fun r h' => r = .tuple [.int .i64 (collectE ep c).1,.bool (collectE ep c).2.1]∧∃ F',EpR e (collectE ep c).2.2 F' h'∧Acts h F h' F':=by
 have r0:=r
 obtain ⟨cv,K,E,hF⟩:=r
 refine gives_func (k.env _ (by decide)) (k.at (fn:=a75) rfl) rfl ?_
 have nc : nilChkV (.ptr e 0)=some (.ptr e 0):=rfl
 have fa0 : fieldAddrV 0 (.ptr e 0)=some (.ptr e 0):=rfl
 simp only [a75,c75,vms,vmc,vA,vB,reduceCtorEq,vC,vD]
 refine Gives.bind ((eof_ok k E c).mono ?_)
 rintro _ _ ⟨rfl,⟨m,rfl,hm,rfl⟩ | ⟨hno,rfl⟩⟩
 rotate_left
 ·have hr : collectE ep c=(0,false,ep):=by simp only [collectE,cl_out hno]
  rw [hr]
  simp only [vms,vmc,vA,vB,reduceCtorEq,vC,vD,nil_eq2]
  exact ⟨trivial,F,r0,Acts.refl hl⟩
 rename_i h
 obtain ⟨p,co,hp,hc,hco,e1,e2,e3⟩:=clPtr_chk E hm
 have nb : nilChkV (.ptr co (m * 2))=some (.ptr co (m * 2)):=rfl
 have fb : fieldAddrV 1 (.ptr co (m * 2))=some (.ptr co (m * 2 + 1)):=rfl
 have hpK:=List.mem_of_getElem? hp
 have rw0:=E.limbos p hpK
 have hlen : lenOfV p.2=some p.1.limbo.length:=by rw [rw0.len]; simp [limC]
 simp only [vms,vmc,vA,vB,reduceCtorEq,vC,vD,e1,nil_eq,nb,fb,e3,hlen]
 cases hlim : p.1.limbo with
 | nil =>
  have hr : collectE ep (m : Int)=(0,false,ep):=by simp only [collectE,cl_nat,hc,hlim]
  have d : ((([] : List (Int×Int)).length : Int) == 0)=true:=rfl
  rw [hr]
  simp only [vms,vmc,vA,vB,reduceCtorEq,vC,vD,d]
  exact ⟨trivial,F,r0,Acts.refl hl⟩
 | cons q rest =>
  obtain ⟨lo0,ho0,hi0,hld0,_⟩:=rw0.at (i:=0) (x:=[.int .i64 q.1,.int .i64 q.2]) (by simp [limC,hlim])
  have d : (((q :: rest).length : Int) == 0)=false:=by
   rw [beq_eq_false_iff_ne]; simp only [List.length_cons]; omega
  have hi0' : idxAddrV 2 p.2 (.int .i64 0)=some (.ptr lo0 (0 * 2)):=hi0
  have fc1 : fieldAddrV 1 (.ptr lo0 (0 * 2))=some (.ptr lo0 (0 * 2 + 1)):=rfl
  have fc0 : fieldAddrV 0 (.ptr lo0 (0 * 2))=some (.ptr lo0 (0 * 2 + 0)):=rfl
  have i0:=E.inv.now0
  have i1:=E.inv.now1
  obtain ⟨a0,a1⟩:=E.inv.at' _ (mem_cls hc) q (by rw [hlim]; simp)
  have w : IntKind.i64.wrap (ep.now - q.2)=ep.now - q.2:=wrap_i64 (by omega) (by omega)
  simp only [vms,vmc,vA,vB,reduceCtorEq,vC,vD,d,nc,fa0,E.now_load,e1,nb,fb,e3,hi0',fc1,hld0 1 _ rfl,w]
  by_cases hw : ep.now - q.2 < 2
  ·have hr : collectE ep (m : Int)=(0,false,ep):=by
    simp only [collectE,cl_nat,hc,hlim,if_pos hw]
   have d2 : decide (ep.now - q.2 < 2)=true:=by simpa using hw
   rw [hr]
   simp only [vms,vmc,vA,vB,reduceCtorEq,vC,vD,d2]
   exact ⟨trivial,F,r0,Acts.refl hl⟩
  ·have hr : collectE ep (m : Int)=(q.1,true,ep.setCl (m : Int) { p.1 with limbo:=rest }):=by
    simp only [collectE,cl_nat,hc,hlim,if_neg hw]
   have d2 : decide (ep.now - q.2 < 2)=false:=by simpa using hw
   rw [hr]
   obtain ⟨tv,htv,stv,_⟩:=rw0.tail (n:=1) (k := .i64) (by simp [limC,hlim])
   have htv' : slcV 2 p.2 (some (.int .i64 1)) none none=some tv:=htv
   have hrest : (limC p.1.limbo).drop 1=limC rest:=by rw [hlim]; rfl
   rw [hrest] at stv
   simp only [vms,vmc,vA,vB,reduceCtorEq,vC,vD,d2,e1,nb,fb,e3,hi0',fc0,hld0 0 _ rfl,Option.map_none,htv']
   have hl64:=E.inv.limbo _ (mem_cls hc)
   have irm:=E.inv.room
   rw [hlim] at hl64
   simp only [List.length_cons] at hl64
   refine Gives.bind ((cloneS_ok (g:=97) (sz:=2) (bytes:=16) (k.env _ (by decide)) (k.at rfl) hl stv (by decide) (by decide) (by simp [limC]; omega)).mono ?_)
   rintro lv h2 ⟨r2,hlv,q2,lo2⟩
   obtain ⟨h',st,F',R',act⟩:=setLimbo_res E hF hl hp hco lo2 (q2.mods _) r2 (fun o ho => .inr (hlv o ho)) (by omega) (fun q' hq' => E.inv.at' _ (mem_cls hc) q' (by rw [hlim]; simp [hq']))
   simp only [vms,vmc,vA,vB,reduceCtorEq,vC,vD,nb,fb,st]
   exact ⟨trivial,F',R',act⟩
end Go.Proofs.Ytagcnjhpdopkiaa
/- New epochs; an empty root's words; configurations. -/
namespace Go.Proofs.Ytagcnjhpdopkiaa
open Go.Vm
open Go.Vm.AOpd renaming val → vA
open Nat renaming reduceEqDiff → vB,reduceAdd → vC,reduceBEq → vD
set_option linter.unusedSimpArgs false
set_option linter.unusedVariables false
variable {T : Vm.Prog} {h : AH}
def newEp (c : Nat) (limbo : Int) : EpP:=⟨0,limbo,List.replicate c ⟨-1,[]⟩⟩
theorem ep_new_bad (k : Fits T) {c l : Int} (hb : c < 1∨8 < c∨l < 4∨64 < l) : Gives T 28 [.int .i64 c,.int .i64 l] h fun r h' => r = .tuple [.nilPtr,.int .i64 1]∧h'=h:=by
 refine gives_func (k.env _ (by decide)) (k.at (fn:=a28) rfl) rfl ?_
 by_cases h1 : c < 1
 ·have d1 : decide (c < 1)=true:=by simpa using h1
  simp only [a28,c28,vms,vmc,vA,vB,reduceCtorEq,vC,vD,d1]; exact ⟨trivial,trivial⟩
 have d1 : decide (c < 1)=false:=by simpa using h1
 by_cases h2 : 8 < c
 ·have d2 : decide (c > 8)=true:=by simpa using h2
  simp only [a28,c28,vms,vmc,vA,vB,reduceCtorEq,vC,vD,d1,d2]; exact ⟨trivial,trivial⟩
 have d2 : decide (c > 8)=false:=by simpa using h2
 by_cases h3 : l < 4
 ·have d3 : decide (l < 4)=true:=by simpa using h3
  simp only [a28,c28,vms,vmc,vA,vB,reduceCtorEq,vC,vD,d1,d2,d3]; exact ⟨trivial,trivial⟩
 have d3 : decide (l < 4)=false:=by simpa using h3
 have d4 : decide (l > 64)=true:=by rw [decide_eq_true_eq]; omega
 simp only [a28,c28,vms,vmc,vA,vB,reduceCtorEq,vC,vD,d1,d2,d3,d4]; exact ⟨trivial,trivial⟩
theorem ep_new (k : Fits T) (hl : Low h) {n : Nat} {l : Int} (h1 : 1≤n) (h2 : n≤8) (h3 : 4≤l) (h4 : l≤64) :
  Gives T 28 [.int .i64 (n : Int),.int .i64 l] h fun r h' => ∃ e F,r = .tuple [.ptr e 0,.int .i64 0]∧EpR e (newEp n l) F h'∧Quiet h h'∧(∀ o,F o→h.next≤o)∧Low h':=by
 refine gives_func (k.env _ (by decide)) (k.at (fn:=a28) rfl) rfl ?_
 have d1 : decide ((n : Int) < 1)=false:=by rw [decide_eq_false_iff_not]; omega
 have d2 : decide ((n : Int) > 8)=false:=by rw [decide_eq_false_iff_not]; omega
 have d3 : decide (l < 4)=false:=by rw [decide_eq_false_iff_not]; omega
 have d4 : decide (l > 64)=false:=by rw [decide_eq_false_iff_not]; omega
 have hb : fillV [AV.int .i64 0,.int .i64 0,.nilSlice] [(1,1,.int .i64 l)]=some [.int .i64 0,.int .i64 l,.nilSlice]:=by simp [fillV,AV.isDef,AV.cells,setMany]
 simp only [a28,c28,vms,vmc,vA,vB,reduceCtorEq,vC,vD,d1,d2,d3,d4,hb,box_agg]
 refine wpc_loop (fun m f h' => ∃ i cv,m=n - i∧i≤n∧Quiet h h'∧Low h'∧h'.get h.next=some (.cells [.int .i64 0,.int .i64 l,cv] true)∧RowS h' 2 cv (List.replicate i [.int .i64 (-1),.nilSlice])∧(∀ o∈objs cv,h.next < o)∧f.at 6 = .ptr h.next 0∧f.at 24 = .int .i64 (n : Int)∧f.at 25 = .int .i64 (i : Nat)) ?_ n _ _ ⟨0,.nilSlice,rfl,Nat.zero_le _,(Quiet.refl h).new _,hl.new _,get_new_same,.inl ⟨rfl,rfl⟩,fun o ho => by simp [objs] at ho,?_⟩
 ·rintro m f h' ⟨i,cv,rfl,hi,q,lo,hg,r,hcv,f6,f24,f25⟩
  simp only [c28l0,vms,vmc,vA,vB,reduceCtorEq,vC,vD,f6,f24,f25]
  by_cases hlt : i < n
  ·have hd : decide ((i : Int) < (n : Int))=true:=by rw [decide_eq_true_eq]; omega
   have nb : nilChkV (.ptr h.next 0)=some (.ptr h.next 0):=rfl
   have fa : fieldAddrV 2 (.ptr h.next 0)=some (.ptr h.next 2):=rfl
   have hb1 : fillV [AV.int .i64 0,.nilSlice] [(0,1,.int .i64 (-1))]=some [.int .i64 (-1),.nilSlice]:=by simp [fillV,AV.isDef,AV.cells,setMany]
   have hb2 : fillV [AV.int .i64 0,.nilSlice] [(0,2,.agg [.int .i64 (-1),.nilSlice])]=some [.int .i64 (-1),.nilSlice]:=by simp [fillV,AV.isDef,AV.cells,setMany]
   have hln : h.next < h'.next:=lo _ _ hg
   have r1 : RowS (h'.new (.cells [.int .i64 (-1),.nilSlice] true)) 2 cv (List.replicate i [.int .i64 (-1),.nilSlice]):=r.keep fun o ho => by rw [AH.get_new,if_neg (by have:=r.low lo o ho; omega)]
   obtain ⟨cv2,h2,happ,r2,hob,hob2,on2,lo2⟩:=r1.append (bytes:=32) (x:=[.int .i64 (-1),.nilSlice]) (o2:=h'.next) (lo.new _) (by decide) (by decide) (by decide) (by simp; omega) get_new_same rfl rfl
   have hcv2 : ∀ o∈objs cv2,h.next < o:=fun o ho => by
    rcases hob o ho with h5 | h5
    ·exact hcv o h5
    ·rw [next_new] at h5; omega
   have hg2 : h2.get h.next=some (.cells [.int .i64 0,.int .i64 l,cv] true):=by
    rw [on2.2 h.next (by rw [next_new]; omega) (fun h5 => by have:=hcv _ h5; omega),AH.get_new,if_neg (by omega)]; exact hg
   have w1 : IntKind.i64.wrap ((i : Int) + 1)=((i + 1 : Nat) : Int):=by rw [wrap_i64 (by omega) (by omega)]; rfl
   obtain ⟨hc1,hc2,_⟩:=r2.cell
   simp only [hd,vms,vmc,vA,vB,reduceCtorEq,vC,vD,f6,f24,f25,nb,fa,load_at hg (show [AV.int .i64 0,.int .i64 l,cv][2]?=some cv from rfl),hb1,hb2,happ,store_at hg2 (show 2 < [AV.int .i64 0,.int .i64 l,cv].length by simp) hc1 hc2,w1]
   refine ⟨n - (i + 1),by omega,i + 1,cv2,rfl,by omega,?_,lo2.set (lo2 _ _ hg2) _,?_,?_,hcv2,trivial,trivial,rfl⟩
   ·have q2 : Quiet h h2:=⟨by have:=q.1; have:=on2.1; rw [next_new] at this; omega,fun o ho _ => by
     rw [on2.2 o (by rw [next_new]; omega) (fun h5 => by have:=hcv o h5; omega),AH.get_new,if_neg (by omega)]
     exact q.2 o ho (fun h => h)⟩
    exact q2.set (Nat.le_refl _) _
   ·exact get_set_same
   ·refine (r2.keep fun o ho => by rw [AH.get_set,if_neg (by have:=hcv2 o ho; omega)]).same ?_
    rw [← List.replicate_succ']
  ·have hd : decide ((i : Int) < (n : Int))=false:=by rw [decide_eq_false_iff_not]; omega
   have : i=n:=by omega
   subst this
   simp only [hd,vms,vmc,vA,vB,reduceCtorEq,vC,vD,f6]
   refine ⟨h.next,EpF h.next cv (List.replicate i (⟨-1,[]⟩,.nilSlice)),rfl,⟨cv,List.replicate i (⟨-1,[]⟩,.nilSlice),⟨hg,by simp [newEp],?_,?_,fun h5 => by have:=hcv _ h5; omega,?_,?_,?_⟩,fun o => Iff.rfl⟩,q,?_,lo⟩
   ·refine r.same ?_
    simp [clC]
   ·intro p hp
    have:=(List.mem_replicate.1 hp).2
    subst this
    exact .inl ⟨rfl,rfl⟩
   ·intro p hp o ho
    have:=(List.mem_replicate.1 hp).2
    subst this
    simp [objs] at ho
   ·intro a b p q2 hab hp hq2 o ho
    have:=(List.mem_replicate.1 (List.mem_of_getElem? hp)).2
    subst this
    simp [objs] at ho
   ·refine ⟨Int.le_refl _,by show (0 : Int)≤_; omega,⟨by show 0≤l; omega,h4⟩,by simpa [newEp] using h2,?_,?_⟩
    ·intro c hc
     have:=(List.mem_replicate.1 hc).2
     subst this
     show (0 : Int)≤l; omega
    ·intro c hc q2 hq2
     have:=(List.mem_replicate.1 hc).2
     subst this
     simp at hq2
   ·rintro o (rfl | h5 | ⟨p,hp,h5⟩)
    ·exact Nat.le_refl _
    ·exact Nat.le_of_lt (hcv o h5)
    ·have:=(List.mem_replicate.1 hp).2
     subst this
     simp [objs] at h5
 ·simp only [vms,vmc,vA,vB,reduceCtorEq,vC,vD]
  exact ⟨trivial,trivial,rfl⟩
def rootW : List Nat:=0 :: 4 :: List.replicate 262 0
theorem high4 (k : Fits T) : Gives T 91 [.int .i64 4] h fun r h' => r = .int .i64 256∧h'=h:=by
 refine gives_func (k.env _ (by decide)) (k.at (fn:=a91) rfl) rfl ?_
 simp only [a91,c91,vms,vmc,vA,vB,reduceCtorEq,vC,vD,show ((4 : Int) == 1)=false from rfl,show ((4 : Int) == 2)=false from rfl,show ((4 : Int) == 3)=false from rfl,show ((4 : Int) == 4)=true from rfl]
 exact ⟨trivial,trivial⟩
theorem dead0 (k : Fits T) : Gives T 92 [.int .u64 0] h fun r h' => r = .bool false∧h'=h:=by
 refine gives_func (k.env _ (by decide)) (k.at (fn:=a92) rfl) rfl ?_
 simp only [a92,c92,vms,vmc,vA,vB,reduceCtorEq,vC,vD,show binV .and (.int .u64 0) (.int .u64 2)=some (.int .u64 0) from rfl,show ((0 : Int) != 0)=false from rfl]
 exact ⟨trivial,trivial⟩
def rootN : AV := .agg [.int .i64 4,.int .u64 0,.str [],.nilSlice,.nilSlice]
theorem right_root (k : Fits T) (hl : Low h) : Gives T 66 [rootN] h fun r h' => r = .bool true∧Quiet h h'∧Low h':=by
 refine gives_func (k.env _ (by decide)) (k.at (fn:=a66) rfl) rfl ?_
 have fa : ∀ j,fieldAddrV j (.ptr h.next 0)=some (.ptr h.next (0 + j)):=fun j => rfl
 have hg : (h.new (.cells [.int .i64 4,.int .u64 0,.str [],.nilSlice,.nilSlice] true)).get h.next=some (.cells [.int .i64 4,.int .u64 0,.str [],.nilSlice,.nilSlice] true):=get_new_same
 have l0:=load_at hg (i:=0) rfl
 have l1:=load_at hg (i:=1) rfl
 have l2:=load_at hg (i:=2) rfl
 have l3:=load_at hg (i:=3) rfl
 have l4:=load_at hg (i:=4) rfl
 simp only [a66,c66,vms,vmc,vA,vB,reduceCtorEq,vC,vD,items_test,rootN,box_agg,fa,l0,l1,l2,l3,l4,Nat.zero_add]
 refine Gives.bind ((high4 k).mono ?_)
 rintro _ _ ⟨rfl,rfl⟩
 simp only [vms,vmc,vA,vB,reduceCtorEq,vC,vD,items_test,show ((256 : Int) == 0)=false from rfl,fa,l0,l1,l2,l3,l4,Nat.zero_add]
 refine Gives.bind ((dead0 k).mono ?_)
 rintro _ _ ⟨rfl,rfl⟩
 simp only [vms,vmc,vA,vB,reduceCtorEq,vC,vD,items_test,fa,l0,l1,l2,l3,l4,Nat.zero_add,show decide ((([] : List UInt8).length : Int) > 12)=false from rfl,show ((0 : Int) != 0)=false from rfl,show (((0 : Nat) : Int) != ((0 : Nat) : Int))=false from rfl]
 refine Gives.bind ((high4 k).mono ?_)
 rintro _ _ ⟨rfl,rfl⟩
 simp only [vms,vmc,vA,vB,reduceCtorEq,vC,vD,items_test,show decide (((0 : Nat) : Int) > 256)=false from rfl]
 rw [items_look (look_want (by simp only [vms,vmc,vA,vB,reduceCtorEq,vC,vD]) (look_load (v := .nilSlice) (by simp only [vms,vmc,vA,vB,reduceCtorEq,vC,vD,fa,Nat.zero_add]; exact l3) (by simp only [vms,vmc,vA,vB,reduceCtorEq,vC,vD]) (by simp [AV.beq])))]
 simp only [vms,vmc,vA,vB,reduceCtorEq,vC,vD,items_test,fa,l0,l1,l2,l3,l4,Nat.zero_add]
 refine wpc_loop (fun m f h' => f.at 46 = .int .i64 0∧f.at 47 = .int .i64 0∧h'=h.new (.cells [.int .i64 4,.int .u64 0,.str [],.nilSlice,.nilSlice] true)) ?_ 0 _ _ ⟨?_,?_,rfl⟩
 ·rintro m f h' ⟨f46,f47,rfl⟩
  simp only [c66l0,vms,vmc,vA,vB,reduceCtorEq,vC,vD,f46,f47,show decide ((0 : Int) < 0)=false from rfl]
  exact ⟨trivial,(Quiet.refl h).new _,hl.new _⟩
 ·simp only [vms,vmc,vA,vB,reduceCtorEq,vC,vD]; rfl
 ·simp only [vms,vmc,vA,vB,reduceCtorEq,vC,vD]
end Go.Proofs.Ytagcnjhpdopkiaa
/- An empty root's words; configurations. -/
namespace Go.Proofs.Ytagcnjhpdopkiaa
open Go.Vm
open Go.Vm.AOpd renaming val → vA
open Nat renaming reduceEqDiff → vB,reduceAdd → vC,reduceBEq → vD
set_option linter.unusedSimpArgs false
set_option linter.unusedVariables false
set_option maxRecDepth 100000
variable {T : Vm.Prog} {h : AH}
theorem count0 (k : Fits T) : Gives T 94 [.int .i64 0] h fun r h' => r = .int .i64 0∧h'=h:=by
 refine gives_func (k.env _ (by decide)) (k.at (fn:=a94) rfl) rfl ?_
 simp only [a94,c94,vms,vmc,vA,vB,reduceCtorEq,vC,vD,show decide ((0 : Int)≤0)=true from rfl]
 exact ⟨trivial,trivial⟩
theorem words0 (k : Fits T) (hl : Low h) : Gives T 67 [.str []] h fun r h' => r = .slice h.next 0 1 0 0 true∧h'=h.new (.cells [] true):=by
 refine gives_func (k.env _ (by decide)) (k.at (fn:=a67) rfl) rfl ?_
 simp only [a67,c67,vms,vmc,vA,vB,reduceCtorEq,vC,vD,show ((([] : List UInt8).length : Nat) : Int)=0 from rfl]
 refine Gives.bind ((count0 k).mono ?_)
 rintro _ _ ⟨rfl,rfl⟩
 rename_i h
 have hm : mkSliceV h 1 8 [.int .u64 0] (.int .i64 0) (.int .i64 0)=some (.slice h.next 0 1 0 0 true,h.new (.cells [] true)):=rfl
 simp only [vms,vmc,vA,vB,reduceCtorEq,vC,vD,hm]
 refine wpc_loop (fun m f h' => f.at 3 = .slice h.next 0 1 0 0 true∧f.at 10 = .int .i64 0∧f.at 11 = .int .i64 0∧h'=h.new (.cells [] true)) ?_ 0 _ _ ⟨?_,?_,?_,rfl⟩
 ·rintro m f h' ⟨f3,f10,f11,rfl⟩
  simp only [c67l0,vms,vmc,vA,vB,reduceCtorEq,vC,vD,f3,f10,f11,show decide ((0 : Int) < 0)=false from rfl]
  exact ⟨trivial,trivial⟩
 ·simp only [vms,vmc,vA,vB,reduceCtorEq,vC,vD]
 ·simp only [vms,vmc,vA,vB,reduceCtorEq,vC,vD]; rfl
 ·simp only [vms,vmc,vA,vB,reduceCtorEq,vC,vD]
theorem enc_root (k : Fits T) (hl : Low h) : Gives T 30 [rootN] h fun r h' => ∃ o,r = .slice o 0 1 264 264 true∧h.next≤o∧h'.get o=some (.cells (wcells rootW) true)∧Quiet h h'∧Low h':=by
 refine gives_func (k.env _ (by decide)) (k.at (fn:=a30) rfl) rfl ?_
 have fa : ∀ j,fieldAddrV j (.ptr h.next 0)=some (.ptr h.next (0 + j)):=fun j => rfl
 have hg : (h.new (.cells [.int .i64 4,.int .u64 0,.str [],.nilSlice,.nilSlice] true)).get h.next=some (.cells [.int .i64 4,.int .u64 0,.str [],.nilSlice,.nilSlice] true):=get_new_same
 have lo1:=hl.new (.cells [.int .i64 4,.int .u64 0,.str [],.nilSlice,.nilSlice] true)
 have q1 : Quiet h (h.new (.cells [.int .i64 4,.int .u64 0,.str [],.nilSlice,.nilSlice] true)):=(Quiet.refl h).new _
 have hn1 : h.next < (h.new (.cells [.int .i64 4,.int .u64 0,.str [],.nilSlice,.nilSlice] true)).next:=by rw [next_new]; omega
 have hlen : ([AV.int .i64 4,.int .u64 0,.str [],.nilSlice,.nilSlice] : List AV).length=5:=rfl
 simp only [a30,c30,vms,vmc,vA,vB,reduceCtorEq,vC,vD,rootN,box_agg,load_all hg hlen]
 generalize (h.new (.cells [.int .i64 4,.int .u64 0,.str [],.nilSlice,.nilSlice] true))=h1 at hg lo1 q1 hn1
 refine Gives.bind ((right_root k lo1).mono ?_)
 rintro _ h2 ⟨rfl,q2,lo2⟩
 have hg2 : h2.get h.next=some (.cells [.int .i64 4,.int .u64 0,.str [],.nilSlice,.nilSlice] true):=(q2.2 _ hn1 (fun h => h)).trans hg
 simp only [vms,vmc,vA,vB,reduceCtorEq,vC,vD,fa,Nat.zero_add,load_at hg2 (i:=0) rfl]
 refine Gives.bind ((size_ok k (c:=4) (by decide)).mono ?_)
 rintro _ _ ⟨rfl,rfl⟩
 rename_i h2
 have hm : mkSliceV h2 1 8 [.int .u64 0] (.int .i64 (sizeN 4 : Nat)) (.int .i64 (sizeN 4 : Nat))=some (.slice h2.next 0 1 264 264 true,h2.new (.cells (List.replicate 264 (.int .u64 0)) true)):=by
  have:=mkSlice_nat (h:=h2) (sz:=1) (bytes:=8) (zero:=[.int .u64 0]) (k := .i64) (k' := .i64) (l:=264) (c:=264) (by decide) (by decide) (by decide)
  rw [rep_one] at this; exact this
 have hnn : h.next < h2.next:=lo2 _ _ hg2
 have hg3 : ∀ x : AObj,(h2.new x).get h.next=some (.cells [.int .i64 4,.int .u64 0,.str [],.nilSlice,.nilSlice] true):=fun x => by rw [AH.get_new,if_neg (by omega)]; exact hg2
 have hi0 : idxAddrV 1 (.slice h2.next 0 1 264 264 true) (.int .i64 0)=some (.ptr h2.next 0):=rfl
 have hi1 : idxAddrV 1 (.slice h2.next 0 1 264 264 true) (.int .i64 1)=some (.ptr h2.next 1):=rfl
 have st0:=store_int (h:=h2.new (.cells (List.replicate 264 (.int .u64 0)) true)) (o:=h2.next) (i:=0) (k := .u64) (n:=0) get_new_same (by simp)
 simp only [vms,vmc,vA,vB,reduceCtorEq,vC,vD,hm,fa,Nat.zero_add,load_at (hg3 _) (i:=1) rfl,hi0,st0]
 have hg4 : ∀ x y : AObj,((h2.new x).set h2.next y).get h.next=some (.cells [.int .i64 4,.int .u64 0,.str [],.nilSlice,.nilSlice] true):=fun x y => by rw [AH.get_set,if_neg (by omega)]; exact hg3 x
 have st1:=store_int (h:=(h2.new (.cells (List.replicate 264 (.int .u64 0)) true)).set h2.next (.cells ((List.replicate 264 (AV.int .u64 0)).set 0 (.int .u64 0)) true)) (o:=h2.next) (i:=1) (k := .u64) (n:=4) get_set_same (by simp)
 have b1 : binV .shl (.int .i64 0) (.int .u64 8)=some (.int .i64 0):=rfl
 have b2 : binV .or (.int .i64 4) (.int .i64 0)=some (.int .i64 4):=rfl
 have b3 : binV .shl (.int .i64 0) (.int .u64 16)=some (.int .i64 0):=rfl
 have w4 : IntKind.u64.wrap 4=4:=rfl
 simp only [vms,vmc,vA,vB,reduceCtorEq,vC,vD,fa,Nat.zero_add,load_at (hg4 _ _) (i:=0) rfl,load_at (hg4 _ _) (i:=2) rfl,load_at (hg4 _ _) (i:=3) rfl,show ((([] : List UInt8).length : Nat) : Int)=0 from rfl,show ((0 : Nat) : Int)=0 from rfl,b1,b2,b3,w4,hi1,st1]
 have hset : ((List.replicate 264 (AV.int .u64 0)).set 0 (.int .u64 0)).set 1 (.int .u64 4)=wcells rootW:=by rfl
 rw [hset]
 have q3 : Quiet h2 (((h2.new (.cells (List.replicate 264 (AV.int .u64 0)) true)).set h2.next (.cells ((List.replicate 264 (AV.int .u64 0)).set 0 (.int .u64 0)) true)).set h2.next (.cells (wcells rootW) true)):=(((Quiet.refl h2).new _).set (Nat.le_refl _) _).set (Nat.le_refl _) _
 have lo3 : Low (((h2.new (.cells (List.replicate 264 (AV.int .u64 0)) true)).set h2.next (.cells ((List.replicate 264 (AV.int .u64 0)).set 0 (.int .u64 0)) true)).set h2.next (.cells (wcells rootW) true)):=((lo2.new _).set (by rw [next_new]; omega) _).set (by rw [next_set,next_new]; omega) _
 have hw3 : (((h2.new (.cells (List.replicate 264 (AV.int .u64 0)) true)).set h2.next (.cells ((List.replicate 264 (AV.int .u64 0)).set 0 (.int .u64 0)) true)).set h2.next (.cells (wcells rootW) true)).get h2.next=some (.cells (wcells rootW) true):=get_set_same
 generalize (((h2.new (.cells (List.replicate 264 (AV.int .u64 0)) true)).set h2.next (.cells ((List.replicate 264 (AV.int .u64 0)).set 0 (.int .u64 0)) true)).set h2.next (.cells (wcells rootW) true))=h3 at q3 lo3 hw3
 have hg5 : h3.get h.next=some (.cells [.int .i64 4,.int .u64 0,.str [],.nilSlice,.nilSlice] true):=(q3.2 _ hnn (fun h => h)).trans hg2
 have hsl : slcV 1 (.slice h2.next 0 1 264 264 true) (some (.int .i64 2)) none none=some (.slice h2.next 2 1 262 262 true):=rfl
 simp only [vms,vmc,vA,vB,reduceCtorEq,vC,vD,Option.map_none,hsl,fa,Nat.zero_add,load_at hg5 (i:=2) rfl]
 refine Gives.bind ((words0 k lo3).mono ?_)
 rintro _ _ ⟨rfl,rfl⟩
 have q4 : Quiet h3 (h3.new (.cells [] true)):=(Quiet.refl h3).new _
 have lo4:=lo3.new (.cells [] true)
 have hw4 : (h3.new (.cells [] true)).get h2.next=some (.cells (wcells rootW) true):=by
  rw [AH.get_new,if_neg (by have:=lo3 _ _ hw3; omega)]; exact hw3
 have hg6 : (h3.new (.cells [] true)).get h.next=some (.cells [.int .i64 4,.int .u64 0,.str [],.nilSlice,.nilSlice] true):=by
  rw [AH.get_new,if_neg (by have:=lo3 _ _ hg5; omega)]; exact hg5
 have hel : (h3.new (.cells [] true)).elems 1 (min 0 262) (.slice h3.next 0 1 0 0 true)=some []:=by
  simp only [AH.elems,AH.load,get_new_same]; rfl
 have hcp : copyV 1 (h3.new (.cells [] true)) (.slice h2.next 2 1 262 262 true) (.slice h3.next 0 1 0 0 true)=some (.int .i64 0,h3.new (.cells [] true)):=by
  simp only [copyV,len_slice,Option.bind_some,hel,if_true]
  rfl
 generalize (h3.new (.cells [] true))=h4 at q4 lo4 hw4 hg6 hcp
 simp only [vms,vmc,vA,vB,reduceCtorEq,vC,vD,hcp,fa,Nat.zero_add,load_at hg6 (i:=0) rfl,load_at hg6 (i:=4) rfl,show ((4 : Int) == 1)=false from rfl,show ((4 : Int) == 2)=false from rfl,show ((4 : Int) == 3)=false from rfl]
 refine wpc_loop (fun m f h' => f.at 3 = .slice h2.next 0 1 264 264 true∧f.at 70 = .int .i64 0∧f.at 71 = .int .i64 0∧h'=h4) ?_ 0 _ _ ⟨?_,?_,?_,rfl⟩
 ·rintro m f h' ⟨f3,f70,f71,rfl⟩
  simp only [c30l0,vms,vmc,vA,vB,reduceCtorEq,vC,vD,f3,f70,f71,show decide ((0 : Int) < 0)=false from rfl]
  exact ⟨_,rfl,by omega,hw4,((q1.trans q2).trans q3).trans q4,lo4⟩
 ·simp only [vms,vmc,vA,vB,reduceCtorEq,vC,vD]
 ·simp only [vms,vmc,vA,vB,reduceCtorEq,vC,vD]; rfl
 ·simp only [vms,vmc,vA,vB,reduceCtorEq,vC,vD]
structure CfgP where
 s : List Nat
 clients : Nat
 limbo : Int
 tries : Int
def CfgP.v (c : CfgP) : AV := .agg (ints c.s ++ [.int .i64 (c.clients : Int),.int .i64 c.limbo,.int .i64 c.tries])
structure CfgOk (c : CfgP) : Prop where
 slots : ∃ a b d e f : Nat,c.s=[a,b,d,e,f]∧40≤a∧a≤60∧24≤b∧b≤44∧8≤d∧d≤16∧4≤e∧e≤8∧2≤f∧f≤4
 clients : 1≤c.clients∧c.clients≤8
 limbo : 8≤c.limbo∧c.limbo≤64
 tries : 1≤c.tries∧c.tries≤6
theorem addI {a m : Int} (h1 : 0≤a) (h2 : a≤100) (h3 : 0≤m) (h4 : m≤100) : binV .add (.int .i64 a) (.int .i64 m)=some (.int .i64 (a + m)):=by
 rw [bin_add,wrap_i64 (by omega) (by omega)]
theorem config_ok (k : Fits T) (hl : Low h) {z : List Int} (h8 : z.length=8) :
  Gives T 15 [.agg (izs z)] h fun r h' => ∃ c,r=c.v∧CfgOk c∧c.clients≤4∧Quiet h h'∧Low h':=by
 match z,h8 with
 | [z0,z1,z2,z3,z4,z5,z6,z7],_ =>
 refine gives_func (k.env _ (by decide)) (k.at (fn:=a15) rfl) rfl ?_
 have hz : izs [z0,z1,z2,z3,z4,z5,z6,z7]=[.int .i64 z0,.int .i64 z1,.int .i64 z2,.int .i64 z3,.int .i64 z4,.int .i64 z5,.int .i64 z6,.int .i64 z7]:=rfl
 have q3 : Quiet h (((h.new (.cells (izs [z0,z1,z2,z3,z4,z5,z6,z7]) true)).new (.cells [.int .i64 0,.int .i64 0,.int .i64 0,.int .i64 0,.int .i64 0,.int .i64 0,.int .i64 0,.int .i64 0] true)).new (.cells [.int .i64 0,.int .i64 0,.int .i64 0,.int .i64 0,.int .i64 0,.int .i64 0,.int .i64 0,.int .i64 0] true)):=(((Quiet.refl h).new _).new _).new _
 have lo3 : Low (((h.new (.cells (izs [z0,z1,z2,z3,z4,z5,z6,z7]) true)).new (.cells [.int .i64 0,.int .i64 0,.int .i64 0,.int .i64 0,.int .i64 0,.int .i64 0,.int .i64 0,.int .i64 0] true)).new (.cells [.int .i64 0,.int .i64 0,.int .i64 0,.int .i64 0,.int .i64 0,.int .i64 0,.int .i64 0,.int .i64 0] true)):=((hl.new _).new _).new _
 have g0 : (((h.new (.cells (izs [z0,z1,z2,z3,z4,z5,z6,z7]) true)).new (.cells [.int .i64 0,.int .i64 0,.int .i64 0,.int .i64 0,.int .i64 0,.int .i64 0,.int .i64 0,.int .i64 0] true)).new (.cells [.int .i64 0,.int .i64 0,.int .i64 0,.int .i64 0,.int .i64 0,.int .i64 0,.int .i64 0,.int .i64 0] true)).get h.next=some (.cells (izs [z0,z1,z2,z3,z4,z5,z6,z7]) true):=by
  rw [AH.get_new,if_neg (by simp only [next_new]; omega),AH.get_new,if_neg (by simp only [next_new]; omega),get_new_same]
 have g1 : (((h.new (.cells (izs [z0,z1,z2,z3,z4,z5,z6,z7]) true)).new (.cells [.int .i64 0,.int .i64 0,.int .i64 0,.int .i64 0,.int .i64 0,.int .i64 0,.int .i64 0,.int .i64 0] true)).new (.cells [.int .i64 0,.int .i64 0,.int .i64 0,.int .i64 0,.int .i64 0,.int .i64 0,.int .i64 0,.int .i64 0] true)).get (h.next + 1)=some (.cells [.int .i64 0,.int .i64 0,.int .i64 0,.int .i64 0,.int .i64 0,.int .i64 0,.int .i64 0,.int .i64 0] true):=by
  rw [AH.get_new,if_neg (by simp only [next_new]; omega)]
  have:=get_new_same (h:=h.new (.cells (izs [z0,z1,z2,z3,z4,z5,z6,z7]) true)) (x := .cells [.int .i64 0,.int .i64 0,.int .i64 0,.int .i64 0,.int .i64 0,.int .i64 0,.int .i64 0,.int .i64 0] true)
  rw [next_new] at this; exact this
 have g2 : (((h.new (.cells (izs [z0,z1,z2,z3,z4,z5,z6,z7]) true)).new (.cells [.int .i64 0,.int .i64 0,.int .i64 0,.int .i64 0,.int .i64 0,.int .i64 0,.int .i64 0,.int .i64 0] true)).new (.cells [.int .i64 0,.int .i64 0,.int .i64 0,.int .i64 0,.int .i64 0,.int .i64 0,.int .i64 0,.int .i64 0] true)).get (h.next + 1 + 1)=some (.cells [.int .i64 0,.int .i64 0,.int .i64 0,.int .i64 0,.int .i64 0,.int .i64 0,.int .i64 0,.int .i64 0] true):=by
  have:=get_new_same (h:=(h.new (.cells (izs [z0,z1,z2,z3,z4,z5,z6,z7]) true)).new (.cells [.int .i64 0,.int .i64 0,.int .i64 0,.int .i64 0,.int .i64 0,.int .i64 0,.int .i64 0,.int .i64 0] true)) (x := .cells [.int .i64 0,.int .i64 0,.int .i64 0,.int .i64 0,.int .i64 0,.int .i64 0,.int .i64 0,.int .i64 0] true)
  simp only [next_new] at this; exact this
 simp only [a15,c15,vms,vmc,vA,vB,reduceCtorEq,vC,vD,box_agg,next_new]
 generalize (((h.new (.cells (izs [z0,z1,z2,z3,z4,z5,z6,z7]) true)).new (.cells [.int .i64 0,.int .i64 0,.int .i64 0,.int .i64 0,.int .i64 0,.int .i64 0,.int .i64 0,.int .i64 0] true)).new (.cells [.int .i64 0,.int .i64 0,.int .i64 0,.int .i64 0,.int .i64 0,.int .i64 0,.int .i64 0,.int .i64 0] true))=h3 at *
 rw [hz] at g0
 have fa : ∀ o j,fieldAddrV j (.ptr o 0)=some (.ptr o (0 + j)):=fun o j => rfl
 have ix : ∀ o (i : Nat),i < 5→idxRowV 5 1 (.ptr o 0) (.int .i64 (i : Int))=some (.ptr o (0 + i)):=fun o i hi => idxRow_nat hi
 have ix0 : idxRowV 5 1 (.ptr h.next 0) (.int .i64 0)=some (.ptr h.next 0):=ix _ 0 (by decide)
 have ix1 : idxRowV 5 1 (.ptr h.next 0) (.int .i64 1)=some (.ptr h.next 1):=ix _ 1 (by decide)
 have ix2 : idxRowV 5 1 (.ptr h.next 0) (.int .i64 2)=some (.ptr h.next 2):=ix _ 2 (by decide)
 have ix3 : idxRowV 5 1 (.ptr h.next 0) (.int .i64 3)=some (.ptr h.next 3):=ix _ 3 (by decide)
 have ix4 : idxRowV 5 1 (.ptr h.next 0) (.int .i64 4)=some (.ptr h.next 4):=ix _ 4 (by decide)
 have l0:=load_at g0 (i:=0) rfl
 have l1:=load_at g0 (i:=1) rfl
 have l2:=load_at g0 (i:=2) rfl
 have l3:=load_at g0 (i:=3) rfl
 have l4:=load_at g0 (i:=4) rfl
 have hW : ∀ {n hi : Int},0≤hi→hi≤100→Gives T 16 [.int .i64 n,.int .i64 0,.int .i64 hi] h3 fun r h' => ∃ m,r = .int .i64 m∧0≤m∧m≤hi∧h'=h3:=fun a b => within_ok (g:=16) (k.env _ (by decide)) (k.at rfl) a (by decide) (by omega)
 have lk : ∀ {f : Fr} {d i x : Nat} {y : Int},f.at x = .ptr h.next i→loadV h3 false 1 (.ptr h.next i)=some (.int .i64 y)→f.at d = .int .i64 y→AOper.lookAgain ⟨some d,.load false 1 (.tmp x),none⟩ f h3=true:=fun h1 h2 h3' => look_load (v := .int .i64 _) (by show loadV _ _ _ (Fr.at _ _)=_; rw [h1]; exact h2) h3' (by simp [AV.beq])
 simp only [vms,vmc,vA,vB,reduceCtorEq,vC,vD,fa,Nat.zero_add,ix0,ix1,ix2,ix3,ix4,l0,l1,l2,l3,l4]
 refine Gives.bind ((hW (by decide) (by decide)).mono ?_)
 rintro _ _ ⟨m0,rfl,b0,c0,rfl⟩
 rename_i h3
 simp only [vms,vmc,vA,vB,reduceCtorEq,vC,vD,addI (show (0 : Int)≤40 by decide) (by decide) b0 (by omega)]
 rw [items_look (lk (i:=1) (by simp only [vms,vmc,vA,vB,reduceCtorEq,vC,vD]) l1 (by simp only [vms,vmc,vA,vB,reduceCtorEq,vC,vD])),items_look (lk (i:=2) (by simp only [vms,vmc,vA,vB,reduceCtorEq,vC,vD]) l2 (by simp only [vms,vmc,vA,vB,reduceCtorEq,vC,vD])),items_look (lk (i:=3) (by simp only [vms,vmc,vA,vB,reduceCtorEq,vC,vD]) l3 (by simp only [vms,vmc,vA,vB,reduceCtorEq,vC,vD])),items_look (lk (i:=4) (by simp only [vms,vmc,vA,vB,reduceCtorEq,vC,vD]) l4 (by simp only [vms,vmc,vA,vB,reduceCtorEq,vC,vD]))]
 simp only [vms,vmc,vA,vB,reduceCtorEq,vC,vD]
 refine Gives.bind ((hW (by decide) (by decide)).mono ?_)
 rintro _ _ ⟨m1,rfl,b1,c1,rfl⟩
 rename_i h3
 simp only [vms,vmc,vA,vB,reduceCtorEq,vC,vD,addI (show (0 : Int)≤24 by decide) (by decide) b1 (by omega)]
 rw [items_look (lk (i:=2) (by simp only [vms,vmc,vA,vB,reduceCtorEq,vC,vD]) l2 (by simp only [vms,vmc,vA,vB,reduceCtorEq,vC,vD])),items_look (lk (i:=3) (by simp only [vms,vmc,vA,vB,reduceCtorEq,vC,vD]) l3 (by simp only [vms,vmc,vA,vB,reduceCtorEq,vC,vD])),items_look (lk (i:=4) (by simp only [vms,vmc,vA,vB,reduceCtorEq,vC,vD]) l4 (by simp only [vms,vmc,vA,vB,reduceCtorEq,vC,vD]))]
 simp only [vms,vmc,vA,vB,reduceCtorEq,vC,vD]
 refine Gives.bind ((hW (by decide) (by decide)).mono ?_)
 rintro _ _ ⟨m2,rfl,b2,c2,rfl⟩
 rename_i h3
 simp only [vms,vmc,vA,vB,reduceCtorEq,vC,vD,addI (show (0 : Int)≤8 by decide) (by decide) b2 (by omega)]
 rw [items_look (lk (i:=3) (by simp only [vms,vmc,vA,vB,reduceCtorEq,vC,vD]) l3 (by simp only [vms,vmc,vA,vB,reduceCtorEq,vC,vD])),items_look (lk (i:=4) (by simp only [vms,vmc,vA,vB,reduceCtorEq,vC,vD]) l4 (by simp only [vms,vmc,vA,vB,reduceCtorEq,vC,vD]))]
 simp only [vms,vmc,vA,vB,reduceCtorEq,vC,vD]
 refine Gives.bind ((hW (by decide) (by decide)).mono ?_)
 rintro _ _ ⟨m3,rfl,b3,c3,rfl⟩
 rename_i h3
 simp only [vms,vmc,vA,vB,reduceCtorEq,vC,vD,addI (show (0 : Int)≤4 by decide) (by decide) b3 (by omega)]
 rw [items_look (lk (i:=4) (by simp only [vms,vmc,vA,vB,reduceCtorEq,vC,vD]) l4 (by simp only [vms,vmc,vA,vB,reduceCtorEq,vC,vD]))]
 simp only [vms,vmc,vA,vB,reduceCtorEq,vC,vD]
 refine Gives.bind ((hW (by decide) (by decide)).mono ?_)
 rintro _ _ ⟨m4,rfl,b4,c4,rfl⟩
 rename_i h3
 have hb : fillV [AV.int .i64 0,.int .i64 0,.int .i64 0,.int .i64 0,.int .i64 0] [(0,1,.int .i64 (40 + m0)),(1,1,.int .i64 (24 + m1)),(2,1,.int .i64 (8 + m2)),(3,1,.int .i64 (4 + m3)),(4,1,.int .i64 (2 + m4))]=some [.int .i64 (40 + m0),.int .i64 (24 + m1),.int .i64 (8 + m2),.int .i64 (4 + m3),.int .i64 (2 + m4)]:=by simp [fillV,AV.isDef,AV.cells,setMany]
 have hst : storeV h3 5 (.ptr (h.next + 1 + 1) 0) (.agg [.int .i64 (40 + m0),.int .i64 (24 + m1),.int .i64 (8 + m2),.int .i64 (4 + m3),.int .i64 (2 + m4)])=some (h3.set (h.next + 1 + 1) (.cells [.int .i64 (40 + m0),.int .i64 (24 + m1),.int .i64 (8 + m2),.int .i64 (4 + m3),.int .i64 (2 + m4),.int .i64 0,.int .i64 0,.int .i64 0] true)):=by
  simp [storeV,AV.cells,AH.store,g2,AV.flat,setMany]
 simp only [vms,vmc,vA,vB,reduceCtorEq,vC,vD,addI (show (0 : Int)≤2 by decide) (by decide) b4 (by omega),hb,fa,Nat.zero_add,hst]
 have g02 : ∀ x : AObj,(h3.set (h.next + 1 + 1) x).get h.next=some (.cells [.int .i64 z0,.int .i64 z1,.int .i64 z2,.int .i64 z3,.int .i64 z4,.int .i64 z5,.int .i64 z6,.int .i64 z7] true):=fun x => by rw [AH.get_set,if_neg (by omega)]; exact g0
 have q4 : ∀ x : AObj,Quiet h (h3.set (h.next + 1 + 1) x):=fun x => q3.set (by omega) x
 have lo4 : ∀ x : AObj,Low (h3.set (h.next + 1 + 1) x):=fun x => lo3.set (lo3 _ _ g2) x
 have g12 : ∀ x : AObj,(h3.set (h.next + 1 + 1) x).get (h.next + 1)=some (.cells [.int .i64 0,.int .i64 0,.int .i64 0,.int .i64 0,.int .i64 0,.int .i64 0,.int .i64 0,.int .i64 0] true):=fun x => by rw [AH.get_set,if_neg (by omega)]; exact g1
 have hWW : ∀ {g : AH} {n hi : Int},0≤hi→hi≤100→Gives T 16 [.int .i64 n,.int .i64 0,.int .i64 hi] g fun r h' => ∃ m,r = .int .i64 m∧0≤m∧m≤hi∧h'=g:=fun a b => within_ok (g:=16) (k.env _ (by decide)) (k.at rfl) a (by decide) (by omega)
 simp only [fa,vms,vmc,vA,vB,reduceCtorEq,vC,vD,Nat.zero_add,load_at (g02 _) (i:=5) rfl]
 refine Gives.bind ((hWW (by decide) (by decide)).mono ?_)
 rintro _ _ ⟨m5,rfl,b5,c5,rfl⟩
 have s5:=store_int (h:=h3.set (h.next + 1 + 1) (.cells [.int .i64 (40 + m0),.int .i64 (24 + m1),.int .i64 (8 + m2),.int .i64 (4 + m3),.int .i64 (2 + m4),.int .i64 0,.int .i64 0,.int .i64 0] true)) (o:=h.next + 1 + 1) (i:=5) (k := .i64) (n:=1 + m5) get_set_same (by simp)
 simp only [vms,vmc,vA,vB,reduceCtorEq,vC,vD,addI (show (0 : Int)≤1 by decide) (by decide) b5 (by omega),fa,Nat.zero_add,s5]
 have g03 : ∀ x y : AObj,((h3.set (h.next + 1 + 1) x).set (h.next + 1 + 1) y).get h.next=some (.cells [.int .i64 z0,.int .i64 z1,.int .i64 z2,.int .i64 z3,.int .i64 z4,.int .i64 z5,.int .i64 z6,.int .i64 z7] true):=fun x y => by rw [AH.get_set,if_neg (by omega)]; exact g02 x
 simp only [load_at (g03 _ _) (i:=6) rfl,vms,vmc,vA,vB,reduceCtorEq,vC,vD]
 refine Gives.bind ((hWW (by decide) (by decide)).mono ?_)
 rintro _ _ ⟨m6,rfl,b6,c6,rfl⟩
 simp only [List.set_cons_succ,List.set_cons_zero]
 have s6:=store_int (h:=(h3.set (h.next + 1 + 1) (.cells [.int .i64 (40 + m0),.int .i64 (24 + m1),.int .i64 (8 + m2),.int .i64 (4 + m3),.int .i64 (2 + m4),.int .i64 0,.int .i64 0,.int .i64 0] true)).set (h.next + 1 + 1) (.cells [.int .i64 (40 + m0),.int .i64 (24 + m1),.int .i64 (8 + m2),.int .i64 (4 + m3),.int .i64 (2 + m4),.int .i64 (1 + m5),.int .i64 0,.int .i64 0] true)) (o:=h.next + 1 + 1) (i:=6) (k := .i64) (n:=8 + m6) get_set_same (by simp)
 simp only [vms,vmc,vA,vB,reduceCtorEq,vC,vD,addI (show (0 : Int)≤8 by decide) (by decide) b6 (by omega),fa,Nat.zero_add,s6]
 have g04 : ∀ x y z : AObj,(((h3.set (h.next + 1 + 1) x).set (h.next + 1 + 1) y).set (h.next + 1 + 1) z).get h.next=some (.cells [.int .i64 z0,.int .i64 z1,.int .i64 z2,.int .i64 z3,.int .i64 z4,.int .i64 z5,.int .i64 z6,.int .i64 z7] true):=fun x y z => by rw [AH.get_set,if_neg (by omega)]; exact g03 x y
 simp only [load_at (g04 _ _ _) (i:=7) rfl,vms,vmc,vA,vB,reduceCtorEq,vC,vD]
 refine Gives.bind ((hWW (by decide) (by decide)).mono ?_)
 rintro _ _ ⟨m7,rfl,b7,c7,rfl⟩
 simp only [List.set_cons_succ,List.set_cons_zero]
 have s7:=store_int (h:=((h3.set (h.next + 1 + 1) (.cells [.int .i64 (40 + m0),.int .i64 (24 + m1),.int .i64 (8 + m2),.int .i64 (4 + m3),.int .i64 (2 + m4),.int .i64 0,.int .i64 0,.int .i64 0] true)).set (h.next + 1 + 1) (.cells [.int .i64 (40 + m0),.int .i64 (24 + m1),.int .i64 (8 + m2),.int .i64 (4 + m3),.int .i64 (2 + m4),.int .i64 (1 + m5),.int .i64 0,.int .i64 0] true)).set (h.next + 1 + 1) (.cells [.int .i64 (40 + m0),.int .i64 (24 + m1),.int .i64 (8 + m2),.int .i64 (4 + m3),.int .i64 (2 + m4),.int .i64 (1 + m5),.int .i64 (8 + m6),.int .i64 0] true)) (o:=h.next + 1 + 1) (i:=7) (k := .i64) (n:=1 + m7) get_set_same (by simp)
 simp only [vms,vmc,vA,vB,reduceCtorEq,vC,vD,addI (show (0 : Int)≤1 by decide) (by decide) b7 (by omega),fa,Nat.zero_add,s7,List.set_cons_succ,List.set_cons_zero]
 have qf : ∀ x y z w : AObj,Quiet h ((((h3.set (h.next + 1 + 1) x).set (h.next + 1 + 1) y).set (h.next + 1 + 1) z).set (h.next + 1 + 1) w):=fun x y z w => (((q4 x).set (by omega) y).set (by omega) z).set (by omega) w
 have lof : ∀ x y z w : AObj,Low ((((h3.set (h.next + 1 + 1) x).set (h.next + 1 + 1) y).set (h.next + 1 + 1) z).set (h.next + 1 + 1) w):=fun x y z w => (((lo4 x).set (lo3 _ _ g2) y).set (lo3 _ _ g2) z).set (lo3 _ _ g2) w
 have g1f : ∀ x y z w : AObj,((((h3.set (h.next + 1 + 1) x).set (h.next + 1 + 1) y).set (h.next + 1 + 1) z).set (h.next + 1 + 1) w).get (h.next + 1)=some (.cells [.int .i64 0,.int .i64 0,.int .i64 0,.int .i64 0,.int .i64 0,.int .i64 0,.int .i64 0,.int .i64 0] true):=fun x y z w => by
  rw [AH.get_set,if_neg (by omega),AH.get_set,if_neg (by omega),AH.get_set,if_neg (by omega)]; exact g12 x
 have h88 : ∀ a b c d e f g i : AV,[a,b,c,d,e,f,g,i].length=8:=fun _ _ _ _ _ _ _ _ => rfl
 simp only [load_all get_set_same (h88 _ _ _ _ _ _ _ _),vms,vmc,vA,vB,reduceCtorEq,vC,vD]
 rw [store_all (g1f _ _ _ _) (h88 _ _ _ _ _ _ _ _) (h88 _ _ _ _ _ _ _ _) (by simp [AV.flat])]
 simp only [vms,vmc,vA,vB,reduceCtorEq,vC,vD,res_cell,load_all get_set_same (h88 _ _ _ _ _ _ _ _)]
 refine ⟨⟨[(40 + m0).toNat,(24 + m1).toNat,(8 + m2).toNat,(4 + m3).toNat,(2 + m4).toNat],(1 + m5).toNat,8 + m6,1 + m7⟩,?_,⟨⟨_,_,_,_,_,rfl,by omega,by omega,by omega,by omega,by omega,by omega,by omega,by omega,by omega,by omega⟩,by constructor <;> (show _≤_; simp only; omega),by constructor <;> (show _≤_; simp only; omega),by constructor <;> (show _≤_; simp only; omega)⟩,by simp only; omega,(qf _ _ _ _).set (by omega) _,(lof _ _ _ _).set (by have:=lo3 _ _ g1; simpa [next_set] using this) _⟩
 simp only [CfgP.v,ints,List.map_cons,List.map_nil,List.cons_append,List.nil_append]
 rw [Int.toNat_of_nonneg (by omega),Int.toNat_of_nonneg (by omega),Int.toNat_of_nonneg (by omega),Int.toNat_of_nonneg (by omega),Int.toNat_of_nonneg (by omega),Int.toNat_of_nonneg (by omega)]
end Go.Proofs.Ytagcnjhpdopkiaa

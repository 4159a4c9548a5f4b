/- The document's epochs: rows that begin anywhere in an object of their own. -/
import Derived.Test.YtagcnjhpdopkiaaD9RefN
import Derived.Test.YtagcnjhpdopkiaaP9Mem
namespace Go.Proofs.Ytagcnjhpdopkiaa
open Go.Vm
open Go.Vm.AOpd renaming val → vA
open Nat renaming reduceEqDiff → vB,reduceAdd → vC,reduceBEq → vD
set_option linter.unusedSimpArgs false
set_option linter.unusedVariables false
variable {T : Vm.Prog} {h : AH}
def RowO (h : AH) (sz : Nat) (v : AV) (xs : List (List AV)) : Prop :=
 (v = .nilSlice∧xs=[])∨∃ o off cap ex l,v = .slice o off sz xs.length cap ex∧h.get o=some (.cells l true)∧off + cap * sz≤l.length∧xs.length≤cap∧∀ i x,xs[i]?=some x→x.length=sz∧∀ j y,x[j]?=some y→l[off + i * sz + j]?=some y
theorem RowO.len {v : AV} {sz : Nat} {xs : List (List AV)} (r : RowO h sz v xs) : lenOfV v=some xs.length:=by
 rcases r with ⟨rfl,rfl⟩ | ⟨o,off,cap,ex,l,rfl,_⟩ <;> rfl
theorem RowO.keep {h' : AH} {v : AV} {sz : Nat} {xs : List (List AV)} (r : RowO h sz v xs) (hk : ∀ o∈objs v,h'.get o=h.get o) : RowO h' sz v xs:=by
 rcases r with ⟨rfl,rfl⟩ | ⟨o,off,cap,ex,l,rfl,hg,h1⟩
 ·exact .inl ⟨rfl,rfl⟩
 ·exact .inr ⟨o,off,cap,ex,l,rfl,(hk o (by simp [objs])).trans hg,h1⟩
theorem RowO.low {v : AV} {sz : Nat} {xs : List (List AV)} (r : RowO h sz v xs) (hl : Low h) : ∀ o∈objs v,o < h.next:=by
 rcases r with ⟨rfl,rfl⟩ | ⟨o,off,cap,ex,l,rfl,hg,h1⟩
 ·intro o ho; simp [objs] at ho
 ·intro p hp; simp [objs] at hp; subst hp; exact hl _ _ hg
theorem RowO.cell {v : AV} {sz : Nat} {xs : List (List AV)} (r : RowO h sz v xs) : v.cells=[v]∧v.flat=true∧AV.beq v v=true:=by
 rcases r with ⟨rfl,rfl⟩ | ⟨o,off,cap,ex,l,rfl,_⟩
 ·exact ⟨rfl,rfl,by simp [AV.beq]⟩
 ·exact ⟨rfl,rfl,by simp [AV.beq]⟩
theorem RowO.same {v : AV} {sz : Nat} {xs ys : List (List AV)} (r : RowO h sz v xs) (e : xs=ys) : RowO h sz v ys:=e ▸ r
theorem RowO.at {v : AV} {sz : Nat} {xs : List (List AV)} (r : RowO h sz v xs) {i : Nat} {x : List AV} (hx : xs[i]?=some x) : ∃ o off,idxAddrV sz v (.int .i64 (i : Int))=some (.ptr o off)∧∀ j y,x[j]?=some y→loadV h false 1 (.ptr o (off + j))=some y:=by
 rcases r with ⟨rfl,rfl⟩ | ⟨o,off,cap,ex,l,rfl,hg,h1,h2,h3⟩
 ·simp at hx
 ·have hi:=(List.getElem?_eq_some_iff.1 hx).1
  exact ⟨o,off + i * sz,by simp [idxAddrV,hi],fun j y hy => load_at hg ((h3 i x hx).2 j y hy)⟩
theorem RowO.tail {v : AV} {sz : Nat} {xs : List (List AV)} (r : RowO h sz v xs) {n : Nat} (hn : n≤xs.length) {k : IntKind} : ∃ v',slcV sz v (some (.int k (n : Int))) none none=some v'∧RowO h sz v' (xs.drop n)∧∀ o∈objs v',o∈objs v:=by
 rcases r with ⟨rfl,rfl⟩ | ⟨o,off,cap,ex,l,rfl,hg,h1,h2,h3⟩
 ·have : n=0:=by simpa using hn
  subst this
  exact ⟨.nilSlice,by simp [slcV,bounds,boundM,boundH,boundL,natOf,Option.filter],.inl ⟨rfl,rfl⟩,fun o ho => ho⟩
 ·refine ⟨.slice o (if (ex || false) && decide (cap=n) then off else off + n * sz) sz (xs.length - n) (cap - n) (ex || false),?_,.inr ⟨o,_,_,_,l,by rw [List.length_drop],hg,?_,?_,?_⟩,?_⟩
  ·simp [slcV,bounds,boundM,boundH,boundL,natOf,Option.filter,hn]
  ·have e1 : (cap - n) * sz + n * sz=cap * sz:=by rw [← Nat.add_mul]; congr 1; omega
   split <;> omega
  ·rw [List.length_drop]; omega
  ·intro i x hx
   rw [List.getElem?_drop] at hx
   obtain ⟨g1,g2⟩:=h3 (n + i) x hx
   refine ⟨g1,fun j y hy => ?_⟩
   have hlt:=(List.getElem?_eq_some_iff.1 hx).1
   have hne : ¬ (((ex || false) && decide (cap=n))=true):=by
    simp; intro _; omega
   rw [if_neg hne,show off + n * sz + i * sz + j=off + (n + i) * sz + j by rw [Nat.add_mul]; omega]
   exact g2 j y hy
  ·intro p hp; simpa [objs] using hp
theorem RowO.append {v : AV} {sz bytes : Nat} {xs : List (List AV)} {x : List AV} {o2 : Nat} (hlow : Low h) (r : RowO h sz v xs) (hsz : 0 < sz) (hb : bytes≤1048576) (hb0 : 0 < bytes) (hs : xs.length < 1000000) (h2 : h.get o2=some (.cells x true)) (hxl : x.length=sz) (hfl : x.all AV.flat=true) :
  ∃ v' h',appV sz bytes h v (.slice o2 0 sz 1 1 true)=some (v',h')∧RowO h' sz v' (xs ++ [x])∧(∀ o∈objs v',o∈objs v∨h.next≤o)∧(∀ o∈objs v',o < h'.next)∧Only h h' (objs v)∧Low h':=by
 have hel : h.elems sz 1 (.slice o2 0 sz 1 1 true)=some x:=by
  simp only [AH.elems,true_and,Nat.le_refl,if_true,AH.load,h2]
  rw [if_pos (by rw [hxl]; omega),List.drop_zero,List.take_of_length_le (by rw [hxl]; omega)]
 have hroom : ∀ cap ex,roomOk (xs.length + 1) bytes cap ex=true:=by
  intro cap ex
  have : (xs.length + 1) * bytes≤1000000 * 1048576:=Nat.mul_le_mul (by omega) hb
  simp only [roomOk,Bool.or_eq_true,Bool.and_eq_true,decide_eq_true_eq]
  left; omega
 rcases r with ⟨rfl,rfl⟩ | ⟨o,off,cap,ex,l,rfl,hg,h1,h3,h4⟩
 ·refine ⟨.slice h.next 0 sz 1 1 false,h.new (.cells x true),?_,?_,?_,?_,Only.new (Only.refl h _) _,hlow.new _⟩
  ·simp only [appV,len_slice,Option.bind_some,hel,appendV]
   rw [if_neg (by decide),if_pos (show roomOk 1 bytes 0 true=true from hroom 0 true)]
  ·refine .inr ⟨h.next,0,1,false,x,rfl,get_new_same,by rw [hxl]; omega,by simp,?_⟩
   intro i s hs
   cases i with
   | zero => simp at hs; subst hs; exact ⟨hxl,fun j y hy => by simpa using hy⟩
   | succ i => simp at hs
  ·intro o ho; simp [objs] at ho; subst ho; exact .inr (Nat.le_refl _)
  ·intro o ho; simp [objs] at ho; subst ho; rw [next_new]; omega
 ·have hlt : o < h.next:=hlow o _ hg
  have hle : xs.length * sz≤cap * sz:=Nat.mul_le_mul_right sz h3
  by_cases hc : xs.length + 1≤cap
  ·have hcs : xs.length * sz + sz≤cap * sz:=by
    have : (xs.length + 1) * sz≤cap * sz:=Nat.mul_le_mul_right sz hc
    rwa [Nat.add_mul,Nat.one_mul] at this
   obtain ⟨s1,s2⟩:=setMany_get l x (off + xs.length * sz)
   obtain ⟨s3,s4,s5⟩:=s2 (by rw [hxl]; omega)
   have hst : h.store o (off + xs.length * sz) x=some (h.set o (.cells (setMany l (off + xs.length * sz) x) true)):=by
    simp only [AH.store,hg]
    rw [if_pos ⟨by rw [hxl]; omega,hfl⟩]
   refine ⟨.slice o off sz (xs.length + 1) cap ex,_,?_,?_,?_,?_,(Only.refl h _).set (.inl (by simp [objs])) (.cells (setMany l (off + xs.length * sz) x) true),hlow.set hlt _⟩
   ·simp only [appV,len_slice,Option.bind_some,hel,appendV,if_true]
    rw [if_pos hc,if_neg (by omega),hst]
    rfl
   ·refine .inr ⟨o,off,cap,ex,_,by simp,get_set_same,by rw [s1]; exact h1,by simp; omega,?_⟩
    intro i s hs
    by_cases e : i=xs.length
    ·subst e
     rw [List.getElem?_append_right (Nat.le_refl _)] at hs
     simp at hs; subst hs
     exact ⟨hxl,fun j y hy => s4 j y hy⟩
    ·have hi : i < xs.length:=by
      have:=(List.getElem?_eq_some_iff.1 hs).1
      simp at this; omega
     rw [List.getElem?_append_left hi] at hs
     obtain ⟨g1,g2⟩:=h4 i s hs
     refine ⟨g1,fun j y hy => ?_⟩
     have hj : j < sz:=by have:=(List.getElem?_eq_some_iff.1 hy).1; omega
     have : (i + 1) * sz≤xs.length * sz:=Nat.mul_le_mul_right sz (by omega)
     rw [Nat.add_mul,Nat.one_mul] at this
     rw [s3 _ (by omega)]
     exact g2 j y hy
   ·intro q hq; simp [objs] at hq; subst hq; exact .inl (by simp [objs])
   ·intro q hq; simp [objs] at hq; subst hq; rw [next_set]; exact hlt
  ·have hload : h.load o off (xs.length * sz)=some ((l.drop off).take (xs.length * sz)):=by
    simp only [AH.load,hg]
    rw [if_pos (by omega)]
   have hrw : h.isRw o=true:=by simp [AH.isRw,hg]
   have hlen : ((l.drop off).take (xs.length * sz)).length=xs.length * sz:=by rw [List.length_take,List.length_drop]; omega
   have fin : ∀ (g : AH),g.get h.next=some (.cells ((l.drop off).take (xs.length * sz) ++ x) true)→RowO g sz (.slice h.next 0 sz (xs.length + 1) (xs.length + 1) false) (xs ++ [x]):=by
    intro g hgn
    refine .inr ⟨h.next,0,xs.length + 1,false,(l.drop off).take (xs.length * sz) ++ x,by simp,hgn,by rw [List.length_append,hlen,hxl,Nat.add_mul,Nat.one_mul]; omega,by simp,?_⟩
    intro i s hs
    by_cases e : i=xs.length
    ·subst e
     rw [List.getElem?_append_right (Nat.le_refl _)] at hs
     simp at hs; subst hs
     refine ⟨hxl,fun j y hy => ?_⟩
     rw [List.getElem?_append_right (by omega),hlen,show 0 + xs.length * sz + j - xs.length * sz=j by omega]
     exact hy
    ·have hi : i < xs.length:=by
      have:=(List.getElem?_eq_some_iff.1 hs).1
      simp at this; omega
     rw [List.getElem?_append_left hi] at hs
     obtain ⟨g1,g2⟩:=h4 i s hs
     refine ⟨g1,fun j y hy => ?_⟩
     have hj : j < sz:=by have:=(List.getElem?_eq_some_iff.1 hy).1; omega
     have : (i + 1) * sz≤xs.length * sz:=Nat.mul_le_mul_right sz (by omega)
     rw [Nat.add_mul,Nat.one_mul] at this
     rw [List.getElem?_append_left (by omega),List.getElem?_take,if_pos (by omega),List.getElem?_drop,show off + (0 + i * sz + j)=off + i * sz + j by omega]
     exact g2 j y hy
   cases ex with
   | false =>
    refine ⟨.slice h.next 0 sz (xs.length + 1) (xs.length + 1) false,(h.set o .dead).new (.cells ((l.drop off).take (xs.length * sz) ++ x) true),?_,?_,?_,?_,((Only.refl h _).set (.inl (by simp [objs])) _).new _,(hlow.set hlt _).new _⟩
    ·simp only [appV,len_slice,Option.bind_some,hel,appendV,if_true]
     rw [if_neg hc,if_pos (hroom _ _),hload]
     simp [hrw,hfl,next_set]
    ·have:=get_new_same (h:=h.set o .dead) (x := .cells ((l.drop off).take (xs.length * sz) ++ x) true)
     rw [next_set] at this
     exact fin _ this
    ·intro q hq; simp [objs] at hq; subst hq; exact .inr (Nat.le_refl _)
    ·intro q hq; simp [objs] at hq; subst hq; rw [next_new,next_set]; omega
   | true =>
    refine ⟨.slice h.next 0 sz (xs.length + 1) (xs.length + 1) false,h.new (.cells ((l.drop off).take (xs.length * sz) ++ x) true),?_,fin _ get_new_same,?_,?_,(Only.refl h _).new _,hlow.new _⟩
    ·simp only [appV,len_slice,Option.bind_some,hel,appendV,if_true]
     rw [if_neg hc,if_pos (hroom _ _),hload]
    ·intro q hq; simp [objs] at hq; subst hq; exact .inr (Nat.le_refl _)
    ·intro q hq; simp [objs] at hq; subst hq; rw [next_new]; omega
end Go.Proofs.Ytagcnjhpdopkiaa
/- The document's epochs in memory. -/
namespace Go.Proofs.Ytagcnjhpdopkiaa
open Go.Vm
open Go.Vm.AOpd renaming val → vA
open Nat renaming reduceEqDiff → vB,reduceAdd → vC,reduceBEq → vD
set_option linter.unusedSimpArgs false
set_option linter.unusedVariables false
variable {T : Vm.Prog} {h : AH}
def pinC (K : List (ClP×AV)) : List (List AV):=K.map fun p => [.int .i64 p.1.pin]
def rowC (K : List (ClP×AV)) : List (List AV):=K.map fun p => [p.2]
def EdF (e : Nat) (pv lv : AV) (K : List (ClP×AV)) (o : Nat) : Prop:=o=e∨o∈objs pv∨o∈objs lv∨∃ p∈K,o∈objs p.2
structure EdK (h : AH) (e : Nat) (ep : EpP) (pv lv : AV) (K : List (ClP×AV)) : Prop where
 obj : h.get e=some (.cells [.int .i64 ep.now,.int .i64 ep.room,pv,lv] true)
 cls : K.map (·.1)=ep.cls
 pins : RowS h 1 pv (pinC K)
 rows : RowS h 1 lv (rowC K)
 limbos : ∀ p∈K,RowO h 2 p.2 (limC p.1.limbo)
 e_p : e∉objs pv
 e_l : e∉objs lv
 pl : ∀ o∈objs pv,o∉objs lv
 own : ∀ p∈K,∀ o∈objs p.2,o≠e∧o∉objs pv∧o∉objs lv
 apart : ∀ (i j : Nat) (p q : ClP×AV),i≠j→K[i]?=some p→K[j]?=some q→∀ o∈objs p.2,o∉objs q.2
 inv : EpI ep
def EdR (e : Nat) (ep : EpP) (F : Nat→Prop) (h : AH) : Prop:=∃ pv lv K,EdK h e ep pv lv K∧∀ o,F o↔EdF e pv lv K o
section
variable {e : Nat} {ep : EpP} {pv lv : AV} {K : List (ClP×AV)}
theorem EdK.low (k : EdK h e ep pv lv K) (hl : Low h) : ∀ o,EdF e pv lv K o→o < h.next:=by
 rintro o (rfl | h1 | h1 | ⟨p,hp,h1⟩)
 ·exact hl _ _ k.obj
 ·exact k.pins.low hl o h1
 ·exact k.rows.low hl o h1
 ·exact (k.limbos p hp).low hl o h1
theorem EdK.keep {h' : AH} (k : EdK h e ep pv lv K) (hk : ∀ o,EdF e pv lv K o→h'.get o=h.get o) : EdK h' e ep pv lv K where
 obj:=(hk e (.inl rfl)).trans k.obj
 cls:=k.cls
 pins:=k.pins.keep fun o ho => hk o (.inr (.inl ho))
 rows:=k.rows.keep fun o ho => hk o (.inr (.inr (.inl ho)))
 limbos:=fun p hp => (k.limbos p hp).keep fun o ho => hk o (.inr (.inr (.inr ⟨p,hp,ho⟩)))
 e_p:=k.e_p
 e_l:=k.e_l
 pl:=k.pl
 own:=k.own
 apart:=k.apart
 inv:=k.inv
theorem EdR.res {F : Nat→Prop} (r : EdR e ep F h) (hl : Low h) : Res (EdR e ep F) F h:=by
 obtain ⟨pv,lv,K,k,hF⟩:=r
 exact ⟨fun o ho => k.low hl o ((hF o).1 ho),fun h' hn hk => ⟨pv,lv,K,k.keep fun o ho => hk o ((hF o).2 ho),hF⟩⟩
theorem EdK.lenK (k : EdK h e ep pv lv K) : K.length=ep.cls.length:=by rw [← k.cls,List.length_map]
theorem EdK.len (k : EdK h e ep pv lv K) : lenOfV pv=some ep.cls.length:=by
 have:=k.pins.len
 rw [this,← k.lenK]; simp [pinC]
theorem EdK.now_load (k : EdK h e ep pv lv K) : loadV h false 1 (.ptr e 0)=some (.int .i64 ep.now):=load_at k.obj rfl
theorem EdK.room_load (k : EdK h e ep pv lv K) : loadV h false 1 (.ptr e 1)=some (.int .i64 ep.room):=load_at k.obj rfl
theorem EdK.pv_load (k : EdK h e ep pv lv K) : loadV h false 1 (.ptr e 2)=some pv:=load_at k.obj rfl
theorem EdK.lv_load (k : EdK h e ep pv lv K) : loadV h false 1 (.ptr e 3)=some lv:=load_at k.obj rfl
theorem EdK.cls_at (k : EdK h e ep pv lv K) {n : Nat} (hn : n < ep.cls.length) : ∃ p,K[n]?=some p∧ep.cls[n]?=some p.1:=by
 have hl : n < K.length:=by rw [k.lenK]; exact hn
 refine ⟨K[n],List.getElem?_eq_getElem hl,?_⟩
 rw [← k.cls,List.getElem?_map,List.getElem?_eq_getElem hl]; rfl
theorem EdK.pin_at (k : EdK h e ep pv lv K) {n : Nat} {p : ClP×AV} (hp : K[n]?=some p) : ∃ po,objs pv=[po]∧idxAddrV 1 pv (.int .i64 (n : Int))=some (.ptr po (n * 1))∧loadV h false 1 (.ptr po (n * 1))=some (.int .i64 p.1.pin):=by
 have hx : (pinC K)[n]?=some [.int .i64 p.1.pin]:=by simp [pinC,hp]
 obtain ⟨po,h1,h2,h3,_⟩:=k.pins.at hx
 exact ⟨po,h1,h2,h3 0 _ rfl⟩
theorem EdK.row_at (k : EdK h e ep pv lv K) {n : Nat} {p : ClP×AV} (hp : K[n]?=some p) : ∃ lo,objs lv=[lo]∧idxAddrV 1 lv (.int .i64 (n : Int))=some (.ptr lo (n * 1))∧loadV h false 1 (.ptr lo (n * 1))=some p.2:=by
 have hx : (rowC K)[n]?=some [p.2]:=by simp [rowC,hp]
 obtain ⟨lo,h1,h2,h3,_⟩:=k.rows.at hx
 exact ⟨lo,h1,h2,h3 0 _ rfl⟩
theorem client_ok (k : Fits T) (E : EdK h e ep pv lv K) (c : Int) : Gives T 24 [.ptr e 0,.int .i64 c] h fun r h' => h'=h∧((∃ n : Nat,c=n∧n < ep.cls.length∧r = .bool true)∨((c < 0∨(ep.cls.length : Int)≤c)∧r = .bool false)):=by
 refine gives_func (k.env _ (by decide)) (k.at (fn:=a24) rfl) rfl ?_
 have nc : nilChkV (.ptr e 0)=some (.ptr e 0):=rfl
 have fa : fieldAddrV 2 (.ptr e 0)=some (.ptr e 2):=rfl
 by_cases h1 : c ≥ 0
 ·have d1 : decide (c ≥ 0)=true:=by simpa using h1
  obtain ⟨n,rfl⟩ : ∃ n : Nat,c=n:=⟨c.toNat,by omega⟩
  by_cases h2 : n < ep.cls.length
  ·have d2 : decide ((n : Int) < (ep.cls.length : Int))=true:=by rw [decide_eq_true_eq]; omega
   simp only [a24,c24,vms,vmc,vA,vB,reduceCtorEq,vC,vD,d1,nc,fa,E.pv_load,E.len,d2]
   exact ⟨trivial,.inl ⟨n,rfl,h2,trivial⟩⟩
  ·have d2 : decide ((n : Int) < (ep.cls.length : Int))=false:=by rw [decide_eq_false_iff_not]; omega
   simp only [a24,c24,vms,vmc,vA,vB,reduceCtorEq,vC,vD,d1,nc,fa,E.pv_load,E.len,d2]
   exact ⟨trivial,.inr ⟨.inr (by omega),trivial⟩⟩
 ·have d1 : decide (c ≥ 0)=false:=by simpa using h1
  simp only [a24,c24,vms,vmc,vA,vB,reduceCtorEq,vC,vD,d1]
  exact ⟨trivial,.inr ⟨.inl (by omega),trivial⟩⟩
theorem EdK.setPin (E : EdK h e ep pv lv K) {n : Nat} {p : ClP×AV} {po : Nat} (hp : K[n]?=some p) (hpo : objs pv=[po]) (x : Int) :
  ∃ h',storeV h 1 (.ptr po (n * 1)) (.int .i64 x)=some h'∧Upd h h' po∧EdK h' e { ep with cls:=ep.cls.set n { p.1 with pin:=x } } pv lv (K.set n ({ p.1 with pin:=x },p.2)):=by
 have hx : (pinC K)[n]?=some [.int .i64 p.1.pin]:=by simp [pinC,hp]
 have hn:=(List.getElem?_eq_some_iff.1 hp).1
 obtain ⟨po',h1,h2,h3,h4⟩:=E.pins.at hx
 rw [hpo] at h1
 simp only [List.cons.injEq,and_true] at h1
 subst h1
 obtain ⟨h',st,u,r'⟩:=h4 0 (.int .i64 x) (by decide) rfl rfl
 have hmem : ∀ q∈K.set n ({ p.1 with pin:=x },p.2),∃ q0∈K,q.2=q0.2∧q.1.limbo=q0.1.limbo:=by
  intro q hq
  rcases List.mem_or_eq_of_mem_set hq with h5 | rfl
  ·exact ⟨q,h5,rfl,rfl⟩
  ·exact ⟨p,List.mem_of_getElem? hp,rfl,rfl⟩
 have hget : ∀ (i : Nat) (q : ClP×AV),(K.set n ({ p.1 with pin:=x },p.2))[i]?=some q→∃ q0,K[i]?=some q0∧q.2=q0.2:=by
  intro i q hq
  rw [List.getElem?_set] at hq
  by_cases e2 : n=i
  ·subst e2
   rw [if_pos rfl,if_pos hn] at hq
   cases hq
   exact ⟨p,hp,rfl⟩
  ·rw [if_neg e2] at hq
   exact ⟨q,hq,rfl⟩
 have hne : ∀ q∈K,∀ o∈objs q.2,o≠po:=fun q hq o ho e2 => (E.own q hq o ho).2.1 (by rw [hpo,e2]; simp)
 have hcls : ∀ c∈ep.cls.set n { p.1 with pin:=x },∃ c0∈ep.cls,c.limbo=c0.limbo:=by
  intro c hc
  rcases List.mem_or_eq_of_mem_set hc with h5 | rfl
  ·exact ⟨c,h5,rfl⟩
  ·exact ⟨p.1,by rw [← E.cls]; exact List.mem_map_of_mem (List.mem_of_getElem? hp),rfl⟩
 have hrow : rowC (K.set n ({ p.1 with pin:=x },p.2))=rowC K:=by
  have : rowC (K.set n ({ p.1 with pin:=x },p.2))=(rowC K).set n [p.2]:=by simp [rowC,List.map_set]
  rw [this]
  apply List.ext_getElem?
  intro i
  rw [List.getElem?_set]
  by_cases e2 : n=i
  ·subst e2
   have h7 : (rowC K)[n]?=some [p.2]:=by simp [rowC,hp]
   rw [if_pos rfl,if_pos (List.getElem?_eq_some_iff.1 h7).1,h7]
  ·rw [if_neg e2]
 refine ⟨h',st,u,⟨?_,?_,?_,?_,?_,E.e_p,E.e_l,E.pl,?_,?_,⟨E.inv.now0,E.inv.now1,E.inv.room,by simpa using E.inv.cls,fun c hc => ?_,fun c hc => ?_⟩⟩⟩
 ·rw [u.2 e (fun e2 => E.e_p (by rw [hpo,e2]; simp))]; exact E.obj
 ·rw [List.map_set,E.cls]
 ·refine r'.same ?_
  simp [pinC,List.map_set]
 ·rw [hrow]
  exact E.rows.keep fun o ho => u.2 o fun e2 => E.pl po (by rw [hpo]; simp) (e2 ▸ ho)
 ·intro q hq
  obtain ⟨q0,h5,h6,h7⟩:=hmem q hq
  rw [h6,h7]
  exact (E.limbos q0 h5).keep fun o ho => u.2 o (hne q0 h5 o ho)
 ·intro q hq
  obtain ⟨q0,h5,h6,_⟩:=hmem q hq
  rw [h6]; exact E.own q0 h5
 ·intro i j q r hij hi hj
  obtain ⟨q0,h5,h6⟩:=hget i q hi
  obtain ⟨r0,h7,h8⟩:=hget j r hj
  rw [h6,h8]
  exact E.apart i j q0 r0 hij h5 h7
 ·obtain ⟨c0,h5,h6⟩:=hcls c hc
  rw [h6]; exact E.inv.limbo c0 h5
 ·obtain ⟨c0,h5,h6⟩:=hcls c hc
  rw [h6]; exact E.inv.at' c0 h5
theorem EdK.setLimbo (E : EdK h e ep pv lv K) {n : Nat} {p : ClP×AV} {lo : Nat} (hp : K[n]?=some p) (hlo : objs lv=[lo]) {nv : AV} {l : List (Int×Int)} {h1 : AH} (hl : Low h) (lo1 : Low h1) (on : Mods h h1 (fun o => o∈objs p.2)) (r : RowO h1 2 nv (limC l)) (hn : ∀ o∈objs nv,o∈objs p.2∨h.next≤o)
  (h64 : (l.length : Int)≤ep.room) (hat : ∀ q∈l,0≤q.2∧q.2≤1073741824) :
  ∃ h',storeV h1 1 (.ptr lo (n * 1)) nv=some h'∧EdK h' e { ep with cls:=ep.cls.set n { p.1 with limbo:=l } } pv lv (K.set n ({ p.1 with limbo:=l },nv))∧Mods h h' (fun o => o∈objs p.2∨o=lo)∧Low h':=by
 have hx : (rowC K)[n]?=some [p.2]:=by simp [rowC,hp]
 have hnK:=(List.getElem?_eq_some_iff.1 hp).1
 have hpK:=List.mem_of_getElem? hp
 have hcol : lo < h.next:=E.rows.low hl lo (by rw [hlo]; simp)
 have hco1 : ∀ o∈objs lv,h1.get o=h.get o:=fun o ho => on.2 o (E.rows.low hl o ho) fun h5 => (E.own p hpK o h5).2.2 ho
 have row1:=E.rows.keep hco1
 obtain ⟨lo',e1,h2,h3,h4⟩:=row1.at hx
 rw [hlo] at e1
 simp only [List.cons.injEq,and_true] at e1
 subst e1
 obtain ⟨lc1,lc2,_⟩:=r.cell
 obtain ⟨h',st,u,r'⟩:=h4 0 nv (by decide) lc1 lc2
 have hlv : ∀ o∈objs nv,o≠lo∧o≠e∧o∉objs pv∧o∉objs lv:=by
  intro o ho
  rcases hn o ho with h5 | h5
  ·obtain ⟨g1,g2,g3⟩:=E.own p hpK o h5
   exact ⟨fun e2 => g3 (by rw [hlo,e2]; simp),g1,g2,g3⟩
  ·have:=hl _ _ E.obj
   exact ⟨by omega,by omega,fun h6 => by have:=E.pins.low hl o h6; omega,fun h6 => by have:=E.rows.low hl o h6; omega⟩
 have hget : ∀ (i : Nat) (q : ClP×AV),(K.set n ({ p.1 with limbo:=l },nv))[i]?=some q→(i=n∧q=({ p.1 with limbo:=l },nv))∨(i≠n∧K[i]?=some q):=by
  intro i q hq
  rw [List.getElem?_set] at hq
  by_cases e2 : n=i
  ·subst e2
   rw [if_pos rfl,if_pos hnK] at hq
   cases hq
   exact .inl ⟨rfl,rfl⟩
  ·rw [if_neg e2] at hq
   exact .inr ⟨Ne.symm e2,hq⟩
 have hoth : ∀ (i : Nat) (q : ClP×AV),i≠n→K[i]?=some q→∀ o∈objs q.2,o∉objs nv:=by
  intro i q hi hq o ho h5
  rcases hn o h5 with h6 | h6
  ·exact E.apart i n q p hi hq hp o ho h6
  ·have:=(E.limbos q (List.mem_of_getElem? hq)).low hl o ho; omega
 have hcls : ∀ c∈ep.cls.set n { p.1 with limbo:=l },c∈ep.cls∨c={ p.1 with limbo:=l }:=fun c hc => List.mem_or_eq_of_mem_set hc
 have hpin : pinC (K.set n ({ p.1 with limbo:=l },nv))=pinC K:=by
  have : pinC (K.set n ({ p.1 with limbo:=l },nv))=(pinC K).set n [.int .i64 p.1.pin]:=by simp [pinC,List.map_set]
  rw [this]
  apply List.ext_getElem?
  intro i
  rw [List.getElem?_set]
  by_cases e2 : n=i
  ·subst e2
   have h7 : (pinC K)[n]?=some [.int .i64 p.1.pin]:=by simp [pinC,hp]
   rw [if_pos rfl,if_pos (List.getElem?_eq_some_iff.1 h7).1,h7]
  ·rw [if_neg e2]
 refine ⟨h',st,⟨?_,?_,?_,?_,?_,E.e_p,E.e_l,E.pl,?_,?_,⟨E.inv.now0,E.inv.now1,E.inv.room,by simpa using E.inv.cls,fun c hc => ?_,fun c hc => ?_⟩⟩,?_,lo1.upd u (by have:=on.1; omega)⟩
 ·rw [u.2 e (fun e2 => E.e_l (by rw [hlo,e2]; simp)),on.2 e (hl _ _ E.obj) fun h5 => (E.own p hpK e h5).1 rfl]; exact E.obj
 ·rw [List.map_set,E.cls]
 ·rw [hpin]
  refine E.pins.keep fun o ho => ?_
  rw [u.2 o (fun e2 => E.pl o ho (by rw [hlo,e2]; simp)),on.2 o (E.pins.low hl o ho) fun h5 => (E.own p hpK o h5).2.1 ho]
 ·refine r'.same ?_
  simp [rowC,List.map_set]
 ·intro q hq
  obtain ⟨i,hi⟩:=List.getElem?_of_mem hq
  rcases hget i q hi with ⟨_,rfl⟩ | ⟨h5,h6⟩
  ·exact r.keep fun o ho => u.2 o (hlv o ho).1
  ·have hqK:=List.mem_of_getElem? h6
   exact (E.limbos q hqK).keep fun o ho => by
    rw [u.2 o (fun e2 => (E.own q hqK o ho).2.2 (by rw [hlo,e2]; simp)),on.2 o ((E.limbos q hqK).low hl o ho) (E.apart i n q p h5 h6 hp o ho)]
 ·intro q hq
  obtain ⟨i,hi⟩:=List.getElem?_of_mem hq
  rcases hget i q hi with ⟨_,rfl⟩ | ⟨h5,h6⟩
  ·exact fun o ho => (hlv o ho).2
  ·exact E.own q (List.mem_of_getElem? h6)
 ·intro i j q r2 hij hi hj
  rcases hget i q hi with ⟨rfl,rfl⟩ | ⟨h5,h6⟩
  ·rcases hget j r2 hj with ⟨rfl,rfl⟩ | ⟨h7,h8⟩
   ·exact absurd rfl hij
   ·exact fun o ho h9 => hoth j r2 h7 h8 o h9 ho
  ·rcases hget j r2 hj with ⟨rfl,rfl⟩ | ⟨h7,h8⟩
   ·exact hoth i q h5 h6
   ·exact E.apart i j q r2 hij h6 h8
 ·rcases hcls c hc with h5 | rfl
  ·exact E.inv.limbo c h5
  ·exact h64
 ·rcases hcls c hc with h5 | rfl
  ·exact E.inv.at' c h5
  ·exact hat
 ·refine ⟨by rw [u.1]; exact on.1,fun o ho hF => ?_⟩
  rw [u.2 o (fun e2 => hF (.inr e2)),on.2 o ho fun h5 => hF (.inl h5)]
theorem EdF_set {n : Nat} {p : ClP×AV} {x : ClP} {nv : AV} {N o : Nat} (hp : K[n]?=some p) (hn : ∀ o∈objs nv,o∈objs p.2∨N≤o) (ho : EdF e pv lv (K.set n (x,nv)) o) : EdF e pv lv K o∨N≤o:=by
 rcases ho with rfl | h1 | h1 | ⟨q,hq,h1⟩
 ·exact .inl (.inl rfl)
 ·exact .inl (.inr (.inl h1))
 ·exact .inl (.inr (.inr (.inl h1)))
 ·rcases List.mem_or_eq_of_mem_set hq with h2 | rfl
  ·exact .inl (.inr (.inr (.inr ⟨q,h2,h1⟩)))
  ·rcases hn o h1 with h3 | h3
   ·exact .inl (.inr (.inr (.inr ⟨p,List.mem_of_getElem? hp,h3⟩)))
   ·exact .inr h3
theorem edPin_res {F : Nat→Prop} (E : EdK h e ep pv lv K) (hF : ∀ o,F o↔EdF e pv lv K o) (hl : Low h) {n : Nat} {p : ClP×AV} {po : Nat} (hp : K[n]?=some p) (hpo : objs pv=[po]) (x : Int) :
  ∃ h',storeV h 1 (.ptr po (n * 1)) (.int .i64 x)=some h'∧∃ F',EdR e (ep.setCl (n : Int) { p.1 with pin:=x }) F' h'∧Acts h F h' F':=by
 obtain ⟨h',st,u,E'⟩:=E.setPin hp hpo x
 refine ⟨h',st,EdF e pv lv _,⟨pv,lv,_,E',fun o => Iff.rfl⟩,⟨by rw [u.1]; exact Nat.le_refl _,fun o ho hn => u.2 o fun e2 => hn ((hF o).2 (.inr (.inl (by rw [hpo,e2]; simp))))⟩,fun o ho => ?_,hl.upd u (E.pins.low hl po (by rw [hpo]; simp))⟩
 exact (EdF_set (x:={ p.1 with pin:=x }) (nv:=p.2) (N:=h.next) hp (fun o ho => .inl ho) ho).imp (hF o).2 id
theorem edLimbo_res {F : Nat→Prop} (E : EdK h e ep pv lv K) (hF : ∀ o,F o↔EdF e pv lv K o) (hl : Low h) {n : Nat} {p : ClP×AV} {lo : Nat} (hp : K[n]?=some p) (hlo : objs lv=[lo]) {nv : AV} {l : List (Int×Int)} {h1 : AH} (lo1 : Low h1) (on : Mods h h1 (fun o => o∈objs p.2)) (r : RowO h1 2 nv (limC l)) (hn : ∀ o∈objs nv,o∈objs p.2∨h.next≤o)
  (h64 : (l.length : Int)≤ep.room) (hat : ∀ q∈l,0≤q.2∧q.2≤1073741824) :
  ∃ h',storeV h1 1 (.ptr lo (n * 1)) nv=some h'∧∃ F',EdR e (ep.setCl (n : Int) { p.1 with limbo:=l }) F' h'∧Acts h F h' F':=by
 obtain ⟨h',st,E',m,lo2⟩:=E.setLimbo hp hlo hl lo1 on r hn h64 hat
 refine ⟨h',st,EdF e pv lv _,⟨pv,lv,_,E',fun o => Iff.rfl⟩,m.mono fun o ho => .inl ((hF o).2 ?_),fun o ho => ?_,lo2⟩
 ·rcases ho with h5 | rfl
  ·exact .inr (.inr (.inr ⟨p,List.mem_of_getElem? hp,h5⟩))
  ·exact .inr (.inr (.inl (by rw [hlo]; simp)))
 ·exact (EdF_set (x:={ p.1 with limbo:=l }) (nv:=nv) (N:=h.next) hp hn ho).imp (hF o).2 id
end
end Go.Proofs.Ytagcnjhpdopkiaa
/- The document's epochs: each call on the machine. -/
namespace Go.Proofs.Ytagcnjhpdopkiaa
open Go.Vm
open Go.Vm.AOpd renaming val → vA
open Nat renaming reduceEqDiff → vB,reduceAdd → vC,reduceBEq → vD
set_option linter.unusedSimpArgs false
set_option linter.unusedVariables false
set_option maxRecDepth 20000
variable {T : Vm.Prog} {h : AH}
theorem eval_step {o : AOp} {v : AV} {h' : AH} {f : Fr} (hs : stepV (fun _ _ _ => none) o f h=some (v,h')) : o.eval f h=some (.val v h'):=by
 unfold stepV at hs
 cases he : o.eval f h with
 | none => rw [he] at hs; cases hs
 | some r =>
  rw [he] at hs
  cases r with
  | val u h2 =>
   simp only [Option.some.injEq,Prod.mk.injEq] at hs
   obtain ⟨rfl,rfl⟩:=hs
   rfl
  | call g args => cases hs
theorem look_obj {d p q : Nat} {o : AOp} {v : AV} {h' : AH} {x : AObj} {f : Fr} (he : stepV (fun _ _ _ => none) o f h=some (v,h')) (hn : h'.next≠h.next) (hv : objOf v=some p) (hp : h'.get p=some x) (hd : objOf (f.at d)=some q) (hq : h.get q=some x) (hb : beqObj x x=true) : AOper.lookAgain ⟨some d,o,none⟩ f h=true:=by
 unfold AOper.lookAgain
 simp only [wantedV,eval_step he]
 rw [if_neg hn,hv,hd]
 simp only [hp,hq,hb]
section
variable {e : Nat} {ep : EpP} {F : Nat→Prop}
theorem ed_client (k : Fits T) (r : EdR e ep F h) (c : Int) : Gives T 24 [.ptr e 0,.int .i64 c] h fun r h' => h'=h∧((∃ n : Nat,c=n∧n < ep.cls.length∧r = .bool true)∨((c < 0∨(ep.cls.length : Int)≤c)∧r = .bool false)):=by
 obtain ⟨pv,lv,K,E,hF⟩:=r
 exact client_ok k E c
theorem ed_pin (k : Fits T) (r : EdR e ep F h) (hl : Low h) (c n : Int) :
  Gives T 54 [.ptr e 0,.int .i64 c,.int .i64 n] h fun r h' => r = .bool (pinE ep c n).1∧∃ F',EdR e (pinE ep c n).2 F' h'∧Acts h F h' F':=by
 have r0:=r
 obtain ⟨pv,lv,K,E,hF⟩:=r
 refine gives_func (k.env _ (by decide)) (k.at (fn:=a54) rfl) rfl ?_
 have nc : nilChkV (.ptr e 0)=some (.ptr e 0):=rfl
 have fa0 : fieldAddrV 0 (.ptr e 0)=some (.ptr e 0):=rfl
 have fa2 : fieldAddrV 2 (.ptr e 0)=some (.ptr e 2):=rfl
 simp only [a54,c54,vms,vmc,vA,vB,reduceCtorEq,vC,vD]
 refine Gives.bind ((client_ok k E c).mono ?_)
 rintro _ _ ⟨rfl,⟨m,rfl,hm,rfl⟩ | ⟨hno,rfl⟩⟩
 ·rename_i h
  obtain ⟨p,hp,hc⟩:=E.cls_at hm
  obtain ⟨po,hpo,hix,_⟩:=E.pin_at hp
  simp only [vms,vmc,vA,vB,reduceCtorEq,vC,vD,pinE,cl_nat,hc]
  by_cases h1 : n < 0
  ·have d1 : decide (n < 0)=true:=by simpa using h1
   simp only [vms,vmc,vA,vB,reduceCtorEq,vC,vD,d1,if_pos (show n < 0∨ep.now < n from .inl h1)]
   exact ⟨trivial,F,r0,Acts.refl hl⟩
  ·have d1 : decide (n < 0)=false:=by simpa using h1
   by_cases h2 : ep.now < n
   ·have d2 : decide (n > ep.now)=true:=by simpa using h2
    simp only [vms,vmc,vA,vB,reduceCtorEq,vC,vD,d1,nc,fa0,E.now_load,d2,if_pos (show n < 0∨ep.now < n from .inr h2)]
    exact ⟨trivial,F,r0,Acts.refl hl⟩
   ·have d2 : decide (n > ep.now)=false:=by simpa using h2
    obtain ⟨h',st,F',R',act⟩:=edPin_res E hF hl hp hpo n
    simp only [vms,vmc,vA,vB,reduceCtorEq,vC,vD,d1,nc,fa0,fa2,E.now_load,E.pv_load,d2,if_neg (show ¬ (n < 0∨ep.now < n) by omega),hix,st]
    exact ⟨trivial,F',R',act⟩
 ·simp only [vms,vmc,vA,vB,reduceCtorEq,vC,vD,pinE,cl_out hno]
  exact ⟨trivial,F,r0,Acts.refl hl⟩
theorem ed_unpin (k : Fits T) (r : EdR e ep F h) (hl : Low h) (c : Int) :
  Gives T 55 [.ptr e 0,.int .i64 c] h fun r h' => r = .bool (unpinE ep c).1∧∃ F',EdR e (unpinE ep c).2 F' h'∧Acts h F h' F':=by
 have r0:=r
 obtain ⟨pv,lv,K,E,hF⟩:=r
 refine gives_func (k.env _ (by decide)) (k.at (fn:=a55) rfl) rfl ?_
 have nc : nilChkV (.ptr e 0)=some (.ptr e 0):=rfl
 have fa2 : fieldAddrV 2 (.ptr e 0)=some (.ptr e 2):=rfl
 simp only [a55,c55,vms,vmc,vA,vB,reduceCtorEq,vC,vD]
 refine Gives.bind ((client_ok k E c).mono ?_)
 rintro _ _ ⟨rfl,⟨m,rfl,hm,rfl⟩ | ⟨hno,rfl⟩⟩
 ·rename_i h
  obtain ⟨p,hp,hc⟩:=E.cls_at hm
  obtain ⟨po,hpo,hix,_⟩:=E.pin_at hp
  obtain ⟨h',st,F',R',act⟩:=edPin_res E hF hl hp hpo (-1)
  simp only [vms,vmc,vA,vB,reduceCtorEq,vC,vD,unpinE,cl_nat,hc,nc,fa2,E.pv_load,hix,st]
  exact ⟨trivial,F',R',act⟩
 ·simp only [vms,vmc,vA,vB,reduceCtorEq,vC,vD,unpinE,cl_out hno]
  exact ⟨trivial,F,r0,Acts.refl hl⟩
theorem ed_adv (k : Fits T) (r : EdR e ep F h) (hl : Low h) (n : Int) :
  Gives T 56 [.ptr e 0,.int .i64 n] h fun r h' => r = .bool (advE ep n).1∧∃ F',EdR e (advE ep n).2 F' h'∧Acts h F h' F':=by
 have r0:=r
 obtain ⟨pv,lv,K,E,hF⟩:=r
 refine gives_func (k.env _ (by decide)) (k.at (fn:=a56) rfl) rfl ?_
 have nc : nilChkV (.ptr e 0)=some (.ptr e 0):=rfl
 have fa : fieldAddrV 0 (.ptr e 0)=some (.ptr e 0):=rfl
 have i0:=E.inv.now0
 have i1:=E.inv.now1
 by_cases h1 : ep.now=n
 ·have d1 : (ep.now != n)=false:=by simpa using h1
  by_cases h2 : 1073741824≤ep.now
  ·have d2 : decide (ep.now ≥ 1073741824)=true:=by simpa using h2
   simp only [a56,c56,vms,vmc,vA,vB,reduceCtorEq,vC,vD,nc,fa,E.now_load,d1,d2,advE,if_pos (show ep.now≠n∨1073741824≤ep.now from .inr h2)]
   exact ⟨trivial,F,r0,Acts.refl hl⟩
  ·have d2 : decide (ep.now ≥ 1073741824)=false:=by simpa using h2
   have w : IntKind.i64.wrap (ep.now + 1)=ep.now + 1:=wrap_i64 (by omega) (by omega)
   simp only [a56,c56,vms,vmc,vA,vB,reduceCtorEq,vC,vD,nc,fa,E.now_load,d1,d2,advE,if_neg (show ¬ (ep.now≠n∨1073741824≤ep.now) by omega),w,store_int E.obj (show 0 < 4 by decide)]
   have hne : ∀ o,o≠e→(h.set e (.cells [.int .i64 (ep.now + 1),.int .i64 ep.room,pv,lv] true)).get o=h.get o:=fun o ho => by rw [AH.get_set,if_neg (Ne.symm ho)]
   refine ⟨trivial,F,⟨pv,lv,K,⟨get_set_same,E.cls,E.pins.keep fun o ho => hne o fun e2 => E.e_p (e2 ▸ ho),E.rows.keep fun o ho => hne o fun e2 => E.e_l (e2 ▸ ho),fun p hp => (E.limbos p hp).keep fun o ho => hne o (E.own p hp o ho).1,E.e_p,E.e_l,E.pl,E.own,E.apart,⟨by show 0≤ep.now + 1; omega,by show ep.now + 1≤_; omega,E.inv.room,E.inv.cls,E.inv.limbo,E.inv.at'⟩⟩,hF⟩,⟨⟨Nat.le_refl _,fun o ho hf => hne o fun e2 => hf ((hF o).2 (.inl e2))⟩,fun o ho => .inl ho,hl.set (hl _ _ E.obj) _⟩⟩
 ·have d1 : (ep.now != n)=true:=by simpa using h1
  simp only [a56,c56,vms,vmc,vA,vB,reduceCtorEq,vC,vD,nc,fa,E.now_load,d1,advE,if_pos (show ep.now≠n∨1073741824≤ep.now from .inl h1)]
  exact ⟨trivial,F,r0,Acts.refl hl⟩
theorem ed_retire (k : Fits T) (r : EdR e ep F h) (hl : Low h) (c ref : Int) :
  Gives T 53 [.ptr e 0,.int .i64 c,.int .i64 ref] h fun r h' => r = .int .i64 ((retireE ep c ref).1 : Nat)∧∃ F',EdR e (retireE ep c ref).2 F' h'∧Acts h F h' F':=by
 have r0:=r
 obtain ⟨pv,lv,K,E,hF⟩:=r
 refine gives_func (k.env _ (by decide)) (k.at (fn:=a53) rfl) rfl ?_
 have nc : nilChkV (.ptr e 0)=some (.ptr e 0):=rfl
 have fa0 : fieldAddrV 0 (.ptr e 0)=some (.ptr e 0):=rfl
 have fa1 : fieldAddrV 1 (.ptr e 0)=some (.ptr e 1):=rfl
 have fa3 : fieldAddrV 3 (.ptr e 0)=some (.ptr e 3):=rfl
 have hex0 : ∀ {a b c d : AV},extractV 0 (.tuple [a,b,c,d])=some a:=rfl
 have hex1 : ∀ {a b c d : AV},extractV 1 (.tuple [a,b,c,d])=some b:=rfl
 have hex2 : ∀ {a b c d : AV},extractV 2 (.tuple [a,b,c,d])=some c:=rfl
 have hex3 : ∀ {a b c d : AV},extractV 3 (.tuple [a,b,c,d])=some d:=rfl
 simp only [a53,c53,vms,vmc,vA,vB,reduceCtorEq,vC,vD]
 refine Gives.bind ((rparts_ok k ref).mono ?_)
 rintro _ _ ⟨rfl,hpt⟩
 rename_i h
 rcases hpt with ⟨s,g,l,hv,hre,rfl⟩ | ⟨hnr,rfl⟩
 rotate_left
 ·have hr : retireE ep c ref=(1,ep):=by
   unfold retireE
   cases ep.cl c with
   | none => rfl
   | some x =>
    dsimp only
    rw [if_pos]
    rintro ⟨s,g,l,hv,e⟩
    exact hnr s g l hv e
  rw [hr]
  simp only [vms,vmc,vA,vB,reduceCtorEq,vC,vD,hex0,hex1,hex2,hex3]
  exact ⟨rfl,F,r0,Acts.refl hl⟩
 have hir : IsRef ref:=⟨s,g,l,hv,hre⟩
 simp only [vms,vmc,vA,vB,reduceCtorEq,vC,vD,hex0,hex1,hex2,hex3]
 refine Gives.bind ((client_ok k E c).mono ?_)
 rintro _ _ ⟨rfl,⟨m,rfl,hm,rfl⟩ | ⟨hno,rfl⟩⟩
 rotate_left
 ·have hr : retireE ep c ref=(1,ep):=by simp only [retireE,cl_out hno]
  rw [hr]
  simp only [vms,vmc,vA,vB,reduceCtorEq,vC,vD]
  exact ⟨rfl,F,r0,Acts.refl hl⟩
 rename_i h
 obtain ⟨p,hp,hc⟩:=E.cls_at hm
 obtain ⟨lo,hlo,hix,hld⟩:=E.row_at hp
 have hpK:=List.mem_of_getElem? hp
 have rw0:=E.limbos p hpK
 have hlen : lenOfV p.2=some p.1.limbo.length:=by rw [rw0.len]; simp [limC]
 simp only [vms,vmc,vA,vB,reduceCtorEq,vC,vD,nc,fa3,E.lv_load,hix,hld,hlen,fa1,E.room_load]
 by_cases hfull : ep.room≤p.1.limbo.length
 ·have hr : retireE ep (m : Int) ref=(2,ep):=by
   simp only [retireE,cl_nat,hc]
   rw [if_neg (fun hn => hn hir),if_pos hfull]
  have d : decide (((p.1.limbo.length : Nat) : Int) ≥ ep.room)=true:=by simpa using hfull
  rw [hr]
  simp only [vms,vmc,vA,vB,reduceCtorEq,vC,vD,d]
  exact ⟨rfl,F,r0,Acts.refl hl⟩
 have hr : retireE ep (m : Int) ref=(0,ep.setCl (m : Int) { p.1 with limbo:=p.1.limbo ++ [(ref,ep.now)] }):=by
  simp only [retireE,cl_nat,hc]
  rw [if_neg (fun hn => hn hir),if_neg hfull]
 have d : decide (((p.1.limbo.length : Nat) : Int) ≥ ep.room)=false:=by simpa using hfull
 rw [hr]
 have hb1 : fillV [AV.int .i64 0,.int .i64 0] [(0,1,.int .i64 ref),(1,1,.int .i64 ep.now)]=some [.int .i64 ref,.int .i64 ep.now]:=by simp [fillV,AV.isDef,AV.cells,setMany]
 have hb2 : fillV [AV.int .i64 0,.int .i64 0] [(0,2,.agg [.int .i64 ref,.int .i64 ep.now])]=some [.int .i64 ref,.int .i64 ep.now]:=by simp [fillV,AV.isDef,AV.cells,setMany]
 have irm:=E.inv.room
 have hcol:=E.low hl
 have on1 : Only h (h.new (.cells [.int .i64 ref,.int .i64 ep.now] true)) []:=(Only.refl h []).new _
 have lo1:=hl.new (.cells [.int .i64 ref,.int .i64 ep.now] true)
 have E1 : EdK (h.new (.cells [.int .i64 ref,.int .i64 ep.now] true)) e ep pv lv K:=E.keep fun o ho => on1.2 o (hcol o ho) (by simp)
 obtain ⟨lo',hlo',hix',hld'⟩:=E1.row_at hp
 have : lo'=lo:=by rw [hlo] at hlo'; simp only [List.cons.injEq,and_true] at hlo'; exact hlo'.symm
 subst this
 have rw1:=E1.limbos p hpK
 obtain ⟨nv,h2,happ,r2,hob,hob2,on2,lo2⟩:=rw1.append (bytes:=16) (x:=[.int .i64 ref,.int .i64 ep.now]) (o2:=h.next) lo1 (by decide) (by decide) (by decide) (by simp [limC]; omega) get_new_same rfl rfl
 have hm2 : Mods h h2 (fun o => o∈objs p.2):=by
  refine ⟨by have:=on1.1; have:=on2.1; omega,fun o ho hF => ?_⟩
  rw [on2.2 o (by have:=on1.1; omega) hF,on1.2 o ho (by simp)]
 have ge2 : h2.get e=some (.cells [.int .i64 ep.now,.int .i64 ep.room,pv,lv] true):=(hm2.2 e (hl _ _ E.obj) fun h5 => (E.own p hpK e h5).1 rfl).trans E.obj
 have lv2 : loadV h2 false 1 (.ptr e 3)=some lv:=load_at ge2 rfl
 obtain ⟨h',st,F',R',act⟩:=edLimbo_res E hF hl hp hlo lo2 hm2 (r2.same (by simp [limC]) : RowO h2 2 nv (limC (p.1.limbo ++ [(ref,ep.now)]))) (fun o ho => (hob o ho).imp id fun h5 => by have:=on1.1; omega) (by simp; omega) (fun q hq => by
  rcases List.mem_append.1 hq with h5 | h5
  ·exact E.inv.at' _ (mem_cls hc) q h5
  ·simp only [List.mem_cons,List.not_mem_nil,or_false] at h5
   subst h5
   exact ⟨E.inv.now0,E.inv.now1⟩)
 have lvb : AV.beq lv lv=true:=E.rows.cell.2.2
 simp only [vms,vmc,vA,vB,reduceCtorEq,vC,vD,d,nc,fa0,fa3,E.now_load,E.lv_load,hix,hld,hb1,hb2]
 rw [items_look (look_load (v:=lv) (by simp only [vms,vmc,vA,vB,reduceCtorEq,vC,vD,nc,fa3]; exact E1.lv_load) (by simp only [vms,vmc,vA,vB,reduceCtorEq,vC,vD]) lvb)]
 rw [items_look (look_load (v:=lv) (by simp only [vms,vmc,vA,vB,reduceCtorEq,vC,vD,nc,fa3]; exact E1.lv_load) (by simp only [vms,vmc,vA,vB,reduceCtorEq,vC,vD]) lvb)]
 rw [items_look (look_load (v:=p.2) (by simp only [vms,vmc,vA,vB,reduceCtorEq,vC,vD,hix]; exact hld') (by simp only [vms,vmc,vA,vB,reduceCtorEq,vC,vD]) rw0.cell.2.2)]
 rw [items_look (look_load (v := .int .i64 ep.now) (by simp only [vms,vmc,vA,vB,reduceCtorEq,vC,vD,nc,fa0]; exact E1.now_load) (by simp only [vms,vmc,vA,vB,reduceCtorEq,vC,vD]) (by simp [AV.beq]))]
 rw [items_look (look_build (l:=[.int .i64 ref,.int .i64 ep.now]) (q:=h.next) (by simp only [vms,vmc,vA,vB,reduceCtorEq,vC,vD]; exact hb2) (by simp only [vms,vmc,vA,vB,reduceCtorEq,vC,vD]; rfl) get_new_same (by simp [AV.beqs,AV.beq]))]
 simp only [vms,vmc,vA,vB,reduceCtorEq,vC,vD,happ,hix]
 rw [items_look (look_load (v:=lv) (by simp only [vms,vmc,vA,vB,reduceCtorEq,vC,vD,nc,fa3]; exact lv2) (by simp only [vms,vmc,vA,vB,reduceCtorEq,vC,vD]) lvb)]
 simp only [vms,vmc,vA,vB,reduceCtorEq,vC,vD,st]
 exact ⟨rfl,F',R',act⟩
theorem ed_collect (k : Fits T) (r : EdR e ep F h) (hl : Low h) (c : Int) :
  Gives T 57 [.ptr e 0,.int .i64 c] h fun r h' => r = .tuple [.int .i64 (collectE ep c).1,.bool (collectE ep c).2.1]∧∃ F',EdR e (collectE ep c).2.2 F' h'∧Acts h F h' F':=by
 have r0:=r
 obtain ⟨pv,lv,K,E,hF⟩:=r
 refine gives_func (k.env _ (by decide)) (k.at (fn:=a57) rfl) rfl ?_
 have nc : nilChkV (.ptr e 0)=some (.ptr e 0):=rfl
 have fa0 : fieldAddrV 0 (.ptr e 0)=some (.ptr e 0):=rfl
 have fa3 : fieldAddrV 3 (.ptr e 0)=some (.ptr e 3):=rfl
 simp only [a57,c57,vms,vmc,vA,vB,reduceCtorEq,vC,vD]
 refine Gives.bind ((client_ok k E c).mono ?_)
 rintro _ _ ⟨rfl,⟨m,rfl,hm,rfl⟩ | ⟨hno,rfl⟩⟩
 rotate_left
 ·have hr : collectE ep c=(0,false,ep):=by simp only [collectE,cl_out hno]
  rw [hr]
  simp only [vms,vmc,vA,vB,reduceCtorEq,vC,vD]
  exact ⟨trivial,F,r0,Acts.refl hl⟩
 rename_i h
 obtain ⟨p,hp,hc⟩:=E.cls_at hm
 obtain ⟨lo,hlo,hix,hld⟩:=E.row_at hp
 have hpK:=List.mem_of_getElem? hp
 have rw0:=E.limbos p hpK
 have hlen : lenOfV p.2=some p.1.limbo.length:=by rw [rw0.len]; simp [limC]
 simp only [vms,vmc,vA,vB,reduceCtorEq,vC,vD,nc,fa3,E.lv_load,hix,hld,hlen]
 cases hlim : p.1.limbo with
 | nil =>
  have hr : collectE ep (m : Int)=(0,false,ep):=by simp only [collectE,cl_nat,hc,hlim]
  have d : ((([] : List (Int×Int)).length : Int) == 0)=true:=rfl
  rw [hr]
  simp only [vms,vmc,vA,vB,reduceCtorEq,vC,vD,d]
  exact ⟨trivial,F,r0,Acts.refl hl⟩
 | cons q rest =>
  obtain ⟨qo,qf,hi0,hld0⟩:=rw0.at (i:=0) (x:=[.int .i64 q.1,.int .i64 q.2]) (by simp [limC,hlim])
  have d : (((q :: rest).length : Int) == 0)=false:=by
   rw [beq_eq_false_iff_ne]; simp only [List.length_cons]; omega
  have hi0' : idxAddrV 2 p.2 (.int .i64 0)=some (.ptr qo qf):=hi0
  have fc1 : fieldAddrV 1 (.ptr qo qf)=some (.ptr qo (qf + 1)):=rfl
  have fc0 : fieldAddrV 0 (.ptr qo qf)=some (.ptr qo (qf + 0)):=rfl
  have i0:=E.inv.now0
  have i1:=E.inv.now1
  obtain ⟨a0,a1⟩:=E.inv.at' _ (mem_cls hc) q (by rw [hlim]; simp)
  have w : IntKind.i64.wrap (q.2 + 2)=q.2 + 2:=wrap_i64 (by omega) (by omega)
  simp only [vms,vmc,vA,vB,reduceCtorEq,vC,vD,d,nc,fa0,fa3,E.now_load,E.lv_load,hix,hld,hi0',fc1,hld0 1 _ rfl,w]
  by_cases hw : ep.now - q.2 < 2
  ·have hr : collectE ep (m : Int)=(0,false,ep):=by
    simp only [collectE,cl_nat,hc,hlim,if_pos hw]
   have d2 : decide (q.2 + 2 > ep.now)=true:=by rw [decide_eq_true_eq]; omega
   rw [hr]
   simp only [vms,vmc,vA,vB,reduceCtorEq,vC,vD,d2]
   exact ⟨trivial,F,r0,Acts.refl hl⟩
  ·have hr : collectE ep (m : Int)=(q.1,true,ep.setCl (m : Int) { p.1 with limbo:=rest }):=by
    simp only [collectE,cl_nat,hc,hlim,if_neg hw]
   have d2 : decide (q.2 + 2 > ep.now)=false:=by rw [decide_eq_false_iff_not]; omega
   rw [hr]
   obtain ⟨tv,htv,stv,hto⟩:=rw0.tail (n:=1) (k := .i64) (by simp [limC,hlim])
   have htv' : slcV 2 p.2 (some (.int .i64 1)) none none=some tv:=htv
   have hrest : (limC p.1.limbo).drop 1=limC rest:=by rw [hlim]; rfl
   rw [hrest] at stv
   have hl64:=E.inv.limbo _ (mem_cls hc)
   rw [hlim] at hl64
   simp only [List.length_cons] at hl64
   obtain ⟨h',st,F',R',act⟩:=edLimbo_res E hF hl hp hlo hl (Mods.refl _ _) stv (fun o ho => .inl (hto o ho)) (by omega) (fun q' hq' => E.inv.at' _ (mem_cls hc) q' (by rw [hlim]; simp [hq']))
   simp only [vms,vmc,vA,vB,reduceCtorEq,vC,vD,d2,nc,fa3,E.lv_load,hix,hld,hi0',fc0,hld0 0 _ rfl,Option.map_none,htv',st]
   exact ⟨trivial,F',R',act⟩
end
end Go.Proofs.Ytagcnjhpdopkiaa
/- The document's epochs: new ones; an empty root's words. -/
namespace Go.Proofs.Ytagcnjhpdopkiaa
open Go.Vm
open Go.Vm.AOpd renaming val → vA
open Nat renaming reduceEqDiff → vB,reduceAdd → vC,reduceBEq → vD
set_option linter.unusedSimpArgs false
set_option linter.unusedVariables false
set_option maxRecDepth 20000
variable {T : Vm.Prog} {h : AH}
theorem ed_new_bad (k : Fits T) {c l : Int} (hb : c < 1∨8 < c∨l < 4∨64 < l) : Gives T 47 [.int .i64 c,.int .i64 l] h fun r h' => r = .tuple [.nilPtr,.int .i64 1]∧h'=h:=by
 refine gives_func (k.env _ (by decide)) (k.at (fn:=a47) rfl) rfl ?_
 by_cases h1 : c < 1
 ·have d1 : decide (c < 1)=true:=by simpa using h1
  simp only [a47,c47,vms,vmc,vA,vB,reduceCtorEq,vC,vD,d1]; exact ⟨trivial,trivial⟩
 have d1 : decide (c < 1)=false:=by simpa using h1
 by_cases h2 : 8 < c
 ·have d2 : decide (c > 8)=true:=by simpa using h2
  simp only [a47,c47,vms,vmc,vA,vB,reduceCtorEq,vC,vD,d1,d2]; exact ⟨trivial,trivial⟩
 have d2 : decide (c > 8)=false:=by simpa using h2
 by_cases h3 : l < 4
 ·have d3 : decide (l < 4)=true:=by simpa using h3
  simp only [a47,c47,vms,vmc,vA,vB,reduceCtorEq,vC,vD,d1,d2,d3]; exact ⟨trivial,trivial⟩
 have d3 : decide (l < 4)=false:=by simpa using h3
 have d4 : decide (l > 64)=true:=by rw [decide_eq_true_eq]; omega
 simp only [a47,c47,vms,vmc,vA,vB,reduceCtorEq,vC,vD,d1,d2,d3,d4]; exact ⟨trivial,trivial⟩
def pinL (n i : Nat) : List AV:=List.replicate i (.int .i64 (-1)) ++ List.replicate (n - i) (.int .i64 0)
theorem pinL_step {n i : Nat} (hi : i < n) : (pinL n i).set i (.int .i64 (-1))=pinL n (i + 1):=by
 have e : n - i=(n - (i + 1)) + 1:=by omega
 unfold pinL
 rw [e,List.replicate_succ,List.replicate_succ',List.append_assoc]
 rw [List.set_append_right _ _ (by simp)]
 simp
theorem pinL_len {n i : Nat} (hi : i≤n) : (pinL n i).length=n:=by simp [pinL]; omega
theorem beqs_rep {v : AV} (hv : AV.beq v v=true) : ∀ n,AV.beqs (List.replicate n v) (List.replicate n v)=true
 | 0 => by simp [AV.beqs]
 | n + 1 => by rw [List.replicate_succ]; simp [AV.beqs,hv,beqs_rep hv n]
theorem ed_new (k : Fits T) (hl : Low h) {n : Nat} {l : Int} (h1 : 1≤n) (h2 : n≤8) (h3 : 4≤l) (h4 : l≤64) :
  Gives T 47 [.int .i64 (n : Int),.int .i64 l] h fun r h' => ∃ e F,r = .tuple [.ptr e 0,.int .i64 0]∧EdR e (newEp n l) F h'∧Quiet h h'∧(∀ o,F o→h.next≤o)∧Low h':=by
 refine gives_func (k.env _ (by decide)) (k.at (fn:=a47) rfl) rfl ?_
 have d1 : decide ((n : Int) < 1)=false:=by rw [decide_eq_false_iff_not]; omega
 have d2 : decide ((n : Int) > 8)=false:=by rw [decide_eq_false_iff_not]; omega
 have d3 : decide (l < 4)=false:=by rw [decide_eq_false_iff_not]; omega
 have d4 : decide (l > 64)=false:=by rw [decide_eq_false_iff_not]; omega
 have mk1 : ∀ h : AH,mkSliceV h 1 8 [.int .i64 0] (.int .i64 (n : Int)) (.int .i64 (n : Int))=some (.slice h.next 0 1 n n true,h.new (.cells (List.replicate n (.int .i64 0)) true)):=fun h => by
  have:=mkSlice_nat (h:=h) (sz:=1) (bytes:=8) (zero:=[.int .i64 0]) (k := .i64) (k' := .i64) (Nat.le_refl n) (by omega) (by omega)
  rw [rep_one] at this; exact this
 have mk2 : ∀ h : AH,mkSliceV h 1 24 [.nilSlice] (.int .i64 (n : Int)) (.int .i64 (n : Int))=some (.slice h.next 0 1 n n true,h.new (.cells (List.replicate n .nilSlice) true)):=fun h => by
  have:=mkSlice_nat (h:=h) (sz:=1) (bytes:=24) (zero:=[.nilSlice]) (k := .i64) (k' := .i64) (Nat.le_refl n) (by omega) (by omega)
  rw [rep_one] at this; exact this
 have hb : fillV [AV.int .i64 0,.int .i64 0,.nilSlice,.nilSlice] [(1,1,.int .i64 l),(2,1,.slice h.next 0 1 n n true),(3,1,.slice (h.next + 1) 0 1 n n true)]=some [.int .i64 0,.int .i64 l,.slice h.next 0 1 n n true,.slice (h.next + 1) 0 1 n n true]:=by simp [fillV,AV.isDef,AV.cells,setMany]
 have q3 : Quiet h (((h.new (.cells (List.replicate n (.int .i64 0)) true)).new (.cells (List.replicate n .nilSlice) true)).new (.cells [.int .i64 0,.int .i64 l,.slice h.next 0 1 n n true,.slice (h.next + 1) 0 1 n n true] true)):=(((Quiet.refl h).new _).new _).new _
 have lo3 : Low (((h.new (.cells (List.replicate n (.int .i64 0)) true)).new (.cells (List.replicate n .nilSlice) true)).new (.cells [.int .i64 0,.int .i64 l,.slice h.next 0 1 n n true,.slice (h.next + 1) 0 1 n n true] true)):=((hl.new _).new _).new _
 have gA : (((h.new (.cells (List.replicate n (.int .i64 0)) true)).new (.cells (List.replicate n .nilSlice) true)).new (.cells [.int .i64 0,.int .i64 l,.slice h.next 0 1 n n true,.slice (h.next + 1) 0 1 n n true] true)).get h.next=some (.cells (List.replicate n (.int .i64 0)) true):=by
  rw [AH.get_new,if_neg (by simp only [next_new]; omega),AH.get_new,if_neg (by simp only [next_new]; omega),get_new_same]
 have gB : (((h.new (.cells (List.replicate n (.int .i64 0)) true)).new (.cells (List.replicate n .nilSlice) true)).new (.cells [.int .i64 0,.int .i64 l,.slice h.next 0 1 n n true,.slice (h.next + 1) 0 1 n n true] true)).get (h.next + 1)=some (.cells (List.replicate n .nilSlice) true):=by
  rw [AH.get_new,if_neg (by simp only [next_new]; omega)]
  have:=get_new_same (h:=h.new (.cells (List.replicate n (.int .i64 0)) true)) (x := .cells (List.replicate n .nilSlice) true)
  rw [next_new] at this; exact this
 have gC : (((h.new (.cells (List.replicate n (.int .i64 0)) true)).new (.cells (List.replicate n .nilSlice) true)).new (.cells [.int .i64 0,.int .i64 l,.slice h.next 0 1 n n true,.slice (h.next + 1) 0 1 n n true] true)).get (h.next + 1 + 1)=some (.cells [.int .i64 0,.int .i64 l,.slice h.next 0 1 n n true,.slice (h.next + 1) 0 1 n n true] true):=by
  have:=get_new_same (h:=(h.new (.cells (List.replicate n (.int .i64 0)) true)).new (.cells (List.replicate n .nilSlice) true)) (x := .cells [.int .i64 0,.int .i64 l,.slice h.next 0 1 n n true,.slice (h.next + 1) 0 1 n n true] true)
  simp only [next_new] at this; exact this
 have n3 : (((h.new (.cells (List.replicate n (.int .i64 0)) true)).new (.cells (List.replicate n .nilSlice) true)).new (.cells [.int .i64 0,.int .i64 l,.slice h.next 0 1 n n true,.slice (h.next + 1) 0 1 n n true] true)).next=h.next + 1 + 1 + 1:=rfl
 simp only [a47,c47,vms,vmc,vA,vB,reduceCtorEq,vC,vD,d1,d2,d3,d4,mk1,mk2,next_new,hb,box_agg]
 generalize (((h.new (.cells (List.replicate n (.int .i64 0)) true)).new (.cells (List.replicate n .nilSlice) true)).new (.cells [.int .i64 0,.int .i64 l,.slice h.next 0 1 n n true,.slice (h.next + 1) 0 1 n n true] true))=h3 at *
 have bint : AV.beq (.int .i64 0) (.int .i64 0)=true:=by simp [AV.beq]
 have bnil : AV.beq .nilSlice .nilSlice=true:=by simp [AV.beq]
 rw [items_look (look_obj (v := .slice h3.next 0 1 n n true) (h':=h3.new (.cells (List.replicate n (.int .i64 0)) true)) (p:=h3.next) (q:=h.next) (x := .cells (List.replicate n (.int .i64 0)) true) (by simp only [vms,vmc,vA,vB,reduceCtorEq,vC,vD,mk1]) (by rw [next_new]; omega) rfl get_new_same (by simp only [vms,vmc,vA,vB,reduceCtorEq,vC,vD]; rfl) gA (by simp only [beqObj,beqs_rep bint]; rfl))]
 rw [items_look (look_obj (v := .slice h3.next 0 1 n n true) (h':=h3.new (.cells (List.replicate n .nilSlice) true)) (p:=h3.next) (q:=h.next + 1) (x := .cells (List.replicate n .nilSlice) true) (by simp only [vms,vmc,vA,vB,reduceCtorEq,vC,vD,mk2]) (by rw [next_new]; omega) rfl get_new_same (by simp only [vms,vmc,vA,vB,reduceCtorEq,vC,vD]; rfl) gB (by simp only [beqObj,beqs_rep bnil]; rfl))]
 rw [items_look (look_obj (v := .ptr h3.next 0) (h':=h3.new (.cells [.int .i64 0,.int .i64 l,.slice h.next 0 1 n n true,.slice (h.next + 1) 0 1 n n true] true)) (p:=h3.next) (q:=h.next + 1 + 1) (x := .cells [.int .i64 0,.int .i64 l,.slice h.next 0 1 n n true,.slice (h.next + 1) 0 1 n n true] true) (by simp only [vms,vmc,vA,vB,reduceCtorEq,vC,vD,box_agg]) (by rw [next_new]; omega) rfl get_new_same (by simp only [vms,vmc,vA,vB,reduceCtorEq,vC,vD]; rfl) gC (by simp [beqObj,AV.beqs,AV.beq]))]
 have nb : nilChkV (.ptr (h.next + 1 + 1) 0)=some (.ptr (h.next + 1 + 1) 0):=rfl
 have fa2 : fieldAddrV 2 (.ptr (h.next + 1 + 1) 0)=some (.ptr (h.next + 1 + 1) 2):=rfl
 have lc : ∀ {g : AH},g.get (h.next + 1 + 1)=some (.cells [.int .i64 0,.int .i64 l,.slice h.next 0 1 n n true,.slice (h.next + 1) 0 1 n n true] true)→loadV g false 1 (.ptr (h.next + 1 + 1) 2)=some (.slice h.next 0 1 n n true):=fun hg => load_at hg rfl
 simp only [vms,vmc,vA,vB,reduceCtorEq,vC,vD,nb,fa2,lc gC,len_slice]
 refine wpc_loop (fun m f h' => ∃ i,m=n - i∧i≤n∧Quiet h h'∧Low h'∧h'.get h.next=some (.cells (pinL n i) true)∧h'.get (h.next + 1)=some (.cells (List.replicate n .nilSlice) true)∧h'.get (h.next + 1 + 1)=some (.cells [.int .i64 0,.int .i64 l,.slice h.next 0 1 n n true,.slice (h.next + 1) 0 1 n n true] true)∧f.at 6 = .ptr (h.next + 1 + 1) 0∧f.at 33 = .int .i64 (n : Int)∧f.at 34 = .int .i64 (i : Nat)) ?_ n _ _ ⟨0,rfl,Nat.zero_le _,q3,lo3,by simpa [pinL] using gA,gB,gC,?_,?_,?_⟩
 ·rintro m f h' ⟨i,rfl,hi,q,lo,g1,g2,g3,f6,f33,f34⟩
  simp only [c47l0,vms,vmc,vA,vB,reduceCtorEq,vC,vD,f6,f33,f34]
  by_cases hlt : i < n
  ·have hd : decide ((i : Int) < (n : Int))=true:=by rw [decide_eq_true_eq]; omega
   have hidx : idxAddrV 1 (.slice h.next 0 1 n n true) (.int .i64 (i : Int))=some (.ptr h.next i):=by simp [idxAddrV,hlt]
   have hst:=store_at (i:=i) (v:=AV.int .i64 (-1)) g1 (by rw [pinL_len hi]; exact hlt) rfl rfl
   rw [pinL_step hlt] at hst
   have w1 : IntKind.i64.wrap ((i : Int) + 1)=((i + 1 : Nat) : Int):=by rw [wrap_i64 (by omega) (by omega)]; rfl
   simp only [hd,vms,vmc,vA,vB,reduceCtorEq,vC,vD,f6,f33,f34,nb,fa2,lc g3,hidx,hst,w1]
   refine ⟨n - (i + 1),by omega,i + 1,rfl,by omega,q.set (Nat.le_refl _) _,lo.set (lo _ _ g1) _,get_set_same,?_,?_,trivial,trivial,rfl⟩
   ·rw [AH.get_set,if_neg (by omega)]; exact g2
   ·rw [AH.get_set,if_neg (by omega)]; exact g3
  ·have hd : decide ((i : Int) < (n : Int))=false:=by rw [decide_eq_false_iff_not]; omega
   have : i=n:=by omega
   subst this
   simp only [hd,vms,vmc,vA,vB,reduceCtorEq,vC,vD,f6]
   refine ⟨h.next + 1 + 1,EdF (h.next + 1 + 1) (.slice h.next 0 1 i i true) (.slice (h.next + 1) 0 1 i i true) (List.replicate i (⟨-1,[]⟩,.nilSlice)),rfl,⟨_,_,List.replicate i (⟨-1,[]⟩,.nilSlice),⟨g3,by simp [newEp],?_,?_,?_,?_,?_,?_,?_,?_,?_⟩,fun o => Iff.rfl⟩,q,?_,lo⟩
   ·refine .inr ⟨h.next,i,true,pinL i i,by simp [pinC],g1,by rw [pinL_len (Nat.le_refl _),Nat.mul_one],by simp [pinC],?_⟩
    intro j x hx
    simp only [pinC,List.map_replicate,List.getElem?_replicate] at hx
    split at hx
    ·rename_i hj
     cases hx
     refine ⟨rfl,fun t y hy => ?_⟩
     cases t with
     | zero =>
      simp at hy; subst hy
      simp only [pinL,Nat.sub_self,List.replicate_zero,List.append_nil,Nat.mul_one,Nat.add_zero,List.getElem?_replicate]
      rw [if_pos hj]
     | succ t => simp at hy
    ·cases hx
   ·refine .inr ⟨h.next + 1,i,true,List.replicate i .nilSlice,by simp [rowC],g2,by simp,by simp [rowC],?_⟩
    intro j x hx
    simp only [rowC,List.map_replicate,List.getElem?_replicate] at hx
    split at hx
    ·rename_i hj
     cases hx
     refine ⟨rfl,fun t y hy => ?_⟩
     cases t with
     | zero =>
      simp at hy; subst hy
      simp only [Nat.mul_one,Nat.add_zero,List.getElem?_replicate]
      rw [if_pos hj]
     | succ t => simp at hy
    ·cases hx
   ·intro p hp
    have:=(List.mem_replicate.1 hp).2
    subst this
    exact .inl ⟨rfl,rfl⟩
   ·simp [objs]; omega
   ·simp [objs]
   ·intro o ho; simp [objs] at ho ⊢; omega
   ·intro p hp o ho
    have:=(List.mem_replicate.1 hp).2
    subst this
    simp [objs] at ho
   ·intro a b p q2 hab hp hq2 o ho
    have:=(List.mem_replicate.1 (List.mem_of_getElem? hp)).2
    subst this
    simp [objs] at ho
   ·refine ⟨Int.le_refl _,by show (0 : Int)≤_; omega,⟨by show 0≤l; omega,h4⟩,by simpa [newEp] using h2,?_,?_⟩
    ·intro c hc
     have:=(List.mem_replicate.1 hc).2
     subst this
     show (0 : Int)≤l; omega
    ·intro c hc q2 hq2
     have:=(List.mem_replicate.1 hc).2
     subst this
     simp at hq2
   ·rintro o (rfl | h5 | h5 | ⟨p,hp,h5⟩)
    ·omega
    ·simp [objs] at h5; omega
    ·simp [objs] at h5; omega
    ·have:=(List.mem_replicate.1 hp).2
     subst this
     simp [objs] at h5
 all_goals (simp only [vms,vmc,vA,vB,reduceCtorEq,vC,vD] <;> rfl)
theorem dhigh4 (k : Fits T) : Gives T 76 [.int .i64 4] h fun r h' => r = .int .i64 256∧h'=h:=by
 refine gives_func (k.env _ (by decide)) (k.at (fn:=a76) rfl) rfl ?_
 simp only [a76,c76,vms,vmc,vA,vB,reduceCtorEq,vC,vD,show ((4 : Int) == 1)=false from rfl,show ((4 : Int) == 2)=false from rfl,show ((4 : Int) == 3)=false from rfl,show ((4 : Int) == 4)=true from rfl]
 exact ⟨trivial,trivial⟩
theorem dright_root (k : Fits T) (hl : Low h) : Gives T 77 [rootN] h fun r h' => r = .bool true∧Quiet h h'∧Low h':=by
 refine gives_func (k.env _ (by decide)) (k.at (fn:=a77) rfl) rfl ?_
 have fa : ∀ j,fieldAddrV j (.ptr h.next 0)=some (.ptr h.next (0 + j)):=fun j => rfl
 have hg : (h.new (.cells [.int .i64 4,.int .u64 0,.str [],.nilSlice,.nilSlice] true)).get h.next=some (.cells [.int .i64 4,.int .u64 0,.str [],.nilSlice,.nilSlice] true):=get_new_same
 have l0:=load_at hg (i:=0) rfl
 have l1:=load_at hg (i:=1) rfl
 have l2:=load_at hg (i:=2) rfl
 have l3:=load_at hg (i:=3) rfl
 have l4:=load_at hg (i:=4) rfl
 have b1 : binV .and (.int .u64 0) (.int .u64 3)=some (.int .u64 0):=rfl
 simp only [a77,c77,vms,vmc,vA,vB,reduceCtorEq,vC,vD,items_test,rootN,box_agg,fa,l0,l1,l2,l3,l4,Nat.zero_add,b1,show decide ((4 : Int) < 1)=false from rfl,show decide ((4 : Int) > 4)=false from rfl,show ((0 : Int) == 3)=false from rfl,show decide ((([] : List UInt8).length : Int) > 12)=false from rfl,show (((0 : Nat) : Int) != ((0 : Nat) : Int))=false from rfl]
 refine Gives.bind ((dhigh4 k).mono ?_)
 rintro _ _ ⟨rfl,rfl⟩
 simp only [vms,vmc,vA,vB,reduceCtorEq,vC,vD,items_test,show decide (((0 : Nat) : Int) > 256)=false from rfl]
 rw [items_look (look_want (by simp only [vms,vmc,vA,vB,reduceCtorEq,vC,vD]) (look_load (v := .nilSlice) (by simp only [vms,vmc,vA,vB,reduceCtorEq,vC,vD,fa,Nat.zero_add]; exact l3) (by simp only [vms,vmc,vA,vB,reduceCtorEq,vC,vD]) (by simp [AV.beq])))]
 simp only [vms,vmc,vA,vB,reduceCtorEq,vC,vD,items_test,fa,l0,l1,l2,l3,l4,Nat.zero_add]
 refine wpc_loop (fun m f h' => f.at 48 = .int .i64 0∧f.at 49 = .int .i64 0∧h'=h.new (.cells [.int .i64 4,.int .u64 0,.str [],.nilSlice,.nilSlice] true)) ?_ 0 _ _ ⟨?_,?_,rfl⟩
 ·rintro m f h' ⟨f48,f49,rfl⟩
  simp only [c77l0,vms,vmc,vA,vB,reduceCtorEq,vC,vD,f48,f49,show decide ((0 : Int) < 0)=false from rfl]
  exact ⟨trivial,(Quiet.refl h).new _,hl.new _⟩
 ·simp only [vms,vmc,vA,vB,reduceCtorEq,vC,vD]; rfl
 ·simp only [vms,vmc,vA,vB,reduceCtorEq,vC,vD]
theorem dwords0 (k : Fits T) (hl : Low h) : Gives T 79 [.str []] h fun r h' => r = .slice h.next 0 1 0 0 true∧h'=h.new (.cells [] true):=by
 refine gives_func (k.env _ (by decide)) (k.at (fn:=a79) rfl) rfl ?_
 have hm : mkSliceV h 1 8 [.int .u64 0] (.int .i64 0) (.int .i64 0)=some (.slice h.next 0 1 0 0 true,h.new (.cells [] true)):=rfl
 have w7 : IntKind.i64.wrap ((0 : Int) + 7)=7:=rfl
 have q7 : binV .quo (.int .i64 7) (.int .i64 8)=some (.int .i64 0):=rfl
 simp only [a79,c79,vms,vmc,vA,vB,reduceCtorEq,vC,vD,show ((([] : List UInt8).length : Nat) : Int)=0 from rfl,w7,q7,hm]
 refine wpc_loop (fun m f h' => f.at 0 = .str []∧f.at 3 = .slice h.next 0 1 0 0 true∧f.at 4 = .int .i64 0∧h'=h.new (.cells [] true)) ?_ 0 _ _ ⟨?_,?_,?_,rfl⟩
 ·rintro m f h' ⟨f0,f3,f4,rfl⟩
  simp only [c79l0,vms,vmc,vA,vB,reduceCtorEq,vC,vD,f0,f3,f4,show ((([] : List UInt8).length : Nat) : Int)=0 from rfl,show decide ((0 : Int) < 0)=false from rfl]
  exact ⟨trivial,trivial⟩
 all_goals (simp only [vms,vmc,vA,vB,reduceCtorEq,vC,vD] <;> rfl)
theorem dhead_root (k : Fits T) (hl : Low h) : Gives T 78 [rootN] h fun r h' => ∃ o,r = .slice o 0 1 264 264 true∧h.next≤o∧h'.get o=some (.cells (wcells rootW) true)∧Quiet h h'∧Low h':=by
 refine gives_func (k.env _ (by decide)) (k.at (fn:=a78) rfl) rfl ?_
 have fa : ∀ j,fieldAddrV j (.ptr h.next 0)=some (.ptr h.next (0 + j)):=fun j => rfl
 have hg2 : (h.new (.cells [.int .i64 4,.int .u64 0,.str [],.nilSlice,.nilSlice] true)).get h.next=some (.cells [.int .i64 4,.int .u64 0,.str [],.nilSlice,.nilSlice] true):=get_new_same
 have lo2:=hl.new (.cells [.int .i64 4,.int .u64 0,.str [],.nilSlice,.nilSlice] true)
 have q2 : Quiet h (h.new (.cells [.int .i64 4,.int .u64 0,.str [],.nilSlice,.nilSlice] true)):=(Quiet.refl h).new _
 have hnn : h.next < (h.new (.cells [.int .i64 4,.int .u64 0,.str [],.nilSlice,.nilSlice] true)).next:=by rw [next_new]; omega
 simp only [a78,c78,vms,vmc,vA,vB,reduceCtorEq,vC,vD,rootN,box_agg]
 generalize (h.new (.cells [.int .i64 4,.int .u64 0,.str [],.nilSlice,.nilSlice] true))=h2 at hg2 lo2 q2 hnn
 simp only [vms,vmc,vA,vB,reduceCtorEq,vC,vD,fa,Nat.zero_add,load_at hg2 (i:=0) rfl]
 refine Gives.bind ((rsize_ok k (c:=4) (by decide)).mono ?_)
 rintro _ _ ⟨rfl,rfl⟩
 rename_i h2
 have hm : mkSliceV h2 1 8 [.int .u64 0] (.int .i64 (sizeN 4 : Nat)) (.int .i64 (sizeN 4 : Nat))=some (.slice h2.next 0 1 264 264 true,h2.new (.cells (List.replicate 264 (.int .u64 0)) true)):=by
  have:=mkSlice_nat (h:=h2) (sz:=1) (bytes:=8) (zero:=[.int .u64 0]) (k := .i64) (k' := .i64) (l:=264) (c:=264) (by decide) (by decide) (by decide)
  rw [rep_one] at this; exact this
 have hg3 : ∀ x : AObj,(h2.new x).get h.next=some (.cells [.int .i64 4,.int .u64 0,.str [],.nilSlice,.nilSlice] true):=fun x => by rw [AH.get_new,if_neg (by omega)]; exact hg2
 have hi0 : idxAddrV 1 (.slice h2.next 0 1 264 264 true) (.int .i64 0)=some (.ptr h2.next 0):=rfl
 have hi1 : idxAddrV 1 (.slice h2.next 0 1 264 264 true) (.int .i64 1)=some (.ptr h2.next 1):=rfl
 have st0:=store_int (h:=h2.new (.cells (List.replicate 264 (.int .u64 0)) true)) (o:=h2.next) (i:=0) (k := .u64) (n:=0) get_new_same (by simp)
 simp only [vms,vmc,vA,vB,reduceCtorEq,vC,vD,hm,fa,Nat.zero_add,load_at (hg3 _) (i:=1) rfl,hi0,st0]
 have hg4 : ∀ x y : AObj,((h2.new x).set h2.next y).get h.next=some (.cells [.int .i64 4,.int .u64 0,.str [],.nilSlice,.nilSlice] true):=fun x y => by rw [AH.get_set,if_neg (by omega)]; exact hg3 x
 have st1:=store_int (h:=(h2.new (.cells (List.replicate 264 (.int .u64 0)) true)).set h2.next (.cells ((List.replicate 264 (AV.int .u64 0)).set 0 (.int .u64 0)) true)) (o:=h2.next) (i:=1) (k := .u64) (n:=4) get_set_same (by simp)
 have b1 : binV .shl (.int .u64 0) (.int .u64 8)=some (.int .u64 0):=rfl
 have b2 : binV .or (.int .u64 4) (.int .u64 0)=some (.int .u64 4):=rfl
 have b3 : binV .shl (.int .u64 0) (.int .u64 16)=some (.int .u64 0):=rfl
 have w4 : IntKind.u64.wrap 4=4:=rfl
 have w0 : IntKind.u64.wrap 0=0:=rfl
 simp only [vms,vmc,vA,vB,reduceCtorEq,vC,vD,fa,Nat.zero_add,load_at (hg4 _ _) (i:=0) rfl,load_at (hg4 _ _) (i:=2) rfl,load_at (hg4 _ _) (i:=3) rfl,show ((([] : List UInt8).length : Nat) : Int)=0 from rfl,show ((0 : Nat) : Int)=0 from rfl,b1,b2,b3,w4,w0,hi1,st1]
 have hset : ((List.replicate 264 (AV.int .u64 0)).set 0 (.int .u64 0)).set 1 (.int .u64 4)=wcells rootW:=by rfl
 rw [hset]
 have q3 : Quiet h2 (((h2.new (.cells (List.replicate 264 (AV.int .u64 0)) true)).set h2.next (.cells ((List.replicate 264 (AV.int .u64 0)).set 0 (.int .u64 0)) true)).set h2.next (.cells (wcells rootW) true)):=(((Quiet.refl h2).new _).set (Nat.le_refl _) _).set (Nat.le_refl _) _
 have lo3 : Low (((h2.new (.cells (List.replicate 264 (AV.int .u64 0)) true)).set h2.next (.cells ((List.replicate 264 (AV.int .u64 0)).set 0 (.int .u64 0)) true)).set h2.next (.cells (wcells rootW) true)):=((lo2.new _).set (by rw [next_new]; omega) _).set (by rw [next_set,next_new]; omega) _
 have hw3 : (((h2.new (.cells (List.replicate 264 (AV.int .u64 0)) true)).set h2.next (.cells ((List.replicate 264 (AV.int .u64 0)).set 0 (.int .u64 0)) true)).set h2.next (.cells (wcells rootW) true)).get h2.next=some (.cells (wcells rootW) true):=get_set_same
 generalize (((h2.new (.cells (List.replicate 264 (AV.int .u64 0)) true)).set h2.next (.cells ((List.replicate 264 (AV.int .u64 0)).set 0 (.int .u64 0)) true)).set h2.next (.cells (wcells rootW) true))=h3 at q3 lo3 hw3
 have hg5 : h3.get h.next=some (.cells [.int .i64 4,.int .u64 0,.str [],.nilSlice,.nilSlice] true):=(q3.2 _ hnn (fun h => h)).trans hg2
 have hsl : slcV 1 (.slice h2.next 0 1 264 264 true) (some (.int .i64 2)) (some (.int .i64 4)) none=some (.slice h2.next 2 1 2 262 true):=rfl
 simp only [vms,vmc,vA,vB,reduceCtorEq,vC,vD,Option.map_none,hsl,fa,Nat.zero_add,load_at hg5 (i:=2) rfl]
 refine Gives.bind ((dwords0 k lo3).mono ?_)
 rintro _ _ ⟨rfl,rfl⟩
 have q4 : Quiet h3 (h3.new (.cells [] true)):=(Quiet.refl h3).new _
 have lo4:=lo3.new (.cells [] true)
 have hw4 : (h3.new (.cells [] true)).get h2.next=some (.cells (wcells rootW) true):=by
  rw [AH.get_new,if_neg (by have:=lo3 _ _ hw3; omega)]; exact hw3
 have hel : (h3.new (.cells [] true)).elems 1 (min 0 2) (.slice h3.next 0 1 0 0 true)=some []:=by
  simp only [AH.elems,AH.load,get_new_same]; rfl
 have hcp : copyV 1 (h3.new (.cells [] true)) (.slice h2.next 2 1 2 262 true) (.slice h3.next 0 1 0 0 true)=some (.int .i64 0,h3.new (.cells [] true)):=by
  simp only [copyV,len_slice,Option.bind_some,hel,if_true]
  rfl
 generalize (h3.new (.cells [] true))=h4 at q4 lo4 hw4 hcp
 simp only [vms,vmc,vA,vB,reduceCtorEq,vC,vD,hcp]
 exact ⟨_,rfl,by omega,hw4,(q2.trans q3).trans q4,lo4⟩
theorem denc_root (k : Fits T) (hl : Low h) : Gives T 44 [rootN] h fun r h' => ∃ o,r = .slice o 0 1 264 264 true∧h.next≤o∧h'.get o=some (.cells (wcells rootW) true)∧Quiet h h'∧Low h':=by
 refine gives_func (k.env _ (by decide)) (k.at (fn:=a44) rfl) rfl ?_
 have fa : ∀ j,fieldAddrV j (.ptr h.next 0)=some (.ptr h.next (0 + j)):=fun j => rfl
 have hg : (h.new (.cells [.int .i64 4,.int .u64 0,.str [],.nilSlice,.nilSlice] true)).get h.next=some (.cells [.int .i64 4,.int .u64 0,.str [],.nilSlice,.nilSlice] true):=get_new_same
 have lo1:=hl.new (.cells [.int .i64 4,.int .u64 0,.str [],.nilSlice,.nilSlice] true)
 have q1 : Quiet h (h.new (.cells [.int .i64 4,.int .u64 0,.str [],.nilSlice,.nilSlice] true)):=(Quiet.refl h).new _
 have hn1 : h.next < (h.new (.cells [.int .i64 4,.int .u64 0,.str [],.nilSlice,.nilSlice] true)).next:=by rw [next_new]; omega
 have hlen : ([AV.int .i64 4,.int .u64 0,.str [],.nilSlice,.nilSlice] : List AV).length=5:=rfl
 simp only [a44,c44,vms,vmc,vA,vB,reduceCtorEq,vC,vD,rootN,box_agg,load_all hg hlen]
 generalize (h.new (.cells [.int .i64 4,.int .u64 0,.str [],.nilSlice,.nilSlice] true))=h1 at hg lo1 q1 hn1
 refine Gives.bind ((dright_root k lo1).mono ?_)
 rintro _ h2 ⟨rfl,q2,lo2⟩
 have hg2 : h2.get h.next=some (.cells [.int .i64 4,.int .u64 0,.str [],.nilSlice,.nilSlice] true):=(q2.2 _ hn1 (fun h => h)).trans hg
 simp only [vms,vmc,vA,vB,reduceCtorEq,vC,vD,load_all hg2 hlen]
 refine Gives.bind ((dhead_root k lo2).mono ?_)
 rintro _ h3 ⟨o,rfl,ho,hw,q3,lo3⟩
 have hn2 : h.next < h2.next:=lo2 _ _ hg2
 have hg3 : h3.get h.next=some (.cells [.int .i64 4,.int .u64 0,.str [],.nilSlice,.nilSlice] true):=(q3.2 _ hn2 (fun h => h)).trans hg2
 simp only [vms,vmc,vA,vB,reduceCtorEq,vC,vD,fa,Nat.zero_add,load_at hg3 (i:=0) rfl,load_at hg3 (i:=3) rfl,show ((4 : Int) == 1)=false from rfl,show ((4 : Int) == 2)=false from rfl,show ((4 : Int) == 3)=false from rfl,show ((4 : Int) == 4)=true from rfl]
 refine wpc_loop (fun m f h' => f.at 3 = .slice o 0 1 264 264 true∧f.at 114 = .int .i64 0∧f.at 115 = .int .i64 0∧h'=h3) ?_ 0 _ _ ⟨?_,?_,?_,rfl⟩
 ·rintro m f h' ⟨f3,f114,f115,rfl⟩
  simp only [c44l3,vms,vmc,vA,vB,reduceCtorEq,vC,vD,f3,f114,f115,show decide ((0 : Int) < 0)=false from rfl]
  exact ⟨_,rfl,by omega,hw,(q1.trans q2).trans q3,lo3⟩
 all_goals (simp only [vms,vmc,vA,vB,reduceCtorEq,vC,vD] <;> rfl)
end Go.Proofs.Ytagcnjhpdopkiaa

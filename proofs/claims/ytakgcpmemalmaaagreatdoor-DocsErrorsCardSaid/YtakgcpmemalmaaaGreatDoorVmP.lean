/- Regions whose order is drawn: one order is run, and what floats is looked at again; then every order comes to the same. -/
import Derived.Test.YtakgcpmemalmaaaGreatDoorVmM
namespace Go.Vm
open Go.RowKit
set_option linter.unusedSimpArgs false
set_option linter.unusedVariables false
inductive Plan where
 | last (ops looks : List Nat)
 | stage (ops looks : List Nat) (w : Nat) (rest : Plan)
def stuckOper : AOper:=⟨none,.stuck,none⟩
def nth (xs : List AOper) (i : Nat) : AOper:=xs.getD i stuckOper
def Plan.items (xs : List AOper) : Plan→List DItem
 | .last ops looks => (ops.map fun i => .op (nth xs i)) ++ (looks.map fun i => .look (nth xs i))
 | .stage ops looks w rest => (ops.map fun i => .op (nth xs i)) ++ ((looks.map fun i => .look (nth xs i)) ++ .op (nth xs w) :: rest.items xs)
def dstsOk (xs : List AOper) : Bool:=(List.range xs.length).all fun i => match (nth xs i).dst with
 | none => true
 | some d => (List.range xs.length).all fun j => i == j || !((nth xs j).dst == some d)
def readsOk (M : List Nat) (xs : List AOper) (E i : Nat) : Bool :=
 (nth xs i).reads.all fun t => (List.range xs.length).all fun y => !((nth xs y).dst == some t) ||
  (if E.testBit y then has M i y else !(has M i y) && ((nth xs i).op.cls == 0 || (nth xs i).op.cls == 3) && (y == i || has M y i))
def prevOk (M : List Nat) (prev : Option Nat) (i : Nat) : Bool:=match prev with
 | none => true
 | some v => has M i v
def opOk (M : List Nat) (xs : List AOper) (prev : Option Nat) (E i : Nat) : Bool:=decide (i < xs.length) && !(E.testBit i) && readsOk M xs E i && prevOk M prev i
def nextG (xs : List AOper) (G i : Nat) : Nat:=if (nth xs i).op.cls=1 then G ||| 1 <<< i else if (nth xs i).op.cls=0 then G else 0
def stageOk (M : List Nat) (xs : List AOper) (prev : Option Nat) : List Nat→Nat→Nat→Option (Nat×Nat)
 | [],E,G => some (E,G)
 | i :: r,E,G => if opOk M xs prev E i && decide ((nth xs i).op.cls < 3) then stageOk M xs prev r (E ||| 1 <<< i) (nextG xs G i) else none
def looksOk (M : List Nat) (xs : List AOper) (prev : Option Nat) (E G : Nat) (looks : List Nat) : Bool:=(List.range xs.length).all fun i =>
 !(E.testBit i) || (nth xs i).op.cls == 0 || (nth xs i).op.cls == 3 || G.testBit i || looks.contains i || (match prev with | some v => has M v i | none => false)
def planOk (M : List Nat) (xs : List AOper) : Plan→Option Nat→Nat→Bool
 | .last ops looks,prev,E => match stageOk M xs prev ops E 0 with
  | some (E',G) => looksOk M xs prev E' G looks && (List.range xs.length).all (E'.testBit ·)
  | none => false
 | .stage ops looks w rest,prev,E => match stageOk M xs prev ops E 0 with
  | some (E',G) => looksOk M xs prev E' G looks && opOk M xs prev E' w && (nth xs w).op.cls == 3 && planOk M xs rest (some w) (E' ||| 1 <<< w)
  | none => false
def edgesOk (ops : Array Oper) : Bool:=(List.range ops.size).all fun i => match ops[i]? with
 | some o => o.after.all fun e => !(Region.binds .any e) || decide (e.on < i)
 | none => true
theorem runItems_append (call : Handler) : ∀ (a b : List DItem) (f : Fr) (h : AH),runItems call (a ++ b) f h=(runItems call a f h).bind fun p => runItems call b p.1 p.2
 | [],_,_,_ => rfl
 | .op o :: r,b,f,h => by
  simp only [List.cons_append,runItems]
  cases o.run call f h with
  | none => rfl
  | some p => exact runItems_append call r b p.1 p.2
 | .look o :: r,b,f,h => by
  simp only [List.cons_append,runItems]
  split
  ·exact runItems_append call r b f h
  ·rfl
theorem runItems_looks {call : Handler} {xs : List AOper} : ∀ {looks : List Nat} {f f' : Fr} {h h' : AH},runItems call (looks.map fun i => .look (nth xs i)) f h=some (f',h')→f'=f∧h'=h∧∀ i∈looks,(nth xs i).lookAgain f h=true
 | [],f,f',h,h',hr => by cases hr; exact ⟨rfl,rfl,by simp⟩
 | i :: r,f,f',h,h',hr => by
  simp only [List.map_cons,runItems] at hr
  split at hr
  ·rename_i hl
   obtain ⟨h1,h2,h3⟩:=runItems_looks hr
   exact ⟨h1,h2,fun j hj => by rcases List.mem_cons.1 hj with e | e; exact e ▸ hl; exact h3 j e⟩
  ·cases hr
section
variable {P : Program} {n : Nat} {ops : Array Oper} {call : Handler}
abbrev comp (P : Program) (n : Nat) (ops : Array Oper) : List AOper:=ops.toList.map (cOper P n ops)
theorem comp_length : (comp P n ops).length=ops.size:=by simp [comp]
theorem nth_comp {i : Nat} {o : Oper} (h : ops[i]?=some o) : nth (comp P n ops) i=cOper P n ops o:=by
 simp [nth,comp,List.getD_eq_getElem?_getD,h]
def Agree (M : List Nat) (xs : List AOper) (f₀ F : Fr) (i : Nat) (fr : Fr) : Prop:=∀ t∈(nth xs i).reads,
 ((∃ y,y < xs.length∧(nth xs y).dst=some t∧has M i y=false)→fr.at t=f₀.at t) ∧
 ((∀ y,y < xs.length→(nth xs y).dst=some t→has M i y=true)→fr.at t=F.at t)
structure CI (M : List Nat) (xs : List AOper) (call : Handler) (f₀ : Fr) (n₀ : Nat) (E G : Nat) (F : Fr) (H : AH) (pid : Nat→Option Nat) : Prop where
 lt : ∀ i,E.testBit i=true→i < xs.length
 z : ∀ t,(∀ i,E.testBit i=true→(nth xs i).dst≠some t)→F.at t=f₀.at t
 rd : ∀ i,E.testBit i=true→∀ t∈(nth xs i).reads,∀ y,y < xs.length→(nth xs y).dst=some t →
  (has M i y=true∧E.testBit y=true)∨(has M i y=false∧((nth xs i).op.cls=0∨(nth xs i).op.cls=3)∧(y=i∨has M y i=true))
 pu : ∀ i,E.testBit i=true→(nth xs i).op.cls=0→∀ fr,Agree M xs f₀ F i fr→∀ H',∃ v,(nth xs i).run call fr H'=some (fr.put (nth xs i).dst v,H')∧∀ d,(nth xs i).dst=some d→v=F.at d
 ma : ∀ i,E.testBit i=true→(nth xs i).op.cls=2→∀ fr,Agree M xs f₀ F i fr →
  (wantedV fr (nth xs i).guard=some false∧∀ d,(nth xs i).dst=some d→F.at d = .none) ∨
  (wantedV fr (nth xs i).guard=some true∧∃ (mk : Nat→AV) (obj : AObj) (p : Nat),(∀ q,objOf (mk q)=some q)∧(∀ h₂,(nth xs i).op.eval fr h₂=some (.val (mk h₂.next) (h₂.new obj)))∧(∀ d,(nth xs i).dst=some d→F.at d=mk p)∧pid i=some p)
 pi : ∀ i p,pid i=some p→E.testBit i=true∧n₀≤p∧p < H.next
 pd : ∀ i j p,pid i=some p→pid j=some p→i=j
 nx : n₀≤H.next
 ge : ∀ i,G.testBit i=true→E.testBit i=true∧∀ fr,Agree M xs f₀ F i fr→∃ v,(nth xs i).run call fr H=some (fr.put (nth xs i).dst v,H)∧∀ d,(nth xs i).dst=some d→v=F.at d
def FL (xs : List AOper) (E : Nat) (L : Nat→Prop) (f₀ F fl : Fr) : Prop:=∀ t,
 ((∃ i,E.testBit i=true∧¬ L i∧(nth xs i).dst=some t)→fl.at t=f₀.at t) ∧
 ((¬ ∃ i,E.testBit i=true∧¬ L i∧(nth xs i).dst=some t)→fl.at t=F.at t)
theorem dstsOk_spec {xs : List AOper} (h : dstsOk xs=true) {i j t : Nat} (hi : i < xs.length) (hj : j < xs.length) (h1 : (nth xs i).dst=some t) (h2 : (nth xs j).dst=some t) : i=j:=by
 unfold dstsOk at h
 rw [List.all_eq_true] at h
 have:=h i (by simpa using hi)
 rw [h1] at this
 simp only at this
 rw [List.all_eq_true] at this
 have:=this j (by simpa using hj)
 simpa [h2] using this
theorem testBit_add {E w i : Nat} : (E ||| 1 <<< w).testBit i=true↔E.testBit i=true∨w=i:=by
 rw [Nat.testBit_or,testBit_one_shl]; simp
theorem Fr.at_put_ne {f : Fr} {d : Option Nat} {v : AV} {t : Nat} (h : d≠some t) : (f.put d v).at t=f.at t:=by
 cases d with
 | none => rfl
 | some i => rw [Fr.at_put,if_neg (fun e => h (by rw [e]))]
theorem Fr.at_put_self {f : Fr} {d : Option Nat} {v : AV} {t : Nat} (h : d=some t) : (f.put d v).at t=v:=by
 subst h; rw [Fr.at_put,if_pos rfl]
variable {M : List Nat} {xs : List AOper} {f₀ : Fr} {n₀ E G : Nat} {F : Fr} {H : AH} {pid : Nat→Option Nat}
theorem readsOk_spec {i : Nat} (h : readsOk M xs E i=true) {t y : Nat} (ht : t∈(nth xs i).reads) (hy : y < xs.length) (hd : (nth xs y).dst=some t) :
  (has M i y=true∧E.testBit y=true)∨(has M i y=false∧E.testBit y=false∧((nth xs i).op.cls=0∨(nth xs i).op.cls=3)∧(y=i∨has M y i=true)):=by
 unfold readsOk at h
 rw [List.all_eq_true] at h
 have:=h t ht
 rw [List.all_eq_true] at this
 have:=this y (by simpa using hy)
 rw [hd] at this
 simp only [beq_self_eq_true,Bool.not_true,Bool.false_or] at this
 split at this
 ·rename_i he; exact .inl ⟨this,he⟩
 ·rename_i he
  simp only [Bool.and_eq_true,Bool.not_eq_true',Bool.or_eq_true,beq_iff_eq] at this
  exact .inr ⟨this.1.1,by simpa using he,this.1.2,this.2⟩
theorem CI.agree (c : CI M xs call f₀ n₀ E G F H pid) (hD : dstsOk xs=true) {i : Nat} (hr : readsOk M xs E i=true) : Agree M xs f₀ F i F:=by
 intro t ht
 refine ⟨?_,fun _ => rfl⟩
 rintro ⟨y,hy,hd,hm⟩
 refine c.z t ?_
 intro j hj hdj
 have : y=j:=dstsOk_spec hD hy (c.lt j hj) hd hdj
 subst this
 rcases readsOk_spec hr ht hy hd with ⟨h1,_⟩ | ⟨_,h2,_⟩
 ·rw [hm] at h1; cases h1
 ·rw [hj] at h2; cases h2
theorem Agree.of_put (c : CI M xs call f₀ n₀ E G F H pid) (hD : dstsOk xs=true) {i : Nat} (hlt : i < xs.length) (hE : E.testBit i=false) {j : Nat} (hj : E.testBit j=true) {v : AV} {fr : Fr}
  (h : Agree M xs f₀ (F.put (nth xs i).dst v) j fr) : Agree M xs f₀ F j fr:=by
 intro t ht
 refine ⟨(h t ht).1,fun hn => ?_⟩
 rw [(h t ht).2 hn]
 refine Fr.at_put_ne ?_
 intro hd
 have hm:=hn i hlt hd
 rcases c.rd j hj t ht i hlt hd with ⟨_,h2⟩ | ⟨h1,_⟩
 ·rw [hE] at h2; cases h2
 ·rw [hm] at h1; cases h1
theorem put_other (c : CI M xs call f₀ n₀ E G F H pid) (hD : dstsOk xs=true) {i : Nat} (hlt : i < xs.length) (hE : E.testBit i=false) {j : Nat} (hj : E.testBit j=true) {v : AV} {d : Nat} (hd : (nth xs j).dst=some d) :
  (F.put (nth xs i).dst v).at d=F.at d:=by
 refine Fr.at_put_ne ?_
 intro hi
 have:=dstsOk_spec hD hlt (c.lt j hj) hi hd
 subst this
 rw [hj] at hE; cases hE
theorem CI.step (c : CI M xs call f₀ n₀ E G F H pid) (hD : dstsOk xs=true) {i : Nat} (hlt : i < xs.length) (hE : E.testBit i=false) (hr : readsOk M xs E i=true) {v : AV} {H' : AH} {G' : Nat} (hnx : H.next≤H'.next)
  (hge : ∀ j,G'.testBit j=true→(G.testBit j=true∧H'=H)∨(j=i∧∀ fr,Agree M xs f₀ F i fr→(nth xs i).run call fr H'=some (fr.put (nth xs i).dst v,H')))
  (hpu : (nth xs i).op.cls=0→∀ fr,Agree M xs f₀ F i fr→∀ H',(nth xs i).run call fr H'=some (fr.put (nth xs i).dst v,H'))
  {pid' : Nat→Option Nat} (hp1 : ∀ j,j≠i→pid' j=pid j) (hp2 : ∀ p,pid' i=some p→p=H.next∧p < H'.next)
  (hma : (nth xs i).op.cls=2→∀ fr,Agree M xs f₀ F i fr→(wantedV fr (nth xs i).guard=some false∧v = .none) ∨
   (wantedV fr (nth xs i).guard=some true∧∃ (mk : Nat→AV) (obj : AObj) (p : Nat),(∀ q,objOf (mk q)=some q)∧(∀ h₂,(nth xs i).op.eval fr h₂=some (.val (mk h₂.next) (h₂.new obj)))∧v=mk p∧pid' i=some p)) :
  CI M xs call f₀ n₀ (E ||| 1 <<< i) G' (F.put (nth xs i).dst v) H' pid':=by
 have hself : Agree M xs f₀ (F.put (nth xs i).dst v) i F:=by
  intro t ht
  refine ⟨(c.agree hD hr t ht).1,fun hn => ?_⟩
  by_cases hd : (nth xs i).dst=some t
  ·have hm:=hn i hlt hd
   rcases readsOk_spec hr ht hlt hd with ⟨_,h2⟩ | ⟨h1,_⟩
   ·rw [hE] at h2; cases h2
   ·rw [hm] at h1; cases h1
  ·rw [Fr.at_put_ne hd]
 have hback : ∀ fr,Agree M xs f₀ (F.put (nth xs i).dst v) i fr→Agree M xs f₀ F i fr:=by
  intro fr h t ht
  refine ⟨(h t ht).1,fun hn => ?_⟩
  rw [(h t ht).2 hn]
  exact ((hself t ht).2 hn).symm
 constructor
 ·intro j hj
  rcases testBit_add.1 hj with h | h
  ·exact c.lt j h
  ·exact h ▸ hlt
 ·intro t ht
  rw [Fr.at_put_ne (ht i (testBit_add.2 (.inr rfl)))]
  exact c.z t fun j hj => ht j (testBit_add.2 (.inl hj))
 ·intro j hj t ht y hy hd
  rcases testBit_add.1 hj with h | h
  ·rcases c.rd j h t ht y hy hd with ⟨h1,h2⟩ | h1
   ·exact .inl ⟨h1,testBit_add.2 (.inl h2)⟩
   ·exact .inr h1
  ·subst h
   rcases readsOk_spec hr ht hy hd with ⟨h1,h2⟩ | ⟨h1,_,h3⟩
   ·exact .inl ⟨h1,testBit_add.2 (.inl h2)⟩
   ·exact .inr ⟨h1,h3⟩
 ·intro j hj hc fr ha H2
  rcases testBit_add.1 hj with h | h
  ·obtain ⟨u,h1,h2⟩:=c.pu j h hc fr (ha.of_put c hD hlt hE h) H2
   exact ⟨u,h1,fun d hd => by rw [h2 d hd,put_other c hD hlt hE h hd]⟩
  ·subst h
   exact ⟨v,hpu hc fr (hback fr ha) H2,fun d hd => (Fr.at_put_self hd).symm⟩
 ·intro j hj hc fr ha
  rcases testBit_add.1 hj with h | h
  ·have hne : j≠i:=by intro e; subst e; rw [h] at hE; cases hE
   rcases c.ma j h hc fr (ha.of_put c hD hlt hE h) with ⟨h1,h2⟩ | ⟨h1,mk,obj,p,h2,h3,h4,h5⟩
   ·exact .inl ⟨h1,fun d hd => by rw [put_other c hD hlt hE h hd]; exact h2 d hd⟩
   ·exact .inr ⟨h1,mk,obj,p,h2,h3,fun d hd => by rw [put_other c hD hlt hE h hd]; exact h4 d hd,by rw [hp1 j hne]; exact h5⟩
  ·subst h
   rcases hma hc fr (hback fr ha) with ⟨h1,h2⟩ | ⟨h1,mk,obj,p,h2,h3,h4,h5⟩
   ·exact .inl ⟨h1,fun d hd => by rw [Fr.at_put_self hd]; exact h2⟩
   ·exact .inr ⟨h1,mk,obj,p,h2,h3,fun d hd => by rw [Fr.at_put_self hd]; exact h4,h5⟩
 ·intro j p hj
  by_cases hji : j=i
  ·subst hji
   obtain ⟨h1,h2⟩:=hp2 p hj
   exact ⟨testBit_add.2 (.inr rfl),by have:=c.nx; omega,h2⟩
  ·rw [hp1 j hji] at hj
   obtain ⟨h1,h2,h3⟩:=c.pi j p hj
   exact ⟨testBit_add.2 (.inl h1),h2,by omega⟩
 ·intro j k p hj hk
  by_cases hji : j=i
  ·subst hji
   by_cases hkj : k=j
   ·exact hkj.symm
   ·rw [hp1 k hkj] at hk
    have h1:=(c.pi k p hk).2.2
    have h2:=(hp2 p hj).1
    omega
  ·by_cases hki : k=i
   ·subst hki
    rw [hp1 j hji] at hj
    have h1:=(c.pi j p hj).2.2
    have h2:=(hp2 p hk).1
    omega
   ·rw [hp1 j hji] at hj
    rw [hp1 k hki] at hk
    exact c.pd j k p hj hk
 ·have:=c.nx; omega
 ·intro j hj
  rcases hge j hj with ⟨h,rfl⟩ | ⟨rfl,h⟩
  ·obtain ⟨h1,h2⟩:=c.ge j h
   refine ⟨testBit_add.2 (.inl h1),fun fr ha => ?_⟩
   obtain ⟨u,h3,h4⟩:=h2 fr (ha.of_put c hD hlt hE h1)
   exact ⟨u,h3,fun d hd => by rw [h4 d hd,put_other c hD hlt hE h1 hd]⟩
  ·exact ⟨testBit_add.2 (.inr rfl),fun fr ha => ⟨v,h fr (hback fr ha),fun d hd => (Fr.at_put_self hd).symm⟩⟩
end
end Go.Vm
/- Regions whose order is drawn: the proof. -/
namespace Go.Vm
open Go.RowKit
set_option linter.unusedSimpArgs false
set_option linter.unusedVariables false
section
variable {P : Program} {n : Nat} {ops : Array Oper} {call : Handler} {M : List Nat} {xs : List AOper} {f₀ : Fr} {n₀ E G : Nat} {F : Fr} {H : AH} {pid : Nat→Option Nat}
theorem Agree.eq {i : Nat} {f g : Fr} (h : Agree M xs f₀ F i f) (k : Agree M xs f₀ F i g) : ∀ t∈(nth xs i).reads,f.at t=g.at t:=by
 intro t ht
 by_cases e : ∃ y,y < xs.length∧(nth xs y).dst=some t∧has M i y=false
 ·rw [(h t ht).1 e,(k t ht).1 e]
 ·have e' : ∀ y,y < xs.length→(nth xs y).dst=some t→has M i y=true:=by
   intro y hy hd
   cases hm : has M i y
   ·exact absurd ⟨y,hy,hd,hm⟩ e
   ·rfl
  rw [(h t ht).2 e',(k t ht).2 e']
theorem CI.agree_late (c : CI M xs call f₀ n₀ E G F H pid) {i : Nat} (hi : E.testBit i=true) (hc : (nth xs i).op.cls≠0∧(nth xs i).op.cls≠3) : Agree M xs f₀ F i F:=by
 intro t ht
 refine ⟨?_,fun _ => rfl⟩
 rintro ⟨y,hy,hd,hm⟩
 rcases c.rd i hi t ht y hy hd with ⟨h1,_⟩ | ⟨_,h2,_⟩
 ·rw [hm] at h1; cases h1
 ·rcases h2 with h2 | h2
  ·exact absurd h2 hc.1
  ·exact absurd h2 hc.2
theorem canon_step {oi : Oper} {F' : Fr} {H' : AH} (hr : (cOper P n ops oi).run call F H=some (F',H')) (hc : (cOper P n ops oi).op.cls < 3) :
  ∃ v,F'=F.put (cOper P n ops oi).dst v ∧
   ((H'=H∧((cOper P n ops oi).op.cls=0→∀ H2,(cOper P n ops oi).run call F H2=some (F.put (cOper P n ops oi).dst v,H2))∧((cOper P n ops oi).op.cls=2→wantedV F (cOper P n ops oi).guard=some false∧v = .none)) ∨
    ((cOper P n ops oi).op.cls=2∧wantedV F (cOper P n ops oi).guard=some true∧∃ (mk : Nat→AV) (obj : AObj),(∀ q,objOf (mk q)=some q) ∧
     (∀ h₂,(cOper P n ops oi).op.eval F h₂=some (.val (mk h₂.next) (h₂.new obj)))∧v=mk H.next∧H'=H.new obj)):=by
 obtain ⟨g,x,hg,hx,hd,he⟩:=cOper_inv hr
 rw [he] at hr hc ⊢
 simp only at hc ⊢
 have hok : ClsOk P oi x:=cOp_ok hx
 unfold AOper.run at hr
 simp only at hr
 cases hw : wantedV F g with
 | none => simp [hw] at hr
 | some b =>
  cases b
  ·simp only [hw,Option.some.injEq,Prod.mk.injEq] at hr
   obtain ⟨rfl,rfl⟩:=hr
   exact ⟨.none,rfl,.inl ⟨rfl,fun _ H2 => by simp [AOper.run,hw],fun _ => ⟨rfl,rfl⟩⟩⟩
  ·simp only [hw] at hr
   cases hev : x.eval F H with
   | none => simp [hev] at hr
   | some res =>
    unfold ClsOk at hok
    split at hok
    ·rename_i hcl
     obtain ⟨v,rfl,hv2,_⟩:=hok F H res hev
     simp only [hev,Option.some.injEq,Prod.mk.injEq] at hr
     obtain ⟨rfl,rfl⟩:=hr
     exact ⟨v,rfl,.inl ⟨rfl,fun _ H2 => by simp [AOper.run,hw,hv2 H2],fun h2 => by rw [hcl] at h2; cases h2⟩⟩
    ·rename_i hcl
     obtain ⟨v,rfl,_⟩:=hok F H res hev
     simp only [hev,Option.some.injEq,Prod.mk.injEq] at hr
     obtain ⟨rfl,rfl⟩:=hr
     exact ⟨v,rfl,.inl ⟨rfl,(fun h0 => by rw [hcl] at h0; cases h0),(fun h2 => by rw [hcl] at h2; cases h2)⟩⟩
    ·rename_i hcl
     obtain ⟨mk,obj,rfl,h1,h2,_⟩:=hok F H res hev
     simp only [hev,Option.some.injEq,Prod.mk.injEq] at hr
     obtain ⟨rfl,rfl⟩:=hr
     exact ⟨_,rfl,.inr ⟨hcl,rfl,mk,obj,h1,h2,rfl,rfl⟩⟩
    ·rename_i h0 h1 h2
     exfalso
     have : x.cls=0∨x.cls=1∨x.cls=2:=by omega
     rcases this with e | e | e
     ·exact h0 e
     ·exact h1 e
     ·exact h2 e
structure CC {π : Pin} (D : List Deferred) (n : Nat) (N : Keep π) (w₀ : World) (M : List Nat) (xs : List AOper) (call : Handler) (f₀ : Fr) (n₀ : Nat) (μ₀ : Inj) (E G : Nat) (F : Fr) (H : AH) (pid : Nat→Option Nat) (L : Nat→Prop) (fl : Fr) (μ : Inj) (a : Act) (w : World) : Prop where
 ci : CI M xs call f₀ n₀ E G F H pid
 fle : FL xs E L f₀ F fl
 r : R N w₀ μ H w
 fr : FRel D n μ fl a
 sub : ∀ i,L i→E.testBit i=true
 pend : ∀ i p,¬ L i→pid i=some p→μ p=none
 ext : Inj.Ext n₀ H.next μ₀ μ
 wr : ∀ i,E.testBit i=true→(nth xs i).op.cls=3→L i
variable {π : Pin} {D : List Deferred} {N : Keep π} {w₀ : World} {μ₀ μ : Inj} {L : Nat→Prop} {fl : Fr} {a : Act} {w : World}
theorem opOk_spec {prev : Option Nat} {i : Nat} (h : opOk M xs prev E i=true) : i < xs.length∧E.testBit i=false∧readsOk M xs E i=true∧prevOk M prev i=true:=by
 simp only [opOk,Bool.and_eq_true,decide_eq_true_eq,Bool.not_eq_true'] at h
 exact ⟨h.1.1.1,h.1.1.2,h.1.2,h.2⟩
theorem FL.step (c : CI M xs call f₀ n₀ E G F H pid) (hD : dstsOk xs=true) {i : Nat} (hlt : i < xs.length) (hE : E.testBit i=false) (hL : ¬ L i) {v : AV} (h : FL xs E L f₀ F fl) : FL xs (E ||| 1 <<< i) L f₀ (F.put (nth xs i).dst v) fl:=by
 intro t
 have hz : (nth xs i).dst=some t→fl.at t=f₀.at t:=by
  intro hd
  have hno : ¬ ∃ j,E.testBit j=true∧¬ L j∧(nth xs j).dst=some t:=by
   rintro ⟨j,hj,_,hdj⟩
   have:=dstsOk_spec hD hlt (c.lt j hj) hd hdj
   subst this
   rw [hE] at hj; cases hj
  rw [(h t).2 hno]
  refine c.z t fun j hj hdj => ?_
  have:=dstsOk_spec hD hlt (c.lt j hj) hd hdj
  subst this
  rw [hE] at hj; cases hj
 constructor
 ·rintro ⟨j,hj,hl,hd⟩
  rcases testBit_add.1 hj with h' | h'
  ·exact (h t).1 ⟨j,h',hl,hd⟩
  ·subst h'; exact hz hd
 ·intro hno
  by_cases hd : (nth xs i).dst=some t
  ·exact absurd ⟨i,testBit_add.2 (.inr rfl),hL,hd⟩ hno
  ·rw [Fr.at_put_ne hd]
   exact (h t).2 fun ⟨j,hj,hl,hdj⟩ => hno ⟨j,testBit_add.2 (.inl hj),hl,hdj⟩
theorem nth_inv (hxs : xs=comp P n ops) {i : Nat} (hi : i < xs.length) : ∃ oi,ops[i]?=some oi∧nth xs i=cOper P n ops oi:=by
 subst hxs
 rw [comp_length] at hi
 exact ⟨ops[i],Array.getElem?_eq_getElem hi,nth_comp (Array.getElem?_eq_getElem hi)⟩
theorem CC.op (c : CC D n N w₀ M xs call f₀ n₀ μ₀ E G F H pid L fl μ a w) (hxs : xs=comp P n ops) (hD : dstsOk xs=true) {prev : Option Nat} {i : Nat} (ho : opOk M xs prev E i=true) (hc : (nth xs i).op.cls < 3) {F' : Fr} {H' : AH}
  (hr : (nth xs i).run call F H=some (F',H')) : ∃ pid',CC D n N w₀ M xs call f₀ n₀ μ₀ (E ||| 1 <<< i) (nextG xs G i) F' H' pid' L fl μ a w:=by
 obtain ⟨hlt,hE,hrd,_⟩:=opOk_spec ho
 have hL : ¬ L i:=fun h => by have:=c.sub i h; rw [hE] at this; cases this
 have hwr : ∀ j,(E ||| 1 <<< i).testBit j=true→(nth xs j).op.cls=3→L j:=by
  intro j hj h3
  rcases testBit_add.1 hj with h | h
  ·exact c.wr j h h3
  ·subst h; omega
 obtain ⟨oi,hoi,hn⟩:=nth_inv hxs hlt
 rw [hn] at hr hc
 obtain ⟨v,hF,hcase⟩:=canon_step hr hc
 rw [← hn] at hF hcase
 have hself:=c.ci.agree hD hrd
 have hpidE : pid i=none:=by
  cases hp : pid i with
  | none => rfl
  | some p => have:=(c.ci.pi i p hp).1; rw [hE] at this; cases this
 subst hF
 rcases hcase with ⟨rfl,hpu,hma⟩ | ⟨hcl,hw,mk,obj,hobj,hev,rfl,rfl⟩
 ·refine ⟨pid,c.ci.step hD hlt hE hrd (Nat.le_refl _) ?_ ?_ (fun _ _ => rfl) (fun p hp => by rw [hpidE] at hp; cases hp) ?_,c.fle.step c.ci hD hlt hE hL,c.r,c.fr,fun j hj => testBit_add.2 (.inl (c.sub j hj)),c.pend,c.ext,hwr⟩
  ·intro j hj
   unfold nextG at hj
   split at hj
   ·rcases testBit_add.1 hj with h | h
    ·exact .inl ⟨h,rfl⟩
    ·subst h
     refine .inr ⟨rfl,fun fr ha => ?_⟩
     obtain ⟨v',h1,h2⟩:=AOper.run_congr (call:=call) (h:=H') (f':=F.put (nth xs i).dst v) (h':=H') (hself.eq ha) (by rw [hn] at hr ⊢; exact hr)
     rw [h2]
     by_cases hd : (nth xs i).dst=none
     ·simp [hd,Fr.put]
     ·obtain ⟨d,hd⟩:=Option.ne_none_iff_exists'.1 hd
      have : v=v':=by
       have:=congrArg (fun z => Fr.at z d) h1
       simp only [Fr.at_put_self hd] at this
       exact this
      rw [this]
   ·split at hj
    ·exact .inl ⟨hj,rfl⟩
    ·simp at hj
  ·intro hc0 fr ha H2
   obtain ⟨v',h1,h2⟩:=AOper.run_congr (hself.eq ha) (hpu hc0 H2)
   have:=AOper.run_congr (ha.eq hself) h2
   -- the same value
   obtain ⟨v2,h3,h4⟩:=this
   rw [h2]
   by_cases hd : (nth xs i).dst=none
   ·simp [hd,Fr.put]
   ·obtain ⟨d,hd⟩:=Option.ne_none_iff_exists'.1 hd
    have : v=v':=by
     have:=congrArg (fun z => Fr.at z d) h1
     simp only [Fr.at_put_self hd] at this
     exact this
    rw [this]
  ·intro hc2 fr ha
   obtain ⟨h1,h2⟩:=hma hc2
   exact .inl ⟨by rw [← AOper.wanted_congr (hself.eq ha)]; exact h1,h2⟩
 ·refine ⟨fun j => if j=i then some H.next else pid j,c.ci.step hD hlt hE hrd (by simp [AH.next_new]) (fun j hj => by simp [nextG,hcl] at hj) ?_ (fun j hj => by simp [hj]) (fun p hp => by simp at hp; subst hp; simp [AH.next_new]) ?_,c.fle.step c.ci hD hlt hE hL,c.r.skip obj,c.fr,fun j hj => testBit_add.2 (.inl (c.sub j hj)),?_,?_,?_⟩
  ·intro h0; rw [hcl] at h0; cases h0
  ·intro _ fr ha
   refine .inr ⟨by rw [← AOper.wanted_congr (hself.eq ha)]; exact hw,mk,obj,H.next,hobj,fun h₂ => by rw [← AOper.eval_congr (hself.eq ha)]; exact hev h₂,rfl,by simp⟩
  ·intro j p hj hp
   change (if j=i then some H.next else pid j)=some p at hp
   split at hp
   ·cases hp
    cases hm : μ H.next with
    | none => rfl
    | some y => have:=c.r.dom _ _ hm; omega
   ·exact c.pend j p hj hp
  ·exact ⟨c.ext.1,c.ext.2.1,by have:=c.ext.2.2; simp [AH.next_new]; omega⟩
  ·exact hwr
theorem CC.opsRun (hxs : xs=comp P n ops) (hD : dstsOk xs=true) {prev : Option Nat} : ∀ {is : List Nat} {E E' G G' : Nat} {F F' : Fr} {H H' : AH} {pid : Nat→Option Nat},CC D n N w₀ M xs call f₀ n₀ μ₀ E G F H pid L fl μ a w →
  stageOk M xs prev is E G=some (E',G')→runItems call (is.map fun i => .op (nth xs i)) F H=some (F',H')→∃ pid',CC D n N w₀ M xs call f₀ n₀ μ₀ E' G' F' H' pid' L fl μ a w
 | [],E,E',G,G',F,F',H,H',pid,c,hs,hr => by
  cases hs; cases hr; exact ⟨pid,c⟩
 | i :: is,E,E',G,G',F,F',H,H',pid,c,hs,hr => by
  simp only [stageOk] at hs
  split at hs
  ·rename_i hc
   simp only [Bool.and_eq_true,decide_eq_true_eq] at hc
   simp only [List.map_cons,runItems] at hr
   cases h1 : (nth xs i).run call F H with
   | none => simp [h1] at hr
   | some p =>
    obtain ⟨F1,H1⟩:=p
    simp only [h1] at hr
    obtain ⟨pid1,c1⟩:=c.op hxs hD hc.1 hc.2 h1
    exact CC.opsRun hxs hD c1 hs hr
  ·cases hs
structure LK (M : List Nat) (xs : List AOper) (call : Handler) (f₀ : Fr) (E : Nat) (F : Fr) (H : AH) (pid : Nat→Option Nat) (L : Nat→Prop) : Prop where
 look : ∀ i,E.testBit i=true→¬ L i→(nth xs i).op.cls=1→∀ fr,Agree M xs f₀ F i fr→∃ v,(nth xs i).run call fr H=some (fr.put (nth xs i).dst v,H)∧∀ d,(nth xs i).dst=some d→v=F.at d
 make : ∀ i,E.testBit i=true→¬ L i→(nth xs i).op.cls=2→∀ fr,Agree M xs f₀ F i fr →
  (wantedV fr (nth xs i).guard=some false∧∀ d,(nth xs i).dst=some d→F.at d = .none) ∨
  (wantedV fr (nth xs i).guard=some true∧∃ (mk : Nat→AV) (obj : AObj) (p : Nat),(∀ h₂,(nth xs i).op.eval fr h₂=some (.val (mk h₂.next) (h₂.new obj)))∧(∀ d,(nth xs i).dst=some d→F.at d=mk p)∧pid i=some p∧H.get p=some obj)
theorem LK.weaken {L' : Nat→Prop} (h : LK M xs call f₀ E F H pid L) (hl : ∀ i,L i→L' i) : LK M xs call f₀ E F H pid L' :=
 ⟨fun i h1 h2 => h.look i h1 fun h3 => h2 (hl i h3),fun i h1 h2 => h.make i h1 fun h3 => h2 (hl i h3)⟩
theorem looksOk_spec {prev : Option Nat} {looks : List Nat} (h : looksOk M xs prev E G looks=true) {i : Nat} (hlt : i < xs.length) (hi : E.testBit i=true) (hc : (nth xs i).op.cls≠0∧(nth xs i).op.cls≠3) : G.testBit i=true∨i∈looks∨∃ v,prev=some v∧has M v i=true:=by
 unfold looksOk at h
 rw [List.all_eq_true] at h
 have:=h i (by simpa using hlt)
 simp only [hi,Bool.not_true,Bool.false_or,Bool.or_eq_true,beq_iff_eq,hc.1,hc.2,false_or,List.contains_iff_mem] at this
 rcases this with (h1 | h1) | h1
 ·exact .inl h1
 ·exact .inr (.inl h1)
 ·cases prev with
  | none => cases h1
  | some v => exact .inr (.inr ⟨v,rfl,h1⟩)
theorem cls_lt (x : AOp) : x.cls < 4:=by cases x <;> simp [AOp.cls]
theorem CI.looks (c : CI M xs call f₀ n₀ E G F H pid) (hxs : xs=comp P n ops) {prev : Option Nat} {looks : List Nat} (hlk : looksOk M xs prev E G looks=true) (hG : ∀ i,G.testBit i=true→(nth xs i).op.cls=1) (hprev : ∀ v i,prev=some v→has M v i=true→L i) (hrun : ∀ i∈looks,(nth xs i).lookAgain F H=true) :
  LK M xs call f₀ E F H pid L:=by
 have mem : ∀ i,E.testBit i=true→¬ L i→(nth xs i).op.cls≠0∧(nth xs i).op.cls≠3→G.testBit i=false→(nth xs i).lookAgain F H=true:=by
  intro i hi hl hc hg
  rcases looksOk_spec hlk (c.lt i hi) hi hc with h | h | ⟨v,hv,hm⟩
  ·rw [hg] at h; cases h
  ·exact hrun i h
  ·exact absurd (hprev v i hv hm) hl
 constructor
 ·intro i hi hl hc fr ha
  cases hg : G.testBit i
  case true => exact (c.ge i hg).2 fr ha
  have hla:=mem i hi hl (by rw [hc]; simp) hg
  have hself:=c.agree_late hi (by rw [hc]; simp)
  have heq:=hself.eq ha
  suffices h : ∃ v,(nth xs i).run call F H=some (F.put (nth xs i).dst v,H)∧∀ d,(nth xs i).dst=some d→v=F.at d by
   obtain ⟨v,h1,h2⟩:=h
   obtain ⟨v',h3,h4⟩:=AOper.run_congr heq h1
   refine ⟨v',h4,fun d hd => ?_⟩
   have:=congrArg (fun z => Fr.at z d) h3
   simp only [Fr.at_put_self hd] at this
   rw [← this]; exact h2 d hd
  obtain ⟨oi,hoi,hn⟩:=nth_inv hxs (c.lt i hi)
  unfold AOper.lookAgain at hla
  unfold AOper.run
  cases hw : wantedV F (nth xs i).guard with
  | none => simp [hw] at hla
  | some b =>
   cases b
   ·simp only [hw] at hla ⊢
    refine ⟨.none,rfl,fun d hd => ?_⟩
    simp only [hd] at hla
    exact AV.eq_of_beq _ _ hla
   ·simp only [hw] at hla ⊢
    cases hd : (nth xs i).dst with
    | none => simp [hd] at hla
    | some d =>
     simp only [hd] at hla
     cases hev : (nth xs i).op.eval F H with
     | none => simp [hev] at hla
     | some res =>
      have hrn : ∃ v,res = .val v H:=by
       rw [hn] at hev hc
       by_cases hst : ∃ g x,cGuard n ops oi.guard=some g∧cOp P oi.op=some x∧cOper P n ops oi=⟨oi.dst,x,g⟩
       ·obtain ⟨g,x,_,hx,he⟩:=hst
        rw [he] at hev hc
        have hok : ClsOk P oi x:=cOp_ok hx
        unfold ClsOk at hok
        simp only at hc
        rw [hc] at hok
        obtain ⟨v,rfl,_⟩:=hok F H res hev
        exact ⟨v,rfl⟩
       ·exfalso
        unfold cOper at hev hst
        split at hev
        ·rename_i g x hg hx
         split at hev
         ·rename_i hdd; exact hst ⟨g,x,hg,hx,by simp [hg,hx,hdd]⟩
         ·cases hev
        ·cases hev
      obtain ⟨v,rfl⟩:=hrn
      simp only [hev,if_true] at hla
      exact ⟨v,rfl,fun d' hd' => by cases hd'; exact AV.eq_of_beq _ _ hla⟩
 ·intro i hi hl hc fr ha
  have hla:=mem i hi hl (by rw [hc]; simp) (by
   cases hg : G.testBit i
   ·rfl
   ·have:=hG i hg; rw [hc] at this; cases this)
  have hself:=c.agree_late hi (by rw [hc]; simp)
  have heq:=hself.eq ha
  rcases c.ma i hi hc fr ha with h1 | ⟨h1,mk,obj,p,h2,h3,h4,h5⟩
  ·exact .inl h1
  ·refine .inr ⟨h1,mk,obj,p,h3,h4,h5,?_⟩
   unfold AOper.lookAgain at hla
   rw [AOper.wanted_congr heq,h1] at hla
   simp only at hla
   cases hd : (nth xs i).dst with
   | none => simp [hd] at hla
   | some d =>
    simp only [hd,AOper.eval_congr heq,h3] at hla
    rw [if_neg (by simp [AH.next_new]),h2,h4 d hd,h2] at hla
    simp only [AH.get_new,if_true] at hla
    cases hg : H.get p with
    | none => simp [hg] at hla
    | some y =>
     simp only [hg] at hla
     rw [eq_of_beqObj hla]
end
end Go.Vm
/- Regions whose order is drawn: every order. -/
namespace Go.Vm
open Go.RowKit
set_option linter.unusedSimpArgs false
set_option linter.unusedVariables false
section
variable {P : Program} {n : Nat} {ops : Array Oper} {call : Handler} {M : List Nat} {xs : List AOper} {f₀ : Fr} {n₀ E G : Nat} {F : Fr} {H : AH} {pid : Nat→Option Nat}
variable {π : Pin} {D : List Deferred} {N : Keep π} {w₀ : World} {μ₀ μ : Inj} {L : Nat→Prop} {fl : Fr} {a : Act} {w : World}
theorem FRel.congr {f g : Fr} (h : FRel D n μ f a) (he : ∀ t,f.at t=g.at t) : FRel D n μ g a:=⟨h.defers,h.size,fun t => he t ▸ h.vals t⟩
def Lof (listed : Array Bool) (j : Nat) : Prop:=listed.getD j false=true
theorem Lof_set {listed : Array Bool} {i j : Nat} (hi : i < listed.size) : Lof (listed.setIfInBounds i true) j↔Lof listed j∨j=i:=by
 unfold Lof
 by_cases e : i=j
 ·subst e; simp [hi]
 ·rw [getD_set_ne false e]
  constructor
  ·exact .inl
  ·rintro (h | h)
   ·exact h
   ·exact absurd h.symm e
theorem Lof_not {listed : Array Bool} {i : Nat} (h : listed.getD i true=false) : ¬ Lof listed i∧i < listed.size:=by
 have hlt : i < listed.size:=by
  rcases Nat.lt_or_ge i listed.size with h' | h'
  ·exact h'
  ·simp [Array.getElem?_eq_none h'] at h
 refine ⟨?_,hlt⟩
 unfold Lof
 simp [hlt] at h ⊢
 exact h
theorem not_Lof {listed : Array Bool} {i : Nat} (h : ¬ Lof listed i) (hlt : i < listed.size) : listed.getD i true=false:=by
 unfold Lof at h
 simp [hlt] at h ⊢
 exact h
theorem ready_iff {listed : Array Bool} {i : Nat} : i∈Region.ready .any ops listed↔listed.getD i true=false∧Ready ops (Lof listed) i:=mem_ready
theorem Closed.set {listed : Array Bool} (hs : listed.size=ops.size) (hc : Closed ops (Lof listed)) {i : Nat} (hi : i < listed.size) (hr : Ready ops (Lof listed) i) : Closed ops (Lof (listed.setIfInBounds i true)):=by
 intro j o ho hj e he hb
 rw [Lof_set hi] at hj ⊢
 rcases hj with hj | hj
 ·exact .inl (hc j o ho hj e he hb)
 ·subst hj
  obtain ⟨o',ho',hd⟩:=hr
  rw [ho] at ho'
  cases ho'
  exact .inl (hd e he hb)
theorem edgesOk_spec (h : edgesOk ops=true) {i : Nat} {o : Oper} (ho : ops[i]?=some o) {e : Edge} (he : e∈o.after) (hb : Region.binds .any e=true) : e.on < i:=by
 unfold edgesOk at h
 rw [List.all_eq_true] at h
 have:=h i (by simpa using (Array.getElem?_eq_some_iff.1 ho).1)
 rw [ho] at this
 simp only at this
 rw [Array.all_eq_true_iff_forall_mem] at this
 have:=this e he
 simpa [hb] using this
theorem all_listed (hE : edgesOk ops=true) {listed : Array Bool} (hs : listed.size=ops.size) (hr : Region.ready .any ops listed=[]) : ∀ i,i < ops.size→Lof listed i:=by
 intro i
 induction i using Nat.strongRecOn with
 | _ i ih =>
  intro hi
  refine Classical.byContradiction fun hn => ?_
  have : i∈Region.ready .any ops listed:=by
   rw [ready_iff]
   refine ⟨not_Lof hn (by omega),ops[i],Array.getElem?_eq_getElem hi,fun e he hb => ?_⟩
   have:=edgesOk_spec hE (Array.getElem?_eq_getElem hi) he hb
   exact ih e.on this (by omega)
  rw [hr] at this
  cases this
theorem count_set {listed : Array Bool} {i : Nat} (h : listed.getD i true=false) {fuel : Nat} (hf : listed.toList.countP (!·)≤fuel + 1) : (listed.setIfInBounds i true).toList.countP (!·)≤fuel:=by
 obtain ⟨_,hlt⟩:=Lof_not h
 have hl : i < listed.toList.length:=by simpa using hlt
 rw [Array.toList_setIfInBounds,List.countP_set hl]
 have : listed.toList[i]=false:=by simpa [hlt] using h
 have hp:=List.countP_pos_iff (p:=fun x => !x).2 ⟨listed.toList[i],List.getElem_mem hl,by rw [this]; rfl⟩
 rw [this]
 rw [if_pos (by rfl),if_neg (by simp)]
 omega
theorem count_pos {listed : Array Bool} {i : Nat} (h : listed.getD i true=false) : 0 < listed.toList.countP (!·):=by
 obtain ⟨_,hlt⟩:=Lof_not h
 rw [List.countP_pos_iff]
 have hl : i < listed.toList.length:=by simpa using hlt
 refine ⟨listed.toList[i],List.getElem_mem hl,?_⟩
 have : listed.toList[i]=false:=by simpa [hlt] using h
 simp [this]
theorem stage_mem {prev : Option Nat} : ∀ {is : List Nat} {E E' G G' : Nat},stageOk M xs prev is E G=some (E',G')→∀ i,E'.testBit i=true→E.testBit i=true∨prevOk M prev i=true
 | [],E,E',G,G',hs,i,hi => by cases hs; exact .inl hi
 | j :: is,E,E',G,G',hs,i,hi => by
  simp only [stageOk] at hs
  split at hs
  ·rename_i hc
   simp only [Bool.and_eq_true,decide_eq_true_eq] at hc
   rcases stage_mem hs i hi with h | h
   ·rcases testBit_add.1 h with h | h
    ·exact .inl h
    ·subst h; exact .inr (opOk_spec hc.1).2.2.2
   ·exact .inr h
  ·cases hs
theorem stage_looks {prev : Option Nat} : ∀ {is : List Nat} {E E' G G' : Nat},stageOk M xs prev is E G=some (E',G')→(∀ i,G.testBit i=true→(nth xs i).op.cls=1)→∀ i,G'.testBit i=true→(nth xs i).op.cls=1
 | [],E,E',G,G',hs,hG,i,hi => by cases hs; exact hG i hi
 | j :: is,E,E',G,G',hs,hG,i,hi => by
  simp only [stageOk] at hs
  split at hs
  ·refine stage_looks hs (fun k hk => ?_) i hi
   unfold nextG at hk
   split at hk
   ·rename_i hc
    rcases testBit_add.1 hk with h | h
    ·exact hG k h
    ·subst h; exact hc
   ·split at hk
    ·exact hG k hk
    ·simp at hk
  ·cases hs
theorem plan_ready (hM : M=masks ops) (hxs : xs=comp P n ops) (hc : Closed ops L) : ∀ {p : Plan} {v E : Nat},planOk M xs p (some v) E=true→v < xs.length→∀ {i : Nat},i < xs.length→E.testBit i=false→Ready ops L i→L v
 | .last is looks,v,E,hp,hv,i,hi,hE,hr => by
  simp only [planOk] at hp
  split at hp
  ·rename_i E' G' hs
   simp only [Bool.and_eq_true,List.all_eq_true] at hp
   have hEi:=hp.2 i (by simpa using hi)
   rcases stage_mem hs i hEi with h | h
   ·rw [hE] at h; cases h
   ·subst hM; exact masks_spec hc hr h
  ·cases hp
 | .stage is looks w rest,v,E,hp,hv,i,hi,hE,hr => by
  simp only [planOk] at hp
  split at hp
  ·rename_i E' G' hs
   simp only [Bool.and_eq_true] at hp
   obtain ⟨hw1,hw2,_,hw4⟩:=opOk_spec hp.1.1.2
   cases hEi : E'.testBit i
   ·by_cases hiw : w=i
    ·subst hiw; subst hM; exact masks_spec hc hr hw4
    ·have hE2 : (E' ||| 1 <<< w).testBit i=false:=by
      cases h2 : (E' ||| 1 <<< w).testBit i
      ·rfl
      ·rcases testBit_add.1 h2 with h | h
       ·rw [hEi] at h; cases h
       ·exact absurd h hiw
     have hLw:=plan_ready hM hxs hc hp.2 hw1 hi hE2 hr
     subst hM
     have : ops.size=xs.length:=by rw [hxs,comp_length]
     exact masks_closed hc (by omega) hLw hw4
   ·rcases stage_mem hs i hEi with h | h
    ·rw [hE] at h; cases h
    ·subst hM; exact masks_spec hc hr h
  ·cases hp
theorem make_wp {ρ : Option Nat} {oi : Oper} {i : Nat} (hoi : ops[i]?=some oi) {mk : Nat→AV} {obj : AObj} {p : Nat} (hcl : (cOper P n ops oi).op.cls=2) (hw : wantedV fl (cOper P n ops oi).guard=some true)
  (hev : ∀ h₂,(cOper P n ops oi).op.eval fl h₂=some (.val (mk h₂.next) (h₂.new obj))) (hp : p < H.next) (hn : μ p=none) (hg : H.get p=some obj) (hf : FRel D n μ fl a) (hR : R N w₀ μ H w)
  {K : Act→World→Prop} {Q : Exit→Act→World→Prop} (hK : ∀ μ' a' w',Inj.le μ μ'→(∀ o,o≠p→μ' o=μ o)→FRel D n μ' (fl.put (cOper P n ops oi).dst (mk p)) a'→R N w₀ μ' H w'→K a' w') : wpOpIn (rnd ρ) 0 P ops Q i K a w:=by
 unfold wpOpIn
 simp only [hoi]
 have hrun : (cOper P n ops oi).run (fun _ _ _ => none) fl H=some (fl.put (cOper P n ops oi).dst (mk H.next),H.new obj):=by simp [AOper.run,hw,hev H]
 obtain ⟨g,x,hgd,hx,hd,he⟩:=cOper_inv hrun
 rw [he] at hcl hw hev hK
 simp only at hcl hw hev hK
 rw [wanted_rel hgd hf hw]
 simp only [if_true]
 refine ⟨fun _ _ => trivial,?_⟩
 have hnd : ∀ c,oi.op ≠ .defer c:=fun c hc => by rw [hc] at hx; cases hx
 rw [Oper.semAt_eq _ _ _ hnd]
 have hok : ClsOk P oi x:=cOp_ok hx
 unfold ClsOk at hok
 rw [hcl] at hok
 obtain ⟨mk',obj',h1,h2,h3,h4⟩:=hok fl H _ (hev H)
 have hobj : obj'=obj:=by
  simp only [ARes.val.injEq] at h1
  have e1:=congrArg (fun g => AH.get g H.next) h1.2
  simp only [AH.get_new,if_true,Option.some.injEq] at e1
  exact e1.symm
 have hmk : mk' p=mk p:=by
  have e1:=h3 ⟨p,.nil⟩
  rw [hev ⟨p,.nil⟩] at e1
  simp only [Option.some.injEq,ARes.val.injEq] at e1
  exact e1.1.symm
 subst hobj
 obtain ⟨X,size,d,v',hr,k1,k2⟩:=h4 N μ a w hR.fresh hf.vals
 rw [hr,Oper.uponIn_value]
 have hle:=Inj.le_add (μ:=μ) (o:=p) (w.heap.size,0,size) hn
 refine hK (Inj.add μ p (w.heap.size,0,size)) _ _ hle (fun o ho => by unfold Inj.add; rw [if_neg ho]) ((hf.mono hle).put hd ?_) ((hR.late hp hn hg fun w' hw' => k2 p w' hn hw').drawn d)
 rw [← hmk]
 exact k1 p hn
def Rem (M : List Nat) (xs : List AOper) (call : Handler) (E : Nat) (F : Fr) (H : AH) (Ff : Fr) (Hf : AH) : Prop :=
 ((∀ i,i < xs.length→E.testBit i=true)∧Ff=F∧Hf=H) ∨
 ∃ (w : Nat) (rest : Plan) (F2 : Fr) (H2 : AH) (prev : Option Nat),opOk M xs prev E w=true∧(nth xs w).op.cls=3∧planOk M xs rest (some w) (E ||| 1 <<< w)=true∧(nth xs w).run call F H=some (F2,H2)∧runItems call (rest.items xs) F2 H2=some (Ff,Hf)
theorem CC.enter (hxs : xs=comp P n ops) (hD : dstsOk xs=true) {p : Plan} {prev : Option Nat} {Ff : Fr} {Hf : AH} (c : CC D n N w₀ M xs call f₀ n₀ μ₀ E 0 F H pid L fl μ a w)
  (hp : planOk M xs p prev E=true) (hr : runItems call (p.items xs) F H=some (Ff,Hf)) (hprev : ∀ v i,prev=some v→has M v i=true→L i) :
  ∃ E' G' F' H' pid',CC D n N w₀ M xs call f₀ n₀ μ₀ E' G' F' H' pid' L fl μ a w∧LK M xs call f₀ E' F' H' pid' L∧Rem M xs call E' F' H' Ff Hf:=by
 cases p with
 | last is looks =>
  simp only [planOk] at hp
  split at hp
  ·rename_i E' G' hs
   simp only [Bool.and_eq_true,List.all_eq_true] at hp
   simp only [Plan.items,runItems_append] at hr
   cases h1 : runItems call (is.map fun i => .op (nth xs i)) F H with
   | none => simp [h1] at hr
   | some q =>
    obtain ⟨F1,H1⟩:=q
    simp only [h1,Option.bind_some] at hr
    obtain ⟨pid',c'⟩:=CC.opsRun hxs hD c hs h1
    obtain ⟨e1,e2,e3⟩:=runItems_looks hr
    subst e1; subst e2
    exact ⟨E',G',Ff,Hf,pid',c',c'.ci.looks hxs hp.1 (stage_looks hs (by simp)) hprev e3,.inl ⟨fun i hi => hp.2 i (by simpa using hi),rfl,rfl⟩⟩
  ·cases hp
 | stage is looks v rest =>
  simp only [planOk] at hp
  split at hp
  ·rename_i E' G' hs
   simp only [Bool.and_eq_true,beq_iff_eq] at hp
   simp only [Plan.items,runItems_append] at hr
   cases h1 : runItems call (is.map fun i => .op (nth xs i)) F H with
   | none => simp [h1] at hr
   | some q =>
    obtain ⟨F1,H1⟩:=q
    simp only [h1,Option.bind_some] at hr
    obtain ⟨pid',c'⟩:=CC.opsRun hxs hD c hs h1
    cases h2 : runItems call (looks.map fun i => .look (nth xs i)) F1 H1 with
    | none => simp [h2] at hr
    | some q2 =>
     obtain ⟨F2,H2⟩:=q2
     simp only [h2,Option.bind_some] at hr
     obtain ⟨e1,e2,e3⟩:=runItems_looks h2
     subst e1; subst e2
     simp only [runItems] at hr
     cases h3 : (nth xs v).run call F2 H2 with
     | none => simp [h3] at hr
     | some q3 =>
      obtain ⟨F3,H3⟩:=q3
      simp only [h3] at hr
      exact ⟨E',G',F2,H2,pid',c',c'.ci.looks hxs hp.1.1.1 (stage_looks hs (by simp)) hprev e3,.inr ⟨v,rest,F3,H3,prev,hp.1.1.2,hp.1.2,hp.2,h3,hr⟩⟩
  ·cases hp
theorem CC.agree (c : CC D n N w₀ M xs call f₀ n₀ μ₀ E G F H pid L fl μ a w) (hM : M=masks ops) (hxs : xs=comp P n ops) (hD : dstsOk xs=true) (hc : Closed ops L) {i : Nat} (hi : E.testBit i=true) (hL : ¬ L i) (hr : Ready ops L i) : Agree M xs f₀ F i fl:=by
 have hsz : ops.size=xs.length:=by rw [hxs,comp_length]
 intro t ht
 constructor
 ·rintro ⟨y,hy,hd,hm⟩
  have hnl : ¬ L y:=by
   intro hl
   rcases c.ci.rd i hi t ht y hy hd with ⟨h1,_⟩ | ⟨_,_,h2⟩
   ·rw [hm] at h1; cases h1
   ·rcases h2 with h2 | h2
    ·subst h2; exact hL hl
    ·subst hM; exact hL (masks_closed hc (by omega) hl h2)
  cases hEy : E.testBit y
  ·have hno : ∀ j,E.testBit j=true→(nth xs j).dst≠some t:=by
    intro j hj hdj
    have:=dstsOk_spec hD hy (c.ci.lt j hj) hd hdj
    subst this
    rw [hj] at hEy; cases hEy
   rw [(c.fle t).2 (fun ⟨j,hj,_,hdj⟩ => hno j hj hdj)]
   exact c.ci.z t hno
  ·exact (c.fle t).1 ⟨y,hEy,hnl,hd⟩
 ·intro hall
  refine (c.fle t).2 ?_
  rintro ⟨j,hj,hl,hd⟩
  have hm:=hall j (c.ci.lt j hj) hd
  subst hM
  exact hl (masks_spec hc hr hm)
theorem FL.take (c : CI M xs call f₀ n₀ E G F H pid) (hD : dstsOk xs=true) {i : Nat} (hlt : i < xs.length) {v : AV} (hv : ∀ d,(nth xs i).dst=some d→v=F.at d) {L' : Nat→Prop} (hL' : ∀ j,L' j↔L j∨j=i) (h : FL xs E L f₀ F fl) : FL xs E L' f₀ F (fl.put (nth xs i).dst v):=by
 intro t
 constructor
 ·rintro ⟨j,hj,hl,hd⟩
  have hji : j≠i:=fun e => hl ((hL' j).2 (.inr e))
  rw [Fr.at_put_ne (fun hdi => hji (dstsOk_spec hD (c.lt j hj) hlt hd hdi))]
  exact (h t).1 ⟨j,hj,fun h' => hl ((hL' j).2 (.inl h')),hd⟩
 ·intro hno
  by_cases hd : (nth xs i).dst=some t
  ·rw [Fr.at_put_self hd]; exact hv t hd
  ·rw [Fr.at_put_ne hd]
   refine (h t).2 ?_
   rintro ⟨j,hj,hl,hdj⟩
   refine hno ⟨j,hj,fun h' => ?_,hdj⟩
   rcases (hL' j).1 h' with h' | h'
   ·exact hl h'
   ·subst h'; exact hd hdj
theorem draw_any {ρ : Option Nat} (hcall : HOk π P call) (hM : M=masks ops) (hxs : xs=comp P n ops) (hD : dstsOk xs=true) (hE : edgesOk ops=true) {Q : Exit→Act→World→Prop} {Ff : Fr} {Hf : AH}
  (hQ : ∀ μ' a' w',Inj.Ext n₀ Hf.next μ₀ μ'→FRel D n μ' Ff a'→R N w₀ μ' Hf w'→Q .normal a' w') :
  ∀ (fuel : Nat) (listed : Array Bool) (E G : Nat) (F : Fr) (H : AH) (pid : Nat→Option Nat) (fl : Fr) (μ : Inj) (a : Act) (w : World),listed.size=ops.size→listed.toList.countP (!·)≤fuel→Closed ops (Lof listed) →
   CC D n N w₀ M xs call f₀ n₀ μ₀ E G F H pid (Lof listed) fl μ a w→LK M xs call f₀ E F H pid (Lof listed)→Rem M xs call E F H Ff Hf→wpAnyIn (rnd ρ) 0 P .any ops Q fuel listed a w:=by
 have hsz : ops.size=xs.length:=by rw [hxs,comp_length]
 have fin : ∀ (listed : Array Bool) (E G : Nat) (F : Fr) (H : AH) (pid : Nat→Option Nat) (fl : Fr) (μ : Inj) (a : Act) (w : World),listed.size=ops.size→Region.ready .any ops listed=[] →
   CC D n N w₀ M xs call f₀ n₀ μ₀ E G F H pid (Lof listed) fl μ a w→Rem M xs call E F H Ff Hf→Q .normal a w:=by
  intro listed E G F H pid fl μ a w hs hr c hrem
  have hall:=all_listed hE hs hr
  rcases hrem with ⟨_,rfl,rfl⟩ | ⟨v,rest,F2,H2,prev,ho,_⟩
  ·refine hQ μ a w c.ext (c.fr.congr fun t => (c.fle t).2 ?_) c.r
   rintro ⟨j,hj,hl,_⟩
   exact hl (hall j (by have:=c.ci.lt j hj; omega))
  ·obtain ⟨h1,h2,_⟩:=opOk_spec ho
   have:=c.sub v (hall v (by omega))
   rw [h2] at this; cases this
 intro fuel
 induction fuel with
 | zero =>
  intro listed E G F H pid fl μ a w hs hf hcl c lk hrem
  have hr : Region.ready .any ops listed=[]:=by
   cases hr : Region.ready .any ops listed with
   | nil => rfl
   | cons i r =>
    have : i∈Region.ready .any ops listed:=by rw [hr]; exact List.mem_cons_self ..
    have:=count_pos (ready_iff.1 this).1
    omega
  exact ⟨hr,fin listed E G F H pid fl μ a w hs hr c hrem⟩
 | succ fuel ih =>
  intro listed E G F H pid fl μ a w hs hf hcl c lk hrem
  refine ⟨fun hr => fin listed E G F H pid fl μ a w hs hr c hrem,fun i hi => ?_⟩
  obtain ⟨hun,hready⟩:=ready_iff.1 hi
  obtain ⟨hnl,hil⟩:=Lof_not hun
  have hix : i < xs.length:=by omega
  have hs' : (listed.setIfInBounds i true).size=ops.size:=by simpa using hs
  have hf':=count_set hun hf
  have hcl':=hcl.set hs hil hready
  have hL' : ∀ j,Lof (listed.setIfInBounds i true) j↔Lof listed j∨j=i:=fun j => Lof_set hil
  obtain ⟨oi,hoi,hn⟩:=nth_inv hxs hix
  cases hEi : E.testBit i
  ·-- the writer of this stage
   rcases hrem with ⟨hall,_⟩ | ⟨v,rest,F2,H2,prev,ho,hc3,hp,hrun,hrest⟩
   ·have:=hall i hix; rw [hEi] at this; cases this
   ·obtain ⟨hv1,hv2,hv3,hv4⟩:=opOk_spec ho
    have hvi : v=i:=by
     refine Classical.byContradiction fun hne => ?_
     have hE2 : (E ||| 1 <<< v).testBit i=false:=by
      cases h2 : (E ||| 1 <<< v).testBit i
      ·rfl
      ·rcases testBit_add.1 h2 with h | h
       ·rw [hEi] at h; cases h
       ·exact absurd h hne
     have:=c.sub v (plan_ready hM hxs hcl hp hv1 hix hE2 hready)
     rw [hv2] at this; cases this
    subst hvi
    have hself:=c.ci.agree hD hv3
    have heq : ∀ t∈(nth xs v).reads,F.at t=fl.at t:=by
     intro t ht
     refine ((c.fle t).2 ?_).symm
     rintro ⟨j,hj,hl,hd⟩
     rcases readsOk_spec hv3 ht (c.ci.lt j hj) hd with ⟨h1,_⟩ | ⟨_,h2,_⟩
     ·subst hM; exact hl (masks_spec hcl hready h1)
     ·rw [hj] at h2; cases h2
    obtain ⟨u,hu1,hu2⟩:=AOper.run_congr heq hrun
    unfold wpOpIn
    simp only [hoi]
    rw [hn] at hu2
    refine oper_wp hcall hu2 c.fr c.r fun μ' a' w' hext hfr hR => ?_
    rw [← hn] at hfr
    have hci : CI M xs call f₀ n₀ (E ||| 1 <<< v) 0 F2 H2 pid:=by
     rw [hu1]
     refine c.ci.step hD hv1 hv2 hv3 hext.2.2 (fun j hj => by simp at hj) (fun h0 => by rw [hc3] at h0; cases h0) (fun _ _ => rfl) (fun p hp => ?_) (fun h2 => by rw [hc3] at h2; cases h2)
     have:=(c.ci.pi v p hp).1
     rw [hv2] at this; cases this
    have hcc : CC D n N w₀ M xs call f₀ n₀ μ₀ (E ||| 1 <<< v) 0 F2 H2 pid (Lof (listed.setIfInBounds v true)) (fl.put (nth xs v).dst u) μ' a' w':=by
     refine ⟨hci,?_,hR,hfr,?_,?_,c.ext.trans hext,?_⟩
     ·rw [hu1]
      have hfl:=c.fle.step (v:=u) c.ci hD hv1 hv2 hnl
      have hci':=hci
      rw [hu1] at hci'
      exact hfl.take hci' hD hv1 (fun d hd => (Fr.at_put_self hd).symm) hL'
     ·intro j hj
      rcases (hL' j).1 hj with h | h
      ·exact testBit_add.2 (.inl (c.sub j h))
      ·exact testBit_add.2 (.inr h.symm)
     ·intro j p hj hpj
      have hj' : ¬ Lof listed j:=fun h => hj ((hL' j).2 (.inl h))
      rw [hext.2.1 p (c.ci.pi j p hpj).2.2]
      exact c.pend j p hj' hpj
     ·intro j hj h3
      rcases testBit_add.1 hj with h | h
      ·exact (hL' j).2 (.inl (c.wr j h h3))
      ·exact (hL' j).2 (.inr h.symm)
    obtain ⟨E',G',F',H',pid',c',lk',rem'⟩:=hcc.enter hxs hD hp hrest (by
     intro v' j hv' hm
     cases hv'
     subst hM
     exact masks_closed hcl' (by omega) ((hL' v).2 (.inr rfl)) hm)
    exact ih _ _ _ _ _ _ _ _ _ _ hs' hf' hcl' c' lk' rem'
  ·-- one that floats
   have hag:=c.agree hM hxs hD hcl hEi hnl hready
   have pend' : ∀ μ' : Inj,(∀ j p,¬ Lof (listed.setIfInBounds i true) j→pid j=some p→μ' p=μ p)→∀ j p,¬ Lof (listed.setIfInBounds i true) j→pid j=some p→μ' p=none:=by
    intro μ' h j p hj hpj
    rw [h j p hj hpj]
    exact c.pend j p (fun h => hj ((hL' j).2 (.inl h))) hpj
   have sub' : ∀ j,Lof (listed.setIfInBounds i true) j→E.testBit j=true:=by
    intro j hj
    rcases (hL' j).1 hj with h | h
    ·exact c.sub j h
    ·exact h ▸ hEi
   have lk':=lk.weaken fun j h => (hL' j).2 (.inl h)
   have simple : (∃ u,(nth xs i).run call fl H=some (fl.put (nth xs i).dst u,H)∧∀ d,(nth xs i).dst=some d→u=F.at d)→wpOpIn (rnd ρ) 0 P ops Q i (wpAnyIn (rnd ρ) 0 P .any ops Q fuel (listed.setIfInBounds i true)) a w:=by
    rintro ⟨u,hu1,hu2⟩
    unfold wpOpIn
    simp only [hoi]
    have hu1':=hu1
    rw [hn] at hu1
    refine oper_wp hcall hu1 c.fr c.r fun μ' a' w' hext hfr hR => ?_
    rw [← hn] at hfr
    exact ih _ _ _ _ _ _ _ _ _ _ hs' hf' hcl' ⟨c.ci,c.fle.take c.ci hD hix hu2 hL',hR,hfr,sub',pend' μ' fun j p hj hpj => hext.2.1 p (c.ci.pi j p hpj).2.2,c.ext.trans hext,fun j hj h3 => (hL' j).2 (.inl (c.wr j hj h3))⟩ lk' hrem
   have hcls : (nth xs i).op.cls=0∨(nth xs i).op.cls=1∨(nth xs i).op.cls=2∨(nth xs i).op.cls=3:=by have:=cls_lt (nth xs i).op; omega
   rcases hcls with h0 | h1 | h2 | h3
   ·obtain ⟨u,hu1,hu2⟩:=c.ci.pu i hEi h0 fl hag H
    exact simple ⟨u,hu1,hu2⟩
   ·exact simple (lk.look i hEi hnl h1 fl hag)
   ·rcases lk.make i hEi hnl h2 fl hag with ⟨hw,hd⟩ | ⟨hw,mk,obj,p,hev,hd,hp,hg⟩
    ·exact simple ⟨.none,by simp [AOper.run,hw],fun d hdd => (hd d hdd).symm⟩
    ·obtain ⟨hp1,hp2,hp3⟩:=c.ci.pi i p hp
     have hmun:=c.pend i p hnl hp
     rw [hn] at h2 hw hev
     refine make_wp hoi h2 hw hev hp3 hmun hg c.fr c.r fun μ' a' w' hle ho hfr hR => ?_
     rw [← hn] at hfr
     refine ih _ _ _ _ _ _ _ _ _ _ hs' hf' hcl' ⟨c.ci,c.fle.take c.ci hD hix (fun d hdd => (hd d hdd).symm) hL',hR,hfr,sub',pend' μ' ?_,?_,?_⟩ lk' hrem
     ·intro j q hj hq
      refine ho q ?_
      intro e
      subst e
      exact hj ((hL' j).2 (.inr (c.ci.pd j i q hq hp)))
     ·exact ⟨Inj.le_trans c.ext.1 hle,fun o ho' => (ho o (by omega)).trans (c.ext.2.1 o ho'),c.ext.2.2⟩
     ·intro j hj h3; exact (hL' j).2 (.inl (c.wr j hj h3))
   ·exact absurd (c.wr i hEi h3) hnl
end
end Go.Vm

/- Compiling operations, and what each comes to in the model: operations without memory. -/
import Derived.Test.YtakgcpmemalmaaaGreatDoorVmA
import Derived.Laws.Entries
import Derived.Laws.Tables
import Derived.Laws.Cover1
namespace Go.Vm
open Go.RowKit
set_option linter.unusedSimpArgs false
set_option linter.unusedVariables false
theorem wrap_i64 {n : Int} (h : -9223372036854775808≤n) (h' : n≤9223372036854775807) : IntKind.i64.wrap n=n:=by
 have e1 : (2 : Int) ^ 64=18446744073709551616:=by decide
 have e2 : (2 : Int) ^ 63=9223372036854775808:=by decide
 simp only [IntKind.wrap,IntKind.signed,IntKind.bits,e1,Bool.true_and,decide_eq_true_eq,show (64 - 1 : Nat)=63 from rfl,e2]
 split <;> omega
def notIface : TypeDesc→Bool
 | .interface _ => false
 | _ => true
def cLeaf : Value→Option AV
 | .bool b => some (.bool b)
 | .int k n => some (.int k n)
 | .string s => some (.str s.data.toList)
 | .pointer none => some .nilPtr
 | .slice none 0 0 => some .nilSlice
 | .map none => some .nilMap
 | .nilFunc => some .nilFunc
 | .nilIface => some .nilIface
 | _ => none
def cLeaves : List Value→Option (List AV)
 | [] => some []
 | v :: r => match cLeaf v,cLeaves r with
  | some a,some l => some (a :: l)
  | _,_ => none
def cVal : Value→Option AV
 | .agg cs => (cLeaves cs.toList).map .agg
 | .tuple cs => if cs.size=0 then some .none else none
 | v => cLeaf v
theorem cLeaf_rel {v : Value} {x : AV} (hv : cLeaf v=some x) (μ : Inj) : VRel μ x v:=by
 unfold cLeaf at hv
 split at hv <;> cases hv
 ·exact .bool _
 ·exact .int _ _
 ·exact .str _
 ·exact .nilPtr
 ·exact .nilSlice
 ·exact .nilMap
 ·exact .nilFunc
 ·exact .nilIface
theorem cLeaves_rel : ∀ {vs : List Value} {l : List AV},cLeaves vs=some l→∀ μ,VRels μ l vs
 | [],l,hl,μ => by cases hl; exact .nil
 | v :: r,l,hl,μ => by
  simp only [cLeaves] at hl
  split at hl
  ·rename_i a l' ha hr
   cases hl
   exact .cons (cLeaf_rel ha μ) (cLeaves_rel hr μ)
  ·cases hl
theorem cVal_rel {v : Value} {x : AV} (hv : cVal v=some x) (μ : Inj) : VRel μ x v:=by
 unfold cVal at hv
 split at hv
 ·rename_i cs
  cases hl : cLeaves cs.toList with
  | none => simp [hl] at hv
  | some l => simp [hl] at hv; subst hv; exact VRel.agg_iff.2 ⟨cs,rfl,cLeaves_rel hl μ⟩
 ·rename_i cs
  split at hv
  ·rename_i h0
   cases hv
   exact VRel.tuple_iff.2 ⟨cs,rfl,by simp [VRels,h0]⟩
  ·cases hv
 ·exact cLeaf_rel hv μ
def cOpd : Operand→Option AOpd
 | .tmp t => some (.tmp t)
 | .const v => (cVal v).map .con
 | .func f => if fnLow (.func f) then some (.con (.func (.func f) [] [])) else none
 | .global _ => none
def cOpds : List Operand→Option (List AOpd)
 | [] => some []
 | x :: r => match cOpd x,cOpds r with
  | some a,some l => some (a :: l)
  | _,_ => none
def cOpt : Option Operand→Option (Option AOpd)
 | none => some none
 | some x => (cOpd x).map some
def ORels (μ : Inj) (f : Fr) (a : Act) : Prop:=∀ t,VRel μ (f.at t) (a.eval (.tmp t))
theorem cOpd_rel {x : Operand} {y : AOpd} (hx : cOpd x=some y) {μ : Inj} {f : Fr} {a : Act} (ho : ORels μ f a) : VRel μ (y.val f) (a.eval x):=by
 unfold cOpd at hx
 split at hx
 ·cases hx; exact ho _
 ·rename_i v
  cases hv : cVal v with
  | none => simp [hv] at hx
  | some c => simp [hv] at hx; subst hx; exact cVal_rel hv μ
 ·split at hx
  ·rename_i hs
   cases hx
   exact .func _ hs rfl (by simp) rfl (by simp)
  ·cases hx
 ·cases hx
theorem cOpds_rel : ∀ {xs : List Operand} {ys : List AOpd},cOpds xs=some ys→∀ {μ : Inj} {f : Fr} {a : Act},ORels μ f a→VRels μ (ys.map (·.val f)) (xs.map a.eval)
 | [],ys,hy,_,_,_,_ => by cases hy; exact .nil
 | x :: r,ys,hy,μ,f,a,ho => by
  simp only [cOpds] at hy
  split at hy
  ·rename_i y l hx hl
   cases hy
   exact .cons (cOpd_rel hx ho) (cOpds_rel hl ho)
  ·cases hy
def PureOk (P : Program) (o : Oper) (x : AOp) : Prop :=
 ∀ (f : Fr) (h : AH) (res : ARes),x.eval f h=some res→∃ v,res = .val v h∧(∀ h₂,x.eval f h₂=some (.val v h₂)) ∧
  ∀ (μ : Inj) (a : Act) (w : World),ORels μ f a→∃ v',VRel μ v v'∧(execOp a.eval o).run P w = .ok (.value v') w
def LookOk (P : Program) (o : Oper) (x : AOp) : Prop :=
 ∀ (f : Fr) (h : AH) (res : ARes),x.eval f h=some res→∃ v,res = .val v h ∧
  ∀ {π : Pin} (N : Keep π) (w₀ : World) (μ : Inj) (a : Act) (w : World),R N w₀ μ h w→ORels μ f a→∃ v',VRel μ v v'∧(execOp a.eval o).run P w = .ok (.value v') w
def MakeOk (P : Program) (o : Oper) (x : AOp) : Prop :=
 ∀ (f : Fr) (h : AH) (res : ARes),x.eval f h=some res→∃ (mk : Nat→AV) (obj : AObj),res = .val (mk h.next) (h.new obj)∧(∀ p,objOf (mk p)=some p)∧(∀ h₂,x.eval f h₂=some (.val (mk h₂.next) (h₂.new obj))) ∧
  ∀ {π : Pin} (N : Keep π) (μ : Inj) (a : Act) (w : World),Fits N.keep w→ORels μ f a→∃ (X : Obj) (size d : Nat) (v' : Value),(execOp a.eval o).run P w = .ok (.value v') { w with heap:=w.heap.push X,drawn:=d } ∧
   (∀ id,μ id=none→VRel (Inj.add μ id (w.heap.size,0,size)) (mk id) v') ∧
   (∀ id (w' : World),μ id=none→w'.heap[w.heap.size]?=some X→ORel (Inj.add μ id (w.heap.size,0,size)) N w' obj w.heap.size 0 size)
def ResOk {π : Pin} (P : Program) (o : Oper) (a : Act) (N : Keep π) (w₀ : World) (μ : Inj) (h : AH) (w : World) : ARes→Prop
 | .val v h' => ∃ μ' w' v',Inj.Ext h.next h'.next μ μ'∧R N w₀ μ' h' w'∧VRel μ' v v' ∧
   ((execOp a.eval o).run P w = .ok (.value v') w'∨((execOp a.eval o).run P w = .ok .skip w'∧v'=Go.undef))
 | .call _ _ => False
def OpOk (P : Program) (o : Oper) (x : AOp) : Prop :=
 ∀ ⦃π : Pin⦄ (N : Keep π) (w₀ : World) (μ : Inj) (h : AH) (w : World) (f : Fr) (a : Act) (res : ARes),R N w₀ μ h w→ORels μ f a→x.eval f h=some res→ResOk P o a N w₀ μ h w res
theorem PureOk.ok {P : Program} {o : Oper} {x : AOp} (hp : PureOk P o x) : OpOk P o x:=by
 intro π N w₀ μ h w f a res r ho he
 obtain ⟨v,rfl,_,hv⟩:=hp f h res he
 obtain ⟨v',hr,hrun⟩:=hv μ a w ho
 exact ⟨μ,w,v',.refl (Nat.le_refl _),r,hr,.inl hrun⟩
theorem LookOk.ok {P : Program} {o : Oper} {x : AOp} (hp : LookOk P o x) : OpOk P o x:=by
 intro π N w₀ μ h w f a res r ho he
 obtain ⟨v,rfl,hv⟩:=hp f h res he
 obtain ⟨v',hr,hrun⟩:=hv N w₀ μ a w r ho
 exact ⟨μ,w,v',.refl (Nat.le_refl _),r,hr,.inl hrun⟩
theorem PureOk.look {P : Program} {o : Oper} {x : AOp} (hp : PureOk P o x) : LookOk P o x:=by
 intro f h res he
 obtain ⟨v,rfl,_,hv⟩:=hp f h res he
 exact ⟨v,rfl,fun N w₀ μ a w _ ho => hv μ a w ho⟩
theorem MakeOk.ok {P : Program} {o : Oper} {x : AOp} (hp : MakeOk P o x) : OpOk P o x:=by
 intro π N w₀ μ h w f a res r ho he
 obtain ⟨mk,obj,rfl,_,_,hv⟩:=hp f h res he
 obtain ⟨X,size,d,v',hrun,h1,h2⟩:=hv N μ a w r.fresh ho
 have hnone : μ h.next=none:=by
  cases hm : μ h.next with
  | none => rfl
  | some y => have:=r.dom _ _ hm; omega
 obtain ⟨hle,hR⟩:=r.alloc (x:=obj) (X:=X) (size:=size) (fun w' hw' => h2 h.next w' hnone hw')
 exact ⟨_,_,v',.new _ hnone,hR.drawn d,h1 h.next hnone,.inl hrun⟩
section
variable {P : Program} {o : Oper}
theorem run_value {a : Act} {w : World} {s : Sem Value} {v : Value} (h : (s.run P w) = .ok v w) (he : execOp a.eval o = (do pure (.value (← s)))) : (execOp a.eval o).run P w = .ok (.value v) w := by
  rw [he, Sem.run_bind, h]; rfl
theorem run_value2 {a : Act} {w w' : World} {s : Sem Value} {v : Value} (h : (s.run P w) = .ok v w') (he : execOp a.eval o = (do pure (.value (← s)))) : (execOp a.eval o).run P w = .ok (.value v) w' := by
  rw [he, Sem.run_bind, h]; rfl
theorem run_unit {a : Act} {w w' : World} {s : Sem Unit} (h : (s.run P w) = .ok () w') (he : execOp a.eval o = (do s; pure .skip)) : (execOp a.eval o).run P w = .ok .skip w' := by
  rw [he, Sem.run_bind, h]; rfl
theorem ok_mov {x : Operand} {y : AOpd} (ho : o.op = .move x∨o.op = .assign x) (hx : cOpd x=some y) : PureOk P o (.mov y):=by
 intro f h res he
 cases he
 refine ⟨_,rfl,fun _ => rfl,fun μ a w hr => ⟨_,cOpd_rel hx hr,?_⟩⟩
 rcases ho with ho | ho <;> simp [execOp,ho]
theorem ok_pick {c x y : Operand} {c' x' y' : AOpd} (ho : o.op = .pick c x y) (hc : cOpd c=some c') (hx : cOpd x=some x') (hy : cOpd y=some y') : PureOk P o (.pick c' x' y'):=by
 intro f h res he
 simp only [AOp.eval] at he
 split at he
 ·rename_i t ht
  cases he
  refine ⟨_,rfl,fun h₂ => by simp [AOp.eval,ht],fun μ a w hr => ?_⟩
  have hcr:=cOpd_rel hc hr
  rw [ht] at hcr
  generalize hv : a.eval c=v at hcr
  cases hcr
  cases t
  ·exact ⟨_,cOpd_rel hy hr,by simp [execOp,ho,hv,asBool]⟩
  ·exact ⟨_,cOpd_rel hx hr,by simp [execOp,ho,hv,asBool]⟩
 ·cases he
theorem ok_nilChk {x : Operand} {y : AOpd} (ho : o.op = .nilCheck x) (hx : cOpd x=some y) : PureOk P o (.nilChk y):=by
 intro f h res he
 simp only [AOp.eval] at he
 split at he
 all_goals first | cases he | skip
 all_goals
  rename_i hy
  refine ⟨_,rfl,fun h₂ => by simp [AOp.eval,hy],fun μ a w hr => ?_⟩
  have hv:=cOpd_rel hx hr
  rw [hy] at hv
  generalize hz : a.eval x=v at hv
  refine ⟨v,hv,?_⟩
  cases hv <;> simp [execOp,ho,hz]
theorem ok_mkIface {t : TypeId} {x : Operand} {y : AOpd} {d : TypeDesc} (ho : o.op = .makeInterface t x) (hx : cOpd x=some y) (hu : P.underlying t=some d) (hd : notIface d=true) :
  PureOk P o (.mkIface t y):=by
 intro f h res he
 cases he
 refine ⟨_,rfl,fun _ => rfl,fun μ a w hr => ⟨_,.iface t (cOpd_rel hx hr),?_⟩⟩
 refine run_value (s:=Instr.makeInterface t (a.eval x)) ?_ (by simp only [execOp,ho])
 simp only [Instr.makeInterface,Sem.run_bind,run_underlying hu,Result.andThen_ok]
 cases d <;> first | rfl | cases hd
theorem ok_mkFunc {fn : Fn} {first caps : Array Operand} {xs ys : List AOpd} (hs : fnLow fn=true) (ho : o.op = .makeFunc fn first caps) (hx : cOpds first.toList=some xs) (hy : cOpds caps.toList=some ys) : PureOk P o (.mkFunc fn xs ys):=by
 intro f h res he
 cases he
 refine ⟨_,rfl,fun _ => rfl,fun μ a w hr => ⟨.func fn (first.map a.eval) (caps.map a.eval),?_,?_⟩⟩
 ·have h1:=cOpds_rel hx hr
  have h2:=cOpds_rel hy hr
  refine .func fn hs (by simpa using h1.1) (fun i u v hu hv => h1.2 i u v hu ?_) (by simpa using h2.1) (fun i u v hu hv => h2.2 i u v hu ?_)
  ·simpa using hv
  ·simpa using hv
 ·simp [execOp,ho,Instr.makeFunc]
theorem intBin_run {op : BinOp} {k : IntKind} {x y : Int} {v : AV} (hv : intBin op k x y=some v) (hs : isShift op=false) (t : TypeId) (μ : Inj) (w : World) :
  ∃ v',VRel μ v v'∧(binOp op t (.int k x) (.int k y)).run P w = .ok v' w:=by
 cases op <;> simp only [intBin] at hv <;> try (cases hv)
 all_goals first
  | (refine ⟨_,.int _ _,?_⟩; simp [binOp,Op.intArith,Op.intBits]; done)
  | (refine ⟨_,.bool _,?_⟩; simp [binOp,Op.intCmp]; done)
  | skip
 ·split at hv
  ·cases hv
  ·rename_i hy; cases hv; exact ⟨_,.int _ _,by simp [binOp,Op.intDiv,hy]⟩
 ·split at hv
  ·cases hv
  ·rename_i hy; cases hv; exact ⟨_,.int _ _,by simp [binOp,Op.intDiv,hy]⟩
theorem intShift_run {op : BinOp} {k k' : IntKind} {x y : Int} {v : AV} (hv : intShift op k x y=some v) (t : TypeId) (μ : Inj) (w : World) :
  ∃ v',VRel μ v v'∧(binOp op t (.int k x) (.int k' y)).run P w = .ok v' w:=by
 unfold intShift at hv
 split at hv
 ·cases hv
 ·rename_i hy
  cases op <;> simp only at hv <;> first | cases hv | skip
  ·exact ⟨_,.int _ _,by simp [binOp,Op.shift,hy]⟩
  ·exact ⟨_,.int _ _,by simp [binOp,Op.shift,hy]⟩
theorem toList_eq (s : ByteArray) : s.toList=s.data.toList:=by
 have : ∀ (n : Nat) (i : Nat) (r : List UInt8),s.size - i=n→ByteArray.toList.loop s i r=r.reverse ++ s.data.toList.drop i:=by
  intro n
  induction n with
  | zero =>
   intro i r hn
   unfold ByteArray.toList.loop
   rw [if_neg (by omega),List.drop_eq_nil_of_le (by have : s.data.toList.length=s.size:=rfl; omega)]
   simp
  | succ n ih =>
   intro i r hn
   have hi : i < s.size:=by omega
   unfold ByteArray.toList.loop
   rw [if_pos hi,ih (i + 1) _ (by omega)]
   have hl : i < s.data.toList.length:=hi
   rw [List.drop_eq_getElem_cons hl,List.reverse_cons,List.append_assoc]
   congr 2
   have : s.get! i=s.data[i]!:=rfl
   rw [this]
   simp only [Array.getElem_toList,List.singleton_append,List.cons.injEq,and_true,List.reverse_cons,List.reverse_nil,List.nil_append]
   exact getElem!_pos s.data i hi
 have:=this s.size 0 [] (by omega)
 simpa [ByteArray.toList] using this
theorem strBin_run {op : BinOp} {x y : ByteArray} {v : AV} (hv : strBin op x.data.toList y.data.toList=some v) (t : TypeId) (μ : Inj) (w : World) :
  ∃ v',VRel μ v v'∧(binOp op t (.string x) (.string y)).run P w = .ok v' w:=by
 cases op <;> simp only [strBin] at hv <;> try (cases hv)
 all_goals first
  | (refine ⟨_,.bool _,?_⟩; simp [binOp,Op.stringOp,toList_eq]; done)
  | skip
 split at hv
 ·rename_i hl
  cases hv
  have e : (x ++ y).data.toList=x.data.toList ++ y.data.toList:=by simp
  refine ⟨.string (x ++ y),e ▸ .str (x ++ y),?_⟩
  have hl' : x.size + y.size≤9223372036854775807:=by
   have h1 : x.data.toList.length=x.size:=rfl
   have h2 : y.data.toList.length=y.size:=rfl
   omega
  simp only [binOp,Op.stringOp,IntKind.max_i64]
  rw [if_neg (by omega)]
  rfl
 ·cases hv
theorem equal_run {t : TypeId} {x y : Value} {b : Bool} {w : World} (he : ∀ d,(Op.equalIn (d + 1) t x y).run P w = .ok b w) : (Op.equal t x y).run P w = .ok b w:=he 9999
theorem equal_bool {t : TypeId} (ht : P.underlying t=some .bool) (x y : Bool) (w : World) : (Op.equal t (.bool x) (.bool y)).run P w = .ok (x == y) w :=
 equal_run fun d => by unfold Op.equalIn; simp [run_underlying ht]
theorem VRel.int_inv {μ : Inj} {k : IntKind} {n : Int} {v : Value} (h : VRel μ (.int k n) v) : v = .int k n:=by cases h; rfl
theorem VRel.bool_inv {μ : Inj} {b : Bool} {v : Value} (h : VRel μ (.bool b) v) : v = .bool b:=by cases h; rfl
theorem VRel.str_inv {μ : Inj} {s : List UInt8} {v : Value} (h : VRel μ (.str s) v) : ∃ b : ByteArray,v = .string b∧s=b.data.toList:=by cases h; exact ⟨_,rfl,rfl⟩
theorem ok_bin {op : BinOp} {t u : TypeId} {x y : Operand} {x' y' : AOpd} (ho : o.op = .binOp op t x y u) (hx : cOpd x = some x') (hy : cOpd y = some y') :
    PureOk P o (.bin op x' y') := by
  intro f h res he
  simp only [AOp.eval] at he
  cases hb : binV op (x'.val f) (y'.val f) with
  | none => simp [hb] at he
  | some v =>
    simp [hb] at he
    subst he
    refine ⟨v, rfl, fun h₂ => by simp [AOp.eval, hb], fun μ a w hr => ?_⟩
    have hxr := cOpd_rel hx hr
    have hyr := cOpd_rel hy hr
    have key : ∃ v', VRel μ v v' ∧ (eqGuard op t x y (a.eval x) (a.eval y)).run P w = .ok () w ∧ (binOp op t (a.eval x) (a.eval y)).run P w = .ok v' w := by
      revert hb
      generalize x'.val f = p at hxr
      generalize y'.val f = q at hyr
      intro hb
      unfold binV at hb
      split at hb
      · rename_i k m k' n
        rw [hxr.int_inv, hyr.int_inv]
        split at hb
        · obtain ⟨v', h1, h2⟩ := intShift_run (P := P) (k' := k') hb t μ w
          exact ⟨v', h1, by rw [eqGuard_at_int]; rfl, h2⟩
        · rename_i hs
          split at hb
          · rename_i hk
            subst hk
            obtain ⟨v', h1, h2⟩ := intBin_run (P := P) hb (by simpa using hs) t μ w
            exact ⟨v', h1, by rw [eqGuard_at_int]; rfl, h2⟩
          · cases hb
      · obtain ⟨s, hs, rfl⟩ := hxr.str_inv
        obtain ⟨s', hs', rfl⟩ := hyr.str_inv
        rw [hs, hs']
        obtain ⟨v', h1, h2⟩ := strBin_run (P := P) hb t μ w
        exact ⟨v', h1, by rw [eqGuard_at_string]; rfl, h2⟩
      · cases hb
    obtain ⟨v', h1, h2, h3⟩ := key
    refine ⟨v', h1, run_value (s := do eqGuard op t x y (a.eval x) (a.eval y); binOp op t (a.eval x) (a.eval y)) ?_ (by simp only [execOp, ho])⟩
    rw [Sem.run_bind, h2]
    exact h3
theorem binOp_eq_run {neg : Bool} {t : TypeId} {x y : Value} {b : Bool} {w : World} (hx : ∀ k n,x ≠ .int k n) (hf : ∀ k n,x ≠ .float k n) (hc : ∀ k n m,x ≠ .complex k n m) (hs : ∀ s,x ≠ .string s)
  (he : (Op.equal t x y).run P w = .ok b w) : (binOp (if neg then .neq else .eql) t x y).run P w = .ok (.bool (if neg then !b else b)) w:=by
 cases neg <;> (cases x <;> first | (exact absurd rfl (hx _ _)) | (exact absurd rfl (hf _ _)) | (exact absurd rfl (hc _ _ _)) | (exact absurd rfl (hs _)) | (cases y <;> simp [binOp,he]))
theorem ok_eqB {neg : Bool} {t : TypeId} {x y : Operand} {u : TypeId} {x' y' : AOpd} (ho : o.op = .binOp (if neg then .neq else .eql) t x y u) (hx : cOpd x = some x') (hy : cOpd y = some y')
    (ht : P.underlying t = some .bool) : PureOk P o (.eqB neg x' y') := by
  intro f h res he
  simp only [AOp.eval] at he
  split at he
  · rename_i p q hp hq
    cases he
    refine ⟨_, rfl, fun h₂ => by simp [AOp.eval, hp, hq], fun μ a w hr => ?_⟩
    have hxr := cOpd_rel hx hr
    have hyr := cOpd_rel hy hr
    rw [hp] at hxr
    rw [hq] at hyr
    refine ⟨_, .bool _, run_value (s := do eqGuard (if neg then .neq else .eql) t x y (a.eval x) (a.eval y); binOp (if neg then .neq else .eql) t (a.eval x) (a.eval y)) ?_ (by simp only [execOp, ho])⟩
    rw [hxr.bool_inv, hyr.bool_inv, eqGuard_at_bool]
    exact binOp_eq_run (by simp) (by simp) (by simp) (by simp) (equal_bool ht p q w)
  · cases he
def nilKind (d : TypeDesc) : Option Nat :=
 match d with
 | .pointer _ => some 0
 | .slice _ => some 1
 | .map .. => some 2
 | .func .. => some 3
 | .interface _ => some 4
 | _ => none
def nilShape (kind : Nat) (b : Bool) (x : Value) : Prop :=
 match kind,b with
 | 0,true => x = .pointer none
 | 0,false => ∃ p,x = .pointer (some p)
 | 1,true => x = .slice none 0 0
 | 1,false => ∃ p n c,x = .slice (some p) n c
 | 2,true => x = .map none
 | 2,false => ∃ r,x = .map (some r)
 | 3,true => x = .nilFunc
 | 3,false => ∃ f u v,x = .func f u v
 | 4,true => x = .nilIface
 | 4,false => ∃ t v,x = .iface t v
 | _,_ => False
theorem isNilV_shape {kind : Nat} {p : AV} {b : Bool} (h : isNilV kind p=some b) {μ : Inj} {x : Value} (hx : VRel μ p x) : nilShape kind b x:=by
 unfold isNilV at h
 split at h <;> cases h <;> cases hx <;> first | rfl | exact ⟨_,rfl⟩ | exact ⟨_,_,rfl⟩ | exact ⟨_,_,_,rfl⟩
theorem eqNilV_inv {kind : Nat} {p q : AV} {b : Bool} (h : eqNilV kind p q=some b) : ∃ c d,isNilV kind p=some c∧isNilV kind q=some d∧(c=true∨d=true)∧b=(c && d):=by
 unfold eqNilV at h
 split at h
 ·rename_i h1 h2; cases h; exact ⟨_,_,h1,h2,.inl rfl,by simp⟩
 ·rename_i h1 h2; cases h; exact ⟨_,_,h1,h2,.inr rfl,by simp⟩
 ·cases h
theorem equal_nil {t : TypeId} {d : TypeDesc} {kind : Nat} (ht : P.underlying t=some d) (hk : nilKind d=some kind) {μ : Inj} {p q : AV} {x y : Value} (hx : VRel μ p x) (hy : VRel μ q y) {b : Bool} (hb : eqNilV kind p q=some b) (w : World) :
  (Op.equal t x y).run P w = .ok b w:=by
 obtain ⟨c,e,h1,h2,hor,rfl⟩:=eqNilV_inv hb
 have s1:=isNilV_shape h1 hx
 have s2:=isNilV_shape h2 hy
 clear h1 h2 hx hy hb
 refine equal_run fun n => ?_
 unfold Op.equalIn
 rw [Sem.run_bind,run_underlying ht]
 simp only [Result.andThen_ok]
 unfold nilKind at hk
 split at hk <;> cases hk
 ·cases c <;> cases e <;> simp only [nilShape] at s1 s2 <;> first | (simp at hor; done) | skip
  ·obtain ⟨_,rfl⟩:=s1; subst s2; rfl
  ·subst s1; obtain ⟨_,rfl⟩:=s2; rfl
  ·subst s1 s2; rfl
 ·cases c <;> cases e <;> simp only [nilShape] at s1 s2 <;> first | (simp at hor; done) | skip
  ·obtain ⟨_,_,_,rfl⟩:=s1; subst s2; rfl
  ·subst s1; obtain ⟨_,_,_,rfl⟩:=s2; rfl
  ·subst s1 s2; rfl
 ·cases c <;> cases e <;> simp only [nilShape] at s1 s2 <;> first | (simp at hor; done) | skip
  ·obtain ⟨_,rfl⟩:=s1; subst s2; rfl
  ·subst s1; obtain ⟨_,rfl⟩:=s2; rfl
  ·subst s1 s2; rfl
 ·cases c <;> cases e <;> simp only [nilShape] at s1 s2 <;> first | (simp at hor; done) | skip
  ·obtain ⟨_,_,_,rfl⟩:=s1; subst s2; rfl
  ·subst s1; obtain ⟨_,_,_,rfl⟩:=s2; rfl
  ·subst s1 s2; rfl
 ·cases c <;> cases e <;> simp only [nilShape] at s1 s2 <;> first | (simp at hor; done) | skip
  ·obtain ⟨_,_,rfl⟩:=s1; subst s2; rfl
  ·subst s1; obtain ⟨_,_,rfl⟩:=s2; rfl
  ·subst s1 s2; rfl
theorem eqNil_guard {op : BinOp} {t : TypeId} {xo yo : Operand} {kind : Nat} (hc : kind=4→(∃ c,xo = .const c)∨(∃ c,yo = .const c)) {μ : Inj} {p q : AV} {x y : Value} (hx : VRel μ p x) (hy : VRel μ q y) {b : Bool}
  (hb : eqNilV kind p q=some b) (w : World) : (eqGuard op t xo yo x y).run P w = .ok () w:=by
 obtain ⟨c,e,h1,h2,hor,rfl⟩:=eqNilV_inv hb
 have s1:=isNilV_shape h1 hx
 have s2:=isNilV_shape h2 hy
 have h5 : kind < 5:=by
  unfold isNilV at h1
  split at h1 <;> first | omega | cases h1
 rcases kind with _ | _ | _ | _ | _ | _
 ·cases c
  ·obtain ⟨_,rfl⟩:=s1; rw [eqGuard_at_pointer]; rfl
  ·obtain rfl:=s1; rw [eqGuard_at_pointer]; rfl
 ·cases c
  ·obtain ⟨_,_,_,rfl⟩:=s1; rw [eqGuard_at_slice]; rfl
  ·obtain rfl:=s1; rw [eqGuard_at_slice]; rfl
 ·cases c
  ·obtain ⟨_,rfl⟩:=s1; rw [eqGuard_at_map]; rfl
  ·obtain rfl:=s1; rw [eqGuard_at_map]; rfl
 ·cases c
  ·obtain ⟨_,_,_,rfl⟩:=s1; rw [eqGuard_at_func]; rfl
  ·obtain rfl:=s1; rw [eqGuard_at_nilFunc]; rfl
 ·cases c
  ·obtain ⟨_,_,rfl⟩:=s1; rw [eqGuard_at_iface]; rfl
  ·obtain rfl:=s1
   cases e
   ·obtain ⟨_,_,rfl⟩:=s2; rw [eqGuard_nil_iface]; rfl
   ·obtain rfl:=s2
    rcases hc rfl with ⟨c,rfl⟩ | ⟨c,rfl⟩
    ·rw [eqGuard_nil_constL]; rfl
    ·rw [eqGuard_nil_constR]; rfl
 ·omega
theorem isNilV_not {kind : Nat} {p : AV} {b : Bool} (h : isNilV kind p=some b) {μ : Inj} {x : Value} (hx : VRel μ p x) : (∀ k n,x ≠ .int k n)∧(∀ k n,x ≠ .float k n)∧(∀ k n m,x ≠ .complex k n m)∧(∀ s,x ≠ .string s):=by
 have s1:=isNilV_shape h hx
 unfold nilShape at s1
 split at s1 <;> first | (subst s1; simp; done) | (obtain ⟨_,rfl⟩:=s1; simp; done) | (obtain ⟨_,_,rfl⟩:=s1; simp; done) | (obtain ⟨_,_,_,rfl⟩:=s1; simp; done) | exact s1.elim
theorem ok_eqNil {neg : Bool} {kind : Nat} {d : TypeDesc} {t : TypeId} {x y : Operand} {u : TypeId} {x' y' : AOpd} (ho : o.op = .binOp (if neg then .neq else .eql) t x y u) (hx : cOpd x = some x') (hy : cOpd y = some y')
    (ht : P.underlying t = some d) (hk : nilKind d = some kind) (hc : kind = 4 → (∃ c, x = .const c) ∨ (∃ c, y = .const c)) : PureOk P o (.eqNil kind neg x' y') := by
  intro f h res he
  simp only [AOp.eval] at he
  cases hb : eqNilV kind (x'.val f) (y'.val f) with
  | none => simp [hb] at he
  | some b =>
    simp [hb] at he
    subst he
    refine ⟨_, rfl, fun h₂ => by simp [AOp.eval, hb], fun μ a w hr => ?_⟩
    have hxr := cOpd_rel hx hr
    have hyr := cOpd_rel hy hr
    have hnil : ∃ b, isNilV kind (x'.val f) = some b := by
      unfold eqNilV at hb
      split at hb
      · exact ⟨_, ‹_›⟩
      · exact ⟨_, ‹_›⟩
      · cases hb
    obtain ⟨b', hb'⟩ := hnil
    obtain ⟨n1, n2, n3, n4⟩ := isNilV_not hb' hxr
    refine ⟨_, .bool _, run_value (s := do eqGuard (if neg then .neq else .eql) t x y (a.eval x) (a.eval y); binOp (if neg then .neq else .eql) t (a.eval x) (a.eval y)) ?_ (by simp only [execOp, ho])⟩
    rw [Sem.run_bind, eqNil_guard hc hxr hyr hb]
    have := binOp_eq_run (P := P) (neg := neg) n1 n2 n3 n4 (equal_nil ht hk hxr hyr hb w)
    rw [Result.andThen_ok, this]
theorem ok_un {op : UnOp} {t : TypeId} {x : Operand} {x' : AOpd} (ho : o.op = .unOp op t x) (hx : cOpd x=some x') : PureOk P o (.un op x'):=by
 intro f h res he
 simp only [AOp.eval] at he
 cases hb : unV op (x'.val f) with
 | none => simp [hb] at he
 | some v =>
  simp [hb] at he
  subst he
  refine ⟨_,rfl,fun h₂ => by simp [AOp.eval,hb],fun μ a w hr => ?_⟩
  have hxr:=cOpd_rel hx hr
  revert hb
  generalize x'.val f=p at hxr
  intro hb
  unfold unV at hb
  split at hb
  ·have e:=hxr.int_inv
   split at hb
   ·cases hb; exact ⟨_,.int _ _,run_value (s:=Op.unary .neg (a.eval x)) (by rw [e]; simp [Op.unary,Op.intArith]) (by simp only [execOp,ho])⟩
   ·cases hb; exact ⟨_,.int _ _,run_value (s:=Op.unary .xor (a.eval x)) (by rw [e]; simp [Op.unary,Op.intBits]) (by simp only [execOp,ho])⟩
   ·cases hb
  ·have e:=hxr.bool_inv
   split at hb
   ·cases hb; exact ⟨_,.bool _,run_value (s:=Op.unary .not (a.eval x)) (by rw [e]; simp [Op.unary]) (by simp only [execOp,ho])⟩
   ·cases hb
  ·cases hb
theorem ok_toInt {s t : TypeId} {k : IntKind} {x : Operand} {x' : AOpd} {d : TypeDesc} (ho : o.op = .convert s t x) (hx : cOpd x=some x') (hs : P.underlying s=some d) (ht : P.underlying t=some (.int k)) : PureOk P o (.toInt k x'):=by
 intro f h res he
 simp only [AOp.eval] at he
 split at he
 ·rename_i k' n hv
  cases he
  refine ⟨_,rfl,fun h₂ => by simp [AOp.eval,hv],fun μ a w hr => ?_⟩
  have hxr:=cOpd_rel hx hr
  rw [hv] at hxr
  refine ⟨_,.int _ _,run_value (s:=convert s t (a.eval x)) ?_ (by simp only [execOp,ho])⟩
  rw [hxr.int_inv]
  simp [convert,run_underlying hs,run_underlying ht,Conv.intToInt]
 ·cases he
theorem ok_asStr {s t : TypeId} {x : Operand} {x' : AOpd} (ho : o.op = .convert s t x) (hx : cOpd x=some x') (hs : P.underlying s=some .string) (ht : P.underlying t=some .string) : PureOk P o (.asStr x'):=by
 intro f h res he
 simp only [AOp.eval] at he
 split at he
 ·rename_i b hv
  cases he
  refine ⟨_,rfl,fun h₂ => by simp [AOp.eval,hv],fun μ a w hr => ?_⟩
  have hxr:=cOpd_rel hx hr
  rw [hv] at hxr
  obtain ⟨b,hb',rfl⟩:=hxr.str_inv
  refine ⟨_,.str b,run_value (s:=convert s t (a.eval x)) ?_ (by simp only [execOp,ho])⟩
  rw [hb']
  simp [convert,run_underlying hs,run_underlying ht]
 ·cases he
theorem VRel.ptr_inv {μ : Inj} {o' off : Nat} {v : Value} (h : VRel μ (.ptr o' off) v) : ∃ b base size,μ o'=some (b,base,size)∧v = .pointer (some ⟨b,base + off,none⟩):=by
 cases h; exact ⟨_,_,_,‹_›,rfl⟩
theorem VRel.slice_inv {μ : Inj} {o' off sz len cap : Nat} {ex : Bool} {v : Value} (h : VRel μ (.slice o' off sz len cap ex) v) :
  (∃ b base size boff cap',μ o'=some (b,base,size)∧v = .slice (some ⟨b,boff,none⟩) len cap'∧len≤cap'∧(if ex then cap'=cap else cap≤cap')∧boff + cap' * sz≤size∧(boff=base + off∨(len=0∧cap'=0))) ∨
   (len=0∧cap=0∧ex=true∧∃ x,v = .slice (some x) 0 0):=by
 cases h with
 | slice => exact .inl ⟨_,_,_,_,_,‹_›,rfl,‹_›,‹_›,‹_›,‹_›⟩
 | empt => exact .inr ⟨rfl,rfl,rfl,_,rfl⟩
theorem VRel.slice_len {μ : Inj} {o' off sz len cap : Nat} {ex : Bool} {v : Value} (h : VRel μ (.slice o' off sz len cap ex) v) : ∃ a cap',v = .slice a len cap'∧(if ex then cap'=cap else cap≤cap'):=by
 rcases h.slice_inv with ⟨b,base,size,boff,cap',_,hb,_,hc,_⟩ | ⟨rfl,rfl,rfl,x,hb⟩
 ·exact ⟨_,_,hb,hc⟩
 ·exact ⟨_,_,hb,by simp⟩
theorem natOf_inv {v : AV} {n : Nat} (h : natOf v=some n) : ∃ k,v = .int k (n : Int):=by
 unfold natOf at h
 split at h
 ·split at h
  ·rename_i k m hm; cases h; exact ⟨k,by rw [Int.toNat_of_nonneg hm]⟩
  ·cases h
 ·cases h
theorem run_sizeOf' {t : TypeId} {i : TypeInfo} (h : P.info? t=some i) (w : World) : (sizeOf t).run P w = .ok i.size w:=by simp [sizeOf,typeInfo,h]
theorem ok_fieldAddr {t : TypeId} {x : Operand} {x' : AOpd} {i : Nat} {fs : Array Field} {fd : Field} {inf : TypeInfo} (ho : o.op = .fieldAddr t x i) (hx : cOpd x=some x') (ht : P.underlying t=some (.struct fs)) (hf : fs[i]?=some fd)
  (hi : P.info? fd.type=some inf) (hz : inf.size≠0) : PureOk P o (.fieldAddr fd.offset x'):=by
 intro f h res he
 simp only [AOp.eval] at he
 split at he
 ·rename_i p off hv
  cases he
  refine ⟨_,rfl,fun h₂ => by simp [AOp.eval,hv],fun μ a w hr => ?_⟩
  have hxr:=cOpd_rel hx hr
  rw [hv] at hxr
  obtain ⟨b,base,size,hm,hb⟩:=hxr.ptr_inv
  refine ⟨_,.ptr (off:=off + fd.offset) hm,run_value (s:=Instr.fieldAt t (a.eval x) i) ?_ (by simp only [execOp,ho])⟩
  rw [hb]
  simp [Instr.fieldAt,run_underlying ht,hf,Instr.sureAddr,fieldPlace,run_sizeOf' hi,hz,addr_add,Nat.add_assoc]
 ·cases he
theorem ok_idxAddr {t e : TypeId} {x y : Operand} {x' y' : AOpd} {inf : TypeInfo} (ho : o.op = .indexAddr t x y) (hx : cOpd x=some x') (hy : cOpd y=some y') (ht : P.underlying t=some (.slice e)) (hi : P.info? e=some inf) :
  PureOk P o (.idxAddr inf.size x' y'):=by
 intro f h res he
 simp only [AOp.eval] at he
 split at he
 ·rename_i p off z len cap ex n hv hn
  split at he
  ·rename_i hc
   cases he
   refine ⟨_,rfl,fun h₂ => by simp [AOp.eval,hv,hn,hc],fun μ a w hr => ?_⟩
   have hxr:=cOpd_rel hx hr
   have hyr:=cOpd_rel hy hr
   rw [hv] at hxr
   obtain ⟨k,hk⟩:=natOf_inv hn
   rw [hk] at hyr
   obtain ⟨b,base,size,boff,cap',hm,hb,hlc,_,hs,ha⟩:=hxr.slice_inv.resolve_right (fun hh => by have:=hh.1; have:=hc.2; omega)
   have hboff : boff=base + off:=by rcases ha with ha | ha <;> omega
   subst hboff
   refine ⟨_,.ptr (off:=off + n * inf.size) hm,run_value (s:=Instr.indexAt t (a.eval x) (a.eval y)) ?_ (by simp only [execOp,ho])⟩
   rw [hb,hyr.int_inv]
   simp [Instr.indexAt,run_underlying ht,asIntOf,run_sizeOf' hi,hc.2,addr_add,Nat.add_assoc]
  ·cases he
 ·cases he
theorem ok_idxAddrArr {t e : TypeId} {len : Nat} {x y : Operand} {x' y' : AOpd} {inf : TypeInfo} (ho : o.op = .indexAddr t x y) (hx : cOpd x=some x') (hy : cOpd y=some y') (ht : P.underlying t=some (.array len e)) (hi : P.info? e=some inf) :
  PureOk P o (.idxAddrArr len inf.size x' y'):=by
 intro f h res he
 simp only [AOp.eval] at he
 split at he
 ·rename_i p off n hv hn
  split at he
  ·rename_i hc
   cases he
   refine ⟨_,rfl,fun h₂ => by simp [AOp.eval,hv,hn,hc],fun μ a w hr => ?_⟩
   have hxr:=cOpd_rel hx hr
   have hyr:=cOpd_rel hy hr
   rw [hv] at hxr
   obtain ⟨k,hk⟩:=natOf_inv hn
   rw [hk] at hyr
   obtain ⟨b,base,size,hm,hb⟩:=hxr.ptr_inv
   refine ⟨_,.ptr (off:=off + n * inf.size) hm,run_value (s:=Instr.indexAt t (a.eval x) (a.eval y)) ?_ (by simp only [execOp,ho])⟩
   rw [hb,hyr.int_inv]
   simp [Instr.indexAt,run_underlying ht,asIntOf,Instr.sureAddr,run_sizeOf' hi,hc,addr_add,Nat.add_assoc]
  ·cases he
 ·cases he
def aggOf (P : Program) (t : TypeId) : Option Bool :=
 match P.underlying t with
 | some (.struct _) | some (.array _ _) => some true
 | some _ => some false
 | none => none
theorem run_isAgg' {t : TypeId} {b : Bool} (h : aggOf P t=some b) (w : World) : (isAgg t).run P w = .ok b w:=by
 unfold aggOf at h
 split at h
 ·rename_i h1; cases h; simp [isAgg,run_underlying h1]
 ·rename_i h1; cases h; simp [isAgg,run_underlying h1]
 ·rename_i d n1 n2 h1
  cases h
  simp only [isAgg,Sem.run_bind,run_underlying h1,Result.andThen_ok]
  cases d <;> first | rfl | exact absurd rfl (n1 _) | exact absurd rfl (n2 _ _)
 ·cases h
theorem partV_run {t : TypeId} {b : Bool} {inf : TypeInfo} (ha : aggOf P t=some b) (hi : P.info? t=some inf) {μ : Inj} {l : List AV} {cs : Array Value} (hr : VRels μ l cs.toList) {off : Nat} {v : AV} (hv : partV b l off inf.size=some v) (w : World) :
  ∃ v',VRel μ v v'∧(part t cs off).run P w = .ok v' w:=by
 unfold partV at hv
 cases b
 ·simp at hv
  obtain ⟨y,hy,hyr⟩:=hr.get hv
  refine ⟨y,hyr,?_⟩
  have : cs[off]?=some y:=by simpa using hy
  simp [part,run_isAgg' ha,this]
 ·simp at hv
  obtain ⟨hle,rfl⟩:=hv
  refine ⟨.agg (cs.extract off (off + inf.size)),VRel.agg_iff.2 ⟨_,rfl,?_⟩,by simp [part,run_isAgg' ha,run_sizeOf' hi]⟩
  have e : (cs.extract off (off + inf.size)).toList=(cs.toList.drop off).take inf.size:=by
   simp [Array.toList_extract,List.extract_eq_take_drop]
  rw [e]
  exact (hr.drop off).take inf.size
theorem ok_field {t : TypeId} {x : Operand} {x' : AOpd} {i : Nat} {fs : Array Field} {fd : Field} {b : Bool} {inf : TypeInfo} (ho : o.op = .field t x i) (hx : cOpd x=some x') (ht : P.underlying t=some (.struct fs)) (hf : fs[i]?=some fd)
  (ha : aggOf P fd.type=some b) (hi : P.info? fd.type=some inf) : PureOk P o (.field b fd.offset inf.size x'):=by
 intro f h res he
 simp only [AOp.eval] at he
 split at he
 ·rename_i l hv
  cases hp : partV b l fd.offset inf.size with
  | none => simp [hp] at he
  | some v =>
   simp [hp] at he
   subst he
   refine ⟨v,rfl,fun h₂ => by simp [AOp.eval,hv,hp],fun μ a w hr => ?_⟩
   have hxr:=cOpd_rel hx hr
   rw [hv] at hxr
   obtain ⟨cs,hcs,hrel⟩:=VRel.agg_iff.1 hxr
   obtain ⟨v',h1,h2⟩:=partV_run (P:=P) ha hi hrel hp w
   refine ⟨v',h1,run_value (s:=Instr.field t (a.eval x) i) ?_ (by simp only [execOp,ho])⟩
   rw [hcs]
   simp [Instr.field,run_underlying ht,hf,asAgg,h2]
 ·cases he
theorem ok_idxArr {t e : TypeId} {len : Nat} {x y : Operand} {x' y' : AOpd} {b : Bool} {inf : TypeInfo} (ho : o.op = .index t x y) (hx : cOpd x=some x') (hy : cOpd y=some y') (ht : P.underlying t=some (.array len e))
  (ha : aggOf P e=some b) (hi : P.info? e=some inf) : PureOk P o (.idxArr b len inf.size x' y'):=by
 intro f h res he
 simp only [AOp.eval] at he
 split at he
 ·rename_i l n hv hn
  split at he
  ·rename_i hc
   cases hp : partV b l (n * inf.size) inf.size with
   | none => simp [hp] at he
   | some v =>
    simp [hp] at he
    subst he
    refine ⟨v,rfl,fun h₂ => by simp [AOp.eval,hv,hn,hc,hp],fun μ a w hr => ?_⟩
    have hxr:=cOpd_rel hx hr
    have hyr:=cOpd_rel hy hr
    rw [hv] at hxr
    obtain ⟨k,hk⟩:=natOf_inv hn
    rw [hk] at hyr
    obtain ⟨cs,hcs,hrel⟩:=VRel.agg_iff.1 hxr
    obtain ⟨v',h1,h2⟩:=partV_run (P:=P) ha hi hrel hp w
    refine ⟨v',h1,run_value (s:=Instr.index t (a.eval x) (a.eval y)) ?_ (by simp only [execOp,ho])⟩
    rw [hcs,hyr.int_inv]
    simp [Instr.index,run_underlying ht,asIntOf,run_sizeOf' hi,hc,h2]
  ·cases he
 ·cases he
theorem ok_idxStr {t : TypeId} {x y : Operand} {x' y' : AOpd} (ho : o.op = .index t x y) (hx : cOpd x=some x') (hy : cOpd y=some y') (ht : P.underlying t=some .string) : PureOk P o (.idxStr x' y'):=by
 intro f h res he
 simp only [AOp.eval] at he
 split at he
 ·rename_i s n hv hn
  cases hp : s[n]? with
  | none => simp [hp] at he
  | some b =>
   simp [hp] at he
   subst he
   refine ⟨_,rfl,fun h₂ => by simp [AOp.eval,hv,hn,hp],fun μ a w hr => ?_⟩
   have hxr:=cOpd_rel hx hr
   have hyr:=cOpd_rel hy hr
   rw [hv] at hxr
   obtain ⟨k,hk⟩:=natOf_inv hn
   rw [hk] at hyr
   obtain ⟨bs,hbs,rfl⟩:=hxr.str_inv
   refine ⟨_,.int _ _,run_value (s:=Instr.index t (a.eval x) (a.eval y)) ?_ (by simp only [execOp,ho])⟩
   rw [hbs,hyr.int_inv]
   have hlt : n < bs.size:=by
    rcases Nat.lt_or_ge n bs.data.toList.length with h' | h'
    ·exact h'
    ·rw [List.getElem?_eq_none h'] at hp; cases hp
   have hg : bs[n]?=some b:=by
    have : bs.data.toList[n]?=bs.data[n]?:=by simp
    rw [this,Array.getElem?_eq_getElem (show n < bs.data.size from hlt)] at hp
    have h2 : bs[n]?=some (bs[n]'hlt):=getElem?_pos bs n hlt
    rw [h2]
    exact hp
   simp [Instr.index,run_underlying ht,asIntOf,hg]
 ·cases he
theorem run_builtin {b : Builtin} {args : Array Operand} {argTypes : Array TypeId} (ho : o.op = .call { callee := .builtin b,args:=args,argTypes:=argTypes }) (a : Act) (w : World) :
  ∃ consts,(execOp a.eval o).run P w=(builtin b argTypes o.type consts (args.map a.eval)).run P w:=by
 refine ⟨args.map fun | .const _ => true | _ => false,?_⟩
 simp only [execOp,ho,resolve,Sem.run_bind,Sem.run_pure,Result.andThen_ok,invoke]
 rfl
theorem VRel.nilSlice_inv {μ : Inj} {v : Value} (h : VRel μ .nilSlice v) : v = .slice none 0 0:=by cases h; rfl
theorem VRel.nilIface_inv {μ : Inj} {v : Value} (h : VRel μ .nilIface v) : v = .nilIface:=by cases h; rfl
theorem VRel.nilMap_inv {μ : Inj} {v : Value} (h : VRel μ .nilMap v) : v = .map none:=by cases h; rfl
theorem ok_lenStr {t : TypeId} {x : Operand} {x' : AOpd} (ho : o.op = .call { callee := .builtin .len,args:=#[x],argTypes:=#[t] }) (hx : cOpd x=some x') (ht : P.underlying t=some .string) : PureOk P o (.lenStr x'):=by
 intro f h res he
 simp only [AOp.eval] at he
 split at he
 ·rename_i s hv
  cases he
  refine ⟨_,rfl,fun h₂ => by simp [AOp.eval,hv],fun μ a w hr => ?_⟩
  have hxr:=cOpd_rel hx hr
  rw [hv] at hxr
  obtain ⟨b,hb',rfl⟩:=hxr.str_inv
  refine ⟨_,.int _ _,?_⟩
  obtain ⟨consts,hc⟩:=run_builtin (P:=P) ho a w
  rw [hc]
  simp [builtin,Builtin.len_,run_underlying ht,hb',goInt]
 ·cases he
theorem ok_lenSlice {t e : TypeId} {x : Operand} {x' : AOpd} (ho : o.op = .call { callee := .builtin .len,args:=#[x],argTypes:=#[t] }) (hx : cOpd x=some x') (ht : P.underlying t=some (.slice e)) : PureOk P o (.lenSlice x'):=by
 intro f h res he
 simp only [AOp.eval] at he
 cases hl : lenOfV (x'.val f) with
 | none => simp [hl] at he
 | some n =>
  simp [hl] at he
  subst he
  refine ⟨_,rfl,fun h₂ => by simp [AOp.eval,hl],fun μ a w hr => ?_⟩
  have hxr:=cOpd_rel hx hr
  refine ⟨_,.int _ _,?_⟩
  obtain ⟨consts,hc⟩:=run_builtin (P:=P) ho a w
  rw [hc]
  unfold lenOfV at hl
  split at hl
  ·rename_i hv
   cases hl
   rw [hv] at hxr
   obtain ⟨ax,cap',hb,_⟩:=hxr.slice_len
   simp [builtin,Builtin.len_,run_underlying ht,hb,goInt]
  ·rename_i hv
   cases hl
   rw [hv] at hxr
   have : a.eval x = .slice none 0 0:=hxr.nilSlice_inv
   simp [builtin,Builtin.len_,run_underlying ht,this,goInt]
  ·cases hl
theorem ok_lenC {t e : TypeId} {n : Nat} {x : Operand} (ho : o.op = .call { callee := .builtin .len,args:=#[x],argTypes:=#[t] })
  (ht : P.underlying t=some (.array n e)∨∃ arr,P.underlying t=some (.pointer arr)∧P.underlying arr=some (.array n e)) : PureOk P o (.lenC n):=by
 intro f h res he
 cases he
 refine ⟨_,rfl,fun h₂ => rfl,fun μ a w hr => ⟨_,.int _ _,?_⟩⟩
 obtain ⟨consts,hc⟩:=run_builtin (P:=P) ho a w
 rw [hc]
 rcases ht with ht | ⟨arr,ht,ht2⟩
 ·simp [builtin,Builtin.len_,run_underlying ht,goInt]
 ·simp [builtin,Builtin.len_,run_underlying ht,run_underlying ht2,goInt]
theorem ok_capSlice {t e : TypeId} {x : Operand} {x' : AOpd} (ho : o.op = .call { callee := .builtin .cap,args:=#[x],argTypes:=#[t] }) (hx : cOpd x=some x') (ht : P.underlying t=some (.slice e)) : PureOk P o (.capSlice x'):=by
 intro f h res he
 simp only [AOp.eval] at he
 split at he
 ·rename_i hv
  cases he
  refine ⟨_,rfl,fun h₂ => by simp [AOp.eval,hv],fun μ a w hr => ?_⟩
  have hxr:=cOpd_rel hx hr
  rw [hv] at hxr
  have : a.eval x = .slice none 0 0:=hxr.nilSlice_inv
  refine ⟨_,.int _ _,?_⟩
  obtain ⟨consts,hc⟩:=run_builtin (P:=P) ho a w
  rw [hc]
  simp [builtin,Builtin.cap_,run_underlying ht,this,goInt]
 ·rename_i p off z len cap hv
  cases he
  refine ⟨_,rfl,fun h₂ => by simp [AOp.eval,hv],fun μ a w hr => ?_⟩
  have hxr:=cOpd_rel hx hr
  rw [hv] at hxr
  obtain ⟨ax,cap',hb,hcc⟩:=hxr.slice_len
  simp at hcc
  subst hcc
  refine ⟨_,.int _ _,?_⟩
  obtain ⟨consts,hc⟩:=run_builtin (P:=P) ho a w
  rw [hc]
  simp [builtin,Builtin.cap_,run_underlying ht,hb,goInt]
 ·cases he
theorem mnx_run {isMax : Bool} : ∀ {l : List AV} {x v : AV},mnxAll isMax x l=some v→∀ {μ : Inj} {x' : Value} {l' : List Value},VRel μ x x'→VRels μ l l'→∀ (w : World),
  ∃ v',VRel μ v v'∧(l'.foldlM (if isMax then Builtin.max2 else Builtin.min2) x').run P w = .ok v' w
 | [],x,v,hv,μ,x',l',hx,hl,w => by
  cases hv
  have : l'=[]:=by have:=hl.1; cases l' <;> simp_all
  subst this
  exact ⟨x',hx,rfl⟩
 | y :: r,x,v,hv,μ,x',l',hx,hl,w => by
  simp only [mnxAll] at hv
  cases l' with
  | nil => have:=hl.1; simp at this
  | cons y' r' =>
   cases hz : mnxV isMax x y with
   | none => simp [hz] at hv
   | some z =>
    simp [hz] at hv
    have key : ∃ z',VRel μ z z'∧((if isMax then Builtin.max2 else Builtin.min2) x' y').run P w = .ok z' w:=by
     have hy:=hl.head
     unfold mnxV at hz
     split at hz
     ·split at hz
      ·cases hz
       rw [hx.int_inv,hy.int_inv]
       cases isMax
       ·exact ⟨_,.int _ _,by simp [Builtin.min2]⟩
       ·exact ⟨_,.int _ _,by simp [Builtin.max2]⟩
      ·cases hz
     ·cases hz
    obtain ⟨z',hzr,hzrun⟩:=key
    obtain ⟨v',h1,h2⟩:=mnx_run hv hzr hl.tail w
    refine ⟨v',h1,?_⟩
    rw [List.foldlM_cons,Sem.run_bind,hzrun]
    exact h2
theorem ok_mnx {isMax : Bool} {args : Array Operand} {ts : Array TypeId} {xs : List AOpd} (ho : o.op = .call { callee := .builtin (if isMax then .max else .min),args:=args,argTypes:=ts }) (hx : cOpds args.toList=some xs) : PureOk P o (.mnx isMax xs):=by
 intro f h res he
 simp only [AOp.eval] at he
 split at he
 ·rename_i x r hv
  cases hm : mnxAll isMax x r with
  | none => simp [hm] at he
  | some v =>
   simp [hm] at he
   subst he
   refine ⟨v,rfl,fun h₂ => by simp [AOp.eval,hv,hm],fun μ a w hr => ?_⟩
   have hxr:=cOpds_rel hx hr
   rw [hv] at hxr
   have hargs : (args.map a.eval).toList=args.toList.map a.eval:=by simp
   cases ha : args.toList.map a.eval with
   | nil => rw [ha] at hxr; have:=hxr.1; simp at this
   | cons x' r' =>
    rw [ha] at hxr hargs
    obtain ⟨v',h1,h2⟩:=mnx_run (P:=P) hm hxr.head hxr.tail w
    refine ⟨v',h1,?_⟩
    obtain ⟨consts,hc⟩:=run_builtin (P:=P) ho a w
    rw [hc]
    cases isMax
    ·simp [builtin,Builtin.min_,ha]
     simp at h2
     rw [h2]; rfl
    ·simp [builtin,Builtin.max_,ha]
     simp at h2
     rw [h2]; rfl
 ·cases he
theorem ok_extract {x : Operand} {x' : AOpd} {i : Nat} (ho : o.op = .extract x i) (hx : cOpd x=some x') : PureOk P o (.extract x' i):=by
 intro f h res he
 simp only [AOp.eval] at he
 split at he
 ·rename_i l hv
  cases hp : l[i]? with
  | none => simp [hp] at he
  | some v =>
   simp [hp] at he
   subst he
   refine ⟨v,rfl,fun h₂ => by simp [AOp.eval,hv,hp],fun μ a w hr => ?_⟩
   have hxr:=cOpd_rel hx hr
   rw [hv] at hxr
   obtain ⟨cs,hcs,hrel⟩:=VRel.tuple_iff.1 hxr
   obtain ⟨y,hy,hyr⟩:=hrel.get hp
   refine ⟨y,hyr,run_value (s:=Instr.extract (a.eval x) i) ?_ (by simp only [execOp,ho])⟩
   rw [hcs]
   have : cs[i]?=some y:=by simpa using hy
   simp [Instr.extract,this]
 ·cases he
theorem VRel.iface_inv {μ : Inj} {t : Nat} {u : AV} {v : Value} (h : VRel μ (.iface t u) v) : ∃ u',v = .iface t u'∧VRel μ u u':=by
 cases h; exact ⟨_,rfl,‹_›⟩
theorem pair_rel {μ : Inj} {v : AV} {v' : Value} (h : VRel μ v v') (b : Bool) : VRel μ (.tuple [v,.bool b]) (.tuple #[v',.bool b]) :=
 VRel.tuple_iff.2 ⟨_,rfl,.cons h (.cons (.bool b) .nil)⟩
theorem ok_assertT {t u : TypeId} {commaOk : Bool} {x : Operand} {x' : AOpd} {d : TypeDesc} {inf : TypeInfo} {z : Value} {z' : AV} (ho : o.op = .typeAssert x u t commaOk) (hx : cOpd x=some x')
  (ht : P.underlying t=some d) (hd : notIface d=true) (hi : P.info? t=some inf) (hz : inf.zero=some z) (hz' : cVal z=some z') : PureOk P o (.assertT t z' commaOk x'):=by
 intro f h res he
 have hnot : ∀ (v : Value) (w : World),(Instr.typeAssert v u t commaOk).run P w=(match v with
   | .nilIface => (if commaOk then (.ok (.tuple #[z,.bool false]) w) else (runtimePanic (.typeAssertion (some u) none t "")).run P w : Result Value)
   | .iface t' v => if t'=t then .ok (if commaOk then .tuple #[v,.bool true] else v) w else (if commaOk then (.ok (.tuple #[z,.bool false]) w) else (runtimePanic (.typeAssertion (some u) (some t') t "")).run P w : Result Value)
   | _ => (stuck "TypeAssert: interface value expected" : Sem Value).run P w):=by
  intro v w
  simp only [Instr.typeAssert,Sem.run_bind,run_underlying ht,Result.andThen_ok]
  cases d <;> first | cases hd | skip
  all_goals
   cases v <;> first | rfl | skip
   ·rename_i t' v
    by_cases e : t'=t
    ·simp [e]
    ·cases commaOk <;> simp [e,zeroValue,typeInfo,hi,hz]
   ·cases commaOk <;> simp [zeroValue,typeInfo,hi,hz]
 simp only [AOp.eval] at he
 split at he
 ·rename_i t' v hv
  split at he
  ·rename_i e
   subst e
   cases he
   refine ⟨_,rfl,fun h₂ => by simp [AOp.eval,hv],fun μ a w hr => ?_⟩
   have hxr:=cOpd_rel hx hr
   rw [hv] at hxr
   obtain ⟨v',hv',hrel⟩:=hxr.iface_inv
   refine ⟨if commaOk then .tuple #[v',.bool true] else v',?_,run_value (s:=Instr.typeAssert (a.eval x) u t' commaOk) ?_ (by simp only [execOp,ho])⟩
   ·cases commaOk
    ·exact hrel
    ·exact pair_rel hrel true
   ·rw [hnot,hv']; simp
  ·rename_i e
   split at he
   ·rename_i hc
    cases he
    refine ⟨_,rfl,fun h₂ => by simp [AOp.eval,hv,e,hc],fun μ a w hr => ?_⟩
    have hxr:=cOpd_rel hx hr
    rw [hv] at hxr
    obtain ⟨v',hv',hrel⟩:=hxr.iface_inv
    refine ⟨_,pair_rel (cVal_rel hz' μ) false,run_value (s:=Instr.typeAssert (a.eval x) u t commaOk) ?_ (by simp only [execOp,ho])⟩
    rw [hnot,hv']; simp [e,hc]
   ·cases he
 ·rename_i hv
  split at he
  ·rename_i hc
   cases he
   refine ⟨_,rfl,fun h₂ => by simp [AOp.eval,hv,hc],fun μ a w hr => ?_⟩
   have hxr:=cOpd_rel hx hr
   rw [hv] at hxr
   have hn : a.eval x = .nilIface:=hxr.nilIface_inv
   refine ⟨_,pair_rel (cVal_rel hz' μ) false,run_value (s:=Instr.typeAssert (a.eval x) u t commaOk) ?_ (by simp only [execOp,ho])⟩
   rw [hnot,hn]; simp [hc]
  ·cases he
 ·cases he
end
end Go.Vm

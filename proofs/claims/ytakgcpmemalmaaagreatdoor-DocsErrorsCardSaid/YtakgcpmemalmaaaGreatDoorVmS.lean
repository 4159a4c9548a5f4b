/- Code, functions, calls: the machine is sound. -/
import Derived.Test.YtakgcpmemalmaaaGreatDoorVmP
import Derived.LoopN
import Derived.LoopNIn
import Derived.RangeFuncLeaves
namespace Go.Vm
open Go.RowKit
set_option linter.unusedSimpArgs false
set_option linter.unusedVariables false
def planAt (n : Nat) (p : Nat→Bool) : List Nat:=(List.range n).filter p
def lateLooks (cls : List Nat) : List Nat→List Nat→List Nat
 | [],acc => acc
 | i :: r,acc => lateLooks cls r (if cls.getD i 0 == 1 then i :: acc else if cls.getD i 0 == 0 then acc else [])
def mkPlanGo (M : List Nat) (cls sts : List Nat) (n : Nat) : List Nat→List Nat→Nat→Plan
 | [],past,k =>
  let os:=planAt n fun i => (cls.getD i 0 != 3) && (sts.getD i 0 == k)
  let fr:=lateLooks cls os []
  .last os (planAt n fun i => (cls.getD i 0 == 1 || cls.getD i 0 == 2) && decide (sts.getD i 0≤k) && !(past.any fun w => has M w i) && !(fr.contains i))
 | w :: r,past,k =>
  let os:=planAt n fun i => (cls.getD i 0 != 3) && (sts.getD i 0 == k)
  let fr:=lateLooks cls os []
  .stage os (planAt n fun i => (cls.getD i 0 == 1 || cls.getD i 0 == 2) && decide (sts.getD i 0≤k) && !(past.any fun w => has M w i) && !(fr.contains i)) w (mkPlanGo M cls sts n r (w :: past) (k + 1))
def mkPlan (M : List Nat) (xs : List AOper) : Plan :=
 let cls:=xs.map (·.op.cls)
 let ws:=planAt xs.length fun i => cls.getD i 0 == 3
 let sts:=(List.range xs.length).map fun i => (ws.filter fun w => has M i w).length
 mkPlanGo M cls sts xs.length ws [] 0
def cDraw (P : Program) (n : Nat) (ops : Array Oper) : ACode :=
 let xs:=comp P n ops
 let M:=masks ops
 let p:=mkPlan M xs
 if P.follows .mixedOrders && dstsOk xs && edgesOk ops && planOk M xs p none 0 then .draw (p.items xs) else .stuck
def allOps : List DItem→Option (List AOper)
 | [] => some []
 | .op o :: r => (allOps r).map (o :: ·)
 | .look _ :: _ => none
def asOps : ACode→ACode
 | .draw l => match allOps l with
  | some l' => .ops l'
  | none => .draw l
 | c => c
theorem runItems_allOps {call : Handler} : ∀ {l : List DItem} {l' : List AOper},allOps l=some l'→∀ (f : Fr) (h : AH),runOps call l' f h=runItems call l f h
 | [],l',hl,f,h => by cases hl; rfl
 | .op o :: r,l',hl,f,h => by
  simp only [allOps] at hl
  cases hr : allOps r with
  | none => simp [hr] at hl
  | some l2 =>
   simp [hr] at hl
   subst hl
   simp only [runOps,runItems]
   cases o.run call f h with
   | none => rfl
   | some p => exact runItems_allOps hr p.1 p.2
 | .look _ :: r,l',hl,f,h => by cases hl
theorem acode_asOps (call : Handler) (lf : Nat) (c : ACode) (f : Fr) (h : AH) : acode call lf (asOps c) f h=acode call lf c f h:=by
 cases c with
 | draw l =>
  simp only [asOps]
  split
  ·rename_i l' hl
   simp only [acode,runItems_allOps hl]
  ·rfl
 | _ => rfl
def cCode (P : Program) (n : Nat) : Code→ACode
 | .skip => .skip
 | .region _ ops draw => if draw then asOps (cDraw P n ops) else .ops (comp P n ops)
 | .seq a b => .seq (cCode P n a) (cCode P n b)
 | .cond c a b => match cOpd c with
  | some c' => .cond c' (cCode P n a) (cCode P n b)
  | none => .stuck
 | .block id c => .block id (cCode P n c)
 | .loop c => .loop (cCode P n c)
 | .exit id => .exit id
 | .ret => .ret
 | _ => .stuck
def cResult (P : Program) : ResultVar→Option AResult
 | .tmp t => some (.tmp t)
 | .cell a t => match aggOf P t,P.info? t with
  | some g,some i => some (.cell a g i.size)
  | _,_ => none
def cResults (P : Program) : List ResultVar→Option (List AResult)
 | [] => some []
 | r :: s => match cResult P r,cResults P s with
  | some a,some l => some (a :: l)
  | _,_ => none
def cFunc (P : Program) (fn : Func) : Option AFunc :=
 match fn.body,cResults P fn.results.toList with
 | some c,some rs => if fn.params.size + fn.nfree≤fn.ntmps∧(fn.name == "runtime.NumGoroutine")=false then some ⟨fn.params.size + fn.nfree,cCode P fn.ntmps c,rs⟩ else none
 | _,_ => none
section
variable {P : Program} {call : Handler} {n : Nat} {π : Pin} {D : List Deferred} {ρ : Option Nat} {N : Keep π} {w₀ : World}
theorem Lof_false {k j : Nat} : ¬ Lof (Array.replicate k false) j:=by
 unfold Lof
 simp only [Array.getD_eq_getD_getElem?,Array.getElem?_replicate]
 split <;> simp
theorem draw_wp (hcall : HOk π P call) {id : Nat} {ops : Array Oper} {l : List DItem} (hd : cDraw P n ops = .draw l) {f f' : Fr} {h h' : AH} (hr : runItems call l f h=some (f',h')) {μ : Inj} {a : Act} {w : World} (hf : FRel D n μ f a) (hR : R N w₀ μ h w)
  {Q : Exit→Act→World→Prop} (hQ : ∀ μ' a' w',Inj.Ext h.next h'.next μ μ'→FRel D n μ' f' a'→R N w₀ μ' h' w'→Q .normal a' w') : (Code.region id ops true).wpIn (rnd ρ) 0 P Q a w:=by
 unfold cDraw at hd
 simp only at hd
 split at hd
 ·rename_i hc
  cases hd
  simp only [Bool.and_eq_true] at hc
  obtain ⟨⟨⟨hm,hD⟩,hE⟩,hp⟩:=hc
  refine wpIn_region_any hm ?_
  have hci : CI (masks ops) (comp P n ops) call f h.next 0 0 f h (fun _ => none):=by
   constructor
   ·intro i hi; simp at hi
   ·intro t _; rfl
   ·intro i hi; simp at hi
   ·intro i hi; simp at hi
   ·intro i hi; simp at hi
   ·intro i p hi; cases hi
   ·intro i j p hi; cases hi
   ·exact Nat.le_refl _
   ·intro i hi; simp at hi
  have hcc : CC D n N w₀ (masks ops) (comp P n ops) call f h.next μ 0 0 f h (fun _ => none) (Lof (Array.replicate ops.size false)) f μ a { w with drawn:=w.drawn + 1 }:=by
   refine ⟨hci,?_,hR.drawn _,hf,(fun i hi => absurd hi Lof_false),(fun i p _ hi => by cases hi),.refl (Nat.le_refl _),(fun i hi => by simp at hi)⟩
   intro t
   exact ⟨(fun ⟨i,hi,_⟩ => by simp at hi),fun _ => rfl⟩
  obtain ⟨E',G',F',H',pid',c',lk',rem'⟩:=hcc.enter rfl hD hp hr (fun v i hv => by cases hv)
  refine draw_any hcall rfl rfl hD hE hQ ops.size _ _ _ _ _ _ _ _ _ _ (by simp) ?_ ?_ c' lk' rem'
  ·refine Nat.le_trans List.countP_le_length (by simp)
  ·intro i o _ hi; exact absurd hi Lof_false
 ·cases hd
def ExOk : AExit→Exit→Prop
 | .normal,.normal => True
 | .exit i,.exit j => i=j
 | .ret,.ret => True
 | _,_ => False
def CodeOk (π : Pin) (D : List Deferred) (ρ : Option Nat) (P : Program) (call : Handler) (n lf : Nat) (c : Code) : Prop :=
 ∀ (f f' : Fr) (h h' : AH) (e : AExit),acode call lf (cCode P n c) f h=some (e,f',h')→∀ (N : Keep π) (w₀ : World) (μ : Inj) (a : Act) (w : World),FRel D n μ f a→R N w₀ μ h w →
  c.wpIn (rnd ρ) 0 P (fun e' a' w' => ExOk e e'∧∃ μ',Inj.Ext h.next h'.next μ μ'∧FRel D n μ' f' a'∧R N w₀ μ' h' w') a w
theorem loop_ok {lf : Nat} {c : Code} (ih : CodeOk π D ρ P call n lf c) : ∀ (k : Nat) (f f' : Fr) (h h' : AH) (e : AExit),aloop (acode call lf (cCode P n c)) k f h=some (e,f',h')→∀ (N : Keep π) (w₀ : World) (μ : Inj) (a : Act) (w : World),FRel D n μ f a→R N w₀ μ h w →
  Code.roundsIn (rnd ρ) 0 P c (fun e' a' w' => ExOk e e'∧∃ μ',Inj.Ext h.next h'.next μ μ'∧FRel D n μ' f' a'∧R N w₀ μ' h' w') k a w:=by
 intro k
 induction k with
 | zero => intro f f' h h' e he; cases he
 | succ k ihk =>
  intro f f' h h' e he N w₀ μ a w hf hR
  simp only [aloop] at he
  rw [roundsIn_succ]
  cases hb : acode call lf (cCode P n c) f h with
  | none => simp [hb] at he
  | some p =>
   obtain ⟨e1,f1,h1⟩:=p
   have:=ih f f1 h h1 e1 hb N w₀ μ a w hf hR
   refine wpIn_mono this ?_
   rintro e' a' w' ⟨hex,μ',hext,hf',hR'⟩
   cases e1 with
   | normal =>
    cases e' <;> simp only [ExOk] at hex
    simp only [hb] at he
    simp only [Exit.then]
    have h2:=ihk f1 f' h1 h' e he N w₀ μ' a' w' hf' hR'
    have mono : ∀ (k : Nat) (Q Q' : Exit→Act→World→Prop),(∀ e a w,Q e a w→Q' e a w)→∀ a w,Code.roundsIn (rnd ρ) 0 P c Q k a w→Code.roundsIn (rnd ρ) 0 P c Q' k a w:=by
     intro k
     induction k with
     | zero => intro Q Q' _ a w h; exact h
     | succ k ihm =>
      intro Q Q' hq a w h
      rw [roundsIn_succ] at h ⊢
      refine wpIn_mono h ?_
      intro e a w hh
      cases e <;> simp only [Exit.then] at hh ⊢
      ·exact ihm Q Q' hq a w hh
      all_goals exact hq _ _ _ hh
    refine mono k _ _ ?_ a' w' h2
    rintro e2 a2 w2 ⟨hex2,μ2,hext2,hf2,hR2⟩
    exact ⟨hex2,μ2,hext.trans hext2,hf2,hR2⟩
   | exit i =>
    simp only [hb,Option.some.injEq,Prod.mk.injEq] at he
    obtain ⟨rfl,rfl,rfl⟩:=he
    cases e' <;> simp only [ExOk] at hex
    exact ⟨hex,μ',hext,hf',hR'⟩
   | ret =>
    simp only [hb,Option.some.injEq,Prod.mk.injEq] at he
    obtain ⟨rfl,rfl,rfl⟩:=he
    cases e' <;> simp only [ExOk] at hex
    exact ⟨trivial,μ',hext,hf',hR'⟩
theorem code_ok (hcall : HOk π P call) (lf : Nat) : ∀ (c : Code),CodeOk π D ρ P call n lf c:=by
 intro c
 induction c with
 | skip =>
  intro f f' h h' e he N w₀ μ a w hf hR
  cases he
  exact wpIn_skip ⟨trivial,μ,.refl (Nat.le_refl _),hf,hR⟩
 | region id ops draw =>
  intro f f' h h' e he N w₀ μ a w hf hR
  cases draw
  ·simp only [cCode,Bool.false_eq_true,if_false,acode] at he
   cases hr : runOps call (comp P n ops) f h with
   | none => simp [hr] at he
   | some p =>
    obtain ⟨f1,h1⟩:=p
    simp only [hr,Option.map_some,Option.some.injEq,Prod.mk.injEq] at he
    obtain ⟨rfl,rfl,rfl⟩:=he
    refine wpIn_region ?_
    rw [List.range_eq_range']
    exact ops_wp hcall ops.size 0 f f1 h h1 μ a w (by omega) (by simpa using hr) hf hR fun μ' a' w' hext hf' hR' => ⟨trivial,μ',hext,hf',hR'⟩
  ·simp only [cCode,if_true,acode_asOps] at he
   cases hd : cDraw P n ops with
   | draw l =>
    rw [hd] at he
    simp only [acode] at he
    cases hr : runItems call l f h with
    | none => simp [hr] at he
    | some p =>
     obtain ⟨f1,h1⟩:=p
     simp only [hr,Option.map_some,Option.some.injEq,Prod.mk.injEq] at he
     obtain ⟨rfl,rfl,rfl⟩:=he
     exact draw_wp hcall hd hr hf hR fun μ' a' w' hext hf' hR' => ⟨trivial,μ',hext,hf',hR'⟩
   | stuck => rw [hd] at he; cases he
   | _ => unfold cDraw at hd; simp only at hd; split at hd <;> cases hd
 | seq x y ihx ihy =>
  intro f f' h h' e he N w₀ μ a w hf hR
  simp only [cCode,acode] at he
  refine wpIn_seq ?_
  cases hx : acode call lf (cCode P n x) f h with
  | none => simp [hx] at he
  | some p =>
   obtain ⟨e1,f1,h1⟩:=p
   refine wpIn_mono (ihx f f1 h h1 e1 hx N w₀ μ a w hf hR) ?_
   rintro e' a' w' ⟨hex,μ',hext,hf',hR'⟩
   cases e1 with
   | normal =>
    cases e' <;> simp only [ExOk] at hex
    simp only [hx] at he
    simp only [Exit.then]
    refine wpIn_mono (ihy f1 f' h1 h' e he N w₀ μ' a' w' hf' hR') ?_
    rintro e2 a2 w2 ⟨hex2,μ2,hext2,hf2,hR2⟩
    exact ⟨hex2,μ2,hext.trans hext2,hf2,hR2⟩
   | exit i =>
    simp only [hx,Option.some.injEq,Prod.mk.injEq] at he
    obtain ⟨rfl,rfl,rfl⟩:=he
    cases e' <;> simp only [ExOk] at hex
    exact ⟨hex,μ',hext,hf',hR'⟩
   | ret =>
    simp only [hx,Option.some.injEq,Prod.mk.injEq] at he
    obtain ⟨rfl,rfl,rfl⟩:=he
    cases e' <;> simp only [ExOk] at hex
    exact ⟨trivial,μ',hext,hf',hR'⟩
 | cond c x y ihx ihy =>
  intro f f' h h' e he N w₀ μ a w hf hR
  simp only [cCode] at he
  cases hc : cOpd c with
  | none => rw [hc] at he; cases he
  | some c' =>
   rw [hc] at he
   simp only [acode] at he
   have hv:=cOpd_rel hc hf.vals
   split at he
   ·rename_i hb
    rw [hb] at hv
    exact wpIn_cond_true hv.bool_inv (ihx f f' h h' e he N w₀ μ a w hf hR)
   ·rename_i hb
    rw [hb] at hv
    exact wpIn_cond_false hv.bool_inv (ihy f f' h h' e he N w₀ μ a w hf hR)
   ·cases he
 | block id c ih =>
  intro f f' h h' e he N w₀ μ a w hf hR
  simp only [cCode,acode] at he
  refine wpIn_block ?_
  cases hc : acode call lf (cCode P n c) f h with
  | none => simp [hc] at he
  | some p =>
   obtain ⟨e1,f1,h1⟩:=p
   refine wpIn_mono (ih f f1 h h1 e1 hc N w₀ μ a w hf hR) ?_
   rintro e' a' w' ⟨hex,μ',hext,hf',hR'⟩
   cases e1 with
   | normal =>
    simp only [hc,Option.some.injEq,Prod.mk.injEq] at he
    obtain ⟨rfl,rfl,rfl⟩:=he
    cases e' <;> simp only [ExOk] at hex
    exact ⟨trivial,μ',hext,hf',hR'⟩
   | exit i =>
    simp only [hc,Option.some.injEq,Prod.mk.injEq] at he
    obtain ⟨rfl,rfl,rfl⟩:=he
    cases e' with
    | exit j =>
     simp only [ExOk] at hex
     subst hex
     simp only [Exit.inBlock]
     split
     ·exact ⟨trivial,μ',hext,hf',hR'⟩
     ·exact ⟨rfl,μ',hext,hf',hR'⟩
    | _ => exact hex.elim
   | ret =>
    simp only [hc,Option.some.injEq,Prod.mk.injEq] at he
    obtain ⟨rfl,rfl,rfl⟩:=he
    cases e' <;> simp only [ExOk] at hex
    exact ⟨trivial,μ',hext,hf',hR'⟩
 | loop c ih =>
  intro f f' h h' e he N w₀ μ a w hf hR
  simp only [cCode,acode] at he
  exact wpIn_loop_rounds lf (loop_ok ih lf f f' h h' e he N w₀ μ a w hf hR)
 | exit id =>
  intro f f' h h' e he N w₀ μ a w hf hR
  cases he
  exact wpIn_exit ⟨rfl,μ,.refl (Nat.le_refl _),hf,hR⟩
 | ret =>
  intro f f' h h' e he N w₀ μ a w hf hR
  cases he
  exact wpIn_ret ⟨trivial,μ,.refl (Nat.le_refl _),hf,hR⟩
 | rangeFunc _ _ _ _ _ _ => intro f f' h h' e he; cases he
 | scope _ _ => intro f f' h h' e he; cases he
 | label _ => intro f f' h h' e he; cases he
 | goto _ => intro f f' h h' e he; cases he
 | refuse _ => intro f f' h h' e he; cases he
theorem ofArgs_at : ∀ (l : List AV) (i : Nat) (f : Fr) (t : Nat),(Fr.ofArgs i l f).at t=if i≤t∧t < i + l.length then (l[t - i]?).getD .none else f.at t
 | [],i,f,t => by
  simp only [Fr.ofArgs,List.length_nil]
  rw [if_neg (by omega)]
 | v :: r,i,f,t => by
  simp only [Fr.ofArgs]
  rw [ofArgs_at r (i + 1) _ t,Fr.at_set]
  by_cases h1 : i=t
  ·subst h1
   rw [if_neg (by omega),if_pos rfl,if_pos (by simp)]
   simp
  ·rw [if_neg h1]
   by_cases h2 : i + 1≤t∧t < i + 1 + r.length
   ·rw [if_pos h2,if_pos (by simp; omega)]
    rw [show t - i=(t - (i + 1)) + 1 by omega,List.getElem?_cons_succ]
   ·rw [if_neg h2,if_neg (by simp; omega)]
theorem args_rel {args : List AV} {vargs : Array Value} {μ : Inj} {n : Nat} (h : VRels μ args vargs.toList) (hn : args.length≤n) : FRel [] n μ (Fr.ofArgs 0 args .nil) { tmps:=vargs ++ Array.replicate (n - vargs.size) Go.undef,defers:=[] }:=by
 have hl : args.length=vargs.size:=by simpa using h.1
 refine ⟨rfl,by simp; omega,fun t => ?_⟩
 rw [ofArgs_at]
 simp only [Act.eval,Array.getD_eq_getD_getElem?]
 by_cases ht : t < args.length
 ·rw [if_pos (by omega),Nat.sub_zero]
  obtain ⟨x,hx⟩ : ∃ x,args[t]?=some x:=⟨_,List.getElem?_eq_getElem ht⟩
  obtain ⟨y,hy,hxy⟩:=h.get hx
  rw [hx,Array.getElem?_append_left (by omega),← Array.getElem?_toList,hy]
  exact hxy
 ·rw [if_neg (by omega)]
  have : (vargs ++ Array.replicate (n - vargs.size) Go.undef)[t]?.getD Go.undef=Go.undef:=by
   rw [Array.getElem?_append_right (by omega),Array.getElem?_replicate]
   split <;> rfl
  rw [this]
  have : Fr.at Tr.nil t=AV.none:=rfl
  rw [this]
  exact .none_undef
def rvSem (tmps : Array Value) : ResultVar → Sem Value
  | .tmp t => pure (tmps.getD t Go.undef)
  | .cell b t => do loadVar t (← asAddr (tmps.getD b Go.undef))
theorem cResults_run {μ : Inj} {f : Fr} {h : AH} {a : Act} {w : World} (hf : FRel D n μ f a) (hR : R N w₀ μ h w) : ∀ {rs : List ResultVar} {as : List AResult} {l : List AV},cResults P rs=some as→resultsV f h as=some l →
  ∃ vs : List Value,VRels μ l vs∧(rs.mapM (rvSem a.tmps)).run P w = .ok vs w
 | [],as,l,hc,hr => by
  cases hc; cases hr
  exact ⟨[],.nil,by simp⟩
 | r :: rs,as,l,hc,hr => by
  simp only [cResults] at hc
  split at hc
  ·rename_i b as' h1 h2
   cases hc
   simp only [resultsV] at hr
   cases hb : b.val f h with
   | none => simp [hb] at hr
   | some x =>
    simp only [hb,Option.bind_some] at hr
    cases hl : resultsV f h as' with
    | none => simp [hl] at hr
    | some l' =>
     simp only [hl,Option.map_some,Option.some.injEq] at hr
     subst hr
     obtain ⟨vs,hvs,hrun⟩:=cResults_run hf hR h2 hl
     have key : ∃ v,VRel μ x v∧(rvSem a.tmps r).run P w = .ok v w:=by
      cases r with
      | tmp t =>
       cases h1
       cases hb
       exact ⟨_,hf.vals t,by simp [Act.eval,rvSem]⟩
      | cell b' t =>
       simp only [cResult] at h1
       split at h1
       ·rename_i g i hg hi
        cases h1
        simp only [AResult.val] at hb
        have hv:=hf.vals b'
        split at hb
        ·rename_i p off hp
         rw [hp] at hv
         obtain ⟨bl,base,size,hmu,hbv⟩:=hv.ptr_inv
         simp only [Act.eval] at hbv
         cases g
         ·simp only [Bool.false_eq_true,if_false] at hb
          split at hb
          ·rename_i u0 hl
           cases hb
           obtain ⟨us,hload,hrel,hlen,hcell⟩:=hR.load (P:=P) hl hmu
           obtain ⟨u1,rfl⟩:=one_of_length hlen
           have hcl:=hcell 0 u1 rfl
           simp only [Nat.add_zero] at hcl
           exact ⟨u1,hrel.head,by simp [rvSem,hbv,asAddr,loadVar,run_isAgg' hg,hcl]⟩
          ·cases hb
         ·simp only [if_true] at hb
          cases hl : h.load p off i.size with
          | none => simp [hl] at hb
          | some l0 =>
           simp [hl] at hb
           subst hb
           obtain ⟨us,hload,hrel,hlen,hcell⟩:=hR.load (P:=P) hl hmu
           exact ⟨.agg us.toArray,VRel.agg_iff.2 ⟨us.toArray,rfl,hrel⟩,by simp [rvSem,hbv,asAddr,loadVar,run_isAgg' hg,run_sizeOf' hi,hload]⟩
        ·cases hb
       ·cases h1
     obtain ⟨v,hv,hrv⟩:=key
     refine ⟨v :: vs,.cons hv hvs,?_⟩
     rw [List.mapM_cons,Sem.run_bind,hrv]
     simp only [Result.andThen_ok,Sem.run_bind,hrun,Sem.run_pure]
  ·cases hc
theorem results_run {fn : Func} {as : List AResult} {μ : Inj} {f : Fr} {h : AH} {a : Act} {w : World} (hf : FRel D n μ f a) (hR : R N w₀ μ h w) {l : List AV} (hc : cResults P fn.results.toList = some as) (hr : resultsV f h as = some l) :
    ∃ v, VRel μ (tupleV l) v ∧ (results fn a.tmps).run P w = .ok v w := by
  obtain ⟨vs, hvs, hrun⟩ := cResults_run hf hR hc hr
  have e : (results fn a.tmps).run P w = .ok (if h : vs.toArray.size = 1 then vs.toArray[0] else .tuple vs.toArray) w := by
    have hfun : results fn a.tmps = (do let vs ← fn.results.mapM (rvSem a.tmps); pure (if h : vs.size = 1 then vs[0] else .tuple vs)) := rfl
    rw [hfun, Array.mapM_eq_mapM_toList]
    simp only [Sem.run_bind, map_eq_pure_bind, hrun, Result.andThen_ok, Sem.run_pure]
  rw [e]
  refine ⟨_, ?_, rfl⟩
  have hlen := hvs.1
  match l, vs, hlen, hvs with
  | [], [], _, _ => exact .none_undef
  | [x], [y], _, h => exact h.head
  | x :: y :: r, u :: v :: s, hl, h =>
    rw [dif_neg (by simp)]
    exact VRel.tuple_iff.2 ⟨_, rfl, h⟩
structure TabOk (P : Program) (T : Prog) : Prop where
 func : ∀ g af,T.func g=some af→∃ fn,P.funcs[g]?=some fn∧cFunc P fn=some af
 env : ∀ g e,T.env g=some e→∀ args h r h',e args h=some (r,h')→CSim P g args h r h'
 low : P.funcs.size≤YB
theorem func_ok (hcall : HOk π P call) {lf g : Nat} {fn : Func} {af : AFunc} (hg : P.funcs[g]?=some fn) (hc : cFunc P fn=some af) {args : List AV} {h h' : AH} {r : AV} (hr : af.run call lf args h=some (r,h')) : CallOk P g∧ASimAt π P g args h r h':=by
 unfold cFunc at hc
 split at hc
 ·rename_i c rs hb hrs
  split at hc
  ·rename_i hcond
   cases hc
   refine ⟨⟨fn,hg,hcond.2,by simp [hb]⟩,?_⟩
   intro N w₀ μ w vargs hR hargs
   unfold AFunc.run at hr
   simp only at hr
   split at hr
   ·rename_i hlen
    refine calls_of_wp hg hb (wpIn_wide (n:=0).1 ?_)
    have hfr:=args_rel hargs (n:=fn.ntmps) (by omega)
    have fin : ∀ (f : Fr) (h2 : AH),((resultsV f h2 rs).map fun l => (tupleV l,h2))=some (r,h')→∀ μ' a' w',Inj.Ext h.next h2.next μ μ'→FRel [] fn.ntmps μ' f a'→R N w₀ μ' h2 w' →
      a'.defers=[]∧∃ v,(results fn a'.tmps).run P w' = .ok v w'∧∃ μ'' v',Ending.returned v = .returned v'∧Inj.Ext h.next h'.next μ μ''∧R N w₀ μ'' h' w'∧VRel μ'' r v':=by
     intro f h2 hres μ' a' w' hext hf' hR'
     cases hl : resultsV f h2 rs with
     | none => simp [hl] at hres
     | some l =>
      simp only [hl,Option.map_some,Option.some.injEq,Prod.mk.injEq] at hres
      obtain ⟨rfl,rfl⟩:=hres
      obtain ⟨v,hv,hrun⟩:=results_run hf' hR' hrs hl
      exact ⟨hf'.defers,v,hrun,μ',v,rfl,hext,hR',hv⟩
    cases ha : acode call lf (cCode P fn.ntmps c) (Fr.ofArgs 0 args .nil) h with
    | none => simp [ha] at hr
    | some p =>
     obtain ⟨e,f,h2⟩:=p
     refine wpIn_mono (code_ok (D:=[]) (ρ:=none) hcall lf c _ _ _ _ e ha N w₀ μ _ w hfr hR) ?_
     rintro e' a' w' ⟨hex,μ',hext,hf',hR'⟩
     cases e with
     | normal =>
      cases e' <;> simp only [ExOk] at hex
      simp only [ha] at hr
      exact fin f h2 hr μ' a' w' hext hf' hR'
     | exit i => simp [ha] at hr
     | ret =>
      cases e' <;> simp only [ExOk] at hex
      simp only [ha] at hr
      exact fin f h2 hr μ' a' w' hext hf' hR'
   ·cases hr
  ·cases hc
 ·cases hc
structure TabAt (π : Pin) (P : Program) (T : Prog) : Prop where
 func : ∀ g af,T.func g=some af→∃ fn,P.funcs[g]?=some fn∧cFunc P fn=some af
 env : ∀ g e,g < YB→T.env g=some e→∀ args h r h',e args h=some (r,h')→CSimAt π P g args h r h'
 yld : ∀ q e,T.env (YB + q)=some e→∀ args h r h',e args h=some (r,h')→YSim π P q args h r h'
 low : P.funcs.size≤YB
theorem TabOk.at {T : Prog} (hT : TabOk P T) (π : Pin) : TabAt π P T where
 func:=hT.func
 env:=fun g e _ he args h r h' hr => (hT.env g e he args h r h' hr).at π
 low:=hT.low
 yld:=fun q e he args h r h' hr => by
  have hno : P.funcs[YB + q]?=none:=Array.getElem?_eq_none (by have:=hT.low; omega)
  rcases hT.env _ e he args h r h' hr with ⟨⟨fn,h1,_⟩,_⟩ | hx
  ·rw [hno] at h1; cases h1
  ·intro N w₀ μ w vargs l hR hv hq
   obtain ⟨_,_,_,_,_,_,hrun⟩:=hx N w₀ μ w vargs hR hv
   simp [callFunc,Sem.run_bind,run_program,hno] at hrun
theorem arun_at {T : Prog} {π : Pin} (hT : TabAt π P T) : ∀ k,HOk π P (arun T k):=by
 intro k
 induction k with
 | zero =>
  refine ⟨?_,?_⟩
  ·intro g args h r h' _ hr; cases hr
  ·intro q args h r h' hr; cases hr
 | succ k ih =>
  refine ⟨fun g args h r h' hg hr => ?_,fun q args h r h' hr => ?_⟩
  ·simp only [arun] at hr
   split at hr
   ·rename_i e he; exact hT.env g e hg he args h r h' hr
   ·split at hr
    ·rename_i af haf
     obtain ⟨fn,h1,h2⟩:=hT.func g af haf
     exact .inl (func_ok ih h1 h2 hr)
    ·cases hr
  ·have hno : P.funcs[YB + q]?=none:=Array.getElem?_eq_none (by have:=hT.low; omega)
   simp only [arun] at hr
   split at hr
   ·rename_i e he; exact hT.yld q e he args h r h' hr
   ·split at hr
    ·rename_i af haf
     obtain ⟨fn,h1,_⟩:=hT.func _ af haf
     rw [hno] at h1; cases h1
    ·cases hr
theorem arun_ok {T : Prog} (hT : TabOk P T) (π : Pin) : ∀ k,HOk π P (arun T k):=arun_at (hT.at π)
theorem arun_body {T : Prog} (hT : TabOk P T) {k g : Nat} (he : T.env g=none) {args : List AV} {h h' : AH} {r : AV} (hr : arun T k g args h=some (r,h')) : CallOk P g∧ASim P g args h r h':=by
 cases k with
 | zero => cases hr
 | succ k =>
  simp only [arun,he] at hr
  split at hr
  ·rename_i af haf
   obtain ⟨fn,h1,h2⟩:=hT.func g af haf
   exact ⟨(func_ok (arun_ok hT none k) h1 h2 hr).1,fun π => (func_ok (arun_ok hT π k) h1 h2 hr).2⟩
  ·cases hr
end
end Go.Vm
/- Closed runs. -/
namespace Go.Vm
open Go.RowKit
set_option linter.unusedSimpArgs false
set_option linter.unusedVariables false
def tabOf (P : Program) : Prog:=⟨fun g => (P.funcs[g]?).bind (cFunc P),fun _ => none⟩
def AH.empty : AH:=⟨0,.nil⟩
theorem R.start (w : World) : R (till w.heap.size) w (fun _ => none) AH.empty w where
 below:=BelowS.refl _ _
 fresh:=fun _ h => h
 dom:=fun o x h => by cases h
 obj:=fun o b base size x h => by cases h
 inj:=fun o p x y h => by cases h
 pin:=fun o x ν h => by cases h
def saysTrue : Option (AV×AH)→Bool
 | some (.bool true,_) => true
 | _ => false
theorem saysTrue_inv {r : Option (AV×AH)} (h : saysTrue r=true) : ∃ h',r=some (.bool true,h'):=by
 unfold saysTrue at h
 split at h
 ·exact ⟨_,rfl⟩
 ·cases h
theorem calls_closed {P : Program} {T : Prog} (hT : TabOk P T) {k g : Nat} (hr : saysTrue (arun T k g [] AH.empty)=true) (w : World) (he : T.env g=none:=by rfl) :
  Calls P g #[] w fun e w' => e = .returned (.bool true)∧Below w.heap.size w w':=by
 obtain ⟨h',hr⟩:=saysTrue_inv hr
 refine ((arun_body hT he hr).2 (till w.heap.size) w _ w #[] (R.start w) .nil).mono ?_
 rintro e w' ⟨μ',v',rfl,_,hR,hv⟩
 rw [hv.bool_inv]
 exact ⟨rfl,hR.below.below⟩
end Go.Vm
/- The machine without fuel: what a run comes to in the limit,and the equations it satisfies. -/
namespace Go.Vm
open Go.RowKit
set_option linter.unusedSimpArgs false
set_option linter.unusedVariables false
def Handler.le (a b : Handler) : Prop:=∀ g args h r,a g args h=some r→b g args h=some r
theorem oper_mono {a b : Handler} (hab : a.le b) {o : AOper} {f : Fr} {h : AH} {r : Fr×AH} (hr : o.run a f h=some r) : o.run b f h=some r:=by
 unfold AOper.run at *
 cases hw : wantedV f o.guard with
 | none => simp [hw] at hr
 | some t =>
  cases t
  ·simpa [hw] using hr
  ·simp only [hw] at hr ⊢
   cases he : o.op.eval f h with
   | none => simp [he] at hr
   | some res =>
    cases res with
    | val v h2 => simpa [he] using hr
    | call g args =>
     simp only [he] at hr ⊢
     cases hc : a g args h with
     | none => simp [hc] at hr
     | some p => rw [hab _ _ _ _ hc]; simpa [hc] using hr
theorem runOps_mono {a b : Handler} (hab : a.le b) : ∀ {l : List AOper} {f : Fr} {h : AH} {r : Fr×AH},runOps a l f h=some r→runOps b l f h=some r
 | [],_,_,_,hr => hr
 | o :: l,f,h,r,hr => by
  simp only [runOps] at hr ⊢
  cases hc : o.run a f h with
  | none => simp [hc] at hr
  | some p => rw [oper_mono hab hc]; simp only [hc] at hr; exact runOps_mono hab hr
theorem runItems_mono {a b : Handler} (hab : a.le b) : ∀ {l : List DItem} {f : Fr} {h : AH} {r : Fr×AH},runItems a l f h=some r→runItems b l f h=some r
 | [],_,_,_,hr => hr
 | .op o :: l,f,h,r,hr => by
  simp only [runItems] at hr ⊢
  cases hc : o.run a f h with
  | none => simp [hc] at hr
  | some p => rw [oper_mono hab hc]; simp only [hc] at hr; exact runItems_mono hab hr
 | .look o :: l,f,h,r,hr => by
  simp only [runItems] at hr ⊢
  split at hr
  ·rw [if_pos ‹_›]; exact runItems_mono hab hr
  ·cases hr
theorem aloop_mono {p q : Fr→AH→Out} (hpq : ∀ f h r,p f h=some r→q f h=some r) : ∀ {n m : Nat},n≤m→∀ {f : Fr} {h : AH} {r : AExit×Fr×AH},aloop p n f h=some r→aloop q m f h=some r
 | 0,_,_,_,_,_,hr => by cases hr
 | n + 1,0,hnm,_,_,_,_ => by omega
 | n + 1,m + 1,hnm,f,h,r,hr => by
  simp only [aloop] at hr ⊢
  cases hc : p f h with
  | none => simp [hc] at hr
  | some x =>
   obtain ⟨e,f',h'⟩:=x
   rw [hpq _ _ _ hc]
   cases e with
   | normal => simp only [hc] at hr ⊢; exact aloop_mono hpq (by omega) hr
   | exit i => simpa [hc] using hr
   | ret => simpa [hc] using hr
theorem acode_mono {a b : Handler} (hab : a.le b) {n m : Nat} (hnm : n≤m) : ∀ {c : ACode} {f : Fr} {h : AH} {r : AExit×Fr×AH},acode a n c f h=some r→acode b m c f h=some r:=by
 intro c
 induction c with
 | skip => intro f h r hr; exact hr
 | ops l =>
  intro f h r hr
  simp only [acode] at hr ⊢
  cases hc : runOps a l f h with
  | none => simp [hc] at hr
  | some p => rw [runOps_mono hab hc]; simpa [hc] using hr
 | draw l =>
  intro f h r hr
  simp only [acode] at hr ⊢
  cases hc : runItems a l f h with
  | none => simp [hc] at hr
  | some p => rw [runItems_mono hab hc]; simpa [hc] using hr
 | seq x y ihx ihy =>
  intro f h r hr
  simp only [acode] at hr ⊢
  cases hc : acode a n x f h with
  | none => simp [hc] at hr
  | some p =>
   obtain ⟨e,f',h'⟩:=p
   rw [ihx hc]
   cases e with
   | normal => simp only [hc] at hr ⊢; exact ihy hr
   | exit i => simpa [hc] using hr
   | ret => simpa [hc] using hr
 | cond c x y ihx ihy =>
  intro f h r hr
  simp only [acode] at hr ⊢
  split at hr
  ·exact ihx hr
  ·exact ihy hr
  ·cases hr
 | block id c ih =>
  intro f h r hr
  simp only [acode] at hr ⊢
  cases hc : acode a n c f h with
  | none => simp [hc] at hr
  | some p => rw [ih hc]; simpa [hc] using hr
 | loop c ih =>
  intro f h r hr
  simp only [acode] at hr ⊢
  exact aloop_mono (fun f h r hr => ih hr) hnm hr
 | exit id => intro f h r hr; exact hr
 | ret => intro f h r hr; exact hr
 | stuck => intro f h r hr; cases hr
theorem func_mono {a b : Handler} (hab : a.le b) {n m : Nat} (hnm : n≤m) {fn : AFunc} {args : List AV} {h : AH} {r : AV×AH} (hr : fn.run a n args h=some r) : fn.run b m args h=some r:=by
 unfold AFunc.run at *
 split at hr
 ·rename_i hl
  rw [if_pos hl]
  cases hc : acode a n fn.body (Fr.ofArgs 0 args .nil) h with
  | none => simp [hc] at hr
  | some p => rw [acode_mono hab hnm hc]; simpa [hc] using hr
 ·cases hr
theorem arun_mono {T : Prog} : ∀ {n m : Nat},n≤m→Handler.le (arun T n) (arun T m)
 | 0,_,_ => by intro g args h r hr; cases hr
 | n + 1,0,h => by omega
 | n + 1,m + 1,hnm => by
  intro g args h r hr
  simp only [arun] at hr ⊢
  split at hr
  ·exact hr
  ·split at hr
   ·exact func_mono (arun_mono (by omega)) hnm hr
   ·cases hr
open Classical in
noncomputable def lim {α : Type} (p : Nat→Option α) : Option α:=if h : ∃ n r,p n=some r then some h.choose_spec.choose else none
def Grows {α : Type} (p : Nat→Option α) : Prop:=∀ n m r,n≤m→p n=some r→p m=some r
theorem lim_iff {α : Type} {p : Nat→Option α} (hp : Grows p) {r : α} : lim p=some r↔∃ n,p n=some r:=by
 unfold lim
 constructor
 ·intro h
  split at h
  ·rename_i hx
   exact ⟨_,h ▸ hx.choose_spec.choose_spec⟩
  ·cases h
 ·rintro ⟨n,hn⟩
  have hx : ∃ n r,p n=some r:=⟨n,r,hn⟩
  rw [dif_pos hx]
  have h1:=hx.choose_spec.choose_spec
  have h2:=hp _ _ _ (Nat.le_max_left hx.choose n) h1
  have h3:=hp _ _ _ (Nat.le_max_right hx.choose n) hn
  rw [h2] at h3
  exact h3
noncomputable def run (T : Prog) : Handler:=fun g args h => lim fun k => arun T k g args h
theorem run_iff {T : Prog} {g : Nat} {args : List AV} {h : AH} {r : AV×AH} : run T g args h=some r↔∃ k,arun T k g args h=some r :=
 lim_iff fun n m r hnm hr => arun_mono hnm _ _ _ _ hr
theorem arun_le_run (T : Prog) (k : Nat) : Handler.le (arun T k) (run T):=fun g args h r hr => run_iff.2 ⟨k,hr⟩
theorem oper_cont {T : Prog} {o : AOper} {f : Fr} {h : AH} {r : Fr×AH} (hr : o.run (run T) f h=some r) : ∃ k,o.run (arun T k) f h=some r:=by
 unfold AOper.run at *
 cases hw : wantedV f o.guard with
 | none => simp [hw] at hr
 | some t =>
  cases t
  ·exact ⟨0,by simpa [hw] using hr⟩
  ·simp only [hw] at hr ⊢
   cases he : o.op.eval f h with
   | none => simp [he] at hr
   | some res =>
    cases res with
    | val v h2 => exact ⟨0,by simpa [he] using hr⟩
    | call g args =>
     simp only [he] at hr ⊢
     cases hc : run T g args h with
     | none => simp [hc] at hr
     | some p =>
      obtain ⟨k,hk⟩:=run_iff.1 hc
      exact ⟨k,by rw [hk]; simpa [hc] using hr⟩
theorem runOps_cont {T : Prog} : ∀ {l : List AOper} {f : Fr} {h : AH} {r : Fr×AH},runOps (run T) l f h=some r→∃ k,runOps (arun T k) l f h=some r
 | [],_,_,_,hr => ⟨0,hr⟩
 | o :: l,f,h,r,hr => by
  simp only [runOps] at hr ⊢
  cases hc : o.run (run T) f h with
  | none => simp [hc] at hr
  | some p =>
   simp only [hc] at hr
   obtain ⟨k1,h1⟩:=oper_cont hc
   obtain ⟨k2,h2⟩:=runOps_cont hr
   refine ⟨max k1 k2,?_⟩
   rw [oper_mono (arun_mono (Nat.le_max_left k1 k2)) h1]
   exact runOps_mono (arun_mono (Nat.le_max_right k1 k2)) h2
theorem runItems_cont {T : Prog} : ∀ {l : List DItem} {f : Fr} {h : AH} {r : Fr×AH},runItems (run T) l f h=some r→∃ k,runItems (arun T k) l f h=some r
 | [],_,_,_,hr => ⟨0,hr⟩
 | .op o :: l,f,h,r,hr => by
  simp only [runItems] at hr ⊢
  cases hc : o.run (run T) f h with
  | none => simp [hc] at hr
  | some p =>
   simp only [hc] at hr
   obtain ⟨k1,h1⟩:=oper_cont hc
   obtain ⟨k2,h2⟩:=runItems_cont hr
   refine ⟨max k1 k2,?_⟩
   rw [oper_mono (arun_mono (Nat.le_max_left k1 k2)) h1]
   exact runItems_mono (arun_mono (Nat.le_max_right k1 k2)) h2
 | .look o :: l,f,h,r,hr => by
  simp only [runItems] at hr ⊢
  split at hr
  ·rename_i hl
   simp only [hl,if_true]
   exact runItems_cont hr
  ·cases hr
theorem aloop_cont {T : Prog} {lf : Nat} {c : ACode} (ih : ∀ (f : Fr) (h : AH) (r : AExit×Fr×AH),acode (run T) lf c f h=some r→∃ k,acode (arun T k) lf c f h=some r) :
  ∀ {n : Nat} {f : Fr} {h : AH} {r : AExit×Fr×AH},aloop (acode (run T) lf c) n f h=some r→∃ k,aloop (acode (arun T k) lf c) n f h=some r
 | 0,_,_,_,hr => by cases hr
 | n + 1,f,h,r,hr => by
  simp only [aloop] at hr ⊢
  cases hc : acode (run T) lf c f h with
  | none => simp [hc] at hr
  | some x =>
   obtain ⟨e,f',h'⟩:=x
   obtain ⟨k1,h1⟩:=ih _ _ _ hc
   cases e with
   | normal =>
    simp only [hc] at hr
    obtain ⟨k2,h2⟩:=aloop_cont ih hr
    refine ⟨max k1 k2,?_⟩
    rw [acode_mono (arun_mono (Nat.le_max_left k1 k2)) (Nat.le_refl _) h1]
    exact aloop_mono (fun f h r hr => acode_mono (arun_mono (Nat.le_max_right k1 k2)) (Nat.le_refl _) hr) (Nat.le_refl _) h2
   | exit i => exact ⟨k1,by rw [h1]; simpa [hc] using hr⟩
   | ret => exact ⟨k1,by rw [h1]; simpa [hc] using hr⟩
theorem acode_cont {T : Prog} {lf : Nat} : ∀ {c : ACode} {f : Fr} {h : AH} {r : AExit×Fr×AH},acode (run T) lf c f h=some r→∃ k,acode (arun T k) lf c f h=some r:=by
 intro c
 induction c with
 | skip => intro f h r hr; exact ⟨0,hr⟩
 | ops l =>
  intro f h r hr
  simp only [acode] at hr ⊢
  cases hc : runOps (run T) l f h with
  | none => simp [hc] at hr
  | some p => obtain ⟨k,hk⟩:=runOps_cont hc; exact ⟨k,by rw [hk]; simpa [hc] using hr⟩
 | draw l =>
  intro f h r hr
  simp only [acode] at hr ⊢
  cases hc : runItems (run T) l f h with
  | none => simp [hc] at hr
  | some p => obtain ⟨k,hk⟩:=runItems_cont hc; exact ⟨k,by rw [hk]; simpa [hc] using hr⟩
 | seq x y ihx ihy =>
  intro f h r hr
  simp only [acode] at hr ⊢
  cases hc : acode (run T) lf x f h with
  | none => simp [hc] at hr
  | some p =>
   obtain ⟨e,f',h'⟩:=p
   obtain ⟨k1,h1⟩:=ihx hc
   cases e with
   | normal =>
    simp only [hc] at hr
    obtain ⟨k2,h2⟩:=ihy hr
    refine ⟨max k1 k2,?_⟩
    rw [acode_mono (arun_mono (Nat.le_max_left k1 k2)) (Nat.le_refl _) h1]
    exact acode_mono (arun_mono (Nat.le_max_right k1 k2)) (Nat.le_refl _) h2
   | exit i => exact ⟨k1,by rw [h1]; simpa [hc] using hr⟩
   | ret => exact ⟨k1,by rw [h1]; simpa [hc] using hr⟩
 | cond c x y ihx ihy =>
  intro f h r hr
  simp only [acode] at hr ⊢
  split at hr
  ·exact ihx hr
  ·exact ihy hr
  ·cases hr
 | block id c ih =>
  intro f h r hr
  simp only [acode] at hr ⊢
  cases hc : acode (run T) lf c f h with
  | none => simp [hc] at hr
  | some p => obtain ⟨k,hk⟩:=ih hc; exact ⟨k,by rw [hk]; simpa [hc] using hr⟩
 | loop c ih =>
  intro f h r hr
  simp only [acode] at hr ⊢
  exact aloop_cont (fun f h r hr => ih hr) hr
 | exit id => intro f h r hr; exact ⟨0,hr⟩
 | ret => intro f h r hr; exact ⟨0,hr⟩
 | stuck => intro f h r hr; cases hr
noncomputable def code (T : Prog) (c : ACode) (f : Fr) (h : AH) : Out:=lim fun n => acode (run T) n c f h
theorem code_iff {T : Prog} {c : ACode} {f : Fr} {h : AH} {r : AExit×Fr×AH} : code T c f h=some r↔∃ n,acode (run T) n c f h=some r :=
 lim_iff fun n m r hnm hr => acode_mono (fun _ _ _ _ h => h) hnm hr
theorem opt_ext {α : Type} {x y : Option α} (h : ∀ r,x=some r↔y=some r) : x=y:=by
 cases x with
 | none =>
  cases y with
  | none => rfl
  | some b => exact absurd ((h b).2 rfl) (by simp)
 | some a => exact ((h a).1 rfl).symm
section
variable {T : Prog} {f : Fr} {h : AH}
theorem code_skip : code T .skip f h=some (.normal,f,h):=code_iff.2 ⟨0,rfl⟩
theorem code_exit {id : Nat} : code T (.exit id) f h=some (.exit id,f,h):=code_iff.2 ⟨0,rfl⟩
theorem code_ret : code T .ret f h=some (.ret,f,h):=code_iff.2 ⟨0,rfl⟩
theorem code_ops {l : List AOper} : code T (.ops l) f h=(runOps (run T) l f h).map fun p => (.normal,p.1,p.2):=by
 apply opt_ext; intro r; rw [code_iff]
 exact ⟨fun ⟨_,h⟩ => h,fun h => ⟨0,h⟩⟩
theorem code_draw {l : List DItem} : code T (.draw l) f h=(runItems (run T) l f h).map fun p => (.normal,p.1,p.2):=by
 apply opt_ext; intro r; rw [code_iff]
 exact ⟨fun ⟨_,h⟩ => h,fun h => ⟨0,h⟩⟩
def thenN (r : Out) (k : Fr→AH→Out) : Out :=
 match r with
 | some (.normal,f,h) => k f h
 | r => r
theorem code_seq {a b : ACode} : code T (.seq a b) f h=thenN (code T a f h) fun f h => code T b f h:=by
 apply opt_ext; intro r; rw [code_iff]
 constructor
 ·rintro ⟨n,hn⟩
  simp only [acode] at hn
  cases hc : acode (run T) n a f h with
  | none => simp [hc] at hn
  | some p =>
   obtain ⟨e,f',h'⟩:=p
   rw [code_iff.2 ⟨n,hc⟩]
   cases e with
   | normal => simp only [hc] at hn; exact code_iff.2 ⟨n,hn⟩
   | exit i => simpa [hc,thenN] using hn
   | ret => simpa [hc,thenN] using hn
 ·intro hr
  cases hc : code T a f h with
  | none => rw [hc] at hr; cases hr
  | some p =>
   obtain ⟨e,f',h'⟩:=p
   rw [hc] at hr
   obtain ⟨n,hn⟩:=code_iff.1 hc
   cases e with
   | normal =>
    obtain ⟨m,hm⟩:=code_iff.1 (show code T b f' h'=some r from hr)
    refine ⟨max n m,?_⟩
    simp only [acode]
    rw [acode_mono (fun _ _ _ _ h => h) (Nat.le_max_left n m) hn]
    exact acode_mono (fun _ _ _ _ h => h) (Nat.le_max_right n m) hm
   | exit i => exact ⟨n,by simp only [acode,hn]; exact hr⟩
   | ret => exact ⟨n,by simp only [acode,hn]; exact hr⟩
def condV (v : AV) (a b : Out) : Out :=
 match v with
 | .bool true => a
 | .bool false => b
 | _ => none
theorem code_cond {c : AOpd} {a b : ACode} : code T (.cond c a b) f h=condV (c.val f) (code T a f h) (code T b f h):=by
 apply opt_ext; intro r; rw [code_iff]
 simp only [acode]
 generalize c.val f=v
 cases v with
 | bool t => cases t <;> exact code_iff.symm
 | _ => simp [condV]
def leave (id : Nat) (r : Out) : Out :=
 match r with
 | some (.exit i,f,h) => some (if i=id then .normal else .exit i,f,h)
 | r => r
theorem code_block {id : Nat} {c : ACode} : code T (.block id c) f h=leave id (code T c f h):=by
 apply opt_ext; intro r; rw [code_iff]
 constructor
 ·rintro ⟨n,hn⟩
  simp only [acode] at hn
  cases hc : acode (run T) n c f h with
  | none => simp [hc] at hn
  | some p => rw [code_iff.2 ⟨n,hc⟩]; rw [hc] at hn; exact hn
 ·intro hr
  cases hc : code T c f h with
  | none => rw [hc] at hr; cases hr
  | some p =>
   rw [hc] at hr
   obtain ⟨n,hn⟩:=code_iff.1 hc
   exact ⟨n,by simp only [acode,hn]; exact hr⟩
theorem code_loop {c : ACode} : code T (.loop c) f h=thenN (code T c f h) fun f h => code T (.loop c) f h:=by
 apply opt_ext; intro r; rw [code_iff]
 constructor
 ·rintro ⟨n,hn⟩
  simp only [acode] at hn
  cases n with
  | zero => cases hn
  | succ n =>
   simp only [aloop] at hn
   cases hc : acode (run T) (n + 1) c f h with
   | none => simp [hc] at hn
   | some p =>
    obtain ⟨e,f',h'⟩:=p
    rw [code_iff.2 ⟨n + 1,hc⟩]
    cases e with
    | normal =>
     simp only [hc] at hn
     refine code_iff.2 ⟨n + 1,?_⟩
     simp only [acode]
     exact aloop_mono (fun _ _ _ h => h) (by omega) hn
    | exit i => simpa [hc,thenN] using hn
    | ret => simpa [hc,thenN] using hn
 ·intro hr
  cases hc : code T c f h with
  | none => rw [hc] at hr; cases hr
  | some p =>
   obtain ⟨e,f',h'⟩:=p
   rw [hc] at hr
   obtain ⟨n,hn⟩:=code_iff.1 hc
   cases e with
   | normal =>
    obtain ⟨m,hm⟩:=code_iff.1 (show code T (.loop c) f' h'=some r from hr)
    refine ⟨max n m + 1,?_⟩
    simp only [acode,aloop]
    rw [acode_mono (fun _ _ _ _ h => h) (by omega) hn]
    simp only [acode] at hm
    exact aloop_mono (fun f h r hr => acode_mono (fun _ _ _ _ h => h) (by omega) hr) (by omega) hm
   | exit i => exact ⟨n + 1,by simp only [acode,aloop]; rw [acode_mono (fun _ _ _ _ h => h) (Nat.le_succ n) hn]; exact hr⟩
   | ret => exact ⟨n + 1,by simp only [acode,aloop]; rw [acode_mono (fun _ _ _ _ h => h) (Nat.le_succ n) hn]; exact hr⟩
def finish (rs : List AResult) (r : Out) : Option (AV×AH) :=
 match r with
 | some (.normal,f,h) => (resultsV f h rs).map fun l => (tupleV l,h)
 | some (.ret,f,h) => (resultsV f h rs).map fun l => (tupleV l,h)
 | _ => none
theorem finish_ret {rs : List AResult} : finish rs (some (.ret,f,h))=(resultsV f h rs).map fun l => (tupleV l,h):=rfl
theorem finish_normal {rs : List AResult} : finish rs (some (.normal,f,h))=(resultsV f h rs).map fun l => (tupleV l,h):=rfl
theorem run_func {g : Nat} {fn : AFunc} {args : List AV} (he : T.env g=none) (hf : T.func g=some fn) (hl : args.length=fn.nargs) : run T g args h=finish fn.results (code T fn.body (Fr.ofArgs 0 args .nil) h):=by
 have hfin : ∀ (o : Out),(match o with
   | some (.normal,f,h') => (resultsV f h' fn.results).map fun l => (tupleV l,h')
   | some (.ret,f,h') => (resultsV f h' fn.results).map fun l => (tupleV l,h')
   | _ => none)=finish fn.results o:=by
  intro o
  unfold finish
  split <;> rfl
 apply opt_ext; intro r; rw [run_iff]
 constructor
 ·rintro ⟨k,hk⟩
  cases k with
  | zero => cases hk
  | succ k =>
   simp only [arun,he,hf,AFunc.run,if_pos hl] at hk
   have hk2 : finish fn.results (acode (arun T k) (k + 1) fn.body (Fr.ofArgs 0 args .nil) h)=some r:=(hfin _).symm.trans hk
   cases hc : acode (arun T k) (k + 1) fn.body (Fr.ofArgs 0 args .nil) h with
   | none => rw [hc] at hk2; cases hk2
   | some p =>
    rw [code_iff.2 ⟨k + 1,acode_mono (arun_le_run T k) (Nat.le_refl _) hc⟩]
    rw [hc] at hk2
    exact hk2
 ·intro hr
  cases hc : code T fn.body (Fr.ofArgs 0 args .nil) h with
  | none => rw [hc] at hr; cases hr
  | some p =>
   rw [hc] at hr
   obtain ⟨n,hn⟩:=code_iff.1 hc
   obtain ⟨k,hk⟩:=acode_cont hn
   refine ⟨max n k + 1,?_⟩
   simp only [arun,he,hf,AFunc.run,if_pos hl]
   refine (hfin _).trans ?_
   rw [acode_mono (arun_mono (Nat.le_max_right n k)) (by omega) hk]
   exact hr
theorem run_env {g : Nat} {e : List AV→AH→Option (AV×AH)} {args : List AV} (he : T.env g=some e) : run T g args h=e args h:=by
 apply opt_ext; intro r; rw [run_iff]
 constructor
 ·rintro ⟨k,hk⟩
  cases k with
  | zero => cases hk
  | succ k => simpa [arun,he] using hk
 ·intro hr
  exact ⟨1,by simpa [arun,he] using hr⟩
end
theorem run_at {P : Program} {T : Prog} {π : Pin} (hT : TabAt π P T) : HOk π P (run T):=by
 refine ⟨?_,?_⟩
 ·intro g args h r h' hg hr
  obtain ⟨k,hk⟩:=run_iff.1 hr
  exact (arun_at hT k).1 g args h r h' hg hk
 ·intro q args h r h' hr
  obtain ⟨k,hk⟩:=run_iff.1 hr
  exact (arun_at hT k).2 q args h r h' hk
theorem run_ok {P : Program} {T : Prog} (hT : TabOk P T) (π : Pin) : HOk π P (run T):=run_at (hT.at π)
theorem run_body {P : Program} {T : Prog} (hT : TabOk P T) {g : Nat} (he : T.env g=none) {args : List AV} {h h' : AH} {r : AV} (hr : run T g args h=some (r,h')) : CallOk P g∧ASim P g args h r h':=by
 obtain ⟨k,hk⟩:=run_iff.1 hr
 exact arun_body hT he hk
end Go.Vm
/- Rules for proofs about the machine's code: steps,branches,loops,slices. -/
namespace Go.Vm
open Go.RowKit
set_option linter.unusedSimpArgs false
set_option linter.unusedVariables false
def stepV (call : Handler) (o : AOp) (f : Fr) (h : AH) : Option (AV×AH) :=
 match o.eval f h with
 | some (.val v h') => some (v,h')
 | some (.call g args) => call g args h
 | none => none
def guardV (f : Fr) (t : Nat) (want : Bool) (x : Option (AV×AH)) (h : AH) : Option (AV×AH) :=
 match f.at t with
 | .bool b => if b=want then x else some (.none,h)
 | .tuple _ => some (.none,h)
 | _ => none
section
variable {call : Handler} {f : Fr} {h : AH} {T : Prog}
theorem ops_nil : runOps call [] f h=some (f,h):=rfl
theorem ops_cons {d : Option Nat} {o : AOp} {r : List AOper} : runOps call (⟨d,o,none⟩ :: r) f h=(stepV call o f h).bind fun p => runOps call r (f.put d p.1) p.2:=by
 simp only [runOps,AOper.run,wantedV,stepV]
 cases he : o.eval f h with
 | none => simp
 | some res =>
  cases res with
  | val v h2 => simp
  | call g args => simp only [Option.map]; cases call g args h <;> rfl
theorem ops_guard {d : Option Nat} {o : AOp} {t : Nat} {w : Bool} {r : List AOper} : runOps call (⟨d,o,some (t,w)⟩ :: r) f h=(guardV f t w (stepV call o f h) h).bind fun p => runOps call r (f.put d p.1) p.2:=by
 simp only [runOps,AOper.run,wantedV,stepV,guardV]
 cases hv : f.at t with
 | bool b =>
  simp only
  by_cases e : b=w
  ·subst e
   simp only [beq_self_eq_true,if_true]
   cases he : o.eval f h with
   | none => simp
   | some res =>
    cases res with
    | val v h2 => simp
    | call g args => simp only [Option.map]; cases call g args h <;> rfl
  ·have : (b == w)=false:=by simpa using e
   simp only [this,if_neg e,Option.bind_some]
 | tuple l => simp
 | _ => simp
def idxAddrV (sz : Nat) : AV→AV→Option AV
 | .slice o off z len _ _,.int _ i => if z=sz∧0≤i∧i.toNat < len then some (.ptr o (off + i.toNat * sz)) else none
 | _,_ => none
def loadV (h : AH) (g : Bool) (n : Nat) : AV→Option AV
 | .ptr o off => if g then (h.load o off n).map .agg
  else match h.load o off 1 with
   | some [v] => some v
   | _ => none
 | _ => none
def storeV (h : AH) (n : Nat) (a v : AV) : Option AH :=
 match a with
 | .ptr o off => if v.cells.length=n then h.store o off v.cells else none
 | _ => none
def pickV (c a b : AV) : Option AV :=
 match c with
 | .bool t => some (if t then a else b)
 | _ => none
def eqBV (neg : Bool) : AV→AV→Option AV
 | .bool a,.bool b => some (.bool (if neg then !(a == b) else (a == b)))
 | _,_ => none
def toIntV (k : IntKind) : AV→Option AV
 | .int _ n => some (.int k (k.wrap n))
 | _ => none
def lenStrV : AV→Option AV
 | .str s => some (.int .i64 s.length)
 | _ => none
def extractV (i : Nat) : AV→Option AV
 | .tuple l => l[i]?
 | _ => none
def fieldAddrV (off : Nat) : AV→Option AV
 | .ptr o i => some (.ptr o (i + off))
 | _ => none
def fieldV (g : Bool) (off n : Nat) : AV→Option AV
 | .agg l => partV g l off n
 | _ => none
def idxStrV : AV→AV→Option AV
 | .str s,.int _ i => if 0≤i then (s[i.toNat]?).map fun b => .int .u8 b.toNat else none
 | _,_ => none
def slcV (sz : Nat) (x : AV) (lo hi mx : Option AV) : Option AV :=
 match x with
 | .nilSlice => (bounds 0 0 lo hi mx).map fun _ => .nilSlice
 | .slice o off z len cap ex => if z=sz then
   (bounds len cap lo hi mx).map fun (l,e,m) =>
    .slice o (if (ex || mx.isSome) && decide (m=l) then off else off + l * sz) sz (e - l) (m - l) (ex || mx.isSome)
  else none
 | _ => none
def slcStrV (x : AV) (lo hi : Option AV) : Option AV :=
 match x with
 | .str s => (bounds s.length s.length lo hi none).map fun (l,e,_) => .str ((s.drop l).take (e - l))
 | _ => none
def mkSliceV (h : AH) (sz bytes : Nat) (zero : List AV) (l c : AV) : Option (AV×AH) :=
 match natOf l,natOf c with
 | some l,some c => if l≤c∧c≤9223372036854775807∧bytes * c≤281474976710656 then some (.slice h.next 0 sz l c true,h.new (.cells (rep zero c) true)) else none
 | _,_ => none
def toStrV (h : AH) : AV→Option AV
 | .nilSlice => some (.str [])
 | .slice o off z len _ _ => if z=1 then (h.load o off len).bind fun l => (strOf l).map .str else none
 | _ => none
def nilChkV : AV→Option AV
 | .ptr o i => some (.ptr o i)
 | .slice o i s l c e => some (.slice o i s l c e)
 | .map o => some (.map o)
 | .nilMap => some .nilMap
 | .func (.func g) a b => some (.func (.func g) a b)
 | _ => none
def appV (sz bytes : Nat) (h : AH) (s x : AV) : Option (AV×AH):=(lenOfV x).bind fun n => (h.elems sz n x).bind fun new => appendV sz bytes s new n h
def copyV (sz : Nat) (h : AH) (d s : AV) : Option (AV×AH):=(lenOfV d).bind fun nd => (lenOfV s).bind fun ns =>
 (h.elems sz (min ns nd) s).bind fun l =>
  match d with
  | .slice o off z _ _ _ => if z=sz then
    if l.isEmpty then some (.int .i64 (min ns nd : Nat),h) else (h.store o off l).map fun h' => (.int .i64 (min ns nd : Nat),h')
   else none
  | _ => some (.int .i64 0,h)
theorem stepV_val {o : AOp} {r : Option (AV×AH)} (he : o.eval f h=r.map fun p => .val p.1 p.2) : stepV call o f h=r:=by
 unfold stepV; rw [he]; cases r <;> rfl
theorem stepV_map {o : AOp} {r : Option AV} (he : o.eval f h=r.map fun v => .val v h) : stepV call o f h=r.map fun v => (v,h) :=
 stepV_val (by rw [he]; cases r <;> rfl)
theorem step_mov {x : AOpd} : stepV call (.mov x) f h=some (x.val f,h):=rfl
theorem step_bin {op : BinOp} {x y : AOpd} : stepV call (.bin op x y) f h=(binV op (x.val f) (y.val f)).map fun v => (v,h):=stepV_map (by simp only [AOp.eval])
theorem step_un {op : UnOp} {x : AOpd} : stepV call (.un op x) f h=(unV op (x.val f)).map fun v => (v,h):=stepV_map (by simp only [AOp.eval])
theorem step_pick {c x y : AOpd} : stepV call (.pick c x y) f h=(pickV (c.val f) (x.val f) (y.val f)).map fun v => (v,h) :=
 stepV_map (by simp only [AOp.eval]; generalize c.val f=p; cases p <;> rfl)
theorem step_eqB {n : Bool} {x y : AOpd} : stepV call (.eqB n x y) f h=(eqBV n (x.val f) (y.val f)).map fun v => (v,h) :=
 stepV_map (by
  simp only [AOp.eval]; generalize x.val f=p; generalize y.val f=q
  cases p with
  | bool a => cases q <;> rfl
  | _ => rfl)
theorem step_eqNil {k : Nat} {n : Bool} {x y : AOpd} : stepV call (.eqNil k n x y) f h=(eqNilV k (x.val f) (y.val f)).map fun b => (.bool (if n then !b else b),h) :=
 stepV_val (by simp only [AOp.eval]; generalize eqNilV k (x.val f) (y.val f)=p; cases p <;> rfl)
theorem step_toInt {k : IntKind} {x : AOpd} : stepV call (.toInt k x) f h=(toIntV k (x.val f)).map fun v => (v,h) :=
 stepV_map (by simp only [AOp.eval]; generalize x.val f=p; cases p <;> rfl)
theorem step_lenStr {x : AOpd} : stepV call (.lenStr x) f h=(lenStrV (x.val f)).map fun v => (v,h) :=
 stepV_map (by simp only [AOp.eval]; generalize x.val f=p; cases p <;> rfl)
theorem step_lenSlice {x : AOpd} : stepV call (.lenSlice x) f h=(lenOfV (x.val f)).map fun (n : Nat) => (.int .i64 n,h) :=
 stepV_val (by simp only [AOp.eval]; generalize lenOfV (x.val f)=p; cases p <;> rfl)
theorem step_extract {x : AOpd} {i : Nat} : stepV call (.extract x i) f h=(extractV i (x.val f)).map fun v => (v,h) :=
 stepV_map (by simp only [AOp.eval]; generalize x.val f=p; cases p <;> rfl)
theorem step_fieldAddr {o : Nat} {x : AOpd} : stepV call (.fieldAddr o x) f h=(fieldAddrV o (x.val f)).map fun v => (v,h) :=
 stepV_map (by simp only [AOp.eval]; generalize x.val f=p; cases p <;> rfl)
theorem step_field {g : Bool} {o n : Nat} {x : AOpd} : stepV call (.field g o n x) f h=(fieldV g o n (x.val f)).map fun v => (v,h) :=
 stepV_map (by simp only [AOp.eval]; generalize x.val f=p; cases p <;> rfl)
theorem step_nilChk {x : AOpd} : stepV call (.nilChk x) f h=(nilChkV (x.val f)).map fun v => (v,h) :=
 stepV_map (by
  simp only [AOp.eval]; generalize x.val f=p
  cases p with
  | func fn a b => cases fn <;> rfl
  | _ => rfl)
theorem step_idxAddr {sz : Nat} {x i : AOpd} : stepV call (.idxAddr sz x i) f h=(idxAddrV sz (x.val f) (i.val f)).map fun v => (v,h) :=
 stepV_map (by
  simp only [AOp.eval]; generalize x.val f=p; generalize i.val f=q
  cases p with
  | slice o off z len c e =>
   cases q with
   | int k n =>
    simp only [natOf,idxAddrV]
    by_cases h1 : 0≤n
    ·simp only [h1,if_true,true_and]
     by_cases h2 : z=sz∧n.toNat < len
     ·rw [if_pos h2,if_pos h2]; rfl
     ·rw [if_neg h2,if_neg h2]; rfl
    ·simp only [h1,if_false,false_and,and_false]; rfl
   | _ => rfl
  | _ => rfl)
theorem step_idxStr {x i : AOpd} : stepV call (.idxStr x i) f h=(idxStrV (x.val f) (i.val f)).map fun v => (v,h) :=
 stepV_map (by
  simp only [AOp.eval]; generalize x.val f=p; generalize i.val f=q
  cases p with
  | str s =>
   cases q with
   | int k n =>
    simp only [natOf,idxStrV]
    by_cases h1 : 0≤n
    ·simp only [h1,if_true]
     cases s[n.toNat]? <;> rfl
    ·simp only [h1,if_false]; rfl
   | _ => rfl
  | _ => rfl)
theorem step_load {g : Bool} {n : Nat} {a : AOpd} : stepV call (.load g n a) f h=(loadV h g n (a.val f)).map fun v => (v,h) :=
 stepV_map (by
  simp only [AOp.eval]; generalize a.val f=p
  cases p with
  | ptr o off =>
   simp only [loadV]
   cases g
   ·simp only [Bool.false_eq_true,if_false]
    generalize h.load o off 1=l
    cases l with
    | none => rfl
    | some l =>
     cases l with
     | nil => rfl
     | cons x r => cases r <;> rfl
   ·simp only [if_true]
    generalize h.load o off n=l
    cases l <;> rfl
  | _ => rfl)
theorem step_store {n : Nat} {a v : AOpd} : stepV call (.store n a v) f h=(storeV h n (a.val f) (v.val f)).map fun h' => (.none,h') :=
 stepV_val (by
  simp only [AOp.eval]; generalize a.val f=p; generalize v.val f=q
  cases p with
  | ptr o off =>
   simp only [storeV]
   by_cases h1 : q.cells.length=n
   ·rw [if_pos h1,if_pos h1]
    generalize h.store o off q.cells=l
    cases l <;> rfl
   ·rw [if_neg h1,if_neg h1]; rfl
  | _ => rfl)
theorem step_slc {sz : Nat} {x : AOpd} {lo hi mx : Option AOpd} : stepV call (.slc sz x lo hi mx) f h=(slcV sz (x.val f) (lo.map (·.val f)) (hi.map (·.val f)) (mx.map (·.val f))).map fun v => (v,h) :=
 stepV_map (by
  simp only [AOp.eval]; generalize x.val f=p
  cases p with
  | slice o off z len cap ex =>
   simp only [slcV,Option.isSome_map]
   by_cases h1 : z=sz
   ·rw [if_pos h1,if_pos h1]
    generalize bounds len cap _ _ _=b
    cases b <;> rfl
   ·rw [if_neg h1,if_neg h1]; rfl
  | nilSlice =>
   simp only [slcV]
   generalize bounds 0 0 _ _ _=b
   cases b <;> rfl
  | _ => rfl)
theorem step_slcStr {x : AOpd} {lo hi : Option AOpd} : stepV call (.slcStr x lo hi) f h=(slcStrV (x.val f) (lo.map (·.val f)) (hi.map (·.val f))).map fun v => (v,h) :=
 stepV_map (by
  simp only [AOp.eval]; generalize x.val f=p
  cases p with
  | str s =>
   simp only [slcStrV]
   generalize bounds s.length s.length _ _ _=b
   cases b <;> rfl
  | _ => rfl)
theorem step_mkSlice {sz bytes : Nat} {zero : List AV} {l c : AOpd} : stepV call (.mkSlice sz bytes zero l c) f h=mkSliceV h sz bytes zero (l.val f) (c.val f) :=
 stepV_val (by
  simp only [AOp.eval,mkSliceV]; generalize natOf (l.val f)=p; generalize natOf (c.val f)=q
  cases p with
  | none => rfl
  | some l =>
   cases q with
   | none => rfl
   | some c =>
    simp only
    by_cases h1 : l≤c∧c≤9223372036854775807∧bytes * c≤281474976710656
    ·rw [if_pos h1,if_pos h1]; rfl
    ·rw [if_neg h1,if_neg h1]; rfl)
theorem step_toStr {x : AOpd} : stepV call (.toStr x) f h=(toStrV h (x.val f)).map fun v => (v,h) :=
 stepV_map (by
  simp only [AOp.eval]; generalize x.val f=p
  cases p with
  | slice o off z len cap ex =>
   simp only [toStrV]
   by_cases h1 : z=1
   ·rw [if_pos h1,if_pos h1]
    generalize h.load o off len=l
    cases l with
    | none => rfl
    | some l =>
     simp only [Option.bind_some]
     generalize strOf l=s
     cases s <;> rfl
   ·rw [if_neg h1,if_neg h1]; rfl
  | _ => rfl)
theorem step_append {sz bytes : Nat} {s x : AOpd} : stepV call (.append sz bytes s x) f h=appV sz bytes h (s.val f) (x.val f) :=
 stepV_val (by
  simp only [AOp.eval,appV]
  generalize x.val f=p; generalize s.val f=q
  generalize lenOfV p=n
  cases n with
  | none => rfl
  | some n =>
   simp only [Option.bind_some]
   generalize h.elems sz n p=l
   cases l with
   | none => rfl
   | some new => simp only [Option.bind_some])
theorem step_copy {sz : Nat} {d s : AOpd} : stepV call (.copy sz d s) f h=copyV sz h (d.val f) (s.val f) :=
 stepV_val (by
  simp only [AOp.eval,copyV]
  generalize d.val f=p; generalize s.val f=q
  generalize lenOfV p=n
  cases n with
  | none => rfl
  | some nd =>
   generalize lenOfV q=m
   cases m with
   | none => rfl
   | some ns =>
    simp only [Option.bind_some]
    generalize h.elems sz (min ns nd) q=l
    cases l with
    | none => rfl
    | some l =>
     simp only [Option.bind_some]
     cases p with
     | slice o off z len cap ex =>
      simp only
      by_cases h1 : z=sz
      ·rw [if_pos h1,if_pos h1]
       cases hl : l.isEmpty
       ·simp only [Bool.false_eq_true,if_false]
        generalize h.store o off l=st
        cases st <;> rfl
       ·simp only [if_true]; rfl
      ·rw [if_neg h1,if_neg h1]; rfl
     | _ => rfl)
theorem step_buildSlice {sz len : Nat} {zero : List AV} {parts : List (Nat×Nat×AOpd)} : stepV call (.buildSlice sz len zero parts) f h =
  (fillV zero (parts.map fun p => (p.1,p.2.1,p.2.2.val f))).map fun l => (.slice h.next 0 sz len len true,h.new (.cells l true)) :=
 stepV_val (by simp only [AOp.eval]; generalize fillV zero _=b; cases b <;> rfl)
theorem step_build {zero : List AV} {parts : List (Nat×Nat×AOpd)} : stepV call (.build zero parts) f h =
  (fillV zero (parts.map fun p => (p.1,p.2.1,p.2.2.val f))).map fun l => (.agg l,h) :=
 stepV_val (by simp only [AOp.eval]; generalize fillV zero _=b; cases b <;> rfl)
theorem step_new {zero : List AV} : stepV call (.new zero) f h=some (.ptr h.next 0,h.new (.cells zero true)):=rfl
theorem step_call {g : Nat} {args : List AOpd} : stepV call (.call g args) f h=call g (args.map (·.val f)) h:=rfl
def Wp (r : Out) (Q : AExit→Fr→AH→Prop) : Prop:=∃ e f h,r=some (e,f,h)∧Q e f h
theorem Wp_some {e : AExit} {Q : AExit→Fr→AH→Prop} : Wp (some (e,f,h)) Q↔Q e f h :=
 ⟨fun ⟨_,_,_,he,hq⟩ => by cases he; exact hq,fun hq => ⟨_,_,_,rfl,hq⟩⟩
theorem Wp.mono {r : Out} {Q Q' : AExit→Fr→AH→Prop} (hw : Wp r Q) (hq : ∀ e f h,Q e f h→Q' e f h) : Wp r Q':=by
 obtain ⟨e,f,h,hr,hq'⟩:=hw
 exact ⟨e,f,h,hr,hq _ _ _ hq'⟩
def Then (k : Fr→AH→Prop) (Q : AExit→Fr→AH→Prop) : AExit→Fr→AH→Prop
 | .normal,f,h => k f h
 | e,f,h => Q e f h
theorem Wp_then {r : Out} {k : Fr→AH→Out} {Q : AExit→Fr→AH→Prop} : Wp (thenN r k) Q↔Wp r (Then (fun f h => Wp (k f h) Q) Q):=by
 constructor
 ·rintro ⟨e,f,h,hr,hq⟩
  cases r with
  | none => cases hr
  | some p =>
   obtain ⟨e',f',h'⟩:=p
   refine ⟨e',f',h',rfl,?_⟩
   cases e' with
   | normal => exact ⟨e,f,h,hr,hq⟩
   | exit i => cases hr; exact hq
   | ret => cases hr; exact hq
 ·rintro ⟨e,f,h,rfl,hq⟩
  cases e with
  | normal => exact hq
  | exit i => exact ⟨_,_,_,rfl,hq⟩
  | ret => exact ⟨_,_,_,rfl,hq⟩
theorem wpc_seq {a b : ACode} {Q : AExit→Fr→AH→Prop} : Wp (code T (.seq a b) f h) Q↔Wp (code T a f h) (Then (fun f h => Wp (code T b f h) Q) Q):=by
 rw [code_seq,Wp_then]
def Wo (r : Option (Fr×AH)) (Q : Fr→AH→Prop) : Prop:=∃ p,r=some p∧Q p.1 p.2
theorem Wo_some {p : Fr×AH} {Q : Fr→AH→Prop} : Wo (some p) Q↔Q p.1 p.2 :=
 ⟨fun ⟨_,he,hq⟩ => by cases he; exact hq,fun hq => ⟨_,rfl,hq⟩⟩
theorem wpc_ops {l : List AOper} {Q : AExit→Fr→AH→Prop} : Wp (code T (.ops l) f h) Q↔Wo (runOps (run T) l f h) (Q .normal):=by
 rw [code_ops]
 constructor
 ·rintro ⟨e,f',h',hr,hq⟩
  cases hc : runOps (run T) l f h with
  | none => simp [hc] at hr
  | some p => simp [hc] at hr; obtain ⟨rfl,rfl,rfl⟩:=hr; exact ⟨p,rfl,hq⟩
 ·rintro ⟨p,hp,hq⟩
  exact ⟨_,_,_,by rw [hp]; rfl,hq⟩
theorem wpc_skip {Q : AExit→Fr→AH→Prop} : Wp (code T .skip f h) Q↔Q .normal f h:=by rw [code_skip,Wp_some]
theorem wpc_exit {id : Nat} {Q : AExit→Fr→AH→Prop} : Wp (code T (.exit id) f h) Q↔Q (.exit id) f h:=by rw [code_exit,Wp_some]
theorem wpc_ret {Q : AExit→Fr→AH→Prop} : Wp (code T .ret f h) Q↔Q .ret f h:=by rw [code_ret,Wp_some]
theorem Then_normal {k : Fr→AH→Prop} {Q : AExit→Fr→AH→Prop} : Then k Q .normal f h↔k f h:=Iff.rfl
theorem Then_exit {k : Fr→AH→Prop} {Q : AExit→Fr→AH→Prop} {id : Nat} : Then k Q (.exit id) f h↔Q (.exit id) f h:=Iff.rfl
theorem Then_ret {k : Fr→AH→Prop} {Q : AExit→Fr→AH→Prop} : Then k Q .ret f h↔Q .ret f h:=Iff.rfl
def InBlock (id : Nat) (Q : AExit→Fr→AH→Prop) : AExit→Fr→AH→Prop
 | .exit i,f,h => if i=id then Q .normal f h else Q (.exit i) f h
 | e,f,h => Q e f h
theorem wpc_block {id : Nat} {c : ACode} {Q : AExit→Fr→AH→Prop} : Wp (code T (.block id c) f h) Q↔Wp (code T c f h) (InBlock id Q):=by
 rw [code_block]
 constructor
 ·rintro ⟨e,f',h',hr,hq⟩
  cases hc : code T c f h with
  | none => rw [hc] at hr; cases hr
  | some p =>
   obtain ⟨e1,f1,h1⟩:=p
   rw [hc] at hr
   refine ⟨e1,f1,h1,rfl,?_⟩
   cases e1 with
   | normal => cases hr; exact hq
   | ret => cases hr; exact hq
   | exit i =>
    simp only [leave,Option.some.injEq,Prod.mk.injEq] at hr
    obtain ⟨rfl,rfl,rfl⟩:=hr
    change if i=id then Q .normal f1 h1 else Q (.exit i) f1 h1
    by_cases e : i=id
    ·rw [if_pos e] at hq ⊢; exact hq
    ·rw [if_neg e] at hq ⊢; exact hq
 ·rintro ⟨e,f',h',hr,hq⟩
  rw [hr]
  cases e with
  | normal => exact ⟨_,_,_,rfl,hq⟩
  | ret => exact ⟨_,_,_,rfl,hq⟩
  | exit i =>
   refine ⟨_,_,_,rfl,?_⟩
   change if i=id then Q .normal f' h' else Q (.exit i) f' h' at hq
   by_cases e : i=id
   ·rw [if_pos e] at hq ⊢; exact hq
   ·rw [if_neg e] at hq ⊢; exact hq
theorem InBlock_normal {id : Nat} {Q : AExit→Fr→AH→Prop} : InBlock id Q .normal f h↔Q .normal f h:=Iff.rfl
theorem InBlock_ret {id : Nat} {Q : AExit→Fr→AH→Prop} : InBlock id Q .ret f h↔Q .ret f h:=Iff.rfl
theorem InBlock_exit {id i : Nat} {Q : AExit→Fr→AH→Prop} : InBlock id Q (.exit i) f h↔if i=id then Q .normal f h else Q (.exit i) f h:=Iff.rfl
theorem wpc_loop {c : ACode} {Q : AExit→Fr→AH→Prop} (I : Nat→Fr→AH→Prop) (hstep : ∀ n f h,I n f h→Wp (code T c f h) (Then (fun f' h' => ∃ m,m < n∧I m f' h') Q)) : ∀ (n : Nat) (f : Fr) (h : AH),I n f h→Wp (code T (.loop c) f h) Q:=by
 intro n
 induction n using Nat.strongRecOn with
 | _ n ih =>
  intro f h hI
  rw [code_loop,Wp_then]
  refine (hstep n f h hI).mono ?_
  intro e f' h' hq
  cases e with
  | normal => obtain ⟨m,hm,hI'⟩:=hq; exact ih m hm f' h' hI'
  | exit i => exact hq
  | ret => exact hq
def CondW (v : AV) (p q : Prop) : Prop :=
 match v with
 | .bool true => p
 | .bool false => q
 | _ => False
theorem CondW_bool {t : Bool} {p q : Prop} : CondW (.bool t) p q↔if t=true then p else q:=by cases t <;> rfl
theorem wpc_if {c : AOpd} {a b : ACode} {Q : AExit→Fr→AH→Prop} : Wp (code T (.cond c a b) f h) Q↔CondW (c.val f) (Wp (code T a f h) Q) (Wp (code T b f h) Q):=by
 rw [code_cond]
 generalize c.val f=v
 cases v with
 | bool t => cases t <;> rfl
 | _ => exact ⟨(fun ⟨_,_,_,he,_⟩ => by cases he),(fun he => he.elim)⟩
def Ends (rs : List AResult) (Q : AV→AH→Prop) : AExit→Fr→AH→Prop
 | .normal,f,h => ∃ l,resultsV f h rs=some l∧Q (tupleV l) h
 | .ret,f,h => ∃ l,resultsV f h rs=some l∧Q (tupleV l) h
 | .exit _,_,_ => False
theorem Ends_ret {rs : List AResult} {Q : AV→AH→Prop} : Ends rs Q .ret f h↔∃ l,resultsV f h rs=some l∧Q (tupleV l) h:=Iff.rfl
theorem Ends_normal {rs : List AResult} {Q : AV→AH→Prop} : Ends rs Q .normal f h↔∃ l,resultsV f h rs=some l∧Q (tupleV l) h:=Iff.rfl
theorem res_nil : resultsV f h []=some []:=rfl
theorem res_tmp {t : Nat} {r : List AResult} : resultsV f h (.tmp t :: r)=(resultsV f h r).map (f.at t :: ·):=rfl
theorem tuple_one {v : AV} : tupleV [v]=v:=rfl
theorem tuple_two {u v : AV} {r : List AV} : tupleV (u :: v :: r) = .tuple (u :: v :: r):=rfl
theorem some_one {α : Type} {x : α} {p : α→Prop} : (∃ y,some x=some y∧p y)↔p x:=⟨fun ⟨_,he,hq⟩ => by cases he; exact hq,fun hq => ⟨_,rfl,hq⟩⟩
theorem bin_add {k : IntKind} {a b : Int} : binV .add (.int k a) (.int k b)=some (.int k (k.wrap (a + b))):=by simp [binV,isShift,intBin]
theorem bin_sub {k : IntKind} {a b : Int} : binV .sub (.int k a) (.int k b)=some (.int k (k.wrap (a - b))):=by simp [binV,isShift,intBin]
theorem bin_mul {k : IntKind} {a b : Int} : binV .mul (.int k a) (.int k b)=some (.int k (k.wrap (a * b))):=by simp [binV,isShift,intBin]
theorem bin_quo {k : IntKind} {a b : Int} (hb : b≠0) : binV .quo (.int k a) (.int k b)=some (.int k (k.wrap (a.tdiv b))):=by simp [binV,isShift,intBin,hb]
theorem bin_rem {k : IntKind} {a b : Int} (hb : b≠0) : binV .rem (.int k a) (.int k b)=some (.int k (a.tmod b)):=by simp [binV,isShift,intBin,hb]
theorem bin_eql {k : IntKind} {a b : Int} : binV .eql (.int k a) (.int k b)=some (.bool (a == b)):=by simp [binV,isShift,intBin]
theorem bin_neq {k : IntKind} {a b : Int} : binV .neq (.int k a) (.int k b)=some (.bool (a != b)):=by simp [binV,isShift,intBin]
theorem bin_lss {k : IntKind} {a b : Int} : binV .lss (.int k a) (.int k b)=some (.bool (decide (a < b))):=by simp [binV,isShift,intBin]
theorem bin_leq {k : IntKind} {a b : Int} : binV .leq (.int k a) (.int k b)=some (.bool (decide (a≤b))):=by simp [binV,isShift,intBin]
theorem bin_gtr {k : IntKind} {a b : Int} : binV .gtr (.int k a) (.int k b)=some (.bool (decide (a > b))):=by simp [binV,isShift,intBin]
theorem bin_geq {k : IntKind} {a b : Int} : binV .geq (.int k a) (.int k b)=some (.bool (decide (a ≥ b))):=by simp [binV,isShift,intBin]
theorem bin_str_eql {a b : List UInt8} : binV .eql (.str a) (.str b)=some (.bool (a == b)):=by simp [binV,strBin]
theorem bin_str_neq {a b : List UInt8} : binV .neq (.str a) (.str b)=some (.bool (!(a == b))):=by simp [binV,strBin]
theorem un_not {b : Bool} : unV .not (.bool b)=some (.bool (!b)):=rfl
theorem toInt_int {k k' : IntKind} {a : Int} : toIntV k (.int k' a)=some (.int k (k.wrap a)):=rfl
theorem lenStr_str {s : List UInt8} : lenStrV (.str s)=some (.int .i64 s.length):=rfl
theorem pick_bool {t : Bool} {a b : AV} : pickV (.bool t) a b=some (if t then a else b):=rfl
def Gives (T : Prog) (g : Nat) (args : List AV) (h : AH) (Q : AV→AH→Prop) : Prop:=∃ r h',run T g args h=some (r,h')∧Q r h'
theorem gives_func {g : Nat} {fn : AFunc} {args : List AV} {Q : AV→AH→Prop} (he : T.env g=none) (hf : T.func g=some fn) (hl : args.length=fn.nargs)
  (hw : Wp (code T fn.body (Fr.ofArgs 0 args .nil) h) (Ends fn.results Q)) : Gives T g args h Q:=by
 obtain ⟨e,f,h',hc,hx⟩:=hw
 cases e with
 | normal =>
  obtain ⟨l,hl',hq⟩:=hx
  exact ⟨tupleV l,h',by rw [run_func he hf hl,hc,finish_normal,hl']; rfl,hq⟩
 | ret =>
  obtain ⟨l,hl',hq⟩:=hx
  exact ⟨tupleV l,h',by rw [run_func he hf hl,hc,finish_ret,hl']; rfl,hq⟩
 | exit i => exact hx.elim
theorem Gives.bind {g : Nat} {args : List AV} {k : AV×AH→Option (Fr×AH)} {Q : Fr→AH→Prop} (hw : Gives T g args h fun r h' => Wo (k (r,h')) Q) : Wo ((run T g args h).bind k) Q:=by
 obtain ⟨r,h',hr,hq⟩:=hw
 rw [hr]; exact hq
theorem Gives.mono {g : Nat} {args : List AV} {Q Q' : AV→AH→Prop} (hw : Gives T g args h Q) (hq : ∀ r h',Q r h'→Q' r h') : Gives T g args h Q':=by
 obtain ⟨r,h',hr,hq'⟩:=hw
 exact ⟨r,h',hr,hq _ _ hq'⟩
theorem at_ofArgs {args : List AV} {t : Nat} : (Fr.ofArgs 0 args .nil).at t=(args[t]?).getD .none:=by
 rw [ofArgs_at]
 by_cases ht : t < args.length
 ·rw [if_pos (by omega)]; rfl
 ·rw [if_neg (by omega),List.getElem?_eq_none (by omega)]; rfl
theorem natOf_cast (k : IntKind) (n : Nat) : natOf (.int k (n : Int))=some n:=by simp [natOf]
end
def Ext (h h' : AH) : Prop:=h.next≤h'.next∧∀ o,o < h.next→h'.get o=h.get o
theorem Ext.refl (h : AH) : Ext h h:=⟨Nat.le_refl _,fun _ _ => rfl⟩
theorem Ext.trans {a b c : AH} (h : Ext a b) (k : Ext b c) : Ext a c:=⟨Nat.le_trans h.1 k.1,fun o ho => (k.2 o (Nat.lt_of_lt_of_le ho h.1)).trans (h.2 o ho)⟩
theorem Ext.new (h : AH) (x : AObj) : Ext h (h.new x):=⟨by simp [AH.next_new],fun o ho => by rw [AH.get_new,if_neg (by omega)]⟩
theorem Ext.set {a h : AH} (k : Ext a h) {o : Nat} (ho : a.next≤o) (x : AObj) : Ext a (h.set o x) :=
 ⟨k.1,fun p hp => by rw [AH.get_set,if_neg (by omega)]; exact k.2 p hp⟩
end Go.Vm
/- Ranges over functions: the statement,its rounds,the function that holds it. -/
namespace Go.Vm
open Go.RowKit
set_option linter.unusedSimpArgs false
set_option linter.unusedVariables false
def bare : Obj→Bool
 | .cells .. => false
 | .map .. => false
 | _ => true
section
variable {π π' : Pin} {N : Keep π} {w₀ w w' : World} {μ μ' : Inj} {h h' : AH}
theorem R.turn (r : R N w₀ μ h w) {N' : Keep π'} {w₀' : World} {k : Nat} {X : Obj} (hk : w.heap[k]?=some X) (hb : bare X=true) (hoth : ∀ j,j≠k→w'.heap[j]?=w.heap[j]?)
  (hkeep : ∀ b Y,N'.keep b→w.heap[b]?=some Y→bare Y=false→N.keep b) (hcame : ∀ b,N.came b→N'.came b)
  (hbelow : BelowS N'.keep w₀' w') (hfits : Fits N'.keep w') (hpin : ∀ o x ν,π'=some (o,x,ν)→Inj.le ν μ∧∃ l,μ o=some (l,0,0)∧N'.keep l∧w₀'.heap[l]?=some x) : R N' w₀' μ h w' where
 below:=hbelow
 fresh:=hfits
 dom:=r.dom
 inj:=r.inj
 pin:=hpin
 obj:=fun o b base size x ho hx => by
  have hr:=r.obj o b base size x ho hx
  cases x with
  | dead => trivial
  | cells l rw' =>
   obtain ⟨C,e,fz,h1,h2,h3,h4,h5⟩:=hr
   have hbk : b≠k:=fun e => by subst e; rw [hk] at h1; cases h1; cases hb
   refine ⟨C,e,fz,(hoth b hbk).trans h1,h2,h3,h4,?_⟩
   cases rw'
   ·simp only [Bool.false_eq_true,if_false] at h5 ⊢; exact hcame b h5
   ·simp only [if_true] at h5 ⊢; exact ⟨fun hn => h5.1 (hkeep b _ hn h1 rfl),h5.2⟩
  | marked l =>
   obtain ⟨C,e,fz,h1,h2,h3,h4,h5⟩:=hr
   have hbk : b≠k:=fun e => by subst e; rw [hk] at h1; cases h1; cases hb
   exact ⟨C,e,fz,(hoth b hbk).trans h1,h2,h3,h4,fun hn => h5.1 (hkeep b _ hn h1 rfl),h5.2⟩
  | map es =>
   obtain ⟨h0,hN,ces,clock,h1,h2⟩:=hr
   have hbk : b≠k:=fun e => by subst e; rw [hk] at h1; cases h1; cases hb
   exact ⟨h0,fun hn => hN (hkeep b _ hn h1 rfl),ces,clock,(hoth b hbk).trans h1,h2⟩
def Keep.more (N : Keep π) (S : Nat→Prop) (π' : Pin) : Keep π':=⟨fun b => N.keep b∨S b,N.came,fun b h => .inl (N.sub b h)⟩
structure Back (N : Keep π) (w₀ : World) (N' : Keep π) (w₁ : World) : Prop where
 keep : ∀ b,N.keep b→N'.keep b
 came : ∀ b,N'.came b→N.came b
 below : BelowS N.keep w₀ w₁
theorem Back.refl (N : Keep π) (w₀ : World) : Back N w₀ N w₀:=⟨fun _ h => h,fun _ h => h,.refl _ _⟩
theorem Back.trans {N1 N2 N3 : Keep π} {w1 w2 w3 : World} (h : Back N1 w1 N2 w2) (k : Back N2 w2 N3 w3) : Back N1 w1 N3 w3 :=
 ⟨fun b hb => k.keep b (h.keep b hb),fun b hb => h.came b (k.came b hb),h.below.trans (k.below.mono h.keep)⟩
theorem R.back {N' : Keep π} {w₁ : World} (r : R N w₀ μ h w) (r' : R N' w₁ μ' h' w') (hle : Inj.le μ μ') (bk : Back N w₀ N' w₁) : R N w₀ μ' h' w' where
 below:=bk.below.trans (r'.below.mono bk.keep)
 fresh:=fun b hb => r'.fresh b (bk.keep b hb)
 dom:=r'.dom
 inj:=r'.inj
 pin:=pin_mono hle r.pin
 obj:=fun o b base size x ho hx => by
  have hr:=r'.obj o b base size x ho hx
  cases x with
  | dead => trivial
  | cells l rw' =>
   obtain ⟨C,e,fz,h1,h2,h3,h4,h5⟩:=hr
   refine ⟨C,e,fz,h1,h2,h3,h4,?_⟩
   cases rw'
   ·simp only [Bool.false_eq_true,if_false] at h5 ⊢; exact bk.came b h5
   ·simp only [if_true] at h5 ⊢; exact ⟨fun hn => h5.1 (bk.keep b hn),h5.2⟩
  | marked l =>
   obtain ⟨C,e,fz,h1,h2,h3,h4,h5⟩:=hr
   exact ⟨C,e,fz,h1,h2,h3,h4,fun hn => h5.1 (bk.keep b hn),h5.2⟩
  | map es =>
   obtain ⟨h0,hN,h1⟩:=hr
   exact ⟨h0,fun hn => hN (bk.keep b hn),h1⟩
end
def putArgs : Fr→List Nat→List AV→Fr
 | f,t :: ts,v :: vs => putArgs (f.put (some t) v) ts vs
 | f,_,_ => f
theorem putArgs_rel {D : List Deferred} {n : Nat} {μ : Inj} : ∀ {ts : List Nat} {vs : List AV} {us : List Value} {f : Fr} {t : Array Value},FRel D n μ f { tmps:=t,defers:=D }→VRels μ vs us→(∀ x∈ts,x < n) →
  FRel D n μ (putArgs f ts vs) { tmps:=(ts.zip us).foldl (fun t p => t.setIfInBounds p.1 p.2) t,defers:=D }
 | [],vs,us,f,t,hf,hv,hn => by cases vs <;> exact hf
 | x :: ts,[],us,f,t,hf,hv,hn => by
  have : us=[]:=by have:=hv.1; simpa using this.symm
  subst this; exact hf
 | x :: ts,v :: vs,[],f,t,hf,hv,hn => by have:=hv.1; simp at this
 | x :: ts,v :: vs,u :: us,f,t,hf,hv,hn => by
  simp only [putArgs,List.zip_cons_cons,List.foldl_cons]
  refine putArgs_rel ?_ hv.tail fun y hy => hn y (List.mem_cons_of_mem _ hy)
  exact hf.put (d:=some x) (fun i hi => by cases hi; exact hn x (List.mem_cons_self ..)) hv.head
def By (call : Handler) (cd : ACode→Fr→AH→Out) : Prop:=∀ c f h r,cd c f h=some r→∃ lf,acode call lf c f h=some r
def yRun (cd : ACode→Fr→AH→Out) (f : Fr) (ps : List Nat) (assign body : ACode) : List AV→AH→Option (AV×AH):=fun args h =>
 if args.length=ps.length then
  match cd assign (putArgs f ps args) h with
  | some (.normal,f1,h1) => match cd body f1 h1 with
   | some (.normal,_,h2) => some (.bool true,h2)
   | _ => none
  | _ => none
 else none
section
variable {P : Program} {call : Handler} {cd : ACode→Fr→AH→Out} {n : Nat}
theorem wide_inRound (l : Nat) : Fence.wide.inRound l=rnd (some l):=rfl
theorem round_ok (hcall : ∀ π,HOk π P call) (hcd : By call cd) {o : Nat} {r : Loop} {f : Fr} {μ0 : Inj} {ps : List Nat} {D : List Deferred} (hn : ∀ x∈ps,x < n) (hf : FRel [] n μ0 f { tmps:=r.tmps,defers:=[] })
  (hst : r.state = .ready) (hpe : r.pending=none) (hps : r.params.toList=ps) {args : List AV} {h h' : AH} {v : AV} (hr : yRun cd f ps (cCode P n r.assign) (cCode P n r.body) args h=some (v,h')) :
  YSim (some (o,.loop r,μ0)) P o args h v h':=by
 intro N w₀ μ w vargs l hR hv hl
 unfold yRun at hr
 split at hr
 case isFalse => cases hr
 rename_i hlen
 split at hr
 case h_2 => cases hr
 rename_i f1 h1 ha
 split at hr
 case h_2 => cases hr
 rename_i f2 h2 hb
 cases hr
 obtain ⟨hle0,l',hl',hk,hw⟩:=hR.pinned rfl
 rw [hl] at hl'
 cases hl'
 have hsz : vargs.size=r.params.size:=by
  have h1:=hv.1
  have h2 : r.params.toList.length=ps.length:=by rw [hps]
  simp at h1 h2; omega
 refine ⟨r.fn,_,r.assign,r.body,run_yield hw hsz,?_⟩
 refine roundIn_of_wpIn trivial ?_
 rw [wide_inRound]
 obtain ⟨lf1,ha'⟩:=hcd _ _ _ _ ha
 obtain ⟨lf2,hb'⟩:=hcd _ _ _ _ hb
 have hfr : FRel [] n μ (putArgs f ps args) { tmps:=(r.params.zip vargs).foldl (fun tmps (t,a) => tmps.setIfInBounds t a) r.tmps,defers:=[] }:=by
  have:=putArgs_rel (us:=vargs.toList) (hf.mono hle0) hv hn
  rw [← Array.foldl_toList,Array.toList_zip,hps]
  exact this
 refine wpIn_mono (code_ok (D:=[]) (ρ:=some l) (hcall _) lf1 r.assign _ _ _ _ _ ha' N w₀ μ _ w hfr hR) ?_
 rintro e1 a1 w1 ⟨hex,μ1,hext1,hf1,hR1⟩
 cases e1 <;> simp only [ExOk] at hex
 simp only [Exit.then]
 obtain ⟨hle1,l1,hl1,hk1,hw1⟩:=hR1.pinned rfl
 have : l1=l:=by
  have:=hext1.le _ _ hl
  rw [hl1] at this; cases this; rfl
 subst this
 refine ⟨_,run_beginRound hw1 hst,?_⟩
 have hlt1 : l1 < w1.heap.size:=(Array.getElem?_eq_some_iff.1 hw1).1
 have hoth2 : ∀ j,j≠l1→(w1.putObj l1 (.loop { r with state := .busy })).heap[j]?=w1.heap[j]?:=fun j hj => World.putObj_heap_other hj
 have hR2 : R (π:=some (o,.loop { r with state := .busy },μ0)) ⟨N.keep,N.came,N.sub⟩ (w1.putObj l1 (.loop { r with state := .busy })) μ1 h1 (w1.putObj l1 (.loop { r with state := .busy })):=by
  refine hR1.turn hw1 rfl hoth2 (fun b Y hb _ _ => hb) (fun b hb => hb) (.refl _ _) (fun b hb => by rw [World.putObj_size]; exact hR1.fresh b hb) ?_
  intro o' x ν hp
  cases hp
  exact ⟨hle1,l1,hl1,hk1,World.putObj_heap_same hlt1⟩
 refine wpIn_mono (code_ok (D:=[]) (ρ:=some l1) (hcall _) lf2 r.body _ _ _ _ _ hb' _ _ μ1 _ _ hf1 hR2) ?_
 rintro e2 a2 w3 ⟨hex2,μ2,hext2,hf2,hR3⟩
 cases e2 <;> simp only [ExOk] at hex2
 simp only [roundPost]
 obtain ⟨hle2,l2,hl2,hk2,hw3⟩:=hR3.pinned rfl
 have : l2=l1:=by
  have:=hext2.le _ _ hl1
  rw [hl2] at this; cases this; rfl
 subst this
 refine ⟨_,_,run_endRound none hw3,μ2,.bool true,rfl,hext1.trans hext2,?_,.bool _⟩
 have hlt3 : l2 < w3.heap.size:=(Array.getElem?_eq_some_iff.1 hw3).1
 have hrr : ({ { r with state:=LoopState.busy } with state:=if (none : Option Code).isNone=true then .ready else .done,pending:=none } : Loop)=r:=by
  cases r; simp only at hst hpe; subst hst hpe; rfl
 rw [hrr]
 have hb1:=hR1.below
 have hb3:=hR3.below
 refine hR3.turn hw3 rfl (fun j hj => World.putObj_heap_other hj) (fun b Y hb _ _ => hb) (fun b hb => hb) ⟨?_,?_,?_,?_,?_⟩ (fun b hb => by rw [World.putObj_size]; exact hR3.fresh b hb) (pin_mono hext2.le hR1.pin)
 ·exact hb3.os.trans hb1.os
 ·exact hb3.tape.trans hb1.tape
 ·exact hb3.output.trans hb1.output
 ·rw [World.putObj_size]; have:=hb3.size; rw [World.putObj_size] at this; exact Nat.le_trans hb1.size this
 ·intro k hkk
  by_cases e : k=l2
  ·subst e
   rw [World.putObj_heap_same hlt3]
   exact ((hb1.block k hkk).symm.trans hw1).symm
  ·rw [World.putObj_heap_other e,hb3.block k hkk,World.putObj_heap_other e]
   exact hb1.block k hkk
abbrev ItH:=Nat→(List AV→AH→Option (AV×AH))→Nat→List AV→AH→Option (AV×AH)
def ItOk (P : Program) (it : ItH) : Prop:=∀ (π : Pin) (o : Nat) (x : Obj) (ν : Inj) (yh : List AV→AH→Option (AV×AH)),π=some (o,x,ν)→(∀ args h v h',yh args h=some (v,h')→YSim π P o args h v h') →
 ∀ (g : Nat) (args : List AV) (h : AH) (v : AV) (h' : AH),it o yh g args h=some (v,h')→g < YB∧CallOk P g∧ASimAt π P g args h v h'
def rangeRun (it : ItH) (cd : ACode→Fr→AH→Out) (g : AOpd) (ps : List Nat) (assign body : ACode) (f : Fr) (h : AH) : Option AH :=
 match g.val f with
 | .func (.func gf) [] caps => (it (h.next + 1) (yRun cd f ps assign body) gf (.func (.func (YB + (h.next + 1))) [] [] :: caps) ((h.new .dead).new .dead)).map (·.2)
 | _ => none
def Marks {π : Pin} (N0 : Keep π) (D : List Deferred) (N : Keep π) (w : World) : Prop :=
 D.Pairwise (fun d e => d.target≠e.target)∧∀ d∈D,∃ b,d={ target := .collected b,args:=#[] }∧¬ N0.keep b∧N.keep b∧w.heap[b]?=some (.deferred (some []))
def EndOk {π : Pin} (N0 N : Keep π) (w₀ : World) (n : Nat) (h : AH) (μ : Inj) (f' : Fr) (h' : AH) (a' : Act) (w' : World) : Prop :=
 ∃ (D' : List Deferred) (N' : Keep π) (w₀' : World) (μ' : Inj),Inj.Ext h.next h'.next μ μ'∧FRel D' n μ' f' a'∧R N' w₀' μ' h' w'∧Marks N0 D' N' w'∧Back N w₀ N' w₀'
theorem range_ok (hcall : ∀ π,HOk π P call) (hcd : By call cd) {it : ItH} (hit : ItOk P it) {g : Operand} {g' : AOpd} (hg : cOpd g=some g') {ps : Array Tmp} {assign body : Code} (hn : ∀ x∈ps.toList,x < n)
  {f : Fr} {h h' : AH} (hr : rangeRun it cd g' ps.toList (cCode P n assign) (cCode P n body) f h=some h') {π : Pin} {N0 N : Keep π} {w₀ : World} {μ : Inj} {a : Act} {w : World} {D : List Deferred}
  (hf : FRel D n μ f a) (hR : R N w₀ μ h w) (hm : Marks N0 D N w) (h0 : ∀ b,N0.keep b→N.keep b) :
  (Code.rangeFunc g ps assign body).wpIn (rnd none) 0 P (fun e' a' w' => e' = .normal∧EndOk N0 N w₀ n h μ f h' a' w') a w:=by
 unfold rangeRun at hr
 split at hr
 case h_2 => cases hr
 rename_i gf caps hgv
 cases hit' : it (h.next + 1) (yRun cd f ps.toList (cCode P n assign) (cCode P n body)) gf (.func (.func (YB + (h.next + 1))) [] [] :: caps) ((h.new .dead).new .dead) with
 | none => simp [hit'] at hr
 | some p =>
 obtain ⟨v,h2⟩:=p
 simp only [hit',Option.map_some,Option.some.injEq] at hr
 subst hr
 have hgr:=cOpd_rel hg hf.vals
 rw [hgv] at hgr
 refine wpIn_rangeFunc fun fn _ => ?_
 obtain ⟨rec,hrec⟩ : ∃ rec : Loop,rec={ state := .ready,pending:=none,fn,tmps:=a.tmps,params:=ps,assign,body,defers:=w.heap.size }:=⟨_,rfl⟩
 obtain ⟨W1,hW1⟩ : ∃ W1,(w.alloc (.deferred (some []))).alloc (.loop rec)=W1:=⟨_,rfl⟩
 have hsz1 : W1.heap.size=w.heap.size + 2:=by rw [← hW1]; simp
 have hL1 : W1.heap[w.heap.size + 1]?=some (.loop rec):=by
  rw [← hW1]; have:=World.alloc_heap_new (w.alloc (.deferred (some []))) (.loop rec); rwa [World.size_alloc] at this
 have hK1 : W1.heap[w.heap.size]?=some (.deferred (some [])):=by
  rw [← hW1]; exact (Below.heap_alloc _ _ _ (by simp)).trans (World.alloc_heap_new w _)
 have hold : ∀ k,k < w.heap.size→W1.heap[k]?=w.heap[k]?:=fun k hk => by
  rw [← hW1]; exact (Below.heap_alloc _ _ _ (by simp; omega)).trans (Below.heap_alloc _ _ _ hk)
 have hos1 : W1.os=w.os∧W1.tape=w.tape∧W1.output=w.output:=by rw [← hW1]; exact ⟨rfl,rfl,rfl⟩
 -- two objects that nothing reads
 obtain ⟨hle1,hR1⟩:=hR.alloc (x := .dead) (X := .deferred (some [])) (size:=0) fun _ _ => trivial
 obtain ⟨hle2,hR2⟩:=hR1.alloc (x := .dead) (X := .loop rec) (size:=0) fun _ _ => trivial
 have e1 : ({ w with heap:=w.heap.push (.deferred (some [])) } : World)=w.alloc (.deferred (some [])):=rfl
 have e2 : (w.alloc (.deferred (some []))).heap.size=w.heap.size + 1:=by simp
 rw [e1] at hR2 hle2
 have e3 : ({ w.alloc (.deferred (some [])) with heap:=(w.alloc (.deferred (some []))).heap.push (.loop rec) } : World)=W1:=hW1
 rw [e3,e2] at hR2
 rw [e2] at hle2
 obtain ⟨μ2,hμ2⟩ : ∃ μ2,Inj.add (Inj.add μ h.next (w.heap.size,0,0)) (h.new .dead).next (w.heap.size + 1,0,0)=μ2:=⟨_,rfl⟩
 rw [hμ2] at hR2 hle2
 have hle : Inj.le μ μ2:=Inj.le_trans hle1 hle2
 have ho : μ2 (h.next + 1)=some (w.heap.size + 1,0,0):=by rw [← hμ2]; exact Inj.add_self _ _ _
 have hext : Inj.Ext h.next ((h.new .dead).new .dead).next μ μ2:=by
  refine ⟨hle,fun o hlt => ?_,by simp only [AH.next_new]; omega⟩
  rw [← hμ2]
  unfold Inj.add
  rw [if_neg (by simp only [AH.next_new]; omega),if_neg (by omega)]
 obtain ⟨π',hπ'⟩ : ∃ π' : Pin,π'=some (h.next + 1,.loop rec,μ2):=⟨_,rfl⟩
 -- the kept set within the loop
 obtain ⟨N1,hN1⟩ : ∃ N1 : Keep π',N1=N.more (fun b => b=w.heap.size∨b=w.heap.size + 1) π':=⟨_,rfl⟩
 have hN1k : ∀ b,N1.keep b↔N.keep b∨(b=w.heap.size∨b=w.heap.size + 1):=fun b => by rw [hN1]; rfl
 have hN1c : ∀ b,N1.came b↔N.came b:=fun b => by rw [hN1]; rfl
 have hRin : R N1 W1 μ2 ((h.new .dead).new .dead) W1:=by
  refine hR2.turn hL1 rfl (fun _ _ => rfl) (fun b Y hb hY hbare => ?_) (fun b hb => (hN1c b).2 hb) (.refl _ _) (fun b hb => ?_) ?_
  ·rcases (hN1k b).1 hb with hb | rfl | rfl
   ·exact hb
   ·rw [hK1] at hY; cases hY; cases hbare
   ·rw [hL1] at hY; cases hY; cases hbare
  ·rcases (hN1k b).1 hb with hb | rfl | rfl
   ·have:=hR.fresh b hb; omega
   ·omega
   ·omega
  ·intro o x ν hp
   rw [hπ'] at hp; cases hp
   exact ⟨Inj.le_refl _,_,ho,(hN1k _).2 (.inr (.inr rfl)),hL1⟩
 -- the function,with yield
 have hyok : ∀ args g v g',yRun cd f ps.toList (cCode P n assign) (cCode P n body) args g=some (v,g')→YSim π' P (h.next + 1) args g v g':=by
  intro args g v g' hyr
  rw [hπ']
  refine round_ok (r:=rec) (f:=f) (ps:=ps.toList) (D:=[]) hcall hcd hn ?_ (by rw [hrec]) (by rw [hrec]) (by rw [hrec]) (by rw [hrec]; exact hyr)
  have:=hf.mono hle
  exact ⟨rfl,by rw [hrec]; exact this.size,fun t => by rw [hrec]; exact this.vals t⟩
 obtain ⟨hlow,hco,hsim⟩:=hit π' (h.next + 1) (.loop rec) μ2 _ hπ' hyok _ _ _ _ _ hit'
 have hval : ∃ c',a.eval g = .func (.func gf) #[] c'∧VRels μ caps c'.toList:=by
  rcases hgr.func_inv with ⟨_,p',c',hv,h1,h2⟩ | ⟨q,l,hq,h1,h2,h3,hv⟩
  ·have : p'=#[]:=by have:=h1.1; simp at this; exact Array.eq_empty_of_size_eq_zero (by omega)
   subst this; exact ⟨c',hv,h2⟩
  ·cases hq; omega
 obtain ⟨lb,hval,hcaps⟩:=hval
 refine ⟨w.heap.size + 1,[{ target := .collected w.heap.size,args:=#[] }],W1,{ target := .fn (.func gf) lb,args:=#[.func (.yield (w.heap.size + 1)) #[] #[]] },W1,gf,
  #[.func (.yield (w.heap.size + 1)) #[] #[]] ++ lb,W1,?_,?_,fun _ _ => trivial,?_,no_depth,?_⟩
 ·rw [← hW1,hrec]; exact run_enterLoop_outer _ _ _ _ _
 ·simp only [resolve,hval]
  simp [go_sem]
 ·simp only [invoke]
  exact run_callFunc hco _ _
 ·refine callsIn_rnd ((hsim N1 W1 μ2 W1 _ hRin ?_).mono ?_)
  ·have : (#[.func (.yield (w.heap.size + 1)) #[] #[]] ++ lb : Array Value).toList = .func (.yield (w.heap.size + 1)) #[] #[] :: lb.toList:=by simp
   rw [this]
   exact .cons (.yield ho) (hcaps.mono hle)
  ·rintro e w3 ⟨μ3,v',rfl,hext3,hR3,_⟩
   obtain ⟨_,l,hl,hkl,hw3⟩:=hR3.pinned hπ'
   have : l=w.heap.size + 1:=by
    have:=hext3.le _ _ ho
    rw [hl] at this; cases this; rfl
   subst this
   have hlt3 : w.heap.size + 1 < w3.heap.size:=(Array.getElem?_eq_some_iff.1 hw3).1
   refine ⟨none,_,by have:=run_endLoop (P:=P) hw3 (by rw [hrec]; simp); rw [hrec] at this; exact this,rfl,?_⟩
   obtain ⟨w4,hw4⟩ : ∃ w4,w3.putObj (w.heap.size + 1) (.loop { rec with state := .exhausted })=w4:=⟨_,rfl⟩
   rw [hrec] at hw4
   rw [hw4]
   have hsz4 : w4.heap.size=w3.heap.size:=by rw [← hw4]; simp
   have h43 : ∀ j,j≠w.heap.size + 1→w4.heap[j]?=w3.heap[j]?:=fun j hj => by rw [← hw4]; exact World.putObj_heap_other hj
   have hos4 : w4.os=w3.os∧w4.tape=w3.tape∧w4.output=w3.output:=by rw [← hw4]; exact ⟨rfl,rfl,rfl⟩
   have hb3:=hR3.below
   -- what is kept from the beginning
   have keepw : ∀ k,N.keep k→w4.heap[k]?=w.heap[k]?:=fun k hk => by
    have hlt:=hR.fresh k hk
    rw [h43 k (by omega),hb3.block k ((hN1k k).2 (.inl hk)),hold k hlt]
   have hmark : w4.heap[w.heap.size]?=some (.deferred (some [])):=by
    rw [h43 _ (by omega),hb3.block _ ((hN1k _).2 (.inr (.inl rfl)))]; exact hK1
   have hbel : BelowS N.keep w₀ w4:=by
    refine hR.below.trans ⟨?_,?_,?_,?_,keepw⟩
    ·rw [hos4.1,hb3.os,hos1.1]
    ·rw [hos4.2.1,hb3.tape,hos1.2.1]
    ·rw [hos4.2.2,hb3.output,hos1.2.2]
    ·have:=hb3.size; omega
   refine ⟨{ target := .collected w.heap.size,args:=#[] } :: D,N.more (fun b => b=w.heap.size) π,w4,μ3,hext.trans hext3,?_,?_,?_,?_⟩
   ·have:=hf.mono (Inj.le_trans hle hext3.le)
    exact ⟨by simp [hf.defers],this.size,this.vals⟩
   ·refine hR3.turn hw3 rfl h43 (fun b Y hb _ _ => ?_) (fun b hb => (hN1c b).1 hb) (.refl _ _) (fun b hb => ?_) ?_
    ·rcases hb with hb | hb
     ·exact (hN1k b).2 (.inl hb)
     ·exact (hN1k b).2 (.inr (.inl hb))
    ·rw [hsz4]
     rcases hb with hb | hb
     ·exact hR3.fresh b ((hN1k b).2 (.inl hb))
     ·omega
    ·intro o x ν hp
     obtain ⟨h1,l,h2,h3,h4⟩:=hR.pinned hp
     exact ⟨Inj.le_trans h1 (Inj.le_trans hle hext3.le),l,hext3.le _ _ (hle _ _ h2),.inl h3,(keepw l h3).trans h4⟩
   ·refine ⟨List.pairwise_cons.2 ⟨fun d hd => ?_,hm.1⟩,fun d hd => ?_⟩
    ·obtain ⟨b,h1,_,_,h4⟩:=hm.2 d hd
     have:=(Array.getElem?_eq_some_iff.1 h4).1
     rw [h1]
     simp only [ne_eq,Target.collected.injEq]
     omega
    ·rcases List.mem_cons.1 hd with rfl | hd
     ·exact ⟨_,rfl,fun hn => by have:=hR.fresh _ (h0 _ hn); omega,.inr rfl,hmark⟩
     ·obtain ⟨b,h1,h2,h3,h4⟩:=hm.2 d hd
      exact ⟨b,h1,h2,.inl h3,(keepw b h3).trans h4⟩
   ·exact ⟨fun b hb => .inl hb,fun b hb => hb,hbel⟩
inductive RCode where
 | base (c : ACode)
 | seq (a b : RCode)
 | block (id : Nat) (c : RCode)
 | range (g : AOpd) (ps : List Nat) (assign body : ACode)
def rcode (it : ItH) (cd : ACode→Fr→AH→Out) : RCode→Fr→AH→Out
 | .base c,f,h => cd c f h
 | .seq a b,f,h => match rcode it cd a f h with
  | some (.normal,f',h') => rcode it cd b f' h'
  | r => r
 | .block id c,f,h => match rcode it cd c f h with
  | some (.exit i,f',h') => some (if i=id then .normal else .exit i,f',h')
  | r => r
 | .range g ps a b,f,h => (rangeRun it cd g ps a b f h).map fun h' => (.normal,f,h')
def holdsR : Code→Bool
 | .rangeFunc .. => true
 | .seq a b => holdsR a || holdsR b
 | .block _ c => holdsR c
 | _ => false
def cR (P : Program) (n : Nat) : Code→RCode
 | .seq a b => if holdsR a || holdsR b then .seq (cR P n a) (cR P n b) else .base (cCode P n (.seq a b))
 | .block id c => if holdsR c then .block id (cR P n c) else .base (cCode P n (.block id c))
 | .rangeFunc g ps a b => match cOpd g with
  | some g' => if ps.toList.all (· < n) then .range g' ps.toList (cCode P n a) (cCode P n b) else .base .stuck
  | none => .base .stuck
 | c => .base (cCode P n c)
theorem EndOk.same {π : Pin} {N0 N : Keep π} {w₀ : World} {h : AH} {μ : Inj} {f' : Fr} {h' : AH} {a' : Act} {w w' : World} {μ' : Inj} {D : List Deferred} (hr0 : R N w₀ μ h w) (hm : Marks N0 D N w) (he : Inj.Ext h.next h'.next μ μ') (hf : FRel D n μ' f' a') (hr : R N w₀ μ' h' w') : EndOk N0 N w₀ n h μ f' h' a' w' :=
 ⟨D,N,w₀,μ',he,hf,hr,⟨hm.1,fun d hd => let ⟨b,h1,h2,h3,h4⟩:=hm.2 d hd; ⟨b,h1,h2,h3,((hr.below.block b h3).trans (hr0.below.block b h3).symm).trans h4⟩⟩,.refl _ _⟩
def RCodeOk (P : Program) (it : ItH) (cd : ACode→Fr→AH→Out) (n : Nat) (c : Code) : Prop :=
 ∀ (f f' : Fr) (h h' : AH) (e : AExit),rcode it cd (cR P n c) f h=some (e,f',h')→∀ (π : Pin) (N0 N : Keep π) (w₀ : World) (μ : Inj) (a : Act) (w : World) (D : List Deferred),FRel D n μ f a→R N w₀ μ h w→Marks N0 D N w→(∀ b,N0.keep b→N.keep b) →
  c.wpIn (rnd none) 0 P (fun e' a' w' => ExOk e e'∧EndOk N0 N w₀ n h μ f' h' a' w') a w
theorem base_ok (hcall : ∀ π,HOk π P call) (hcd : By call cd) {it : ItH} {c : Code} (hc : cR P n c = .base (cCode P n c)) : RCodeOk P it cd n c:=by
 intro f f' h h' e he π N0 N w₀ μ a w D hf hR hm h0
 rw [hc] at he
 obtain ⟨lf,he'⟩:=hcd _ _ _ _ he
 refine wpIn_mono (code_ok (D:=D) (ρ:=none) (hcall π) lf c _ _ _ _ _ he' N w₀ μ a w hf hR) ?_
 rintro e' a' w' ⟨hex,μ',hext,hf',hR'⟩
 exact ⟨hex,.same hR hm hext hf' hR'⟩
theorem rcode_ok (hcall : ∀ π,HOk π P call) (hcd : By call cd) {it : ItH} (hit : ItOk P it) : ∀ (c : Code),RCodeOk P it cd n c:=by
 intro c
 induction c with
 | seq x y ihx ihy =>
  cases hh : (holdsR x || holdsR y) with
  | false => exact base_ok hcall hcd (by simp only [cR,hh]; rfl)
  | true =>
   intro f f' h h' e he π N0 N w₀ μ a w D hf hR hm h0
   simp only [cR,hh,if_true,rcode] at he
   refine wpIn_seq ?_
   cases hx : rcode it cd (cR P n x) f h with
   | none => simp [hx] at he
   | some p =>
    obtain ⟨e1,f1,h1⟩:=p
    refine wpIn_mono (ihx f f1 h h1 e1 hx π N0 N w₀ μ a w D hf hR hm h0) ?_
    rintro e' a' w' ⟨hex,D1,N1,w1,μ1,hext,hf1,hR1,hm1,hb1⟩
    cases e1 with
    | normal =>
     cases e' <;> simp only [ExOk] at hex
     simp only [hx] at he
     simp only [Exit.then]
     refine wpIn_mono (ihy f1 f' h1 h' e he π N0 N1 w1 μ1 a' w' D1 hf1 hR1 hm1 fun b hb => hb1.keep b (h0 b hb)) ?_
     rintro e2 a2 w2 ⟨hex2,D2,N2,w2',μ2,hext2,hf2,hR2,hm2,hb2⟩
     exact ⟨hex2,D2,N2,w2',μ2,hext.trans hext2,hf2,hR2,hm2,hb1.trans hb2⟩
    | exit i =>
     simp only [hx,Option.some.injEq,Prod.mk.injEq] at he
     obtain ⟨rfl,rfl,rfl⟩:=he
     cases e' <;> simp only [ExOk] at hex
     exact ⟨hex,D1,N1,w1,μ1,hext,hf1,hR1,hm1,hb1⟩
    | ret =>
     simp only [hx,Option.some.injEq,Prod.mk.injEq] at he
     obtain ⟨rfl,rfl,rfl⟩:=he
     cases e' <;> simp only [ExOk] at hex
     exact ⟨trivial,D1,N1,w1,μ1,hext,hf1,hR1,hm1,hb1⟩
 | block id c ih =>
  cases hh : holdsR c with
  | false => exact base_ok hcall hcd (by simp only [cR,hh]; rfl)
  | true =>
   intro f f' h h' e he π N0 N w₀ μ a w D hf hR hm h0
   simp only [cR,hh,if_true,rcode] at he
   refine wpIn_block ?_
   cases hc : rcode it cd (cR P n c) f h with
   | none => simp [hc] at he
   | some p =>
    obtain ⟨e1,f1,h1⟩:=p
    refine wpIn_mono (ih f f1 h h1 e1 hc π N0 N w₀ μ a w D hf hR hm h0) ?_
    rintro e' a' w' ⟨hex,hend⟩
    cases e1 with
    | normal =>
     simp only [hc,Option.some.injEq,Prod.mk.injEq] at he
     obtain ⟨rfl,rfl,rfl⟩:=he
     cases e' <;> simp only [ExOk] at hex
     exact ⟨trivial,hend⟩
    | exit i =>
     simp only [hc,Option.some.injEq,Prod.mk.injEq] at he
     obtain ⟨rfl,rfl,rfl⟩:=he
     cases e' with
     | exit j =>
      simp only [ExOk] at hex
      subst hex
      simp only [Exit.inBlock]
      split
      ·exact ⟨trivial,hend⟩
      ·exact ⟨rfl,hend⟩
     | _ => exact hex.elim
    | ret =>
     simp only [hc,Option.some.injEq,Prod.mk.injEq] at he
     obtain ⟨rfl,rfl,rfl⟩:=he
     cases e' <;> simp only [ExOk] at hex
     exact ⟨trivial,hend⟩
 | rangeFunc g ps x y _ _ =>
  intro f f' h h' e he π N0 N w₀ μ a w D hf hR hm h0
  simp only [cR] at he
  split at he
  ·rename_i g' hg
   split at he
   ·rename_i hn
    simp only [rcode] at he
    cases hr : rangeRun it cd g' ps.toList (cCode P n x) (cCode P n y) f h with
    | none => simp [hr] at he
    | some h2 =>
     simp only [hr,Option.map_some,Option.some.injEq,Prod.mk.injEq] at he
     obtain ⟨rfl,rfl,rfl⟩:=he
     refine wpIn_mono (range_ok hcall hcd hit hg (fun x hx => by simpa using List.all_eq_true.1 hn x hx) hr hf hR hm h0) ?_
     rintro e' a' w' ⟨rfl,hend⟩
     exact ⟨trivial,hend⟩
   ·simp only [rcode] at he
    obtain ⟨lf,he'⟩:=hcd _ _ _ _ he
    cases he'
  ·simp only [rcode] at he
   obtain ⟨lf,he'⟩:=hcd _ _ _ _ he
   cases he'
 | _ => exact base_ok hcall hcd rfl
structure RFunc where
 nargs : Nat
 body : RCode
 results : List AResult
def RFunc.run (it : ItH) (cd : ACode→Fr→AH→Out) (fn : RFunc) (args : List AV) (h : AH) : Option (AV×AH) :=
 if args.length=fn.nargs then
  match rcode it cd fn.body (Fr.ofArgs 0 args .nil) h with
  | some (.normal,f,h') => (resultsV f h' fn.results).map fun l => (tupleV l,h')
  | some (.ret,f,h') => (resultsV f h' fn.results).map fun l => (tupleV l,h')
  | _ => none
 else none
def cRFunc (P : Program) (fn : Func) : Option RFunc :=
 match fn.body,cResults P fn.results.toList with
 | some c,some rs => if fn.params.size + fn.nfree≤fn.ntmps∧(fn.name == "runtime.NumGoroutine")=false then some ⟨fn.params.size + fn.nfree,cR P fn.ntmps c,rs⟩ else none
 | _,_ => none
theorem leaves_marks {fn : Func} {tmps : Array Value} {Q : Ending→World→Prop} {π : Pin} {N : Keep π} {w₀ : World} {μ : Inj} {h : AH} (hres : ∀ w,R N w₀ μ h w→∃ v,(results fn tmps).run P w = .ok v w∧Q (.returned v) w) :
  ∀ (D : List Deferred) (w : World),R N w₀ μ h w→D.Pairwise (fun d e => d.target≠e.target)→(∀ d∈D,∃ b,d={ target := .collected b,args:=#[] }∧¬ N.keep b∧w.heap[b]?=some (.deferred (some []))) →
  LeavesInM (rnd none) 0 P fn tmps Q D .returning w
 | [],w,hR,_,_ => hres w hR
 | d :: D,w,hR,hp,hm => by
  obtain ⟨b,hd,hk,hb⟩:=hm d (List.mem_cons_self ..)
  obtain ⟨hp1,hp2⟩:=List.pairwise_cons.1 hp
  have hlt : b < w.heap.size:=(Array.getElem?_eq_some_iff.1 hb).1
  have hb0:=hR.below
  have hR' : R N w₀ μ h (w.putObj b (.deferred none)):=by
   refine hR.turn hb rfl (fun j hj => World.putObj_heap_other hj) (fun c Y hc _ _ => hc) (fun c hc => hc) ⟨hb0.os,hb0.tape,hb0.output,by rw [World.putObj_size]; exact hb0.size,fun k hkk => ?_⟩ (fun c hc => by rw [World.putObj_size]; exact hR.fresh c hc) hR.pin
   rw [World.putObj_heap_other (fun e : k=b => hk (e ▸ hkk))]
   exact hb0.block k hkk
  refine ⟨by simp,.inl ⟨b,_,by rw [hd],run_takeDeferred hb,leaves_marks hres D _ hR' hp2 fun e he => ?_⟩⟩
  obtain ⟨c,h1,h2,h3⟩:=hm e (List.mem_cons_of_mem _ he)
  have hne : c≠b:=by
   intro e'
   have:=hp1 e he
   rw [hd,h1,e'] at this
   exact this rfl
  exact ⟨c,h1,h2,(World.putObj_heap_other hne).trans h3⟩
theorem rfunc_ok (hcall : ∀ π,HOk π P call) (hcd : By call cd) {it : ItH} (hit : ItOk P it) {g : Nat} {fn : Func} {af : RFunc} (hg : P.funcs[g]?=some fn) (hc : cRFunc P fn=some af) {args : List AV} {h h' : AH} {r : AV} (hr : af.run it cd args h=some (r,h')) :
  CallOk P g∧ASim P g args h r h':=by
 unfold cRFunc at hc
 split at hc
 case h_2 => cases hc
 rename_i c rs hb hrs
 split at hc
 case isFalse => cases hc
 rename_i hcond
 cases hc
 refine ⟨⟨fn,hg,hcond.2,by simp [hb]⟩,?_⟩
 intro π N w₀ μ w vargs hR hargs
 unfold RFunc.run at hr
 simp only at hr
 split at hr
 case isFalse => cases hr
 rename_i hlen
 have hfr:=args_rel hargs (n:=fn.ntmps) (by omega)
 have fin : ∀ (f : Fr) (h2 : AH),((resultsV f h2 rs).map fun l => (tupleV l,h2))=some (r,h')→∀ (a' : Act) (w' : World),EndOk N N w₀ fn.ntmps h μ f h2 a' w' →
   LeavesInM (rnd none) 0 P fn a'.tmps (fun e w' => ∃ μ' v',e = .returned v'∧Inj.Ext h.next h'.next μ μ'∧R N w₀ μ' h' w'∧VRel μ' r v') a'.defers .returning w':=by
  intro f h2 hres a' w' ⟨D',N',w₀',μ',hext,hf',hR',hm',hbk⟩
  cases hl : resultsV f h2 rs with
  | none => simp [hl] at hres
  | some l =>
   simp only [hl,Option.map_some,Option.some.injEq,Prod.mk.injEq] at hres
   obtain ⟨rfl,rfl⟩:=hres
   have hRb : R N w₀ μ' h2 w':=hR.back hR' hext.le hbk
   rw [hf'.defers]
   refine leaves_marks (fun w2 hR2 => ?_) D' w' hRb hm'.1 fun d hd => ?_
   ·obtain ⟨v,hv,hrun⟩:=results_run hf' hR2 hrs hl
    exact ⟨v,hrun,μ',v,rfl,hext,hR2,hv⟩
   ·obtain ⟨b,h1,h2,_,h4⟩:=hm'.2 d hd
    exact ⟨b,h1,h2,h4⟩
 cases ha : rcode it cd (cR P fn.ntmps c) (Fr.ofArgs 0 args .nil) h with
 | none => simp [ha] at hr
 | some p =>
  obtain ⟨e,f,h2⟩:=p
  refine (callsIn_wide (n:=0)).1 ?_
  refine callsIn_of_wp_marks (F:=Fence.wide) hg hb trivial ?_
  refine wpIn_mono (rcode_ok hcall hcd hit c _ _ _ _ e ha π N N w₀ μ _ w [] hfr hR ⟨List.Pairwise.nil,fun d hd => by cases hd⟩ fun _ hb => hb) ?_
  rintro e' a' w' ⟨hex,hend⟩
  cases e with
  | normal =>
   cases e' <;> simp only [ExOk] at hex
   simp only [ha] at hr
   exact fin f h2 hr a' w' hend
  | exit i => simp [ha] at hr
  | ret =>
   cases e' <;> simp only [ExOk] at hex
   simp only [ha] at hr
   exact fin f h2 hr a' w' hend
def withY (T : Prog) (o : Nat) (yh : List AV→AH→Option (AV×AH)) : Prog:=⟨T.func,fun n => if n=YB + o then some yh else T.env n⟩
theorem withY_at {T : Prog} (hT : TabOk P T) {π : Pin} {o : Nat} {yh : List AV→AH→Option (AV×AH)} (hy : ∀ args h v h',yh args h=some (v,h')→YSim π P o args h v h') : TabAt π P (withY T o yh) where
 func:=hT.func
 low:=hT.low
 env:=fun g e hg he => by
  simp only [withY] at he
  rw [if_neg (by omega)] at he
  exact (hT.at π).env g e hg he
 yld:=fun q e he => by
  simp only [withY] at he
  split at he
  ·rename_i e'
   have : q=o:=by omega
   subst this; cases he; exact hy
  ·exact (hT.at π).yld q e he
theorem at_body {T : Prog} {π : Pin} (hT : TabAt π P T) {k g : Nat} (he : T.env g=none) {args : List AV} {h h' : AH} {r : AV} (hr : arun T k g args h=some (r,h')) : g < YB∧CallOk P g∧ASimAt π P g args h r h':=by
 cases k with
 | zero => cases hr
 | succ k =>
  simp only [arun,he] at hr
  split at hr
  ·rename_i af haf
   obtain ⟨fn,h1,h2⟩:=hT.func g af haf
   refine ⟨?_,func_ok (arun_at hT k) h1 h2 hr⟩
   have:=(Array.getElem?_eq_some_iff.1 h1).1
   have:=hT.low
   omega
  ·cases hr
theorem withY_env {T : Prog} {o g : Nat} {yh : List AV→AH→Option (AV×AH)} (hg : g < YB) : (withY T o yh).env g=T.env g:=by simp only [withY]; rw [if_neg (by omega)]
def itK (T : Prog) (k : Nat) : ItH:=fun o yh g args h => match T.env g with
 | some _ => none
 | none => if g < YB then arun (withY T o yh) k g args h else none
noncomputable def itL (T : Prog) : ItH:=fun o yh g args h => match T.env g with
 | some _ => none
 | none => if g < YB then run (withY T o yh) g args h else none
theorem itK_ok {T : Prog} (hT : TabOk P T) (k : Nat) : ItOk P (itK T k):=by
 intro π o x ν yh hπ hy g args h v h' hr
 unfold itK at hr
 split at hr
 ·cases hr
 ·rename_i he
  split at hr
  ·rename_i hlow
   exact at_body (withY_at hT hy) ((withY_env hlow).trans he) hr
  ·cases hr
theorem itL_ok {T : Prog} (hT : TabOk P T) : ItOk P (itL T):=by
 intro π o x ν yh hπ hy g args h v h' hr
 unfold itL at hr
 split at hr
 ·cases hr
 ·rename_i he
  split at hr
  ·rename_i hlow
   obtain ⟨k,hk⟩:=run_iff.1 hr
   exact at_body (withY_at hT hy) ((withY_env hlow).trans he) hk
  ·cases hr
theorem byK (call : Handler) (lf : Nat) : By call (acode call lf):=fun _ _ _ _ hr => ⟨lf,hr⟩
theorem byL (T : Prog) : By (run T) (code T):=fun _ _ _ _ hr => code_iff.1 hr
def rK (T : Prog) (k : Nat) (fn : RFunc) : List AV→AH→Option (AV×AH):=fn.run (itK T k) (acode (arun T k) k)
noncomputable def rL (T : Prog) (fn : RFunc) : List AV→AH→Option (AV×AH):=fn.run (itL T) (code T)
theorem rK_ok {T : Prog} (hT : TabOk P T) (k : Nat) {g : Nat} {fn : Func} {af : RFunc} (hg : P.funcs[g]?=some fn) (hc : cRFunc P fn=some af) : ∀ args h r h',rK T k af args h=some (r,h')→CSim P g args h r h' :=
 fun _ _ _ _ hr => .inl (rfunc_ok (fun π => arun_ok hT π k) (byK _ _) (itK_ok hT k) hg hc hr)
theorem rL_ok {T : Prog} (hT : TabOk P T) {g : Nat} {fn : Func} {af : RFunc} (hg : P.funcs[g]?=some fn) (hc : cRFunc P fn=some af) : ∀ args h r h',rL T af args h=some (r,h')→CSim P g args h r h' :=
 fun _ _ _ _ hr => .inl (rfunc_ok (fun π => run_ok hT π) (byL _) (itL_ok hT) hg hc hr)
end
end Go.Vm

/- Code, functions, calls: the machine is sound. -/
import Derived.Test.YtpabmkicdcilpaaVmR
import Derived.LoopN
namespace Go.Vm
open Go.RowKit
set_option linter.unusedSimpArgs false
set_option linter.unusedVariables false

/-! ### plans are made -/
def planAt (n : Nat) (p : Nat → Bool) : List Nat := (List.range n).filter p
/-- Which of the stage's operations need no second look: the looks behind the last maker. -/
def lateLooks (cls : List Nat) : List Nat → List Nat → List Nat
  | [], acc => acc
  | i :: r, acc => lateLooks cls r (if cls.getD i 0 == 1 then i :: acc else if cls.getD i 0 == 0 then acc else [])
def mkPlanGo (M : List Nat) (cls sts : List Nat) (n : Nat) : List Nat → List Nat → Nat → Plan
  | [], past, k =>
    let os := planAt n fun i => (cls.getD i 0 != 3) && (sts.getD i 0 == k)
    let fr := lateLooks cls os []
    .last os (planAt n fun i => (cls.getD i 0 == 1 || cls.getD i 0 == 2) && decide (sts.getD i 0 ≤ k) && !(past.any fun w => has M w i) && !(fr.contains i))
  | w :: r, past, k =>
    let os := planAt n fun i => (cls.getD i 0 != 3) && (sts.getD i 0 == k)
    let fr := lateLooks cls os []
    .stage os (planAt n fun i => (cls.getD i 0 == 1 || cls.getD i 0 == 2) && decide (sts.getD i 0 ≤ k) && !(past.any fun w => has M w i) && !(fr.contains i)) w (mkPlanGo M cls sts n r (w :: past) (k + 1))
def mkPlan (M : List Nat) (xs : List AOper) : Plan :=
  let cls := xs.map (·.op.cls)
  let ws := planAt xs.length fun i => cls.getD i 0 == 3
  let sts := (List.range xs.length).map fun i => (ws.filter fun w => has M i w).length
  mkPlanGo M cls sts xs.length ws [] 0
def cDraw (P : Program) (n : Nat) (ops : Array Oper) : ACode :=
  let xs := comp P n ops
  let M := masks ops
  let p := mkPlan M xs
  if P.follows .mixedOrders && dstsOk xs && edgesOk ops && planOk M xs p none 0 then .draw (p.items xs) else .stuck

/-- A list without looks is a list of operations. -/
def allOps : List DItem → Option (List AOper)
  | [] => some []
  | .op o :: r => (allOps r).map (o :: ·)
  | .look _ :: _ => none
def asOps : ACode → ACode
  | .draw l => match allOps l with
    | some l' => .ops l'
    | none => .draw l
  | c => c
theorem runItems_allOps {call : Handler} : ∀ {l : List DItem} {l' : List AOper}, allOps l = some l' → ∀ (f : Fr) (h : AH), runOps call l' f h = runItems call l f h
  | [], l', hl, f, h => by cases hl; rfl
  | .op o :: r, l', hl, f, h => by
    simp only [allOps] at hl
    cases hr : allOps r with
    | none => simp [hr] at hl
    | some l2 =>
      simp [hr] at hl
      subst hl
      simp only [runOps, runItems]
      cases o.run call f h with
      | none => rfl
      | some p => exact runItems_allOps hr p.1 p.2
  | .look _ :: r, l', hl, f, h => by cases hl
theorem acode_asOps (call : Handler) (lf : Nat) (c : ACode) (f : Fr) (h : AH) : acode call lf (asOps c) f h = acode call lf c f h := by
  cases c with
  | draw l =>
    simp only [asOps]
    split
    · rename_i l' hl
      simp only [acode, runItems_allOps hl]
    · rfl
  | _ => rfl

def cCode (P : Program) (n : Nat) : Code → ACode
  | .skip => .skip
  | .region _ ops draw => if draw then asOps (cDraw P n ops) else .ops (comp P n ops)
  | .seq a b => .seq (cCode P n a) (cCode P n b)
  | .cond c a b => match cOpd c with
    | some c' => .cond c' (cCode P n a) (cCode P n b)
    | none => .stuck
  | .block id c => .block id (cCode P n c)
  | .loop c => .loop (cCode P n c)
  | .exit id => .exit id
  | .ret => .ret
  | _ => .stuck

def cResult (P : Program) : ResultVar → Option AResult
  | .tmp t => some (.tmp t)
  | .cell a t => match aggOf P t, P.info? t with
    | some g, some i => some (.cell a g i.size)
    | _, _ => none
def cResults (P : Program) : List ResultVar → Option (List AResult)
  | [] => some []
  | r :: s => match cResult P r, cResults P s with
    | some a, some l => some (a :: l)
    | _, _ => none
def cFunc (P : Program) (fn : Func) : Option AFunc :=
  match fn.body, cResults P fn.results.toList with
  | some c, some rs => if fn.params.size + fn.nfree ≤ fn.ntmps ∧ (fn.name == "runtime.NumGoroutine") = false then some ⟨fn.params.size + fn.nfree, cCode P fn.ntmps c, rs⟩ else none
  | _, _ => none

section
variable {P : Program} {call : Handler} {n : Nat} {N : Nat} {w₀ : World}

theorem Lof_false {k j : Nat} : ¬ Lof (Array.replicate k false) j := by
  unfold Lof
  simp only [Array.getD_eq_getD_getElem?, Array.getElem?_replicate]
  split <;> simp
theorem draw_wp (hcall : HOk P call) {id : Nat} {ops : Array Oper} {l : List DItem} (hd : cDraw P n ops = .draw l) {f f' : Fr} {h h' : AH} (hr : runItems call l f h = some (f', h')) {μ : Inj} {a : Act} {w : World} (hf : FRel n μ f a) (hR : R N w₀ μ h w)
    {Q : Exit → Act → World → Prop} (hQ : ∀ μ' a' w', Inj.Ext h.next h'.next μ μ' → FRel n μ' f' a' → R N w₀ μ' h' w' → Q .normal a' w') : (Code.region id ops true).wp P Q a w := by
  unfold cDraw at hd
  simp only at hd
  split at hd
  · rename_i hc
    cases hd
    simp only [Bool.and_eq_true] at hc
    obtain ⟨⟨⟨hm, hD⟩, hE⟩, hp⟩ := hc
    refine wp_region_any hm ?_
    have hci : CI (masks ops) (comp P n ops) call f h.next 0 0 f h (fun _ => none) := by
      constructor
      · intro i hi; simp at hi
      · intro t _; rfl
      · intro i hi; simp at hi
      · intro i hi; simp at hi
      · intro i hi; simp at hi
      · intro i p hi; cases hi
      · intro i j p hi; cases hi
      · exact Nat.le_refl _
      · intro i hi; simp at hi
    have hcc : CC n N w₀ (masks ops) (comp P n ops) call f h.next μ 0 0 f h (fun _ => none) (Lof (Array.replicate ops.size false)) f μ a { w with drawn := w.drawn + 1 } := by
      refine ⟨hci, ?_, hR.drawn _, hf, (fun i hi => absurd hi Lof_false), (fun i p _ hi => by cases hi), .refl (Nat.le_refl _), (fun i hi => by simp at hi)⟩
      intro t
      exact ⟨(fun ⟨i, hi, _⟩ => by simp at hi), fun _ => rfl⟩
    obtain ⟨E', G', F', H', pid', c', lk', rem'⟩ := hcc.enter rfl hD hp hr (fun v i hv => by cases hv)
    refine draw_any hcall rfl rfl hD hE hQ ops.size _ _ _ _ _ _ _ _ _ _ (by simp) ?_ ?_ c' lk' rem'
    · refine Nat.le_trans List.countP_le_length (by simp)
    · intro i o _ hi; exact absurd hi Lof_false
  · cases hd

/-! ### code -/
def ExOk : AExit → Exit → Prop
  | .normal, .normal => True
  | .exit i, .exit j => i = j
  | .ret, .ret => True
  | _, _ => False
def CodeOk (P : Program) (call : Handler) (n lf : Nat) (c : Code) : Prop :=
  ∀ (f f' : Fr) (h h' : AH) (e : AExit), acode call lf (cCode P n c) f h = some (e, f', h') → ∀ (N : Nat) (w₀ : World) (μ : Inj) (a : Act) (w : World), FRel n μ f a → R N w₀ μ h w →
    c.wp P (fun e' a' w' => ExOk e e' ∧ ∃ μ', Inj.Ext h.next h'.next μ μ' ∧ FRel n μ' f' a' ∧ R N w₀ μ' h' w') a w

theorem loop_ok {lf : Nat} {c : Code} (ih : CodeOk P call n lf c) : ∀ (k : Nat) (f f' : Fr) (h h' : AH) (e : AExit), aloop (acode call lf (cCode P n c)) k f h = some (e, f', h') → ∀ (N : Nat) (w₀ : World) (μ : Inj) (a : Act) (w : World), FRel n μ f a → R N w₀ μ h w →
    Code.rounds P c (fun e' a' w' => ExOk e e' ∧ ∃ μ', Inj.Ext h.next h'.next μ μ' ∧ FRel n μ' f' a' ∧ R N w₀ μ' h' w') k a w := by
  intro k
  induction k with
  | zero => intro f f' h h' e he; cases he
  | succ k ihk =>
    intro f f' h h' e he N w₀ μ a w hf hR
    simp only [aloop] at he
    rw [rounds_succ]
    cases hb : acode call lf (cCode P n c) f h with
    | none => simp [hb] at he
    | some p =>
      obtain ⟨e1, f1, h1⟩ := p
      have := ih f f1 h h1 e1 hb N w₀ μ a w hf hR
      refine wp_mono this ?_
      rintro e' a' w' ⟨hex, μ', hext, hf', hR'⟩
      cases e1 with
      | normal =>
        cases e' <;> simp only [ExOk] at hex
        simp only [hb] at he
        simp only [Exit.then]
        have h2 := ihk f1 f' h1 h' e he N w₀ μ' a' w' hf' hR'
        have mono : ∀ (k : Nat) (Q Q' : Exit → Act → World → Prop), (∀ e a w, Q e a w → Q' e a w) → ∀ a w, Code.rounds P c Q k a w → Code.rounds P c Q' k a w := by
          intro k
          induction k with
          | zero => intro Q Q' _ a w h; exact h
          | succ k ihm =>
            intro Q Q' hq a w h
            rw [rounds_succ] at h ⊢
            refine wp_mono h ?_
            intro e a w hh
            cases e <;> simp only [Exit.then] at hh ⊢
            · exact ihm Q Q' hq a w hh
            all_goals exact hq _ _ _ hh
        refine mono k _ _ ?_ a' w' h2
        rintro e2 a2 w2 ⟨hex2, μ2, hext2, hf2, hR2⟩
        exact ⟨hex2, μ2, hext.trans hext2, hf2, hR2⟩
      | exit i =>
        simp only [hb, Option.some.injEq, Prod.mk.injEq] at he
        obtain ⟨rfl, rfl, rfl⟩ := he
        cases e' <;> simp only [ExOk] at hex
        exact ⟨hex, μ', hext, hf', hR'⟩
      | ret =>
        simp only [hb, Option.some.injEq, Prod.mk.injEq] at he
        obtain ⟨rfl, rfl, rfl⟩ := he
        cases e' <;> simp only [ExOk] at hex
        exact ⟨trivial, μ', hext, hf', hR'⟩

theorem code_ok (hcall : HOk P call) (lf : Nat) : ∀ (c : Code), CodeOk P call n lf c := by
  intro c
  induction c with
  | skip =>
    intro f f' h h' e he N w₀ μ a w hf hR
    cases he
    exact wp_skip ⟨trivial, μ, .refl (Nat.le_refl _), hf, hR⟩
  | region id ops draw =>
    intro f f' h h' e he N w₀ μ a w hf hR
    cases draw
    · simp only [cCode, Bool.false_eq_true, if_false, acode] at he
      cases hr : runOps call (comp P n ops) f h with
      | none => simp [hr] at he
      | some p =>
        obtain ⟨f1, h1⟩ := p
        simp only [hr, Option.map_some, Option.some.injEq, Prod.mk.injEq] at he
        obtain ⟨rfl, rfl, rfl⟩ := he
        refine wp_region ?_
        rw [List.range_eq_range']
        exact ops_wp hcall ops.size 0 f f1 h h1 μ a w (by omega) (by simpa using hr) hf hR fun μ' a' w' hext hf' hR' => ⟨trivial, μ', hext, hf', hR'⟩
    · simp only [cCode, if_true, acode_asOps] at he
      cases hd : cDraw P n ops with
      | draw l =>
        rw [hd] at he
        simp only [acode] at he
        cases hr : runItems call l f h with
        | none => simp [hr] at he
        | some p =>
          obtain ⟨f1, h1⟩ := p
          simp only [hr, Option.map_some, Option.some.injEq, Prod.mk.injEq] at he
          obtain ⟨rfl, rfl, rfl⟩ := he
          exact draw_wp hcall hd hr hf hR fun μ' a' w' hext hf' hR' => ⟨trivial, μ', hext, hf', hR'⟩
      | stuck => rw [hd] at he; cases he
      | _ => unfold cDraw at hd; simp only at hd; split at hd <;> cases hd
  | seq x y ihx ihy =>
    intro f f' h h' e he N w₀ μ a w hf hR
    simp only [cCode, acode] at he
    refine wp_seq ?_
    cases hx : acode call lf (cCode P n x) f h with
    | none => simp [hx] at he
    | some p =>
      obtain ⟨e1, f1, h1⟩ := p
      refine wp_mono (ihx f f1 h h1 e1 hx N w₀ μ a w hf hR) ?_
      rintro e' a' w' ⟨hex, μ', hext, hf', hR'⟩
      cases e1 with
      | normal =>
        cases e' <;> simp only [ExOk] at hex
        simp only [hx] at he
        simp only [Exit.then]
        refine wp_mono (ihy f1 f' h1 h' e he N w₀ μ' a' w' hf' hR') ?_
        rintro e2 a2 w2 ⟨hex2, μ2, hext2, hf2, hR2⟩
        exact ⟨hex2, μ2, hext.trans hext2, hf2, hR2⟩
      | exit i =>
        simp only [hx, Option.some.injEq, Prod.mk.injEq] at he
        obtain ⟨rfl, rfl, rfl⟩ := he
        cases e' <;> simp only [ExOk] at hex
        exact ⟨hex, μ', hext, hf', hR'⟩
      | ret =>
        simp only [hx, Option.some.injEq, Prod.mk.injEq] at he
        obtain ⟨rfl, rfl, rfl⟩ := he
        cases e' <;> simp only [ExOk] at hex
        exact ⟨trivial, μ', hext, hf', hR'⟩
  | cond c x y ihx ihy =>
    intro f f' h h' e he N w₀ μ a w hf hR
    simp only [cCode] at he
    cases hc : cOpd c with
    | none => rw [hc] at he; cases he
    | some c' =>
      rw [hc] at he
      simp only [acode] at he
      have hv := cOpd_rel hc hf.vals
      split at he
      · rename_i hb
        rw [hb] at hv
        exact wp_cond_true hv.bool_inv (ihx f f' h h' e he N w₀ μ a w hf hR)
      · rename_i hb
        rw [hb] at hv
        exact wp_cond_false hv.bool_inv (ihy f f' h h' e he N w₀ μ a w hf hR)
      · cases he
  | block id c ih =>
    intro f f' h h' e he N w₀ μ a w hf hR
    simp only [cCode, acode] at he
    refine wp_block ?_
    cases hc : acode call lf (cCode P n c) f h with
    | none => simp [hc] at he
    | some p =>
      obtain ⟨e1, f1, h1⟩ := p
      refine wp_mono (ih f f1 h h1 e1 hc N w₀ μ a w hf hR) ?_
      rintro e' a' w' ⟨hex, μ', hext, hf', hR'⟩
      cases e1 with
      | normal =>
        simp only [hc, Option.some.injEq, Prod.mk.injEq] at he
        obtain ⟨rfl, rfl, rfl⟩ := he
        cases e' <;> simp only [ExOk] at hex
        exact ⟨trivial, μ', hext, hf', hR'⟩
      | exit i =>
        simp only [hc, Option.some.injEq, Prod.mk.injEq] at he
        obtain ⟨rfl, rfl, rfl⟩ := he
        cases e' with
        | exit j =>
          simp only [ExOk] at hex
          subst hex
          simp only [Exit.inBlock]
          split
          · exact ⟨trivial, μ', hext, hf', hR'⟩
          · exact ⟨rfl, μ', hext, hf', hR'⟩
        | _ => exact hex.elim
      | ret =>
        simp only [hc, Option.some.injEq, Prod.mk.injEq] at he
        obtain ⟨rfl, rfl, rfl⟩ := he
        cases e' <;> simp only [ExOk] at hex
        exact ⟨trivial, μ', hext, hf', hR'⟩
  | loop c ih =>
    intro f f' h h' e he N w₀ μ a w hf hR
    simp only [cCode, acode] at he
    exact wp_loop_rounds lf (loop_ok ih lf f f' h h' e he N w₀ μ a w hf hR)
  | exit id =>
    intro f f' h h' e he N w₀ μ a w hf hR
    cases he
    exact wp_exit ⟨rfl, μ, .refl (Nat.le_refl _), hf, hR⟩
  | ret =>
    intro f f' h h' e he N w₀ μ a w hf hR
    cases he
    exact wp_ret ⟨trivial, μ, .refl (Nat.le_refl _), hf, hR⟩
  | rangeFunc _ _ _ _ _ _ => intro f f' h h' e he; cases he
  | scope _ _ => intro f f' h h' e he; cases he
  | label _ => intro f f' h h' e he; cases he
  | goto _ => intro f f' h h' e he; cases he
  | refuse _ => intro f f' h h' e he; cases he

/-! ### functions -/
theorem ofArgs_at : ∀ (l : List AV) (i : Nat) (f : Fr) (t : Nat), (Fr.ofArgs i l f).at t = if i ≤ t ∧ t < i + l.length then (l[t - i]?).getD .none else f.at t
  | [], i, f, t => by
    simp only [Fr.ofArgs, List.length_nil]
    rw [if_neg (by omega)]
  | v :: r, i, f, t => by
    simp only [Fr.ofArgs]
    rw [ofArgs_at r (i + 1) _ t, Fr.at_set]
    by_cases h1 : i = t
    · subst h1
      rw [if_neg (by omega), if_pos rfl, if_pos (by simp)]
      simp
    · rw [if_neg h1]
      by_cases h2 : i + 1 ≤ t ∧ t < i + 1 + r.length
      · rw [if_pos h2, if_pos (by simp; omega)]
        rw [show t - i = (t - (i + 1)) + 1 by omega, List.getElem?_cons_succ]
      · rw [if_neg h2, if_neg (by simp; omega)]
theorem args_rel {args : List AV} {vargs : Array Value} {μ : Inj} {n : Nat} (h : VRels μ args vargs.toList) (hn : args.length ≤ n) : FRel n μ (Fr.ofArgs 0 args .nil) { tmps := vargs ++ Array.replicate (n - vargs.size) Go.undef, defers := [] } := by
  have hl : args.length = vargs.size := by simpa using h.1
  refine ⟨rfl, by simp; omega, fun t => ?_⟩
  rw [ofArgs_at]
  simp only [Act.eval, Array.getD_eq_getD_getElem?]
  by_cases ht : t < args.length
  · rw [if_pos (by omega), Nat.sub_zero]
    obtain ⟨x, hx⟩ : ∃ x, args[t]? = some x := ⟨_, List.getElem?_eq_getElem ht⟩
    obtain ⟨y, hy, hxy⟩ := h.get hx
    rw [hx, Array.getElem?_append_left (by omega), ← Array.getElem?_toList, hy]
    exact hxy
  · rw [if_neg (by omega)]
    have : (vargs ++ Array.replicate (n - vargs.size) Go.undef)[t]?.getD Go.undef = Go.undef := by
      rw [Array.getElem?_append_right (by omega), Array.getElem?_replicate]
      split <;> rfl
    rw [this]
    have : Fr.at Tr.nil t = AV.none := rfl
    rw [this]
    exact .none_undef

def rvSem (tmps : Array Value) : ResultVar → Sem Value
  | .tmp t => pure (tmps.getD t Go.undef)
  | .cell b t => do loadVar t (← asAddr (tmps.getD b Go.undef))
theorem cResults_run {μ : Inj} {f : Fr} {h : AH} {a : Act} {w : World} (hf : FRel n μ f a) (hR : R N w₀ μ h w) : ∀ {rs : List ResultVar} {as : List AResult} {l : List AV}, cResults P rs = some as → resultsV f h as = some l →
    ∃ vs : List Value, VRels μ l vs ∧ (rs.mapM (rvSem a.tmps)).run P w = .ok vs w
  | [], as, l, hc, hr => by
    cases hc; cases hr
    exact ⟨[], .nil, by simp⟩
  | r :: rs, as, l, hc, hr => by
    simp only [cResults] at hc
    split at hc
    · rename_i b as' h1 h2
      cases hc
      simp only [resultsV] at hr
      cases hb : b.val f h with
      | none => simp [hb] at hr
      | some x =>
        simp only [hb, Option.bind_some] at hr
        cases hl : resultsV f h as' with
        | none => simp [hl] at hr
        | some l' =>
          simp only [hl, Option.map_some, Option.some.injEq] at hr
          subst hr
          obtain ⟨vs, hvs, hrun⟩ := cResults_run hf hR h2 hl
          have key : ∃ v, VRel μ x v ∧ (rvSem a.tmps r).run P w = .ok v w := by
            cases r with
            | tmp t =>
              cases h1
              cases hb
              exact ⟨_, hf.vals t, by simp [Act.eval, rvSem]⟩
            | cell b' t =>
              simp only [cResult] at h1
              split at h1
              · rename_i g i hg hi
                cases h1
                simp only [AResult.val] at hb
                have hv := hf.vals b'
                split at hb
                · rename_i p off hp
                  rw [hp] at hv
                  obtain ⟨bl, base, size, hmu, hbv⟩ := hv.ptr_inv
                  simp only [Act.eval] at hbv
                  cases g
                  · simp only [Bool.false_eq_true, if_false] at hb
                    split at hb
                    · rename_i u0 hl
                      cases hb
                      obtain ⟨us, hload, hrel, hlen, hcell⟩ := hR.load (P := P) hl hmu
                      obtain ⟨u1, rfl⟩ := one_of_length hlen
                      have hcl := hcell 0 u1 rfl
                      simp only [Nat.add_zero] at hcl
                      exact ⟨u1, hrel.head, by simp [rvSem, hbv, asAddr, loadVar, run_isAgg' hg, hcl]⟩
                    · cases hb
                  · simp only [if_true] at hb
                    cases hl : h.load p off i.size with
                    | none => simp [hl] at hb
                    | some l0 =>
                      simp [hl] at hb
                      subst hb
                      obtain ⟨us, hload, hrel, hlen, hcell⟩ := hR.load (P := P) hl hmu
                      exact ⟨.agg us.toArray, VRel.agg_iff.2 ⟨us.toArray, rfl, hrel⟩, by simp [rvSem, hbv, asAddr, loadVar, run_isAgg' hg, run_sizeOf' hi, hload]⟩
                · cases hb
              · cases h1
          obtain ⟨v, hv, hrv⟩ := key
          refine ⟨v :: vs, .cons hv hvs, ?_⟩
          rw [List.mapM_cons, Sem.run_bind, hrv]
          simp only [Result.andThen_ok, Sem.run_bind, hrun, Sem.run_pure]
    · cases hc
theorem results_run {fn : Func} {as : List AResult} {μ : Inj} {f : Fr} {h : AH} {a : Act} {w : World} (hf : FRel n μ f a) (hR : R N w₀ μ h w) {l : List AV} (hc : cResults P fn.results.toList = some as) (hr : resultsV f h as = some l) :
    ∃ v, VRel μ (tupleV l) v ∧ (results fn a.tmps).run P w = .ok v w := by
  obtain ⟨vs, hvs, hrun⟩ := cResults_run hf hR hc hr
  have e : (results fn a.tmps).run P w = .ok (if h : vs.toArray.size = 1 then vs.toArray[0] else .tuple vs.toArray) w := by
    have hfun : results fn a.tmps = (do let vs ← fn.results.mapM (rvSem a.tmps); pure (if h : vs.size = 1 then vs[0] else .tuple vs)) := rfl
    rw [hfun, Array.mapM_eq_mapM_toList]
    simp only [Sem.run_bind, map_eq_pure_bind, hrun, Result.andThen_ok, Sem.run_pure]
  rw [e]
  refine ⟨_, ?_, rfl⟩
  have hlen := hvs.1
  match l, vs, hlen, hvs with
  | [], [], _, _ => exact .none_undef
  | [x], [y], _, h => exact h.head
  | x :: y :: r, u :: v :: s, hl, h =>
    rw [dif_neg (by simp)]
    exact VRel.tuple_iff.2 ⟨_, rfl, h⟩

/-- The table stands for the program's functions, and what stands in for some is right. -/
structure TabOk (P : Program) (T : Prog) : Prop where
  func : ∀ g af, T.func g = some af → ∃ fn, P.funcs[g]? = some fn ∧ cFunc P fn = some af
  env : ∀ g e, T.env g = some e → ∀ args h r h', e args h = some (r, h') → CSim P g args h r h'

theorem func_ok (hcall : HOk P call) {lf g : Nat} {fn : Func} {af : AFunc} (hg : P.funcs[g]? = some fn) (hc : cFunc P fn = some af) {args : List AV} {h h' : AH} {r : AV} (hr : af.run call lf args h = some (r, h')) : CallOk P g ∧ ASim P g args h r h' := by
  unfold cFunc at hc
  split at hc
  · rename_i c rs hb hrs
    split at hc
    · rename_i hcond
      cases hc
      refine ⟨⟨fn, hg, hcond.2, by simp [hb]⟩, ?_⟩
      intro N w₀ μ w vargs hR hargs
      unfold AFunc.run at hr
      simp only at hr
      split at hr
      · rename_i hlen
        refine calls_of_wp hg hb ?_
        have hfr := args_rel hargs (n := fn.ntmps) (by omega)
        have fin : ∀ (f : Fr) (h2 : AH), ((resultsV f h2 rs).map fun l => (tupleV l, h2)) = some (r, h') → ∀ μ' a' w', Inj.Ext h.next h2.next μ μ' → FRel fn.ntmps μ' f a' → R N w₀ μ' h2 w' →
            a'.defers = [] ∧ ∃ v, (results fn a'.tmps).run P w' = .ok v w' ∧ ∃ μ'' v', Ending.returned v = .returned v' ∧ Inj.Ext h.next h'.next μ μ'' ∧ R N w₀ μ'' h' w' ∧ VRel μ'' r v' := by
          intro f h2 hres μ' a' w' hext hf' hR'
          cases hl : resultsV f h2 rs with
          | none => simp [hl] at hres
          | some l =>
            simp only [hl, Option.map_some, Option.some.injEq, Prod.mk.injEq] at hres
            obtain ⟨rfl, rfl⟩ := hres
            obtain ⟨v, hv, hrun⟩ := results_run hf' hR' hrs hl
            exact ⟨hf'.defers, v, hrun, μ', v, rfl, hext, hR', hv⟩
        cases ha : acode call lf (cCode P fn.ntmps c) (Fr.ofArgs 0 args .nil) h with
        | none => simp [ha] at hr
        | some p =>
          obtain ⟨e, f, h2⟩ := p
          refine wp_mono (code_ok hcall lf c _ _ _ _ e ha N w₀ μ _ w hfr hR) ?_
          rintro e' a' w' ⟨hex, μ', hext, hf', hR'⟩
          cases e with
          | normal =>
            cases e' <;> simp only [ExOk] at hex
            simp only [ha] at hr
            exact fin f h2 hr μ' a' w' hext hf' hR'
          | exit i => simp [ha] at hr
          | ret =>
            cases e' <;> simp only [ExOk] at hex
            simp only [ha] at hr
            exact fin f h2 hr μ' a' w' hext hf' hR'
      · cases hr
    · cases hc
  · cases hc

theorem arun_ok {T : Prog} (hT : TabOk P T) : ∀ k, HOk P (arun T k) := by
  intro k
  induction k with
  | zero => intro g args h r h' hr; cases hr
  | succ k ih =>
    intro g args h r h' hr
    simp only [arun] at hr
    split at hr
    · rename_i e he; exact hT.env g e he args h r h' hr
    · split at hr
      · rename_i af haf
        obtain ⟨fn, h1, h2⟩ := hT.func g af haf
        exact .inl (func_ok ih h1 h2 hr)
      · cases hr
theorem arun_body {T : Prog} (hT : TabOk P T) {k g : Nat} (he : T.env g = none) {args : List AV} {h h' : AH} {r : AV} (hr : arun T k g args h = some (r, h')) : CallOk P g ∧ ASim P g args h r h' := by
  cases k with
  | zero => cases hr
  | succ k =>
    simp only [arun, he] at hr
    split at hr
    · rename_i af haf
      obtain ⟨fn, h1, h2⟩ := hT.func g af haf
      exact func_ok (arun_ok hT k) h1 h2 hr
    · cases hr
end
end Go.Vm

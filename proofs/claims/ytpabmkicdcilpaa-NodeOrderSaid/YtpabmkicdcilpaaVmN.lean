/- Regions in the text's order, code, calls: the machine is sound (but for drawn regions: VmO). -/
import Derived.Test.YtpabmkicdcilpaaVmM
namespace Go.Vm
open Go.RowKit
set_option linter.unusedSimpArgs false
set_option linter.unusedVariables false

/-- The frame. -/
structure FRel (n : Nat) (μ : Inj) (f : Fr) (a : Act) : Prop where
  defers : a.defers = []
  size : a.tmps.size = n
  vals : ORels μ f a
theorem FRel.mono {n : Nat} {μ ν : Inj} (hle : Inj.le μ ν) {f : Fr} {a : Act} (h : FRel n μ f a) : FRel n ν f a := ⟨h.defers, h.size, fun t => (h.vals t).mono hle⟩
theorem FRel.put {n : Nat} {μ : Inj} {f : Fr} {a : Act} (h : FRel n μ f a) {d : Option Nat} (hd : ∀ i, d = some i → i < n) {v : AV} {v' : Value} (hv : VRel μ v v') : FRel n μ (f.put d v) (a.put d v') := by
  cases d with
  | none => exact h
  | some i =>
    have hi := hd i rfl
    refine ⟨h.defers, by simp [Act.put, h.size], fun t => ?_⟩
    rw [Fr.at_put]
    have := h.vals t
    simp only [Act.eval, Act.put] at this ⊢
    by_cases e : i = t
    · subst e
      rw [if_pos rfl]
      simp only [Array.getD_eq_getD_getElem?, Array.getElem?_setIfInBounds_self, h.size, hi, if_true, Option.getD_some]
      exact hv
    · rw [if_neg e]
      simp only [Array.getD_eq_getD_getElem?] at this ⊢
      rw [Array.getElem?_setIfInBounds_ne e]
      exact this
theorem FRel.get {n : Nat} {μ : Inj} {f : Fr} {a : Act} (h : FRel n μ f a) {t : Nat} (ht : t < n) : ∃ v, a.tmps[t]? = some v ∧ VRel μ (f.at t) v := by
  have hlt : t < a.tmps.size := by rw [h.size]; exact ht
  refine ⟨a.tmps[t], Array.getElem?_eq_getElem hlt, ?_⟩
  have := h.vals t
  simp only [Act.eval, Array.getD_eq_getD_getElem?, Array.getElem?_eq_getElem hlt, Option.getD_some] at this
  exact this

/-- What a run of the machine says of a call in the model. -/
def ASim (P : Program) (g : Nat) (args : List AV) (h : AH) (r : AV) (h' : AH) : Prop :=
  ∀ (N : Nat) (w₀ : World) (μ : Inj) (w : World) (vargs : Array Value), R N w₀ μ h w → VRels μ args vargs.toList →
    Calls P g vargs w fun e w' => ∃ μ' v', e = .returned v' ∧ Inj.Ext h.next h'.next μ μ' ∧ R N w₀ μ' h' w' ∧ VRel μ' r v'
/-- The same of a function that the model answers itself. -/
def XSim (P : Program) (g : Nat) (args : List AV) (h : AH) (r : AV) (h' : AH) : Prop :=
  ∀ (N : Nat) (w₀ : World) (μ : Inj) (w : World) (vargs : Array Value), R N w₀ μ h w → VRels μ args vargs.toList →
    ∃ μ' w' v', Inj.Ext h.next h'.next μ μ' ∧ R N w₀ μ' h' w' ∧ VRel μ' r v' ∧ (callFunc g vargs).run P w = .ok (.value v') w'
def CSim (P : Program) (g : Nat) (args : List AV) (h : AH) (r : AV) (h' : AH) : Prop := (CallOk P g ∧ ASim P g args h r h') ∨ XSim P g args h r h'
def HOk (P : Program) (call : Handler) : Prop := ∀ (g : Nat) (args : List AV) (h : AH) (r : AV) (h' : AH), call g args h = some (r, h') → CSim P g args h r h'

section
variable {P : Program}

/-! ### compiling -/
def cGuard (n : Nat) (ops : Array Oper) : Option (Nat × Bool) → Option (Option (Nat × Bool))
  | none => some none
  | some (j, want) => match (ops[j]?).bind (·.dst) with
    | some t => if t < n then some (some (t, want)) else none
    | none => none
def dstOk (n : Nat) : Option Nat → Bool
  | none => true
  | some i => decide (i < n)
def cOper (P : Program) (n : Nat) (ops : Array Oper) (o : Oper) : AOper :=
  match cGuard n ops o.guard, cOp P o.op with
  | some g, some x => if dstOk n o.dst then ⟨o.dst, x, g⟩ else ⟨none, .stuck, none⟩
  | _, _ => ⟨none, .stuck, none⟩
theorem cOper_stuck {call : Handler} {f : Fr} {h : AH} : (⟨none, .stuck, none⟩ : AOper).run call f h = none := rfl
theorem cOper_inv {n : Nat} {ops : Array Oper} {o : Oper} {call : Handler} {f : Fr} {h : AH} {res : Fr × AH} (hr : (cOper P n ops o).run call f h = some res) :
    ∃ g x, cGuard n ops o.guard = some g ∧ cOp P o.op = some x ∧ (∀ i, o.dst = some i → i < n) ∧ cOper P n ops o = ⟨o.dst, x, g⟩ := by
  unfold cOper at hr ⊢
  split at hr
  · rename_i g x hg hx
    split at hr
    · rename_i hd
      refine ⟨g, x, hg, hx, fun i hi => ?_, by simp [hd]⟩
      rw [hi] at hd
      simpa [dstOk] using hd
    · cases hr
  · cases hr
theorem wanted_rel {n : Nat} {ops : Array Oper} {o : Oper} {g : Option (Nat × Bool)} (hg : cGuard n ops o.guard = some g) {μ : Inj} {f : Fr} {a : Act} (hf : FRel n μ f a) {b : Bool} (hb : wantedV f g = some b) :
    Region.wanted o (yielded ops a.tmps) = b := by
  unfold Region.wanted
  cases hgo : o.guard with
  | none =>
    rw [hgo] at hg
    cases hg
    simp [wantedV] at hb
    exact hb.symm
  | some jw =>
    obtain ⟨j, want⟩ := jw
    rw [hgo] at hg
    simp only [cGuard] at hg
    split at hg
    · rename_i t ht
      split at hg
      · rename_i hlt
        cases hg
        obtain ⟨v, hv, hvr⟩ := hf.get hlt
        have hy : yielded ops a.tmps j = match v with | .bool b => some b | _ => none := by
          unfold yielded
          rw [ht]
          simp only [Option.bind_some, hv]
          cases v <;> rfl
        simp only [wantedV] at hb
        split at hb
        · rename_i b' hfb
          cases hb
          rw [hfb] at hvr
          have := hvr.bool_inv
          subst this
          simp only [hy]
          cases b' <;> cases want <;> rfl
        · rename_i l hfb
          cases hb
          rw [hfb] at hvr
          obtain ⟨l', hl', _⟩ := VRel.tuple_iff.1 hvr
          subst hl'
          simp only [hy]
          rfl
        · cases hb
      · cases hg
    · cases hg

/-- One operation, in place. -/
theorem oper_wp {call : Handler} (hcall : HOk P call) {n : Nat} {ops : Array Oper} {o : Oper} {f f' : Fr} {h h' : AH} (hr : (cOper P n ops o).run call f h = some (f', h')) {N : Nat} {w₀ : World} {μ : Inj} {a : Act} {w : World}
    (hf : FRel n μ f a) (hR : R N w₀ μ h w) {K : Act → World → Prop} {Q : Exit → Act → World → Prop} (hK : ∀ μ' a' w', Inj.Ext h.next h'.next μ μ' → FRel n μ' f' a' → R N w₀ μ' h' w' → K a' w') :
    (if Region.wanted o (yielded ops a.tmps) then o.wp P a w K Q ∨ (o.asks P a w ∧ LetsOut Q) else K (a.put o.dst undef) w) := by
  obtain ⟨g, x, hg, hx, hd, he⟩ := cOper_inv hr
  rw [he] at hr
  unfold AOper.run at hr
  simp only at hr
  cases hb : wantedV f g with
  | none => simp [hb] at hr
  | some b =>
    rw [wanted_rel hg hf hb]
    cases b
    · simp only [hb, Option.some.injEq, Prod.mk.injEq] at hr
      obtain ⟨rfl, rfl⟩ := hr
      simp only [Bool.false_eq_true, if_false]
      exact hK μ _ w (.refl (Nat.le_refl _)) (hf.put hd .none_undef) hR
    · simp only [if_true]
      refine .inl ?_
      simp only [hb] at hr
      cases hev : x.eval f h with
      | none => simp [hev] at hr
      | some res =>
        have hok := (cOp_ok hx).ok N w₀ μ h w f a res hR hf.vals hev
        cases res with
        | val v h2 =>
          simp only [hev, Option.some.injEq, Prod.mk.injEq] at hr
          obtain ⟨rfl, rfl⟩ := hr
          obtain ⟨μ', w', v', hle, hR', hv, hrun⟩ := hok
          unfold Oper.wp
          rcases hrun with hrun | ⟨hrun, rfl⟩
          · rw [hrun, Oper.upon_value]
            exact hK μ' _ w' hle ((hf.mono hle.le).put hd hv) hR'
          · rw [hrun, Oper.upon_skip]
            exact hK μ' _ w' hle ((hf.mono hle.le).put hd hv) hR'
        | call g2 args =>
          simp only [hev] at hr
          cases hc : call g2 args h with
          | none => simp [hc] at hr
          | some p =>
            obtain ⟨r, h2⟩ := p
            simp only [hc, Option.map_some, Option.some.injEq, Prod.mk.injEq] at hr
            obtain ⟨rfl, rfl⟩ := hr
            obtain ⟨args', hrun, hargs⟩ := hok
            unfold Oper.wp
            rcases hcall _ _ _ _ _ hc with ⟨hco, hsim⟩ | hsim
            · rw [hrun, run_callFunc hco, Oper.upon_enter]
              refine (hsim N w₀ μ w args' hR hargs).mono ?_
              rintro e w' ⟨μ', v', rfl, hle, hR', hv⟩
              exact hK μ' _ w' hle ((hf.mono hle.le).put hd hv) hR'
            · obtain ⟨μ', w', v', hle, hR', hv, hx⟩ := hsim N w₀ μ w args' hR hargs
              rw [hrun, hx, Oper.upon_value]
              exact hK μ' _ w' hle ((hf.mono hle.le).put hd hv) hR'

/-- A region in the text's order. -/
theorem ops_wp {call : Handler} (hcall : HOk P call) {n : Nat} {ops : Array Oper} {N : Nat} {w₀ : World} {Q : Exit → Act → World → Prop} : ∀ (k i : Nat) (f f' : Fr) (h h' : AH) (μ : Inj) (a : Act) (w : World), i + k = ops.size →
    runOps call ((ops.toList.drop i).map (cOper P n ops)) f h = some (f', h') → FRel n μ f a → R N w₀ μ h w → (∀ μ' a' w', Inj.Ext h.next h'.next μ μ' → FRel n μ' f' a' → R N w₀ μ' h' w' → Q .normal a' w') →
    wpOps P ops Q (List.range' i k) a w
  | 0, i, f, f', h, h', μ, a, w, hik, hr, hf, hR, hQ => by
    rw [List.drop_eq_nil_of_le (by simp; omega)] at hr
    cases hr
    exact hQ μ a w (.refl (Nat.le_refl _)) hf hR
  | k + 1, i, f, f', h, h', μ, a, w, hik, hr, hf, hR, hQ => by
    have hi : i < ops.toList.length := by simp; omega
    obtain ⟨oi, hoi'⟩ : ∃ oi, ops.toList[i] = oi := ⟨_, rfl⟩
    rw [List.drop_eq_getElem_cons hi, List.map_cons, hoi'] at hr
    have hoi : ops[i]? = some oi := by rw [← Array.getElem?_toList, ← hoi']; exact List.getElem?_eq_getElem hi
    rw [List.range'_succ]
    simp only [wpOps, hoi]
    simp only [runOps] at hr
    cases h1 : (cOper P n ops oi).run call f h with
    | none => simp [h1] at hr
    | some p =>
      obtain ⟨f1, h1'⟩ := p
      simp only [h1] at hr
      exact oper_wp hcall h1 hf hR fun μ' a' w' hle hf' hR' => ops_wp hcall k (i + 1) f1 f' h1' h' μ' a' w' (by omega) hr hf' hR' fun μ2 a2 w2 hle2 => hQ μ2 a2 w2 (hle.trans hle2)
end
end Go.Vm

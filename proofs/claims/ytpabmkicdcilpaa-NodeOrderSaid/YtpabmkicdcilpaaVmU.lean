/- The machine without fuel: what a run comes to in the limit, and the equations it satisfies. -/
import Derived.Test.YtpabmkicdcilpaaVmT
namespace Go.Vm
open Go.RowKit
set_option linter.unusedSimpArgs false
set_option linter.unusedVariables false

/-! ### more fuel, the same -/
def Handler.le (a b : Handler) : Prop := ∀ g args h r, a g args h = some r → b g args h = some r
theorem oper_mono {a b : Handler} (hab : a.le b) {o : AOper} {f : Fr} {h : AH} {r : Fr × AH} (hr : o.run a f h = some r) : o.run b f h = some r := by
  unfold AOper.run at *
  cases hw : wantedV f o.guard with
  | none => simp [hw] at hr
  | some t =>
    cases t
    · simpa [hw] using hr
    · simp only [hw] at hr ⊢
      cases he : o.op.eval f h with
      | none => simp [he] at hr
      | some res =>
        cases res with
        | val v h2 => simpa [he] using hr
        | call g args =>
          simp only [he] at hr ⊢
          cases hc : a g args h with
          | none => simp [hc] at hr
          | some p => rw [hab _ _ _ _ hc]; simpa [hc] using hr
theorem runOps_mono {a b : Handler} (hab : a.le b) : ∀ {l : List AOper} {f : Fr} {h : AH} {r : Fr × AH}, runOps a l f h = some r → runOps b l f h = some r
  | [], _, _, _, hr => hr
  | o :: l, f, h, r, hr => by
    simp only [runOps] at hr ⊢
    cases hc : o.run a f h with
    | none => simp [hc] at hr
    | some p => rw [oper_mono hab hc]; simp only [hc] at hr; exact runOps_mono hab hr
theorem runItems_mono {a b : Handler} (hab : a.le b) : ∀ {l : List DItem} {f : Fr} {h : AH} {r : Fr × AH}, runItems a l f h = some r → runItems b l f h = some r
  | [], _, _, _, hr => hr
  | .op o :: l, f, h, r, hr => by
    simp only [runItems] at hr ⊢
    cases hc : o.run a f h with
    | none => simp [hc] at hr
    | some p => rw [oper_mono hab hc]; simp only [hc] at hr; exact runItems_mono hab hr
  | .look o :: l, f, h, r, hr => by
    simp only [runItems] at hr ⊢
    split at hr
    · rw [if_pos ‹_›]; exact runItems_mono hab hr
    · cases hr
theorem aloop_mono {p q : Fr → AH → Out} (hpq : ∀ f h r, p f h = some r → q f h = some r) : ∀ {n m : Nat}, n ≤ m → ∀ {f : Fr} {h : AH} {r : AExit × Fr × AH}, aloop p n f h = some r → aloop q m f h = some r
  | 0, _, _, _, _, _, hr => by cases hr
  | n + 1, 0, hnm, _, _, _, _ => by omega
  | n + 1, m + 1, hnm, f, h, r, hr => by
    simp only [aloop] at hr ⊢
    cases hc : p f h with
    | none => simp [hc] at hr
    | some x =>
      obtain ⟨e, f', h'⟩ := x
      rw [hpq _ _ _ hc]
      cases e with
      | normal => simp only [hc] at hr ⊢; exact aloop_mono hpq (by omega) hr
      | exit i => simpa [hc] using hr
      | ret => simpa [hc] using hr
theorem acode_mono {a b : Handler} (hab : a.le b) {n m : Nat} (hnm : n ≤ m) : ∀ {c : ACode} {f : Fr} {h : AH} {r : AExit × Fr × AH}, acode a n c f h = some r → acode b m c f h = some r := by
  intro c
  induction c with
  | skip => intro f h r hr; exact hr
  | ops l =>
    intro f h r hr
    simp only [acode] at hr ⊢
    cases hc : runOps a l f h with
    | none => simp [hc] at hr
    | some p => rw [runOps_mono hab hc]; simpa [hc] using hr
  | draw l =>
    intro f h r hr
    simp only [acode] at hr ⊢
    cases hc : runItems a l f h with
    | none => simp [hc] at hr
    | some p => rw [runItems_mono hab hc]; simpa [hc] using hr
  | seq x y ihx ihy =>
    intro f h r hr
    simp only [acode] at hr ⊢
    cases hc : acode a n x f h with
    | none => simp [hc] at hr
    | some p =>
      obtain ⟨e, f', h'⟩ := p
      rw [ihx hc]
      cases e with
      | normal => simp only [hc] at hr ⊢; exact ihy hr
      | exit i => simpa [hc] using hr
      | ret => simpa [hc] using hr
  | cond c x y ihx ihy =>
    intro f h r hr
    simp only [acode] at hr ⊢
    split at hr
    · exact ihx hr
    · exact ihy hr
    · cases hr
  | block id c ih =>
    intro f h r hr
    simp only [acode] at hr ⊢
    cases hc : acode a n c f h with
    | none => simp [hc] at hr
    | some p => rw [ih hc]; simpa [hc] using hr
  | loop c ih =>
    intro f h r hr
    simp only [acode] at hr ⊢
    exact aloop_mono (fun f h r hr => ih hr) hnm hr
  | exit id => intro f h r hr; exact hr
  | ret => intro f h r hr; exact hr
  | stuck => intro f h r hr; cases hr
theorem func_mono {a b : Handler} (hab : a.le b) {n m : Nat} (hnm : n ≤ m) {fn : AFunc} {args : List AV} {h : AH} {r : AV × AH} (hr : fn.run a n args h = some r) : fn.run b m args h = some r := by
  unfold AFunc.run at *
  split at hr
  · rename_i hl
    rw [if_pos hl]
    cases hc : acode a n fn.body (Fr.ofArgs 0 args .nil) h with
    | none => simp [hc] at hr
    | some p => rw [acode_mono hab hnm hc]; simpa [hc] using hr
  · cases hr
theorem arun_mono {T : Prog} : ∀ {n m : Nat}, n ≤ m → Handler.le (arun T n) (arun T m)
  | 0, _, _ => by intro g args h r hr; cases hr
  | n + 1, 0, h => by omega
  | n + 1, m + 1, hnm => by
    intro g args h r hr
    simp only [arun] at hr ⊢
    split at hr
    · exact hr
    · split at hr
      · exact func_mono (arun_mono (by omega)) hnm hr
      · cases hr

/-! ### the limit -/
open Classical in
/-- What a family of results that only grows comes to. -/
noncomputable def lim {α : Type} (p : Nat → Option α) : Option α := if h : ∃ n r, p n = some r then some h.choose_spec.choose else none
def Grows {α : Type} (p : Nat → Option α) : Prop := ∀ n m r, n ≤ m → p n = some r → p m = some r
theorem lim_iff {α : Type} {p : Nat → Option α} (hp : Grows p) {r : α} : lim p = some r ↔ ∃ n, p n = some r := by
  unfold lim
  constructor
  · intro h
    split at h
    · rename_i hx
      exact ⟨_, h ▸ hx.choose_spec.choose_spec⟩
    · cases h
  · rintro ⟨n, hn⟩
    have hx : ∃ n r, p n = some r := ⟨n, r, hn⟩
    rw [dif_pos hx]
    have h1 := hx.choose_spec.choose_spec
    have h2 := hp _ _ _ (Nat.le_max_left hx.choose n) h1
    have h3 := hp _ _ _ (Nat.le_max_right hx.choose n) hn
    rw [h2] at h3
    exact h3
theorem lim_none {α : Type} {p : Nat → Option α} (h : ∀ n, p n = none) : lim p = none := by
  unfold lim
  rw [dif_neg]
  rintro ⟨n, r, hr⟩
  rw [h] at hr
  cases hr

noncomputable def run (T : Prog) : Handler := fun g args h => lim fun k => arun T k g args h
theorem run_iff {T : Prog} {g : Nat} {args : List AV} {h : AH} {r : AV × AH} : run T g args h = some r ↔ ∃ k, arun T k g args h = some r :=
  lim_iff fun n m r hnm hr => arun_mono hnm _ _ _ _ hr
theorem arun_le_run (T : Prog) (k : Nat) : Handler.le (arun T k) (run T) := fun g args h r hr => run_iff.2 ⟨k, hr⟩

/-- A finite run asks for finitely many. -/
theorem oper_cont {T : Prog} {o : AOper} {f : Fr} {h : AH} {r : Fr × AH} (hr : o.run (run T) f h = some r) : ∃ k, o.run (arun T k) f h = some r := by
  unfold AOper.run at *
  cases hw : wantedV f o.guard with
  | none => simp [hw] at hr
  | some t =>
    cases t
    · exact ⟨0, by simpa [hw] using hr⟩
    · simp only [hw] at hr ⊢
      cases he : o.op.eval f h with
      | none => simp [he] at hr
      | some res =>
        cases res with
        | val v h2 => exact ⟨0, by simpa [he] using hr⟩
        | call g args =>
          simp only [he] at hr ⊢
          cases hc : run T g args h with
          | none => simp [hc] at hr
          | some p =>
            obtain ⟨k, hk⟩ := run_iff.1 hc
            exact ⟨k, by rw [hk]; simpa [hc] using hr⟩
theorem runOps_cont {T : Prog} : ∀ {l : List AOper} {f : Fr} {h : AH} {r : Fr × AH}, runOps (run T) l f h = some r → ∃ k, runOps (arun T k) l f h = some r
  | [], _, _, _, hr => ⟨0, hr⟩
  | o :: l, f, h, r, hr => by
    simp only [runOps] at hr ⊢
    cases hc : o.run (run T) f h with
    | none => simp [hc] at hr
    | some p =>
      simp only [hc] at hr
      obtain ⟨k1, h1⟩ := oper_cont hc
      obtain ⟨k2, h2⟩ := runOps_cont hr
      refine ⟨max k1 k2, ?_⟩
      rw [oper_mono (arun_mono (Nat.le_max_left k1 k2)) h1]
      exact runOps_mono (arun_mono (Nat.le_max_right k1 k2)) h2
theorem runItems_cont {T : Prog} : ∀ {l : List DItem} {f : Fr} {h : AH} {r : Fr × AH}, runItems (run T) l f h = some r → ∃ k, runItems (arun T k) l f h = some r
  | [], _, _, _, hr => ⟨0, hr⟩
  | .op o :: l, f, h, r, hr => by
    simp only [runItems] at hr ⊢
    cases hc : o.run (run T) f h with
    | none => simp [hc] at hr
    | some p =>
      simp only [hc] at hr
      obtain ⟨k1, h1⟩ := oper_cont hc
      obtain ⟨k2, h2⟩ := runItems_cont hr
      refine ⟨max k1 k2, ?_⟩
      rw [oper_mono (arun_mono (Nat.le_max_left k1 k2)) h1]
      exact runItems_mono (arun_mono (Nat.le_max_right k1 k2)) h2
  | .look o :: l, f, h, r, hr => by
    simp only [runItems] at hr ⊢
    split at hr
    · rename_i hl
      simp only [hl, if_true]
      exact runItems_cont hr
    · cases hr
theorem aloop_cont {T : Prog} {lf : Nat} {c : ACode} (ih : ∀ (f : Fr) (h : AH) (r : AExit × Fr × AH), acode (run T) lf c f h = some r → ∃ k, acode (arun T k) lf c f h = some r) :
    ∀ {n : Nat} {f : Fr} {h : AH} {r : AExit × Fr × AH}, aloop (acode (run T) lf c) n f h = some r → ∃ k, aloop (acode (arun T k) lf c) n f h = some r
  | 0, _, _, _, hr => by cases hr
  | n + 1, f, h, r, hr => by
    simp only [aloop] at hr ⊢
    cases hc : acode (run T) lf c f h with
    | none => simp [hc] at hr
    | some x =>
      obtain ⟨e, f', h'⟩ := x
      obtain ⟨k1, h1⟩ := ih _ _ _ hc
      cases e with
      | normal =>
        simp only [hc] at hr
        obtain ⟨k2, h2⟩ := aloop_cont ih hr
        refine ⟨max k1 k2, ?_⟩
        rw [acode_mono (arun_mono (Nat.le_max_left k1 k2)) (Nat.le_refl _) h1]
        exact aloop_mono (fun f h r hr => acode_mono (arun_mono (Nat.le_max_right k1 k2)) (Nat.le_refl _) hr) (Nat.le_refl _) h2
      | exit i => exact ⟨k1, by rw [h1]; simpa [hc] using hr⟩
      | ret => exact ⟨k1, by rw [h1]; simpa [hc] using hr⟩
theorem acode_cont {T : Prog} {lf : Nat} : ∀ {c : ACode} {f : Fr} {h : AH} {r : AExit × Fr × AH}, acode (run T) lf c f h = some r → ∃ k, acode (arun T k) lf c f h = some r := by
  intro c
  induction c with
  | skip => intro f h r hr; exact ⟨0, hr⟩
  | ops l =>
    intro f h r hr
    simp only [acode] at hr ⊢
    cases hc : runOps (run T) l f h with
    | none => simp [hc] at hr
    | some p => obtain ⟨k, hk⟩ := runOps_cont hc; exact ⟨k, by rw [hk]; simpa [hc] using hr⟩
  | draw l =>
    intro f h r hr
    simp only [acode] at hr ⊢
    cases hc : runItems (run T) l f h with
    | none => simp [hc] at hr
    | some p => obtain ⟨k, hk⟩ := runItems_cont hc; exact ⟨k, by rw [hk]; simpa [hc] using hr⟩
  | seq x y ihx ihy =>
    intro f h r hr
    simp only [acode] at hr ⊢
    cases hc : acode (run T) lf x f h with
    | none => simp [hc] at hr
    | some p =>
      obtain ⟨e, f', h'⟩ := p
      obtain ⟨k1, h1⟩ := ihx hc
      cases e with
      | normal =>
        simp only [hc] at hr
        obtain ⟨k2, h2⟩ := ihy hr
        refine ⟨max k1 k2, ?_⟩
        rw [acode_mono (arun_mono (Nat.le_max_left k1 k2)) (Nat.le_refl _) h1]
        exact acode_mono (arun_mono (Nat.le_max_right k1 k2)) (Nat.le_refl _) h2
      | exit i => exact ⟨k1, by rw [h1]; simpa [hc] using hr⟩
      | ret => exact ⟨k1, by rw [h1]; simpa [hc] using hr⟩
  | cond c x y ihx ihy =>
    intro f h r hr
    simp only [acode] at hr ⊢
    split at hr
    · exact ihx hr
    · exact ihy hr
    · cases hr
  | block id c ih =>
    intro f h r hr
    simp only [acode] at hr ⊢
    cases hc : acode (run T) lf c f h with
    | none => simp [hc] at hr
    | some p => obtain ⟨k, hk⟩ := ih hc; exact ⟨k, by rw [hk]; simpa [hc] using hr⟩
  | loop c ih =>
    intro f h r hr
    simp only [acode] at hr ⊢
    exact aloop_cont (fun f h r hr => ih hr) hr
  | exit id => intro f h r hr; exact ⟨0, hr⟩
  | ret => intro f h r hr; exact ⟨0, hr⟩
  | stuck => intro f h r hr; cases hr

/-! ### code in the limit -/
noncomputable def code (T : Prog) (c : ACode) (f : Fr) (h : AH) : Out := lim fun n => acode (run T) n c f h
theorem code_iff {T : Prog} {c : ACode} {f : Fr} {h : AH} {r : AExit × Fr × AH} : code T c f h = some r ↔ ∃ n, acode (run T) n c f h = some r :=
  lim_iff fun n m r hnm hr => acode_mono (fun _ _ _ _ h => h) hnm hr
theorem opt_ext {α : Type} {x y : Option α} (h : ∀ r, x = some r ↔ y = some r) : x = y := by
  cases x with
  | none =>
    cases y with
    | none => rfl
    | some b => exact absurd ((h b).2 rfl) (by simp)
  | some a => exact ((h a).1 rfl).symm

section
variable {T : Prog} {f : Fr} {h : AH}
theorem code_skip : code T .skip f h = some (.normal, f, h) := code_iff.2 ⟨0, rfl⟩
theorem code_exit {id : Nat} : code T (.exit id) f h = some (.exit id, f, h) := code_iff.2 ⟨0, rfl⟩
theorem code_ret : code T .ret f h = some (.ret, f, h) := code_iff.2 ⟨0, rfl⟩
theorem code_stuck : code T .stuck f h = none := lim_none fun _ => rfl
theorem code_ops {l : List AOper} : code T (.ops l) f h = (runOps (run T) l f h).map fun p => (.normal, p.1, p.2) := by
  apply opt_ext; intro r; rw [code_iff]
  exact ⟨fun ⟨_, h⟩ => h, fun h => ⟨0, h⟩⟩
theorem code_draw {l : List DItem} : code T (.draw l) f h = (runItems (run T) l f h).map fun p => (.normal, p.1, p.2) := by
  apply opt_ext; intro r; rw [code_iff]
  exact ⟨fun ⟨_, h⟩ => h, fun h => ⟨0, h⟩⟩
/-- Go on from a normal end. -/
def thenN (r : Out) (k : Fr → AH → Out) : Out :=
  match r with
  | some (.normal, f, h) => k f h
  | r => r
theorem thenN_normal {k : Fr → AH → Out} : thenN (some (.normal, f, h)) k = k f h := rfl
theorem thenN_exit {id : Nat} {k : Fr → AH → Out} : thenN (some (.exit id, f, h)) k = some (.exit id, f, h) := rfl
theorem thenN_ret {k : Fr → AH → Out} : thenN (some (.ret, f, h)) k = some (.ret, f, h) := rfl
theorem code_seq {a b : ACode} : code T (.seq a b) f h = thenN (code T a f h) fun f h => code T b f h := by
  apply opt_ext; intro r; rw [code_iff]
  constructor
  · rintro ⟨n, hn⟩
    simp only [acode] at hn
    cases hc : acode (run T) n a f h with
    | none => simp [hc] at hn
    | some p =>
      obtain ⟨e, f', h'⟩ := p
      rw [code_iff.2 ⟨n, hc⟩]
      cases e with
      | normal => simp only [hc] at hn; exact code_iff.2 ⟨n, hn⟩
      | exit i => simpa [hc, thenN] using hn
      | ret => simpa [hc, thenN] using hn
  · intro hr
    cases hc : code T a f h with
    | none => rw [hc] at hr; cases hr
    | some p =>
      obtain ⟨e, f', h'⟩ := p
      rw [hc] at hr
      obtain ⟨n, hn⟩ := code_iff.1 hc
      cases e with
      | normal =>
        obtain ⟨m, hm⟩ := code_iff.1 (show code T b f' h' = some r from hr)
        refine ⟨max n m, ?_⟩
        simp only [acode]
        rw [acode_mono (fun _ _ _ _ h => h) (Nat.le_max_left n m) hn]
        exact acode_mono (fun _ _ _ _ h => h) (Nat.le_max_right n m) hm
      | exit i => exact ⟨n, by simp only [acode, hn]; exact hr⟩
      | ret => exact ⟨n, by simp only [acode, hn]; exact hr⟩
/-- A branch. -/
def condV (v : AV) (a b : Out) : Out :=
  match v with
  | .bool true => a
  | .bool false => b
  | _ => none
theorem condV_bool {t : Bool} {a b : Out} : condV (.bool t) a b = if t = true then a else b := by cases t <;> rfl
theorem code_cond {c : AOpd} {a b : ACode} : code T (.cond c a b) f h = condV (c.val f) (code T a f h) (code T b f h) := by
  apply opt_ext; intro r; rw [code_iff]
  simp only [acode]
  generalize c.val f = v
  cases v with
  | bool t => cases t <;> exact code_iff.symm
  | _ => simp [condV]
/-- The end of a block. -/
def leave (id : Nat) (r : Out) : Out :=
  match r with
  | some (.exit i, f, h) => some (if i = id then .normal else .exit i, f, h)
  | r => r
theorem leave_normal {id : Nat} : leave id (some (.normal, f, h)) = some (.normal, f, h) := rfl
theorem leave_ret {id : Nat} : leave id (some (.ret, f, h)) = some (.ret, f, h) := rfl
theorem leave_exit {id i : Nat} : leave id (some (.exit i, f, h)) = some (if i = id then .normal else .exit i, f, h) := rfl
theorem code_block {id : Nat} {c : ACode} : code T (.block id c) f h = leave id (code T c f h) := by
  apply opt_ext; intro r; rw [code_iff]
  constructor
  · rintro ⟨n, hn⟩
    simp only [acode] at hn
    cases hc : acode (run T) n c f h with
    | none => simp [hc] at hn
    | some p => rw [code_iff.2 ⟨n, hc⟩]; rw [hc] at hn; exact hn
  · intro hr
    cases hc : code T c f h with
    | none => rw [hc] at hr; cases hr
    | some p =>
      rw [hc] at hr
      obtain ⟨n, hn⟩ := code_iff.1 hc
      exact ⟨n, by simp only [acode, hn]; exact hr⟩
theorem code_loop {c : ACode} : code T (.loop c) f h = thenN (code T c f h) fun f h => code T (.loop c) f h := by
  apply opt_ext; intro r; rw [code_iff]
  constructor
  · rintro ⟨n, hn⟩
    simp only [acode] at hn
    cases n with
    | zero => cases hn
    | succ n =>
      simp only [aloop] at hn
      cases hc : acode (run T) (n + 1) c f h with
      | none => simp [hc] at hn
      | some p =>
        obtain ⟨e, f', h'⟩ := p
        rw [code_iff.2 ⟨n + 1, hc⟩]
        cases e with
        | normal =>
          simp only [hc] at hn
          refine code_iff.2 ⟨n + 1, ?_⟩
          simp only [acode]
          exact aloop_mono (fun _ _ _ h => h) (by omega) hn
        | exit i => simpa [hc, thenN] using hn
        | ret => simpa [hc, thenN] using hn
  · intro hr
    cases hc : code T c f h with
    | none => rw [hc] at hr; cases hr
    | some p =>
      obtain ⟨e, f', h'⟩ := p
      rw [hc] at hr
      obtain ⟨n, hn⟩ := code_iff.1 hc
      cases e with
      | normal =>
        obtain ⟨m, hm⟩ := code_iff.1 (show code T (.loop c) f' h' = some r from hr)
        refine ⟨max n m + 1, ?_⟩
        simp only [acode, aloop]
        rw [acode_mono (fun _ _ _ _ h => h) (by omega) hn]
        simp only [acode] at hm
        exact aloop_mono (fun f h r hr => acode_mono (fun _ _ _ _ h => h) (by omega) hr) (by omega) hm
      | exit i => exact ⟨n + 1, by simp only [acode, aloop]; rw [acode_mono (fun _ _ _ _ h => h) (Nat.le_succ n) hn]; exact hr⟩
      | ret => exact ⟨n + 1, by simp only [acode, aloop]; rw [acode_mono (fun _ _ _ _ h => h) (Nat.le_succ n) hn]; exact hr⟩

/-- A call's end. -/
def finish (rs : List AResult) (r : Out) : Option (AV × AH) :=
  match r with
  | some (.normal, f, h) => (resultsV f h rs).map fun l => (tupleV l, h)
  | some (.ret, f, h) => (resultsV f h rs).map fun l => (tupleV l, h)
  | _ => none
theorem finish_ret {rs : List AResult} : finish rs (some (.ret, f, h)) = (resultsV f h rs).map fun l => (tupleV l, h) := rfl
theorem finish_normal {rs : List AResult} : finish rs (some (.normal, f, h)) = (resultsV f h rs).map fun l => (tupleV l, h) := rfl
theorem run_func {g : Nat} {fn : AFunc} {args : List AV} (he : T.env g = none) (hf : T.func g = some fn) (hl : args.length = fn.nargs) : run T g args h = finish fn.results (code T fn.body (Fr.ofArgs 0 args .nil) h) := by
  have hfin : ∀ (o : Out), (match o with
      | some (.normal, f, h') => (resultsV f h' fn.results).map fun l => (tupleV l, h')
      | some (.ret, f, h') => (resultsV f h' fn.results).map fun l => (tupleV l, h')
      | _ => none) = finish fn.results o := by
    intro o
    unfold finish
    split <;> rfl
  apply opt_ext; intro r; rw [run_iff]
  constructor
  · rintro ⟨k, hk⟩
    cases k with
    | zero => cases hk
    | succ k =>
      simp only [arun, he, hf, AFunc.run, if_pos hl] at hk
      have hk2 : finish fn.results (acode (arun T k) (k + 1) fn.body (Fr.ofArgs 0 args .nil) h) = some r := (hfin _).symm.trans hk
      cases hc : acode (arun T k) (k + 1) fn.body (Fr.ofArgs 0 args .nil) h with
      | none => rw [hc] at hk2; cases hk2
      | some p =>
        rw [code_iff.2 ⟨k + 1, acode_mono (arun_le_run T k) (Nat.le_refl _) hc⟩]
        rw [hc] at hk2
        exact hk2
  · intro hr
    cases hc : code T fn.body (Fr.ofArgs 0 args .nil) h with
    | none => rw [hc] at hr; cases hr
    | some p =>
      rw [hc] at hr
      obtain ⟨n, hn⟩ := code_iff.1 hc
      obtain ⟨k, hk⟩ := acode_cont hn
      refine ⟨max n k + 1, ?_⟩
      simp only [arun, he, hf, AFunc.run, if_pos hl]
      refine (hfin _).trans ?_
      rw [acode_mono (arun_mono (Nat.le_max_right n k)) (by omega) hk]
      exact hr
theorem run_env {g : Nat} {e : List AV → AH → Option (AV × AH)} {args : List AV} (he : T.env g = some e) : run T g args h = e args h := by
  apply opt_ext; intro r; rw [run_iff]
  constructor
  · rintro ⟨k, hk⟩
    cases k with
    | zero => cases hk
    | succ k => simpa [arun, he] using hk
  · intro hr
    exact ⟨1, by simpa [arun, he] using hr⟩
end

theorem run_ok {P : Program} {T : Prog} (hT : TabOk P T) : HOk P (run T) := by
  intro g args h r h' hr
  obtain ⟨k, hk⟩ := run_iff.1 hr
  exact arun_ok hT k g args h r h' hk
theorem run_body {P : Program} {T : Prog} (hT : TabOk P T) {g : Nat} (he : T.env g = none) {args : List AV} {h h' : AH} {r : AV} (hr : run T g args h = some (r, h')) : CallOk P g ∧ ASim P g args h r h' := by
  obtain ⟨k, hk⟩ := run_iff.1 hr
  exact arun_body hT he hk
end Go.Vm

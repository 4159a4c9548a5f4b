/- Regions whose order is drawn: operations and second looks behind a test. -/
import Derived.Test.YtpabmkicdcilpaaVmZh
namespace Go.Vm
open Go.RowKit
set_option linter.unusedSimpArgs false
set_option linter.unusedVariables false
section
variable {call : Handler} {f : Fr} {h : AH} {T : Prog}
theorem items_test {d : Option Nat} {o : AOp} {t : Nat} {w : Bool} {r : List DItem} : runItems call (.op ⟨d, o, some (t, w)⟩ :: r) f h = (guardB (f.at t) w (stepV call o f h) h).bind (restI call r d f) := by
  have h1 := ops_test (call := call) (f := f) (h := h) (d := d) (o := o) (t := t) (w := w) (r := [])
  simp only [runOps] at h1
  simp only [runItems]
  cases ho : AOper.run call ⟨d, o, some (t, w)⟩ f h with
  | none =>
    rw [ho] at h1
    cases hs : guardB (f.at t) w (stepV call o f h) h with
    | none => rfl
    | some p => rw [hs] at h1; cases h1
  | some p =>
    rw [ho] at h1
    cases hs : guardB (f.at t) w (stepV call o f h) h with
    | none => rw [hs] at h1; cases h1
    | some q =>
      rw [hs] at h1
      have h2 : p = (f.put d q.1, q.2) := by
        simp only [Option.bind_some, rest, runOps] at h1
        exact Option.some.inj h1
      subst h2
      rfl
/-- A second look whose test says no. -/
theorem look_skip {d t : Nat} {o : AOp} {w : Bool} (hf : f.at t = .bool (!w)) (hd : f.at d = .none) : AOper.lookAgain ⟨some d, o, some (t, w)⟩ f h = true := by
  unfold AOper.lookAgain
  have : wantedV f (some (t, w)) = some false := by simp [wantedV, hf]
  simp only [this, hd]
  unfold AV.beq; simp [AV.beqs]
/-- A second look whose test says yes. -/
theorem look_want {d t : Nat} {o : AOp} {w : Bool} (hf : f.at t = .bool w) (hl : AOper.lookAgain ⟨some d, o, none⟩ f h = true) : AOper.lookAgain ⟨some d, o, some (t, w)⟩ f h = true := by
  unfold AOper.lookAgain at *
  have : wantedV f (some (t, w)) = some true := by simp [wantedV, hf]
  simp only [this]
  simpa [wantedV] using hl
/-- A second look at what was a value of values alone. -/
theorem look_val {d : Nat} {o : AOp} {v : AV} (hl : AOp.eval f h o = some (.val v h)) (hd : f.at d = v) (hv : AV.beq v v = true) : AOper.lookAgain ⟨some d, o, none⟩ f h = true := by
  unfold AOper.lookAgain
  simp [wantedV, hl, hd, hv]
/-! ### resources beside other objects -/
theorem Res.set {φ : AH → Prop} {F : Nat → Prop} (r : Res φ F h) {p : Nat} (hp : ¬ F p) (x : AObj) : Res φ F (h.set p x) :=
  r.frame (G := fun o => o = p) ⟨Nat.le_refl _, fun o _ hn => by rw [AH.get_set, if_neg (fun e => hn e.symm)]⟩ fun o ho e => hp (e ▸ ho)
theorem Res.new {φ : AH → Prop} {F : Nat → Prop} (r : Res φ F h) (x : AObj) : Res φ F (h.new x) := r.quiet ((Quiet.refl h).new x)
theorem Res.not {φ : AH → Prop} {F : Nat → Prop} (r : Res φ F h) {p : Nat} (hp : h.next ≤ p) : ¬ F p := fun hf => by have := r.low p hf; omega
theorem Res.and {φ ψ : AH → Prop} {F G : Nat → Prop} (r : Res φ F h) (s : Res ψ G h) : Res (fun h => φ h ∧ ψ h) (fun o => F o ∨ G o) h :=
  ⟨fun o ho => ho.elim (r.low o) (s.low o), fun h' hn hk => ⟨r.loc h' hn fun o ho => hk o (.inl ho), s.loc h' hn fun o ho => hk o (.inr ho)⟩⟩
theorem Res.imp {φ ψ : AH → Prop} {F : Nat → Prop} (r : Res φ F h) (hi : ∀ h', φ h' → ψ h') : Res ψ F h := ⟨r.low, fun h' hn hk => hi h' (r.loc h' hn hk)⟩
theorem Acts.get {F F' : Nat → Prop} {h' : AH} (a : Acts h F h' F') {p : Nat} {x : AObj} (hg : h.get p = some x) (hp : p < h.next) (hF : ¬ F p) : h'.get p = some x := (a.mods.2 p hp hF).trans hg
theorem Acts.not {F F' : Nat → Prop} {h' : AH} (a : Acts h F h' F') {p : Nat} (hp : p < h.next) (hF : ¬ F p) : ¬ F' p := fun hf => (a.grow p hf).elim hF (by omega)
theorem Quiet.get {h' : AH} (q : Quiet h h') {p : Nat} {x : AObj} (hg : h.get p = some x) (hp : p < h.next) : h'.get p = some x := (q.2 p hp fun h => h).trans hg
/-- Behind an action, more new objects, and changes of new ones. -/
theorem Acts.after {F F' : Nat → Prop} {h1 h2 h3 : AH} (q : Quiet h h1) (a : Acts h1 F h2 F') (m : Mods h2 h3 (fun o => h.next ≤ o)) (lo : Low h3) : Acts h F h3 F' :=
  ⟨((q.mods F).trans a.mods (fun o ho => .inl ho)).trans m fun o ho => .inr ho, fun o ho => (a.grow o ho).imp id fun h5 => by have := q.1; omega, lo⟩
/-- What stands beside F. -/
def Side (h : AH) (F : Nat → Prop) (φ : AH → Prop) : Prop := ∃ G, Res φ G h ∧ ∀ o, G o → ¬ F o
theorem Side.holds {φ : AH → Prop} {F : Nat → Prop} (s : Side h F φ) : φ h := by obtain ⟨G, r, _⟩ := s; exact r.holds
theorem Side.act {φ : AH → Prop} {F F' : Nat → Prop} {h' : AH} (s : Side h F φ) (a : Acts h F h' F') : Side h' F' φ := by
  obtain ⟨G, r, d⟩ := s
  obtain ⟨r', d'⟩ := r.act a d
  exact ⟨G, r', d'⟩
theorem Side.quiet {φ : AH → Prop} {F : Nat → Prop} {h' : AH} (s : Side h F φ) (q : Quiet h h') : Side h' F φ := by
  obtain ⟨G, r, d⟩ := s
  exact ⟨G, r.quiet q, d⟩
theorem Side.and {φ ψ : AH → Prop} {F : Nat → Prop} (s : Side h F φ) (t : Side h F ψ) : Side h F (fun h => φ h ∧ ψ h) := by
  obtain ⟨G, r, d⟩ := s
  obtain ⟨H, u, e⟩ := t
  exact ⟨_, r.and u, fun o ho => ho.elim (d o) (e o)⟩
theorem Side.imp {φ ψ : AH → Prop} {F : Nat → Prop} (s : Side h F φ) (hi : ∀ h', φ h' → ψ h') : Side h F ψ := by
  obtain ⟨G, r, d⟩ := s
  exact ⟨G, r.imp hi, d⟩
theorem Side.true {F : Nat → Prop} : Side h F (fun _ => True) := ⟨_, res_true, fun _ h => h.elim⟩
theorem Side.obj {F : Nat → Prop} {p : Nat} {x : AObj} (hl : Low h) (hg : h.get p = some x) (hF : ¬ F p) : Side h F (fun h => h.get p = some x) := ⟨_, res_obj hl hg, fun o ho => by subst ho; exact hF⟩
theorem Side.new {F : Nat → Prop} {φ : AH → Prop} {G : Nat → Prop} (r : Res φ G h) (hF : ∀ o, F o → h.next ≤ o) : Side h F φ := ⟨G, r, fun o ho hf => by have := r.low o ho; have := hF o hf; omega⟩
theorem Sees.res {v : AV} {xs : List AV} (s : Sees h v xs) (hl : Low h) : Res (fun h => Sees h v xs) (fun o => o ∈ objs v) h := by
  refine ⟨fun o ho => ?_, fun h' _ hk => ?_⟩
  · rcases s with ⟨rfl, _⟩ | ⟨p, off, cap, ex, l, rw, rfl, hg, _⟩
    · simp [objs] at ho
    · simp [objs] at ho; subst ho; exact hl _ _ hg
  · rcases s with ⟨rfl, rfl⟩ | ⟨p, off, cap, ex, l, rw, rfl, hg, h1⟩
    · exact .inl ⟨rfl, rfl⟩
    · exact .inr ⟨p, off, cap, ex, l, rw, rfl, (hk p (by simp [objs])).trans hg, h1⟩
end
end Go.Vm

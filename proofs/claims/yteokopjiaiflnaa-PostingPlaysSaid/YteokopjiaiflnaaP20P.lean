/- Chapter 20: small functions, searches. -/
import Derived.Test.YteokopjiaiflnaaP20T
import Derived.Test.YteokopjiaiflnaaVmZw
import Derived.Test.YteokopjiaiflnaaVmZt
namespace Go.Proofs.Yteokopjiaiflnaa
open Go.Vm
set_option linter.unusedSimpArgs false
set_option linter.unusedVariables false
set_option maxRecDepth 100000
/-- A program of these functions. -/
structure Base (T : Vm.Prog) : Prop where
  func : T.func = table
  env : ∀ n, (n < YB ∧ n ≠ 3 ∧ n ≠ 10 ∧ n ≠ 33 ∧ n ≠ 43) → T.env n = none
  insI : T.env 33 = some (insRun table 43 43 33)
theorem Base.at {T : Vm.Prog} (k : Base T) {n : Nat} {fn : AFunc} (h : table n = some fn) : T.func n = some fn := by rw [k.func]; exact h
variable {T : Vm.Prog} {h : AH}
theorem within_nat (k : Base T) {n : Int} {hi : Nat} (h1 : hi ≤ 1000000) : Gives T 16 [.int .i64 n, .int .i64 0, .int .i64 (hi : Int)] h fun r h' => ∃ m : Nat, r = .int .i64 (m : Int) ∧ m ≤ hi ∧ h' = h := by
  refine (within_ok (lo := 0) (hi := (hi : Int)) (k.env 16 (by decide)) (k.at (n := 16) rfl) (by omega) (by omega) (by omega)).mono ?_
  rintro r h' ⟨m, rfl, h2, h3, rfl⟩
  exact ⟨m.toNat, by rw [Int.toNat_of_nonneg h2], by omega, rfl⟩
theorem nan54 (k : Base T) {x : Int} : Gives T 54 [.int .i64 x] h fun r h' => r = .bool false ∧ h' = h := by
  refine gives_func (k.env 54 (by decide)) (k.at (n := 54) rfl) rfl ?_
  simp only [a54, c54, vms, vmc, AOpd.val, Nat.reduceEqDiff, reduceCtorEq, Nat.reduceAdd, Nat.reduceBEq]
  exact ⟨trivial, trivial⟩
theorem nan51 (k : Base T) {x : Int} : Gives T 51 [.int .i64 x] h fun r h' => r = .bool false ∧ h' = h := by
  refine gives_func (k.env 51 (by decide)) (k.at (n := 51) rfl) rfl ?_
  simp only [a51, c51, vms, vmc, AOpd.val, Nat.reduceEqDiff, reduceCtorEq, Nat.reduceAdd, Nat.reduceBEq]
  exact ⟨trivial, trivial⟩
theorem less_ok (k : Base T) {x y : Int} : Gives T 50 [.int .i64 x, .int .i64 y] h fun r h' => r = .bool (decide (x < y)) ∧ h' = h := by
  refine gives_func (k.env 50 (by decide)) (k.at (n := 50) rfl) rfl ?_
  simp only [a50, c50, vms, vmc, AOpd.val, Nat.reduceEqDiff, reduceCtorEq, Nat.reduceAdd, Nat.reduceBEq]
  refine Gives.bind ((nan54 k).mono ?_)
  rintro _ _ ⟨rfl, rfl⟩
  simp only [vms, vmc, AOpd.val, Nat.reduceEqDiff, reduceCtorEq, Nat.reduceAdd, Nat.reduceBEq]
  exact ⟨trivial, trivial⟩
/-- The numbers for which p holds stand ahead. -/
theorem pos_count {α : Type} {p : α → Bool} : ∀ {xs : List α} {i : Nat}, i ≤ xs.length → (∀ j x, xs[j]? = some x → (j < i ↔ p x = true)) → i = xs.countP p
  | [], i, hi, _ => by simp at hi; simp [hi]
  | x :: r, 0, _, hj => by
    symm
    rw [List.countP_eq_zero]
    intro y hy hp
    obtain ⟨j, hj'⟩ := List.getElem?_of_mem hy
    have := (hj j y hj').2 hp
    omega
  | x :: r, i + 1, hi, hj => by
    have hx : p x = true := (hj 0 x rfl).1 (by omega)
    have := pos_count (xs := r) (i := i) (p := p) (by simpa using hi) fun j y hy => by
      have := hj (j + 1) y hy
      constructor
      · intro hh; exact this.1 (by omega)
      · intro hh; have := this.2 hh; omega
    rw [List.countP_cons_of_pos hx, ← this]
theorem half_i64 {a b : Nat} (h : a + b < 4611686018427387904) : IntKind.i64.wrap ((a : Int) + (b : Int)) = ((a + b : Nat) : Int) := by rw [wrap_i64 (by omega) (by omega)]; omega
theorem shr1 {a : Nat} (h : a < 4611686018427387904) : binV .shr (.int .u64 (a : Int)) (.int .u64 1) = some (.int .u64 ((a / 2 : Nat) : Int)) := by
  have := bin_shr_u64 (a := a) (n := 1) (by decide) .u64
  simpa using this
theorem u64_of {a : Nat} (h : a < 4611686018427387904) : IntKind.u64.wrap (a : Int) = (a : Int) := wrap_u64 (by omega)
theorem i64_of {a : Nat} (h : a < 4611686018427387904) : IntKind.i64.wrap (a : Int) = (a : Int) := wrap_i64n (by omega)
/-- Rising numbers. -/
def Rise (xs : List Int) : Prop := xs.Pairwise (· < ·)
theorem Rise.at {xs : List Int} (r : Rise xs) {i j : Nat} {x y : Int} (hi : xs[i]? = some x) (hj : xs[j]? = some y) (hij : i < j) : x < y := by
  obtain ⟨h1, rfl⟩ := List.getElem?_eq_some_iff.1 hi
  obtain ⟨h2, rfl⟩ := List.getElem?_eq_some_iff.1 hj
  exact (List.pairwise_iff_getElem.1 r) i j h1 h2 hij
/-- Where a number stands, or would. -/
def pos (xs : List Int) (t : Int) : Nat := xs.countP (fun x => decide (x < t))
theorem pos_le (xs : List Int) (t : Int) : pos xs t ≤ xs.length := List.countP_le_length
theorem pos_iff {xs : List Int} (r : Rise xs) {t : Int} {j : Nat} {x : Int} (hx : xs[j]? = some x) : j < pos xs t ↔ x < t := by
  induction xs generalizing j with
  | nil => simp at hx
  | cons y ys ih =>
    have r' : Rise ys := (List.pairwise_cons.1 r).2
    have hy := (List.pairwise_cons.1 r).1
    unfold pos at *
    rw [List.countP_cons]
    cases j with
    | zero =>
      simp at hx
      subst hx
      by_cases h : y < t
      · simp [h]
      · have : ys.countP (fun x => decide (x < t)) = 0 := by
          rw [List.countP_eq_zero]
          intro a ha
          have := hy a ha
          simp; omega
        simp [h, this]
    | succ j =>
      simp at hx
      have := ih r' hx
      by_cases h : y < t
      · simp [h]; exact this
      · have h0 : ys.countP (fun x => decide (x < t)) = 0 := by
          rw [List.countP_eq_zero]
          intro a ha
          have := hy a ha
          simp; omega
        have hx' := hy x (List.mem_of_getElem? hx)
        simp [h, h0]; omega
theorem bsearch_ok (k : Base T) {v : AV} {xs : List Int} {t : Int} (s : Sees h v (izs xs)) (r : Rise xs) (hs : xs.length < 1000000) :
    Gives T 42 [v, .int .i64 t] h fun w h' => w = .tuple [.int .i64 (pos xs t : Int), .bool (decide (t ∈ xs))] ∧ h' = h := by
  refine gives_func (k.env 42 (by decide)) (k.at (n := 42) rfl) rfl ?_
  have ln : lenOfV v = some xs.length := by simpa [izs] using s.len
  have hp := pos_le xs t
  simp only [a42, c42, vms, vmc, AOpd.val, Nat.reduceEqDiff, reduceCtorEq, Nat.reduceAdd, Nat.reduceBEq, ln]
  refine wpc_loop (fun m f h' => ∃ i j, m = j - i ∧ i ≤ pos xs t ∧ pos xs t ≤ j ∧ j ≤ xs.length ∧ h' = h ∧ f.at 0 = v ∧ f.at 1 = .int .i64 t ∧ f.at 6 = .int .i64 (xs.length : Int) ∧ f.at 7 = .int .i64 (i : Int) ∧ f.at 8 = .int .i64 (j : Int)) ?_ xs.length _ _ ⟨0, xs.length, by omega, by omega, by omega, by omega, rfl, ?_⟩
  · rintro m f h' ⟨i, j, rfl, h1, h2, h3, rfl, f0, f1, f6, f7, f8⟩
    by_cases hij : i < j
    · have d1 : decide ((i : Int) < (j : Int)) = true := by rw [decide_eq_true_eq]; omega
      obtain ⟨x, hx⟩ : ∃ x, xs[(i + j) / 2]? = some x := ⟨_, List.getElem?_eq_getElem (by omega)⟩
      obtain ⟨p, hp1, hp2⟩ := s.at (i := (i + j) / 2) (x := .int .i64 x) (by simp [izs, hx]) .i64
      simp only [c42l0, vms, vmc, AOpd.val, Nat.reduceEqDiff, reduceCtorEq, Nat.reduceAdd, Nat.reduceBEq, f0, f1, f7, f8, d1, half_i64 (show i + j < 4611686018427387904 by omega), u64_of (show i + j < 4611686018427387904 by omega), shr1 (show i + j < 4611686018427387904 by omega), i64_of (show (i + j) / 2 < 4611686018427387904 by omega), hp1, hp2]
      refine Gives.bind ((less_ok k).mono ?_)
      rintro _ _ ⟨rfl, rfl⟩
      have hiff := pos_iff r (t := t) hx
      by_cases hlt : x < t
      · have w1 : IntKind.i64.wrap ((((i + j) / 2 : Nat) : Int) + 1) = (((i + j) / 2 + 1 : Nat) : Int) := by rw [wrap_i64 (by omega) (by omega)]; omega
        have := hiff.2 hlt
        simp only [vms, vmc, AOpd.val, Nat.reduceEqDiff, reduceCtorEq, Nat.reduceAdd, Nat.reduceBEq, f0, f1, f6, f7, f8, decide_eq_true hlt, w1]
        exact ⟨j - ((i + j) / 2 + 1), by omega, (i + j) / 2 + 1, j, rfl, by omega, h2, h3, by trivial, by trivial, by trivial, by trivial, by trivial, by trivial⟩
      · have : ¬ (i + j) / 2 < pos xs t := fun hh => hlt (hiff.1 hh)
        simp only [vms, vmc, AOpd.val, Nat.reduceEqDiff, reduceCtorEq, Nat.reduceAdd, Nat.reduceBEq, f0, f1, f6, f7, f8, decide_eq_false hlt]
        exact ⟨(i + j) / 2 - i, by omega, i, (i + j) / 2, rfl, h1, by omega, by omega, by trivial, by trivial, by trivial, by trivial, by trivial, by trivial⟩
    · have d1 : decide ((i : Int) < (j : Int)) = false := by rw [decide_eq_false_iff_not]; omega
      have hi : i = pos xs t := by omega
      subst hi
      simp only [c42l0, vms, vmc, AOpd.val, Nat.reduceEqDiff, reduceCtorEq, Nat.reduceAdd, Nat.reduceBEq, f7, f8, d1, f0, f1, f6]
      by_cases hn : pos xs t < xs.length
      · have d2 : decide (((pos xs t : Nat) : Int) < (xs.length : Int)) = true := by rw [decide_eq_true_eq]; omega
        obtain ⟨x, hx⟩ : ∃ x, xs[pos xs t]? = some x := ⟨_, List.getElem?_eq_getElem hn⟩
        obtain ⟨p, hp1, hp2⟩ := s.at (i := pos xs t) (x := .int .i64 x) (by simp [izs, hx]) .i64
        have hnl : ¬ x < t := fun hh => by have := (pos_iff r hx).2 hh; omega
        by_cases he : x = t
        · subst he
          have hm : x ∈ xs := List.mem_of_getElem? hx
          simp only [vms, vmc, AOpd.val, Nat.reduceEqDiff, reduceCtorEq, Nat.reduceAdd, Nat.reduceBEq, d2, f0, f1, f7, hp1, hp2]
          simp [hm]
        · have hm : t ∉ xs := by
            intro hm
            obtain ⟨j', hj'⟩ := List.getElem?_of_mem hm
            have h5 := pos_iff r (t := t) hj'
            have : ¬ j' < pos xs t := fun hh => by have := h5.1 hh; omega
            by_cases e : j' = pos xs t
            · subst e; rw [hx] at hj'; cases hj'; exact he rfl
            · have := r.at hx hj' (by omega); omega
          have e1 : (x == t) = false := by simpa using he
          simp only [vms, vmc, AOpd.val, Nat.reduceEqDiff, reduceCtorEq, Nat.reduceAdd, Nat.reduceBEq, d2, f0, f1, f7, hp1, hp2, e1]
          refine Gives.bind ((nan51 k).mono ?_)
          rintro _ _ ⟨rfl, rfl⟩
          simp only [vms, vmc, AOpd.val, Nat.reduceEqDiff, reduceCtorEq, Nat.reduceAdd, Nat.reduceBEq]
          simp [hm]
      · have d2 : decide (((pos xs t : Nat) : Int) < (xs.length : Int)) = false := by rw [decide_eq_false_iff_not]; omega
        have hm : t ∉ xs := by
          intro hm
          obtain ⟨j', hj'⟩ := List.getElem?_of_mem hm
          have hlt := (List.getElem?_eq_some_iff.1 hj').1
          have := (pos_iff r hj').1 (show j' < pos xs t by omega)
          omega
        simp only [vms, vmc, AOpd.val, Nat.reduceEqDiff, reduceCtorEq, Nat.reduceAdd, Nat.reduceBEq, d2, f7]
        simp [hm]
  · simp only [vms, vmc, AOpd.val, Nat.reduceEqDiff, reduceCtorEq, Nat.reduceAdd, Nat.reduceBEq]
    simp
end Go.Proofs.Yteokopjiaiflnaa

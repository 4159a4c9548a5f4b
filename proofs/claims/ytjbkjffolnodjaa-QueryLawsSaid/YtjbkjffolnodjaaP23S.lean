/- Chapter 23: Right, Text, and equality of queries, at queries that were read. -/
import Derived.Test.YtjbkjffolnodjaaP23R
import Derived.Test.YtjbkjffolnodjaaP23Q
namespace Go.Proofs.Ytjbkjffolnodjaa
open Go.Vm
set_option linter.unusedSimpArgs false
set_option linter.unusedVariables false
set_option maxRecDepth 100000
variable {T : Vm.Prog} {h : AH}
theorem isTerm_ok (k : Base T) {t : Txt} (hg : GoodT t) : Gives T 39 [.str t] h fun r h' => r = .bool true ∧ h' = h := by
  refine gives_func (k.env 39 (by decide)) (k.at (n := 39) rfl) rfl ?_
  have hl := hg.2.1
  simp only [a39, c39, vms, vmc, AOpd.val, Nat.reduceEqDiff, reduceCtorEq, Nat.reduceAdd, Nat.reduceBEq]
  refine wpc_loop (fun m f h' => ∃ i : Nat, m = t.length - i ∧ i ≤ t.length ∧ h' = h ∧ f.at 0 = .str t ∧ f.at 5 = .int .i64 (t.length : Int) ∧ f.at 6 = .int .i64 (i : Int)) ?_ t.length _ _ ⟨0, by omega, by omega, rfl, ?_⟩
  · rintro m f h' ⟨i, rfl, hi, rfl, f0, f5, f6⟩
    by_cases hlt : i < t.length
    · have d1 : decide ((i : Int) < (t.length : Int)) = true := by rw [decide_eq_true_eq]; omega
      have ix : idxStrV (.str t) (.int .i64 (i : Int)) = some (.int .u8 (t[i].toNat : Int)) := by simp [idxStrV, hlt]
      have w2 : IntKind.i64.wrap ((i : Int) + 1) = ((i + 1 : Nat) : Int) := by rw [wrap_i64 (by omega) (by omega)]; omega
      obtain ⟨hb1, hb2⟩ := hg.2.2 t[i] (List.getElem_mem hlt)
      have e1 : (((letter t[i]).toNat : Int) != (t[i].toNat : Int)) = false := by rw [hb1]; simp
      have e2 : ((t[i].toNat : Int) == 0) = false := by
        rw [show ((t[i].toNat : Int) == 0) = (t[i] == 0) from u8eq (n := 0) (by decide)]
        simpa using hb2
      simp only [c39l0, vms, vmc, AOpd.val, Nat.reduceEqDiff, reduceCtorEq, Nat.reduceAdd, Nat.reduceBEq, f0, f5, f6, d1, ix]
      refine Gives.bind ((letter_ok k).mono ?_)
      rintro _ _ ⟨rfl, rfl⟩
      simp only [vms, vmc, AOpd.val, Nat.reduceEqDiff, reduceCtorEq, Nat.reduceAdd, Nat.reduceBEq, f0, f5, f6, e1, ix, e2, w2]
      exact ⟨t.length - (i + 1), by omega, i + 1, rfl, by omega, by trivial, by trivial, by trivial, by trivial⟩
    · have d1 : decide ((i : Int) < (t.length : Int)) = false := by rw [decide_eq_false_iff_not]; omega
      have e1 : (t == ([] : Txt)) = false := by simpa using hg.1
      have d2 : decide ((t.length : Int) ≤ 12) = true := by rw [decide_eq_true_eq]; omega
      simp only [c39l0, vms, vmc, AOpd.val, Nat.reduceEqDiff, reduceCtorEq, Nat.reduceAdd, Nat.reduceBEq, f0, f5, f6, d1, e1, d2]
      exact ⟨by trivial, by trivial⟩
  · simp only [vms, vmc, AOpd.val, Nat.reduceEqDiff, reduceCtorEq, Nat.reduceAdd, Nat.reduceBEq]
    simp
/-- Of how many ahead a part is. -/
def arity (p : Part) : Int := if p.1 = 1 then 0 else if p.1 = 4 then 1 else 2
theorem takes_gives (k : Base T) (hl : Low h) {p : Part} (hp : OkP p) : Gives T 27 [.agg [.int .i64 p.1, .str p.2]] h fun r h' => r = .int .i64 (arity p) ∧ Quiet h h' ∧ Low h' := by
  obtain ⟨kd, t⟩ := p
  have bx : boxV h (AV.agg [AV.int .i64 kd, AV.str t]) = some (.ptr h.next 0, h.new (.cells [AV.int .i64 kd, AV.str t] true)) := rfl
  have q1 : Quiet h (h.new (.cells [AV.int .i64 kd, AV.str t] true)) := (Quiet.refl _).new _
  have lo1 := hl.new (.cells [AV.int .i64 kd, AV.str t] true)
  have hg : (h.new (.cells [AV.int .i64 kd, AV.str t] true)).get h.next = some (.cells [AV.int .i64 kd, AV.str t] true) := get_new_same
  have l0 : loadV (h.new (.cells [AV.int .i64 kd, AV.str t] true)) false 1 (.ptr h.next 0) = some (.int .i64 kd) := load_at hg rfl
  have l1 : loadV (h.new (.cells [AV.int .i64 kd, AV.str t] true)) false 1 (.ptr h.next 1) = some (.str t) := load_at hg rfl
  refine gives_func (k.env 27 (by decide)) (k.at (n := 27) rfl) rfl ?_
  rcases hp with ⟨h1, hg⟩ | ⟨h1, h2⟩
  · have h1' : kd = 1 := h1
    subst h1'
    have e1 : ((1 : Int) == 1) = true := rfl
    simp only [a27, c27, vms, vmc, AOpd.val, Nat.reduceEqDiff, reduceCtorEq, Nat.reduceAdd, Nat.reduceBEq, bx, fa, l0, l1, e1]
    refine Gives.bind ((isTerm_ok k hg).mono ?_)
    rintro _ _ ⟨rfl, rfl⟩
    simp only [vms, vmc, AOpd.val, Nat.reduceEqDiff, reduceCtorEq, Nat.reduceAdd, Nat.reduceBEq]
    exact ⟨by simp [arity], q1, lo1⟩
  · have h2' : t = [] := h2
    subst h2'
    have e0 : (([] : Txt) == []) = true := rfl
    rcases h1 with h1 | h1 | h1
    · have h1' : kd = 4 := h1
      subst h1'
      have e1 : ((4 : Int) == 1) = false := rfl
      have e4 : ((4 : Int) == 4) = true := rfl
      simp only [a27, c27, vms, vmc, AOpd.val, Nat.reduceEqDiff, reduceCtorEq, Nat.reduceAdd, Nat.reduceBEq, bx, fa, l0, l1, e1, e4, e0]
      exact ⟨by simp [arity], q1, lo1⟩
    · have h1' : kd = 2 := h1
      subst h1'
      have e1 : ((2 : Int) == 1) = false := rfl
      have e4 : ((2 : Int) == 4) = false := rfl
      have e2 : ((2 : Int) == 2) = true := rfl
      simp only [a27, c27, vms, vmc, AOpd.val, Nat.reduceEqDiff, reduceCtorEq, Nat.reduceAdd, Nat.reduceBEq, bx, fa, l0, l1, e1, e4, e2, e0]
      exact ⟨by simp [arity], q1, lo1⟩
    · have h1' : kd = 3 := h1
      subst h1'
      have e1 : ((3 : Int) == 1) = false := rfl
      have e4 : ((3 : Int) == 4) = false := rfl
      have e2 : ((3 : Int) == 2) = false := rfl
      have e3 : ((3 : Int) == 3) = true := rfl
      simp only [a27, c27, vms, vmc, AOpd.val, Nat.reduceEqDiff, reduceCtorEq, Nat.reduceAdd, Nat.reduceBEq, bx, fa, l0, l1, e1, e4, e2, e3, e0]
      exact ⟨by simp [arity], q1, lo1⟩
theorem step_arity {S S' : List Ex} {p : Part} (hp : OkP p) (h : stepS S p = some S') : 0 ≤ arity p ∧ arity p ≤ S.length ∧ (S'.length : Int) = S.length + (1 - arity p) := by
  obtain ⟨kd, t⟩ := p
  rcases hp with ⟨h1, _⟩ | ⟨h1, h2⟩
  · have h1' : kd = 1 := h1
    subst h1'
    refine ⟨?_, ?_, ?_⟩ <;> (cases S <;> (simp [stepS] at h; subst h; simp [arity])) <;> omega
  · have h2' : t = [] := h2
    subst h2'
    rcases h1 with h1 | h1 | h1
    · have h1' : kd = 4 := h1
      subst h1'
      match S, h with
      | [], h => simp [stepS] at h
      | a :: S, h => simp [stepS] at h; subst h; simp [arity]; omega
    · have h1' : kd = 2 := h1
      subst h1'
      match S, h with
      | [], h => simp [stepS] at h
      | [a], h => simp [stepS] at h
      | a :: b :: S, h => simp [stepS] at h; subst h; simp [arity]; omega
    · have h1' : kd = 3 := h1
      subst h1'
      match S, h with
      | [], h => simp [stepS] at h
      | [a], h => simp [stepS] at h
      | a :: b :: S, h => simp [stepS] at h; subst h; simp [arity]; omega
end Go.Proofs.Ytjbkjffolnodjaa

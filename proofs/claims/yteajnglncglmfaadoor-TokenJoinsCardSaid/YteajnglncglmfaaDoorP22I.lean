/- TokenJoins: is a text in a list? Printed by mk/gen22j.py. -/
import Derived.Test.YteajnglncglmfaaDoorP22E
import Derived.Test.YteajnglncglmfaaDoorP22N
namespace Go.Proofs.YteajnglncglmfaaDoor
open Go.Vm
set_option linter.unusedSimpArgs false
set_option linter.unusedVariables false
set_option maxRecDepth 100000
variable {T : Vm.Prog} {h : AH}
theorem mem_take {l : List Txt} {i : Nat} {x t : Txt} (hx : l[i]? = some x) : decide (t ∈ l.take (i + 1)) = (decide (t ∈ l.take i) || (x == t)) := by
  obtain ⟨h3, h4⟩ := List.getElem?_eq_some_iff.1 hx
  rw [List.take_succ_eq_append_getElem h3, h4]
  by_cases h1 : t ∈ l.take i
  · simp [h1]
  · by_cases h2 : t = x
    · subst h2; simp
    · simp [h1, h2, Ne.symm h2]
theorem mem0 {l : List Txt} {t : Txt} {v : AV} {b : Bool} {f : Fr} (s : Sees h v (l.map .str)) (hs : l.length < 1000000) (fa : f.at 70 = v) (fn : f.at 71 = .int .i64 (l.length : Int)) (fi : f.at 72 = .int .i64 0) (ff : f.at 13 = .bool b) (ft : f.at 12 = .str t) :
    Wp (code T (.loop c8l0) f h) fun e f' h' => e = .exit 2 ∧ h' = h ∧ f'.at 13 = .bool (b || decide (t ∈ l)) ∧ ∀ r, r ≠ 13 → r ≠ 15 → (r < 72 ∨ 82 < r) → f'.at r = f.at r := by
  refine wpc_loop (fun m f' h' => ∃ i, m = l.length - i ∧ i ≤ l.length ∧ h' = h ∧ f'.at 72 = .int .i64 (i : Nat) ∧ f'.at 13 = .bool (b || decide (t ∈ l.take i)) ∧ ∀ r, r ≠ 13 → r ≠ 15 → (r < 72 ∨ 82 < r) → f'.at r = f.at r) ?_ l.length f h ⟨0, by omega, by omega, rfl, fi, by rw [ff]; simp, fun _ _ _ _ => rfl⟩
  rintro m f' h' ⟨i, rfl, hi, rfl, fi', ff', fr⟩
  have fa' := (fr 70 (by decide) (by decide) (by decide)).trans fa
  have fn' := (fr 71 (by decide) (by decide) (by decide)).trans fn
  have ft' := (fr 12 (by decide) (by decide) (by decide)).trans ft
  by_cases hlt : i < l.length
  · have d1 : decide ((i : Int) < (l.length : Int)) = true := by rw [decide_eq_true_eq]; omega
    obtain ⟨x, hx⟩ : ∃ x, l[i]? = some x := ⟨_, List.getElem?_eq_getElem hlt⟩
    obtain ⟨p, hp1, hp2⟩ := s.at (i := i) (x := .str x) (by simp [hx]) .i64
    have w2 : IntKind.i64.wrap ((i : Int) + 1) = ((i + 1 : Nat) : Int) := by rw [wrap_i64 (by omega) (by omega)]; omega
    have hmt := mem_take (t := t) hx
    have hc : (t == x) = (x == t) := by
      cases hxt : (x == t)
      · have : x ≠ t := by simpa using hxt
        simp [Ne.symm this]
      · have : x = t := by simpa using hxt
        simp [this]
    cases hb : (b || decide (t ∈ l.take i)) with
    | true =>
      rw [hb] at ff'
      simp only [c8l0, vms, vmc, AOpd.val, Nat.reduceEqDiff, reduceCtorEq, Nat.reduceAdd, Nat.reduceBEq, fa', fn', fi', ff', ft', d1, hp1, hp2, w2]
      refine ⟨l.length - (i + 1), by omega, i + 1, rfl, by omega, by trivial, by trivial, ?_, fun r h1 h2 h3 => ?_⟩
      · rw [hmt, ← Bool.or_assoc, hb]; rfl
      · repeat rw [if_neg (by omega)]
        exact fr r h1 h2 h3
    | false =>
      rw [hb] at ff'
      simp only [c8l0, vms, vmc, AOpd.val, Nat.reduceEqDiff, reduceCtorEq, Nat.reduceAdd, Nat.reduceBEq, fa', fn', fi', ff', ft', d1, hp1, hp2, w2]
      refine ⟨l.length - (i + 1), by omega, i + 1, rfl, by omega, by trivial, by trivial, ?_, fun r h1 h2 h3 => ?_⟩
      · rw [hmt, ← Bool.or_assoc, hb]; simp
      · repeat rw [if_neg (by omega)]
        exact fr r h1 h2 h3
  · have d1 : decide ((i : Int) < (l.length : Int)) = false := by rw [decide_eq_false_iff_not]; omega
    rw [List.take_of_length_le (by omega)] at ff'
    simp only [c8l0, vms, vmc, AOpd.val, Nat.reduceEqDiff, reduceCtorEq, Nat.reduceAdd, Nat.reduceBEq, fn', fi', d1, ff']
    refine ⟨by trivial, by trivial, by trivial, fun r h1 h2 h3 => ?_⟩
    repeat rw [if_neg (by omega)]
    exact fr r h1 h2 h3
theorem mem1 {l : List Txt} {t : Txt} {v : AV} {b : Bool} {f : Fr} (s : Sees h v (l.map .str)) (hs : l.length < 1000000) (fa : f.at 83 = v) (fn : f.at 84 = .int .i64 (l.length : Int)) (fi : f.at 85 = .int .i64 0) (ff : f.at 13 = .bool b) (ft : f.at 12 = .str t) :
    Wp (code T (.loop c8l1) f h) fun e f' h' => e = .exit 4 ∧ h' = h ∧ f'.at 13 = .bool (b || decide (t ∈ l)) ∧ ∀ r, r ≠ 13 → r ≠ 17 → (r < 85 ∨ 95 < r) → f'.at r = f.at r := by
  refine wpc_loop (fun m f' h' => ∃ i, m = l.length - i ∧ i ≤ l.length ∧ h' = h ∧ f'.at 85 = .int .i64 (i : Nat) ∧ f'.at 13 = .bool (b || decide (t ∈ l.take i)) ∧ ∀ r, r ≠ 13 → r ≠ 17 → (r < 85 ∨ 95 < r) → f'.at r = f.at r) ?_ l.length f h ⟨0, by omega, by omega, rfl, fi, by rw [ff]; simp, fun _ _ _ _ => rfl⟩
  rintro m f' h' ⟨i, rfl, hi, rfl, fi', ff', fr⟩
  have fa' := (fr 83 (by decide) (by decide) (by decide)).trans fa
  have fn' := (fr 84 (by decide) (by decide) (by decide)).trans fn
  have ft' := (fr 12 (by decide) (by decide) (by decide)).trans ft
  by_cases hlt : i < l.length
  · have d1 : decide ((i : Int) < (l.length : Int)) = true := by rw [decide_eq_true_eq]; omega
    obtain ⟨x, hx⟩ : ∃ x, l[i]? = some x := ⟨_, List.getElem?_eq_getElem hlt⟩
    obtain ⟨p, hp1, hp2⟩ := s.at (i := i) (x := .str x) (by simp [hx]) .i64
    have w2 : IntKind.i64.wrap ((i : Int) + 1) = ((i + 1 : Nat) : Int) := by rw [wrap_i64 (by omega) (by omega)]; omega
    have hmt := mem_take (t := t) hx
    have hc : (t == x) = (x == t) := by
      cases hxt : (x == t)
      · have : x ≠ t := by simpa using hxt
        simp [Ne.symm this]
      · have : x = t := by simpa using hxt
        simp [this]
    cases hb : (b || decide (t ∈ l.take i)) with
    | true =>
      rw [hb] at ff'
      simp only [c8l1, vms, vmc, AOpd.val, Nat.reduceEqDiff, reduceCtorEq, Nat.reduceAdd, Nat.reduceBEq, fa', fn', fi', ff', ft', d1, hp1, hp2, w2]
      refine ⟨l.length - (i + 1), by omega, i + 1, rfl, by omega, by trivial, by trivial, ?_, fun r h1 h2 h3 => ?_⟩
      · rw [hmt, ← Bool.or_assoc, hb]; rfl
      · repeat rw [if_neg (by omega)]
        exact fr r h1 h2 h3
    | false =>
      rw [hb] at ff'
      simp only [c8l1, vms, vmc, AOpd.val, Nat.reduceEqDiff, reduceCtorEq, Nat.reduceAdd, Nat.reduceBEq, fa', fn', fi', ff', ft', d1, hp1, hp2, w2]
      refine ⟨l.length - (i + 1), by omega, i + 1, rfl, by omega, by trivial, by trivial, ?_, fun r h1 h2 h3 => ?_⟩
      · rw [hmt, ← Bool.or_assoc, hb]; simp
      · repeat rw [if_neg (by omega)]
        exact fr r h1 h2 h3
  · have d1 : decide ((i : Int) < (l.length : Int)) = false := by rw [decide_eq_false_iff_not]; omega
    rw [List.take_of_length_le (by omega)] at ff'
    simp only [c8l1, vms, vmc, AOpd.val, Nat.reduceEqDiff, reduceCtorEq, Nat.reduceAdd, Nat.reduceBEq, fn', fi', d1, ff']
    refine ⟨by trivial, by trivial, by trivial, fun r h1 h2 h3 => ?_⟩
    repeat rw [if_neg (by omega)]
    exact fr r h1 h2 h3
theorem mem3 {l : List Txt} {t : Txt} {v : AV} {b : Bool} {f : Fr} (s : Sees h v (l.map .str)) (hs : l.length < 1000000) (fa : f.at 127 = v) (fn : f.at 128 = .int .i64 (l.length : Int)) (fi : f.at 129 = .int .i64 0) (ff : f.at 20 = .bool b) (ft : f.at 19 = .str t) :
    Wp (code T (.loop c8l3) f h) fun e f' h' => e = .exit 8 ∧ h' = h ∧ f'.at 20 = .bool (b || decide (t ∈ l)) ∧ ∀ r, r ≠ 20 → r ≠ 22 → (r < 129 ∨ 139 < r) → f'.at r = f.at r := by
  refine wpc_loop (fun m f' h' => ∃ i, m = l.length - i ∧ i ≤ l.length ∧ h' = h ∧ f'.at 129 = .int .i64 (i : Nat) ∧ f'.at 20 = .bool (b || decide (t ∈ l.take i)) ∧ ∀ r, r ≠ 20 → r ≠ 22 → (r < 129 ∨ 139 < r) → f'.at r = f.at r) ?_ l.length f h ⟨0, by omega, by omega, rfl, fi, by rw [ff]; simp, fun _ _ _ _ => rfl⟩
  rintro m f' h' ⟨i, rfl, hi, rfl, fi', ff', fr⟩
  have fa' := (fr 127 (by decide) (by decide) (by decide)).trans fa
  have fn' := (fr 128 (by decide) (by decide) (by decide)).trans fn
  have ft' := (fr 19 (by decide) (by decide) (by decide)).trans ft
  by_cases hlt : i < l.length
  · have d1 : decide ((i : Int) < (l.length : Int)) = true := by rw [decide_eq_true_eq]; omega
    obtain ⟨x, hx⟩ : ∃ x, l[i]? = some x := ⟨_, List.getElem?_eq_getElem hlt⟩
    obtain ⟨p, hp1, hp2⟩ := s.at (i := i) (x := .str x) (by simp [hx]) .i64
    have w2 : IntKind.i64.wrap ((i : Int) + 1) = ((i + 1 : Nat) : Int) := by rw [wrap_i64 (by omega) (by omega)]; omega
    have hmt := mem_take (t := t) hx
    have hc : (t == x) = (x == t) := by
      cases hxt : (x == t)
      · have : x ≠ t := by simpa using hxt
        simp [Ne.symm this]
      · have : x = t := by simpa using hxt
        simp [this]
    cases hb : (b || decide (t ∈ l.take i)) with
    | true =>
      rw [hb] at ff'
      simp only [c8l3, vms, vmc, AOpd.val, Nat.reduceEqDiff, reduceCtorEq, Nat.reduceAdd, Nat.reduceBEq, fa', fn', fi', ff', ft', d1, hp1, hp2, w2]
      refine ⟨l.length - (i + 1), by omega, i + 1, rfl, by omega, by trivial, by trivial, ?_, fun r h1 h2 h3 => ?_⟩
      · rw [hmt, ← Bool.or_assoc, hb]; rfl
      · repeat rw [if_neg (by omega)]
        exact fr r h1 h2 h3
    | false =>
      rw [hb] at ff'
      simp only [c8l3, vms, vmc, AOpd.val, Nat.reduceEqDiff, reduceCtorEq, Nat.reduceAdd, Nat.reduceBEq, fa', fn', fi', ff', ft', d1, hp1, hp2, w2]
      refine ⟨l.length - (i + 1), by omega, i + 1, rfl, by omega, by trivial, by trivial, ?_, fun r h1 h2 h3 => ?_⟩
      · rw [hmt, ← Bool.or_assoc, hb, hc]; simp
      · repeat rw [if_neg (by omega)]
        exact fr r h1 h2 h3
  · have d1 : decide ((i : Int) < (l.length : Int)) = false := by rw [decide_eq_false_iff_not]; omega
    rw [List.take_of_length_le (by omega)] at ff'
    simp only [c8l3, vms, vmc, AOpd.val, Nat.reduceEqDiff, reduceCtorEq, Nat.reduceAdd, Nat.reduceBEq, fn', fi', d1, ff']
    refine ⟨by trivial, by trivial, by trivial, fun r h1 h2 h3 => ?_⟩
    repeat rw [if_neg (by omega)]
    exact fr r h1 h2 h3
end Go.Proofs.YteajnglncglmfaaDoor

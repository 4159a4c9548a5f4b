/- Chapter 22: the reference's Terms; equality of lists of texts; TokenTells. -/
import Derived.Test.YteajnglncglmfaaDoorP22K
namespace Go.Proofs.YteajnglncglmfaaDoor
open Go.Vm
set_option linter.unusedSimpArgs false
set_option linter.unusedVariables false
set_option maxRecDepth 100000
variable {T : Vm.Prog} {h : AH}
theorem same_ok (k : Base T) {va vb : AV} {xs ys : List Txt} (hx : Sees h va (xs.map .str)) (hy : Sees h vb (ys.map .str)) (hl : xs.length < 9223372036854775807) (hl' : ys.length < 9223372036854775807) :
    Gives T 10 [va, vb] h fun r h' => r = .bool (decide (xs = ys)) ∧ h' = h := by
  refine gives_func (k.env 10 (by decide)) (k.at (n := 10) rfl) rfl ?_
  have lx : lenOfV va = some xs.length := by simpa using hx.len
  have ly : lenOfV vb = some ys.length := by simpa using hy.len
  simp only [a10, c10, vms, vmc, AOpd.val, Nat.reduceEqDiff, reduceCtorEq, Nat.reduceAdd, Nat.reduceBEq, lx, ly]
  split
  · rename_i hne
    have : xs ≠ ys := fun e => by subst e; simp at hne
    simp [this]
  · rename_i hne
    have hlen : xs.length = ys.length := by
      have := hne; simp at this; omega
    refine wpc_loop (fun m f h' => ∃ i, m = xs.length - i ∧ i ≤ xs.length ∧ h' = h ∧ f.at 0 = va ∧ f.at 1 = vb ∧ f.at 5 = .int .i64 (i : Nat) ∧ ∀ j, j < i → xs[j]? = ys[j]?) ?_ xs.length _ _ ⟨0, by simp, by simp, rfl, ?_⟩
    · rintro m f h' ⟨i, rfl, hi, rfl, h0, h1, h5, hpre⟩
      by_cases hlt : i < xs.length
      · have d1 : decide ((i : Int) < (xs.length : Int)) = true := by rw [decide_eq_true_eq]; omega
        obtain ⟨x, hxi⟩ : ∃ x, xs[i]? = some x := ⟨_, List.getElem?_eq_getElem hlt⟩
        obtain ⟨y, hyi⟩ : ∃ y, ys[i]? = some y := ⟨_, List.getElem?_eq_getElem (hlen ▸ hlt)⟩
        obtain ⟨p, hp1, hp2⟩ := hx.at (i := i) (x := .str x) (by simp [hxi]) .i64
        obtain ⟨q, hq1, hq2⟩ := hy.at (i := i) (x := .str y) (by simp [hyi]) .i64
        have hw : IntKind.i64.wrap ((i : Int) + 1) = ((i + 1 : Nat) : Int) := by rw [wrap_i64 (by omega) (by omega)]; rfl
        cases e : (x == y) with
        | false =>
          have hne' : x ≠ y := by simpa using e
          have : xs ≠ ys := fun e => by subst e; rw [hxi] at hyi; cases hyi; exact hne' rfl
          simp only [c10l0, vms, vmc, AOpd.val, Nat.reduceEqDiff, reduceCtorEq, Nat.reduceAdd, Nat.reduceBEq, h0, h1, h5, lx, d1, hp1, hp2, hq1, hq2, e]
          simp [this]
        | true =>
          have heq : x = y := by simpa using e
          subst heq
          simp only [c10l0, vms, vmc, AOpd.val, Nat.reduceEqDiff, reduceCtorEq, Nat.reduceAdd, Nat.reduceBEq, h0, h1, h5, lx, d1, hp1, hp2, hq1, hq2, e, hw]
          refine ⟨xs.length - (i + 1), by omega, i + 1, rfl, by omega, by trivial, by trivial, by trivial, by trivial, fun j hj => ?_⟩
          by_cases e : j = i
          · subst e; rw [hxi, hyi]
          · exact hpre j (by omega)
      · have d1 : decide ((i : Int) < (xs.length : Int)) = false := by rw [decide_eq_false_iff_not]; omega
        have : xs = ys := by
          apply List.ext_getElem?
          intro j
          by_cases hj : j < i
          · exact hpre j hj
          · rw [List.getElem?_eq_none (by omega), List.getElem?_eq_none (by omega)]
        simp only [c10l0, vms, vmc, AOpd.val, Nat.reduceEqDiff, reduceCtorEq, Nat.reduceAdd, Nat.reduceBEq, h0, h5, lx, d1]
        simp [this]
    · simp only [vms, vmc, AOpd.val, Nat.reduceEqDiff, reduceCtorEq, Nat.reduceAdd, Nat.reduceBEq]
      simp
theorem bin_str_lss {a b : Txt} : binV .lss (.str a) (.str b) = some (.bool (decide (a < b))) := by
  rw [← Go.Proofs.bytesLess_eq]
  simp [binV, strBin]
/-- One more, at its place. -/
theorem ris_put {l : List Txt} {t : Txt} {k : Nat} (hr : Ris l) (hk : k ≤ l.length) (hlo : ∀ j x, j < k → l[j]? = some x → x < t) (hhi : ∀ x, l[k]? = some x → t < x) : Ris (l.take k ++ [t] ++ l.drop k) ∧ ∀ x, x ∈ l.take k ++ [t] ++ l.drop k ↔ x ∈ l ∨ x = t := by
  have hm : ∀ x, x ∈ l ↔ x ∈ l.take k ∨ x ∈ l.drop k := fun x => by
    rw [← List.mem_append, List.take_append_drop]
  constructor
  · have hl : ∀ x ∈ l.take k, x < t := fun x hx => by
      obtain ⟨j, hj⟩ := List.getElem?_of_mem hx
      rw [List.getElem?_take] at hj
      split at hj
      · exact hlo j x ‹_› hj
      · cases hj
    have hd : ∀ x ∈ l.drop k, t < x := fun x hx => by
      obtain ⟨j, hj⟩ := List.getElem?_of_mem hx
      rw [List.getElem?_drop] at hj
      have hlt := (List.getElem?_eq_some_iff.1 hj).1
      have h0 := hhi l[k] (List.getElem?_eq_getElem (by omega))
      by_cases e : j = 0
      · subst e
        have := hhi x (by simpa using hj)
        exact this
      · have : l[k] < l[k + j] := List.pairwise_iff_getElem.1 hr k (k + j) (by omega) hlt (by omega)
        rw [List.getElem?_eq_getElem hlt] at hj
        cases hj
        exact tlt_trans h0 this
    refine List.pairwise_append.2 ⟨List.pairwise_append.2 ⟨hr.sublist (List.take_sublist _ _), by simp, fun x hx y hy => ?_⟩, hr.sublist (List.drop_sublist _ _), fun x hx y hy => ?_⟩
    · simp at hy; subst hy; exact hl x hx
    · rcases List.mem_append.1 hx with hx | hx
      · exact tlt_trans (hl x hx) (hd y hy)
      · simp at hx; subst hx; exact hd y hy
  · intro x
    simp only [List.mem_append, List.mem_singleton, hm x]
    constructor
    · rintro ((h | h) | h)
      · exact .inl (.inl h)
      · exact .inr h
      · exact .inl (.inr h)
    · rintro ((h | h) | h)
      · exact .inl (.inl h)
      · exact .inr h
      · exact .inl (.inr h)
theorem strs_flat {l : List Txt} : ∀ x ∈ l.map AV.str, AV.flat x = true := fun x hx => by
  obtain ⟨a, _, rfl⟩ := List.mem_map.1 hx
  rfl
end Go.Proofs.YteajnglncglmfaaDoor

/- Leaves by the reference: terms, words; slices.Equal. -/
import Derived.Test.YtpabmkicdcilpaaP7R
namespace Go.Proofs.Ytpabmkicdcilpaa
open Go.Vm
set_option linter.unusedSimpArgs false
set_option linter.unusedVariables false
set_option maxRecDepth 100000
variable {T : Vm.Prog} {h : AH}
theorem equal_ok (k : Fits T) {va vb : AV} {xs ys : List Nat} (hx : Sees h va (wcells xs)) (hy : Sees h vb (wcells ys)) (hl : xs.length < 1000000) (hl' : ys.length < 1000000) :
    Gives T 70 [va, vb] h fun r h' => r = .bool (decide (xs = ys)) ∧ h' = h := by
  refine gives_func (k.env _ (by decide)) (k.at (fn := a70) rfl) rfl ?_
  have lx : lenOfV va = some xs.length := by rw [hx.len, wcells_len]
  have ly : lenOfV vb = some ys.length := by rw [hy.len, wcells_len]
  by_cases hlen : xs.length = ys.length
  · have d0 : ((xs.length : Int) != (ys.length : Int)) = false := by rw [bne_eq_false_iff_eq]; omega
    simp only [a70, c70, vms, vmc, AOpd.val, Nat.reduceEqDiff, reduceCtorEq, Nat.reduceAdd, Nat.reduceBEq, lx, ly, d0]
    refine wpc_loop (fun m f h' => ∃ i, m = xs.length - i ∧ i ≤ xs.length ∧ h' = h ∧ f.at 0 = va ∧ f.at 1 = vb ∧ f.at 12 = .int .i64 (xs.length : Nat) ∧ f.at 13 = .int .i64 (i : Nat) ∧ ∀ j, j < i → xs[j]? = ys[j]?) ?_ xs.length _ _ ⟨0, by simp, by simp, rfl, ?_⟩
    · rintro m f h' ⟨i, rfl, hi, rfl, h0, h1, h12, h13, hpre⟩
      by_cases hlt : i < xs.length
      · have d1 : decide ((i : Int) < (xs.length : Int)) = true := by rw [decide_eq_true_eq]; omega
        obtain ⟨x, hxi⟩ : ∃ x, xs[i]? = some x := ⟨_, List.getElem?_eq_getElem hlt⟩
        obtain ⟨y, hyi⟩ : ∃ y, ys[i]? = some y := ⟨_, List.getElem?_eq_getElem (by omega)⟩
        obtain ⟨p, hp1, hp2⟩ := hx.at (i := i) (x := .int .u64 (x : Int)) (wcells_get hxi) .i64
        obtain ⟨q, hq1, hq2⟩ := hy.at (i := i) (x := .int .u64 (y : Int)) (wcells_get hyi) .i64
        have w1 : IntKind.i64.wrap ((i : Int) + 1) = ((i + 1 : Nat) : Int) := by rw [wrap_i64 (by omega) (by omega)]; omega
        by_cases he : x = y
        · have b1 : ((x : Int) != (y : Int)) = false := by rw [bne_eq_false_iff_eq]; omega
          simp only [c70l0, vms, vmc, AOpd.val, Nat.reduceEqDiff, reduceCtorEq, Nat.reduceAdd, Nat.reduceBEq, h0, h1, h12, h13, d1, hp1, hp2, hq1, hq2, b1, w1]
          refine ⟨xs.length - (i + 1), by omega, i + 1, rfl, by omega, trivial, trivial, trivial, trivial, rfl, fun j hj => ?_⟩
          by_cases hji : j = i
          · subst hji; rw [hxi, hyi, he]
          · exact hpre j (by omega)
        · have b1 : ((x : Int) != (y : Int)) = true := by simp; omega
          have hne : xs ≠ ys := fun e => by subst e; rw [hxi] at hyi; cases hyi; exact he rfl
          simp only [c70l0, vms, vmc, AOpd.val, Nat.reduceEqDiff, reduceCtorEq, Nat.reduceAdd, Nat.reduceBEq, h0, h1, h12, h13, d1, hp1, hp2, hq1, hq2, b1]
          simp [hne]
      · have d1 : decide ((i : Int) < (xs.length : Int)) = false := by rw [decide_eq_false_iff_not]; omega
        have heq : xs = ys := by
          apply List.ext_getElem?
          intro j
          by_cases hj : j < i
          · exact hpre j hj
          · rw [List.getElem?_eq_none (by omega), List.getElem?_eq_none (by omega)]
        simp only [c70l0, vms, vmc, AOpd.val, Nat.reduceEqDiff, reduceCtorEq, Nat.reduceAdd, Nat.reduceBEq, h12, h13, d1]
        simp [heq]
    · simp only [vms, vmc, AOpd.val, Nat.reduceEqDiff, reduceCtorEq, Nat.reduceAdd, Nat.reduceBEq]
      exact ⟨trivial, trivial, trivial, rfl, fun j hj => by omega⟩
  · have d0 : ((xs.length : Int) != (ys.length : Int)) = true := by simp; omega
    have hne : xs ≠ ys := fun e => hlen (by rw [e])
    simp only [a70, c70, vms, vmc, AOpd.val, Nat.reduceEqDiff, reduceCtorEq, Nat.reduceAdd, Nat.reduceBEq, lx, ly, d0]
    simp [hne]
/-! ### the reference's terms -/
end Go.Proofs.Ytpabmkicdcilpaa

/- Bands of the kinds; the law NodeBands. -/
import Derived.Test.YtpabmkicdcilpaaP7T
import Derived.Test.YtpabmkicdcilpaaVmZj
namespace Go.Proofs.Ytpabmkicdcilpaa
open Go.Vm
set_option linter.unusedSimpArgs false
set_option linter.unusedVariables false
set_option maxRecDepth 100000
variable {T : Vm.Prog} {h : AH}
theorem within_nat (k : Fits T) {n : Int} {hi : Nat} (h1 : hi ≤ 1000000) : Gives T 22 [.int .i64 n, .int .i64 0, .int .i64 (hi : Int)] h fun r h' => ∃ m : Nat, r = .int .i64 (m : Int) ∧ m ≤ hi ∧ h' = h := by
  refine (within_ok (g := 22) (k.env _ (by decide)) (k.at rfl) (show (0 : Int) ≤ (hi : Int) by omega) (by decide) (by omega)).mono ?_
  rintro _ _ ⟨m, rfl, h2, h3, rfl⟩
  exact ⟨m.toNat, by rw [Int.toNat_of_nonneg h2], by omega, rfl⟩
/-- How many children a kind may have. -/
def highP (x : Int) : Nat := if x = 1 then 4 else if x = 2 then 16 else if x = 3 then 48 else if x = 4 then 256 else 0
/-- How few. -/
def lowP (x : Int) : Nat := if x = 1 then 2 else if x = 2 then 4 else if x = 3 then 13 else if x = 4 then 38 else 0
theorem eqI {a b : Int} (e : a = b) : (a == b) = true := by simpa using e
theorem neI {a b : Int} (e : a ≠ b) : (a == b) = false := by simpa using e
theorem high_ok (k : Fits T) {x : Int} : Gives T 27 [.int .i64 x] h fun r h' => r = .int .i64 (highP x : Int) ∧ h' = h := by
  refine gives_func (k.env _ (by decide)) (k.at (fn := a27) rfl) rfl ?_
  unfold highP
  by_cases h1 : x = 1
  · simp only [a27, c27, vms, vmc, AOpd.val, Nat.reduceEqDiff, reduceCtorEq, Nat.reduceAdd, Nat.reduceBEq, eqI h1, if_pos h1]; exact ⟨rfl, trivial⟩
  · by_cases h2 : x = 2
    · simp only [a27, c27, vms, vmc, AOpd.val, Nat.reduceEqDiff, reduceCtorEq, Nat.reduceAdd, Nat.reduceBEq, neI h1, eqI h2, if_neg h1, if_pos h2]; exact ⟨rfl, trivial⟩
    · by_cases h3 : x = 3
      · simp only [a27, c27, vms, vmc, AOpd.val, Nat.reduceEqDiff, reduceCtorEq, Nat.reduceAdd, Nat.reduceBEq, neI h1, neI h2, eqI h3, if_neg h1, if_neg h2, if_pos h3]; exact ⟨rfl, trivial⟩
      · by_cases h4 : x = 4
        · simp only [a27, c27, vms, vmc, AOpd.val, Nat.reduceEqDiff, reduceCtorEq, Nat.reduceAdd, Nat.reduceBEq, neI h1, neI h2, neI h3, eqI h4, if_neg h1, if_neg h2, if_neg h3, if_pos h4]; exact ⟨rfl, trivial⟩
        · simp only [a27, c27, vms, vmc, AOpd.val, Nat.reduceEqDiff, reduceCtorEq, Nat.reduceAdd, Nat.reduceBEq, neI h1, neI h2, neI h3, neI h4, if_neg h1, if_neg h2, if_neg h3, if_neg h4]; exact ⟨rfl, trivial⟩
end Go.Proofs.Ytpabmkicdcilpaa

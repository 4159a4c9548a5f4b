/- Chapter 22: texts, their pieces, their words; rising lists of texts. Plain lists. -/
import Derived.Lib.SlicesCompact
import Derived.Lib.Bytealg
namespace Go.Proofs.YteajnglncglmfaaDoor
open Go
set_option linter.unusedSimpArgs false
set_option linter.unusedVariables false
abbrev Txt := List UInt8
/-- Strictly rising. -/
def Ris (l : List Txt) : Prop := l.Pairwise (· < ·)
def sortT (zs : List Txt) : List Txt := zs.mergeSort fun x y => decide (x ≤ y)
theorem sortT_len (zs : List Txt) : (sortT zs).length = zs.length := List.length_mergeSort zs
/-- Each once, rising. -/
def setT (zs : List Txt) : List Txt := Lib.compact (sortT zs)
/-- A byte as it counts in a term. -/
def letter (b : UInt8) : UInt8 := if (97 ≤ b ∧ b ≤ 122) ∨ (48 ≤ b ∧ b ≤ 57) then b else if 65 ≤ b ∧ b ≤ 90 then b + 32 else 0
/-- Parted at the noughts. -/
def pieces : Txt → List Txt
  | [] => [[]]
  | c :: r => if c = 0 then [] :: pieces r else match pieces r with
    | p :: ps => (c :: p) :: ps
    | [] => [[c]]
theorem pieces_none {s : Txt} (h : (0 : UInt8) ∉ s) : pieces s = [s] := by
  induction s with
  | nil => rfl
  | cons c r ih =>
    simp only [List.mem_cons, not_or] at h
    have h1 : ¬ c = 0 := fun e => h.1 e.symm
    simp only [pieces, if_neg h1, ih h.2]
theorem pieces_at {s : Txt} {i : Nat} (h : Lib.indexByte s 0 = (i : Int)) : i < s.length ∧ pieces s = s.take i :: pieces (s.drop (i + 1)) := by
  induction s generalizing i with
  | nil => simp [Lib.indexByte] at h
  | cons c r ih =>
    unfold Lib.indexByte at h
    by_cases hc : c = 0
    · subst hc
      simp at h
      have : i = 0 := by omega
      subst this
      simp [pieces]
    · have hc' : (c == 0) = false := by simpa using hc
      simp only [hc', Bool.false_eq_true, if_false] at h
      have hge := Lib.indexByte_ge r 0
      split at h
      · omega
      · obtain ⟨j, hj⟩ : ∃ j : Nat, Lib.indexByte r 0 = (j : Int) := by
          rename_i hne
          have : Lib.indexByte r 0 ≠ -1 := by simpa using hne
          exact ⟨(Lib.indexByte r 0).toNat, by omega⟩
        rw [hj] at h
        have hi : i = j + 1 := by omega
        subst hi
        obtain ⟨h1, h2⟩ := ih hj
        refine ⟨by simp; omega, ?_⟩
        simp only [pieces, if_neg hc, h2, List.take_succ_cons, List.drop_succ_cons]
/-- The words of a text, cut. -/
def wordsOf (ps : List Txt) : List Txt := (ps.filter fun p => p != []).map (List.take 12)
def words (s : Txt) : List Txt := wordsOf (pieces (s.map letter))
def terms (s : Txt) : List Txt := setT (words s)
theorem wordsOf_append (a b : List Txt) : wordsOf (a ++ b) = wordsOf a ++ wordsOf b := by simp [wordsOf]
theorem pieces_len (s : Txt) : (pieces s).length ≤ s.length + 1 := by
  induction s with
  | nil => simp [pieces]
  | cons c r ih =>
    simp only [pieces]
    split
    · simpa using ih
    · split
      · rename_i p ps e; rw [e] at ih; simp at ih ⊢; omega
      · simp
theorem words_len (s : Txt) : (words s).length ≤ s.length + 1 := by
  have h1 := pieces_len (s.map letter)
  have h2 : (wordsOf (pieces (s.map letter))).length ≤ (pieces (s.map letter)).length := by simp only [wordsOf, List.length_map]; exact List.length_filter_le _ _
  simp only [List.length_map] at h1
  exact Nat.le_trans h2 h1
end Go.Proofs.YteajnglncglmfaaDoor

/- Chapter 22: what terms are; texts put together. Plain lists. -/
import Derived.Test.YteajnglncglmfaaDoorP22M
namespace Go.Proofs.YteajnglncglmfaaDoor
open Go
set_option linter.unusedSimpArgs false
set_option linter.unusedVariables false
def GoodT (t : Txt) : Prop := t ≠ [] ∧ t.length ≤ 12 ∧ ∀ b ∈ t, letter b = b ∧ b ≠ 0
theorem map_good {t : Txt} (h : ∀ b ∈ t, letter b = b ∧ b ≠ 0) : t.map letter = t := by
  induction t with
  | nil => rfl
  | cons a r ih => rw [List.map_cons, (h a (by simp)).1, ih fun b hb => h b (List.mem_cons_of_mem _ hb)]
theorem pieces_app : ∀ (x y : Txt), pieces (x ++ 0 :: y) = pieces x ++ pieces y
  | [], y => by simp [pieces]
  | c :: r, y => by
    have h1 := pieces_app r y
    have h2 := pieces_ne r
    by_cases hc : c = 0
    · subst hc; simp [pieces, h1]
    · simp only [List.cons_append, pieces, if_neg hc, h1]
      cases hp : pieces r with
      | nil => exact absurd hp h2
      | cons p ps => simp
theorem words_app {a b : Txt} {c : UInt8} (hc : letter c = 0) : words (a ++ c :: b) = words a ++ words b := by
  unfold words
  rw [List.map_append, List.map_cons, hc, pieces_app, wordsOf_append]
theorem words_nil : words [] = [] := rfl
/-- Terms with blanks behind. -/
def joined (l : List Txt) : Txt := l.flatMap (· ++ [32])
/-! ### lengths -/
def wsum : List Txt → Nat
  | [] => 0
  | t :: l => t.length + 1 + wsum l
end Go.Proofs.YteajnglncglmfaaDoor

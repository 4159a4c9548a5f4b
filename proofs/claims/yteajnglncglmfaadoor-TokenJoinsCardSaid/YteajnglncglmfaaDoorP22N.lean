/- Chapter 22: what terms are; texts put together. Plain lists. -/
import Derived.Test.YteajnglncglmfaaDoorP22M
namespace Go.Proofs.YteajnglncglmfaaDoor
open Go
set_option linter.unusedSimpArgs false
set_option linter.unusedVariables false
def GoodT (t : Txt) : Prop := t ≠ [] ∧ t.length ≤ 12 ∧ ∀ b ∈ t, letter b = b ∧ b ≠ 0
theorem letter_letter (b : UInt8) : letter (letter b) = letter b := by
  have : ∀ n : Fin 256, letter (letter (UInt8.ofNat n.val)) = letter (UInt8.ofNat n.val) := by decide +kernel
  have h := this ⟨b.toNat, b.toNat_lt⟩
  simpa using h
theorem pieces_mem : ∀ {x p : Txt} {b : UInt8}, p ∈ pieces x → b ∈ p → b ∈ x ∧ b ≠ 0
  | [], p, b, hp, hb => by simp [pieces] at hp; subst hp; simp at hb
  | c :: r, p, b, hp, hb => by
    by_cases hc : c = 0
    · subst hc
      simp only [pieces, if_true, List.mem_cons] at hp
      rcases hp with rfl | hp
      · simp at hb
      · have := pieces_mem hp hb
        exact ⟨List.mem_cons_of_mem _ this.1, this.2⟩
    · simp only [pieces, if_neg hc] at hp
      cases hr : pieces r with
      | nil => exact absurd hr (pieces_ne r)
      | cons q qs =>
        rw [hr] at hp
        simp only [List.mem_cons] at hp
        rcases hp with rfl | hp
        · simp only [List.mem_cons] at hb
          rcases hb with rfl | hb
          · exact ⟨by simp, hc⟩
          · have := pieces_mem (p := q) (by rw [hr]; simp) hb
            exact ⟨List.mem_cons_of_mem _ this.1, this.2⟩
        · have := pieces_mem (p := p) (by rw [hr]; simp [hp]) hb
          exact ⟨List.mem_cons_of_mem _ this.1, this.2⟩
theorem words_good {s t : Txt} (h : t ∈ words s) : GoodT t := by
  simp only [words, wordsOf, List.mem_map, List.mem_filter] at h
  obtain ⟨p, ⟨hp, hne⟩, rfl⟩ := h
  have hne' : p ≠ [] := by simpa using hne
  refine ⟨?_, by simp; omega, fun b hb => ?_⟩
  · cases p with
    | nil => exact absurd rfl hne'
    | cons a r => simp
  · have := pieces_mem hp (List.mem_of_mem_take hb)
    obtain ⟨c, _, rfl⟩ := List.mem_map.1 this.1
    exact ⟨letter_letter c, this.2⟩
theorem terms_good {s t : Txt} (h : t ∈ terms s) : GoodT t := words_good ((setT_mem _ _).1 h)
theorem pieces_app : ∀ (x y : Txt), pieces (x ++ 0 :: y) = pieces x ++ pieces y
  | [], y => by simp [pieces]
  | c :: r, y => by
    have h1 := pieces_app r y
    have h2 := pieces_ne r
    by_cases hc : c = 0
    · subst hc; simp [pieces, h1]
    · simp only [List.cons_append, pieces, if_neg hc, h1]
      cases hp : pieces r with
      | nil => exact absurd hp h2
      | cons p ps => simp
theorem words_app {a b : Txt} {c : UInt8} (hc : letter c = 0) : words (a ++ c :: b) = words a ++ words b := by
  unfold words
  rw [List.map_append, List.map_cons, hc, pieces_app, wordsOf_append]
theorem letter_blank : letter 32 = 0 := by decide
/-- Terms with blanks behind. -/
def joined (l : List Txt) : Txt := l.flatMap (· ++ [32])
/-! ### lengths -/
def wsum : List Txt → Nat
  | [] => 0
  | t :: l => t.length + 1 + wsum l
end Go.Proofs.YteajnglncglmfaaDoor

/- Chapter 22: what terms are; texts put together. Plain lists. -/
import Derived.Test.YteajnglncglmfaaDoorP22M
namespace Go.Proofs.YteajnglncglmfaaDoor
open Go
set_option linter.unusedSimpArgs false
set_option linter.unusedVariables false
def GoodT (t : Txt) : Prop := t ≠ [] ∧ t.length ≤ 12 ∧ ∀ b ∈ t, letter b = b ∧ b ≠ 0
theorem letter_letter (b : UInt8) : letter (letter b) = letter b := by
  have : ∀ n : Fin 256, letter (letter (UInt8.ofNat n.val)) = letter (UInt8.ofNat n.val) := by decide +kernel
  have h := this ⟨b.toNat, b.toNat_lt⟩
  simpa using h
theorem pieces_mem : ∀ {x p : Txt} {b : UInt8}, p ∈ pieces x → b ∈ p → b ∈ x ∧ b ≠ 0
  | [], p, b, hp, hb => by simp [pieces] at hp; subst hp; simp at hb
  | c :: r, p, b, hp, hb => by
    by_cases hc : c = 0
    · subst hc
      simp only [pieces, if_true, List.mem_cons] at hp
      rcases hp with rfl | hp
      · simp at hb
      · have := pieces_mem hp hb
        exact ⟨List.mem_cons_of_mem _ this.1, this.2⟩
    · simp only [pieces, if_neg hc] at hp
      cases hr : pieces r with
      | nil => exact absurd hr (pieces_ne r)
      | cons q qs =>
        rw [hr] at hp
        simp only [List.mem_cons] at hp
        rcases hp with rfl | hp
        · simp only [List.mem_cons] at hb
          rcases hb with rfl | hb
          · exact ⟨by simp, hc⟩
          · have := pieces_mem (p := q) (by rw [hr]; simp) hb
            exact ⟨List.mem_cons_of_mem _ this.1, this.2⟩
        · have := pieces_mem (p := p) (by rw [hr]; simp [hp]) hb
          exact ⟨List.mem_cons_of_mem _ this.1, this.2⟩
theorem words_good {s t : Txt} (h : t ∈ words s) : GoodT t := by
  simp only [words, wordsOf, List.mem_map, List.mem_filter] at h
  obtain ⟨p, ⟨hp, hne⟩, rfl⟩ := h
  have hne' : p ≠ [] := by simpa using hne
  refine ⟨?_, by simp; omega, fun b hb => ?_⟩
  · cases p with
    | nil => exact absurd rfl hne'
    | cons a r => simp
  · have := pieces_mem hp (List.mem_of_mem_take hb)
    obtain ⟨c, _, rfl⟩ := List.mem_map.1 this.1
    exact ⟨letter_letter c, this.2⟩
theorem terms_good {s t : Txt} (h : t ∈ terms s) : GoodT t := words_good ((setT_mem _ _).1 h)
theorem map_good {t : Txt} (h : ∀ b ∈ t, letter b = b ∧ b ≠ 0) : t.map letter = t := by
  induction t with
  | nil => rfl
  | cons a r ih => rw [List.map_cons, (h a (by simp)).1, ih fun b hb => h b (List.mem_cons_of_mem _ hb)]
theorem words_one {t : Txt} (h : GoodT t) : words t = [t] := by
  obtain ⟨h1, h2, h3⟩ := h
  unfold words
  rw [map_good h3, pieces_none (fun h0 => (h3 0 h0).2 rfl)]
  simp [wordsOf, h1, List.take_of_length_le h2]
theorem setT_self {l : List Txt} (h : Ris l) : setT l = l := setT_eq h fun _ => Iff.rfl
theorem terms_one {t : Txt} (h : GoodT t) : terms t = [t] := by
  unfold terms
  rw [words_one h]
  exact setT_self (by simp [Ris])
theorem pieces_app : ∀ (x y : Txt), pieces (x ++ 0 :: y) = pieces x ++ pieces y
  | [], y => by simp [pieces]
  | c :: r, y => by
    have h1 := pieces_app r y
    have h2 := pieces_ne r
    by_cases hc : c = 0
    · subst hc; simp [pieces, h1]
    · simp only [List.cons_append, pieces, if_neg hc, h1]
      cases hp : pieces r with
      | nil => exact absurd hp h2
      | cons p ps => simp
theorem words_app {a b : Txt} {c : UInt8} (hc : letter c = 0) : words (a ++ c :: b) = words a ++ words b := by
  unfold words
  rw [List.map_append, List.map_cons, hc, pieces_app, wordsOf_append]
theorem letter_blank : letter 32 = 0 := by decide
/-- Terms with blanks behind. -/
def joined (l : List Txt) : Txt := l.flatMap (· ++ [32])
theorem joined_cons (t : Txt) (l : List Txt) : joined (t :: l) = t ++ 32 :: joined l := by simp [joined]
theorem joined_snoc (l : List Txt) (t : Txt) : joined (l ++ [t]) = joined l ++ t ++ [32] := by simp [joined]
theorem words_joined : ∀ {l : List Txt}, (∀ t ∈ l, GoodT t) → words (joined l) = l
  | [], _ => rfl
  | t :: l, h => by
    rw [joined_cons, words_app letter_blank, words_one (h t (by simp)), words_joined fun u hu => h u (List.mem_cons_of_mem _ hu)]
    rfl
theorem terms_joined (s : Txt) : terms (joined (terms s)) = terms s := by
  have : words (joined (terms s)) = terms s := words_joined fun t ht => terms_good ht
  unfold terms at this ⊢
  rw [this]
  exact setT_self (setT_ris _)
/-! ### lengths -/
def wsum : List Txt → Nat
  | [] => 0
  | t :: l => t.length + 1 + wsum l
theorem wsum_sub {a b : List Txt} (h : a.Sublist b) : wsum a ≤ wsum b := by
  induction h with
  | slnil => exact Nat.le_refl _
  | cons x _ ih => simp [wsum]; omega
  | cons_cons x _ ih => simp [wsum]; omega
theorem wsum_perm {a b : List Txt} (h : a.Perm b) : wsum a = wsum b := by
  induction h with
  | nil => rfl
  | cons x _ ih => simp [wsum, ih]
  | swap x y l => simp [wsum]; omega
  | trans _ _ h1 h2 => exact h1.trans h2
theorem compact_sub (zs : List Txt) : (Lib.compact zs).Sublist zs := by
  have : ∀ m, m ≤ zs.length → (Lib.compactUpTo zs.toArray m).Sublist (zs.take m) := by
    intro m
    induction m with
    | zero => intro _; simp [Lib.compactUpTo]
    | succ m ih =>
      intro hm
      have hlt : m < zs.length := by omega
      have e1 : zs.toArray[m]! = zs[m] := by rw [getElem!_pos _ m (by simpa using hlt)]; simp
      rw [Lib.compactUpTo_succ, List.take_succ_eq_append_getElem hlt, e1]
      refine (ih (by omega)).append ?_
      split
      · exact List.Sublist.refl _
      · exact List.nil_sublist _
  have h := this zs.length (Nat.le_refl _)
  rwa [List.take_length] at h
theorem wsum_pieces : ∀ (x : Txt), wsum (pieces x) = x.length + 1
  | [] => rfl
  | c :: r => by
    have h1 := wsum_pieces r
    by_cases hc : c = 0
    · subst hc; simp [pieces, wsum, h1]; omega
    · simp only [pieces, if_neg hc]
      cases hp : pieces r with
      | nil => exact absurd hp (pieces_ne r)
      | cons p ps => rw [hp] at h1; simp [wsum] at h1 ⊢; omega
theorem wsum_take (ps : List Txt) : wsum (ps.map (List.take 12)) ≤ wsum ps := by
  induction ps with
  | nil => exact Nat.le_refl _
  | cons p l ih => simp [wsum]; omega
theorem wsum_terms (s : Txt) : wsum (terms s) ≤ s.length + 1 := by
  have h1 : wsum (terms s) ≤ wsum (sortT (words s)) := wsum_sub (compact_sub _)
  have h2 : wsum (sortT (words s)) = wsum (words s) := wsum_perm (List.mergeSort_perm _ _)
  have h3 : wsum (words s) ≤ wsum ((pieces (s.map letter)).filter fun p => p != []) := wsum_take _
  have h4 : wsum ((pieces (s.map letter)).filter fun p => p != []) ≤ wsum (pieces (s.map letter)) := wsum_sub List.filter_sublist
  have h5 := wsum_pieces (s.map letter)
  simp at h5
  omega
theorem joined_len (l : List Txt) : (joined l).length = wsum l := by
  induction l with
  | nil => rfl
  | cons t l ih => rw [joined_cons]; simp [wsum, ih]; omega
end Go.Proofs.YteajnglncglmfaaDoor

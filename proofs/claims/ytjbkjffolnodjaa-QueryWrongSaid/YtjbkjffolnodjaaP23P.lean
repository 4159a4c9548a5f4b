/- QueryWrong: each text is no query. -/
import Derived.Test.YtjbkjffolnodjaaP23O
namespace Go.Proofs.Ytjbkjffolnodjaa
open Go
set_option linter.unusedSimpArgs false
set_option linter.unusedVariables false
/-- Small letters, eight at most. -/
def Small (x : Txt) : Prop := x.length ≤ 8 ∧ ∀ b ∈ x, letter b = b ∧ b ≠ 0
def wrongs (x : Txt) : List Txt := [[], [33], [124] ++ x, x ++ [124], x ++ [38], [40] ++ x, x ++ [41], [40, 41], x ++ [124, 124] ++ x, [33, 124] ++ x, [38, 32] ++ x]
theorem word1 {x t : Txt} (hx : Small x) (hne : x ≠ []) (ht : t.length ≤ 100) (hz : t = [] ∨ letter (t.headD 0) = 0) : Word1 (x ++ t) x t :=
  ⟨rfl, ⟨hne, hx.2⟩, by have := hx.1; omega, by have := hx.1; simp; omega, hz⟩
def NoFac (t : Txt) : Prop := t.dropWhile (· == 32) = [] ∨ ((t.dropWhile (· == 32)).headD 0 ≠ 33 ∧ (t.dropWhile (· == 32)).headD 0 ≠ 40 ∧ letter ((t.dropWhile (· == 32)).headD 0) = 0)
theorem noFac_nil : NoFac [] := .inl rfl
theorem noFac_cons {c : UInt8} {t : Txt} (h32 : c ≠ 32) (h33 : c ≠ 33) (h40 : c ≠ 40) (hz : letter c = 0) : NoFac (c :: t) := by
  have hd : (c :: t : Txt).dropWhile (· == 32) = c :: t := by
    have : (c == 32) = false := by simpa using h32
    simp [List.dropWhile_cons, this]
  refine .inr ?_
  rw [hd]
  exact ⟨h33, h40, hz⟩
theorem sign_bad {t : Txt} (hl : t.length ≤ 500) (ht : NoFac t) : ∃ n, parseF n (33 :: t) = some ([], 7) := by
  have hx : Rdy ({ (start (33 :: t)).deeper with s := t } : St) := ⟨rfl, by show (0 : Int) ≤ 0 + 1; decide, by show (0 : Int) + 1 ≤ 63; decide⟩
  obtain ⟨y, hy, hb, hd⟩ := fac_bad' 0 hx ht
  have hd' : y.deep = 1 := hd
  obtain ⟨z, hz, hzb⟩ := fac_sign (n := 1) (rdy_start (33 :: t)) (r := t) rfl hy (by rw [hb]; decide) (by omega) (by omega)
  rw [hb] at hzb
  have := parse_bad (by simp; omega) (or_bad hz (by rw [hzb]; decide)) (by rw [hzb]; decide)
  rw [hzb] at this
  exact ⟨_, this⟩
theorem par_rdy (t : Txt) : Rdy ({ (start (40 :: t)).deeper with s := t } : St) := ⟨rfl, by show (0 : Int) ≤ 0 + 1; decide, by show (0 : Int) + 1 ≤ 63; decide⟩
theorem par_end {t : Txt} {n : Nat} {y : St} (hl : t.length ≤ 500) (hy : orF n ({ (start (40 :: t)).deeper with s := t } : St) = some y) (h1 : 0 ≤ y.deep) (h2 : y.deep ≤ 100) (hc : y.close.bad = 7) : ∃ n, parseF n (40 :: t) = some ([], 7) := by
  have hz := fac_par (rdy_start (40 :: t)) (r := t) rfl hy h1 h2
  have hb : ({ y.close with deep := y.deep - 1 } : St).bad = 7 := hc
  have := parse_bad (s := 40 :: t) (by simp; omega) (or_bad hz (by rw [hb]; decide)) (by rw [hb]; decide)
  rw [hb] at this
  exact ⟨_, this⟩
theorem par_bad {t : Txt} (hl : t.length ≤ 500) (ht : NoFac t) : ∃ n, parseF n (40 :: t) = some ([], 7) := by
  obtain ⟨y, hy, hb, hd⟩ := fac_bad' 0 (par_rdy t) ht
  have hd' : y.deep = 1 := hd
  have ho := or_bad hy (by rw [hb]; decide)
  refine par_end hl ho (by omega) (by omega) ?_
  rw [St.close, if_neg (by rw [hb]; decide)]; exact hb
theorem par_word {x : Txt} (hx : Small x) (hne : x ≠ []) : ∃ n, parseF n (40 :: x) = some ([], 7) := by
  have hl := hx.1
  have hf := (fac_word (x := ({ (start (40 :: x)).deeper with s := x } : St)) (w := x) (t := []) 1 (par_rdy x) (by simp) ⟨hne, hx.2⟩ (.inl rfl)).1 (by omega) (by simp [start, St.deeper])
  have ha : andF 3 ({ (start (40 :: x)).deeper with s := x } : St) = some ⟨[], 1, [(1, x)], 0⟩ := by
    rw [andF, hf]
    simp only [Option.bind_some]
    rw [andL, if_neg (fun hh => hh rfl), if_pos (.inl rfl)]
    rfl
  have ho : orF 4 ({ (start (40 :: x)).deeper with s := x } : St) = some ⟨[], 1, [(1, x)], 0⟩ := by
    rw [orF, ha]
    simp only [Option.bind_some]
    rw [orL, if_neg (fun hh => hh rfl), takes_nil rfl]
    rfl
  exact par_end (by omega) ho (by show (0 : Int) ≤ 1; decide) (by show (1 : Int) ≤ 100; decide) rfl
theorem wrongs_ok {x : Txt} (hx : Small x) : ∀ s ∈ wrongs x, ∃ n, parseF n s = some ([], 7) := by
  have hl := hx.1
  intro s hs
  simp only [wrongs, List.mem_cons, List.mem_nil_iff, or_false] at hs
  have c124 : ∀ t : Txt, NoFac (124 :: t) := fun t => noFac_cons (by decide) (by decide) (by decide) letter124
  have c38 : ∀ t : Txt, NoFac (38 :: t) := fun t => noFac_cons (by decide) (by decide) (by decide) letter38
  have c41 : ∀ t : Txt, NoFac (41 :: t) := fun t => noFac_cons (by decide) (by decide) (by decide) letter41
  rcases hs with rfl | rfl | rfl | rfl | rfl | rfl | rfl | rfl | rfl | rfl | rfl
  · exact parse_first (by simp) noFac_nil
  · exact sign_bad (by simp) noFac_nil
  · exact parse_first (by simp; omega) (c124 x)
  · by_cases hne : x = []
    · subst hne; exact parse_first (by simp) (c124 [])
    · exact (word1 (t := [124]) hx hne (by simp) (.inr letter124)).bar noFac_nil
  · by_cases hne : x = []
    · subst hne; exact parse_first (by simp) (c38 [])
    · refine (word1 (t := [38]) hx hne (by simp) (.inr letter38)).then (by decide) (by decide) (by decide) ?_
      rw [take_head (c := 38) (r := []) rfl (by decide)]
      exact fac_bad 0 ⟨rfl, Int.le_refl _, by show (0 : Int) ≤ 63; decide⟩ (.inl rfl)
  · by_cases hne : x = []
    · subst hne; exact par_bad (by simp) noFac_nil
    · exact par_word hx hne
  · by_cases hne : x = []
    · subst hne; exact parse_first (by simp) (c41 [])
    · exact (word1 (t := [41]) hx hne (by simp) (.inr letter41)).paren
  · exact par_bad (by simp) (c41 [])
  · by_cases hne : x = []
    · subst hne; exact parse_first (by simp) (c124 [124])
    · rw [List.append_assoc]
      exact (word1 (t := 124 :: 124 :: x) hx hne (by simp; omega) (.inr letter124)).bar (c124 x)
  · exact sign_bad (by simp; omega) (c124 x)
  · exact parse_first (by simp; omega) (c38 (32 :: x))
/-- A word that is too long. -/
theorem long_ok {x : Txt} (hx : Small x) : ∃ n, parseF n ([97, 98, 99, 100, 101, 102, 103, 104, 105, 106, 107, 108, 109] ++ x) = some ([], 6) := by
  have hl := hx.1
  have hg : GoodL ([97, 98, 99, 100, 101, 102, 103, 104, 105, 106, 107, 108, 109] ++ x) := by
    refine ⟨by simp, fun b hb => ?_⟩
    rcases List.mem_append.1 hb with h1 | h1
    · have : ∀ b ∈ ([97, 98, 99, 100, 101, 102, 103, 104, 105, 106, 107, 108, 109] : Txt), letter b = b ∧ b ≠ 0 := by decide
      exact this b h1
    · exact hx.2 b h1
  obtain ⟨y, hy, hb⟩ := (fac_word (x := start ([97, 98, 99, 100, 101, 102, 103, 104, 105, 106, 107, 108, 109] ++ x)) (t := []) 0 (rdy_start _) (by simp [start]) hg (.inl rfl)).2 (by simp)
  have := parse_bad (by simp; omega) (or_bad hy (by rw [hb]; decide)) (by rw [hb]; decide)
  rw [hb] at this
  exact ⟨_, this⟩
/-- What can't be between two words. -/
theorem odd_ok {b : UInt8} (h0 : letter b = 0) (h32 : b ≠ 32) (h33 : b ≠ 33) (h40 : b ≠ 40) (h41 : b ≠ 41) (h38 : b ≠ 38) (h124 : b ≠ 124) : ∃ n, parseF n ([97, 98] ++ [b] ++ [99, 100]) = some ([], 7) := by
  have hg : GoodL [97, 98] := ⟨by simp, by decide⟩
  have w : Word1 ([97, 98] ++ (b :: [99, 100])) [97, 98] (b :: [99, 100]) := ⟨rfl, hg, by simp, by simp, .inr h0⟩
  refine w.then h32 h124 h41 ?_
  rw [take_other (c := b) (r := [99, 100]) rfl h32 h38]
  exact fac_bad 0 ⟨rfl, Int.le_refl _, by show (0 : Int) ≤ 63; decide⟩ (noFac_cons (t := [99, 100]) h32 h33 h40 h0)
end Go.Proofs.Ytjbkjffolnodjaa

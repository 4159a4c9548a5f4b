/- Chapter 23: what the plain reader makes of words, and of what can't be there. -/
import Derived.Test.YtjbkjffolnodjaaP23N
namespace Go.Proofs.Ytjbkjffolnodjaa
open Go
set_option linter.unusedSimpArgs false
set_option linter.unusedVariables false
/-- Letters and digits, as they count. -/
def GoodL (w : Txt) : Prop := w ≠ [] ∧ ∀ b ∈ w, letter b = b ∧ b ≠ 0
theorem letter32 : letter 32 = 0 := by decide
theorem letter33 : letter 33 = 0 := by decide
theorem letter40 : letter 40 = 0 := by decide
theorem ne_of_letter {c d : UInt8} (hc : letter c ≠ 0) (hd : letter d = 0) : c ≠ d := fun e => hc (e ▸ hd)
theorem skip_head {x : St} {c : UInt8} {r : Txt} (hs : x.s = c :: r) (hc : c ≠ 32) : x.skip = x := by
  have : (c == 32) = false := by simpa using hc
  cases x
  simp only [St.skip] at *
  subst hs
  simp [List.dropWhile_cons, this]
theorem takes_head {x : St} {c d : UInt8} {r : Txt} (hs : x.s = c :: r) (hc : c ≠ 32) : x.takes d = (c == d) := by
  unfold St.takes
  rw [skip_head hs hc, hs]
  simp
theorem take_head {x : St} {c : UInt8} {r : Txt} (hs : x.s = c :: r) (hc : c ≠ 32) : x.take c = { x with s := r } := by
  unfold St.take
  rw [takes_head hs hc, skip_head hs hc, hs]
  simp
structure Rdy (x : St) : Prop where
  bad : x.bad = 0
  lo : 0 ≤ x.deep
  hi : x.deep ≤ 63
theorem Rdy.fits {x : St} (h : Rdy x) : x.fits = true := by have := h.lo; have := h.hi; simp [St.fits]; omega
theorem Rdy.enter {x : St} (h : Rdy x) : x.enter = x.deeper := by
  unfold St.enter
  have h1 : x.deeper.deep = x.deep + 1 := rfl
  have := h.hi
  rw [if_neg (by omega)]
theorem back {x : St} : ({ x.deeper with deep := x.deeper.deep - 1 } : St) = x := by
  cases x
  simp only [St.deeper]
  congr 1
  omega
theorem takeWhile_app {w t : Txt} (hw : ∀ b ∈ w, letter b = b ∧ b ≠ 0) (ht : t = [] ∨ letter (t.headD 0) = 0) : (w ++ t).takeWhile (fun c => letter c != 0) = w ∧ (w ++ t).dropWhile (fun c => letter c != 0) = t := by
  induction w with
  | nil =>
    cases t with
    | nil => exact ⟨rfl, rfl⟩
    | cons c r =>
      have hz : letter c = 0 := ht.elim (fun h => by cases h) id
      simp [List.takeWhile_cons, List.dropWhile_cons, hz]
  | cons c r ih =>
    have hz : letter c ≠ 0 := by have := hw c (by simp); rw [this.1]; exact this.2
    have := ih fun d hd => hw d (List.mem_cons_of_mem _ hd)
    simp [List.takeWhile_cons, List.dropWhile_cons, hz, this.1, this.2]
theorem map_good {t : Txt} (h : ∀ b ∈ t, letter b = b ∧ b ≠ 0) : t.map letter = t := by
  induction t with
  | nil => rfl
  | cons a r ih => rw [List.map_cons, (h a (by simp)).1, ih fun b hb => h b (List.mem_cons_of_mem _ hb)]
theorem part_push {x : St} (hb : x.bad = 0) (hl : x.out.length ≤ 63) (k : Int) (t : Txt) : x.part k t = { x with out := x.out ++ [(k, t)] } := by
  have hf : x.full = x := by unfold St.full; rw [if_neg (by omega)]
  unfold St.part
  rw [hf, if_pos hb]
/-- A word, as a factor. -/
theorem fac_word {x : St} {w t : Txt} (n : Nat) (h : Rdy x) (hs : x.s = w ++ t) (hw : GoodL w) (ht : t = [] ∨ letter (t.headD 0) = 0) :
    (w.length ≤ 12 → x.out.length ≤ 63 → factorF (n + 1) x = some { x with s := t, out := x.out ++ [(1, w)] }) ∧ (12 < w.length → ∃ y, factorF (n + 1) x = some y ∧ y.bad = 6) := by
  obtain ⟨c, r, rfl⟩ := List.exists_cons_of_ne_nil hw.1
  have hc := hw.2 c (by simp)
  have hcl : letter c ≠ 0 := by rw [hc.1]; exact hc.2
  have hs' : x.deeper.s = c :: (r ++ t) := hs
  have h32 := ne_of_letter hcl letter32
  have e33 : (c == 33) = false := by simpa using ne_of_letter hcl letter33
  have e40 : (c == 40) = false := by simpa using ne_of_letter hcl letter40
  have hsk := skip_head hs' h32
  have hlets : St.lets x.deeper.s = c :: r := by
    unfold St.lets
    rw [show x.deeper.s = (c :: r) ++ t from hs, (takeWhile_app hw.2 ht).1, map_good hw.2]
  have hcut : x.deeper.cut = { x.deeper with s := t } := by
    unfold St.cut
    rw [show x.deeper.s = (c :: r) ++ t from hs, (takeWhile_app hw.2 ht).2]
  have e : factorF (n + 1) x = x.deeper.word.leave := by
    rw [factorF, if_pos h.fits, h.enter, if_neg (fun hh => hh (show x.deeper.bad = 0 from h.bad)), takes_head hs' h32, e33, takes_head hs' h32, e40, hsk]
    simp only [Bool.false_eq_true, if_false]
    rw [if_pos (by rw [hs']; exact hcl)]
  have hd : x.deeper.deep = x.deep + 1 := rfl
  have hlo := h.lo
  have hhi := h.hi
  constructor
  · intro h12 hroom
    rw [e]
    have hb : x.deeper.bad = 0 := h.bad
    have : x.deeper.word = { x.deeper with s := t, out := x.out ++ [(1, c :: r)] } := by
      unfold St.word
      rw [hlets, if_neg (by omega), hcut]
      exact part_push (x := { x.deeper with s := t }) h.bad hroom 1 (c :: r)
    rw [this, leave_ok (by show 0 ≤ x.deep + 1; omega) (by show x.deep + 1 ≤ 100; omega)]
    congr 1
    simp only [St.deeper]
    congr 1
    omega
  · intro h12
    have h6 : (x.deeper.cut.wrong 6).bad = 6 ∧ (x.deeper.cut.wrong 6).deep = x.deep + 1 := by
      unfold St.wrong; rw [if_pos (show x.deeper.cut.bad = 0 from h.bad)]; exact ⟨rfl, rfl⟩
    have : x.deeper.word = x.deeper.cut.wrong 6 := by
      unfold St.word
      rw [hlets, if_pos h12, part_bad (by rw [h6.1]; decide)]
    rw [e, this, leave_ok (by omega) (by omega)]
    exact ⟨_, rfl, h6.1⟩
/-- What no factor begins with. -/
theorem fac_bad' {x : St} (n : Nat) (h : Rdy x) (hs : x.skip.s = [] ∨ (x.skip.s.headD 0 ≠ 33 ∧ x.skip.s.headD 0 ≠ 40 ∧ letter (x.skip.s.headD 0) = 0)) : ∃ y, factorF (n + 1) x = some y ∧ y.bad = 7 ∧ y.deep = x.deep := by
  have hsk : x.deeper.skip.s = x.skip.s := rfl
  have t : ∀ d, (d = 33 ∨ d = 40) → x.deeper.takes d = false := fun d hd => by
    unfold St.takes
    rw [hsk]
    rcases hs with h1 | ⟨h1, h2, _⟩
    · rw [h1]; rfl
    · cases hx : x.skip.s with
      | nil => rfl
      | cons c r =>
        rw [hx] at h1 h2
        have h1' : c ≠ 33 := h1
        have h2' : c ≠ 40 := h2
        rcases hd with rfl | rfl
        · simpa using h1'
        · simpa using h2'
  have hl : letter (x.deeper.skip.s.headD 0) = 0 := by
    rw [hsk]
    rcases hs with h1 | ⟨_, _, h1⟩
    · rw [h1]; decide
    · exact h1
  rw [factorF, if_pos h.fits, h.enter, if_neg (fun hh => hh (show x.deeper.bad = 0 from h.bad)), t 33 (.inl rfl), t 40 (.inr rfl)]
  simp only [Bool.false_eq_true, if_false]
  rw [if_neg (fun hh => hh hl)]
  have hlo := h.lo
  have hhi := h.hi
  have h7 : (x.deeper.skip.wrong 7).bad = 7 ∧ (x.deeper.skip.wrong 7).deep = x.deep + 1 := by
    unfold St.wrong; rw [if_pos (show x.deeper.skip.bad = 0 from h.bad)]; exact ⟨rfl, rfl⟩
  rw [leave_ok (by omega) (by omega)]
  exact ⟨_, rfl, h7.1, by show (x.deeper.skip.wrong 7).deep - 1 = x.deep; omega⟩
theorem fac_bad {x : St} (n : Nat) (h : Rdy x) (hs : x.skip.s = [] ∨ (x.skip.s.headD 0 ≠ 33 ∧ x.skip.s.headD 0 ≠ 40 ∧ letter (x.skip.s.headD 0) = 0)) : ∃ y, factorF (n + 1) x = some y ∧ y.bad = 7 := by
  obtain ⟨y, h1, h2, _⟩ := fac_bad' n h hs
  exact ⟨y, h1, h2⟩
theorem and_bad {x y : St} {n : Nat} (h : factorF (n + 1) x = some y) (hb : y.bad ≠ 0) : andF (n + 2) x = some y := by
  rw [andF, h]; exact andL_bad (by omega) hb
theorem parse_bad {s : Txt} {n : Nat} {y : St} (hl : s.length ≤ 512) (hy : orF n (start s) = some y) (hb : y.bad ≠ 0) : parseF n s = some ([], y.bad) := by
  have hf : (finish y).bad = y.bad := by
    unfold finish
    split
    · rfl
    · unfold St.wrong
      split
      · rename_i h; exact absurd h hb
      · rfl
  unfold parseF
  rw [if_neg (by omega), hy]
  simp only [Option.map_some, hf]
  rw [if_neg hb]
theorem rdy_start (s : Txt) : Rdy (start s) := ⟨rfl, Int.le_refl _, by show (0 : Int) ≤ 63; decide⟩
/-- A word is read; what is behind it. -/
structure Word1 (s w t : Txt) : Prop where
  eq : s = w ++ t
  good : GoodL w
  len : w.length ≤ 12
  size : s.length ≤ 512
  tl : t = [] ∨ letter (t.headD 0) = 0
def st1 (w t : Txt) : St := ⟨t, 0, [(1, w)], 0⟩
theorem Word1.fac {s w t : Txt} (h : Word1 s w t) (n : Nat) : factorF (n + 1) (start s) = some (st1 w t) := by
  have := (fac_word n (rdy_start s) h.eq h.good h.tl).1 h.len (by simp [start])
  rw [this]; rfl
/-- Behind the word a bar or a closing bracket. -/
theorem Word1.and {s w r : Txt} {c : UInt8} (h : Word1 s w (c :: r)) (hc : c = 124 ∨ c = 41) (n : Nat) : andF (n + 2) (start s) = some (st1 w (c :: r)) := by
  have h32 : c ≠ 32 := by rcases hc with rfl | rfl <;> decide
  have hsk : (st1 w (c :: r)).skip = st1 w (c :: r) := skip_head (c := c) (r := r) rfl h32
  rw [andF, h.fac n]
  simp only [Option.bind_some]
  rw [andL, if_neg (fun hh => hh rfl), hsk, if_pos]
  rcases hc with rfl | rfl
  · exact .inr (.inl rfl)
  · exact .inr (.inr rfl)
theorem Word1.bar {s w r : Txt} (h : Word1 s w (124 :: r)) (hr : r.dropWhile (· == 32) = [] ∨ ((r.dropWhile (· == 32)).headD 0 ≠ 33 ∧ (r.dropWhile (· == 32)).headD 0 ≠ 40 ∧ letter ((r.dropWhile (· == 32)).headD 0) = 0)) : ∃ n, parseF n s = some ([], 7) := by
  have hx : Rdy (st1 w r) := ⟨rfl, Int.le_refl _, by show (0 : Int) ≤ 63; decide⟩
  obtain ⟨y, hy, hb⟩ := fac_bad 0 hx hr
  have hbn : y.bad ≠ 0 := by rw [hb]; decide
  have : orF 4 (start s) = some y := by
    rw [orF, h.and (.inl rfl) 1]
    simp only [Option.bind_some]
    rw [orL, if_neg (fun hh => hh rfl), takes_head (c := 124) (r := r) rfl (by decide), if_pos (show ((124 : UInt8) == 124) = true from rfl), take_head (c := 124) (r := r) rfl (by decide), show ({ st1 w (124 :: r) with s := r } : St) = st1 w r from rfl, and_bad hy hbn]
    simp only [Option.bind_some, part_bad hbn]
    exact orL_bad (by omega) hbn
  have := parse_bad h.size this hbn
  rw [hb] at this
  exact ⟨_, this⟩
/-- Behind the word something else; then a fault. -/
theorem Word1.then {s w : Txt} {c : UInt8} {r : Txt} (h : Word1 s w (c :: r)) (h32 : c ≠ 32) (h124 : c ≠ 124) (h41 : c ≠ 41)
    (hr : ∃ y, factorF 1 ((st1 w (c :: r)).take 38) = some y ∧ y.bad = 7) : ∃ n, parseF n s = some ([], 7) := by
  have hsk : (st1 w (c :: r)).skip = st1 w (c :: r) := skip_head (c := c) (r := r) rfl h32
  obtain ⟨y, hy, hb⟩ := hr
  have hbn : y.bad ≠ 0 := by rw [hb]; decide
  have hy2 : factorF 1 ((st1 w (c :: r)).take 38) = some y := hy
  have : andF 3 (start s) = some y ∨ True := .inr trivial
  have e : andF 3 (start s) = (factorF 1 ((st1 w (c :: r)).take 38)).bind fun y => andL 1 (y.part 2 []) := by
    rw [andF, h.fac 1]
    simp only [Option.bind_some]
    rw [andL, if_neg (fun hh => hh rfl), hsk, if_neg]
    simp only [not_or]
    exact ⟨List.cons_ne_nil _ _, h124, h41⟩
  have e2 : andF 3 (start s) = some y := by
    rw [e, hy2]
    simp only [Option.bind_some, part_bad hbn]
    exact andL_bad (by omega) hbn
  have e3 : orF 4 (start s) = some y := by rw [orF, e2]; exact orL_bad (by omega) hbn
  have := parse_bad h.size e3 hbn
  rw [hb] at this
  exact ⟨_, this⟩
end Go.Proofs.Ytjbkjffolnodjaa

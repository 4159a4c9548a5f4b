/- Chapter 22: texts, their pieces, their words; rising lists of texts. Plain lists. -/
import Derived.Lib.SlicesCompact
import Derived.Lib.Bytealg
namespace Go.Proofs.YteajnglncglmfaaDoor
open Go
set_option linter.unusedSimpArgs false
set_option linter.unusedVariables false
abbrev Txt := List UInt8
theorem tlt_irrefl (x : Txt) : ¬ x < x := List.lt_irrefl x
theorem tlt_trans {x y z : Txt} (h : x < y) (k : y < z) : x < z := List.lt_trans h k
theorem tlt_asymm {x y : Txt} (h : x < y) (k : y < x) : False := tlt_irrefl x (tlt_trans h k)
theorem tle_total (x y : Txt) : x ≤ y ∨ y ≤ x := List.le_total x y
theorem tle_trans {x y z : Txt} (h : x ≤ y) (k : y ≤ z) : x ≤ z := List.le_trans h k
theorem tlt_of {x y : Txt} (h : x ≤ y) (k : x ≠ y) : x < y := by
  rcases Classical.em (x < y) with h1 | h1
  · exact h1
  · exact absurd (List.le_antisymm h (List.not_lt.1 h1)) k
/-- Strictly rising. -/
def Ris (l : List Txt) : Prop := l.Pairwise (· < ·)
theorem ris_ext : ∀ {l m : List Txt}, Ris l → Ris m → (∀ x, x ∈ l ↔ x ∈ m) → l = m
  | [], [], _, _, _ => rfl
  | [], y :: ys, _, _, h => by have := (h y).2 (by simp); simp at this
  | x :: xs, [], _, _, h => by have := (h x).1 (by simp); simp at this
  | x :: xs, y :: ys, h1, h2, h => by
    obtain ⟨a1, a2⟩ := List.pairwise_cons.1 h1
    obtain ⟨b1, b2⟩ := List.pairwise_cons.1 h2
    have e : x = y := by
      have hx := (h x).1 (by simp)
      have hy := (h y).2 (by simp)
      simp only [List.mem_cons] at hx hy
      rcases hx with hx | hx
      · exact hx
      · rcases hy with hy | hy
        · exact hy.symm
        · exact (tlt_asymm (b1 x hx) (a1 y hy)).elim
    subst e
    congr 1
    refine ris_ext a2 b2 fun z => ⟨fun hz => ?_, fun hz => ?_⟩
    · have := (h z).1 (List.mem_cons_of_mem _ hz)
      simp only [List.mem_cons] at this
      rcases this with rfl | this
      · exact (tlt_irrefl _ (a1 _ hz)).elim
      · exact this
    · have := (h z).2 (List.mem_cons_of_mem _ hz)
      simp only [List.mem_cons] at this
      rcases this with rfl | this
      · exact (tlt_irrefl _ (b1 _ hz)).elim
      · exact this
/-- Of a sorted list each once. -/
theorem compact_to {zs : List Txt} (hs : zs.Pairwise (· ≤ ·)) : ∀ m, m ≤ zs.length → Ris (Lib.compactUpTo zs.toArray m) ∧ (∀ x, x ∈ Lib.compactUpTo zs.toArray m ↔ ∃ j, j < m ∧ zs[j]? = some x) := by
  intro m
  induction m with
  | zero => intro _; simp [Lib.compactUpTo, Ris]
  | succ m ih =>
    intro hm
    obtain ⟨h1, h2⟩ := ih (by omega)
    have hlt : m < zs.length := by omega
    have e1 : zs.toArray[m]! = zs[m] := by rw [getElem!_pos _ m (by simpa using hlt)]; simp
    rw [Lib.compactUpTo_succ]
    have mono : ∀ j (hj : j < m), zs[j]'(by omega) ≤ zs[m] := fun j hj => List.pairwise_iff_getElem.1 hs j m (by omega) hlt hj
    by_cases hk : Lib.keeps zs.toArray m = true
    · rw [if_pos hk, e1]
      constructor
      · refine List.pairwise_append.2 ⟨h1, by simp, fun x hx y hy => ?_⟩
        simp only [List.mem_singleton] at hy
        subst hy
        obtain ⟨j, hj, hjx⟩ := (h2 x).1 hx
        have hm0 : 0 < m := by omega
        have e2 : zs.toArray[m - 1]! = zs[m - 1] := by rw [getElem!_pos _ (m - 1) (by simp; omega)]; simp
        have hne : zs[m] ≠ zs[m - 1] := by
          intro e
          rw [Lib.keeps_neg hm0 (by rw [e1, e2, e])] at hk; cases hk
        have hlt1 : zs[m - 1] < zs[m] := tlt_of (mono (m - 1) (by omega)) (Ne.symm hne)
        obtain ⟨hj', rfl⟩ := List.getElem?_eq_some_iff.1 hjx
        by_cases he : j = m - 1
        · subst he; exact hlt1
        · have : zs[j] ≤ zs[m - 1] := List.pairwise_iff_getElem.1 hs j (m - 1) (by omega) (by omega) (by omega)
          rcases Classical.em (zs[j] < zs[m]) with h5 | h5
          · exact h5
          · exact absurd (tle_trans (List.not_lt.1 h5) this) (List.not_le.2 hlt1)
      · intro x
        rw [List.mem_append, h2 x]
        constructor
        · rintro (⟨j, hj, hx⟩ | hx)
          · exact ⟨j, by omega, hx⟩
          · simp only [List.mem_singleton] at hx; subst hx; exact ⟨m, by omega, List.getElem?_eq_getElem hlt⟩
        · rintro ⟨j, hj, hx⟩
          by_cases e : j = m
          · subst e
            right
            rw [List.getElem?_eq_getElem hlt] at hx
            cases hx; simp
          · exact .inl ⟨j, by omega, hx⟩
    · have hk' : Lib.keeps zs.toArray m = false := by simpa using hk
      rw [if_neg hk, List.append_nil]
      refine ⟨h1, fun x => ?_⟩
      rw [h2 x]
      constructor
      · rintro ⟨j, hj, hx⟩; exact ⟨j, by omega, hx⟩
      · rintro ⟨j, hj, hx⟩
        by_cases e : j = m
        · subst e
          simp only [Lib.keeps, decide_eq_false_iff_not, not_or, Decidable.not_not] at hk'
          obtain ⟨h0, he⟩ := hk'
          have e2 : zs.toArray[j - 1]! = zs[j - 1] := by rw [getElem!_pos _ (j - 1) (by simp; omega)]; simp
          refine ⟨j - 1, by omega, ?_⟩
          rw [List.getElem?_eq_getElem hlt] at hx
          cases hx
          rw [List.getElem?_eq_getElem (by omega)]
          rw [e1, e2] at he
          rw [he]
        · exact ⟨j, by omega, hx⟩
theorem compact_ris {zs : List Txt} (hs : zs.Pairwise (· ≤ ·)) : Ris (Lib.compact zs) ∧ ∀ x, x ∈ Lib.compact zs ↔ x ∈ zs := by
  obtain ⟨h1, h2⟩ := compact_to hs zs.length (Nat.le_refl _)
  refine ⟨h1, fun x => (h2 x).trans ?_⟩
  rw [List.mem_iff_getElem?]
  constructor
  · rintro ⟨j, _, h⟩; exact ⟨j, h⟩
  · rintro ⟨j, h⟩; exact ⟨j, (List.getElem?_eq_some_iff.1 h).1, h⟩
def sortT (zs : List Txt) : List Txt := zs.mergeSort fun x y => decide (x ≤ y)
theorem sortT_len (zs : List Txt) : (sortT zs).length = zs.length := List.length_mergeSort zs
theorem sortT_le (zs : List Txt) : (sortT zs).Pairwise (· ≤ ·) := by
  have := List.pairwise_mergeSort (le := fun (x y : Txt) => decide (x ≤ y)) (fun a b c h k => by simp only [decide_eq_true_eq] at *; exact tle_trans h k) (fun a b => by
    simp only [Bool.or_eq_true, decide_eq_true_eq]; exact tle_total a b) zs
  exact this.imp fun h => by simpa using h
theorem sortT_mem (zs : List Txt) (x : Txt) : x ∈ sortT zs ↔ x ∈ zs := (List.mergeSort_perm zs _).mem_iff
/-- Each once, rising. -/
def setT (zs : List Txt) : List Txt := Lib.compact (sortT zs)
theorem setT_ris (zs : List Txt) : Ris (setT zs) := (compact_ris (sortT_le zs)).1
theorem setT_mem (zs : List Txt) (x : Txt) : x ∈ setT zs ↔ x ∈ zs := ((compact_ris (sortT_le zs)).2 x).trans (sortT_mem zs x)
theorem setT_eq {zs l : List Txt} (h : Ris l) (hm : ∀ x, x ∈ l ↔ x ∈ zs) : setT zs = l := ris_ext (setT_ris zs) h fun x => (setT_mem zs x).trans (hm x).symm
/-- A byte as it counts in a term. -/
def letter (b : UInt8) : UInt8 := if (97 ≤ b ∧ b ≤ 122) ∨ (48 ≤ b ∧ b ≤ 57) then b else if 65 ≤ b ∧ b ≤ 90 then b + 32 else 0
/-- Parted at the noughts. -/
def pieces : Txt → List Txt
  | [] => [[]]
  | c :: r => if c = 0 then [] :: pieces r else match pieces r with
    | p :: ps => (c :: p) :: ps
    | [] => [[c]]
theorem pieces_ne (s : Txt) : pieces s ≠ [] := by
  cases s with
  | nil => simp [pieces]
  | cons c r =>
    simp only [pieces]
    split
    · simp
    · split <;> simp
theorem pieces_none {s : Txt} (h : (0 : UInt8) ∉ s) : pieces s = [s] := by
  induction s with
  | nil => rfl
  | cons c r ih =>
    simp only [List.mem_cons, not_or] at h
    have h1 : ¬ c = 0 := fun e => h.1 e.symm
    simp only [pieces, if_neg h1, ih h.2]
theorem pieces_at {s : Txt} {i : Nat} (h : Lib.indexByte s 0 = (i : Int)) : i < s.length ∧ pieces s = s.take i :: pieces (s.drop (i + 1)) := by
  induction s generalizing i with
  | nil => simp [Lib.indexByte] at h
  | cons c r ih =>
    unfold Lib.indexByte at h
    by_cases hc : c = 0
    · subst hc
      simp at h
      have : i = 0 := by omega
      subst this
      simp [pieces]
    · have hc' : (c == 0) = false := by simpa using hc
      simp only [hc', Bool.false_eq_true, if_false] at h
      have hge := Lib.indexByte_ge r 0
      split at h
      · omega
      · obtain ⟨j, hj⟩ : ∃ j : Nat, Lib.indexByte r 0 = (j : Int) := by
          rename_i hne
          have : Lib.indexByte r 0 ≠ -1 := by simpa using hne
          exact ⟨(Lib.indexByte r 0).toNat, by omega⟩
        rw [hj] at h
        have hi : i = j + 1 := by omega
        subst hi
        obtain ⟨h1, h2⟩ := ih hj
        refine ⟨by simp; omega, ?_⟩
        simp only [pieces, if_neg hc, h2, List.take_succ_cons, List.drop_succ_cons]
/-- The words of a text, cut. -/
def wordsOf (ps : List Txt) : List Txt := (ps.filter fun p => p != []).map (List.take 12)
def words (s : Txt) : List Txt := wordsOf (pieces (s.map letter))
def terms (s : Txt) : List Txt := setT (words s)
theorem wordsOf_append (a b : List Txt) : wordsOf (a ++ b) = wordsOf a ++ wordsOf b := by simp [wordsOf]
theorem pieces_len (s : Txt) : (pieces s).length ≤ s.length + 1 := by
  induction s with
  | nil => simp [pieces]
  | cons c r ih =>
    simp only [pieces]
    split
    · simpa using ih
    · split
      · rename_i p ps e; rw [e] at ih; simp at ih ⊢; omega
      · simp
theorem words_len (s : Txt) : (words s).length ≤ s.length + 1 := by
  have h1 := pieces_len (s.map letter)
  have h2 : (wordsOf (pieces (s.map letter))).length ≤ (pieces (s.map letter)).length := by simp only [wordsOf, List.length_map]; exact List.length_filter_le _ _
  simp only [List.length_map] at h1
  exact Nat.le_trans h2 h1
end Go.Proofs.YteajnglncglmfaaDoor

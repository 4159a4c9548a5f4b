/- Terms, leaves, a leaf's words; the law NodeLeafApart. -/
import Derived.Test.YtpabmkicdcilpaaP7O
namespace Go.Proofs.Ytpabmkicdcilpaa
open Go.Vm
set_option linter.unusedSimpArgs false
set_option linter.unusedVariables false
set_option maxRecDepth 100000
variable {T : Vm.Prog} {h : AH}
/-- May a term be? -/
def rightT (s : List UInt8) : Bool := decide (s ≠ [] ∧ s.length ≤ 12 ∧ 0 ∉ s)
/-- A text without the nought at its end. -/
def cutP (key : List UInt8) : Option (List UInt8) := if key.getLast? = some 0 then some key.dropLast else none
/-- The term of a key. -/
def ofT (key : List UInt8) : Option (List UInt8) := (cutP key).bind fun s => if rightT s then some s else none
structure LeafP where
  key : List UInt8
  val : Int
  deriving DecidableEq
def LeafP.cells (l : LeafP) : List AV := [.str l.key, .int .i64 l.val]
def rightL (l : LeafP) : Bool := (ofT l.key).isSome && decide (0 ≤ l.val) && decide (l.val ≤ 1099511627776)
theorem ofT_len {key s : List UInt8} (h : ofT key = some s) : key = s ++ [0] ∧ s.length ≤ 12 := by
  unfold ofT cutP at h
  split at h
  · rename_i h1
    simp only [Option.bind_some] at h
    split at h
    · rename_i h2
      cases h
      unfold rightT at h2
      rw [decide_eq_true_eq] at h2
      have hne : key ≠ [] := fun e => by rw [e] at h1; simp at h1
      rw [List.getLast?_eq_some_getLast hne] at h1
      have e := List.dropLast_concat_getLast hne
      rw [Option.some.inj h1] at e
      exact ⟨e.symm, h2.2.1⟩
    · cases h
  · cases h
theorem rightL_iff {l : LeafP} : rightL l = true ↔ (∃ s, ofT l.key = some s) ∧ 0 ≤ l.val ∧ l.val ≤ 1099511627776 := by
  unfold rightL
  rw [Bool.and_eq_true, Bool.and_eq_true, decide_eq_true_eq, decide_eq_true_eq, Option.isSome_iff_exists]
  constructor
  · rintro ⟨⟨h1, h2⟩, h3⟩; exact ⟨h1, h2, h3⟩
  · rintro ⟨h1, h2, h3⟩; exact ⟨⟨h1, h2⟩, h3⟩
/-- A leaf's words. -/
def leafG (l : LeafP) (j : Nat) : Nat := if j = 1 then l.key.length * 256 else if j = 2 ∨ j = 3 then dig (blk (nat8 l.key) (j - 2)) else if j = 4 then l.val.toNat else 0
def leafW (l : LeafP) : List Nat := (List.range 8).map (leafG l)
def leafE (l : LeafP) : List Nat := if rightL l then leafW l else []
theorem leafW_inj {a b : LeafP} (ha : rightL a = true) (hb : rightL b = true) (e : leafW a = leafW b) : a = b := by
  have at' : ∀ j, j < 8 → leafG a j = leafG b j := fun j hj => by
    have h1 : (leafW a)[j]? = some (leafG a j) := by simp [leafW, List.getElem?_range hj]
    have h2 : (leafW b)[j]? = some (leafG b j) := by simp [leafW, List.getElem?_range hj]
    rw [e, h2] at h1
    exact (Option.some.inj h1).symm
  obtain ⟨⟨s, hs⟩, a0, a1⟩ := rightL_iff.1 ha
  obtain ⟨⟨t, ht⟩, b0, b1⟩ := rightL_iff.1 hb
  have la := (ofT_len hs)
  have lb := (ofT_len ht)
  have e1 := at' 1 (by omega)
  have e2 := at' 2 (by omega)
  have e3 := at' 3 (by omega)
  have e4 := at' 4 (by omega)
  simp only [leafG] at e1 e2 e3 e4
  simp at e1 e2 e3 e4
  have hlen : a.key.length = b.key.length := by omega
  have hk : a.key = b.key := by
    have h13 : a.key.length ≤ 13 := by rw [la.1]; simp; omega
    refine (words_inj (n := 2) hlen (by omega)).1 ?_
    apply List.ext_getElem?
    intro j
    by_cases hj : j < 2
    · rw [wordsN_get hj, wordsN_get hj]
      have : j = 0 ∨ j = 1 := by omega
      rcases this with rfl | rfl
      · rw [e2]
      · rw [e3]
    · rw [List.getElem?_eq_none (by rw [wordsN_len]; omega), List.getElem?_eq_none (by rw [wordsN_len]; omega)]
  obtain ⟨ka, va⟩ := a
  obtain ⟨kb, vb⟩ := b
  simp only at hk a0 b0 e4
  subst hk
  congr 1
  omega
end Go.Proofs.Ytpabmkicdcilpaa

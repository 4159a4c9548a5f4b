/- Bytes in words: plain numbers, no program in sight. -/
import Derived.Test.YtcnghmfmokmnpaaVmZ
namespace Go.Proofs.Ytcnghmfmokmnpaa
set_option linter.unusedSimpArgs false
set_option linter.unusedVariables false
/-- The number that bytes make, the first lowest. -/
def dig : List Nat → Nat
  | [] => 0
  | b :: r => b + 256 * dig r
theorem dig_snoc (b : Nat) : ∀ (l : List Nat), dig (l ++ [b]) = dig l + b * 256 ^ l.length
  | [] => by simp [dig]
  | a :: l => by
    simp only [List.cons_append, dig, dig_snoc b l, List.length_cons, Nat.pow_succ, Nat.mul_add]
    have : 256 * (b * 256 ^ l.length) = b * (256 ^ l.length * 256) := by rw [Nat.mul_left_comm, Nat.mul_comm (256 ^ l.length)]
    omega
theorem dig_lt : ∀ (l : List Nat), (∀ b ∈ l, b < 256) → dig l < 256 ^ l.length
  | [], _ => by simp [dig]
  | a :: l, h => by
    have h1 := h a (by simp)
    have h2 := dig_lt l fun b hb => h b (by simp [hb])
    simp only [dig, List.length_cons, Nat.pow_succ]
    omega
theorem dig_byte : ∀ (l : List Nat), (∀ b ∈ l, b < 256) → ∀ k, dig l / 256 ^ k % 256 = (l[k]?).getD 0
  | [], _, k => by simp [dig]
  | a :: l, h, 0 => by
    have h1 := h a (by simp)
    simp only [dig, Nat.pow_zero, Nat.div_one, List.getElem?_cons_zero, Option.getD_some]
    omega
  | a :: l, h, k + 1 => by
    have h1 := h a (by simp)
    have h2 := dig_byte l (fun b hb => h b (by simp [hb])) k
    simp only [dig, List.getElem?_cons_succ, Nat.pow_succ]
    rw [Nat.mul_comm (256 ^ k) 256, ← Nat.div_div_eq_div_mul, show (a + 256 * dig l) / 256 = dig l by omega]
    exact h2
/-- The bytes of one word. -/
def blk (bs : List Nat) (j : Nat) : List Nat := (bs.drop (8 * j)).take 8
theorem blk_take (bs : List Nat) (i j : Nat) : blk (bs.take i) j = (bs.drop (8 * j)).take (min 8 (i - 8 * j)) := by
  unfold blk
  rw [List.drop_take, List.take_take]
theorem blk_small {bs : List Nat} (h : ∀ b ∈ bs, b < 256) (j : Nat) : ∀ b ∈ blk bs j, b < 256 :=
  fun b hb => h b (List.mem_of_mem_drop (List.mem_of_mem_take hb))
theorem blk_len (bs : List Nat) (j : Nat) : (blk bs j).length ≤ 8 := by unfold blk; simp; omega
theorem blk_other {bs : List Nat} {i j : Nat} (h : j ≠ i / 8) : blk (bs.take (i + 1)) j = blk (bs.take i) j := by
  rw [blk_take, blk_take]
  congr 1
  omega
theorem blk_this {bs : List Nat} {i b : Nat} (h : bs[i]? = some b) : blk (bs.take (i + 1)) (i / 8) = blk (bs.take i) (i / 8) ++ [b] ∧ (blk (bs.take i) (i / 8)).length = i % 8 := by
  have hi : i < bs.length := by
    rcases Nat.lt_or_ge i bs.length with h' | h'
    · exact h'
    · rw [List.getElem?_eq_none h'] at h; cases h
  rw [blk_take, blk_take, show min 8 (i + 1 - 8 * (i / 8)) = i % 8 + 1 by omega, show min 8 (i - 8 * (i / 8)) = i % 8 by omega]
  constructor
  · rw [List.take_add_one, List.getElem?_drop, show 8 * (i / 8) + i % 8 = i by omega, h]; rfl
  · simp; omega
theorem blk_get (bs : List Nat) (k : Nat) : (blk bs (k / 8))[k % 8]? = bs[k]? := by
  unfold blk
  rw [List.getElem?_take, if_pos (by omega), List.getElem?_drop, show 8 * (k / 8) + k % 8 = k by omega]
/-- A text's words. -/
def wordsN (bs : List Nat) (n : Nat) : List Nat := (List.range n).map fun j => dig (blk bs j)
theorem wordsN_len (bs : List Nat) (n : Nat) : (wordsN bs n).length = n := by simp [wordsN]
theorem wordsN_get {bs : List Nat} {n j : Nat} (h : j < n) : (wordsN bs n)[j]? = some (dig (blk bs j)) := by simp [wordsN, h]
theorem wordsN_none {n : Nat} : wordsN [] n = List.replicate n 0 := by
  apply List.ext_getElem?
  intro j
  by_cases h : j < n
  · rw [wordsN_get h]; simp [h, blk, dig]
  · rw [List.getElem?_eq_none (by rw [wordsN_len]; omega), List.getElem?_eq_none (by simp; omega)]
theorem pow256 (k : Nat) : 256 ^ k = 2 ^ (8 * k) := by rw [Nat.pow_mul]
theorem wordsN_lt {bs : List Nat} {n : Nat} (h : ∀ b ∈ bs, b < 256) : ∀ x ∈ wordsN bs n, x < 18446744073709551616 := by
  intro x hx
  simp only [wordsN, List.mem_map] at hx
  obtain ⟨j, _, rfl⟩ := hx
  have := dig_lt (blk bs j) (blk_small h j)
  have h2 := Nat.pow_le_pow_right (n := 256) (by decide) (blk_len bs j)
  have h3 : 256 ^ 8 = 18446744073709551616 := by decide
  omega
/-- One byte more: an or, or a sum. -/
theorem words_step {bs : List Nat} {n i b : Nat} (hs : ∀ b ∈ bs, b < 256) (h : bs[i]? = some b) (hn : i / 8 < n) :
    dig (blk (bs.take i) (i / 8)) ||| (b * 2 ^ (8 * (i % 8))) < 18446744073709551616 ∧
    wordsN (bs.take (i + 1)) n = (wordsN (bs.take i) n).set (i / 8) (dig (blk (bs.take i) (i / 8)) ||| (b * 2 ^ (8 * (i % 8)))) := by
  obtain ⟨h1, h2⟩ := blk_this h
  have hsm : ∀ b ∈ blk (bs.take i) (i / 8), b < 256 := blk_small (fun b hb => hs b (List.mem_of_mem_take hb)) _
  have hlt := dig_lt _ hsm
  rw [h2, pow256] at hlt
  have hor : dig (blk (bs.take i) (i / 8)) ||| (b * 2 ^ (8 * (i % 8))) = dig (blk (bs.take (i + 1)) (i / 8)) := by
    rw [h1, dig_snoc, h2, pow256, Nat.or_comm, Nat.mul_comm b, ← Nat.two_pow_add_eq_or_of_lt hlt]; omega
  constructor
  · rw [hor]
    exact wordsN_lt (n := i / 8 + 1) (fun b hb => hs b (List.mem_of_mem_take hb)) _ (List.mem_of_getElem? (wordsN_get (Nat.lt_succ_self _)))
  · rw [hor]
    apply List.ext_getElem?
    intro j
    rw [List.getElem?_set]
    by_cases hj : j < n
    · rw [wordsN_get hj]
      by_cases e : i / 8 = j
      · subst e; rw [if_pos rfl, wordsN_len, if_pos hn]
      · rw [if_neg e, wordsN_get hj, blk_other (Ne.symm e)]
    · rw [List.getElem?_eq_none (by rw [wordsN_len]; omega)]
      rw [if_neg (by omega), List.getElem?_eq_none (by rw [wordsN_len]; omega)]
theorem words_end {bs : List Nat} {n i : Nat} (h : bs.length ≤ i) : wordsN (bs.take i) n = wordsN bs n := by rw [List.take_of_length_le h]
/-- A byte of words. -/
def byteAt (ws : List Nat) (k : Nat) : Nat := (ws[k / 8]?).getD 0 / 2 ^ (8 * (k % 8)) % 256
theorem byteAt_words {bs : List Nat} {n k : Nat} (hs : ∀ b ∈ bs, b < 256) (h : k / 8 < n) : byteAt (wordsN bs n) k = (bs[k]?).getD 0 := by
  unfold byteAt
  rw [wordsN_get h, Option.getD_some, ← pow256, dig_byte _ (blk_small hs _), blk_get]
def strB (ws : List Nat) (n : Nat) : List UInt8 := (List.range n).map fun k => UInt8.ofNat (byteAt ws k)
theorem strB_len (ws : List Nat) (n : Nat) : (strB ws n).length = n := by simp [strB]
/-- Are these bytes noughts? -/
def clear (ws : List Nat) (n : Nat) : Prop := ∀ k, n ≤ k → k < 8 * ws.length → byteAt ws k = 0
open Classical in
/-- The text of so many bytes that words tell. -/
noncomputable def bytesR (ws : List Nat) (n : Int) : List UInt8 × Int :=
  if n < 0 ∨ n > 8 * ws.length then ([], 1) else if clear ws n.toNat then (strB ws n.toNat, 0) else ([], 5)
/-! ### the laws -/
def nat8 (s : List UInt8) : List Nat := s.map (·.toNat)
theorem nat8_small (s : List UInt8) : ∀ b ∈ nat8 s, b < 256 := by
  intro b hb; simp only [nat8, List.mem_map] at hb; obtain ⟨c, _, rfl⟩ := hb; exact c.toNat_lt
theorem nat8_len (s : List UInt8) : (nat8 s).length = s.length := by simp [nat8]
theorem nat8_inj {s t : List UInt8} (h : nat8 s = nat8 t) : s = t := by
  unfold nat8 at h
  exact List.map_inj_right (fun a b hab => UInt8.toNat_inj.1 hab) |>.1 h
def cntN (n : Nat) : Nat := (n + 7) / 8
theorem strB_words (s : List UInt8) {n k : Nat} (hk : k ≤ s.length) (hn : s.length ≤ 8 * n) : strB (wordsN (nat8 s) n) k = s.take k := by
  apply List.ext_getElem?
  intro i
  rw [List.getElem?_take]
  by_cases hi : i < k
  · rw [if_pos hi]
    simp only [strB, List.getElem?_map, List.getElem?_range hi, Option.map_some]
    rw [byteAt_words (nat8_small s) (by omega), List.getElem?_eq_getElem (show i < s.length by omega)]
    simp only [nat8, List.getElem?_map, List.getElem?_eq_getElem (show i < s.length by omega), Option.map_some, Option.getD_some, UInt8.ofNat_toNat]
  · rw [if_neg hi, List.getElem?_eq_none (by rw [strB_len]; omega)]
theorem clear_words (s : List UInt8) {n k : Nat} (hn : s.length ≤ 8 * n) : clear (wordsN (nat8 s) n) k ↔ ∀ i c, k ≤ i → s[i]? = some c → c = 0 := by
  unfold clear
  rw [wordsN_len]
  constructor
  · intro h i c hi hc
    have hl : i < s.length := by
      rcases Nat.lt_or_ge i s.length with h' | h'
      · exact h'
      · rw [List.getElem?_eq_none h'] at hc; cases hc
    have := h i hi (by omega)
    rw [byteAt_words (nat8_small s) (by omega)] at this
    simp only [nat8, List.getElem?_map, hc, Option.map_some, Option.getD_some] at this
    exact UInt8.toNat_inj.1 this
  · intro h i hi hl
    rw [byteAt_words (nat8_small s) (by omega)]
    cases hc : s[i]? with
    | none => simp [nat8, hc]
    | some c => rw [h i c hi hc] at hc; simp [nat8, hc]
theorem words_inj {s t : List UInt8} {n : Nat} (hl : s.length = t.length) (hn : s.length ≤ 8 * n) : wordsN (nat8 s) n = wordsN (nat8 t) n ↔ s = t := by
  constructor
  · intro h
    have h1 := strB_words s (Nat.le_refl _) hn
    have h2 := strB_words t (Nat.le_refl _) (hl ▸ hn)
    rw [h, hl, h2, List.take_length, ← hl, List.take_length] at h1
    exact h1.symm
  · intro h; rw [h]
theorem words_first {s t : List UInt8} {m n k : Nat} (h : 8 * k ≤ s.length) (hm : k ≤ m) (hn : k ≤ n) : (wordsN (nat8 (s ++ t)) m).take k = (wordsN (nat8 s) n).take k := by
  apply List.ext_getElem?
  intro j
  rw [List.getElem?_take, List.getElem?_take]
  by_cases hj : j < k
  · rw [if_pos hj, if_pos hj, wordsN_get (by omega), wordsN_get (by omega)]
    congr 2
    unfold blk nat8
    rw [List.map_append, List.drop_append_of_le_length (by simp; omega), List.take_append_of_le_length (by simp; omega)]
  · rw [if_neg hj, if_neg hj]
end Go.Proofs.Ytcnghmfmokmnpaa

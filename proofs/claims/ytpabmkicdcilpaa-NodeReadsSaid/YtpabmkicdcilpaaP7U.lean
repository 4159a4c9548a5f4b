/- Leaves by the reference: Encode. What a leaf's words tell. -/
import Derived.Test.YtpabmkicdcilpaaP7S
namespace Go.Proofs.Ytpabmkicdcilpaa
open Go.Vm
set_option linter.unusedSimpArgs false
set_option linter.unusedVariables false
set_option maxRecDepth 100000
variable {T : Vm.Prog} {h : AH}
theorem size0_ref (k : Fits T) : Gives T 71 [.int .i64 0] h fun r h' => r = .int .i64 8 ∧ h' = h := by
  refine gives_func (k.env _ (by decide)) (k.at (fn := a71) rfl) rfl ?_
  simp only [a71, c71, vms, vmc, AOpd.val, Nat.reduceEqDiff, reduceCtorEq, Nat.reduceAdd, Nat.reduceBEq, show ((0 : Int) == 0) = true from rfl]
  exact ⟨trivial, trivial⟩
theorem copy_same {sv : AV} {o i m m' c c' n : Nat} {e e' : Bool} (hl : lenOfV sv = some n) (h1 : n ≤ m) (h2 : n ≤ m') : copyV 1 h (.slice o i 1 m c e) sv = copyV 1 h (.slice o i 1 m' c' e') sv := by
  simp only [copyV, len_slice, hl, Option.bind_some, Nat.min_eq_left h1, Nat.min_eq_left h2]
/-! ### what a leaf's words tell -/
/-- Words of a leaf, or of none. -/
def LeafIs (ws : List Nat) : Option LeafP → Prop
  | some l => rightL l = true ∧ leafW l = ws
  | none => ∀ l, rightL l = true → leafW l ≠ ws
theorem LeafIs.same {ws : List Nat} : ∀ {a b : Option LeafP}, LeafIs ws a → LeafIs ws b → a = b
  | some a, some b, ha, hb => by rw [leafW_inj ha.1 hb.1 (ha.2.trans hb.2.symm)]
  | some a, none, ha, hb => absurd ha.2 (hb a ha.1)
  | none, some b, ha, hb => absurd hb.2 (ha b hb.1)
  | none, none, _, _ => rfl
theorem right_len {l : LeafP} (hr : rightL l = true) : l.key.length ≤ 13 ∧ 0 ≤ l.val ∧ l.val ≤ 1099511627776 := by
  obtain ⟨⟨s, hs⟩, hv0, hv1⟩ := rightL_iff.1 hr
  obtain ⟨hks, hsl⟩ := ofT_len hs
  exact ⟨by rw [hks]; simp; omega, hv0, hv1⟩
theorem leaf_tells {l : LeafP} (hr : rightL l = true) : leafW l = [0, l.key.length * 256, dig (blk (nat8 l.key) 0), dig (blk (nat8 l.key) 1), l.val.toNat, 0, 0, 0] ∧ bytesR [dig (blk (nat8 l.key) 0), dig (blk (nat8 l.key) 1)] l.key.length = (l.key, 0) := by
  obtain ⟨h13, hv0, hv1⟩ := right_len hr
  refine ⟨rfl, ?_⟩
  have e : [dig (blk (nat8 l.key) 0), dig (blk (nat8 l.key) 1)] = wordsN (nat8 l.key) 2 := rfl
  rw [e, bytesR_ok (by rw [wordsN_len]; omega) ((clearW_words l.key (by omega)).2 fun i c hi hc => by rw [List.getElem?_eq_none hi] at hc; cases hc), strB_words l.key (Nat.le_refl _) (by omega), List.take_length]
theorem eq_bytes {d w : Nat} (hd : d < 18446744073709551616) (hw : w < 18446744073709551616) (h : ∀ k, k < 8 → d / 256 ^ k % 256 = w / 256 ^ k % 256) : d = w := by
  have h0 := h 0 (by decide)
  have h1 := h 1 (by decide)
  have h2 := h 2 (by decide)
  have h3 := h 3 (by decide)
  have h4 := h 4 (by decide)
  have h5 := h 5 (by decide)
  have h6 := h 6 (by decide)
  have h7 := h 7 (by decide)
  simp only [Nat.pow_zero, Nat.div_one, show (256 : Nat) ^ 1 = 256 from rfl, show (256 : Nat) ^ 2 = 65536 from rfl, show (256 : Nat) ^ 3 = 16777216 from rfl, show (256 : Nat) ^ 4 = 4294967296 from rfl, show (256 : Nat) ^ 5 = 1099511627776 from rfl, show (256 : Nat) ^ 6 = 281474976710656 from rfl, show (256 : Nat) ^ 7 = 72057594037927936 from rfl] at h0 h1 h2 h3 h4 h5 h6 h7
  omega
theorem nat8_strB {ws : List Nat} {n i : Nat} (hi : i < n) : (nat8 (strB ws n))[i]? = some (byteAt ws i) := by
  have := byteAt_lt ws i
  simp [nat8, strB, hi]
  omega
theorem bytes_words {w2 w3 n : Nat} {s : List UInt8} (h2 : w2 < 18446744073709551616) (h3 : w3 < 18446744073709551616) (hb : bytesR [w2, w3] (n : Int) = (s, 0)) : s.length = n ∧ n ≤ 16 ∧ dig (blk (nat8 s) 0) = w2 ∧ dig (blk (nat8 s) 1) = w3 := by
  unfold bytesR at hb
  by_cases h1 : (n : Int) < 0 ∨ (n : Int) > 8 * (([w2, w3] : List Nat).length : Int)
  · rw [if_pos h1] at hb; cases hb
  rw [if_neg h1, Int.toNat_natCast] at hb
  have hn : n ≤ 16 := by simp at h1; omega
  by_cases hc : clearW [w2, w3] n
  · rw [if_pos hc] at hb
    have hs : s = strB [w2, w3] n := (congrArg Prod.fst hb).symm
    have key : ∀ j w, j < 2 → ([w2, w3] : List Nat)[j]? = some w → w < 18446744073709551616 → dig (blk (nat8 s) j) = w := by
      intro j w hj hw hw64
      refine eq_bytes (Nat.lt_of_lt_of_le (dig_lt _ (blk_small (nat8_small s) j)) ?_) hw64 fun k hk => ?_
      · exact Nat.le_trans (Nat.pow_le_pow_right (by decide) (blk_len _ j)) (by decide)
      · rw [dig_byte _ (blk_small (nat8_small s) j)]
        have hb2 := blk_get (nat8 s) (8 * j + k)
        rw [show (8 * j + k) / 8 = j by omega, show (8 * j + k) % 8 = k by omega] at hb2
        rw [hb2]
        have hbt := byteAt_of (ws := [w2, w3]) (t := j) (i := k) hw hk
        rw [show (2 : Nat) ^ (8 * k) = 256 ^ k by rw [Nat.pow_mul]] at hbt
        rw [← hbt]
        by_cases hin : 8 * j + k < n
        · rw [hs, nat8_strB hin]; rfl
        · rw [List.getElem?_eq_none (by rw [nat8_len, hs, strB_len]; omega), hc (8 * j + k) (by omega) (by simp; omega)]; rfl
    exact ⟨by rw [hs, strB_len], hn, key 0 w2 (by decide) rfl h2, key 1 w3 (by decide) rfl h3⟩
  · rw [if_neg hc] at hb; cases hb
end Go.Proofs.Ytpabmkicdcilpaa

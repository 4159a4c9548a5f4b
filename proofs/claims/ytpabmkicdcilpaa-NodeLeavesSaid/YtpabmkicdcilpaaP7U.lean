/- Leaves by the reference: Encode. What a leaf's words tell. -/
import Derived.Test.YtpabmkicdcilpaaP7S
namespace Go.Proofs.Ytpabmkicdcilpaa
open Go.Vm
set_option linter.unusedSimpArgs false
set_option linter.unusedVariables false
set_option maxRecDepth 100000
variable {T : Vm.Prog} {h : AH}
theorem size0_ref (k : Fits T) : Gives T 71 [.int .i64 0] h fun r h' => r = .int .i64 8 ∧ h' = h := by
  refine gives_func (k.env _ (by decide)) (k.at (fn := a71) rfl) rfl ?_
  simp only [a71, c71, vms, vmc, AOpd.val, Nat.reduceEqDiff, reduceCtorEq, Nat.reduceAdd, Nat.reduceBEq, show ((0 : Int) == 0) = true from rfl]
  exact ⟨trivial, trivial⟩
theorem copy_same {sv : AV} {o i m m' c c' n : Nat} {e e' : Bool} (hl : lenOfV sv = some n) (h1 : n ≤ m) (h2 : n ≤ m') : copyV 1 h (.slice o i 1 m c e) sv = copyV 1 h (.slice o i 1 m' c' e') sv := by
  simp only [copyV, len_slice, hl, Option.bind_some, Nat.min_eq_left h1, Nat.min_eq_left h2]
theorem slc24 {o : Nat} {ex : Bool} : slcV 1 (.slice o 0 1 8 8 ex) (some (.int .i64 2)) (some (.int .i64 4)) none = some (.slice o 2 1 2 6 ex) := by
  simp [slcV, bounds, boundM, boundH, boundL, natOf, Option.filter]
theorem encLeaf_ref (k : Fits T) (hl : Low h) {l : LeafP} (hk : l.key.length < 9223372036854775807) : Gives T 48 [.agg l.cells] h fun r h' => Quiet h h' ∧ Low h' ∧ Row1 h' r (wcells (leafE l)) ∧ ∀ o ∈ objs r, h.next ≤ o := by
  refine gives_func (k.env _ (by decide)) (k.at (fn := a48) rfl) rfl ?_
  have fa : ∀ o j, fieldAddrV j (.ptr o 0) = some (.ptr o (0 + j)) := fun o j => rfl
  have q1 : Quiet h (h.new (.cells l.cells true)) := (Quiet.refl _).new _
  have lo1 : Low (h.new (.cells l.cells true)) := hl.new _
  have g1 : (h.new (.cells l.cells true)).get h.next = some (.cells l.cells true) := get_new_same
  have nx1 : (h.new (.cells l.cells true)).next = h.next + 1 := rfl
  simp only [a48, c48, vms, vmc, AOpd.val, Nat.reduceEqDiff, reduceCtorEq, Nat.reduceAdd, Nat.reduceBEq, box_agg, load_all g1 (n := 2) rfl]
  generalize (h.new (.cells l.cells true)) = h1 at *
  refine Gives.bind ((rightLeaf_ref k lo1 hk).mono ?_)
  rintro _ h2 ⟨rfl, q2, lo2⟩
  have n2 := q2.1
  unfold leafE
  by_cases hr : rightL l = true
  · obtain ⟨⟨s, hs⟩, hv0, hv1⟩ := rightL_iff.1 hr
    obtain ⟨hks, hsl⟩ := ofT_len hs
    have hkl : l.key.length ≤ 13 := by rw [hks]; simp; omega
    have g2 := q2.get g1 (lo1 _ _ g1)
    simp only [vms, vmc, AOpd.val, Nat.reduceEqDiff, reduceCtorEq, Nat.reduceAdd, Nat.reduceBEq, hr, Bool.not_true, if_true]
    refine Gives.bind ((size0_ref k).mono ?_)
    rintro _ _ ⟨rfl, rfl⟩
    rename_i h2
    obtain ⟨hmk, w3⟩ := WordsAt.make (h := h2) (N := 8) (by omega)
    have q3 : Quiet h2 (h2.new (.cells (rep [.int .u64 0] 8) true)) := (Quiet.refl _).new _
    have lo3 : Low (h2.new (.cells (rep [.int .u64 0] 8) true)) := lo2.new _
    have g3 := q3.get g2 (lo2 _ _ g2)
    obtain ⟨o, ho⟩ : ∃ o, o = h2.next := ⟨_, rfl⟩
    have hpo : h.next ≠ o := by omega
    have hmk' : mkSliceV h2 1 8 [.int .u64 0] (.int .i64 8) (.int .i64 8) = some (wordsV h2.next 8, h2.new (.cells (rep [.int .u64 0] 8) true)) := hmk
    simp only [vms, vmc, AOpd.val, Nat.reduceEqDiff, reduceCtorEq, Nat.reduceAdd, Nat.reduceBEq, hmk']
    rw [← ho] at w3 ⊢
    have q13 := (q1.trans q2).trans q3
    generalize (h2.new (.cells (rep [.int .u64 0] 8) true)) = h3 at *
    obtain ⟨h4, st4, u4, w4⟩ := w3.store (j := 1) (by omega) (l.key.length * 256)
    have g4 := (u4.2 h.next hpo).trans g3
    have lo4 := lo3.upd u4 (w3.low lo3)
    have q4 := quiet_upd q13 u4 (by omega)
    have ix1 : idxAddrV 1 (wordsV o 8) (.int .i64 1) = some (.ptr o 1) := WordsAt.idx (j := 1) (by omega)
    have ix4 : idxAddrV 1 (wordsV o 8) (.int .i64 4) = some (.ptr o 4) := WordsAt.idx (j := 4) (by omega)
    have wl : IntKind.u64.wrap (l.key.length : Int) = (l.key.length : Int) := wrap_u64 (by omega)
    have b1 : binV .shl (.int .u64 (l.key.length : Int)) (.int .u64 8) = some (.int .u64 ((l.key.length * 256 : Nat) : Int)) := bin_shl_w (k' := .u64) (n := 8) (by decide) (by omega)
    have sl2 : slcV 1 (wordsV o 8) (some (.int .i64 2)) (some (.int .i64 4)) none = some (.slice o 2 1 2 6 true) := slc24
    simp only [vms, vmc, AOpd.val, Nat.reduceEqDiff, reduceCtorEq, Nat.reduceAdd, Nat.reduceBEq, fa, Nat.zero_add, load_at g3 (i := 0) (v := .str l.key) rfl, wl, b1, ix1, st4, sl2, load_at g4 (i := 0) (v := .str l.key) rfl]
    refine Gives.bind ((words_ref (g := 68) (k.env _ (by decide)) (k.at rfl) lo4 (s := l.key) (by omega)).mono ?_)
    intro r6 h6 iw
    have sw := isWords_sees iw
    obtain ⟨ex6, lo6, nx6, rfl, gw6⟩ := iw
    have q6 := ex6.quiet
    have w6 := w4.quiet lo4 q6
    have g6 := q6.get g4 (lo4 _ _ g4)
    have hcn : cntN l.key.length ≤ 2 := by unfold cntN; omega
    obtain ⟨h7, cp7, u7, w7⟩ := w6.copy (i := 2) sw (by rw [wordsN_len]; omega)
    rw [copy_same (m' := 2) (c' := 6) (e' := true) (n := cntN l.key.length) (by rw [sw.len, wcells_len, wordsN_len]) (by omega) hcn] at cp7
    have g7 := (u7.2 h.next hpo).trans g6
    have lo7 := lo6.upd u7 (w6.low lo6)
    have q7 := quiet_upd (q4.trans q6) u7 (by omega)
    obtain ⟨V, hV⟩ : ∃ V : Nat, l.val = V := ⟨l.val.toNat, by omega⟩
    obtain ⟨h8, st8, u8, w8⟩ := w7.store (j := 4) (by omega) V
    have wv : IntKind.u64.wrap l.val = (V : Int) := by rw [hV]; exact wrap_u64 (by omega)
    simp only [vms, vmc, AOpd.val, Nat.reduceEqDiff, reduceCtorEq, Nat.reduceAdd, Nat.reduceBEq, cp7, fa, Nat.zero_add, load_at g7 (i := 1) (v := .int .i64 l.val) rfl, wv, ix4, st8]
    refine ⟨quiet_upd q7 u8 (by omega), lo7.upd u8 (w7.low lo7), ?_, fun x hx => by simp [wordsV, objs] at hx; omega⟩
    have w9 := w8.eq (g' := leafG l) fun j hj => by
      show leafG l j = if j = 4 then V else if 2 ≤ j ∧ j < 2 + (wordsN (nat8 l.key) (cntN l.key.length)).length then ((wordsN (nat8 l.key) (cntN l.key.length))[j - 2]?).getD 0 else if j = 1 then l.key.length * 256 else 0
      have hrm := cnt_room l.key.length
      rw [wordsN_len, words_getD (by rw [nat8_len]; exact hrm)]
      unfold leafG
      by_cases j4 : j = 4
      · subst j4; simp [hV]
      · simp only [if_neg j4]
        by_cases j1 : j = 1
        · subst j1; simp
        · simp only [if_neg j1]
          by_cases j2 : j = 2 ∨ j = 3
          · rw [if_pos j2]
            by_cases j3 : 2 ≤ j ∧ j < 2 + cntN l.key.length
            · rw [if_pos j3]
            · rw [if_neg j3, blk_out (by rw [nat8_len]; omega)]
          · rw [if_neg j2, if_neg (by omega)]
    exact w9.row
  · have hr' : rightL l = false := by simpa using hr
    simp only [vms, vmc, AOpd.val, Nat.reduceEqDiff, reduceCtorEq, Nat.reduceAdd, Nat.reduceBEq, hr', Bool.not_false]
    exact ⟨q1.trans q2, lo2, .inl ⟨rfl, rfl⟩, fun o ho => by simp [objs] at ho⟩
/-! ### what a leaf's words tell -/
/-- Words of a leaf, or of none. -/
def LeafIs (ws : List Nat) : Option LeafP → Prop
  | some l => rightL l = true ∧ leafW l = ws
  | none => ∀ l, rightL l = true → leafW l ≠ ws
theorem LeafIs.same {ws : List Nat} : ∀ {a b : Option LeafP}, LeafIs ws a → LeafIs ws b → a = b
  | some a, some b, ha, hb => by rw [leafW_inj ha.1 hb.1 (ha.2.trans hb.2.symm)]
  | some a, none, ha, hb => absurd ha.2 (hb a ha.1)
  | none, some b, ha, hb => absurd hb.2 (ha b hb.1)
  | none, none, _, _ => rfl
theorem right_len {l : LeafP} (hr : rightL l = true) : l.key.length ≤ 13 ∧ 0 ≤ l.val ∧ l.val ≤ 1099511627776 := by
  obtain ⟨⟨s, hs⟩, hv0, hv1⟩ := rightL_iff.1 hr
  obtain ⟨hks, hsl⟩ := ofT_len hs
  exact ⟨by rw [hks]; simp; omega, hv0, hv1⟩
theorem leaf_tells {l : LeafP} (hr : rightL l = true) : leafW l = [0, l.key.length * 256, dig (blk (nat8 l.key) 0), dig (blk (nat8 l.key) 1), l.val.toNat, 0, 0, 0] ∧ bytesR [dig (blk (nat8 l.key) 0), dig (blk (nat8 l.key) 1)] l.key.length = (l.key, 0) := by
  obtain ⟨h13, hv0, hv1⟩ := right_len hr
  refine ⟨rfl, ?_⟩
  have e : [dig (blk (nat8 l.key) 0), dig (blk (nat8 l.key) 1)] = wordsN (nat8 l.key) 2 := rfl
  rw [e, bytesR_ok (by rw [wordsN_len]; omega) ((clearW_words l.key (by omega)).2 fun i c hi hc => by rw [List.getElem?_eq_none hi] at hc; cases hc), strB_words l.key (Nat.le_refl _) (by omega), List.take_length]
theorem eq_bytes {d w : Nat} (hd : d < 18446744073709551616) (hw : w < 18446744073709551616) (h : ∀ k, k < 8 → d / 256 ^ k % 256 = w / 256 ^ k % 256) : d = w := by
  have h0 := h 0 (by decide)
  have h1 := h 1 (by decide)
  have h2 := h 2 (by decide)
  have h3 := h 3 (by decide)
  have h4 := h 4 (by decide)
  have h5 := h 5 (by decide)
  have h6 := h 6 (by decide)
  have h7 := h 7 (by decide)
  simp only [Nat.pow_zero, Nat.div_one, show (256 : Nat) ^ 1 = 256 from rfl, show (256 : Nat) ^ 2 = 65536 from rfl, show (256 : Nat) ^ 3 = 16777216 from rfl, show (256 : Nat) ^ 4 = 4294967296 from rfl, show (256 : Nat) ^ 5 = 1099511627776 from rfl, show (256 : Nat) ^ 6 = 281474976710656 from rfl, show (256 : Nat) ^ 7 = 72057594037927936 from rfl] at h0 h1 h2 h3 h4 h5 h6 h7
  omega
theorem nat8_strB {ws : List Nat} {n i : Nat} (hi : i < n) : (nat8 (strB ws n))[i]? = some (byteAt ws i) := by
  have := byteAt_lt ws i
  simp [nat8, strB, hi]
  omega
theorem bytes_words {w2 w3 n : Nat} {s : List UInt8} (h2 : w2 < 18446744073709551616) (h3 : w3 < 18446744073709551616) (hb : bytesR [w2, w3] (n : Int) = (s, 0)) : s.length = n ∧ n ≤ 16 ∧ dig (blk (nat8 s) 0) = w2 ∧ dig (blk (nat8 s) 1) = w3 := by
  unfold bytesR at hb
  by_cases h1 : (n : Int) < 0 ∨ (n : Int) > 8 * (([w2, w3] : List Nat).length : Int)
  · rw [if_pos h1] at hb; cases hb
  rw [if_neg h1, Int.toNat_natCast] at hb
  have hn : n ≤ 16 := by simp at h1; omega
  by_cases hc : clearW [w2, w3] n
  · rw [if_pos hc] at hb
    have hs : s = strB [w2, w3] n := (congrArg Prod.fst hb).symm
    have key : ∀ j w, j < 2 → ([w2, w3] : List Nat)[j]? = some w → w < 18446744073709551616 → dig (blk (nat8 s) j) = w := by
      intro j w hj hw hw64
      refine eq_bytes (Nat.lt_of_lt_of_le (dig_lt _ (blk_small (nat8_small s) j)) ?_) hw64 fun k hk => ?_
      · exact Nat.le_trans (Nat.pow_le_pow_right (by decide) (blk_len _ j)) (by decide)
      · rw [dig_byte _ (blk_small (nat8_small s) j)]
        have hb2 := blk_get (nat8 s) (8 * j + k)
        rw [show (8 * j + k) / 8 = j by omega, show (8 * j + k) % 8 = k by omega] at hb2
        rw [hb2]
        have hbt := byteAt_of (ws := [w2, w3]) (t := j) (i := k) hw hk
        rw [show (2 : Nat) ^ (8 * k) = 256 ^ k by rw [Nat.pow_mul]] at hbt
        rw [← hbt]
        by_cases hin : 8 * j + k < n
        · rw [hs, nat8_strB hin]; rfl
        · rw [List.getElem?_eq_none (by rw [nat8_len, hs, strB_len]; omega), hc (8 * j + k) (by omega) (by simp; omega)]; rfl
    exact ⟨by rw [hs, strB_len], hn, key 0 w2 (by decide) rfl h2, key 1 w3 (by decide) rfl h3⟩
  · rw [if_neg hc] at hb; cases hb
end Go.Proofs.Ytpabmkicdcilpaa

/- A node's words: Encode. -/
import Derived.Test.YtpabmkicdcilpaaP7K
import Derived.Test.YtpabmkicdcilpaaVmZu
namespace Go.Proofs.Ytpabmkicdcilpaa
open Go.Vm
set_option linter.unusedSimpArgs false
set_option linter.unusedVariables false
set_option maxRecDepth 100000
variable {T : Vm.Prog} {h : AH}
/-- A class's words. -/
def sizeP (x : Int) : Nat := if x = 0 then 8 else if x = 1 then 12 else if x = 2 then 24 else if x = 3 then 88 else if x = 4 then 264 else 0
theorem size_ok (k : Fits T) {x : Int} : Gives T 53 [.int .i64 x] h fun r h' => r = .int .i64 (sizeP x : Int) ∧ h' = h := by
  refine gives_func (k.env _ (by decide)) (k.at (fn := a53) rfl) rfl ?_
  unfold sizeP
  by_cases h0 : x = 0
  · simp only [a53, c53, vms, vmc, AOpd.val, Nat.reduceEqDiff, reduceCtorEq, Nat.reduceAdd, Nat.reduceBEq, eqI h0, if_pos h0]; exact ⟨rfl, trivial⟩
  by_cases h1 : x = 1
  · simp only [a53, c53, vms, vmc, AOpd.val, Nat.reduceEqDiff, reduceCtorEq, Nat.reduceAdd, Nat.reduceBEq, neI h0, eqI h1, if_neg h0, if_pos h1]; exact ⟨rfl, trivial⟩
  by_cases h2 : x = 2
  · simp only [a53, c53, vms, vmc, AOpd.val, Nat.reduceEqDiff, reduceCtorEq, Nat.reduceAdd, Nat.reduceBEq, neI h0, neI h1, eqI h2, if_neg h0, if_neg h1, if_pos h2]; exact ⟨rfl, trivial⟩
  by_cases h3 : x = 3
  · simp only [a53, c53, vms, vmc, AOpd.val, Nat.reduceEqDiff, reduceCtorEq, Nat.reduceAdd, Nat.reduceBEq, neI h0, neI h1, neI h2, eqI h3, if_neg h0, if_neg h1, if_neg h2, if_pos h3]; exact ⟨rfl, trivial⟩
  by_cases h4 : x = 4
  · simp only [a53, c53, vms, vmc, AOpd.val, Nat.reduceEqDiff, reduceCtorEq, Nat.reduceAdd, Nat.reduceBEq, neI h0, neI h1, neI h2, neI h3, eqI h4, if_neg h0, if_neg h1, if_neg h2, if_neg h3, if_pos h4]; exact ⟨rfl, trivial⟩
  · simp only [a53, c53, vms, vmc, AOpd.val, Nat.reduceEqDiff, reduceCtorEq, Nat.reduceAdd, Nat.reduceBEq, neI h0, neI h1, neI h2, neI h3, neI h4, if_neg h0, if_neg h1, if_neg h2, if_neg h3, if_neg h4]; exact ⟨rfl, trivial⟩
/-! ### the plain law -/
/-- Each byte's place, and one; or nought. -/
def tabAt (ks : List Nat) (b : Nat) : Nat := if b ∈ ks then ks.idxOf b + 1 else 0
def tabN (ks : List Nat) : List Nat := (List.range 256).map (tabAt ks)
theorem tabN_len (ks : List Nat) : (tabN ks).length = 256 := by simp [tabN]
theorem tabN_get {ks : List Nat} {b : Nat} (hb : b < 256) : (tabN ks)[b]? = some (tabAt ks b) := by simp [tabN, List.getElem?_range hb]
theorem tabN_snoc {ks : List Nat} {b : Nat} (hb : b < 256) (hn : b ∉ ks) : tabN (ks ++ [b]) = (tabN ks).set b (ks.length + 1) := by
  apply List.ext_getElem?
  intro c
  by_cases hc : c < 256
  · rw [tabN_get hc, List.getElem?_set]
    by_cases e : b = c
    · subst e
      rw [if_pos rfl, if_pos (by rw [tabN_len]; exact hb)]
      unfold tabAt
      rw [if_pos (by simp), List.idxOf_append, if_neg hn]
      simp
    · rw [if_neg e, tabN_get hc]
      unfold tabAt
      by_cases hm : c ∈ ks
      · rw [if_pos (by simp [hm]), if_pos hm, List.idxOf_append, if_pos hm]
      · rw [if_neg (by simp [hm]; exact fun h => e h.symm), if_neg hm]
  · rw [List.getElem?_eq_none (by rw [tabN_len]; omega), List.getElem?_eq_none (by rw [List.length_set, tabN_len]; omega)]
theorem tabAt_le (ks : List Nat) (b : Nat) : tabAt ks b ≤ ks.length := by
  unfold tabAt
  split
  · rename_i hm
    have := List.idxOf_lt_length_of_mem hm
    omega
  · omega
theorem mul256_or (x y : Nat) : 256 * (x ||| y) = 256 * x ||| 256 * y := by
  have e : ∀ z, 256 * z = z <<< 8 := fun z => by rw [Nat.shiftLeft_eq]; omega
  rw [e, e, e, Nat.shiftLeft_or_distrib]
theorem or_low256 {a x : Nat} (ha : a < 256) : a + 256 * x = 256 * x ||| a := by
  have := Nat.two_pow_add_eq_or_of_lt (i := 8) (b := a) ha x
  rw [show (2 : Nat) ^ 8 = 256 by decide] at this
  omega
theorem dig_set {v : Nat} (hv : v < 256) : ∀ (l : List Nat) (i : Nat), (∀ b ∈ l, b < 256) → l[i]? = some 0 → dig (l.set i v) = dig l ||| v * 2 ^ (8 * i)
  | [], i, _, h => by simp at h
  | a :: l, 0, hl, h => by
    simp at h; subst h
    simp only [List.set_cons_zero, dig, Nat.mul_zero, Nat.pow_zero, Nat.mul_one, Nat.zero_add]
    exact or_low256 hv
  | a :: l, i + 1, hl, h => by
    have ih := dig_set hv l i (fun b hb => hl b (by simp [hb])) (by simpa using h)
    have ha := hl a (by simp)
    simp only [List.set_cons_succ, dig, ih]
    rw [or_low256 ha, or_low256 ha, mul256_or]
    have e : v * 2 ^ (8 * (i + 1)) = 256 * (v * 2 ^ (8 * i)) := by
      rw [show 8 * (i + 1) = 8 * i + 8 by omega, Nat.pow_add]
      rw [show (2 : Nat) ^ 8 = 256 by decide, ← Nat.mul_assoc, Nat.mul_comm 256]
    rw [e, Nat.or_assoc, Nat.or_comm _ a, ← Nat.or_assoc]
theorem blk_set {L : List Nat} {b v j : Nat} : blk (L.set b v) j = if b / 8 = j then (blk L j).set (b % 8) v else blk L j := by
  unfold blk
  rw [List.drop_set]
  by_cases h1 : b < 8 * j
  · rw [if_pos h1, if_neg (by omega)]
  · rw [if_neg h1, List.take_set]
    by_cases h2 : b / 8 = j
    · rw [if_pos h2, show b - 8 * j = b % 8 by omega]
    · rw [if_neg h2, List.set_eq_of_length_le (by simp; omega)]
theorem wordsN_set {L : List Nat} {b v n : Nat} (hL : ∀ x ∈ L, x < 256) (h0 : L[b]? = some 0) (hv : v < 256) (hn : b / 8 < n) : wordsN (L.set b v) n = (wordsN L n).set (b / 8) (dig (blk L (b / 8)) ||| v * 2 ^ (8 * (b % 8))) := by
  apply List.ext_getElem?
  intro j
  by_cases hj : j < n
  · rw [wordsN_get hj, List.getElem?_set, blk_set]
    by_cases e : b / 8 = j
    · subst e
      rw [if_pos rfl, if_pos rfl, if_pos (by rw [wordsN_len]; exact hj), dig_set hv _ _ (blk_small hL _)]
      rw [blk_get]; exact h0
    · rw [if_neg e, if_neg e, wordsN_get hj]
  · rw [List.getElem?_eq_none (by rw [wordsN_len]; omega), List.getElem?_eq_none (by rw [List.length_set, wordsN_len]; omega)]
/-- Where a child stands. -/
def plP (kd : Int) (i b : Nat) : Nat := if kd = 1 then 5 + i else if kd = 2 then 6 + i else if kd = 3 then 36 + i else 4 + b
def hdN (n : NodeP) : Nat := n.kind.toNat + n.pre.length * 256 + n.keys.length * 65536
def encH (n : NodeP) (j : Nat) : Nat :=
  if j = 0 then n.word else if j = 1 then hdN n else if j < 4 then dig (blk (nat8 n.pre) (j - 2))
  else if n.kind = 1 then (if j < 5 then dig (blk n.keys (j - 4)) else 0) else if n.kind = 2 then (if j < 6 then dig (blk n.keys (j - 4)) else 0)
  else if n.kind = 3 then (if j < 36 then dig (blk (tabN n.keys) (j - 4)) else 0) else 0
/-- Words with the first children. -/
def encG (n : NodeP) : Nat → Nat → Nat
  | 0, j => encH n j
  | m + 1, j => if j = plP n.kind m ((n.keys[m]?).getD 0) then ((n.kids[m]?).getD 0).toNat else encG n m j
def encP (n : NodeP) : List Nat := (List.range (sizeP n.kind)).map (encG n n.keys.length)
noncomputable def encW (n : NodeP) : List Nat := if rightP n then encP n else []
theorem RightP.kinds {n : NodeP} (r : RightP n) : n.kind = 1 ∨ n.kind = 2 ∨ n.kind = 3 ∨ n.kind = 4 := by
  have := r.kind
  unfold highP at this
  split at this
  · omega
  · split at this
    · omega
    · split at this
      · omega
      · split at this
        · omega
        · exact absurd rfl this
theorem RightP.place {n : NodeP} (r : RightP n) {i b : Nat} (hi : i < n.keys.length) (hb : b < 256) : plP n.kind i b < sizeP n.kind ∧ 4 < plP n.kind i b + 1 := by
  have := r.few
  rcases r.kinds with e | e | e | e <;> (rw [e] at this ⊢; simp only [highP, plP, sizeP] at this ⊢; simp at this ⊢; omega)
/-! ### the walk -/
theorem bin_shl_nat {k' : IntKind} {a n : Nat} (hn : n < 64) (h : a * 2 ^ n < 9223372036854775808) : binV .shl (.int .i64 (a : Int)) (.int k' (n : Int)) = some (.int .i64 ((a * 2 ^ n : Nat) : Int)) := by
  show intShift .shl .i64 (.ofNat a) (.ofNat n) = _
  unfold intShift
  rw [if_neg (by simp only [Int.ofNat_eq_natCast]; omega)]
  show some (AV.int .i64 (IntKind.i64.wrap (Int.ofNat a * 2 ^ min n 64))) = _
  rw [Nat.min_eq_left (by omega), show Int.ofNat a * 2 ^ n = ((a * 2 ^ n : Nat) : Int) by simp, wrap_i64n h]
theorem bin_shl_w {k' : IntKind} {a n : Nat} (hn : n < 64) (h : a * 2 ^ n < 18446744073709551616) : binV .shl (.int .u64 (a : Int)) (.int k' (n : Int)) = some (.int .u64 ((a * 2 ^ n : Nat) : Int)) := by
  show intShift .shl .u64 (.ofNat a) (.ofNat n) = _
  unfold intShift
  rw [if_neg (by simp only [Int.ofNat_eq_natCast]; omega)]
  show some (AV.int .u64 (IntKind.u64.wrap (Int.ofNat a * 2 ^ min n 64))) = _
  rw [Nat.min_eq_left (by omega), show Int.ofNat a * 2 ^ n = ((a * 2 ^ n : Nat) : Int) by simp, wrap_u64 h]
theorem wrap_small8 {c : Nat} (hc : c < 256) : IntKind.u8.wrap (c : Int) = (c : Int) := by
  rw [wrap_u8, Nat.mod_eq_of_lt hc]
theorem index_ok (k : Fits T) (hl : Low h) {v : AV} {ks : List Nat} (s : Sees h v (kcells ks)) (hk : ∀ b ∈ ks, b < 256) (hn : ks.length < 256) (nd : ks.Nodup) :
    Gives T 55 [v] h fun r h' => Quiet h h' ∧ Low h' ∧ ∃ o, r = wordsV o 32 ∧ h.next ≤ o ∧ h'.get o = some (.cells (wcells (wordsN (tabN ks) 32)) true) := by
  refine gives_func (k.env _ (by decide)) (k.at (fn := a55) rfl) rfl ?_
  have hln : lenOfV v = some ks.length := by simpa [kcells] using s.len
  have hz : wordsN (tabN []) 32 = wordsN [] 32 := by
    apply List.ext_getElem?
    intro j
    by_cases hj : j < 32
    · rw [wordsN_get hj, wordsN_get hj]
      have e : tabN [] = List.replicate 256 0 := by
        apply List.ext_getElem?
        intro i
        by_cases hi : i < 256
        · rw [tabN_get hi, List.getElem?_replicate, if_pos hi]; rfl
        · rw [List.getElem?_eq_none (by rw [tabN_len]; omega), List.getElem?_eq_none (by simp; omega)]
      have d0 : ∀ n, dig (List.replicate n 0) = 0 := by
        intro n
        induction n with
        | zero => rfl
        | succ n ih => rw [List.replicate_succ, dig, ih]
      rw [e]
      unfold blk
      rw [List.drop_replicate, List.take_replicate, d0]
      simp [dig]
    · rw [List.getElem?_eq_none (by rw [wordsN_len]; omega), List.getElem?_eq_none (by rw [wordsN_len]; omega)]
  have hmk := mkSlice_nat (h := h) (sz := 1) (bytes := 8) (zero := [.int .u64 0]) (k := .i64) (k' := .i64) (l := 32) (c := 32) (Nat.le_refl _) (by decide) (by decide)
  have hmk' : mkSliceV h 1 8 [.int .u64 0] (.int .i64 32) (.int .i64 32) = some (.slice h.next 0 1 32 32 true, h.new (.cells (rep [.int .u64 0] 32) true)) := hmk
  simp only [a55, c55, vms, vmc, AOpd.val, Nat.reduceEqDiff, reduceCtorEq, Nat.reduceAdd, Nat.reduceBEq, hmk', hln]
  have q1 : Quiet h (h.new (.cells (rep [AV.int .u64 0] 32) true)) := (Quiet.refl _).new _
  refine wpc_loop (fun d f g => ∃ i, d = ks.length - i ∧ i ≤ ks.length ∧ Quiet h g ∧ Low g ∧ g.get h.next = some (.cells (wcells (wordsN (tabN (ks.take i)) 32)) true) ∧ f.at 3 = .slice h.next 0 1 32 32 true ∧ f.at 7 = v ∧ f.at 8 = .int .i64 (ks.length : Int) ∧ f.at 9 = .int .i64 (i : Nat)) ?_ ks.length _ _
    ⟨0, rfl, Nat.zero_le _, q1, hl.new _, ?_, ?_, ?_, ?_, ?_⟩
  · rintro d f g ⟨i, rfl, hi, q, lo, hg, g3, g7, g8, g9⟩
    by_cases hlt : i < ks.length
    · have d1 : decide ((i : Int) < (ks.length : Int)) = true := by rw [decide_eq_true_eq]; omega
      obtain ⟨b, hb⟩ : ∃ b, ks[i]? = some b := ⟨_, List.getElem?_eq_getElem hlt⟩
      have hb256 := hk b (List.mem_of_getElem? hb)
      obtain ⟨p, hp1, hp2⟩ := (sees_keep s hl q).at (i := i) (x := .int .u8 (b : Int)) (by simp [kcells, hb]) .i64
      have htk : ks.take (i + 1) = ks.take i ++ [b] := by rw [List.take_add_one, hb]; rfl
      have hlen : (ks.take i).length = i := by rw [List.length_take]; omega
      have hnot : b ∉ ks.take i := by
        intro hm
        obtain ⟨j, hj⟩ := List.getElem?_of_mem hm
        have hj2 : j < i := by have := (List.getElem?_eq_some_iff.1 hj).1; omega
        rw [List.getElem?_take, if_pos hj2] at hj
        have h1 := (List.getElem?_eq_some_iff.1 hj)
        have h2 := (List.getElem?_eq_some_iff.1 hb)
        have := (List.getElem_inj nd (h₀ := h1.1) (h₁ := h2.1)).1 (h1.2.trans h2.2.symm)
        omega
      have hsm : ∀ x ∈ tabN (ks.take i), x < 256 := fun x hx => by
        simp only [tabN, List.mem_map] at hx
        obtain ⟨c, _, rfl⟩ := hx
        have := tabAt_le (ks.take i) c
        omega
      have h0 : (tabN (ks.take i))[b]? = some 0 := by rw [tabN_get hb256]; unfold tabAt; rw [if_neg hnot]
      have hj : b / 8 < 32 := by omega
      have hset := wordsN_set (n := 32) hsm h0 (show i + 1 < 256 by omega) hj
      have hold := wordsN_get (bs := tabN (ks.take i)) hj
      have hlt64 := wordsN_lt hsm _ (List.mem_of_getElem? hold)
      have hsm2 : ∀ x ∈ (tabN (ks.take i)).set b (i + 1), x < 256 := fun x hx => by
        rcases List.mem_or_eq_of_mem_set hx with h1 | h1
        · exact hsm x h1
        · omega
      have hp8 := pow8 (m := b % 8) (b := i + 1) (Nat.mod_lt _ (by decide)) (by omega)
      have hor : dig (blk (tabN (ks.take i)) (b / 8)) ||| (i + 1) * 2 ^ (8 * (b % 8)) < 18446744073709551616 := by
        have := wordsN_lt (n := 32) hsm2 _ (List.mem_of_getElem? (i := b / 8) (by rw [hset, List.getElem?_set, if_pos rfl, if_pos (by rw [wordsN_len]; exact hj)]))
        exact this
      have w1 : IntKind.i64.wrap ((i : Int) + 1) = ((i + 1 : Nat) : Int) := by rw [wrap_i64 (by omega) (by omega)]; omega
      have w2 : IntKind.u8.wrap ((b / 8 : Nat) : Int) = ((b / 8 : Nat) : Int) := wrap_small8 (by omega)
      have w3 : IntKind.u8.wrap (8 * ((b % 8 : Nat) : Int)) = ((8 * (b % 8) : Nat) : Int) := by
        rw [show (8 : Int) * ((b % 8 : Nat) : Int) = ((8 * (b % 8) : Nat) : Int) by omega]; exact wrap_small8 (by omega)
      simp only [c55l0, vms, vmc, AOpd.val, Nat.reduceEqDiff, reduceCtorEq, Nat.reduceAdd, Nat.reduceBEq, g3, g7, g8, g9, d1, hp1, hp2, bin_quo8, bin_rem8, tdiv8, tmod8, w1, w2, w3, idx_nat hj, Nat.zero_add, load_at hg (wcells_get hold), wrap_u64 (show i + 1 < 18446744073709551616 by omega), bin_shl_w (show 8 * (b % 8) < 64 by omega) hp8, bin_or_u64 hlt64 hp8 hor,
        store_int hg (show b / 8 < (wcells (wordsN (tabN (ks.take i)) 32)).length by rw [wcells_len, wordsN_len]; exact hj)]
      refine ⟨ks.length - (i + 1), by omega, i + 1, rfl, by omega, q.set (Nat.le_refl _) _, lo.set (lo _ _ hg) _, ?_, ?_⟩
      · rw [get_set_same, htk, tabN_snoc hb256 hnot, hlen, hset]
        simp only [wcells, List.map_set]
      · simp only [vms, vmc, AOpd.val, Nat.reduceEqDiff, reduceCtorEq, Nat.reduceAdd, Nat.reduceBEq, g3, g7, g8]
        exact ⟨trivial, trivial, trivial, trivial⟩
    · have d1 : decide ((i : Int) < (ks.length : Int)) = false := by rw [decide_eq_false_iff_not]; omega
      simp only [c55l0, vms, vmc, AOpd.val, Nat.reduceEqDiff, reduceCtorEq, Nat.reduceAdd, Nat.reduceBEq, g3, g8, g9, d1]
      exact ⟨q, lo, h.next, rfl, Nat.le_refl _, by rw [hg, List.take_of_length_le (by omega)]⟩
  · rw [get_new_same, List.take_zero, hz, rep_cells]
  all_goals first | (simp only [vms, vmc, AOpd.val, Nat.reduceEqDiff, reduceCtorEq, Nat.reduceAdd, Nat.reduceBEq]; done) | (simp only [vms, vmc, AOpd.val, Nat.reduceEqDiff, reduceCtorEq, Nat.reduceAdd, Nat.reduceBEq]; rfl)
theorem strOf_keys {ks : List Nat} (hk : ∀ b ∈ ks, b < 256) : ∃ t : List UInt8, strOf (kcells ks) = some t ∧ nat8 t = ks ∧ t.length = ks.length := by
  induction ks with
  | nil => exact ⟨[], rfl, rfl, rfl⟩
  | cons b ks ih =>
    obtain ⟨t, h1, h2, h3⟩ := ih fun x hx => hk x (by simp [hx])
    refine ⟨UInt8.ofNat b :: t, ?_, ?_, by simp [h3]⟩
    · show (strOf (kcells ks)).map (UInt8.ofNat (b : Int).toNat :: ·) = _
      rw [h1]; rfl
    · have hb := hk b (by simp)
      simp only [nat8, List.map_cons, UInt8.toNat_ofNat'] at h2 ⊢
      rw [h2, Nat.mod_eq_of_lt (by omega)]
theorem sees_str {v : AV} {ks : List Nat} (s : Sees h v (kcells ks)) (hk : ∀ b ∈ ks, b < 256) : ∃ t : List UInt8, toStrV h v = some (.str t) ∧ nat8 t = ks ∧ t.length = ks.length := by
  obtain ⟨t, h1, h2, h3⟩ := strOf_keys hk
  refine ⟨t, ?_, h2, h3⟩
  have he := sees_elems s
  rcases s with ⟨rfl, e⟩ | ⟨o, off, cap, ex, l, rw', rfl, hg, hl, hc⟩
  · rw [e] at h1
    simp only [strOf, Option.some.injEq] at h1
    subst h1; rfl
  · simp only [AH.elems, true_and, Nat.le_refl, if_true, Nat.mul_one] at he
    simp only [toStrV, if_true, he, Option.bind_some, h1, Option.map_some]
/-- A node that lies at p. -/
structure Lies (h : AH) (p : Nat) (kv iv : AV) (n : NodeP) : Prop where
  get : h.get p = some (.cells (n.cells kv iv) true)
  sk : Sees h kv (kcells n.keys)
  si : Sees h iv (icells n.kids)
theorem Lies.keep {h' : AH} {p : Nat} {kv iv : AV} {n : NodeP} (s : Lies h p kv iv n) (hl : Low h) (q : Quiet h h') : Lies h' p kv iv n := ⟨q.get s.get (hl _ _ s.get), sees_keep s.sk hl q, sees_keep s.si hl q⟩
theorem Lies.upd {h' : AH} {p o : Nat} {kv iv : AV} {n : NodeP} (s : Lies h p kv iv n) (u : Upd h h' o) (hp : p ≠ o) (h1 : o ∉ objs kv) (h2 : o ∉ objs iv) : Lies h' p kv iv n := ⟨(u.2 p hp).trans s.get, sees_upd s.sk u h1, sees_upd s.si u h2⟩
theorem Lies.kind {p : Nat} {kv iv : AV} {n : NodeP} (s : Lies h p kv iv n) : loadV h false 1 (.ptr p 0) = some (.int .i64 n.kind) := load_at s.get rfl
theorem Lies.word {p : Nat} {kv iv : AV} {n : NodeP} (s : Lies h p kv iv n) : loadV h false 1 (.ptr p 1) = some (.int .u64 (n.word : Int)) := load_at s.get rfl
theorem Lies.pre {p : Nat} {kv iv : AV} {n : NodeP} (s : Lies h p kv iv n) : loadV h false 1 (.ptr p 2) = some (.str n.pre) := load_at s.get rfl
theorem Lies.keys {p : Nat} {kv iv : AV} {n : NodeP} (s : Lies h p kv iv n) : loadV h false 1 (.ptr p 3) = some kv := load_at s.get rfl
theorem Lies.kids {p : Nat} {kv iv : AV} {n : NodeP} (s : Lies h p kv iv n) : loadV h false 1 (.ptr p 4) = some iv := load_at s.get rfl
theorem enc_loop (k : Fits T) {n : NodeP} (r : RightP n) (hk : ∀ b ∈ n.keys, b < 256) {p o : Nat} {kv iv : AV} {first : Nat} (he : Lies h p kv iv n) (w : WordsAt h o (sizeP n.kind) (encG n 0)) (hpo : p ≠ o) (hok : o ∉ objs kv) (hoi : o ∉ objs iv) (hf : ∀ i b, n.kind ≠ 4 → plP n.kind i b = first + i) (hf2 : first ≤ 36) {f : Fr}
    (f1 : f.at 1 = .ptr p 0) (f3 : f.at 3 = wordsV o (sizeP n.kind)) (f4 : f.at 4 = .int .i64 (first : Int)) (f69 : f.at 69 = iv) (f70 : f.at 70 = .int .i64 (n.keys.length : Int)) (f71 : f.at 71 = .int .i64 0) {Q : AExit → Fr → AH → Prop}
    (hq : ∀ f' g, Upd h g o → WordsAt g o (sizeP n.kind) (encG n n.keys.length) → f'.at 3 = wordsV o (sizeP n.kind) → Q (.exit 1) f' g) : Wp (code T (.loop c15l0) f h) Q := by
  have fa : ∀ o j, fieldAddrV j (.ptr o 0) = some (.ptr o (0 + j)) := fun o j => rfl
  have hfew := r.few
  have hhi : highP n.kind ≤ 256 := by rcases r.kinds with e | e | e | e <;> rw [e] <;> decide
  refine wpc_loop (fun d f' g => ∃ i, d = n.keys.length - i ∧ i ≤ n.keys.length ∧ Upd h g o ∧ WordsAt g o (sizeP n.kind) (encG n i) ∧ f'.at 1 = .ptr p 0 ∧ f'.at 3 = wordsV o (sizeP n.kind) ∧ f'.at 4 = .int .i64 (first : Int) ∧ f'.at 69 = iv ∧ f'.at 70 = .int .i64 (n.keys.length : Int) ∧ f'.at 71 = .int .i64 (i : Nat)) ?_ n.keys.length _ _
    ⟨0, rfl, Nat.zero_le _, Upd.refl _ _, w, f1, f3, f4, f69, f70, f71⟩
  rintro d f' g ⟨i, rfl, hi, u, wg, g1, g3, g4, g69, g70, g71⟩
  by_cases hlt : i < n.keys.length
  · have d1 : decide ((i : Int) < (n.keys.length : Int)) = true := by rw [decide_eq_true_eq]; omega
    obtain ⟨b, hb⟩ : ∃ b, n.keys[i]? = some b := ⟨_, List.getElem?_eq_getElem hlt⟩
    have hb256 := hk b (List.mem_of_getElem? hb)
    obtain ⟨x, hx⟩ : ∃ x, n.kids[i]? = some x := ⟨_, List.getElem?_eq_getElem (by rw [← r.same]; exact hlt)⟩
    obtain ⟨s', g', l', hv, hxr⟩ := isRefP_iff.1 (r.refs i x hx)
    have hxl := refN_lt (l := l') hv
    obtain ⟨X, hX⟩ : ∃ X : Nat, X = refN s' g' l' := ⟨_, rfl⟩
    rw [← hX] at hxr hxl
    have heg : Lies g p kv iv n := he.upd u hpo hok hoi
    obtain ⟨pp, hp1, hp2⟩ := heg.si.at (i := i) (x := .int .i64 x) (by simp [icells, hx]) .i64
    obtain ⟨pk, hk1, hk2⟩ := heg.sk.at (i := i) (x := .int .u8 (b : Int)) (by simp [kcells, hb]) .i64
    have w1 : IntKind.i64.wrap ((i : Int) + 1) = ((i + 1 : Nat) : Int) := by rw [wrap_i64 (by omega) (by omega)]; omega
    have w2 : IntKind.i64.wrap ((first : Int) + (i : Int)) = ((first + i : Nat) : Int) := by rw [wrap_i64 (by omega) (by omega)]; omega
    have w3 : IntKind.i64.wrap (b : Int) = (b : Int) := wrap_i64 (by omega) (by omega)
    have w4 : IntKind.i64.wrap (4 + (b : Int)) = ((4 + b : Nat) : Int) := by rw [wrap_i64 (by omega) (by omega)]; omega
    have w5 : IntKind.u64.wrap x = (X : Int) := by rw [hxr]; exact wrap_u64 (by omega)
    have hpl := (r.place (i := i) hlt hb256).1
    obtain ⟨g2, hst, u2, wg2⟩ := wg.store hpl X
    have hnext : (fun x => if x = plP n.kind i b then X else encG n i x) = encG n (i + 1) := by
      funext j
      simp only [encG, hb, hx, Option.getD_some]
      rw [hxr, Int.toNat_natCast]
    rw [hnext] at wg2
    by_cases h4 : n.kind = 4
    · have e4 : ((n.kind : Int) == 4) = true := by rw [h4]; rfl
      have hpe : plP n.kind i b = 4 + b := by rw [h4]; rfl
      rw [hpe] at hpl hst
      simp only [c15l0, vms, vmc, AOpd.val, Nat.reduceEqDiff, reduceCtorEq, Nat.reduceAdd, Nat.reduceBEq, g1, g3, g4, g69, g70, g71, d1, hp1, hp2, fa, Nat.zero_add, heg.kind, heg.keys, e4, hk1, hk2, w1, w2, w3, w4, w5, WordsAt.idx hpl, hst]
      refine ⟨n.keys.length - (i + 1), by omega, i + 1, rfl, by omega, u.trans u2, wg2, ?_⟩
      simp only [vms, vmc, AOpd.val, Nat.reduceEqDiff, reduceCtorEq, Nat.reduceAdd, Nat.reduceBEq, g1, g3, g4, g69, g70]
      exact ⟨trivial, trivial, trivial, trivial, trivial, trivial⟩
    · have e4 : ((n.kind : Int) == 4) = false := neI h4
      have hpe := hf i b h4
      rw [hpe] at hpl hst
      simp only [c15l0, vms, vmc, AOpd.val, Nat.reduceEqDiff, reduceCtorEq, Nat.reduceAdd, Nat.reduceBEq, g1, g3, g4, g69, g70, g71, d1, hp1, hp2, fa, Nat.zero_add, heg.kind, heg.keys, e4, w1, w2, w5, WordsAt.idx hpl, hst]
      refine ⟨n.keys.length - (i + 1), by omega, i + 1, rfl, by omega, u.trans u2, wg2, ?_⟩
      simp only [vms, vmc, AOpd.val, Nat.reduceEqDiff, reduceCtorEq, Nat.reduceAdd, Nat.reduceBEq, g1, g3, g4, g69, g70]
      exact ⟨trivial, trivial, trivial, trivial, trivial, trivial⟩
  · have d1 : decide ((i : Int) < (n.keys.length : Int)) = false := by rw [decide_eq_false_iff_not]; omega
    have e : i = n.keys.length := by omega
    subst e
    simp only [c15l0, vms, vmc, AOpd.val, Nat.reduceEqDiff, reduceCtorEq, Nat.reduceAdd, Nat.reduceBEq, g70, g71, d1]
    exact hq _ g u wg (by simp only [vms, vmc, AOpd.val, Nat.reduceEqDiff, reduceCtorEq, Nat.reduceAdd, Nat.reduceBEq, g3])
def c15a : ACode := match c15 with
  | .seq a _ => a
  | c => c
def c15b : ACode := match c15 with
  | .seq _ (.seq a _) => a
  | c => c
def c15c : ACode := match c15 with
  | .seq _ (.seq _ (.seq a _)) => a
  | c => c
def c15d : ACode := match c15 with
  | .seq _ (.seq _ (.seq _ (.seq a _))) => a
  | c => c
def c15e : ACode := match c15 with
  | .seq _ (.seq _ (.seq _ (.seq _ (.seq a _)))) => a
  | c => c
def c15f : ACode := match c15 with
  | .seq _ (.seq _ (.seq _ (.seq _ (.seq _ (.seq a _))))) => a
  | c => c
def c15g : ACode := match c15 with
  | .seq _ (.seq _ (.seq _ (.seq _ (.seq _ (.seq _ (.seq a _)))))) => a
  | c => c
def c15h : ACode := match c15 with
  | .seq _ (.seq _ (.seq _ (.seq _ (.seq _ (.seq _ (.seq _ (.seq a _))))))) => a
  | c => c
def c15z : ACode := match c15 with
  | .seq _ (.seq _ (.seq _ (.seq _ (.seq _ (.seq _ (.seq _ (.seq _ z))))))) => z
  | c => c
theorem c15_parts : c15 = .seq c15a (.seq c15b (.seq c15c (.seq c15d (.seq c15e (.seq c15f (.seq c15g (.seq c15h c15z))))))) := rfl
theorem blk_out {bs : List Nat} {j : Nat} (h : bs.length ≤ 8 * j) : dig (blk bs j) = 0 := by
  unfold blk
  rw [List.drop_eq_nil_of_le h]; rfl
theorem words_getD {bs : List Nat} {n j : Nat} (h : bs.length ≤ 8 * n) : ((wordsN bs n)[j]?).getD 0 = dig (blk bs j) := by
  by_cases hj : j < n
  · rw [wordsN_get hj]; rfl
  · rw [List.getElem?_eq_none (by rw [wordsN_len]; omega), blk_out (by omega)]; rfl
theorem isWords_sees {s : List UInt8} {r : AV} {h' : AH} (w : IsWords h s r h') : Sees h' r (wcells (wordsN (nat8 s) (cntN s.length))) := by
  obtain ⟨_, _, _, rfl, hg⟩ := w
  exact .inr ⟨h.next, 0, _, true, _, true, by rw [wcells_len, wordsN_len], hg, by rw [wcells_len, wordsN_len]; omega, fun i x hx => by rw [Nat.zero_add]; exact hx⟩
theorem cnt_room (n : Nat) : n ≤ 8 * cntN n := by unfold cntN; omega
/-- The first words. -/
def headG (n : NodeP) (x : Nat) : Nat := if 2 ≤ x ∧ x < 2 + cntN n.pre.length then ((wordsN (nat8 n.pre) (cntN n.pre.length))[x - 2]?).getD 0 else if x = 1 then hdN n else if x = 0 then n.word else 0
theorem headG_eq (n : NodeP) (hp : n.pre.length ≤ 12) (x : Nat) : headG n x = if x = 0 then n.word else if x = 1 then hdN n else if x < 4 then dig (blk (nat8 n.pre) (x - 2)) else 0 := by
  have hc : cntN n.pre.length ≤ 2 := by unfold cntN; omega
  have hrm := cnt_room n.pre.length
  unfold headG
  rw [words_getD (by rw [nat8_len]; exact hrm)]
  by_cases h0 : x = 0
  · subst h0; simp
  · by_cases h1 : x = 1
    · subst h1; simp
    · by_cases h2 : x < 2 + cntN n.pre.length
      · rw [if_pos ⟨by omega, h2⟩, if_neg h0, if_neg h1, if_pos (by omega)]
      · rw [if_neg (by omega), if_neg h1, if_neg h0, if_neg h0, if_neg h1]
        split
        · rw [blk_out (by rw [nat8_len]; omega)]
        · rfl
theorem enc_tail (k : Fits T) {n : NodeP} (r : RightP n) (hk : ∀ b ∈ n.keys, b < 256) {p o : Nat} {kv iv : AV} {first : Nat} {h0 : AH} (q : Quiet h0 h) (ho : h0.next ≤ o) (hl : Low h) (he : Lies h p kv iv n) (w : WordsAt h o (sizeP n.kind) (encG n 0)) (hpo : p ≠ o) (hok : o ∉ objs kv) (hoi : o ∉ objs iv) (hf : ∀ i b, n.kind ≠ 4 → plP n.kind i b = first + i) (hf2 : first ≤ 36) {f : Fr}
    (f1 : f.at 1 = .ptr p 0) (f3 : f.at 3 = wordsV o (sizeP n.kind)) (f4 : f.at 4 = .int .i64 (first : Int)) :
    Wp (code T c15z f h) (Vm.Ends [.tmp 2] fun r h' => Quiet h0 h' ∧ Low h' ∧ Row1 h' r (wcells (encW n)) ∧ ∀ o ∈ objs r, h0.next ≤ o) := by
  have fa : ∀ o j, fieldAddrV j (.ptr o 0) = some (.ptr o (0 + j)) := fun o j => rfl
  have hln : lenOfV iv = some n.keys.length := by
    have := he.si.len
    rw [r.same]; simpa [icells] using this
  simp only [c15z, c15, vms, vmc, AOpd.val, Nat.reduceEqDiff, reduceCtorEq, Nat.reduceAdd, Nat.reduceBEq, f1, fa, Nat.zero_add, he.kids, hln]
  refine enc_loop k r hk he w hpo hok hoi hf hf2 ?_ ?_ ?_ ?_ ?_ ?_ ?_
  · simp only [vms, vmc, AOpd.val, Nat.reduceEqDiff, reduceCtorEq, Nat.reduceAdd, Nat.reduceBEq, f1]
  · simp only [vms, vmc, AOpd.val, Nat.reduceEqDiff, reduceCtorEq, Nat.reduceAdd, Nat.reduceBEq, f3]
  · simp only [vms, vmc, AOpd.val, Nat.reduceEqDiff, reduceCtorEq, Nat.reduceAdd, Nat.reduceBEq, f4]
  · simp only [vms, vmc, AOpd.val, Nat.reduceEqDiff, reduceCtorEq, Nat.reduceAdd, Nat.reduceBEq]
  · simp only [vms, vmc, AOpd.val, Nat.reduceEqDiff, reduceCtorEq, Nat.reduceAdd, Nat.reduceBEq]
  · simp only [vms, vmc, AOpd.val, Nat.reduceEqDiff, reduceCtorEq, Nat.reduceAdd, Nat.reduceBEq]
  intro f' g u wg g3
  simp only [vms, vmc, AOpd.val, Nat.reduceEqDiff, reduceCtorEq, Nat.reduceAdd, Nat.reduceBEq, g3]
  refine ⟨quiet_upd q u ho, hl.upd u (w.low hl), ?_, fun x hx => ?_⟩
  · have := wg.row
    unfold encW
    rw [if_pos (rightP_iff.2 r)]
    exact this
  · simp [wordsV, objs] at hx; omega
theorem encode_ok (k : Fits T) (hl : Low h) {v : AV} {n : NodeP} (ok : n.Ok) (s : NodeV h v n) (hk : ∀ b ∈ n.keys, b < 256) :
    Gives T 15 [v] h fun r h' => Quiet h h' ∧ Low h' ∧ Row1 h' r (wcells (encW n)) ∧ ∀ o ∈ objs r, h.next ≤ o := by
  obtain ⟨kv, iv, rfl, s1, s2⟩ := s
  refine gives_func (k.env _ (by decide)) (k.at (fn := a15) rfl) rfl ?_
  have fa : ∀ o j, fieldAddrV j (.ptr o 0) = some (.ptr o (0 + j)) := fun o j => rfl
  show Wp (code T c15 _ _) _
  rw [c15_parts]
  have q1 : Quiet h (h.new (.cells (n.cells kv iv) true)) := (Quiet.refl _).new _
  have lo1 : Low (h.new (.cells (n.cells kv iv) true)) := hl.new _
  have L1 : Lies (h.new (.cells (n.cells kv iv) true)) h.next kv iv n := ⟨get_new_same, sees_keep s1 hl q1, sees_keep s2 hl q1⟩
  have nx1 : (h.new (.cells (n.cells kv iv) true)).next = h.next + 1 := rfl
  have lk : ∀ o ∈ objs kv, o < h.next := sees_low s1 hl
  have li : ∀ o ∈ objs iv, o < h.next := sees_low s2 hl
  simp only [c15a, c15b, c15, vms, vmc, AOpd.val, Nat.reduceEqDiff, reduceCtorEq, Nat.reduceAdd, Nat.reduceBEq, box_agg, load_all L1.get (n := 5) rfl]
  generalize (h.new (.cells (n.cells kv iv) true)) = h1 at *
  refine Gives.bind ((right_ok k lo1 ok ⟨kv, iv, rfl, L1.sk, L1.si⟩).mono ?_)
  rintro _ h2 ⟨rfl, q2, lo2⟩
  have n2 := q2.1
  by_cases hr : RightP n
  · have L2 := L1.keep lo1 q2
    simp only [c15c, c15, vms, vmc, AOpd.val, Nat.reduceEqDiff, reduceCtorEq, Nat.reduceAdd, Nat.reduceBEq, rightP_iff.2 hr, Bool.not_true, fa, Nat.zero_add, L2.kind]
    refine Gives.bind ((size_ok k).mono ?_)
    rintro _ _ ⟨rfl, rfl⟩
    rename_i h2
    have hsz : 12 ≤ sizeP n.kind ∧ sizeP n.kind ≤ 264 := by rcases hr.kinds with e | e | e | e <;> rw [e] <;> decide
    obtain ⟨hmk, w3⟩ := WordsAt.make (h := h2) (N := sizeP n.kind) (by omega)
    have q3 : Quiet h2 (h2.new (.cells (rep [.int .u64 0] (sizeP n.kind)) true)) := (Quiet.refl _).new _
    have lo3 : Low (h2.new (.cells (rep [.int .u64 0] (sizeP n.kind)) true)) := lo2.new _
    have L3 := L2.keep lo2 q3
    obtain ⟨o, ho⟩ : ∃ o, o = h2.next := ⟨_, rfl⟩
    have hpo : h.next ≠ o := by omega
    have hok : o ∉ objs kv := fun hm => by have := lk o hm; omega
    have hoi : o ∉ objs iv := fun hm => by have := li o hm; omega
    simp only [c15d, c15, vms, vmc, AOpd.val, Nat.reduceEqDiff, reduceCtorEq, Nat.reduceAdd, Nat.reduceBEq, hmk]
    rw [← ho] at w3 ⊢
    have q13 := (q1.trans q2).trans q3
    generalize (h2.new (.cells (rep [.int .u64 0] (sizeP n.kind)) true)) = h3 at *
    obtain ⟨h4, st4, u4, w4⟩ := w3.store (j := 0) (by omega) n.word
    have L4 := L3.upd u4 hpo hok hoi
    obtain ⟨h5, st5, u5, w5⟩ := w4.store (j := 1) (by omega) (hdN n)
    have L5 := L4.upd u5 hpo hok hoi
    have q5 := quiet_upd (quiet_upd q13 u4 (by omega)) u5 (by omega)
    have lo5 := (lo3.upd u4 (w3.low lo3)).upd u5 (w4.low (lo3.upd u4 (w3.low lo3)))
    have ix0 : idxAddrV 1 (wordsV o (sizeP n.kind)) (.int .i64 0) = some (.ptr o 0) := WordsAt.idx (j := 0) (by omega)
    have ix1 : idxAddrV 1 (wordsV o (sizeP n.kind)) (.int .i64 1) = some (.ptr o 1) := WordsAt.idx (j := 1) (by omega)
    obtain ⟨kd, hkd⟩ : ∃ kd : Nat, n.kind = kd := ⟨n.kind.toNat, by rcases hr.kinds with e | e | e | e <;> rw [e] <;> rfl⟩
    have hkd4 : kd ≤ 4 := by rcases hr.kinds with e | e | e | e <;> omega
    have hpl := hr.pre
    have hfew := hr.few
    have hhi : highP n.kind ≤ 256 := by rcases hr.kinds with e | e | e | e <;> rw [e] <;> decide
    have hlen : lenOfV kv = some n.keys.length := by simpa [kcells] using L4.sk.len
    have b1 : binV .shl (.int .i64 (n.pre.length : Int)) (.int .u64 8) = some (.int .i64 ((n.pre.length * 256 : Nat) : Int)) := bin_shl_nat (k' := .u64) (n := 8) (by decide) (by omega)
    have b2 : binV .shl (.int .i64 (n.keys.length : Int)) (.int .u64 16) = some (.int .i64 ((n.keys.length * 65536 : Nat) : Int)) := bin_shl_nat (k' := .u64) (n := 16) (by decide) (by omega)
    have hd1 := or_digits (k := kd) (p := n.pre.length) (c := 0) (by omega) (by omega)
    have hd2 := or_digits (k := kd) (p := n.pre.length) (c := n.keys.length) (by omega) (by omega)
    simp only [Nat.zero_mul, Nat.or_zero, Nat.add_zero] at hd1
    have b3 : binV .or (.int .i64 n.kind) (.int .i64 ((n.pre.length * 256 : Nat) : Int)) = some (.int .i64 ((kd ||| n.pre.length * 256 : Nat) : Int)) := by rw [hkd]; exact bin_or_i64 (by omega) (by omega)
    have b4 : binV .or (.int .i64 ((kd ||| n.pre.length * 256 : Nat) : Int)) (.int .i64 ((n.keys.length * 65536 : Nat) : Int)) = some (.int .i64 (hdN n : Nat)) := by
      rw [bin_or_i64 (by omega) (by omega), hd2]
      unfold hdN
      rw [hkd, Int.toNat_natCast]
    have w64 : IntKind.u64.wrap ((hdN n : Nat) : Int) = ((hdN n : Nat) : Int) := wrap_u64 (by unfold hdN; rw [hkd, Int.toNat_natCast]; omega)
    have sl2 : slcV 1 (wordsV o (sizeP n.kind)) (some (.int .i64 2)) none none = some (.slice o 2 1 (sizeP n.kind - 2) (sizeP n.kind - 2) true) := words_slc (i := 2) (by omega)
    simp only [c15e, c15f, c15, vms, vmc, AOpd.val, Nat.reduceEqDiff, reduceCtorEq, Nat.reduceAdd, Nat.reduceBEq, fa, Nat.zero_add, L3.word, ix0, st4, L4.kind, L4.pre, L4.keys, hlen, b1, b2, b3, b4, w64, ix1, st5, sl2, L5.pre]
    refine Gives.bind ((words_ok (g := 54) (gc := 78) (k.env _ (by decide)) (k.at rfl) (k.env _ (by decide)) (k.at rfl) lo5 (s := n.pre) (by omega)).mono ?_)
    intro r6 h6 iw
    have sw := isWords_sees iw
    obtain ⟨ex6, lo6, nx6, rfl, gw6⟩ := iw
    have q6 := ex6.quiet
    have w6 := w5.quiet lo5 q6
    have L6 := L5.keep lo5 q6
    have hcn : cntN n.pre.length ≤ 2 := by unfold cntN; omega
    obtain ⟨h7, cp7, u7, w7⟩ := w6.copy (i := 2) sw (by rw [wordsN_len]; omega)
    have L7 := L6.upd u7 hpo hok hoi
    have q7 := quiet_upd (q5.trans q6) u7 (by omega)
    have lo7 := lo6.upd u7 (w6.low lo6)
    have w7' : WordsAt h7 o (sizeP n.kind) (headG n) := w7.eq fun j hj => by unfold headG; rw [wordsN_len]
    have w8 := w7'.eq (g' := fun x => if x = 0 then n.word else if x = 1 then hdN n else if x < 4 then dig (blk (nat8 n.pre) (x - 2)) else 0) fun j hj => (headG_eq n hpl j).symm
    have sl4 : slcV 1 (wordsV o (sizeP n.kind)) (some (.int .i64 4)) none none = some (.slice o 4 1 (sizeP n.kind - 4) (sizeP n.kind - 4) true) := words_slc (i := 4) (by omega)
    have hE : ∀ j, encG n 0 j = encH n j := fun j => rfl
    rcases hr.kinds with e | e | e | e
    · have hf5 : n.keys.length ≤ 4 := by rw [e] at hfew; exact hfew
      obtain ⟨t, ht1, ht2, ht3⟩ := sees_str L7.sk hk
      simp only [c15g, c15h, c15, vms, vmc, AOpd.val, Nat.reduceEqDiff, reduceCtorEq, Nat.reduceAdd, Nat.reduceBEq, cp7, fa, Nat.zero_add, L7.kind, eqI e, sl4, L7.keys, ht1]
      refine Gives.bind ((words_ok (g := 54) (gc := 78) (k.env _ (by decide)) (k.at rfl) (k.env _ (by decide)) (k.at rfl) lo7 (s := t) (by omega)).mono ?_)
      intro r9 h9 iw9
      have sw9 := isWords_sees iw9
      obtain ⟨ex9, lo9, nx9, rfl, gw9⟩ := iw9
      have q9 := ex9.quiet
      have w9 := w8.quiet lo7 q9
      have L9 := L7.keep lo7 q9
      have hct : cntN t.length ≤ 1 := by unfold cntN; omega
      obtain ⟨h10, cp10, u10, w10⟩ := w9.copy (i := 4) sw9 (by rw [wordsN_len]; omega)
      simp only [vms, vmc, AOpd.val, Nat.reduceEqDiff, reduceCtorEq, Nat.reduceAdd, Nat.reduceBEq, cp10]
      refine enc_tail k hr hk (first := 5) (quiet_upd (q7.trans q9) u10 (by omega)) (by omega) (lo9.upd u10 (w9.low lo9)) (L9.upd u10 hpo hok hoi) (w10.eq fun j hj => ?_) hpo hok hoi (fun i b _ => by rw [e]; rfl) (by omega) ?_ ?_ ?_
      · rw [hE, wordsN_len, words_getD (by rw [nat8_len]; exact cnt_room _), ht2]
        unfold encH
        rw [if_pos e]
        have hz : n.keys.length ≤ 8 * cntN t.length := by rw [← ht3]; exact cnt_room _
        by_cases c4 : j < 4
        · rw [if_pos c4]
          have : ¬ (4 ≤ j ∧ j < 4 + cntN t.length) := by omega
          rw [if_neg this, if_pos c4]
        · have e0 : ¬ j = 0 := by omega
          have e1 : ¬ j = 1 := by omega
          simp only [if_neg e0, if_neg e1, if_neg c4]
          by_cases c5 : 4 ≤ j ∧ j < 4 + cntN t.length
          · rw [if_pos c5, if_pos (show j < 5 by omega)]
          · simp only [if_neg c5]
            split
            · rw [blk_out (by omega)]
            · rfl
      all_goals first | (simp only [vms, vmc, AOpd.val, Nat.reduceEqDiff, reduceCtorEq, Nat.reduceAdd, Nat.reduceBEq]; done) | (simp only [vms, vmc, AOpd.val, Nat.reduceEqDiff, reduceCtorEq, Nat.reduceAdd, Nat.reduceBEq]; rfl)
    · have hf5 : n.keys.length ≤ 16 := by rw [e] at hfew; exact hfew
      have ne1 : n.kind ≠ 1 := by omega
      obtain ⟨t, ht1, ht2, ht3⟩ := sees_str L7.sk hk
      simp only [c15g, c15h, c15, vms, vmc, AOpd.val, Nat.reduceEqDiff, reduceCtorEq, Nat.reduceAdd, Nat.reduceBEq, cp7, fa, Nat.zero_add, L7.kind, neI ne1, eqI e, sl4, L7.keys, ht1]
      refine Gives.bind ((words_ok (g := 54) (gc := 78) (k.env _ (by decide)) (k.at rfl) (k.env _ (by decide)) (k.at rfl) lo7 (s := t) (by omega)).mono ?_)
      intro r9 h9 iw9
      have sw9 := isWords_sees iw9
      obtain ⟨ex9, lo9, nx9, rfl, gw9⟩ := iw9
      have q9 := ex9.quiet
      have w9 := w8.quiet lo7 q9
      have L9 := L7.keep lo7 q9
      have hct : cntN t.length ≤ 2 := by unfold cntN; omega
      obtain ⟨h10, cp10, u10, w10⟩ := w9.copy (i := 4) sw9 (by rw [wordsN_len]; omega)
      simp only [vms, vmc, AOpd.val, Nat.reduceEqDiff, reduceCtorEq, Nat.reduceAdd, Nat.reduceBEq, cp10]
      refine enc_tail k hr hk (first := 6) (quiet_upd (q7.trans q9) u10 (by omega)) (by omega) (lo9.upd u10 (w9.low lo9)) (L9.upd u10 hpo hok hoi) (w10.eq fun j hj => ?_) hpo hok hoi (fun i b _ => by rw [e]; rfl) (by omega) ?_ ?_ ?_
      · rw [hE, wordsN_len, words_getD (by rw [nat8_len]; exact cnt_room _), ht2]
        unfold encH
        rw [if_neg ne1, if_pos e]
        have hz : n.keys.length ≤ 8 * cntN t.length := by rw [← ht3]; exact cnt_room _
        by_cases c4 : j < 4
        · rw [if_pos c4]
          have : ¬ (4 ≤ j ∧ j < 4 + cntN t.length) := by omega
          rw [if_neg this, if_pos c4]
        · have e0 : ¬ j = 0 := by omega
          have e1 : ¬ j = 1 := by omega
          simp only [if_neg e0, if_neg e1, if_neg c4]
          by_cases c5 : 4 ≤ j ∧ j < 4 + cntN t.length
          · rw [if_pos c5, if_pos (show j < 6 by omega)]
          · simp only [if_neg c5]
            split
            · rw [blk_out (by omega)]
            · rfl
      all_goals first | (simp only [vms, vmc, AOpd.val, Nat.reduceEqDiff, reduceCtorEq, Nat.reduceAdd, Nat.reduceBEq]; done) | (simp only [vms, vmc, AOpd.val, Nat.reduceEqDiff, reduceCtorEq, Nat.reduceAdd, Nat.reduceBEq]; rfl)
    · have hf5 : n.keys.length ≤ 48 := by rw [e] at hfew; exact hfew
      have ne1 : n.kind ≠ 1 := by omega
      have ne2 : n.kind ≠ 2 := by omega
      have nd : n.keys.Nodup := by
        rw [List.nodup_iff_pairwise_ne]
        exact (List.pairwise_iff_getElem.2 fun i j hi hj hij => Nat.ne_of_lt (rise_of hr.rise hij (List.getElem?_eq_getElem hi) (List.getElem?_eq_getElem hj)))
      simp only [c15g, c15h, c15, vms, vmc, AOpd.val, Nat.reduceEqDiff, reduceCtorEq, Nat.reduceAdd, Nat.reduceBEq, cp7, fa, Nat.zero_add, L7.kind, neI ne1, neI ne2, eqI e, sl4, L7.keys]
      refine Gives.bind ((index_ok k lo7 L7.sk hk (by omega) nd).mono ?_)
      rintro _ h9 ⟨q9, lo9, o', rfl, ho', gw9⟩
      have sw9 : Sees h9 (wordsV o' 32) (wcells (wordsN (tabN n.keys) 32)) := .inr ⟨o', 0, 32, true, _, true, by rw [wcells_len, wordsN_len]; rfl, gw9, by rw [wcells_len, wordsN_len]; omega, fun i x hx => by rw [Nat.zero_add]; exact hx⟩
      have w9 := w8.quiet lo7 q9
      have L9 := L7.keep lo7 q9
      have hs88 : sizeP n.kind = 88 := by rw [e]; rfl
      obtain ⟨h10, cp10, u10, w10⟩ := w9.copy (i := 4) sw9 (by rw [wordsN_len]; omega)
      simp only [vms, vmc, AOpd.val, Nat.reduceEqDiff, reduceCtorEq, Nat.reduceAdd, Nat.reduceBEq, cp10]
      refine enc_tail k hr hk (first := 36) (quiet_upd (q7.trans q9) u10 (by omega)) (by omega) (lo9.upd u10 (w9.low lo9)) (L9.upd u10 hpo hok hoi) (w10.eq fun j hj => ?_) hpo hok hoi (fun i b _ => by rw [e]; rfl) (by omega) ?_ ?_ ?_
      · rw [hE, wordsN_len, words_getD (by rw [tabN_len]; omega)]
        unfold encH
        rw [if_neg ne1, if_neg ne2, if_pos e]
        by_cases c4 : j < 4
        · rw [if_pos c4]
          have : ¬ (4 ≤ j ∧ j < 4 + 32) := by omega
          rw [if_neg this, if_pos c4]
        · have e0 : ¬ j = 0 := by omega
          have e1 : ¬ j = 1 := by omega
          simp only [if_neg e0, if_neg e1, if_neg c4]
          by_cases c5 : 4 ≤ j ∧ j < 4 + 32
          · rw [if_pos c5, if_pos (show j < 36 by omega)]
          · rw [if_neg c5, if_neg (show ¬ j < 36 by omega)]
      all_goals first | (simp only [vms, vmc, AOpd.val, Nat.reduceEqDiff, reduceCtorEq, Nat.reduceAdd, Nat.reduceBEq]; done) | (simp only [vms, vmc, AOpd.val, Nat.reduceEqDiff, reduceCtorEq, Nat.reduceAdd, Nat.reduceBEq]; rfl)
    · have ne1 : n.kind ≠ 1 := by omega
      have ne2 : n.kind ≠ 2 := by omega
      have ne3 : n.kind ≠ 3 := by omega
      simp only [c15g, c15h, c15, vms, vmc, AOpd.val, Nat.reduceEqDiff, reduceCtorEq, Nat.reduceAdd, Nat.reduceBEq, cp7, fa, Nat.zero_add, L7.kind, neI ne1, neI ne2, neI ne3]
      refine enc_tail k hr hk (first := 4) q7 (by omega) lo7 L7 (w8.eq fun j hj => ?_) hpo hok hoi (fun i b h4 => absurd e h4) (by omega) ?_ ?_ ?_
      · rw [hE]
        unfold encH
        rw [if_neg ne1, if_neg ne2, if_neg ne3]
      all_goals first | (simp only [vms, vmc, AOpd.val, Nat.reduceEqDiff, reduceCtorEq, Nat.reduceAdd, Nat.reduceBEq]; done) | (simp only [vms, vmc, AOpd.val, Nat.reduceEqDiff, reduceCtorEq, Nat.reduceAdd, Nat.reduceBEq]; rfl)
  · simp only [a15, c15, vms, vmc, AOpd.val, Nat.reduceEqDiff, reduceCtorEq, Nat.reduceAdd, Nat.reduceBEq, rightP_no hr, Bool.not_false]
    refine ⟨q1.trans q2, lo2, ?_, fun o ho => by simp [objs] at ho⟩
    unfold encW
    rw [rightP_no hr]
    exact .inl ⟨rfl, rfl⟩
end Go.Proofs.Ytpabmkicdcilpaa

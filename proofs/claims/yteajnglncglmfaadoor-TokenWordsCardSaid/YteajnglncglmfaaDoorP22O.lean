/- TokenWords. -/
import Derived.Test.YteajnglncglmfaaDoorP22N
import Derived.Test.YteajnglncglmfaaDoorP22E
namespace Go.Proofs.YteajnglncglmfaaDoor
open Go.Vm
set_option linter.unusedSimpArgs false
set_option linter.unusedVariables false
set_option maxRecDepth 100000
variable {T : Vm.Prog} {h : AH}
/-- The letters of a word of the law. -/
def chN (n j : Nat) : Nat := 97 + (n + j * j) % 26
def ch (n j : Nat) : UInt8 := UInt8.ofNat (chN n j)
def wd (n k : Nat) : Txt := (List.range k).map (ch n)
theorem ch_nat (n j : Nat) : (ch n j).toNat = chN n j := by
  have : chN n j < 256 := by unfold chN; omega
  simp [ch]; omega
theorem ch_good (n j : Nat) : letter (ch n j) = ch n j ∧ ch n j ≠ 0 := by
  have h1 := ch_nat n j
  have h2 : 97 ≤ chN n j ∧ chN n j ≤ 122 := by unfold chN; omega
  constructor
  · unfold letter
    rw [if_pos (.inl ⟨UInt8.le_iff_toNat_le.2 (by show 97 ≤ (ch n j).toNat; omega), UInt8.le_iff_toNat_le.2 (by show (ch n j).toNat ≤ 122; omega)⟩)]
  · intro e
    rw [e] at h1
    have : (0 : UInt8).toNat = 0 := rfl
    omega
theorem wd_len (n k : Nat) : (wd n k).length = k := by simp [wd]
theorem wd_succ (n k : Nat) : wd n (k + 1) = wd n k ++ [ch n k] := by simp [wd, List.range_succ]
theorem wd_words {n k : Nat} (hk : 0 < k) : words (wd n k) = [(wd n k).take 12] := by
  have hg : ∀ b ∈ wd n k, letter b = b ∧ b ≠ 0 := fun b hb => by
    obtain ⟨j, _, rfl⟩ := List.mem_map.1 hb
    exact ch_good n j
  have hne : wd n k ≠ [] := by
    intro e
    have := wd_len n k
    rw [e] at this
    simp at this; omega
  unfold words
  rw [map_good hg, pieces_none (fun h0 => (hg 0 h0).2 rfl)]
  simp [wordsOf, hne]
theorem words_more {S0 w : Txt} {c : UInt8} (hc : letter c = 0) : words (S0 ++ c :: w) = words S0 ++ words w := words_app hc
/-- A word is made. -/
theorem word_loop (hl : Low h) {n : Nat} {f : Fr} (hn : n ≤ 1073741824) (f9 : f.at 9 = .str []) (f10 : f.at 10 = .int .i64 (n : Int)) (f11 : f.at 11 = .int .i64 0) :
    Wp (code T (.loop c5l0) f h) fun e f' h' => e = .exit 2 ∧ Quiet h h' ∧ Low h' ∧ f'.at 9 = .str (wd n (1 + n % 15)) ∧ ∀ r, (r < 9 ∨ r = 12) → f'.at r = f.at r := by
  refine wpc_loop (fun m f' h' => ∃ k : Nat, m = 1 + n % 15 - k ∧ k ≤ 1 + n % 15 ∧ Quiet h h' ∧ Low h' ∧ f'.at 9 = .str (wd n k) ∧ f'.at 10 = .int .i64 (n : Int) ∧ f'.at 11 = .int .i64 (k : Int) ∧ ∀ r, (r < 9 ∨ r = 12) → f'.at r = f.at r) ?_ (1 + n % 15) f h ⟨0, by omega, by omega, Quiet.refl _, hl, f9, f10, f11, fun _ _ => rfl⟩
  rintro m f' h' ⟨k, rfl, hk, q, lo, f9', f10', f11', fr⟩
  have r1 : binV .rem (.int .i64 (n : Int)) (.int .i64 15) = some (.int .i64 ((n % 15 : Nat) : Int)) := by
    rw [bin_rem (by decide)]; congr 2
  have w1 : IntKind.i64.wrap (1 + ((n % 15 : Nat) : Int)) = ((1 + n % 15 : Nat) : Int) := by rw [wrap_i64 (by omega) (by omega)]; omega
  by_cases hlt : k < 1 + n % 15
  · have d1 : decide ((k : Int) < ((1 + n % 15 : Nat) : Int)) = true := by rw [decide_eq_true_eq]; omega
    have hkk : k * k ≤ 15 * 15 := Nat.mul_le_mul (by omega) (by omega)
    have w2 : IntKind.i64.wrap ((k : Int) * (k : Int)) = ((k * k : Nat) : Int) := by rw [← Int.natCast_mul, wrap_i64n (by omega)]
    have w3 : IntKind.i64.wrap ((n : Int) + ((k * k : Nat) : Int)) = ((n + k * k : Nat) : Int) := by rw [← Int.natCast_add, wrap_i64n (by omega)]
    have r2 : binV .rem (.int .i64 ((n + k * k : Nat) : Int)) (.int .i64 26) = some (.int .i64 (((n + k * k) % 26 : Nat) : Int)) := by
      rw [bin_rem (by decide)]; congr 2
    have w4 : IntKind.i64.wrap (97 + (((n + k * k) % 26 : Nat) : Int)) = ((chN n k : Nat) : Int) := by
      rw [show 97 + (((n + k * k) % 26 : Nat) : Int) = ((chN n k : Nat) : Int) by unfold chN; omega, wrap_i64n (by unfold chN; omega)]
    have w5 : IntKind.u8.wrap ((chN n k : Nat) : Int) = ((ch n k).toNat : Int) := by
      rw [wrap_u8, ch_nat, Nat.mod_eq_of_lt (by unfold chN; omega)]
    have w6 : IntKind.i64.wrap ((k : Int) + 1) = ((k + 1 : Nat) : Int) := by rw [wrap_i64 (by omega) (by omega)]; omega
    have ba : binV .add (.str (wd n k)) (.str [ch n k]) = some (.str (wd n (k + 1))) := by
      rw [wd_succ]; exact bin_str_add (by rw [wd_len]; simp; omega)
    simp only [c5l0, vms, vmc, AOpd.val, Nat.reduceEqDiff, reduceCtorEq, Nat.reduceAdd, Nat.reduceBEq, f9', f10', f11', r1, w1, d1, w2, w3, r2, w4, w5, fillB, one_str, ba, w6]
    refine ⟨1 + n % 15 - (k + 1), by omega, k + 1, rfl, by omega, q.new _, lo.new _, by trivial, by trivial, by trivial, fun r hrr => ?_⟩
    repeat rw [if_neg (by omega)]
    exact fr r hrr
  · have d1 : decide ((k : Int) < ((1 + n % 15 : Nat) : Int)) = false := by rw [decide_eq_false_iff_not]; omega
    have hk' : k = 1 + n % 15 := by omega
    subst hk'
    simp only [c5l0, vms, vmc, AOpd.val, Nat.reduceEqDiff, reduceCtorEq, Nat.reduceAdd, Nat.reduceBEq, f9', f10', f11', r1, w1, d1]
    refine ⟨by trivial, q, lo, by trivial, fun r hrr => ?_⟩
    repeat rw [if_neg (by omega)]
    exact fr r hrr
/-- Its place is looked for. -/
theorem place_loop {l : List Txt} {t : Txt} {v : AV} {f : Fr} (s : Sees h v (l.map .str)) (hs : l.length < 1000000) (f7 : f.at 7 = v) (f9 : f.at 9 = .str t) (f12 : f.at 12 = .int .i64 0) :
    Wp (code T (.loop c5l1) f h) fun e f' h' => e = .exit 4 ∧ h' = h ∧ ∃ i : Nat, i ≤ l.length ∧ f'.at 12 = .int .i64 (i : Int) ∧ (∀ j x, j < i → l[j]? = some x → x < t) ∧ (∀ x, l[i]? = some x → ¬ x < t) ∧ ∀ r, r < 12 → f'.at r = f.at r := by
  have ln : lenOfV v = some l.length := by simpa using s.len
  refine wpc_loop (fun m f' h' => ∃ i : Nat, m = l.length - i ∧ i ≤ l.length ∧ h' = h ∧ f'.at 12 = .int .i64 (i : Int) ∧ (∀ j x, j < i → l[j]? = some x → x < t) ∧ ∀ r, r < 12 → f'.at r = f.at r) ?_ l.length f h ⟨0, by omega, by omega, rfl, f12, fun j x hj _ => by omega, fun _ _ => rfl⟩
  rintro m f' h' ⟨i, rfl, hi, rfl, f12', hlo, fr⟩
  have f7' := (fr 7 (by decide)).trans f7
  have f9' := (fr 9 (by decide)).trans f9
  by_cases hlt : i < l.length
  · have d1 : decide ((i : Int) < (l.length : Int)) = true := by rw [decide_eq_true_eq]; omega
    obtain ⟨x, hx⟩ : ∃ x, l[i]? = some x := ⟨_, List.getElem?_eq_getElem hlt⟩
    obtain ⟨p, hp1, hp2⟩ := s.at (i := i) (x := .str x) (by simp [hx]) .i64
    have w2 : IntKind.i64.wrap ((i : Int) + 1) = ((i + 1 : Nat) : Int) := by rw [wrap_i64 (by omega) (by omega)]; omega
    by_cases hxt : x < t
    · simp only [c5l1, vms, vmc, AOpd.val, Nat.reduceEqDiff, reduceCtorEq, Nat.reduceAdd, Nat.reduceBEq, f7', f9', f12', ln, d1, hp1, hp2, bin_str_lss, decide_eq_true hxt, w2]
      refine ⟨l.length - (i + 1), by omega, i + 1, rfl, by omega, by trivial, by trivial, fun j y hj hy => ?_, fun r hrr => ?_⟩
      · by_cases e : j = i
        · subst e; rw [hx] at hy; cases hy; exact hxt
        · exact hlo j y (by omega) hy
      · repeat rw [if_neg (by omega)]
        exact fr r hrr
    · simp only [c5l1, vms, vmc, AOpd.val, Nat.reduceEqDiff, reduceCtorEq, Nat.reduceAdd, Nat.reduceBEq, f7', f9', f12', ln, d1, hp1, hp2, bin_str_lss, decide_eq_false hxt]
      refine ⟨by trivial, by trivial, i, hi, by trivial, hlo, fun y hy => (by rw [hx] at hy; cases hy; exact hxt), fun r hrr => ?_⟩
      repeat rw [if_neg (by omega)]
      exact fr r hrr
  · have d1 : decide ((i : Int) < (l.length : Int)) = false := by rw [decide_eq_false_iff_not]; omega
    simp only [c5l1, vms, vmc, AOpd.val, Nat.reduceEqDiff, reduceCtorEq, Nat.reduceAdd, Nat.reduceBEq, f7', f9', f12', ln, d1]
    refine ⟨by trivial, by trivial, i, hi, by trivial, hlo, fun y hy => (by rw [List.getElem?_eq_none (by omega)] at hy; cases hy), fun r hrr => ?_⟩
    repeat rw [if_neg (by omega)]
    exact fr r hrr
/-- What a round leaves. -/
structure WI (h h' : AH) (v : AV) (S : Txt) (c : UInt8) (i : Nat) : Prop where
  txt : ∃ S0, S = S0 ++ [c] ∧ S.length ≤ 1 + 16 * i ∧ ∃ l : List Txt, Row1 h' v (l.map .str) ∧ Ris l ∧ (∀ x, x ∈ l ↔ x ∈ words S0) ∧ l.length ≤ i
  quiet : Quiet h h'
  low : Low h'
theorem words_loop (k : Base T) (hl : Low h) {vw : AV} {ns : List Int} {c : UInt8} {f : Fr} (hc : letter c = 0) (sw : Sees h vw (izs ns)) (hns : ns.length ≤ 9223372036854775807) (f0 : f.at 0 = vw) (f5 : f.at 5 = .str [c]) (f6 : f.at 6 = .str [c]) (f7 : f.at 7 = .nilSlice) (f8 : f.at 8 = .int .i64 0) :
    Wp (code T (.loop c5l2) f h) fun e f' h' => e = .exit 0 ∧ ∃ S, f'.at 6 = .str S ∧ WI h h' (f'.at 7) S c 15 := by
  refine wpc_loop (fun m f' h' => ∃ i S, m = 15 - i ∧ i ≤ 15 ∧ f'.at 0 = vw ∧ f'.at 5 = .str [c] ∧ f'.at 6 = .str S ∧ f'.at 8 = .int .i64 (i : Nat) ∧ WI h h' (f'.at 7) S c i) ?_ 15 f h ⟨0, [c], by omega, by omega, f0, f5, f6, f8, ⟨[], rfl, by simp, [], by rw [f7]; exact .inl ⟨rfl, rfl⟩, by simp [Ris], by simp [words, wordsOf, pieces], by simp⟩, Quiet.refl _, hl⟩
  rintro m f' h' ⟨i, S, rfl, hi, f0', f5', f6', f8', ⟨S0, hS, hSl, l, r1, hr, hm, hll⟩, q, lo⟩
  have sw' := sees_keep sw hl q
  have ln : lenOfV vw = some ns.length := by simpa [izs] using sw'.len
  have w8 : IntKind.i64.wrap ((i : Int) + 1) = ((i + 1 : Nat) : Int) := by rw [wrap_i64 (by omega) (by omega)]; omega
  have stop : ∃ S, Fr.at f' 6 = .str S ∧ WI h h' (f'.at 7) S c 15 := ⟨S, f6', ⟨S0, hS, by omega, l, r1, hr, hm, by omega⟩, q, lo⟩
  by_cases hlt : i < ns.length
  · have d1 : decide ((i : Int) < (ns.length : Int)) = true := by rw [decide_eq_true_eq]; omega
    by_cases h15 : i < 15
    · have d2 : decide ((i : Int) < 15) = true := by rw [decide_eq_true_eq]; omega
      obtain ⟨x, hx⟩ : ∃ x, ns[i]? = some x := ⟨_, List.getElem?_eq_getElem hlt⟩
      obtain ⟨p, hp1, hp2⟩ := sw'.at (i := i) (x := .int .i64 x) (by simp [izs, hx]) .i64
      simp only [c5l2, vms, vmc, AOpd.val, Nat.reduceEqDiff, reduceCtorEq, Nat.reduceAdd, Nat.reduceBEq, f0', f8', ln, d1, d2, hp1, hp2]
      refine Gives.bind ((within_ok (lo := 0) (hi := 1073741824) (k.env 14 (by decide)) (k.at (n := 14) rfl) (by decide) (by decide) (by decide)).mono ?_)
      rintro _ _ ⟨n, rfl, hn0, hn1, rfl⟩
      obtain ⟨n, rfl⟩ := Int.eq_ofNat_of_zero_le hn0
      simp only [vms, vmc, AOpd.val, Nat.reduceEqDiff, reduceCtorEq, Nat.reduceAdd, Nat.reduceBEq]
      refine (word_loop (T := T) lo (n := n) (by omega) (by simp only [vms, vmc, AOpd.val, Nat.reduceEqDiff, reduceCtorEq, Nat.reduceAdd, Nat.reduceBEq]) (by simp only [vms, vmc, AOpd.val, Nat.reduceEqDiff, reduceCtorEq, Nat.reduceAdd, Nat.reduceBEq]) (by simp only [vms, vmc, AOpd.val, Nat.reduceEqDiff, reduceCtorEq, Nat.reduceAdd, Nat.reduceBEq])).mono ?_
      rintro e g h1 ⟨rfl, q1, lo1, g9, gr⟩
      have g0 : g.at 0 = vw := (gr 0 (by decide)).trans (by simp only [vms, vmc, AOpd.val, Nat.reduceEqDiff, reduceCtorEq, Nat.reduceAdd, Nat.reduceBEq]; exact f0')
      have g5 : g.at 5 = .str [c] := (gr 5 (by decide)).trans (by simp only [vms, vmc, AOpd.val, Nat.reduceEqDiff, reduceCtorEq, Nat.reduceAdd, Nat.reduceBEq]; exact f5')
      have g6 : g.at 6 = .str S := (gr 6 (by decide)).trans (by simp only [vms, vmc, AOpd.val, Nat.reduceEqDiff, reduceCtorEq, Nat.reduceAdd, Nat.reduceBEq]; exact f6')
      have g7 : g.at 7 = f'.at 7 := (gr 7 (by decide)).trans (by simp only [vms, vmc, AOpd.val, Nat.reduceEqDiff, reduceCtorEq, Nat.reduceAdd, Nat.reduceBEq])
      have g8 : g.at 8 = .int .i64 (i : Nat) := (gr 8 (by decide)).trans (by simp only [vms, vmc, AOpd.val, Nat.reduceEqDiff, reduceCtorEq, Nat.reduceAdd, Nat.reduceBEq]; exact f8')
      have hwl := wd_len n (1 + n % 15)
      have hww := wd_words (n := n) (k := 1 + n % 15) (by omega)
      generalize wd n (1 + n % 15) = w at *
      have b1 : binV .add (.str S) (.str w) = some (.str (S ++ w)) := bin_str_add (by omega)
      have b2 : binV .add (.str (S ++ w)) (.str [c]) = some (.str (S ++ w ++ [c])) := bin_str_add (by simp; omega)
      have mn : mnxAll false (.int .i64 (w.length : Int)) [.int .i64 12] = some (.int .i64 ((min w.length 12 : Nat) : Int)) := mn_nat (a := w.length) (b := 12)
      have st : slcStrV (.str w) none (some (.int .i64 ((min w.length 12 : Nat) : Int))) = some (.str (w.take 12)) := by
        rw [slcTo (Nat.min_le_left _ _)]
        congr 2
        by_cases h12 : w.length ≤ 12
        · rw [Nat.min_eq_left h12, List.take_of_length_le (Nat.le_refl _), List.take_of_length_le h12]
        · rw [Nat.min_eq_right (by omega)]
      have r1' := row_quiet r1 lo q1
      have hS' : S ++ w ++ [c] = (S0 ++ c :: w) ++ [c] := by rw [hS]; simp
      have hm' : ∀ x, x ∈ words (S0 ++ c :: w) ↔ x ∈ l ∨ x = w.take 12 := fun x => by
        rw [words_more hc, hww, List.mem_append, ← hm x, List.mem_singleton]
      simp only [vms, vmc, AOpd.val, Nat.reduceEqDiff, reduceCtorEq, Nat.reduceAdd, Nat.reduceBEq, g5, g6, g7, g8, g9, b1, b2, step_mnx, mn, st]
      refine (place_loop (T := T) r1'.sees (by omega) (t := w.take 12) (by simp only [vms, vmc, AOpd.val, Nat.reduceEqDiff, reduceCtorEq, Nat.reduceAdd, Nat.reduceBEq]; exact g7) (by simp only [vms, vmc, AOpd.val, Nat.reduceEqDiff, reduceCtorEq, Nat.reduceAdd, Nat.reduceBEq]) (by simp only [vms, vmc, AOpd.val, Nat.reduceEqDiff, reduceCtorEq, Nat.reduceAdd, Nat.reduceBEq])).mono ?_
      rintro e p2 h2 ⟨rfl, rfl, a, ha, p12, hlo, hhi, pr⟩
      have p0 : p2.at 0 = vw := (pr 0 (by decide)).trans (by simp only [vms, vmc, AOpd.val, Nat.reduceEqDiff, reduceCtorEq, Nat.reduceAdd, Nat.reduceBEq]; exact g0)
      have p5 : p2.at 5 = .str [c] := (pr 5 (by decide)).trans (by simp only [vms, vmc, AOpd.val, Nat.reduceEqDiff, reduceCtorEq, Nat.reduceAdd, Nat.reduceBEq]; exact g5)
      have p6 : p2.at 6 = .str (S ++ w ++ [c]) := (pr 6 (by decide)).trans (by simp only [vms, vmc, AOpd.val, Nat.reduceEqDiff, reduceCtorEq, Nat.reduceAdd, Nat.reduceBEq])
      have p7 : p2.at 7 = f'.at 7 := (pr 7 (by decide)).trans (by simp only [vms, vmc, AOpd.val, Nat.reduceEqDiff, reduceCtorEq, Nat.reduceAdd, Nat.reduceBEq]; exact g7)
      have p8 : p2.at 8 = .int .i64 (i : Nat) := (pr 8 (by decide)).trans (by simp only [vms, vmc, AOpd.val, Nat.reduceEqDiff, reduceCtorEq, Nat.reduceAdd, Nat.reduceBEq]; exact g8)
      have p9 : p2.at 9 = .str (w.take 12) := (pr 9 (by decide)).trans (by simp only [vms, vmc, AOpd.val, Nat.reduceEqDiff, reduceCtorEq, Nat.reduceAdd, Nat.reduceBEq])
      have lv : lenOfV (f'.at 7) = some l.length := by simpa using r1'.sees.len
      have put : ∀ {f2 : Fr}, f2.at 7 = f'.at 7 → f2.at 9 = .str (w.take 12) → f2.at 12 = .int .i64 (a : Int) → (∀ x, l[a]? = some x → w.take 12 < x) → ∀ {Q : Fr → AH → Prop}, True := fun _ _ _ _ {_} => trivial
      have bf0 : fillV ([] : List AV) [] = some [] := rfl
      have bf : fillV [AV.str []] [(0, 1, AV.str (w.take 12))] = some [AV.str (w.take 12)] := fill1 rfl rfl
      have ge : ((h2.new (.cells [] true)).new (.cells [.str (w.take 12)] true)).get h2.next = some (.cells [] true) := by rw [AH.get_new, if_neg (by rw [next_new]; omega)]; exact get_new_same
      have gy : ((h2.new (.cells [] true)).new (.cells [.str (w.take 12)] true)).get (h2.next + 1) = some (.cells [.str (w.take 12)] true) := get_new_same
      obtain ⟨va, vb, v1, h3, v2, h4, v3, h5, s1, s2, ap1, gg1, ap2, ap3, r3, q3, lo3, _⟩ := insplice (bytes := 16) lo1 r1' (k := a) (y := .str (w.take 12)) (by simpa using ha) (by simp; omega) strs_flat rfl (by decide) (by decide)
      have fin : ∀ (hgt : ∀ x, l[a]? = some x → w.take 12 < x), WI h h5 v3 (S ++ w ++ [c]) c (i + 1) := fun hgt => by
        obtain ⟨z1, z2⟩ := ris_put hr ha hlo hgt
        refine ⟨⟨S0 ++ c :: w, hS', by simp; omega, l.take a ++ [w.take 12] ++ l.drop a, by simpa using r3, z1, fun x => (z2 x).trans (hm' x).symm, by simp; omega⟩, (q.trans q1).trans q3, lo3⟩
      by_cases hend : a = l.length
      · have e1 : ((a : Int) == (l.length : Int)) = true := by simp [hend]
        simp only [vms, vmc, AOpd.val, Nat.reduceEqDiff, reduceCtorEq, Nat.reduceAdd, Nat.reduceBEq, p7, p9, p12, lv, e1, bf0, s1, bf, s2]
        rw [items_look (look_build (q := h2.next) (l := []) (by simp only [vms, vmc, AOpd.val, Nat.reduceEqDiff, reduceCtorEq, Nat.reduceAdd, Nat.reduceBEq]; exact bf0) (by simp only [vms, vmc, AOpd.val, Nat.reduceEqDiff, reduceCtorEq, Nat.reduceAdd, Nat.reduceBEq]; rfl) ge rfl),
          items_look (look_build (q := h2.next + 1) (l := [AV.str (w.take 12)]) (by simp only [vms, vmc, AOpd.val, Nat.reduceEqDiff, reduceCtorEq, Nat.reduceAdd, Nat.reduceBEq, p9]; exact bf) (by simp only [vms, vmc, AOpd.val, Nat.reduceEqDiff, reduceCtorEq, Nat.reduceAdd, Nat.reduceBEq, next_new]; rfl) gy (beqs1 (by simp [AV.beq])))]
        simp only [vms, vmc, AOpd.val, Nat.reduceEqDiff, reduceCtorEq, Nat.reduceAdd, Nat.reduceBEq, ap1]
        rw [items_look (look_build (q := h2.next + 1) (l := [AV.str (w.take 12)]) (by simp only [vms, vmc, AOpd.val, Nat.reduceEqDiff, reduceCtorEq, Nat.reduceAdd, Nat.reduceBEq, p9]; exact bf) (by simp only [vms, vmc, AOpd.val, Nat.reduceEqDiff, reduceCtorEq, Nat.reduceAdd, Nat.reduceBEq, next_new]; rfl) gg1 (beqs1 (by simp [AV.beq])))]
        simp only [vms, vmc, AOpd.val, Nat.reduceEqDiff, reduceCtorEq, Nat.reduceAdd, Nat.reduceBEq, next_new, ap2, ap3, p0, p5, p6, p8, w8]
        exact ⟨15 - (i + 1), by omega, i + 1, S ++ w ++ [c], rfl, by omega, by trivial, by trivial, by trivial, by trivial, fin fun x hx => by rw [List.getElem?_eq_none (by omega)] at hx; cases hx⟩
      · have e1 : ((a : Int) == (l.length : Int)) = false := by simp; omega
        obtain ⟨y, hy⟩ : ∃ y, l[a]? = some y := ⟨_, List.getElem?_eq_getElem (by omega)⟩
        obtain ⟨p', hq1, hq2⟩ := r1'.sees.at (i := a) (x := .str y) (by simp [hy]) .i64
        cases e2 : (y == w.take 12) with
        | true =>
          have hye : y = w.take 12 := by simpa using e2
          simp only [vms, vmc, AOpd.val, Nat.reduceEqDiff, reduceCtorEq, Nat.reduceAdd, Nat.reduceBEq, p7, p9, p12, lv, e1, hq1, hq2, e2, p0, p5, p6, p8, w8]
          refine ⟨15 - (i + 1), by omega, i + 1, S ++ w ++ [c], rfl, by omega, by trivial, by trivial, by trivial, by trivial, ⟨S0 ++ c :: w, hS', by simp; omega, l, r1', hr, fun x => ?_, by omega⟩, q.trans q1, lo1⟩
          rw [hm' x]
          constructor
          · exact .inl
          · rintro (h6 | h6)
            · exact h6
            · rw [h6, ← hye]; exact List.mem_of_getElem? hy
        | false =>
          have hne : y ≠ w.take 12 := by simpa using e2
          simp only [vms, vmc, AOpd.val, Nat.reduceEqDiff, reduceCtorEq, Nat.reduceAdd, Nat.reduceBEq, p7, p9, p12, lv, e1, hq1, hq2, e2, bf0, s1, bf, s2]
          rw [items_look (look_build (q := h2.next) (l := []) (by simp only [vms, vmc, AOpd.val, Nat.reduceEqDiff, reduceCtorEq, Nat.reduceAdd, Nat.reduceBEq]; exact bf0) (by simp only [vms, vmc, AOpd.val, Nat.reduceEqDiff, reduceCtorEq, Nat.reduceAdd, Nat.reduceBEq]; rfl) ge rfl),
            items_look (look_build (q := h2.next + 1) (l := [AV.str (w.take 12)]) (by simp only [vms, vmc, AOpd.val, Nat.reduceEqDiff, reduceCtorEq, Nat.reduceAdd, Nat.reduceBEq, p9]; exact bf) (by simp only [vms, vmc, AOpd.val, Nat.reduceEqDiff, reduceCtorEq, Nat.reduceAdd, Nat.reduceBEq, next_new]; rfl) gy (beqs1 (by simp [AV.beq])))]
          simp only [vms, vmc, AOpd.val, Nat.reduceEqDiff, reduceCtorEq, Nat.reduceAdd, Nat.reduceBEq, ap1]
          rw [items_look (look_build (q := h2.next + 1) (l := [AV.str (w.take 12)]) (by simp only [vms, vmc, AOpd.val, Nat.reduceEqDiff, reduceCtorEq, Nat.reduceAdd, Nat.reduceBEq, p9]; exact bf) (by simp only [vms, vmc, AOpd.val, Nat.reduceEqDiff, reduceCtorEq, Nat.reduceAdd, Nat.reduceBEq, next_new]; rfl) gg1 (beqs1 (by simp [AV.beq])))]
          simp only [vms, vmc, AOpd.val, Nat.reduceEqDiff, reduceCtorEq, Nat.reduceAdd, Nat.reduceBEq, next_new, ap2, ap3, p0, p5, p6, p8, w8]
          exact ⟨15 - (i + 1), by omega, i + 1, S ++ w ++ [c], rfl, by omega, by trivial, by trivial, by trivial, by trivial, fin fun x hx => by
            rw [hy] at hx; cases hx
            exact tlt_of (List.not_lt.1 (hhi _ hy)) (Ne.symm hne)⟩
    · have d2 : decide ((i : Int) < 15) = false := by rw [decide_eq_false_iff_not]; omega
      simp only [c5l2, vms, vmc, AOpd.val, Nat.reduceEqDiff, reduceCtorEq, Nat.reduceAdd, Nat.reduceBEq, f0', f8', ln, d1, d2]
      exact ⟨by trivial, stop⟩
  · have d1 : decide ((i : Int) < (ns.length : Int)) = false := by rw [decide_eq_false_iff_not]; omega
    simp only [c5l2, vms, vmc, AOpd.val, Nat.reduceEqDiff, reduceCtorEq, Nat.reduceAdd, Nat.reduceBEq, f0', f8', ln, d1]
    exact ⟨by trivial, stop⟩
theorem words_run (k : Fits T) (hl : Low h) {vw : AV} {ns : List Int} {c : UInt8} (sw : Sees h vw (izs ns)) (hns : ns.length ≤ 9223372036854775807) : Gives T 5 [vw, .int .u8 (c.toNat : Int)] h fun r _ => r = .bool true := by
  refine gives_func (k.base.env 5 (by decide)) (k.base.at (n := 5) rfl) rfl ?_
  simp only [a5, c5, vms, vmc, AOpd.val, Nat.reduceEqDiff, reduceCtorEq, Nat.reduceAdd, Nat.reduceBEq]
  refine Gives.bind ((letter_ok k.base).mono ?_)
  rintro _ _ ⟨rfl, rfl⟩
  by_cases hz : letter c = 0
  · have e0 : (((letter c).toNat : Int) != 0) = false := by rw [hz]; rfl
    simp only [vms, vmc, AOpd.val, Nat.reduceEqDiff, reduceCtorEq, Nat.reduceAdd, Nat.reduceBEq, e0, fillB, one_str]
    refine (words_loop k.base (hl.new _) hz (sees_keep sw hl ((Quiet.refl _).new _)) hns (by simp only [vms, vmc, AOpd.val, Nat.reduceEqDiff, reduceCtorEq, Nat.reduceAdd, Nat.reduceBEq]) (by simp only [vms, vmc, AOpd.val, Nat.reduceEqDiff, reduceCtorEq, Nat.reduceAdd, Nat.reduceBEq]) (by simp only [vms, vmc, AOpd.val, Nat.reduceEqDiff, reduceCtorEq, Nat.reduceAdd, Nat.reduceBEq]) (by simp only [vms, vmc, AOpd.val, Nat.reduceEqDiff, reduceCtorEq, Nat.reduceAdd, Nat.reduceBEq]) (by simp only [vms, vmc, AOpd.val, Nat.reduceEqDiff, reduceCtorEq, Nat.reduceAdd, Nat.reduceBEq])).mono ?_
    rintro e g h1 ⟨rfl, S, g6, ⟨S0, hS, hSl, l, r1, hr, hm, hll⟩, q1, lo1⟩
    have hw : terms S = l := by
      unfold terms
      refine setT_eq hr fun x => (hm x).trans ?_
      rw [hS, words_app (b := []) hz, words_nil, List.append_nil]
    simp only [vms, vmc, AOpd.val, Nat.reduceEqDiff, reduceCtorEq, Nat.reduceAdd, Nat.reduceBEq, g6]
    refine Gives.bind ((k.termsOk lo1 (s := S) (by omega)).mono ?_)
    rintro _ h2 ⟨q2, lo2, v, rfl, r2, _⟩
    rw [hw] at r2
    have e1 : ((0 : Int) == 0) = true := rfl
    simp only [vms, vmc, AOpd.val, Nat.reduceEqDiff, reduceCtorEq, Nat.reduceAdd, Nat.reduceBEq, e1]
    refine Gives.bind ((same_ok k.base r2.sees (row_quiet r1 lo1 q2).sees (by omega) (by omega)).mono ?_)
    rintro _ _ ⟨rfl, rfl⟩
    have ds : decide (l = l) = true := decide_eq_true rfl
    simp only [vms, vmc, AOpd.val, Nat.reduceEqDiff, reduceCtorEq, Nat.reduceAdd, Nat.reduceBEq, ds]
    refine Gives.bind ((k.yes _).mono ?_)
    rintro _ _ ⟨rfl, rfl⟩
    simp only [vms, vmc, AOpd.val, Nat.reduceEqDiff, reduceCtorEq, Nat.reduceAdd, Nat.reduceBEq]
  · have e0 : (((letter c).toNat : Int) != 0) = true := by
      have : (letter c).toNat ≠ 0 := fun e => hz (UInt8.toNat_inj.1 (by simpa using e))
      simp; omega
    simp only [vms, vmc, AOpd.val, Nat.reduceEqDiff, reduceCtorEq, Nat.reduceAdd, Nat.reduceBEq, e0]
    refine Gives.bind ((k.yes _).mono ?_)
    rintro _ _ ⟨rfl, rfl⟩
    simp only [vms, vmc, AOpd.val, Nat.reduceEqDiff, reduceCtorEq, Nat.reduceAdd, Nat.reduceBEq]
end Go.Proofs.YteajnglncglmfaaDoor

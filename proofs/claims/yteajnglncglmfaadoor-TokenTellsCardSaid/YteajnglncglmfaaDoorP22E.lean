/- Chapter 22: the reference's Terms; equality of lists of texts; TokenTells. -/
import Derived.Test.YteajnglncglmfaaDoorP22K
namespace Go.Proofs.YteajnglncglmfaaDoor
open Go.Vm
set_option linter.unusedSimpArgs false
set_option linter.unusedVariables false
set_option maxRecDepth 100000
variable {T : Vm.Prog} {h : AH}
theorem same_ok (k : Base T) {va vb : AV} {xs ys : List Txt} (hx : Sees h va (xs.map .str)) (hy : Sees h vb (ys.map .str)) (hl : xs.length < 9223372036854775807) (hl' : ys.length < 9223372036854775807) :
    Gives T 10 [va, vb] h fun r h' => r = .bool (decide (xs = ys)) ∧ h' = h := by
  refine gives_func (k.env 10 (by decide)) (k.at (n := 10) rfl) rfl ?_
  have lx : lenOfV va = some xs.length := by simpa using hx.len
  have ly : lenOfV vb = some ys.length := by simpa using hy.len
  simp only [a10, c10, vms, vmc, AOpd.val, Nat.reduceEqDiff, reduceCtorEq, Nat.reduceAdd, Nat.reduceBEq, lx, ly]
  split
  · rename_i hne
    have : xs ≠ ys := fun e => by subst e; simp at hne
    simp [this]
  · rename_i hne
    have hlen : xs.length = ys.length := by
      have := hne; simp at this; omega
    refine wpc_loop (fun m f h' => ∃ i, m = xs.length - i ∧ i ≤ xs.length ∧ h' = h ∧ f.at 0 = va ∧ f.at 1 = vb ∧ f.at 5 = .int .i64 (i : Nat) ∧ ∀ j, j < i → xs[j]? = ys[j]?) ?_ xs.length _ _ ⟨0, by simp, by simp, rfl, ?_⟩
    · rintro m f h' ⟨i, rfl, hi, rfl, h0, h1, h5, hpre⟩
      by_cases hlt : i < xs.length
      · have d1 : decide ((i : Int) < (xs.length : Int)) = true := by rw [decide_eq_true_eq]; omega
        obtain ⟨x, hxi⟩ : ∃ x, xs[i]? = some x := ⟨_, List.getElem?_eq_getElem hlt⟩
        obtain ⟨y, hyi⟩ : ∃ y, ys[i]? = some y := ⟨_, List.getElem?_eq_getElem (hlen ▸ hlt)⟩
        obtain ⟨p, hp1, hp2⟩ := hx.at (i := i) (x := .str x) (by simp [hxi]) .i64
        obtain ⟨q, hq1, hq2⟩ := hy.at (i := i) (x := .str y) (by simp [hyi]) .i64
        have hw : IntKind.i64.wrap ((i : Int) + 1) = ((i + 1 : Nat) : Int) := by rw [wrap_i64 (by omega) (by omega)]; rfl
        cases e : (x == y) with
        | false =>
          have hne' : x ≠ y := by simpa using e
          have : xs ≠ ys := fun e => by subst e; rw [hxi] at hyi; cases hyi; exact hne' rfl
          simp only [c10l0, vms, vmc, AOpd.val, Nat.reduceEqDiff, reduceCtorEq, Nat.reduceAdd, Nat.reduceBEq, h0, h1, h5, lx, d1, hp1, hp2, hq1, hq2, e]
          simp [this]
        | true =>
          have heq : x = y := by simpa using e
          subst heq
          simp only [c10l0, vms, vmc, AOpd.val, Nat.reduceEqDiff, reduceCtorEq, Nat.reduceAdd, Nat.reduceBEq, h0, h1, h5, lx, d1, hp1, hp2, hq1, hq2, e, hw]
          refine ⟨xs.length - (i + 1), by omega, i + 1, rfl, by omega, by trivial, by trivial, by trivial, by trivial, fun j hj => ?_⟩
          by_cases e : j = i
          · subst e; rw [hxi, hyi]
          · exact hpre j (by omega)
      · have d1 : decide ((i : Int) < (xs.length : Int)) = false := by rw [decide_eq_false_iff_not]; omega
        have : xs = ys := by
          apply List.ext_getElem?
          intro j
          by_cases hj : j < i
          · exact hpre j hj
          · rw [List.getElem?_eq_none (by omega), List.getElem?_eq_none (by omega)]
        simp only [c10l0, vms, vmc, AOpd.val, Nat.reduceEqDiff, reduceCtorEq, Nat.reduceAdd, Nat.reduceBEq, h0, h5, lx, d1]
        simp [this]
    · simp only [vms, vmc, AOpd.val, Nat.reduceEqDiff, reduceCtorEq, Nat.reduceAdd, Nat.reduceBEq]
      simp
theorem letter2_ok (k : Base T) {b : UInt8} : Gives T 13 [.int .u8 (b.toNat : Int)] h fun r h' => r = .int .u8 ((letter b).toNat : Int) ∧ h' = h := by
  refine gives_func (k.env 13 (by decide)) (k.at (n := 13) rfl) rfl ?_
  have hb := b.toNat_lt
  by_cases h1 : (b.toNat : Int) ≥ 97
  · by_cases h2 : (b.toNat : Int) ≤ 122
    · have e : letter b = b := by
        unfold letter
        rw [if_pos (.inl ⟨UInt8.le_iff_toNat_le.2 (by show 97 ≤ b.toNat; omega), UInt8.le_iff_toNat_le.2 (by show b.toNat ≤ 122; omega)⟩)]
      simp only [a13, c13, vms, vmc, AOpd.val, Nat.reduceEqDiff, reduceCtorEq, Nat.reduceAdd, Nat.reduceBEq, decide_eq_true h1, decide_eq_true h2]
      rw [e]; exact ⟨by trivial, by trivial⟩
    · have d3 : decide ((b.toNat : Int) ≥ 48) = true := decide_eq_true (by omega)
      have d4 : decide ((b.toNat : Int) ≤ 57) = false := decide_eq_false (by omega)
      have d5 : decide ((b.toNat : Int) ≥ 65) = true := decide_eq_true (by omega)
      have d6 : decide ((b.toNat : Int) ≤ 90) = false := decide_eq_false (by omega)
      have e : letter b = 0 := by
        unfold letter
        rw [if_neg, if_neg]
        · rintro ⟨_, h⟩; have : b.toNat ≤ 90 := UInt8.le_iff_toNat_le.1 h; omega
        · rintro (⟨_, h⟩ | ⟨_, h⟩)
          · have : b.toNat ≤ 122 := UInt8.le_iff_toNat_le.1 h; omega
          · have : b.toNat ≤ 57 := UInt8.le_iff_toNat_le.1 h; omega
      simp only [a13, c13, vms, vmc, AOpd.val, Nat.reduceEqDiff, reduceCtorEq, Nat.reduceAdd, Nat.reduceBEq, decide_eq_true h1, decide_eq_false h2, d3, d4, d5, d6]
      rw [e]; exact ⟨by trivial, by trivial⟩
  · by_cases h3 : (b.toNat : Int) ≥ 48 ∧ (b.toNat : Int) ≤ 57
    · have e : letter b = b := by
        unfold letter
        rw [if_pos (.inr ⟨UInt8.le_iff_toNat_le.2 (by show 48 ≤ b.toNat; omega), UInt8.le_iff_toNat_le.2 (by show b.toNat ≤ 57; omega)⟩)]
      simp only [a13, c13, vms, vmc, AOpd.val, Nat.reduceEqDiff, reduceCtorEq, Nat.reduceAdd, Nat.reduceBEq, decide_eq_false h1, decide_eq_true h3.1, decide_eq_true h3.2]
      rw [e]; exact ⟨by trivial, by trivial⟩
    · have nl : ¬ ((97 ≤ b ∧ b ≤ 122) ∨ (48 ≤ b ∧ b ≤ 57)) := by
        rintro (⟨h, _⟩ | ⟨h, h'⟩)
        · have : 97 ≤ b.toNat := UInt8.le_iff_toNat_le.1 h; omega
        · have : 48 ≤ b.toNat := UInt8.le_iff_toNat_le.1 h
          have : b.toNat ≤ 57 := UInt8.le_iff_toNat_le.1 h'
          omega
      by_cases h5 : (b.toNat : Int) ≥ 65 ∧ (b.toNat : Int) ≤ 90
      · have d3 : decide ((b.toNat : Int) ≥ 48) = true := decide_eq_true (by omega)
        have d4 : decide ((b.toNat : Int) ≤ 57) = false := decide_eq_false (by omega)
        have e : letter b = b + 32 := by
          unfold letter
          rw [if_neg nl, if_pos ⟨UInt8.le_iff_toNat_le.2 (by show 65 ≤ b.toNat; omega), UInt8.le_iff_toNat_le.2 (by show b.toNat ≤ 90; omega)⟩]
        have et : (b + 32).toNat = b.toNat + 32 := by rw [UInt8.toNat_add]; simp; omega
        have w1 : IntKind.u8.wrap ((b.toNat : Int) + 32) = ((b.toNat + 32 : Nat) : Int) := by
          rw [show (b.toNat : Int) + 32 = ((b.toNat + 32 : Nat) : Int) by omega, wrap_u8, Nat.mod_eq_of_lt (by omega)]
        simp only [a13, c13, vms, vmc, AOpd.val, Nat.reduceEqDiff, reduceCtorEq, Nat.reduceAdd, Nat.reduceBEq, decide_eq_false h1, d3, d4, decide_eq_true h5.1, decide_eq_true h5.2, w1]
        rw [e, et]; exact ⟨by trivial, by trivial⟩
      · have e : letter b = 0 := by
          unfold letter
          rw [if_neg nl, if_neg]
          rintro ⟨h, h'⟩
          have : 65 ≤ b.toNat := UInt8.le_iff_toNat_le.1 h
          have : b.toNat ≤ 90 := UInt8.le_iff_toNat_le.1 h'
          omega
        have fin : (letter b).toNat = 0 := by rw [e]; rfl
        by_cases d3 : (b.toNat : Int) ≥ 48
        · have d4 : decide ((b.toNat : Int) ≤ 57) = false := decide_eq_false (by omega)
          by_cases d5 : (b.toNat : Int) ≥ 65
          · have d6 : decide ((b.toNat : Int) ≤ 90) = false := decide_eq_false (by omega)
            simp only [a13, c13, vms, vmc, AOpd.val, Nat.reduceEqDiff, reduceCtorEq, Nat.reduceAdd, Nat.reduceBEq, decide_eq_false h1, decide_eq_true d3, d4, decide_eq_true d5, d6]
            rw [fin]; exact ⟨by trivial, by trivial⟩
          · simp only [a13, c13, vms, vmc, AOpd.val, Nat.reduceEqDiff, reduceCtorEq, Nat.reduceAdd, Nat.reduceBEq, decide_eq_false h1, decide_eq_true d3, d4, decide_eq_false d5]
            rw [fin]; exact ⟨by trivial, by trivial⟩
        · have d5 : decide ((b.toNat : Int) ≥ 65) = false := decide_eq_false (by omega)
          simp only [a13, c13, vms, vmc, AOpd.val, Nat.reduceEqDiff, reduceCtorEq, Nat.reduceAdd, Nat.reduceBEq, decide_eq_false h1, decide_eq_false d3, d5]
          rw [fin]; exact ⟨by trivial, by trivial⟩
theorem bin_str_lss {a b : Txt} : binV .lss (.str a) (.str b) = some (.bool (decide (a < b))) := by
  rw [← Go.Proofs.bytesLess_eq]
  simp [binV, strBin]
/-- One more, at its place. -/
theorem ris_put {l : List Txt} {t : Txt} {k : Nat} (hr : Ris l) (hk : k ≤ l.length) (hlo : ∀ j x, j < k → l[j]? = some x → x < t) (hhi : ∀ x, l[k]? = some x → t < x) : Ris (l.take k ++ [t] ++ l.drop k) ∧ ∀ x, x ∈ l.take k ++ [t] ++ l.drop k ↔ x ∈ l ∨ x = t := by
  have hm : ∀ x, x ∈ l ↔ x ∈ l.take k ∨ x ∈ l.drop k := fun x => by
    rw [← List.mem_append, List.take_append_drop]
  constructor
  · have hl : ∀ x ∈ l.take k, x < t := fun x hx => by
      obtain ⟨j, hj⟩ := List.getElem?_of_mem hx
      rw [List.getElem?_take] at hj
      split at hj
      · exact hlo j x ‹_› hj
      · cases hj
    have hd : ∀ x ∈ l.drop k, t < x := fun x hx => by
      obtain ⟨j, hj⟩ := List.getElem?_of_mem hx
      rw [List.getElem?_drop] at hj
      have hlt := (List.getElem?_eq_some_iff.1 hj).1
      have h0 := hhi l[k] (List.getElem?_eq_getElem (by omega))
      by_cases e : j = 0
      · subst e
        have := hhi x (by simpa using hj)
        exact this
      · have : l[k] < l[k + j] := List.pairwise_iff_getElem.1 hr k (k + j) (by omega) hlt (by omega)
        rw [List.getElem?_eq_getElem hlt] at hj
        cases hj
        exact tlt_trans h0 this
    refine List.pairwise_append.2 ⟨List.pairwise_append.2 ⟨hr.sublist (List.take_sublist _ _), by simp, fun x hx y hy => ?_⟩, hr.sublist (List.drop_sublist _ _), fun x hx y hy => ?_⟩
    · simp at hy; subst hy; exact hl x hx
    · rcases List.mem_append.1 hx with hx | hx
      · exact tlt_trans (hl x hx) (hd y hy)
      · simp at hx; subst hx; exact hd y hy
  · intro x
    simp only [List.mem_append, List.mem_singleton, hm x]
    constructor
    · rintro ((h | h) | h)
      · exact .inl (.inl h)
      · exact .inr h
      · exact .inl (.inr h)
    · rintro ((h | h) | h)
      · exact .inl (.inl h)
      · exact .inr h
      · exact .inl (.inr h)
theorem strs_flat {l : List Txt} : ∀ x ∈ l.map AV.str, AV.flat x = true := fun x hx => by
  obtain ⟨a, _, rfl⟩ := List.mem_map.1 hx
  rfl
/-- The reference's insert. -/
theorem insert_ok (k : Base T) (hl : Low h) {v : AV} {l : List Txt} {t : Txt} (row : Row1 h v (l.map .str)) (hr : Ris l) (hs : l.length < 400000) :
    Gives T 19 [v, .str t] h fun r h' => Quiet h h' ∧ Low h' ∧ ∃ l', Row1 h' r (l'.map .str) ∧ Ris l' ∧ (∀ x, x ∈ l' ↔ x ∈ l ∨ x = t) ∧ l'.length ≤ l.length + 1 := by
  refine gives_func (k.env 19 (by decide)) (k.at (n := 19) rfl) rfl ?_
  have ln : lenOfV v = some l.length := by simpa using row.sees.len
  simp only [a19, c19, vms, vmc, AOpd.val, Nat.reduceEqDiff, reduceCtorEq, Nat.reduceAdd, Nat.reduceBEq]
  refine wpc_loop (fun m f h' => ∃ i, m = l.length - i ∧ i ≤ l.length ∧ h' = h ∧ f.at 0 = v ∧ f.at 1 = .str t ∧ f.at 5 = .int .i64 (i : Nat) ∧ ∀ j x, j < i → l[j]? = some x → x < t) ?_ l.length _ _ ⟨0, by omega, by omega, rfl, ?_⟩
  · rintro m f h' ⟨i, rfl, hi, rfl, f0, f1, f5, hlo⟩
    by_cases hlt : i < l.length
    · have d1 : decide ((i : Int) < (l.length : Int)) = true := by rw [decide_eq_true_eq]; omega
      obtain ⟨x, hx⟩ : ∃ x, l[i]? = some x := ⟨_, List.getElem?_eq_getElem hlt⟩
      obtain ⟨p, hp1, hp2⟩ := row.sees.at (i := i) (x := .str x) (by simp [hx]) .i64
      have w2 : IntKind.i64.wrap ((i : Int) + 1) = ((i + 1 : Nat) : Int) := by rw [wrap_i64 (by omega) (by omega)]; omega
      by_cases hxt : x < t
      · simp only [c19l0, vms, vmc, AOpd.val, Nat.reduceEqDiff, reduceCtorEq, Nat.reduceAdd, Nat.reduceBEq, f0, f1, f5, ln, d1, hp1, hp2, bin_str_lss, decide_eq_true hxt, w2]
        refine ⟨l.length - (i + 1), by omega, i + 1, rfl, by omega, by trivial, by trivial, by trivial, by trivial, fun j y hj hy => ?_⟩
        by_cases e : j = i
        · subst e; rw [hx] at hy; cases hy; exact hxt
        · exact hlo j y (by omega) hy
      · cases e : (x == t) with
        | true =>
          have hxe : x = t := by simpa using e
          simp only [c19l0, vms, vmc, AOpd.val, Nat.reduceEqDiff, reduceCtorEq, Nat.reduceAdd, Nat.reduceBEq, f0, f1, f5, ln, d1, hp1, hp2, bin_str_lss, decide_eq_false hxt, e]
          refine ⟨Quiet.refl _, hl, l, row, hr, fun z => ⟨.inl, fun h => ?_⟩, by omega⟩
          rcases h with h | h
          · exact h
          · rw [h, ← hxe]; exact List.mem_of_getElem? hx
        | false =>
          have hne : x ≠ t := by simpa using e
          have hgt : t < x := tlt_of (List.not_lt.1 hxt) (Ne.symm hne)
          obtain ⟨va, vb, v1, h1, v2, h2, v3, h3, s1, s2, ap1, g1, ap2, ap3, r3, q3, lo3, _⟩ := insplice (bytes := 16) hl row (k := i) (y := .str t) (by simpa using hi) (by simpa using hs) strs_flat rfl (by decide) (by decide)
          have bf0 : fillV ([] : List AV) [] = some [] := rfl
          have bf : fillV [AV.str []] [(0, 1, AV.str t)] = some [AV.str t] := fill1 rfl rfl
          have ge : ((h'.new (.cells [] true)).new (.cells [.str t] true)).get h'.next = some (.cells [] true) := by rw [AH.get_new, if_neg (by rw [next_new]; omega)]; exact get_new_same
          have gy : ((h'.new (.cells [] true)).new (.cells [.str t] true)).get (h'.next + 1) = some (.cells [.str t] true) := get_new_same
          simp only [c19l0, vms, vmc, AOpd.val, Nat.reduceEqDiff, reduceCtorEq, Nat.reduceAdd, Nat.reduceBEq, f0, f1, f5, ln, d1, hp1, hp2, bin_str_lss, decide_eq_false hxt, e, bf0, s1, bf, s2]
          rw [items_look (look_build (q := h'.next) (l := []) (by simp only [vms, vmc, AOpd.val, Nat.reduceEqDiff, reduceCtorEq, Nat.reduceAdd, Nat.reduceBEq]; exact bf0) (by simp only [vms, vmc, AOpd.val, Nat.reduceEqDiff, reduceCtorEq, Nat.reduceAdd, Nat.reduceBEq]; rfl) ge rfl),
            items_look (look_build (q := h'.next + 1) (l := [AV.str t]) (by simp only [vms, vmc, AOpd.val, Nat.reduceEqDiff, reduceCtorEq, Nat.reduceAdd, Nat.reduceBEq, f1]; exact bf) (by simp only [vms, vmc, AOpd.val, Nat.reduceEqDiff, reduceCtorEq, Nat.reduceAdd, Nat.reduceBEq, next_new]; rfl) gy (beqs1 (by simp [AV.beq])))]
          simp only [vms, vmc, AOpd.val, Nat.reduceEqDiff, reduceCtorEq, Nat.reduceAdd, Nat.reduceBEq, ap1]
          rw [items_look (look_build (q := h'.next + 1) (l := [AV.str t]) (by simp only [vms, vmc, AOpd.val, Nat.reduceEqDiff, reduceCtorEq, Nat.reduceAdd, Nat.reduceBEq, f1]; exact bf) (by simp only [vms, vmc, AOpd.val, Nat.reduceEqDiff, reduceCtorEq, Nat.reduceAdd, Nat.reduceBEq, next_new]; rfl) g1 (beqs1 (by simp [AV.beq])))]
          simp only [vms, vmc, AOpd.val, Nat.reduceEqDiff, reduceCtorEq, Nat.reduceAdd, Nat.reduceBEq, next_new, ap2, ap3]
          obtain ⟨p1, p2⟩ := ris_put hr hi hlo (fun z hz => by rw [hx] at hz; cases hz; exact hgt)
          exact ⟨q3, lo3, l.take i ++ [t] ++ l.drop i, by simpa using r3, p1, p2, by simp; omega⟩
    · have d1 : decide ((i : Int) < (l.length : Int)) = false := by rw [decide_eq_false_iff_not]; omega
      obtain ⟨va, vb, v1, h1, v2, h2, v3, h3, s1, s2, ap1, g1, ap2, ap3, r3, q3, lo3, _⟩ := insplice (bytes := 16) hl row (k := i) (y := .str t) (by simpa using hi) (by simpa using hs) strs_flat rfl (by decide) (by decide)
      have bf0 : fillV ([] : List AV) [] = some [] := rfl
      have bf : fillV [AV.str []] [(0, 1, AV.str t)] = some [AV.str t] := fill1 rfl rfl
      have ge : ((h'.new (.cells [] true)).new (.cells [.str t] true)).get h'.next = some (.cells [] true) := by rw [AH.get_new, if_neg (by rw [next_new]; omega)]; exact get_new_same
      have gy : ((h'.new (.cells [] true)).new (.cells [.str t] true)).get (h'.next + 1) = some (.cells [.str t] true) := get_new_same
      simp only [c19l0, vms, vmc, AOpd.val, Nat.reduceEqDiff, reduceCtorEq, Nat.reduceAdd, Nat.reduceBEq, f0, f1, f5, ln, d1, bf0, s1, bf, s2]
      rw [items_look (look_build (q := h'.next) (l := []) (by simp only [vms, vmc, AOpd.val, Nat.reduceEqDiff, reduceCtorEq, Nat.reduceAdd, Nat.reduceBEq]; exact bf0) (by simp only [vms, vmc, AOpd.val, Nat.reduceEqDiff, reduceCtorEq, Nat.reduceAdd, Nat.reduceBEq]; rfl) ge rfl),
        items_look (look_build (q := h'.next + 1) (l := [AV.str t]) (by simp only [vms, vmc, AOpd.val, Nat.reduceEqDiff, reduceCtorEq, Nat.reduceAdd, Nat.reduceBEq, f1]; exact bf) (by simp only [vms, vmc, AOpd.val, Nat.reduceEqDiff, reduceCtorEq, Nat.reduceAdd, Nat.reduceBEq, next_new]; rfl) gy (beqs1 (by simp [AV.beq])))]
      simp only [vms, vmc, AOpd.val, Nat.reduceEqDiff, reduceCtorEq, Nat.reduceAdd, Nat.reduceBEq, ap1]
      rw [items_look (look_build (q := h'.next + 1) (l := [AV.str t]) (by simp only [vms, vmc, AOpd.val, Nat.reduceEqDiff, reduceCtorEq, Nat.reduceAdd, Nat.reduceBEq, f1]; exact bf) (by simp only [vms, vmc, AOpd.val, Nat.reduceEqDiff, reduceCtorEq, Nat.reduceAdd, Nat.reduceBEq, next_new]; rfl) g1 (beqs1 (by simp [AV.beq])))]
      simp only [vms, vmc, AOpd.val, Nat.reduceEqDiff, reduceCtorEq, Nat.reduceAdd, Nat.reduceBEq, next_new, ap2, ap3]
      obtain ⟨p1, p2⟩ := ris_put hr hi hlo (fun z hz => by rw [List.getElem?_eq_none (by omega)] at hz; cases hz)
      exact ⟨q3, lo3, l.take i ++ [t] ++ l.drop i, by simpa using r3, p1, p2, by simp; omega⟩
  · simp only [vms, vmc, AOpd.val, Nat.reduceEqDiff, reduceCtorEq, Nat.reduceAdd, Nat.reduceBEq]
    simp
end Go.Proofs.YteajnglncglmfaaDoor

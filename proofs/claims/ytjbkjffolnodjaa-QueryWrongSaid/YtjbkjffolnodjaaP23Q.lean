/- QueryWrong. -/
import Derived.Test.YtjbkjffolnodjaaP23P
import Derived.Test.YtjbkjffolnodjaaP23E
namespace Go.Proofs.Ytjbkjffolnodjaa
open Go.Vm
set_option linter.unusedSimpArgs false
set_option linter.unusedVariables false
set_option maxRecDepth 100000
variable {T : Vm.Prog} {h : AH}
structure Fits (T : Vm.Prog) : Prop where
  base : Base T
  yes : ∀ h, Gives T 3 [] h fun r h' => r = .bool true ∧ h' = h
theorem bin_str_add {a b : Txt} (hl : a.length + b.length ≤ 9223372036854775807) : binV .add (.str a) (.str b) = some (.str (a ++ b)) := by
  simp [binV, strBin, hl]
theorem one_str {c : UInt8} : toStrV (h.new (.cells [.int .u8 (c.toNat : Int)] true)) (.slice h.next 0 1 1 1 true) = some (.str [c]) := by
  have hg : (h.new (.cells [.int .u8 (c.toNat : Int)] true)).get h.next = some (.cells [.int .u8 (c.toNat : Int)] true) := get_new_same
  simp [toStrV, AH.load, hg, strOf]
theorem fillB {c : UInt8} : fillV [.int .u8 0] [(0, 1, .int .u8 (c.toNat : Int))] = some [.int .u8 (c.toNat : Int)] := fill1 rfl rfl
def chN (n : Nat) : Nat := 97 + n % 26
def ch (b : UInt8) : UInt8 := UInt8.ofNat (chN b.toNat)
theorem ch_nat (b : UInt8) : (ch b).toNat = chN b.toNat := by
  have : chN b.toNat < 256 := by unfold chN; omega
  simp [ch]; omega
theorem ch_good (b : UInt8) : letter (ch b) = ch b ∧ ch b ≠ 0 := by
  have h1 := ch_nat b
  have h2 : 97 ≤ chN b.toNat ∧ chN b.toNat ≤ 122 := by unfold chN; omega
  constructor
  · unfold letter
    rw [if_pos (.inl ⟨UInt8.le_iff_toNat_le.2 (by show 97 ≤ (ch b).toNat; omega), UInt8.le_iff_toNat_le.2 (by show (ch b).toNat ≤ 122; omega)⟩)]
  · intro e
    rw [e] at h1
    have : (0 : UInt8).toNat = 0 := rfl
    omega
theorem small_map {w : Txt} (h : w.length ≤ 8) : Small (w.map ch) := ⟨by simpa using h, fun b hb => by
  obtain ⟨c, _, rfl⟩ := List.mem_map.1 hb
  exact ch_good c⟩
/-- The word is made. -/
theorem made (hl : Low h) {w : Txt} {f : Fr} (f0 : f.at 0 = .str w) (f5 : f.at 5 = .str []) (f6 : f.at 6 = .int .i64 0) :
    Wp (code T (.loop c5l0) f h) fun e f' h' => e = .exit 0 ∧ Low h' ∧ (∃ x, f'.at 5 = .str x ∧ Small x) ∧ ∀ r, r < 5 → f'.at r = f.at r := by
  refine wpc_loop (fun m f' h' => ∃ i : Nat, m = 8 - i ∧ i ≤ 8 ∧ i ≤ w.length ∧ Low h' ∧ f'.at 5 = .str ((w.take i).map ch) ∧ f'.at 6 = .int .i64 (i : Int) ∧ ∀ r, r < 5 → f'.at r = f.at r) ?_ 8 f h ⟨0, by omega, by omega, by omega, hl, f5, f6, fun _ _ => rfl⟩
  rintro m f' h' ⟨i, rfl, hi, hiw, lo, f5', f6', fr⟩
  have f0' := (fr 0 (by decide)).trans f0
  have hsm : Small ((w.take i).map ch) := small_map (by simp; omega)
  by_cases hlt : i < w.length
  · have d1 : decide ((i : Int) < (w.length : Int)) = true := by rw [decide_eq_true_eq]; omega
    by_cases h8 : i < 8
    · have d2 : decide ((i : Int) < 8) = true := by rw [decide_eq_true_eq]; omega
      have ix : idxStrV (.str w) (.int .i64 (i : Int)) = some (.int .u8 (w[i].toNat : Int)) := by simp [idxStrV, hlt]
      have r1 : binV .rem (.int .u8 (w[i].toNat : Int)) (.int .u8 26) = some (.int .u8 ((w[i].toNat % 26 : Nat) : Int)) := by
        rw [bin_rem (by decide)]; congr 2
      have w1 : IntKind.u8.wrap (97 + ((w[i].toNat % 26 : Nat) : Int)) = ((ch w[i]).toNat : Int) := by
        rw [show 97 + ((w[i].toNat % 26 : Nat) : Int) = ((chN w[i].toNat : Nat) : Int) by unfold chN; omega, wrap_u8, ch_nat, Nat.mod_eq_of_lt (by unfold chN; omega)]
      have htk : (w.take (i + 1)).map ch = (w.take i).map ch ++ [ch w[i]] := by
        rw [List.take_succ_eq_append_getElem hlt]; simp only [List.map_append, List.map_cons, List.map_nil]
      have ba : binV .add (.str ((w.take i).map ch)) (.str [ch w[i]]) = some (.str ((w.take (i + 1)).map ch)) := by
        rw [htk]; exact bin_str_add (by have := hsm.1; simp at this ⊢; omega)
      have w2 : IntKind.i64.wrap ((i : Int) + 1) = ((i + 1 : Nat) : Int) := by rw [wrap_i64 (by omega) (by omega)]; omega
      simp only [c5l0, vms, vmc, AOpd.val, Nat.reduceEqDiff, reduceCtorEq, Nat.reduceAdd, Nat.reduceBEq, f0', f5', f6', d1, d2, ix, r1, w1, fillB, one_str, ba, w2]
      refine ⟨8 - (i + 1), by omega, i + 1, rfl, by omega, by omega, lo.new _, by trivial, by trivial, fun r hrr => ?_⟩
      repeat rw [if_neg (by omega)]
      exact fr r hrr
    · have d2 : decide ((i : Int) < 8) = false := by rw [decide_eq_false_iff_not]; omega
      simp only [c5l0, vms, vmc, AOpd.val, Nat.reduceEqDiff, reduceCtorEq, Nat.reduceAdd, Nat.reduceBEq, f0', f5', f6', d1, d2]
      refine ⟨by trivial, lo, ⟨_, by trivial, hsm⟩, fun r hrr => ?_⟩
      repeat rw [if_neg (by omega)]
      exact fr r hrr
  · have d1 : decide ((i : Int) < (w.length : Int)) = false := by rw [decide_eq_false_iff_not]; omega
    simp only [c5l0, vms, vmc, AOpd.val, Nat.reduceEqDiff, reduceCtorEq, Nat.reduceAdd, Nat.reduceBEq, f0', f5', f6', d1]
    refine ⟨by trivial, lo, ⟨_, by trivial, hsm⟩, fun r hrr => ?_⟩
    repeat rw [if_neg (by omega)]
    exact fr r hrr
/-- Each of these texts is told to be no query. -/
theorem none_loop (k : Base T) (hl : Low h) {L : List Txt} {v : AV} {f : Fr} (s : Sees h v (L.map .str)) (hL : L.length < 1000) (hw : ∀ t ∈ L, ∃ n, parseF n t = some ([], 7)) (f53 : f.at 53 = v) (f54 : f.at 54 = .int .i64 (L.length : Int)) (f55 : f.at 55 = .int .i64 0) :
    Wp (code T (.loop c5l1) f h) fun e f' h' => e = .exit 2 ∧ Low h' ∧ ∀ r, r < 8 → f'.at r = f.at r := by
  refine wpc_loop (fun m f' h' => ∃ i : Nat, m = L.length - i ∧ i ≤ L.length ∧ Quiet h h' ∧ Low h' ∧ f'.at 55 = .int .i64 (i : Int) ∧ ∀ r, (r < 8 ∨ r = 53 ∨ r = 54) → f'.at r = f.at r) ?_ L.length f h ⟨0, by omega, by omega, Quiet.refl _, hl, f55, fun _ _ => rfl⟩
  rintro m f' h' ⟨i, rfl, hi, q, lo, f55', fr⟩
  have f53' := (fr 53 (by decide)).trans f53
  have f54' := (fr 54 (by decide)).trans f54
  by_cases hlt : i < L.length
  · have d1 : decide ((i : Int) < (L.length : Int)) = true := by rw [decide_eq_true_eq]; omega
    obtain ⟨t, ht⟩ : ∃ t, L[i]? = some t := ⟨_, List.getElem?_eq_getElem hlt⟩
    obtain ⟨p, hp1, hp2⟩ := (sees_keep s hl q).at (i := i) (x := .str t) (by simp [ht]) .i64
    have w2 : IntKind.i64.wrap ((i : Int) + 1) = ((i + 1 : Nat) : Int) := by rw [wrap_i64 (by omega) (by omega)]; omega
    obtain ⟨n, hn⟩ := hw t (List.mem_of_getElem? ht)
    have e7 : ((7 : Int) != 7) = false := rfl
    have e0 : (((0 : Nat) : Int) != 0) = false := rfl
    simp only [c5l1, vms, vmc, AOpd.val, Nat.reduceEqDiff, reduceCtorEq, Nat.reduceAdd, Nat.reduceBEq, f53', f54', f55', d1, hp1, hp2]
    refine Gives.bind ((parse_ok k lo hn).mono ?_)
    rintro _ h2 ⟨q2, lo2, v2, rfl, r2, _, _⟩
    have l2 : lenOfV v2 = some 0 := by have := RowS.len r2; simpa [parts] using this
    simp only [vms, vmc, AOpd.val, Nat.reduceEqDiff, reduceCtorEq, Nat.reduceAdd, Nat.reduceBEq, e7, l2, e0, f55', w2]
    refine ⟨L.length - (i + 1), by omega, i + 1, rfl, by omega, q.trans q2, lo2, by trivial, fun r hrr => ?_⟩
    repeat rw [if_neg (by omega)]
    exact fr r hrr
  · have d1 : decide ((i : Int) < (L.length : Int)) = false := by rw [decide_eq_false_iff_not]; omega
    simp only [c5l1, vms, vmc, AOpd.val, Nat.reduceEqDiff, reduceCtorEq, Nat.reduceAdd, Nat.reduceBEq, f53', f54', f55', d1]
    refine ⟨by trivial, lo, fun r hrr => ?_⟩
    repeat rw [if_neg (by omega)]
    exact fr r (.inl hrr)
theorem wrong_run (k : Fits T) (hl : Low h) {w : Txt} {c : UInt8} : Gives T 5 [.str w, .int .u8 (c.toNat : Int)] h fun r _ => r = .bool true := by
  refine gives_func (k.base.env 5 (by decide)) (k.base.at (n := 5) rfl) rfl ?_
  simp only [a5, c5, vms, vmc, AOpd.val, Nat.reduceEqDiff, reduceCtorEq, Nat.reduceAdd, Nat.reduceBEq]
  refine (made (T := T) hl (w := w) (by simp only [vms, vmc, AOpd.val, Nat.reduceEqDiff, reduceCtorEq, Nat.reduceAdd, Nat.reduceBEq]) (by simp only [vms, vmc, AOpd.val, Nat.reduceEqDiff, reduceCtorEq, Nat.reduceAdd, Nat.reduceBEq]) (by simp only [vms, vmc, AOpd.val, Nat.reduceEqDiff, reduceCtorEq, Nat.reduceAdd, Nat.reduceBEq])).mono ?_
  rintro e g h1 ⟨rfl, lo1, ⟨x, g5, hx⟩, gr⟩
  have g1 : g.at 1 = .int .u8 (c.toNat : Int) := (gr 1 (by decide)).trans (by simp only [vms, vmc, AOpd.val, Nat.reduceEqDiff, reduceCtorEq, Nat.reduceAdd, Nat.reduceBEq])
  have hxl := hx.1
  have a1 : binV .add (.str [124]) (.str x) = some (.str ([124] ++ x)) := bin_str_add (by simp; omega)
  have a2 : binV .add (.str x) (.str [124]) = some (.str (x ++ [124])) := bin_str_add (by simp; omega)
  have a3 : binV .add (.str x) (.str [38]) = some (.str (x ++ [38])) := bin_str_add (by simp; omega)
  have a4 : binV .add (.str [40]) (.str x) = some (.str ([40] ++ x)) := bin_str_add (by simp; omega)
  have a5 : binV .add (.str x) (.str [41]) = some (.str (x ++ [41])) := bin_str_add (by simp; omega)
  have a6 : binV .add (.str x) (.str [124, 124]) = some (.str (x ++ [124, 124])) := bin_str_add (by simp; omega)
  have a7 : binV .add (.str (x ++ [124, 124])) (.str x) = some (.str (x ++ [124, 124] ++ x)) := bin_str_add (by simp; omega)
  have a8 : binV .add (.str [33, 124]) (.str x) = some (.str ([33, 124] ++ x)) := bin_str_add (by simp; omega)
  have a9 : binV .add (.str [38, 32]) (.str x) = some (.str ([38, 32] ++ x)) := bin_str_add (by simp; omega)
  have bf : fillV [AV.str [], AV.str [], AV.str [], AV.str [], AV.str [], AV.str [], AV.str [], AV.str [], AV.str [], AV.str [], AV.str []]
      [(0, 1, AV.str []), (1, 1, AV.str [33]), (2, 1, AV.str ([124] ++ x)), (3, 1, AV.str (x ++ [124])), (4, 1, AV.str (x ++ [38])), (5, 1, AV.str ([40] ++ x)), (6, 1, AV.str (x ++ [41])), (7, 1, AV.str [40, 41]), (8, 1, AV.str (x ++ [124, 124] ++ x)), (9, 1, AV.str ([33, 124] ++ x)), (10, 1, AV.str ([38, 32] ++ x))] = some ((wrongs x).map AV.str) := by
    simp [fillV, AV.isDef, AV.cells, setMany, wrongs]
  have sL : Sees (h1.new (.cells ((wrongs x).map AV.str) true)) (.slice h1.next 0 1 11 11 true) ((wrongs x).map AV.str) :=
    (row1_of (n := 11) (cap := 11) (ex := true) get_new_same rfl rfl (Nat.le_refl _) (fun _ _ h => h)).sees
  simp only [vms, vmc, AOpd.val, Nat.reduceEqDiff, reduceCtorEq, Nat.reduceAdd, Nat.reduceBEq, g5, a1, a2, a3, a4, a5, a6, a7, a8, a9, bf]
  refine (none_loop k.base (lo1.new _) sL (by simp [wrongs]) (wrongs_ok hx) (by simp only [vms, vmc, AOpd.val, Nat.reduceEqDiff, reduceCtorEq, Nat.reduceAdd, Nat.reduceBEq]) (by simp only [vms, vmc, AOpd.val, Nat.reduceEqDiff, reduceCtorEq, Nat.reduceAdd, Nat.reduceBEq]; rfl) (by simp only [vms, vmc, AOpd.val, Nat.reduceEqDiff, reduceCtorEq, Nat.reduceAdd, Nat.reduceBEq])).mono ?_
  rintro e p h2 ⟨rfl, lo2, pr⟩
  have p5 : p.at 5 = .str x := (pr 5 (by decide)).trans (by simp only [vms, vmc, AOpd.val, Nat.reduceEqDiff, reduceCtorEq, Nat.reduceAdd, Nat.reduceBEq]; exact g5)
  have p1 : p.at 1 = .int .u8 (c.toNat : Int) := (pr 1 (by decide)).trans (by simp only [vms, vmc, AOpd.val, Nat.reduceEqDiff, reduceCtorEq, Nat.reduceAdd, Nat.reduceBEq]; exact g1)
  have b1 : binV .add (.str [97, 98, 99, 100, 101, 102, 103, 104, 105, 106, 107, 108, 109]) (.str x) = some (.str ([97, 98, 99, 100, 101, 102, 103, 104, 105, 106, 107, 108, 109] ++ x)) := bin_str_add (by simp; omega)
  obtain ⟨n, hn⟩ := long_ok hx
  have e6 : ((6 : Int) != 6) = false := rfl
  simp only [vms, vmc, AOpd.val, Nat.reduceEqDiff, reduceCtorEq, Nat.reduceAdd, Nat.reduceBEq, p5, b1]
  refine Gives.bind ((parse_ok k.base lo2 hn).mono ?_)
  rintro _ h3 ⟨q3, lo3, v3, rfl, _, _, _⟩
  simp only [vms, vmc, AOpd.val, Nat.reduceEqDiff, reduceCtorEq, Nat.reduceAdd, Nat.reduceBEq, e6, p1]
  refine Gives.bind ((letter_ok k.base).mono ?_)
  rintro _ _ ⟨rfl, rfl⟩
  -- is it odd?
  have b2 : binV .add (.str [97, 98]) (.str [c]) = some (.str ([97, 98] ++ [c])) := bin_str_add (by simp)
  have b3 : binV .add (.str ([97, 98] ++ [c])) (.str [99, 100]) = some (.str ([97, 98] ++ [c] ++ [99, 100])) := bin_str_add (by simp)
  have u0 : (((letter c).toNat : Int) == 0) = (letter c == 0) := u8eq (n := 0) (by decide)
  have u32 : ((c.toNat : Int) != 32) = (c != 32) := by simp only [bne]; rw [show ((c.toNat : Int) == 32) = (c == 32) from u8eq (n := 32) (by decide)]
  have u33 : ((c.toNat : Int) != 33) = (c != 33) := by simp only [bne]; rw [show ((c.toNat : Int) == 33) = (c == 33) from u8eq (n := 33) (by decide)]
  have u40 : ((c.toNat : Int) != 40) = (c != 40) := by simp only [bne]; rw [show ((c.toNat : Int) == 40) = (c == 40) from u8eq (n := 40) (by decide)]
  have u41 : ((c.toNat : Int) != 41) = (c != 41) := by simp only [bne]; rw [show ((c.toNat : Int) == 41) = (c == 41) from u8eq (n := 41) (by decide)]
  have u38 : ((c.toNat : Int) != 38) = (c != 38) := by simp only [bne]; rw [show ((c.toNat : Int) == 38) = (c == 38) from u8eq (n := 38) (by decide)]
  have u124 : ((c.toNat : Int) != 124) = (c != 124) := by simp only [bne]; rw [show ((c.toNat : Int) == 124) = (c == 124) from u8eq (n := 124) (by decide)]
  have e77 : ((7 : Int) == 7) = true := rfl
  -- whatever is read, if it may be
  have rest : ∀ {h : AH}, Low h → Gives T 8 [.str ([97, 98] ++ [c] ++ [99, 100])] h fun r h' => ∃ v e, r = .tuple [v, .int .i64 e] := by
    intro h lo
    obtain ⟨n, q, e, hn, _⟩ := parse_total ([97, 98] ++ [c] ++ [99, 100])
    refine (parse_ok k.base lo hn).mono ?_
    rintro _ h' ⟨_, _, v, rfl, _⟩
    exact ⟨v, e, rfl⟩
  by_cases h0 : letter c = 0
  case neg =>
    have t0 : (letter c == 0) = false := by simpa using h0
    simp only [vms, vmc, AOpd.val, Nat.reduceEqDiff, reduceCtorEq, Nat.reduceAdd, Nat.reduceBEq, u0, t0, p1, fillB, one_str, b2, b3]
    refine Gives.bind ((rest (lo3.new _)).mono ?_)
    rintro _ h4 ⟨v, e, rfl⟩
    simp only [vms, vmc, AOpd.val, Nat.reduceEqDiff, reduceCtorEq, Nat.reduceAdd, Nat.reduceBEq]
    refine Gives.bind ((k.yes _).mono ?_)
    rintro _ _ ⟨rfl, rfl⟩
    simp only [vms, vmc, AOpd.val, Nat.reduceEqDiff, reduceCtorEq, Nat.reduceAdd, Nat.reduceBEq]
  have t0 : (letter c == 0) = true := by simpa using h0
  by_cases h32 : c = 32
  · have t32 : (c != 32) = false := by simp [h32]
    simp only [vms, vmc, AOpd.val, Nat.reduceEqDiff, reduceCtorEq, Nat.reduceAdd, Nat.reduceBEq, u0, t0, p1, u32, t32, fillB, one_str, b2, b3]
    refine Gives.bind ((rest (lo3.new _)).mono ?_)
    rintro _ h4 ⟨v, e, rfl⟩
    simp only [vms, vmc, AOpd.val, Nat.reduceEqDiff, reduceCtorEq, Nat.reduceAdd, Nat.reduceBEq]
    refine Gives.bind ((k.yes _).mono ?_)
    rintro _ _ ⟨rfl, rfl⟩
    simp only [vms, vmc, AOpd.val, Nat.reduceEqDiff, reduceCtorEq, Nat.reduceAdd, Nat.reduceBEq]
  have t32 : (c != 32) = true := by simpa using h32
  by_cases h33 : c = 33
  · have t33 : (c != 33) = false := by simp [h33]
    simp only [vms, vmc, AOpd.val, Nat.reduceEqDiff, reduceCtorEq, Nat.reduceAdd, Nat.reduceBEq, u0, t0, p1, u32, t32, u33, t33, fillB, one_str, b2, b3]
    refine Gives.bind ((rest (lo3.new _)).mono ?_)
    rintro _ h4 ⟨v, e, rfl⟩
    simp only [vms, vmc, AOpd.val, Nat.reduceEqDiff, reduceCtorEq, Nat.reduceAdd, Nat.reduceBEq]
    refine Gives.bind ((k.yes _).mono ?_)
    rintro _ _ ⟨rfl, rfl⟩
    simp only [vms, vmc, AOpd.val, Nat.reduceEqDiff, reduceCtorEq, Nat.reduceAdd, Nat.reduceBEq]
  have t33 : (c != 33) = true := by simpa using h33
  by_cases h40 : c = 40
  · have t40 : (c != 40) = false := by simp [h40]
    simp only [vms, vmc, AOpd.val, Nat.reduceEqDiff, reduceCtorEq, Nat.reduceAdd, Nat.reduceBEq, u0, t0, p1, u32, t32, u33, t33, u40, t40, fillB, one_str, b2, b3]
    refine Gives.bind ((rest (lo3.new _)).mono ?_)
    rintro _ h4 ⟨v, e, rfl⟩
    simp only [vms, vmc, AOpd.val, Nat.reduceEqDiff, reduceCtorEq, Nat.reduceAdd, Nat.reduceBEq]
    refine Gives.bind ((k.yes _).mono ?_)
    rintro _ _ ⟨rfl, rfl⟩
    simp only [vms, vmc, AOpd.val, Nat.reduceEqDiff, reduceCtorEq, Nat.reduceAdd, Nat.reduceBEq]
  have t40 : (c != 40) = true := by simpa using h40
  by_cases h41 : c = 41
  · have t41 : (c != 41) = false := by simp [h41]
    simp only [vms, vmc, AOpd.val, Nat.reduceEqDiff, reduceCtorEq, Nat.reduceAdd, Nat.reduceBEq, u0, t0, p1, u32, t32, u33, t33, u40, t40, u41, t41, fillB, one_str, b2, b3]
    refine Gives.bind ((rest (lo3.new _)).mono ?_)
    rintro _ h4 ⟨v, e, rfl⟩
    simp only [vms, vmc, AOpd.val, Nat.reduceEqDiff, reduceCtorEq, Nat.reduceAdd, Nat.reduceBEq]
    refine Gives.bind ((k.yes _).mono ?_)
    rintro _ _ ⟨rfl, rfl⟩
    simp only [vms, vmc, AOpd.val, Nat.reduceEqDiff, reduceCtorEq, Nat.reduceAdd, Nat.reduceBEq]
  have t41 : (c != 41) = true := by simpa using h41
  by_cases h38 : c = 38
  · have t38 : (c != 38) = false := by simp [h38]
    simp only [vms, vmc, AOpd.val, Nat.reduceEqDiff, reduceCtorEq, Nat.reduceAdd, Nat.reduceBEq, u0, t0, p1, u32, t32, u33, t33, u40, t40, u41, t41, u38, t38, fillB, one_str, b2, b3]
    refine Gives.bind ((rest (lo3.new _)).mono ?_)
    rintro _ h4 ⟨v, e, rfl⟩
    simp only [vms, vmc, AOpd.val, Nat.reduceEqDiff, reduceCtorEq, Nat.reduceAdd, Nat.reduceBEq]
    refine Gives.bind ((k.yes _).mono ?_)
    rintro _ _ ⟨rfl, rfl⟩
    simp only [vms, vmc, AOpd.val, Nat.reduceEqDiff, reduceCtorEq, Nat.reduceAdd, Nat.reduceBEq]
  have t38 : (c != 38) = true := by simpa using h38
  by_cases h124 : c = 124
  · have t124 : (c != 124) = false := by simp [h124]
    simp only [vms, vmc, AOpd.val, Nat.reduceEqDiff, reduceCtorEq, Nat.reduceAdd, Nat.reduceBEq, u0, t0, p1, u32, t32, u33, t33, u40, t40, u41, t41, u38, t38, u124, t124, fillB, one_str, b2, b3]
    refine Gives.bind ((rest (lo3.new _)).mono ?_)
    rintro _ h4 ⟨v, e, rfl⟩
    simp only [vms, vmc, AOpd.val, Nat.reduceEqDiff, reduceCtorEq, Nat.reduceAdd, Nat.reduceBEq]
    refine Gives.bind ((k.yes _).mono ?_)
    rintro _ _ ⟨rfl, rfl⟩
    simp only [vms, vmc, AOpd.val, Nat.reduceEqDiff, reduceCtorEq, Nat.reduceAdd, Nat.reduceBEq]
  have t124 : (c != 124) = true := by simpa using h124
  obtain ⟨n2, hn2⟩ := odd_ok h0 h32 h33 h40 h41 h38 h124
  simp only [vms, vmc, AOpd.val, Nat.reduceEqDiff, reduceCtorEq, Nat.reduceAdd, Nat.reduceBEq, u0, t0, p1, u32, t32, u33, t33, u40, t40, u41, t41, u38, t38, u124, t124, fillB, one_str, b2, b3]
  refine Gives.bind ((parse_ok k.base (lo3.new _) hn2).mono ?_)
  rintro _ h4 ⟨_, _, v4, rfl, _⟩
  simp only [vms, vmc, AOpd.val, Nat.reduceEqDiff, reduceCtorEq, Nat.reduceAdd, Nat.reduceBEq, e77]
  refine Gives.bind ((k.yes _).mono ?_)
  rintro _ _ ⟨rfl, rfl⟩
  simp only [vms, vmc, AOpd.val, Nat.reduceEqDiff, reduceCtorEq, Nat.reduceAdd, Nat.reduceBEq]
end Go.Proofs.Ytjbkjffolnodjaa

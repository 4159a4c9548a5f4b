/- Terms, leaves, a leaf's words; the law NodeLeafApart. -/
import Derived.Test.YtpabmkicdcilpaaP7O
namespace Go.Proofs.Ytpabmkicdcilpaa
open Go.Vm
set_option linter.unusedSimpArgs false
set_option linter.unusedVariables false
set_option maxRecDepth 100000
variable {T : Vm.Prog} {h : AH}
theorem slcStr_to {s : List UInt8} {n : Nat} {k : IntKind} (h : n ≤ s.length) : slcStrV (.str s) none (some (.int k (n : Int))) = some (.str (s.take n)) := by
  simp [slcStrV, bounds, boundM, boundH, boundL, natOf, h, Option.filter]
theorem slcStr_from {s : List UInt8} {n : Nat} {k : IntKind} (h : n ≤ s.length) : slcStrV (.str s) (some (.int k (n : Int))) none = some (.str (s.drop n)) := by
  simp [slcStrV, bounds, boundM, boundH, boundL, natOf, h, Option.filter]
  rw [List.take_of_length_le (by simp)]
/-- May a term be? -/
def rightT (s : List UInt8) : Bool := decide (s ≠ [] ∧ s.length ≤ 12 ∧ 0 ∉ s)
theorem idx96 (k : Fits T) {s : List UInt8} {c : Nat} (hc : c < 256) : Gives T 96 [.str s, .int .u8 (c : Int)] h fun r h' => r = .int .i64 (idxB s (UInt8.ofNat c)) ∧ h' = h := by
  refine gives_func (k.env _ (by decide)) (k.at (fn := a96) rfl) rfl ?_
  simp only [a96, c96, vms, vmc, AOpd.val, Nat.reduceEqDiff, reduceCtorEq, Nat.reduceAdd, Nat.reduceBEq]
  refine Gives.bind (Gives.mono (?_ : Gives T 100 [.str s, .int .u8 (c : Int)] h fun r h' => r = .int .i64 (idxB s (UInt8.ofNat c)) ∧ h' = h) ?_)
  · refine gives_func (k.env _ (by decide)) (k.at (fn := a100) rfl) rfl ?_
    simp only [a100, c100, vms, vmc, AOpd.val, Nat.reduceEqDiff, reduceCtorEq, Nat.reduceAdd, Nat.reduceBEq]
    refine Gives.bind ((ibs_gives k.ib hc).mono ?_)
    rintro _ _ ⟨rfl, rfl⟩
    simp only [vms, vmc, AOpd.val, Nat.reduceEqDiff, reduceCtorEq, Nat.reduceAdd, Nat.reduceBEq]
    exact ⟨trivial, trivial⟩
  · rintro _ _ ⟨rfl, rfl⟩
    simp only [vms, vmc, AOpd.val, Nat.reduceEqDiff, reduceCtorEq, Nat.reduceAdd, Nat.reduceBEq]
    exact ⟨trivial, trivial⟩
theorem termRight_ok (k : Fits T) {s : List UInt8} : Gives T 90 [.str s] h fun r h' => r = .bool (rightT s) ∧ h' = h := by
  refine gives_func (k.env _ (by decide)) (k.at (fn := a90) rfl) rfl ?_
  unfold rightT
  by_cases h1 : s = []
  · subst h1
    simp only [a90, c90, vms, vmc, AOpd.val, Nat.reduceEqDiff, reduceCtorEq, Nat.reduceAdd, Nat.reduceBEq, show (!(([] : List UInt8) == [])) = false from rfl]
    exact ⟨by simp, trivial⟩
  · have e1 : (!(s == [])) = true := by simpa using h1
    by_cases h2 : s.length ≤ 12
    · have d2 : decide ((s.length : Int) ≤ 12) = true := by rw [decide_eq_true_eq]; omega
      simp only [a90, c90, vms, vmc, AOpd.val, Nat.reduceEqDiff, reduceCtorEq, Nat.reduceAdd, Nat.reduceBEq, e1, d2]
      refine Gives.bind ((idx96 k (c := 0) (by decide)).mono ?_)
      rintro _ _ ⟨rfl, rfl⟩
      by_cases h3 : (0 : UInt8) ∈ s
      · have d3 : decide (idxB s (UInt8.ofNat 0) < 0) = false := by
          rw [decide_eq_false_iff_not, idxB_neg]
          exact fun hn => hn h3
        simp only [vms, vmc, AOpd.val, Nat.reduceEqDiff, reduceCtorEq, Nat.reduceAdd, Nat.reduceBEq, d3]
        exact ⟨by simp [h3], trivial⟩
      · have d3 : decide (idxB s (UInt8.ofNat 0) < 0) = true := by
          rw [decide_eq_true_eq, idxB_neg]
          exact h3
        simp only [vms, vmc, AOpd.val, Nat.reduceEqDiff, reduceCtorEq, Nat.reduceAdd, Nat.reduceBEq, d3]
        exact ⟨by simp [h1, h2, h3], trivial⟩
    · have d2 : decide ((s.length : Int) ≤ 12) = false := by rw [decide_eq_false_iff_not]; omega
      simp only [a90, c90, vms, vmc, AOpd.val, Nat.reduceEqDiff, reduceCtorEq, Nat.reduceAdd, Nat.reduceBEq, e1, d2]
      exact ⟨by simp [h2], trivial⟩
/-- A text without the nought at its end. -/
def cutP (key : List UInt8) : Option (List UInt8) := if key.getLast? = some 0 then some key.dropLast else none
theorem last_drop {key : List UInt8} (h : 0 < key.length) : (key.drop (key.length - 1) == [0]) = decide (key.getLast? = some 0) := by
  have hne : key ≠ [] := fun e => by rw [e] at h; simp at h
  have e : key = key.dropLast ++ [key.getLast hne] := (List.dropLast_concat_getLast hne).symm
  have hl : key.dropLast.length = key.length - 1 := List.length_dropLast
  rw [List.getLast?_eq_some_getLast hne]
  conv => lhs; rw [e]
  rw [List.drop_append_of_le_length (by rw [List.length_append, hl]; simp), List.drop_of_length_le (by rw [List.length_append, hl]; simp)]
  simp
  rfl
theorem suffix_ok (k : Fits T) {key : List UInt8} (hk : key.length < 9223372036854775808) : Gives T 99 [.str key, .str [0]] h fun r h' => r = .bool (decide (key.getLast? = some 0)) ∧ h' = h := by
  refine gives_func (k.env _ (by decide)) (k.at (fn := a99) rfl) rfl ?_
  by_cases h0 : 0 < key.length
  · have d1 : decide ((key.length : Int) ≥ (([0] : List UInt8).length : Int)) = true := by rw [decide_eq_true_eq]; simp; omega
    have w1 : IntKind.i64.wrap ((key.length : Int) - (([0] : List UInt8).length : Int)) = ((key.length - 1 : Nat) : Int) := by
      rw [show ((([0] : List UInt8).length : Nat) : Int) = 1 from rfl, wrap_i64 (by omega) (by omega)]; omega
    simp only [a99, c99, vms, vmc, AOpd.val, Nat.reduceEqDiff, reduceCtorEq, Nat.reduceAdd, Nat.reduceBEq, d1, w1, slcStr_from (show key.length - 1 ≤ key.length by omega), last_drop h0]
    exact ⟨trivial, trivial⟩
  · have e : key = [] := List.eq_nil_of_length_eq_zero (by omega)
    subst e
    simp only [a99, c99, vms, vmc, AOpd.val, Nat.reduceEqDiff, reduceCtorEq, Nat.reduceAdd, Nat.reduceBEq, show decide (((([] : List UInt8).length : Nat) : Int) ≥ (([0] : List UInt8).length : Int)) = false from rfl]
    exact ⟨by simp, trivial⟩
theorem cut95 (k : Fits T) {key : List UInt8} (hk : key.length < 9223372036854775808) : Gives T 95 [.str key, .str [0]] h fun r h' => r = (match cutP key with | some s => .tuple [.str s, .bool true] | none => .tuple [.str key, .bool false]) ∧ h' = h := by
  refine gives_func (k.env _ (by decide)) (k.at (fn := a95) rfl) rfl ?_
  simp only [a95, c95, vms, vmc, AOpd.val, Nat.reduceEqDiff, reduceCtorEq, Nat.reduceAdd, Nat.reduceBEq]
  refine Gives.bind ((suffix_ok k hk).mono ?_)
  rintro _ _ ⟨rfl, rfl⟩
  by_cases h1 : key.getLast? = some 0
  · have hl : 0 < key.length := by
      cases key with
      | nil => simp at h1
      | cons a l => simp
    have w1 : IntKind.i64.wrap ((key.length : Int) - (([0] : List UInt8).length : Int)) = ((key.length - 1 : Nat) : Int) := by
      rw [show ((([0] : List UInt8).length : Nat) : Int) = 1 from rfl, wrap_i64 (by omega) (by omega)]; omega
    have hc : cutP key = some (key.take (key.length - 1)) := by unfold cutP; rw [if_pos h1, List.dropLast_eq_take]
    simp only [vms, vmc, AOpd.val, Nat.reduceEqDiff, reduceCtorEq, Nat.reduceAdd, Nat.reduceBEq, h1, Bool.not_true, w1, slcStr_to (show key.length - 1 ≤ key.length by omega), hc]
    exact ⟨trivial, trivial⟩
  · have hc : cutP key = none := by unfold cutP; rw [if_neg h1]
    simp only [vms, vmc, AOpd.val, Nat.reduceEqDiff, reduceCtorEq, Nat.reduceAdd, Nat.reduceBEq, decide_eq_false h1, Bool.not_false, hc]
    exact ⟨trivial, trivial⟩
/-- The term of a key. -/
def ofT (key : List UInt8) : Option (List UInt8) := (cutP key).bind fun s => if rightT s then some s else none
theorem termOf_ok (k : Fits T) {key : List UInt8} (hk : key.length < 9223372036854775808) : Gives T 73 [.str key] h fun r h' => r = (match ofT key with | some s => .tuple [.str s, .bool true] | none => .tuple [.str [], .bool false]) ∧ h' = h := by
  refine gives_func (k.env _ (by decide)) (k.at (fn := a73) rfl) rfl ?_
  simp only [a73, c73, vms, vmc, AOpd.val, Nat.reduceEqDiff, reduceCtorEq, Nat.reduceAdd, Nat.reduceBEq]
  refine Gives.bind (Gives.mono (?_ : Gives T 89 [.str key, .str [0]] h fun r h' => r = (match cutP key with | some s => .tuple [.str s, .bool true] | none => .tuple [.str key, .bool false]) ∧ h' = h) ?_)
  · refine gives_func (k.env _ (by decide)) (k.at (fn := a89) rfl) rfl ?_
    simp only [a89, c89, vms, vmc, AOpd.val, Nat.reduceEqDiff, reduceCtorEq, Nat.reduceAdd, Nat.reduceBEq]
    refine Gives.bind ((cut95 k hk).mono ?_)
    rintro _ _ ⟨rfl, rfl⟩
    cases cutP key with
    | none => simp only [vms, vmc, AOpd.val, Nat.reduceEqDiff, reduceCtorEq, Nat.reduceAdd, Nat.reduceBEq]; exact ⟨trivial, trivial⟩
    | some s => simp only [vms, vmc, AOpd.val, Nat.reduceEqDiff, reduceCtorEq, Nat.reduceAdd, Nat.reduceBEq]; exact ⟨trivial, trivial⟩
  · rintro _ _ ⟨rfl, rfl⟩
    unfold ofT
    cases cutP key with
    | none => simp only [vms, vmc, AOpd.val, Nat.reduceEqDiff, reduceCtorEq, Nat.reduceAdd, Nat.reduceBEq, Bool.not_false, Option.bind_none]; exact ⟨trivial, trivial⟩
    | some s =>
      simp only [vms, vmc, AOpd.val, Nat.reduceEqDiff, reduceCtorEq, Nat.reduceAdd, Nat.reduceBEq, Bool.not_true]
      refine Gives.bind ((termRight_ok k).mono ?_)
      rintro _ _ ⟨rfl, rfl⟩
      by_cases hr : rightT s = true
      · simp only [vms, vmc, AOpd.val, Nat.reduceEqDiff, reduceCtorEq, Nat.reduceAdd, Nat.reduceBEq, hr, Bool.not_true, if_true]; exact ⟨trivial, trivial⟩
      · have hr' : rightT s = false := by simpa using hr
        simp only [vms, vmc, AOpd.val, Nat.reduceEqDiff, reduceCtorEq, Nat.reduceAdd, Nat.reduceBEq, hr', Bool.not_false]; exact ⟨by simp, trivial⟩
structure LeafP where
  key : List UInt8
  val : Int
  deriving DecidableEq
def LeafP.cells (l : LeafP) : List AV := [.str l.key, .int .i64 l.val]
def rightL (l : LeafP) : Bool := (ofT l.key).isSome && decide (0 ≤ l.val) && decide (l.val ≤ 1099511627776)
theorem ofT_len {key s : List UInt8} (h : ofT key = some s) : key = s ++ [0] ∧ s.length ≤ 12 := by
  unfold ofT cutP at h
  split at h
  · rename_i h1
    simp only [Option.bind_some] at h
    split at h
    · rename_i h2
      cases h
      unfold rightT at h2
      rw [decide_eq_true_eq] at h2
      have hne : key ≠ [] := fun e => by rw [e] at h1; simp at h1
      rw [List.getLast?_eq_some_getLast hne] at h1
      have e := List.dropLast_concat_getLast hne
      rw [Option.some.inj h1] at e
      exact ⟨e.symm, h2.2.1⟩
    · cases h
  · cases h
theorem rightL_iff {l : LeafP} : rightL l = true ↔ (∃ s, ofT l.key = some s) ∧ 0 ≤ l.val ∧ l.val ≤ 1099511627776 := by
  unfold rightL
  rw [Bool.and_eq_true, Bool.and_eq_true, decide_eq_true_eq, decide_eq_true_eq, Option.isSome_iff_exists]
  constructor
  · rintro ⟨⟨h1, h2⟩, h3⟩; exact ⟨h1, h2, h3⟩
  · rintro ⟨h1, h2, h3⟩; exact ⟨⟨h1, h2⟩, h3⟩
theorem rightLeaf_ok (k : Fits T) (hl : Low h) {l : LeafP} (hk : l.key.length < 9223372036854775808) : Gives T 46 [.agg l.cells] h fun r h' => r = .bool (rightL l) ∧ Quiet h h' ∧ Low h' := by
  refine gives_func (k.env _ (by decide)) (k.at (fn := a46) rfl) rfl ?_
  have fa : ∀ o j, fieldAddrV j (.ptr o 0) = some (.ptr o (0 + j)) := fun o j => rfl
  have q1 : Quiet h (h.new (.cells l.cells true)) := (Quiet.refl _).new _
  have lo1 : Low (h.new (.cells l.cells true)) := hl.new _
  have g1 : (h.new (.cells l.cells true)).get h.next = some (.cells l.cells true) := get_new_same
  simp only [a46, c46, vms, vmc, AOpd.val, Nat.reduceEqDiff, reduceCtorEq, Nat.reduceAdd, Nat.reduceBEq, box_agg]
  generalize (h.new (.cells l.cells true)) = h1 at *
  have l0 := load_at g1 (i := 0) (v := .str l.key) rfl
  have l1 := load_at g1 (i := 1) (v := .int .i64 l.val) rfl
  simp only [vms, vmc, AOpd.val, Nat.reduceEqDiff, reduceCtorEq, Nat.reduceAdd, Nat.reduceBEq, fa, Nat.zero_add, l0]
  refine Gives.bind ((termOf_ok k hk).mono ?_)
  rintro _ _ ⟨rfl, rfl⟩
  rename_i h1
  unfold rightL
  cases ofT l.key with
  | none => simp only [vms, vmc, AOpd.val, Nat.reduceEqDiff, reduceCtorEq, Nat.reduceAdd, Nat.reduceBEq]; exact ⟨rfl, q1, lo1⟩
  | some s =>
    by_cases h2 : 0 ≤ l.val
    · have d2 : decide (l.val ≥ 0) = true := by rw [decide_eq_true_eq]; exact h2
      simp only [vms, vmc, AOpd.val, Nat.reduceEqDiff, reduceCtorEq, Nat.reduceAdd, Nat.reduceBEq, fa, Nat.zero_add, l1, d2]
      refine ⟨?_, q1, lo1⟩
      simp [h2]
    · have d2 : decide (l.val ≥ 0) = false := by rw [decide_eq_false_iff_not]; omega
      simp only [vms, vmc, AOpd.val, Nat.reduceEqDiff, reduceCtorEq, Nat.reduceAdd, Nat.reduceBEq, fa, Nat.zero_add, l1, d2]
      refine ⟨?_, q1, lo1⟩
      simp [h2]
/-- A leaf's words. -/
def leafG (l : LeafP) (j : Nat) : Nat := if j = 1 then l.key.length * 256 else if j = 2 ∨ j = 3 then dig (blk (nat8 l.key) (j - 2)) else if j = 4 then l.val.toNat else 0
def leafW (l : LeafP) : List Nat := (List.range 8).map (leafG l)
def leafE (l : LeafP) : List Nat := if rightL l then leafW l else []
theorem encLeaf_ok (k : Fits T) (hl : Low h) {l : LeafP} (hk : l.key.length < 9223372036854775808) : Gives T 45 [.agg l.cells] h fun r h' => Quiet h h' ∧ Low h' ∧ Row1 h' r (wcells (leafE l)) ∧ ∀ o ∈ objs r, h.next ≤ o := by
  refine gives_func (k.env _ (by decide)) (k.at (fn := a45) rfl) rfl ?_
  have fa : ∀ o j, fieldAddrV j (.ptr o 0) = some (.ptr o (0 + j)) := fun o j => rfl
  have q1 : Quiet h (h.new (.cells l.cells true)) := (Quiet.refl _).new _
  have lo1 : Low (h.new (.cells l.cells true)) := hl.new _
  have g1 : (h.new (.cells l.cells true)).get h.next = some (.cells l.cells true) := get_new_same
  have nx1 : (h.new (.cells l.cells true)).next = h.next + 1 := rfl
  simp only [a45, c45, vms, vmc, AOpd.val, Nat.reduceEqDiff, reduceCtorEq, Nat.reduceAdd, Nat.reduceBEq, box_agg, load_all g1 (n := 2) rfl]
  generalize (h.new (.cells l.cells true)) = h1 at *
  refine Gives.bind ((rightLeaf_ok k lo1 hk).mono ?_)
  rintro _ h2 ⟨rfl, q2, lo2⟩
  have n2 := q2.1
  unfold leafE
  by_cases hr : rightL l = true
  · obtain ⟨⟨s, hs⟩, hv0, hv1⟩ := rightL_iff.1 hr
    obtain ⟨hks, hsl⟩ := ofT_len hs
    have hkl : l.key.length ≤ 13 := by rw [hks]; simp; omega
    have g2 := q2.get g1 (lo1 _ _ g1)
    simp only [vms, vmc, AOpd.val, Nat.reduceEqDiff, reduceCtorEq, Nat.reduceAdd, Nat.reduceBEq, hr, Bool.not_true, if_true]
    refine Gives.bind ((size_ok k (x := 0)).mono ?_)
    rintro _ _ ⟨rfl, rfl⟩
    rename_i h2
    rw [show sizeP 0 = 8 from rfl]
    obtain ⟨hmk, w3⟩ := WordsAt.make (h := h2) (N := 8) (by omega)
    have q3 : Quiet h2 (h2.new (.cells (rep [.int .u64 0] 8) true)) := (Quiet.refl _).new _
    have lo3 : Low (h2.new (.cells (rep [.int .u64 0] 8) true)) := lo2.new _
    have g3 := q3.get g2 (lo2 _ _ g2)
    obtain ⟨o, ho⟩ : ∃ o, o = h2.next := ⟨_, rfl⟩
    have hpo : h.next ≠ o := by omega
    simp only [vms, vmc, AOpd.val, Nat.reduceEqDiff, reduceCtorEq, Nat.reduceAdd, Nat.reduceBEq, hmk]
    rw [← ho] at w3 ⊢
    have q13 := (q1.trans q2).trans q3
    generalize (h2.new (.cells (rep [.int .u64 0] 8) true)) = h3 at *
    obtain ⟨h4, st4, u4, w4⟩ := w3.store (j := 1) (by omega) (l.key.length * 256)
    have g4 := (u4.2 h.next hpo).trans g3
    have lo4 := lo3.upd u4 (w3.low lo3)
    have q4 := quiet_upd q13 u4 (by omega)
    have ix1 : idxAddrV 1 (wordsV o 8) (.int .i64 1) = some (.ptr o 1) := WordsAt.idx (j := 1) (by omega)
    have ix4 : idxAddrV 1 (wordsV o 8) (.int .i64 4) = some (.ptr o 4) := WordsAt.idx (j := 4) (by omega)
    have b1 : binV .shl (.int .i64 (l.key.length : Int)) (.int .u64 8) = some (.int .i64 ((l.key.length * 256 : Nat) : Int)) := bin_shl_nat (k' := .u64) (n := 8) (by decide) (by omega)
    have w64 : IntKind.u64.wrap ((l.key.length * 256 : Nat) : Int) = ((l.key.length * 256 : Nat) : Int) := wrap_u64 (by omega)
    have sl2 : slcV 1 (wordsV o 8) (some (.int .i64 2)) none none = some (.slice o 2 1 (8 - 2) (8 - 2) true) := words_slc (i := 2) (by omega)
    simp only [vms, vmc, AOpd.val, Nat.reduceEqDiff, reduceCtorEq, Nat.reduceAdd, Nat.reduceBEq, fa, Nat.zero_add, load_at g3 (i := 0) (v := .str l.key) rfl, b1, w64, ix1, st4, sl2, load_at g4 (i := 0) (v := .str l.key) rfl]
    refine Gives.bind ((words_ok (g := 54) (gc := 78) (k.env _ (by decide)) (k.at rfl) (k.env _ (by decide)) (k.at rfl) lo4 (s := l.key) (by omega)).mono ?_)
    intro r6 h6 iw
    have sw := isWords_sees iw
    obtain ⟨ex6, lo6, nx6, rfl, gw6⟩ := iw
    have q6 := ex6.quiet
    have w6 := w4.quiet lo4 q6
    have g6 := q6.get g4 (lo4 _ _ g4)
    have hcn : cntN l.key.length ≤ 2 := by unfold cntN; omega
    obtain ⟨h7, cp7, u7, w7⟩ := w6.copy (i := 2) sw (by rw [wordsN_len]; omega)
    have g7 := (u7.2 h.next hpo).trans g6
    have lo7 := lo6.upd u7 (w6.low lo6)
    have q7 := quiet_upd (q4.trans q6) u7 (by omega)
    obtain ⟨V, hV⟩ : ∃ V : Nat, l.val = V := ⟨l.val.toNat, by omega⟩
    obtain ⟨h8, st8, u8, w8⟩ := w7.store (j := 4) (by omega) V
    have wv : IntKind.u64.wrap l.val = (V : Int) := by rw [hV]; exact wrap_u64 (by omega)
    simp only [vms, vmc, AOpd.val, Nat.reduceEqDiff, reduceCtorEq, Nat.reduceAdd, Nat.reduceBEq, cp7, fa, Nat.zero_add, load_at g7 (i := 1) (v := .int .i64 l.val) rfl, wv, ix4, st8]
    refine ⟨quiet_upd q7 u8 (by omega), lo7.upd u8 (w7.low lo7), ?_, fun x hx => by simp [wordsV, objs] at hx; omega⟩
    have w9 := w8.eq (g' := leafG l) fun j hj => by
      show leafG l j = if j = 4 then V else if 2 ≤ j ∧ j < 2 + (wordsN (nat8 l.key) (cntN l.key.length)).length then ((wordsN (nat8 l.key) (cntN l.key.length))[j - 2]?).getD 0 else if j = 1 then l.key.length * 256 else 0
      have hrm := cnt_room l.key.length
      rw [wordsN_len, words_getD (by rw [nat8_len]; exact hrm)]
      unfold leafG
      by_cases j4 : j = 4
      · subst j4; simp [hV]
      · simp only [if_neg j4]
        by_cases j1 : j = 1
        · subst j1; simp
        · simp only [if_neg j1]
          by_cases j2 : j = 2 ∨ j = 3
          · rw [if_pos j2]
            by_cases j3 : 2 ≤ j ∧ j < 2 + cntN l.key.length
            · rw [if_pos j3]
            · rw [if_neg j3, blk_out (by rw [nat8_len]; omega)]
          · rw [if_neg j2, if_neg (by omega)]
    exact w9.row
  · have hr' : rightL l = false := by simpa using hr
    simp only [vms, vmc, AOpd.val, Nat.reduceEqDiff, reduceCtorEq, Nat.reduceAdd, Nat.reduceBEq, hr', Bool.not_false]
    exact ⟨q1.trans q2, lo2, .inl ⟨rfl, rfl⟩, fun o ho => by simp [objs] at ho⟩
theorem leafW_inj {a b : LeafP} (ha : rightL a = true) (hb : rightL b = true) (e : leafW a = leafW b) : a = b := by
  have at' : ∀ j, j < 8 → leafG a j = leafG b j := fun j hj => by
    have h1 : (leafW a)[j]? = some (leafG a j) := by simp [leafW, List.getElem?_range hj]
    have h2 : (leafW b)[j]? = some (leafG b j) := by simp [leafW, List.getElem?_range hj]
    rw [e, h2] at h1
    exact (Option.some.inj h1).symm
  obtain ⟨⟨s, hs⟩, a0, a1⟩ := rightL_iff.1 ha
  obtain ⟨⟨t, ht⟩, b0, b1⟩ := rightL_iff.1 hb
  have la := (ofT_len hs)
  have lb := (ofT_len ht)
  have e1 := at' 1 (by omega)
  have e2 := at' 2 (by omega)
  have e3 := at' 3 (by omega)
  have e4 := at' 4 (by omega)
  simp only [leafG] at e1 e2 e3 e4
  simp at e1 e2 e3 e4
  have hlen : a.key.length = b.key.length := by omega
  have hk : a.key = b.key := by
    have h13 : a.key.length ≤ 13 := by rw [la.1]; simp; omega
    refine (words_inj (n := 2) hlen (by omega)).1 ?_
    apply List.ext_getElem?
    intro j
    by_cases hj : j < 2
    · rw [wordsN_get hj, wordsN_get hj]
      have : j = 0 ∨ j = 1 := by omega
      rcases this with rfl | rfl
      · rw [e2]
      · rw [e3]
    · rw [List.getElem?_eq_none (by rw [wordsN_len]; omega), List.getElem?_eq_none (by rw [wordsN_len]; omega)]
  obtain ⟨ka, va⟩ := a
  obtain ⟨kb, vb⟩ := b
  simp only at hk a0 b0 e4
  subst hk
  congr 1
  omega
end Go.Proofs.Ytpabmkicdcilpaa

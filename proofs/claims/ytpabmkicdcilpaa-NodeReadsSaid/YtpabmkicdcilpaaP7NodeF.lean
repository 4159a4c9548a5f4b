/- The reference's nodes: refs, Low, Right. -/
import Derived.Test.YtpabmkicdcilpaaP7O
namespace Go.Proofs.Ytpabmkicdcilpaa
open Go.Vm
set_option linter.unusedSimpArgs false
set_option linter.unusedVariables false
set_option maxRecDepth 100000
variable {T : Vm.Prog} {h : AH}
theorem ref88_ok (k : Fits T) {s g : Nat} {l : Bool} (hv : Valid s g) : Gives T 88 [.int .i64 (s : Int), .int .i64 (g : Int), .bool l] h fun r h' => r = .int .i64 (refN s g l : Nat) ∧ h' = h := by
  obtain ⟨h1, h2, h3⟩ := hv
  refine gives_func (k.env _ (by decide)) (k.at (fn := a88) rfl) rfl ?_
  have d1 : decide ((s : Int) < 0) = false := by rw [decide_eq_false_iff_not]; omega
  have d2 : decide ((s : Int) ≥ 1024) = false := by rw [decide_eq_false_iff_not]; omega
  have d3 : decide ((g : Int) < 1) = false := by rw [decide_eq_false_iff_not]; omega
  have d4 : decide ((g : Int) > 1073741824) = false := by rw [decide_eq_false_iff_not]; omega
  have eo := bin_or_i64 (a := g * 65536) (b := s) (by omega) (by omega)
  rw [or_low (by omega)] at eo
  have el := bin_or_i64 (a := g * 65536 + s) (b := 281474976710656) (by omega) (by omega)
  rw [or_leaf (by omega)] at el
  have el' : binV .or (.int .i64 ((g * 65536 + s : Nat) : Int)) (.int .i64 281474976710656) = some (.int .i64 ((g * 65536 + s + 281474976710656 : Nat) : Int)) := el
  cases l
  · simp only [a88, c88, vms, vmc, AOpd.val, Nat.reduceEqDiff, reduceCtorEq, Nat.reduceAdd, Nat.reduceBEq, d1, d2, d3, d4, bin_shl16 h3, eo]
    exact ⟨by simp [refN], trivial⟩
  · simp only [a88, c88, vms, vmc, AOpd.val, Nat.reduceEqDiff, reduceCtorEq, Nat.reduceAdd, Nat.reduceBEq, d1, d2, d3, d4, bin_shl16 h3, eo, el']
    exact ⟨by simp [refN], trivial⟩
theorem ref88_no (k : Fits T) {s g : Nat} {l : Bool} (hv : ¬ Valid s g) : Gives T 88 [.int .i64 (s : Int), .int .i64 (g : Int), .bool l] h fun r h' => r = .int .i64 0 ∧ h' = h := by
  refine gives_func (k.env _ (by decide)) (k.at (fn := a88) rfl) rfl ?_
  have d1 : decide ((s : Int) < 0) = false := by rw [decide_eq_false_iff_not]; omega
  by_cases h1 : s < 1024
  · have d2 : decide ((s : Int) ≥ 1024) = false := by rw [decide_eq_false_iff_not]; omega
    by_cases h2 : 1 ≤ g
    · have d3 : decide ((g : Int) < 1) = false := by rw [decide_eq_false_iff_not]; omega
      have h3 : ¬ g ≤ 1073741824 := fun h3 => hv ⟨h1, h2, h3⟩
      have d4 : decide ((g : Int) > 1073741824) = true := by rw [decide_eq_true_eq]; omega
      simp only [a88, c88, vms, vmc, AOpd.val, Nat.reduceEqDiff, reduceCtorEq, Nat.reduceAdd, Nat.reduceBEq, d1, d2, d3, d4]; exact ⟨trivial, trivial⟩
    · have d3 : decide ((g : Int) < 1) = true := by rw [decide_eq_true_eq]; omega
      simp only [a88, c88, vms, vmc, AOpd.val, Nat.reduceEqDiff, reduceCtorEq, Nat.reduceAdd, Nat.reduceBEq, d1, d2, d3]; exact ⟨trivial, trivial⟩
  · have d2 : decide ((s : Int) ≥ 1024) = true := by rw [decide_eq_true_eq]; omega
    simp only [a88, c88, vms, vmc, AOpd.val, Nat.reduceEqDiff, reduceCtorEq, Nat.reduceAdd, Nat.reduceBEq, d1, d2]; exact ⟨trivial, trivial⟩
theorem refN_top {s g : Nat} {l : Bool} (hv : Valid s g) : decide (refN s g l / 281474976710656 = 1) = l := by
  obtain ⟨h1, h2, h3⟩ := hv
  unfold refN
  cases l
  · simp; omega
  · simp; omega
theorem shr_i64 {n : Nat} (hn : n < 64) (x : Int) : binV .shr (.int .i64 x) (.int .u64 (n : Int)) = some (.int .i64 (x.fdiv (2 ^ n))) := by
  show intShift .shr .i64 x (.ofNat n) = _
  unfold intShift
  rw [if_neg (by simp only [Int.ofNat_eq_natCast]; omega)]
  show some (AV.int .i64 (Int.fdiv x (2 ^ min n 64))) = _
  rw [Nat.min_eq_left (by omega)]
/-- A ref's parts, by the reference. -/
theorem partsR_ok (k : Fits T) (ref : Int) : Gives T 66 [.int .i64 ref] h fun r h' => h' = h ∧
    ((∃ s g l, Valid s g ∧ ref = (refN s g l : Nat) ∧ r = .tuple [.int .i64 (s : Nat), .int .i64 (g : Nat), .bool l, .bool true]) ∨
     ((∀ s g l, Valid s g → ref ≠ (refN s g l : Nat)) ∧ r = .tuple [.int .i64 0, .int .i64 0, .bool false, .bool false])) := by
  refine gives_func (k.env _ (by decide)) (k.at (fn := a66) rfl) rfl ?_
  by_cases h1 : ref ≤ 0
  · have d1 : decide (ref ≤ 0) = true := by simpa using h1
    simp only [a66, c66, vms, vmc, AOpd.val, Nat.reduceEqDiff, reduceCtorEq, Nat.reduceAdd, Nat.reduceBEq, d1]
    refine ⟨trivial, .inr ⟨fun s g l hv e => ?_, trivial⟩⟩
    have := refN_lt (l := l) hv
    omega
  have d1 : decide (ref ≤ 0) = false := by simpa using h1
  by_cases h2 : ref ≥ 562949953421312
  · have d2 : decide (ref ≥ 562949953421312) = true := by simpa using h2
    simp only [a66, c66, vms, vmc, AOpd.val, Nat.reduceEqDiff, reduceCtorEq, Nat.reduceAdd, Nat.reduceBEq, d1, d2]
    refine ⟨trivial, .inr ⟨fun s g l hv e => ?_, trivial⟩⟩
    have := refN_lt (l := l) hv
    omega
  have d2 : decide (ref ≥ 562949953421312) = false := by simpa using h2
  obtain ⟨R, rfl⟩ : ∃ R : Nat, ref = R := ⟨ref.toNat, by omega⟩
  obtain ⟨s, hs1, hs2, hs3⟩ := bin_and_i64 (R : Int) (c := 65535) (by omega)
  have hs2' : binV .and (.int .i64 (R : Int)) (.int .i64 65535) = some (.int .i64 (s : Int)) := hs2
  have es := hs3 R (by omega) rfl
  obtain ⟨g, hg1, hg2, hg3⟩ := bin_and_i64 ((R : Int).fdiv 65536) (c := 4294967295) (by omega)
  have hg2' : binV .and (.int .i64 ((R : Int).fdiv 65536)) (.int .i64 4294967295) = some (.int .i64 (g : Int)) := hg2
  have eg := hg3 (R / 65536) (by omega) (by rw [Int.fdiv_eq_ediv_of_nonneg _ (by omega)]; rfl)
  have sh16 : binV .shr (.int .i64 (R : Int)) (.int .u64 16) = some (.int .i64 ((R : Int).fdiv 65536)) := shr_i64 (n := 16) (by decide) _
  have sh48 : binV .shr (.int .i64 (R : Int)) (.int .u64 48) = some (.int .i64 ((R : Int).fdiv 281474976710656)) := shr_i64 (n := 48) (by decide) _
  have e48 : (((R : Int).fdiv 281474976710656) == 1) = decide (R / 281474976710656 = 1) := by
    rw [Int.fdiv_eq_ediv_of_nonneg _ (by omega), Bool.eq_iff_iff]
    simp only [beq_iff_eq, decide_eq_true_eq]
    omega
  simp only [a66, c66, vms, vmc, AOpd.val, Nat.reduceEqDiff, reduceCtorEq, Nat.reduceAdd, Nat.reduceBEq, d1, d2, hs2', sh16, hg2', sh48, e48]
  by_cases hv : Valid s g
  · refine Gives.bind ((ref88_ok k (l := decide (R / 281474976710656 = 1)) hv).mono ?_)
    rintro _ _ ⟨rfl, rfl⟩
    by_cases he : refN s g (decide (R / 281474976710656 = 1)) = R
    · have b1 : (((refN s g (decide (R / 281474976710656 = 1)) : Nat) : Int) != (R : Int)) = false := by rw [he]; simp
      simp only [vms, vmc, AOpd.val, Nat.reduceEqDiff, reduceCtorEq, Nat.reduceAdd, Nat.reduceBEq, b1]
      exact ⟨trivial, .inl ⟨s, g, _, hv, by rw [he], rfl⟩⟩
    · have b1 : (((refN s g (decide (R / 281474976710656 = 1)) : Nat) : Int) != (R : Int)) = true := by simp only [bne_iff_ne, ne_eq]; omega
      simp only [vms, vmc, AOpd.val, Nat.reduceEqDiff, reduceCtorEq, Nat.reduceAdd, Nat.reduceBEq, b1]
      refine ⟨trivial, .inr ⟨fun s' g' l' hv' e => he ?_, trivial⟩⟩
      have e' : R = refN s' g' l' := by exact_mod_cast e
      have a1 := refN_slot (l := l') hv'
      have a2 := refN_gen (l := l') hv'
      have a3 := refN_top (l := l') hv'
      rw [← e'] at a1 a2 a3
      rw [a1] at es
      rw [a2] at eg
      rw [es, eg, a3, ← e']
  · refine Gives.bind ((ref88_no k (l := decide (R / 281474976710656 = 1)) hv).mono ?_)
    rintro _ _ ⟨rfl, rfl⟩
    have b1 : ((0 : Int) != (R : Int)) = true := by simp only [bne_iff_ne, ne_eq]; omega
    simp only [vms, vmc, AOpd.val, Nat.reduceEqDiff, reduceCtorEq, Nat.reduceAdd, Nat.reduceBEq, b1]
    refine ⟨trivial, .inr ⟨fun s' g' l' hv' e => hv ?_, trivial⟩⟩
    have e' : R = refN s' g' l' := by exact_mod_cast e
    have a1 := refN_slot (l := l') hv'
    have a2 := refN_gen (l := l') hv'
    rw [← e'] at a1 a2
    rw [a1] at es
    rw [a2] at eg
    rw [es, eg]; exact hv'
theorem ext3 (a b c d : AV) : extractV 3 (.tuple [a, b, c, d]) = some d := rfl
theorem isRefR {T : Vm.Prog} {h : AH} (k : Fits T) (x : Int) : Gives T 66 [.int .i64 x] h fun r h' => h' = h ∧ ∃ a b c, r = .tuple [a, b, c, .bool (isRefP x)] := by
  refine (partsR_ok k x).mono ?_
  rintro r _ ⟨rfl, ⟨s, g, l, hv, rfl, rfl⟩ | ⟨hn, rfl⟩⟩
  · exact ⟨rfl, _, _, _, by rw [isRefP_ref hv]⟩
  · have : isRefP x = false := by
      cases hb : isRefP x with
      | false => rfl
      | true => obtain ⟨s, g, l, hv, e⟩ := isRefP_iff.1 hb; exact absurd e (hn s g l hv)
    exact ⟨rfl, _, _, _, by rw [this]⟩
end Go.Proofs.Ytpabmkicdcilpaa
/- The reference's nodes: Right. -/
namespace Go.Proofs.Ytpabmkicdcilpaa
open Go.Vm
set_option linter.unusedSimpArgs false
set_option linter.unusedVariables false
set_option maxRecDepth 100000
variable {T : Vm.Prog} {h : AH}
theorem rightR_loop (k : Fits T) {n : NodeP} (ok : n.Ok) {f : Fr} {p : Nat} {kv iv : AV} (hg : h.get p = some (.cells (n.cells kv iv) true)) (s1 : Sees h kv (kcells n.keys)) (s2 : Sees h iv (icells n.kids)) (hsame : n.keys.length = n.kids.length)
    (f1 : f.at 1 = .ptr p 0) (f46 : f.at 48 = .int .i64 (n.keys.length : Int)) (f47 : f.at 49 = .int .i64 0) {Q : AExit → Fr → AH → Prop}
    (hyes : ((∀ (i : Nat) (x : Int), n.kids[i]? = some x → isRefP x = true) ∧ ∀ (i : Nat) (a b : Nat), n.keys[i]? = some a → n.keys[i + 1]? = some b → a < b) → ∀ f', Q (.exit 0) f' h)
    (hno : ¬ ((∀ (i : Nat) (x : Int), n.kids[i]? = some x → isRefP x = true) ∧ ∀ (i : Nat) (a b : Nat), n.keys[i]? = some a → n.keys[i + 1]? = some b → a < b) → ∀ f', f'.at 2 = .bool false → Q .ret f' h) :
    Wp (code T (.loop c37l0) f h) Q := by
  have fa : ∀ o j, fieldAddrV j (.ptr o 0) = some (.ptr o (0 + j)) := fun o j => rfl
  have hkl := ok.kids
  have hc3 : (n.cells kv iv)[3]? = some kv := rfl
  have hc4 : (n.cells kv iv)[4]? = some iv := rfl
  refine wpc_loop (fun d f' h' => h' = h ∧ ∃ j, d = n.kids.length - j ∧ j ≤ n.kids.length ∧ f'.at 1 = .ptr p 0 ∧ f'.at 48 = .int .i64 (n.keys.length : Int) ∧ f'.at 49 = .int .i64 (j : Nat) ∧ (∀ (i : Nat) (x : Int), i < j → n.kids[i]? = some x → isRefP x = true) ∧ ∀ (i a b : Nat), i + 1 < j → n.keys[i]? = some a → n.keys[i + 1]? = some b → a < b) ?_ n.kids.length _ _ ⟨rfl, 0, rfl, Nat.zero_le _, f1, f46, f47, fun i x hi => by omega, fun i a b hi => by omega⟩
  rintro _ f' _ ⟨rfl, j, rfl, hj, g1, g46, g47, hr, hs⟩
  by_cases hlt : j < n.kids.length
  · have hd : decide ((j : Int) < (n.keys.length : Int)) = true := by rw [decide_eq_true_eq]; omega
    obtain ⟨x, hx⟩ : ∃ x, n.kids[j]? = some x := ⟨_, List.getElem?_eq_getElem hlt⟩
    obtain ⟨y, hy⟩ : ∃ y, n.keys[j]? = some y := ⟨_, List.getElem?_eq_getElem (by omega)⟩
    obtain ⟨a1, i1, l1⟩ := s2.at (i := j) (x := .int .i64 x) (by simp [icells, hx]) .i64
    obtain ⟨a2, i2, l2⟩ := s1.at (i := j) (x := .int .u8 (y : Int)) (by simp [kcells, hy]) .i64
    have w1 : IntKind.i64.wrap ((j : Int) + 1) = ((j + 1 : Nat) : Int) := by rw [wrap_i64 (by omega) (by omega)]; omega
    simp only [c37l0, vms, vmc, AOpd.val, Nat.reduceEqDiff, reduceCtorEq, Nat.reduceAdd, Nat.reduceBEq, g1, g46, g47, hd, fa, Nat.zero_add, load_at hg hc4, i1, l1]
    refine Gives.bind ((isRefR k x).mono ?_)
    rintro _ _ ⟨rfl, e1, e2, e3, rfl⟩
    by_cases hx' : isRefP x = true
    · by_cases h0 : j = 0
      · subst h0
        simp only [vms, vmc, AOpd.val, Nat.reduceEqDiff, reduceCtorEq, Nat.reduceAdd, Nat.reduceBEq, ext3, g1, g46, g47, hx', Bool.not_true, show decide (((0 : Nat) : Int) > 0) = false from rfl, w1]
        refine ⟨n.kids.length - 1, by omega, trivial, 1, rfl, by omega, ?_, ?_, ?_, fun i x' hi hx2 => ?_, fun i a b hi => by omega⟩
        · simp only [vms, vmc, AOpd.val, Nat.reduceEqDiff, reduceCtorEq, Nat.reduceAdd, Nat.reduceBEq, g1]
        · simp only [vms, vmc, AOpd.val, Nat.reduceEqDiff, reduceCtorEq, Nat.reduceAdd, Nat.reduceBEq, g46]
        · simp only [vms, vmc, AOpd.val, Nat.reduceEqDiff, reduceCtorEq, Nat.reduceAdd, Nat.reduceBEq]
        · have : i = 0 := by omega
          subst this; rw [hx] at hx2; cases hx2; exact hx'
      · have h0d : decide ((j : Int) > 0) = true := by rw [decide_eq_true_eq]; omega
        obtain ⟨z, hz⟩ : ∃ z, n.keys[j - 1]? = some z := ⟨_, List.getElem?_eq_getElem (by omega)⟩
        obtain ⟨a3, i3, l3⟩ := s1.at (i := j - 1) (x := .int .u8 (z : Int)) (by simp [kcells, hz]) .i64
        have w2 : IntKind.i64.wrap ((j : Int) - 1) = ((j - 1 : Nat) : Int) := by rw [wrap_i64 (by omega) (by omega)]; omega
        simp only [vms, vmc, AOpd.val, Nat.reduceEqDiff, reduceCtorEq, Nat.reduceAdd, Nat.reduceBEq, ext3, g1, g46, g47, hx', Bool.not_true, h0d, w1, w2, fa, Nat.zero_add, load_at hg hc3, i2, l2, i3, l3]
        by_cases hle : (y : Int) ≤ (z : Int)
        · simp only [vms, vmc, AOpd.val, Nat.reduceEqDiff, reduceCtorEq, Nat.reduceAdd, Nat.reduceBEq, decide_eq_true hle]
          refine hno (fun ⟨_, h2⟩ => ?_) _ (by simp only [vms, vmc, AOpd.val, Nat.reduceEqDiff, reduceCtorEq, Nat.reduceAdd, Nat.reduceBEq])
          have := h2 (j - 1) z y hz (by rw [show j - 1 + 1 = j by omega]; exact hy)
          omega
        · simp only [vms, vmc, AOpd.val, Nat.reduceEqDiff, reduceCtorEq, Nat.reduceAdd, Nat.reduceBEq, decide_eq_false hle, g1, g46, g47, w1]
          refine ⟨n.kids.length - (j + 1), by omega, trivial, j + 1, rfl, by omega, ?_, ?_, ?_, fun i x' hi hx2 => ?_, fun i a b hi ha hb => ?_⟩
          · simp only [vms, vmc, AOpd.val, Nat.reduceEqDiff, reduceCtorEq, Nat.reduceAdd, Nat.reduceBEq, g1]
          · simp only [vms, vmc, AOpd.val, Nat.reduceEqDiff, reduceCtorEq, Nat.reduceAdd, Nat.reduceBEq, g46]
          · simp only [vms, vmc, AOpd.val, Nat.reduceEqDiff, reduceCtorEq, Nat.reduceAdd, Nat.reduceBEq]
          · by_cases hij : i = j
            · subst hij; rw [hx] at hx2; cases hx2; exact hx'
            · exact hr i x' (by omega) hx2
          · by_cases hij : i + 1 = j
            · subst hij
              rw [hy] at hb; cases hb
              have : i + 1 - 1 = i := by omega
              rw [this, ha] at hz; cases hz
              omega
            · exact hs i a b (by omega) ha hb
    · have hx2 : isRefP x = false := by simpa using hx'
      simp only [vms, vmc, AOpd.val, Nat.reduceEqDiff, reduceCtorEq, Nat.reduceAdd, Nat.reduceBEq, ext3, hx2, Bool.not_false]
      refine hno (fun ⟨h1, _⟩ => hx' (h1 j x hx)) _ (by simp only [vms, vmc, AOpd.val, Nat.reduceEqDiff, reduceCtorEq, Nat.reduceAdd, Nat.reduceBEq])
  · have hd : decide ((j : Int) < (n.keys.length : Int)) = false := by rw [decide_eq_false_iff_not]; omega
    simp only [c37l0, vms, vmc, AOpd.val, Nat.reduceEqDiff, reduceCtorEq, Nat.reduceAdd, Nat.reduceBEq, g1, g46, g47, hd]
    refine hyes ⟨fun i x hx => ?_, fun i a b ha hb => ?_⟩ _
    · have := (List.getElem?_eq_some_iff.1 hx).1
      exact hr i x (by omega) hx
    · have := (List.getElem?_eq_some_iff.1 hb).1
      exact hs i a b (by omega) ha hb
theorem high_kinds {x : Int} : highP x ≠ 0 ↔ 1 ≤ x ∧ x ≤ 4 := by
  unfold highP
  split
  · simp; omega
  · split
    · simp; omega
    · split
      · simp; omega
      · split
        · simp; omega
        · simp; omega
theorem and3 {w : Nat} : w &&& 3 = 3 ↔ (w &&& 2 ≠ 0 ∧ w &&& 1 ≠ 0) := by
  have red : ∀ m, m < 4 → w &&& m = (w % 4) &&& m := fun m hm => by
    have h1 := Nat.and_mod_two_pow (a := w) (b := m) (n := 2)
    have h2 : w &&& m ≤ m := Nat.and_le_right
    rw [Nat.mod_eq_of_lt (show w &&& m < 2 ^ 2 by omega), Nat.mod_eq_of_lt (show m < 2 ^ 2 by omega)] at h1
    exact h1
  rw [red 3 (by decide), red 2 (by decide), red 1 (by decide)]
  have hr : w % 4 < 4 := Nat.mod_lt _ (by decide)
  generalize w % 4 = r at hr
  have : r = 0 ∨ r = 1 ∨ r = 2 ∨ r = 3 := by omega
  rcases this with rfl | rfl | rfl | rfl <;> decide
theorem rightR_ok (k : Fits T) (hl : Low h) {v : AV} {n : NodeP} (ok : n.Ok) (s : NodeV h v n) : Gives T 37 [v] h fun r h' => r = .bool (rightP n) ∧ Quiet h h' ∧ Low h' := by
  obtain ⟨kv, iv, rfl, s1, s2⟩ := s
  refine gives_func (k.env _ (by decide)) (k.at (fn := a37) rfl) rfl ?_
  have fa : ∀ o j, fieldAddrV j (.ptr o 0) = some (.ptr o (0 + j)) := fun o j => rfl
  have q1 : Quiet h (h.new (.cells (n.cells kv iv) true)) := (Quiet.refl _).new _
  have lo1 : Low (h.new (.cells (n.cells kv iv) true)) := hl.new _
  have hg : (h.new (.cells (n.cells kv iv) true)).get h.next = some (.cells (n.cells kv iv) true) := get_new_same
  have t1 := sees_keep s1 hl q1
  have t2 := sees_keep s2 hl q1
  simp only [a37, c37, vms, vmc, AOpd.val, Nat.reduceEqDiff, reduceCtorEq, Nat.reduceAdd, Nat.reduceBEq, box_agg]
  generalize (h.new (.cells (n.cells kv iv) true)) = h1 at *
  have l0 := load_at hg (i := 0) (v := .int .i64 n.kind) rfl
  have l1 := load_at hg (i := 1) (v := .int .u64 (n.word : Int)) rfl
  have l2 := load_at hg (i := 2) (v := .str n.pre) rfl
  have l3 := load_at hg (i := 3) (v := kv) rfl
  have l4 := load_at hg (i := 4) (v := iv) rfl
  have n1 : lenOfV kv = some n.keys.length := by simpa [kcells] using t1.len
  have n2 : lenOfV iv = some n.kids.length := by simpa [icells] using t2.len
  have beqk : AV.beq kv kv = true := sees_beq t1
  have skip : ∀ {f : Fr}, f.at 37 = .bool true → AOper.lookAgain ⟨some 39, .load false 1 (.tmp 38), some (37, false)⟩ f h1 = true → True := fun _ _ => trivial
  by_cases e1 : n.kind < 1
  · have d1 : decide (n.kind < 1) = true := by simpa using e1
    have hn : ¬ RightP n := fun r => by have := (high_kinds.1 r.kind).1; omega
    simp only [items_test, vms, vmc, AOpd.val, Nat.reduceEqDiff, reduceCtorEq, Nat.reduceAdd, Nat.reduceBEq, fa, Nat.zero_add, l0, d1]
    rw [items_look (look_skip (by simp only [vms, vmc, AOpd.val, Nat.reduceEqDiff, reduceCtorEq, Nat.reduceAdd, Nat.reduceBEq, Bool.not_false]) (by simp only [vms, vmc, AOpd.val, Nat.reduceEqDiff, reduceCtorEq, Nat.reduceAdd, Nat.reduceBEq]))]
    simp only [vms, vmc, AOpd.val, Nat.reduceEqDiff, reduceCtorEq, Nat.reduceAdd, Nat.reduceBEq, rightP_no hn]
    exact ⟨trivial, q1, lo1⟩
  have d1 : decide (n.kind < 1) = false := by simpa using e1
  by_cases e2 : n.kind > 4
  · have d2 : decide (n.kind > 4) = true := by simpa using e2
    have hn : ¬ RightP n := fun r => by have := (high_kinds.1 r.kind).2; omega
    simp only [items_test, vms, vmc, AOpd.val, Nat.reduceEqDiff, reduceCtorEq, Nat.reduceAdd, Nat.reduceBEq, fa, Nat.zero_add, l0, d1, d2]
    rw [items_look (look_skip (by simp only [vms, vmc, AOpd.val, Nat.reduceEqDiff, reduceCtorEq, Nat.reduceAdd, Nat.reduceBEq, Bool.not_false]) (by simp only [vms, vmc, AOpd.val, Nat.reduceEqDiff, reduceCtorEq, Nat.reduceAdd, Nat.reduceBEq]))]
    simp only [vms, vmc, AOpd.val, Nat.reduceEqDiff, reduceCtorEq, Nat.reduceAdd, Nat.reduceBEq, rightP_no hn]
    exact ⟨trivial, q1, lo1⟩
  have d2 : decide (n.kind > 4) = false := by simpa using e2
  have hk : highP n.kind ≠ 0 := high_kinds.2 (by omega)
  have a3 := and_u64 ok.word (b := 3) (by decide)
  have a3' : binV .and (.int .u64 (n.word : Int)) (.int .u64 3) = some (.int .u64 ((n.word &&& 3 : Nat) : Int)) := a3
  by_cases e3 : n.word &&& 3 = 3
  · have d3 : (((n.word &&& 3 : Nat) : Int) == 3) = true := by rw [e3]; rfl
    have hn : ¬ RightP n := fun r => r.word (and3.1 e3)
    simp only [items_test, vms, vmc, AOpd.val, Nat.reduceEqDiff, reduceCtorEq, Nat.reduceAdd, Nat.reduceBEq, fa, Nat.zero_add, l0, l1, d1, d2, a3', d3]
    rw [items_look (look_skip (by simp only [vms, vmc, AOpd.val, Nat.reduceEqDiff, reduceCtorEq, Nat.reduceAdd, Nat.reduceBEq, Bool.not_false]) (by simp only [vms, vmc, AOpd.val, Nat.reduceEqDiff, reduceCtorEq, Nat.reduceAdd, Nat.reduceBEq]))]
    simp only [vms, vmc, AOpd.val, Nat.reduceEqDiff, reduceCtorEq, Nat.reduceAdd, Nat.reduceBEq, rightP_no hn]
    exact ⟨trivial, q1, lo1⟩
  have d3 : (((n.word &&& 3 : Nat) : Int) == 3) = false := by rw [beq_eq_false_iff_ne]; omega
  by_cases e4 : n.pre.length ≤ 12
  rotate_left
  · have d4 : decide ((n.pre.length : Int) > 12) = true := by rw [decide_eq_true_eq]; omega
    have hn : ¬ RightP n := fun r => e4 r.pre
    simp only [items_test, vms, vmc, AOpd.val, Nat.reduceEqDiff, reduceCtorEq, Nat.reduceAdd, Nat.reduceBEq, fa, Nat.zero_add, l0, l1, l2, d1, d2, a3', d3, d4]
    rw [items_look (look_skip (by simp only [vms, vmc, AOpd.val, Nat.reduceEqDiff, reduceCtorEq, Nat.reduceAdd, Nat.reduceBEq, Bool.not_false]) (by simp only [vms, vmc, AOpd.val, Nat.reduceEqDiff, reduceCtorEq, Nat.reduceAdd, Nat.reduceBEq]))]
    simp only [vms, vmc, AOpd.val, Nat.reduceEqDiff, reduceCtorEq, Nat.reduceAdd, Nat.reduceBEq, rightP_no hn]
    exact ⟨trivial, q1, lo1⟩
  have d4 : decide ((n.pre.length : Int) > 12) = false := by rw [decide_eq_false_iff_not]; omega
  by_cases e5 : n.keys.length = n.kids.length
  rotate_left
  · have d5 : ((n.keys.length : Int) != (n.kids.length : Int)) = true := by simp only [bne_iff_ne, ne_eq]; omega
    have hn : ¬ RightP n := fun r => e5 r.same
    simp only [items_test, vms, vmc, AOpd.val, Nat.reduceEqDiff, reduceCtorEq, Nat.reduceAdd, Nat.reduceBEq, fa, Nat.zero_add, l0, l1, l2, l3, l4, n1, n2, d1, d2, a3', d3, d4, d5]
    rw [items_look (look_skip (by simp only [vms, vmc, AOpd.val, Nat.reduceEqDiff, reduceCtorEq, Nat.reduceAdd, Nat.reduceBEq, Bool.not_false]) (by simp only [vms, vmc, AOpd.val, Nat.reduceEqDiff, reduceCtorEq, Nat.reduceAdd, Nat.reduceBEq]))]
    simp only [vms, vmc, AOpd.val, Nat.reduceEqDiff, reduceCtorEq, Nat.reduceAdd, Nat.reduceBEq, rightP_no hn]
    exact ⟨trivial, q1, lo1⟩
  have d5 : ((n.keys.length : Int) != (n.kids.length : Int)) = false := by rw [e5]; simp
  have lookk : ∀ {f : Fr}, f.at 38 = .ptr h.next 3 → f.at 37 = .bool false → f.at 39 = kv → AOper.lookAgain ⟨some 39, .load false 1 (.tmp 38), some (37, false)⟩ f h1 = true := fun f36 f35 f37 => look_want f35 (look_load (v := kv) (by show loadV _ _ _ (Fr.at _ _) = _; rw [f36]; exact l3) f37 beqk)
  have e2c : RightP n ↔ n.keys.length ≤ highP n.kind ∧ ((∀ (i : Nat) (x : Int), n.kids[i]? = some x → isRefP x = true) ∧ ∀ (i a b : Nat), n.keys[i]? = some a → n.keys[i + 1]? = some b → a < b) :=
    ⟨fun r => ⟨r.few, r.refs, r.rise⟩, fun ⟨r1, r2, r3⟩ => ⟨hk, fun hw => e3 (and3.2 hw), e4, e5, r1, r2, r3⟩⟩
  simp only [items_test, vms, vmc, AOpd.val, Nat.reduceEqDiff, reduceCtorEq, Nat.reduceAdd, Nat.reduceBEq, fa, Nat.zero_add, l0, l1, l2, l3, l4, n1, n2, d1, d2, a3', d3, d4, d5]
  refine Gives.bind ((high39_ok k).mono ?_)
  rintro _ _ ⟨rfl, rfl⟩
  rename_i h1
  by_cases e6 : n.keys.length ≤ highP n.kind
  · have d6 : decide ((n.keys.length : Int) > (highP n.kind : Nat)) = false := by rw [decide_eq_false_iff_not]; omega
    simp only [items_test, vms, vmc, AOpd.val, Nat.reduceEqDiff, reduceCtorEq, Nat.reduceAdd, Nat.reduceBEq, d6]
    rw [items_look (lookk (by simp only [vms, vmc, AOpd.val, Nat.reduceEqDiff, reduceCtorEq, Nat.reduceAdd, Nat.reduceBEq]) (by simp only [vms, vmc, AOpd.val, Nat.reduceEqDiff, reduceCtorEq, Nat.reduceAdd, Nat.reduceBEq]) (by simp only [vms, vmc, AOpd.val, Nat.reduceEqDiff, reduceCtorEq, Nat.reduceAdd, Nat.reduceBEq]))]
    simp only [vms, vmc, AOpd.val, Nat.reduceEqDiff, reduceCtorEq, Nat.reduceAdd, Nat.reduceBEq, fa, Nat.zero_add, l3, n1]
    refine rightR_loop k ok hg t1 t2 e5 ?_ ?_ ?_ (fun hy f' => ?_) (fun hn f' f2 => ?_)
    iterate 3 (simp only [vms, vmc, AOpd.val, Nat.reduceEqDiff, reduceCtorEq, Nat.reduceAdd, Nat.reduceBEq])
    · simp only [vms, vmc, AOpd.val, Nat.reduceEqDiff, reduceCtorEq, Nat.reduceAdd, Nat.reduceBEq, rightP_iff.2 (e2c.2 ⟨e6, hy⟩)]
      exact ⟨trivial, q1, lo1⟩
    · simp only [vms, vmc, AOpd.val, Nat.reduceEqDiff, reduceCtorEq, Nat.reduceAdd, Nat.reduceBEq, f2, rightP_no (fun h : RightP n => hn (e2c.1 h).2)]
      exact ⟨trivial, q1, lo1⟩
  · have d6 : decide ((n.keys.length : Int) > (highP n.kind : Nat)) = true := by rw [decide_eq_true_eq]; omega
    simp only [items_test, vms, vmc, AOpd.val, Nat.reduceEqDiff, reduceCtorEq, Nat.reduceAdd, Nat.reduceBEq, d6]
    rw [items_look (lookk (by simp only [vms, vmc, AOpd.val, Nat.reduceEqDiff, reduceCtorEq, Nat.reduceAdd, Nat.reduceBEq]) (by simp only [vms, vmc, AOpd.val, Nat.reduceEqDiff, reduceCtorEq, Nat.reduceAdd, Nat.reduceBEq]) (by simp only [vms, vmc, AOpd.val, Nat.reduceEqDiff, reduceCtorEq, Nat.reduceAdd, Nat.reduceBEq]))]
    simp only [vms, vmc, AOpd.val, Nat.reduceEqDiff, reduceCtorEq, Nat.reduceAdd, Nat.reduceBEq, rightP_no (fun h : RightP n => e6 h.few)]
    exact ⟨trivial, q1, lo1⟩
end Go.Proofs.Ytpabmkicdcilpaa
/- The reference's nodes: Find; a key and a child behind others. -/
namespace Go.Proofs.Ytpabmkicdcilpaa
open Go.Vm
set_option linter.unusedSimpArgs false
set_option linter.unusedVariables false
set_option maxRecDepth 100000
variable {T : Vm.Prog} {h : AH}
/-- A key and a child behind others, out of two literals. -/
theorem push {po : Nat} {C : List AV} {kv iv : AV} {ks : List Nat} {xs : List Int} {b : Nat} {x : Int} (hl : Low h) (gp : h.get po = some (.cells C true)) (rk : Row1 h kv (kcells ks)) (ri : Row1 h iv (icells xs)) (hk : po ∉ objs kv) (hi : po ∉ objs iv) (hd : ∀ o ∈ objs kv, o ∉ objs iv) (hks : ks.length < 1000) (hxs : xs.length < 1000) :
    ∃ kv' h3 iv' h4, appV 1 1 ((h.new (.cells [.int .u8 (b : Int)] true)).new (.cells [.int .i64 x] true)) kv (.slice h.next 0 1 1 1 true) = some (kv', h3) ∧ h3.get (h.next + 1) = some (.cells [.int .i64 x] true) ∧ h3.get po = some (.cells C true) ∧ (∀ o, o < h.next → o ∉ objs kv → h3.get o = h.get o) ∧
      appV 1 8 h3 iv (.slice (h.next + 1) 0 1 1 1 true) = some (iv', h4) ∧ h4.get po = some (.cells C true) ∧ Row1 h4 kv' (kcells (ks ++ [b])) ∧ Row1 h4 iv' (icells (xs ++ [x])) ∧ po ∉ objs kv' ∧ po ∉ objs iv' ∧ (∀ o ∈ objs kv', o ∉ objs iv') ∧ (∀ o ∈ objs kv', o ∈ objs kv ∨ h.next ≤ o) ∧ (∀ o ∈ objs iv', o ∈ objs iv ∨ h.next ≤ o) ∧ Low h4 ∧ (∀ o, o < h.next → o ∉ objs kv → o ∉ objs iv → h4.get o = h.get o) ∧ h.next ≤ h4.next := by
  have hpo := hl _ _ gp
  have lk : ∀ o ∈ objs kv, o < h.next := fun o ho => RowS.low rk hl o ho
  have li : ∀ o ∈ objs iv, o < h.next := fun o ho => RowS.low ri hl o ho
  have q2 : Quiet h ((h.new (.cells [.int .u8 (b : Int)] true)).new (.cells [.int .i64 x] true)) := ((Quiet.refl _).new _).new _
  have lo2 : Low ((h.new (.cells [.int .u8 (b : Int)] true)).new (.cells [.int .i64 x] true)) := (hl.new _).new _
  have ga : ((h.new (.cells [.int .u8 (b : Int)] true)).new (.cells [.int .i64 x] true)).get h.next = some (.cells [.int .u8 (b : Int)] true) := by rw [AH.get_new, if_neg (by rw [next_new]; omega), get_new_same]
  have gb : ((h.new (.cells [.int .u8 (b : Int)] true)).new (.cells [.int .i64 x] true)).get (h.next + 1) = some (.cells [.int .i64 x] true) := get_new_same
  have n2 : ((h.new (.cells [.int .u8 (b : Int)] true)).new (.cells [.int .i64 x] true)).next = h.next + 2 := rfl
  generalize ((h.new (.cells [.int .u8 (b : Int)] true)).new (.cells [.int .i64 x] true)) = h2 at *
  obtain ⟨kv', h3, e3, r3, o3, l3, on3, lo3⟩ := row1_append lo2 (row_quiet rk hl q2) (bytes := 1) (by decide) (by decide) (by simp [kcells]; omega) ga rfl
  have old3 : ∀ o, o < h2.next → o ∉ objs kv → h3.get o = h2.get o := fun o ho hn => on3.2 o ho hn
  have n3 := on3.1
  have gb3 : h3.get (h.next + 1) = some (.cells [.int .i64 x] true) := (old3 _ (by omega) fun hm => by have := lk _ hm; omega).trans gb
  have ri3 : Row1 h3 iv (icells xs) := RowS.keep ri fun o ho => (old3 o (by have := li o ho; omega) fun hm => hd o hm ho).trans (q2.2 o (li o ho) id)
  obtain ⟨iv', h4, e4, r4, o4, l4, on4, lo4⟩ := row1_append lo3 ri3 (bytes := 8) (by decide) (by decide) (by simp [icells]; omega) gb3 rfl
  have old4 : ∀ o, o < h3.next → o ∉ objs iv → h4.get o = h3.get o := fun o ho hn => on4.2 o ho hn
  have n4 := on4.1
  have kvi : ∀ o ∈ objs kv', o ∉ objs iv := fun o ho hm => by
    rcases o3 o ho with h5 | h5
    · exact hd o h5 hm
    · have := li o hm; omega
  refine ⟨kv', h3, iv', h4, e3, gb3, ?_, fun o ho hn => (old3 o (by omega) hn).trans (q2.2 o ho id), e4, ?_, ?_, ?_, ?_, ?_, ?_, fun o ho => ?_, fun o ho => ?_, lo4, fun o ho h5 h6 => ?_, by omega⟩
  · exact (old3 po (by omega) hk).trans ((q2.2 po hpo id).trans gp)
  · exact (old4 po (by omega) hi).trans ((old3 po (by omega) hk).trans ((q2.2 po hpo id).trans gp))
  · have : Row1 h4 kv' (kcells ks ++ [.int .u8 (b : Int)]) := RowS.keep r3 fun o ho => old4 o (l3 o ho) (kvi o ho)
    simpa [kcells] using this
  · simpa [icells] using r4
  · intro hm
    rcases o3 _ hm with h5 | h5
    · exact hk h5
    · omega
  · intro hm
    rcases o4 _ hm with h5 | h5
    · exact hi h5
    · omega
  · intro o ho hm
    rcases o4 o hm with h5 | h5
    · exact kvi o ho h5
    · have := l3 o ho; omega
  · rcases o3 o ho with h5 | h5
    · exact .inl h5
    · exact .inr (by omega)
  · rcases o4 o ho with h5 | h5
    · exact .inl h5
    · exact .inr (by omega)
  · exact (old4 o (by omega) h6).trans ((old3 o (by omega) h5).trans (q2.2 o ho id))
end Go.Proofs.Ytpabmkicdcilpaa

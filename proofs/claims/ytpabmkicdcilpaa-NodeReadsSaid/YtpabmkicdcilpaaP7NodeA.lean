/- Refs and their parts. -/
import Derived.Test.YtpabmkicdcilpaaP7A
import Derived.Test.YtpabmkicdcilpaaVmZn
namespace Go.Proofs.Ytpabmkicdcilpaa
open Go.Vm
set_option linter.unusedSimpArgs false
set_option linter.unusedVariables false
set_option maxRecDepth 100000
variable {T : Vm.Prog} {h : AH}
/-! ### refs -/
def refN (s g : Nat) (l : Bool) : Nat := g * 65536 + s + if l then 281474976710656 else 0
def Valid (s g : Nat) : Prop := s < 1024 ∧ 1 ≤ g ∧ g ≤ 1073741824
theorem ref_ok (k : Fits T) {s g : Nat} {l : Bool} (hv : Valid s g) : Gives T 21 [.int .i64 (s : Int), .int .i64 (g : Int), .bool l] h fun r h' => r = .int .i64 (refN s g l : Nat) ∧ h' = h := by
  obtain ⟨h1, h2, h3⟩ := hv
  refine gives_func (k.env _ (by decide)) (k.at (fn := a21) rfl) rfl ?_
  have d1 : decide ((s : Int) < 0) = false := by rw [decide_eq_false_iff_not]; omega
  have d2 : decide ((s : Int) ≥ 1024) = false := by rw [decide_eq_false_iff_not]; omega
  have d3 : decide ((g : Int) < 1) = false := by rw [decide_eq_false_iff_not]; omega
  have d4 : decide ((g : Int) > 1073741824) = false := by rw [decide_eq_false_iff_not]; omega
  have eo := bin_or_i64 (a := g * 65536) (b := s) (by omega) (by omega)
  rw [or_low (by omega)] at eo
  have el := bin_or_i64 (a := g * 65536 + s) (b := 281474976710656) (by omega) (by omega)
  rw [or_leaf (by omega)] at el
  have el' : binV .or (.int .i64 ((g * 65536 + s : Nat) : Int)) (.int .i64 281474976710656) = some (.int .i64 ((g * 65536 + s + 281474976710656 : Nat) : Int)) := el
  cases l
  · simp only [a21, c21, vms, vmc, AOpd.val, Nat.reduceEqDiff, reduceCtorEq, Nat.reduceAdd, Nat.reduceBEq, d1, d2, d3, d4, bin_shl16 h3, eo]
    exact ⟨by simp [refN], trivial⟩
  · simp only [a21, c21, vms, vmc, AOpd.val, Nat.reduceEqDiff, reduceCtorEq, Nat.reduceAdd, Nat.reduceBEq, d1, d2, d3, d4, bin_shl16 h3, eo, el']
    exact ⟨by simp [refN], trivial⟩
theorem ref_no (k : Fits T) {s g : Nat} {l : Bool} (hv : ¬ Valid s g) : Gives T 21 [.int .i64 (s : Int), .int .i64 (g : Int), .bool l] h fun r h' => r = .int .i64 0 ∧ h' = h := by
  refine gives_func (k.env _ (by decide)) (k.at (fn := a21) rfl) rfl ?_
  have d1 : decide ((s : Int) < 0) = false := by rw [decide_eq_false_iff_not]; omega
  by_cases h1 : s < 1024
  · have d2 : decide ((s : Int) ≥ 1024) = false := by rw [decide_eq_false_iff_not]; omega
    by_cases h2 : 1 ≤ g
    · have d3 : decide ((g : Int) < 1) = false := by rw [decide_eq_false_iff_not]; omega
      have h3 : ¬ g ≤ 1073741824 := fun h3 => hv ⟨h1, h2, h3⟩
      have d4 : decide ((g : Int) > 1073741824) = true := by rw [decide_eq_true_eq]; omega
      simp only [a21, c21, vms, vmc, AOpd.val, Nat.reduceEqDiff, reduceCtorEq, Nat.reduceAdd, Nat.reduceBEq, d1, d2, d3, d4]; exact ⟨trivial, trivial⟩
    · have d3 : decide ((g : Int) < 1) = true := by rw [decide_eq_true_eq]; omega
      simp only [a21, c21, vms, vmc, AOpd.val, Nat.reduceEqDiff, reduceCtorEq, Nat.reduceAdd, Nat.reduceBEq, d1, d2, d3]; exact ⟨trivial, trivial⟩
  · have d2 : decide ((s : Int) ≥ 1024) = true := by rw [decide_eq_true_eq]; omega
    simp only [a21, c21, vms, vmc, AOpd.val, Nat.reduceEqDiff, reduceCtorEq, Nat.reduceAdd, Nat.reduceBEq, d1, d2]; exact ⟨trivial, trivial⟩
theorem refN_lt {s g : Nat} {l : Bool} (hv : Valid s g) : refN s g l < 562949953421312 ∧ 0 < refN s g l := by
  obtain ⟨h1, h2, h3⟩ := hv
  unfold refN
  cases l <;> simp <;> omega
theorem refN_slot {s g : Nat} {l : Bool} (hv : Valid s g) : refN s g l &&& 65535 = s := by
  obtain ⟨h1, h2, h3⟩ := hv
  rw [show (65535 : Nat) = 2 ^ 16 - 1 from rfl, Nat.and_two_pow_sub_one_eq_mod]
  unfold refN
  cases l <;> simp <;> omega
theorem refN_gen {s g : Nat} {l : Bool} (hv : Valid s g) : refN s g l / 65536 &&& 4294967295 = g := by
  obtain ⟨h1, h2, h3⟩ := hv
  rw [show (4294967295 : Nat) = 2 ^ 32 - 1 from rfl, Nat.and_two_pow_sub_one_eq_mod]
  unfold refN
  cases l <;> simp <;> omega
theorem refN_leaf {s g : Nat} {l : Bool} (hv : Valid s g) : ((refN s g l &&& 281474976710656 : Nat) != 0) = l := by
  obtain ⟨h1, h2, h3⟩ := hv
  rw [and_pow48, Nat.testBit_eq_decide_div_mod_eq]
  unfold refN
  cases l
  · simp; omega
  · simp; omega
/-- A ref's parts. -/
theorem parts_ok (k : Fits T) (ref : Int) : Gives T 79 [.int .i64 ref] h fun r h' => h' = h ∧
    ((∃ s g l, Valid s g ∧ ref = (refN s g l : Nat) ∧ r = .tuple [.int .i64 (s : Nat), .int .i64 (g : Nat), .bool l, .bool true]) ∨
     ((∀ s g l, Valid s g → ref ≠ (refN s g l : Nat)) ∧ r = .tuple [.int .i64 0, .int .i64 0, .bool false, .bool false])) := by
  refine gives_func (k.env _ (by decide)) (k.at (fn := a79) rfl) rfl ?_
  obtain ⟨s, hs1, hs2, hs3⟩ := bin_and_i64 ref (c := 65535) (by omega)
  have hs2' : binV .and (.int .i64 ref) (.int .i64 65535) = some (.int .i64 (s : Int)) := hs2
  obtain ⟨g, hg1, hg2, hg3⟩ := bin_and_i64 (ref.fdiv 65536) (c := 4294967295) (by omega)
  have hg2' : binV .and (.int .i64 (ref.fdiv 65536)) (.int .i64 4294967295) = some (.int .i64 (g : Int)) := hg2
  obtain ⟨lf, hl1, hl2, hl3⟩ := bin_and_i64 ref (c := 281474976710656) (by omega)
  have hl2' : binV .and (.int .i64 ref) (.int .i64 281474976710656) = some (.int .i64 (lf : Int)) := hl2
  have hshr : binV .shr (.int .i64 ref) (.int .u64 16) = some (.int .i64 (ref.fdiv 65536)) := by
    show intShift .shr .i64 ref 16 = _
    unfold intShift
    rw [if_neg (by decide)]
    rfl
  have hback : ∀ s' g' l', Valid s' g' → ref = (refN s' g' l' : Nat) → s' = s ∧ g' = g ∧ l' = ((lf : Int) != 0) := by
    intro s' g' l' hv e
    have hlt := refN_lt (l := l') hv
    have e1 := hs3 _ (by omega) e
    have e2 := hg3 (refN s' g' l' / 65536) (by omega) (by rw [e, Int.fdiv_eq_ediv_of_nonneg _ (by omega)]; rfl)
    have e3 := hl3 _ (by omega) e
    rw [refN_slot hv] at e1
    rw [refN_gen hv] at e2
    refine ⟨e1.symm, e2.symm, ?_⟩
    rw [e3]
    refine (refN_leaf (l := l') hv).symm.trans ?_
    rw [Bool.eq_iff_iff]
    simp only [bne_iff_ne, ne_eq]
    omega
  simp only [a79, c79, vms, vmc, AOpd.val, Nat.reduceEqDiff, reduceCtorEq, Nat.reduceAdd, Nat.reduceBEq, hs2', hg2', hl2', hshr]
  by_cases hz : ref = 0
  · have d : (ref == 0) = true := by simpa using hz
    simp only [d, vms, vmc, AOpd.val, Nat.reduceEqDiff, reduceCtorEq, Nat.reduceAdd, Nat.reduceBEq]
    refine ⟨trivial, .inr ⟨fun s' g' l' hv e => ?_, trivial⟩⟩
    have := refN_lt (l := l') hv
    omega
  have d : (ref == 0) = false := by simpa using hz
  simp only [d, vms, vmc, AOpd.val, Nat.reduceEqDiff, reduceCtorEq, Nat.reduceAdd, Nat.reduceBEq]
  by_cases hv : Valid s g
  · refine Gives.bind ((ref_ok k (l := ((lf : Int) != 0)) hv).mono ?_)
    rintro _ _ ⟨rfl, rfl⟩
    by_cases he : ((refN s g ((lf : Int) != 0) : Nat) : Int) = ref
    · have d2 : (((refN s g ((lf : Int) != 0) : Nat) : Int) != ref) = false := by rw [he]; simp
      simp only [d2, vms, vmc, AOpd.val, Nat.reduceEqDiff, reduceCtorEq, Nat.reduceAdd, Nat.reduceBEq]
      exact ⟨trivial, .inl ⟨s, g, _, hv, he.symm, rfl⟩⟩
    · have d2 : (((refN s g ((lf : Int) != 0) : Nat) : Int) != ref) = true := by simpa using he
      simp only [d2, vms, vmc, AOpd.val, Nat.reduceEqDiff, reduceCtorEq, Nat.reduceAdd, Nat.reduceBEq]
      refine ⟨trivial, .inr ⟨fun s' g' l' hv' e => he ?_, trivial⟩⟩
      obtain ⟨rfl, rfl, rfl⟩ := hback s' g' l' hv' e
      exact e.symm
  · refine Gives.bind ((ref_no k (l := ((lf : Int) != 0)) hv).mono ?_)
    rintro _ _ ⟨rfl, rfl⟩
    have d2 : ((0 : Int) != ref) = true := by simp; omega
    simp only [d2, vms, vmc, AOpd.val, Nat.reduceEqDiff, reduceCtorEq, Nat.reduceAdd, Nat.reduceBEq]
    refine ⟨trivial, .inr ⟨fun s' g' l' hv' e => hv ?_, trivial⟩⟩
    obtain ⟨rfl, rfl, rfl⟩ := hback s' g' l' hv' e
    exact hv'
/-- Is it one? -/
def IsRef (x : Int) : Prop := ∃ s g l, Valid s g ∧ x = (refN s g l : Nat)
open Classical in
noncomputable def isRefP (x : Int) : Bool := decide (IsRef x)
theorem isRefP_iff {x : Int} : isRefP x = true ↔ IsRef x := by unfold isRefP; simp
theorem isRefP_ref {s g : Nat} {l : Bool} (hv : Valid s g) : isRefP (refN s g l : Nat) = true := isRefP_iff.2 ⟨s, g, l, hv, rfl⟩
theorem isRef_ok (k : Fits T) {x : Int} : Gives T 56 [.int .i64 x] h fun r h' => r = .bool (isRefP x) ∧ h' = h := by
  refine gives_func (k.env _ (by decide)) (k.at (fn := a56) rfl) rfl ?_
  have e3 : ∀ a b c d, extractV 3 (.tuple [a, b, c, d]) = some d := fun _ _ _ _ => rfl
  simp only [a56, c56, vms, vmc, AOpd.val, Nat.reduceEqDiff, reduceCtorEq, Nat.reduceAdd, Nat.reduceBEq]
  refine Gives.bind ((parts_ok k x).mono ?_)
  rintro r _ ⟨rfl, ⟨s, g, l, hv, rfl, rfl⟩ | ⟨hn, rfl⟩⟩
  · simp only [vms, vmc, AOpd.val, Nat.reduceEqDiff, reduceCtorEq, Nat.reduceAdd, Nat.reduceBEq, e3, isRefP_ref hv]; exact ⟨trivial, trivial⟩
  · have : isRefP x = false := by
      cases hb : isRefP x with
      | false => rfl
      | true => obtain ⟨s, g, l, hv, e⟩ := isRefP_iff.1 hb; exact absurd e (hn s g l hv)
    simp only [vms, vmc, AOpd.val, Nat.reduceEqDiff, reduceCtorEq, Nat.reduceAdd, Nat.reduceBEq, e3, this]; exact ⟨trivial, trivial⟩
end Go.Proofs.Ytpabmkicdcilpaa
/- Nodes; which are right. -/
namespace Go.Proofs.Ytpabmkicdcilpaa
open Go.Vm
set_option linter.unusedSimpArgs false
set_option linter.unusedVariables false
set_option maxRecDepth 100000
variable {T : Vm.Prog} {h : AH}
theorem and_u64 {a b : Nat} (ha : a < 18446744073709551616) (hb : b < 18446744073709551616) : binV .and (.int .u64 (a : Int)) (.int .u64 (b : Int)) = some (.int .u64 ((a &&& b : Nat) : Int)) := by
  have hab : a &&& b < 18446744073709551616 := Nat.lt_of_le_of_lt Nat.and_le_left ha
  show some (AV.int .u64 (IntKind.u64.wrap ((BitVec.ofInt 64 (a : Int) &&& BitVec.ofInt 64 (b : Int)).toNat : Int))) = _
  rw [BitVec.toNat_and, BitVec.ofInt_natCast, BitVec.ofInt_natCast, BitVec.toNat_ofNat, BitVec.toNat_ofNat, Nat.mod_eq_of_lt (show a < 2 ^ 64 by omega), Nat.mod_eq_of_lt (show b < 2 ^ 64 by omega), wrap_u64 hab]
/-- A node. -/
structure NodeP where
  kind : Int
  word : Nat
  pre : List UInt8
  keys : List Nat
  kids : List Int
structure NodeP.Ok (n : NodeP) : Prop where
  word : n.word < 18446744073709551616
  keys : n.keys.length < 1000000
  kids : n.kids.length < 1000000
  pre : n.pre.length < 9223372036854775808
def kcells (l : List Nat) : List AV := l.map fun (b : Nat) => AV.int .u8 (b : Int)
def icells (l : List Int) : List AV := l.map (.int .i64)
def NodeP.cells (n : NodeP) (kv iv : AV) : List AV := [.int .i64 n.kind, .int .u64 (n.word : Int), .str n.pre, kv, iv]
/-- A value shows a node. -/
def NodeV (h : AH) (v : AV) (n : NodeP) : Prop := ∃ kv iv, v = .agg (n.cells kv iv) ∧ Sees h kv (kcells n.keys) ∧ Sees h iv (icells n.kids)
theorem sees_keep {h' : AH} {v : AV} {xs : List AV} (s : Sees h v xs) (hl : Low h) (q : Quiet h h') : Sees h' v xs := by
  exact ((Sees.res s hl).quiet q).holds
theorem NodeV.keep {h' : AH} {v : AV} {n : NodeP} (s : NodeV h v n) (hl : Low h) (q : Quiet h h') : NodeV h' v n := by
  obtain ⟨kv, iv, rfl, s1, s2⟩ := s
  exact ⟨kv, iv, rfl, sees_keep s1 hl q, sees_keep s2 hl q⟩
theorem sees_beq {v : AV} {xs : List AV} (s : Sees h v xs) : AV.beq v v = true := by
  rcases s with ⟨rfl, _⟩ | ⟨o, off, cap, ex, l, rw, rfl, _⟩ <;> simp [AV.beq]
theorem sees_cell {v : AV} {xs : List AV} (s : Sees h v xs) : v.cells = [v] ∧ v.flat = true := by
  rcases s with ⟨rfl, _⟩ | ⟨o, off, cap, ex, l, rw, rfl, _⟩ <;> exact ⟨rfl, rfl⟩
/-- May a node be? -/
structure RightP (n : NodeP) : Prop where
  kind : highP n.kind ≠ 0
  word : ¬ (n.word &&& 2 ≠ 0 ∧ n.word &&& 1 ≠ 0)
  pre : n.pre.length ≤ 12
  same : n.keys.length = n.kids.length
  few : n.keys.length ≤ highP n.kind
  refs : ∀ (i : Nat) (x : Int), n.kids[i]? = some x → isRefP x = true
  rise : ∀ (i : Nat) (a b : Nat), n.keys[i]? = some a → n.keys[i + 1]? = some b → a < b
open Classical in
noncomputable def rightP (n : NodeP) : Bool := decide (RightP n)
theorem rightP_iff {n : NodeP} : rightP n = true ↔ RightP n := by unfold rightP; simp
theorem rightP_no {n : NodeP} (hn : ¬ RightP n) : rightP n = false := by
  cases hb : rightP n with
  | false => rfl
  | true => exact absurd (rightP_iff.1 hb) hn
theorem dead_ok (k : Fits T) {w : Nat} (hw : w < 18446744073709551616) : Gives T 65 [.int .u64 (w : Int)] h fun r h' => r = .bool ((w &&& 2 : Nat) != 0) ∧ h' = h := by
  refine gives_func (k.env _ (by decide)) (k.at (fn := a65) rfl) rfl ?_
  have e := and_u64 hw (b := 2) (by decide)
  have e' : binV .and (.int .u64 (w : Int)) (.int .u64 2) = some (.int .u64 ((w &&& 2 : Nat) : Int)) := e
  have e2 : ((((w &&& 2 : Nat) : Int)) != 0) = ((w &&& 2 : Nat) != 0) := by
    rw [Bool.eq_iff_iff]; simp only [bne_iff_ne, ne_eq]; omega
  simp only [a65, c65, vms, vmc, AOpd.val, Nat.reduceEqDiff, reduceCtorEq, Nat.reduceAdd, Nat.reduceBEq, e', e2]
  exact ⟨trivial, trivial⟩
theorem right_loop (k : Fits T) {n : NodeP} (ok : n.Ok) {f : Fr} {p : Nat} {kv iv : AV} (hg : h.get p = some (.cells (n.cells kv iv) true)) (s1 : Sees h kv (kcells n.keys)) (s2 : Sees h iv (icells n.kids)) (hsame : n.keys.length = n.kids.length)
    (f1 : f.at 1 = .ptr p 0) (f45 : f.at 45 = iv) (f46 : f.at 46 = .int .i64 (n.kids.length : Int)) (f47 : f.at 47 = .int .i64 0) {Q : AExit → Fr → AH → Prop}
    (hyes : ((∀ (i : Nat) (x : Int), n.kids[i]? = some x → isRefP x = true) ∧ ∀ (i : Nat) (a b : Nat), n.keys[i]? = some a → n.keys[i + 1]? = some b → a < b) → ∀ f', Q (.exit 0) f' h)
    (hno : ¬ ((∀ (i : Nat) (x : Int), n.kids[i]? = some x → isRefP x = true) ∧ ∀ (i : Nat) (a b : Nat), n.keys[i]? = some a → n.keys[i + 1]? = some b → a < b) → ∀ f', f'.at 2 = .bool false → Q .ret f' h) :
    Wp (code T (.loop c24l0) f h) Q := by
  have fa : ∀ o j, fieldAddrV j (.ptr o 0) = some (.ptr o (0 + j)) := fun o j => rfl
  have hkl := ok.kids
  have hc3 : (n.cells kv iv)[3]? = some kv := rfl
  refine wpc_loop (fun d f' h' => h' = h ∧ ∃ j, d = n.kids.length - j ∧ j ≤ n.kids.length ∧ f'.at 1 = .ptr p 0 ∧ f'.at 45 = iv ∧ f'.at 46 = .int .i64 (n.kids.length : Int) ∧ f'.at 47 = .int .i64 (j : Nat) ∧ (∀ (i : Nat) (x : Int), i < j → n.kids[i]? = some x → isRefP x = true) ∧ ∀ (i a b : Nat), i + 1 < j → n.keys[i]? = some a → n.keys[i + 1]? = some b → a < b) ?_ n.kids.length _ _ ⟨rfl, 0, rfl, Nat.zero_le _, f1, f45, f46, f47, fun i x hi => by omega, fun i a b hi => by omega⟩
  rintro _ f' _ ⟨rfl, j, rfl, hj, g1, g45, g46, g47, hr, hs⟩
  by_cases hlt : j < n.kids.length
  · have hd : decide ((j : Int) < (n.kids.length : Int)) = true := by rw [decide_eq_true_eq]; omega
    obtain ⟨x, hx⟩ : ∃ x, n.kids[j]? = some x := ⟨_, List.getElem?_eq_getElem hlt⟩
    obtain ⟨y, hy⟩ : ∃ y, n.keys[j]? = some y := ⟨_, List.getElem?_eq_getElem (by omega)⟩
    obtain ⟨a1, i1, l1⟩ := s2.at (i := j) (x := .int .i64 x) (by simp [icells, hx]) .i64
    obtain ⟨a2, i2, l2⟩ := s1.at (i := j) (x := .int .u8 (y : Int)) (by simp [kcells, hy]) .i64
    have w1 : IntKind.i64.wrap ((j : Int) + 1) = ((j + 1 : Nat) : Int) := by rw [wrap_i64 (by omega) (by omega)]; omega
    simp only [c24l0, vms, vmc, AOpd.val, Nat.reduceEqDiff, reduceCtorEq, Nat.reduceAdd, Nat.reduceBEq, g1, g45, g46, g47, hd, i1, l1]
    refine Gives.bind ((isRef_ok k).mono ?_)
    rintro _ _ ⟨rfl, rfl⟩
    by_cases hx' : isRefP x = true
    · by_cases h0 : j = 0
      · subst h0
        simp only [vms, vmc, AOpd.val, Nat.reduceEqDiff, reduceCtorEq, Nat.reduceAdd, Nat.reduceBEq, g1, g45, g46, g47, hx', Bool.not_true, show decide (((0 : Nat) : Int) > 0) = false from rfl, w1]
        refine ⟨n.kids.length - 1, by omega, trivial, 1, rfl, by omega, ?_, ?_, ?_, ?_, fun i x' hi hx2 => ?_, fun i a b hi => by omega⟩
        · simp only [vms, vmc, AOpd.val, Nat.reduceEqDiff, reduceCtorEq, Nat.reduceAdd, Nat.reduceBEq, g1]
        · simp only [vms, vmc, AOpd.val, Nat.reduceEqDiff, reduceCtorEq, Nat.reduceAdd, Nat.reduceBEq, g45]
        · simp only [vms, vmc, AOpd.val, Nat.reduceEqDiff, reduceCtorEq, Nat.reduceAdd, Nat.reduceBEq, g46]
        · simp only [vms, vmc, AOpd.val, Nat.reduceEqDiff, reduceCtorEq, Nat.reduceAdd, Nat.reduceBEq]
        · have : i = 0 := by omega
          subst this; rw [hx] at hx2; cases hx2; exact hx'
      · have h0d : decide ((j : Int) > 0) = true := by rw [decide_eq_true_eq]; omega
        obtain ⟨z, hz⟩ : ∃ z, n.keys[j - 1]? = some z := ⟨_, List.getElem?_eq_getElem (by omega)⟩
        obtain ⟨a3, i3, l3⟩ := s1.at (i := j - 1) (x := .int .u8 (z : Int)) (by simp [kcells, hz]) .i64
        have w2 : IntKind.i64.wrap ((j : Int) - 1) = ((j - 1 : Nat) : Int) := by rw [wrap_i64 (by omega) (by omega)]; omega
        simp only [vms, vmc, AOpd.val, Nat.reduceEqDiff, reduceCtorEq, Nat.reduceAdd, Nat.reduceBEq, g1, g45, g46, g47, hx', Bool.not_true, h0d, w1, w2, fa, Nat.zero_add, load_at hg hc3, i2, l2, i3, l3]
        by_cases hle : (y : Int) ≤ (z : Int)
        · simp only [vms, vmc, AOpd.val, Nat.reduceEqDiff, reduceCtorEq, Nat.reduceAdd, Nat.reduceBEq, decide_eq_true hle]
          refine hno (fun ⟨_, h2⟩ => ?_) _ (by simp only [vms, vmc, AOpd.val, Nat.reduceEqDiff, reduceCtorEq, Nat.reduceAdd, Nat.reduceBEq])
          have := h2 (j - 1) z y hz (by rw [show j - 1 + 1 = j by omega]; exact hy)
          omega
        · simp only [vms, vmc, AOpd.val, Nat.reduceEqDiff, reduceCtorEq, Nat.reduceAdd, Nat.reduceBEq, decide_eq_false hle, g1, g45, g46, g47, w1]
          refine ⟨n.kids.length - (j + 1), by omega, trivial, j + 1, rfl, by omega, ?_, ?_, ?_, ?_, fun i x' hi hx2 => ?_, fun i a b hi ha hb => ?_⟩
          · simp only [vms, vmc, AOpd.val, Nat.reduceEqDiff, reduceCtorEq, Nat.reduceAdd, Nat.reduceBEq, g1]
          · simp only [vms, vmc, AOpd.val, Nat.reduceEqDiff, reduceCtorEq, Nat.reduceAdd, Nat.reduceBEq, g45]
          · simp only [vms, vmc, AOpd.val, Nat.reduceEqDiff, reduceCtorEq, Nat.reduceAdd, Nat.reduceBEq, g46]
          · simp only [vms, vmc, AOpd.val, Nat.reduceEqDiff, reduceCtorEq, Nat.reduceAdd, Nat.reduceBEq]
          · by_cases hij : i = j
            · subst hij; rw [hx] at hx2; cases hx2; exact hx'
            · exact hr i x' (by omega) hx2
          · by_cases hij : i + 1 = j
            · subst hij
              rw [hy] at hb; cases hb
              have : i + 1 - 1 = i := by omega
              rw [this, ha] at hz; cases hz
              omega
            · exact hs i a b (by omega) ha hb
    · have hx2 : isRefP x = false := by simpa using hx'
      simp only [vms, vmc, AOpd.val, Nat.reduceEqDiff, reduceCtorEq, Nat.reduceAdd, Nat.reduceBEq, hx2, Bool.not_false]
      refine hno (fun ⟨h1, _⟩ => hx' (h1 j x hx)) _ (by simp only [vms, vmc, AOpd.val, Nat.reduceEqDiff, reduceCtorEq, Nat.reduceAdd, Nat.reduceBEq])
  · have hd : decide ((j : Int) < (n.kids.length : Int)) = false := by rw [decide_eq_false_iff_not]; omega
    simp only [c24l0, vms, vmc, AOpd.val, Nat.reduceEqDiff, reduceCtorEq, Nat.reduceAdd, Nat.reduceBEq, g1, g45, g46, g47, hd]
    refine hyes ⟨fun i x hx => ?_, fun i a b ha hb => ?_⟩ _
    · have := (List.getElem?_eq_some_iff.1 hx).1
      exact hr i x (by omega) hx
    · have := (List.getElem?_eq_some_iff.1 hb).1
      exact hs i a b (by omega) ha hb
theorem right_ok (k : Fits T) (hl : Low h) {v : AV} {n : NodeP} (ok : n.Ok) (s : NodeV h v n) : Gives T 24 [v] h fun r h' => r = .bool (rightP n) ∧ Quiet h h' ∧ Low h' := by
  obtain ⟨kv, iv, rfl, s1, s2⟩ := s
  refine gives_func (k.env _ (by decide)) (k.at (fn := a24) rfl) rfl ?_
  have fa : ∀ o j, fieldAddrV j (.ptr o 0) = some (.ptr o (0 + j)) := fun o j => rfl
  have q1 : Quiet h (h.new (.cells (n.cells kv iv) true)) := (Quiet.refl _).new _
  have lo1 : Low (h.new (.cells (n.cells kv iv) true)) := hl.new _
  have hg : (h.new (.cells (n.cells kv iv) true)).get h.next = some (.cells (n.cells kv iv) true) := get_new_same
  have t1 := sees_keep s1 hl q1
  have t2 := sees_keep s2 hl q1
  simp only [a24, c24, vms, vmc, AOpd.val, Nat.reduceEqDiff, reduceCtorEq, Nat.reduceAdd, Nat.reduceBEq, box_agg]
  generalize (h.new (.cells (n.cells kv iv) true)) = h1 at *
  have l0 := load_at hg (i := 0) (v := .int .i64 n.kind) rfl
  have l1 := load_at hg (i := 1) (v := .int .u64 (n.word : Int)) rfl
  have l2 := load_at hg (i := 2) (v := .str n.pre) rfl
  have l3 := load_at hg (i := 3) (v := kv) rfl
  have l4 := load_at hg (i := 4) (v := iv) rfl
  have n1 : lenOfV kv = some n.keys.length := by simpa [kcells] using t1.len
  have n2 : lenOfV iv = some n.kids.length := by simpa [icells] using t2.len
  have beqk : AV.beq kv kv = true := sees_beq t1
  simp only [vms, vmc, AOpd.val, Nat.reduceEqDiff, reduceCtorEq, Nat.reduceAdd, Nat.reduceBEq, fa, Nat.zero_add, l0]
  refine Gives.bind ((high_ok k).mono ?_)
  rintro _ _ ⟨rfl, rfl⟩
  rename_i h1
  -- the end of each way
  have out : ∀ {f : Fr}, f.at 2 = .bool false → ¬ RightP n → Vm.Ends [.tmp 2] (fun r h' => r = .bool (rightP n) ∧ Quiet h h' ∧ Low h') .ret f h1 := by
    intro f f2 hn
    simp only [vms, vmc, AOpd.val, Nat.reduceEqDiff, reduceCtorEq, Nat.reduceAdd, Nat.reduceBEq, f2, rightP_no hn]
    exact ⟨trivial, q1, lo1⟩
  by_cases e1 : highP n.kind = 0
  · have d1 : (((highP n.kind : Nat) : Int) == 0) = true := by rw [e1]; rfl
    simp only [items_test, vms, vmc, AOpd.val, Nat.reduceEqDiff, reduceCtorEq, Nat.reduceAdd, Nat.reduceBEq, d1]
    rw [items_look (look_skip (by simp only [vms, vmc, AOpd.val, Nat.reduceEqDiff, reduceCtorEq, Nat.reduceAdd, Nat.reduceBEq, Bool.not_false]) (by simp only [vms, vmc, AOpd.val, Nat.reduceEqDiff, reduceCtorEq, Nat.reduceAdd, Nat.reduceBEq]))]
    simp only [vms, vmc, AOpd.val, Nat.reduceEqDiff, reduceCtorEq, Nat.reduceAdd, Nat.reduceBEq, rightP_no (fun h : RightP n => h.kind e1)]
    exact ⟨trivial, q1, lo1⟩
  have d1 : (((highP n.kind : Nat) : Int) == 0) = false := by rw [beq_eq_false_iff_ne]; omega
  simp only [items_test, vms, vmc, AOpd.val, Nat.reduceEqDiff, reduceCtorEq, Nat.reduceAdd, Nat.reduceBEq, d1, fa, Nat.zero_add, l1]
  refine Gives.bind ((dead_ok k ok.word).mono ?_)
  rintro _ _ ⟨rfl, rfl⟩
  rename_i h1
  have a1 := and_u64 ok.word (b := 1) (by decide)
  have a1' : binV .and (.int .u64 (n.word : Int)) (.int .u64 1) = some (.int .u64 ((n.word &&& 1 : Nat) : Int)) := a1
  by_cases e2 : n.word &&& 2 ≠ 0 ∧ n.word &&& 1 ≠ 0
  · have d2 : ((n.word &&& 2 : Nat) != 0) = true := by simpa using e2.1
    have d3 : (((n.word &&& 1 : Nat) : Int) != 0) = true := by have := e2.2; simp only [bne_iff_ne, ne_eq]; omega
    simp only [items_test, vms, vmc, AOpd.val, Nat.reduceEqDiff, reduceCtorEq, Nat.reduceAdd, Nat.reduceBEq, d2, d3, fa, Nat.zero_add, l1, a1']
    rw [items_look (look_skip (by simp only [vms, vmc, AOpd.val, Nat.reduceEqDiff, reduceCtorEq, Nat.reduceAdd, Nat.reduceBEq, Bool.not_false]) (by simp only [vms, vmc, AOpd.val, Nat.reduceEqDiff, reduceCtorEq, Nat.reduceAdd, Nat.reduceBEq]))]
    simp only [vms, vmc, AOpd.val, Nat.reduceEqDiff, reduceCtorEq, Nat.reduceAdd, Nat.reduceBEq, rightP_no (fun h : RightP n => h.word e2)]
    exact ⟨trivial, q1, lo1⟩
  have e2' : n.word &&& 2 = 0 ∨ (n.word &&& 2 ≠ 0 ∧ n.word &&& 1 = 0) := by
    by_cases h2 : n.word &&& 2 = 0
    · exact .inl h2
    · refine .inr ⟨h2, ?_⟩
      by_cases h1 : n.word &&& 1 = 0
      · exact h1
      · exact absurd ⟨h2, h1⟩ e2
  by_cases e3' : ¬ (n.pre.length ≤ 12)
  · have e3 := e3'
    have d4 : decide ((n.pre.length : Int) > 12) = true := by rw [decide_eq_true_eq]; omega
    rcases e2' with e | ⟨e, e'⟩
    · have d2 : ((n.word &&& 2 : Nat) != 0) = false := by rw [e]; rfl
      simp only [items_test, vms, vmc, AOpd.val, Nat.reduceEqDiff, reduceCtorEq, Nat.reduceAdd, Nat.reduceBEq, d2, fa, Nat.zero_add, l1, a1', l2, d4]
      rw [items_look (look_skip (by simp only [vms, vmc, AOpd.val, Nat.reduceEqDiff, reduceCtorEq, Nat.reduceAdd, Nat.reduceBEq, Bool.not_false]) (by simp only [vms, vmc, AOpd.val, Nat.reduceEqDiff, reduceCtorEq, Nat.reduceAdd, Nat.reduceBEq]))]
      simp only [vms, vmc, AOpd.val, Nat.reduceEqDiff, reduceCtorEq, Nat.reduceAdd, Nat.reduceBEq, rightP_no (fun h : RightP n => e3 h.pre)]
      exact ⟨trivial, q1, lo1⟩
    · have d2 : ((n.word &&& 2 : Nat) != 0) = true := by simpa using e
      have d3 : (((n.word &&& 1 : Nat) : Int) != 0) = false := by rw [e']; rfl
      simp only [items_test, vms, vmc, AOpd.val, Nat.reduceEqDiff, reduceCtorEq, Nat.reduceAdd, Nat.reduceBEq, d2, d3, fa, Nat.zero_add, l1, a1', l2, d4]
      rw [items_look (look_skip (by simp only [vms, vmc, AOpd.val, Nat.reduceEqDiff, reduceCtorEq, Nat.reduceAdd, Nat.reduceBEq, Bool.not_false]) (by simp only [vms, vmc, AOpd.val, Nat.reduceEqDiff, reduceCtorEq, Nat.reduceAdd, Nat.reduceBEq]))]
      simp only [vms, vmc, AOpd.val, Nat.reduceEqDiff, reduceCtorEq, Nat.reduceAdd, Nat.reduceBEq, rightP_no (fun h : RightP n => e3 h.pre)]
      exact ⟨trivial, q1, lo1⟩
  have e3 : n.pre.length ≤ 12 := Classical.not_not.1 e3'
  have d4 : decide ((n.pre.length : Int) > 12) = false := by rw [decide_eq_false_iff_not]; omega
  by_cases e4' : ¬ (n.keys.length = n.kids.length)
  · have e4 := e4'
    have d5 : ((n.keys.length : Int) != (n.kids.length : Int)) = true := by simp only [bne_iff_ne, ne_eq]; omega
    rcases e2' with e | ⟨e, e'⟩
    · have d2 : ((n.word &&& 2 : Nat) != 0) = false := by rw [e]; rfl
      simp only [items_test, vms, vmc, AOpd.val, Nat.reduceEqDiff, reduceCtorEq, Nat.reduceAdd, Nat.reduceBEq, d2, fa, Nat.zero_add, l1, a1', l2, l3, l4, n1, n2, d4, d5]
      rw [items_look (look_skip (by simp only [vms, vmc, AOpd.val, Nat.reduceEqDiff, reduceCtorEq, Nat.reduceAdd, Nat.reduceBEq, Bool.not_false]) (by simp only [vms, vmc, AOpd.val, Nat.reduceEqDiff, reduceCtorEq, Nat.reduceAdd, Nat.reduceBEq]))]
      simp only [vms, vmc, AOpd.val, Nat.reduceEqDiff, reduceCtorEq, Nat.reduceAdd, Nat.reduceBEq, rightP_no (fun h : RightP n => e4 h.same)]
      exact ⟨trivial, q1, lo1⟩
    · have d2 : ((n.word &&& 2 : Nat) != 0) = true := by simpa using e
      have d3 : (((n.word &&& 1 : Nat) : Int) != 0) = false := by rw [e']; rfl
      simp only [items_test, vms, vmc, AOpd.val, Nat.reduceEqDiff, reduceCtorEq, Nat.reduceAdd, Nat.reduceBEq, d2, d3, fa, Nat.zero_add, l1, a1', l2, l3, l4, n1, n2, d4, d5]
      rw [items_look (look_skip (by simp only [vms, vmc, AOpd.val, Nat.reduceEqDiff, reduceCtorEq, Nat.reduceAdd, Nat.reduceBEq, Bool.not_false]) (by simp only [vms, vmc, AOpd.val, Nat.reduceEqDiff, reduceCtorEq, Nat.reduceAdd, Nat.reduceBEq]))]
      simp only [vms, vmc, AOpd.val, Nat.reduceEqDiff, reduceCtorEq, Nat.reduceAdd, Nat.reduceBEq, rightP_no (fun h : RightP n => e4 h.same)]
      exact ⟨trivial, q1, lo1⟩
  have e4 : n.keys.length = n.kids.length := Classical.not_not.1 e4'
  have d5 : ((n.keys.length : Int) != (n.kids.length : Int)) = false := by rw [e4]; simp
  have lookk : ∀ {f : Fr}, f.at 36 = .ptr h.next 3 → f.at 35 = .bool false → f.at 37 = kv → AOper.lookAgain ⟨some 37, .load false 1 (.tmp 36), some (35, false)⟩ f h1 = true := fun f36 f35 f37 => look_want f35 (look_load (v := kv) (by show loadV _ _ _ (Fr.at _ _) = _; rw [f36]; exact l3) f37 beqk)
  have e2c : RightP n ↔ n.keys.length ≤ highP n.kind ∧ ((∀ (i : Nat) (x : Int), n.kids[i]? = some x → isRefP x = true) ∧ ∀ (i a b : Nat), n.keys[i]? = some a → n.keys[i + 1]? = some b → a < b) :=
    ⟨fun r => ⟨r.few, r.refs, r.rise⟩, fun ⟨r1, r2, r3⟩ => ⟨e1, e2, e3, e4, r1, r2, r3⟩⟩
  rcases e2' with e | ⟨e, e'⟩
  case' inl =>
    have d2 : ((n.word &&& 2 : Nat) != 0) = false := by rw [e]; rfl
    simp only [items_test, vms, vmc, AOpd.val, Nat.reduceEqDiff, reduceCtorEq, Nat.reduceAdd, Nat.reduceBEq, d2, fa, Nat.zero_add, l0, l1, a1', l2, l3, l4, n1, n2, d4, d5]
  case' inr =>
    have d2 : ((n.word &&& 2 : Nat) != 0) = true := by simpa using e
    have d3 : (((n.word &&& 1 : Nat) : Int) != 0) = false := by rw [e']; rfl
    simp only [items_test, vms, vmc, AOpd.val, Nat.reduceEqDiff, reduceCtorEq, Nat.reduceAdd, Nat.reduceBEq, d2, d3, fa, Nat.zero_add, l0, l1, a1', l2, l3, l4, n1, n2, d4, d5]
  all_goals
    refine Gives.bind ((high_ok k).mono ?_)
    rintro _ _ ⟨rfl, rfl⟩
    rename_i h1
    by_cases e5 : n.keys.length ≤ highP n.kind
    · have d6 : decide ((n.keys.length : Int) > (highP n.kind : Nat)) = false := by rw [decide_eq_false_iff_not]; omega
      simp only [items_test, vms, vmc, AOpd.val, Nat.reduceEqDiff, reduceCtorEq, Nat.reduceAdd, Nat.reduceBEq, d6]
      rw [items_look (lookk (by simp only [vms, vmc, AOpd.val, Nat.reduceEqDiff, reduceCtorEq, Nat.reduceAdd, Nat.reduceBEq]) (by simp only [vms, vmc, AOpd.val, Nat.reduceEqDiff, reduceCtorEq, Nat.reduceAdd, Nat.reduceBEq]) (by simp only [vms, vmc, AOpd.val, Nat.reduceEqDiff, reduceCtorEq, Nat.reduceAdd, Nat.reduceBEq]))]
      simp only [vms, vmc, AOpd.val, Nat.reduceEqDiff, reduceCtorEq, Nat.reduceAdd, Nat.reduceBEq, fa, Nat.zero_add, l4, n2]
      refine right_loop k ok hg t1 t2 e4 ?_ ?_ ?_ ?_ (fun hy f' => ?_) (fun hn f' f2 => ?_)
      iterate 4 (simp only [vms, vmc, AOpd.val, Nat.reduceEqDiff, reduceCtorEq, Nat.reduceAdd, Nat.reduceBEq])
      · simp only [vms, vmc, AOpd.val, Nat.reduceEqDiff, reduceCtorEq, Nat.reduceAdd, Nat.reduceBEq, rightP_iff.2 (e2c.2 ⟨e5, hy⟩)]
        exact ⟨trivial, q1, lo1⟩
      · simp only [vms, vmc, AOpd.val, Nat.reduceEqDiff, reduceCtorEq, Nat.reduceAdd, Nat.reduceBEq, f2, rightP_no (fun h : RightP n => hn (e2c.1 h).2)]
        exact ⟨trivial, q1, lo1⟩
    · have d6 : decide ((n.keys.length : Int) > (highP n.kind : Nat)) = true := by rw [decide_eq_true_eq]; omega
      simp only [items_test, vms, vmc, AOpd.val, Nat.reduceEqDiff, reduceCtorEq, Nat.reduceAdd, Nat.reduceBEq, d6]
      rw [items_look (lookk (by simp only [vms, vmc, AOpd.val, Nat.reduceEqDiff, reduceCtorEq, Nat.reduceAdd, Nat.reduceBEq]) (by simp only [vms, vmc, AOpd.val, Nat.reduceEqDiff, reduceCtorEq, Nat.reduceAdd, Nat.reduceBEq]) (by simp only [vms, vmc, AOpd.val, Nat.reduceEqDiff, reduceCtorEq, Nat.reduceAdd, Nat.reduceBEq]))]
      simp only [vms, vmc, AOpd.val, Nat.reduceEqDiff, reduceCtorEq, Nat.reduceAdd, Nat.reduceBEq, rightP_no (fun h : RightP n => e5 h.few)]
      exact ⟨trivial, q1, lo1⟩
end Go.Proofs.Ytpabmkicdcilpaa
/- Children found: at, Find; slices.BinarySearch of bytes. -/
namespace Go.Proofs.Ytpabmkicdcilpaa
open Go.Vm
set_option linter.unusedSimpArgs false
set_option linter.unusedVariables false
set_option maxRecDepth 100000
variable {T : Vm.Prog} {h : AH}
theorem rise_lt {l : List Nat} (hr : ∀ (i a b : Nat), l[i]? = some a → l[i + 1]? = some b → a < b) : ∀ (d i a b : Nat), l[i]? = some a → l[i + d + 1]? = some b → a < b
  | 0, i, a, b, ha, hb => hr i a b ha hb
  | d + 1, i, a, b, ha, hb => by
    have hlt := (List.getElem?_eq_some_iff.1 hb).1
    obtain ⟨c, hc⟩ : ∃ c, l[i + d + 1]? = some c := ⟨_, List.getElem?_eq_getElem (by omega)⟩
    have h1 := rise_lt hr d i a c ha hc
    have h2 := hr (i + d + 1) c b hc hb
    omega
theorem rise_of {l : List Nat} (hr : ∀ (i a b : Nat), l[i]? = some a → l[i + 1]? = some b → a < b) {i j a b : Nat} (hij : i < j) (ha : l[i]? = some a) (hb : l[j]? = some b) : a < b :=
  rise_lt hr (j - i - 1) i a b ha (by rw [show i + (j - i - 1) + 1 = j by omega]; exact hb)
/-- The first place of a byte that has a child. -/
def AtIs (n : NodeP) (b : Nat) : Option Nat → Prop
  | some i => n.keys[i]? = some b ∧ i < n.kids.length ∧ ∀ t, t < i → n.keys[t]? ≠ some b
  | none => ∀ i, i < n.kids.length → n.keys[i]? ≠ some b
end Go.Proofs.Ytpabmkicdcilpaa

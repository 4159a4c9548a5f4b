/- Chapter 23: the reader's small steps. -/
import Derived.Test.YtjbkjffolnodjaaP23T
import Derived.Test.YtjbkjffolnodjaaP23M
namespace Go.Proofs.Ytjbkjffolnodjaa
open Go.Vm
set_option linter.unusedSimpArgs false
set_option linter.unusedVariables false
set_option maxRecDepth 100000
/-- A program of these functions. -/
structure Base (T : Vm.Prog) : Prop where
  func : T.func = table
  env : ∀ n, (n < YB ∧ n ≠ 3 ∧ n ≠ 37 ∧ n ≠ 38) → T.env n = none
theorem Base.at {T : Vm.Prog} (k : Base T) {n : Nat} {fn : AFunc} (h : table n = some fn) : T.func n = some fn := by rw [k.func]; exact h
variable {T : Vm.Prog} {h h0 : AH} {p : Nat} {x : St}
def parts (l : List Part) : List (List AV) := l.map fun q => [.int .i64 q.1, .str q.2]
def rcell (x : St) (v : AV) : AObj := .cells [.str x.s, .int .i64 x.deep, v, .int .i64 x.bad] true
/-- The reader lies at p; all that belongs to it is younger than h0. -/
structure RV (h0 h : AH) (p : Nat) (x : St) (v : AV) : Prop where
  cell : h.get p = some (rcell x v)
  row : RowS h 2 v (parts x.out)
  own : ∀ o ∈ objs v, h0.next ≤ o ∧ o ≠ p
  size : x.s.length ≤ 512
  room : x.out.length ≤ 64
  quiet : Quiet h0 h
  low : Low h
  base : h0.next ≤ p
theorem RV.plt {v : AV} (r : RV h0 h p x v) : p < h.next := r.low _ _ r.cell
/-- Another text, depth or fault. -/
theorem RV.put {v : AV} (r : RV h0 h p x v) {y : St} (ho : y.out = x.out) (hs : y.s.length ≤ 512) : RV h0 (h.set p (rcell y v)) p y v where
  cell := get_set_same
  row := by rw [ho]; exact RowS.keep r.row fun o hor => by rw [AH.get_set, if_neg (Ne.symm (r.own o hor).2)]
  own := r.own
  size := hs
  room := by rw [ho]; exact r.room
  quiet := r.quiet.set r.base _
  low := r.low.set r.plt _
  base := r.base
theorem fa {p i : Nat} : fieldAddrV i (.ptr p 0) = some (.ptr p i) := by simp [fieldAddrV]
theorem nc {p : Nat} : nilChkV (.ptr p 0) = some (.ptr p 0) := rfl
theorem RV.ld0 {v : AV} (r : RV h0 h p x v) : loadV h false 1 (.ptr p 0) = some (.str x.s) := load_at r.cell rfl
theorem RV.ld1 {v : AV} (r : RV h0 h p x v) : loadV h false 1 (.ptr p 1) = some (.int .i64 x.deep) := load_at r.cell rfl
theorem RV.ld2 {v : AV} (r : RV h0 h p x v) : loadV h false 1 (.ptr p 2) = some v := load_at r.cell rfl
theorem RV.ld3 {v : AV} (r : RV h0 h p x v) : loadV h false 1 (.ptr p 3) = some (.int .i64 x.bad) := load_at r.cell rfl
theorem RV.st0 {v : AV} (r : RV h0 h p x v) (s : Txt) : storeV h 1 (.ptr p 0) (.str s) = some (h.set p (rcell { x with s := s } v)) := store_at r.cell (by simp) rfl rfl
theorem RV.st1 {v : AV} (r : RV h0 h p x v) (d : Int) : storeV h 1 (.ptr p 1) (.int .i64 d) = some (h.set p (rcell { x with deep := d } v)) := store_at r.cell (by simp) rfl rfl
theorem RV.st3 {v : AV} (r : RV h0 h p x v) (d : Int) : storeV h 1 (.ptr p 3) (.int .i64 d) = some (h.set p (rcell { x with bad := d } v)) := store_at r.cell (by simp) rfl rfl
theorem u8eq {c : UInt8} {n : Nat} (hn : n < 256) : ((c.toNat : Int) == (n : Int)) = (c == UInt8.ofNat n) := by
  have h1 : (UInt8.ofNat n).toNat = n := by simp; omega
  by_cases h : c = UInt8.ofNat n
  · have h2 : c.toNat = n := by rw [h, h1]
    rw [beq_iff_eq.2 h, h2]
    exact beq_iff_eq.2 rfl
  · have h2 : c.toNat ≠ n := fun e => h (UInt8.toNat_inj.1 (by rw [h1, e]))
    rw [beq_eq_false_iff_ne.2 h]
    exact beq_eq_false_iff_ne.2 (by omega)
theorem letter_ok (k : Base T) {b : UInt8} : Gives T 14 [.int .u8 (b.toNat : Int)] h fun r h' => r = .int .u8 ((letter b).toNat : Int) ∧ h' = h := by
  refine gives_func (k.env 14 (by decide)) (k.at (n := 14) rfl) rfl ?_
  have hb := b.toNat_lt
  by_cases h1 : (b.toNat : Int) ≥ 97
  · by_cases h2 : (b.toNat : Int) ≤ 122
    · have e : letter b = b := by
        unfold letter
        rw [if_pos (.inl ⟨UInt8.le_iff_toNat_le.2 (by show 97 ≤ b.toNat; omega), UInt8.le_iff_toNat_le.2 (by show b.toNat ≤ 122; omega)⟩)]
      simp only [a14, c14, vms, vmc, AOpd.val, Nat.reduceEqDiff, reduceCtorEq, Nat.reduceAdd, Nat.reduceBEq, decide_eq_true h1, decide_eq_true h2]
      rw [e]; exact ⟨by trivial, by trivial⟩
    · have d3 : decide ((b.toNat : Int) ≥ 48) = true := decide_eq_true (by omega)
      have d4 : decide ((b.toNat : Int) ≤ 57) = false := decide_eq_false (by omega)
      have d5 : decide ((b.toNat : Int) ≥ 65) = true := decide_eq_true (by omega)
      have d6 : decide ((b.toNat : Int) ≤ 90) = false := decide_eq_false (by omega)
      have e : letter b = 0 := by
        unfold letter
        rw [if_neg, if_neg]
        · rintro ⟨_, h⟩; have : b.toNat ≤ 90 := UInt8.le_iff_toNat_le.1 h; omega
        · rintro (⟨_, h⟩ | ⟨_, h⟩)
          · have : b.toNat ≤ 122 := UInt8.le_iff_toNat_le.1 h; omega
          · have : b.toNat ≤ 57 := UInt8.le_iff_toNat_le.1 h; omega
      simp only [a14, c14, vms, vmc, AOpd.val, Nat.reduceEqDiff, reduceCtorEq, Nat.reduceAdd, Nat.reduceBEq, decide_eq_true h1, decide_eq_false h2, d3, d4, d5, d6]
      rw [e]; exact ⟨by trivial, by trivial⟩
  · by_cases h3 : (b.toNat : Int) ≥ 48 ∧ (b.toNat : Int) ≤ 57
    · have e : letter b = b := by
        unfold letter
        rw [if_pos (.inr ⟨UInt8.le_iff_toNat_le.2 (by show 48 ≤ b.toNat; omega), UInt8.le_iff_toNat_le.2 (by show b.toNat ≤ 57; omega)⟩)]
      simp only [a14, c14, vms, vmc, AOpd.val, Nat.reduceEqDiff, reduceCtorEq, Nat.reduceAdd, Nat.reduceBEq, decide_eq_false h1, decide_eq_true h3.1, decide_eq_true h3.2]
      rw [e]; exact ⟨by trivial, by trivial⟩
    · have nl : ¬ ((97 ≤ b ∧ b ≤ 122) ∨ (48 ≤ b ∧ b ≤ 57)) := by
        rintro (⟨h, _⟩ | ⟨h, h'⟩)
        · have : 97 ≤ b.toNat := UInt8.le_iff_toNat_le.1 h; omega
        · have : 48 ≤ b.toNat := UInt8.le_iff_toNat_le.1 h
          have : b.toNat ≤ 57 := UInt8.le_iff_toNat_le.1 h'
          omega
      by_cases h5 : (b.toNat : Int) ≥ 65 ∧ (b.toNat : Int) ≤ 90
      · have d3 : decide ((b.toNat : Int) ≥ 48) = true := decide_eq_true (by omega)
        have d4 : decide ((b.toNat : Int) ≤ 57) = false := decide_eq_false (by omega)
        have e : letter b = b + 32 := by
          unfold letter
          rw [if_neg nl, if_pos ⟨UInt8.le_iff_toNat_le.2 (by show 65 ≤ b.toNat; omega), UInt8.le_iff_toNat_le.2 (by show b.toNat ≤ 90; omega)⟩]
        have et : (b + 32).toNat = b.toNat + 32 := by rw [UInt8.toNat_add]; simp; omega
        have w1 : IntKind.u8.wrap ((b.toNat : Int) - 65) = ((b.toNat - 65 : Nat) : Int) := by
          rw [show (b.toNat : Int) - 65 = ((b.toNat - 65 : Nat) : Int) by omega, wrap_u8, Nat.mod_eq_of_lt (by omega)]
        have w2 : IntKind.u8.wrap (((b.toNat - 65 : Nat) : Int) + 97) = ((b.toNat + 32 : Nat) : Int) := by
          rw [show ((b.toNat - 65 : Nat) : Int) + 97 = ((b.toNat + 32 : Nat) : Int) by omega, wrap_u8, Nat.mod_eq_of_lt (by omega)]
        simp only [a14, c14, vms, vmc, AOpd.val, Nat.reduceEqDiff, reduceCtorEq, Nat.reduceAdd, Nat.reduceBEq, decide_eq_false h1, d3, d4, decide_eq_true h5.1, decide_eq_true h5.2, w1, w2]
        rw [e, et]; exact ⟨by trivial, by trivial⟩
      · have e : letter b = 0 := by
          unfold letter
          rw [if_neg nl, if_neg]
          rintro ⟨h, h'⟩
          have : 65 ≤ b.toNat := UInt8.le_iff_toNat_le.1 h
          have : b.toNat ≤ 90 := UInt8.le_iff_toNat_le.1 h'
          omega
        have fin : (letter b).toNat = 0 := by rw [e]; rfl
        by_cases d3 : (b.toNat : Int) ≥ 48
        · have d4 : decide ((b.toNat : Int) ≤ 57) = false := decide_eq_false (by omega)
          by_cases d5 : (b.toNat : Int) ≥ 65
          · have d6 : decide ((b.toNat : Int) ≤ 90) = false := decide_eq_false (by omega)
            simp only [a14, c14, vms, vmc, AOpd.val, Nat.reduceEqDiff, reduceCtorEq, Nat.reduceAdd, Nat.reduceBEq, decide_eq_false h1, decide_eq_true d3, d4, decide_eq_true d5, d6]
            rw [fin]; exact ⟨by trivial, by trivial⟩
          · simp only [a14, c14, vms, vmc, AOpd.val, Nat.reduceEqDiff, reduceCtorEq, Nat.reduceAdd, Nat.reduceBEq, decide_eq_false h1, decide_eq_true d3, d4, decide_eq_false d5]
            rw [fin]; exact ⟨by trivial, by trivial⟩
        · have d5 : decide ((b.toNat : Int) ≥ 65) = false := decide_eq_false (by omega)
          simp only [a14, c14, vms, vmc, AOpd.val, Nat.reduceEqDiff, reduceCtorEq, Nat.reduceAdd, Nat.reduceBEq, decide_eq_false h1, decide_eq_false d3, d5]
          rw [fin]; exact ⟨by trivial, by trivial⟩
theorem peek_ok (k : Base T) {v : AV} (r : RV h0 h p x v) : Gives T 23 [.ptr p 0] h fun q h' => q = .tuple [.int .u8 ((x.skip.s.headD 0).toNat : Int), .bool (x.skip.s != [])] ∧ RV h0 h' p x.skip v := by
  refine gives_func (k.env 23 (by decide)) (k.at (n := 23) rfl) rfl ?_
  simp only [a23, c23, vms, vmc, AOpd.val, Nat.reduceEqDiff, reduceCtorEq, Nat.reduceAdd, Nat.reduceBEq]
  refine wpc_loop (fun m f h' => ∃ s : Txt, m = s.length ∧ s.dropWhile (· == 32) = x.s.dropWhile (· == 32) ∧ f.at 0 = .ptr p 0 ∧ RV h0 h' p { x with s := s } v) ?_ x.s.length _ _ ⟨x.s, rfl, rfl, ?_, r⟩
  · rintro m f h' ⟨s, rfl, hs, f0, r1⟩
    have sz := r1.size
    cases s with
    | nil =>
      have e1 : (([] : Txt) == []) = true := rfl
      have e2 : x.skip = { x with s := [] } := by simp only [St.skip, ← hs]; rfl
      simp only [c23l0, vms, vmc, AOpd.val, Nat.reduceEqDiff, reduceCtorEq, Nat.reduceAdd, Nat.reduceBEq, f0, nc, fa, r1.ld0, e1]
      rw [e2]
      exact ⟨by trivial, r1⟩
    | cons c t =>
      have e1 : ((c :: t : Txt) == []) = false := rfl
      have ix : idxStrV (.str (c :: t)) (.int .i64 0) = some (.int .u8 (c.toNat : Int)) := rfl
      have sl : slcStrV (.str (c :: t)) (some (.int .i64 1)) none = some (.str t) := slcFrom (n := 1) (by simp)
      have e3 : ((c.toNat : Int) == 32) = (c == 32) := u8eq (n := 32) (by decide)
      cases hc : (c == (32 : UInt8)) with
      | true =>
        rw [hc] at e3
        simp only [c23l0, vms, vmc, AOpd.val, Nat.reduceEqDiff, reduceCtorEq, Nat.reduceAdd, Nat.reduceBEq, f0, nc, fa, r1.ld0, e1, ix, e3, sl, r1.st0 t]
        refine ⟨t.length, by simp, t, rfl, ?_, by trivial, ?_⟩
        · rw [← hs, List.dropWhile_cons, hc]; rfl
        · exact r1.put rfl (by simp at sz; show t.length ≤ 512; omega)
      | false =>
        rw [hc] at e3
        have e2 : x.skip = { x with s := c :: t } := by
          simp only [St.skip, ← hs, List.dropWhile_cons, hc]; rfl
        simp only [c23l0, vms, vmc, AOpd.val, Nat.reduceEqDiff, reduceCtorEq, Nat.reduceAdd, Nat.reduceBEq, f0, nc, fa, r1.ld0, e1, ix, e3]
        rw [e2]
        exact ⟨by trivial, r1⟩
  · simp only [vms, vmc, AOpd.val, Nat.reduceEqDiff, reduceCtorEq, Nat.reduceAdd, Nat.reduceBEq]
theorem wrong_ok (k : Base T) {v : AV} (r : RV h0 h p x v) (e : Int) : Gives T 24 [.ptr p 0, .int .i64 e] h fun q h' => RV h0 h' p (x.wrong e) v ∧ Mods h h' (fun o => o = p) := by
  refine gives_func (k.env 24 (by decide)) (k.at (n := 24) rfl) rfl ?_
  by_cases hb : x.bad = 0
  · have e1 : (x.bad == 0) = true := by simp [hb]
    simp only [a24, c24, vms, vmc, AOpd.val, Nat.reduceEqDiff, reduceCtorEq, Nat.reduceAdd, Nat.reduceBEq, nc, fa, r.ld3, e1, r.st3]
    rw [St.wrong, if_pos hb]
    exact ⟨r.put rfl r.size, Mods.set (Mods.refl h fun o => o = p) (.inl rfl) _⟩
  · have e1 : (x.bad == 0) = false := by simp [hb]
    simp only [a24, c24, vms, vmc, AOpd.val, Nat.reduceEqDiff, reduceCtorEq, Nat.reduceAdd, Nat.reduceBEq, nc, fa, r.ld3, e1]
    rw [St.wrong, if_neg hb]
    exact ⟨r, Mods.refl _ _⟩
theorem head_some {l : Txt} {c : UInt8} : (l.head? == some c) = ((l != []) && (l.headD 0 == c)) := by
  cases l with
  | nil => rfl
  | cons a b => simp
theorem take_ok (k : Base T) {v : AV} (r : RV h0 h p x v) {n : Nat} (hn : n < 256) : Gives T 34 [.ptr p 0, .int .u8 (n : Int)] h fun q h' => q = .bool (x.takes (UInt8.ofNat n)) ∧ RV h0 h' p (x.take (UInt8.ofNat n)) v := by
  refine gives_func (k.env 34 (by decide)) (k.at (n := 34) rfl) rfl ?_
  simp only [a34, c34, vms, vmc, AOpd.val, Nat.reduceEqDiff, reduceCtorEq, Nat.reduceAdd, Nat.reduceBEq]
  refine Gives.bind ((peek_ok k r).mono ?_)
  rintro _ h1 ⟨rfl, r1⟩
  have ht : x.takes (UInt8.ofNat n) = ((x.skip.s != []) && (x.skip.s.headD 0 == UInt8.ofNat n)) := head_some
  have sz := r1.size
  cases hs : x.skip.s with
  | nil =>
    have e1 : (([] : Txt) != []) = false := rfl
    have ht' : x.takes (UInt8.ofNat n) = false := by rw [ht, hs]; rfl
    simp only [vms, vmc, AOpd.val, Nat.reduceEqDiff, reduceCtorEq, Nat.reduceAdd, Nat.reduceBEq, e1]
    rw [ht', St.take, ht']
    exact ⟨by trivial, r1⟩
  | cons c t =>
    have e1 : ((c :: t : Txt) != []) = true := rfl
    have e2 : ((c.toNat : Int) == (n : Int)) = (c == UInt8.ofNat n) := u8eq hn
    have hd : (c :: t : Txt).headD 0 = c := rfl
    have sl : slcStrV (.str (c :: t)) (some (.int .i64 1)) none = some (.str t) := slcFrom (n := 1) (by simp)
    have l0 := r1.ld0
    rw [hs] at l0 sz
    cases hc : (c == UInt8.ofNat n) with
    | true =>
      have ht' : x.takes (UInt8.ofNat n) = true := by rw [ht, hs, hd, hc]; rfl
      have e3 : ((c.toNat : Int) != (n : Int)) = false := by simp only [bne, e2, hc]; rfl
      simp only [vms, vmc, AOpd.val, Nat.reduceEqDiff, reduceCtorEq, Nat.reduceAdd, Nat.reduceBEq, e1, hd, e3, nc, fa, l0, sl, r1.st0 t]
      rw [ht', St.take, ht', hs]
      exact ⟨by trivial, r1.put rfl (by simp at sz; show t.length ≤ 512; omega)⟩
    | false =>
      have ht' : x.takes (UInt8.ofNat n) = false := by rw [ht, hs, hd, hc]; rfl
      have e3 : ((c.toNat : Int) != (n : Int)) = true := by simp only [bne, e2, hc]; rfl
      simp only [vms, vmc, AOpd.val, Nat.reduceEqDiff, reduceCtorEq, Nat.reduceAdd, Nat.reduceBEq, e1, hd, e3]
      rw [ht', St.take, ht']
      exact ⟨by trivial, r1⟩
end Go.Proofs.Ytjbkjffolnodjaa

/- Chapter 23: the whole reader; Parse. -/
import Derived.Test.YtjbkjffolnodjaaP23D
namespace Go.Proofs.Ytjbkjffolnodjaa
open Go.Vm
set_option linter.unusedSimpArgs false
set_option linter.unusedVariables false
set_option maxRecDepth 100000
variable {T : Vm.Prog} {h h0 : AH} {p : Nat} {x : St}
theorem reads_zero : Reads T h0 p 0 where
  fac := fun x y h hy => by simp [factorF] at hy
  and := fun x y h hy => by simp [andF] at hy
  andl := fun x y h f hy => by simp [andL] at hy
  or := fun x y h hy => by simp [orF] at hy
  orl := fun x y h f hy => by simp [orL] at hy
theorem reads_succ (k : Base T) {n : Nat} (ih : Reads T h0 p n) : Reads T h0 p (n + 1) where
  fac := fac_ok k ih
  and := fun x y h hy r => by
    rw [andF] at hy
    obtain ⟨z, hz1, hz2⟩ := Option.bind_eq_some_iff.1 hy
    refine gives_func (k.env 33 (by decide)) (k.at (n := 33) rfl) rfl ?_
    simp only [a33, c33, vms, vmc, AOpd.val, Nat.reduceEqDiff, reduceCtorEq, Nat.reduceAdd, Nat.reduceBEq]
    refine Gives.bind ((ih.fac _ _ _ hz1 r).mono ?_)
    rintro _ h1 r1
    simp only [vms, vmc, AOpd.val, Nat.reduceEqDiff, reduceCtorEq, Nat.reduceAdd, Nat.reduceBEq]
    refine (ih.andl _ _ _ _ hz2 r1 (by simp only [vms, vmc, AOpd.val, Nat.reduceEqDiff, reduceCtorEq, Nat.reduceAdd, Nat.reduceBEq])).mono ?_
    rintro e f' h' ⟨rfl | rfl, r2⟩
    · simp only [vms, vmc, AOpd.val, Nat.reduceEqDiff, reduceCtorEq, Nat.reduceAdd, Nat.reduceBEq]; exact r2
    · simp only [vms, vmc, AOpd.val, Nat.reduceEqDiff, reduceCtorEq, Nat.reduceAdd, Nat.reduceBEq]; exact r2
  andl := fun x y h f hy r f0 => by
    rw [andL] at hy
    obtain ⟨v, r⟩ := r
    refine loop_once ?_
    by_cases hb : x.bad = 0
    case neg =>
      have e1 : (x.bad == 0) = false := by simp [hb]
      rw [if_pos hb] at hy
      cases hy
      simp only [c33l0, vms, vmc, AOpd.val, Nat.reduceEqDiff, reduceCtorEq, Nat.reduceAdd, Nat.reduceBEq, f0, nc, fa, r.ld3, e1]
      exact ⟨by simp, ⟨v, r⟩⟩
    have e1 : (x.bad == 0) = true := by simp [hb]
    rw [if_neg (fun h => h hb)] at hy
    simp only [c33l0, vms, vmc, AOpd.val, Nat.reduceEqDiff, reduceCtorEq, Nat.reduceAdd, Nat.reduceBEq, f0, nc, fa, r.ld3, e1]
    refine Gives.bind ((peek_ok k r).mono ?_)
    rintro _ h1 ⟨rfl, r1⟩
    have e3 : (((x.skip.s.headD 0).toNat : Int) == 124) = (x.skip.s.headD 0 == 124) := u8eq (n := 124) (by decide)
    have e4 : (((x.skip.s.headD 0).toNat : Int) == 41) = (x.skip.s.headD 0 == 41) := u8eq (n := 41) (by decide)
    by_cases hnil : x.skip.s = []
    · rw [if_pos (.inl hnil)] at hy
      cases hy
      have e2 : (x.skip.s != []) = false := by simp [hnil]
      simp only [vms, vmc, AOpd.val, Nat.reduceEqDiff, reduceCtorEq, Nat.reduceAdd, Nat.reduceBEq, e2]
      exact ⟨by simp, ⟨v, r1⟩⟩
    have e2 : (x.skip.s != []) = true := by simp [hnil]
    by_cases h124 : x.skip.s.headD 0 = 124
    · rw [if_pos (.inr (.inl h124))] at hy
      cases hy
      have e5 : (((x.skip.s.headD 0).toNat : Int) == 124) = true := by rw [e3, h124]; rfl
      simp only [vms, vmc, AOpd.val, Nat.reduceEqDiff, reduceCtorEq, Nat.reduceAdd, Nat.reduceBEq, e2, e5]
      exact ⟨by simp, ⟨v, r1⟩⟩
    have e5 : (((x.skip.s.headD 0).toNat : Int) == 124) = false := by rw [e3]; exact beq_eq_false_iff_ne.2 h124
    by_cases h41 : x.skip.s.headD 0 = 41
    · rw [if_pos (.inr (.inr h41))] at hy
      cases hy
      have e6 : (((x.skip.s.headD 0).toNat : Int) == 41) = true := by rw [e4, h41]; rfl
      simp only [vms, vmc, AOpd.val, Nat.reduceEqDiff, reduceCtorEq, Nat.reduceAdd, Nat.reduceBEq, e2, e5, e6]
      exact ⟨by simp, ⟨v, r1⟩⟩
    have e6 : (((x.skip.s.headD 0).toNat : Int) == 41) = false := by rw [e4]; exact beq_eq_false_iff_ne.2 h41
    rw [if_neg (by simp only [not_or]; exact ⟨hnil, h124, h41⟩)] at hy
    obtain ⟨z, hz1, hz2⟩ := Option.bind_eq_some_iff.1 hy
    simp only [vms, vmc, AOpd.val, Nat.reduceEqDiff, reduceCtorEq, Nat.reduceAdd, Nat.reduceBEq, e2, e5, e6, f0]
    refine Gives.bind ((take_ok k r1 (n := 38) (by decide)).mono ?_)
    rintro _ h2 ⟨rfl, r2⟩
    rw [show UInt8.ofNat 38 = 38 from rfl, St.take_skip] at r2
    simp only [vms, vmc, AOpd.val, Nat.reduceEqDiff, reduceCtorEq, Nat.reduceAdd, Nat.reduceBEq, f0]
    refine Gives.bind ((ih.fac _ _ _ hz1 ⟨v, r2⟩).mono ?_)
    rintro _ h3 ⟨v3, r3⟩
    simp only [vms, vmc, AOpd.val, Nat.reduceEqDiff, reduceCtorEq, Nat.reduceAdd, Nat.reduceBEq, f0]
    refine Gives.bind ((part_ok k r3 2 []).mono ?_)
    rintro _ h4 r4
    simp only [vms, vmc, AOpd.val, Nat.reduceEqDiff, reduceCtorEq, Nat.reduceAdd, Nat.reduceBEq]
    exact ih.andl _ _ _ _ hz2 r4 (by simp only [vms, vmc, AOpd.val, Nat.reduceEqDiff, reduceCtorEq, Nat.reduceAdd, Nat.reduceBEq]; exact f0)
  or := fun x y h hy r => by
    rw [orF] at hy
    obtain ⟨z, hz1, hz2⟩ := Option.bind_eq_some_iff.1 hy
    refine gives_func (k.env 22 (by decide)) (k.at (n := 22) rfl) rfl ?_
    simp only [a22, c22, vms, vmc, AOpd.val, Nat.reduceEqDiff, reduceCtorEq, Nat.reduceAdd, Nat.reduceBEq]
    refine Gives.bind ((ih.and _ _ _ hz1 r).mono ?_)
    rintro _ h1 r1
    simp only [vms, vmc, AOpd.val, Nat.reduceEqDiff, reduceCtorEq, Nat.reduceAdd, Nat.reduceBEq]
    refine (ih.orl _ _ _ _ hz2 r1 (by simp only [vms, vmc, AOpd.val, Nat.reduceEqDiff, reduceCtorEq, Nat.reduceAdd, Nat.reduceBEq])).mono ?_
    rintro e f' h' ⟨rfl, r2⟩
    simp only [vms, vmc, AOpd.val, Nat.reduceEqDiff, reduceCtorEq, Nat.reduceAdd, Nat.reduceBEq]; exact r2
  orl := fun x y h f hy r f0 => by
    rw [orL] at hy
    obtain ⟨v, r⟩ := r
    refine loop_once ?_
    by_cases hb : x.bad = 0
    case neg =>
      have e1 : (x.bad == 0) = false := by simp [hb]
      rw [if_pos hb] at hy
      cases hy
      simp only [c22l0, vms, vmc, AOpd.val, Nat.reduceEqDiff, reduceCtorEq, Nat.reduceAdd, Nat.reduceBEq, f0, nc, fa, r.ld3, e1]
      exact ⟨by trivial, ⟨v, r⟩⟩
    have e1 : (x.bad == 0) = true := by simp [hb]
    rw [if_neg (fun h => h hb)] at hy
    simp only [c22l0, vms, vmc, AOpd.val, Nat.reduceEqDiff, reduceCtorEq, Nat.reduceAdd, Nat.reduceBEq, f0, nc, fa, r.ld3, e1]
    refine Gives.bind ((take_ok k r (n := 124) (by decide)).mono ?_)
    rintro _ h2 ⟨rfl, r2⟩
    rw [show UInt8.ofNat 124 = 124 from rfl] at r2 ⊢
    cases ht : x.takes 124 with
    | true =>
      rw [if_pos ht] at hy
      obtain ⟨z, hz1, hz2⟩ := Option.bind_eq_some_iff.1 hy
      simp only [vms, vmc, AOpd.val, Nat.reduceEqDiff, reduceCtorEq, Nat.reduceAdd, Nat.reduceBEq, f0]
      refine Gives.bind ((ih.and _ _ _ hz1 ⟨v, r2⟩).mono ?_)
      rintro _ h3 ⟨v3, r3⟩
      simp only [vms, vmc, AOpd.val, Nat.reduceEqDiff, reduceCtorEq, Nat.reduceAdd, Nat.reduceBEq, f0]
      refine Gives.bind ((part_ok k r3 3 []).mono ?_)
      rintro _ h4 r4
      simp only [vms, vmc, AOpd.val, Nat.reduceEqDiff, reduceCtorEq, Nat.reduceAdd, Nat.reduceBEq]
      exact ih.orl _ _ _ _ hz2 r4 (by simp only [vms, vmc, AOpd.val, Nat.reduceEqDiff, reduceCtorEq, Nat.reduceAdd, Nat.reduceBEq]; exact f0)
    | false =>
      rw [if_neg (by simp [ht])] at hy
      cases hy
      rw [St.take, ht] at r2
      simp only [vms, vmc, AOpd.val, Nat.reduceEqDiff, reduceCtorEq, Nat.reduceAdd, Nat.reduceBEq]
      exact ⟨by trivial, ⟨v, r2⟩⟩
theorem reads (k : Base T) : ∀ n, Reads T h0 p n
  | 0 => reads_zero
  | n + 1 => reads_succ k (reads k n)
/-- Parse, as far as the plain reader comes to an end. -/
theorem parse_ok (k : Base T) (hl : Low h) {s : Txt} {n : Nat} {q : List Part} {e : Int} (hp : parseF n s = some (q, e)) :
    Gives T 8 [.str s] h fun r h' => Quiet h h' ∧ Low h' ∧ ∃ v, r = .tuple [v, .int .i64 e] ∧ RowS h' 2 v (parts q) ∧ (∀ o ∈ objs v, h.next ≤ o) ∧ q.length ≤ 64 := by
  refine gives_func (k.env 8 (by decide)) (k.at (n := 8) rfl) rfl ?_
  unfold parseF at hp
  by_cases hbig : 512 < s.length
  · rw [if_pos hbig] at hp
    cases hp
    have d1 : decide ((s.length : Int) > 512) = true := by rw [decide_eq_true_eq]; omega
    simp only [a8, c8, vms, vmc, AOpd.val, Nat.reduceEqDiff, reduceCtorEq, Nat.reduceAdd, Nat.reduceBEq, d1]
    exact ⟨Quiet.refl h, hl, _, by trivial, .inl ⟨rfl, rfl⟩, fun o ho => by simp [objs] at ho, by simp⟩
  rw [if_neg hbig] at hp
  obtain ⟨y, hy, hq⟩ := Option.map_eq_some_iff.1 hp
  have d1 : decide ((s.length : Int) > 512) = false := by rw [decide_eq_false_iff_not]; omega
  have b1 : fillV [AV.str [], AV.int .i64 0, AV.nilSlice, AV.int .i64 0] [(0, 1, AV.str s)] = some [AV.str s, AV.int .i64 0, AV.nilSlice, AV.int .i64 0] := by simp [fillV, AV.isDef, AV.cells, setMany]
  have b2 : boxV h (AV.agg [AV.str s, AV.int .i64 0, AV.nilSlice, AV.int .i64 0]) = some (.ptr h.next 0, h.new (.cells [AV.str s, AV.int .i64 0, AV.nilSlice, AV.int .i64 0] true)) := rfl
  have r0 : RE h (h.new (.cells [AV.str s, AV.int .i64 0, AV.nilSlice, AV.int .i64 0] true)) h.next (start s) :=
    ⟨.nilSlice, get_new_same, .inl ⟨rfl, rfl⟩, fun o ho => by simp [objs] at ho, by show s.length ≤ 512; omega, by simp [start], (Quiet.refl _).new _, hl.new _, Nat.le_refl _⟩
  simp only [a8, c8, vms, vmc, AOpd.val, Nat.reduceEqDiff, reduceCtorEq, Nat.reduceAdd, Nat.reduceBEq, d1, b1, b2]
  refine Gives.bind (((reads k n).or _ _ _ hy r0).mono ?_)
  rintro _ h1 ⟨v1, r1⟩
  simp only [vms, vmc, AOpd.val, Nat.reduceEqDiff, reduceCtorEq, Nat.reduceAdd, Nat.reduceBEq]
  refine Gives.bind ((peek_ok k r1).mono ?_)
  rintro _ h2 ⟨rfl, r2⟩
  have fin : ∀ {z : St} {h3 : AH}, RV h h3 h.next z v1 → finish y = z → (z.bad = 0 → Quiet h h3 ∧ Low h3 ∧ ∃ v, (AV.tuple [v1, .int .i64 0]) = .tuple [v, .int .i64 e] ∧ RowS h3 2 v (parts q) ∧ (∀ o ∈ objs v, h.next ≤ o) ∧ q.length ≤ 64) ∧
      (z.bad ≠ 0 → Quiet h h3 ∧ Low h3 ∧ ∃ v, (AV.tuple [.nilSlice, .int .i64 z.bad]) = .tuple [v, .int .i64 e] ∧ RowS h3 2 v (parts q) ∧ (∀ o ∈ objs v, h.next ≤ o) ∧ q.length ≤ 64) := by
    intro z h3 r3 hz
    rw [hz] at hq
    constructor
    · intro hb
      rw [if_pos hb] at hq
      cases hq
      exact ⟨r3.quiet, r3.low, v1, rfl, r3.row, fun o ho => (r3.own o ho).1, r3.room⟩
    · intro hb
      rw [if_neg hb] at hq
      cases hq
      exact ⟨r3.quiet, r3.low, .nilSlice, rfl, .inl ⟨rfl, rfl⟩, fun o ho => by simp [objs] at ho, by simp⟩
  by_cases hnil : y.skip.s = []
  · have e2 : (y.skip.s != []) = false := by simp [hnil]
    have hf : finish y = y.skip := by unfold finish; rw [if_pos hnil]
    obtain ⟨g1, g2⟩ := fin r2 hf
    by_cases hb : y.skip.bad = 0
    · have e3 : (y.skip.bad != 0) = false := by simp [hb]
      simp only [vms, vmc, AOpd.val, Nat.reduceEqDiff, reduceCtorEq, Nat.reduceAdd, Nat.reduceBEq, e2, nc, fa, r2.ld3, e3, r2.ld2]
      exact g1 hb
    · have e3 : (y.skip.bad != 0) = true := by simp [hb]
      simp only [vms, vmc, AOpd.val, Nat.reduceEqDiff, reduceCtorEq, Nat.reduceAdd, Nat.reduceBEq, e2, nc, fa, r2.ld3, e3]
      exact g2 hb
  · have e2 : (y.skip.s != []) = true := by simp [hnil]
    have hf : finish y = y.skip.wrong 7 := by unfold finish; rw [if_neg hnil]
    simp only [vms, vmc, AOpd.val, Nat.reduceEqDiff, reduceCtorEq, Nat.reduceAdd, Nat.reduceBEq, e2]
    refine Gives.bind ((wrong_ok k r2 7).mono ?_)
    rintro _ h3 ⟨r3, _⟩
    obtain ⟨g1, g2⟩ := fin r3 hf
    by_cases hb : (y.skip.wrong 7).bad = 0
    · have e3 : ((y.skip.wrong 7).bad != 0) = false := by simp [hb]
      simp only [vms, vmc, AOpd.val, Nat.reduceEqDiff, reduceCtorEq, Nat.reduceAdd, Nat.reduceBEq, nc, fa, r3.ld3, e3, r3.ld2]
      exact g1 hb
    · have e3 : ((y.skip.wrong 7).bad != 0) = true := by simp [hb]
      simp only [vms, vmc, AOpd.val, Nat.reduceEqDiff, reduceCtorEq, Nat.reduceAdd, Nat.reduceBEq, nc, fa, r3.ld3, e3]
      exact g2 hb
end Go.Proofs.Ytjbkjffolnodjaa

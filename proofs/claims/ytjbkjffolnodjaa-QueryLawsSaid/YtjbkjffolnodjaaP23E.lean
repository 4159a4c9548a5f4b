/- Chapter 23: the whole reader; Parse. -/
import Derived.Test.YtjbkjffolnodjaaP23D
namespace Go.Proofs.Ytjbkjffolnodjaa
open Go.Vm
set_option linter.unusedSimpArgs false
set_option linter.unusedVariables false
set_option maxRecDepth 100000
variable {T : Vm.Prog} {h h0 : AH} {p : Nat} {x : St}
theorem reads_zero : Reads T h0 p 0 where
  fac := fun x y h hy => by simp [factorF] at hy
  and := fun x y h hy => by simp [andF] at hy
  andl := fun x y h f hy => by simp [andL] at hy
  or := fun x y h hy => by simp [orF] at hy
  orl := fun x y h f hy => by simp [orL] at hy
theorem reads_succ (k : Base T) {n : Nat} (ih : Reads T h0 p n) : Reads T h0 p (n + 1) where
  fac := fac_ok k ih
  and := fun x y h hy r => by
    rw [andF] at hy
    obtain ⟨z, hz1, hz2⟩ := Option.bind_eq_some_iff.1 hy
    refine gives_func (k.env 33 (by decide)) (k.at (n := 33) rfl) rfl ?_
    simp only [a33, c33, vms, vmc, AOpd.val, Nat.reduceEqDiff, reduceCtorEq, Nat.reduceAdd, Nat.reduceBEq]
    refine Gives.bind ((ih.fac _ _ _ hz1 r).mono ?_)
    rintro _ h1 r1
    simp only [vms, vmc, AOpd.val, Nat.reduceEqDiff, reduceCtorEq, Nat.reduceAdd, Nat.reduceBEq]
    refine (ih.andl _ _ _ _ hz2 r1 (by simp only [vms, vmc, AOpd.val, Nat.reduceEqDiff, reduceCtorEq, Nat.reduceAdd, Nat.reduceBEq])).mono ?_
    rintro e f' h' ⟨rfl | rfl, r2⟩
    · simp only [vms, vmc, AOpd.val, Nat.reduceEqDiff, reduceCtorEq, Nat.reduceAdd, Nat.reduceBEq]; exact r2
    · simp only [vms, vmc, AOpd.val, Nat.reduceEqDiff, reduceCtorEq, Nat.reduceAdd, Nat.reduceBEq]; exact r2
  andl := fun x y h f hy r f0 => by
    rw [andL] at hy
    obtain ⟨v, r⟩ := r
    refine loop_once ?_
    by_cases hb : x.bad = 0
    case neg =>
      have e1 : (x.bad == 0) = false := by simp [hb]
      rw [if_pos hb] at hy
      cases hy
      simp only [c33l0, vms, vmc, AOpd.val, Nat.reduceEqDiff, reduceCtorEq, Nat.reduceAdd, Nat.reduceBEq, f0, nc, fa, r.ld3, e1]
      exact ⟨by simp, ⟨v, r⟩⟩
    have e1 : (x.bad == 0) = true := by simp [hb]
    rw [if_neg (fun h => h hb)] at hy
    simp only [c33l0, vms, vmc, AOpd.val, Nat.reduceEqDiff, reduceCtorEq, Nat.reduceAdd, Nat.reduceBEq, f0, nc, fa, r.ld3, e1]
    refine Gives.bind ((peek_ok k r).mono ?_)
    rintro _ h1 ⟨rfl, r1⟩
    have e3 : (((x.skip.s.headD 0).toNat : Int) == 124) = (x.skip.s.headD 0 == 124) := u8eq (n := 124) (by decide)
    have e4 : (((x.skip.s.headD 0).toNat : Int) == 41) = (x.skip.s.headD 0 == 41) := u8eq (n := 41) (by decide)
    by_cases hnil : x.skip.s = []
    · rw [if_pos (.inl hnil)] at hy
      cases hy
      have e2 : (x.skip.s != []) = false := by simp [hnil]
      simp only [vms, vmc, AOpd.val, Nat.reduceEqDiff, reduceCtorEq, Nat.reduceAdd, Nat.reduceBEq, e2]
      exact ⟨by simp, ⟨v, r1⟩⟩
    have e2 : (x.skip.s != []) = true := by simp [hnil]
    by_cases h124 : x.skip.s.headD 0 = 124
    · rw [if_pos (.inr (.inl h124))] at hy
      cases hy
      have e5 : (((x.skip.s.headD 0).toNat : Int) == 124) = true := by rw [e3, h124]; rfl
      simp only [vms, vmc, AOpd.val, Nat.reduceEqDiff, reduceCtorEq, Nat.reduceAdd, Nat.reduceBEq, e2, e5]
      exact ⟨by simp, ⟨v, r1⟩⟩
    have e5 : (((x.skip.s.headD 0).toNat : Int) == 124) = false := by rw [e3]; exact beq_eq_false_iff_ne.2 h124
    by_cases h41 : x.skip.s.headD 0 = 41
    · rw [if_pos (.inr (.inr h41))] at hy
      cases hy
      have e6 : (((x.skip.s.headD 0).toNat : Int) == 41) = true := by rw [e4, h41]; rfl
      simp only [vms, vmc, AOpd.val, Nat.reduceEqDiff, reduceCtorEq, Nat.reduceAdd, Nat.reduceBEq, e2, e5, e6]
      exact ⟨by simp, ⟨v, r1⟩⟩
    have e6 : (((x.skip.s.headD 0).toNat : Int) == 41) = false := by rw [e4]; exact beq_eq_false_iff_ne.2 h41
    rw [if_neg (by simp only [not_or]; exact ⟨hnil, h124, h41⟩)] at hy
    obtain ⟨z, hz1, hz2⟩ := Option.bind_eq_some_iff.1 hy
    simp only [vms, vmc, AOpd.val, Nat.reduceEqDiff, reduceCtorEq, Nat.reduceAdd, Nat.reduceBEq, e2, e5, e6, f0]
    refine Gives.bind ((take_ok k r1 (n := 38) (by decide)).mono ?_)
    rintro _ h2 ⟨rfl, r2⟩
    rw [show UInt8.ofNat 38 = 38 from rfl, St.take_skip] at r2
    simp only [vms, vmc, AOpd.val, Nat.reduceEqDiff, reduceCtorEq, Nat.reduceAdd, Nat.reduceBEq, f0]
    refine Gives.bind ((ih.fac _ _ _ hz1 ⟨v, r2⟩).mono ?_)
    rintro _ h3 ⟨v3, r3⟩
    simp only [vms, vmc, AOpd.val, Nat.reduceEqDiff, reduceCtorEq, Nat.reduceAdd, Nat.reduceBEq, f0]
    refine Gives.bind ((part_ok k r3 2 []).mono ?_)
    rintro _ h4 r4
    simp only [vms, vmc, AOpd.val, Nat.reduceEqDiff, reduceCtorEq, Nat.reduceAdd, Nat.reduceBEq]
    exact ih.andl _ _ _ _ hz2 r4 (by simp only [vms, vmc, AOpd.val, Nat.reduceEqDiff, reduceCtorEq, Nat.reduceAdd, Nat.reduceBEq]; exact f0)
  or := fun x y h hy r => by
    rw [orF] at hy
    obtain ⟨z, hz1, hz2⟩ := Option.bind_eq_some_iff.1 hy
    refine gives_func (k.env 22 (by decide)) (k.at (n := 22) rfl) rfl ?_
    simp only [a22, c22, vms, vmc, AOpd.val, Nat.reduceEqDiff, reduceCtorEq, Nat.reduceAdd, Nat.reduceBEq]
    refine Gives.bind ((ih.and _ _ _ hz1 r).mono ?_)
    rintro _ h1 r1
    simp only [vms, vmc, AOpd.val, Nat.reduceEqDiff, reduceCtorEq, Nat.reduceAdd, Nat.reduceBEq]
    refine (ih.orl _ _ _ _ hz2 r1 (by simp only [vms, vmc, AOpd.val, Nat.reduceEqDiff, reduceCtorEq, Nat.reduceAdd, Nat.reduceBEq])).mono ?_
    rintro e f' h' ⟨rfl, r2⟩
    simp only [vms, vmc, AOpd.val, Nat.reduceEqDiff, reduceCtorEq, Nat.reduceAdd, Nat.reduceBEq]; exact r2
  orl := fun x y h f hy r f0 => by
    rw [orL] at hy
    obtain ⟨v, r⟩ := r
    refine loop_once ?_
    by_cases hb : x.bad = 0
    case neg =>
      have e1 : (x.bad == 0) = false := by simp [hb]
      rw [if_pos hb] at hy
      cases hy
      simp only [c22l0, vms, vmc, AOpd.val, Nat.reduceEqDiff, reduceCtorEq, Nat.reduceAdd, Nat.reduceBEq, f0, nc, fa, r.ld3, e1]
      exact ⟨by trivial, ⟨v, r⟩⟩
    have e1 : (x.bad == 0) = true := by simp [hb]
    rw [if_neg (fun h => h hb)] at hy
    simp only [c22l0, vms, vmc, AOpd.val, Nat.reduceEqDiff, reduceCtorEq, Nat.reduceAdd, Nat.reduceBEq, f0, nc, fa, r.ld3, e1]
    refine Gives.bind ((take_ok k r (n := 124) (by decide)).mono ?_)
    rintro _ h2 ⟨rfl, r2⟩
    rw [show UInt8.ofNat 124 = 124 from rfl] at r2 ⊢
    cases ht : x.takes 124 with
    | true =>
      rw [if_pos ht] at hy
      obtain ⟨z, hz1, hz2⟩ := Option.bind_eq_some_iff.1 hy
      simp only [vms, vmc, AOpd.val, Nat.reduceEqDiff, reduceCtorEq, Nat.reduceAdd, Nat.reduceBEq, f0]
      refine Gives.bind ((ih.and _ _ _ hz1 ⟨v, r2⟩).mono ?_)
      rintro _ h3 ⟨v3, r3⟩
      simp only [vms, vmc, AOpd.val, Nat.reduceEqDiff, reduceCtorEq, Nat.reduceAdd, Nat.reduceBEq, f0]
      refine Gives.bind ((part_ok k r3 3 []).mono ?_)
      rintro _ h4 r4
      simp only [vms, vmc, AOpd.val, Nat.reduceEqDiff, reduceCtorEq, Nat.reduceAdd, Nat.reduceBEq]
      exact ih.orl _ _ _ _ hz2 r4 (by simp only [vms, vmc, AOpd.val, Nat.reduceEqDiff, reduceCtorEq, Nat.reduceAdd, Nat.reduceBEq]; exact f0)
    | false =>
      rw [if_neg (by simp [ht])] at hy
      cases hy
      rw [St.take, ht] at r2
      simp only [vms, vmc, AOpd.val, Nat.reduceEqDiff, reduceCtorEq, Nat.reduceAdd, Nat.reduceBEq]
      exact ⟨by trivial, ⟨v, r2⟩⟩
theorem reads (k : Base T) : ∀ n, Reads T h0 p n
  | 0 => reads_zero
  | n + 1 => reads_succ k (reads k n)
end Go.Proofs.Ytjbkjffolnodjaa

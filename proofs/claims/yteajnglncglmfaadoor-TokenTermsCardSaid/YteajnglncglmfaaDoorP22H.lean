/- TokenTerms. -/
import Derived.Test.YteajnglncglmfaaDoorP22K
import Derived.Test.YteajnglncglmfaaDoorP22N
import Derived.Test.YteajnglncglmfaaDoorP22E
namespace Go.Proofs.YteajnglncglmfaaDoor
open Go.Vm
set_option linter.unusedSimpArgs false
set_option linter.unusedVariables false
set_option maxRecDepth 100000
variable {T : Vm.Prog} {h : AH}
theorem terms_len' (s : Txt) : (terms s).length ≤ s.length + 1 := by
  have h1 := compact_len (sortT (words s))
  rw [sortT_len] at h1
  exact Nat.le_trans h1 (words_len s)
theorem take_wsum {l : List Txt} (i : Nat) : wsum (l.take i) ≤ wsum l := wsum_sub (List.take_sublist _ _)
theorem terms_run (k : Fits T) (hl : Low h) {s : Txt} : Gives T 7 [.str s] h fun r _ => r = .bool true := by
  refine gives_func (k.base.env 7 (by decide)) (k.base.at (n := 7) rfl) rfl ?_
  have mn : mnxAll false (.int .i64 (s.length : Int)) [.int .i64 200] = some (.int .i64 ((min s.length 200 : Nat) : Int)) := mn_nat (a := s.length) (b := 200)
  have s1 : slcStrV (.str s) none (some (.int .i64 ((min s.length 200 : Nat) : Int))) = some (.str (s.take (min s.length 200))) := slcTo (Nat.min_le_left _ _)
  have hxl : (s.take (min s.length 200)).length ≤ 200 := by simp; omega
  simp only [a7, c7, vms, vmc, AOpd.val, Nat.reduceEqDiff, reduceCtorEq, Nat.reduceAdd, Nat.reduceBEq, step_mnx, mn, s1]
  generalize s.take (min s.length 200) = x at *
  have n0 : ((0 : Int) != 0) = false := rfl
  refine Gives.bind ((k.termsOk hl (s := x) (by omega)).mono ?_)
  rintro _ h1 ⟨q1, lo1, v, rfl, rv, _⟩
  have ln : lenOfV v = some (terms x).length := by simpa using rv.sees.len
  have hws := wsum_terms x
  have htl := terms_len' x
  simp only [vms, vmc, AOpd.val, Nat.reduceEqDiff, reduceCtorEq, Nat.reduceAdd, Nat.reduceBEq, n0, ln]
  refine wpc_loop (fun m f h2 => ∃ i, m = (terms x).length - i ∧ i ≤ (terms x).length ∧ Quiet h1 h2 ∧ Low h2 ∧ f.at 3 = v ∧ f.at 5 = .str (joined ((terms x).take i)) ∧ f.at 23 = v ∧ f.at 24 = .int .i64 ((terms x).length : Int) ∧ f.at 25 = .int .i64 (i : Nat)) ?_ (terms x).length _ _ ⟨0, by omega, by omega, Quiet.refl _, lo1, ?_⟩
  · rintro m f h2 ⟨i, rfl, hi, q2, lo2, f3, f5, f23, f24, f25⟩
    have rv2 := row_quiet rv lo1 q2
    by_cases hlt : i < (terms x).length
    · have d1 : decide ((i : Int) < ((terms x).length : Int)) = true := by rw [decide_eq_true_eq]; omega
      obtain ⟨t, ht⟩ : ∃ t, (terms x)[i]? = some t := ⟨_, List.getElem?_eq_getElem hlt⟩
      obtain ⟨p, hp1, hp2⟩ := rv2.sees.at (i := i) (x := .str t) (by simp [ht]) .i64
      have w2 : IntKind.i64.wrap ((i : Int) + 1) = ((i + 1 : Nat) : Int) := by rw [wrap_i64 (by omega) (by omega)]; omega
      have hg : GoodT t := terms_good (List.mem_of_getElem? ht)
      have htk : (terms x).take (i + 1) = (terms x).take i ++ [t] := by
        obtain ⟨h3, h4⟩ := List.getElem?_eq_some_iff.1 ht
        rw [List.take_succ_eq_append_getElem hlt, h4]
      have hjl := joined_len ((terms x).take i)
      have htw := take_wsum (l := terms x) i
      have htl12 := hg.2.1
      simp only [c7l0, vms, vmc, AOpd.val, Nat.reduceEqDiff, reduceCtorEq, Nat.reduceAdd, Nat.reduceBEq, f23, f24, f25, d1, hp1, hp2]
      refine Gives.bind ((k.termsOk lo2 (s := t) (by omega)).mono ?_)
      rintro _ h3 ⟨q3, lo3, v2, rfl, r2, _⟩
      rw [terms_one hg] at r2
      have ln2 : lenOfV v2 = some 1 := by simpa using r2.sees.len
      have n1 : (((1 : Nat) : Int) != 1) = false := rfl
      obtain ⟨p', hq1, hq2⟩ := r2.sees.at (i := 0) (x := .str t) rfl .i64
      have hq1' : idxAddrV 1 v2 (.int .i64 0) = some p' := hq1
      have et : (t == t) = true := by simp
      have b1 : binV .add (.str (joined ((terms x).take i))) (.str t) = some (.str (joined ((terms x).take i) ++ t)) := bin_str_add (by omega)
      have b2 : binV .add (.str (joined ((terms x).take i) ++ t)) (.str [32]) = some (.str (joined ((terms x).take i) ++ t ++ [32])) := bin_str_add (by simp; omega)
      simp only [vms, vmc, AOpd.val, Nat.reduceEqDiff, reduceCtorEq, Nat.reduceAdd, Nat.reduceBEq, f3, f5, f23, f24, f25, n0, ln2, n1, hq1', hq2, et, b1, b2, w2]
      refine ⟨(terms x).length - (i + 1), by omega, i + 1, rfl, by omega, q2.trans q3, lo3, by trivial, ?_, by trivial, by trivial, by trivial⟩
      rw [htk, joined_snoc]
    · have d1 : decide ((i : Int) < ((terms x).length : Int)) = false := by rw [decide_eq_false_iff_not]; omega
      rw [List.take_of_length_le (by omega)] at f5
      have hjl := joined_len (terms x)
      simp only [c7l0, vms, vmc, AOpd.val, Nat.reduceEqDiff, reduceCtorEq, Nat.reduceAdd, Nat.reduceBEq, f3, f5, f23, f24, f25, d1]
      refine Gives.bind ((k.termsOk lo2 (s := joined (terms x)) (by omega)).mono ?_)
      rintro _ h3 ⟨q3, lo3, v2, rfl, r2, _⟩
      rw [terms_joined] at r2
      have e0 : ((0 : Int) == 0) = true := rfl
      simp only [vms, vmc, AOpd.val, Nat.reduceEqDiff, reduceCtorEq, Nat.reduceAdd, Nat.reduceBEq, f3, e0]
      refine Gives.bind ((same_ok k.base r2.sees (row_quiet rv2 lo2 q3).sees (by omega) (by omega)).mono ?_)
      rintro _ _ ⟨rfl, rfl⟩
      have ds : decide (terms x = terms x) = true := decide_eq_true rfl
      simp only [vms, vmc, AOpd.val, Nat.reduceEqDiff, reduceCtorEq, Nat.reduceAdd, Nat.reduceBEq, ds]
      refine Gives.bind ((k.yes _).mono ?_)
      rintro _ _ ⟨rfl, rfl⟩
      simp only [vms, vmc, AOpd.val, Nat.reduceEqDiff, reduceCtorEq, Nat.reduceAdd, Nat.reduceBEq]
  · simp only [vms, vmc, AOpd.val, Nat.reduceEqDiff, reduceCtorEq, Nat.reduceAdd, Nat.reduceBEq, List.take_zero]
    simp [joined]
end Go.Proofs.YteajnglncglmfaaDoor

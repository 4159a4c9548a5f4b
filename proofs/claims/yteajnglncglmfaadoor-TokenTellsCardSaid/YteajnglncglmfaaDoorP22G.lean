/- TokenTells. -/
import Derived.Test.YteajnglncglmfaaDoorP22F
namespace Go.Proofs.YteajnglncglmfaaDoor
open Go.Vm
set_option linter.unusedSimpArgs false
set_option linter.unusedVariables false
set_option maxRecDepth 100000
variable {T : Vm.Prog} {h : AH}
def cFst : ACode → ACode
  | .seq a _ => a
  | c => c
def cSnd : ACode → ACode
  | .seq _ b => b
  | c => c
def c4r : ACode := cSnd (cSnd c4)
theorem c4_eq : c4 = .seq (.ops [⟨(some 4), .mov (.con (.bool false)), none⟩])
  (.seq (.seq (.ops [⟨(some 9), .mov (.tmp 0), none⟩, ⟨(some 10), .lenStr (.tmp 9), none⟩, ⟨(some 11), .bin .gtr (.tmp 10) (.con (.int .i64 600)), none⟩])
  (.cond (.tmp 11) (.ops [⟨(some 12), .mov (.tmp 0), none⟩, ⟨(some 13), .slcStr (.tmp 12) none (some (.con (.int .i64 600))), none⟩, ⟨(some 0), .mov (.tmp 13), none⟩]) .skip)) c4r) := rfl
theorem terms_len (s : Txt) : (terms s).length ≤ s.length + 1 := by
  have h1 := compact_len (sortT (words s))
  rw [sortT_len] at h1
  exact Nat.le_trans h1 (words_len s)
theorem tells_main (k : Fits T) (hl : Low h) {s : Txt} {c : UInt8} {f : Fr} (f0 : f.at 0 = .str s) (f1 : f.at 1 = .int .u8 (c.toNat : Int)) : Wp (code T c4r f h) (Vm.Ends [.tmp 4] fun r _ => r = .bool true) := by
  have e11 : ((11 : Int) == 11) = true := rfl
  have e00 : ((0 : Int) == 0) = true := rfl
  have ecc : (((letter c).toNat : Int) == ((letter c).toNat : Int)) = true := by simp
  have dn : decide (([] : List Txt) = []) = true := rfl
  simp only [c4r, cSnd, c4, vms, vmc, AOpd.val, Nat.reduceEqDiff, reduceCtorEq, Nat.reduceAdd, Nat.reduceBEq, f0]
  refine Gives.bind ((k.tms hl).mono ?_)
  rintro r1 h1 ⟨q1, lo1, ⟨hb, rfl⟩ | ⟨hs, v, rfl, rv, _⟩⟩
  · simp only [vms, vmc, AOpd.val, Nat.reduceEqDiff, reduceCtorEq, Nat.reduceAdd, Nat.reduceBEq, f0]
    refine Gives.bind ((refTerms_ok k.base lo1).mono ?_)
    rintro r2 h2 ⟨q2, lo2, ⟨_, rfl⟩ | ⟨hs, _⟩⟩
    · simp only [vms, vmc, AOpd.val, Nat.reduceEqDiff, reduceCtorEq, Nat.reduceAdd, Nat.reduceBEq, f0]
      refine Gives.bind ((same_ok k.base (xs := []) (ys := []) (.inl ⟨rfl, rfl⟩) (.inl ⟨rfl, rfl⟩) (by decide) (by decide)).mono ?_)
      rintro _ _ ⟨rfl, rfl⟩
      simp only [vms, vmc, AOpd.val, Nat.reduceEqDiff, reduceCtorEq, Nat.reduceAdd, Nat.reduceBEq, f1, dn, e11]
      refine Gives.bind ((letter_ok k.base).mono ?_)
      rintro _ _ ⟨rfl, rfl⟩
      simp only [vms, vmc, AOpd.val, Nat.reduceEqDiff, reduceCtorEq, Nat.reduceAdd, Nat.reduceBEq, f1]
      refine Gives.bind ((letter2_ok k.base).mono ?_)
      rintro _ _ ⟨rfl, rfl⟩
      simp only [vms, vmc, AOpd.val, Nat.reduceEqDiff, reduceCtorEq, Nat.reduceAdd, Nat.reduceBEq, ecc]
      refine Gives.bind ((k.yes _).mono ?_)
      rintro _ _ ⟨rfl, rfl⟩
      simp only [vms, vmc, AOpd.val, Nat.reduceEqDiff, reduceCtorEq, Nat.reduceAdd, Nat.reduceBEq]
    · omega
  · simp only [vms, vmc, AOpd.val, Nat.reduceEqDiff, reduceCtorEq, Nat.reduceAdd, Nat.reduceBEq, f0]
    refine Gives.bind ((refTerms_ok k.base lo1).mono ?_)
    rintro r2 h2 ⟨q2, lo2, ⟨hb, _⟩ | ⟨_, w, rfl, rw'⟩⟩
    · omega
    · have hlen := terms_len s
      simp only [vms, vmc, AOpd.val, Nat.reduceEqDiff, reduceCtorEq, Nat.reduceAdd, Nat.reduceBEq, f0]
      refine Gives.bind ((same_ok k.base (row_quiet rv lo1 q2).sees rw'.sees (by omega) (by omega)).mono ?_)
      rintro _ _ ⟨rfl, rfl⟩
      have ds : decide (terms s = terms s) = true := decide_eq_true rfl
      simp only [vms, vmc, AOpd.val, Nat.reduceEqDiff, reduceCtorEq, Nat.reduceAdd, Nat.reduceBEq, f1, ds, e00]
      refine Gives.bind ((letter_ok k.base).mono ?_)
      rintro _ _ ⟨rfl, rfl⟩
      simp only [vms, vmc, AOpd.val, Nat.reduceEqDiff, reduceCtorEq, Nat.reduceAdd, Nat.reduceBEq, f1]
      refine Gives.bind ((letter2_ok k.base).mono ?_)
      rintro _ _ ⟨rfl, rfl⟩
      simp only [vms, vmc, AOpd.val, Nat.reduceEqDiff, reduceCtorEq, Nat.reduceAdd, Nat.reduceBEq, ecc]
      refine Gives.bind ((k.yes _).mono ?_)
      rintro _ _ ⟨rfl, rfl⟩
      simp only [vms, vmc, AOpd.val, Nat.reduceEqDiff, reduceCtorEq, Nat.reduceAdd, Nat.reduceBEq]
theorem tells_run (k : Fits T) (hl : Low h) {s : Txt} {c : UInt8} : Gives T 4 [.str s, .int .u8 (c.toNat : Int)] h fun r _ => r = .bool true := by
  refine gives_func (k.base.env 4 (by decide)) (k.base.at (n := 4) rfl) rfl ?_
  simp only [a4]
  rw [c4_eq]
  by_cases hb : (s.length : Int) > 600
  · have s1 : slcStrV (.str s) none (some (.int .i64 600)) = some (.str (s.take 600)) := slcTo (n := 600) (by omega)
    simp only [vms, vmc, AOpd.val, Nat.reduceEqDiff, reduceCtorEq, Nat.reduceAdd, Nat.reduceBEq, decide_eq_true hb, s1]
    exact tells_main k hl (s := s.take 600) (c := c) (by simp only [vms, vmc, AOpd.val, Nat.reduceEqDiff, reduceCtorEq, Nat.reduceAdd, Nat.reduceBEq]) (by simp only [vms, vmc, AOpd.val, Nat.reduceEqDiff, reduceCtorEq, Nat.reduceAdd, Nat.reduceBEq])
  · simp only [vms, vmc, AOpd.val, Nat.reduceEqDiff, reduceCtorEq, Nat.reduceAdd, Nat.reduceBEq, decide_eq_false hb]
    exact tells_main k hl (s := s) (c := c) (by simp only [vms, vmc, AOpd.val, Nat.reduceEqDiff, reduceCtorEq, Nat.reduceAdd, Nat.reduceBEq]) (by simp only [vms, vmc, AOpd.val, Nat.reduceEqDiff, reduceCtorEq, Nat.reduceAdd, Nat.reduceBEq])
end Go.Proofs.YteajnglncglmfaaDoor

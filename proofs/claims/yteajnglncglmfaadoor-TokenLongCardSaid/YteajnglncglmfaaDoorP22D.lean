/- Chapter 22: the program of the laws; TokenLong. -/
import Derived.Test.YteajnglncglmfaaDoorP22C
namespace Go.Proofs.YteajnglncglmfaaDoor
open Go.Vm
set_option linter.unusedSimpArgs false
set_option linter.unusedVariables false
set_option maxRecDepth 100000
variable {T : Vm.Prog} {h : AH}
structure Fits (T : Vm.Prog) : Prop where
  base : Base T
  yes : ∀ h, Gives T 3 [] h fun r h' => r = .bool true ∧ h' = h
  tm : ∃ T1, Base T1 ∧ T.env 9 = some (rL T1 rf9)
theorem Fits.tms (k : Fits T) (hl : Low h) {s : Txt} : Gives T 9 [.str s] h fun r h' => Quiet h h' ∧ Low h' ∧ ((512 < s.length ∧ r = .tuple [.nilSlice, .int .i64 11]) ∨ (s.length ≤ 512 ∧ ∃ v, r = .tuple [v, .int .i64 0] ∧ Row1 h' v ((terms s).map .str) ∧ ∀ o ∈ objs v, h.next ≤ o)) := by
  obtain ⟨T1, k1, h1⟩ := k.tm
  exact terms_ok k1 h1 hl
theorem Fits.termsOk (k : Fits T) (hl : Low h) {s : Txt} (hs : s.length ≤ 512) : Gives T 9 [.str s] h fun r h' => Quiet h h' ∧ Low h' ∧ ∃ v, r = .tuple [v, .int .i64 0] ∧ Row1 h' v ((terms s).map .str) ∧ ∀ o ∈ objs v, h.next ≤ o := by
  refine (k.tms hl).mono ?_
  rintro r h' ⟨q, lo, ⟨h1, _⟩ | ⟨_, h2⟩⟩
  · omega
  · exact ⟨q, lo, h2⟩
theorem u8_in {x : Int} (w : (Lit.int .u8 x).wf = true) : ∃ c : UInt8, x = (c.toNat : Int) := by
  have h : 0 ≤ x ∧ x ≤ 255 := by simpa [Lit.wf, IntKind.min, IntKind.max, IntKind.signed, IntKind.bits] using w
  refine ⟨UInt8.ofNat x.toNat, ?_⟩
  have : (UInt8.ofNat x.toNat).toNat = x.toNat := by simp; omega
  omega
theorem bin_str_add {a b : Txt} (hl : a.length + b.length ≤ 9223372036854775807) : binV .add (.str a) (.str b) = some (.str (a ++ b)) := by
  simp [binV, strBin, hl]
theorem one_str {c : UInt8} : toStrV (h.new (.cells [.int .u8 (c.toNat : Int)] true)) (.slice h.next 0 1 1 1 true) = some (.str [c]) := by
  have hg : (h.new (.cells [.int .u8 (c.toNat : Int)] true)).get h.next = some (.cells [.int .u8 (c.toNat : Int)] true) := get_new_same
  simp [toStrV, AH.load, hg, strOf]
theorem fillB {c : UInt8} : fillV [.int .u8 0] [(0, 1, .int .u8 (c.toNat : Int))] = some [.int .u8 (c.toNat : Int)] := fill1 rfl rfl
theorem long_run (k : Fits T) (hl : Low h) {s : Txt} {c : UInt8} (hs : s.length ≤ maxLen) : Gives T 6 [.str s, .int .u8 (c.toNat : Int)] h fun r _ => r = .bool true := by
  refine gives_func (k.base.env 6 (by decide)) (k.base.at (n := 6) rfl) rfl ?_
  have hm : maxLen ≤ 9223372036854775807 := by decide
  simp only [a6, c6, vms, vmc, AOpd.val, Nat.reduceEqDiff, reduceCtorEq, Nat.reduceAdd, Nat.reduceBEq]
  refine wpc_loop (fun m f h1 => ∃ x : Txt, m = 512 - x.length ∧ x.length ≤ 9223372036854775807 ∧ Low h1 ∧ f.at 0 = .str x ∧ f.at 1 = .int .u8 (c.toNat : Int)) ?_ (512 - s.length) _ _ ⟨s, rfl, by omega, hl, ?_⟩
  · rintro m f h1 ⟨x, rfl, hx, lo1, f0, f1⟩
    by_cases hlt : (x.length : Int) < 512
    · have ba : binV .add (.str x) (.str [c]) = some (.str (x ++ [c])) := bin_str_add (by simp; omega)
      simp only [c6l0, vms, vmc, AOpd.val, Nat.reduceEqDiff, reduceCtorEq, Nat.reduceAdd, Nat.reduceBEq, f0, f1, decide_eq_true hlt, fillB, one_str, ba]
      exact ⟨512 - (x ++ [c]).length, by simp; omega, x ++ [c], rfl, by simp; omega, lo1.new _, by trivial, by trivial⟩
    · have hge : 512 ≤ x.length := by omega
      have s1 : slcStrV (.str x) none (some (.int .i64 512)) = some (.str (x.take 512)) := slcTo (n := 512) hge
      have hl1 : (x.take 512).length = 512 := by simp; omega
      simp only [c6l0, vms, vmc, AOpd.val, Nat.reduceEqDiff, reduceCtorEq, Nat.reduceAdd, Nat.reduceBEq, f0, f1, decide_eq_false hlt, s1]
      refine Gives.bind ((k.termsOk lo1 (by omega)).mono ?_)
      rintro _ h2 ⟨q2, lo2, v, rfl, r2, _⟩
      have ba : binV .add (.str (x.take 512)) (.str [c]) = some (.str (x.take 512 ++ [c])) := bin_str_add (by simp; omega)
      simp only [vms, vmc, AOpd.val, Nat.reduceEqDiff, reduceCtorEq, Nat.reduceAdd, Nat.reduceBEq, f0, f1, fillB, one_str, ba]
      refine Gives.bind ((k.tms (lo2.new _)).mono ?_)
      rintro _ h3 ⟨q3, lo3, ⟨_, rfl⟩ | ⟨h1, _⟩⟩
      · have e1 : ((0 : Int) == 0) = true := rfl
        have e2 : ((11 : Int) == 11) = true := rfl
        have e3 : (((0 : Nat) : Int) == 0) = true := rfl
        simp only [vms, vmc, AOpd.val, Nat.reduceEqDiff, reduceCtorEq, Nat.reduceAdd, Nat.reduceBEq, e1, e2, e3]
        refine Gives.bind ((k.yes _).mono ?_)
        rintro _ _ ⟨rfl, rfl⟩
        simp only [vms, vmc, AOpd.val, Nat.reduceEqDiff, reduceCtorEq, Nat.reduceAdd, Nat.reduceBEq]
      · simp at h1; omega
  · simp only [vms, vmc, AOpd.val, Nat.reduceEqDiff, reduceCtorEq, Nat.reduceAdd, Nat.reduceBEq]
    simp
end Go.Proofs.YteajnglncglmfaaDoor

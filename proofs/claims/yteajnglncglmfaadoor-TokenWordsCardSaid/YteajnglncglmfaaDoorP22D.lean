/- Chapter 22: the program of the laws; TokenLong. -/
import Derived.Test.YteajnglncglmfaaDoorP22C
namespace Go.Proofs.YteajnglncglmfaaDoor
open Go.Vm
set_option linter.unusedSimpArgs false
set_option linter.unusedVariables false
set_option maxRecDepth 100000
variable {T : Vm.Prog} {h : AH}
structure Fits (T : Vm.Prog) : Prop where
  base : Base T
  yes : ∀ h, Gives T 3 [] h fun r h' => r = .bool true ∧ h' = h
  tm : ∃ T1, Base T1 ∧ T.env 9 = some (rL T1 rf9)
theorem Fits.tms (k : Fits T) (hl : Low h) {s : Txt} : Gives T 9 [.str s] h fun r h' => Quiet h h' ∧ Low h' ∧ ((512 < s.length ∧ r = .tuple [.nilSlice, .int .i64 11]) ∨ (s.length ≤ 512 ∧ ∃ v, r = .tuple [v, .int .i64 0] ∧ Row1 h' v ((terms s).map .str) ∧ ∀ o ∈ objs v, h.next ≤ o)) := by
  obtain ⟨T1, k1, h1⟩ := k.tm
  exact terms_ok k1 h1 hl
theorem Fits.termsOk (k : Fits T) (hl : Low h) {s : Txt} (hs : s.length ≤ 512) : Gives T 9 [.str s] h fun r h' => Quiet h h' ∧ Low h' ∧ ∃ v, r = .tuple [v, .int .i64 0] ∧ Row1 h' v ((terms s).map .str) ∧ ∀ o ∈ objs v, h.next ≤ o := by
  refine (k.tms hl).mono ?_
  rintro r h' ⟨q, lo, ⟨h1, _⟩ | ⟨_, h2⟩⟩
  · omega
  · exact ⟨q, lo, h2⟩
theorem u8_in {x : Int} (w : (Lit.int .u8 x).wf = true) : ∃ c : UInt8, x = (c.toNat : Int) := by
  have h : 0 ≤ x ∧ x ≤ 255 := by simpa [Lit.wf, IntKind.min, IntKind.max, IntKind.signed, IntKind.bits] using w
  refine ⟨UInt8.ofNat x.toNat, ?_⟩
  have : (UInt8.ofNat x.toNat).toNat = x.toNat := by simp; omega
  omega
theorem bin_str_add {a b : Txt} (hl : a.length + b.length ≤ 9223372036854775807) : binV .add (.str a) (.str b) = some (.str (a ++ b)) := by
  simp [binV, strBin, hl]
theorem one_str {c : UInt8} : toStrV (h.new (.cells [.int .u8 (c.toNat : Int)] true)) (.slice h.next 0 1 1 1 true) = some (.str [c]) := by
  have hg : (h.new (.cells [.int .u8 (c.toNat : Int)] true)).get h.next = some (.cells [.int .u8 (c.toNat : Int)] true) := get_new_same
  simp [toStrV, AH.load, hg, strOf]
theorem fillB {c : UInt8} : fillV [.int .u8 0] [(0, 1, .int .u8 (c.toNat : Int))] = some [.int .u8 (c.toNat : Int)] := fill1 rfl rfl
end Go.Proofs.YteajnglncglmfaaDoor

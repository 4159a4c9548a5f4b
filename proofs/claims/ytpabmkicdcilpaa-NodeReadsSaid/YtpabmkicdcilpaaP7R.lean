/- The law NodeLeafApart. -/
import Derived.Test.YtpabmkicdcilpaaP7Q
namespace Go.Proofs.Ytpabmkicdcilpaa
open Go.Vm
set_option linter.unusedSimpArgs false
set_option linter.unusedVariables false
set_option maxRecDepth 100000
variable {T : Vm.Prog} {h : AH}
theorem and255 {x : Nat} (hx : x < 18446744073709551616) : binV .and (.int .u64 (x : Int)) (.int .u64 255) = some (.int .u64 ((x % 256 : Nat) : Int)) := by
  have := and_u64 hx (show 255 < 18446744073709551616 by decide)
  rw [show x &&& 255 = x % 256 from Nat.and_two_pow_sub_one_eq_mod x 8] at this
  exact this
theorem and65535 {x : Nat} (hx : x < 18446744073709551616) : binV .and (.int .u64 (x : Int)) (.int .u64 65535) = some (.int .u64 ((x % 65536 : Nat) : Int)) := by
  have := and_u64 hx (show 65535 < 18446744073709551616 by decide)
  rw [show x &&& 65535 = x % 65536 from Nat.and_two_pow_sub_one_eq_mod x 16] at this
  exact this
theorem shr8 {x : Nat} : binV .shr (.int .u64 (x : Int)) (.int .u64 8) = some (.int .u64 ((x / 256 : Nat) : Int)) := bin_shr_u64 (n := 8) (by decide) .u64
theorem shr16 {x : Nat} : binV .shr (.int .u64 (x : Int)) (.int .u64 16) = some (.int .u64 ((x / 65536 : Nat) : Int)) := bin_shr_u64 (n := 16) (by decide) .u64
def zN : List AV := [.int .i64 0, .int .u64 0, .str [], .nilSlice, .nilSlice]
theorem leaf_eq {a b : LeafP} : eqAggV [1, 0] false (.agg a.cells) (.agg b.cells) = some (.bool (decide (a = b))) := by
  obtain ⟨ka, va⟩ := a
  obtain ⟨kb, vb⟩ := b
  simp only [eqAggV, LeafP.cells, leavesEq, keyEq, if_true, Option.map_some, Bool.false_eq_true, if_false, Bool.and_true]
  congr 2
  rw [Bool.eq_iff_iff]
  simp
end Go.Proofs.Ytpabmkicdcilpaa

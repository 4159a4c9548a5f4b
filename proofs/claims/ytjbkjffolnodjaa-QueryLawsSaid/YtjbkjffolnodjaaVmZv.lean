/- The first place of a byte in a text: what the model answers itself; one more function that stands by its answer. -/
import Derived.Test.YtjbkjffolnodjaaVmZu
import Derived.Lib.Bytealg
namespace Go.Vm
open Go.RowKit
set_option linter.unusedSimpArgs false
set_option linter.unusedVariables false
def ibs : List AV → AH → Option (AV × AH)
  | [.str s, .int .u8 c], h => some (.int .i64 (Lib.indexByte s c.toNat.toUInt8), h)
  | _, _ => none
/-- One more function that stands by its answer. -/
def withEnv (T : Prog) (g : Nat) (e : List AV → AH → Option (AV × AH)) : Prog := ⟨T.func, fun n => if n = g then some e else T.env n⟩
theorem withEnv_ok {P : Program} {T : Prog} (hT : TabOk P T) {g : Nat} {e : List AV → AH → Option (AV × AH)} (he : ∀ args h r h', e args h = some (r, h') → CSim P g args h r h') : TabOk P (withEnv T g e) where
  low := hT.low
  func := hT.func
  env := fun n e' h' => by
    simp only [withEnv] at h'
    split at h'
    · rename_i e2; subst e2; cases h'; exact he
    · exact hT.env n e' h'
/-- The first place of a byte, -1: none. -/
def idxB (s : List UInt8) (c : UInt8) : Int := Lib.indexByte s c
end Go.Vm

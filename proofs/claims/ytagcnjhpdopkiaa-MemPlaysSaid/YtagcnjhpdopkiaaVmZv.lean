/- The first place of a byte in a text: what the model answers itself; one more function that stands by its answer. -/
import Derived.Test.YtagcnjhpdopkiaaVmZu
import Derived.Lib.Bytealg
namespace Go.Vm
open Go.RowKit
set_option linter.unusedSimpArgs false
set_option linter.unusedVariables false
def ibs : List AV→AH→Option (AV×AH)
 | [.str s,.int .u8 c],h => some (.int .i64 (Lib.indexByte s c.toNat.toUInt8),h)
 | _,_ => none
def withEnv (T : Prog) (g : Nat) (e : List AV→AH→Option (AV×AH)) : Prog:=⟨T.func,fun n => if n=g then some e else T.env n⟩
def idxB (s : List UInt8) (c : UInt8) : Int:=Lib.indexByte s c
end Go.Vm

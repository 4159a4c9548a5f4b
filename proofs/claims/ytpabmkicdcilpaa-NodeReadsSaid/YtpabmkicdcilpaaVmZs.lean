/- Texts as words, words as texts; lists with room behind them: what the small functions of the program, its references and its book come to. -/
import Derived.Test.YtpabmkicdcilpaaVmZn
namespace Go.Vm
open Go.RowKit
set_option linter.unusedSimpArgs false
set_option linter.unusedVariables false
variable {T : Vm.Prog} {h : AH}
def cCount : ACode := (.seq (.ops [⟨(some 2), .mov (.con (.int .i64 0)), none⟩])
  (.seq (.seq (.ops [⟨(some 3), .mov (.tmp 0), none⟩,
    ⟨(some 4), .bin .leq (.tmp 3) (.con (.int .i64 0)), none⟩])
  (.cond (.tmp 4)
  (.seq (.ops [⟨(some 2), .mov (.con (.int .i64 0)), none⟩])
  .ret)
  .skip))
  (.seq (.ops [⟨(some 5), .mov (.tmp 0), none⟩,
    ⟨(some 6), .bin .sub (.tmp 5) (.con (.int .i64 1)), none⟩,
    ⟨(some 7), .bin .quo (.tmp 6) (.con (.int .i64 8)), none⟩,
    ⟨(some 8), .bin .add (.tmp 7) (.con (.int .i64 1)), none⟩,
    ⟨(some 2), .mov (.tmp 8), none⟩])
  .ret)))
def aCount : AFunc := ⟨1, cCount, [.tmp 2]⟩
def cWordsl0 : ACode := (.seq (.ops [⟨(some 12), .bin .lss (.tmp 11) (.tmp 10), none⟩])
  (.seq (.cond (.tmp 12)
  .skip
  (.exit 0))
  (.seq (.block 1 (.seq (.ops [⟨(some 13), .mov (.tmp 11), none⟩,
    ⟨(some 4), .mov (.tmp 13), none⟩])
  (.ops [⟨(some 14), .mov (.tmp 3), none⟩,
    ⟨(some 15), .mov (.tmp 4), none⟩,
    ⟨(some 16), .bin .quo (.tmp 15) (.con (.int .i64 8)), none⟩,
    ⟨(some 17), .idxAddr 1 (.tmp 14) (.tmp 16), none⟩,
    ⟨(some 18), .load false 1 (.tmp 17), none⟩,
    ⟨(some 19), .mov (.tmp 0), none⟩,
    ⟨(some 20), .mov (.tmp 4), none⟩,
    ⟨(some 21), .idxStr (.tmp 19) (.tmp 20), none⟩,
    ⟨(some 22), .toInt .u64 (.tmp 21), none⟩,
    ⟨(some 23), .mov (.tmp 4), none⟩,
    ⟨(some 24), .bin .rem (.tmp 23) (.con (.int .i64 8)), none⟩,
    ⟨(some 25), .bin .mul (.con (.int .i64 8)) (.tmp 24), none⟩,
    ⟨(some 26), .toInt .u64 (.tmp 25), none⟩,
    ⟨(some 27), .bin .shl (.tmp 22) (.tmp 26), none⟩,
    ⟨(some 28), .bin .or (.tmp 18) (.tmp 27), none⟩,
    ⟨(some 29), .idxAddr 1 (.tmp 14) (.tmp 16), none⟩,
    ⟨none, .store 1 (.tmp 29) (.tmp 28), none⟩])))
  (.ops [⟨(some 30), .bin .add (.tmp 11) (.con (.int .i64 1)), none⟩,
    ⟨(some 11), .mov (.tmp 30), none⟩]))))
def cWords (gc : Nat) : ACode := (.seq (.ops [⟨(some 2), .mov (.con .nilSlice), none⟩])
  (.seq (.ops [⟨(some 5), .mov (.tmp 0), none⟩,
    ⟨(some 6), .lenStr (.tmp 5), none⟩,
    ⟨(some 7), .call gc [(.tmp 6)], none⟩,
    ⟨(some 8), .mkSlice 1 8 [(.int .u64 0)] (.tmp 7) (.tmp 7), none⟩,
    ⟨(some 3), .mov (.tmp 8), none⟩])
  (.seq (.seq (.ops [⟨(some 9), .mov (.tmp 0), none⟩,
    ⟨(some 10), .lenStr (.tmp 9), none⟩,
    ⟨(some 11), .mov (.con (.int .i64 0)), none⟩])
  (.block 0 (.loop cWordsl0)))
  (.seq (.ops [⟨(some 31), .mov (.tmp 3), none⟩,
    ⟨(some 2), .mov (.tmp 31), none⟩])
  .ret))))
def aWords (gc : Nat) : AFunc := ⟨1, cWords gc, [.tmp 2]⟩
def cRWordsl0 : ACode := (.seq (.seq (.ops [⟨(some 10), .mov (.tmp 4), none⟩,
    ⟨(some 11), .mov (.tmp 0), none⟩,
    ⟨(some 12), .lenStr (.tmp 11), none⟩,
    ⟨(some 13), .bin .lss (.tmp 10) (.tmp 12), none⟩])
  (.cond (.tmp 13)
  .skip
  (.exit 0)))
  (.seq (.block 1 (.ops [⟨(some 16), .mov (.tmp 3), none⟩,
    ⟨(some 17), .mov (.tmp 4), none⟩,
    ⟨(some 18), .bin .quo (.tmp 17) (.con (.int .i64 8)), none⟩,
    ⟨(some 19), .mov (.tmp 3), none⟩,
    ⟨(some 20), .mov (.tmp 4), none⟩,
    ⟨(some 21), .bin .quo (.tmp 20) (.con (.int .i64 8)), none⟩,
    ⟨(some 22), .idxAddr 1 (.tmp 19) (.tmp 21), none⟩,
    ⟨(some 23), .load false 1 (.tmp 22), none⟩,
    ⟨(some 24), .mov (.tmp 0), none⟩,
    ⟨(some 25), .mov (.tmp 4), none⟩,
    ⟨(some 26), .idxStr (.tmp 24) (.tmp 25), none⟩,
    ⟨(some 27), .toInt .u64 (.tmp 26), none⟩,
    ⟨(some 28), .mov (.tmp 4), none⟩,
    ⟨(some 29), .bin .rem (.tmp 28) (.con (.int .i64 8)), none⟩,
    ⟨(some 30), .bin .mul (.con (.int .i64 8)) (.tmp 29), none⟩,
    ⟨(some 31), .bin .shl (.tmp 27) (.tmp 30), none⟩,
    ⟨(some 32), .bin .or (.tmp 23) (.tmp 31), none⟩,
    ⟨(some 33), .idxAddr 1 (.tmp 16) (.tmp 18), none⟩,
    ⟨none, .store 1 (.tmp 33) (.tmp 32), none⟩]))
  (.ops [⟨(some 14), .mov (.tmp 4), none⟩,
    ⟨(some 15), .bin .add (.tmp 14) (.con (.int .i64 1)), none⟩,
    ⟨(some 4), .mov (.tmp 15), none⟩])))
def cRWords : ACode := (.seq (.ops [⟨(some 2), .mov (.con .nilSlice), none⟩])
  (.seq (.ops [⟨(some 5), .mov (.tmp 0), none⟩,
    ⟨(some 6), .lenStr (.tmp 5), none⟩,
    ⟨(some 7), .bin .add (.tmp 6) (.con (.int .i64 7)), none⟩,
    ⟨(some 8), .bin .quo (.tmp 7) (.con (.int .i64 8)), none⟩,
    ⟨(some 9), .mkSlice 1 8 [(.int .u64 0)] (.tmp 8) (.tmp 8), none⟩,
    ⟨(some 3), .mov (.tmp 9), none⟩])
  (.seq (.seq (.ops [⟨(some 4), .mov (.con (.int .i64 0)), none⟩])
  (.block 0 (.loop cRWordsl0)))
  (.seq (.ops [⟨(some 34), .mov (.tmp 3), none⟩,
    ⟨(some 2), .mov (.tmp 34), none⟩])
  .ret))))
def aRWords : AFunc := ⟨1, cRWords, [.tmp 2]⟩
def cBytesl0 : ACode := (.seq (.ops [⟨(some 32), .bin .lss (.tmp 31) (.con (.int .i64 8)), none⟩])
  (.seq (.cond (.tmp 32)
  .skip
  (.exit 2))
  (.seq (.block 3 (.seq (.ops [⟨(some 33), .mov (.tmp 31), none⟩,
    ⟨(some 9), .mov (.tmp 33), none⟩])
  (.ops [⟨(some 34), .mov (.tmp 6), none⟩,
    ⟨(some 35), .mov (.tmp 8), none⟩,
    ⟨(some 36), .mov (.tmp 9), none⟩,
    ⟨(some 37), .bin .mul (.con (.int .i64 8)) (.tmp 36), none⟩,
    ⟨(some 38), .toInt .u64 (.tmp 37), none⟩,
    ⟨(some 39), .bin .shr (.tmp 35) (.tmp 38), none⟩,
    ⟨(some 40), .toInt .u8 (.tmp 39), none⟩,
    ⟨(some 41), .buildSlice 1 1 [(.int .u8 0)] [(0, 1, (.tmp 40))], none⟩,
    ⟨(some 42), .append 1 1 (.tmp 34) (.tmp 41), none⟩,
    ⟨(some 6), .mov (.tmp 42), none⟩])))
  (.ops [⟨(some 43), .bin .add (.tmp 31) (.con (.int .i64 1)), none⟩,
    ⟨(some 31), .mov (.tmp 43), none⟩]))))
def cBytesl1 : ACode := (.seq (.ops [⟨(some 28), .bin .lss (.tmp 27) (.tmp 26), none⟩])
  (.seq (.cond (.tmp 28)
  .skip
  (.exit 0))
  (.seq (.block 1 (.seq (.ops [⟨(some 29), .idxAddr 1 (.tmp 25) (.tmp 27), none⟩,
    ⟨(some 30), .load false 1 (.tmp 29), none⟩,
    ⟨(some 8), .mov (.tmp 30), none⟩])
  (.seq (.ops [⟨(some 31), .mov (.con (.int .i64 0)), none⟩])
  (.block 2 (.loop cBytesl0)))))
  (.ops [⟨(some 44), .bin .add (.tmp 27) (.con (.int .i64 1)), none⟩,
    ⟨(some 27), .mov (.tmp 44), none⟩]))))
def cBytesl2 : ACode := (.seq (.ops [⟨(some 50), .bin .lss (.tmp 49) (.tmp 48), none⟩])
  (.seq (.cond (.tmp 50)
  .skip
  (.exit 4))
  (.seq (.block 5 (.seq (.ops [⟨(some 51), .idxAddr 1 (.tmp 47) (.tmp 49), none⟩,
    ⟨(some 52), .load false 1 (.tmp 51), none⟩,
    ⟨(some 11), .mov (.tmp 52), none⟩])
  (.seq (.ops [⟨(some 53), .mov (.tmp 11), none⟩,
    ⟨(some 54), .bin .neq (.tmp 53) (.con (.int .u8 0)), none⟩])
  (.cond (.tmp 54)
  (.seq (.ops [⟨(some 4), .mov (.con (.str [])), none⟩,
    ⟨(some 5), .mov (.con (.int .i64 5)), none⟩])
  .ret)
  .skip))))
  (.ops [⟨(some 55), .bin .add (.tmp 49) (.con (.int .i64 1)), none⟩,
    ⟨(some 49), .mov (.tmp 55), none⟩]))))
def cBytes : ACode := (.seq (.ops [⟨(some 4), .mov (.con (.str [])), none⟩,
    ⟨(some 5), .mov (.con (.int .i64 0)), none⟩])
  (.seq (.seq (.ops [⟨(some 12), .mov (.tmp 1), none⟩,
    ⟨(some 13), .bin .lss (.tmp 12) (.con (.int .i64 0)), none⟩,
    ⟨(some 14), .mov (.tmp 13), none⟩,
    ⟨(some 15), .mov (.tmp 1), (some (14, false))⟩,
    ⟨(some 16), .mov (.tmp 0), (some (14, false))⟩,
    ⟨(some 17), .lenSlice (.tmp 16), (some (14, false))⟩,
    ⟨(some 18), .bin .mul (.con (.int .i64 8)) (.tmp 17), (some (14, false))⟩,
    ⟨(some 19), .bin .gtr (.tmp 15) (.tmp 18), (some (14, false))⟩,
    ⟨(some 20), .pick (.tmp 14) (.con (.bool true)) (.tmp 19), none⟩])
  (.cond (.tmp 20)
  (.seq (.ops [⟨(some 4), .mov (.con (.str [])), none⟩,
    ⟨(some 5), .mov (.con (.int .i64 1)), none⟩])
  .ret)
  .skip))
  (.seq (.ops [⟨(some 21), .mov (.tmp 0), none⟩,
    ⟨(some 22), .lenSlice (.tmp 21), none⟩,
    ⟨(some 23), .bin .mul (.con (.int .i64 8)) (.tmp 22), none⟩,
    ⟨(some 24), .mkSlice 1 1 [(.int .u8 0)] (.con (.int .i64 0)) (.tmp 23), none⟩,
    ⟨(some 6), .mov (.tmp 24), none⟩])
  (.seq (.seq (.ops [⟨(some 25), .mov (.tmp 0), none⟩,
    ⟨(some 26), .lenSlice (.tmp 25), none⟩,
    ⟨(some 27), .mov (.con (.int .i64 0)), none⟩])
  (.block 0 (.loop cBytesl1)))
  (.seq (.seq (.ops [⟨(some 45), .mov (.tmp 6), none⟩,
    ⟨(some 46), .mov (.tmp 1), none⟩,
    ⟨(some 47), .slc 1 (.tmp 45) (some (.tmp 46)) none none, none⟩,
    ⟨(some 48), .lenSlice (.tmp 47), none⟩,
    ⟨(some 49), .mov (.con (.int .i64 0)), none⟩])
  (.block 4 (.loop cBytesl2)))
  (.seq (.ops [⟨(some 56), .mov (.tmp 6), none⟩,
    ⟨(some 57), .mov (.tmp 1), none⟩,
    ⟨(some 58), .slc 1 (.tmp 56) none (some (.tmp 57)) none, none⟩,
    ⟨(some 59), .toStr (.tmp 58), none⟩,
    ⟨(some 4), .mov (.tmp 59), none⟩,
    ⟨(some 5), .mov (.con (.int .i64 0)), none⟩])
  .ret))))))
def aBytes : AFunc := ⟨2, cBytes, [.tmp 4, .tmp 5]⟩
def cRBytesl0 : ACode := (.seq (.seq (.ops [⟨(some 20), .mov (.tmp 7), none⟩,
    ⟨(some 21), .mov (.tmp 1), none⟩,
    ⟨(some 22), .bin .lss (.tmp 20) (.tmp 21), none⟩])
  (.cond (.tmp 22)
  .skip
  (.exit 0)))
  (.seq (.block 1 (.ops [⟨(some 25), .mov (.tmp 6), none⟩,
    ⟨(some 26), .mov (.tmp 7), none⟩,
    ⟨(some 27), .mov (.tmp 0), none⟩,
    ⟨(some 28), .mov (.tmp 7), none⟩,
    ⟨(some 29), .bin .quo (.tmp 28) (.con (.int .i64 8)), none⟩,
    ⟨(some 30), .idxAddr 1 (.tmp 27) (.tmp 29), none⟩,
    ⟨(some 31), .load false 1 (.tmp 30), none⟩,
    ⟨(some 32), .mov (.tmp 7), none⟩,
    ⟨(some 33), .bin .rem (.tmp 32) (.con (.int .i64 8)), none⟩,
    ⟨(some 34), .bin .mul (.con (.int .i64 8)) (.tmp 33), none⟩,
    ⟨(some 35), .bin .shr (.tmp 31) (.tmp 34), none⟩,
    ⟨(some 36), .toInt .u8 (.tmp 35), none⟩,
    ⟨(some 37), .idxAddr 1 (.tmp 25) (.tmp 26), none⟩,
    ⟨none, .store 1 (.tmp 37) (.tmp 36), none⟩]))
  (.ops [⟨(some 23), .mov (.tmp 7), none⟩,
    ⟨(some 24), .bin .add (.tmp 23) (.con (.int .i64 1)), none⟩,
    ⟨(some 7), .mov (.tmp 24), none⟩])))
def cRBytesl1 : ACode := (.seq (.seq (.ops [⟨(some 39), .mov (.tmp 8), none⟩,
    ⟨(some 40), .mov (.tmp 0), none⟩,
    ⟨(some 41), .lenSlice (.tmp 40), none⟩,
    ⟨(some 42), .bin .mul (.con (.int .i64 8)) (.tmp 41), none⟩,
    ⟨(some 43), .bin .lss (.tmp 39) (.tmp 42), none⟩])
  (.cond (.tmp 43)
  .skip
  (.exit 2)))
  (.seq (.block 3 (.seq (.ops [⟨(some 46), .mov (.tmp 0), none⟩,
    ⟨(some 47), .mov (.tmp 8), none⟩,
    ⟨(some 48), .bin .quo (.tmp 47) (.con (.int .i64 8)), none⟩,
    ⟨(some 49), .idxAddr 1 (.tmp 46) (.tmp 48), none⟩,
    ⟨(some 50), .load false 1 (.tmp 49), none⟩,
    ⟨(some 51), .mov (.tmp 8), none⟩,
    ⟨(some 52), .bin .rem (.tmp 51) (.con (.int .i64 8)), none⟩,
    ⟨(some 53), .bin .mul (.con (.int .i64 8)) (.tmp 52), none⟩,
    ⟨(some 54), .bin .shr (.tmp 50) (.tmp 53), none⟩,
    ⟨(some 55), .toInt .u8 (.tmp 54), none⟩,
    ⟨(some 56), .bin .neq (.tmp 55) (.con (.int .u8 0)), none⟩])
  (.cond (.tmp 56)
  (.seq (.ops [⟨(some 4), .mov (.con (.str [])), none⟩,
    ⟨(some 5), .mov (.con (.int .i64 5)), none⟩])
  .ret)
  .skip)))
  (.ops [⟨(some 44), .mov (.tmp 8), none⟩,
    ⟨(some 45), .bin .add (.tmp 44) (.con (.int .i64 1)), none⟩,
    ⟨(some 8), .mov (.tmp 45), none⟩])))
def cRBytes : ACode := (.seq (.ops [⟨(some 4), .mov (.con (.str [])), none⟩,
    ⟨(some 5), .mov (.con (.int .i64 0)), none⟩])
  (.seq (.seq (.ops [⟨(some 9), .mov (.tmp 1), none⟩,
    ⟨(some 10), .bin .lss (.tmp 9) (.con (.int .i64 0)), none⟩,
    ⟨(some 11), .mov (.tmp 10), none⟩,
    ⟨(some 12), .mov (.tmp 1), (some (11, false))⟩,
    ⟨(some 13), .mov (.tmp 0), (some (11, false))⟩,
    ⟨(some 14), .lenSlice (.tmp 13), (some (11, false))⟩,
    ⟨(some 15), .bin .mul (.con (.int .i64 8)) (.tmp 14), (some (11, false))⟩,
    ⟨(some 16), .bin .gtr (.tmp 12) (.tmp 15), (some (11, false))⟩,
    ⟨(some 17), .pick (.tmp 11) (.con (.bool true)) (.tmp 16), none⟩])
  (.cond (.tmp 17)
  (.seq (.ops [⟨(some 4), .mov (.con (.str [])), none⟩,
    ⟨(some 5), .mov (.con (.int .i64 1)), none⟩])
  .ret)
  .skip))
  (.seq (.ops [⟨(some 18), .mov (.tmp 1), none⟩,
    ⟨(some 19), .mkSlice 1 1 [(.int .u8 0)] (.tmp 18) (.tmp 18), none⟩,
    ⟨(some 6), .mov (.tmp 19), none⟩])
  (.seq (.seq (.ops [⟨(some 7), .mov (.con (.int .i64 0)), none⟩])
  (.block 0 (.loop cRBytesl0)))
  (.seq (.seq (.ops [⟨(some 38), .mov (.tmp 1), none⟩,
    ⟨(some 8), .mov (.tmp 38), none⟩])
  (.block 2 (.loop cRBytesl1)))
  (.seq (.ops [⟨(some 57), .mov (.tmp 6), none⟩,
    ⟨(some 58), .toStr (.tmp 57), none⟩,
    ⟨(some 4), .mov (.tmp 58), none⟩,
    ⟨(some 5), .mov (.con (.int .i64 0)), none⟩])
  .ret))))))
def aRBytes : AFunc := ⟨2, cRBytes, [.tmp 4, .tmp 5]⟩
def cRoomyl0 : ACode := (.seq (.seq (.ops [⟨(some 16), .mov (.tmp 6), none⟩,
    ⟨(some 17), .mov (.tmp 5), none⟩,
    ⟨(some 18), .lenSlice (.tmp 17), none⟩,
    ⟨(some 19), .bin .lss (.tmp 16) (.tmp 18), none⟩])
  (.cond (.tmp 19)
  .skip
  (.exit 0)))
  (.seq (.block 1 (.ops [⟨(some 22), .mov (.tmp 5), none⟩,
    ⟨(some 23), .mov (.tmp 6), none⟩,
    ⟨(some 24), .mov (.tmp 1), none⟩,
    ⟨(some 25), .idxAddr 1 (.tmp 22) (.tmp 23), none⟩,
    ⟨none, .store 1 (.tmp 25) (.tmp 24), none⟩]))
  (.ops [⟨(some 20), .mov (.tmp 6), none⟩,
    ⟨(some 21), .bin .add (.tmp 20) (.con (.int .i64 1)), none⟩,
    ⟨(some 6), .mov (.tmp 21), none⟩])))
def cRoomy (bytes : Nat) (z : AV) : ACode := (.seq (.ops [⟨(some 4), .mov (.con .nilSlice), none⟩])
  (.seq (.ops [⟨(some 7), .mov (.tmp 0), none⟩,
    ⟨(some 8), .lenSlice (.tmp 7), none⟩,
    ⟨(some 9), .bin .add (.tmp 8) (.con (.int .i64 80)), none⟩,
    ⟨(some 10), .mkSlice 1 bytes [z] (.tmp 9) (.tmp 9), none⟩,
    ⟨(some 5), .mov (.tmp 10), none⟩])
  (.seq (.ops [⟨(some 11), .mov (.tmp 5), none⟩,
    ⟨(some 12), .mov (.tmp 0), none⟩,
    ⟨(some 13), .copy 1 (.tmp 11) (.tmp 12), none⟩])
  (.seq (.seq (.ops [⟨(some 14), .mov (.tmp 0), none⟩,
    ⟨(some 15), .lenSlice (.tmp 14), none⟩,
    ⟨(some 6), .mov (.tmp 15), none⟩])
  (.block 0 (.loop cRoomyl0)))
  (.seq (.ops [⟨(some 26), .mov (.tmp 5), none⟩,
    ⟨(some 4), .mov (.tmp 26), none⟩])
  .ret)))))
def aRoomy (bytes : Nat) (z : AV) : AFunc := ⟨2, cRoomy bytes z, [.tmp 4]⟩
def cIntactl0 : ACode := (.seq (.seq (.ops [⟨(some 25), .mov (.tmp 7), none⟩,
    ⟨(some 26), .mov (.tmp 0), none⟩,
    ⟨(some 27), .lenSlice (.tmp 26), none⟩,
    ⟨(some 28), .bin .lss (.tmp 25) (.tmp 27), none⟩])
  (.cond (.tmp 28)
  .skip
  (.exit 0)))
  (.seq (.block 1 (.seq (.ops [⟨(some 31), .mov (.tmp 0), none⟩,
    ⟨(some 32), .mov (.tmp 7), none⟩,
    ⟨(some 33), .idxAddr 1 (.tmp 31) (.tmp 32), none⟩,
    ⟨(some 34), .load false 1 (.tmp 33), none⟩,
    ⟨(some 35), .mov (.tmp 2), none⟩,
    ⟨(some 36), .bin .neq (.tmp 34) (.tmp 35), none⟩])
  (.cond (.tmp 36)
  (.seq (.ops [⟨(some 6), .mov (.con (.bool false)), none⟩])
  .ret)
  .skip)))
  (.ops [⟨(some 29), .mov (.tmp 7), none⟩,
    ⟨(some 30), .bin .add (.tmp 29) (.con (.int .i64 1)), none⟩,
    ⟨(some 7), .mov (.tmp 30), none⟩])))
def cIntact (gs : Nat) : ACode := (.seq (.ops [⟨(some 6), .mov (.con (.bool false)), none⟩])
  (.seq (.seq (.ops [⟨(some 8), .mov (.tmp 0), none⟩,
    ⟨(some 9), .lenSlice (.tmp 8), none⟩,
    ⟨(some 10), .mov (.tmp 1), none⟩,
    ⟨(some 11), .lenSlice (.tmp 10), none⟩,
    ⟨(some 12), .bin .add (.tmp 11) (.con (.int .i64 80)), none⟩,
    ⟨(some 13), .bin .neq (.tmp 9) (.tmp 12), none⟩,
    ⟨(some 14), .mov (.tmp 13), none⟩,
    ⟨(some 15), .mov (.tmp 0), (some (14, false))⟩,
    ⟨(some 16), .mov (.tmp 1), (some (14, false))⟩,
    ⟨(some 17), .lenSlice (.tmp 16), (some (14, false))⟩,
    ⟨(some 18), .slc 1 (.tmp 15) none (some (.tmp 17)) none, (some (14, false))⟩,
    ⟨(some 19), .mov (.tmp 1), (some (14, false))⟩,
    ⟨(some 20), .call gs [(.tmp 18), (.tmp 19)], (some (14, false))⟩,
    ⟨(some 21), .un .not (.tmp 20), (some (14, false))⟩,
    ⟨(some 22), .pick (.tmp 14) (.con (.bool true)) (.tmp 21), none⟩])
  (.cond (.tmp 22)
  (.seq (.ops [⟨(some 6), .mov (.con (.bool false)), none⟩])
  .ret)
  .skip))
  (.seq (.seq (.ops [⟨(some 23), .mov (.tmp 1), none⟩,
    ⟨(some 24), .lenSlice (.tmp 23), none⟩,
    ⟨(some 7), .mov (.tmp 24), none⟩])
  (.block 0 (.loop cIntactl0)))
  (.seq (.ops [⟨(some 6), .mov (.con (.bool true)), none⟩])
  .ret))))
def aIntact (gs : Nat) : AFunc := ⟨3, cIntact gs, [.tmp 6]⟩
/-- The number that bytes make, the first lowest. -/
def dig : List Nat → Nat
  | [] => 0
  | b :: r => b + 256 * dig r
theorem dig_snoc (b : Nat) : ∀ (l : List Nat), dig (l ++ [b]) = dig l + b * 256 ^ l.length
  | [] => by simp [dig]
  | a :: l => by
    simp only [List.cons_append, dig, dig_snoc b l, List.length_cons, Nat.pow_succ, Nat.mul_add]
    have : 256 * (b * 256 ^ l.length) = b * (256 ^ l.length * 256) := by rw [Nat.mul_left_comm, Nat.mul_comm (256 ^ l.length)]
    omega
theorem dig_lt : ∀ (l : List Nat), (∀ b ∈ l, b < 256) → dig l < 256 ^ l.length
  | [], _ => by simp [dig]
  | a :: l, h => by
    have h1 := h a (by simp)
    have h2 := dig_lt l fun b hb => h b (by simp [hb])
    simp only [dig, List.length_cons, Nat.pow_succ]
    omega
theorem dig_byte : ∀ (l : List Nat), (∀ b ∈ l, b < 256) → ∀ k, dig l / 256 ^ k % 256 = (l[k]?).getD 0
  | [], _, k => by simp [dig]
  | a :: l, h, 0 => by
    have h1 := h a (by simp)
    simp only [dig, Nat.pow_zero, Nat.div_one, List.getElem?_cons_zero, Option.getD_some]
    omega
  | a :: l, h, k + 1 => by
    have h1 := h a (by simp)
    have h2 := dig_byte l (fun b hb => h b (by simp [hb])) k
    simp only [dig, List.getElem?_cons_succ, Nat.pow_succ]
    rw [Nat.mul_comm (256 ^ k) 256, ← Nat.div_div_eq_div_mul, show (a + 256 * dig l) / 256 = dig l by omega]
    exact h2
/-- The bytes of one word. -/
def blk (bs : List Nat) (j : Nat) : List Nat := (bs.drop (8 * j)).take 8
theorem blk_take (bs : List Nat) (i j : Nat) : blk (bs.take i) j = (bs.drop (8 * j)).take (min 8 (i - 8 * j)) := by
  unfold blk
  rw [List.drop_take, List.take_take]
theorem blk_small {bs : List Nat} (h : ∀ b ∈ bs, b < 256) (j : Nat) : ∀ b ∈ blk bs j, b < 256 :=
  fun b hb => h b (List.mem_of_mem_drop (List.mem_of_mem_take hb))
theorem blk_len (bs : List Nat) (j : Nat) : (blk bs j).length ≤ 8 := by unfold blk; simp; omega
theorem blk_other {bs : List Nat} {i j : Nat} (h : j ≠ i / 8) : blk (bs.take (i + 1)) j = blk (bs.take i) j := by
  rw [blk_take, blk_take]
  congr 1
  omega
theorem blk_this {bs : List Nat} {i b : Nat} (h : bs[i]? = some b) : blk (bs.take (i + 1)) (i / 8) = blk (bs.take i) (i / 8) ++ [b] ∧ (blk (bs.take i) (i / 8)).length = i % 8 := by
  have hi : i < bs.length := by
    rcases Nat.lt_or_ge i bs.length with h' | h'
    · exact h'
    · rw [List.getElem?_eq_none h'] at h; cases h
  rw [blk_take, blk_take, show min 8 (i + 1 - 8 * (i / 8)) = i % 8 + 1 by omega, show min 8 (i - 8 * (i / 8)) = i % 8 by omega]
  constructor
  · rw [List.take_add_one, List.getElem?_drop, show 8 * (i / 8) + i % 8 = i by omega, h]; rfl
  · simp; omega
theorem blk_get (bs : List Nat) (k : Nat) : (blk bs (k / 8))[k % 8]? = bs[k]? := by
  unfold blk
  rw [List.getElem?_take, if_pos (by omega), List.getElem?_drop, show 8 * (k / 8) + k % 8 = k by omega]
/-- A text's words. -/
def wordsN (bs : List Nat) (n : Nat) : List Nat := (List.range n).map fun j => dig (blk bs j)
theorem wordsN_len (bs : List Nat) (n : Nat) : (wordsN bs n).length = n := by simp [wordsN]
theorem wordsN_get {bs : List Nat} {n j : Nat} (h : j < n) : (wordsN bs n)[j]? = some (dig (blk bs j)) := by simp [wordsN, h]
theorem wordsN_none {n : Nat} : wordsN [] n = List.replicate n 0 := by
  apply List.ext_getElem?
  intro j
  by_cases h : j < n
  · rw [wordsN_get h]; simp [h, blk, dig]
  · rw [List.getElem?_eq_none (by rw [wordsN_len]; omega), List.getElem?_eq_none (by simp; omega)]
theorem pow256 (k : Nat) : 256 ^ k = 2 ^ (8 * k) := by rw [Nat.pow_mul]
theorem wordsN_lt {bs : List Nat} {n : Nat} (h : ∀ b ∈ bs, b < 256) : ∀ x ∈ wordsN bs n, x < 18446744073709551616 := by
  intro x hx
  simp only [wordsN, List.mem_map] at hx
  obtain ⟨j, _, rfl⟩ := hx
  have := dig_lt (blk bs j) (blk_small h j)
  have h2 := Nat.pow_le_pow_right (n := 256) (by decide) (blk_len bs j)
  have h3 : 256 ^ 8 = 18446744073709551616 := by decide
  omega
/-- One byte more: an or, or a sum. -/
theorem words_step {bs : List Nat} {n i b : Nat} (hs : ∀ b ∈ bs, b < 256) (h : bs[i]? = some b) (hn : i / 8 < n) :
    dig (blk (bs.take i) (i / 8)) ||| (b * 2 ^ (8 * (i % 8))) < 18446744073709551616 ∧
    wordsN (bs.take (i + 1)) n = (wordsN (bs.take i) n).set (i / 8) (dig (blk (bs.take i) (i / 8)) ||| (b * 2 ^ (8 * (i % 8)))) := by
  obtain ⟨h1, h2⟩ := blk_this h
  have hsm : ∀ b ∈ blk (bs.take i) (i / 8), b < 256 := blk_small (fun b hb => hs b (List.mem_of_mem_take hb)) _
  have hlt := dig_lt _ hsm
  rw [h2, pow256] at hlt
  have hor : dig (blk (bs.take i) (i / 8)) ||| (b * 2 ^ (8 * (i % 8))) = dig (blk (bs.take (i + 1)) (i / 8)) := by
    rw [h1, dig_snoc, h2, pow256, Nat.or_comm, Nat.mul_comm b, ← Nat.two_pow_add_eq_or_of_lt hlt]; omega
  constructor
  · rw [hor]
    exact wordsN_lt (n := i / 8 + 1) (fun b hb => hs b (List.mem_of_mem_take hb)) _ (List.mem_of_getElem? (wordsN_get (Nat.lt_succ_self _)))
  · rw [hor]
    apply List.ext_getElem?
    intro j
    rw [List.getElem?_set]
    by_cases hj : j < n
    · rw [wordsN_get hj]
      by_cases e : i / 8 = j
      · subst e; rw [if_pos rfl, wordsN_len, if_pos hn]
      · rw [if_neg e, wordsN_get hj, blk_other (Ne.symm e)]
    · rw [List.getElem?_eq_none (by rw [wordsN_len]; omega)]
      rw [if_neg (by omega), List.getElem?_eq_none (by rw [wordsN_len]; omega)]
theorem words_end {bs : List Nat} {n i : Nat} (h : bs.length ≤ i) : wordsN (bs.take i) n = wordsN bs n := by rw [List.take_of_length_le h]
/-- A byte of words. -/
def byteAt (ws : List Nat) (k : Nat) : Nat := (ws[k / 8]?).getD 0 / 2 ^ (8 * (k % 8)) % 256
theorem byteAt_words {bs : List Nat} {n k : Nat} (hs : ∀ b ∈ bs, b < 256) (h : k / 8 < n) : byteAt (wordsN bs n) k = (bs[k]?).getD 0 := by
  unfold byteAt
  rw [wordsN_get h, Option.getD_some, ← pow256, dig_byte _ (blk_small hs _), blk_get]
def strB (ws : List Nat) (n : Nat) : List UInt8 := (List.range n).map fun k => UInt8.ofNat (byteAt ws k)
theorem strB_len (ws : List Nat) (n : Nat) : (strB ws n).length = n := by simp [strB]
/-- Are these bytes noughts? -/
def clearW (ws : List Nat) (n : Nat) : Prop := ∀ k, n ≤ k → k < 8 * ws.length → byteAt ws k = 0
open Classical in
/-- The text of so many bytes that words tell. -/
noncomputable def bytesR (ws : List Nat) (n : Int) : List UInt8 × Int :=
  if n < 0 ∨ n > 8 * ws.length then ([], 1) else if clearW ws n.toNat then (strB ws n.toNat, 0) else ([], 5)
/-! ### the laws -/
def nat8 (s : List UInt8) : List Nat := s.map (·.toNat)
theorem nat8_small (s : List UInt8) : ∀ b ∈ nat8 s, b < 256 := by
  intro b hb; simp only [nat8, List.mem_map] at hb; obtain ⟨c, _, rfl⟩ := hb; exact c.toNat_lt
theorem nat8_len (s : List UInt8) : (nat8 s).length = s.length := by simp [nat8]
def cntN (n : Nat) : Nat := (n + 7) / 8
theorem strB_words (s : List UInt8) {n k : Nat} (hk : k ≤ s.length) (hn : s.length ≤ 8 * n) : strB (wordsN (nat8 s) n) k = s.take k := by
  apply List.ext_getElem?
  intro i
  rw [List.getElem?_take]
  by_cases hi : i < k
  · rw [if_pos hi]
    simp only [strB, List.getElem?_map, List.getElem?_range hi, Option.map_some]
    rw [byteAt_words (nat8_small s) (by omega), List.getElem?_eq_getElem (show i < s.length by omega)]
    simp only [nat8, List.getElem?_map, List.getElem?_eq_getElem (show i < s.length by omega), Option.map_some, Option.getD_some, UInt8.ofNat_toNat]
  · rw [if_neg hi, List.getElem?_eq_none (by rw [strB_len]; omega)]
theorem clearW_words (s : List UInt8) {n k : Nat} (hn : s.length ≤ 8 * n) : clearW (wordsN (nat8 s) n) k ↔ ∀ i c, k ≤ i → s[i]? = some c → c = 0 := by
  unfold clearW
  rw [wordsN_len]
  constructor
  · intro h i c hi hc
    have hl : i < s.length := by
      rcases Nat.lt_or_ge i s.length with h' | h'
      · exact h'
      · rw [List.getElem?_eq_none h'] at hc; cases hc
    have := h i hi (by omega)
    rw [byteAt_words (nat8_small s) (by omega)] at this
    simp only [nat8, List.getElem?_map, hc, Option.map_some, Option.getD_some] at this
    exact UInt8.toNat_inj.1 this
  · intro h i hi hl
    rw [byteAt_words (nat8_small s) (by omega)]
    cases hc : s[i]? with
    | none => simp [nat8, hc]
    | some c => rw [h i c hi hc] at hc; simp [nat8, hc]
theorem words_inj {s t : List UInt8} {n : Nat} (hl : s.length = t.length) (hn : s.length ≤ 8 * n) : wordsN (nat8 s) n = wordsN (nat8 t) n ↔ s = t := by
  constructor
  · intro h
    have h1 := strB_words s (Nat.le_refl _) hn
    have h2 := strB_words t (Nat.le_refl _) (hl ▸ hn)
    rw [h, hl, h2, List.take_length, ← hl, List.take_length] at h1
    exact h1.symm
  · intro h; rw [h]
def cntI (n : Int) : Int := if n ≤ 0 then 0 else (n - 1) / 8 + 1
theorem count_ok {g : Nat} (he : T.env g = none) (hf : T.func g = some aCount) {n : Int} (h1 : -9223372036854775808 ≤ n) (h2 : n ≤ 9223372036854775807) :
    Gives T g [.int .i64 n] h fun r h' => r = .int .i64 (cntI n) ∧ h' = h := by
  refine gives_func he hf rfl ?_
  simp only [aCount, cCount, vms, vmc, AOpd.val, Nat.reduceEqDiff, reduceCtorEq, Nat.reduceAdd, Nat.reduceBEq, bin_quo8]
  by_cases hn : n ≤ 0
  · simp only [hn, vms, vmc, AOpd.val, Nat.reduceEqDiff, reduceCtorEq, Nat.reduceAdd, Nat.reduceBEq, cntI]; exact ⟨trivial, trivial⟩
  · have e1 : IntKind.i64.wrap (n - 1) = n - 1 := wrap_i64 (by omega) (by omega)
    have e2 : (n - 1).tdiv 8 = (n - 1) / 8 := Int.tdiv_eq_ediv_of_nonneg (by omega)
    have e3 : IntKind.i64.wrap ((n - 1) / 8) = (n - 1) / 8 := wrap_i64 (by omega) (by omega)
    have e4 : IntKind.i64.wrap ((n - 1) / 8 + 1) = (n - 1) / 8 + 1 := wrap_i64 (by omega) (by omega)
    simp only [hn, vms, vmc, AOpd.val, Nat.reduceEqDiff, reduceCtorEq, Nat.reduceAdd, Nat.reduceBEq, cntI, e1, e2, e3, e4]; exact ⟨trivial, trivial⟩
theorem cnt_nat (n : Nat) : cntI (n : Int) = (cntN n : Nat) := by
  unfold cntI cntN
  split
  · omega
  · omega

theorem bin_or_u64 {a b : Nat} (ha : a < 18446744073709551616) (hb : b < 18446744073709551616) (hab : a ||| b < 18446744073709551616) : binV .or (.int .u64 (a : Int)) (.int .u64 (b : Int)) = some (.int .u64 ((a ||| b : Nat) : Int)) := by
  show some (AV.int .u64 (IntKind.u64.wrap ((BitVec.ofInt 64 (a : Int) ||| BitVec.ofInt 64 (b : Int)).toNat : Int))) = _
  rw [BitVec.toNat_or, BitVec.ofInt_natCast, BitVec.ofInt_natCast, BitVec.toNat_ofNat, BitVec.toNat_ofNat, Nat.mod_eq_of_lt (show a < 2 ^ 64 by omega), Nat.mod_eq_of_lt (show b < 2 ^ 64 by omega),
    show IntKind.u64.wrap ((a ||| b : Nat) : Int) = ((a ||| b : Nat) : Int) from wrap_nat_le (show (a ||| b) ≤ 18446744073709551615 by omega)]
theorem wrap_u8 {n : Nat} : IntKind.u8.wrap (n : Int) = ((n % 256 : Nat) : Int) := by
  unfold IntKind.wrap
  simp [IntKind.bits, IntKind.signed]
theorem bin_shl_u64 {a n : Nat} (hn : n < 64) (h : a * 2 ^ n < 18446744073709551616) : binV .shl (.int .u64 (a : Int)) (.int .u64 (n : Int)) = some (.int .u64 ((a * 2 ^ n : Nat) : Int)) := by
  show intShift .shl .u64 (.ofNat a) (.ofNat n) = _
  unfold intShift
  rw [if_neg (by simp only [Int.ofNat_eq_natCast]; omega)]
  show some (AV.int .u64 (IntKind.u64.wrap (Int.ofNat a * 2 ^ min n 64))) = _
  rw [Nat.min_eq_left (by omega), show Int.ofNat a * 2 ^ n = ((a * 2 ^ n : Nat) : Int) by simp, wrap_u64 h]
theorem bin_shr_u64 {a n : Nat} (hn : n < 64) (k : IntKind) : binV .shr (.int .u64 (a : Int)) (.int k (n : Int)) = some (.int .u64 ((a / 2 ^ n : Nat) : Int)) := by
  show intShift .shr .u64 (.ofNat a) (.ofNat n) = _
  unfold intShift
  rw [if_neg (by simp only [Int.ofNat_eq_natCast]; omega)]
  show some (AV.int .u64 (Int.fdiv (Int.ofNat a) (2 ^ min n 64))) = _
  rw [Nat.min_eq_left (by omega), Int.fdiv_eq_ediv_of_nonneg _ (Int.le_of_lt (Int.pow_pos (by decide)))]
  simp
theorem bin_shl_i64 {a n : Nat} (hn : n < 64) (h : a * 2 ^ n < 18446744073709551616) : binV .shl (.int .u64 (a : Int)) (.int .i64 (n : Int)) = some (.int .u64 ((a * 2 ^ n : Nat) : Int)) := by
  show intShift .shl .u64 (.ofNat a) (.ofNat n) = _
  unfold intShift
  rw [if_neg (by simp only [Int.ofNat_eq_natCast]; omega)]
  show some (AV.int .u64 (IntKind.u64.wrap (Int.ofNat a * 2 ^ min n 64))) = _
  rw [Nat.min_eq_left (by omega), show Int.ofNat a * 2 ^ n = ((a * 2 ^ n : Nat) : Int) by simp, wrap_u64 h]
/-- Words as wcells. -/
def wcells (ws : List Nat) : List AV := ws.map fun (n : Nat) => .int .u64 (n : Int)
theorem wcells_get {ws : List Nat} {i n : Nat} (h : ws[i]? = some n) : (wcells ws)[i]? = some (.int .u64 (n : Int)) := by simp [wcells, h]
theorem wcells_len (ws : List Nat) : (wcells ws).length = ws.length := by simp [wcells]
theorem rep_cells (n : Nat) : rep [.int .u64 0] n = wcells (wordsN [] n) := by
  rw [rep_one, wordsN_none]; simp [wcells]
theorem tdiv8 (n : Nat) : ((n : Int)).tdiv 8 = ((n / 8 : Nat) : Int) := by rw [Int.tdiv_eq_ediv_of_nonneg (by omega)]; rfl
theorem tmod8 (n : Nat) : ((n : Int)).tmod 8 = ((n % 8 : Nat) : Int) := by rw [Int.tmod_eq_emod_of_nonneg (by omega)]; rfl
theorem idxStr_nat {s : List UInt8} {i : Nat} {c : UInt8} {k : IntKind} (h : s[i]? = some c) : idxStrV (.str s) (.int k (i : Int)) = some (.int .u8 (c.toNat : Nat)) := by
  simp [idxStrV, h]
theorem nat8_get {s : List UInt8} {i : Nat} {c : UInt8} (h : s[i]? = some c) : (nat8 s)[i]? = some c.toNat := by simp [nat8, h]
theorem pow8 {m b : Nat} (hm : m < 8) (hb : b < 256) : b * 2 ^ (8 * m) < 18446744073709551616 := by
  have h1 : b * 2 ^ (8 * m) ≤ 255 * 2 ^ (8 * m) := Nat.mul_le_mul_right _ (by omega)
  have h2 : 2 ^ (8 * m) ≤ 2 ^ 56 := Nat.pow_le_pow_right (by decide) (by omega)
  have h3 : (2 : Nat) ^ 56 = 72057594037927936 := by decide
  omega

/-- Words of a text: what comes and what lies there. -/
def IsWords (h : AH) (s : List UInt8) (r : AV) (h' : AH) : Prop :=
  Ext h h' ∧ Low h' ∧ h'.next = h.next + 1 ∧ r = .slice h.next 0 1 (cntN s.length) (cntN s.length) true ∧ h'.get h.next = some (.cells (wcells (wordsN (nat8 s) (cntN s.length))) true)
theorem words_ok {g gc : Nat} (he : T.env g = none) (hf : T.func g = some (aWords gc)) (he' : T.env gc = none) (hf' : T.func gc = some aCount) (hw : Low h) {s : List UInt8} (hl : s.length < 1000000) :
    Gives T g [.str s] h (IsWords h s) := by
  refine gives_func he hf rfl ?_
  simp only [aWords, cWords, vms, vmc, AOpd.val, Nat.reduceEqDiff, reduceCtorEq, Nat.reduceAdd, Nat.reduceBEq]
  refine Gives.bind ((count_ok he' hf' (by omega) (by omega)).mono ?_)
  rintro _ _ ⟨rfl, rfl⟩
  rename_i h
  rw [cnt_nat]
  have hc : cntN s.length < 1000000 := by unfold cntN; omega
  simp only [vms, vmc, AOpd.val, Nat.reduceEqDiff, reduceCtorEq, Nat.reduceAdd, Nat.reduceBEq, mkSlice_nat (h := h) (sz := 1) (bytes := 8) (zero := [.int .u64 0]) (k := .i64) (k' := .i64) (Nat.le_refl (cntN s.length)) (by omega) (by omega), rep_cells]
  refine wpc_loop (fun m f h' => ∃ i, m = s.length - i ∧ i ≤ s.length ∧ Ext h h' ∧ Low h' ∧ h'.next = h.next + 1 ∧ f.at 0 = .str s ∧ f.at 3 = .slice h.next 0 1 (cntN s.length) (cntN s.length) true ∧ f.at 10 = .int .i64 (s.length : Nat) ∧ f.at 11 = .int .i64 (i : Nat) ∧
      h'.get h.next = some (.cells (wcells (wordsN ((nat8 s).take i) (cntN s.length))) true)) ?_ s.length _ _ ⟨0, by simp, by simp, Ext.new _ _, hw.new _, rfl, ?_⟩
  · rintro m f h' ⟨i, rfl, hi, hx, hlow, hn, h0, h3, h10, h11, hg⟩
    simp only [cWordsl0, vms, vmc, AOpd.val, Nat.reduceEqDiff, reduceCtorEq, Nat.reduceAdd, Nat.reduceBEq, h0, h3, h10, h11]
    by_cases hlt : i < s.length
    · have hd : decide ((i : Int) < (s.length : Int)) = true := by simpa using hlt
      obtain ⟨c, hci⟩ : ∃ c, s[i]? = some c := ⟨_, List.getElem?_eq_getElem hlt⟩
      have hcl := c.toNat_lt
      have hj : i / 8 < cntN s.length := by unfold cntN; omega
      have hwl := wordsN_len ((nat8 s).take i) (cntN s.length)
      have hsm : ∀ b ∈ (nat8 s).take i, b < 256 := fun b hb => nat8_small s b (List.mem_of_mem_take hb)
      obtain ⟨hor, hst⟩ := words_step (n := cntN s.length) (nat8_small s) (nat8_get hci) hj
      have hold := wordsN_get (bs := (nat8 s).take i) hj
      have hlt64 := wordsN_lt hsm _ (List.mem_of_getElem? hold)
      have hp8 := pow8 (m := i % 8) (b := c.toNat) (Nat.mod_lt _ (by decide)) hcl
      have e1 : (8 : Int) * ((i % 8 : Nat) : Int) = ((8 * (i % 8) : Nat) : Int) := by omega
      simp only [hd, vms, vmc, AOpd.val, Nat.reduceEqDiff, reduceCtorEq, Nat.reduceAdd, Nat.reduceBEq, h0, h3, h10, h11, bin_quo8, bin_rem8, tdiv8, tmod8, wrap_i64n (show i / 8 < 9223372036854775808 by omega), idx_nat hj, Nat.zero_add, load_at hg (wcells_get hold), idxStr_nat hci,
        wrap_u64 (show c.toNat < 18446744073709551616 by omega), e1, wrap_i64n (show 8 * (i % 8) < 9223372036854775808 by omega), wrap_u64 (show 8 * (i % 8) < 18446744073709551616 by omega),
        bin_shl_u64 (show 8 * (i % 8) < 64 by omega) hp8, bin_or_u64 hlt64 hp8 hor, store_int hg (show i / 8 < (wcells (wordsN ((nat8 s).take i) (cntN s.length))).length by rw [wcells_len, hwl]; exact hj)]
      have hw : IntKind.i64.wrap ((i : Int) + 1) = ((i + 1 : Nat) : Int) := by rw [wrap_i64 (by omega) (by omega)]; rfl
      refine ⟨s.length - (i + 1), by omega, i + 1, rfl, by omega, hx.set (Nat.le_refl _) _, hlow.set (by omega) _, hn, ?_⟩
      simp only [hw]
      refine ⟨trivial, trivial, trivial, trivial, ?_⟩
      rw [get_set_same, hst]
      simp only [wcells, List.map_set]
    · have hd : decide ((i : Int) < (s.length : Int)) = false := by simpa using hlt
      simp only [hd, vms, vmc, AOpd.val, Nat.reduceEqDiff, reduceCtorEq, Nat.reduceAdd, Nat.reduceBEq, h3]
      refine ⟨hx, hlow, hn, rfl, ?_⟩
      rw [hg, words_end (by rw [nat8_len]; omega)]
  · simp only [vms, vmc, AOpd.val, Nat.reduceEqDiff, reduceCtorEq, Nat.reduceAdd, Nat.reduceBEq, get_new_same, List.take_zero]
    repeat' (first | exact trivial | exact rfl | apply And.intro)
theorem words_ref {g : Nat} (he : T.env g = none) (hf : T.func g = some aRWords) (hw : Low h) {s : List UInt8} (hl : s.length < 1000000) :
    Gives T g [.str s] h (IsWords h s) := by
  refine gives_func he hf rfl ?_
  have hc : cntN s.length < 1000000 := by unfold cntN; omega
  have e7 : IntKind.i64.wrap ((s.length : Int) + 7) = ((s.length + 7 : Nat) : Int) := by rw [wrap_i64 (by omega) (by omega)]; rfl
  have e8 : (s.length + 7) / 8 = cntN s.length := rfl
  simp only [aRWords, cRWords, vms, vmc, AOpd.val, Nat.reduceEqDiff, reduceCtorEq, Nat.reduceAdd, Nat.reduceBEq, e7, bin_quo8, tdiv8, e8, wrap_i64n (show cntN s.length < 9223372036854775808 by omega), mkSlice_nat (h := h) (sz := 1) (bytes := 8) (zero := [.int .u64 0]) (k := .i64) (k' := .i64) (Nat.le_refl (cntN s.length)) (by omega) (by omega), rep_cells]
  refine wpc_loop (fun m f h' => ∃ i, m = s.length - i ∧ i ≤ s.length ∧ Ext h h' ∧ Low h' ∧ h'.next = h.next + 1 ∧ f.at 0 = .str s ∧ f.at 3 = .slice h.next 0 1 (cntN s.length) (cntN s.length) true ∧ f.at 4 = .int .i64 (i : Nat) ∧
      h'.get h.next = some (.cells (wcells (wordsN ((nat8 s).take i) (cntN s.length))) true)) ?_ s.length _ _ ⟨0, by simp, by simp, Ext.new _ _, hw.new _, rfl, ?_⟩
  · rintro m f h' ⟨i, rfl, hi, hx, hlow, hn, h0, h3, h4, hg⟩
    simp only [cRWordsl0, vms, vmc, AOpd.val, Nat.reduceEqDiff, reduceCtorEq, Nat.reduceAdd, Nat.reduceBEq, h0, h3, h4]
    by_cases hlt : i < s.length
    · have hd : decide ((i : Int) < (s.length : Int)) = true := by simpa using hlt
      obtain ⟨c, hci⟩ : ∃ c, s[i]? = some c := ⟨_, List.getElem?_eq_getElem hlt⟩
      have hcl := c.toNat_lt
      have hj : i / 8 < cntN s.length := by unfold cntN; omega
      have hwl := wordsN_len ((nat8 s).take i) (cntN s.length)
      have hsm : ∀ b ∈ (nat8 s).take i, b < 256 := fun b hb => nat8_small s b (List.mem_of_mem_take hb)
      obtain ⟨hor, hst⟩ := words_step (n := cntN s.length) (nat8_small s) (nat8_get hci) hj
      have hold := wordsN_get (bs := (nat8 s).take i) hj
      have hlt64 := wordsN_lt hsm _ (List.mem_of_getElem? hold)
      have hp8 := pow8 (m := i % 8) (b := c.toNat) (Nat.mod_lt _ (by decide)) hcl
      have e1 : (8 : Int) * ((i % 8 : Nat) : Int) = ((8 * (i % 8) : Nat) : Int) := by omega
      simp only [hd, vms, vmc, AOpd.val, Nat.reduceEqDiff, reduceCtorEq, Nat.reduceAdd, Nat.reduceBEq, h0, h3, h4, bin_quo8, bin_rem8, tdiv8, tmod8, wrap_i64n (show i / 8 < 9223372036854775808 by omega), idx_nat hj, Nat.zero_add, load_at hg (wcells_get hold), idxStr_nat hci,
        wrap_u64 (show c.toNat < 18446744073709551616 by omega), e1, wrap_i64n (show 8 * (i % 8) < 9223372036854775808 by omega),
        bin_shl_i64 (show 8 * (i % 8) < 64 by omega) hp8, bin_or_u64 hlt64 hp8 hor, store_int hg (show i / 8 < (wcells (wordsN ((nat8 s).take i) (cntN s.length))).length by rw [wcells_len, hwl]; exact hj)]
      have hw : IntKind.i64.wrap ((i : Int) + 1) = ((i + 1 : Nat) : Int) := by rw [wrap_i64 (by omega) (by omega)]; rfl
      refine ⟨s.length - (i + 1), by omega, i + 1, rfl, by omega, hx.set (Nat.le_refl _) _, hlow.set (by omega) _, hn, ?_⟩
      simp only [hw]
      refine ⟨trivial, trivial, trivial, ?_⟩
      rw [get_set_same, hst]
      simp only [wcells, List.map_set]
    · have hd : decide ((i : Int) < (s.length : Int)) = false := by simpa using hlt
      simp only [hd, vms, vmc, AOpd.val, Nat.reduceEqDiff, reduceCtorEq, Nat.reduceAdd, Nat.reduceBEq, h3]
      refine ⟨hx, hlow, hn, rfl, ?_⟩
      rw [hg, words_end (by rw [nat8_len]; omega)]
  · simp only [vms, vmc, AOpd.val, Nat.reduceEqDiff, reduceCtorEq, Nat.reduceAdd, Nat.reduceBEq, get_new_same, List.take_zero]
    repeat' (first | exact trivial | exact rfl | apply And.intro)
/-- Bytes as wcells. -/
def bycells (ws : List Nat) (n : Nat) : List AV := (List.range n).map fun k => .int .u8 (byteAt ws k : Nat)
theorem bycells_len (ws : List Nat) (n : Nat) : (bycells ws n).length = n := by simp [bycells]
theorem bycells_get {ws : List Nat} {n k : Nat} (h : k < n) : (bycells ws n)[k]? = some (.int .u8 (byteAt ws k : Nat)) := by simp [bycells, h]
theorem byteAt_lt (ws : List Nat) (k : Nat) : byteAt ws k < 256 := Nat.mod_lt _ (by decide)
theorem strOf_bcells (ws : List Nat) (n : Nat) : strOf (bycells ws n) = some (strB ws n) := by
  unfold bycells strB
  generalize List.range n = l
  induction l with
  | nil => rfl
  | cons a l ih => simp [strOf, ih]
theorem sees_words {v : AV} {ws : List Nat} (s : Sees h v (wcells ws)) : lenOfV v = some ws.length := by rw [s.len, wcells_len]
theorem Sees.word {v : AV} {ws : List Nat} (s : Sees h v (wcells ws)) {i n : Nat} (hn : ws[i]? = some n) (k : IntKind) : ∃ a, idxAddrV 1 v (.int k (i : Int)) = some a ∧ loadV h false 1 a = some (.int .u64 (n : Int)) :=
  s.at (wcells_get hn) k
theorem Sees.ext {h h' : AH} {v : AV} {xs : List AV} (s : Sees h v xs) (hx : Ext h h') (hw : ∀ o x, h.get o = some x → o < h.next) : Sees h' v xs := by
  rcases s with ⟨rfl, rfl⟩ | ⟨o, off, cap, ex, l, rw, rfl, hg, hll, hc⟩
  · exact .inl ⟨rfl, rfl⟩
  · exact .inr ⟨o, off, cap, ex, l, rw, rfl, (hx.2 o (hw o _ hg)).trans hg, hll, hc⟩
theorem byteAt_of {ws : List Nat} {t w i : Nat} (h : ws[t]? = some w) (hi : i < 8) : byteAt ws (8 * t + i) = w / 2 ^ (8 * i) % 256 := by
  unfold byteAt
  rw [show (8 * t + i) / 8 = t by omega, show (8 * t + i) % 8 = i by omega, h]; rfl
theorem byteAt_idx {ws : List Nat} {k w : Nat} (h : ws[k / 8]? = some w) : byteAt ws k = w / 2 ^ (8 * (k % 8)) % 256 := by
  unfold byteAt; rw [h]; rfl
/-- A byte behind others, in the room that is there. -/
theorem append_in {h : AH} {o n cap : Nat} {ex : Bool} {l : List AV} {k : IntKind} {b : Int} {o2 : Nat} (hg : h.get o = some (.cells l true)) (hg2 : h.get o2 = some (.cells [.int k b] true)) (hn : n < cap) (hl : n < l.length) :
    appV 1 1 h (.slice o 0 1 n cap ex) (.slice o2 0 1 1 1 true) = some (.slice o 0 1 (n + 1) cap ex, h.set o (.cells (l.set n (.int k b)) true)) := by
  simp only [appV, lenOfV, Option.bind_some, AH.elems, AH.load, hg2, List.length_cons, List.length_nil]
  simp only [appendV]
  have hs : h.store o (0 + n * 1) [.int k b] = some (h.set o (.cells (l.set n (.int k b)) true)) := by
    simp only [AH.store, hg, List.length_cons, List.length_nil, List.all_cons, List.all_nil, Bool.and_true, setMany]
    rw [if_pos ⟨by omega, rfl⟩]; simp
  simp only [Nat.zero_add, Nat.mul_one] at hs
  simp [show n + 1 ≤ cap by omega, hs]
/-- What a text of bytes comes to. -/
def IsText (h : AH) (ws : List Nat) (n : Int) (r : AV) (h' : AH) : Prop :=
  Ext h h' ∧ Low h' ∧ r = .tuple [.str (bytesR ws n).1, .int .i64 (bytesR ws n).2]
theorem bytesR_arg {ws : List Nat} {n : Int} (h : n < 0 ∨ n > 8 * ws.length) : bytesR ws n = ([], 1) := by unfold bytesR; rw [if_pos h]
theorem bytesR_form {ws : List Nat} {n : Nat} (h : n ≤ 8 * ws.length) {k : Nat} (hk : n ≤ k) (hk' : k < 8 * ws.length) (hb : byteAt ws k ≠ 0) : bytesR ws n = ([], 5) := by
  unfold bytesR
  rw [if_neg (by omega), if_neg (fun hc => hb (hc k (by simpa using hk) hk'))]
theorem bytesR_ok {ws : List Nat} {n : Nat} (h : n ≤ 8 * ws.length) (hc : clearW ws n) : bytesR ws n = (strB ws n, 0) := by
  unfold bytesR
  rw [if_neg (by omega), if_pos (by simpa using hc)]; simp

theorem bytes_ref {g : Nat} (he : T.env g = none) (hf : T.func g = some aRBytes) {v : AV} {ws : List Nat} {n : Int} (hw : Low h) (s : Sees h v (wcells ws)) (hl : ws.length < 1000000) (h64 : ∀ x ∈ ws, x < 18446744073709551616) (hn1 : -9223372036854775808 ≤ n) (hn2 : n ≤ 9223372036854775807) :
    Gives T g [v, .int .i64 n] h (IsText h ws n) := by
  refine gives_func he hf rfl ?_
  have e8 : IntKind.i64.wrap (8 * (ws.length : Int)) = 8 * (ws.length : Int) := wrap_i64 (by omega) (by omega)
  simp only [aRBytes, cRBytes, vms, vmc, AOpd.val, Nat.reduceEqDiff, reduceCtorEq, Nat.reduceAdd, Nat.reduceBEq, sees_words s, e8]
  by_cases hneg : n < 0
  · simp only [hneg, vms, vmc, AOpd.val, Nat.reduceEqDiff, reduceCtorEq, Nat.reduceAdd, Nat.reduceBEq, sees_words s, e8]
    exact ⟨Ext.refl _, hw, by rw [bytesR_arg (.inl hneg)]⟩
  by_cases hbig : n > 8 * (ws.length : Int)
  · simp only [hneg, hbig, vms, vmc, AOpd.val, Nat.reduceEqDiff, reduceCtorEq, Nat.reduceAdd, Nat.reduceBEq, sees_words s, e8]
    exact ⟨Ext.refl _, hw, by rw [bytesR_arg (.inr hbig)]⟩
  obtain ⟨m, rfl⟩ : ∃ m : Nat, n = m := ⟨n.toNat, by omega⟩
  have hm : m ≤ 8 * ws.length := by omega
  simp only [hneg, hbig, vms, vmc, AOpd.val, Nat.reduceEqDiff, reduceCtorEq, Nat.reduceAdd, Nat.reduceBEq, sees_words s, e8, mkSlice_nat (h := h) (sz := 1) (bytes := 1) (zero := [.int .u8 0]) (k := .i64) (k' := .i64) (Nat.le_refl m) (by omega) (by omega)]
  have s' : ∀ {h' : AH}, Ext h h' → Sees h' v (wcells ws) := fun hx => s.ext hx hw
  refine wpc_loop (fun k f h' => ∃ i, k = m - i ∧ i ≤ m ∧ Ext h h' ∧ Low h' ∧ f.at 0 = v ∧ f.at 1 = .int .i64 (m : Nat) ∧ f.at 6 = .slice h.next 0 1 m m true ∧ f.at 7 = .int .i64 (i : Nat) ∧
      ∃ l, h'.get h.next = some (.cells l true) ∧ l.length = m ∧ ∀ j, j < i → l[j]? = some (.int .u8 (byteAt ws j : Nat))) ?_ m _ _ ⟨0, by simp, by simp, Ext.new _ _, hw.new _, ?_⟩
  · rintro k f h' ⟨i, rfl, hi, hx, hlow, h0, h1, h6, h7, l, hg, hll, hpre⟩
    simp only [cRBytesl0, vms, vmc, AOpd.val, Nat.reduceEqDiff, reduceCtorEq, Nat.reduceAdd, Nat.reduceBEq, h0, h1, h6, h7]
    by_cases hlt : i < m
    · have hd : decide ((i : Int) < (m : Int)) = true := by simpa using hlt
      obtain ⟨w, hwi⟩ : ∃ w, ws[i / 8]? = some w := ⟨_, List.getElem?_eq_getElem (by omega)⟩
      obtain ⟨p, hp1, hp2⟩ := (s' hx).word hwi .i64
      have e1 : (8 : Int) * ((i % 8 : Nat) : Int) = ((8 * (i % 8) : Nat) : Int) := by omega
      simp only [hd, vms, vmc, AOpd.val, Nat.reduceEqDiff, reduceCtorEq, Nat.reduceAdd, Nat.reduceBEq, h0, h1, h6, h7, bin_quo8, bin_rem8, tdiv8, tmod8, wrap_i64n (show i / 8 < 9223372036854775808 by omega), hp1, hp2, e1, wrap_i64n (show 8 * (i % 8) < 9223372036854775808 by omega),
        bin_shr_u64 (show 8 * (i % 8) < 64 by omega), wrap_u8, ← byteAt_idx hwi, idx_nat hlt, Nat.zero_add, store_int hg (show i < l.length by omega)]
      have hw' : IntKind.i64.wrap ((i : Int) + 1) = ((i + 1 : Nat) : Int) := by rw [wrap_i64 (by omega) (by omega)]; rfl
      refine ⟨m - (i + 1), by omega, i + 1, rfl, by omega, hx.set (Nat.le_refl _) _, hlow.set (hlow _ _ hg) _, ?_⟩
      simp only [hw']
      refine ⟨trivial, trivial, trivial, trivial, l.set i _, get_set_same, by simp [hll], ?_⟩
      intro j hj
      rw [List.getElem?_set]
      by_cases e : i = j
      · subst e; rw [if_pos rfl, if_pos (by omega)]
      · rw [if_neg e]; exact hpre j (by omega)
    · have hd : decide ((i : Int) < (m : Int)) = false := by simpa using hlt
      simp only [hd, vms, vmc, AOpd.val, Nat.reduceEqDiff, reduceCtorEq, Nat.reduceAdd, Nat.reduceBEq, h1]
      have hi : i = m := by omega
      subst hi
      have hl2 : l = bycells ws i := by
        apply List.ext_getElem?
        intro j
        by_cases hj : j < i
        · rw [hpre j hj, bycells_get hj]
        · rw [List.getElem?_eq_none (by omega), List.getElem?_eq_none (by rw [bycells_len]; omega)]
      subst hl2
      refine wpc_loop (fun k f h'' => ∃ t, k = 8 * ws.length - t ∧ i ≤ t ∧ t ≤ 8 * ws.length ∧ h'' = h' ∧ f.at 0 = v ∧ f.at 6 = .slice h.next 0 1 i i true ∧ f.at 8 = .int .i64 (t : Nat) ∧ ∀ j, i ≤ j → j < t → byteAt ws j = 0) ?_ (8 * ws.length - i) _ _ ⟨i, rfl, Nat.le_refl _, hm, rfl, ?_⟩
      · rintro k f h'' ⟨t, rfl, hit, ht, rfl, h0, h6, h8, hpre2⟩
        simp only [cRBytesl1, vms, vmc, AOpd.val, Nat.reduceEqDiff, reduceCtorEq, Nat.reduceAdd, Nat.reduceBEq, h0, h6, h8, sees_words s, e8]
        by_cases hlt2 : t < 8 * ws.length
        · have hd2 : decide ((t : Int) < 8 * (ws.length : Int)) = true := by simp; omega
          obtain ⟨w, hwi⟩ : ∃ w, ws[t / 8]? = some w := ⟨_, List.getElem?_eq_getElem (by omega)⟩
          obtain ⟨p, hp1, hp2⟩ := (s' hx).word hwi .i64
          have e1 : (8 : Int) * ((t % 8 : Nat) : Int) = ((8 * (t % 8) : Nat) : Int) := by omega
          simp only [hd2, vms, vmc, AOpd.val, Nat.reduceEqDiff, reduceCtorEq, Nat.reduceAdd, Nat.reduceBEq, h0, h6, h8, bin_quo8, bin_rem8, tdiv8, tmod8, wrap_i64n (show t / 8 < 9223372036854775808 by omega), hp1, hp2, e1, wrap_i64n (show 8 * (t % 8) < 9223372036854775808 by omega),
            bin_shr_u64 (show 8 * (t % 8) < 64 by omega), wrap_u8, ← byteAt_idx hwi]
          by_cases hz : byteAt ws t = 0
          · have hb : ((byteAt ws t : Nat) : Int) != 0 ↔ False := by simp [hz]
            simp only [hz, vms, vmc, AOpd.val, Nat.reduceEqDiff, reduceCtorEq, Nat.reduceAdd, Nat.reduceBEq]
            have hw' : IntKind.i64.wrap ((t : Int) + 1) = ((t + 1 : Nat) : Int) := by rw [wrap_i64 (by omega) (by omega)]; rfl
            simp only [show (((0 : Nat) : Int) != 0) = false from rfl, vms, vmc, AOpd.val, Nat.reduceEqDiff, reduceCtorEq, Nat.reduceAdd, Nat.reduceBEq, h0, h6, h8, hw']
            refine ⟨8 * ws.length - (t + 1), by omega, t + 1, rfl, by omega, by omega, trivial, trivial, trivial, rfl, ?_⟩
            intro j hj1 hj2
            by_cases e : j = t
            · subst e; exact hz
            · exact hpre2 j hj1 (by omega)
          · have hb : (((byteAt ws t : Nat) : Int) != 0) = true := by simp; omega
            simp only [hb, vms, vmc, AOpd.val, Nat.reduceEqDiff, reduceCtorEq, Nat.reduceAdd, Nat.reduceBEq]
            exact ⟨hx, hlow, by rw [bytesR_form hm hit hlt2 hz]⟩
        · have hd2 : decide ((t : Int) < 8 * (ws.length : Int)) = false := by simp; omega
          have hc : clearW ws i := fun j hj1 hj2 => hpre2 j hj1 (by omega)
          have hts : toStrV h'' (.slice h.next 0 1 i i true) = some (.str (strB ws i)) := by
            simp only [toStrV, if_true, AH.load, hg, List.drop_zero]
            rw [if_pos (by rw [bycells_len]; omega), List.take_of_length_le (by rw [bycells_len]; omega)]
            simp [strOf_bcells]
          simp only [hd2, vms, vmc, AOpd.val, Nat.reduceEqDiff, reduceCtorEq, Nat.reduceAdd, Nat.reduceBEq, h6, hts]
          exact ⟨hx, hlow, by rw [bytesR_ok hm hc]⟩
      · simp only [vms, vmc, AOpd.val, Nat.reduceEqDiff, reduceCtorEq, Nat.reduceAdd, Nat.reduceBEq, h0, h6, h1]
        refine ⟨trivial, trivial, trivial, fun j h1 h2 => absurd h2 (by omega)⟩
  · simp only [vms, vmc, AOpd.val, Nat.reduceEqDiff, reduceCtorEq, Nat.reduceAdd, Nat.reduceBEq, get_new_same]
    refine ⟨trivial, trivial, trivial, rfl, _, rfl, by rw [rep_one]; simp, fun j hj => absurd hj (by omega)⟩
/-- Ext, but for one object that is one's own. -/
theorem Ext.keep {a b : AH} (k : Ext a b) {c : AH} (hn : b.next ≤ c.next) (hg : ∀ o, o < a.next → c.get o = b.get o) : Ext a c :=
  ⟨Nat.le_trans k.1 hn, fun o ho => (hg o ho).trans (k.2 o ho)⟩
theorem get_new_old {h : AH} {p : Nat} {x : AObj} (e : p < h.next) : (h.new x).get p = h.get p := by rw [AH.get_new, if_neg (by omega)]
theorem slc_fromW {o len cap n : Nat} {ex : Bool} (hn : n ≤ len) (hc : n ≤ cap) : slcV 1 (.slice o 0 1 len cap ex) (some (.int .i64 (n : Int))) none none =
    some (.slice o (if ex && decide (cap = n) then 0 else n) 1 (len - n) (cap - n) ex) := by
  simp [slcV, bounds, boundM, boundH, boundL, natOf, hn, Option.filter]
theorem buildOne {k : IntKind} {n : Int} {z : AV} : fillV [z] [(0, 1, .int k n)] = some [.int k n] := by
  simp [fillV, AV.isDef, AV.cells, setMany]

/-- Eight bytes of a word, behind what is there. -/
theorem bytes_in {g : Nat} (he : T.env g = none) {ws : List Nat} {t w N : Nat} {h0 : AH} {v : AV} {n : Int} (hwt : ws[t]? = some w) (hN : N = 8 * ws.length) (hNs : N < 8000000) (Q : AExit → Fr → AH → Prop)
    (f : Fr) (h : AH) (hx : Ext h0 h) (hlow : Low h) (hb : h0.next < h.next) (e0 : f.at 0 = v) (e1 : f.at 1 = .int .i64 n) (e6 : f.at 6 = .slice h0.next 0 1 (8 * t) N true) (e8 : f.at 8 = .int .u64 (w : Int)) (e31 : f.at 31 = .int .i64 0)
    {vs vl vi : AV} (e25 : f.at 25 = vs) (e26 : f.at 26 = vl) (e27 : f.at 27 = vi)
    (hg : ∃ l, h.get h0.next = some (.cells l true) ∧ l.length = N ∧ ∀ j, j < 8 * t → l[j]? = some (.int .u8 (byteAt ws j : Nat)))
    (hQ : ∀ f h, Ext h0 h → Low h → h0.next < h.next → f.at 0 = v → f.at 1 = .int .i64 n → f.at 6 = .slice h0.next 0 1 (8 * (t + 1)) N true → f.at 25 = vs → f.at 26 = vl → f.at 27 = vi →
      (∃ l, h.get h0.next = some (.cells l true) ∧ l.length = N ∧ ∀ j, j < 8 * (t + 1) → l[j]? = some (.int .u8 (byteAt ws j : Nat))) → Q (.exit 2) f h) :
    Wp (code T (.loop cBytesl0) f h) Q := by
  have ht : t < ws.length := by
    rcases Nat.lt_or_ge t ws.length with h' | h'
    · exact h'
    · rw [List.getElem?_eq_none h'] at hwt; cases hwt
  refine wpc_loop (fun m f h => ∃ i, m = 8 - i ∧ i ≤ 8 ∧ Ext h0 h ∧ Low h ∧ h0.next < h.next ∧ f.at 0 = v ∧ f.at 1 = .int .i64 n ∧ f.at 6 = .slice h0.next 0 1 (8 * t + i) N true ∧ f.at 8 = .int .u64 (w : Int) ∧ f.at 31 = .int .i64 (i : Nat) ∧ f.at 25 = vs ∧ f.at 26 = vl ∧ f.at 27 = vi ∧
      ∃ l, h.get h0.next = some (.cells l true) ∧ l.length = N ∧ ∀ j, j < 8 * t + i → l[j]? = some (.int .u8 (byteAt ws j : Nat))) ?_ 8 f h ⟨0, rfl, by omega, hx, hlow, hb, e0, e1, e6, e8, e31, e25, e26, e27, hg⟩
  rintro m f h ⟨i, rfl, hi, hx, hlow, hb, e0, e1, e6, e8, e31, e25, e26, e27, l, hg, hl, hpre⟩
  simp only [cBytesl0, vms, vmc, AOpd.val, Nat.reduceEqDiff, reduceCtorEq, Nat.reduceAdd, Nat.reduceBEq, e0, e1, e6, e8, e31]
  by_cases hlt : i < 8
  · have hd : decide ((i : Int) < 8) = true := by simp; omega
    have w1 : (8 : Int) * (i : Int) = ((8 * i : Nat) : Int) := by omega
    simp only [hd, vms, vmc, AOpd.val, Nat.reduceEqDiff, reduceCtorEq, Nat.reduceAdd, Nat.reduceBEq, e0, e1, e6, e8, e31, w1, wrap_i64n (show 8 * i < 9223372036854775808 by omega), wrap_u64 (show 8 * i < 18446744073709551616 by omega), bin_shr_u64 (show 8 * i < 64 by omega), wrap_u8, ← byteAt_of hwt hlt, buildOne]
    have hg' : (h.new (.cells [.int .u8 (byteAt ws (8 * t + i) : Nat)] true)).get h0.next = some (.cells l true) := by rw [get_new_old hb]; exact hg
    simp only [append_in hg' get_new_same (show 8 * t + i < N by omega) (show 8 * t + i < l.length by omega), vms, vmc, AOpd.val, Nat.reduceEqDiff, reduceCtorEq, Nat.reduceAdd, Nat.reduceBEq, e0, e1, e6, e8, e31]
    have hw' : IntKind.i64.wrap ((i : Int) + 1) = ((i + 1 : Nat) : Int) := by rw [wrap_i64 (by omega) (by omega)]; rfl
    refine ⟨8 - (i + 1), by omega, i + 1, rfl, by omega, (hx.trans (Ext.new _ _)).set (Nat.le_refl _) _, (hlow.new _).set (by rw [next_new]; omega) _, by rw [next_set, next_new]; omega, ?_⟩
    simp only [e0, e1, e6, e8, e31, e25, e26, e27, hw']
    refine ⟨trivial, trivial, rfl, trivial, trivial, trivial, trivial, trivial, _, get_set_same, by simp [hl], ?_⟩
    intro j hj
    rw [List.getElem?_set]
    by_cases e : 8 * t + i = j
    · subst e; rw [if_pos rfl, if_pos (by omega)]
    · rw [if_neg e]; exact hpre j (by omega)
  · have hd : decide ((i : Int) < 8) = false := by simp; omega
    have : i = 8 := by omega
    subst this
    simp only [hd, vms, vmc, AOpd.val, Nat.reduceEqDiff, reduceCtorEq, Nat.reduceAdd, Nat.reduceBEq]
    refine hQ _ h hx hlow hb ?_ ?_ ?_ ?_ ?_ ?_ ⟨l, hg, hl, fun j hj => hpre j (by omega)⟩ <;> simp only [vms, vmc, AOpd.val, Nat.reduceEqDiff, reduceCtorEq, Nat.reduceAdd, Nat.reduceBEq, e0, e1, e6, e25, e26, e27, show 8 * (t + 1) = 8 * t + 8 by omega]
theorem bytes_ok {g : Nat} (he : T.env g = none) (hf : T.func g = some aBytes) {v : AV} {ws : List Nat} {n : Int} (hw : Low h) (s : Sees h v (wcells ws)) (hl : ws.length < 1000000) (hn1 : -9223372036854775808 ≤ n) (hn2 : n ≤ 9223372036854775807) :
    Gives T g [v, .int .i64 n] h (IsText h ws n) := by
  refine gives_func he hf rfl ?_
  have e8 : IntKind.i64.wrap (8 * (ws.length : Int)) = ((8 * ws.length : Nat) : Int) := by rw [wrap_i64 (by omega) (by omega)]; rfl
  simp only [aBytes, cBytes, vms, vmc, AOpd.val, Nat.reduceEqDiff, reduceCtorEq, Nat.reduceAdd, Nat.reduceBEq, sees_words s, e8]
  by_cases hneg : n < 0
  · simp only [hneg, vms, vmc, AOpd.val, Nat.reduceEqDiff, reduceCtorEq, Nat.reduceAdd, Nat.reduceBEq, sees_words s, e8]
    exact ⟨Ext.refl _, hw, by rw [bytesR_arg (.inl hneg)]⟩
  by_cases hbig : n > ((8 * ws.length : Nat) : Int)
  · simp only [hneg, hbig, vms, vmc, AOpd.val, Nat.reduceEqDiff, reduceCtorEq, Nat.reduceAdd, Nat.reduceBEq, sees_words s, e8]
    exact ⟨Ext.refl _, hw, by rw [bytesR_arg (.inr (by omega))]⟩
  obtain ⟨m, rfl⟩ : ∃ m : Nat, n = m := ⟨n.toNat, by omega⟩
  have hm : m ≤ 8 * ws.length := by omega
  have hmk := mkSlice_nat (h := h) (sz := 1) (bytes := 1) (zero := [.int .u8 0]) (k := .i64) (k' := .i64) (Nat.zero_le (8 * ws.length)) (by omega) (by omega)
  simp only [hneg, hbig, vms, vmc, AOpd.val, Nat.reduceEqDiff, reduceCtorEq, Nat.reduceAdd, Nat.reduceBEq, sees_words s, e8, show (AV.int .i64 0) = .int .i64 ((0 : Nat) : Int) from rfl, hmk]
  have s' : ∀ {h' : AH}, Ext h h' → Sees h' v (wcells ws) := fun hx => s.ext hx hw
  refine wpc_loop (fun k f h' => ∃ t, k = ws.length - t ∧ t ≤ ws.length ∧ Ext h h' ∧ Low h' ∧ h.next < h'.next ∧ f.at 0 = v ∧ f.at 1 = .int .i64 (m : Nat) ∧ f.at 6 = .slice h.next 0 1 (8 * t) (8 * ws.length) true ∧ f.at 25 = v ∧ f.at 26 = .int .i64 (ws.length : Nat) ∧ f.at 27 = .int .i64 (t : Nat) ∧
      ∃ l, h'.get h.next = some (.cells l true) ∧ l.length = 8 * ws.length ∧ ∀ j, j < 8 * t → l[j]? = some (.int .u8 (byteAt ws j : Nat))) ?_ ws.length _ _ ⟨0, by simp, by simp, Ext.new _ _, hw.new _, by rw [next_new]; omega, ?_⟩
  · rintro k f h' ⟨t, rfl, ht, hx, hlow, hb, h0, h1, h6, h25, h26, h27, hg⟩
    simp only [cBytesl1, vms, vmc, AOpd.val, Nat.reduceEqDiff, reduceCtorEq, Nat.reduceAdd, Nat.reduceBEq, h0, h1, h6, h25, h26, h27]
    by_cases hlt : t < ws.length
    · have hd : decide ((t : Int) < (ws.length : Int)) = true := by simpa using hlt
      obtain ⟨w, hwt⟩ : ∃ w, ws[t]? = some w := ⟨_, List.getElem?_eq_getElem hlt⟩
      obtain ⟨p, hp1, hp2⟩ := (s' hx).word hwt .i64
      simp only [hd, vms, vmc, AOpd.val, Nat.reduceEqDiff, reduceCtorEq, Nat.reduceAdd, Nat.reduceBEq, h0, h1, h6, h25, h26, h27, hp1, hp2]
      refine bytes_in he hwt rfl (by omega) _ _ _ hx hlow hb ?_ ?_ ?_ ?_ ?_ (vs := v) (vl := .int .i64 (ws.length : Nat)) (vi := .int .i64 (t : Nat)) ?_ ?_ ?_ hg ?_ (n := m) (v := v)
      rotate_right
      · intro f h2 hx hlow hb h0 h1 h6 h25 h26 h27 hg
        have hw' : IntKind.i64.wrap ((t : Int) + 1) = ((t + 1 : Nat) : Int) := by rw [wrap_i64 (by omega) (by omega)]; rfl
        simp only [vms, vmc, AOpd.val, Nat.reduceEqDiff, reduceCtorEq, Nat.reduceAdd, Nat.reduceBEq, h27, hw']
        refine ⟨ws.length - (t + 1), by omega, t + 1, rfl, by omega, hx, hlow, hb, ?_⟩
        simp only [h0, h1, h6, h25, h26]
        exact ⟨trivial, trivial, trivial, trivial, trivial, trivial, hg⟩
      all_goals simp only [vms, vmc, AOpd.val, Nat.reduceEqDiff, reduceCtorEq, Nat.reduceAdd, Nat.reduceBEq, h0, h1, h6, h25, h26, h27]
    · have hd : decide ((t : Int) < (ws.length : Int)) = false := by simpa using hlt
      have : t = ws.length := by omega
      subst this
      obtain ⟨l, hg, hll, hpre⟩ := hg
      have hl2 : l = bycells ws (8 * ws.length) := by
        apply List.ext_getElem?
        intro j
        by_cases hj : j < 8 * ws.length
        · rw [hpre j hj, bycells_get hj]
        · rw [List.getElem?_eq_none (by omega), List.getElem?_eq_none (by rw [bycells_len]; omega)]
      subst hl2
      have hsf := slc_fromW (o := h.next) (len := 8 * ws.length) (cap := 8 * ws.length) (ex := true) hm hm
      simp only [hd, vms, vmc, AOpd.val, Nat.reduceEqDiff, reduceCtorEq, Nat.reduceAdd, Nat.reduceBEq, h1, h6, hsf, lenOfV]
      refine wpc_loop (fun k f h'' => ∃ t, k = 8 * ws.length - m - t ∧ t ≤ 8 * ws.length - m ∧ h'' = h' ∧ f.at 1 = .int .i64 (m : Nat) ∧ f.at 6 = .slice h.next 0 1 (8 * ws.length) (8 * ws.length) true ∧ f.at 47 = .slice h.next (if true && decide (8 * ws.length = m) then 0 else m) 1 (8 * ws.length - m) (8 * ws.length - m) true ∧
          f.at 48 = .int .i64 ((8 * ws.length - m : Nat) : Int) ∧ f.at 49 = .int .i64 (t : Nat) ∧ ∀ j, m ≤ j → j < m + t → byteAt ws j = 0) ?_ (8 * ws.length - m) _ _ ⟨0, rfl, Nat.zero_le _, rfl, ?_⟩
      · rintro k f h'' ⟨t, rfl, ht, rfl, h1, h6, h47, h48, h49, hpre2⟩
        simp only [cBytesl2, vms, vmc, AOpd.val, Nat.reduceEqDiff, reduceCtorEq, Nat.reduceAdd, Nat.reduceBEq, h1, h6, h47, h48, h49]
        by_cases hlt2 : t < 8 * ws.length - m
        · have hd2 : decide ((t : Int) < ((8 * ws.length - m : Nat) : Int)) = true := by simp; omega
          have hne : ¬ 8 * ws.length = m := by omega
          simp only [hd2, vms, vmc, AOpd.val, Nat.reduceEqDiff, reduceCtorEq, Nat.reduceAdd, Nat.reduceBEq, h1, h6, h47, h48, h49, hne, Bool.and_false, Bool.false_eq_true, idx_nat hlt2, load_at hg (bycells_get (ws := ws) (show m + t < 8 * ws.length by omega))]
          by_cases hz : byteAt ws (m + t) = 0
          · simp only [hz, show (((0 : Nat) : Int) != 0) = false from rfl, vms, vmc, AOpd.val, Nat.reduceEqDiff, reduceCtorEq, Nat.reduceAdd, Nat.reduceBEq, h49]
            have hw' : IntKind.i64.wrap ((t : Int) + 1) = ((t + 1 : Nat) : Int) := by rw [wrap_i64 (by omega) (by omega)]; rfl
            simp only [vms, vmc, AOpd.val, Nat.reduceEqDiff, reduceCtorEq, Nat.reduceAdd, Nat.reduceBEq, h1, h6, h47, h48, h49, hw']
            refine ⟨8 * ws.length - m - (t + 1), by omega, t + 1, rfl, by omega, trivial, trivial, trivial, ?_⟩
            refine ⟨by simp [hne], trivial, rfl, ?_⟩
            intro j hj1 hj2
            by_cases e : j = m + t
            · subst e; exact hz
            · exact hpre2 j hj1 (by omega)
          · have hb : (((byteAt ws (m + t) : Nat) : Int) != 0) = true := by simp; omega
            simp only [hb, vms, vmc, AOpd.val, Nat.reduceEqDiff, reduceCtorEq, Nat.reduceAdd, Nat.reduceBEq]
            exact ⟨hx, hlow, by rw [bytesR_form hm (show m ≤ m + t by omega) (by omega) hz]⟩
        · have hd2 : decide ((t : Int) < ((8 * ws.length - m : Nat) : Int)) = false := by simp; omega
          have hc : clearW ws m := fun j hj1 hj2 => hpre2 j hj1 (by omega)
          have hst := slc_to0 (o := h.next) (len := 8 * ws.length) (cap := 8 * ws.length) (ex := true) hm
          have hts : toStrV h'' (.slice h.next 0 1 m (8 * ws.length) true) = some (.str (strB ws m)) := by
            simp only [toStrV, if_true, AH.load, hg, List.drop_zero]
            rw [if_pos (by rw [bycells_len]; omega)]
            have : (bycells ws (8 * ws.length)).take m = bycells ws m := by
              apply List.ext_getElem?
              intro j
              rw [List.getElem?_take]
              by_cases hj : j < m
              · rw [if_pos hj, bycells_get hj, bycells_get (by omega)]
              · rw [if_neg hj, List.getElem?_eq_none (by rw [bycells_len]; omega)]
            rw [this]
            simp [strOf_bcells]
          simp only [hd2, vms, vmc, AOpd.val, Nat.reduceEqDiff, reduceCtorEq, Nat.reduceAdd, Nat.reduceBEq, h1, h6, hst, hts]
          exact ⟨hx, hlow, by rw [bytesR_ok hm hc]; rfl⟩
      · simp only [vms, vmc, AOpd.val, Nat.reduceEqDiff, reduceCtorEq, Nat.reduceAdd, Nat.reduceBEq, h1, h6]
        exact ⟨trivial, trivial, trivial, trivial, trivial, fun j h1 h2 => absurd h2 (by omega)⟩
  · simp only [vms, vmc, AOpd.val, Nat.reduceEqDiff, reduceCtorEq, Nat.reduceAdd, Nat.reduceBEq, get_new_same]
    refine ⟨trivial, trivial, trivial, trivial, trivial, trivial, _, rfl, by rw [rep_one]; simp, fun j hj => absurd hj (by omega)⟩
theorem Sees.elems {v : AV} {xs : List AV} (s : Sees h v xs) : h.elems 1 xs.length v = some xs := by
  rcases s with ⟨rfl, rfl⟩ | ⟨o, off, cap, ex, l, rw, rfl, hg, hll, hc⟩
  · simp [AH.elems]
  · simp only [AH.elems, true_and, Nat.le_refl, if_true, load_of hg, Nat.mul_one]
    rw [if_pos hll]
    congr 1
    apply List.ext_getElem?
    intro i
    by_cases hi : i < xs.length
    · rw [List.getElem?_take, if_pos hi, List.getElem?_drop, hc i _ (List.getElem?_eq_getElem hi), List.getElem?_eq_getElem hi]
    · rw [List.getElem?_eq_none (by simp; omega), List.getElem?_eq_none (by omega)]
theorem wcells_int (ws : List Nat) : wcells ws = (ws.map fun n : Nat => (n : Int)).map (.int .u64) := by simp [wcells]
theorem wcells_flat (ws : List Nat) : (wcells ws).all AV.flat = true := by
  simp only [wcells, List.all_eq_true, List.mem_map]
  rintro x ⟨n, _, rfl⟩; rfl
theorem Ext.quiet {h h' : AH} (k : Ext h h') : Quiet h h' := ⟨k.1, fun o ho _ => k.2 o ho⟩
/-- A list, and 80 marks behind it. -/
def IsRoomy (h : AH) (xs : List AV) (m : AV) (r : AV) (h' : AH) : Prop :=
  Ext h h' ∧ Low h' ∧ r = .slice h.next 0 1 (xs.length + 80) (xs.length + 80) true ∧ h.next < h'.next ∧ ∃ l, h'.get h.next = some (.cells l true) ∧ l.length = xs.length + 80 ∧
    (∀ (j : Nat) (x : AV), xs[j]? = some x → l[j]? = some x) ∧ ∀ (j : Nat), xs.length ≤ j → j < xs.length + 80 → l[j]? = some m
theorem roomy_ok {g bytes : Nat} {z : AV} (he : T.env g = none) (hf : T.func g = some (aRoomy bytes z)) (hby : bytes ≤ 1000) {v : AV} {xs : List AV} {m : AV} (hw : Low h) (s : Sees h v xs) (hl : xs.length < 1000000) (hfl : xs.all AV.flat = true) (hm1 : m.cells = [m]) (hm2 : m.flat = true) :
    Gives T g [v, m] h (IsRoomy h xs m) := by
  refine gives_func he hf rfl ?_
  have e80 : IntKind.i64.wrap ((xs.length : Int) + 80) = ((xs.length + 80 : Nat) : Int) := by rw [wrap_i64 (by omega) (by omega)]; rfl
  have hmul : bytes * (xs.length + 80) ≤ 281474976710656 := Nat.le_trans (Nat.mul_le_mul hby (show xs.length + 80 ≤ 1000080 by omega)) (by decide)
  have hmk := mkSlice_nat (h := h) (sz := 1) (bytes := bytes) (zero := [z]) (k := .i64) (k' := .i64) (Nat.le_refl (xs.length + 80)) (by omega) hmul
  have s1 : Sees (h.new (.cells (rep [z] (xs.length + 80)) true)) v xs := s.ext (Ext.new _ _) hw
  have hel := s1.elems
  obtain ⟨l1, hcp, hl1, hl1a⟩ : ∃ l1, copyV 1 (h.new (.cells (rep [z] (xs.length + 80)) true)) (.slice h.next 0 1 (xs.length + 80) (xs.length + 80) true) v = some (.int .i64 (xs.length : Nat), (if xs.length = 0 then h.new (.cells (rep [z] (xs.length + 80)) true) else (h.new (.cells (rep [z] (xs.length + 80)) true)).set h.next (.cells l1 true))) ∧
      l1.length = xs.length + 80 ∧ ∀ (j : Nat) (x : AV), xs[j]? = some x → l1[j]? = some x := by
    refine ⟨setMany (rep [z] (xs.length + 80)) 0 xs, ?_, by rw [(setMany_get _ _ _).1, rep_one]; simp, ?_⟩
    · simp only [copyV, s1.len, len_slice, Option.bind_some, Nat.min_eq_left (show xs.length ≤ xs.length + 80 by omega), hel, if_true]
      by_cases e0 : xs.length = 0
      · have : xs = [] := List.eq_nil_of_length_eq_zero e0
        subst this
        rfl
      · have hne : xs.isEmpty = false := by
          cases xs with
          | nil => exact absurd rfl e0
          | cons a r => rfl
        simp only [hne, Bool.false_eq_true, if_false, if_neg e0, AH.store, get_new_same, hfl]
        rw [if_pos ⟨by rw [rep_one]; simp, trivial⟩]
        rfl
    · intro j x hx
      have := (((setMany_get (rep [z] (xs.length + 80)) xs 0).2 (by rw [rep_one]; simp)).2.1 j _ hx)
      simpa using this
  simp only [aRoomy, cRoomy, vms, vmc, AOpd.val, Nat.reduceEqDiff, reduceCtorEq, Nat.reduceAdd, Nat.reduceBEq, s.len, e80, hmk, hcp, s1.len]
  have hstart : ∃ l, (if xs.length = 0 then h.new (.cells (rep [z] (xs.length + 80)) true) else (h.new (.cells (rep [z] (xs.length + 80)) true)).set h.next (.cells l1 true)).get h.next = some (.cells l true) ∧ l.length = xs.length + 80 ∧ (∀ (j : Nat) (x : AV), xs[j]? = some x → l[j]? = some x) := by
    by_cases e0 : xs.length = 0
    · rw [if_pos e0]
      refine ⟨_, get_new_same, by rw [rep_one]; simp, fun j x hx => ?_⟩
      rw [List.eq_nil_of_length_eq_zero e0] at hx; cases hx
    · rw [if_neg e0]
      exact ⟨l1, get_set_same, hl1, hl1a⟩
  have hE : Ext h (if xs.length = 0 then h.new (.cells (rep [z] (xs.length + 80)) true) else (h.new (.cells (rep [z] (xs.length + 80)) true)).set h.next (.cells l1 true)) := by
    split
    · exact Ext.new _ _
    · exact (Ext.new _ _).set (Nat.le_refl _) _
  have hL : Low (if xs.length = 0 then h.new (.cells (rep [z] (xs.length + 80)) true) else (h.new (.cells (rep [z] (xs.length + 80)) true)).set h.next (.cells l1 true)) := by
    split
    · exact hw.new _
    · exact (hw.new _).set (by rw [next_new]; omega) _
  have hN : h.next < (if xs.length = 0 then h.new (.cells (rep [z] (xs.length + 80)) true) else (h.new (.cells (rep [z] (xs.length + 80)) true)).set h.next (.cells l1 true)).next := by
    split
    · rw [next_new]; omega
    · rw [next_set, next_new]; omega
  generalize (if xs.length = 0 then h.new (.cells (rep [z] (xs.length + 80)) true) else (h.new (.cells (rep [z] (xs.length + 80)) true)).set h.next (.cells l1 true)) = hh at hstart hE hL hN
  obtain ⟨l, hg, hll, hla⟩ := hstart
  refine wpc_loop (fun k f h' => ∃ i, k = xs.length + 80 - i ∧ xs.length ≤ i ∧ i ≤ xs.length + 80 ∧ Ext h h' ∧ Low h' ∧ h.next < h'.next ∧ f.at 1 = m ∧ f.at 5 = .slice h.next 0 1 (xs.length + 80) (xs.length + 80) true ∧ f.at 6 = .int .i64 (i : Nat) ∧
      ∃ l, h'.get h.next = some (.cells l true) ∧ l.length = xs.length + 80 ∧ (∀ (j : Nat) (x : AV), xs[j]? = some x → l[j]? = some x) ∧ ∀ (j : Nat), xs.length ≤ j → j < i → l[j]? = some m) ?_ 80 _ _ ⟨xs.length, by omega, Nat.le_refl _, by omega, hE, hL, hN, ?_⟩
  · rintro k f h' ⟨i, rfl, hi1, hi2, hx, hlow, hb, h1, h5, h6, l, hg, hll, hla, hpre⟩
    simp only [cRoomyl0, vms, vmc, AOpd.val, Nat.reduceEqDiff, reduceCtorEq, Nat.reduceAdd, Nat.reduceBEq, h1, h5, h6]
    by_cases hlt : i < xs.length + 80
    · have hd : decide ((i : Int) < ((xs.length + 80 : Nat) : Int)) = true := by rw [decide_eq_true_eq]; omega
      simp only [hd, vms, vmc, AOpd.val, Nat.reduceEqDiff, reduceCtorEq, Nat.reduceAdd, Nat.reduceBEq, h1, h5, h6, idx_nat hlt, Nat.zero_add, store_at hg (show i < l.length by omega) hm1 hm2]
      have hw' : IntKind.i64.wrap ((i : Int) + 1) = ((i + 1 : Nat) : Int) := by rw [wrap_i64 (by omega) (by omega)]; rfl
      refine ⟨xs.length + 80 - (i + 1), by omega, i + 1, rfl, by omega, by omega, hx.set (Nat.le_refl _) _, hlow.set hb _, hb, ?_⟩
      simp only [vms, vmc, AOpd.val, Nat.reduceEqDiff, reduceCtorEq, Nat.reduceAdd, Nat.reduceBEq, hw']
      refine ⟨trivial, trivial, trivial, _, get_set_same, by simp [hll], ?_, ?_⟩
      · intro j x hj
        have : j < xs.length := by
          rcases Nat.lt_or_ge j xs.length with h' | h'
          · exact h'
          · rw [List.getElem?_eq_none h'] at hj; cases hj
        rw [List.getElem?_set, if_neg (by omega)]
        exact hla j x hj
      · intro j hj1 hj2
        rw [List.getElem?_set]
        by_cases e : i = j
        · subst e; rw [if_pos rfl, if_pos (by omega)]
        · rw [if_neg e]; exact hpre j hj1 (by omega)
    · have hd : decide ((i : Int) < ((xs.length + 80 : Nat) : Int)) = false := by rw [decide_eq_false_iff_not]; omega
      simp only [hd, vms, vmc, AOpd.val, Nat.reduceEqDiff, reduceCtorEq, Nat.reduceAdd, Nat.reduceBEq, h5]
      exact ⟨hx, hlow, rfl, hb, l, hg, hll, hla, fun j h1 h2 => hpre j h1 (by omega)⟩
  · simp only [vms, vmc, AOpd.val, Nat.reduceEqDiff, reduceCtorEq, Nat.reduceAdd, Nat.reduceBEq]
    exact ⟨trivial, trivial, trivial, l, hg, hll, hla, fun j h1 h2 => absurd h2 (by omega)⟩
/-- Is it as it was? -/
theorem intact_ok {g gs : Nat} {k : IntKind} (he : T.env g = none) (hf : T.func g = some (aIntact gs)) (he' : T.env gs = none) (hf' : T.func gs = some aSame) {v : AV} {xs : List Int} {m : Int} {o : Nat} {l : List AV} {rw' : Bool} (s : Sees h v (xs.map (.int k))) (hl : xs.length < 1000000)
    (hg : h.get o = some (.cells l rw')) (hll : l.length = xs.length + 80) (hla : ∀ (j : Nat) (x : AV), (xs.map (AV.int k))[j]? = some x → l[j]? = some x) (hma : ∀ (j : Nat), xs.length ≤ j → j < xs.length + 80 → l[j]? = some (AV.int k m)) :
    Gives T g [.slice o 0 1 (xs.length + 80) (xs.length + 80) true, v, .int k m] h fun r h' => r = .bool true ∧ h' = h := by
  refine gives_func he hf rfl ?_
  have e80 : IntKind.i64.wrap ((xs.length : Int) + 80) = ((xs.length + 80 : Nat) : Int) := by rw [wrap_i64 (by omega) (by omega)]; rfl
  have hst := slc_to0 (o := o) (len := xs.length + 80) (cap := xs.length + 80) (ex := true) (show xs.length ≤ xs.length + 80 by omega)
  have s2 : Sees h (.slice o 0 1 xs.length (xs.length + 80) true) (xs.map (.int k)) := by
    refine .inr ⟨o, 0, xs.length + 80, true, l, rw', by rw [List.length_map], hg, by rw [List.length_map]; omega, fun i x hx => ?_⟩
    rw [Nat.zero_add]; exact hla i x hx
  have sl : lenOfV v = some xs.length := by rw [s.len, List.length_map]
  simp only [aIntact, cIntact, vms, vmc, AOpd.val, Nat.reduceEqDiff, reduceCtorEq, Nat.reduceAdd, Nat.reduceBEq, sl, e80, hst]
  refine Gives.bind ((sameG_ok he' hf' s2 s (by omega) (by omega)).mono ?_)
  rintro _ _ ⟨rfl, rfl⟩
  rename_i h
  simp only [vms, vmc, AOpd.val, Nat.reduceEqDiff, reduceCtorEq, Nat.reduceAdd, Nat.reduceBEq, sl]
  refine wpc_loop (fun kk f h' => ∃ i, kk = xs.length + 80 - i ∧ xs.length ≤ i ∧ i ≤ xs.length + 80 ∧ h' = h ∧ f.at 0 = .slice o 0 1 (xs.length + 80) (xs.length + 80) true ∧ f.at 2 = .int k m ∧ f.at 7 = .int .i64 (i : Nat)) ?_ 80 _ _ ⟨xs.length, by omega, Nat.le_refl _, by omega, rfl, ?_⟩
  · rintro kk f h' ⟨i, rfl, hi1, hi2, rfl, h0, h2, h7⟩
    simp only [cIntactl0, vms, vmc, AOpd.val, Nat.reduceEqDiff, reduceCtorEq, Nat.reduceAdd, Nat.reduceBEq, h0, h2, h7]
    by_cases hlt : i < xs.length + 80
    · have hd : decide ((i : Int) < ((xs.length + 80 : Nat) : Int)) = true := by rw [decide_eq_true_eq]; omega
      have hw' : IntKind.i64.wrap ((i : Int) + 1) = ((i + 1 : Nat) : Int) := by rw [wrap_i64 (by omega) (by omega)]; rfl
      simp only [hd, vms, vmc, AOpd.val, Nat.reduceEqDiff, reduceCtorEq, Nat.reduceAdd, Nat.reduceBEq, h0, h2, h7, idx_nat hlt, Nat.zero_add, load_at hg (hma i hi1 hlt), hw']
      exact ⟨xs.length + 80 - (i + 1), by omega, i + 1, rfl, by omega, by omega, trivial, trivial, trivial, rfl⟩
    · have hd : decide ((i : Int) < ((xs.length + 80 : Nat) : Int)) = false := by rw [decide_eq_false_iff_not]; omega
      simp only [hd, vms, vmc, AOpd.val, Nat.reduceEqDiff, reduceCtorEq, Nat.reduceAdd, Nat.reduceBEq]
      exact ⟨trivial, trivial⟩
  · simp only [vms, vmc, AOpd.val, Nat.reduceEqDiff, reduceCtorEq, Nat.reduceAdd, Nat.reduceBEq]
    exact ⟨trivial, trivial, trivial⟩
end Go.Vm

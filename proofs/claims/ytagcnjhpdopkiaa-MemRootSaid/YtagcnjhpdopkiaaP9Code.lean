/- The abstract code of the functions that the laws reach, as a program printed it; each is what the compiler makes of the given function. -/
import Derived.Test.YtagcnjhpdopkiaaVmZ
import Derived.Test.YtagcnjhpdopkiaaRows
namespace Go.Proofs.Ytagcnjhpdopkiaa
open Go.Vm
/- 3: tendril/tendrillaw9.MemRuns -/
def c3 : ACode := (.seq (.ops [⟨(some 0), .mov (.con (.bool false)), none⟩])
  (.seq (.ops [⟨(some 1), .new [(.int .i64 0), (.int .i64 0), (.int .i64 0), (.int .i64 0), (.int .i64 0), (.int .i64 0), (.int .i64 0), (.int .i64 0)], none⟩])
  (.seq (.ops [⟨(some 10), .fieldAddr 0 (.tmp 1), none⟩,
    ⟨(some 11), .idxAddrArr 5 1 (.tmp 10) (.con (.int .i64 0)), none⟩,
    ⟨none, .store 1 (.tmp 11) (.con (.int .i64 2)), none⟩,
    ⟨(some 12), .fieldAddr 0 (.tmp 1), none⟩,
    ⟨(some 13), .idxAddrArr 5 1 (.tmp 12) (.con (.int .i64 4)), none⟩,
    ⟨none, .store 1 (.tmp 13) (.con (.int .i64 1)), none⟩,
    ⟨(some 14), .fieldAddr 5 (.tmp 1), none⟩,
    ⟨none, .store 1 (.tmp 14) (.con (.int .i64 2)), none⟩,
    ⟨(some 15), .fieldAddr 6 (.tmp 1), none⟩,
    ⟨none, .store 1 (.tmp 15) (.con (.int .i64 4)), none⟩,
    ⟨(some 16), .fieldAddr 7 (.tmp 1), none⟩,
    ⟨none, .store 1 (.tmp 16) (.con (.int .i64 3)), none⟩])
  (.seq (.ops [⟨(some 18), .load true 8 (.tmp 1), none⟩,
    ⟨(some 19), .call 11 [(.tmp 18)], none⟩,
    ⟨(some 17), .mov (.tmp 19), none⟩,
    ⟨(some 20), .extract (.tmp 17) 0, none⟩,
    ⟨(some 21), .extract (.tmp 17) 1, none⟩,
    ⟨(some 2), .mov (.tmp 20), none⟩,
    ⟨(some 3), .mov (.tmp 21), none⟩])
  (.seq (.seq (.ops [⟨(some 22), .mov (.tmp 2), none⟩,
    ⟨(some 23), .eqNil 0 false (.tmp 22) (.con .nilPtr), none⟩,
    ⟨(some 24), .mov (.tmp 23), none⟩,
    ⟨(some 25), .mov (.tmp 3), (some (24, false))⟩,
    ⟨(some 26), .bin .neq (.tmp 25) (.con (.int .i64 0)), (some (24, false))⟩,
    ⟨(some 27), .pick (.tmp 24) (.con (.bool true)) (.tmp 26), none⟩])
  (.cond (.tmp 27)
  (.seq (.ops [⟨(some 0), .mov (.con (.bool false)), none⟩])
  .ret)
  .skip))
  (.seq (.ops [⟨(some 28), .mov (.tmp 2), none⟩,
    ⟨(some 29), .build [(.int .i64 0), (.int .i64 0), (.int .i64 0), (.int .i64 0), (.int .u64 0), .nilSlice] [(0, 1, (.con (.int .i64 14)))], none⟩,
    ⟨(some 30), .call 12 [(.tmp 28), (.con (.int .i64 0)), (.tmp 29)], none⟩,
    ⟨(some 31), .field false 2 1 (.tmp 30), none⟩,
    ⟨(some 4), .mov (.tmp 31), none⟩])
  (.seq (.ops [⟨(some 32), .mov (.tmp 2), none⟩,
    ⟨(some 33), .build [(.int .i64 0), (.int .i64 0), (.int .i64 0), (.int .i64 0), (.int .u64 0), .nilSlice] [(0, 1, (.con (.int .i64 14)))], none⟩,
    ⟨(some 34), .call 12 [(.tmp 32), (.con (.int .i64 1)), (.tmp 33)], none⟩,
    ⟨(some 35), .field false 2 1 (.tmp 34), none⟩,
    ⟨(some 5), .mov (.tmp 35), none⟩])
  (.seq (.ops [⟨(some 36), .mov (.tmp 2), none⟩,
    ⟨(some 37), .build [(.int .i64 0), (.int .i64 0), (.int .i64 0), (.int .i64 0), (.int .u64 0), .nilSlice] [(0, 1, (.con (.int .i64 13)))], none⟩,
    ⟨(some 38), .call 12 [(.tmp 36), (.con (.int .i64 1)), (.tmp 37)], none⟩,
    ⟨(some 39), .field false 1 1 (.tmp 38), none⟩,
    ⟨(some 6), .mov (.tmp 39), none⟩])
  (.seq (.ops [⟨(some 40), .mov (.tmp 2), none⟩,
    ⟨(some 41), .build [(.int .i64 0), (.int .i64 0), (.int .i64 0), (.int .i64 0), (.int .u64 0), .nilSlice] [(0, 1, (.con (.int .i64 15)))], none⟩,
    ⟨(some 42), .call 12 [(.tmp 40), (.con (.int .i64 1)), (.tmp 41)], none⟩,
    ⟨(some 43), .field false 2 1 (.tmp 42), none⟩,
    ⟨(some 7), .mov (.tmp 43), none⟩])
  (.seq (.ops [⟨(some 44), .mov (.tmp 2), none⟩,
    ⟨(some 45), .build [(.int .i64 0), (.int .i64 0), (.int .i64 0), (.int .i64 0), (.int .u64 0), .nilSlice] [(0, 1, (.con (.int .i64 15)))], none⟩,
    ⟨(some 46), .call 12 [(.tmp 44), (.con (.int .i64 0)), (.tmp 45)], none⟩,
    ⟨(some 47), .field false 2 1 (.tmp 46), none⟩,
    ⟨(some 8), .mov (.tmp 47), none⟩])
  (.seq (.ops [⟨(some 48), .mov (.tmp 2), none⟩,
    ⟨(some 49), .mov (.tmp 2), none⟩,
    ⟨(some 50), .call 13 [(.tmp 49)], none⟩,
    ⟨(some 51), .build [(.int .i64 0), (.int .i64 0), (.int .i64 0), (.int .i64 0), (.int .u64 0), .nilSlice] [(0, 1, (.con (.int .i64 5))), (1, 1, (.tmp 50))], none⟩,
    ⟨(some 52), .call 12 [(.tmp 48), (.con (.int .i64 0)), (.tmp 51)], none⟩,
    ⟨(some 53), .field false 0 1 (.tmp 52), none⟩,
    ⟨(some 9), .mov (.tmp 53), none⟩])
  (.seq (.ops [⟨(some 54), .mov (.tmp 2), none⟩,
    ⟨(some 55), .call 13 [(.tmp 54)], none⟩,
    ⟨(some 56), .bin .eql (.tmp 55) (.con (.int .i64 65538)), none⟩,
    ⟨(some 57), .mov (.tmp 56), none⟩,
    ⟨(some 58), .mov (.tmp 4), (some (57, true))⟩,
    ⟨(some 59), .pick (.tmp 57) (.tmp 58) (.con (.bool false)), none⟩,
    ⟨(some 60), .mov (.tmp 59), none⟩,
    ⟨(some 61), .mov (.tmp 5), (some (60, true))⟩,
    ⟨(some 62), .un .not (.tmp 61), (some (60, true))⟩,
    ⟨(some 63), .pick (.tmp 60) (.tmp 62) (.con (.bool false)), none⟩,
    ⟨(some 64), .mov (.tmp 63), none⟩,
    ⟨(some 65), .mov (.tmp 6), (some (64, true))⟩,
    ⟨(some 66), .bin .eql (.tmp 65) (.con (.int .i64 0)), (some (64, true))⟩,
    ⟨(some 67), .pick (.tmp 64) (.tmp 66) (.con (.bool false)), none⟩,
    ⟨(some 68), .mov (.tmp 67), none⟩,
    ⟨(some 69), .mov (.tmp 7), (some (68, true))⟩,
    ⟨(some 70), .un .not (.tmp 69), (some (68, true))⟩,
    ⟨(some 71), .pick (.tmp 68) (.tmp 70) (.con (.bool false)), none⟩,
    ⟨(some 72), .mov (.tmp 71), none⟩,
    ⟨(some 73), .mov (.tmp 8), (some (72, true))⟩,
    ⟨(some 74), .pick (.tmp 72) (.tmp 73) (.con (.bool false)), none⟩,
    ⟨(some 75), .mov (.tmp 74), none⟩,
    ⟨(some 76), .mov (.tmp 9), (some (75, true))⟩,
    ⟨(some 77), .bin .eql (.tmp 76) (.con (.int .i64 1)), (some (75, true))⟩,
    ⟨(some 78), .pick (.tmp 75) (.tmp 77) (.con (.bool false)), none⟩,
    ⟨(some 79), .mov (.tmp 78), none⟩,
    ⟨(some 80), .mov (.tmp 2), (some (79, true))⟩,
    ⟨(some 81), .call 14 [(.tmp 80)], (some (79, true))⟩,
    ⟨(some 82), .bin .eql (.tmp 81) (.con (.int .i64 1)), (some (79, true))⟩,
    ⟨(some 83), .pick (.tmp 79) (.tmp 82) (.con (.bool false)), none⟩,
    ⟨(some 0), .mov (.tmp 83), none⟩])
  .ret))))))))))))
def a3 : AFunc := ⟨0, c3, [.tmp 0]⟩

/- 4: tendril/tendrillaw9.MemTurns -/
def c4l0 : ACode := (.seq (.seq (.ops [⟨(some 31), .mov (.tmp 11), none⟩,
    ⟨(some 32), .mov (.tmp 1), none⟩,
    ⟨(some 33), .lenSlice (.tmp 32), none⟩,
    ⟨(some 34), .bin .lss (.tmp 31) (.tmp 33), none⟩,
    ⟨(some 35), .mov (.tmp 34), none⟩,
    ⟨(some 36), .mov (.tmp 11), (some (35, true))⟩,
    ⟨(some 37), .mov (.tmp 2), (some (35, true))⟩,
    ⟨(some 38), .lenSlice (.tmp 37), (some (35, true))⟩,
    ⟨(some 39), .bin .lss (.tmp 36) (.tmp 38), (some (35, true))⟩,
    ⟨(some 40), .pick (.tmp 35) (.tmp 39) (.con (.bool false)), none⟩,
    ⟨(some 41), .mov (.tmp 40), none⟩,
    ⟨(some 42), .mov (.tmp 11), (some (41, true))⟩,
    ⟨(some 43), .bin .lss (.tmp 42) (.con (.int .i64 60)), (some (41, true))⟩,
    ⟨(some 44), .pick (.tmp 41) (.tmp 43) (.con (.bool false)), none⟩])
  (.cond (.tmp 44)
  .skip
  (.exit 0)))
  (.seq (.block 1 (.seq (.ops [⟨(some 47), .mov (.tmp 1), none⟩,
    ⟨(some 48), .mov (.tmp 11), none⟩,
    ⟨(some 49), .idxAddr 1 (.tmp 47) (.tmp 48), none⟩,
    ⟨(some 50), .load false 1 (.tmp 49), none⟩,
    ⟨(some 51), .fieldAddr 5 (.tmp 7), none⟩,
    ⟨(some 52), .load false 1 (.tmp 51), none⟩,
    ⟨(some 53), .bin .sub (.tmp 52) (.con (.int .i64 1)), none⟩,
    ⟨(some 54), .call 16 [(.tmp 50), (.con (.int .i64 0)), (.tmp 53)], none⟩,
    ⟨(some 12), .mov (.tmp 54), none⟩])
  (.seq (.seq (.ops [⟨(some 55), .mov (.tmp 2), none⟩,
    ⟨(some 56), .mov (.tmp 11), none⟩,
    ⟨(some 57), .idxAddr 1 (.tmp 55) (.tmp 56), none⟩,
    ⟨(some 58), .load false 1 (.tmp 57), none⟩])
  (.cond (.tmp 58)
  (.seq (.seq (.ops [⟨(some 59), .mov (.tmp 8), none⟩,
    ⟨(some 60), .mov (.tmp 12), none⟩,
    ⟨(some 61), .build [(.int .i64 0), (.int .i64 0), (.int .i64 0), (.int .i64 0), (.int .u64 0), .nilSlice] [(0, 1, (.con (.int .i64 15)))], none⟩,
    ⟨(some 62), .call 12 [(.tmp 59), (.tmp 60), (.tmp 61)], none⟩,
    ⟨(some 63), .field false 2 1 (.tmp 62), none⟩,
    ⟨(some 64), .mov (.tmp 10), none⟩,
    ⟨(some 65), .mov (.tmp 12), none⟩,
    ⟨(some 66), .bin .eql (.tmp 64) (.tmp 65), none⟩,
    ⟨(some 67), .eqB true (.tmp 63) (.tmp 66), none⟩])
  (.cond (.tmp 67)
  (.seq (.ops [⟨(some 6), .mov (.con (.bool false)), none⟩])
  .ret)
  .skip))
  (.seq (.ops [⟨(some 68), .mov (.tmp 10), none⟩,
    ⟨(some 69), .mov (.tmp 12), none⟩,
    ⟨(some 70), .bin .eql (.tmp 68) (.tmp 69), none⟩])
  (.cond (.tmp 70)
  (.ops [⟨(some 10), .mov (.con (.int .i64 (-1))), none⟩])
  .skip)))
  (.seq (.seq (.ops [⟨(some 71), .mov (.tmp 8), none⟩,
    ⟨(some 72), .mov (.tmp 12), none⟩,
    ⟨(some 73), .build [(.int .i64 0), (.int .i64 0), (.int .i64 0), (.int .i64 0), (.int .u64 0), .nilSlice] [(0, 1, (.con (.int .i64 14)))], none⟩,
    ⟨(some 74), .call 12 [(.tmp 71), (.tmp 72), (.tmp 73)], none⟩,
    ⟨(some 75), .field false 2 1 (.tmp 74), none⟩,
    ⟨(some 76), .mov (.tmp 10), none⟩,
    ⟨(some 77), .bin .lss (.tmp 76) (.con (.int .i64 0)), none⟩,
    ⟨(some 78), .eqB true (.tmp 75) (.tmp 77), none⟩])
  (.cond (.tmp 78)
  (.seq (.ops [⟨(some 6), .mov (.con (.bool false)), none⟩])
  .ret)
  .skip))
  (.seq (.ops [⟨(some 79), .mov (.tmp 10), none⟩,
    ⟨(some 80), .bin .lss (.tmp 79) (.con (.int .i64 0)), none⟩])
  (.cond (.tmp 80)
  (.ops [⟨(some 81), .mov (.tmp 12), none⟩,
    ⟨(some 10), .mov (.tmp 81), none⟩])
  .skip)))))
  (.seq (.ops [⟨(some 82), .mov (.tmp 8), none⟩,
    ⟨(some 83), .mov (.tmp 12), none⟩,
    ⟨(some 84), .build [(.int .i64 0), (.int .i64 0), (.int .i64 0), (.int .i64 0), (.int .u64 0), .nilSlice] [(0, 1, (.con (.int .i64 13)))], none⟩,
    ⟨(some 85), .call 12 [(.tmp 82), (.tmp 83), (.tmp 84)], none⟩,
    ⟨(some 13), .new [(.int .i64 0), (.int .i64 0), (.bool false), .nilSlice], none⟩,
    ⟨none, .store 4 (.tmp 13) (.tmp 85), none⟩])
  (.seq (.ops [⟨(some 86), .fieldAddr 1 (.tmp 13), none⟩,
    ⟨(some 87), .load false 1 (.tmp 86), none⟩,
    ⟨(some 88), .mov (.tmp 10), none⟩,
    ⟨(some 89), .bin .neq (.tmp 87) (.tmp 88), none⟩,
    ⟨(some 90), .mov (.tmp 89), none⟩,
    ⟨(some 91), .fieldAddr 0 (.tmp 13), (some (90, false))⟩,
    ⟨(some 92), .load false 1 (.tmp 91), (some (90, false))⟩,
    ⟨(some 93), .bin .neq (.tmp 92) (.con (.int .i64 0)), (some (90, false))⟩,
    ⟨(some 94), .pick (.tmp 90) (.con (.bool true)) (.tmp 93), none⟩])
  (.cond (.tmp 94)
  (.seq (.ops [⟨(some 6), .mov (.con (.bool false)), none⟩])
  .ret)
  .skip))))))
  (.ops [⟨(some 45), .mov (.tmp 11), none⟩,
    ⟨(some 46), .bin .add (.tmp 45) (.con (.int .i64 1)), none⟩,
    ⟨(some 11), .mov (.tmp 46), none⟩])))
def c4 : ACode := (.seq (.ops [⟨(some 6), .mov (.con (.bool false)), none⟩])
  (.seq (.ops [⟨(some 14), .build [(.int .i64 0), (.int .i64 0), (.int .i64 0), (.int .i64 0), (.int .i64 0), (.int .i64 0), (.int .i64 0), (.int .i64 0)] [], none⟩,
    ⟨(some 15), .call 15 [(.tmp 14)], none⟩,
    ⟨(some 7), .new [(.int .i64 0), (.int .i64 0), (.int .i64 0), (.int .i64 0), (.int .i64 0), (.int .i64 0), (.int .i64 0), (.int .i64 0)], none⟩,
    ⟨none, .store 8 (.tmp 7) (.tmp 15), none⟩])
  (.seq (.ops [⟨(some 16), .mov (.tmp 0), none⟩,
    ⟨(some 17), .call 16 [(.tmp 16), (.con (.int .i64 0)), (.con (.int .i64 7))], none⟩,
    ⟨(some 18), .bin .add (.con (.int .i64 1)) (.tmp 17), none⟩,
    ⟨(some 19), .fieldAddr 5 (.tmp 7), none⟩,
    ⟨none, .store 1 (.tmp 19) (.tmp 18), none⟩])
  (.seq (.ops [⟨(some 21), .load true 8 (.tmp 7), none⟩,
    ⟨(some 22), .call 11 [(.tmp 21)], none⟩,
    ⟨(some 20), .mov (.tmp 22), none⟩,
    ⟨(some 23), .extract (.tmp 20) 0, none⟩,
    ⟨(some 24), .extract (.tmp 20) 1, none⟩,
    ⟨(some 8), .mov (.tmp 23), none⟩,
    ⟨(some 9), .mov (.tmp 24), none⟩])
  (.seq (.seq (.ops [⟨(some 25), .mov (.tmp 8), none⟩,
    ⟨(some 26), .eqNil 0 false (.tmp 25) (.con .nilPtr), none⟩,
    ⟨(some 27), .mov (.tmp 26), none⟩,
    ⟨(some 28), .mov (.tmp 9), (some (27, false))⟩,
    ⟨(some 29), .bin .neq (.tmp 28) (.con (.int .i64 0)), (some (27, false))⟩,
    ⟨(some 30), .pick (.tmp 27) (.con (.bool true)) (.tmp 29), none⟩])
  (.cond (.tmp 30)
  (.seq (.ops [⟨(some 6), .mov (.con (.bool false)), none⟩])
  .ret)
  .skip))
  (.seq (.ops [⟨(some 10), .mov (.con (.int .i64 (-1))), none⟩])
  (.seq (.seq (.ops [⟨(some 11), .mov (.con (.int .i64 0)), none⟩])
  (.block 0 (.loop c4l0)))
  (.seq (.ops [⟨(some 95), .call 3 [], none⟩,
    ⟨(some 6), .mov (.tmp 95), none⟩])
  .ret))))))))
def a4 : AFunc := ⟨3, c4, [.tmp 6]⟩

/- 5: tendril/tendrillaw9.MemSwaps -/
def c5 : ACode := (.seq (.ops [⟨(some 4), .box (.tmp 0), none⟩,
    ⟨(some 8), .mov (.con (.bool false)), none⟩])
  (.seq (.ops [⟨(some 16), .load true 8 (.tmp 4), none⟩,
    ⟨(some 17), .call 15 [(.tmp 16)], none⟩,
    ⟨(some 9), .new [(.int .i64 0), (.int .i64 0), (.int .i64 0), (.int .i64 0), (.int .i64 0), (.int .i64 0), (.int .i64 0), (.int .i64 0)], none⟩,
    ⟨none, .store 8 (.tmp 9) (.tmp 17), none⟩])
  (.seq (.ops [⟨(some 19), .load true 8 (.tmp 9), none⟩,
    ⟨(some 20), .call 11 [(.tmp 19)], none⟩,
    ⟨(some 18), .mov (.tmp 20), none⟩,
    ⟨(some 21), .extract (.tmp 18) 0, none⟩,
    ⟨(some 22), .extract (.tmp 18) 1, none⟩,
    ⟨(some 10), .mov (.tmp 21), none⟩,
    ⟨(some 11), .mov (.tmp 22), none⟩])
  (.seq (.seq (.ops [⟨(some 23), .mov (.tmp 10), none⟩,
    ⟨(some 24), .eqNil 0 false (.tmp 23) (.con .nilPtr), none⟩,
    ⟨(some 25), .mov (.tmp 24), none⟩,
    ⟨(some 26), .mov (.tmp 11), (some (25, false))⟩,
    ⟨(some 27), .bin .neq (.tmp 26) (.con (.int .i64 0)), (some (25, false))⟩,
    ⟨(some 28), .pick (.tmp 25) (.con (.bool true)) (.tmp 27), none⟩])
  (.cond (.tmp 28)
  (.seq (.ops [⟨(some 8), .mov (.con (.bool false)), none⟩])
  .ret)
  .skip))
  (.seq (.ops [⟨(some 29), .mov (.tmp 10), none⟩,
    ⟨(some 30), .mov (.tmp 3), none⟩,
    ⟨(some 31), .call 16 [(.tmp 30), (.con (.int .i64 0)), (.con (.int .i64 3))], none⟩,
    ⟨(some 32), .mov (.tmp 1), none⟩,
    ⟨(some 33), .buildSlice 1 1 [(.int .u64 0)] [(0, 1, (.tmp 32))], none⟩,
    ⟨(some 34), .build [(.int .i64 0), (.int .i64 0), (.int .i64 0), (.int .i64 0), (.int .u64 0), .nilSlice] [(0, 1, (.con (.int .i64 4))), (2, 1, (.tmp 31)), (5, 1, (.tmp 33))], none⟩,
    ⟨(some 35), .call 12 [(.tmp 29), (.con (.int .i64 0)), (.tmp 34)], none⟩,
    ⟨(some 12), .new [(.int .i64 0), (.int .i64 0), (.bool false), .nilSlice], none⟩,
    ⟨none, .store 4 (.tmp 12) (.tmp 35), none⟩])
  (.seq (.seq (.ops [⟨(some 36), .fieldAddr 0 (.tmp 12), none⟩,
    ⟨(some 37), .load false 1 (.tmp 36), none⟩,
    ⟨(some 38), .bin .neq (.tmp 37) (.con (.int .i64 0)), none⟩])
  (.cond (.tmp 38)
  (.seq (.ops [⟨(some 8), .mov (.con (.bool false)), none⟩])
  .ret)
  .skip))
  (.seq (.ops [⟨(some 39), .mov (.tmp 10), none⟩,
    ⟨(some 40), .fieldAddr 1 (.tmp 12), none⟩,
    ⟨(some 41), .load false 1 (.tmp 40), none⟩,
    ⟨(some 42), .mov (.tmp 1), none⟩,
    ⟨(some 43), .mov (.tmp 1), none⟩,
    ⟨(some 44), .bin .add (.tmp 43) (.con (.int .u64 4)), none⟩,
    ⟨(some 45), .buildSlice 1 2 [(.int .u64 0), (.int .u64 0)] [(0, 1, (.tmp 44)), (1, 1, (.con (.int .u64 1)))], none⟩,
    ⟨(some 46), .build [(.int .i64 0), (.int .i64 0), (.int .i64 0), (.int .i64 0), (.int .u64 0), .nilSlice] [(0, 1, (.con (.int .i64 2))), (1, 1, (.tmp 41)), (4, 1, (.tmp 42)), (5, 1, (.tmp 45))], none⟩,
    ⟨(some 47), .call 12 [(.tmp 39), (.con (.int .i64 0)), (.tmp 46)], none⟩,
    ⟨(some 13), .new [(.int .i64 0), (.int .i64 0), (.bool false), .nilSlice], none⟩,
    ⟨none, .store 4 (.tmp 13) (.tmp 47), none⟩])
  (.seq (.ops [⟨(some 48), .mov (.tmp 10), none⟩,
    ⟨(some 49), .fieldAddr 5 (.tmp 9), none⟩,
    ⟨(some 50), .load false 1 (.tmp 49), none⟩,
    ⟨(some 51), .bin .sub (.tmp 50) (.con (.int .i64 1)), none⟩,
    ⟨(some 52), .fieldAddr 1 (.tmp 12), none⟩,
    ⟨(some 53), .load false 1 (.tmp 52), none⟩,
    ⟨(some 54), .mov (.tmp 1), none⟩,
    ⟨(some 55), .mov (.tmp 2), none⟩,
    ⟨(some 56), .buildSlice 1 2 [(.int .u64 0), (.int .u64 0)] [(0, 1, (.tmp 55)), (1, 1, (.con (.int .u64 2)))], none⟩,
    ⟨(some 57), .build [(.int .i64 0), (.int .i64 0), (.int .i64 0), (.int .i64 0), (.int .u64 0), .nilSlice] [(0, 1, (.con (.int .i64 2))), (1, 1, (.tmp 53)), (4, 1, (.tmp 54)), (5, 1, (.tmp 56))], none⟩,
    ⟨(some 58), .call 12 [(.tmp 48), (.tmp 51), (.tmp 57)], none⟩,
    ⟨(some 14), .new [(.int .i64 0), (.int .i64 0), (.bool false), .nilSlice], none⟩,
    ⟨none, .store 4 (.tmp 14) (.tmp 58), none⟩])
  (.seq (.ops [⟨(some 59), .mov (.tmp 10), none⟩,
    ⟨(some 60), .fieldAddr 1 (.tmp 12), none⟩,
    ⟨(some 61), .load false 1 (.tmp 60), none⟩,
    ⟨(some 62), .build [(.int .i64 0), (.int .i64 0), (.int .i64 0), (.int .i64 0), (.int .u64 0), .nilSlice] [(0, 1, (.con (.int .i64 1))), (1, 1, (.tmp 61))], none⟩,
    ⟨(some 63), .call 12 [(.tmp 59), (.con (.int .i64 0)), (.tmp 62)], none⟩,
    ⟨(some 15), .new [(.int .i64 0), (.int .i64 0), (.bool false), .nilSlice], none⟩,
    ⟨none, .store 4 (.tmp 15) (.tmp 63), none⟩])
  (.seq (.ops [⟨(some 64), .fieldAddr 2 (.tmp 13), none⟩,
    ⟨(some 65), .load false 1 (.tmp 64), none⟩,
    ⟨(some 66), .mov (.tmp 65), none⟩,
    ⟨(some 67), .fieldAddr 0 (.tmp 13), (some (66, true))⟩,
    ⟨(some 68), .load false 1 (.tmp 67), (some (66, true))⟩,
    ⟨(some 69), .bin .eql (.tmp 68) (.con (.int .i64 0)), (some (66, true))⟩,
    ⟨(some 70), .pick (.tmp 66) (.tmp 69) (.con (.bool false)), none⟩,
    ⟨(some 71), .mov (.tmp 70), none⟩,
    ⟨(some 72), .fieldAddr 2 (.tmp 14), (some (71, true))⟩,
    ⟨(some 73), .load false 1 (.tmp 72), (some (71, true))⟩,
    ⟨(some 74), .un .not (.tmp 73), (some (71, true))⟩,
    ⟨(some 75), .pick (.tmp 71) (.tmp 74) (.con (.bool false)), none⟩,
    ⟨(some 76), .mov (.tmp 75), none⟩,
    ⟨(some 77), .fieldAddr 0 (.tmp 14), (some (76, true))⟩,
    ⟨(some 78), .load false 1 (.tmp 77), (some (76, true))⟩,
    ⟨(some 79), .bin .eql (.tmp 78) (.con (.int .i64 0)), (some (76, true))⟩,
    ⟨(some 80), .pick (.tmp 76) (.tmp 79) (.con (.bool false)), none⟩,
    ⟨(some 81), .mov (.tmp 80), none⟩,
    ⟨(some 82), .fieldAddr 3 (.tmp 15), (some (81, true))⟩,
    ⟨(some 83), .load false 1 (.tmp 82), (some (81, true))⟩,
    ⟨(some 84), .lenSlice (.tmp 83), (some (81, true))⟩,
    ⟨(some 85), .bin .gtr (.tmp 84) (.con (.int .i64 1)), (some (81, true))⟩,
    ⟨(some 86), .pick (.tmp 81) (.tmp 85) (.con (.bool false)), none⟩,
    ⟨(some 87), .mov (.tmp 86), none⟩,
    ⟨(some 88), .fieldAddr 3 (.tmp 15), (some (87, true))⟩,
    ⟨(some 89), .load false 1 (.tmp 88), (some (87, true))⟩,
    ⟨(some 90), .idxAddr 1 (.tmp 89) (.con (.int .i64 0)), (some (87, true))⟩,
    ⟨(some 91), .load false 1 (.tmp 90), (some (87, true))⟩,
    ⟨(some 92), .mov (.tmp 1), (some (87, true))⟩,
    ⟨(some 93), .bin .add (.tmp 92) (.con (.int .u64 4)), (some (87, true))⟩,
    ⟨(some 94), .bin .eql (.tmp 91) (.tmp 93), (some (87, true))⟩,
    ⟨(some 95), .pick (.tmp 87) (.tmp 94) (.con (.bool false)), none⟩,
    ⟨(some 96), .mov (.tmp 95), none⟩,
    ⟨(some 97), .fieldAddr 3 (.tmp 15), (some (96, true))⟩,
    ⟨(some 98), .load false 1 (.tmp 97), (some (96, true))⟩,
    ⟨(some 99), .idxAddr 1 (.tmp 98) (.con (.int .i64 1)), (some (96, true))⟩,
    ⟨(some 100), .load false 1 (.tmp 99), (some (96, true))⟩,
    ⟨(some 101), .bin .eql (.tmp 100) (.con (.int .u64 1)), (some (96, true))⟩,
    ⟨(some 102), .pick (.tmp 96) (.tmp 101) (.con (.bool false)), none⟩,
    ⟨(some 103), .mov (.tmp 102), none⟩,
    ⟨(some 104), .call 3 [], (some (103, true))⟩,
    ⟨(some 105), .pick (.tmp 103) (.tmp 104) (.con (.bool false)), none⟩,
    ⟨(some 8), .mov (.tmp 105), none⟩])
  .ret))))))))))
def a5 : AFunc := ⟨4, c5, [.tmp 8]⟩

/- 7: tendril/tendrillaw9.MemEpochs -/
def c7l0 : ACode := (.seq (.ops [⟨(some 39), .bin .lss (.tmp 38) (.tmp 37), none⟩])
  (.seq (.cond (.tmp 39)
  .skip
  (.exit 0))
  (.seq (.block 1 (.seq (.ops [⟨(some 40), .mov (.tmp 38), none⟩,
    ⟨(some 11), .mov (.tmp 40), none⟩])
  (.ops [⟨(some 41), .mov (.tmp 10), none⟩,
    ⟨(some 42), .mov (.tmp 11), none⟩,
    ⟨(some 43), .idxAddr 1 (.tmp 41) (.tmp 42), none⟩,
    ⟨none, .store 1 (.tmp 43) (.con (.int .i64 (-1))), none⟩])))
  (.ops [⟨(some 44), .bin .add (.tmp 38) (.con (.int .i64 1)), none⟩,
    ⟨(some 38), .mov (.tmp 44), none⟩]))))
def c7l1 : ACode := (.seq (.ops [⟨(some 129), .bin .lss (.tmp 128) (.tmp 127), none⟩])
  (.seq (.cond (.tmp 129)
  .skip
  (.exit 5))
  (.seq (.block 6 (.seq (.ops [⟨(some 130), .mov (.tmp 128), none⟩,
    ⟨(some 15), .mov (.tmp 130), none⟩])
  (.seq (.draw [.op ⟨(some 131), .mov (.tmp 8), none⟩,
    .op ⟨(some 132), .mov (.tmp 14), none⟩,
    .op ⟨(some 133), .mov (.tmp 15), none⟩,
    .op ⟨(some 134), .build [(.int .i64 0), (.int .i64 0), (.int .i64 0), (.int .i64 0), (.int .u64 0), .nilSlice] [(0, 1, (.con (.int .i64 10))), (3, 1, (.tmp 133))], none⟩,
    .op ⟨(some 137), .mov (.tmp 10), none⟩,
    .op ⟨(some 138), .mov (.tmp 15), none⟩,
    .op ⟨(some 139), .idxAddr 1 (.tmp 137) (.tmp 138), none⟩,
    .op ⟨(some 140), .load false 1 (.tmp 139), none⟩,
    .op ⟨(some 135), .call 12 [(.tmp 131), (.tmp 132), (.tmp 134)], none⟩,
    .op ⟨(some 136), .field false 1 1 (.tmp 135), none⟩,
    .op ⟨(some 141), .bin .neq (.tmp 136) (.tmp 140), none⟩,
    .look ⟨(some 140), .load false 1 (.tmp 139), none⟩])
  (.cond (.tmp 141)
  (.seq (.ops [⟨(some 6), .mov (.con (.bool false)), none⟩])
  .ret)
  .skip))))
  (.ops [⟨(some 142), .bin .add (.tmp 128) (.con (.int .i64 1)), none⟩,
    ⟨(some 128), .mov (.tmp 142), none⟩]))))
def c7l2 : ACode := (.seq (.seq (.ops [⟨(some 45), .mov (.tmp 13), none⟩,
    ⟨(some 46), .mov (.tmp 1), none⟩,
    ⟨(some 47), .lenSlice (.tmp 46), none⟩,
    ⟨(some 48), .bin .lss (.tmp 45) (.tmp 47), none⟩,
    ⟨(some 49), .mov (.tmp 48), none⟩,
    ⟨(some 50), .mov (.tmp 13), (some (49, true))⟩,
    ⟨(some 51), .mov (.tmp 2), (some (49, true))⟩,
    ⟨(some 52), .lenSlice (.tmp 51), (some (49, true))⟩,
    ⟨(some 53), .bin .lss (.tmp 50) (.tmp 52), (some (49, true))⟩,
    ⟨(some 54), .pick (.tmp 49) (.tmp 53) (.con (.bool false)), none⟩,
    ⟨(some 55), .mov (.tmp 54), none⟩,
    ⟨(some 56), .mov (.tmp 13), (some (55, true))⟩,
    ⟨(some 57), .bin .lss (.tmp 56) (.con (.int .i64 60)), (some (55, true))⟩,
    ⟨(some 58), .pick (.tmp 55) (.tmp 57) (.con (.bool false)), none⟩])
  (.cond (.tmp 58)
  .skip
  (.exit 2)))
  (.seq (.block 3 (.seq (.ops [⟨(some 61), .mov (.tmp 1), none⟩,
    ⟨(some 62), .mov (.tmp 13), none⟩,
    ⟨(some 63), .idxAddr 1 (.tmp 61) (.tmp 62), none⟩,
    ⟨(some 64), .load false 1 (.tmp 63), none⟩,
    ⟨(some 65), .fieldAddr 5 (.tmp 7), none⟩,
    ⟨(some 66), .load false 1 (.tmp 65), none⟩,
    ⟨(some 67), .bin .sub (.tmp 66) (.con (.int .i64 1)), none⟩,
    ⟨(some 68), .call 16 [(.tmp 64), (.con (.int .i64 0)), (.tmp 67)], none⟩,
    ⟨(some 14), .mov (.tmp 68), none⟩])
  (.seq (.seq (.ops [⟨(some 69), .mov (.tmp 2), none⟩,
    ⟨(some 70), .mov (.tmp 13), none⟩,
    ⟨(some 71), .idxAddr 1 (.tmp 69) (.tmp 70), none⟩,
    ⟨(some 72), .load false 1 (.tmp 71), none⟩,
    ⟨(some 73), .call 16 [(.tmp 72), (.con (.int .i64 0)), (.con (.int .i64 3))], none⟩])
  (.block 4 (.seq (.ops [⟨(some 75), .bin .eql (.tmp 73) (.con (.int .i64 0)), none⟩,
    ⟨(some 74), .mov (.tmp 75), none⟩])
  (.cond (.tmp 74)
  (.seq (.seq (.ops [⟨(some 76), .mov (.tmp 8), none⟩,
    ⟨(some 77), .mov (.tmp 14), none⟩,
    ⟨(some 78), .mov (.tmp 12), none⟩,
    ⟨(some 79), .build [(.int .i64 0), (.int .i64 0), (.int .i64 0), (.int .i64 0), (.int .u64 0), .nilSlice] [(0, 1, (.con (.int .i64 8))), (3, 1, (.tmp 78))], none⟩,
    ⟨(some 80), .call 12 [(.tmp 76), (.tmp 77), (.tmp 79)], none⟩,
    ⟨(some 81), .field false 2 1 (.tmp 80), none⟩,
    ⟨(some 82), .un .not (.tmp 81), none⟩])
  (.cond (.tmp 82)
  (.seq (.ops [⟨(some 6), .mov (.con (.bool false)), none⟩])
  .ret)
  .skip))
  (.ops [⟨(some 83), .mov (.tmp 10), none⟩,
    ⟨(some 84), .mov (.tmp 14), none⟩,
    ⟨(some 85), .mov (.tmp 12), none⟩,
    ⟨(some 86), .idxAddr 1 (.tmp 83) (.tmp 84), none⟩,
    ⟨none, .store 1 (.tmp 86) (.tmp 85), none⟩]))
  (.seq (.ops [⟨(some 88), .bin .eql (.tmp 73) (.con (.int .i64 1)), none⟩,
    ⟨(some 87), .mov (.tmp 88), none⟩])
  (.cond (.tmp 87)
  (.seq (.seq (.ops [⟨(some 89), .mov (.tmp 8), none⟩,
    ⟨(some 90), .mov (.tmp 14), none⟩,
    ⟨(some 91), .build [(.int .i64 0), (.int .i64 0), (.int .i64 0), (.int .i64 0), (.int .u64 0), .nilSlice] [(0, 1, (.con (.int .i64 9)))], none⟩,
    ⟨(some 92), .call 12 [(.tmp 89), (.tmp 90), (.tmp 91)], none⟩,
    ⟨(some 93), .field false 2 1 (.tmp 92), none⟩,
    ⟨(some 94), .un .not (.tmp 93), none⟩])
  (.cond (.tmp 94)
  (.seq (.ops [⟨(some 6), .mov (.con (.bool false)), none⟩])
  .ret)
  .skip))
  (.ops [⟨(some 95), .mov (.tmp 10), none⟩,
    ⟨(some 96), .mov (.tmp 14), none⟩,
    ⟨(some 97), .idxAddr 1 (.tmp 95) (.tmp 96), none⟩,
    ⟨none, .store 1 (.tmp 97) (.con (.int .i64 (-1))), none⟩]))
  (.seq (.ops [⟨(some 99), .bin .eql (.tmp 73) (.con (.int .i64 2)), none⟩,
    ⟨(some 98), .mov (.tmp 99), none⟩])
  (.cond (.tmp 98)
  (.seq (.seq (.ops [⟨(some 100), .mov (.tmp 8), none⟩,
    ⟨(some 101), .mov (.tmp 14), none⟩,
    ⟨(some 102), .mov (.tmp 12), none⟩,
    ⟨(some 103), .build [(.int .i64 0), (.int .i64 0), (.int .i64 0), (.int .i64 0), (.int .u64 0), .nilSlice] [(0, 1, (.con (.int .i64 11))), (3, 1, (.tmp 102))], none⟩,
    ⟨(some 104), .call 12 [(.tmp 100), (.tmp 101), (.tmp 103)], none⟩,
    ⟨(some 105), .field false 2 1 (.tmp 104), none⟩,
    ⟨(some 106), .un .not (.tmp 105), none⟩,
    ⟨(some 107), .mov (.tmp 106), none⟩,
    ⟨(some 108), .mov (.tmp 8), (some (107, false))⟩,
    ⟨(some 109), .mov (.tmp 14), (some (107, false))⟩,
    ⟨(some 110), .mov (.tmp 12), (some (107, false))⟩,
    ⟨(some 111), .build [(.int .i64 0), (.int .i64 0), (.int .i64 0), (.int .i64 0), (.int .u64 0), .nilSlice] [(0, 1, (.con (.int .i64 11))), (3, 1, (.tmp 110))], (some (107, false))⟩,
    ⟨(some 112), .call 12 [(.tmp 108), (.tmp 109), (.tmp 111)], (some (107, false))⟩,
    ⟨(some 113), .field false 2 1 (.tmp 112), (some (107, false))⟩,
    ⟨(some 114), .pick (.tmp 107) (.con (.bool true)) (.tmp 113), none⟩])
  (.cond (.tmp 114)
  (.seq (.ops [⟨(some 6), .mov (.con (.bool false)), none⟩])
  .ret)
  .skip))
  (.ops [⟨(some 115), .mov (.tmp 12), none⟩,
    ⟨(some 116), .bin .add (.tmp 115) (.con (.int .i64 1)), none⟩,
    ⟨(some 12), .mov (.tmp 116), none⟩]))
  (.seq (.ops [⟨(some 118), .bin .eql (.tmp 73) (.con (.int .i64 3)), none⟩,
    ⟨(some 117), .mov (.tmp 118), none⟩])
  (.cond (.tmp 117)
  (.seq (.ops [⟨(some 119), .mov (.tmp 8), none⟩,
    ⟨(some 120), .mov (.tmp 14), none⟩,
    ⟨(some 121), .mov (.tmp 12), none⟩,
    ⟨(some 122), .bin .add (.tmp 121) (.con (.int .i64 1)), none⟩,
    ⟨(some 123), .build [(.int .i64 0), (.int .i64 0), (.int .i64 0), (.int .i64 0), (.int .u64 0), .nilSlice] [(0, 1, (.con (.int .i64 8))), (3, 1, (.tmp 122))], none⟩,
    ⟨(some 124), .call 12 [(.tmp 119), (.tmp 120), (.tmp 123)], none⟩,
    ⟨(some 125), .field false 2 1 (.tmp 124), none⟩])
  (.cond (.tmp 125)
  (.seq (.ops [⟨(some 6), .mov (.con (.bool false)), none⟩])
  .ret)
  .skip))
  .skip))))))))))
  (.seq (.seq (.ops [⟨(some 126), .mov (.tmp 10), none⟩,
    ⟨(some 127), .lenSlice (.tmp 126), none⟩,
    ⟨(some 128), .mov (.con (.int .i64 0)), none⟩])
  (.block 5 (.loop c7l1)))
  (.seq (.ops [⟨(some 143), .mov (.tmp 8), none⟩,
    ⟨(some 144), .mov (.tmp 14), none⟩,
    ⟨(some 145), .build [(.int .i64 0), (.int .i64 0), (.int .i64 0), (.int .i64 0), (.int .u64 0), .nilSlice] [(0, 1, (.con (.int .i64 7)))], none⟩,
    ⟨(some 146), .call 12 [(.tmp 143), (.tmp 144), (.tmp 145)], none⟩,
    ⟨(some 147), .field false 1 1 (.tmp 146), none⟩,
    ⟨(some 148), .mov (.tmp 12), none⟩,
    ⟨(some 149), .bin .neq (.tmp 147) (.tmp 148), none⟩,
    ⟨(some 150), .mov (.tmp 149), none⟩,
    ⟨(some 151), .mov (.tmp 8), (some (150, false))⟩,
    ⟨(some 152), .call 17 [(.tmp 151)], (some (150, false))⟩,
    ⟨(some 153), .mov (.tmp 12), (some (150, false))⟩,
    ⟨(some 154), .bin .neq (.tmp 152) (.tmp 153), (some (150, false))⟩,
    ⟨(some 155), .pick (.tmp 150) (.con (.bool true)) (.tmp 154), none⟩])
  (.cond (.tmp 155)
  (.seq (.ops [⟨(some 6), .mov (.con (.bool false)), none⟩])
  .ret)
  .skip))))))
  (.ops [⟨(some 59), .mov (.tmp 13), none⟩,
    ⟨(some 60), .bin .add (.tmp 59) (.con (.int .i64 1)), none⟩,
    ⟨(some 13), .mov (.tmp 60), none⟩])))
def c7 : ACode := (.seq (.ops [⟨(some 6), .mov (.con (.bool false)), none⟩])
  (.seq (.ops [⟨(some 16), .build [(.int .i64 0), (.int .i64 0), (.int .i64 0), (.int .i64 0), (.int .i64 0), (.int .i64 0), (.int .i64 0), (.int .i64 0)] [], none⟩,
    ⟨(some 17), .call 15 [(.tmp 16)], none⟩,
    ⟨(some 7), .new [(.int .i64 0), (.int .i64 0), (.int .i64 0), (.int .i64 0), (.int .i64 0), (.int .i64 0), (.int .i64 0), (.int .i64 0)], none⟩,
    ⟨none, .store 8 (.tmp 7) (.tmp 17), none⟩])
  (.seq (.ops [⟨(some 18), .mov (.tmp 0), none⟩,
    ⟨(some 19), .call 16 [(.tmp 18), (.con (.int .i64 0)), (.con (.int .i64 7))], none⟩,
    ⟨(some 20), .bin .add (.con (.int .i64 1)) (.tmp 19), none⟩,
    ⟨(some 21), .fieldAddr 5 (.tmp 7), none⟩,
    ⟨none, .store 1 (.tmp 21) (.tmp 20), none⟩])
  (.seq (.ops [⟨(some 23), .load true 8 (.tmp 7), none⟩,
    ⟨(some 24), .call 11 [(.tmp 23)], none⟩,
    ⟨(some 22), .mov (.tmp 24), none⟩,
    ⟨(some 25), .extract (.tmp 22) 0, none⟩,
    ⟨(some 26), .extract (.tmp 22) 1, none⟩,
    ⟨(some 8), .mov (.tmp 25), none⟩,
    ⟨(some 9), .mov (.tmp 26), none⟩])
  (.seq (.seq (.ops [⟨(some 27), .mov (.tmp 8), none⟩,
    ⟨(some 28), .eqNil 0 false (.tmp 27) (.con .nilPtr), none⟩,
    ⟨(some 29), .mov (.tmp 28), none⟩,
    ⟨(some 30), .mov (.tmp 9), (some (29, false))⟩,
    ⟨(some 31), .bin .neq (.tmp 30) (.con (.int .i64 0)), (some (29, false))⟩,
    ⟨(some 32), .pick (.tmp 29) (.con (.bool true)) (.tmp 31), none⟩])
  (.cond (.tmp 32)
  (.seq (.ops [⟨(some 6), .mov (.con (.bool false)), none⟩])
  .ret)
  .skip))
  (.seq (.ops [⟨(some 33), .fieldAddr 5 (.tmp 7), none⟩,
    ⟨(some 34), .load false 1 (.tmp 33), none⟩,
    ⟨(some 35), .mkSlice 1 8 [(.int .i64 0)] (.tmp 34) (.tmp 34), none⟩,
    ⟨(some 10), .mov (.tmp 35), none⟩])
  (.seq (.seq (.ops [⟨(some 36), .mov (.tmp 10), none⟩,
    ⟨(some 37), .lenSlice (.tmp 36), none⟩,
    ⟨(some 38), .mov (.con (.int .i64 0)), none⟩])
  (.block 0 (.loop c7l0)))
  (.seq (.ops [⟨(some 12), .mov (.con (.int .i64 0)), none⟩])
  (.seq (.seq (.ops [⟨(some 13), .mov (.con (.int .i64 0)), none⟩])
  (.block 2 (.loop c7l2)))
  (.seq (.ops [⟨(some 156), .call 3 [], none⟩,
    ⟨(some 6), .mov (.tmp 156), none⟩])
  .ret))))))))))
def a7 : AFunc := ⟨3, c7, [.tmp 6]⟩

/- 8: tendril/tendrillaw9.MemRoot -/
def c8 : ACode := (.seq (.ops [⟨(some 2), .box (.tmp 0), none⟩,
    ⟨(some 4), .mov (.con (.bool false)), none⟩])
  (.seq (.ops [⟨(some 14), .load true 8 (.tmp 2), none⟩,
    ⟨(some 15), .call 15 [(.tmp 14)], none⟩,
    ⟨(some 5), .new [(.int .i64 0), (.int .i64 0), (.int .i64 0), (.int .i64 0), (.int .i64 0), (.int .i64 0), (.int .i64 0), (.int .i64 0)], none⟩,
    ⟨none, .store 8 (.tmp 5) (.tmp 15), none⟩])
  (.seq (.ops [⟨(some 17), .load true 8 (.tmp 5), none⟩,
    ⟨(some 18), .call 11 [(.tmp 17)], none⟩,
    ⟨(some 16), .mov (.tmp 18), none⟩,
    ⟨(some 19), .extract (.tmp 16) 0, none⟩,
    ⟨(some 20), .extract (.tmp 16) 1, none⟩,
    ⟨(some 6), .mov (.tmp 19), none⟩,
    ⟨(some 7), .mov (.tmp 20), none⟩])
  (.seq (.seq (.ops [⟨(some 21), .mov (.tmp 6), none⟩,
    ⟨(some 22), .eqNil 0 false (.tmp 21) (.con .nilPtr), none⟩,
    ⟨(some 23), .mov (.tmp 22), none⟩,
    ⟨(some 24), .mov (.tmp 7), (some (23, false))⟩,
    ⟨(some 25), .bin .neq (.tmp 24) (.con (.int .i64 0)), (some (23, false))⟩,
    ⟨(some 26), .pick (.tmp 23) (.con (.bool true)) (.tmp 25), none⟩])
  (.cond (.tmp 26)
  (.seq (.ops [⟨(some 4), .mov (.con (.bool false)), none⟩])
  .ret)
  .skip))
  (.seq (.ops [⟨(some 27), .mov (.tmp 1), none⟩,
    ⟨(some 28), .fieldAddr 5 (.tmp 5), none⟩,
    ⟨(some 29), .load false 1 (.tmp 28), none⟩,
    ⟨(some 30), .bin .sub (.tmp 29) (.con (.int .i64 1)), none⟩,
    ⟨(some 31), .call 16 [(.tmp 27), (.con (.int .i64 0)), (.tmp 30)], none⟩,
    ⟨(some 8), .mov (.tmp 31), none⟩])
  (.seq (.ops [⟨(some 32), .mov (.tmp 6), none⟩,
    ⟨(some 33), .mov (.tmp 8), none⟩,
    ⟨(some 34), .mov (.tmp 6), none⟩,
    ⟨(some 35), .call 13 [(.tmp 34)], none⟩,
    ⟨(some 36), .build [(.int .i64 0), (.int .i64 0), (.int .i64 0), (.int .i64 0), (.int .u64 0), .nilSlice] [(0, 1, (.con (.int .i64 5))), (1, 1, (.tmp 35))], none⟩,
    ⟨(some 37), .call 12 [(.tmp 32), (.tmp 33), (.tmp 36)], none⟩,
    ⟨(some 9), .new [(.int .i64 0), (.int .i64 0), (.bool false), .nilSlice], none⟩,
    ⟨none, .store 4 (.tmp 9) (.tmp 37), none⟩])
  (.seq (.ops [⟨(some 38), .mov (.tmp 6), none⟩,
    ⟨(some 39), .mov (.tmp 8), none⟩,
    ⟨(some 40), .mov (.tmp 6), none⟩,
    ⟨(some 41), .call 13 [(.tmp 40)], none⟩,
    ⟨(some 42), .build [(.int .i64 0), (.int .i64 0), (.int .i64 0), (.int .i64 0), (.int .u64 0), .nilSlice] [(0, 1, (.con (.int .i64 6))), (1, 1, (.tmp 41))], none⟩,
    ⟨(some 43), .call 12 [(.tmp 38), (.tmp 39), (.tmp 42)], none⟩,
    ⟨(some 10), .new [(.int .i64 0), (.int .i64 0), (.bool false), .nilSlice], none⟩,
    ⟨none, .store 4 (.tmp 10) (.tmp 43), none⟩])
  (.seq (.ops [⟨(some 44), .mov (.tmp 6), none⟩,
    ⟨(some 45), .mov (.tmp 8), none⟩,
    ⟨(some 46), .mov (.tmp 6), none⟩,
    ⟨(some 47), .call 13 [(.tmp 46)], none⟩,
    ⟨(some 48), .build [(.int .i64 0), (.int .i64 0), (.int .i64 0), (.int .i64 0), (.int .u64 0), .nilSlice] [(0, 1, (.con (.int .i64 1))), (1, 1, (.tmp 47))], none⟩,
    ⟨(some 49), .call 12 [(.tmp 44), (.tmp 45), (.tmp 48)], none⟩,
    ⟨(some 11), .new [(.int .i64 0), (.int .i64 0), (.bool false), .nilSlice], none⟩,
    ⟨none, .store 4 (.tmp 11) (.tmp 49), none⟩])
  (.seq (.ops [⟨(some 51), .fieldAddr 3 (.tmp 11), none⟩,
    ⟨(some 52), .load false 1 (.tmp 51), none⟩,
    ⟨(some 53), .call 18 [(.tmp 52)], none⟩,
    ⟨(some 50), .mov (.tmp 53), none⟩,
    ⟨(some 54), .extract (.tmp 50) 0, none⟩,
    ⟨(some 55), .extract (.tmp 50) 1, none⟩,
    ⟨(some 12), .new [(.int .i64 0), (.int .u64 0), (.str []), .nilSlice, .nilSlice], none⟩,
    ⟨none, .store 5 (.tmp 12) (.tmp 54), none⟩,
    ⟨(some 13), .mov (.tmp 55), none⟩])
  (.seq (.ops [⟨(some 56), .fieldAddr 0 (.tmp 9), none⟩,
    ⟨(some 57), .load false 1 (.tmp 56), none⟩,
    ⟨(some 58), .bin .eql (.tmp 57) (.con (.int .i64 1)), none⟩,
    ⟨(some 59), .mov (.tmp 58), none⟩,
    ⟨(some 60), .fieldAddr 0 (.tmp 10), (some (59, true))⟩,
    ⟨(some 61), .load false 1 (.tmp 60), (some (59, true))⟩,
    ⟨(some 62), .bin .eql (.tmp 61) (.con (.int .i64 1)), (some (59, true))⟩,
    ⟨(some 63), .pick (.tmp 59) (.tmp 62) (.con (.bool false)), none⟩,
    ⟨(some 64), .mov (.tmp 63), none⟩,
    ⟨(some 65), .fieldAddr 0 (.tmp 11), (some (64, true))⟩,
    ⟨(some 66), .load false 1 (.tmp 65), (some (64, true))⟩,
    ⟨(some 67), .bin .eql (.tmp 66) (.con (.int .i64 0)), (some (64, true))⟩,
    ⟨(some 68), .pick (.tmp 64) (.tmp 67) (.con (.bool false)), none⟩,
    ⟨(some 69), .mov (.tmp 68), none⟩,
    ⟨(some 70), .mov (.tmp 13), (some (69, true))⟩,
    ⟨(some 71), .pick (.tmp 69) (.tmp 70) (.con (.bool false)), none⟩,
    ⟨(some 72), .mov (.tmp 71), none⟩,
    ⟨(some 73), .fieldAddr 0 (.tmp 12), (some (72, true))⟩,
    ⟨(some 74), .load false 1 (.tmp 73), (some (72, true))⟩,
    ⟨(some 75), .bin .eql (.tmp 74) (.con (.int .i64 4)), (some (72, true))⟩,
    ⟨(some 76), .pick (.tmp 72) (.tmp 75) (.con (.bool false)), none⟩,
    ⟨(some 77), .mov (.tmp 76), none⟩,
    ⟨(some 78), .fieldAddr 1 (.tmp 12), (some (77, true))⟩,
    ⟨(some 79), .load false 1 (.tmp 78), (some (77, true))⟩,
    ⟨(some 80), .bin .eql (.tmp 79) (.con (.int .u64 0)), (some (77, true))⟩,
    ⟨(some 81), .pick (.tmp 77) (.tmp 80) (.con (.bool false)), none⟩,
    ⟨(some 82), .mov (.tmp 81), none⟩,
    ⟨(some 83), .fieldAddr 2 (.tmp 12), (some (82, true))⟩,
    ⟨(some 84), .load false 1 (.tmp 83), (some (82, true))⟩,
    ⟨(some 85), .bin .eql (.tmp 84) (.con (.str [])), (some (82, true))⟩,
    ⟨(some 86), .pick (.tmp 82) (.tmp 85) (.con (.bool false)), none⟩,
    ⟨(some 87), .mov (.tmp 86), none⟩,
    ⟨(some 88), .fieldAddr 3 (.tmp 12), (some (87, true))⟩,
    ⟨(some 89), .load false 1 (.tmp 88), (some (87, true))⟩,
    ⟨(some 90), .lenSlice (.tmp 89), (some (87, true))⟩,
    ⟨(some 91), .bin .eql (.tmp 90) (.con (.int .i64 0)), (some (87, true))⟩,
    ⟨(some 92), .pick (.tmp 87) (.tmp 91) (.con (.bool false)), none⟩,
    ⟨(some 93), .mov (.tmp 92), none⟩,
    ⟨(some 94), .mov (.tmp 6), (some (93, true))⟩,
    ⟨(some 95), .call 14 [(.tmp 94)], (some (93, true))⟩,
    ⟨(some 96), .bin .eql (.tmp 95) (.con (.int .i64 1)), (some (93, true))⟩,
    ⟨(some 97), .pick (.tmp 93) (.tmp 96) (.con (.bool false)), none⟩,
    ⟨(some 98), .mov (.tmp 97), none⟩,
    ⟨(some 99), .mov (.tmp 6), (some (98, true))⟩,
    ⟨(some 100), .mov (.tmp 8), (some (98, true))⟩,
    ⟨(some 101), .call 19 [(.tmp 99), (.tmp 100)], (some (98, true))⟩,
    ⟨(some 102), .bin .eql (.tmp 101) (.con (.int .i64 0)), (some (98, true))⟩,
    ⟨(some 103), .pick (.tmp 98) (.tmp 102) (.con (.bool false)), none⟩,
    ⟨(some 104), .mov (.tmp 103), none⟩,
    ⟨(some 105), .call 3 [], (some (104, true))⟩,
    ⟨(some 106), .pick (.tmp 104) (.tmp 105) (.con (.bool false)), none⟩,
    ⟨(some 4), .mov (.tmp 106), none⟩])
  .ret))))))))))
def a8 : AFunc := ⟨2, c8, [.tmp 4]⟩

/- 11: tendril/mem.New -/
def c11 : ACode := (.seq (.ops [⟨(some 1), .box (.tmp 0), none⟩,
    ⟨(some 2), .mov (.con .nilPtr), none⟩,
    ⟨(some 3), .mov (.con (.int .i64 0)), none⟩])
  (.seq (.ops [⟨(some 9), .fieldAddr 0 (.tmp 1), none⟩,
    ⟨(some 10), .load true 5 (.tmp 9), none⟩,
    ⟨(some 11), .call 27 [(.tmp 10)], none⟩,
    ⟨(some 8), .mov (.tmp 11), none⟩,
    ⟨(some 12), .extract (.tmp 8) 0, none⟩,
    ⟨(some 13), .extract (.tmp 8) 1, none⟩,
    ⟨(some 4), .mov (.tmp 12), none⟩,
    ⟨(some 5), .mov (.tmp 13), none⟩])
  (.seq (.seq (.ops [⟨(some 14), .mov (.tmp 5), none⟩,
    ⟨(some 15), .bin .neq (.tmp 14) (.con (.int .i64 0)), none⟩])
  (.cond (.tmp 15)
  (.seq (.ops [⟨(some 2), .mov (.con .nilPtr), none⟩,
    ⟨(some 3), .mov (.con (.int .i64 1)), none⟩])
  .ret)
  .skip))
  (.seq (.ops [⟨(some 17), .fieldAddr 5 (.tmp 1), none⟩,
    ⟨(some 18), .load false 1 (.tmp 17), none⟩,
    ⟨(some 19), .fieldAddr 6 (.tmp 1), none⟩,
    ⟨(some 20), .load false 1 (.tmp 19), none⟩,
    ⟨(some 21), .call 28 [(.tmp 18), (.tmp 20)], none⟩,
    ⟨(some 16), .mov (.tmp 21), none⟩,
    ⟨(some 22), .extract (.tmp 16) 0, none⟩,
    ⟨(some 23), .extract (.tmp 16) 1, none⟩,
    ⟨(some 6), .mov (.tmp 22), none⟩,
    ⟨(some 5), .mov (.tmp 23), none⟩])
  (.seq (.seq (.ops [⟨(some 24), .mov (.tmp 5), none⟩,
    ⟨(some 25), .bin .neq (.tmp 24) (.con (.int .i64 0)), none⟩,
    ⟨(some 26), .mov (.tmp 25), none⟩,
    ⟨(some 27), .fieldAddr 7 (.tmp 1), (some (26, false))⟩,
    ⟨(some 28), .load false 1 (.tmp 27), (some (26, false))⟩,
    ⟨(some 29), .bin .lss (.tmp 28) (.con (.int .i64 1)), (some (26, false))⟩,
    ⟨(some 30), .pick (.tmp 26) (.con (.bool true)) (.tmp 29), none⟩,
    ⟨(some 31), .mov (.tmp 30), none⟩,
    ⟨(some 32), .fieldAddr 7 (.tmp 1), (some (31, false))⟩,
    ⟨(some 33), .load false 1 (.tmp 32), (some (31, false))⟩,
    ⟨(some 34), .bin .gtr (.tmp 33) (.con (.int .i64 100)), (some (31, false))⟩,
    ⟨(some 35), .pick (.tmp 31) (.con (.bool true)) (.tmp 34), none⟩])
  (.cond (.tmp 35)
  (.seq (.ops [⟨(some 2), .mov (.con .nilPtr), none⟩,
    ⟨(some 3), .mov (.con (.int .i64 1)), none⟩])
  .ret)
  .skip))
  (.seq (.ops [⟨(some 37), .mov (.tmp 4), none⟩,
    ⟨(some 38), .build [(.int .i64 0), (.int .u64 0), (.str []), .nilSlice, .nilSlice] [(0, 1, (.con (.int .i64 4)))], none⟩,
    ⟨(some 39), .call 30 [(.tmp 38)], none⟩,
    ⟨(some 40), .call 29 [(.tmp 37), (.con (.int .i64 4)), (.tmp 39)], none⟩,
    ⟨(some 36), .mov (.tmp 40), none⟩,
    ⟨(some 41), .extract (.tmp 36) 0, none⟩,
    ⟨(some 42), .extract (.tmp 36) 1, none⟩,
    ⟨(some 7), .mov (.tmp 41), none⟩,
    ⟨(some 5), .mov (.tmp 42), none⟩])
  (.seq (.seq (.ops [⟨(some 43), .mov (.tmp 5), none⟩,
    ⟨(some 44), .bin .neq (.tmp 43) (.con (.int .i64 0)), none⟩])
  (.cond (.tmp 44)
  (.seq (.ops [⟨(some 2), .mov (.con .nilPtr), none⟩,
    ⟨(some 3), .mov (.con (.int .i64 1)), none⟩])
  .ret)
  .skip))
  (.seq (.ops [⟨(some 45), .mov (.tmp 4), none⟩,
    ⟨(some 46), .mov (.tmp 6), none⟩,
    ⟨(some 47), .fieldAddr 5 (.tmp 1), none⟩,
    ⟨(some 48), .load false 1 (.tmp 47), none⟩,
    ⟨(some 49), .mov (.tmp 7), none⟩,
    ⟨(some 50), .build [.nilPtr, .nilPtr, (.int .i64 0), (.int .i64 0), (.int .i64 0)] [(0, 1, (.tmp 45)), (1, 1, (.tmp 46)), (2, 1, (.tmp 48)), (3, 1, (.tmp 49)), (4, 1, (.con (.int .i64 (-1))))], none⟩,
    ⟨(some 51), .box (.tmp 50), none⟩,
    ⟨(some 2), .mov (.tmp 51), none⟩,
    ⟨(some 3), .mov (.con (.int .i64 0)), none⟩])
  .ret))))))))
def a11 : AFunc := ⟨1, c11, [.tmp 2, .tmp 3]⟩

/- 12: (*tendril/mem.Mem).Do -/
def c12 : ACode := (.seq (.ops [⟨(some 5), .box (.tmp 2), none⟩,
    ⟨(some 6), .new [(.int .i64 0), (.int .i64 0), (.bool false), .nilSlice], none⟩])
  (.seq (.seq (.ops [⟨(some 7), .mov (.tmp 1), none⟩,
    ⟨(some 8), .bin .lss (.tmp 7) (.con (.int .i64 0)), none⟩,
    ⟨(some 9), .mov (.tmp 8), none⟩,
    ⟨(some 10), .mov (.tmp 1), (some (9, false))⟩,
    ⟨(some 11), .mov (.tmp 0), (some (9, false))⟩,
    ⟨(some 12), .nilChk (.tmp 11), (some (9, false))⟩,
    ⟨(some 13), .fieldAddr 2 (.tmp 12), (some (9, false))⟩,
    ⟨(some 14), .load false 1 (.tmp 13), (some (9, false))⟩,
    ⟨(some 15), .bin .geq (.tmp 10) (.tmp 14), (some (9, false))⟩,
    ⟨(some 16), .pick (.tmp 9) (.con (.bool true)) (.tmp 15), none⟩])
  (.cond (.tmp 16)
  (.seq (.ops [⟨(some 17), .build [(.int .i64 0), (.int .i64 0), (.bool false), .nilSlice] [(0, 1, (.con (.int .i64 1)))], none⟩,
    ⟨none, .store 4 (.tmp 6) (.tmp 17), none⟩])
  .ret)
  .skip))
  (.seq (.seq (.ops [⟨(some 18), .fieldAddr 0 (.tmp 5), none⟩,
    ⟨(some 19), .load false 1 (.tmp 18), none⟩])
  (.block 0 (.seq (.seq (.ops [⟨(some 21), .bin .eql (.tmp 19) (.con (.int .i64 1)), none⟩,
    ⟨(some 20), .mov (.tmp 21), none⟩])
  (.cond (.tmp 20)
  .skip
  (.seq (.ops [⟨(some 22), .bin .eql (.tmp 19) (.con (.int .i64 2)), none⟩,
    ⟨(some 20), .mov (.tmp 22), none⟩])
  (.cond (.tmp 20)
  .skip
  (.seq (.ops [⟨(some 23), .bin .eql (.tmp 19) (.con (.int .i64 3)), none⟩,
    ⟨(some 20), .mov (.tmp 23), none⟩])
  (.cond (.tmp 20)
  .skip
  (.seq (.ops [⟨(some 24), .bin .eql (.tmp 19) (.con (.int .i64 4)), none⟩,
    ⟨(some 20), .mov (.tmp 24), none⟩])
  (.cond (.tmp 20)
  .skip
  (.ops [⟨(some 25), .bin .eql (.tmp 19) (.con (.int .i64 5)), none⟩,
    ⟨(some 20), .mov (.tmp 25), none⟩])))))))))
  (.cond (.tmp 20)
  (.seq (.ops [⟨(some 26), .mov (.tmp 0), none⟩,
    ⟨(some 27), .load true 6 (.tmp 5), none⟩,
    ⟨(some 28), .call 31 [(.tmp 26), (.tmp 27)], none⟩,
    ⟨none, .store 4 (.tmp 6) (.tmp 28), none⟩])
  .ret)
  (.seq (.ops [⟨(some 30), .bin .eql (.tmp 19) (.con (.int .i64 6)), none⟩,
    ⟨(some 29), .mov (.tmp 30), none⟩])
  (.cond (.tmp 29)
  (.seq (.seq (.ops [⟨(some 31), .fieldAddr 1 (.tmp 5), none⟩,
    ⟨(some 32), .load false 1 (.tmp 31), none⟩,
    ⟨(some 33), .mov (.tmp 0), none⟩,
    ⟨(some 34), .nilChk (.tmp 33), none⟩,
    ⟨(some 35), .fieldAddr 3 (.tmp 34), none⟩,
    ⟨(some 36), .load false 1 (.tmp 35), none⟩,
    ⟨(some 37), .bin .eql (.tmp 32) (.tmp 36), none⟩])
  (.cond (.tmp 37)
  (.seq (.ops [⟨(some 38), .build [(.int .i64 0), (.int .i64 0), (.bool false), .nilSlice] [(0, 1, (.con (.int .i64 1)))], none⟩,
    ⟨none, .store 4 (.tmp 6) (.tmp 38), none⟩])
  .ret)
  .skip))
  (.seq (.ops [⟨(some 39), .mov (.tmp 0), none⟩,
    ⟨(some 40), .nilChk (.tmp 39), none⟩,
    ⟨(some 41), .fieldAddr 1 (.tmp 40), none⟩,
    ⟨(some 42), .load false 1 (.tmp 41), none⟩,
    ⟨(some 43), .mov (.tmp 1), none⟩,
    ⟨(some 44), .fieldAddr 1 (.tmp 5), none⟩,
    ⟨(some 45), .load false 1 (.tmp 44), none⟩,
    ⟨(some 46), .call 32 [(.tmp 42), (.tmp 43), (.tmp 45)], none⟩,
    ⟨(some 47), .build [(.int .i64 0), (.int .i64 0), (.bool false), .nilSlice] [(0, 1, (.tmp 46))], none⟩,
    ⟨none, .store 4 (.tmp 6) (.tmp 47), none⟩])
  .ret))
  (.seq (.ops [⟨(some 49), .bin .eql (.tmp 19) (.con (.int .i64 7)), none⟩,
    ⟨(some 48), .mov (.tmp 49), none⟩])
  (.cond (.tmp 48)
  (.seq (.ops [⟨(some 50), .mov (.tmp 0), none⟩,
    ⟨(some 51), .nilChk (.tmp 50), none⟩,
    ⟨(some 52), .fieldAddr 1 (.tmp 51), none⟩,
    ⟨(some 53), .load false 1 (.tmp 52), none⟩,
    ⟨(some 54), .call 33 [(.tmp 53)], none⟩,
    ⟨(some 55), .build [(.int .i64 0), (.int .i64 0), (.bool false), .nilSlice] [(1, 1, (.tmp 54))], none⟩,
    ⟨none, .store 4 (.tmp 6) (.tmp 55), none⟩])
  .ret)
  (.seq (.ops [⟨(some 57), .bin .eql (.tmp 19) (.con (.int .i64 8)), none⟩,
    ⟨(some 56), .mov (.tmp 57), none⟩])
  (.cond (.tmp 56)
  (.seq (.ops [⟨(some 58), .mov (.tmp 0), none⟩,
    ⟨(some 59), .nilChk (.tmp 58), none⟩,
    ⟨(some 60), .fieldAddr 1 (.tmp 59), none⟩,
    ⟨(some 61), .load false 1 (.tmp 60), none⟩,
    ⟨(some 62), .mov (.tmp 1), none⟩,
    ⟨(some 63), .fieldAddr 3 (.tmp 5), none⟩,
    ⟨(some 64), .load false 1 (.tmp 63), none⟩,
    ⟨(some 65), .call 34 [(.tmp 61), (.tmp 62), (.tmp 64)], none⟩,
    ⟨(some 66), .build [(.int .i64 0), (.int .i64 0), (.bool false), .nilSlice] [(2, 1, (.tmp 65))], none⟩,
    ⟨none, .store 4 (.tmp 6) (.tmp 66), none⟩])
  .ret)
  (.seq (.ops [⟨(some 68), .bin .eql (.tmp 19) (.con (.int .i64 9)), none⟩,
    ⟨(some 67), .mov (.tmp 68), none⟩])
  (.cond (.tmp 67)
  (.seq (.ops [⟨(some 69), .mov (.tmp 0), none⟩,
    ⟨(some 70), .nilChk (.tmp 69), none⟩,
    ⟨(some 71), .fieldAddr 1 (.tmp 70), none⟩,
    ⟨(some 72), .load false 1 (.tmp 71), none⟩,
    ⟨(some 73), .mov (.tmp 1), none⟩,
    ⟨(some 74), .call 35 [(.tmp 72), (.tmp 73)], none⟩,
    ⟨(some 75), .build [(.int .i64 0), (.int .i64 0), (.bool false), .nilSlice] [(2, 1, (.tmp 74))], none⟩,
    ⟨none, .store 4 (.tmp 6) (.tmp 75), none⟩])
  .ret)
  (.seq (.ops [⟨(some 77), .bin .eql (.tmp 19) (.con (.int .i64 10)), none⟩,
    ⟨(some 76), .mov (.tmp 77), none⟩])
  (.cond (.tmp 76)
  (.seq (.ops [⟨(some 78), .mov (.tmp 0), none⟩,
    ⟨(some 79), .nilChk (.tmp 78), none⟩,
    ⟨(some 80), .fieldAddr 1 (.tmp 79), none⟩,
    ⟨(some 81), .load false 1 (.tmp 80), none⟩,
    ⟨(some 82), .fieldAddr 3 (.tmp 5), none⟩,
    ⟨(some 83), .load false 1 (.tmp 82), none⟩,
    ⟨(some 84), .call 36 [(.tmp 81), (.tmp 83)], none⟩,
    ⟨(some 85), .build [(.int .i64 0), (.int .i64 0), (.bool false), .nilSlice] [(1, 1, (.tmp 84))], none⟩,
    ⟨none, .store 4 (.tmp 6) (.tmp 85), none⟩])
  .ret)
  (.seq (.ops [⟨(some 87), .bin .eql (.tmp 19) (.con (.int .i64 11)), none⟩,
    ⟨(some 86), .mov (.tmp 87), none⟩])
  (.cond (.tmp 86)
  (.seq (.ops [⟨(some 88), .mov (.tmp 0), none⟩,
    ⟨(some 89), .nilChk (.tmp 88), none⟩,
    ⟨(some 90), .fieldAddr 1 (.tmp 89), none⟩,
    ⟨(some 91), .load false 1 (.tmp 90), none⟩,
    ⟨(some 92), .fieldAddr 3 (.tmp 5), none⟩,
    ⟨(some 93), .load false 1 (.tmp 92), none⟩,
    ⟨(some 94), .call 37 [(.tmp 91), (.tmp 93)], none⟩,
    ⟨(some 95), .build [(.int .i64 0), (.int .i64 0), (.bool false), .nilSlice] [(2, 1, (.tmp 94))], none⟩,
    ⟨none, .store 4 (.tmp 6) (.tmp 95), none⟩])
  .ret)
  (.seq (.ops [⟨(some 97), .bin .eql (.tmp 19) (.con (.int .i64 12)), none⟩,
    ⟨(some 96), .mov (.tmp 97), none⟩])
  (.cond (.tmp 96)
  (.seq (.ops [⟨(some 98), .mov (.tmp 0), none⟩,
    ⟨(some 99), .mov (.tmp 1), none⟩,
    ⟨(some 100), .call 38 [(.tmp 98), (.tmp 99)], none⟩,
    ⟨none, .store 4 (.tmp 6) (.tmp 100), none⟩])
  .ret)
  (.seq (.seq (.ops [⟨(some 102), .bin .eql (.tmp 19) (.con (.int .i64 13)), none⟩,
    ⟨(some 101), .mov (.tmp 102), none⟩])
  (.cond (.tmp 101)
  .skip
  (.seq (.ops [⟨(some 103), .bin .eql (.tmp 19) (.con (.int .i64 14)), none⟩,
    ⟨(some 101), .mov (.tmp 103), none⟩])
  (.cond (.tmp 101)
  .skip
  (.ops [⟨(some 104), .bin .eql (.tmp 19) (.con (.int .i64 15)), none⟩,
    ⟨(some 101), .mov (.tmp 104), none⟩])))))
  (.cond (.tmp 101)
  (.seq (.ops [⟨(some 105), .mov (.tmp 0), none⟩,
    ⟨(some 106), .mov (.tmp 1), none⟩,
    ⟨(some 107), .fieldAddr 0 (.tmp 5), none⟩,
    ⟨(some 108), .load false 1 (.tmp 107), none⟩,
    ⟨(some 109), .call 39 [(.tmp 105), (.tmp 106), (.tmp 108)], none⟩,
    ⟨none, .store 4 (.tmp 6) (.tmp 109), none⟩])
  .ret)
  .skip))))))))))))))))))))
  (.seq (.ops [⟨(some 110), .build [(.int .i64 0), (.int .i64 0), (.bool false), .nilSlice] [(0, 1, (.con (.int .i64 1)))], none⟩,
    ⟨none, .store 4 (.tmp 6) (.tmp 110), none⟩])
  .ret))))
def a12 : AFunc := ⟨3, c12, [.cell 6 true 4]⟩

/- 13: (*tendril/mem.Mem).Root -/
def c13 : ACode := (.seq (.ops [⟨(some 2), .mov (.con (.int .i64 0)), none⟩])
  (.seq (.ops [⟨(some 3), .mov (.tmp 0), none⟩,
    ⟨(some 4), .nilChk (.tmp 3), none⟩,
    ⟨(some 5), .fieldAddr 3 (.tmp 4), none⟩,
    ⟨(some 6), .load false 1 (.tmp 5), none⟩,
    ⟨(some 2), .mov (.tmp 6), none⟩])
  .ret))
def a13 : AFunc := ⟨1, c13, [.tmp 2]⟩

/- 14: (*tendril/mem.Mem).Live -/
def c14 : ACode := (.seq (.ops [⟨(some 2), .mov (.con (.int .i64 0)), none⟩])
  (.seq (.ops [⟨(some 3), .mov (.tmp 0), none⟩,
    ⟨(some 4), .nilChk (.tmp 3), none⟩,
    ⟨(some 5), .fieldAddr 0 (.tmp 4), none⟩,
    ⟨(some 6), .load false 1 (.tmp 5), none⟩,
    ⟨(some 7), .call 40 [(.tmp 6)], none⟩,
    ⟨(some 2), .mov (.tmp 7), none⟩])
  .ret))
def a14 : AFunc := ⟨1, c14, [.tmp 2]⟩

/- 15: tendril/tendrilkeep.Config -/
def c15 : ACode := (.seq (.ops [⟨(some 1), .box (.tmp 0), none⟩,
    ⟨(some 2), .new [(.int .i64 0), (.int .i64 0), (.int .i64 0), (.int .i64 0), (.int .i64 0), (.int .i64 0), (.int .i64 0), (.int .i64 0)], none⟩])
  (.seq (.ops [⟨(some 3), .new [(.int .i64 0), (.int .i64 0), (.int .i64 0), (.int .i64 0), (.int .i64 0), (.int .i64 0), (.int .i64 0), (.int .i64 0)], none⟩])
  (.seq (.draw [.op ⟨(some 4), .fieldAddr 0 (.tmp 1), none⟩,
    .op ⟨(some 5), .idxAddrArr 5 1 (.tmp 4) (.con (.int .i64 0)), none⟩,
    .op ⟨(some 6), .load false 1 (.tmp 5), none⟩,
    .op ⟨(some 9), .fieldAddr 0 (.tmp 1), none⟩,
    .op ⟨(some 10), .idxAddrArr 5 1 (.tmp 9) (.con (.int .i64 1)), none⟩,
    .op ⟨(some 11), .load false 1 (.tmp 10), none⟩,
    .op ⟨(some 14), .fieldAddr 0 (.tmp 1), none⟩,
    .op ⟨(some 15), .idxAddrArr 5 1 (.tmp 14) (.con (.int .i64 2)), none⟩,
    .op ⟨(some 16), .load false 1 (.tmp 15), none⟩,
    .op ⟨(some 19), .fieldAddr 0 (.tmp 1), none⟩,
    .op ⟨(some 20), .idxAddrArr 5 1 (.tmp 19) (.con (.int .i64 3)), none⟩,
    .op ⟨(some 21), .load false 1 (.tmp 20), none⟩,
    .op ⟨(some 24), .fieldAddr 0 (.tmp 1), none⟩,
    .op ⟨(some 25), .idxAddrArr 5 1 (.tmp 24) (.con (.int .i64 4)), none⟩,
    .op ⟨(some 26), .load false 1 (.tmp 25), none⟩,
    .op ⟨(some 7), .call 16 [(.tmp 6), (.con (.int .i64 0)), (.con (.int .i64 20))], none⟩,
    .op ⟨(some 8), .bin .add (.con (.int .i64 40)) (.tmp 7), none⟩,
    .look ⟨(some 11), .load false 1 (.tmp 10), none⟩,
    .look ⟨(some 16), .load false 1 (.tmp 15), none⟩,
    .look ⟨(some 21), .load false 1 (.tmp 20), none⟩,
    .look ⟨(some 26), .load false 1 (.tmp 25), none⟩,
    .op ⟨(some 12), .call 16 [(.tmp 11), (.con (.int .i64 0)), (.con (.int .i64 20))], none⟩,
    .op ⟨(some 13), .bin .add (.con (.int .i64 24)) (.tmp 12), none⟩,
    .look ⟨(some 16), .load false 1 (.tmp 15), none⟩,
    .look ⟨(some 21), .load false 1 (.tmp 20), none⟩,
    .look ⟨(some 26), .load false 1 (.tmp 25), none⟩,
    .op ⟨(some 17), .call 16 [(.tmp 16), (.con (.int .i64 0)), (.con (.int .i64 8))], none⟩,
    .op ⟨(some 18), .bin .add (.con (.int .i64 8)) (.tmp 17), none⟩,
    .look ⟨(some 21), .load false 1 (.tmp 20), none⟩,
    .look ⟨(some 26), .load false 1 (.tmp 25), none⟩,
    .op ⟨(some 22), .call 16 [(.tmp 21), (.con (.int .i64 0)), (.con (.int .i64 4))], none⟩,
    .op ⟨(some 23), .bin .add (.con (.int .i64 4)) (.tmp 22), none⟩,
    .look ⟨(some 26), .load false 1 (.tmp 25), none⟩,
    .op ⟨(some 27), .call 16 [(.tmp 26), (.con (.int .i64 0)), (.con (.int .i64 2))], none⟩,
    .op ⟨(some 28), .bin .add (.con (.int .i64 2)) (.tmp 27), none⟩,
    .op ⟨(some 29), .build [(.int .i64 0), (.int .i64 0), (.int .i64 0), (.int .i64 0), (.int .i64 0)] [(0, 1, (.tmp 8)), (1, 1, (.tmp 13)), (2, 1, (.tmp 18)), (3, 1, (.tmp 23)), (4, 1, (.tmp 28))], none⟩,
    .op ⟨(some 30), .fieldAddr 0 (.tmp 3), none⟩,
    .op ⟨none, .store 5 (.tmp 30) (.tmp 29), none⟩])
  (.seq (.ops [⟨(some 31), .fieldAddr 5 (.tmp 1), none⟩,
    ⟨(some 32), .load false 1 (.tmp 31), none⟩,
    ⟨(some 33), .call 16 [(.tmp 32), (.con (.int .i64 0)), (.con (.int .i64 3))], none⟩,
    ⟨(some 34), .bin .add (.con (.int .i64 1)) (.tmp 33), none⟩,
    ⟨(some 35), .fieldAddr 5 (.tmp 3), none⟩,
    ⟨none, .store 1 (.tmp 35) (.tmp 34), none⟩])
  (.seq (.ops [⟨(some 36), .fieldAddr 6 (.tmp 1), none⟩,
    ⟨(some 37), .load false 1 (.tmp 36), none⟩,
    ⟨(some 38), .call 16 [(.tmp 37), (.con (.int .i64 0)), (.con (.int .i64 56))], none⟩,
    ⟨(some 39), .bin .add (.con (.int .i64 8)) (.tmp 38), none⟩,
    ⟨(some 40), .fieldAddr 6 (.tmp 3), none⟩,
    ⟨none, .store 1 (.tmp 40) (.tmp 39), none⟩])
  (.seq (.ops [⟨(some 41), .fieldAddr 7 (.tmp 1), none⟩,
    ⟨(some 42), .load false 1 (.tmp 41), none⟩,
    ⟨(some 43), .call 16 [(.tmp 42), (.con (.int .i64 0)), (.con (.int .i64 5))], none⟩,
    ⟨(some 44), .bin .add (.con (.int .i64 1)) (.tmp 43), none⟩,
    ⟨(some 45), .fieldAddr 7 (.tmp 3), none⟩,
    ⟨none, .store 1 (.tmp 45) (.tmp 44), none⟩])
  (.seq (.ops [⟨(some 46), .load true 8 (.tmp 3), none⟩,
    ⟨none, .store 8 (.tmp 2) (.tmp 46), none⟩])
  .ret)))))))
def a15 : AFunc := ⟨1, c15, [.cell 2 true 8]⟩

/- 16: tendril/tendrilbook.Within -/
def c16 : ACode := (.seq (.ops [⟨(some 6), .mov (.con (.int .i64 0)), none⟩])
  (.seq (.ops [⟨(some 7), .mov (.tmp 0), none⟩,
    ⟨(some 8), .mov (.tmp 2), none⟩,
    ⟨(some 9), .mov (.tmp 1), none⟩,
    ⟨(some 10), .bin .sub (.tmp 8) (.tmp 9), none⟩,
    ⟨(some 11), .bin .add (.tmp 10) (.con (.int .i64 1)), none⟩,
    ⟨(some 12), .bin .rem (.tmp 7) (.tmp 11), none⟩,
    ⟨(some 0), .mov (.tmp 12), none⟩])
  (.seq (.seq (.ops [⟨(some 13), .mov (.tmp 0), none⟩,
    ⟨(some 14), .bin .lss (.tmp 13) (.con (.int .i64 0)), none⟩])
  (.cond (.tmp 14)
  (.ops [⟨(some 15), .mov (.tmp 0), none⟩,
    ⟨(some 16), .mov (.tmp 2), none⟩,
    ⟨(some 17), .bin .add (.tmp 15) (.tmp 16), none⟩,
    ⟨(some 18), .mov (.tmp 1), none⟩,
    ⟨(some 19), .bin .sub (.tmp 17) (.tmp 18), none⟩,
    ⟨(some 20), .bin .add (.tmp 19) (.con (.int .i64 1)), none⟩,
    ⟨(some 0), .mov (.tmp 20), none⟩])
  .skip))
  (.seq (.ops [⟨(some 21), .mov (.tmp 1), none⟩,
    ⟨(some 22), .mov (.tmp 0), none⟩,
    ⟨(some 23), .bin .add (.tmp 21) (.tmp 22), none⟩,
    ⟨(some 6), .mov (.tmp 23), none⟩])
  .ret))))
def a16 : AFunc := ⟨3, c16, [.tmp 6]⟩

/- 17: (*tendril/mem.Mem).Now -/
def c17 : ACode := (.seq (.ops [⟨(some 2), .mov (.con (.int .i64 0)), none⟩])
  (.seq (.ops [⟨(some 3), .mov (.tmp 0), none⟩,
    ⟨(some 4), .nilChk (.tmp 3), none⟩,
    ⟨(some 5), .fieldAddr 1 (.tmp 4), none⟩,
    ⟨(some 6), .load false 1 (.tmp 5), none⟩,
    ⟨(some 7), .call 33 [(.tmp 6)], none⟩,
    ⟨(some 2), .mov (.tmp 7), none⟩])
  .ret))
def a17 : AFunc := ⟨1, c17, [.tmp 2]⟩

/- 18: tendril/tendrilref1.Decode -/
def c18l0 : ACode := (.seq (.ops [⟨(some 84), .bin .lss (.tmp 83) (.tmp 82), none⟩])
  (.seq (.cond (.tmp 84)
  .skip
  (.exit 0))
  (.seq (.block 1 (.seq (.ops [⟨(some 85), .mov (.tmp 83), none⟩,
    ⟨(some 9), .mov (.tmp 85), none⟩])
  (.seq (.ops [⟨(some 86), .mov (.tmp 8), none⟩,
    ⟨(some 87), .mov (.tmp 9), none⟩,
    ⟨(some 88), .idxAddr 1 (.tmp 86) (.tmp 87), none⟩,
    ⟨(some 89), .load false 1 (.tmp 88), none⟩,
    ⟨(some 90), .mov (.tmp 0), none⟩,
    ⟨(some 91), .mov (.tmp 9), none⟩,
    ⟨(some 92), .idxAddr 1 (.tmp 90) (.tmp 91), none⟩,
    ⟨(some 93), .load false 1 (.tmp 92), none⟩,
    ⟨(some 94), .bin .neq (.tmp 89) (.tmp 93), none⟩])
  (.cond (.tmp 94)
  (.seq (.ops [⟨(some 95), .build [(.int .i64 0), (.int .u64 0), (.str []), .nilSlice, .nilSlice] [], none⟩,
    ⟨none, .store 5 (.tmp 2) (.tmp 95), none⟩,
    ⟨(some 3), .mov (.con (.bool false)), none⟩])
  .ret)
  .skip))))
  (.ops [⟨(some 96), .bin .add (.tmp 83) (.con (.int .i64 1)), none⟩,
    ⟨(some 83), .mov (.tmp 96), none⟩]))))
def c18 : ACode := (.seq (.ops [⟨(some 2), .new [(.int .i64 0), (.int .u64 0), (.str []), .nilSlice, .nilSlice], none⟩,
    ⟨(some 3), .mov (.con (.bool false)), none⟩])
  (.seq (.seq (.ops [⟨(some 10), .mov (.tmp 0), none⟩,
    ⟨(some 11), .lenSlice (.tmp 10), none⟩,
    ⟨(some 12), .bin .lss (.tmp 11) (.con (.int .i64 4)), none⟩])
  (.cond (.tmp 12)
  (.seq (.ops [⟨(some 13), .build [(.int .i64 0), (.int .u64 0), (.str []), .nilSlice, .nilSlice] [], none⟩,
    ⟨none, .store 5 (.tmp 2) (.tmp 13), none⟩,
    ⟨(some 3), .mov (.con (.bool false)), none⟩])
  .ret)
  .skip))
  (.seq (.draw [.op ⟨(some 14), .mov (.tmp 0), none⟩,
    .op ⟨(some 15), .idxAddr 1 (.tmp 14) (.con (.int .i64 1)), none⟩,
    .op ⟨(some 16), .load false 1 (.tmp 15), none⟩,
    .op ⟨(some 17), .bin .and (.tmp 16) (.con (.int .u64 255)), none⟩,
    .op ⟨(some 18), .toInt .i64 (.tmp 17), none⟩,
    .op ⟨(some 19), .mov (.tmp 0), none⟩,
    .op ⟨(some 20), .idxAddr 1 (.tmp 19) (.con (.int .i64 0)), none⟩,
    .op ⟨(some 21), .load false 1 (.tmp 20), none⟩,
    .op ⟨(some 22), .build [(.int .i64 0), (.int .u64 0), (.str []), .nilSlice, .nilSlice] [(0, 1, (.tmp 18)), (1, 1, (.tmp 21))], none⟩,
    .op ⟨(some 4), .new [(.int .i64 0), (.int .u64 0), (.str []), .nilSlice, .nilSlice], none⟩,
    .look ⟨(some 16), .load false 1 (.tmp 15), none⟩,
    .look ⟨(some 21), .load false 1 (.tmp 20), none⟩,
    .look ⟨(some 4), .new [(.int .i64 0), (.int .u64 0), (.str []), .nilSlice, .nilSlice], none⟩,
    .op ⟨none, .store 5 (.tmp 4) (.tmp 22), none⟩])
  (.seq (.ops [⟨(some 23), .mov (.tmp 0), none⟩,
    ⟨(some 24), .idxAddr 1 (.tmp 23) (.con (.int .i64 1)), none⟩,
    ⟨(some 25), .load false 1 (.tmp 24), none⟩,
    ⟨(some 26), .bin .shr (.tmp 25) (.con (.int .u64 16)), none⟩,
    ⟨(some 27), .bin .and (.tmp 26) (.con (.int .u64 65535)), none⟩,
    ⟨(some 28), .toInt .i64 (.tmp 27), none⟩,
    ⟨(some 5), .mov (.tmp 28), none⟩])
  (.seq (.seq (.ops [⟨(some 29), .fieldAddr 0 (.tmp 4), none⟩,
    ⟨(some 30), .load false 1 (.tmp 29), none⟩,
    ⟨(some 31), .bin .lss (.tmp 30) (.con (.int .i64 1)), none⟩,
    ⟨(some 32), .mov (.tmp 31), none⟩,
    ⟨(some 33), .fieldAddr 0 (.tmp 4), (some (32, false))⟩,
    ⟨(some 34), .load false 1 (.tmp 33), (some (32, false))⟩,
    ⟨(some 35), .bin .gtr (.tmp 34) (.con (.int .i64 4)), (some (32, false))⟩,
    ⟨(some 36), .pick (.tmp 32) (.con (.bool true)) (.tmp 35), none⟩,
    ⟨(some 37), .mov (.tmp 36), none⟩,
    ⟨(some 38), .mov (.tmp 0), (some (37, false))⟩,
    ⟨(some 39), .lenSlice (.tmp 38), (some (37, false))⟩,
    ⟨(some 40), .fieldAddr 0 (.tmp 4), (some (37, false))⟩,
    ⟨(some 41), .load false 1 (.tmp 40), (some (37, false))⟩,
    ⟨(some 42), .call 41 [(.tmp 41)], (some (37, false))⟩,
    ⟨(some 43), .bin .neq (.tmp 39) (.tmp 42), (some (37, false))⟩,
    ⟨(some 44), .pick (.tmp 37) (.con (.bool true)) (.tmp 43), none⟩])
  (.cond (.tmp 44)
  (.seq (.ops [⟨(some 45), .build [(.int .i64 0), (.int .u64 0), (.str []), .nilSlice, .nilSlice] [], none⟩,
    ⟨none, .store 5 (.tmp 2) (.tmp 45), none⟩,
    ⟨(some 3), .mov (.con (.bool false)), none⟩])
  .ret)
  .skip))
  (.seq (.ops [⟨(some 47), .mov (.tmp 0), none⟩,
    ⟨(some 48), .slc 1 (.tmp 47) (some (.con (.int .i64 2))) (some (.con (.int .i64 4))) none, none⟩,
    ⟨(some 49), .mov (.tmp 0), none⟩,
    ⟨(some 50), .idxAddr 1 (.tmp 49) (.con (.int .i64 1)), none⟩,
    ⟨(some 51), .load false 1 (.tmp 50), none⟩,
    ⟨(some 52), .bin .shr (.tmp 51) (.con (.int .u64 8)), none⟩,
    ⟨(some 53), .bin .and (.tmp 52) (.con (.int .u64 255)), none⟩,
    ⟨(some 54), .toInt .i64 (.tmp 53), none⟩,
    ⟨(some 55), .call 42 [(.tmp 48), (.tmp 54)], none⟩,
    ⟨(some 46), .mov (.tmp 55), none⟩,
    ⟨(some 56), .extract (.tmp 46) 0, none⟩,
    ⟨(some 57), .extract (.tmp 46) 1, none⟩,
    ⟨(some 6), .mov (.tmp 56), none⟩,
    ⟨(some 7), .mov (.tmp 57), none⟩])
  (.seq (.seq (.ops [⟨(some 58), .mov (.tmp 7), none⟩,
    ⟨(some 59), .bin .neq (.tmp 58) (.con (.int .i64 0)), none⟩])
  (.cond (.tmp 59)
  (.seq (.ops [⟨(some 60), .build [(.int .i64 0), (.int .u64 0), (.str []), .nilSlice, .nilSlice] [], none⟩,
    ⟨none, .store 5 (.tmp 2) (.tmp 60), none⟩,
    ⟨(some 3), .mov (.con (.bool false)), none⟩])
  .ret)
  .skip))
  (.seq (.ops [⟨(some 61), .mov (.tmp 6), none⟩,
    ⟨(some 62), .fieldAddr 2 (.tmp 4), none⟩,
    ⟨none, .store 1 (.tmp 62) (.tmp 61), none⟩])
  (.seq (.ops [⟨(some 64), .fieldAddr 0 (.tmp 4), none⟩,
    ⟨(some 65), .load false 1 (.tmp 64), none⟩,
    ⟨(some 66), .mov (.tmp 5), none⟩,
    ⟨(some 67), .mov (.tmp 0), none⟩,
    ⟨(some 68), .call 43 [(.tmp 65), (.tmp 66), (.tmp 67)], none⟩,
    ⟨(some 63), .mov (.tmp 68), none⟩,
    ⟨(some 69), .extract (.tmp 63) 0, none⟩,
    ⟨(some 70), .extract (.tmp 63) 1, none⟩,
    ⟨(some 71), .fieldAddr 3 (.tmp 4), none⟩,
    ⟨none, .store 1 (.tmp 71) (.tmp 69), none⟩,
    ⟨(some 72), .fieldAddr 4 (.tmp 4), none⟩,
    ⟨none, .store 1 (.tmp 72) (.tmp 70), none⟩])
  (.seq (.ops [⟨(some 73), .load true 5 (.tmp 4), none⟩,
    ⟨(some 74), .call 44 [(.tmp 73)], none⟩,
    ⟨(some 8), .mov (.tmp 74), none⟩])
  (.seq (.seq (.ops [⟨(some 75), .mov (.tmp 8), none⟩,
    ⟨(some 76), .lenSlice (.tmp 75), none⟩,
    ⟨(some 77), .mov (.tmp 0), none⟩,
    ⟨(some 78), .lenSlice (.tmp 77), none⟩,
    ⟨(some 79), .bin .neq (.tmp 76) (.tmp 78), none⟩])
  (.cond (.tmp 79)
  (.seq (.ops [⟨(some 80), .build [(.int .i64 0), (.int .u64 0), (.str []), .nilSlice, .nilSlice] [], none⟩,
    ⟨none, .store 5 (.tmp 2) (.tmp 80), none⟩,
    ⟨(some 3), .mov (.con (.bool false)), none⟩])
  .ret)
  .skip))
  (.seq (.seq (.ops [⟨(some 81), .mov (.tmp 8), none⟩,
    ⟨(some 82), .lenSlice (.tmp 81), none⟩,
    ⟨(some 83), .mov (.con (.int .i64 0)), none⟩])
  (.block 0 (.loop c18l0)))
  (.seq (.ops [⟨(some 97), .load true 5 (.tmp 4), none⟩,
    ⟨none, .store 5 (.tmp 2) (.tmp 97), none⟩,
    ⟨(some 3), .mov (.con (.bool true)), none⟩])
  .ret)))))))))))))
def a18 : AFunc := ⟨1, c18, [.cell 2 true 5, .tmp 3]⟩

/- 19: (*tendril/mem.Mem).Limbo -/
def c19 : ACode := (.seq (.ops [⟨(some 4), .mov (.con (.int .i64 0)), none⟩])
  (.seq (.ops [⟨(some 5), .mov (.tmp 0), none⟩,
    ⟨(some 6), .nilChk (.tmp 5), none⟩,
    ⟨(some 7), .fieldAddr 1 (.tmp 6), none⟩,
    ⟨(some 8), .load false 1 (.tmp 7), none⟩,
    ⟨(some 9), .mov (.tmp 1), none⟩,
    ⟨(some 10), .call 45 [(.tmp 8), (.tmp 9)], none⟩,
    ⟨(some 4), .mov (.tmp 10), none⟩])
  .ret))
def a19 : AFunc := ⟨2, c19, [.tmp 4]⟩

/- 25: (*tendril/mem.Mem).Room -/
def c25 : ACode := (.seq (.ops [⟨(some 4), .mov (.con (.int .i64 0)), none⟩])
  (.seq (.ops [⟨(some 5), .mov (.tmp 0), none⟩,
    ⟨(some 6), .nilChk (.tmp 5), none⟩,
    ⟨(some 7), .fieldAddr 0 (.tmp 6), none⟩,
    ⟨(some 8), .load false 1 (.tmp 7), none⟩,
    ⟨(some 9), .mov (.tmp 1), none⟩,
    ⟨(some 10), .call 58 [(.tmp 8), (.tmp 9)], none⟩,
    ⟨(some 4), .mov (.tmp 10), none⟩])
  .ret))
def a25 : AFunc := ⟨2, c25, [.tmp 4]⟩

/- 27: tendril/arena.New -/
def c27l0 : ACode := (.seq (.ops [⟨(some 12), .bin .lss (.tmp 11) (.con (.int .i64 5)), none⟩])
  (.seq (.cond (.tmp 12)
  .skip
  (.exit 0))
  (.seq (.block 1 (.seq (.ops [⟨(some 13), .idxArr false 5 1 (.tmp 10) (.tmp 11), none⟩,
    ⟨(some 6), .mov (.tmp 13), none⟩])
  (.seq (.seq (.ops [⟨(some 14), .mov (.tmp 6), none⟩,
    ⟨(some 15), .bin .lss (.tmp 14) (.con (.int .i64 0)), none⟩,
    ⟨(some 16), .mov (.tmp 15), none⟩,
    ⟨(some 17), .mov (.tmp 6), (some (16, false))⟩,
    ⟨(some 18), .mov (.tmp 4), (some (16, false))⟩,
    ⟨(some 19), .bin .gtr (.tmp 17) (.tmp 18), (some (16, false))⟩,
    ⟨(some 20), .pick (.tmp 16) (.con (.bool true)) (.tmp 19), none⟩])
  (.cond (.tmp 20)
  (.seq (.ops [⟨(some 2), .mov (.con .nilPtr), none⟩,
    ⟨(some 3), .mov (.con (.int .i64 1)), none⟩])
  .ret)
  .skip))
  (.ops [⟨(some 21), .mov (.tmp 4), none⟩,
    ⟨(some 22), .mov (.tmp 6), none⟩,
    ⟨(some 23), .bin .sub (.tmp 21) (.tmp 22), none⟩,
    ⟨(some 4), .mov (.tmp 23), none⟩]))))
  (.ops [⟨(some 24), .bin .add (.tmp 11) (.con (.int .i64 1)), none⟩,
    ⟨(some 11), .mov (.tmp 24), none⟩]))))
def c27l1 : ACode := (.seq (.ops [⟨(some 43), .bin .lss (.tmp 42) (.tmp 41), none⟩])
  (.seq (.cond (.tmp 43)
  .skip
  (.exit 4))
  (.seq (.block 5 (.seq (.ops [⟨(some 44), .mov (.tmp 7), none⟩,
    ⟨(some 45), .mov (.tmp 8), none⟩,
    ⟨(some 46), .nilChk (.tmp 44), none⟩,
    ⟨(some 47), .fieldAddr 1 (.tmp 46), none⟩,
    ⟨(some 48), .idxAddrArr 5 1 (.tmp 47) (.tmp 45), none⟩,
    ⟨(some 49), .load false 1 (.tmp 48), none⟩,
    ⟨(some 50), .mov (.tmp 7), none⟩,
    ⟨(some 51), .nilChk (.tmp 50), none⟩,
    ⟨(some 52), .fieldAddr 0 (.tmp 51), none⟩,
    ⟨(some 53), .load false 1 (.tmp 52), none⟩,
    ⟨(some 54), .lenSlice (.tmp 53), none⟩,
    ⟨(some 55), .call 60 [(.tmp 49), (.tmp 54)], none⟩])
  (.draw [.op ⟨(some 56), .mov (.tmp 7), none⟩,
    .op ⟨(some 57), .mov (.tmp 7), none⟩,
    .op ⟨(some 58), .nilChk (.tmp 57), none⟩,
    .op ⟨(some 59), .fieldAddr 0 (.tmp 58), none⟩,
    .op ⟨(some 60), .load false 1 (.tmp 59), none⟩,
    .op ⟨(some 61), .mov (.tmp 8), none⟩,
    .op ⟨(some 62), .mov (.tmp 8), none⟩,
    .op ⟨(some 63), .call 61 [(.tmp 62)], none⟩,
    .op ⟨(some 64), .build [(.int .i64 0), (.int .i64 0), (.bool false), .nilSlice] [(0, 1, (.tmp 61)), (1, 1, (.con (.int .i64 1))), (3, 1, (.tmp 63))], none⟩,
    .op ⟨(some 65), .buildSlice 4 1 [(.int .i64 0), (.int .i64 0), (.bool false), .nilSlice] [(0, 4, (.tmp 64))], none⟩,
    .look ⟨(some 60), .load false 1 (.tmp 59), none⟩,
    .look ⟨(some 65), .buildSlice 4 1 [(.int .i64 0), (.int .i64 0), (.bool false), .nilSlice] [(0, 4, (.tmp 64))], none⟩,
    .op ⟨(some 66), .append 4 48 (.tmp 60) (.tmp 65), none⟩,
    .op ⟨(some 67), .nilChk (.tmp 56), none⟩,
    .op ⟨(some 68), .fieldAddr 0 (.tmp 67), none⟩,
    .op ⟨none, .store 1 (.tmp 68) (.tmp 66), none⟩])))
  (.ops [⟨(some 69), .bin .add (.tmp 42) (.con (.int .i64 1)), none⟩,
    ⟨(some 42), .mov (.tmp 69), none⟩]))))
def c27l2 : ACode := (.seq (.ops [⟨(some 29), .bin .lss (.tmp 28) (.con (.int .i64 5)), none⟩])
  (.seq (.cond (.tmp 29)
  .skip
  (.exit 2))
  (.seq (.block 3 (.seq (.ops [⟨(some 30), .mov (.tmp 28), none⟩,
    ⟨(some 31), .idxArr false 5 1 (.tmp 27) (.tmp 28), none⟩,
    ⟨(some 8), .mov (.tmp 30), none⟩,
    ⟨(some 9), .mov (.tmp 31), none⟩])
  (.seq (.ops [⟨(some 33), .mov (.tmp 7), none⟩,
    ⟨(some 34), .mov (.tmp 8), none⟩,
    ⟨(some 38), .nilChk (.tmp 33), none⟩,
    ⟨(some 39), .fieldAddr 1 (.tmp 38), none⟩,
    ⟨(some 35), .call 59 [(.con (.int .i64 1024))], none⟩,
    ⟨(some 32), .mov (.tmp 35), none⟩,
    ⟨(some 36), .extract (.tmp 32) 0, none⟩,
    ⟨(some 37), .extract (.tmp 32) 1, none⟩,
    ⟨(some 40), .idxAddrArr 5 1 (.tmp 39) (.tmp 34), none⟩,
    ⟨none, .store 1 (.tmp 40) (.tmp 36), none⟩])
  (.seq (.ops [⟨(some 41), .mov (.tmp 9), none⟩,
    ⟨(some 42), .mov (.con (.int .i64 0)), none⟩])
  (.block 4 (.loop c27l1))))))
  (.ops [⟨(some 70), .bin .add (.tmp 28) (.con (.int .i64 1)), none⟩,
    ⟨(some 28), .mov (.tmp 70), none⟩]))))
def c27 : ACode := (.seq (.ops [⟨(some 1), .box (.tmp 0), none⟩,
    ⟨(some 2), .mov (.con .nilPtr), none⟩,
    ⟨(some 3), .mov (.con (.int .i64 0)), none⟩])
  (.seq (.ops [⟨(some 4), .mov (.con (.int .i64 1024)), none⟩])
  (.seq (.seq (.ops [⟨(some 10), .load true 5 (.tmp 1), none⟩,
    ⟨(some 11), .mov (.con (.int .i64 0)), none⟩])
  (.block 0 (.loop c27l0)))
  (.seq (.ops [⟨(some 25), .build [.nilSlice, .nilPtr, .nilPtr, .nilPtr, .nilPtr, .nilPtr] [], none⟩,
    ⟨(some 26), .box (.tmp 25), none⟩,
    ⟨(some 7), .mov (.tmp 26), none⟩])
  (.seq (.seq (.ops [⟨(some 27), .load true 5 (.tmp 1), none⟩,
    ⟨(some 28), .mov (.con (.int .i64 0)), none⟩])
  (.block 2 (.loop c27l2)))
  (.seq (.ops [⟨(some 71), .mov (.tmp 7), none⟩,
    ⟨(some 2), .mov (.tmp 71), none⟩,
    ⟨(some 3), .mov (.con (.int .i64 0)), none⟩])
  .ret))))))
def a27 : AFunc := ⟨1, c27, [.tmp 2, .tmp 3]⟩

/- 28: tendril/epoch.New -/
def c28l0 : ACode := (.seq (.ops [⟨(some 26), .bin .lss (.tmp 25) (.tmp 24), none⟩])
  (.seq (.cond (.tmp 26)
  .skip
  (.exit 0))
  (.seq (.block 1 (.ops [⟨(some 27), .mov (.tmp 6), none⟩,
    ⟨(some 28), .mov (.tmp 6), none⟩,
    ⟨(some 29), .nilChk (.tmp 28), none⟩,
    ⟨(some 30), .fieldAddr 2 (.tmp 29), none⟩,
    ⟨(some 31), .load false 1 (.tmp 30), none⟩,
    ⟨(some 32), .build [(.int .i64 0), .nilSlice] [(0, 1, (.con (.int .i64 (-1))))], none⟩,
    ⟨(some 33), .buildSlice 2 1 [(.int .i64 0), .nilSlice] [(0, 2, (.tmp 32))], none⟩,
    ⟨(some 34), .append 2 32 (.tmp 31) (.tmp 33), none⟩,
    ⟨(some 35), .nilChk (.tmp 27), none⟩,
    ⟨(some 36), .fieldAddr 2 (.tmp 35), none⟩,
    ⟨none, .store 1 (.tmp 36) (.tmp 34), none⟩]))
  (.ops [⟨(some 37), .bin .add (.tmp 25) (.con (.int .i64 1)), none⟩,
    ⟨(some 25), .mov (.tmp 37), none⟩]))))
def c28 : ACode := (.seq (.ops [⟨(some 4), .mov (.con .nilPtr), none⟩,
    ⟨(some 5), .mov (.con (.int .i64 0)), none⟩])
  (.seq (.seq (.ops [⟨(some 7), .mov (.tmp 0), none⟩,
    ⟨(some 8), .bin .lss (.tmp 7) (.con (.int .i64 1)), none⟩,
    ⟨(some 9), .mov (.tmp 8), none⟩,
    ⟨(some 10), .mov (.tmp 0), (some (9, false))⟩,
    ⟨(some 11), .bin .gtr (.tmp 10) (.con (.int .i64 8)), (some (9, false))⟩,
    ⟨(some 12), .pick (.tmp 9) (.con (.bool true)) (.tmp 11), none⟩,
    ⟨(some 13), .mov (.tmp 12), none⟩,
    ⟨(some 14), .mov (.tmp 1), (some (13, false))⟩,
    ⟨(some 15), .bin .lss (.tmp 14) (.con (.int .i64 4)), (some (13, false))⟩,
    ⟨(some 16), .pick (.tmp 13) (.con (.bool true)) (.tmp 15), none⟩,
    ⟨(some 17), .mov (.tmp 16), none⟩,
    ⟨(some 18), .mov (.tmp 1), (some (17, false))⟩,
    ⟨(some 19), .bin .gtr (.tmp 18) (.con (.int .i64 64)), (some (17, false))⟩,
    ⟨(some 20), .pick (.tmp 17) (.con (.bool true)) (.tmp 19), none⟩])
  (.cond (.tmp 20)
  (.seq (.ops [⟨(some 4), .mov (.con .nilPtr), none⟩,
    ⟨(some 5), .mov (.con (.int .i64 1)), none⟩])
  .ret)
  .skip))
  (.seq (.ops [⟨(some 21), .mov (.tmp 1), none⟩,
    ⟨(some 22), .build [(.int .i64 0), (.int .i64 0), .nilSlice] [(1, 1, (.tmp 21))], none⟩,
    ⟨(some 23), .box (.tmp 22), none⟩,
    ⟨(some 6), .mov (.tmp 23), none⟩])
  (.seq (.seq (.ops [⟨(some 24), .mov (.tmp 0), none⟩,
    ⟨(some 25), .mov (.con (.int .i64 0)), none⟩])
  (.block 0 (.loop c28l0)))
  (.seq (.ops [⟨(some 38), .mov (.tmp 6), none⟩,
    ⟨(some 4), .mov (.tmp 38), none⟩,
    ⟨(some 5), .mov (.con (.int .i64 0)), none⟩])
  .ret)))))
def a28 : AFunc := ⟨2, c28, [.tmp 4, .tmp 5]⟩

/- 30: tendril/node.Encode -/
def c30l0 : ACode := (.seq (.ops [⟨(some 72), .bin .lss (.tmp 71) (.tmp 70), none⟩])
  (.seq (.cond (.tmp 72)
  .skip
  (.exit 1))
  (.seq (.block 2 (.seq (.ops [⟨(some 73), .mov (.tmp 71), none⟩,
    ⟨(some 74), .idxAddr 1 (.tmp 69) (.tmp 71), none⟩,
    ⟨(some 75), .load false 1 (.tmp 74), none⟩,
    ⟨(some 5), .mov (.tmp 73), none⟩,
    ⟨(some 6), .mov (.tmp 75), none⟩])
  (.seq (.ops [⟨(some 76), .mov (.tmp 4), none⟩,
    ⟨(some 77), .mov (.tmp 5), none⟩,
    ⟨(some 78), .bin .add (.tmp 76) (.tmp 77), none⟩,
    ⟨(some 7), .mov (.tmp 78), none⟩])
  (.seq (.seq (.ops [⟨(some 79), .fieldAddr 0 (.tmp 1), none⟩,
    ⟨(some 80), .load false 1 (.tmp 79), none⟩,
    ⟨(some 81), .bin .eql (.tmp 80) (.con (.int .i64 4)), none⟩])
  (.cond (.tmp 81)
  (.ops [⟨(some 82), .fieldAddr 3 (.tmp 1), none⟩,
    ⟨(some 83), .load false 1 (.tmp 82), none⟩,
    ⟨(some 84), .mov (.tmp 5), none⟩,
    ⟨(some 85), .idxAddr 1 (.tmp 83) (.tmp 84), none⟩,
    ⟨(some 86), .load false 1 (.tmp 85), none⟩,
    ⟨(some 87), .toInt .i64 (.tmp 86), none⟩,
    ⟨(some 88), .bin .add (.con (.int .i64 4)) (.tmp 87), none⟩,
    ⟨(some 7), .mov (.tmp 88), none⟩])
  .skip))
  (.ops [⟨(some 89), .mov (.tmp 3), none⟩,
    ⟨(some 90), .mov (.tmp 7), none⟩,
    ⟨(some 91), .mov (.tmp 6), none⟩,
    ⟨(some 92), .toInt .u64 (.tmp 91), none⟩,
    ⟨(some 93), .idxAddr 1 (.tmp 89) (.tmp 90), none⟩,
    ⟨none, .store 1 (.tmp 93) (.tmp 92), none⟩])))))
  (.ops [⟨(some 94), .bin .add (.tmp 71) (.con (.int .i64 1)), none⟩,
    ⟨(some 71), .mov (.tmp 94), none⟩]))))
def c30 : ACode := (.seq (.ops [⟨(some 1), .box (.tmp 0), none⟩,
    ⟨(some 2), .mov (.con .nilSlice), none⟩])
  (.seq (.seq (.ops [⟨(some 8), .load true 5 (.tmp 1), none⟩,
    ⟨(some 9), .call 66 [(.tmp 8)], none⟩,
    ⟨(some 10), .un .not (.tmp 9), none⟩])
  (.cond (.tmp 10)
  (.seq (.ops [⟨(some 2), .mov (.con .nilSlice), none⟩])
  .ret)
  .skip))
  (.seq (.ops [⟨(some 11), .fieldAddr 0 (.tmp 1), none⟩,
    ⟨(some 12), .load false 1 (.tmp 11), none⟩,
    ⟨(some 13), .call 62 [(.tmp 12)], none⟩,
    ⟨(some 14), .mkSlice 1 8 [(.int .u64 0)] (.tmp 13) (.tmp 13), none⟩,
    ⟨(some 3), .mov (.tmp 14), none⟩])
  (.seq (.ops [⟨(some 15), .mov (.tmp 3), none⟩,
    ⟨(some 16), .fieldAddr 1 (.tmp 1), none⟩,
    ⟨(some 17), .load false 1 (.tmp 16), none⟩,
    ⟨(some 18), .idxAddr 1 (.tmp 15) (.con (.int .i64 0)), none⟩,
    ⟨none, .store 1 (.tmp 18) (.tmp 17), none⟩])
  (.seq (.ops [⟨(some 19), .mov (.tmp 3), none⟩,
    ⟨(some 20), .fieldAddr 0 (.tmp 1), none⟩,
    ⟨(some 21), .load false 1 (.tmp 20), none⟩,
    ⟨(some 22), .fieldAddr 2 (.tmp 1), none⟩,
    ⟨(some 23), .load false 1 (.tmp 22), none⟩,
    ⟨(some 24), .lenStr (.tmp 23), none⟩,
    ⟨(some 25), .bin .shl (.tmp 24) (.con (.int .u64 8)), none⟩,
    ⟨(some 26), .bin .or (.tmp 21) (.tmp 25), none⟩,
    ⟨(some 27), .fieldAddr 3 (.tmp 1), none⟩,
    ⟨(some 28), .load false 1 (.tmp 27), none⟩,
    ⟨(some 29), .lenSlice (.tmp 28), none⟩,
    ⟨(some 30), .bin .shl (.tmp 29) (.con (.int .u64 16)), none⟩,
    ⟨(some 31), .bin .or (.tmp 26) (.tmp 30), none⟩,
    ⟨(some 32), .toInt .u64 (.tmp 31), none⟩,
    ⟨(some 33), .idxAddr 1 (.tmp 19) (.con (.int .i64 1)), none⟩,
    ⟨none, .store 1 (.tmp 33) (.tmp 32), none⟩])
  (.seq (.ops [⟨(some 34), .mov (.tmp 3), none⟩,
    ⟨(some 35), .slc 1 (.tmp 34) (some (.con (.int .i64 2))) none none, none⟩,
    ⟨(some 36), .fieldAddr 2 (.tmp 1), none⟩,
    ⟨(some 37), .load false 1 (.tmp 36), none⟩,
    ⟨(some 38), .call 67 [(.tmp 37)], none⟩,
    ⟨(some 39), .copy 1 (.tmp 35) (.tmp 38), none⟩])
  (.seq (.ops [⟨(some 4), .mov (.con (.int .i64 4)), none⟩])
  (.seq (.seq (.ops [⟨(some 40), .fieldAddr 0 (.tmp 1), none⟩,
    ⟨(some 41), .load false 1 (.tmp 40), none⟩])
  (.block 0 (.seq (.ops [⟨(some 43), .bin .eql (.tmp 41) (.con (.int .i64 1)), none⟩,
    ⟨(some 42), .mov (.tmp 43), none⟩])
  (.cond (.tmp 42)
  (.seq (.ops [⟨(some 44), .mov (.tmp 3), none⟩,
    ⟨(some 45), .slc 1 (.tmp 44) (some (.con (.int .i64 4))) none none, none⟩,
    ⟨(some 46), .fieldAddr 3 (.tmp 1), none⟩,
    ⟨(some 47), .load false 1 (.tmp 46), none⟩,
    ⟨(some 48), .toStr (.tmp 47), none⟩,
    ⟨(some 49), .call 67 [(.tmp 48)], none⟩,
    ⟨(some 50), .copy 1 (.tmp 45) (.tmp 49), none⟩])
  (.ops [⟨(some 4), .mov (.con (.int .i64 5)), none⟩]))
  (.seq (.ops [⟨(some 52), .bin .eql (.tmp 41) (.con (.int .i64 2)), none⟩,
    ⟨(some 51), .mov (.tmp 52), none⟩])
  (.cond (.tmp 51)
  (.seq (.ops [⟨(some 53), .mov (.tmp 3), none⟩,
    ⟨(some 54), .slc 1 (.tmp 53) (some (.con (.int .i64 4))) none none, none⟩,
    ⟨(some 55), .fieldAddr 3 (.tmp 1), none⟩,
    ⟨(some 56), .load false 1 (.tmp 55), none⟩,
    ⟨(some 57), .toStr (.tmp 56), none⟩,
    ⟨(some 58), .call 67 [(.tmp 57)], none⟩,
    ⟨(some 59), .copy 1 (.tmp 54) (.tmp 58), none⟩])
  (.ops [⟨(some 4), .mov (.con (.int .i64 6)), none⟩]))
  (.seq (.ops [⟨(some 61), .bin .eql (.tmp 41) (.con (.int .i64 3)), none⟩,
    ⟨(some 60), .mov (.tmp 61), none⟩])
  (.cond (.tmp 60)
  (.seq (.ops [⟨(some 62), .mov (.tmp 3), none⟩,
    ⟨(some 63), .slc 1 (.tmp 62) (some (.con (.int .i64 4))) none none, none⟩,
    ⟨(some 64), .fieldAddr 3 (.tmp 1), none⟩,
    ⟨(some 65), .load false 1 (.tmp 64), none⟩,
    ⟨(some 66), .call 68 [(.tmp 65)], none⟩,
    ⟨(some 67), .copy 1 (.tmp 63) (.tmp 66), none⟩])
  (.ops [⟨(some 4), .mov (.con (.int .i64 36)), none⟩]))
  .skip))))))))
  (.seq (.seq (.ops [⟨(some 68), .fieldAddr 4 (.tmp 1), none⟩,
    ⟨(some 69), .load false 1 (.tmp 68), none⟩,
    ⟨(some 70), .lenSlice (.tmp 69), none⟩,
    ⟨(some 71), .mov (.con (.int .i64 0)), none⟩])
  (.block 1 (.loop c30l0)))
  (.seq (.ops [⟨(some 95), .mov (.tmp 3), none⟩,
    ⟨(some 2), .mov (.tmp 95), none⟩])
  .ret))))))))))
def a30 : AFunc := ⟨1, c30, [.tmp 2]⟩

/- 29: (*tendril/arena.Arena).Alloc -/
def c29 : ACode := (.seq (.ops [⟨(some 6), .mov (.con (.int .i64 0)), none⟩,
    ⟨(some 7), .mov (.con (.int .i64 0)), none⟩])
  (.seq (.seq (.ops [⟨(some 11), .mov (.tmp 1), none⟩,
    ⟨(some 12), .bin .lss (.tmp 11) (.con (.int .i64 0)), none⟩,
    ⟨(some 13), .mov (.tmp 12), none⟩,
    ⟨(some 14), .mov (.tmp 1), (some (13, false))⟩,
    ⟨(some 15), .bin .geq (.tmp 14) (.con (.int .i64 5)), (some (13, false))⟩,
    ⟨(some 16), .pick (.tmp 13) (.con (.bool true)) (.tmp 15), none⟩,
    ⟨(some 17), .mov (.tmp 16), none⟩,
    ⟨(some 18), .mov (.tmp 2), (some (17, false))⟩,
    ⟨(some 19), .lenSlice (.tmp 18), (some (17, false))⟩,
    ⟨(some 20), .mov (.tmp 1), (some (17, false))⟩,
    ⟨(some 21), .call 62 [(.tmp 20)], (some (17, false))⟩,
    ⟨(some 22), .bin .gtr (.tmp 19) (.tmp 21), (some (17, false))⟩,
    ⟨(some 23), .pick (.tmp 17) (.con (.bool true)) (.tmp 22), none⟩])
  (.cond (.tmp 23)
  (.seq (.ops [⟨(some 6), .mov (.con (.int .i64 0)), none⟩,
    ⟨(some 7), .mov (.con (.int .i64 1)), none⟩])
  .ret)
  .skip))
  (.seq (.ops [⟨(some 25), .mov (.tmp 0), none⟩,
    ⟨(some 26), .mov (.tmp 1), none⟩,
    ⟨(some 27), .nilChk (.tmp 25), none⟩,
    ⟨(some 28), .fieldAddr 1 (.tmp 27), none⟩,
    ⟨(some 29), .idxAddrArr 5 1 (.tmp 28) (.tmp 26), none⟩,
    ⟨(some 30), .load false 1 (.tmp 29), none⟩,
    ⟨(some 31), .call 63 [(.tmp 30)], none⟩,
    ⟨(some 24), .mov (.tmp 31), none⟩,
    ⟨(some 32), .extract (.tmp 24) 0, none⟩,
    ⟨(some 33), .extract (.tmp 24) 1, none⟩,
    ⟨(some 8), .mov (.tmp 32), none⟩,
    ⟨(some 9), .mov (.tmp 33), none⟩])
  (.seq (.seq (.ops [⟨(some 34), .mov (.tmp 9), none⟩,
    ⟨(some 35), .un .not (.tmp 34), none⟩])
  (.cond (.tmp 35)
  (.seq (.ops [⟨(some 6), .mov (.con (.int .i64 0)), none⟩,
    ⟨(some 7), .mov (.con (.int .i64 2)), none⟩])
  .ret)
  .skip))
  (.seq (.ops [⟨(some 36), .mov (.tmp 0), none⟩,
    ⟨(some 37), .nilChk (.tmp 36), none⟩,
    ⟨(some 38), .fieldAddr 0 (.tmp 37), none⟩,
    ⟨(some 39), .load false 1 (.tmp 38), none⟩,
    ⟨(some 40), .mov (.tmp 8), none⟩,
    ⟨(some 41), .idxAddr 4 (.tmp 39) (.tmp 40), none⟩,
    ⟨(some 10), .mov (.tmp 41), none⟩])
  (.seq (.ops [⟨(some 42), .mov (.tmp 10), none⟩,
    ⟨(some 43), .nilChk (.tmp 42), none⟩,
    ⟨(some 44), .fieldAddr 2 (.tmp 43), none⟩,
    ⟨none, .store 1 (.tmp 44) (.con (.bool true)), none⟩])
  (.seq (.ops [⟨(some 45), .mov (.tmp 10), none⟩,
    ⟨(some 46), .mov (.tmp 2), none⟩,
    ⟨(some 47), .call 64 [(.tmp 45), (.tmp 46)], none⟩])
  (.seq (.ops [⟨(some 48), .mov (.tmp 8), none⟩,
    ⟨(some 49), .mov (.tmp 10), none⟩,
    ⟨(some 50), .nilChk (.tmp 49), none⟩,
    ⟨(some 51), .fieldAddr 1 (.tmp 50), none⟩,
    ⟨(some 52), .load false 1 (.tmp 51), none⟩,
    ⟨(some 53), .mov (.tmp 1), none⟩,
    ⟨(some 54), .bin .eql (.tmp 53) (.con (.int .i64 0)), none⟩,
    ⟨(some 55), .call 65 [(.tmp 48), (.tmp 52), (.tmp 54)], none⟩,
    ⟨(some 6), .mov (.tmp 55), none⟩,
    ⟨(some 7), .mov (.con (.int .i64 0)), none⟩])
  .ret))))))))
def a29 : AFunc := ⟨3, c29, [.tmp 6, .tmp 7]⟩

/- 31: (*tendril/mem.Mem).slots -/
def c31 : ACode := (.seq (.ops [⟨(some 3), .box (.tmp 1), none⟩,
    ⟨(some 4), .new [(.int .i64 0), (.int .i64 0), (.bool false), .nilSlice], none⟩])
  (.seq (.ops [⟨(some 5), .new [(.int .i64 0), (.int .i64 0), (.bool false), .nilSlice], none⟩])
  (.seq (.seq (.ops [⟨(some 6), .fieldAddr 0 (.tmp 3), none⟩,
    ⟨(some 7), .load false 1 (.tmp 6), none⟩])
  (.block 0 (.seq (.ops [⟨(some 9), .bin .eql (.tmp 7) (.con (.int .i64 1)), none⟩,
    ⟨(some 8), .mov (.tmp 9), none⟩])
  (.cond (.tmp 8)
  (.ops [⟨(some 11), .mov (.tmp 0), none⟩,
    ⟨(some 12), .nilChk (.tmp 11), none⟩,
    ⟨(some 13), .fieldAddr 0 (.tmp 12), none⟩,
    ⟨(some 14), .load false 1 (.tmp 13), none⟩,
    ⟨(some 15), .fieldAddr 1 (.tmp 3), none⟩,
    ⟨(some 16), .load false 1 (.tmp 15), none⟩,
    ⟨(some 17), .call 69 [(.tmp 14), (.tmp 16)], none⟩,
    ⟨(some 10), .mov (.tmp 17), none⟩,
    ⟨(some 18), .extract (.tmp 10) 0, none⟩,
    ⟨(some 19), .extract (.tmp 10) 1, none⟩,
    ⟨(some 20), .fieldAddr 3 (.tmp 5), none⟩,
    ⟨none, .store 1 (.tmp 20) (.tmp 18), none⟩,
    ⟨(some 21), .fieldAddr 0 (.tmp 5), none⟩,
    ⟨none, .store 1 (.tmp 21) (.tmp 19), none⟩])
  (.seq (.ops [⟨(some 23), .bin .eql (.tmp 7) (.con (.int .i64 2)), none⟩,
    ⟨(some 22), .mov (.tmp 23), none⟩])
  (.cond (.tmp 22)
  (.ops [⟨(some 25), .mov (.tmp 0), none⟩,
    ⟨(some 26), .nilChk (.tmp 25), none⟩,
    ⟨(some 27), .fieldAddr 0 (.tmp 26), none⟩,
    ⟨(some 28), .load false 1 (.tmp 27), none⟩,
    ⟨(some 29), .fieldAddr 1 (.tmp 3), none⟩,
    ⟨(some 30), .load false 1 (.tmp 29), none⟩,
    ⟨(some 31), .fieldAddr 4 (.tmp 3), none⟩,
    ⟨(some 32), .load false 1 (.tmp 31), none⟩,
    ⟨(some 33), .fieldAddr 5 (.tmp 3), none⟩,
    ⟨(some 34), .load false 1 (.tmp 33), none⟩,
    ⟨(some 35), .call 70 [(.tmp 28), (.tmp 30), (.tmp 32), (.tmp 34)], none⟩,
    ⟨(some 24), .mov (.tmp 35), none⟩,
    ⟨(some 36), .extract (.tmp 24) 0, none⟩,
    ⟨(some 37), .extract (.tmp 24) 1, none⟩,
    ⟨(some 38), .fieldAddr 2 (.tmp 5), none⟩,
    ⟨none, .store 1 (.tmp 38) (.tmp 36), none⟩,
    ⟨(some 39), .fieldAddr 0 (.tmp 5), none⟩,
    ⟨none, .store 1 (.tmp 39) (.tmp 37), none⟩])
  (.seq (.ops [⟨(some 41), .bin .eql (.tmp 7) (.con (.int .i64 3)), none⟩,
    ⟨(some 40), .mov (.tmp 41), none⟩])
  (.cond (.tmp 40)
  (.ops [⟨(some 42), .mov (.tmp 0), none⟩,
    ⟨(some 43), .nilChk (.tmp 42), none⟩,
    ⟨(some 44), .fieldAddr 0 (.tmp 43), none⟩,
    ⟨(some 45), .load false 1 (.tmp 44), none⟩,
    ⟨(some 46), .fieldAddr 1 (.tmp 3), none⟩,
    ⟨(some 47), .load false 1 (.tmp 46), none⟩,
    ⟨(some 48), .fieldAddr 5 (.tmp 3), none⟩,
    ⟨(some 49), .load false 1 (.tmp 48), none⟩,
    ⟨(some 50), .call 71 [(.tmp 45), (.tmp 47), (.tmp 49)], none⟩,
    ⟨(some 51), .fieldAddr 0 (.tmp 5), none⟩,
    ⟨none, .store 1 (.tmp 51) (.tmp 50), none⟩])
  (.seq (.ops [⟨(some 53), .bin .eql (.tmp 7) (.con (.int .i64 4)), none⟩,
    ⟨(some 52), .mov (.tmp 53), none⟩])
  (.cond (.tmp 52)
  (.ops [⟨(some 55), .mov (.tmp 0), none⟩,
    ⟨(some 56), .nilChk (.tmp 55), none⟩,
    ⟨(some 57), .fieldAddr 0 (.tmp 56), none⟩,
    ⟨(some 58), .load false 1 (.tmp 57), none⟩,
    ⟨(some 59), .fieldAddr 2 (.tmp 3), none⟩,
    ⟨(some 60), .load false 1 (.tmp 59), none⟩,
    ⟨(some 61), .fieldAddr 5 (.tmp 3), none⟩,
    ⟨(some 62), .load false 1 (.tmp 61), none⟩,
    ⟨(some 63), .call 29 [(.tmp 58), (.tmp 60), (.tmp 62)], none⟩,
    ⟨(some 54), .mov (.tmp 63), none⟩,
    ⟨(some 64), .extract (.tmp 54) 0, none⟩,
    ⟨(some 65), .extract (.tmp 54) 1, none⟩,
    ⟨(some 66), .fieldAddr 1 (.tmp 5), none⟩,
    ⟨none, .store 1 (.tmp 66) (.tmp 64), none⟩,
    ⟨(some 67), .fieldAddr 0 (.tmp 5), none⟩,
    ⟨none, .store 1 (.tmp 67) (.tmp 65), none⟩])
  (.seq (.ops [⟨(some 69), .bin .eql (.tmp 7) (.con (.int .i64 5)), none⟩,
    ⟨(some 68), .mov (.tmp 69), none⟩])
  (.cond (.tmp 68)
  (.seq (.ops [⟨(some 70), .fieldAddr 1 (.tmp 3), none⟩,
    ⟨(some 71), .load false 1 (.tmp 70), none⟩,
    ⟨(some 72), .mov (.tmp 0), none⟩,
    ⟨(some 73), .nilChk (.tmp 72), none⟩,
    ⟨(some 74), .fieldAddr 3 (.tmp 73), none⟩,
    ⟨(some 75), .load false 1 (.tmp 74), none⟩,
    ⟨(some 76), .bin .eql (.tmp 71) (.tmp 75), none⟩])
  (.cond (.tmp 76)
  (.ops [⟨(some 77), .fieldAddr 0 (.tmp 5), none⟩,
    ⟨none, .store 1 (.tmp 77) (.con (.int .i64 1)), none⟩])
  (.ops [⟨(some 78), .mov (.tmp 0), none⟩,
    ⟨(some 79), .nilChk (.tmp 78), none⟩,
    ⟨(some 80), .fieldAddr 0 (.tmp 79), none⟩,
    ⟨(some 81), .load false 1 (.tmp 80), none⟩,
    ⟨(some 82), .fieldAddr 1 (.tmp 3), none⟩,
    ⟨(some 83), .load false 1 (.tmp 82), none⟩,
    ⟨(some 84), .call 72 [(.tmp 81), (.tmp 83)], none⟩,
    ⟨(some 85), .fieldAddr 0 (.tmp 5), none⟩,
    ⟨none, .store 1 (.tmp 85) (.tmp 84), none⟩])))
  .skip))))))))))))
  (.seq (.ops [⟨(some 86), .load true 4 (.tmp 5), none⟩,
    ⟨none, .store 4 (.tmp 4) (.tmp 86), none⟩])
  .ret))))
def a31 : AFunc := ⟨2, c31, [.cell 4 true 4]⟩

/- 32: (*tendril/epoch.Epochs).Retire -/
def c32 : ACode := (.seq (.ops [⟨(some 6), .mov (.con (.int .i64 0)), none⟩])
  (.seq (.ops [⟨(some 12), .mov (.tmp 0), none⟩,
    ⟨(some 13), .mov (.tmp 1), none⟩,
    ⟨(some 14), .call 73 [(.tmp 12), (.tmp 13)], none⟩,
    ⟨(some 7), .mov (.tmp 14), none⟩])
  (.seq (.seq (.ops [⟨(some 16), .mov (.tmp 2), none⟩,
    ⟨(some 17), .call 74 [(.tmp 16)], none⟩,
    ⟨(some 15), .mov (.tmp 17), none⟩,
    ⟨(some 18), .extract (.tmp 15) 0, none⟩,
    ⟨(some 19), .extract (.tmp 15) 1, none⟩,
    ⟨(some 20), .extract (.tmp 15) 2, none⟩,
    ⟨(some 21), .extract (.tmp 15) 3, none⟩,
    ⟨(some 8), .mov (.tmp 18), none⟩,
    ⟨(some 9), .mov (.tmp 19), none⟩,
    ⟨(some 10), .mov (.tmp 20), none⟩,
    ⟨(some 11), .mov (.tmp 21), none⟩])
  (.seq (.ops [⟨(some 22), .mov (.tmp 7), none⟩,
    ⟨(some 23), .eqNil 0 false (.tmp 22) (.con .nilPtr), none⟩,
    ⟨(some 24), .mov (.tmp 23), none⟩,
    ⟨(some 25), .mov (.tmp 11), (some (24, false))⟩,
    ⟨(some 26), .un .not (.tmp 25), (some (24, false))⟩,
    ⟨(some 27), .pick (.tmp 24) (.con (.bool true)) (.tmp 26), none⟩])
  (.cond (.tmp 27)
  (.seq (.ops [⟨(some 6), .mov (.con (.int .i64 1)), none⟩])
  .ret)
  .skip)))
  (.seq (.seq (.ops [⟨(some 28), .mov (.tmp 7), none⟩,
    ⟨(some 29), .nilChk (.tmp 28), none⟩,
    ⟨(some 30), .fieldAddr 1 (.tmp 29), none⟩,
    ⟨(some 31), .load false 1 (.tmp 30), none⟩,
    ⟨(some 32), .lenSlice (.tmp 31), none⟩,
    ⟨(some 33), .mov (.tmp 0), none⟩,
    ⟨(some 34), .nilChk (.tmp 33), none⟩,
    ⟨(some 35), .fieldAddr 1 (.tmp 34), none⟩,
    ⟨(some 36), .load false 1 (.tmp 35), none⟩,
    ⟨(some 37), .bin .geq (.tmp 32) (.tmp 36), none⟩])
  (.cond (.tmp 37)
  (.seq (.ops [⟨(some 6), .mov (.con (.int .i64 2)), none⟩])
  .ret)
  .skip))
  (.seq (.draw [.op ⟨(some 38), .mov (.tmp 7), none⟩,
    .op ⟨(some 39), .mov (.tmp 7), none⟩,
    .op ⟨(some 40), .nilChk (.tmp 39), none⟩,
    .op ⟨(some 41), .fieldAddr 1 (.tmp 40), none⟩,
    .op ⟨(some 42), .load false 1 (.tmp 41), none⟩,
    .op ⟨(some 43), .mov (.tmp 2), none⟩,
    .op ⟨(some 44), .mov (.tmp 0), none⟩,
    .op ⟨(some 45), .nilChk (.tmp 44), none⟩,
    .op ⟨(some 46), .fieldAddr 0 (.tmp 45), none⟩,
    .op ⟨(some 47), .load false 1 (.tmp 46), none⟩,
    .op ⟨(some 48), .build [(.int .i64 0), (.int .i64 0)] [(0, 1, (.tmp 43)), (1, 1, (.tmp 47))], none⟩,
    .op ⟨(some 49), .buildSlice 2 1 [(.int .i64 0), (.int .i64 0)] [(0, 2, (.tmp 48))], none⟩,
    .look ⟨(some 42), .load false 1 (.tmp 41), none⟩,
    .look ⟨(some 47), .load false 1 (.tmp 46), none⟩,
    .look ⟨(some 49), .buildSlice 2 1 [(.int .i64 0), (.int .i64 0)] [(0, 2, (.tmp 48))], none⟩,
    .op ⟨(some 50), .append 2 16 (.tmp 42) (.tmp 49), none⟩,
    .op ⟨(some 51), .nilChk (.tmp 38), none⟩,
    .op ⟨(some 52), .fieldAddr 1 (.tmp 51), none⟩,
    .op ⟨none, .store 1 (.tmp 52) (.tmp 50), none⟩])
  (.seq (.ops [⟨(some 6), .mov (.con (.int .i64 0)), none⟩])
  .ret))))))
def a32 : AFunc := ⟨3, c32, [.tmp 6]⟩

/- 33: (*tendril/epoch.Epochs).Now -/
def c33 : ACode := (.seq (.ops [⟨(some 2), .mov (.con (.int .i64 0)), none⟩])
  (.seq (.ops [⟨(some 3), .mov (.tmp 0), none⟩,
    ⟨(some 4), .nilChk (.tmp 3), none⟩,
    ⟨(some 5), .fieldAddr 0 (.tmp 4), none⟩,
    ⟨(some 6), .load false 1 (.tmp 5), none⟩,
    ⟨(some 2), .mov (.tmp 6), none⟩])
  .ret))
def a33 : AFunc := ⟨1, c33, [.tmp 2]⟩

/- 34: (*tendril/epoch.Epochs).Pin -/
def c34 : ACode := (.seq (.ops [⟨(some 6), .mov (.con (.bool false)), none⟩])
  (.seq (.ops [⟨(some 8), .mov (.tmp 0), none⟩,
    ⟨(some 9), .mov (.tmp 1), none⟩,
    ⟨(some 10), .call 73 [(.tmp 8), (.tmp 9)], none⟩,
    ⟨(some 7), .mov (.tmp 10), none⟩])
  (.seq (.seq (.ops [⟨(some 11), .mov (.tmp 7), none⟩,
    ⟨(some 12), .eqNil 0 false (.tmp 11) (.con .nilPtr), none⟩,
    ⟨(some 13), .mov (.tmp 12), none⟩,
    ⟨(some 14), .mov (.tmp 2), (some (13, false))⟩,
    ⟨(some 15), .bin .lss (.tmp 14) (.con (.int .i64 0)), (some (13, false))⟩,
    ⟨(some 16), .pick (.tmp 13) (.con (.bool true)) (.tmp 15), none⟩,
    ⟨(some 17), .mov (.tmp 16), none⟩,
    ⟨(some 18), .mov (.tmp 2), (some (17, false))⟩,
    ⟨(some 19), .mov (.tmp 0), (some (17, false))⟩,
    ⟨(some 20), .nilChk (.tmp 19), (some (17, false))⟩,
    ⟨(some 21), .fieldAddr 0 (.tmp 20), (some (17, false))⟩,
    ⟨(some 22), .load false 1 (.tmp 21), (some (17, false))⟩,
    ⟨(some 23), .bin .gtr (.tmp 18) (.tmp 22), (some (17, false))⟩,
    ⟨(some 24), .pick (.tmp 17) (.con (.bool true)) (.tmp 23), none⟩])
  (.cond (.tmp 24)
  (.seq (.ops [⟨(some 6), .mov (.con (.bool false)), none⟩])
  .ret)
  .skip))
  (.seq (.ops [⟨(some 25), .mov (.tmp 7), none⟩,
    ⟨(some 26), .mov (.tmp 2), none⟩,
    ⟨(some 27), .nilChk (.tmp 25), none⟩,
    ⟨(some 28), .fieldAddr 0 (.tmp 27), none⟩,
    ⟨none, .store 1 (.tmp 28) (.tmp 26), none⟩])
  (.seq (.ops [⟨(some 6), .mov (.con (.bool true)), none⟩])
  .ret)))))
def a34 : AFunc := ⟨3, c34, [.tmp 6]⟩

/- 35: (*tendril/epoch.Epochs).Unpin -/
def c35 : ACode := (.seq (.ops [⟨(some 4), .mov (.con (.bool false)), none⟩])
  (.seq (.ops [⟨(some 6), .mov (.tmp 0), none⟩,
    ⟨(some 7), .mov (.tmp 1), none⟩,
    ⟨(some 8), .call 73 [(.tmp 6), (.tmp 7)], none⟩,
    ⟨(some 5), .mov (.tmp 8), none⟩])
  (.seq (.seq (.ops [⟨(some 9), .mov (.tmp 5), none⟩,
    ⟨(some 10), .eqNil 0 false (.tmp 9) (.con .nilPtr), none⟩])
  (.cond (.tmp 10)
  (.seq (.ops [⟨(some 4), .mov (.con (.bool false)), none⟩])
  .ret)
  .skip))
  (.seq (.ops [⟨(some 11), .mov (.tmp 5), none⟩,
    ⟨(some 12), .nilChk (.tmp 11), none⟩,
    ⟨(some 13), .fieldAddr 0 (.tmp 12), none⟩,
    ⟨none, .store 1 (.tmp 13) (.con (.int .i64 (-1))), none⟩])
  (.seq (.ops [⟨(some 4), .mov (.con (.bool true)), none⟩])
  .ret)))))
def a35 : AFunc := ⟨2, c35, [.tmp 4]⟩

/- 36: (*tendril/epoch.Epochs).PinOf -/
def c36 : ACode := (.seq (.ops [⟨(some 4), .mov (.con (.int .i64 0)), none⟩])
  (.seq (.ops [⟨(some 6), .mov (.tmp 0), none⟩,
    ⟨(some 7), .mov (.tmp 1), none⟩,
    ⟨(some 8), .call 73 [(.tmp 6), (.tmp 7)], none⟩,
    ⟨(some 5), .mov (.tmp 8), none⟩])
  (.seq (.seq (.ops [⟨(some 9), .mov (.tmp 5), none⟩,
    ⟨(some 10), .eqNil 0 false (.tmp 9) (.con .nilPtr), none⟩])
  (.cond (.tmp 10)
  (.seq (.ops [⟨(some 4), .mov (.con (.int .i64 (-1))), none⟩])
  .ret)
  .skip))
  (.seq (.ops [⟨(some 11), .mov (.tmp 5), none⟩,
    ⟨(some 12), .nilChk (.tmp 11), none⟩,
    ⟨(some 13), .fieldAddr 0 (.tmp 12), none⟩,
    ⟨(some 14), .load false 1 (.tmp 13), none⟩,
    ⟨(some 4), .mov (.tmp 14), none⟩])
  .ret))))
def a36 : AFunc := ⟨2, c36, [.tmp 4]⟩

/- 37: (*tendril/epoch.Epochs).Advance -/
def c37 : ACode := (.seq (.ops [⟨(some 4), .mov (.con (.bool false)), none⟩])
  (.seq (.seq (.ops [⟨(some 5), .mov (.tmp 0), none⟩,
    ⟨(some 6), .nilChk (.tmp 5), none⟩,
    ⟨(some 7), .fieldAddr 0 (.tmp 6), none⟩,
    ⟨(some 8), .load false 1 (.tmp 7), none⟩,
    ⟨(some 9), .mov (.tmp 1), none⟩,
    ⟨(some 10), .bin .neq (.tmp 8) (.tmp 9), none⟩,
    ⟨(some 11), .mov (.tmp 10), none⟩,
    ⟨(some 12), .mov (.tmp 0), (some (11, false))⟩,
    ⟨(some 13), .nilChk (.tmp 12), (some (11, false))⟩,
    ⟨(some 14), .fieldAddr 0 (.tmp 13), (some (11, false))⟩,
    ⟨(some 15), .load false 1 (.tmp 14), (some (11, false))⟩,
    ⟨(some 16), .bin .geq (.tmp 15) (.con (.int .i64 1073741824)), (some (11, false))⟩,
    ⟨(some 17), .pick (.tmp 11) (.con (.bool true)) (.tmp 16), none⟩])
  (.cond (.tmp 17)
  (.seq (.ops [⟨(some 4), .mov (.con (.bool false)), none⟩])
  .ret)
  .skip))
  (.seq (.ops [⟨(some 18), .mov (.tmp 0), none⟩,
    ⟨(some 19), .nilChk (.tmp 18), none⟩,
    ⟨(some 20), .fieldAddr 0 (.tmp 19), none⟩,
    ⟨(some 21), .load false 1 (.tmp 20), none⟩,
    ⟨(some 22), .bin .add (.tmp 21) (.con (.int .i64 1)), none⟩,
    ⟨(some 23), .nilChk (.tmp 18), none⟩,
    ⟨(some 24), .fieldAddr 0 (.tmp 23), none⟩,
    ⟨none, .store 1 (.tmp 24) (.tmp 22), none⟩])
  (.seq (.ops [⟨(some 4), .mov (.con (.bool true)), none⟩])
  .ret))))
def a37 : AFunc := ⟨2, c37, [.tmp 4]⟩

/- 38: (*tendril/mem.Mem).collect -/
def c38 : ACode := (.seq (.ops [⟨(some 4), .new [(.int .i64 0), (.int .i64 0), (.bool false), .nilSlice], none⟩])
  (.seq (.ops [⟨(some 9), .mov (.tmp 0), none⟩,
    ⟨(some 10), .nilChk (.tmp 9), none⟩,
    ⟨(some 11), .fieldAddr 1 (.tmp 10), none⟩,
    ⟨(some 12), .load false 1 (.tmp 11), none⟩,
    ⟨(some 13), .mov (.tmp 1), none⟩,
    ⟨(some 14), .call 75 [(.tmp 12), (.tmp 13)], none⟩,
    ⟨(some 8), .mov (.tmp 14), none⟩,
    ⟨(some 15), .extract (.tmp 8) 0, none⟩,
    ⟨(some 16), .extract (.tmp 8) 1, none⟩,
    ⟨(some 5), .mov (.tmp 15), none⟩,
    ⟨(some 6), .mov (.tmp 16), none⟩])
  (.seq (.seq (.ops [⟨(some 17), .mov (.tmp 6), none⟩,
    ⟨(some 18), .un .not (.tmp 17), none⟩])
  (.cond (.tmp 18)
  (.seq (.ops [⟨(some 19), .build [(.int .i64 0), (.int .i64 0), (.bool false), .nilSlice] [], none⟩,
    ⟨none, .store 4 (.tmp 4) (.tmp 19), none⟩])
  .ret)
  .skip))
  (.seq (.seq (.ops [⟨(some 20), .mov (.tmp 0), none⟩,
    ⟨(some 21), .nilChk (.tmp 20), none⟩,
    ⟨(some 22), .fieldAddr 0 (.tmp 21), none⟩,
    ⟨(some 23), .load false 1 (.tmp 22), none⟩,
    ⟨(some 24), .mov (.tmp 5), none⟩,
    ⟨(some 25), .call 72 [(.tmp 23), (.tmp 24)], none⟩,
    ⟨(some 7), .mov (.tmp 25), none⟩])
  (.seq (.ops [⟨(some 26), .mov (.tmp 7), none⟩,
    ⟨(some 27), .bin .neq (.tmp 26) (.con (.int .i64 0)), none⟩])
  (.cond (.tmp 27)
  (.seq (.ops [⟨(some 28), .mov (.tmp 7), none⟩,
    ⟨(some 29), .build [(.int .i64 0), (.int .i64 0), (.bool false), .nilSlice] [(0, 1, (.tmp 28))], none⟩,
    ⟨none, .store 4 (.tmp 4) (.tmp 29), none⟩])
  .ret)
  .skip)))
  (.seq (.ops [⟨(some 30), .mov (.tmp 5), none⟩,
    ⟨(some 31), .build [(.int .i64 0), (.int .i64 0), (.bool false), .nilSlice] [(1, 1, (.tmp 30)), (2, 1, (.con (.bool true)))], none⟩,
    ⟨none, .store 4 (.tmp 4) (.tmp 31), none⟩])
  .ret)))))
def a38 : AFunc := ⟨2, c38, [.cell 4 true 4]⟩

/- 39: (*tendril/mem.Mem).turn -/
def c39 : ACode := (.seq (.ops [⟨(some 6), .new [(.int .i64 0), (.int .i64 0), (.bool false), .nilSlice], none⟩])
  (.seq (.block 0 (.seq (.ops [⟨(some 8), .mov (.tmp 2), none⟩,
    ⟨(some 9), .bin .eql (.tmp 8) (.con (.int .i64 13)), none⟩,
    ⟨(some 7), .mov (.tmp 9), none⟩])
  (.cond (.tmp 7)
  (.seq (.ops [⟨(some 10), .mov (.tmp 0), none⟩,
    ⟨(some 11), .nilChk (.tmp 10), none⟩,
    ⟨(some 12), .fieldAddr 4 (.tmp 11), none⟩,
    ⟨(some 13), .load false 1 (.tmp 12), none⟩,
    ⟨(some 14), .build [(.int .i64 0), (.int .i64 0), (.bool false), .nilSlice] [(1, 1, (.tmp 13))], none⟩,
    ⟨none, .store 4 (.tmp 6) (.tmp 14), none⟩])
  .ret)
  (.seq (.ops [⟨(some 16), .mov (.tmp 2), none⟩,
    ⟨(some 17), .bin .eql (.tmp 16) (.con (.int .i64 14)), none⟩,
    ⟨(some 18), .mov (.tmp 17), none⟩,
    ⟨(some 19), .mov (.tmp 0), (some (18, true))⟩,
    ⟨(some 20), .nilChk (.tmp 19), (some (18, true))⟩,
    ⟨(some 21), .fieldAddr 4 (.tmp 20), (some (18, true))⟩,
    ⟨(some 22), .load false 1 (.tmp 21), (some (18, true))⟩,
    ⟨(some 23), .bin .lss (.tmp 22) (.con (.int .i64 0)), (some (18, true))⟩,
    ⟨(some 24), .pick (.tmp 18) (.tmp 23) (.con (.bool false)), none⟩,
    ⟨(some 15), .mov (.tmp 24), none⟩])
  (.cond (.tmp 15)
  (.seq (.ops [⟨(some 25), .mov (.tmp 0), none⟩,
    ⟨(some 26), .mov (.tmp 1), none⟩,
    ⟨(some 27), .nilChk (.tmp 25), none⟩,
    ⟨(some 28), .fieldAddr 4 (.tmp 27), none⟩,
    ⟨none, .store 1 (.tmp 28) (.tmp 26), none⟩])
  (.seq (.ops [⟨(some 29), .build [(.int .i64 0), (.int .i64 0), (.bool false), .nilSlice] [(2, 1, (.con (.bool true)))], none⟩,
    ⟨none, .store 4 (.tmp 6) (.tmp 29), none⟩])
  .ret))
  (.seq (.ops [⟨(some 31), .mov (.tmp 2), none⟩,
    ⟨(some 32), .bin .eql (.tmp 31) (.con (.int .i64 15)), none⟩,
    ⟨(some 33), .mov (.tmp 32), none⟩,
    ⟨(some 34), .mov (.tmp 0), (some (33, true))⟩,
    ⟨(some 35), .nilChk (.tmp 34), (some (33, true))⟩,
    ⟨(some 36), .fieldAddr 4 (.tmp 35), (some (33, true))⟩,
    ⟨(some 37), .load false 1 (.tmp 36), (some (33, true))⟩,
    ⟨(some 38), .mov (.tmp 1), (some (33, true))⟩,
    ⟨(some 39), .bin .eql (.tmp 37) (.tmp 38), (some (33, true))⟩,
    ⟨(some 40), .pick (.tmp 33) (.tmp 39) (.con (.bool false)), none⟩,
    ⟨(some 30), .mov (.tmp 40), none⟩])
  (.cond (.tmp 30)
  (.seq (.ops [⟨(some 41), .mov (.tmp 0), none⟩,
    ⟨(some 42), .nilChk (.tmp 41), none⟩,
    ⟨(some 43), .fieldAddr 4 (.tmp 42), none⟩,
    ⟨none, .store 1 (.tmp 43) (.con (.int .i64 (-1))), none⟩])
  (.seq (.ops [⟨(some 44), .build [(.int .i64 0), (.int .i64 0), (.bool false), .nilSlice] [(2, 1, (.con (.bool true)))], none⟩,
    ⟨none, .store 4 (.tmp 6) (.tmp 44), none⟩])
  .ret))
  .skip)))))))
  (.seq (.ops [⟨(some 45), .build [(.int .i64 0), (.int .i64 0), (.bool false), .nilSlice] [], none⟩,
    ⟨none, .store 4 (.tmp 6) (.tmp 45), none⟩])
  .ret)))
def a39 : AFunc := ⟨3, c39, [.cell 6 true 4]⟩

/- 40: (*tendril/arena.Arena).Live -/
def c40l0 : ACode := (.seq (.ops [⟨(some 11), .bin .lss (.tmp 10) (.con (.int .i64 5)), none⟩])
  (.seq (.cond (.tmp 11)
  .skip
  (.exit 0))
  (.seq (.block 1 (.seq (.ops [⟨(some 12), .mov (.tmp 10), none⟩,
    ⟨(some 4), .mov (.tmp 12), none⟩])
  (.ops [⟨(some 13), .mov (.tmp 3), none⟩,
    ⟨(some 14), .mov (.tmp 0), none⟩,
    ⟨(some 15), .mov (.tmp 4), none⟩,
    ⟨(some 16), .call 58 [(.tmp 14), (.tmp 15)], none⟩,
    ⟨(some 17), .bin .sub (.tmp 13) (.tmp 16), none⟩,
    ⟨(some 3), .mov (.tmp 17), none⟩])))
  (.ops [⟨(some 18), .bin .add (.tmp 10) (.con (.int .i64 1)), none⟩,
    ⟨(some 10), .mov (.tmp 18), none⟩]))))
def c40 : ACode := (.seq (.ops [⟨(some 2), .mov (.con (.int .i64 0)), none⟩])
  (.seq (.ops [⟨(some 5), .mov (.tmp 0), none⟩,
    ⟨(some 6), .nilChk (.tmp 5), none⟩,
    ⟨(some 7), .fieldAddr 0 (.tmp 6), none⟩,
    ⟨(some 8), .load false 1 (.tmp 7), none⟩,
    ⟨(some 9), .lenSlice (.tmp 8), none⟩,
    ⟨(some 3), .mov (.tmp 9), none⟩])
  (.seq (.seq (.ops [⟨(some 10), .mov (.con (.int .i64 0)), none⟩])
  (.block 0 (.loop c40l0)))
  (.seq (.ops [⟨(some 19), .mov (.tmp 3), none⟩,
    ⟨(some 2), .mov (.tmp 19), none⟩])
  .ret))))
def a40 : AFunc := ⟨1, c40, [.tmp 2]⟩

/- 41: tendril/tendrilref1.Size -/
def c41 : ACode := (.seq (.ops [⟨(some 2), .mov (.con (.int .i64 0)), none⟩])
  (.seq (.seq (.ops [⟨(some 3), .mov (.tmp 0), none⟩])
  (.block 0 (.seq (.ops [⟨(some 5), .bin .eql (.tmp 3) (.con (.int .i64 0)), none⟩,
    ⟨(some 4), .mov (.tmp 5), none⟩])
  (.cond (.tmp 4)
  (.seq (.ops [⟨(some 2), .mov (.con (.int .i64 8)), none⟩])
  .ret)
  (.seq (.ops [⟨(some 7), .bin .eql (.tmp 3) (.con (.int .i64 1)), none⟩,
    ⟨(some 6), .mov (.tmp 7), none⟩])
  (.cond (.tmp 6)
  (.seq (.ops [⟨(some 2), .mov (.con (.int .i64 12)), none⟩])
  .ret)
  (.seq (.ops [⟨(some 9), .bin .eql (.tmp 3) (.con (.int .i64 2)), none⟩,
    ⟨(some 8), .mov (.tmp 9), none⟩])
  (.cond (.tmp 8)
  (.seq (.ops [⟨(some 2), .mov (.con (.int .i64 24)), none⟩])
  .ret)
  (.seq (.ops [⟨(some 11), .bin .eql (.tmp 3) (.con (.int .i64 3)), none⟩,
    ⟨(some 10), .mov (.tmp 11), none⟩])
  (.cond (.tmp 10)
  (.seq (.ops [⟨(some 2), .mov (.con (.int .i64 88)), none⟩])
  .ret)
  (.seq (.ops [⟨(some 13), .bin .eql (.tmp 3) (.con (.int .i64 4)), none⟩,
    ⟨(some 12), .mov (.tmp 13), none⟩])
  (.cond (.tmp 12)
  (.seq (.ops [⟨(some 2), .mov (.con (.int .i64 264)), none⟩])
  .ret)
  .skip))))))))))))
  (.seq (.ops [⟨(some 2), .mov (.con (.int .i64 0)), none⟩])
  .ret)))
def a41 : AFunc := ⟨1, c41, [.tmp 2]⟩

/- 42: tendril/tendrilref1.Bytes -/
def c42l0 : ACode := (.seq (.seq (.ops [⟨(some 20), .mov (.tmp 7), none⟩,
    ⟨(some 21), .mov (.tmp 1), none⟩,
    ⟨(some 22), .bin .lss (.tmp 20) (.tmp 21), none⟩])
  (.cond (.tmp 22)
  .skip
  (.exit 0)))
  (.seq (.block 1 (.ops [⟨(some 25), .mov (.tmp 6), none⟩,
    ⟨(some 26), .mov (.tmp 7), none⟩,
    ⟨(some 27), .mov (.tmp 0), none⟩,
    ⟨(some 28), .mov (.tmp 7), none⟩,
    ⟨(some 29), .bin .quo (.tmp 28) (.con (.int .i64 8)), none⟩,
    ⟨(some 30), .idxAddr 1 (.tmp 27) (.tmp 29), none⟩,
    ⟨(some 31), .load false 1 (.tmp 30), none⟩,
    ⟨(some 32), .mov (.tmp 7), none⟩,
    ⟨(some 33), .bin .rem (.tmp 32) (.con (.int .i64 8)), none⟩,
    ⟨(some 34), .bin .mul (.con (.int .i64 8)) (.tmp 33), none⟩,
    ⟨(some 35), .bin .shr (.tmp 31) (.tmp 34), none⟩,
    ⟨(some 36), .toInt .u8 (.tmp 35), none⟩,
    ⟨(some 37), .idxAddr 1 (.tmp 25) (.tmp 26), none⟩,
    ⟨none, .store 1 (.tmp 37) (.tmp 36), none⟩]))
  (.ops [⟨(some 23), .mov (.tmp 7), none⟩,
    ⟨(some 24), .bin .add (.tmp 23) (.con (.int .i64 1)), none⟩,
    ⟨(some 7), .mov (.tmp 24), none⟩])))
def c42l1 : ACode := (.seq (.seq (.ops [⟨(some 39), .mov (.tmp 8), none⟩,
    ⟨(some 40), .mov (.tmp 0), none⟩,
    ⟨(some 41), .lenSlice (.tmp 40), none⟩,
    ⟨(some 42), .bin .mul (.con (.int .i64 8)) (.tmp 41), none⟩,
    ⟨(some 43), .bin .lss (.tmp 39) (.tmp 42), none⟩])
  (.cond (.tmp 43)
  .skip
  (.exit 2)))
  (.seq (.block 3 (.seq (.ops [⟨(some 46), .mov (.tmp 0), none⟩,
    ⟨(some 47), .mov (.tmp 8), none⟩,
    ⟨(some 48), .bin .quo (.tmp 47) (.con (.int .i64 8)), none⟩,
    ⟨(some 49), .idxAddr 1 (.tmp 46) (.tmp 48), none⟩,
    ⟨(some 50), .load false 1 (.tmp 49), none⟩,
    ⟨(some 51), .mov (.tmp 8), none⟩,
    ⟨(some 52), .bin .rem (.tmp 51) (.con (.int .i64 8)), none⟩,
    ⟨(some 53), .bin .mul (.con (.int .i64 8)) (.tmp 52), none⟩,
    ⟨(some 54), .bin .shr (.tmp 50) (.tmp 53), none⟩,
    ⟨(some 55), .toInt .u8 (.tmp 54), none⟩,
    ⟨(some 56), .bin .neq (.tmp 55) (.con (.int .u8 0)), none⟩])
  (.cond (.tmp 56)
  (.seq (.ops [⟨(some 4), .mov (.con (.str [])), none⟩,
    ⟨(some 5), .mov (.con (.int .i64 5)), none⟩])
  .ret)
  .skip)))
  (.ops [⟨(some 44), .mov (.tmp 8), none⟩,
    ⟨(some 45), .bin .add (.tmp 44) (.con (.int .i64 1)), none⟩,
    ⟨(some 8), .mov (.tmp 45), none⟩])))
def c42 : ACode := (.seq (.ops [⟨(some 4), .mov (.con (.str [])), none⟩,
    ⟨(some 5), .mov (.con (.int .i64 0)), none⟩])
  (.seq (.seq (.ops [⟨(some 9), .mov (.tmp 1), none⟩,
    ⟨(some 10), .bin .lss (.tmp 9) (.con (.int .i64 0)), none⟩,
    ⟨(some 11), .mov (.tmp 10), none⟩,
    ⟨(some 12), .mov (.tmp 1), (some (11, false))⟩,
    ⟨(some 13), .mov (.tmp 0), (some (11, false))⟩,
    ⟨(some 14), .lenSlice (.tmp 13), (some (11, false))⟩,
    ⟨(some 15), .bin .mul (.con (.int .i64 8)) (.tmp 14), (some (11, false))⟩,
    ⟨(some 16), .bin .gtr (.tmp 12) (.tmp 15), (some (11, false))⟩,
    ⟨(some 17), .pick (.tmp 11) (.con (.bool true)) (.tmp 16), none⟩])
  (.cond (.tmp 17)
  (.seq (.ops [⟨(some 4), .mov (.con (.str [])), none⟩,
    ⟨(some 5), .mov (.con (.int .i64 1)), none⟩])
  .ret)
  .skip))
  (.seq (.ops [⟨(some 18), .mov (.tmp 1), none⟩,
    ⟨(some 19), .mkSlice 1 1 [(.int .u8 0)] (.tmp 18) (.tmp 18), none⟩,
    ⟨(some 6), .mov (.tmp 19), none⟩])
  (.seq (.seq (.ops [⟨(some 7), .mov (.con (.int .i64 0)), none⟩])
  (.block 0 (.loop c42l0)))
  (.seq (.seq (.ops [⟨(some 38), .mov (.tmp 1), none⟩,
    ⟨(some 8), .mov (.tmp 38), none⟩])
  (.block 2 (.loop c42l1)))
  (.seq (.ops [⟨(some 57), .mov (.tmp 6), none⟩,
    ⟨(some 58), .toStr (.tmp 57), none⟩,
    ⟨(some 4), .mov (.tmp 58), none⟩,
    ⟨(some 5), .mov (.con (.int .i64 0)), none⟩])
  .ret))))))
def a42 : AFunc := ⟨2, c42, [.tmp 4, .tmp 5]⟩

/- 43: tendril/tendrilref1.parts -/
def c43l0 : ACode := (.seq (.seq (.ops [⟨(some 21), .mov (.tmp 11), none⟩,
    ⟨(some 22), .mov (.tmp 1), none⟩,
    ⟨(some 23), .bin .lss (.tmp 21) (.tmp 22), none⟩,
    ⟨(some 24), .mov (.tmp 23), none⟩,
    ⟨(some 25), .mov (.tmp 11), (some (24, true))⟩,
    ⟨(some 26), .mov (.tmp 0), (some (24, true))⟩,
    ⟨(some 27), .call 76 [(.tmp 26)], (some (24, true))⟩,
    ⟨(some 28), .bin .lss (.tmp 25) (.tmp 27), (some (24, true))⟩,
    ⟨(some 29), .pick (.tmp 24) (.tmp 28) (.con (.bool false)), none⟩])
  (.cond (.tmp 29)
  .skip
  (.exit 1)))
  (.seq (.block 2 (.seq (.ops [⟨(some 32), .mov (.tmp 8), none⟩,
    ⟨(some 33), .mov (.tmp 2), none⟩,
    ⟨(some 34), .mov (.tmp 11), none⟩,
    ⟨(some 35), .bin .quo (.tmp 34) (.con (.int .i64 8)), none⟩,
    ⟨(some 36), .bin .add (.con (.int .i64 4)) (.tmp 35), none⟩,
    ⟨(some 37), .idxAddr 1 (.tmp 33) (.tmp 36), none⟩,
    ⟨(some 38), .load false 1 (.tmp 37), none⟩,
    ⟨(some 39), .mov (.tmp 11), none⟩,
    ⟨(some 40), .bin .rem (.tmp 39) (.con (.int .i64 8)), none⟩,
    ⟨(some 41), .bin .mul (.con (.int .i64 8)) (.tmp 40), none⟩,
    ⟨(some 42), .bin .shr (.tmp 38) (.tmp 41), none⟩,
    ⟨(some 43), .toInt .u8 (.tmp 42), none⟩,
    ⟨(some 44), .buildSlice 1 1 [(.int .u8 0)] [(0, 1, (.tmp 43))], none⟩,
    ⟨(some 45), .append 1 1 (.tmp 32) (.tmp 44), none⟩,
    ⟨(some 8), .mov (.tmp 45), none⟩])
  (.ops [⟨(some 46), .mov (.tmp 9), none⟩,
    ⟨(some 47), .mov (.tmp 2), none⟩,
    ⟨(some 48), .mov (.tmp 10), none⟩,
    ⟨(some 49), .mov (.tmp 11), none⟩,
    ⟨(some 50), .bin .add (.tmp 48) (.tmp 49), none⟩,
    ⟨(some 51), .idxAddr 1 (.tmp 47) (.tmp 50), none⟩,
    ⟨(some 52), .load false 1 (.tmp 51), none⟩,
    ⟨(some 53), .toInt .i64 (.tmp 52), none⟩,
    ⟨(some 54), .buildSlice 1 1 [(.int .i64 0)] [(0, 1, (.tmp 53))], none⟩,
    ⟨(some 55), .append 1 8 (.tmp 46) (.tmp 54), none⟩,
    ⟨(some 9), .mov (.tmp 55), none⟩])))
  (.ops [⟨(some 30), .mov (.tmp 11), none⟩,
    ⟨(some 31), .bin .add (.tmp 30) (.con (.int .i64 1)), none⟩,
    ⟨(some 11), .mov (.tmp 31), none⟩])))
def c43l1 : ACode := (.seq (.seq (.ops [⟨(some 58), .mov (.tmp 12), none⟩,
    ⟨(some 59), .bin .lss (.tmp 58) (.con (.int .i64 256)), none⟩])
  (.cond (.tmp 59)
  .skip
  (.exit 3)))
  (.seq (.block 4 (.seq (.ops [⟨(some 62), .mov (.tmp 2), none⟩,
    ⟨(some 63), .mov (.tmp 12), none⟩,
    ⟨(some 64), .bin .quo (.tmp 63) (.con (.int .i64 8)), none⟩,
    ⟨(some 65), .bin .add (.con (.int .i64 4)) (.tmp 64), none⟩,
    ⟨(some 66), .idxAddr 1 (.tmp 62) (.tmp 65), none⟩,
    ⟨(some 67), .load false 1 (.tmp 66), none⟩,
    ⟨(some 68), .mov (.tmp 12), none⟩,
    ⟨(some 69), .bin .rem (.tmp 68) (.con (.int .i64 8)), none⟩,
    ⟨(some 70), .bin .mul (.con (.int .i64 8)) (.tmp 69), none⟩,
    ⟨(some 71), .bin .shr (.tmp 67) (.tmp 70), none⟩,
    ⟨(some 72), .bin .and (.tmp 71) (.con (.int .u64 255)), none⟩,
    ⟨(some 73), .toInt .i64 (.tmp 72), none⟩,
    ⟨(some 13), .mov (.tmp 73), none⟩])
  (.seq (.ops [⟨(some 74), .mov (.tmp 13), none⟩,
    ⟨(some 75), .bin .gtr (.tmp 74) (.con (.int .i64 0)), none⟩,
    ⟨(some 76), .mov (.tmp 75), none⟩,
    ⟨(some 77), .mov (.tmp 13), (some (76, true))⟩,
    ⟨(some 78), .bin .leq (.tmp 77) (.con (.int .i64 48)), (some (76, true))⟩,
    ⟨(some 79), .pick (.tmp 76) (.tmp 78) (.con (.bool false)), none⟩])
  (.cond (.tmp 79)
  (.seq (.ops [⟨(some 80), .mov (.tmp 8), none⟩,
    ⟨(some 81), .mov (.tmp 12), none⟩,
    ⟨(some 82), .toInt .u8 (.tmp 81), none⟩,
    ⟨(some 83), .buildSlice 1 1 [(.int .u8 0)] [(0, 1, (.tmp 82))], none⟩,
    ⟨(some 84), .append 1 1 (.tmp 80) (.tmp 83), none⟩,
    ⟨(some 8), .mov (.tmp 84), none⟩])
  (.ops [⟨(some 85), .mov (.tmp 9), none⟩,
    ⟨(some 86), .mov (.tmp 2), none⟩,
    ⟨(some 87), .mov (.tmp 13), none⟩,
    ⟨(some 88), .bin .add (.con (.int .i64 35)) (.tmp 87), none⟩,
    ⟨(some 89), .idxAddr 1 (.tmp 86) (.tmp 88), none⟩,
    ⟨(some 90), .load false 1 (.tmp 89), none⟩,
    ⟨(some 91), .toInt .i64 (.tmp 90), none⟩,
    ⟨(some 92), .buildSlice 1 1 [(.int .i64 0)] [(0, 1, (.tmp 91))], none⟩,
    ⟨(some 93), .append 1 8 (.tmp 85) (.tmp 92), none⟩,
    ⟨(some 9), .mov (.tmp 93), none⟩]))
  .skip))))
  (.ops [⟨(some 60), .mov (.tmp 12), none⟩,
    ⟨(some 61), .bin .add (.tmp 60) (.con (.int .i64 1)), none⟩,
    ⟨(some 12), .mov (.tmp 61), none⟩])))
def c43l2 : ACode := (.seq (.seq (.ops [⟨(some 96), .mov (.tmp 14), none⟩,
    ⟨(some 97), .bin .lss (.tmp 96) (.con (.int .i64 256)), none⟩])
  (.cond (.tmp 97)
  .skip
  (.exit 5)))
  (.seq (.block 6 (.seq (.ops [⟨(some 100), .mov (.tmp 2), none⟩,
    ⟨(some 101), .mov (.tmp 14), none⟩,
    ⟨(some 102), .bin .add (.con (.int .i64 4)) (.tmp 101), none⟩,
    ⟨(some 103), .idxAddr 1 (.tmp 100) (.tmp 102), none⟩,
    ⟨(some 104), .load false 1 (.tmp 103), none⟩,
    ⟨(some 105), .bin .neq (.tmp 104) (.con (.int .u64 0)), none⟩])
  (.cond (.tmp 105)
  (.seq (.ops [⟨(some 106), .mov (.tmp 8), none⟩,
    ⟨(some 107), .mov (.tmp 14), none⟩,
    ⟨(some 108), .toInt .u8 (.tmp 107), none⟩,
    ⟨(some 109), .buildSlice 1 1 [(.int .u8 0)] [(0, 1, (.tmp 108))], none⟩,
    ⟨(some 110), .append 1 1 (.tmp 106) (.tmp 109), none⟩,
    ⟨(some 8), .mov (.tmp 110), none⟩])
  (.ops [⟨(some 111), .mov (.tmp 9), none⟩,
    ⟨(some 112), .mov (.tmp 2), none⟩,
    ⟨(some 113), .mov (.tmp 14), none⟩,
    ⟨(some 114), .bin .add (.con (.int .i64 4)) (.tmp 113), none⟩,
    ⟨(some 115), .idxAddr 1 (.tmp 112) (.tmp 114), none⟩,
    ⟨(some 116), .load false 1 (.tmp 115), none⟩,
    ⟨(some 117), .toInt .i64 (.tmp 116), none⟩,
    ⟨(some 118), .buildSlice 1 1 [(.int .i64 0)] [(0, 1, (.tmp 117))], none⟩,
    ⟨(some 119), .append 1 8 (.tmp 111) (.tmp 118), none⟩,
    ⟨(some 9), .mov (.tmp 119), none⟩]))
  .skip)))
  (.ops [⟨(some 98), .mov (.tmp 14), none⟩,
    ⟨(some 99), .bin .add (.tmp 98) (.con (.int .i64 1)), none⟩,
    ⟨(some 14), .mov (.tmp 99), none⟩])))
def c43 : ACode := (.seq (.ops [⟨(some 6), .mov (.con .nilSlice), none⟩,
    ⟨(some 7), .mov (.con .nilSlice), none⟩])
  (.seq (.ops [⟨(some 8), .mov (.con .nilSlice), none⟩])
  (.seq (.ops [⟨(some 9), .mov (.con .nilSlice), none⟩])
  (.seq (.seq (.ops [⟨(some 15), .mov (.tmp 0), none⟩])
  (.block 0 (.seq (.seq (.ops [⟨(some 17), .bin .eql (.tmp 15) (.con (.int .i64 1)), none⟩,
    ⟨(some 16), .mov (.tmp 17), none⟩])
  (.cond (.tmp 16)
  .skip
  (.ops [⟨(some 18), .bin .eql (.tmp 15) (.con (.int .i64 2)), none⟩,
    ⟨(some 16), .mov (.tmp 18), none⟩])))
  (.cond (.tmp 16)
  (.seq (.ops [⟨(some 10), .mov (.con (.int .i64 5)), none⟩])
  (.seq (.seq (.ops [⟨(some 19), .mov (.tmp 0), none⟩,
    ⟨(some 20), .bin .eql (.tmp 19) (.con (.int .i64 2)), none⟩])
  (.cond (.tmp 20)
  (.ops [⟨(some 10), .mov (.con (.int .i64 6)), none⟩])
  .skip))
  (.seq (.ops [⟨(some 11), .mov (.con (.int .i64 0)), none⟩])
  (.block 1 (.loop c43l0)))))
  (.seq (.ops [⟨(some 57), .bin .eql (.tmp 15) (.con (.int .i64 3)), none⟩,
    ⟨(some 56), .mov (.tmp 57), none⟩])
  (.cond (.tmp 56)
  (.seq (.ops [⟨(some 12), .mov (.con (.int .i64 0)), none⟩])
  (.block 3 (.loop c43l1)))
  (.seq (.ops [⟨(some 95), .bin .eql (.tmp 15) (.con (.int .i64 4)), none⟩,
    ⟨(some 94), .mov (.tmp 95), none⟩])
  (.cond (.tmp 94)
  (.seq (.ops [⟨(some 14), .mov (.con (.int .i64 0)), none⟩])
  (.block 5 (.loop c43l2)))
  .skip))))))))
  (.seq (.ops [⟨(some 120), .mov (.tmp 8), none⟩,
    ⟨(some 121), .mov (.tmp 9), none⟩,
    ⟨(some 6), .mov (.tmp 120), none⟩,
    ⟨(some 7), .mov (.tmp 121), none⟩])
  .ret)))))
def a43 : AFunc := ⟨3, c43, [.tmp 6, .tmp 7]⟩

/- 44: tendril/tendrilref1.Encode -/
def c44l0 : ACode := (.seq (.ops [⟨(some 32), .bin .lss (.tmp 31) (.tmp 30), none⟩])
  (.seq (.cond (.tmp 32)
  .skip
  (.exit 1))
  (.seq (.block 2 (.seq (.ops [⟨(some 33), .mov (.tmp 31), none⟩,
    ⟨(some 34), .idxAddr 1 (.tmp 29) (.tmp 31), none⟩,
    ⟨(some 35), .load false 1 (.tmp 34), none⟩,
    ⟨(some 4), .mov (.tmp 33), none⟩,
    ⟨(some 5), .mov (.tmp 35), none⟩])
  (.ops [⟨(some 36), .mov (.tmp 3), none⟩,
    ⟨(some 37), .mov (.tmp 4), none⟩,
    ⟨(some 38), .bin .add (.con (.int .i64 5)) (.tmp 37), none⟩,
    ⟨(some 39), .mov (.tmp 5), none⟩,
    ⟨(some 40), .toInt .u64 (.tmp 39), none⟩,
    ⟨(some 41), .idxAddr 1 (.tmp 36) (.tmp 38), none⟩,
    ⟨none, .store 1 (.tmp 41) (.tmp 40), none⟩])))
  (.ops [⟨(some 42), .bin .add (.tmp 31) (.con (.int .i64 1)), none⟩,
    ⟨(some 31), .mov (.tmp 42), none⟩]))))
def c44l1 : ACode := (.seq (.ops [⟨(some 56), .bin .lss (.tmp 55) (.tmp 54), none⟩])
  (.seq (.cond (.tmp 56)
  .skip
  (.exit 3))
  (.seq (.block 4 (.seq (.ops [⟨(some 57), .mov (.tmp 55), none⟩,
    ⟨(some 58), .idxAddr 1 (.tmp 53) (.tmp 55), none⟩,
    ⟨(some 59), .load false 1 (.tmp 58), none⟩,
    ⟨(some 6), .mov (.tmp 57), none⟩,
    ⟨(some 7), .mov (.tmp 59), none⟩])
  (.ops [⟨(some 60), .mov (.tmp 3), none⟩,
    ⟨(some 61), .mov (.tmp 6), none⟩,
    ⟨(some 62), .bin .add (.con (.int .i64 6)) (.tmp 61), none⟩,
    ⟨(some 63), .mov (.tmp 7), none⟩,
    ⟨(some 64), .toInt .u64 (.tmp 63), none⟩,
    ⟨(some 65), .idxAddr 1 (.tmp 60) (.tmp 62), none⟩,
    ⟨none, .store 1 (.tmp 65) (.tmp 64), none⟩])))
  (.ops [⟨(some 66), .bin .add (.tmp 55) (.con (.int .i64 1)), none⟩,
    ⟨(some 55), .mov (.tmp 66), none⟩]))))
def c44l2 : ACode := (.seq (.ops [⟨(some 73), .bin .lss (.tmp 72) (.tmp 71), none⟩])
  (.seq (.cond (.tmp 73)
  .skip
  (.exit 5))
  (.seq (.block 6 (.seq (.ops [⟨(some 74), .mov (.tmp 72), none⟩,
    ⟨(some 75), .idxAddr 1 (.tmp 70) (.tmp 72), none⟩,
    ⟨(some 76), .load false 1 (.tmp 75), none⟩,
    ⟨(some 8), .mov (.tmp 74), none⟩,
    ⟨(some 9), .mov (.tmp 76), none⟩])
  (.seq (.ops [⟨(some 77), .mov (.tmp 3), none⟩,
    ⟨(some 78), .mov (.tmp 9), none⟩,
    ⟨(some 79), .toInt .i64 (.tmp 78), none⟩,
    ⟨(some 80), .bin .quo (.tmp 79) (.con (.int .i64 8)), none⟩,
    ⟨(some 81), .bin .add (.con (.int .i64 4)) (.tmp 80), none⟩,
    ⟨(some 82), .mov (.tmp 3), none⟩,
    ⟨(some 83), .mov (.tmp 9), none⟩,
    ⟨(some 84), .toInt .i64 (.tmp 83), none⟩,
    ⟨(some 85), .bin .quo (.tmp 84) (.con (.int .i64 8)), none⟩,
    ⟨(some 86), .bin .add (.con (.int .i64 4)) (.tmp 85), none⟩,
    ⟨(some 87), .idxAddr 1 (.tmp 82) (.tmp 86), none⟩,
    ⟨(some 88), .load false 1 (.tmp 87), none⟩,
    ⟨(some 89), .mov (.tmp 8), none⟩,
    ⟨(some 90), .bin .add (.tmp 89) (.con (.int .i64 1)), none⟩,
    ⟨(some 91), .toInt .u64 (.tmp 90), none⟩,
    ⟨(some 92), .mov (.tmp 9), none⟩,
    ⟨(some 93), .toInt .i64 (.tmp 92), none⟩,
    ⟨(some 94), .bin .rem (.tmp 93) (.con (.int .i64 8)), none⟩,
    ⟨(some 95), .bin .mul (.con (.int .i64 8)) (.tmp 94), none⟩,
    ⟨(some 96), .bin .shl (.tmp 91) (.tmp 95), none⟩,
    ⟨(some 97), .bin .or (.tmp 88) (.tmp 96), none⟩,
    ⟨(some 98), .idxAddr 1 (.tmp 77) (.tmp 81), none⟩,
    ⟨none, .store 1 (.tmp 98) (.tmp 97), none⟩])
  (.ops [⟨(some 99), .mov (.tmp 3), none⟩,
    ⟨(some 100), .mov (.tmp 8), none⟩,
    ⟨(some 101), .bin .add (.con (.int .i64 36)) (.tmp 100), none⟩,
    ⟨(some 102), .fieldAddr 4 (.tmp 1), none⟩,
    ⟨(some 103), .load false 1 (.tmp 102), none⟩,
    ⟨(some 104), .mov (.tmp 8), none⟩,
    ⟨(some 105), .idxAddr 1 (.tmp 103) (.tmp 104), none⟩,
    ⟨(some 106), .load false 1 (.tmp 105), none⟩,
    ⟨(some 107), .toInt .u64 (.tmp 106), none⟩,
    ⟨(some 108), .idxAddr 1 (.tmp 99) (.tmp 101), none⟩,
    ⟨none, .store 1 (.tmp 108) (.tmp 107), none⟩]))))
  (.ops [⟨(some 109), .bin .add (.tmp 72) (.con (.int .i64 1)), none⟩,
    ⟨(some 72), .mov (.tmp 109), none⟩]))))
def c44l3 : ACode := (.seq (.ops [⟨(some 116), .bin .lss (.tmp 115) (.tmp 114), none⟩])
  (.seq (.cond (.tmp 116)
  .skip
  (.exit 7))
  (.seq (.block 8 (.seq (.ops [⟨(some 117), .mov (.tmp 115), none⟩,
    ⟨(some 118), .idxAddr 1 (.tmp 113) (.tmp 115), none⟩,
    ⟨(some 119), .load false 1 (.tmp 118), none⟩,
    ⟨(some 10), .mov (.tmp 117), none⟩,
    ⟨(some 11), .mov (.tmp 119), none⟩])
  (.ops [⟨(some 120), .mov (.tmp 3), none⟩,
    ⟨(some 121), .mov (.tmp 11), none⟩,
    ⟨(some 122), .toInt .i64 (.tmp 121), none⟩,
    ⟨(some 123), .bin .add (.con (.int .i64 4)) (.tmp 122), none⟩,
    ⟨(some 124), .fieldAddr 4 (.tmp 1), none⟩,
    ⟨(some 125), .load false 1 (.tmp 124), none⟩,
    ⟨(some 126), .mov (.tmp 10), none⟩,
    ⟨(some 127), .idxAddr 1 (.tmp 125) (.tmp 126), none⟩,
    ⟨(some 128), .load false 1 (.tmp 127), none⟩,
    ⟨(some 129), .toInt .u64 (.tmp 128), none⟩,
    ⟨(some 130), .idxAddr 1 (.tmp 120) (.tmp 123), none⟩,
    ⟨none, .store 1 (.tmp 130) (.tmp 129), none⟩])))
  (.ops [⟨(some 131), .bin .add (.tmp 115) (.con (.int .i64 1)), none⟩,
    ⟨(some 115), .mov (.tmp 131), none⟩]))))
def c44 : ACode := (.seq (.ops [⟨(some 1), .box (.tmp 0), none⟩,
    ⟨(some 2), .mov (.con .nilSlice), none⟩])
  (.seq (.seq (.ops [⟨(some 12), .load true 5 (.tmp 1), none⟩,
    ⟨(some 13), .call 77 [(.tmp 12)], none⟩,
    ⟨(some 14), .un .not (.tmp 13), none⟩])
  (.cond (.tmp 14)
  (.seq (.ops [⟨(some 2), .mov (.con .nilSlice), none⟩])
  .ret)
  .skip))
  (.seq (.ops [⟨(some 15), .load true 5 (.tmp 1), none⟩,
    ⟨(some 16), .call 78 [(.tmp 15)], none⟩,
    ⟨(some 3), .mov (.tmp 16), none⟩])
  (.seq (.seq (.ops [⟨(some 17), .fieldAddr 0 (.tmp 1), none⟩,
    ⟨(some 18), .load false 1 (.tmp 17), none⟩])
  (.block 0 (.seq (.ops [⟨(some 20), .bin .eql (.tmp 18) (.con (.int .i64 1)), none⟩,
    ⟨(some 19), .mov (.tmp 20), none⟩])
  (.cond (.tmp 19)
  (.seq (.ops [⟨(some 21), .mov (.tmp 3), none⟩,
    ⟨(some 22), .slc 1 (.tmp 21) (some (.con (.int .i64 4))) (some (.con (.int .i64 5))) none, none⟩,
    ⟨(some 23), .fieldAddr 3 (.tmp 1), none⟩,
    ⟨(some 24), .load false 1 (.tmp 23), none⟩,
    ⟨(some 25), .toStr (.tmp 24), none⟩,
    ⟨(some 26), .call 79 [(.tmp 25)], none⟩,
    ⟨(some 27), .copy 1 (.tmp 22) (.tmp 26), none⟩])
  (.seq (.ops [⟨(some 28), .fieldAddr 4 (.tmp 1), none⟩,
    ⟨(some 29), .load false 1 (.tmp 28), none⟩,
    ⟨(some 30), .lenSlice (.tmp 29), none⟩,
    ⟨(some 31), .mov (.con (.int .i64 0)), none⟩])
  (.block 1 (.loop c44l0))))
  (.seq (.ops [⟨(some 44), .bin .eql (.tmp 18) (.con (.int .i64 2)), none⟩,
    ⟨(some 43), .mov (.tmp 44), none⟩])
  (.cond (.tmp 43)
  (.seq (.ops [⟨(some 45), .mov (.tmp 3), none⟩,
    ⟨(some 46), .slc 1 (.tmp 45) (some (.con (.int .i64 4))) (some (.con (.int .i64 6))) none, none⟩,
    ⟨(some 47), .fieldAddr 3 (.tmp 1), none⟩,
    ⟨(some 48), .load false 1 (.tmp 47), none⟩,
    ⟨(some 49), .toStr (.tmp 48), none⟩,
    ⟨(some 50), .call 79 [(.tmp 49)], none⟩,
    ⟨(some 51), .copy 1 (.tmp 46) (.tmp 50), none⟩])
  (.seq (.ops [⟨(some 52), .fieldAddr 4 (.tmp 1), none⟩,
    ⟨(some 53), .load false 1 (.tmp 52), none⟩,
    ⟨(some 54), .lenSlice (.tmp 53), none⟩,
    ⟨(some 55), .mov (.con (.int .i64 0)), none⟩])
  (.block 3 (.loop c44l1))))
  (.seq (.ops [⟨(some 68), .bin .eql (.tmp 18) (.con (.int .i64 3)), none⟩,
    ⟨(some 67), .mov (.tmp 68), none⟩])
  (.cond (.tmp 67)
  (.seq (.ops [⟨(some 69), .fieldAddr 3 (.tmp 1), none⟩,
    ⟨(some 70), .load false 1 (.tmp 69), none⟩,
    ⟨(some 71), .lenSlice (.tmp 70), none⟩,
    ⟨(some 72), .mov (.con (.int .i64 0)), none⟩])
  (.block 5 (.loop c44l2)))
  (.seq (.ops [⟨(some 111), .bin .eql (.tmp 18) (.con (.int .i64 4)), none⟩,
    ⟨(some 110), .mov (.tmp 111), none⟩])
  (.cond (.tmp 110)
  (.seq (.ops [⟨(some 112), .fieldAddr 3 (.tmp 1), none⟩,
    ⟨(some 113), .load false 1 (.tmp 112), none⟩,
    ⟨(some 114), .lenSlice (.tmp 113), none⟩,
    ⟨(some 115), .mov (.con (.int .i64 0)), none⟩])
  (.block 7 (.loop c44l3)))
  .skip))))))))))
  (.seq (.ops [⟨(some 132), .mov (.tmp 3), none⟩,
    ⟨(some 2), .mov (.tmp 132), none⟩])
  .ret)))))
def a44 : AFunc := ⟨1, c44, [.tmp 2]⟩

/- 45: (*tendril/epoch.Epochs).Limbo -/
def c45 : ACode := (.seq (.ops [⟨(some 4), .mov (.con (.int .i64 0)), none⟩])
  (.seq (.ops [⟨(some 6), .mov (.tmp 0), none⟩,
    ⟨(some 7), .mov (.tmp 1), none⟩,
    ⟨(some 8), .call 73 [(.tmp 6), (.tmp 7)], none⟩,
    ⟨(some 5), .mov (.tmp 8), none⟩])
  (.seq (.seq (.ops [⟨(some 9), .mov (.tmp 5), none⟩,
    ⟨(some 10), .eqNil 0 false (.tmp 9) (.con .nilPtr), none⟩])
  (.cond (.tmp 10)
  (.seq (.ops [⟨(some 4), .mov (.con (.int .i64 0)), none⟩])
  .ret)
  .skip))
  (.seq (.ops [⟨(some 11), .mov (.tmp 5), none⟩,
    ⟨(some 12), .nilChk (.tmp 11), none⟩,
    ⟨(some 13), .fieldAddr 1 (.tmp 12), none⟩,
    ⟨(some 14), .load false 1 (.tmp 13), none⟩,
    ⟨(some 15), .lenSlice (.tmp 14), none⟩,
    ⟨(some 4), .mov (.tmp 15), none⟩])
  .ret))))
def a45 : AFunc := ⟨2, c45, [.tmp 4]⟩

/- 58: (*tendril/arena.Arena).Room -/
def c58 : ACode := (.seq (.ops [⟨(some 4), .mov (.con (.int .i64 0)), none⟩])
  (.seq (.seq (.ops [⟨(some 5), .mov (.tmp 1), none⟩,
    ⟨(some 6), .bin .lss (.tmp 5) (.con (.int .i64 0)), none⟩,
    ⟨(some 7), .mov (.tmp 6), none⟩,
    ⟨(some 8), .mov (.tmp 1), (some (7, false))⟩,
    ⟨(some 9), .bin .geq (.tmp 8) (.con (.int .i64 5)), (some (7, false))⟩,
    ⟨(some 10), .pick (.tmp 7) (.con (.bool true)) (.tmp 9), none⟩])
  (.cond (.tmp 10)
  (.seq (.ops [⟨(some 4), .mov (.con (.int .i64 0)), none⟩])
  .ret)
  .skip))
  (.seq (.ops [⟨(some 11), .mov (.tmp 0), none⟩,
    ⟨(some 12), .mov (.tmp 1), none⟩,
    ⟨(some 13), .nilChk (.tmp 11), none⟩,
    ⟨(some 14), .fieldAddr 1 (.tmp 13), none⟩,
    ⟨(some 15), .idxAddrArr 5 1 (.tmp 14) (.tmp 12), none⟩,
    ⟨(some 16), .load false 1 (.tmp 15), none⟩,
    ⟨(some 17), .call 86 [(.tmp 16)], none⟩,
    ⟨(some 4), .mov (.tmp 17), none⟩])
  .ret)))
def a58 : AFunc := ⟨2, c58, [.tmp 4]⟩

/- 59: tendril/pool.New -/
def c59 : ACode := (.seq (.ops [⟨(some 2), .mov (.con .nilPtr), none⟩,
    ⟨(some 3), .mov (.con (.int .i64 0)), none⟩])
  (.seq (.seq (.ops [⟨(some 4), .mov (.tmp 0), none⟩,
    ⟨(some 5), .bin .lss (.tmp 4) (.con (.int .i64 0)), none⟩,
    ⟨(some 6), .mov (.tmp 5), none⟩,
    ⟨(some 7), .mov (.tmp 0), (some (6, false))⟩,
    ⟨(some 8), .bin .gtr (.tmp 7) (.con (.int .i64 65535)), (some (6, false))⟩,
    ⟨(some 9), .pick (.tmp 6) (.con (.bool true)) (.tmp 8), none⟩])
  (.cond (.tmp 9)
  (.seq (.ops [⟨(some 2), .mov (.con .nilPtr), none⟩,
    ⟨(some 3), .mov (.con (.int .i64 1)), none⟩])
  .ret)
  .skip))
  (.seq (.ops [⟨(some 10), .mov (.tmp 0), none⟩,
    ⟨(some 11), .mkMap, none⟩,
    ⟨(some 12), .build [(.int .i64 0), .nilSlice, .nilMap] [(0, 1, (.tmp 10)), (2, 1, (.tmp 11))], none⟩,
    ⟨(some 13), .box (.tmp 12), none⟩,
    ⟨(some 2), .mov (.tmp 13), none⟩,
    ⟨(some 3), .mov (.con (.int .i64 0)), none⟩])
  .ret)))
def a59 : AFunc := ⟨1, c59, [.tmp 2, .tmp 3]⟩

/- 60: (*tendril/pool.Pool).Put -/
def c60 : ACode := (.seq (.ops [⟨(some 4), .mov (.con (.bool false)), none⟩])
  (.seq (.seq (.ops [⟨(some 5), .mov (.tmp 1), none⟩,
    ⟨(some 6), .bin .lss (.tmp 5) (.con (.int .i64 0)), none⟩,
    ⟨(some 7), .mov (.tmp 6), none⟩,
    ⟨(some 8), .mov (.tmp 1), (some (7, false))⟩,
    ⟨(some 9), .mov (.tmp 0), (some (7, false))⟩,
    ⟨(some 10), .nilChk (.tmp 9), (some (7, false))⟩,
    ⟨(some 11), .fieldAddr 0 (.tmp 10), (some (7, false))⟩,
    ⟨(some 12), .load false 1 (.tmp 11), (some (7, false))⟩,
    ⟨(some 13), .bin .geq (.tmp 8) (.tmp 12), (some (7, false))⟩,
    ⟨(some 14), .pick (.tmp 7) (.con (.bool true)) (.tmp 13), none⟩,
    ⟨(some 15), .mov (.tmp 14), none⟩,
    ⟨(some 16), .mov (.tmp 0), (some (15, false))⟩,
    ⟨(some 17), .mov (.tmp 1), (some (15, false))⟩,
    ⟨(some 18), .call 87 [(.tmp 16), (.tmp 17)], (some (15, false))⟩,
    ⟨(some 19), .pick (.tmp 15) (.con (.bool true)) (.tmp 18), none⟩])
  (.cond (.tmp 19)
  (.seq (.ops [⟨(some 4), .mov (.con (.bool false)), none⟩])
  .ret)
  .skip))
  (.seq (.ops [⟨(some 20), .mov (.tmp 0), none⟩,
    ⟨(some 21), .nilChk (.tmp 20), none⟩,
    ⟨(some 22), .fieldAddr 2 (.tmp 21), none⟩,
    ⟨(some 23), .load false 1 (.tmp 22), none⟩,
    ⟨(some 24), .mov (.tmp 1), none⟩,
    ⟨(some 25), .build [] [], none⟩,
    ⟨none, .mapUpd 0 (.tmp 23) (.tmp 24) (.tmp 25), none⟩])
  (.seq (.ops [⟨(some 26), .mov (.tmp 0), none⟩,
    ⟨(some 27), .nilChk (.tmp 26), none⟩,
    ⟨(some 28), .fieldAddr 1 (.tmp 27), none⟩,
    ⟨(some 29), .mkIface 161 (.tmp 28), none⟩,
    ⟨(some 30), .mov (.tmp 1), none⟩,
    ⟨(some 31), .mkIface 3 (.tmp 30), none⟩,
    ⟨(some 32), .call 88 [(.tmp 29), (.tmp 31)], none⟩])
  (.seq (.ops [⟨(some 4), .mov (.con (.bool true)), none⟩])
  .ret)))))
def a60 : AFunc := ⟨2, c60, [.tmp 4]⟩

/- 61: tendril/arena.poison -/
def c61 : ACode := (.seq (.ops [⟨(some 2), .mov (.con .nilSlice), none⟩])
  (.seq (.ops [⟨(some 3), .buildSlice 1 1 [(.int .u64 0)] [(0, 1, (.con (.int .u64 16045690984833335023)))], none⟩,
    ⟨(some 4), .mov (.tmp 0), none⟩,
    ⟨(some 5), .call 62 [(.tmp 4)], none⟩,
    ⟨(some 6), .call 89 [(.tmp 3), (.tmp 5)], none⟩,
    ⟨(some 2), .mov (.tmp 6), none⟩])
  .ret))
def a61 : AFunc := ⟨1, c61, [.tmp 2]⟩

/- 66: tendril/node.Right -/
def c66l0 : ACode := (.seq (.ops [⟨(some 48), .bin .lss (.tmp 47) (.tmp 46), none⟩])
  (.seq (.cond (.tmp 48)
  .skip
  (.exit 0))
  (.seq (.block 1 (.seq (.ops [⟨(some 49), .mov (.tmp 47), none⟩,
    ⟨(some 50), .idxAddr 1 (.tmp 45) (.tmp 47), none⟩,
    ⟨(some 51), .load false 1 (.tmp 50), none⟩,
    ⟨(some 3), .mov (.tmp 49), none⟩,
    ⟨(some 4), .mov (.tmp 51), none⟩])
  (.seq (.ops [⟨(some 52), .mov (.tmp 4), none⟩,
    ⟨(some 53), .call 93 [(.tmp 52)], none⟩,
    ⟨(some 54), .un .not (.tmp 53), none⟩,
    ⟨(some 55), .mov (.tmp 54), none⟩,
    ⟨(some 56), .mov (.tmp 3), (some (55, false))⟩,
    ⟨(some 57), .bin .gtr (.tmp 56) (.con (.int .i64 0)), (some (55, false))⟩,
    ⟨(some 58), .mov (.tmp 57), (some (55, false))⟩,
    ⟨(some 59), .fieldAddr 3 (.tmp 1), (some (58, true))⟩,
    ⟨(some 60), .load false 1 (.tmp 59), (some (58, true))⟩,
    ⟨(some 61), .mov (.tmp 3), (some (58, true))⟩,
    ⟨(some 62), .idxAddr 1 (.tmp 60) (.tmp 61), (some (58, true))⟩,
    ⟨(some 63), .load false 1 (.tmp 62), (some (58, true))⟩,
    ⟨(some 64), .fieldAddr 3 (.tmp 1), (some (58, true))⟩,
    ⟨(some 65), .load false 1 (.tmp 64), (some (58, true))⟩,
    ⟨(some 66), .mov (.tmp 3), (some (58, true))⟩,
    ⟨(some 67), .bin .sub (.tmp 66) (.con (.int .i64 1)), (some (58, true))⟩,
    ⟨(some 68), .idxAddr 1 (.tmp 65) (.tmp 67), (some (58, true))⟩,
    ⟨(some 69), .load false 1 (.tmp 68), (some (58, true))⟩,
    ⟨(some 70), .bin .leq (.tmp 63) (.tmp 69), (some (58, true))⟩,
    ⟨(some 71), .pick (.tmp 58) (.tmp 70) (.con (.bool false)), (some (55, false))⟩,
    ⟨(some 72), .pick (.tmp 55) (.con (.bool true)) (.tmp 71), none⟩])
  (.cond (.tmp 72)
  (.seq (.ops [⟨(some 2), .mov (.con (.bool false)), none⟩])
  .ret)
  .skip))))
  (.ops [⟨(some 73), .bin .add (.tmp 47) (.con (.int .i64 1)), none⟩,
    ⟨(some 47), .mov (.tmp 73), none⟩]))))
def c66 : ACode := (.seq (.ops [⟨(some 1), .box (.tmp 0), none⟩,
    ⟨(some 2), .mov (.con (.bool false)), none⟩])
  (.seq (.seq (.draw [.op ⟨(some 5), .fieldAddr 0 (.tmp 1), none⟩,
    .op ⟨(some 6), .load false 1 (.tmp 5), none⟩,
    .op ⟨(some 7), .call 91 [(.tmp 6)], none⟩,
    .op ⟨(some 8), .bin .eql (.tmp 7) (.con (.int .i64 0)), none⟩,
    .op ⟨(some 9), .mov (.tmp 8), none⟩,
    .op ⟨(some 10), .fieldAddr 1 (.tmp 1), (some (9, false))⟩,
    .op ⟨(some 11), .load false 1 (.tmp 10), (some (9, false))⟩,
    .op ⟨(some 12), .call 92 [(.tmp 11)], (some (9, false))⟩,
    .op ⟨(some 13), .mov (.tmp 12), (some (9, false))⟩,
    .op ⟨(some 14), .fieldAddr 1 (.tmp 1), (some (13, true))⟩,
    .op ⟨(some 15), .load false 1 (.tmp 14), (some (13, true))⟩,
    .op ⟨(some 16), .bin .and (.tmp 15) (.con (.int .u64 1)), (some (13, true))⟩,
    .op ⟨(some 17), .bin .neq (.tmp 16) (.con (.int .u64 0)), (some (13, true))⟩,
    .op ⟨(some 18), .pick (.tmp 13) (.tmp 17) (.con (.bool false)), (some (9, false))⟩,
    .op ⟨(some 19), .pick (.tmp 9) (.con (.bool true)) (.tmp 18), none⟩,
    .op ⟨(some 20), .mov (.tmp 19), none⟩,
    .op ⟨(some 21), .fieldAddr 2 (.tmp 1), (some (20, false))⟩,
    .op ⟨(some 22), .load false 1 (.tmp 21), (some (20, false))⟩,
    .op ⟨(some 23), .lenStr (.tmp 22), (some (20, false))⟩,
    .op ⟨(some 24), .bin .gtr (.tmp 23) (.con (.int .i64 12)), (some (20, false))⟩,
    .op ⟨(some 25), .pick (.tmp 20) (.con (.bool true)) (.tmp 24), none⟩,
    .op ⟨(some 26), .mov (.tmp 25), none⟩,
    .op ⟨(some 27), .fieldAddr 3 (.tmp 1), (some (26, false))⟩,
    .op ⟨(some 28), .load false 1 (.tmp 27), (some (26, false))⟩,
    .op ⟨(some 29), .lenSlice (.tmp 28), (some (26, false))⟩,
    .op ⟨(some 30), .fieldAddr 4 (.tmp 1), (some (26, false))⟩,
    .op ⟨(some 31), .load false 1 (.tmp 30), (some (26, false))⟩,
    .op ⟨(some 32), .lenSlice (.tmp 31), (some (26, false))⟩,
    .op ⟨(some 33), .bin .neq (.tmp 29) (.tmp 32), (some (26, false))⟩,
    .op ⟨(some 34), .pick (.tmp 26) (.con (.bool true)) (.tmp 33), none⟩,
    .op ⟨(some 35), .mov (.tmp 34), none⟩,
    .op ⟨(some 36), .fieldAddr 3 (.tmp 1), (some (35, false))⟩,
    .op ⟨(some 37), .load false 1 (.tmp 36), (some (35, false))⟩,
    .op ⟨(some 38), .lenSlice (.tmp 37), (some (35, false))⟩,
    .op ⟨(some 39), .fieldAddr 0 (.tmp 1), (some (35, false))⟩,
    .op ⟨(some 40), .load false 1 (.tmp 39), (some (35, false))⟩,
    .op ⟨(some 41), .call 91 [(.tmp 40)], (some (35, false))⟩,
    .op ⟨(some 42), .bin .gtr (.tmp 38) (.tmp 41), (some (35, false))⟩,
    .op ⟨(some 43), .pick (.tmp 35) (.con (.bool true)) (.tmp 42), none⟩,
    .look ⟨(some 37), .load false 1 (.tmp 36), (some (35, false))⟩])
  (.cond (.tmp 43)
  (.seq (.ops [⟨(some 2), .mov (.con (.bool false)), none⟩])
  .ret)
  .skip))
  (.seq (.seq (.ops [⟨(some 44), .fieldAddr 4 (.tmp 1), none⟩,
    ⟨(some 45), .load false 1 (.tmp 44), none⟩,
    ⟨(some 46), .lenSlice (.tmp 45), none⟩,
    ⟨(some 47), .mov (.con (.int .i64 0)), none⟩])
  (.block 0 (.loop c66l0)))
  (.seq (.ops [⟨(some 2), .mov (.con (.bool true)), none⟩])
  .ret))))
def a66 : AFunc := ⟨1, c66, [.tmp 2]⟩

/- 62: tendril/arena.Size -/
def c62 : ACode := (.seq (.ops [⟨(some 2), .mov (.con (.int .i64 0)), none⟩])
  (.seq (.seq (.ops [⟨(some 3), .mov (.tmp 0), none⟩])
  (.block 0 (.seq (.ops [⟨(some 5), .bin .eql (.tmp 3) (.con (.int .i64 0)), none⟩,
    ⟨(some 4), .mov (.tmp 5), none⟩])
  (.cond (.tmp 4)
  (.seq (.ops [⟨(some 2), .mov (.con (.int .i64 8)), none⟩])
  .ret)
  (.seq (.ops [⟨(some 7), .bin .eql (.tmp 3) (.con (.int .i64 1)), none⟩,
    ⟨(some 6), .mov (.tmp 7), none⟩])
  (.cond (.tmp 6)
  (.seq (.ops [⟨(some 2), .mov (.con (.int .i64 12)), none⟩])
  .ret)
  (.seq (.ops [⟨(some 9), .bin .eql (.tmp 3) (.con (.int .i64 2)), none⟩,
    ⟨(some 8), .mov (.tmp 9), none⟩])
  (.cond (.tmp 8)
  (.seq (.ops [⟨(some 2), .mov (.con (.int .i64 24)), none⟩])
  .ret)
  (.seq (.ops [⟨(some 11), .bin .eql (.tmp 3) (.con (.int .i64 3)), none⟩,
    ⟨(some 10), .mov (.tmp 11), none⟩])
  (.cond (.tmp 10)
  (.seq (.ops [⟨(some 2), .mov (.con (.int .i64 88)), none⟩])
  .ret)
  (.seq (.ops [⟨(some 13), .bin .eql (.tmp 3) (.con (.int .i64 4)), none⟩,
    ⟨(some 12), .mov (.tmp 13), none⟩])
  (.cond (.tmp 12)
  (.seq (.ops [⟨(some 2), .mov (.con (.int .i64 264)), none⟩])
  .ret)
  .skip))))))))))))
  (.seq (.ops [⟨(some 2), .mov (.con (.int .i64 0)), none⟩])
  .ret)))
def a62 : AFunc := ⟨1, c62, [.tmp 2]⟩

/- 67: tendril/pack.Words -/
def c67l0 : ACode := (.seq (.ops [⟨(some 12), .bin .lss (.tmp 11) (.tmp 10), none⟩])
  (.seq (.cond (.tmp 12)
  .skip
  (.exit 0))
  (.seq (.block 1 (.seq (.ops [⟨(some 13), .mov (.tmp 11), none⟩,
    ⟨(some 4), .mov (.tmp 13), none⟩])
  (.ops [⟨(some 14), .mov (.tmp 3), none⟩,
    ⟨(some 15), .mov (.tmp 4), none⟩,
    ⟨(some 16), .bin .quo (.tmp 15) (.con (.int .i64 8)), none⟩,
    ⟨(some 17), .idxAddr 1 (.tmp 14) (.tmp 16), none⟩,
    ⟨(some 18), .load false 1 (.tmp 17), none⟩,
    ⟨(some 19), .mov (.tmp 0), none⟩,
    ⟨(some 20), .mov (.tmp 4), none⟩,
    ⟨(some 21), .idxStr (.tmp 19) (.tmp 20), none⟩,
    ⟨(some 22), .toInt .u64 (.tmp 21), none⟩,
    ⟨(some 23), .mov (.tmp 4), none⟩,
    ⟨(some 24), .bin .rem (.tmp 23) (.con (.int .i64 8)), none⟩,
    ⟨(some 25), .bin .mul (.con (.int .i64 8)) (.tmp 24), none⟩,
    ⟨(some 26), .toInt .u64 (.tmp 25), none⟩,
    ⟨(some 27), .bin .shl (.tmp 22) (.tmp 26), none⟩,
    ⟨(some 28), .bin .or (.tmp 18) (.tmp 27), none⟩,
    ⟨(some 29), .idxAddr 1 (.tmp 14) (.tmp 16), none⟩,
    ⟨none, .store 1 (.tmp 29) (.tmp 28), none⟩])))
  (.ops [⟨(some 30), .bin .add (.tmp 11) (.con (.int .i64 1)), none⟩,
    ⟨(some 11), .mov (.tmp 30), none⟩]))))
def c67 : ACode := (.seq (.ops [⟨(some 2), .mov (.con .nilSlice), none⟩])
  (.seq (.ops [⟨(some 5), .mov (.tmp 0), none⟩,
    ⟨(some 6), .lenStr (.tmp 5), none⟩,
    ⟨(some 7), .call 94 [(.tmp 6)], none⟩,
    ⟨(some 8), .mkSlice 1 8 [(.int .u64 0)] (.tmp 7) (.tmp 7), none⟩,
    ⟨(some 3), .mov (.tmp 8), none⟩])
  (.seq (.seq (.ops [⟨(some 9), .mov (.tmp 0), none⟩,
    ⟨(some 10), .lenStr (.tmp 9), none⟩,
    ⟨(some 11), .mov (.con (.int .i64 0)), none⟩])
  (.block 0 (.loop c67l0)))
  (.seq (.ops [⟨(some 31), .mov (.tmp 3), none⟩,
    ⟨(some 2), .mov (.tmp 31), none⟩])
  .ret))))
def a67 : AFunc := ⟨1, c67, [.tmp 2]⟩

/- 68: tendril/node.index -/
def c68l0 : ACode := (.seq (.ops [⟨(some 10), .bin .lss (.tmp 9) (.tmp 8), none⟩])
  (.seq (.cond (.tmp 10)
  .skip
  (.exit 0))
  (.seq (.block 1 (.seq (.ops [⟨(some 11), .mov (.tmp 9), none⟩,
    ⟨(some 12), .idxAddr 1 (.tmp 7) (.tmp 9), none⟩,
    ⟨(some 13), .load false 1 (.tmp 12), none⟩,
    ⟨(some 4), .mov (.tmp 11), none⟩,
    ⟨(some 5), .mov (.tmp 13), none⟩])
  (.ops [⟨(some 14), .mov (.tmp 3), none⟩,
    ⟨(some 15), .mov (.tmp 5), none⟩,
    ⟨(some 16), .bin .quo (.tmp 15) (.con (.int .u8 8)), none⟩,
    ⟨(some 17), .idxAddr 1 (.tmp 14) (.tmp 16), none⟩,
    ⟨(some 18), .load false 1 (.tmp 17), none⟩,
    ⟨(some 19), .mov (.tmp 4), none⟩,
    ⟨(some 20), .bin .add (.tmp 19) (.con (.int .i64 1)), none⟩,
    ⟨(some 21), .toInt .u64 (.tmp 20), none⟩,
    ⟨(some 22), .mov (.tmp 5), none⟩,
    ⟨(some 23), .bin .rem (.tmp 22) (.con (.int .u8 8)), none⟩,
    ⟨(some 24), .bin .mul (.con (.int .u8 8)) (.tmp 23), none⟩,
    ⟨(some 25), .bin .shl (.tmp 21) (.tmp 24), none⟩,
    ⟨(some 26), .bin .or (.tmp 18) (.tmp 25), none⟩,
    ⟨(some 27), .idxAddr 1 (.tmp 14) (.tmp 16), none⟩,
    ⟨none, .store 1 (.tmp 27) (.tmp 26), none⟩])))
  (.ops [⟨(some 28), .bin .add (.tmp 9) (.con (.int .i64 1)), none⟩,
    ⟨(some 9), .mov (.tmp 28), none⟩]))))
def c68 : ACode := (.seq (.ops [⟨(some 2), .mov (.con .nilSlice), none⟩])
  (.seq (.ops [⟨(some 6), .mkSlice 1 8 [(.int .u64 0)] (.con (.int .i64 32)) (.con (.int .i64 32)), none⟩,
    ⟨(some 3), .mov (.tmp 6), none⟩])
  (.seq (.seq (.ops [⟨(some 7), .mov (.tmp 0), none⟩,
    ⟨(some 8), .lenSlice (.tmp 7), none⟩,
    ⟨(some 9), .mov (.con (.int .i64 0)), none⟩])
  (.block 0 (.loop c68l0)))
  (.seq (.ops [⟨(some 29), .mov (.tmp 3), none⟩,
    ⟨(some 2), .mov (.tmp 29), none⟩])
  .ret))))
def a68 : AFunc := ⟨1, c68, [.tmp 2]⟩

/- 63: (*tendril/pool.Pool).Take -/
def c63 : ACode := (.seq (.ops [⟨(some 2), .mov (.con (.int .i64 0)), none⟩,
    ⟨(some 3), .mov (.con (.bool false)), none⟩])
  (.seq (.seq (.ops [⟨(some 6), .mov (.tmp 0), none⟩,
    ⟨(some 7), .nilChk (.tmp 6), none⟩,
    ⟨(some 8), .fieldAddr 1 (.tmp 7), none⟩,
    ⟨(some 9), .load false 1 (.tmp 8), none⟩,
    ⟨(some 10), .lenSlice (.tmp 9), none⟩,
    ⟨(some 11), .bin .eql (.tmp 10) (.con (.int .i64 0)), none⟩])
  (.cond (.tmp 11)
  (.seq (.ops [⟨(some 2), .mov (.con (.int .i64 0)), none⟩,
    ⟨(some 3), .mov (.con (.bool false)), none⟩])
  .ret)
  .skip))
  (.seq (.ops [⟨(some 13), .mov (.tmp 0), none⟩,
    ⟨(some 14), .nilChk (.tmp 13), none⟩,
    ⟨(some 15), .fieldAddr 1 (.tmp 14), none⟩,
    ⟨(some 16), .mkIface 161 (.tmp 15), none⟩,
    ⟨(some 17), .call 90 [(.tmp 16)], none⟩,
    ⟨(some 18), .assertT 3 (.int .i64 0) true (.tmp 17), none⟩,
    ⟨(some 12), .mov (.tmp 18), none⟩,
    ⟨(some 19), .extract (.tmp 12) 0, none⟩,
    ⟨(some 20), .extract (.tmp 12) 1, none⟩,
    ⟨(some 4), .mov (.tmp 19), none⟩,
    ⟨(some 5), .mov (.tmp 20), none⟩])
  (.seq (.ops [⟨(some 21), .mov (.tmp 0), none⟩,
    ⟨(some 22), .nilChk (.tmp 21), none⟩,
    ⟨(some 23), .fieldAddr 2 (.tmp 22), none⟩,
    ⟨(some 24), .load false 1 (.tmp 23), none⟩,
    ⟨(some 25), .mov (.tmp 4), none⟩,
    ⟨none, .del 0 (.tmp 24) (.tmp 25), none⟩])
  (.seq (.ops [⟨(some 26), .mov (.tmp 4), none⟩,
    ⟨(some 2), .mov (.tmp 26), none⟩,
    ⟨(some 3), .mov (.con (.bool true)), none⟩])
  .ret)))))
def a63 : AFunc := ⟨1, c63, [.tmp 2, .tmp 3]⟩

/- 64: (*tendril/arena.slot).fill -/
def c64 : ACode := (.seq (.ops [⟨(some 4), .mov (.tmp 0), none⟩,
    ⟨(some 5), .mov (.tmp 0), none⟩,
    ⟨(some 6), .nilChk (.tmp 5), none⟩,
    ⟨(some 7), .fieldAddr 0 (.tmp 6), none⟩,
    ⟨(some 8), .load false 1 (.tmp 7), none⟩,
    ⟨(some 9), .call 62 [(.tmp 8)], none⟩,
    ⟨(some 10), .mkSlice 1 8 [(.int .u64 0)] (.tmp 9) (.tmp 9), none⟩,
    ⟨(some 11), .nilChk (.tmp 4), none⟩,
    ⟨(some 12), .fieldAddr 3 (.tmp 11), none⟩,
    ⟨none, .store 1 (.tmp 12) (.tmp 10), none⟩])
  (.ops [⟨(some 13), .mov (.tmp 0), none⟩,
    ⟨(some 14), .nilChk (.tmp 13), none⟩,
    ⟨(some 15), .fieldAddr 3 (.tmp 14), none⟩,
    ⟨(some 16), .load false 1 (.tmp 15), none⟩,
    ⟨(some 17), .mov (.tmp 1), none⟩,
    ⟨(some 18), .copy 1 (.tmp 16) (.tmp 17), none⟩]))
def a64 : AFunc := ⟨2, c64, []⟩

/- 65: tendril/word.Ref -/
def c65 : ACode := (.seq (.ops [⟨(some 6), .mov (.con (.int .i64 0)), none⟩])
  (.seq (.seq (.ops [⟨(some 8), .mov (.tmp 0), none⟩,
    ⟨(some 9), .bin .lss (.tmp 8) (.con (.int .i64 0)), none⟩,
    ⟨(some 10), .mov (.tmp 9), none⟩,
    ⟨(some 11), .mov (.tmp 0), (some (10, false))⟩,
    ⟨(some 12), .bin .geq (.tmp 11) (.con (.int .i64 1024)), (some (10, false))⟩,
    ⟨(some 13), .pick (.tmp 10) (.con (.bool true)) (.tmp 12), none⟩,
    ⟨(some 14), .mov (.tmp 13), none⟩,
    ⟨(some 15), .mov (.tmp 1), (some (14, false))⟩,
    ⟨(some 16), .bin .lss (.tmp 15) (.con (.int .i64 1)), (some (14, false))⟩,
    ⟨(some 17), .pick (.tmp 14) (.con (.bool true)) (.tmp 16), none⟩,
    ⟨(some 18), .mov (.tmp 17), none⟩,
    ⟨(some 19), .mov (.tmp 1), (some (18, false))⟩,
    ⟨(some 20), .bin .gtr (.tmp 19) (.con (.int .i64 1073741824)), (some (18, false))⟩,
    ⟨(some 21), .pick (.tmp 18) (.con (.bool true)) (.tmp 20), none⟩])
  (.cond (.tmp 21)
  (.seq (.ops [⟨(some 6), .mov (.con (.int .i64 0)), none⟩])
  .ret)
  .skip))
  (.seq (.ops [⟨(some 22), .mov (.tmp 1), none⟩,
    ⟨(some 23), .bin .shl (.tmp 22) (.con (.int .u64 16)), none⟩,
    ⟨(some 24), .mov (.tmp 0), none⟩,
    ⟨(some 25), .bin .or (.tmp 23) (.tmp 24), none⟩,
    ⟨(some 7), .mov (.tmp 25), none⟩])
  (.seq (.seq (.ops [⟨(some 26), .mov (.tmp 2), none⟩])
  (.cond (.tmp 26)
  (.ops [⟨(some 27), .mov (.tmp 7), none⟩,
    ⟨(some 28), .bin .or (.tmp 27) (.con (.int .i64 281474976710656)), none⟩,
    ⟨(some 7), .mov (.tmp 28), none⟩])
  .skip))
  (.seq (.ops [⟨(some 29), .mov (.tmp 7), none⟩,
    ⟨(some 6), .mov (.tmp 29), none⟩])
  .ret)))))
def a65 : AFunc := ⟨3, c65, [.tmp 6]⟩

/- 69: (*tendril/arena.Arena).Load -/
def c69 : ACode := (.seq (.ops [⟨(some 4), .mov (.con .nilSlice), none⟩,
    ⟨(some 5), .mov (.con (.int .i64 0)), none⟩])
  (.seq (.ops [⟨(some 9), .mov (.tmp 0), none⟩,
    ⟨(some 10), .mov (.tmp 1), none⟩,
    ⟨(some 11), .call 95 [(.tmp 9), (.tmp 10)], none⟩,
    ⟨(some 8), .mov (.tmp 11), none⟩,
    ⟨(some 12), .extract (.tmp 8) 0, none⟩,
    ⟨(some 13), .extract (.tmp 8) 1, none⟩,
    ⟨(some 6), .mov (.tmp 12), none⟩,
    ⟨(some 7), .mov (.tmp 13), none⟩])
  (.seq (.seq (.ops [⟨(some 14), .mov (.tmp 7), none⟩,
    ⟨(some 15), .bin .neq (.tmp 14) (.con (.int .i64 0)), none⟩])
  (.cond (.tmp 15)
  (.seq (.ops [⟨(some 16), .mov (.tmp 7), none⟩,
    ⟨(some 4), .mov (.con .nilSlice), none⟩,
    ⟨(some 5), .mov (.tmp 16), none⟩])
  .ret)
  .skip))
  (.seq (.ops [⟨(some 17), .mov (.tmp 6), none⟩,
    ⟨(some 18), .nilChk (.tmp 17), none⟩,
    ⟨(some 19), .fieldAddr 3 (.tmp 18), none⟩,
    ⟨(some 20), .load false 1 (.tmp 19), none⟩,
    ⟨(some 21), .call 96 [(.tmp 20)], none⟩,
    ⟨(some 4), .mov (.tmp 21), none⟩,
    ⟨(some 5), .mov (.con (.int .i64 0)), none⟩])
  .ret))))
def a69 : AFunc := ⟨2, c69, [.tmp 4, .tmp 5]⟩

/- 70: (*tendril/arena.Arena).Swap -/
def c70 : ACode := (.seq (.ops [⟨(some 8), .mov (.con (.bool false)), none⟩,
    ⟨(some 9), .mov (.con (.int .i64 0)), none⟩])
  (.seq (.ops [⟨(some 13), .mov (.tmp 0), none⟩,
    ⟨(some 14), .mov (.tmp 1), none⟩,
    ⟨(some 15), .call 95 [(.tmp 13), (.tmp 14)], none⟩,
    ⟨(some 12), .mov (.tmp 15), none⟩,
    ⟨(some 16), .extract (.tmp 12) 0, none⟩,
    ⟨(some 17), .extract (.tmp 12) 1, none⟩,
    ⟨(some 10), .mov (.tmp 16), none⟩,
    ⟨(some 11), .mov (.tmp 17), none⟩])
  (.seq (.seq (.ops [⟨(some 18), .mov (.tmp 11), none⟩,
    ⟨(some 19), .bin .neq (.tmp 18) (.con (.int .i64 0)), none⟩])
  (.cond (.tmp 19)
  (.seq (.ops [⟨(some 20), .mov (.tmp 11), none⟩,
    ⟨(some 8), .mov (.con (.bool false)), none⟩,
    ⟨(some 9), .mov (.tmp 20), none⟩])
  .ret)
  .skip))
  (.seq (.seq (.ops [⟨(some 21), .mov (.tmp 3), none⟩,
    ⟨(some 22), .lenSlice (.tmp 21), none⟩,
    ⟨(some 23), .mov (.tmp 10), none⟩,
    ⟨(some 24), .nilChk (.tmp 23), none⟩,
    ⟨(some 25), .fieldAddr 3 (.tmp 24), none⟩,
    ⟨(some 26), .load false 1 (.tmp 25), none⟩,
    ⟨(some 27), .lenSlice (.tmp 26), none⟩,
    ⟨(some 28), .bin .gtr (.tmp 22) (.tmp 27), none⟩])
  (.cond (.tmp 28)
  (.seq (.ops [⟨(some 8), .mov (.con (.bool false)), none⟩,
    ⟨(some 9), .mov (.con (.int .i64 1)), none⟩])
  .ret)
  .skip))
  (.seq (.seq (.ops [⟨(some 29), .mov (.tmp 10), none⟩,
    ⟨(some 30), .nilChk (.tmp 29), none⟩,
    ⟨(some 31), .fieldAddr 3 (.tmp 30), none⟩,
    ⟨(some 32), .load false 1 (.tmp 31), none⟩,
    ⟨(some 33), .idxAddr 1 (.tmp 32) (.con (.int .i64 0)), none⟩,
    ⟨(some 34), .load false 1 (.tmp 33), none⟩,
    ⟨(some 35), .mov (.tmp 2), none⟩,
    ⟨(some 36), .bin .neq (.tmp 34) (.tmp 35), none⟩])
  (.cond (.tmp 36)
  (.seq (.ops [⟨(some 8), .mov (.con (.bool false)), none⟩,
    ⟨(some 9), .mov (.con (.int .i64 0)), none⟩])
  .ret)
  .skip))
  (.seq (.ops [⟨(some 37), .mov (.tmp 10), none⟩,
    ⟨(some 38), .mov (.tmp 3), none⟩,
    ⟨(some 39), .call 64 [(.tmp 37), (.tmp 38)], none⟩])
  (.seq (.ops [⟨(some 8), .mov (.con (.bool true)), none⟩,
    ⟨(some 9), .mov (.con (.int .i64 0)), none⟩])
  .ret)))))))
def a70 : AFunc := ⟨4, c70, [.tmp 8, .tmp 9]⟩

/- 71: (*tendril/arena.Arena).Store -/
def c71 : ACode := (.seq (.ops [⟨(some 6), .mov (.con (.int .i64 0)), none⟩])
  (.seq (.ops [⟨(some 10), .mov (.tmp 0), none⟩,
    ⟨(some 11), .mov (.tmp 1), none⟩,
    ⟨(some 12), .call 95 [(.tmp 10), (.tmp 11)], none⟩,
    ⟨(some 9), .mov (.tmp 12), none⟩,
    ⟨(some 13), .extract (.tmp 9) 0, none⟩,
    ⟨(some 14), .extract (.tmp 9) 1, none⟩,
    ⟨(some 7), .mov (.tmp 13), none⟩,
    ⟨(some 8), .mov (.tmp 14), none⟩])
  (.seq (.seq (.ops [⟨(some 15), .mov (.tmp 8), none⟩,
    ⟨(some 16), .bin .neq (.tmp 15) (.con (.int .i64 0)), none⟩])
  (.cond (.tmp 16)
  (.seq (.ops [⟨(some 17), .mov (.tmp 8), none⟩,
    ⟨(some 6), .mov (.tmp 17), none⟩])
  .ret)
  .skip))
  (.seq (.seq (.ops [⟨(some 18), .mov (.tmp 2), none⟩,
    ⟨(some 19), .lenSlice (.tmp 18), none⟩,
    ⟨(some 20), .mov (.tmp 7), none⟩,
    ⟨(some 21), .nilChk (.tmp 20), none⟩,
    ⟨(some 22), .fieldAddr 3 (.tmp 21), none⟩,
    ⟨(some 23), .load false 1 (.tmp 22), none⟩,
    ⟨(some 24), .lenSlice (.tmp 23), none⟩,
    ⟨(some 25), .bin .gtr (.tmp 19) (.tmp 24), none⟩])
  (.cond (.tmp 25)
  (.seq (.ops [⟨(some 6), .mov (.con (.int .i64 1)), none⟩])
  .ret)
  .skip))
  (.seq (.ops [⟨(some 26), .mov (.tmp 7), none⟩,
    ⟨(some 27), .mov (.tmp 2), none⟩,
    ⟨(some 28), .call 64 [(.tmp 26), (.tmp 27)], none⟩])
  (.seq (.ops [⟨(some 6), .mov (.con (.int .i64 0)), none⟩])
  .ret))))))
def a71 : AFunc := ⟨3, c71, [.tmp 6]⟩

/- 72: (*tendril/arena.Arena).Free -/
def c72 : ACode := (.seq (.ops [⟨(some 4), .mov (.con (.int .i64 0)), none⟩])
  (.seq (.ops [⟨(some 12), .mov (.tmp 0), none⟩,
    ⟨(some 13), .mov (.tmp 1), none⟩,
    ⟨(some 14), .call 95 [(.tmp 12), (.tmp 13)], none⟩,
    ⟨(some 11), .mov (.tmp 14), none⟩,
    ⟨(some 15), .extract (.tmp 11) 0, none⟩,
    ⟨(some 16), .extract (.tmp 11) 1, none⟩,
    ⟨(some 5), .mov (.tmp 15), none⟩,
    ⟨(some 6), .mov (.tmp 16), none⟩])
  (.seq (.seq (.ops [⟨(some 17), .mov (.tmp 6), none⟩,
    ⟨(some 18), .bin .neq (.tmp 17) (.con (.int .i64 0)), none⟩])
  (.cond (.tmp 18)
  (.seq (.ops [⟨(some 19), .mov (.tmp 6), none⟩,
    ⟨(some 4), .mov (.tmp 19), none⟩])
  .ret)
  .skip))
  (.seq (.ops [⟨(some 20), .mov (.tmp 5), none⟩,
    ⟨(some 21), .mov (.tmp 5), none⟩,
    ⟨(some 22), .nilChk (.tmp 21), none⟩,
    ⟨(some 23), .fieldAddr 0 (.tmp 22), none⟩,
    ⟨(some 24), .load false 1 (.tmp 23), none⟩,
    ⟨(some 25), .call 61 [(.tmp 24)], none⟩,
    ⟨(some 26), .nilChk (.tmp 20), none⟩,
    ⟨(some 27), .fieldAddr 3 (.tmp 26), none⟩,
    ⟨none, .store 1 (.tmp 27) (.tmp 25), none⟩])
  (.seq (.ops [⟨(some 28), .mov (.tmp 5), none⟩,
    ⟨(some 29), .nilChk (.tmp 28), none⟩,
    ⟨(some 30), .fieldAddr 1 (.tmp 29), none⟩,
    ⟨(some 31), .load false 1 (.tmp 30), none⟩,
    ⟨(some 32), .bin .add (.tmp 31) (.con (.int .i64 1)), none⟩,
    ⟨(some 33), .nilChk (.tmp 28), none⟩,
    ⟨(some 34), .fieldAddr 1 (.tmp 33), none⟩,
    ⟨none, .store 1 (.tmp 34) (.tmp 32), none⟩])
  (.seq (.ops [⟨(some 35), .mov (.tmp 5), none⟩,
    ⟨(some 36), .nilChk (.tmp 35), none⟩,
    ⟨(some 37), .fieldAddr 2 (.tmp 36), none⟩,
    ⟨none, .store 1 (.tmp 37) (.con (.bool false)), none⟩])
  (.seq (.seq (.ops [⟨(some 39), .mov (.tmp 1), none⟩,
    ⟨(some 40), .call 74 [(.tmp 39)], none⟩,
    ⟨(some 38), .mov (.tmp 40), none⟩,
    ⟨(some 41), .extract (.tmp 38) 0, none⟩,
    ⟨(some 42), .extract (.tmp 38) 1, none⟩,
    ⟨(some 43), .extract (.tmp 38) 2, none⟩,
    ⟨(some 44), .extract (.tmp 38) 3, none⟩,
    ⟨(some 7), .mov (.tmp 41), none⟩,
    ⟨(some 8), .mov (.tmp 42), none⟩,
    ⟨(some 9), .mov (.tmp 43), none⟩,
    ⟨(some 10), .mov (.tmp 44), none⟩])
  (.seq (.ops [⟨(some 45), .mov (.tmp 5), none⟩,
    ⟨(some 46), .nilChk (.tmp 45), none⟩,
    ⟨(some 47), .fieldAddr 1 (.tmp 46), none⟩,
    ⟨(some 48), .load false 1 (.tmp 47), none⟩,
    ⟨(some 49), .bin .leq (.tmp 48) (.con (.int .i64 1073741824)), none⟩])
  (.cond (.tmp 49)
  (.ops [⟨(some 50), .mov (.tmp 0), none⟩,
    ⟨(some 51), .mov (.tmp 5), none⟩,
    ⟨(some 52), .nilChk (.tmp 51), none⟩,
    ⟨(some 53), .fieldAddr 0 (.tmp 52), none⟩,
    ⟨(some 54), .load false 1 (.tmp 53), none⟩,
    ⟨(some 55), .nilChk (.tmp 50), none⟩,
    ⟨(some 56), .fieldAddr 1 (.tmp 55), none⟩,
    ⟨(some 57), .idxAddrArr 5 1 (.tmp 56) (.tmp 54), none⟩,
    ⟨(some 58), .load false 1 (.tmp 57), none⟩,
    ⟨(some 59), .mov (.tmp 7), none⟩,
    ⟨(some 60), .call 60 [(.tmp 58), (.tmp 59)], none⟩])
  .skip)))
  (.seq (.ops [⟨(some 4), .mov (.con (.int .i64 0)), none⟩])
  .ret))))))))
def a72 : AFunc := ⟨2, c72, [.tmp 4]⟩

/- 73: (*tendril/epoch.Epochs).of -/
def c73 : ACode := (.seq (.ops [⟨(some 4), .mov (.con .nilPtr), none⟩])
  (.seq (.seq (.ops [⟨(some 5), .mov (.tmp 1), none⟩,
    ⟨(some 6), .bin .lss (.tmp 5) (.con (.int .i64 0)), none⟩,
    ⟨(some 7), .mov (.tmp 6), none⟩,
    ⟨(some 8), .mov (.tmp 1), (some (7, false))⟩,
    ⟨(some 9), .mov (.tmp 0), (some (7, false))⟩,
    ⟨(some 10), .nilChk (.tmp 9), (some (7, false))⟩,
    ⟨(some 11), .fieldAddr 2 (.tmp 10), (some (7, false))⟩,
    ⟨(some 12), .load false 1 (.tmp 11), (some (7, false))⟩,
    ⟨(some 13), .lenSlice (.tmp 12), (some (7, false))⟩,
    ⟨(some 14), .bin .geq (.tmp 8) (.tmp 13), (some (7, false))⟩,
    ⟨(some 15), .pick (.tmp 7) (.con (.bool true)) (.tmp 14), none⟩])
  (.cond (.tmp 15)
  (.seq (.ops [⟨(some 4), .mov (.con .nilPtr), none⟩])
  .ret)
  .skip))
  (.seq (.ops [⟨(some 16), .mov (.tmp 0), none⟩,
    ⟨(some 17), .nilChk (.tmp 16), none⟩,
    ⟨(some 18), .fieldAddr 2 (.tmp 17), none⟩,
    ⟨(some 19), .load false 1 (.tmp 18), none⟩,
    ⟨(some 20), .mov (.tmp 1), none⟩,
    ⟨(some 21), .idxAddr 2 (.tmp 19) (.tmp 20), none⟩,
    ⟨(some 4), .mov (.tmp 21), none⟩])
  .ret)))
def a73 : AFunc := ⟨2, c73, [.tmp 4]⟩

/- 74: tendril/word.Parts -/
def c74 : ACode := (.seq (.ops [⟨(some 2), .mov (.con (.int .i64 0)), none⟩,
    ⟨(some 3), .mov (.con (.int .i64 0)), none⟩,
    ⟨(some 4), .mov (.con (.bool false)), none⟩,
    ⟨(some 5), .mov (.con (.bool false)), none⟩])
  (.seq (.ops [⟨(some 6), .mov (.tmp 0), none⟩,
    ⟨(some 7), .bin .and (.tmp 6) (.con (.int .i64 65535)), none⟩,
    ⟨(some 8), .mov (.tmp 0), none⟩,
    ⟨(some 9), .bin .shr (.tmp 8) (.con (.int .u64 16)), none⟩,
    ⟨(some 10), .bin .and (.tmp 9) (.con (.int .i64 4294967295)), none⟩,
    ⟨(some 11), .mov (.tmp 0), none⟩,
    ⟨(some 12), .bin .and (.tmp 11) (.con (.int .i64 281474976710656)), none⟩,
    ⟨(some 13), .bin .neq (.tmp 12) (.con (.int .i64 0)), none⟩,
    ⟨(some 2), .mov (.tmp 7), none⟩,
    ⟨(some 3), .mov (.tmp 10), none⟩,
    ⟨(some 4), .mov (.tmp 13), none⟩])
  (.seq (.seq (.ops [⟨(some 14), .mov (.tmp 0), none⟩,
    ⟨(some 15), .bin .eql (.tmp 14) (.con (.int .i64 0)), none⟩,
    ⟨(some 16), .mov (.tmp 15), none⟩,
    ⟨(some 17), .mov (.tmp 2), (some (16, false))⟩,
    ⟨(some 18), .mov (.tmp 3), (some (16, false))⟩,
    ⟨(some 19), .mov (.tmp 4), (some (16, false))⟩,
    ⟨(some 20), .call 65 [(.tmp 17), (.tmp 18), (.tmp 19)], (some (16, false))⟩,
    ⟨(some 21), .mov (.tmp 0), (some (16, false))⟩,
    ⟨(some 22), .bin .neq (.tmp 20) (.tmp 21), (some (16, false))⟩,
    ⟨(some 23), .pick (.tmp 16) (.con (.bool true)) (.tmp 22), none⟩])
  (.cond (.tmp 23)
  (.seq (.ops [⟨(some 2), .mov (.con (.int .i64 0)), none⟩,
    ⟨(some 3), .mov (.con (.int .i64 0)), none⟩,
    ⟨(some 4), .mov (.con (.bool false)), none⟩,
    ⟨(some 5), .mov (.con (.bool false)), none⟩])
  .ret)
  .skip))
  (.seq (.ops [⟨(some 24), .mov (.tmp 2), none⟩,
    ⟨(some 25), .mov (.tmp 3), none⟩,
    ⟨(some 26), .mov (.tmp 4), none⟩,
    ⟨(some 2), .mov (.tmp 24), none⟩,
    ⟨(some 3), .mov (.tmp 25), none⟩,
    ⟨(some 4), .mov (.tmp 26), none⟩,
    ⟨(some 5), .mov (.con (.bool true)), none⟩])
  .ret))))
def a74 : AFunc := ⟨1, c74, [.tmp 2, .tmp 3, .tmp 4, .tmp 5]⟩

/- 75: (*tendril/epoch.Epochs).Collect -/
def c75 : ACode := (.seq (.ops [⟨(some 4), .mov (.con (.int .i64 0)), none⟩,
    ⟨(some 5), .mov (.con (.bool false)), none⟩])
  (.seq (.ops [⟨(some 8), .mov (.tmp 0), none⟩,
    ⟨(some 9), .mov (.tmp 1), none⟩,
    ⟨(some 10), .call 73 [(.tmp 8), (.tmp 9)], none⟩,
    ⟨(some 6), .mov (.tmp 10), none⟩])
  (.seq (.seq (.ops [⟨(some 11), .mov (.tmp 6), none⟩,
    ⟨(some 12), .eqNil 0 false (.tmp 11) (.con .nilPtr), none⟩,
    ⟨(some 13), .mov (.tmp 12), none⟩,
    ⟨(some 14), .mov (.tmp 6), (some (13, false))⟩,
    ⟨(some 15), .nilChk (.tmp 14), (some (13, false))⟩,
    ⟨(some 16), .fieldAddr 1 (.tmp 15), (some (13, false))⟩,
    ⟨(some 17), .load false 1 (.tmp 16), (some (13, false))⟩,
    ⟨(some 18), .lenSlice (.tmp 17), (some (13, false))⟩,
    ⟨(some 19), .bin .eql (.tmp 18) (.con (.int .i64 0)), (some (13, false))⟩,
    ⟨(some 20), .pick (.tmp 13) (.con (.bool true)) (.tmp 19), none⟩,
    ⟨(some 21), .mov (.tmp 20), none⟩,
    ⟨(some 22), .mov (.tmp 0), (some (21, false))⟩,
    ⟨(some 23), .nilChk (.tmp 22), (some (21, false))⟩,
    ⟨(some 24), .fieldAddr 0 (.tmp 23), (some (21, false))⟩,
    ⟨(some 25), .load false 1 (.tmp 24), (some (21, false))⟩,
    ⟨(some 26), .mov (.tmp 6), (some (21, false))⟩,
    ⟨(some 27), .nilChk (.tmp 26), (some (21, false))⟩,
    ⟨(some 28), .fieldAddr 1 (.tmp 27), (some (21, false))⟩,
    ⟨(some 29), .load false 1 (.tmp 28), (some (21, false))⟩,
    ⟨(some 30), .idxAddr 2 (.tmp 29) (.con (.int .i64 0)), (some (21, false))⟩,
    ⟨(some 31), .fieldAddr 1 (.tmp 30), (some (21, false))⟩,
    ⟨(some 32), .load false 1 (.tmp 31), (some (21, false))⟩,
    ⟨(some 33), .bin .sub (.tmp 25) (.tmp 32), (some (21, false))⟩,
    ⟨(some 34), .bin .lss (.tmp 33) (.con (.int .i64 2)), (some (21, false))⟩,
    ⟨(some 35), .pick (.tmp 21) (.con (.bool true)) (.tmp 34), none⟩])
  (.cond (.tmp 35)
  (.seq (.ops [⟨(some 4), .mov (.con (.int .i64 0)), none⟩,
    ⟨(some 5), .mov (.con (.bool false)), none⟩])
  .ret)
  .skip))
  (.seq (.ops [⟨(some 36), .mov (.tmp 6), none⟩,
    ⟨(some 37), .nilChk (.tmp 36), none⟩,
    ⟨(some 38), .fieldAddr 1 (.tmp 37), none⟩,
    ⟨(some 39), .load false 1 (.tmp 38), none⟩,
    ⟨(some 40), .idxAddr 2 (.tmp 39) (.con (.int .i64 0)), none⟩,
    ⟨(some 41), .fieldAddr 0 (.tmp 40), none⟩,
    ⟨(some 42), .load false 1 (.tmp 41), none⟩,
    ⟨(some 7), .mov (.tmp 42), none⟩])
  (.seq (.ops [⟨(some 43), .mov (.tmp 6), none⟩,
    ⟨(some 44), .mov (.tmp 6), none⟩,
    ⟨(some 45), .nilChk (.tmp 44), none⟩,
    ⟨(some 46), .fieldAddr 1 (.tmp 45), none⟩,
    ⟨(some 47), .load false 1 (.tmp 46), none⟩,
    ⟨(some 48), .slc 2 (.tmp 47) (some (.con (.int .i64 1))) none none, none⟩,
    ⟨(some 49), .call 97 [(.tmp 48)], none⟩,
    ⟨(some 50), .nilChk (.tmp 43), none⟩,
    ⟨(some 51), .fieldAddr 1 (.tmp 50), none⟩,
    ⟨none, .store 1 (.tmp 51) (.tmp 49), none⟩])
  (.seq (.ops [⟨(some 52), .mov (.tmp 7), none⟩,
    ⟨(some 4), .mov (.tmp 52), none⟩,
    ⟨(some 5), .mov (.con (.bool true)), none⟩])
  .ret))))))
def a75 : AFunc := ⟨2, c75, [.tmp 4, .tmp 5]⟩

/- 76: tendril/tendrilref1.High -/
def c76 : ACode := (.seq (.ops [⟨(some 2), .mov (.con (.int .i64 0)), none⟩])
  (.seq (.seq (.ops [⟨(some 3), .mov (.tmp 0), none⟩])
  (.block 0 (.seq (.ops [⟨(some 5), .bin .eql (.tmp 3) (.con (.int .i64 1)), none⟩,
    ⟨(some 4), .mov (.tmp 5), none⟩])
  (.cond (.tmp 4)
  (.seq (.ops [⟨(some 2), .mov (.con (.int .i64 4)), none⟩])
  .ret)
  (.seq (.ops [⟨(some 7), .bin .eql (.tmp 3) (.con (.int .i64 2)), none⟩,
    ⟨(some 6), .mov (.tmp 7), none⟩])
  (.cond (.tmp 6)
  (.seq (.ops [⟨(some 2), .mov (.con (.int .i64 16)), none⟩])
  .ret)
  (.seq (.ops [⟨(some 9), .bin .eql (.tmp 3) (.con (.int .i64 3)), none⟩,
    ⟨(some 8), .mov (.tmp 9), none⟩])
  (.cond (.tmp 8)
  (.seq (.ops [⟨(some 2), .mov (.con (.int .i64 48)), none⟩])
  .ret)
  (.seq (.ops [⟨(some 11), .bin .eql (.tmp 3) (.con (.int .i64 4)), none⟩,
    ⟨(some 10), .mov (.tmp 11), none⟩])
  (.cond (.tmp 10)
  (.seq (.ops [⟨(some 2), .mov (.con (.int .i64 256)), none⟩])
  .ret)
  .skip))))))))))
  (.seq (.ops [⟨(some 2), .mov (.con (.int .i64 0)), none⟩])
  .ret)))
def a76 : AFunc := ⟨1, c76, [.tmp 2]⟩

/- 77: tendril/tendrilref1.Right -/
def c77l0 : ACode := (.seq (.ops [⟨(some 50), .bin .lss (.tmp 49) (.tmp 48), none⟩])
  (.seq (.cond (.tmp 50)
  .skip
  (.exit 0))
  (.seq (.block 1 (.seq (.ops [⟨(some 51), .mov (.tmp 49), none⟩,
    ⟨(some 3), .mov (.tmp 51), none⟩])
  (.seq (.ops [⟨(some 53), .fieldAddr 4 (.tmp 1), none⟩,
    ⟨(some 54), .load false 1 (.tmp 53), none⟩,
    ⟨(some 55), .mov (.tmp 3), none⟩,
    ⟨(some 56), .idxAddr 1 (.tmp 54) (.tmp 55), none⟩,
    ⟨(some 57), .load false 1 (.tmp 56), none⟩,
    ⟨(some 58), .call 85 [(.tmp 57)], none⟩,
    ⟨(some 52), .mov (.tmp 58), none⟩,
    ⟨(some 59), .extract (.tmp 52) 0, none⟩,
    ⟨(some 60), .extract (.tmp 52) 1, none⟩,
    ⟨(some 61), .extract (.tmp 52) 2, none⟩,
    ⟨(some 62), .extract (.tmp 52) 3, none⟩,
    ⟨(some 4), .mov (.tmp 59), none⟩,
    ⟨(some 5), .mov (.tmp 60), none⟩,
    ⟨(some 6), .mov (.tmp 61), none⟩,
    ⟨(some 7), .mov (.tmp 62), none⟩])
  (.seq (.ops [⟨(some 63), .mov (.tmp 7), none⟩,
    ⟨(some 64), .un .not (.tmp 63), none⟩,
    ⟨(some 65), .mov (.tmp 64), none⟩,
    ⟨(some 66), .mov (.tmp 3), (some (65, false))⟩,
    ⟨(some 67), .bin .gtr (.tmp 66) (.con (.int .i64 0)), (some (65, false))⟩,
    ⟨(some 68), .mov (.tmp 67), (some (65, false))⟩,
    ⟨(some 69), .fieldAddr 3 (.tmp 1), (some (68, true))⟩,
    ⟨(some 70), .load false 1 (.tmp 69), (some (68, true))⟩,
    ⟨(some 71), .mov (.tmp 3), (some (68, true))⟩,
    ⟨(some 72), .idxAddr 1 (.tmp 70) (.tmp 71), (some (68, true))⟩,
    ⟨(some 73), .load false 1 (.tmp 72), (some (68, true))⟩,
    ⟨(some 74), .fieldAddr 3 (.tmp 1), (some (68, true))⟩,
    ⟨(some 75), .load false 1 (.tmp 74), (some (68, true))⟩,
    ⟨(some 76), .mov (.tmp 3), (some (68, true))⟩,
    ⟨(some 77), .bin .sub (.tmp 76) (.con (.int .i64 1)), (some (68, true))⟩,
    ⟨(some 78), .idxAddr 1 (.tmp 75) (.tmp 77), (some (68, true))⟩,
    ⟨(some 79), .load false 1 (.tmp 78), (some (68, true))⟩,
    ⟨(some 80), .bin .leq (.tmp 73) (.tmp 79), (some (68, true))⟩,
    ⟨(some 81), .pick (.tmp 68) (.tmp 80) (.con (.bool false)), (some (65, false))⟩,
    ⟨(some 82), .pick (.tmp 65) (.con (.bool true)) (.tmp 81), none⟩])
  (.cond (.tmp 82)
  (.seq (.ops [⟨(some 2), .mov (.con (.bool false)), none⟩])
  .ret)
  .skip)))))
  (.ops [⟨(some 83), .bin .add (.tmp 49) (.con (.int .i64 1)), none⟩,
    ⟨(some 49), .mov (.tmp 83), none⟩]))))
def c77 : ACode := (.seq (.ops [⟨(some 1), .box (.tmp 0), none⟩,
    ⟨(some 2), .mov (.con (.bool false)), none⟩])
  (.seq (.seq (.draw [.op ⟨(some 8), .fieldAddr 0 (.tmp 1), none⟩,
    .op ⟨(some 9), .load false 1 (.tmp 8), none⟩,
    .op ⟨(some 10), .bin .lss (.tmp 9) (.con (.int .i64 1)), none⟩,
    .op ⟨(some 11), .mov (.tmp 10), none⟩,
    .op ⟨(some 12), .fieldAddr 0 (.tmp 1), (some (11, false))⟩,
    .op ⟨(some 13), .load false 1 (.tmp 12), (some (11, false))⟩,
    .op ⟨(some 14), .bin .gtr (.tmp 13) (.con (.int .i64 4)), (some (11, false))⟩,
    .op ⟨(some 15), .pick (.tmp 11) (.con (.bool true)) (.tmp 14), none⟩,
    .op ⟨(some 16), .mov (.tmp 15), none⟩,
    .op ⟨(some 17), .fieldAddr 1 (.tmp 1), (some (16, false))⟩,
    .op ⟨(some 18), .load false 1 (.tmp 17), (some (16, false))⟩,
    .op ⟨(some 19), .bin .and (.tmp 18) (.con (.int .u64 3)), (some (16, false))⟩,
    .op ⟨(some 20), .bin .eql (.tmp 19) (.con (.int .u64 3)), (some (16, false))⟩,
    .op ⟨(some 21), .pick (.tmp 16) (.con (.bool true)) (.tmp 20), none⟩,
    .op ⟨(some 22), .mov (.tmp 21), none⟩,
    .op ⟨(some 23), .fieldAddr 2 (.tmp 1), (some (22, false))⟩,
    .op ⟨(some 24), .load false 1 (.tmp 23), (some (22, false))⟩,
    .op ⟨(some 25), .lenStr (.tmp 24), (some (22, false))⟩,
    .op ⟨(some 26), .bin .gtr (.tmp 25) (.con (.int .i64 12)), (some (22, false))⟩,
    .op ⟨(some 27), .pick (.tmp 22) (.con (.bool true)) (.tmp 26), none⟩,
    .op ⟨(some 28), .mov (.tmp 27), none⟩,
    .op ⟨(some 29), .fieldAddr 3 (.tmp 1), (some (28, false))⟩,
    .op ⟨(some 30), .load false 1 (.tmp 29), (some (28, false))⟩,
    .op ⟨(some 31), .lenSlice (.tmp 30), (some (28, false))⟩,
    .op ⟨(some 32), .fieldAddr 4 (.tmp 1), (some (28, false))⟩,
    .op ⟨(some 33), .load false 1 (.tmp 32), (some (28, false))⟩,
    .op ⟨(some 34), .lenSlice (.tmp 33), (some (28, false))⟩,
    .op ⟨(some 35), .bin .neq (.tmp 31) (.tmp 34), (some (28, false))⟩,
    .op ⟨(some 36), .pick (.tmp 28) (.con (.bool true)) (.tmp 35), none⟩,
    .op ⟨(some 37), .mov (.tmp 36), none⟩,
    .op ⟨(some 38), .fieldAddr 3 (.tmp 1), (some (37, false))⟩,
    .op ⟨(some 39), .load false 1 (.tmp 38), (some (37, false))⟩,
    .op ⟨(some 40), .lenSlice (.tmp 39), (some (37, false))⟩,
    .op ⟨(some 41), .fieldAddr 0 (.tmp 1), (some (37, false))⟩,
    .op ⟨(some 42), .load false 1 (.tmp 41), (some (37, false))⟩,
    .op ⟨(some 43), .call 76 [(.tmp 42)], (some (37, false))⟩,
    .op ⟨(some 44), .bin .gtr (.tmp 40) (.tmp 43), (some (37, false))⟩,
    .op ⟨(some 45), .pick (.tmp 37) (.con (.bool true)) (.tmp 44), none⟩,
    .look ⟨(some 39), .load false 1 (.tmp 38), (some (37, false))⟩])
  (.cond (.tmp 45)
  (.seq (.ops [⟨(some 2), .mov (.con (.bool false)), none⟩])
  .ret)
  .skip))
  (.seq (.seq (.ops [⟨(some 46), .fieldAddr 3 (.tmp 1), none⟩,
    ⟨(some 47), .load false 1 (.tmp 46), none⟩,
    ⟨(some 48), .lenSlice (.tmp 47), none⟩,
    ⟨(some 49), .mov (.con (.int .i64 0)), none⟩])
  (.block 0 (.loop c77l0)))
  (.seq (.ops [⟨(some 2), .mov (.con (.bool true)), none⟩])
  .ret))))
def a77 : AFunc := ⟨1, c77, [.tmp 2]⟩

/- 78: tendril/tendrilref1.head -/
def c78 : ACode := (.seq (.ops [⟨(some 1), .box (.tmp 0), none⟩,
    ⟨(some 2), .mov (.con .nilSlice), none⟩])
  (.seq (.ops [⟨(some 4), .fieldAddr 0 (.tmp 1), none⟩,
    ⟨(some 5), .load false 1 (.tmp 4), none⟩,
    ⟨(some 6), .call 41 [(.tmp 5)], none⟩,
    ⟨(some 7), .mkSlice 1 8 [(.int .u64 0)] (.tmp 6) (.tmp 6), none⟩,
    ⟨(some 3), .mov (.tmp 7), none⟩])
  (.seq (.ops [⟨(some 8), .mov (.tmp 3), none⟩,
    ⟨(some 9), .fieldAddr 1 (.tmp 1), none⟩,
    ⟨(some 10), .load false 1 (.tmp 9), none⟩,
    ⟨(some 11), .idxAddr 1 (.tmp 8) (.con (.int .i64 0)), none⟩,
    ⟨none, .store 1 (.tmp 11) (.tmp 10), none⟩])
  (.seq (.ops [⟨(some 12), .mov (.tmp 3), none⟩,
    ⟨(some 13), .fieldAddr 0 (.tmp 1), none⟩,
    ⟨(some 14), .load false 1 (.tmp 13), none⟩,
    ⟨(some 15), .toInt .u64 (.tmp 14), none⟩,
    ⟨(some 16), .fieldAddr 2 (.tmp 1), none⟩,
    ⟨(some 17), .load false 1 (.tmp 16), none⟩,
    ⟨(some 18), .lenStr (.tmp 17), none⟩,
    ⟨(some 19), .toInt .u64 (.tmp 18), none⟩,
    ⟨(some 20), .bin .shl (.tmp 19) (.con (.int .u64 8)), none⟩,
    ⟨(some 21), .bin .or (.tmp 15) (.tmp 20), none⟩,
    ⟨(some 22), .fieldAddr 3 (.tmp 1), none⟩,
    ⟨(some 23), .load false 1 (.tmp 22), none⟩,
    ⟨(some 24), .lenSlice (.tmp 23), none⟩,
    ⟨(some 25), .toInt .u64 (.tmp 24), none⟩,
    ⟨(some 26), .bin .shl (.tmp 25) (.con (.int .u64 16)), none⟩,
    ⟨(some 27), .bin .or (.tmp 21) (.tmp 26), none⟩,
    ⟨(some 28), .idxAddr 1 (.tmp 12) (.con (.int .i64 1)), none⟩,
    ⟨none, .store 1 (.tmp 28) (.tmp 27), none⟩])
  (.seq (.ops [⟨(some 29), .mov (.tmp 3), none⟩,
    ⟨(some 30), .slc 1 (.tmp 29) (some (.con (.int .i64 2))) (some (.con (.int .i64 4))) none, none⟩,
    ⟨(some 31), .fieldAddr 2 (.tmp 1), none⟩,
    ⟨(some 32), .load false 1 (.tmp 31), none⟩,
    ⟨(some 33), .call 79 [(.tmp 32)], none⟩,
    ⟨(some 34), .copy 1 (.tmp 30) (.tmp 33), none⟩])
  (.seq (.ops [⟨(some 35), .mov (.tmp 3), none⟩,
    ⟨(some 2), .mov (.tmp 35), none⟩])
  .ret))))))
def a78 : AFunc := ⟨1, c78, [.tmp 2]⟩

/- 79: tendril/tendrilref1.Words -/
def c79l0 : ACode := (.seq (.seq (.ops [⟨(some 10), .mov (.tmp 4), none⟩,
    ⟨(some 11), .mov (.tmp 0), none⟩,
    ⟨(some 12), .lenStr (.tmp 11), none⟩,
    ⟨(some 13), .bin .lss (.tmp 10) (.tmp 12), none⟩])
  (.cond (.tmp 13)
  .skip
  (.exit 0)))
  (.seq (.block 1 (.ops [⟨(some 16), .mov (.tmp 3), none⟩,
    ⟨(some 17), .mov (.tmp 4), none⟩,
    ⟨(some 18), .bin .quo (.tmp 17) (.con (.int .i64 8)), none⟩,
    ⟨(some 19), .mov (.tmp 3), none⟩,
    ⟨(some 20), .mov (.tmp 4), none⟩,
    ⟨(some 21), .bin .quo (.tmp 20) (.con (.int .i64 8)), none⟩,
    ⟨(some 22), .idxAddr 1 (.tmp 19) (.tmp 21), none⟩,
    ⟨(some 23), .load false 1 (.tmp 22), none⟩,
    ⟨(some 24), .mov (.tmp 0), none⟩,
    ⟨(some 25), .mov (.tmp 4), none⟩,
    ⟨(some 26), .idxStr (.tmp 24) (.tmp 25), none⟩,
    ⟨(some 27), .toInt .u64 (.tmp 26), none⟩,
    ⟨(some 28), .mov (.tmp 4), none⟩,
    ⟨(some 29), .bin .rem (.tmp 28) (.con (.int .i64 8)), none⟩,
    ⟨(some 30), .bin .mul (.con (.int .i64 8)) (.tmp 29), none⟩,
    ⟨(some 31), .bin .shl (.tmp 27) (.tmp 30), none⟩,
    ⟨(some 32), .bin .or (.tmp 23) (.tmp 31), none⟩,
    ⟨(some 33), .idxAddr 1 (.tmp 16) (.tmp 18), none⟩,
    ⟨none, .store 1 (.tmp 33) (.tmp 32), none⟩]))
  (.ops [⟨(some 14), .mov (.tmp 4), none⟩,
    ⟨(some 15), .bin .add (.tmp 14) (.con (.int .i64 1)), none⟩,
    ⟨(some 4), .mov (.tmp 15), none⟩])))
def c79 : ACode := (.seq (.ops [⟨(some 2), .mov (.con .nilSlice), none⟩])
  (.seq (.ops [⟨(some 5), .mov (.tmp 0), none⟩,
    ⟨(some 6), .lenStr (.tmp 5), none⟩,
    ⟨(some 7), .bin .add (.tmp 6) (.con (.int .i64 7)), none⟩,
    ⟨(some 8), .bin .quo (.tmp 7) (.con (.int .i64 8)), none⟩,
    ⟨(some 9), .mkSlice 1 8 [(.int .u64 0)] (.tmp 8) (.tmp 8), none⟩,
    ⟨(some 3), .mov (.tmp 9), none⟩])
  (.seq (.seq (.ops [⟨(some 4), .mov (.con (.int .i64 0)), none⟩])
  (.block 0 (.loop c79l0)))
  (.seq (.ops [⟨(some 34), .mov (.tmp 3), none⟩,
    ⟨(some 2), .mov (.tmp 34), none⟩])
  .ret))))
def a79 : AFunc := ⟨1, c79, [.tmp 2]⟩

/- 86: (*tendril/pool.Pool).Len -/
def c86 : ACode := (.seq (.ops [⟨(some 2), .mov (.con (.int .i64 0)), none⟩])
  (.seq (.ops [⟨(some 3), .mov (.tmp 0), none⟩,
    ⟨(some 4), .nilChk (.tmp 3), none⟩,
    ⟨(some 5), .fieldAddr 1 (.tmp 4), none⟩,
    ⟨(some 6), .load false 1 (.tmp 5), none⟩,
    ⟨(some 7), .lenSlice (.tmp 6), none⟩,
    ⟨(some 2), .mov (.tmp 7), none⟩])
  .ret))
def a86 : AFunc := ⟨1, c86, [.tmp 2]⟩

/- 87: (*tendril/pool.Pool).Has -/
def c87 : ACode := (.seq (.ops [⟨(some 4), .mov (.con (.bool false)), none⟩])
  (.seq (.ops [⟨(some 8), .mov (.tmp 0), none⟩,
    ⟨(some 9), .nilChk (.tmp 8), none⟩,
    ⟨(some 10), .fieldAddr 2 (.tmp 9), none⟩,
    ⟨(some 11), .load false 1 (.tmp 10), none⟩,
    ⟨(some 12), .mov (.tmp 1), none⟩,
    ⟨(some 13), .lookup 0 (.agg []) true (.tmp 11) (.tmp 12), none⟩,
    ⟨(some 7), .mov (.tmp 13), none⟩,
    ⟨(some 14), .extract (.tmp 7) 0, none⟩,
    ⟨(some 15), .extract (.tmp 7) 1, none⟩,
    ⟨(some 5), .new [], none⟩,
    ⟨none, .store 0 (.tmp 5) (.tmp 14), none⟩,
    ⟨(some 6), .mov (.tmp 15), none⟩])
  (.seq (.ops [⟨(some 16), .mov (.tmp 6), none⟩,
    ⟨(some 4), .mov (.tmp 16), none⟩])
  .ret)))
def a87 : AFunc := ⟨2, c87, [.tmp 4]⟩

/- 88: container/heap.Push -/
def c88 : ACode := (.seq (.ops [⟨(some 4), .mov (.tmp 0), none⟩,
    ⟨(some 5), .mov (.tmp 1), none⟩,
    ⟨(some 6), .callM [(161, 123, .self)] (.tmp 4) [(.tmp 5)], none⟩])
  (.ops [⟨(some 7), .mov (.tmp 0), none⟩,
    ⟨(some 8), .mov (.tmp 0), none⟩,
    ⟨(some 9), .callM [(17, 116, .self), (117, 86, .self), (156, 119, .self), (161, 119, (.deref false 1))] (.tmp 8) [], none⟩,
    ⟨(some 10), .bin .sub (.tmp 9) (.con (.int .i64 1)), none⟩,
    ⟨(some 11), .call 98 [(.tmp 7), (.tmp 10)], none⟩]))
def a88 : AFunc := ⟨2, c88, []⟩

/- 89: slices.Repeat[[]uint64,uint64] -/
def c89l0 : ACode := (.seq (.seq (.ops [⟨(some 34), .mov (.tmp 8), none⟩,
    ⟨(some 35), .mov (.tmp 7), none⟩,
    ⟨(some 36), .lenSlice (.tmp 35), none⟩,
    ⟨(some 37), .bin .lss (.tmp 34) (.tmp 36), none⟩])
  (.cond (.tmp 37)
  .skip
  (.exit 0)))
  (.block 1 (.ops [⟨(some 38), .mov (.tmp 8), none⟩,
    ⟨(some 39), .mov (.tmp 7), none⟩,
    ⟨(some 40), .mov (.tmp 8), none⟩,
    ⟨(some 41), .slc 1 (.tmp 39) (some (.tmp 40)) none none, none⟩,
    ⟨(some 42), .mov (.tmp 7), none⟩,
    ⟨(some 43), .mov (.tmp 8), none⟩,
    ⟨(some 44), .slc 1 (.tmp 42) none (some (.tmp 43)) none, none⟩,
    ⟨(some 45), .copy 1 (.tmp 41) (.tmp 44), none⟩,
    ⟨(some 46), .bin .add (.tmp 38) (.tmp 45), none⟩,
    ⟨(some 8), .mov (.tmp 46), none⟩])))
def c89 : ACode := (.seq (.ops [⟨(some 4), .mov (.con .nilSlice), none⟩])
  (.seq (.seq (.ops [⟨(some 9), .mov (.tmp 1), none⟩,
    ⟨(some 10), .bin .lss (.tmp 9) (.con (.int .i64 0)), none⟩])
  (.cond (.tmp 10)
  (.ops [⟨(some 11), .mkIface 9 (.con (.str [99, 97, 110, 110, 111, 116, 32, 98, 101, 32, 110, 101, 103, 97, 116, 105, 118, 101])), none⟩,
    ⟨none, .stuck, none⟩])
  .skip))
  (.seq (.ops [⟨(some 13), .mov (.tmp 0), none⟩,
    ⟨(some 14), .lenSlice (.tmp 13), none⟩,
    ⟨(some 15), .toInt .u64 (.tmp 14), none⟩,
    ⟨(some 16), .mov (.tmp 1), none⟩,
    ⟨(some 17), .toInt .u64 (.tmp 16), none⟩,
    ⟨(some 18), .call 99 [(.tmp 15), (.tmp 17)], none⟩,
    ⟨(some 12), .mov (.tmp 18), none⟩,
    ⟨(some 19), .extract (.tmp 12) 0, none⟩,
    ⟨(some 20), .extract (.tmp 12) 1, none⟩,
    ⟨(some 5), .mov (.tmp 19), none⟩,
    ⟨(some 6), .mov (.tmp 20), none⟩])
  (.seq (.seq (.ops [⟨(some 21), .mov (.tmp 5), none⟩,
    ⟨(some 22), .bin .gtr (.tmp 21) (.con (.int .u64 0)), none⟩,
    ⟨(some 23), .mov (.tmp 22), none⟩,
    ⟨(some 24), .mov (.tmp 6), (some (23, false))⟩,
    ⟨(some 25), .bin .gtr (.tmp 24) (.con (.int .u64 9223372036854775807)), (some (23, false))⟩,
    ⟨(some 26), .pick (.tmp 23) (.con (.bool true)) (.tmp 25), none⟩])
  (.cond (.tmp 26)
  (.ops [⟨(some 27), .mkIface 9 (.con (.str [116, 104, 101, 32, 114, 101, 115, 117, 108, 116, 32, 111, 102, 32, 40, 108, 101, 110, 40, 120, 41, 32, 42, 32, 99, 111, 117, 110, 116, 41, 32, 111, 118, 101, 114, 102, 108, 111, 119, 115])), none⟩,
    ⟨none, .stuck, none⟩])
  .skip))
  (.seq (.ops [⟨(some 28), .mov (.tmp 6), none⟩,
    ⟨(some 29), .toInt .i64 (.tmp 28), none⟩,
    ⟨(some 30), .mkSlice 1 8 [(.int .u64 0)] (.tmp 29) (.tmp 29), none⟩,
    ⟨(some 7), .mov (.tmp 30), none⟩])
  (.seq (.ops [⟨(some 31), .mov (.tmp 7), none⟩,
    ⟨(some 32), .mov (.tmp 0), none⟩,
    ⟨(some 33), .copy 1 (.tmp 31) (.tmp 32), none⟩,
    ⟨(some 8), .mov (.tmp 33), none⟩])
  (.seq (.block 0 (.loop c89l0))
  (.seq (.ops [⟨(some 47), .mov (.tmp 7), none⟩,
    ⟨(some 4), .mov (.tmp 47), none⟩])
  .ret))))))))
def a89 : AFunc := ⟨2, c89, [.tmp 4]⟩

/- 91: tendril/node.High -/
def c91 : ACode := (.seq (.ops [⟨(some 2), .mov (.con (.int .i64 0)), none⟩])
  (.seq (.seq (.ops [⟨(some 3), .mov (.tmp 0), none⟩])
  (.block 0 (.seq (.ops [⟨(some 5), .bin .eql (.tmp 3) (.con (.int .i64 1)), none⟩,
    ⟨(some 4), .mov (.tmp 5), none⟩])
  (.cond (.tmp 4)
  (.seq (.ops [⟨(some 2), .mov (.con (.int .i64 4)), none⟩])
  .ret)
  (.seq (.ops [⟨(some 7), .bin .eql (.tmp 3) (.con (.int .i64 2)), none⟩,
    ⟨(some 6), .mov (.tmp 7), none⟩])
  (.cond (.tmp 6)
  (.seq (.ops [⟨(some 2), .mov (.con (.int .i64 16)), none⟩])
  .ret)
  (.seq (.ops [⟨(some 9), .bin .eql (.tmp 3) (.con (.int .i64 3)), none⟩,
    ⟨(some 8), .mov (.tmp 9), none⟩])
  (.cond (.tmp 8)
  (.seq (.ops [⟨(some 2), .mov (.con (.int .i64 48)), none⟩])
  .ret)
  (.seq (.ops [⟨(some 11), .bin .eql (.tmp 3) (.con (.int .i64 4)), none⟩,
    ⟨(some 10), .mov (.tmp 11), none⟩])
  (.cond (.tmp 10)
  (.seq (.ops [⟨(some 2), .mov (.con (.int .i64 256)), none⟩])
  .ret)
  .skip))))))))))
  (.seq (.ops [⟨(some 2), .mov (.con (.int .i64 0)), none⟩])
  .ret)))
def a91 : AFunc := ⟨1, c91, [.tmp 2]⟩

/- 92: tendril/word.Dead -/
def c92 : ACode := (.seq (.ops [⟨(some 2), .mov (.con (.bool false)), none⟩])
  (.seq (.ops [⟨(some 3), .mov (.tmp 0), none⟩,
    ⟨(some 4), .bin .and (.tmp 3) (.con (.int .u64 2)), none⟩,
    ⟨(some 5), .bin .neq (.tmp 4) (.con (.int .u64 0)), none⟩,
    ⟨(some 2), .mov (.tmp 5), none⟩])
  .ret))
def a92 : AFunc := ⟨1, c92, [.tmp 2]⟩

/- 93: tendril/node.isRef -/
def c93 : ACode := (.seq (.ops [⟨(some 2), .mov (.con (.bool false)), none⟩])
  (.seq (.ops [⟨(some 8), .mov (.tmp 0), none⟩,
    ⟨(some 9), .call 74 [(.tmp 8)], none⟩,
    ⟨(some 7), .mov (.tmp 9), none⟩,
    ⟨(some 10), .extract (.tmp 7) 0, none⟩,
    ⟨(some 11), .extract (.tmp 7) 1, none⟩,
    ⟨(some 12), .extract (.tmp 7) 2, none⟩,
    ⟨(some 13), .extract (.tmp 7) 3, none⟩,
    ⟨(some 3), .mov (.tmp 10), none⟩,
    ⟨(some 4), .mov (.tmp 11), none⟩,
    ⟨(some 5), .mov (.tmp 12), none⟩,
    ⟨(some 6), .mov (.tmp 13), none⟩])
  (.seq (.ops [⟨(some 14), .mov (.tmp 6), none⟩,
    ⟨(some 2), .mov (.tmp 14), none⟩])
  .ret)))
def a93 : AFunc := ⟨1, c93, [.tmp 2]⟩

/- 94: tendril/pack.Count -/
def c94 : ACode := (.seq (.ops [⟨(some 2), .mov (.con (.int .i64 0)), none⟩])
  (.seq (.seq (.ops [⟨(some 3), .mov (.tmp 0), none⟩,
    ⟨(some 4), .bin .leq (.tmp 3) (.con (.int .i64 0)), none⟩])
  (.cond (.tmp 4)
  (.seq (.ops [⟨(some 2), .mov (.con (.int .i64 0)), none⟩])
  .ret)
  .skip))
  (.seq (.ops [⟨(some 5), .mov (.tmp 0), none⟩,
    ⟨(some 6), .bin .sub (.tmp 5) (.con (.int .i64 1)), none⟩,
    ⟨(some 7), .bin .quo (.tmp 6) (.con (.int .i64 8)), none⟩,
    ⟨(some 8), .bin .add (.tmp 7) (.con (.int .i64 1)), none⟩,
    ⟨(some 2), .mov (.tmp 8), none⟩])
  .ret)))
def a94 : AFunc := ⟨1, c94, [.tmp 2]⟩

/- 90: container/heap.Pop -/
def c90 : ACode := (.seq (.ops [⟨(some 2), .mov (.con .nilIface), none⟩])
  (.seq (.ops [⟨(some 4), .mov (.tmp 0), none⟩,
    ⟨(some 5), .callM [(17, 116, .self), (117, 86, .self), (156, 119, .self), (161, 119, (.deref false 1))] (.tmp 4) [], none⟩,
    ⟨(some 6), .bin .sub (.tmp 5) (.con (.int .i64 1)), none⟩,
    ⟨(some 3), .mov (.tmp 6), none⟩])
  (.seq (.ops [⟨(some 7), .mov (.tmp 0), none⟩,
    ⟨(some 8), .mov (.tmp 3), none⟩,
    ⟨(some 9), .callM [(57, 50, .self), (82, 70, .self), (156, 121, .self), (161, 121, (.deref false 1))] (.tmp 7) [(.con (.int .i64 0)), (.tmp 8)], none⟩])
  (.seq (.ops [⟨(some 10), .mov (.tmp 0), none⟩,
    ⟨(some 11), .mov (.tmp 3), none⟩,
    ⟨(some 12), .call 100 [(.tmp 10), (.con (.int .i64 0)), (.tmp 11)], none⟩])
  (.seq (.ops [⟨(some 13), .mov (.tmp 0), none⟩,
    ⟨(some 14), .callM [(161, 122, .self)] (.tmp 13) [], none⟩,
    ⟨(some 2), .mov (.tmp 14), none⟩])
  .ret)))))
def a90 : AFunc := ⟨1, c90, [.tmp 2]⟩

/- 95: (*tendril/arena.Arena).of -/
def c95 : ACode := (.seq (.ops [⟨(some 4), .mov (.con .nilPtr), none⟩,
    ⟨(some 5), .mov (.con (.int .i64 0)), none⟩])
  (.seq (.ops [⟨(some 12), .mov (.tmp 1), none⟩,
    ⟨(some 13), .call 74 [(.tmp 12)], none⟩,
    ⟨(some 11), .mov (.tmp 13), none⟩,
    ⟨(some 14), .extract (.tmp 11) 0, none⟩,
    ⟨(some 15), .extract (.tmp 11) 1, none⟩,
    ⟨(some 16), .extract (.tmp 11) 2, none⟩,
    ⟨(some 17), .extract (.tmp 11) 3, none⟩,
    ⟨(some 6), .mov (.tmp 14), none⟩,
    ⟨(some 7), .mov (.tmp 15), none⟩,
    ⟨(some 8), .mov (.tmp 16), none⟩,
    ⟨(some 9), .mov (.tmp 17), none⟩])
  (.seq (.seq (.ops [⟨(some 18), .mov (.tmp 9), none⟩,
    ⟨(some 19), .un .not (.tmp 18), none⟩,
    ⟨(some 20), .mov (.tmp 19), none⟩,
    ⟨(some 21), .mov (.tmp 6), (some (20, false))⟩,
    ⟨(some 22), .mov (.tmp 0), (some (20, false))⟩,
    ⟨(some 23), .nilChk (.tmp 22), (some (20, false))⟩,
    ⟨(some 24), .fieldAddr 0 (.tmp 23), (some (20, false))⟩,
    ⟨(some 25), .load false 1 (.tmp 24), (some (20, false))⟩,
    ⟨(some 26), .lenSlice (.tmp 25), (some (20, false))⟩,
    ⟨(some 27), .bin .geq (.tmp 21) (.tmp 26), (some (20, false))⟩,
    ⟨(some 28), .pick (.tmp 20) (.con (.bool true)) (.tmp 27), none⟩,
    ⟨(some 29), .mov (.tmp 28), none⟩,
    ⟨(some 30), .mov (.tmp 8), (some (29, false))⟩,
    ⟨(some 31), .mov (.tmp 0), (some (29, false))⟩,
    ⟨(some 32), .nilChk (.tmp 31), (some (29, false))⟩,
    ⟨(some 33), .fieldAddr 0 (.tmp 32), (some (29, false))⟩,
    ⟨(some 34), .load false 1 (.tmp 33), (some (29, false))⟩,
    ⟨(some 35), .mov (.tmp 6), (some (29, false))⟩,
    ⟨(some 36), .idxAddr 4 (.tmp 34) (.tmp 35), (some (29, false))⟩,
    ⟨(some 37), .fieldAddr 0 (.tmp 36), (some (29, false))⟩,
    ⟨(some 38), .load false 1 (.tmp 37), (some (29, false))⟩,
    ⟨(some 39), .bin .eql (.tmp 38) (.con (.int .i64 0)), (some (29, false))⟩,
    ⟨(some 40), .eqB true (.tmp 30) (.tmp 39), (some (29, false))⟩,
    ⟨(some 41), .pick (.tmp 29) (.con (.bool true)) (.tmp 40), none⟩])
  (.cond (.tmp 41)
  (.seq (.ops [⟨(some 4), .mov (.con .nilPtr), none⟩,
    ⟨(some 5), .mov (.con (.int .i64 1)), none⟩])
  .ret)
  .skip))
  (.seq (.ops [⟨(some 42), .mov (.tmp 0), none⟩,
    ⟨(some 43), .nilChk (.tmp 42), none⟩,
    ⟨(some 44), .fieldAddr 0 (.tmp 43), none⟩,
    ⟨(some 45), .load false 1 (.tmp 44), none⟩,
    ⟨(some 46), .mov (.tmp 6), none⟩,
    ⟨(some 47), .idxAddr 4 (.tmp 45) (.tmp 46), none⟩,
    ⟨(some 10), .mov (.tmp 47), none⟩])
  (.seq (.seq (.ops [⟨(some 48), .mov (.tmp 10), none⟩,
    ⟨(some 49), .nilChk (.tmp 48), none⟩,
    ⟨(some 50), .fieldAddr 1 (.tmp 49), none⟩,
    ⟨(some 51), .load false 1 (.tmp 50), none⟩,
    ⟨(some 52), .mov (.tmp 7), none⟩,
    ⟨(some 53), .bin .neq (.tmp 51) (.tmp 52), none⟩])
  (.cond (.tmp 53)
  (.seq (.ops [⟨(some 4), .mov (.con .nilPtr), none⟩,
    ⟨(some 5), .mov (.con (.int .i64 4)), none⟩])
  .ret)
  .skip))
  (.seq (.seq (.ops [⟨(some 54), .mov (.tmp 10), none⟩,
    ⟨(some 55), .nilChk (.tmp 54), none⟩,
    ⟨(some 56), .fieldAddr 2 (.tmp 55), none⟩,
    ⟨(some 57), .load false 1 (.tmp 56), none⟩,
    ⟨(some 58), .un .not (.tmp 57), none⟩])
  (.cond (.tmp 58)
  (.seq (.ops [⟨(some 4), .mov (.con .nilPtr), none⟩,
    ⟨(some 5), .mov (.con (.int .i64 3)), none⟩])
  .ret)
  .skip))
  (.seq (.ops [⟨(some 59), .mov (.tmp 10), none⟩,
    ⟨(some 4), .mov (.tmp 59), none⟩,
    ⟨(some 5), .mov (.con (.int .i64 0)), none⟩])
  .ret)))))))
def a95 : AFunc := ⟨2, c95, [.tmp 4, .tmp 5]⟩

/- 96: slices.Clone[[]uint64,uint64] -/
def c96 : ACode := (.seq (.ops [⟨(some 2), .mov (.con .nilSlice), none⟩])
  (.seq (.seq (.ops [⟨(some 3), .mov (.tmp 0), none⟩,
    ⟨(some 4), .eqNil 1 false (.tmp 3) (.con .nilSlice), none⟩])
  (.cond (.tmp 4)
  (.seq (.ops [⟨(some 2), .mov (.con .nilSlice), none⟩])
  .ret)
  .skip))
  (.seq (.ops [⟨(some 5), .buildSlice 1 0 [] [], none⟩,
    ⟨(some 6), .mov (.tmp 0), none⟩,
    ⟨(some 7), .append 1 8 (.tmp 5) (.tmp 6), none⟩,
    ⟨(some 2), .mov (.tmp 7), none⟩])
  .ret)))
def a96 : AFunc := ⟨1, c96, [.tmp 2]⟩

/- 97: slices.Clone[[]tendril/epoch.retired,tendril/epoch.retired] -/
def c97 : ACode := (.seq (.ops [⟨(some 2), .mov (.con .nilSlice), none⟩])
  (.seq (.seq (.ops [⟨(some 3), .mov (.tmp 0), none⟩,
    ⟨(some 4), .eqNil 1 false (.tmp 3) (.con .nilSlice), none⟩])
  (.cond (.tmp 4)
  (.seq (.ops [⟨(some 2), .mov (.con .nilSlice), none⟩])
  .ret)
  .skip))
  (.seq (.ops [⟨(some 5), .buildSlice 2 0 [] [], none⟩,
    ⟨(some 6), .mov (.tmp 0), none⟩,
    ⟨(some 7), .append 2 16 (.tmp 5) (.tmp 6), none⟩,
    ⟨(some 2), .mov (.tmp 7), none⟩])
  .ret)))
def a97 : AFunc := ⟨1, c97, [.tmp 2]⟩

/- 85: tendril/tendrilref1.Parts -/
def c85 : ACode := (.seq (.ops [⟨(some 2), .mov (.con (.int .i64 0)), none⟩,
    ⟨(some 3), .mov (.con (.int .i64 0)), none⟩,
    ⟨(some 4), .mov (.con (.bool false)), none⟩,
    ⟨(some 5), .mov (.con (.bool false)), none⟩])
  (.seq (.seq (.ops [⟨(some 6), .mov (.tmp 0), none⟩,
    ⟨(some 7), .bin .leq (.tmp 6) (.con (.int .i64 0)), none⟩,
    ⟨(some 8), .mov (.tmp 7), none⟩,
    ⟨(some 9), .mov (.tmp 0), (some (8, false))⟩,
    ⟨(some 10), .bin .geq (.tmp 9) (.con (.int .i64 562949953421312)), (some (8, false))⟩,
    ⟨(some 11), .pick (.tmp 8) (.con (.bool true)) (.tmp 10), none⟩])
  (.cond (.tmp 11)
  (.seq (.ops [⟨(some 2), .mov (.con (.int .i64 0)), none⟩,
    ⟨(some 3), .mov (.con (.int .i64 0)), none⟩,
    ⟨(some 4), .mov (.con (.bool false)), none⟩,
    ⟨(some 5), .mov (.con (.bool false)), none⟩])
  .ret)
  .skip))
  (.seq (.ops [⟨(some 12), .mov (.tmp 0), none⟩,
    ⟨(some 13), .bin .and (.tmp 12) (.con (.int .i64 65535)), none⟩,
    ⟨(some 14), .mov (.tmp 0), none⟩,
    ⟨(some 15), .bin .shr (.tmp 14) (.con (.int .u64 16)), none⟩,
    ⟨(some 16), .bin .and (.tmp 15) (.con (.int .i64 4294967295)), none⟩,
    ⟨(some 17), .mov (.tmp 0), none⟩,
    ⟨(some 18), .bin .shr (.tmp 17) (.con (.int .u64 48)), none⟩,
    ⟨(some 19), .bin .eql (.tmp 18) (.con (.int .i64 1)), none⟩,
    ⟨(some 2), .mov (.tmp 13), none⟩,
    ⟨(some 3), .mov (.tmp 16), none⟩,
    ⟨(some 4), .mov (.tmp 19), none⟩])
  (.seq (.seq (.ops [⟨(some 20), .mov (.tmp 2), none⟩,
    ⟨(some 21), .mov (.tmp 3), none⟩,
    ⟨(some 22), .mov (.tmp 4), none⟩,
    ⟨(some 23), .call 84 [(.tmp 20), (.tmp 21), (.tmp 22)], none⟩,
    ⟨(some 24), .mov (.tmp 0), none⟩,
    ⟨(some 25), .bin .neq (.tmp 23) (.tmp 24), none⟩])
  (.cond (.tmp 25)
  (.seq (.ops [⟨(some 2), .mov (.con (.int .i64 0)), none⟩,
    ⟨(some 3), .mov (.con (.int .i64 0)), none⟩,
    ⟨(some 4), .mov (.con (.bool false)), none⟩,
    ⟨(some 5), .mov (.con (.bool false)), none⟩])
  .ret)
  .skip))
  (.seq (.ops [⟨(some 26), .mov (.tmp 2), none⟩,
    ⟨(some 27), .mov (.tmp 3), none⟩,
    ⟨(some 28), .mov (.tmp 4), none⟩,
    ⟨(some 2), .mov (.tmp 26), none⟩,
    ⟨(some 3), .mov (.tmp 27), none⟩,
    ⟨(some 4), .mov (.tmp 28), none⟩,
    ⟨(some 5), .mov (.con (.bool true)), none⟩])
  .ret)))))
def a85 : AFunc := ⟨1, c85, [.tmp 2, .tmp 3, .tmp 4, .tmp 5]⟩

/- 123: (*tendril/pool.least).Push -/
def c123 : ACode := (.draw [.op ⟨(some 4), .mov (.tmp 0), none⟩,
    .op ⟨(some 5), .mov (.tmp 0), none⟩,
    .op ⟨(some 6), .nilChk (.tmp 5), none⟩,
    .op ⟨(some 7), .load false 1 (.tmp 6), none⟩,
    .op ⟨(some 8), .mov (.tmp 1), none⟩,
    .op ⟨(some 9), .assertT 3 (.int .i64 0) false (.tmp 8), none⟩,
    .op ⟨(some 10), .buildSlice 1 1 [(.int .i64 0)] [(0, 1, (.tmp 9))], none⟩,
    .look ⟨(some 7), .load false 1 (.tmp 6), none⟩,
    .look ⟨(some 10), .buildSlice 1 1 [(.int .i64 0)] [(0, 1, (.tmp 9))], none⟩,
    .op ⟨(some 11), .append 1 8 (.tmp 7) (.tmp 10), none⟩,
    .op ⟨(some 12), .nilChk (.tmp 4), none⟩,
    .op ⟨none, .store 1 (.tmp 12) (.tmp 11), none⟩])
def a123 : AFunc := ⟨2, c123, []⟩
/- 116 (*internal/abi.Type).Len: no body, not compiled -/

/- 119: (tendril/pool.least).Len -/
def c119 : ACode := (.seq (.ops [⟨(some 2), .mov (.con (.int .i64 0)), none⟩])
  (.seq (.ops [⟨(some 3), .mov (.tmp 0), none⟩,
    ⟨(some 4), .lenSlice (.tmp 3), none⟩,
    ⟨(some 2), .mov (.tmp 4), none⟩])
  .ret))
def a119 : AFunc := ⟨1, c119, [.tmp 2]⟩

/- 98: container/heap.up -/
def c98l0 : ACode := (.block 1 (.seq (.ops [⟨(some 5), .mov (.tmp 1), none⟩,
    ⟨(some 6), .bin .sub (.tmp 5) (.con (.int .i64 1)), none⟩,
    ⟨(some 7), .bin .quo (.tmp 6) (.con (.int .i64 2)), none⟩,
    ⟨(some 4), .mov (.tmp 7), none⟩])
  (.seq (.seq (.ops [⟨(some 8), .mov (.tmp 4), none⟩,
    ⟨(some 9), .mov (.tmp 1), none⟩,
    ⟨(some 10), .bin .eql (.tmp 8) (.tmp 9), none⟩,
    ⟨(some 11), .mov (.tmp 10), none⟩,
    ⟨(some 12), .mov (.tmp 0), (some (11, false))⟩,
    ⟨(some 13), .mov (.tmp 1), (some (11, false))⟩,
    ⟨(some 14), .mov (.tmp 4), (some (11, false))⟩,
    ⟨(some 15), .callM [(156, 120, .self), (161, 120, (.deref false 1))] (.tmp 12) [(.tmp 13), (.tmp 14)], (some (11, false))⟩,
    ⟨(some 16), .un .not (.tmp 15), (some (11, false))⟩,
    ⟨(some 17), .pick (.tmp 11) (.con (.bool true)) (.tmp 16), none⟩])
  (.cond (.tmp 17)
  (.exit 0)
  .skip))
  (.seq (.ops [⟨(some 18), .mov (.tmp 0), none⟩,
    ⟨(some 19), .mov (.tmp 4), none⟩,
    ⟨(some 20), .mov (.tmp 1), none⟩,
    ⟨(some 21), .callM [(57, 50, .self), (82, 70, .self), (156, 121, .self), (161, 121, (.deref false 1))] (.tmp 18) [(.tmp 19), (.tmp 20)], none⟩])
  (.ops [⟨(some 22), .mov (.tmp 4), none⟩,
    ⟨(some 1), .mov (.tmp 22), none⟩])))))
def c98 : ACode := (.block 0 (.loop c98l0))
def a98 : AFunc := ⟨2, c98, []⟩

/- 99: math/bits.Mul -/
def c99 : ACode := (.seq (.ops [⟨(some 4), .mov (.con (.int .u64 0)), none⟩,
    ⟨(some 5), .mov (.con (.int .u64 0)), none⟩])
  (.seq (.cond (.con (.bool false))
  (.seq (.ops [⟨(some 11), .mov (.tmp 0), none⟩,
    ⟨(some 12), .toInt .u32 (.tmp 11), none⟩,
    ⟨(some 13), .mov (.tmp 1), none⟩,
    ⟨(some 14), .toInt .u32 (.tmp 13), none⟩,
    ⟨(some 15), .call 101 [(.tmp 12), (.tmp 14)], none⟩,
    ⟨(some 10), .mov (.tmp 15), none⟩,
    ⟨(some 16), .extract (.tmp 10) 0, none⟩,
    ⟨(some 17), .extract (.tmp 10) 1, none⟩,
    ⟨(some 6), .mov (.tmp 16), none⟩,
    ⟨(some 7), .mov (.tmp 17), none⟩])
  (.seq (.ops [⟨(some 18), .mov (.tmp 6), none⟩,
    ⟨(some 19), .toInt .u64 (.tmp 18), none⟩,
    ⟨(some 20), .mov (.tmp 7), none⟩,
    ⟨(some 21), .toInt .u64 (.tmp 20), none⟩,
    ⟨(some 4), .mov (.tmp 19), none⟩,
    ⟨(some 5), .mov (.tmp 21), none⟩])
  .ret))
  .skip)
  (.seq (.ops [⟨(some 23), .mov (.tmp 0), none⟩,
    ⟨(some 24), .mov (.tmp 1), none⟩,
    ⟨(some 25), .call 102 [(.tmp 23), (.tmp 24)], none⟩,
    ⟨(some 22), .mov (.tmp 25), none⟩,
    ⟨(some 26), .extract (.tmp 22) 0, none⟩,
    ⟨(some 27), .extract (.tmp 22) 1, none⟩,
    ⟨(some 8), .mov (.tmp 26), none⟩,
    ⟨(some 9), .mov (.tmp 27), none⟩])
  (.seq (.ops [⟨(some 28), .mov (.tmp 8), none⟩,
    ⟨(some 29), .mov (.tmp 9), none⟩,
    ⟨(some 4), .mov (.tmp 28), none⟩,
    ⟨(some 5), .mov (.tmp 29), none⟩])
  .ret))))
def a99 : AFunc := ⟨2, c99, [.tmp 4, .tmp 5]⟩

/- 50: (*tendril/tendrilref1.Arena).Swap -/
def c50 : ACode := (.seq (.ops [⟨(some 8), .mov (.con (.bool false)), none⟩,
    ⟨(some 9), .mov (.con (.int .i64 0)), none⟩])
  (.seq (.ops [⟨(some 13), .mov (.tmp 0), none⟩,
    ⟨(some 14), .mov (.tmp 1), none⟩,
    ⟨(some 15), .call 49 [(.tmp 13), (.tmp 14)], none⟩,
    ⟨(some 12), .mov (.tmp 15), none⟩,
    ⟨(some 16), .extract (.tmp 12) 0, none⟩,
    ⟨(some 17), .extract (.tmp 12) 1, none⟩,
    ⟨(some 10), .mov (.tmp 16), none⟩,
    ⟨(some 11), .mov (.tmp 17), none⟩])
  (.seq (.seq (.ops [⟨(some 18), .mov (.tmp 11), none⟩,
    ⟨(some 19), .bin .neq (.tmp 18) (.con (.int .i64 0)), none⟩])
  (.cond (.tmp 19)
  (.seq (.ops [⟨(some 20), .mov (.tmp 11), none⟩,
    ⟨(some 8), .mov (.con (.bool false)), none⟩,
    ⟨(some 9), .mov (.tmp 20), none⟩])
  .ret)
  .skip))
  (.seq (.seq (.ops [⟨(some 21), .mov (.tmp 3), none⟩,
    ⟨(some 22), .lenSlice (.tmp 21), none⟩,
    ⟨(some 23), .mov (.tmp 0), none⟩,
    ⟨(some 24), .nilChk (.tmp 23), none⟩,
    ⟨(some 25), .fieldAddr 0 (.tmp 24), none⟩,
    ⟨(some 26), .load false 1 (.tmp 25), none⟩,
    ⟨(some 27), .mov (.tmp 10), none⟩,
    ⟨(some 28), .idxAddr 4 (.tmp 26) (.tmp 27), none⟩,
    ⟨(some 29), .fieldAddr 0 (.tmp 28), none⟩,
    ⟨(some 30), .load false 1 (.tmp 29), none⟩,
    ⟨(some 31), .call 41 [(.tmp 30)], none⟩,
    ⟨(some 32), .bin .gtr (.tmp 22) (.tmp 31), none⟩])
  (.cond (.tmp 32)
  (.seq (.ops [⟨(some 8), .mov (.con (.bool false)), none⟩,
    ⟨(some 9), .mov (.con (.int .i64 1)), none⟩])
  .ret)
  .skip))
  (.seq (.seq (.ops [⟨(some 33), .mov (.tmp 0), none⟩,
    ⟨(some 34), .nilChk (.tmp 33), none⟩,
    ⟨(some 35), .fieldAddr 0 (.tmp 34), none⟩,
    ⟨(some 36), .load false 1 (.tmp 35), none⟩,
    ⟨(some 37), .mov (.tmp 10), none⟩,
    ⟨(some 38), .idxAddr 4 (.tmp 36) (.tmp 37), none⟩,
    ⟨(some 39), .fieldAddr 3 (.tmp 38), none⟩,
    ⟨(some 40), .load false 1 (.tmp 39), none⟩,
    ⟨(some 41), .idxAddr 1 (.tmp 40) (.con (.int .i64 0)), none⟩,
    ⟨(some 42), .load false 1 (.tmp 41), none⟩,
    ⟨(some 43), .mov (.tmp 2), none⟩,
    ⟨(some 44), .bin .neq (.tmp 42) (.tmp 43), none⟩])
  (.cond (.tmp 44)
  (.seq (.ops [⟨(some 8), .mov (.con (.bool false)), none⟩,
    ⟨(some 9), .mov (.con (.int .i64 0)), none⟩])
  .ret)
  .skip))
  (.seq (.draw [.op ⟨(some 45), .mov (.tmp 0), none⟩,
    .op ⟨(some 46), .nilChk (.tmp 45), none⟩,
    .op ⟨(some 47), .fieldAddr 0 (.tmp 46), none⟩,
    .op ⟨(some 48), .load false 1 (.tmp 47), none⟩,
    .op ⟨(some 49), .mov (.tmp 10), none⟩,
    .op ⟨(some 50), .mov (.tmp 0), none⟩,
    .op ⟨(some 51), .nilChk (.tmp 50), none⟩,
    .op ⟨(some 52), .fieldAddr 0 (.tmp 51), none⟩,
    .op ⟨(some 53), .load false 1 (.tmp 52), none⟩,
    .op ⟨(some 54), .mov (.tmp 10), none⟩,
    .op ⟨(some 55), .idxAddr 4 (.tmp 53) (.tmp 54), none⟩,
    .op ⟨(some 56), .fieldAddr 0 (.tmp 55), none⟩,
    .op ⟨(some 57), .load false 1 (.tmp 56), none⟩,
    .op ⟨(some 58), .mov (.tmp 3), none⟩,
    .op ⟨(some 59), .call 83 [(.tmp 57), (.tmp 58)], none⟩,
    .op ⟨(some 60), .idxAddr 4 (.tmp 48) (.tmp 49), none⟩,
    .op ⟨(some 61), .fieldAddr 3 (.tmp 60), none⟩,
    .look ⟨(some 48), .load false 1 (.tmp 47), none⟩,
    .op ⟨none, .store 1 (.tmp 61) (.tmp 59), none⟩])
  (.seq (.ops [⟨(some 8), .mov (.con (.bool true)), none⟩,
    ⟨(some 9), .mov (.con (.int .i64 0)), none⟩])
  .ret)))))))
def a50 : AFunc := ⟨4, c50, [.tmp 8, .tmp 9]⟩

/- 121: (tendril/pool.least).Swap -/
def c121 : ACode := (.ops [⟨(some 6), .mov (.tmp 0), none⟩,
    ⟨(some 7), .mov (.tmp 1), none⟩,
    ⟨(some 8), .mov (.tmp 0), none⟩,
    ⟨(some 9), .mov (.tmp 2), none⟩,
    ⟨(some 10), .mov (.tmp 0), none⟩,
    ⟨(some 11), .mov (.tmp 2), none⟩,
    ⟨(some 12), .idxAddr 1 (.tmp 10) (.tmp 11), none⟩,
    ⟨(some 13), .load false 1 (.tmp 12), none⟩,
    ⟨(some 14), .mov (.tmp 0), none⟩,
    ⟨(some 15), .mov (.tmp 1), none⟩,
    ⟨(some 16), .idxAddr 1 (.tmp 14) (.tmp 15), none⟩,
    ⟨(some 17), .load false 1 (.tmp 16), none⟩,
    ⟨(some 18), .idxAddr 1 (.tmp 6) (.tmp 7), none⟩,
    ⟨none, .store 1 (.tmp 18) (.tmp 13), none⟩,
    ⟨(some 19), .idxAddr 1 (.tmp 8) (.tmp 9), none⟩,
    ⟨none, .store 1 (.tmp 19) (.tmp 17), none⟩])
def a121 : AFunc := ⟨3, c121, []⟩

/- 100: container/heap.down -/
def c100l0 : ACode := (.block 1 (.seq (.ops [⟨(some 12), .mov (.tmp 7), none⟩,
    ⟨(some 13), .bin .mul (.con (.int .i64 2)) (.tmp 12), none⟩,
    ⟨(some 14), .bin .add (.tmp 13) (.con (.int .i64 1)), none⟩,
    ⟨(some 8), .mov (.tmp 14), none⟩])
  (.seq (.seq (.ops [⟨(some 15), .mov (.tmp 8), none⟩,
    ⟨(some 16), .mov (.tmp 2), none⟩,
    ⟨(some 17), .bin .geq (.tmp 15) (.tmp 16), none⟩,
    ⟨(some 18), .mov (.tmp 17), none⟩,
    ⟨(some 19), .mov (.tmp 8), (some (18, false))⟩,
    ⟨(some 20), .bin .lss (.tmp 19) (.con (.int .i64 0)), (some (18, false))⟩,
    ⟨(some 21), .pick (.tmp 18) (.con (.bool true)) (.tmp 20), none⟩])
  (.cond (.tmp 21)
  (.exit 0)
  .skip))
  (.seq (.ops [⟨(some 22), .mov (.tmp 8), none⟩,
    ⟨(some 9), .mov (.tmp 22), none⟩])
  (.seq (.seq (.ops [⟨(some 23), .mov (.tmp 8), none⟩,
    ⟨(some 24), .bin .add (.tmp 23) (.con (.int .i64 1)), none⟩,
    ⟨(some 10), .mov (.tmp 24), none⟩])
  (.seq (.ops [⟨(some 25), .mov (.tmp 10), none⟩,
    ⟨(some 26), .mov (.tmp 2), none⟩,
    ⟨(some 27), .bin .lss (.tmp 25) (.tmp 26), none⟩,
    ⟨(some 28), .mov (.tmp 27), none⟩,
    ⟨(some 29), .mov (.tmp 0), (some (28, true))⟩,
    ⟨(some 30), .mov (.tmp 10), (some (28, true))⟩,
    ⟨(some 31), .mov (.tmp 8), (some (28, true))⟩,
    ⟨(some 32), .callM [(156, 120, .self), (161, 120, (.deref false 1))] (.tmp 29) [(.tmp 30), (.tmp 31)], (some (28, true))⟩,
    ⟨(some 33), .pick (.tmp 28) (.tmp 32) (.con (.bool false)), none⟩])
  (.cond (.tmp 33)
  (.ops [⟨(some 34), .mov (.tmp 10), none⟩,
    ⟨(some 9), .mov (.tmp 34), none⟩])
  .skip)))
  (.seq (.seq (.ops [⟨(some 35), .mov (.tmp 0), none⟩,
    ⟨(some 36), .mov (.tmp 9), none⟩,
    ⟨(some 37), .mov (.tmp 7), none⟩,
    ⟨(some 38), .callM [(156, 120, .self), (161, 120, (.deref false 1))] (.tmp 35) [(.tmp 36), (.tmp 37)], none⟩,
    ⟨(some 39), .un .not (.tmp 38), none⟩])
  (.cond (.tmp 39)
  (.exit 0)
  .skip))
  (.seq (.ops [⟨(some 40), .mov (.tmp 0), none⟩,
    ⟨(some 41), .mov (.tmp 7), none⟩,
    ⟨(some 42), .mov (.tmp 9), none⟩,
    ⟨(some 43), .callM [(57, 50, .self), (82, 70, .self), (156, 121, .self), (161, 121, (.deref false 1))] (.tmp 40) [(.tmp 41), (.tmp 42)], none⟩])
  (.ops [⟨(some 44), .mov (.tmp 9), none⟩,
    ⟨(some 7), .mov (.tmp 44), none⟩]))))))))
def c100 : ACode := (.seq (.ops [⟨(some 6), .mov (.con (.bool false)), none⟩])
  (.seq (.ops [⟨(some 11), .mov (.tmp 1), none⟩,
    ⟨(some 7), .mov (.tmp 11), none⟩])
  (.seq (.block 0 (.loop c100l0))
  (.seq (.ops [⟨(some 45), .mov (.tmp 7), none⟩,
    ⟨(some 46), .mov (.tmp 1), none⟩,
    ⟨(some 47), .bin .gtr (.tmp 45) (.tmp 46), none⟩,
    ⟨(some 6), .mov (.tmp 47), none⟩])
  .ret))))
def a100 : AFunc := ⟨3, c100, [.tmp 6]⟩

/- 122: (*tendril/pool.least).Pop -/
def c122 : ACode := (.seq (.ops [⟨(some 2), .mov (.con .nilIface), none⟩])
  (.seq (.ops [⟨(some 5), .mov (.tmp 0), none⟩,
    ⟨(some 6), .nilChk (.tmp 5), none⟩,
    ⟨(some 7), .load false 1 (.tmp 6), none⟩,
    ⟨(some 8), .lenSlice (.tmp 7), none⟩,
    ⟨(some 9), .bin .sub (.tmp 8) (.con (.int .i64 1)), none⟩,
    ⟨(some 3), .mov (.tmp 9), none⟩])
  (.seq (.ops [⟨(some 10), .mov (.tmp 0), none⟩,
    ⟨(some 11), .nilChk (.tmp 10), none⟩,
    ⟨(some 12), .load false 1 (.tmp 11), none⟩,
    ⟨(some 13), .mov (.tmp 3), none⟩,
    ⟨(some 14), .idxAddr 1 (.tmp 12) (.tmp 13), none⟩,
    ⟨(some 15), .load false 1 (.tmp 14), none⟩,
    ⟨(some 4), .mov (.tmp 15), none⟩])
  (.seq (.ops [⟨(some 16), .mov (.tmp 0), none⟩,
    ⟨(some 17), .mov (.tmp 0), none⟩,
    ⟨(some 18), .nilChk (.tmp 17), none⟩,
    ⟨(some 19), .load false 1 (.tmp 18), none⟩,
    ⟨(some 20), .mov (.tmp 3), none⟩,
    ⟨(some 21), .slc 1 (.tmp 19) none (some (.tmp 20)) none, none⟩,
    ⟨(some 22), .nilChk (.tmp 16), none⟩,
    ⟨none, .store 1 (.tmp 22) (.tmp 21), none⟩])
  (.seq (.ops [⟨(some 23), .mov (.tmp 4), none⟩,
    ⟨(some 24), .mkIface 3 (.tmp 23), none⟩,
    ⟨(some 2), .mov (.tmp 24), none⟩])
  .ret)))))
def a122 : AFunc := ⟨1, c122, [.tmp 2]⟩

/- 84: tendril/tendrilref1.Ref -/
def c84 : ACode := (.seq (.ops [⟨(some 6), .mov (.con (.int .i64 0)), none⟩])
  (.seq (.seq (.ops [⟨(some 8), .mov (.tmp 0), none⟩,
    ⟨(some 9), .bin .lss (.tmp 8) (.con (.int .i64 0)), none⟩,
    ⟨(some 10), .mov (.tmp 9), none⟩,
    ⟨(some 11), .mov (.tmp 0), (some (10, false))⟩,
    ⟨(some 12), .bin .geq (.tmp 11) (.con (.int .i64 1024)), (some (10, false))⟩,
    ⟨(some 13), .pick (.tmp 10) (.con (.bool true)) (.tmp 12), none⟩,
    ⟨(some 14), .mov (.tmp 13), none⟩,
    ⟨(some 15), .mov (.tmp 1), (some (14, false))⟩,
    ⟨(some 16), .bin .lss (.tmp 15) (.con (.int .i64 1)), (some (14, false))⟩,
    ⟨(some 17), .pick (.tmp 14) (.con (.bool true)) (.tmp 16), none⟩,
    ⟨(some 18), .mov (.tmp 17), none⟩,
    ⟨(some 19), .mov (.tmp 1), (some (18, false))⟩,
    ⟨(some 20), .bin .gtr (.tmp 19) (.con (.int .i64 1073741824)), (some (18, false))⟩,
    ⟨(some 21), .pick (.tmp 18) (.con (.bool true)) (.tmp 20), none⟩])
  (.cond (.tmp 21)
  (.seq (.ops [⟨(some 6), .mov (.con (.int .i64 0)), none⟩])
  .ret)
  .skip))
  (.seq (.ops [⟨(some 22), .mov (.tmp 1), none⟩,
    ⟨(some 23), .bin .shl (.tmp 22) (.con (.int .u64 16)), none⟩,
    ⟨(some 24), .mov (.tmp 0), none⟩,
    ⟨(some 25), .bin .or (.tmp 23) (.tmp 24), none⟩,
    ⟨(some 7), .mov (.tmp 25), none⟩])
  (.seq (.seq (.ops [⟨(some 26), .mov (.tmp 2), none⟩])
  (.cond (.tmp 26)
  (.ops [⟨(some 27), .mov (.tmp 7), none⟩,
    ⟨(some 28), .bin .or (.tmp 27) (.con (.int .i64 281474976710656)), none⟩,
    ⟨(some 7), .mov (.tmp 28), none⟩])
  .skip))
  (.seq (.ops [⟨(some 29), .mov (.tmp 7), none⟩,
    ⟨(some 6), .mov (.tmp 29), none⟩])
  .ret)))))
def a84 : AFunc := ⟨3, c84, [.tmp 6]⟩

/- 120: (tendril/pool.least).Less -/
def c120 : ACode := (.seq (.ops [⟨(some 6), .mov (.con (.bool false)), none⟩])
  (.seq (.ops [⟨(some 7), .mov (.tmp 0), none⟩,
    ⟨(some 8), .mov (.tmp 1), none⟩,
    ⟨(some 9), .idxAddr 1 (.tmp 7) (.tmp 8), none⟩,
    ⟨(some 10), .load false 1 (.tmp 9), none⟩,
    ⟨(some 11), .mov (.tmp 0), none⟩,
    ⟨(some 12), .mov (.tmp 2), none⟩,
    ⟨(some 13), .idxAddr 1 (.tmp 11) (.tmp 12), none⟩,
    ⟨(some 14), .load false 1 (.tmp 13), none⟩,
    ⟨(some 15), .bin .lss (.tmp 10) (.tmp 14), none⟩,
    ⟨(some 6), .mov (.tmp 15), none⟩])
  .ret))
def a120 : AFunc := ⟨3, c120, [.tmp 6]⟩

/- 101: math/bits.Mul32 -/
def c101 : ACode := (.seq (.ops [⟨(some 4), .mov (.con (.int .u32 0)), none⟩,
    ⟨(some 5), .mov (.con (.int .u32 0)), none⟩])
  (.seq (.ops [⟨(some 7), .mov (.tmp 0), none⟩,
    ⟨(some 8), .toInt .u64 (.tmp 7), none⟩,
    ⟨(some 9), .mov (.tmp 1), none⟩,
    ⟨(some 10), .toInt .u64 (.tmp 9), none⟩,
    ⟨(some 11), .bin .mul (.tmp 8) (.tmp 10), none⟩,
    ⟨(some 6), .mov (.tmp 11), none⟩])
  (.seq (.ops [⟨(some 12), .mov (.tmp 6), none⟩,
    ⟨(some 13), .bin .shr (.tmp 12) (.con (.int .u64 32)), none⟩,
    ⟨(some 14), .toInt .u32 (.tmp 13), none⟩,
    ⟨(some 15), .mov (.tmp 6), none⟩,
    ⟨(some 16), .toInt .u32 (.tmp 15), none⟩,
    ⟨(some 4), .mov (.tmp 14), none⟩,
    ⟨(some 5), .mov (.tmp 16), none⟩])
  .ret)))
def a101 : AFunc := ⟨2, c101, [.tmp 4, .tmp 5]⟩

/- 102: math/bits.Mul64 -/
def c102 : ACode := (.seq (.ops [⟨(some 4), .mov (.con (.int .u64 0)), none⟩,
    ⟨(some 5), .mov (.con (.int .u64 0)), none⟩])
  (.seq (.ops [⟨(some 14), .mov (.tmp 0), none⟩,
    ⟨(some 15), .bin .and (.tmp 14) (.con (.int .u64 4294967295)), none⟩,
    ⟨(some 6), .mov (.tmp 15), none⟩])
  (.seq (.ops [⟨(some 16), .mov (.tmp 0), none⟩,
    ⟨(some 17), .bin .shr (.tmp 16) (.con (.int .u64 32)), none⟩,
    ⟨(some 7), .mov (.tmp 17), none⟩])
  (.seq (.ops [⟨(some 18), .mov (.tmp 1), none⟩,
    ⟨(some 19), .bin .and (.tmp 18) (.con (.int .u64 4294967295)), none⟩,
    ⟨(some 8), .mov (.tmp 19), none⟩])
  (.seq (.ops [⟨(some 20), .mov (.tmp 1), none⟩,
    ⟨(some 21), .bin .shr (.tmp 20) (.con (.int .u64 32)), none⟩,
    ⟨(some 9), .mov (.tmp 21), none⟩])
  (.seq (.ops [⟨(some 22), .mov (.tmp 6), none⟩,
    ⟨(some 23), .mov (.tmp 8), none⟩,
    ⟨(some 24), .bin .mul (.tmp 22) (.tmp 23), none⟩,
    ⟨(some 10), .mov (.tmp 24), none⟩])
  (.seq (.ops [⟨(some 25), .mov (.tmp 7), none⟩,
    ⟨(some 26), .mov (.tmp 8), none⟩,
    ⟨(some 27), .bin .mul (.tmp 25) (.tmp 26), none⟩,
    ⟨(some 28), .mov (.tmp 10), none⟩,
    ⟨(some 29), .bin .shr (.tmp 28) (.con (.int .u64 32)), none⟩,
    ⟨(some 30), .bin .add (.tmp 27) (.tmp 29), none⟩,
    ⟨(some 11), .mov (.tmp 30), none⟩])
  (.seq (.ops [⟨(some 31), .mov (.tmp 11), none⟩,
    ⟨(some 32), .bin .and (.tmp 31) (.con (.int .u64 4294967295)), none⟩,
    ⟨(some 12), .mov (.tmp 32), none⟩])
  (.seq (.ops [⟨(some 33), .mov (.tmp 11), none⟩,
    ⟨(some 34), .bin .shr (.tmp 33) (.con (.int .u64 32)), none⟩,
    ⟨(some 13), .mov (.tmp 34), none⟩])
  (.seq (.ops [⟨(some 35), .mov (.tmp 12), none⟩,
    ⟨(some 36), .mov (.tmp 6), none⟩,
    ⟨(some 37), .mov (.tmp 9), none⟩,
    ⟨(some 38), .bin .mul (.tmp 36) (.tmp 37), none⟩,
    ⟨(some 39), .bin .add (.tmp 35) (.tmp 38), none⟩,
    ⟨(some 12), .mov (.tmp 39), none⟩])
  (.seq (.ops [⟨(some 40), .mov (.tmp 7), none⟩,
    ⟨(some 41), .mov (.tmp 9), none⟩,
    ⟨(some 42), .bin .mul (.tmp 40) (.tmp 41), none⟩,
    ⟨(some 43), .mov (.tmp 13), none⟩,
    ⟨(some 44), .bin .add (.tmp 42) (.tmp 43), none⟩,
    ⟨(some 45), .mov (.tmp 12), none⟩,
    ⟨(some 46), .bin .shr (.tmp 45) (.con (.int .u64 32)), none⟩,
    ⟨(some 47), .bin .add (.tmp 44) (.tmp 46), none⟩,
    ⟨(some 4), .mov (.tmp 47), none⟩])
  (.seq (.ops [⟨(some 48), .mov (.tmp 0), none⟩,
    ⟨(some 49), .mov (.tmp 1), none⟩,
    ⟨(some 50), .bin .mul (.tmp 48) (.tmp 49), none⟩,
    ⟨(some 5), .mov (.tmp 50), none⟩])
  .ret))))))))))))
def a102 : AFunc := ⟨2, c102, [.tmp 4, .tmp 5]⟩

/- 49: (*tendril/tendrilref1.Arena).at -/
def c49 : ACode := (.seq (.ops [⟨(some 4), .mov (.con (.int .i64 0)), none⟩,
    ⟨(some 5), .mov (.con (.int .i64 0)), none⟩])
  (.seq (.ops [⟨(some 11), .mov (.tmp 1), none⟩,
    ⟨(some 12), .call 85 [(.tmp 11)], none⟩,
    ⟨(some 10), .mov (.tmp 12), none⟩,
    ⟨(some 13), .extract (.tmp 10) 0, none⟩,
    ⟨(some 14), .extract (.tmp 10) 1, none⟩,
    ⟨(some 15), .extract (.tmp 10) 2, none⟩,
    ⟨(some 16), .extract (.tmp 10) 3, none⟩,
    ⟨(some 6), .mov (.tmp 13), none⟩,
    ⟨(some 7), .mov (.tmp 14), none⟩,
    ⟨(some 8), .mov (.tmp 15), none⟩,
    ⟨(some 9), .mov (.tmp 16), none⟩])
  (.seq (.seq (.ops [⟨(some 17), .mov (.tmp 9), none⟩,
    ⟨(some 18), .un .not (.tmp 17), none⟩,
    ⟨(some 19), .mov (.tmp 18), none⟩,
    ⟨(some 20), .mov (.tmp 6), (some (19, false))⟩,
    ⟨(some 21), .mov (.tmp 0), (some (19, false))⟩,
    ⟨(some 22), .nilChk (.tmp 21), (some (19, false))⟩,
    ⟨(some 23), .fieldAddr 0 (.tmp 22), (some (19, false))⟩,
    ⟨(some 24), .load false 1 (.tmp 23), (some (19, false))⟩,
    ⟨(some 25), .lenSlice (.tmp 24), (some (19, false))⟩,
    ⟨(some 26), .bin .geq (.tmp 20) (.tmp 25), (some (19, false))⟩,
    ⟨(some 27), .pick (.tmp 19) (.con (.bool true)) (.tmp 26), none⟩,
    ⟨(some 28), .mov (.tmp 27), none⟩,
    ⟨(some 29), .mov (.tmp 8), (some (28, false))⟩,
    ⟨(some 30), .mov (.tmp 0), (some (28, false))⟩,
    ⟨(some 31), .nilChk (.tmp 30), (some (28, false))⟩,
    ⟨(some 32), .fieldAddr 0 (.tmp 31), (some (28, false))⟩,
    ⟨(some 33), .load false 1 (.tmp 32), (some (28, false))⟩,
    ⟨(some 34), .mov (.tmp 6), (some (28, false))⟩,
    ⟨(some 35), .idxAddr 4 (.tmp 33) (.tmp 34), (some (28, false))⟩,
    ⟨(some 36), .fieldAddr 0 (.tmp 35), (some (28, false))⟩,
    ⟨(some 37), .load false 1 (.tmp 36), (some (28, false))⟩,
    ⟨(some 38), .bin .eql (.tmp 37) (.con (.int .i64 0)), (some (28, false))⟩,
    ⟨(some 39), .eqB true (.tmp 29) (.tmp 38), (some (28, false))⟩,
    ⟨(some 40), .pick (.tmp 28) (.con (.bool true)) (.tmp 39), none⟩])
  (.cond (.tmp 40)
  (.seq (.ops [⟨(some 4), .mov (.con (.int .i64 0)), none⟩,
    ⟨(some 5), .mov (.con (.int .i64 1)), none⟩])
  .ret)
  .skip))
  (.seq (.seq (.ops [⟨(some 41), .mov (.tmp 0), none⟩,
    ⟨(some 42), .nilChk (.tmp 41), none⟩,
    ⟨(some 43), .fieldAddr 0 (.tmp 42), none⟩,
    ⟨(some 44), .load false 1 (.tmp 43), none⟩,
    ⟨(some 45), .mov (.tmp 6), none⟩,
    ⟨(some 46), .idxAddr 4 (.tmp 44) (.tmp 45), none⟩,
    ⟨(some 47), .fieldAddr 1 (.tmp 46), none⟩,
    ⟨(some 48), .load false 1 (.tmp 47), none⟩,
    ⟨(some 49), .mov (.tmp 7), none⟩,
    ⟨(some 50), .bin .neq (.tmp 48) (.tmp 49), none⟩])
  (.cond (.tmp 50)
  (.seq (.ops [⟨(some 4), .mov (.con (.int .i64 0)), none⟩,
    ⟨(some 5), .mov (.con (.int .i64 4)), none⟩])
  .ret)
  .skip))
  (.seq (.seq (.ops [⟨(some 51), .mov (.tmp 0), none⟩,
    ⟨(some 52), .nilChk (.tmp 51), none⟩,
    ⟨(some 53), .fieldAddr 0 (.tmp 52), none⟩,
    ⟨(some 54), .load false 1 (.tmp 53), none⟩,
    ⟨(some 55), .mov (.tmp 6), none⟩,
    ⟨(some 56), .idxAddr 4 (.tmp 54) (.tmp 55), none⟩,
    ⟨(some 57), .fieldAddr 2 (.tmp 56), none⟩,
    ⟨(some 58), .load false 1 (.tmp 57), none⟩,
    ⟨(some 59), .un .not (.tmp 58), none⟩])
  (.cond (.tmp 59)
  (.seq (.ops [⟨(some 4), .mov (.con (.int .i64 0)), none⟩,
    ⟨(some 5), .mov (.con (.int .i64 3)), none⟩])
  .ret)
  .skip))
  (.seq (.ops [⟨(some 60), .mov (.tmp 6), none⟩,
    ⟨(some 4), .mov (.tmp 60), none⟩,
    ⟨(some 5), .mov (.con (.int .i64 0)), none⟩])
  .ret))))))
def a49 : AFunc := ⟨2, c49, [.tmp 4, .tmp 5]⟩

/- 83: tendril/tendrilref1.fill -/
def c83 : ACode := (.seq (.ops [⟨(some 4), .mov (.con .nilSlice), none⟩])
  (.seq (.ops [⟨(some 6), .mov (.tmp 0), none⟩,
    ⟨(some 7), .call 41 [(.tmp 6)], none⟩,
    ⟨(some 8), .mkSlice 1 8 [(.int .u64 0)] (.tmp 7) (.tmp 7), none⟩,
    ⟨(some 5), .mov (.tmp 8), none⟩])
  (.seq (.ops [⟨(some 9), .mov (.tmp 5), none⟩,
    ⟨(some 10), .mov (.tmp 1), none⟩,
    ⟨(some 11), .copy 1 (.tmp 9) (.tmp 10), none⟩])
  (.seq (.ops [⟨(some 12), .mov (.tmp 5), none⟩,
    ⟨(some 4), .mov (.tmp 12), none⟩])
  .ret))))
def a83 : AFunc := ⟨2, c83, [.tmp 4]⟩

/- rows -/
def table : Nat → Option AFunc
  | 3 => some a3
  | 4 => some a4
  | 5 => some a5
  | 7 => some a7
  | 8 => some a8
  | 11 => some a11
  | 12 => some a12
  | 13 => some a13
  | 14 => some a14
  | 15 => some a15
  | 16 => some a16
  | 17 => some a17
  | 18 => some a18
  | 19 => some a19
  | 25 => some a25
  | 27 => some a27
  | 28 => some a28
  | 30 => some a30
  | 29 => some a29
  | 31 => some a31
  | 32 => some a32
  | 33 => some a33
  | 34 => some a34
  | 35 => some a35
  | 36 => some a36
  | 37 => some a37
  | 38 => some a38
  | 39 => some a39
  | 40 => some a40
  | 41 => some a41
  | 42 => some a42
  | 43 => some a43
  | 44 => some a44
  | 45 => some a45
  | 58 => some a58
  | 59 => some a59
  | 60 => some a60
  | 61 => some a61
  | 66 => some a66
  | 62 => some a62
  | 67 => some a67
  | 68 => some a68
  | 63 => some a63
  | 64 => some a64
  | 65 => some a65
  | 69 => some a69
  | 70 => some a70
  | 71 => some a71
  | 72 => some a72
  | 73 => some a73
  | 74 => some a74
  | 75 => some a75
  | 76 => some a76
  | 77 => some a77
  | 78 => some a78
  | 79 => some a79
  | 86 => some a86
  | 87 => some a87
  | 88 => some a88
  | 89 => some a89
  | 91 => some a91
  | 92 => some a92
  | 93 => some a93
  | 94 => some a94
  | 90 => some a90
  | 95 => some a95
  | 96 => some a96
  | 97 => some a97
  | 85 => some a85
  | 123 => some a123
  | 119 => some a119
  | 98 => some a98
  | 99 => some a99
  | 50 => some a50
  | 121 => some a121
  | 100 => some a100
  | 122 => some a122
  | 84 => some a84
  | 120 => some a120
  | 101 => some a101
  | 102 => some a102
  | 49 => some a49
  | 83 => some a83
  | _ => none
theorem k3 : cFunc Try.prog Try.f3 = some a3 := by kernel_rfl
theorem k4 : cFunc Try.prog Try.f4 = some a4 := by kernel_rfl
theorem k5 : cFunc Try.prog Try.f5 = some a5 := by kernel_rfl
theorem k7 : cFunc Try.prog Try.f7 = some a7 := by kernel_rfl
theorem k8 : cFunc Try.prog Try.f8 = some a8 := by kernel_rfl
theorem k11 : cFunc Try.prog Try.f11 = some a11 := by kernel_rfl
theorem k12 : cFunc Try.prog Try.f12 = some a12 := by kernel_rfl
theorem k13 : cFunc Try.prog Try.f13 = some a13 := by kernel_rfl
theorem k14 : cFunc Try.prog Try.f14 = some a14 := by kernel_rfl
theorem k15 : cFunc Try.prog Try.f15 = some a15 := by kernel_rfl
theorem k16 : cFunc Try.prog Try.f16 = some a16 := by kernel_rfl
theorem k17 : cFunc Try.prog Try.f17 = some a17 := by kernel_rfl
theorem k18 : cFunc Try.prog Try.f18 = some a18 := by kernel_rfl
theorem k19 : cFunc Try.prog Try.f19 = some a19 := by kernel_rfl
theorem k25 : cFunc Try.prog Try.f25 = some a25 := by kernel_rfl
theorem k27 : cFunc Try.prog Try.f27 = some a27 := by kernel_rfl
theorem k28 : cFunc Try.prog Try.f28 = some a28 := by kernel_rfl
theorem k30 : cFunc Try.prog Try.f30 = some a30 := by kernel_rfl
theorem k29 : cFunc Try.prog Try.f29 = some a29 := by kernel_rfl
theorem k31 : cFunc Try.prog Try.f31 = some a31 := by kernel_rfl
theorem k32 : cFunc Try.prog Try.f32 = some a32 := by kernel_rfl
theorem k33 : cFunc Try.prog Try.f33 = some a33 := by kernel_rfl
theorem k34 : cFunc Try.prog Try.f34 = some a34 := by kernel_rfl
theorem k35 : cFunc Try.prog Try.f35 = some a35 := by kernel_rfl
theorem k36 : cFunc Try.prog Try.f36 = some a36 := by kernel_rfl
theorem k37 : cFunc Try.prog Try.f37 = some a37 := by kernel_rfl
theorem k38 : cFunc Try.prog Try.f38 = some a38 := by kernel_rfl
theorem k39 : cFunc Try.prog Try.f39 = some a39 := by kernel_rfl
theorem k40 : cFunc Try.prog Try.f40 = some a40 := by kernel_rfl
theorem k41 : cFunc Try.prog Try.f41 = some a41 := by kernel_rfl
theorem k42 : cFunc Try.prog Try.f42 = some a42 := by kernel_rfl
theorem k43 : cFunc Try.prog Try.f43 = some a43 := by kernel_rfl
theorem k44 : cFunc Try.prog Try.f44 = some a44 := by kernel_rfl
theorem k45 : cFunc Try.prog Try.f45 = some a45 := by kernel_rfl
theorem k58 : cFunc Try.prog Try.f58 = some a58 := by kernel_rfl
theorem k59 : cFunc Try.prog Try.f59 = some a59 := by kernel_rfl
theorem k60 : cFunc Try.prog Try.f60 = some a60 := by kernel_rfl
theorem k61 : cFunc Try.prog Try.f61 = some a61 := by kernel_rfl
theorem k66 : cFunc Try.prog Try.f66 = some a66 := by kernel_rfl
theorem k62 : cFunc Try.prog Try.f62 = some a62 := by kernel_rfl
theorem k67 : cFunc Try.prog Try.f67 = some a67 := by kernel_rfl
theorem k68 : cFunc Try.prog Try.f68 = some a68 := by kernel_rfl
theorem k63 : cFunc Try.prog Try.f63 = some a63 := by kernel_rfl
theorem k64 : cFunc Try.prog Try.f64 = some a64 := by kernel_rfl
theorem k65 : cFunc Try.prog Try.f65 = some a65 := by kernel_rfl
theorem k69 : cFunc Try.prog Try.f69 = some a69 := by kernel_rfl
theorem k70 : cFunc Try.prog Try.f70 = some a70 := by kernel_rfl
theorem k71 : cFunc Try.prog Try.f71 = some a71 := by kernel_rfl
theorem k72 : cFunc Try.prog Try.f72 = some a72 := by kernel_rfl
theorem k73 : cFunc Try.prog Try.f73 = some a73 := by kernel_rfl
theorem k74 : cFunc Try.prog Try.f74 = some a74 := by kernel_rfl
theorem k75 : cFunc Try.prog Try.f75 = some a75 := by kernel_rfl
theorem k76 : cFunc Try.prog Try.f76 = some a76 := by kernel_rfl
theorem k77 : cFunc Try.prog Try.f77 = some a77 := by kernel_rfl
theorem k78 : cFunc Try.prog Try.f78 = some a78 := by kernel_rfl
theorem k79 : cFunc Try.prog Try.f79 = some a79 := by kernel_rfl
theorem k86 : cFunc Try.prog Try.f86 = some a86 := by kernel_rfl
theorem k87 : cFunc Try.prog Try.f87 = some a87 := by kernel_rfl
theorem k88 : cFunc Try.prog Try.f88 = some a88 := by kernel_rfl
theorem k89 : cFunc Try.prog Try.f89 = some a89 := by kernel_rfl
theorem k91 : cFunc Try.prog Try.f91 = some a91 := by kernel_rfl
theorem k92 : cFunc Try.prog Try.f92 = some a92 := by kernel_rfl
theorem k93 : cFunc Try.prog Try.f93 = some a93 := by kernel_rfl
theorem k94 : cFunc Try.prog Try.f94 = some a94 := by kernel_rfl
theorem k90 : cFunc Try.prog Try.f90 = some a90 := by kernel_rfl
theorem k95 : cFunc Try.prog Try.f95 = some a95 := by kernel_rfl
theorem k96 : cFunc Try.prog Try.f96 = some a96 := by kernel_rfl
theorem k97 : cFunc Try.prog Try.f97 = some a97 := by kernel_rfl
theorem k85 : cFunc Try.prog Try.f85 = some a85 := by kernel_rfl
theorem k123 : cFunc Try.prog Try.f123 = some a123 := by kernel_rfl
theorem k119 : cFunc Try.prog Try.f119 = some a119 := by kernel_rfl
theorem k98 : cFunc Try.prog Try.f98 = some a98 := by kernel_rfl
theorem k99 : cFunc Try.prog Try.f99 = some a99 := by kernel_rfl
theorem k50 : cFunc Try.prog Try.f50 = some a50 := by kernel_rfl
theorem k121 : cFunc Try.prog Try.f121 = some a121 := by kernel_rfl
theorem k100 : cFunc Try.prog Try.f100 = some a100 := by kernel_rfl
theorem k122 : cFunc Try.prog Try.f122 = some a122 := by kernel_rfl
theorem k84 : cFunc Try.prog Try.f84 = some a84 := by kernel_rfl
theorem k120 : cFunc Try.prog Try.f120 = some a120 := by kernel_rfl
theorem k101 : cFunc Try.prog Try.f101 = some a101 := by kernel_rfl
theorem k102 : cFunc Try.prog Try.f102 = some a102 := by kernel_rfl
theorem k49 : cFunc Try.prog Try.f49 = some a49 := by kernel_rfl
theorem k83 : cFunc Try.prog Try.f83 = some a83 := by kernel_rfl
theorem table_ok : ∀ g af, table g = some af → ∃ fn, Try.prog.funcs[g]? = some fn ∧ cFunc Try.prog fn = some af := by
  intro g af h
  unfold table at h
  split at h
  · cases h; exact ⟨Try.f3, Try.func3, k3⟩
  · cases h; exact ⟨Try.f4, Try.func4, k4⟩
  · cases h; exact ⟨Try.f5, Try.func5, k5⟩
  · cases h; exact ⟨Try.f7, Try.func7, k7⟩
  · cases h; exact ⟨Try.f8, Try.func8, k8⟩
  · cases h; exact ⟨Try.f11, Try.func11, k11⟩
  · cases h; exact ⟨Try.f12, Try.func12, k12⟩
  · cases h; exact ⟨Try.f13, Try.func13, k13⟩
  · cases h; exact ⟨Try.f14, Try.func14, k14⟩
  · cases h; exact ⟨Try.f15, Try.func15, k15⟩
  · cases h; exact ⟨Try.f16, Try.func16, k16⟩
  · cases h; exact ⟨Try.f17, Try.func17, k17⟩
  · cases h; exact ⟨Try.f18, Try.func18, k18⟩
  · cases h; exact ⟨Try.f19, Try.func19, k19⟩
  · cases h; exact ⟨Try.f25, Try.func25, k25⟩
  · cases h; exact ⟨Try.f27, Try.func27, k27⟩
  · cases h; exact ⟨Try.f28, Try.func28, k28⟩
  · cases h; exact ⟨Try.f30, Try.func30, k30⟩
  · cases h; exact ⟨Try.f29, Try.func29, k29⟩
  · cases h; exact ⟨Try.f31, Try.func31, k31⟩
  · cases h; exact ⟨Try.f32, Try.func32, k32⟩
  · cases h; exact ⟨Try.f33, Try.func33, k33⟩
  · cases h; exact ⟨Try.f34, Try.func34, k34⟩
  · cases h; exact ⟨Try.f35, Try.func35, k35⟩
  · cases h; exact ⟨Try.f36, Try.func36, k36⟩
  · cases h; exact ⟨Try.f37, Try.func37, k37⟩
  · cases h; exact ⟨Try.f38, Try.func38, k38⟩
  · cases h; exact ⟨Try.f39, Try.func39, k39⟩
  · cases h; exact ⟨Try.f40, Try.func40, k40⟩
  · cases h; exact ⟨Try.f41, Try.func41, k41⟩
  · cases h; exact ⟨Try.f42, Try.func42, k42⟩
  · cases h; exact ⟨Try.f43, Try.func43, k43⟩
  · cases h; exact ⟨Try.f44, Try.func44, k44⟩
  · cases h; exact ⟨Try.f45, Try.func45, k45⟩
  · cases h; exact ⟨Try.f58, Try.func58, k58⟩
  · cases h; exact ⟨Try.f59, Try.func59, k59⟩
  · cases h; exact ⟨Try.f60, Try.func60, k60⟩
  · cases h; exact ⟨Try.f61, Try.func61, k61⟩
  · cases h; exact ⟨Try.f66, Try.func66, k66⟩
  · cases h; exact ⟨Try.f62, Try.func62, k62⟩
  · cases h; exact ⟨Try.f67, Try.func67, k67⟩
  · cases h; exact ⟨Try.f68, Try.func68, k68⟩
  · cases h; exact ⟨Try.f63, Try.func63, k63⟩
  · cases h; exact ⟨Try.f64, Try.func64, k64⟩
  · cases h; exact ⟨Try.f65, Try.func65, k65⟩
  · cases h; exact ⟨Try.f69, Try.func69, k69⟩
  · cases h; exact ⟨Try.f70, Try.func70, k70⟩
  · cases h; exact ⟨Try.f71, Try.func71, k71⟩
  · cases h; exact ⟨Try.f72, Try.func72, k72⟩
  · cases h; exact ⟨Try.f73, Try.func73, k73⟩
  · cases h; exact ⟨Try.f74, Try.func74, k74⟩
  · cases h; exact ⟨Try.f75, Try.func75, k75⟩
  · cases h; exact ⟨Try.f76, Try.func76, k76⟩
  · cases h; exact ⟨Try.f77, Try.func77, k77⟩
  · cases h; exact ⟨Try.f78, Try.func78, k78⟩
  · cases h; exact ⟨Try.f79, Try.func79, k79⟩
  · cases h; exact ⟨Try.f86, Try.func86, k86⟩
  · cases h; exact ⟨Try.f87, Try.func87, k87⟩
  · cases h; exact ⟨Try.f88, Try.func88, k88⟩
  · cases h; exact ⟨Try.f89, Try.func89, k89⟩
  · cases h; exact ⟨Try.f91, Try.func91, k91⟩
  · cases h; exact ⟨Try.f92, Try.func92, k92⟩
  · cases h; exact ⟨Try.f93, Try.func93, k93⟩
  · cases h; exact ⟨Try.f94, Try.func94, k94⟩
  · cases h; exact ⟨Try.f90, Try.func90, k90⟩
  · cases h; exact ⟨Try.f95, Try.func95, k95⟩
  · cases h; exact ⟨Try.f96, Try.func96, k96⟩
  · cases h; exact ⟨Try.f97, Try.func97, k97⟩
  · cases h; exact ⟨Try.f85, Try.func85, k85⟩
  · cases h; exact ⟨Try.f123, Try.func123, k123⟩
  · cases h; exact ⟨Try.f119, Try.func119, k119⟩
  · cases h; exact ⟨Try.f98, Try.func98, k98⟩
  · cases h; exact ⟨Try.f99, Try.func99, k99⟩
  · cases h; exact ⟨Try.f50, Try.func50, k50⟩
  · cases h; exact ⟨Try.f121, Try.func121, k121⟩
  · cases h; exact ⟨Try.f100, Try.func100, k100⟩
  · cases h; exact ⟨Try.f122, Try.func122, k122⟩
  · cases h; exact ⟨Try.f84, Try.func84, k84⟩
  · cases h; exact ⟨Try.f120, Try.func120, k120⟩
  · cases h; exact ⟨Try.f101, Try.func101, k101⟩
  · cases h; exact ⟨Try.f102, Try.func102, k102⟩
  · cases h; exact ⟨Try.f49, Try.func49, k49⟩
  · cases h; exact ⟨Try.f83, Try.func83, k83⟩
  · cases h
end Go.Proofs.Ytagcnjhpdopkiaa

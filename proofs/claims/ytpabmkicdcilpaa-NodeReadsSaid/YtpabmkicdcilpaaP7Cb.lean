/- The abstract code of the functions that the laws reach, as a program printed it; each is what the compiler makes of the given function. -/
import Derived.Test.YtpabmkicdcilpaaVmZ
namespace Go.Proofs.Ytpabmkicdcilpaa
open Go.Vm

/- 50: tendril/tendrilbook.Roomy[uint64] -/
def c50l0 : ACode := (.seq (.seq (.ops [⟨(some 16), .mov (.tmp 6), none⟩,
    ⟨(some 17), .mov (.tmp 5), none⟩,
    ⟨(some 18), .lenSlice (.tmp 17), none⟩,
    ⟨(some 19), .bin .lss (.tmp 16) (.tmp 18), none⟩])
  (.cond (.tmp 19)
  .skip
  (.exit 0)))
  (.seq (.block 1 (.ops [⟨(some 22), .mov (.tmp 5), none⟩,
    ⟨(some 23), .mov (.tmp 6), none⟩,
    ⟨(some 24), .mov (.tmp 1), none⟩,
    ⟨(some 25), .idxAddr 1 (.tmp 22) (.tmp 23), none⟩,
    ⟨none, .store 1 (.tmp 25) (.tmp 24), none⟩]))
  (.ops [⟨(some 20), .mov (.tmp 6), none⟩,
    ⟨(some 21), .bin .add (.tmp 20) (.con (.int .i64 1)), none⟩,
    ⟨(some 6), .mov (.tmp 21), none⟩])))
def c50 : ACode := (.seq (.ops [⟨(some 4), .mov (.con .nilSlice), none⟩])
  (.seq (.ops [⟨(some 7), .mov (.tmp 0), none⟩,
    ⟨(some 8), .lenSlice (.tmp 7), none⟩,
    ⟨(some 9), .bin .add (.tmp 8) (.con (.int .i64 80)), none⟩,
    ⟨(some 10), .mkSlice 1 8 [(.int .u64 0)] (.tmp 9) (.tmp 9), none⟩,
    ⟨(some 5), .mov (.tmp 10), none⟩])
  (.seq (.ops [⟨(some 11), .mov (.tmp 5), none⟩,
    ⟨(some 12), .mov (.tmp 0), none⟩,
    ⟨(some 13), .copy 1 (.tmp 11) (.tmp 12), none⟩])
  (.seq (.seq (.ops [⟨(some 14), .mov (.tmp 0), none⟩,
    ⟨(some 15), .lenSlice (.tmp 14), none⟩,
    ⟨(some 6), .mov (.tmp 15), none⟩])
  (.block 0 (.loop c50l0)))
  (.seq (.ops [⟨(some 26), .mov (.tmp 5), none⟩,
    ⟨(some 4), .mov (.tmp 26), none⟩])
  .ret)))))
def a50 : AFunc := ⟨2, c50, [.tmp 4]⟩

/- 51: tendril/tendrilref1.Decode -/
def c51l0 : ACode := (.seq (.ops [⟨(some 84), .bin .lss (.tmp 83) (.tmp 82), none⟩])
  (.seq (.cond (.tmp 84)
  .skip
  (.exit 0))
  (.seq (.block 1 (.seq (.ops [⟨(some 85), .mov (.tmp 83), none⟩,
    ⟨(some 9), .mov (.tmp 85), none⟩])
  (.seq (.ops [⟨(some 86), .mov (.tmp 8), none⟩,
    ⟨(some 87), .mov (.tmp 9), none⟩,
    ⟨(some 88), .idxAddr 1 (.tmp 86) (.tmp 87), none⟩,
    ⟨(some 89), .load false 1 (.tmp 88), none⟩,
    ⟨(some 90), .mov (.tmp 0), none⟩,
    ⟨(some 91), .mov (.tmp 9), none⟩,
    ⟨(some 92), .idxAddr 1 (.tmp 90) (.tmp 91), none⟩,
    ⟨(some 93), .load false 1 (.tmp 92), none⟩,
    ⟨(some 94), .bin .neq (.tmp 89) (.tmp 93), none⟩])
  (.cond (.tmp 94)
  (.seq (.ops [⟨(some 95), .build [(.int .i64 0), (.int .u64 0), (.str []), .nilSlice, .nilSlice] [], none⟩,
    ⟨none, .store 5 (.tmp 2) (.tmp 95), none⟩,
    ⟨(some 3), .mov (.con (.bool false)), none⟩])
  .ret)
  .skip))))
  (.ops [⟨(some 96), .bin .add (.tmp 83) (.con (.int .i64 1)), none⟩,
    ⟨(some 83), .mov (.tmp 96), none⟩]))))
def c51 : ACode := (.seq (.ops [⟨(some 2), .new [(.int .i64 0), (.int .u64 0), (.str []), .nilSlice, .nilSlice], none⟩,
    ⟨(some 3), .mov (.con (.bool false)), none⟩])
  (.seq (.seq (.ops [⟨(some 10), .mov (.tmp 0), none⟩,
    ⟨(some 11), .lenSlice (.tmp 10), none⟩,
    ⟨(some 12), .bin .lss (.tmp 11) (.con (.int .i64 4)), none⟩])
  (.cond (.tmp 12)
  (.seq (.ops [⟨(some 13), .build [(.int .i64 0), (.int .u64 0), (.str []), .nilSlice, .nilSlice] [], none⟩,
    ⟨none, .store 5 (.tmp 2) (.tmp 13), none⟩,
    ⟨(some 3), .mov (.con (.bool false)), none⟩])
  .ret)
  .skip))
  (.seq (.draw [.op ⟨(some 14), .mov (.tmp 0), none⟩,
    .op ⟨(some 15), .idxAddr 1 (.tmp 14) (.con (.int .i64 1)), none⟩,
    .op ⟨(some 16), .load false 1 (.tmp 15), none⟩,
    .op ⟨(some 17), .bin .and (.tmp 16) (.con (.int .u64 255)), none⟩,
    .op ⟨(some 18), .toInt .i64 (.tmp 17), none⟩,
    .op ⟨(some 19), .mov (.tmp 0), none⟩,
    .op ⟨(some 20), .idxAddr 1 (.tmp 19) (.con (.int .i64 0)), none⟩,
    .op ⟨(some 21), .load false 1 (.tmp 20), none⟩,
    .op ⟨(some 22), .build [(.int .i64 0), (.int .u64 0), (.str []), .nilSlice, .nilSlice] [(0, 1, (.tmp 18)), (1, 1, (.tmp 21))], none⟩,
    .op ⟨(some 4), .new [(.int .i64 0), (.int .u64 0), (.str []), .nilSlice, .nilSlice], none⟩,
    .look ⟨(some 16), .load false 1 (.tmp 15), none⟩,
    .look ⟨(some 21), .load false 1 (.tmp 20), none⟩,
    .look ⟨(some 4), .new [(.int .i64 0), (.int .u64 0), (.str []), .nilSlice, .nilSlice], none⟩,
    .op ⟨none, .store 5 (.tmp 4) (.tmp 22), none⟩])
  (.seq (.ops [⟨(some 23), .mov (.tmp 0), none⟩,
    ⟨(some 24), .idxAddr 1 (.tmp 23) (.con (.int .i64 1)), none⟩,
    ⟨(some 25), .load false 1 (.tmp 24), none⟩,
    ⟨(some 26), .bin .shr (.tmp 25) (.con (.int .u64 16)), none⟩,
    ⟨(some 27), .bin .and (.tmp 26) (.con (.int .u64 65535)), none⟩,
    ⟨(some 28), .toInt .i64 (.tmp 27), none⟩,
    ⟨(some 5), .mov (.tmp 28), none⟩])
  (.seq (.seq (.ops [⟨(some 29), .fieldAddr 0 (.tmp 4), none⟩,
    ⟨(some 30), .load false 1 (.tmp 29), none⟩,
    ⟨(some 31), .bin .lss (.tmp 30) (.con (.int .i64 1)), none⟩,
    ⟨(some 32), .mov (.tmp 31), none⟩,
    ⟨(some 33), .fieldAddr 0 (.tmp 4), (some (32, false))⟩,
    ⟨(some 34), .load false 1 (.tmp 33), (some (32, false))⟩,
    ⟨(some 35), .bin .gtr (.tmp 34) (.con (.int .i64 4)), (some (32, false))⟩,
    ⟨(some 36), .pick (.tmp 32) (.con (.bool true)) (.tmp 35), none⟩,
    ⟨(some 37), .mov (.tmp 36), none⟩,
    ⟨(some 38), .mov (.tmp 0), (some (37, false))⟩,
    ⟨(some 39), .lenSlice (.tmp 38), (some (37, false))⟩,
    ⟨(some 40), .fieldAddr 0 (.tmp 4), (some (37, false))⟩,
    ⟨(some 41), .load false 1 (.tmp 40), (some (37, false))⟩,
    ⟨(some 42), .call 71 [(.tmp 41)], (some (37, false))⟩,
    ⟨(some 43), .bin .neq (.tmp 39) (.tmp 42), (some (37, false))⟩,
    ⟨(some 44), .pick (.tmp 37) (.con (.bool true)) (.tmp 43), none⟩])
  (.cond (.tmp 44)
  (.seq (.ops [⟨(some 45), .build [(.int .i64 0), (.int .u64 0), (.str []), .nilSlice, .nilSlice] [], none⟩,
    ⟨none, .store 5 (.tmp 2) (.tmp 45), none⟩,
    ⟨(some 3), .mov (.con (.bool false)), none⟩])
  .ret)
  .skip))
  (.seq (.ops [⟨(some 47), .mov (.tmp 0), none⟩,
    ⟨(some 48), .slc 1 (.tmp 47) (some (.con (.int .i64 2))) (some (.con (.int .i64 4))) none, none⟩,
    ⟨(some 49), .mov (.tmp 0), none⟩,
    ⟨(some 50), .idxAddr 1 (.tmp 49) (.con (.int .i64 1)), none⟩,
    ⟨(some 51), .load false 1 (.tmp 50), none⟩,
    ⟨(some 52), .bin .shr (.tmp 51) (.con (.int .u64 8)), none⟩,
    ⟨(some 53), .bin .and (.tmp 52) (.con (.int .u64 255)), none⟩,
    ⟨(some 54), .toInt .i64 (.tmp 53), none⟩,
    ⟨(some 55), .call 72 [(.tmp 48), (.tmp 54)], none⟩,
    ⟨(some 46), .mov (.tmp 55), none⟩,
    ⟨(some 56), .extract (.tmp 46) 0, none⟩,
    ⟨(some 57), .extract (.tmp 46) 1, none⟩,
    ⟨(some 6), .mov (.tmp 56), none⟩,
    ⟨(some 7), .mov (.tmp 57), none⟩])
  (.seq (.seq (.ops [⟨(some 58), .mov (.tmp 7), none⟩,
    ⟨(some 59), .bin .neq (.tmp 58) (.con (.int .i64 0)), none⟩])
  (.cond (.tmp 59)
  (.seq (.ops [⟨(some 60), .build [(.int .i64 0), (.int .u64 0), (.str []), .nilSlice, .nilSlice] [], none⟩,
    ⟨none, .store 5 (.tmp 2) (.tmp 60), none⟩,
    ⟨(some 3), .mov (.con (.bool false)), none⟩])
  .ret)
  .skip))
  (.seq (.ops [⟨(some 61), .mov (.tmp 6), none⟩,
    ⟨(some 62), .fieldAddr 2 (.tmp 4), none⟩,
    ⟨none, .store 1 (.tmp 62) (.tmp 61), none⟩])
  (.seq (.ops [⟨(some 64), .fieldAddr 0 (.tmp 4), none⟩,
    ⟨(some 65), .load false 1 (.tmp 64), none⟩,
    ⟨(some 66), .mov (.tmp 5), none⟩,
    ⟨(some 67), .mov (.tmp 0), none⟩,
    ⟨(some 68), .call 77 [(.tmp 65), (.tmp 66), (.tmp 67)], none⟩,
    ⟨(some 63), .mov (.tmp 68), none⟩,
    ⟨(some 69), .extract (.tmp 63) 0, none⟩,
    ⟨(some 70), .extract (.tmp 63) 1, none⟩,
    ⟨(some 71), .fieldAddr 3 (.tmp 4), none⟩,
    ⟨none, .store 1 (.tmp 71) (.tmp 69), none⟩,
    ⟨(some 72), .fieldAddr 4 (.tmp 4), none⟩,
    ⟨none, .store 1 (.tmp 72) (.tmp 70), none⟩])
  (.seq (.ops [⟨(some 73), .load true 5 (.tmp 4), none⟩,
    ⟨(some 74), .call 38 [(.tmp 73)], none⟩,
    ⟨(some 8), .mov (.tmp 74), none⟩])
  (.seq (.seq (.ops [⟨(some 75), .mov (.tmp 8), none⟩,
    ⟨(some 76), .lenSlice (.tmp 75), none⟩,
    ⟨(some 77), .mov (.tmp 0), none⟩,
    ⟨(some 78), .lenSlice (.tmp 77), none⟩,
    ⟨(some 79), .bin .neq (.tmp 76) (.tmp 78), none⟩])
  (.cond (.tmp 79)
  (.seq (.ops [⟨(some 80), .build [(.int .i64 0), (.int .u64 0), (.str []), .nilSlice, .nilSlice] [], none⟩,
    ⟨none, .store 5 (.tmp 2) (.tmp 80), none⟩,
    ⟨(some 3), .mov (.con (.bool false)), none⟩])
  .ret)
  .skip))
  (.seq (.seq (.ops [⟨(some 81), .mov (.tmp 8), none⟩,
    ⟨(some 82), .lenSlice (.tmp 81), none⟩,
    ⟨(some 83), .mov (.con (.int .i64 0)), none⟩])
  (.block 0 (.loop c51l0)))
  (.seq (.ops [⟨(some 97), .load true 5 (.tmp 4), none⟩,
    ⟨none, .store 5 (.tmp 2) (.tmp 97), none⟩,
    ⟨(some 3), .mov (.con (.bool true)), none⟩])
  .ret)))))))))))))
def a51 : AFunc := ⟨1, c51, [.cell 2 true 5, .tmp 3]⟩

/- 52: tendril/tendrilbook.Intact[uint64] -/
def c52l0 : ACode := (.seq (.seq (.ops [⟨(some 25), .mov (.tmp 7), none⟩,
    ⟨(some 26), .mov (.tmp 0), none⟩,
    ⟨(some 27), .lenSlice (.tmp 26), none⟩,
    ⟨(some 28), .bin .lss (.tmp 25) (.tmp 27), none⟩])
  (.cond (.tmp 28)
  .skip
  (.exit 0)))
  (.seq (.block 1 (.seq (.ops [⟨(some 31), .mov (.tmp 0), none⟩,
    ⟨(some 32), .mov (.tmp 7), none⟩,
    ⟨(some 33), .idxAddr 1 (.tmp 31) (.tmp 32), none⟩,
    ⟨(some 34), .load false 1 (.tmp 33), none⟩,
    ⟨(some 35), .mov (.tmp 2), none⟩,
    ⟨(some 36), .bin .neq (.tmp 34) (.tmp 35), none⟩])
  (.cond (.tmp 36)
  (.seq (.ops [⟨(some 6), .mov (.con (.bool false)), none⟩])
  .ret)
  .skip)))
  (.ops [⟨(some 29), .mov (.tmp 7), none⟩,
    ⟨(some 30), .bin .add (.tmp 29) (.con (.int .i64 1)), none⟩,
    ⟨(some 7), .mov (.tmp 30), none⟩])))
def c52 : ACode := (.seq (.ops [⟨(some 6), .mov (.con (.bool false)), none⟩])
  (.seq (.seq (.ops [⟨(some 8), .mov (.tmp 0), none⟩,
    ⟨(some 9), .lenSlice (.tmp 8), none⟩,
    ⟨(some 10), .mov (.tmp 1), none⟩,
    ⟨(some 11), .lenSlice (.tmp 10), none⟩,
    ⟨(some 12), .bin .add (.tmp 11) (.con (.int .i64 80)), none⟩,
    ⟨(some 13), .bin .neq (.tmp 9) (.tmp 12), none⟩,
    ⟨(some 14), .mov (.tmp 13), none⟩,
    ⟨(some 15), .mov (.tmp 0), (some (14, false))⟩,
    ⟨(some 16), .mov (.tmp 1), (some (14, false))⟩,
    ⟨(some 17), .lenSlice (.tmp 16), (some (14, false))⟩,
    ⟨(some 18), .slc 1 (.tmp 15) none (some (.tmp 17)) none, (some (14, false))⟩,
    ⟨(some 19), .mov (.tmp 1), (some (14, false))⟩,
    ⟨(some 20), .call 18 [(.tmp 18), (.tmp 19)], (some (14, false))⟩,
    ⟨(some 21), .un .not (.tmp 20), (some (14, false))⟩,
    ⟨(some 22), .pick (.tmp 14) (.con (.bool true)) (.tmp 21), none⟩])
  (.cond (.tmp 22)
  (.seq (.ops [⟨(some 6), .mov (.con (.bool false)), none⟩])
  .ret)
  .skip))
  (.seq (.seq (.ops [⟨(some 23), .mov (.tmp 1), none⟩,
    ⟨(some 24), .lenSlice (.tmp 23), none⟩,
    ⟨(some 7), .mov (.tmp 24), none⟩])
  (.block 0 (.loop c52l0)))
  (.seq (.ops [⟨(some 6), .mov (.con (.bool true)), none⟩])
  .ret))))
def a52 : AFunc := ⟨3, c52, [.tmp 6]⟩

/- 33: tendril/tendrilref1.With -/
def c33l0 : ACode := (.seq (.ops [⟨(some 41), .bin .lss (.tmp 40) (.tmp 39), none⟩])
  (.seq (.cond (.tmp 41)
  .skip
  (.exit 0))
  (.seq (.block 1 (.seq (.ops [⟨(some 42), .mov (.tmp 40), none⟩,
    ⟨(some 14), .mov (.tmp 42), none⟩])
  (.seq (.seq (.ops [⟨(some 43), .mov (.tmp 13), none⟩,
    ⟨(some 44), .un .not (.tmp 43), none⟩,
    ⟨(some 45), .mov (.tmp 44), none⟩,
    ⟨(some 46), .fieldAddr 3 (.tmp 3), (some (45, true))⟩,
    ⟨(some 47), .load false 1 (.tmp 46), (some (45, true))⟩,
    ⟨(some 48), .mov (.tmp 14), (some (45, true))⟩,
    ⟨(some 49), .idxAddr 1 (.tmp 47) (.tmp 48), (some (45, true))⟩,
    ⟨(some 50), .load false 1 (.tmp 49), (some (45, true))⟩,
    ⟨(some 51), .mov (.tmp 1), (some (45, true))⟩,
    ⟨(some 52), .bin .geq (.tmp 50) (.tmp 51), (some (45, true))⟩,
    ⟨(some 53), .pick (.tmp 45) (.tmp 52) (.con (.bool false)), none⟩])
  (.cond (.tmp 53)
  (.seq (.draw [.op ⟨(some 54), .fieldAddr 3 (.tmp 12), none⟩,
    .op ⟨(some 55), .load false 1 (.tmp 54), none⟩,
    .op ⟨(some 56), .mov (.tmp 1), none⟩,
    .op ⟨(some 57), .buildSlice 1 1 [(.int .u8 0)] [(0, 1, (.tmp 56))], none⟩,
    .op ⟨(some 59), .fieldAddr 4 (.tmp 12), none⟩,
    .op ⟨(some 60), .load false 1 (.tmp 59), none⟩,
    .op ⟨(some 61), .mov (.tmp 2), none⟩,
    .op ⟨(some 62), .buildSlice 1 1 [(.int .i64 0)] [(0, 1, (.tmp 61))], none⟩,
    .look ⟨(some 55), .load false 1 (.tmp 54), none⟩,
    .look ⟨(some 57), .buildSlice 1 1 [(.int .u8 0)] [(0, 1, (.tmp 56))], none⟩,
    .look ⟨(some 60), .load false 1 (.tmp 59), none⟩,
    .look ⟨(some 62), .buildSlice 1 1 [(.int .i64 0)] [(0, 1, (.tmp 61))], none⟩,
    .op ⟨(some 58), .append 1 1 (.tmp 55) (.tmp 57), none⟩,
    .op ⟨(some 64), .fieldAddr 3 (.tmp 12), none⟩,
    .look ⟨(some 60), .load false 1 (.tmp 59), none⟩,
    .look ⟨(some 62), .buildSlice 1 1 [(.int .i64 0)] [(0, 1, (.tmp 61))], none⟩,
    .op ⟨(some 63), .append 1 8 (.tmp 60) (.tmp 62), none⟩,
    .op ⟨none, .store 1 (.tmp 64) (.tmp 58), none⟩,
    .op ⟨(some 65), .fieldAddr 4 (.tmp 12), none⟩,
    .op ⟨none, .store 1 (.tmp 65) (.tmp 63), none⟩])
  (.ops [⟨(some 13), .mov (.con (.bool true)), none⟩]))
  .skip))
  (.seq (.ops [⟨(some 66), .fieldAddr 3 (.tmp 3), none⟩,
    ⟨(some 67), .load false 1 (.tmp 66), none⟩,
    ⟨(some 68), .mov (.tmp 14), none⟩,
    ⟨(some 69), .idxAddr 1 (.tmp 67) (.tmp 68), none⟩,
    ⟨(some 70), .load false 1 (.tmp 69), none⟩,
    ⟨(some 71), .mov (.tmp 1), none⟩,
    ⟨(some 72), .bin .neq (.tmp 70) (.tmp 71), none⟩])
  (.cond (.tmp 72)
  (.draw [.op ⟨(some 73), .fieldAddr 3 (.tmp 12), none⟩,
    .op ⟨(some 74), .load false 1 (.tmp 73), none⟩,
    .op ⟨(some 75), .fieldAddr 3 (.tmp 3), none⟩,
    .op ⟨(some 76), .load false 1 (.tmp 75), none⟩,
    .op ⟨(some 77), .mov (.tmp 14), none⟩,
    .op ⟨(some 78), .idxAddr 1 (.tmp 76) (.tmp 77), none⟩,
    .op ⟨(some 79), .load false 1 (.tmp 78), none⟩,
    .op ⟨(some 80), .buildSlice 1 1 [(.int .u8 0)] [(0, 1, (.tmp 79))], none⟩,
    .op ⟨(some 82), .fieldAddr 4 (.tmp 12), none⟩,
    .op ⟨(some 83), .load false 1 (.tmp 82), none⟩,
    .op ⟨(some 84), .fieldAddr 4 (.tmp 3), none⟩,
    .op ⟨(some 85), .load false 1 (.tmp 84), none⟩,
    .op ⟨(some 86), .mov (.tmp 14), none⟩,
    .op ⟨(some 87), .idxAddr 1 (.tmp 85) (.tmp 86), none⟩,
    .op ⟨(some 88), .load false 1 (.tmp 87), none⟩,
    .op ⟨(some 89), .buildSlice 1 1 [(.int .i64 0)] [(0, 1, (.tmp 88))], none⟩,
    .look ⟨(some 74), .load false 1 (.tmp 73), none⟩,
    .look ⟨(some 76), .load false 1 (.tmp 75), none⟩,
    .look ⟨(some 79), .load false 1 (.tmp 78), none⟩,
    .look ⟨(some 80), .buildSlice 1 1 [(.int .u8 0)] [(0, 1, (.tmp 79))], none⟩,
    .look ⟨(some 83), .load false 1 (.tmp 82), none⟩,
    .look ⟨(some 85), .load false 1 (.tmp 84), none⟩,
    .look ⟨(some 88), .load false 1 (.tmp 87), none⟩,
    .look ⟨(some 89), .buildSlice 1 1 [(.int .i64 0)] [(0, 1, (.tmp 88))], none⟩,
    .op ⟨(some 81), .append 1 1 (.tmp 74) (.tmp 80), none⟩,
    .op ⟨(some 91), .fieldAddr 3 (.tmp 12), none⟩,
    .look ⟨(some 83), .load false 1 (.tmp 82), none⟩,
    .look ⟨(some 85), .load false 1 (.tmp 84), none⟩,
    .look ⟨(some 88), .load false 1 (.tmp 87), none⟩,
    .look ⟨(some 89), .buildSlice 1 1 [(.int .i64 0)] [(0, 1, (.tmp 88))], none⟩,
    .op ⟨(some 90), .append 1 8 (.tmp 83) (.tmp 89), none⟩,
    .op ⟨none, .store 1 (.tmp 91) (.tmp 81), none⟩,
    .op ⟨(some 92), .fieldAddr 4 (.tmp 12), none⟩,
    .op ⟨none, .store 1 (.tmp 92) (.tmp 90), none⟩])
  .skip)))))
  (.ops [⟨(some 93), .bin .add (.tmp 40) (.con (.int .i64 1)), none⟩,
    ⟨(some 40), .mov (.tmp 93), none⟩]))))
def c33 : ACode := (.seq (.ops [⟨(some 3), .box (.tmp 0), none⟩,
    ⟨(some 6), .new [(.int .i64 0), (.int .u64 0), (.str []), .nilSlice, .nilSlice], none⟩,
    ⟨(some 7), .mov (.con (.bool false)), none⟩])
  (.seq (.seq (.ops [⟨(some 16), .mov (.tmp 2), none⟩,
    ⟨(some 17), .call 66 [(.tmp 16)], none⟩,
    ⟨(some 15), .mov (.tmp 17), none⟩,
    ⟨(some 18), .extract (.tmp 15) 0, none⟩,
    ⟨(some 19), .extract (.tmp 15) 1, none⟩,
    ⟨(some 20), .extract (.tmp 15) 2, none⟩,
    ⟨(some 21), .extract (.tmp 15) 3, none⟩,
    ⟨(some 8), .mov (.tmp 18), none⟩,
    ⟨(some 9), .mov (.tmp 19), none⟩,
    ⟨(some 10), .mov (.tmp 20), none⟩,
    ⟨(some 11), .mov (.tmp 21), none⟩])
  (.seq (.ops [⟨(some 22), .mov (.tmp 11), none⟩,
    ⟨(some 23), .un .not (.tmp 22), none⟩,
    ⟨(some 24), .mov (.tmp 23), none⟩,
    ⟨(some 25), .load true 5 (.tmp 3), (some (24, false))⟩,
    ⟨(some 26), .call 37 [(.tmp 25)], (some (24, false))⟩,
    ⟨(some 27), .un .not (.tmp 26), (some (24, false))⟩,
    ⟨(some 28), .pick (.tmp 24) (.con (.bool true)) (.tmp 27), none⟩])
  (.cond (.tmp 28)
  (.seq (.ops [⟨(some 29), .build [(.int .i64 0), (.int .u64 0), (.str []), .nilSlice, .nilSlice] [], none⟩,
    ⟨none, .store 5 (.tmp 6) (.tmp 29), none⟩,
    ⟨(some 7), .mov (.con (.bool false)), none⟩])
  .ret)
  .skip)))
  (.seq (.ops [⟨(some 30), .fieldAddr 0 (.tmp 3), none⟩,
    ⟨(some 31), .load false 1 (.tmp 30), none⟩,
    ⟨(some 32), .fieldAddr 1 (.tmp 3), none⟩,
    ⟨(some 33), .load false 1 (.tmp 32), none⟩,
    ⟨(some 34), .fieldAddr 2 (.tmp 3), none⟩,
    ⟨(some 35), .load false 1 (.tmp 34), none⟩,
    ⟨(some 36), .build [(.int .i64 0), (.int .u64 0), (.str []), .nilSlice, .nilSlice] [(0, 1, (.tmp 31)), (1, 1, (.tmp 33)), (2, 1, (.tmp 35))], none⟩,
    ⟨(some 12), .new [(.int .i64 0), (.int .u64 0), (.str []), .nilSlice, .nilSlice], none⟩,
    ⟨none, .store 5 (.tmp 12) (.tmp 36), none⟩])
  (.seq (.ops [⟨(some 13), .mov (.con (.bool false)), none⟩])
  (.seq (.seq (.ops [⟨(some 37), .fieldAddr 3 (.tmp 3), none⟩,
    ⟨(some 38), .load false 1 (.tmp 37), none⟩,
    ⟨(some 39), .lenSlice (.tmp 38), none⟩,
    ⟨(some 40), .mov (.con (.int .i64 0)), none⟩])
  (.block 0 (.loop c33l0)))
  (.seq (.seq (.ops [⟨(some 94), .mov (.tmp 13), none⟩,
    ⟨(some 95), .un .not (.tmp 94), none⟩])
  (.cond (.tmp 95)
  (.draw [.op ⟨(some 96), .fieldAddr 3 (.tmp 12), none⟩,
    .op ⟨(some 97), .load false 1 (.tmp 96), none⟩,
    .op ⟨(some 98), .mov (.tmp 1), none⟩,
    .op ⟨(some 99), .buildSlice 1 1 [(.int .u8 0)] [(0, 1, (.tmp 98))], none⟩,
    .op ⟨(some 101), .fieldAddr 4 (.tmp 12), none⟩,
    .op ⟨(some 102), .load false 1 (.tmp 101), none⟩,
    .op ⟨(some 103), .mov (.tmp 2), none⟩,
    .op ⟨(some 104), .buildSlice 1 1 [(.int .i64 0)] [(0, 1, (.tmp 103))], none⟩,
    .look ⟨(some 97), .load false 1 (.tmp 96), none⟩,
    .look ⟨(some 99), .buildSlice 1 1 [(.int .u8 0)] [(0, 1, (.tmp 98))], none⟩,
    .look ⟨(some 102), .load false 1 (.tmp 101), none⟩,
    .look ⟨(some 104), .buildSlice 1 1 [(.int .i64 0)] [(0, 1, (.tmp 103))], none⟩,
    .op ⟨(some 100), .append 1 1 (.tmp 97) (.tmp 99), none⟩,
    .op ⟨(some 106), .fieldAddr 3 (.tmp 12), none⟩,
    .look ⟨(some 102), .load false 1 (.tmp 101), none⟩,
    .look ⟨(some 104), .buildSlice 1 1 [(.int .i64 0)] [(0, 1, (.tmp 103))], none⟩,
    .op ⟨(some 105), .append 1 8 (.tmp 102) (.tmp 104), none⟩,
    .op ⟨none, .store 1 (.tmp 106) (.tmp 100), none⟩,
    .op ⟨(some 107), .fieldAddr 4 (.tmp 12), none⟩,
    .op ⟨none, .store 1 (.tmp 107) (.tmp 105), none⟩])
  .skip))
  (.seq (.seq (.draw [.op ⟨(some 108), .fieldAddr 3 (.tmp 12), none⟩,
    .op ⟨(some 109), .load false 1 (.tmp 108), none⟩,
    .op ⟨(some 110), .lenSlice (.tmp 109), none⟩,
    .op ⟨(some 111), .fieldAddr 0 (.tmp 3), none⟩,
    .op ⟨(some 112), .load false 1 (.tmp 111), none⟩,
    .op ⟨(some 113), .call 39 [(.tmp 112)], none⟩,
    .op ⟨(some 114), .bin .gtr (.tmp 110) (.tmp 113), none⟩,
    .look ⟨(some 109), .load false 1 (.tmp 108), none⟩])
  (.cond (.tmp 114)
  (.seq (.ops [⟨(some 115), .build [(.int .i64 0), (.int .u64 0), (.str []), .nilSlice, .nilSlice] [], none⟩,
    ⟨none, .store 5 (.tmp 6) (.tmp 115), none⟩,
    ⟨(some 7), .mov (.con (.bool false)), none⟩])
  .ret)
  .skip))
  (.seq (.ops [⟨(some 116), .load true 5 (.tmp 12), none⟩,
    ⟨none, .store 5 (.tmp 6) (.tmp 116), none⟩,
    ⟨(some 7), .mov (.con (.bool true)), none⟩])
  .ret))))))))
def a33 : AFunc := ⟨3, c33, [.cell 6 true 5, .tmp 7]⟩

/- 34: tendril/tendrilref1.Without -/
def c34l0 : ACode := (.seq (.ops [⟨(some 35), .bin .lss (.tmp 34) (.tmp 33), none⟩])
  (.seq (.cond (.tmp 35)
  .skip
  (.exit 0))
  (.seq (.block 1 (.seq (.ops [⟨(some 36), .mov (.tmp 34), none⟩,
    ⟨(some 9), .mov (.tmp 36), none⟩])
  (.seq (.ops [⟨(some 37), .fieldAddr 3 (.tmp 2), none⟩,
    ⟨(some 38), .load false 1 (.tmp 37), none⟩,
    ⟨(some 39), .mov (.tmp 9), none⟩,
    ⟨(some 40), .idxAddr 1 (.tmp 38) (.tmp 39), none⟩,
    ⟨(some 41), .load false 1 (.tmp 40), none⟩,
    ⟨(some 42), .mov (.tmp 1), none⟩,
    ⟨(some 43), .bin .neq (.tmp 41) (.tmp 42), none⟩])
  (.cond (.tmp 43)
  (.draw [.op ⟨(some 44), .fieldAddr 3 (.tmp 8), none⟩,
    .op ⟨(some 45), .load false 1 (.tmp 44), none⟩,
    .op ⟨(some 46), .fieldAddr 3 (.tmp 2), none⟩,
    .op ⟨(some 47), .load false 1 (.tmp 46), none⟩,
    .op ⟨(some 48), .mov (.tmp 9), none⟩,
    .op ⟨(some 49), .idxAddr 1 (.tmp 47) (.tmp 48), none⟩,
    .op ⟨(some 50), .load false 1 (.tmp 49), none⟩,
    .op ⟨(some 51), .buildSlice 1 1 [(.int .u8 0)] [(0, 1, (.tmp 50))], none⟩,
    .op ⟨(some 53), .fieldAddr 4 (.tmp 8), none⟩,
    .op ⟨(some 54), .load false 1 (.tmp 53), none⟩,
    .op ⟨(some 55), .fieldAddr 4 (.tmp 2), none⟩,
    .op ⟨(some 56), .load false 1 (.tmp 55), none⟩,
    .op ⟨(some 57), .mov (.tmp 9), none⟩,
    .op ⟨(some 58), .idxAddr 1 (.tmp 56) (.tmp 57), none⟩,
    .op ⟨(some 59), .load false 1 (.tmp 58), none⟩,
    .op ⟨(some 60), .buildSlice 1 1 [(.int .i64 0)] [(0, 1, (.tmp 59))], none⟩,
    .look ⟨(some 45), .load false 1 (.tmp 44), none⟩,
    .look ⟨(some 47), .load false 1 (.tmp 46), none⟩,
    .look ⟨(some 50), .load false 1 (.tmp 49), none⟩,
    .look ⟨(some 51), .buildSlice 1 1 [(.int .u8 0)] [(0, 1, (.tmp 50))], none⟩,
    .look ⟨(some 54), .load false 1 (.tmp 53), none⟩,
    .look ⟨(some 56), .load false 1 (.tmp 55), none⟩,
    .look ⟨(some 59), .load false 1 (.tmp 58), none⟩,
    .look ⟨(some 60), .buildSlice 1 1 [(.int .i64 0)] [(0, 1, (.tmp 59))], none⟩,
    .op ⟨(some 52), .append 1 1 (.tmp 45) (.tmp 51), none⟩,
    .op ⟨(some 62), .fieldAddr 3 (.tmp 8), none⟩,
    .look ⟨(some 54), .load false 1 (.tmp 53), none⟩,
    .look ⟨(some 56), .load false 1 (.tmp 55), none⟩,
    .look ⟨(some 59), .load false 1 (.tmp 58), none⟩,
    .look ⟨(some 60), .buildSlice 1 1 [(.int .i64 0)] [(0, 1, (.tmp 59))], none⟩,
    .op ⟨(some 61), .append 1 8 (.tmp 54) (.tmp 60), none⟩,
    .op ⟨none, .store 1 (.tmp 62) (.tmp 52), none⟩,
    .op ⟨(some 63), .fieldAddr 4 (.tmp 8), none⟩,
    .op ⟨none, .store 1 (.tmp 63) (.tmp 61), none⟩])
  .skip))))
  (.ops [⟨(some 64), .bin .add (.tmp 34) (.con (.int .i64 1)), none⟩,
    ⟨(some 34), .mov (.tmp 64), none⟩]))))
def c34 : ACode := (.seq (.ops [⟨(some 2), .box (.tmp 0), none⟩,
    ⟨(some 4), .new [(.int .i64 0), (.int .u64 0), (.str []), .nilSlice, .nilSlice], none⟩,
    ⟨(some 5), .mov (.con (.bool false)), none⟩])
  (.seq (.seq (.ops [⟨(some 11), .load true 5 (.tmp 2), none⟩,
    ⟨(some 12), .mov (.tmp 1), none⟩,
    ⟨(some 13), .call 36 [(.tmp 11), (.tmp 12)], none⟩,
    ⟨(some 10), .mov (.tmp 13), none⟩,
    ⟨(some 14), .extract (.tmp 10) 0, none⟩,
    ⟨(some 15), .extract (.tmp 10) 1, none⟩,
    ⟨(some 6), .mov (.tmp 14), none⟩,
    ⟨(some 7), .mov (.tmp 15), none⟩])
  (.seq (.ops [⟨(some 16), .mov (.tmp 7), none⟩,
    ⟨(some 17), .un .not (.tmp 16), none⟩,
    ⟨(some 18), .mov (.tmp 17), none⟩,
    ⟨(some 19), .load true 5 (.tmp 2), (some (18, false))⟩,
    ⟨(some 20), .call 37 [(.tmp 19)], (some (18, false))⟩,
    ⟨(some 21), .un .not (.tmp 20), (some (18, false))⟩,
    ⟨(some 22), .pick (.tmp 18) (.con (.bool true)) (.tmp 21), none⟩])
  (.cond (.tmp 22)
  (.seq (.ops [⟨(some 23), .build [(.int .i64 0), (.int .u64 0), (.str []), .nilSlice, .nilSlice] [], none⟩,
    ⟨none, .store 5 (.tmp 4) (.tmp 23), none⟩,
    ⟨(some 5), .mov (.con (.bool false)), none⟩])
  .ret)
  .skip)))
  (.seq (.ops [⟨(some 24), .fieldAddr 0 (.tmp 2), none⟩,
    ⟨(some 25), .load false 1 (.tmp 24), none⟩,
    ⟨(some 26), .fieldAddr 1 (.tmp 2), none⟩,
    ⟨(some 27), .load false 1 (.tmp 26), none⟩,
    ⟨(some 28), .fieldAddr 2 (.tmp 2), none⟩,
    ⟨(some 29), .load false 1 (.tmp 28), none⟩,
    ⟨(some 30), .build [(.int .i64 0), (.int .u64 0), (.str []), .nilSlice, .nilSlice] [(0, 1, (.tmp 25)), (1, 1, (.tmp 27)), (2, 1, (.tmp 29))], none⟩,
    ⟨(some 8), .new [(.int .i64 0), (.int .u64 0), (.str []), .nilSlice, .nilSlice], none⟩,
    ⟨none, .store 5 (.tmp 8) (.tmp 30), none⟩])
  (.seq (.seq (.ops [⟨(some 31), .fieldAddr 3 (.tmp 2), none⟩,
    ⟨(some 32), .load false 1 (.tmp 31), none⟩,
    ⟨(some 33), .lenSlice (.tmp 32), none⟩,
    ⟨(some 34), .mov (.con (.int .i64 0)), none⟩])
  (.block 0 (.loop c34l0)))
  (.seq (.ops [⟨(some 65), .load true 5 (.tmp 8), none⟩,
    ⟨none, .store 5 (.tmp 4) (.tmp 65), none⟩,
    ⟨(some 5), .mov (.con (.bool true)), none⟩])
  .ret)))))
def a34 : AFunc := ⟨2, c34, [.cell 4 true 5, .tmp 5]⟩

/- 35: tendril/tendrilref1.Turn -/
def c35 : ACode := (.seq (.ops [⟨(some 2), .box (.tmp 0), none⟩,
    ⟨(some 4), .new [(.int .i64 0), (.int .u64 0), (.str []), .nilSlice, .nilSlice], none⟩,
    ⟨(some 5), .mov (.con (.bool false)), none⟩])
  (.seq (.seq (.draw [.op ⟨(some 6), .load true 5 (.tmp 2), none⟩,
    .op ⟨(some 7), .call 37 [(.tmp 6)], none⟩,
    .op ⟨(some 8), .un .not (.tmp 7), none⟩,
    .op ⟨(some 9), .mov (.tmp 8), none⟩,
    .op ⟨(some 10), .mov (.tmp 1), (some (9, false))⟩,
    .op ⟨(some 11), .bin .lss (.tmp 10) (.con (.int .i64 1)), (some (9, false))⟩,
    .op ⟨(some 12), .pick (.tmp 9) (.con (.bool true)) (.tmp 11), none⟩,
    .op ⟨(some 13), .mov (.tmp 12), none⟩,
    .op ⟨(some 14), .mov (.tmp 1), (some (13, false))⟩,
    .op ⟨(some 15), .bin .gtr (.tmp 14) (.con (.int .i64 4)), (some (13, false))⟩,
    .op ⟨(some 16), .pick (.tmp 13) (.con (.bool true)) (.tmp 15), none⟩,
    .op ⟨(some 17), .mov (.tmp 16), none⟩,
    .op ⟨(some 18), .fieldAddr 3 (.tmp 2), (some (17, false))⟩,
    .op ⟨(some 19), .load false 1 (.tmp 18), (some (17, false))⟩,
    .op ⟨(some 20), .lenSlice (.tmp 19), (some (17, false))⟩,
    .op ⟨(some 21), .mov (.tmp 1), (some (17, false))⟩,
    .op ⟨(some 22), .call 39 [(.tmp 21)], (some (17, false))⟩,
    .op ⟨(some 23), .bin .gtr (.tmp 20) (.tmp 22), (some (17, false))⟩,
    .op ⟨(some 24), .pick (.tmp 17) (.con (.bool true)) (.tmp 23), none⟩,
    .look ⟨(some 19), .load false 1 (.tmp 18), (some (17, false))⟩])
  (.cond (.tmp 24)
  (.seq (.ops [⟨(some 25), .build [(.int .i64 0), (.int .u64 0), (.str []), .nilSlice, .nilSlice] [], none⟩,
    ⟨none, .store 5 (.tmp 4) (.tmp 25), none⟩,
    ⟨(some 5), .mov (.con (.bool false)), none⟩])
  .ret)
  .skip))
  (.seq (.draw [.op ⟨(some 26), .mov (.tmp 1), none⟩,
    .op ⟨(some 27), .fieldAddr 2 (.tmp 2), none⟩,
    .op ⟨(some 28), .load false 1 (.tmp 27), none⟩,
    .op ⟨(some 29), .buildSlice 1 0 [] [], none⟩,
    .op ⟨(some 30), .fieldAddr 3 (.tmp 2), none⟩,
    .op ⟨(some 31), .load false 1 (.tmp 30), none⟩,
    .op ⟨(some 33), .buildSlice 1 0 [] [], none⟩,
    .op ⟨(some 34), .fieldAddr 4 (.tmp 2), none⟩,
    .op ⟨(some 35), .load false 1 (.tmp 34), none⟩,
    .look ⟨(some 28), .load false 1 (.tmp 27), none⟩,
    .look ⟨(some 29), .buildSlice 1 0 [] [], none⟩,
    .look ⟨(some 31), .load false 1 (.tmp 30), none⟩,
    .look ⟨(some 33), .buildSlice 1 0 [] [], none⟩,
    .op ⟨(some 32), .append 1 1 (.tmp 29) (.tmp 31), none⟩,
    .look ⟨(some 28), .load false 1 (.tmp 27), none⟩,
    .look ⟨(some 33), .buildSlice 1 0 [] [], none⟩,
    .look ⟨(some 35), .load false 1 (.tmp 34), none⟩,
    .op ⟨(some 36), .append 1 8 (.tmp 33) (.tmp 35), none⟩,
    .op ⟨(some 37), .build [(.int .i64 0), (.int .u64 0), (.str []), .nilSlice, .nilSlice] [(0, 1, (.tmp 26)), (2, 1, (.tmp 28)), (3, 1, (.tmp 32)), (4, 1, (.tmp 36))], none⟩,
    .look ⟨(some 28), .load false 1 (.tmp 27), none⟩,
    .op ⟨none, .store 5 (.tmp 4) (.tmp 37), none⟩,
    .op ⟨(some 5), .mov (.con (.bool true)), none⟩])
  .ret)))
def a35 : AFunc := ⟨2, c35, [.cell 4 true 5, .tmp 5]⟩

/- 36: tendril/tendrilref1.Find -/
def c36l0 : ACode := (.seq (.ops [⟨(some 11), .bin .lss (.tmp 10) (.tmp 9), none⟩])
  (.seq (.cond (.tmp 11)
  .skip
  (.exit 0))
  (.seq (.block 1 (.seq (.ops [⟨(some 12), .mov (.tmp 10), none⟩,
    ⟨(some 6), .mov (.tmp 12), none⟩])
  (.seq (.ops [⟨(some 13), .fieldAddr 3 (.tmp 2), none⟩,
    ⟨(some 14), .load false 1 (.tmp 13), none⟩,
    ⟨(some 15), .mov (.tmp 6), none⟩,
    ⟨(some 16), .idxAddr 1 (.tmp 14) (.tmp 15), none⟩,
    ⟨(some 17), .load false 1 (.tmp 16), none⟩,
    ⟨(some 18), .mov (.tmp 1), none⟩,
    ⟨(some 19), .bin .eql (.tmp 17) (.tmp 18), none⟩,
    ⟨(some 20), .mov (.tmp 19), none⟩,
    ⟨(some 21), .mov (.tmp 6), (some (20, true))⟩,
    ⟨(some 22), .fieldAddr 4 (.tmp 2), (some (20, true))⟩,
    ⟨(some 23), .load false 1 (.tmp 22), (some (20, true))⟩,
    ⟨(some 24), .lenSlice (.tmp 23), (some (20, true))⟩,
    ⟨(some 25), .bin .lss (.tmp 21) (.tmp 24), (some (20, true))⟩,
    ⟨(some 26), .pick (.tmp 20) (.tmp 25) (.con (.bool false)), none⟩])
  (.cond (.tmp 26)
  (.seq (.ops [⟨(some 27), .fieldAddr 4 (.tmp 2), none⟩,
    ⟨(some 28), .load false 1 (.tmp 27), none⟩,
    ⟨(some 29), .mov (.tmp 6), none⟩,
    ⟨(some 30), .idxAddr 1 (.tmp 28) (.tmp 29), none⟩,
    ⟨(some 31), .load false 1 (.tmp 30), none⟩,
    ⟨(some 4), .mov (.tmp 31), none⟩,
    ⟨(some 5), .mov (.con (.bool true)), none⟩])
  .ret)
  .skip))))
  (.ops [⟨(some 32), .bin .add (.tmp 10) (.con (.int .i64 1)), none⟩,
    ⟨(some 10), .mov (.tmp 32), none⟩]))))
def c36 : ACode := (.seq (.ops [⟨(some 2), .box (.tmp 0), none⟩,
    ⟨(some 4), .mov (.con (.int .i64 0)), none⟩,
    ⟨(some 5), .mov (.con (.bool false)), none⟩])
  (.seq (.seq (.ops [⟨(some 7), .fieldAddr 3 (.tmp 2), none⟩,
    ⟨(some 8), .load false 1 (.tmp 7), none⟩,
    ⟨(some 9), .lenSlice (.tmp 8), none⟩,
    ⟨(some 10), .mov (.con (.int .i64 0)), none⟩])
  (.block 0 (.loop c36l0)))
  (.seq (.ops [⟨(some 4), .mov (.con (.int .i64 0)), none⟩,
    ⟨(some 5), .mov (.con (.bool false)), none⟩])
  .ret)))
def a36 : AFunc := ⟨2, c36, [.tmp 4, .tmp 5]⟩

/- 37: tendril/tendrilref1.Right -/
def c37l0 : ACode := (.seq (.ops [⟨(some 50), .bin .lss (.tmp 49) (.tmp 48), none⟩])
  (.seq (.cond (.tmp 50)
  .skip
  (.exit 0))
  (.seq (.block 1 (.seq (.ops [⟨(some 51), .mov (.tmp 49), none⟩,
    ⟨(some 3), .mov (.tmp 51), none⟩])
  (.seq (.ops [⟨(some 53), .fieldAddr 4 (.tmp 1), none⟩,
    ⟨(some 54), .load false 1 (.tmp 53), none⟩,
    ⟨(some 55), .mov (.tmp 3), none⟩,
    ⟨(some 56), .idxAddr 1 (.tmp 54) (.tmp 55), none⟩,
    ⟨(some 57), .load false 1 (.tmp 56), none⟩,
    ⟨(some 58), .call 66 [(.tmp 57)], none⟩,
    ⟨(some 52), .mov (.tmp 58), none⟩,
    ⟨(some 59), .extract (.tmp 52) 0, none⟩,
    ⟨(some 60), .extract (.tmp 52) 1, none⟩,
    ⟨(some 61), .extract (.tmp 52) 2, none⟩,
    ⟨(some 62), .extract (.tmp 52) 3, none⟩,
    ⟨(some 4), .mov (.tmp 59), none⟩,
    ⟨(some 5), .mov (.tmp 60), none⟩,
    ⟨(some 6), .mov (.tmp 61), none⟩,
    ⟨(some 7), .mov (.tmp 62), none⟩])
  (.seq (.ops [⟨(some 63), .mov (.tmp 7), none⟩,
    ⟨(some 64), .un .not (.tmp 63), none⟩,
    ⟨(some 65), .mov (.tmp 64), none⟩,
    ⟨(some 66), .mov (.tmp 3), (some (65, false))⟩,
    ⟨(some 67), .bin .gtr (.tmp 66) (.con (.int .i64 0)), (some (65, false))⟩,
    ⟨(some 68), .mov (.tmp 67), (some (65, false))⟩,
    ⟨(some 69), .fieldAddr 3 (.tmp 1), (some (68, true))⟩,
    ⟨(some 70), .load false 1 (.tmp 69), (some (68, true))⟩,
    ⟨(some 71), .mov (.tmp 3), (some (68, true))⟩,
    ⟨(some 72), .idxAddr 1 (.tmp 70) (.tmp 71), (some (68, true))⟩,
    ⟨(some 73), .load false 1 (.tmp 72), (some (68, true))⟩,
    ⟨(some 74), .fieldAddr 3 (.tmp 1), (some (68, true))⟩,
    ⟨(some 75), .load false 1 (.tmp 74), (some (68, true))⟩,
    ⟨(some 76), .mov (.tmp 3), (some (68, true))⟩,
    ⟨(some 77), .bin .sub (.tmp 76) (.con (.int .i64 1)), (some (68, true))⟩,
    ⟨(some 78), .idxAddr 1 (.tmp 75) (.tmp 77), (some (68, true))⟩,
    ⟨(some 79), .load false 1 (.tmp 78), (some (68, true))⟩,
    ⟨(some 80), .bin .leq (.tmp 73) (.tmp 79), (some (68, true))⟩,
    ⟨(some 81), .pick (.tmp 68) (.tmp 80) (.con (.bool false)), (some (65, false))⟩,
    ⟨(some 82), .pick (.tmp 65) (.con (.bool true)) (.tmp 81), none⟩])
  (.cond (.tmp 82)
  (.seq (.ops [⟨(some 2), .mov (.con (.bool false)), none⟩])
  .ret)
  .skip)))))
  (.ops [⟨(some 83), .bin .add (.tmp 49) (.con (.int .i64 1)), none⟩,
    ⟨(some 49), .mov (.tmp 83), none⟩]))))
def c37 : ACode := (.seq (.ops [⟨(some 1), .box (.tmp 0), none⟩,
    ⟨(some 2), .mov (.con (.bool false)), none⟩])
  (.seq (.seq (.draw [.op ⟨(some 8), .fieldAddr 0 (.tmp 1), none⟩,
    .op ⟨(some 9), .load false 1 (.tmp 8), none⟩,
    .op ⟨(some 10), .bin .lss (.tmp 9) (.con (.int .i64 1)), none⟩,
    .op ⟨(some 11), .mov (.tmp 10), none⟩,
    .op ⟨(some 12), .fieldAddr 0 (.tmp 1), (some (11, false))⟩,
    .op ⟨(some 13), .load false 1 (.tmp 12), (some (11, false))⟩,
    .op ⟨(some 14), .bin .gtr (.tmp 13) (.con (.int .i64 4)), (some (11, false))⟩,
    .op ⟨(some 15), .pick (.tmp 11) (.con (.bool true)) (.tmp 14), none⟩,
    .op ⟨(some 16), .mov (.tmp 15), none⟩,
    .op ⟨(some 17), .fieldAddr 1 (.tmp 1), (some (16, false))⟩,
    .op ⟨(some 18), .load false 1 (.tmp 17), (some (16, false))⟩,
    .op ⟨(some 19), .bin .and (.tmp 18) (.con (.int .u64 3)), (some (16, false))⟩,
    .op ⟨(some 20), .bin .eql (.tmp 19) (.con (.int .u64 3)), (some (16, false))⟩,
    .op ⟨(some 21), .pick (.tmp 16) (.con (.bool true)) (.tmp 20), none⟩,
    .op ⟨(some 22), .mov (.tmp 21), none⟩,
    .op ⟨(some 23), .fieldAddr 2 (.tmp 1), (some (22, false))⟩,
    .op ⟨(some 24), .load false 1 (.tmp 23), (some (22, false))⟩,
    .op ⟨(some 25), .lenStr (.tmp 24), (some (22, false))⟩,
    .op ⟨(some 26), .bin .gtr (.tmp 25) (.con (.int .i64 12)), (some (22, false))⟩,
    .op ⟨(some 27), .pick (.tmp 22) (.con (.bool true)) (.tmp 26), none⟩,
    .op ⟨(some 28), .mov (.tmp 27), none⟩,
    .op ⟨(some 29), .fieldAddr 3 (.tmp 1), (some (28, false))⟩,
    .op ⟨(some 30), .load false 1 (.tmp 29), (some (28, false))⟩,
    .op ⟨(some 31), .lenSlice (.tmp 30), (some (28, false))⟩,
    .op ⟨(some 32), .fieldAddr 4 (.tmp 1), (some (28, false))⟩,
    .op ⟨(some 33), .load false 1 (.tmp 32), (some (28, false))⟩,
    .op ⟨(some 34), .lenSlice (.tmp 33), (some (28, false))⟩,
    .op ⟨(some 35), .bin .neq (.tmp 31) (.tmp 34), (some (28, false))⟩,
    .op ⟨(some 36), .pick (.tmp 28) (.con (.bool true)) (.tmp 35), none⟩,
    .op ⟨(some 37), .mov (.tmp 36), none⟩,
    .op ⟨(some 38), .fieldAddr 3 (.tmp 1), (some (37, false))⟩,
    .op ⟨(some 39), .load false 1 (.tmp 38), (some (37, false))⟩,
    .op ⟨(some 40), .lenSlice (.tmp 39), (some (37, false))⟩,
    .op ⟨(some 41), .fieldAddr 0 (.tmp 1), (some (37, false))⟩,
    .op ⟨(some 42), .load false 1 (.tmp 41), (some (37, false))⟩,
    .op ⟨(some 43), .call 39 [(.tmp 42)], (some (37, false))⟩,
    .op ⟨(some 44), .bin .gtr (.tmp 40) (.tmp 43), (some (37, false))⟩,
    .op ⟨(some 45), .pick (.tmp 37) (.con (.bool true)) (.tmp 44), none⟩,
    .look ⟨(some 39), .load false 1 (.tmp 38), (some (37, false))⟩])
  (.cond (.tmp 45)
  (.seq (.ops [⟨(some 2), .mov (.con (.bool false)), none⟩])
  .ret)
  .skip))
  (.seq (.seq (.ops [⟨(some 46), .fieldAddr 3 (.tmp 1), none⟩,
    ⟨(some 47), .load false 1 (.tmp 46), none⟩,
    ⟨(some 48), .lenSlice (.tmp 47), none⟩,
    ⟨(some 49), .mov (.con (.int .i64 0)), none⟩])
  (.block 0 (.loop c37l0)))
  (.seq (.ops [⟨(some 2), .mov (.con (.bool true)), none⟩])
  .ret))))
def a37 : AFunc := ⟨1, c37, [.tmp 2]⟩

/- 39: tendril/tendrilref1.High -/
def c39 : ACode := (.seq (.ops [⟨(some 2), .mov (.con (.int .i64 0)), none⟩])
  (.seq (.seq (.ops [⟨(some 3), .mov (.tmp 0), none⟩])
  (.block 0 (.seq (.ops [⟨(some 5), .bin .eql (.tmp 3) (.con (.int .i64 1)), none⟩,
    ⟨(some 4), .mov (.tmp 5), none⟩])
  (.cond (.tmp 4)
  (.seq (.ops [⟨(some 2), .mov (.con (.int .i64 4)), none⟩])
  .ret)
  (.seq (.ops [⟨(some 7), .bin .eql (.tmp 3) (.con (.int .i64 2)), none⟩,
    ⟨(some 6), .mov (.tmp 7), none⟩])
  (.cond (.tmp 6)
  (.seq (.ops [⟨(some 2), .mov (.con (.int .i64 16)), none⟩])
  .ret)
  (.seq (.ops [⟨(some 9), .bin .eql (.tmp 3) (.con (.int .i64 3)), none⟩,
    ⟨(some 8), .mov (.tmp 9), none⟩])
  (.cond (.tmp 8)
  (.seq (.ops [⟨(some 2), .mov (.con (.int .i64 48)), none⟩])
  .ret)
  (.seq (.ops [⟨(some 11), .bin .eql (.tmp 3) (.con (.int .i64 4)), none⟩,
    ⟨(some 10), .mov (.tmp 11), none⟩])
  (.cond (.tmp 10)
  (.seq (.ops [⟨(some 2), .mov (.con (.int .i64 256)), none⟩])
  .ret)
  .skip))))))))))
  (.seq (.ops [⟨(some 2), .mov (.con (.int .i64 0)), none⟩])
  .ret)))
def a39 : AFunc := ⟨1, c39, [.tmp 2]⟩

/- 40: tendril/tendrilref1.Low -/
def c40 : ACode := (.seq (.ops [⟨(some 2), .mov (.con (.int .i64 0)), none⟩])
  (.seq (.seq (.ops [⟨(some 3), .mov (.tmp 0), none⟩])
  (.block 0 (.seq (.ops [⟨(some 5), .bin .eql (.tmp 3) (.con (.int .i64 1)), none⟩,
    ⟨(some 4), .mov (.tmp 5), none⟩])
  (.cond (.tmp 4)
  (.seq (.ops [⟨(some 2), .mov (.con (.int .i64 2)), none⟩])
  .ret)
  (.seq (.ops [⟨(some 7), .bin .eql (.tmp 3) (.con (.int .i64 2)), none⟩,
    ⟨(some 6), .mov (.tmp 7), none⟩])
  (.cond (.tmp 6)
  (.seq (.ops [⟨(some 2), .mov (.con (.int .i64 4)), none⟩])
  .ret)
  (.seq (.ops [⟨(some 9), .bin .eql (.tmp 3) (.con (.int .i64 3)), none⟩,
    ⟨(some 8), .mov (.tmp 9), none⟩])
  (.cond (.tmp 8)
  (.seq (.ops [⟨(some 2), .mov (.con (.int .i64 13)), none⟩])
  .ret)
  (.seq (.ops [⟨(some 11), .bin .eql (.tmp 3) (.con (.int .i64 4)), none⟩,
    ⟨(some 10), .mov (.tmp 11), none⟩])
  (.cond (.tmp 10)
  (.seq (.ops [⟨(some 2), .mov (.con (.int .i64 38)), none⟩])
  .ret)
  .skip))))))))))
  (.seq (.ops [⟨(some 2), .mov (.con (.int .i64 0)), none⟩])
  .ret)))
def a40 : AFunc := ⟨1, c40, [.tmp 2]⟩

/- 53: tendril/arena.Size -/
def c53 : ACode := (.seq (.ops [⟨(some 2), .mov (.con (.int .i64 0)), none⟩])
  (.seq (.seq (.ops [⟨(some 3), .mov (.tmp 0), none⟩])
  (.block 0 (.seq (.ops [⟨(some 5), .bin .eql (.tmp 3) (.con (.int .i64 0)), none⟩,
    ⟨(some 4), .mov (.tmp 5), none⟩])
  (.cond (.tmp 4)
  (.seq (.ops [⟨(some 2), .mov (.con (.int .i64 8)), none⟩])
  .ret)
  (.seq (.ops [⟨(some 7), .bin .eql (.tmp 3) (.con (.int .i64 1)), none⟩,
    ⟨(some 6), .mov (.tmp 7), none⟩])
  (.cond (.tmp 6)
  (.seq (.ops [⟨(some 2), .mov (.con (.int .i64 12)), none⟩])
  .ret)
  (.seq (.ops [⟨(some 9), .bin .eql (.tmp 3) (.con (.int .i64 2)), none⟩,
    ⟨(some 8), .mov (.tmp 9), none⟩])
  (.cond (.tmp 8)
  (.seq (.ops [⟨(some 2), .mov (.con (.int .i64 24)), none⟩])
  .ret)
  (.seq (.ops [⟨(some 11), .bin .eql (.tmp 3) (.con (.int .i64 3)), none⟩,
    ⟨(some 10), .mov (.tmp 11), none⟩])
  (.cond (.tmp 10)
  (.seq (.ops [⟨(some 2), .mov (.con (.int .i64 88)), none⟩])
  .ret)
  (.seq (.ops [⟨(some 13), .bin .eql (.tmp 3) (.con (.int .i64 4)), none⟩,
    ⟨(some 12), .mov (.tmp 13), none⟩])
  (.cond (.tmp 12)
  (.seq (.ops [⟨(some 2), .mov (.con (.int .i64 264)), none⟩])
  .ret)
  .skip))))))))))))
  (.seq (.ops [⟨(some 2), .mov (.con (.int .i64 0)), none⟩])
  .ret)))
def a53 : AFunc := ⟨1, c53, [.tmp 2]⟩

/- 54: tendril/pack.Words -/
def c54l0 : ACode := (.seq (.ops [⟨(some 12), .bin .lss (.tmp 11) (.tmp 10), none⟩])
  (.seq (.cond (.tmp 12)
  .skip
  (.exit 0))
  (.seq (.block 1 (.seq (.ops [⟨(some 13), .mov (.tmp 11), none⟩,
    ⟨(some 4), .mov (.tmp 13), none⟩])
  (.ops [⟨(some 14), .mov (.tmp 3), none⟩,
    ⟨(some 15), .mov (.tmp 4), none⟩,
    ⟨(some 16), .bin .quo (.tmp 15) (.con (.int .i64 8)), none⟩,
    ⟨(some 17), .idxAddr 1 (.tmp 14) (.tmp 16), none⟩,
    ⟨(some 18), .load false 1 (.tmp 17), none⟩,
    ⟨(some 19), .mov (.tmp 0), none⟩,
    ⟨(some 20), .mov (.tmp 4), none⟩,
    ⟨(some 21), .idxStr (.tmp 19) (.tmp 20), none⟩,
    ⟨(some 22), .toInt .u64 (.tmp 21), none⟩,
    ⟨(some 23), .mov (.tmp 4), none⟩,
    ⟨(some 24), .bin .rem (.tmp 23) (.con (.int .i64 8)), none⟩,
    ⟨(some 25), .bin .mul (.con (.int .i64 8)) (.tmp 24), none⟩,
    ⟨(some 26), .toInt .u64 (.tmp 25), none⟩,
    ⟨(some 27), .bin .shl (.tmp 22) (.tmp 26), none⟩,
    ⟨(some 28), .bin .or (.tmp 18) (.tmp 27), none⟩,
    ⟨(some 29), .idxAddr 1 (.tmp 14) (.tmp 16), none⟩,
    ⟨none, .store 1 (.tmp 29) (.tmp 28), none⟩])))
  (.ops [⟨(some 30), .bin .add (.tmp 11) (.con (.int .i64 1)), none⟩,
    ⟨(some 11), .mov (.tmp 30), none⟩]))))
def c54 : ACode := (.seq (.ops [⟨(some 2), .mov (.con .nilSlice), none⟩])
  (.seq (.ops [⟨(some 5), .mov (.tmp 0), none⟩,
    ⟨(some 6), .lenStr (.tmp 5), none⟩,
    ⟨(some 7), .call 78 [(.tmp 6)], none⟩,
    ⟨(some 8), .mkSlice 1 8 [(.int .u64 0)] (.tmp 7) (.tmp 7), none⟩,
    ⟨(some 3), .mov (.tmp 8), none⟩])
  (.seq (.seq (.ops [⟨(some 9), .mov (.tmp 0), none⟩,
    ⟨(some 10), .lenStr (.tmp 9), none⟩,
    ⟨(some 11), .mov (.con (.int .i64 0)), none⟩])
  (.block 0 (.loop c54l0)))
  (.seq (.ops [⟨(some 31), .mov (.tmp 3), none⟩,
    ⟨(some 2), .mov (.tmp 31), none⟩])
  .ret))))
def a54 : AFunc := ⟨1, c54, [.tmp 2]⟩

/- 55: tendril/node.index -/
def c55l0 : ACode := (.seq (.ops [⟨(some 10), .bin .lss (.tmp 9) (.tmp 8), none⟩])
  (.seq (.cond (.tmp 10)
  .skip
  (.exit 0))
  (.seq (.block 1 (.seq (.ops [⟨(some 11), .mov (.tmp 9), none⟩,
    ⟨(some 12), .idxAddr 1 (.tmp 7) (.tmp 9), none⟩,
    ⟨(some 13), .load false 1 (.tmp 12), none⟩,
    ⟨(some 4), .mov (.tmp 11), none⟩,
    ⟨(some 5), .mov (.tmp 13), none⟩])
  (.ops [⟨(some 14), .mov (.tmp 3), none⟩,
    ⟨(some 15), .mov (.tmp 5), none⟩,
    ⟨(some 16), .bin .quo (.tmp 15) (.con (.int .u8 8)), none⟩,
    ⟨(some 17), .idxAddr 1 (.tmp 14) (.tmp 16), none⟩,
    ⟨(some 18), .load false 1 (.tmp 17), none⟩,
    ⟨(some 19), .mov (.tmp 4), none⟩,
    ⟨(some 20), .bin .add (.tmp 19) (.con (.int .i64 1)), none⟩,
    ⟨(some 21), .toInt .u64 (.tmp 20), none⟩,
    ⟨(some 22), .mov (.tmp 5), none⟩,
    ⟨(some 23), .bin .rem (.tmp 22) (.con (.int .u8 8)), none⟩,
    ⟨(some 24), .bin .mul (.con (.int .u8 8)) (.tmp 23), none⟩,
    ⟨(some 25), .bin .shl (.tmp 21) (.tmp 24), none⟩,
    ⟨(some 26), .bin .or (.tmp 18) (.tmp 25), none⟩,
    ⟨(some 27), .idxAddr 1 (.tmp 14) (.tmp 16), none⟩,
    ⟨none, .store 1 (.tmp 27) (.tmp 26), none⟩])))
  (.ops [⟨(some 28), .bin .add (.tmp 9) (.con (.int .i64 1)), none⟩,
    ⟨(some 9), .mov (.tmp 28), none⟩]))))
def c55 : ACode := (.seq (.ops [⟨(some 2), .mov (.con .nilSlice), none⟩])
  (.seq (.ops [⟨(some 6), .mkSlice 1 8 [(.int .u64 0)] (.con (.int .i64 32)) (.con (.int .i64 32)), none⟩,
    ⟨(some 3), .mov (.tmp 6), none⟩])
  (.seq (.seq (.ops [⟨(some 7), .mov (.tmp 0), none⟩,
    ⟨(some 8), .lenSlice (.tmp 7), none⟩,
    ⟨(some 9), .mov (.con (.int .i64 0)), none⟩])
  (.block 0 (.loop c55l0)))
  (.seq (.ops [⟨(some 29), .mov (.tmp 3), none⟩,
    ⟨(some 2), .mov (.tmp 29), none⟩])
  .ret))))
def a55 : AFunc := ⟨1, c55, [.tmp 2]⟩

/- 56: tendril/node.isRef -/
def c56 : ACode := (.seq (.ops [⟨(some 2), .mov (.con (.bool false)), none⟩])
  (.seq (.ops [⟨(some 8), .mov (.tmp 0), none⟩,
    ⟨(some 9), .call 79 [(.tmp 8)], none⟩,
    ⟨(some 7), .mov (.tmp 9), none⟩,
    ⟨(some 10), .extract (.tmp 7) 0, none⟩,
    ⟨(some 11), .extract (.tmp 7) 1, none⟩,
    ⟨(some 12), .extract (.tmp 7) 2, none⟩,
    ⟨(some 13), .extract (.tmp 7) 3, none⟩,
    ⟨(some 3), .mov (.tmp 10), none⟩,
    ⟨(some 4), .mov (.tmp 11), none⟩,
    ⟨(some 5), .mov (.tmp 12), none⟩,
    ⟨(some 6), .mov (.tmp 13), none⟩])
  (.seq (.ops [⟨(some 14), .mov (.tmp 6), none⟩,
    ⟨(some 2), .mov (.tmp 14), none⟩])
  .ret)))
def a56 : AFunc := ⟨1, c56, [.tmp 2]⟩

/- 57: slices.Clone[[]byte,byte] -/
def c57 : ACode := (.seq (.ops [⟨(some 2), .mov (.con .nilSlice), none⟩])
  (.seq (.seq (.ops [⟨(some 3), .mov (.tmp 0), none⟩,
    ⟨(some 4), .eqNil 1 false (.tmp 3) (.con .nilSlice), none⟩])
  (.cond (.tmp 4)
  (.seq (.ops [⟨(some 2), .mov (.con .nilSlice), none⟩])
  .ret)
  .skip))
  (.seq (.ops [⟨(some 5), .buildSlice 1 0 [] [], none⟩,
    ⟨(some 6), .mov (.tmp 0), none⟩,
    ⟨(some 7), .append 1 1 (.tmp 5) (.tmp 6), none⟩,
    ⟨(some 2), .mov (.tmp 7), none⟩])
  .ret)))
def a57 : AFunc := ⟨1, c57, [.tmp 2]⟩

/- 58: slices.Clone[[]int,int] -/
def c58 : ACode := (.seq (.ops [⟨(some 2), .mov (.con .nilSlice), none⟩])
  (.seq (.seq (.ops [⟨(some 3), .mov (.tmp 0), none⟩,
    ⟨(some 4), .eqNil 1 false (.tmp 3) (.con .nilSlice), none⟩])
  (.cond (.tmp 4)
  (.seq (.ops [⟨(some 2), .mov (.con .nilSlice), none⟩])
  .ret)
  .skip))
  (.seq (.ops [⟨(some 5), .buildSlice 1 0 [] [], none⟩,
    ⟨(some 6), .mov (.tmp 0), none⟩,
    ⟨(some 7), .append 1 8 (.tmp 5) (.tmp 6), none⟩,
    ⟨(some 2), .mov (.tmp 7), none⟩])
  .ret)))
def a58 : AFunc := ⟨1, c58, [.tmp 2]⟩

/- 59: slices.BinarySearch[[]byte,byte] -/
def c59l0 : ACode := (.seq (.seq (.ops [⟨(some 13), .mov (.tmp 7), none⟩,
    ⟨(some 14), .mov (.tmp 8), none⟩,
    ⟨(some 15), .bin .lss (.tmp 13) (.tmp 14), none⟩])
  (.cond (.tmp 15)
  .skip
  (.exit 0)))
  (.block 1 (.seq (.ops [⟨(some 16), .mov (.tmp 7), none⟩,
    ⟨(some 17), .mov (.tmp 8), none⟩,
    ⟨(some 18), .bin .add (.tmp 16) (.tmp 17), none⟩,
    ⟨(some 19), .toInt .u64 (.tmp 18), none⟩,
    ⟨(some 20), .bin .shr (.tmp 19) (.con (.int .u64 1)), none⟩,
    ⟨(some 21), .toInt .i64 (.tmp 20), none⟩,
    ⟨(some 9), .mov (.tmp 21), none⟩])
  (.seq (.ops [⟨(some 22), .mov (.tmp 0), none⟩,
    ⟨(some 23), .mov (.tmp 9), none⟩,
    ⟨(some 24), .idxAddr 1 (.tmp 22) (.tmp 23), none⟩,
    ⟨(some 25), .load false 1 (.tmp 24), none⟩,
    ⟨(some 26), .mov (.tmp 1), none⟩,
    ⟨(some 27), .call 80 [(.tmp 25), (.tmp 26)], none⟩])
  (.cond (.tmp 27)
  (.ops [⟨(some 28), .mov (.tmp 9), none⟩,
    ⟨(some 29), .bin .add (.tmp 28) (.con (.int .i64 1)), none⟩,
    ⟨(some 7), .mov (.tmp 29), none⟩])
  (.ops [⟨(some 30), .mov (.tmp 9), none⟩,
    ⟨(some 8), .mov (.tmp 30), none⟩]))))))
def c59 : ACode := (.seq (.ops [⟨(some 4), .mov (.con (.int .i64 0)), none⟩,
    ⟨(some 5), .mov (.con (.bool false)), none⟩])
  (.seq (.ops [⟨(some 10), .mov (.tmp 0), none⟩,
    ⟨(some 11), .lenSlice (.tmp 10), none⟩,
    ⟨(some 6), .mov (.tmp 11), none⟩])
  (.seq (.ops [⟨(some 12), .mov (.tmp 6), none⟩,
    ⟨(some 7), .mov (.con (.int .i64 0)), none⟩,
    ⟨(some 8), .mov (.tmp 12), none⟩])
  (.seq (.block 0 (.loop c59l0))
  (.seq (.ops [⟨(some 31), .mov (.tmp 7), none⟩,
    ⟨(some 32), .mov (.tmp 7), none⟩,
    ⟨(some 33), .mov (.tmp 6), none⟩,
    ⟨(some 34), .bin .lss (.tmp 32) (.tmp 33), none⟩,
    ⟨(some 35), .mov (.tmp 34), none⟩,
    ⟨(some 36), .mov (.tmp 0), (some (35, true))⟩,
    ⟨(some 37), .mov (.tmp 7), (some (35, true))⟩,
    ⟨(some 38), .idxAddr 1 (.tmp 36) (.tmp 37), (some (35, true))⟩,
    ⟨(some 39), .load false 1 (.tmp 38), (some (35, true))⟩,
    ⟨(some 40), .mov (.tmp 1), (some (35, true))⟩,
    ⟨(some 41), .bin .eql (.tmp 39) (.tmp 40), (some (35, true))⟩,
    ⟨(some 42), .mov (.tmp 41), (some (35, true))⟩,
    ⟨(some 43), .mov (.tmp 0), (some (42, false))⟩,
    ⟨(some 44), .mov (.tmp 7), (some (42, false))⟩,
    ⟨(some 45), .idxAddr 1 (.tmp 43) (.tmp 44), (some (42, false))⟩,
    ⟨(some 46), .load false 1 (.tmp 45), (some (42, false))⟩,
    ⟨(some 47), .call 81 [(.tmp 46)], (some (42, false))⟩,
    ⟨(some 48), .mov (.tmp 47), (some (42, false))⟩,
    ⟨(some 49), .mov (.tmp 1), (some (48, true))⟩,
    ⟨(some 50), .call 81 [(.tmp 49)], (some (48, true))⟩,
    ⟨(some 51), .pick (.tmp 48) (.tmp 50) (.con (.bool false)), (some (42, false))⟩,
    ⟨(some 52), .pick (.tmp 42) (.con (.bool true)) (.tmp 51), (some (35, true))⟩,
    ⟨(some 53), .pick (.tmp 35) (.tmp 52) (.con (.bool false)), none⟩,
    ⟨(some 4), .mov (.tmp 31), none⟩,
    ⟨(some 5), .mov (.tmp 53), none⟩])
  .ret)))))
def a59 : AFunc := ⟨2, c59, [.tmp 4, .tmp 5]⟩

/- 60: slices.Insert[[]byte,byte] -/
def c60 : ACode := (.seq (.ops [⟨(some 6), .mov (.con .nilSlice), none⟩])
  (.seq (.ops [⟨(some 10), .mov (.tmp 0), none⟩,
    ⟨(some 11), .mov (.tmp 1), none⟩,
    ⟨(some 12), .slc 1 (.tmp 10) (some (.tmp 11)) none none, none⟩])
  (.seq (.ops [⟨(some 13), .mov (.tmp 2), none⟩,
    ⟨(some 14), .lenSlice (.tmp 13), none⟩,
    ⟨(some 7), .mov (.tmp 14), none⟩])
  (.seq (.seq (.ops [⟨(some 15), .mov (.tmp 7), none⟩,
    ⟨(some 16), .bin .eql (.tmp 15) (.con (.int .i64 0)), none⟩])
  (.cond (.tmp 16)
  (.seq (.ops [⟨(some 17), .mov (.tmp 0), none⟩,
    ⟨(some 6), .mov (.tmp 17), none⟩])
  .ret)
  .skip))
  (.seq (.ops [⟨(some 18), .mov (.tmp 0), none⟩,
    ⟨(some 19), .lenSlice (.tmp 18), none⟩,
    ⟨(some 8), .mov (.tmp 19), none⟩])
  (.seq (.seq (.ops [⟨(some 20), .mov (.tmp 1), none⟩,
    ⟨(some 21), .mov (.tmp 8), none⟩,
    ⟨(some 22), .bin .eql (.tmp 20) (.tmp 21), none⟩])
  (.cond (.tmp 22)
  (.seq (.ops [⟨(some 23), .mov (.tmp 0), none⟩,
    ⟨(some 24), .mov (.tmp 2), none⟩,
    ⟨(some 25), .append 1 1 (.tmp 23) (.tmp 24), none⟩,
    ⟨(some 6), .mov (.tmp 25), none⟩])
  .ret)
  .skip))
  (.seq (.seq (.ops [⟨(some 26), .mov (.tmp 8), none⟩,
    ⟨(some 27), .mov (.tmp 7), none⟩,
    ⟨(some 28), .bin .add (.tmp 26) (.tmp 27), none⟩,
    ⟨(some 29), .mov (.tmp 0), none⟩,
    ⟨(some 30), .capSlice (.tmp 29), none⟩,
    ⟨(some 31), .bin .gtr (.tmp 28) (.tmp 30), none⟩])
  (.cond (.tmp 31)
  (.seq (.ops [⟨(some 32), .mov (.tmp 0), none⟩,
    ⟨(some 33), .mov (.tmp 1), none⟩,
    ⟨(some 34), .slc 1 (.tmp 32) none (some (.tmp 33)) none, none⟩,
    ⟨(some 35), .mov (.tmp 8), none⟩,
    ⟨(some 36), .mov (.tmp 7), none⟩,
    ⟨(some 37), .bin .add (.tmp 35) (.tmp 36), none⟩,
    ⟨(some 38), .mov (.tmp 1), none⟩,
    ⟨(some 39), .bin .sub (.tmp 37) (.tmp 38), none⟩,
    ⟨(some 40), .appendZ 1 1 [(.int .u8 0)] (.tmp 34) (.tmp 39), none⟩,
    ⟨(some 9), .mov (.tmp 40), none⟩])
  (.seq (.ops [⟨(some 41), .mov (.tmp 9), none⟩,
    ⟨(some 42), .mov (.tmp 1), none⟩,
    ⟨(some 43), .slc 1 (.tmp 41) (some (.tmp 42)) none none, none⟩,
    ⟨(some 44), .mov (.tmp 2), none⟩,
    ⟨(some 45), .copy 1 (.tmp 43) (.tmp 44), none⟩])
  (.seq (.ops [⟨(some 46), .mov (.tmp 9), none⟩,
    ⟨(some 47), .mov (.tmp 1), none⟩,
    ⟨(some 48), .mov (.tmp 7), none⟩,
    ⟨(some 49), .bin .add (.tmp 47) (.tmp 48), none⟩,
    ⟨(some 50), .slc 1 (.tmp 46) (some (.tmp 49)) none none, none⟩,
    ⟨(some 51), .mov (.tmp 0), none⟩,
    ⟨(some 52), .mov (.tmp 1), none⟩,
    ⟨(some 53), .slc 1 (.tmp 51) (some (.tmp 52)) none none, none⟩,
    ⟨(some 54), .copy 1 (.tmp 50) (.tmp 53), none⟩])
  (.seq (.ops [⟨(some 55), .mov (.tmp 9), none⟩,
    ⟨(some 6), .mov (.tmp 55), none⟩])
  .ret))))
  .skip))
  (.seq (.ops [⟨(some 56), .mov (.tmp 0), none⟩,
    ⟨(some 57), .mov (.tmp 8), none⟩,
    ⟨(some 58), .mov (.tmp 7), none⟩,
    ⟨(some 59), .bin .add (.tmp 57) (.tmp 58), none⟩,
    ⟨(some 60), .slc 1 (.tmp 56) none (some (.tmp 59)) none, none⟩,
    ⟨(some 0), .mov (.tmp 60), none⟩])
  (.seq (.seq (.ops [⟨(some 61), .mov (.tmp 2), none⟩,
    ⟨(some 62), .mov (.tmp 0), none⟩,
    ⟨(some 63), .mov (.tmp 1), none⟩,
    ⟨(some 64), .mov (.tmp 7), none⟩,
    ⟨(some 65), .bin .add (.tmp 63) (.tmp 64), none⟩,
    ⟨(some 66), .slc 1 (.tmp 62) (some (.tmp 65)) none none, none⟩,
    ⟨(some 67), .call 82 [(.tmp 61), (.tmp 66)], none⟩,
    ⟨(some 68), .un .not (.tmp 67), none⟩])
  (.cond (.tmp 68)
  (.seq (.ops [⟨(some 69), .mov (.tmp 0), none⟩,
    ⟨(some 70), .mov (.tmp 1), none⟩,
    ⟨(some 71), .mov (.tmp 7), none⟩,
    ⟨(some 72), .bin .add (.tmp 70) (.tmp 71), none⟩,
    ⟨(some 73), .slc 1 (.tmp 69) (some (.tmp 72)) none none, none⟩,
    ⟨(some 74), .mov (.tmp 0), none⟩,
    ⟨(some 75), .mov (.tmp 1), none⟩,
    ⟨(some 76), .slc 1 (.tmp 74) (some (.tmp 75)) none none, none⟩,
    ⟨(some 77), .copy 1 (.tmp 73) (.tmp 76), none⟩])
  (.seq (.ops [⟨(some 78), .mov (.tmp 0), none⟩,
    ⟨(some 79), .mov (.tmp 1), none⟩,
    ⟨(some 80), .slc 1 (.tmp 78) (some (.tmp 79)) none none, none⟩,
    ⟨(some 81), .mov (.tmp 2), none⟩,
    ⟨(some 82), .copy 1 (.tmp 80) (.tmp 81), none⟩])
  (.seq (.ops [⟨(some 83), .mov (.tmp 0), none⟩,
    ⟨(some 6), .mov (.tmp 83), none⟩])
  .ret)))
  .skip))
  (.seq (.ops [⟨(some 84), .mov (.tmp 0), none⟩,
    ⟨(some 85), .mov (.tmp 8), none⟩,
    ⟨(some 86), .slc 1 (.tmp 84) (some (.tmp 85)) none none, none⟩,
    ⟨(some 87), .mov (.tmp 2), none⟩,
    ⟨(some 88), .copy 1 (.tmp 86) (.tmp 87), none⟩])
  (.seq (.ops [⟨(some 89), .mov (.tmp 0), none⟩,
    ⟨(some 90), .mov (.tmp 1), none⟩,
    ⟨(some 91), .slc 1 (.tmp 89) (some (.tmp 90)) none none, none⟩,
    ⟨(some 92), .mov (.tmp 7), none⟩,
    ⟨(some 93), .call 83 [(.tmp 91), (.tmp 92)], none⟩])
  (.seq (.ops [⟨(some 94), .mov (.tmp 0), none⟩,
    ⟨(some 6), .mov (.tmp 94), none⟩])
  .ret))))))))))))
def a60 : AFunc := ⟨3, c60, [.tmp 6]⟩

/- 61: slices.Insert[[]int,int] -/
def c61 : ACode := (.seq (.ops [⟨(some 6), .mov (.con .nilSlice), none⟩])
  (.seq (.ops [⟨(some 10), .mov (.tmp 0), none⟩,
    ⟨(some 11), .mov (.tmp 1), none⟩,
    ⟨(some 12), .slc 1 (.tmp 10) (some (.tmp 11)) none none, none⟩])
  (.seq (.ops [⟨(some 13), .mov (.tmp 2), none⟩,
    ⟨(some 14), .lenSlice (.tmp 13), none⟩,
    ⟨(some 7), .mov (.tmp 14), none⟩])
  (.seq (.seq (.ops [⟨(some 15), .mov (.tmp 7), none⟩,
    ⟨(some 16), .bin .eql (.tmp 15) (.con (.int .i64 0)), none⟩])
  (.cond (.tmp 16)
  (.seq (.ops [⟨(some 17), .mov (.tmp 0), none⟩,
    ⟨(some 6), .mov (.tmp 17), none⟩])
  .ret)
  .skip))
  (.seq (.ops [⟨(some 18), .mov (.tmp 0), none⟩,
    ⟨(some 19), .lenSlice (.tmp 18), none⟩,
    ⟨(some 8), .mov (.tmp 19), none⟩])
  (.seq (.seq (.ops [⟨(some 20), .mov (.tmp 1), none⟩,
    ⟨(some 21), .mov (.tmp 8), none⟩,
    ⟨(some 22), .bin .eql (.tmp 20) (.tmp 21), none⟩])
  (.cond (.tmp 22)
  (.seq (.ops [⟨(some 23), .mov (.tmp 0), none⟩,
    ⟨(some 24), .mov (.tmp 2), none⟩,
    ⟨(some 25), .append 1 8 (.tmp 23) (.tmp 24), none⟩,
    ⟨(some 6), .mov (.tmp 25), none⟩])
  .ret)
  .skip))
  (.seq (.seq (.ops [⟨(some 26), .mov (.tmp 8), none⟩,
    ⟨(some 27), .mov (.tmp 7), none⟩,
    ⟨(some 28), .bin .add (.tmp 26) (.tmp 27), none⟩,
    ⟨(some 29), .mov (.tmp 0), none⟩,
    ⟨(some 30), .capSlice (.tmp 29), none⟩,
    ⟨(some 31), .bin .gtr (.tmp 28) (.tmp 30), none⟩])
  (.cond (.tmp 31)
  (.seq (.ops [⟨(some 32), .mov (.tmp 0), none⟩,
    ⟨(some 33), .mov (.tmp 1), none⟩,
    ⟨(some 34), .slc 1 (.tmp 32) none (some (.tmp 33)) none, none⟩,
    ⟨(some 35), .mov (.tmp 8), none⟩,
    ⟨(some 36), .mov (.tmp 7), none⟩,
    ⟨(some 37), .bin .add (.tmp 35) (.tmp 36), none⟩,
    ⟨(some 38), .mov (.tmp 1), none⟩,
    ⟨(some 39), .bin .sub (.tmp 37) (.tmp 38), none⟩,
    ⟨(some 40), .appendZ 1 8 [(.int .i64 0)] (.tmp 34) (.tmp 39), none⟩,
    ⟨(some 9), .mov (.tmp 40), none⟩])
  (.seq (.ops [⟨(some 41), .mov (.tmp 9), none⟩,
    ⟨(some 42), .mov (.tmp 1), none⟩,
    ⟨(some 43), .slc 1 (.tmp 41) (some (.tmp 42)) none none, none⟩,
    ⟨(some 44), .mov (.tmp 2), none⟩,
    ⟨(some 45), .copy 1 (.tmp 43) (.tmp 44), none⟩])
  (.seq (.ops [⟨(some 46), .mov (.tmp 9), none⟩,
    ⟨(some 47), .mov (.tmp 1), none⟩,
    ⟨(some 48), .mov (.tmp 7), none⟩,
    ⟨(some 49), .bin .add (.tmp 47) (.tmp 48), none⟩,
    ⟨(some 50), .slc 1 (.tmp 46) (some (.tmp 49)) none none, none⟩,
    ⟨(some 51), .mov (.tmp 0), none⟩,
    ⟨(some 52), .mov (.tmp 1), none⟩,
    ⟨(some 53), .slc 1 (.tmp 51) (some (.tmp 52)) none none, none⟩,
    ⟨(some 54), .copy 1 (.tmp 50) (.tmp 53), none⟩])
  (.seq (.ops [⟨(some 55), .mov (.tmp 9), none⟩,
    ⟨(some 6), .mov (.tmp 55), none⟩])
  .ret))))
  .skip))
  (.seq (.ops [⟨(some 56), .mov (.tmp 0), none⟩,
    ⟨(some 57), .mov (.tmp 8), none⟩,
    ⟨(some 58), .mov (.tmp 7), none⟩,
    ⟨(some 59), .bin .add (.tmp 57) (.tmp 58), none⟩,
    ⟨(some 60), .slc 1 (.tmp 56) none (some (.tmp 59)) none, none⟩,
    ⟨(some 0), .mov (.tmp 60), none⟩])
  (.seq (.seq (.ops [⟨(some 61), .mov (.tmp 2), none⟩,
    ⟨(some 62), .mov (.tmp 0), none⟩,
    ⟨(some 63), .mov (.tmp 1), none⟩,
    ⟨(some 64), .mov (.tmp 7), none⟩,
    ⟨(some 65), .bin .add (.tmp 63) (.tmp 64), none⟩,
    ⟨(some 66), .slc 1 (.tmp 62) (some (.tmp 65)) none none, none⟩,
    ⟨(some 67), .call 84 [(.tmp 61), (.tmp 66)], none⟩,
    ⟨(some 68), .un .not (.tmp 67), none⟩])
  (.cond (.tmp 68)
  (.seq (.ops [⟨(some 69), .mov (.tmp 0), none⟩,
    ⟨(some 70), .mov (.tmp 1), none⟩,
    ⟨(some 71), .mov (.tmp 7), none⟩,
    ⟨(some 72), .bin .add (.tmp 70) (.tmp 71), none⟩,
    ⟨(some 73), .slc 1 (.tmp 69) (some (.tmp 72)) none none, none⟩,
    ⟨(some 74), .mov (.tmp 0), none⟩,
    ⟨(some 75), .mov (.tmp 1), none⟩,
    ⟨(some 76), .slc 1 (.tmp 74) (some (.tmp 75)) none none, none⟩,
    ⟨(some 77), .copy 1 (.tmp 73) (.tmp 76), none⟩])
  (.seq (.ops [⟨(some 78), .mov (.tmp 0), none⟩,
    ⟨(some 79), .mov (.tmp 1), none⟩,
    ⟨(some 80), .slc 1 (.tmp 78) (some (.tmp 79)) none none, none⟩,
    ⟨(some 81), .mov (.tmp 2), none⟩,
    ⟨(some 82), .copy 1 (.tmp 80) (.tmp 81), none⟩])
  (.seq (.ops [⟨(some 83), .mov (.tmp 0), none⟩,
    ⟨(some 6), .mov (.tmp 83), none⟩])
  .ret)))
  .skip))
  (.seq (.ops [⟨(some 84), .mov (.tmp 0), none⟩,
    ⟨(some 85), .mov (.tmp 8), none⟩,
    ⟨(some 86), .slc 1 (.tmp 84) (some (.tmp 85)) none none, none⟩,
    ⟨(some 87), .mov (.tmp 2), none⟩,
    ⟨(some 88), .copy 1 (.tmp 86) (.tmp 87), none⟩])
  (.seq (.ops [⟨(some 89), .mov (.tmp 0), none⟩,
    ⟨(some 90), .mov (.tmp 1), none⟩,
    ⟨(some 91), .slc 1 (.tmp 89) (some (.tmp 90)) none none, none⟩,
    ⟨(some 92), .mov (.tmp 7), none⟩,
    ⟨(some 93), .call 85 [(.tmp 91), (.tmp 92)], none⟩])
  (.seq (.ops [⟨(some 94), .mov (.tmp 0), none⟩,
    ⟨(some 6), .mov (.tmp 94), none⟩])
  .ret))))))))))))
def a61 : AFunc := ⟨3, c61, [.tmp 6]⟩

/- 62: tendril/node.at -/
def c62l0 : ACode := (.seq (.ops [⟨(some 11), .bin .lss (.tmp 10) (.tmp 9), none⟩])
  (.seq (.cond (.tmp 11)
  .skip
  (.exit 0))
  (.seq (.block 1 (.seq (.ops [⟨(some 12), .mov (.tmp 10), none⟩,
    ⟨(some 13), .idxAddr 1 (.tmp 8) (.tmp 10), none⟩,
    ⟨(some 14), .load false 1 (.tmp 13), none⟩,
    ⟨(some 5), .mov (.tmp 12), none⟩,
    ⟨(some 6), .mov (.tmp 14), none⟩])
  (.seq (.ops [⟨(some 15), .mov (.tmp 6), none⟩,
    ⟨(some 16), .mov (.tmp 1), none⟩,
    ⟨(some 17), .bin .eql (.tmp 15) (.tmp 16), none⟩,
    ⟨(some 18), .mov (.tmp 17), none⟩,
    ⟨(some 19), .mov (.tmp 5), (some (18, true))⟩,
    ⟨(some 20), .fieldAddr 4 (.tmp 2), (some (18, true))⟩,
    ⟨(some 21), .load false 1 (.tmp 20), (some (18, true))⟩,
    ⟨(some 22), .lenSlice (.tmp 21), (some (18, true))⟩,
    ⟨(some 23), .bin .lss (.tmp 19) (.tmp 22), (some (18, true))⟩,
    ⟨(some 24), .pick (.tmp 18) (.tmp 23) (.con (.bool false)), none⟩])
  (.cond (.tmp 24)
  (.seq (.ops [⟨(some 25), .mov (.tmp 5), none⟩,
    ⟨(some 4), .mov (.tmp 25), none⟩])
  .ret)
  .skip))))
  (.ops [⟨(some 26), .bin .add (.tmp 10) (.con (.int .i64 1)), none⟩,
    ⟨(some 10), .mov (.tmp 26), none⟩]))))
def c62 : ACode := (.seq (.ops [⟨(some 2), .box (.tmp 0), none⟩,
    ⟨(some 4), .mov (.con (.int .i64 0)), none⟩])
  (.seq (.seq (.ops [⟨(some 7), .fieldAddr 3 (.tmp 2), none⟩,
    ⟨(some 8), .load false 1 (.tmp 7), none⟩,
    ⟨(some 9), .lenSlice (.tmp 8), none⟩,
    ⟨(some 10), .mov (.con (.int .i64 0)), none⟩])
  (.block 0 (.loop c62l0)))
  (.seq (.ops [⟨(some 4), .mov (.con (.int .i64 (-1))), none⟩])
  .ret)))
def a62 : AFunc := ⟨2, c62, [.tmp 4]⟩

/- 63: slices.Concat[[]byte,byte] -/
def c63l0 : ACode := (.seq (.ops [⟨(some 12), .bin .lss (.tmp 11) (.tmp 10), none⟩])
  (.seq (.cond (.tmp 12)
  .skip
  (.exit 0))
  (.seq (.block 1 (.seq (.ops [⟨(some 13), .idxAddr 1 (.tmp 9) (.tmp 11), none⟩,
    ⟨(some 14), .load false 1 (.tmp 13), none⟩,
    ⟨(some 5), .mov (.tmp 14), none⟩])
  (.seq (.ops [⟨(some 15), .mov (.tmp 3), none⟩,
    ⟨(some 16), .mov (.tmp 5), none⟩,
    ⟨(some 17), .lenSlice (.tmp 16), none⟩,
    ⟨(some 18), .bin .add (.tmp 15) (.tmp 17), none⟩,
    ⟨(some 3), .mov (.tmp 18), none⟩])
  (.seq (.ops [⟨(some 19), .mov (.tmp 3), none⟩,
    ⟨(some 20), .bin .lss (.tmp 19) (.con (.int .i64 0)), none⟩])
  (.cond (.tmp 20)
  (.ops [⟨(some 21), .mkIface 9 (.con (.str [108, 101, 110, 32, 111, 117, 116, 32, 111, 102, 32, 114, 97, 110, 103, 101])), none⟩,
    ⟨none, .stuck, none⟩])
  .skip)))))
  (.ops [⟨(some 22), .bin .add (.tmp 11) (.con (.int .i64 1)), none⟩,
    ⟨(some 11), .mov (.tmp 22), none⟩]))))
def c63l1 : ACode := (.seq (.ops [⟨(some 28), .bin .lss (.tmp 27) (.tmp 26), none⟩])
  (.seq (.cond (.tmp 28)
  .skip
  (.exit 2))
  (.seq (.block 3 (.seq (.ops [⟨(some 29), .idxAddr 1 (.tmp 25) (.tmp 27), none⟩,
    ⟨(some 30), .load false 1 (.tmp 29), none⟩,
    ⟨(some 8), .mov (.tmp 30), none⟩])
  (.ops [⟨(some 31), .mov (.tmp 6), none⟩,
    ⟨(some 32), .mov (.tmp 8), none⟩,
    ⟨(some 33), .append 1 1 (.tmp 31) (.tmp 32), none⟩,
    ⟨(some 6), .mov (.tmp 33), none⟩])))
  (.ops [⟨(some 34), .bin .add (.tmp 27) (.con (.int .i64 1)), none⟩,
    ⟨(some 27), .mov (.tmp 34), none⟩]))))
def c63 : ACode := (.seq (.ops [⟨(some 2), .mov (.con .nilSlice), none⟩])
  (.seq (.ops [⟨(some 3), .mov (.con (.int .i64 0)), none⟩])
  (.seq (.seq (.ops [⟨(some 9), .mov (.tmp 0), none⟩,
    ⟨(some 10), .lenSlice (.tmp 9), none⟩,
    ⟨(some 11), .mov (.con (.int .i64 0)), none⟩])
  (.block 0 (.loop c63l0)))
  (.seq (.ops [⟨(some 23), .mov (.tmp 3), none⟩,
    ⟨(some 24), .call 86 [(.con .nilSlice), (.tmp 23)], none⟩,
    ⟨(some 6), .mov (.tmp 24), none⟩])
  (.seq (.seq (.ops [⟨(some 25), .mov (.tmp 0), none⟩,
    ⟨(some 26), .lenSlice (.tmp 25), none⟩,
    ⟨(some 27), .mov (.con (.int .i64 0)), none⟩])
  (.block 2 (.loop c63l1)))
  (.seq (.ops [⟨(some 35), .mov (.tmp 6), none⟩,
    ⟨(some 2), .mov (.tmp 35), none⟩])
  .ret))))))
def a63 : AFunc := ⟨1, c63, [.tmp 2]⟩

/- 64: slices.Concat[[]int,int] -/
def c64l0 : ACode := (.seq (.ops [⟨(some 12), .bin .lss (.tmp 11) (.tmp 10), none⟩])
  (.seq (.cond (.tmp 12)
  .skip
  (.exit 0))
  (.seq (.block 1 (.seq (.ops [⟨(some 13), .idxAddr 1 (.tmp 9) (.tmp 11), none⟩,
    ⟨(some 14), .load false 1 (.tmp 13), none⟩,
    ⟨(some 5), .mov (.tmp 14), none⟩])
  (.seq (.ops [⟨(some 15), .mov (.tmp 3), none⟩,
    ⟨(some 16), .mov (.tmp 5), none⟩,
    ⟨(some 17), .lenSlice (.tmp 16), none⟩,
    ⟨(some 18), .bin .add (.tmp 15) (.tmp 17), none⟩,
    ⟨(some 3), .mov (.tmp 18), none⟩])
  (.seq (.ops [⟨(some 19), .mov (.tmp 3), none⟩,
    ⟨(some 20), .bin .lss (.tmp 19) (.con (.int .i64 0)), none⟩])
  (.cond (.tmp 20)
  (.ops [⟨(some 21), .mkIface 9 (.con (.str [108, 101, 110, 32, 111, 117, 116, 32, 111, 102, 32, 114, 97, 110, 103, 101])), none⟩,
    ⟨none, .stuck, none⟩])
  .skip)))))
  (.ops [⟨(some 22), .bin .add (.tmp 11) (.con (.int .i64 1)), none⟩,
    ⟨(some 11), .mov (.tmp 22), none⟩]))))
def c64l1 : ACode := (.seq (.ops [⟨(some 28), .bin .lss (.tmp 27) (.tmp 26), none⟩])
  (.seq (.cond (.tmp 28)
  .skip
  (.exit 2))
  (.seq (.block 3 (.seq (.ops [⟨(some 29), .idxAddr 1 (.tmp 25) (.tmp 27), none⟩,
    ⟨(some 30), .load false 1 (.tmp 29), none⟩,
    ⟨(some 8), .mov (.tmp 30), none⟩])
  (.ops [⟨(some 31), .mov (.tmp 6), none⟩,
    ⟨(some 32), .mov (.tmp 8), none⟩,
    ⟨(some 33), .append 1 8 (.tmp 31) (.tmp 32), none⟩,
    ⟨(some 6), .mov (.tmp 33), none⟩])))
  (.ops [⟨(some 34), .bin .add (.tmp 27) (.con (.int .i64 1)), none⟩,
    ⟨(some 27), .mov (.tmp 34), none⟩]))))
def c64 : ACode := (.seq (.ops [⟨(some 2), .mov (.con .nilSlice), none⟩])
  (.seq (.ops [⟨(some 3), .mov (.con (.int .i64 0)), none⟩])
  (.seq (.seq (.ops [⟨(some 9), .mov (.tmp 0), none⟩,
    ⟨(some 10), .lenSlice (.tmp 9), none⟩,
    ⟨(some 11), .mov (.con (.int .i64 0)), none⟩])
  (.block 0 (.loop c64l0)))
  (.seq (.ops [⟨(some 23), .mov (.tmp 3), none⟩,
    ⟨(some 24), .call 87 [(.con .nilSlice), (.tmp 23)], none⟩,
    ⟨(some 6), .mov (.tmp 24), none⟩])
  (.seq (.seq (.ops [⟨(some 25), .mov (.tmp 0), none⟩,
    ⟨(some 26), .lenSlice (.tmp 25), none⟩,
    ⟨(some 27), .mov (.con (.int .i64 0)), none⟩])
  (.block 2 (.loop c64l1)))
  (.seq (.ops [⟨(some 35), .mov (.tmp 6), none⟩,
    ⟨(some 2), .mov (.tmp 35), none⟩])
  .ret))))))
def a64 : AFunc := ⟨1, c64, [.tmp 2]⟩

/- 65: tendril/word.Dead -/
def c65 : ACode := (.seq (.ops [⟨(some 2), .mov (.con (.bool false)), none⟩])
  (.seq (.ops [⟨(some 3), .mov (.tmp 0), none⟩,
    ⟨(some 4), .bin .and (.tmp 3) (.con (.int .u64 2)), none⟩,
    ⟨(some 5), .bin .neq (.tmp 4) (.con (.int .u64 0)), none⟩,
    ⟨(some 2), .mov (.tmp 5), none⟩])
  .ret))
def a65 : AFunc := ⟨1, c65, [.tmp 2]⟩

/- 69: tendril/pack.Bytes -/
def c69l0 : ACode := (.seq (.ops [⟨(some 32), .bin .lss (.tmp 31) (.con (.int .i64 8)), none⟩])
  (.seq (.cond (.tmp 32)
  .skip
  (.exit 2))
  (.seq (.block 3 (.seq (.ops [⟨(some 33), .mov (.tmp 31), none⟩,
    ⟨(some 9), .mov (.tmp 33), none⟩])
  (.ops [⟨(some 34), .mov (.tmp 6), none⟩,
    ⟨(some 35), .mov (.tmp 8), none⟩,
    ⟨(some 36), .mov (.tmp 9), none⟩,
    ⟨(some 37), .bin .mul (.con (.int .i64 8)) (.tmp 36), none⟩,
    ⟨(some 38), .toInt .u64 (.tmp 37), none⟩,
    ⟨(some 39), .bin .shr (.tmp 35) (.tmp 38), none⟩,
    ⟨(some 40), .toInt .u8 (.tmp 39), none⟩,
    ⟨(some 41), .buildSlice 1 1 [(.int .u8 0)] [(0, 1, (.tmp 40))], none⟩,
    ⟨(some 42), .append 1 1 (.tmp 34) (.tmp 41), none⟩,
    ⟨(some 6), .mov (.tmp 42), none⟩])))
  (.ops [⟨(some 43), .bin .add (.tmp 31) (.con (.int .i64 1)), none⟩,
    ⟨(some 31), .mov (.tmp 43), none⟩]))))
def c69l1 : ACode := (.seq (.ops [⟨(some 28), .bin .lss (.tmp 27) (.tmp 26), none⟩])
  (.seq (.cond (.tmp 28)
  .skip
  (.exit 0))
  (.seq (.block 1 (.seq (.ops [⟨(some 29), .idxAddr 1 (.tmp 25) (.tmp 27), none⟩,
    ⟨(some 30), .load false 1 (.tmp 29), none⟩,
    ⟨(some 8), .mov (.tmp 30), none⟩])
  (.seq (.ops [⟨(some 31), .mov (.con (.int .i64 0)), none⟩])
  (.block 2 (.loop c69l0)))))
  (.ops [⟨(some 44), .bin .add (.tmp 27) (.con (.int .i64 1)), none⟩,
    ⟨(some 27), .mov (.tmp 44), none⟩]))))
def c69l2 : ACode := (.seq (.ops [⟨(some 50), .bin .lss (.tmp 49) (.tmp 48), none⟩])
  (.seq (.cond (.tmp 50)
  .skip
  (.exit 4))
  (.seq (.block 5 (.seq (.ops [⟨(some 51), .idxAddr 1 (.tmp 47) (.tmp 49), none⟩,
    ⟨(some 52), .load false 1 (.tmp 51), none⟩,
    ⟨(some 11), .mov (.tmp 52), none⟩])
  (.seq (.ops [⟨(some 53), .mov (.tmp 11), none⟩,
    ⟨(some 54), .bin .neq (.tmp 53) (.con (.int .u8 0)), none⟩])
  (.cond (.tmp 54)
  (.seq (.ops [⟨(some 4), .mov (.con (.str [])), none⟩,
    ⟨(some 5), .mov (.con (.int .i64 5)), none⟩])
  .ret)
  .skip))))
  (.ops [⟨(some 55), .bin .add (.tmp 49) (.con (.int .i64 1)), none⟩,
    ⟨(some 49), .mov (.tmp 55), none⟩]))))
def c69 : ACode := (.seq (.ops [⟨(some 4), .mov (.con (.str [])), none⟩,
    ⟨(some 5), .mov (.con (.int .i64 0)), none⟩])
  (.seq (.seq (.ops [⟨(some 12), .mov (.tmp 1), none⟩,
    ⟨(some 13), .bin .lss (.tmp 12) (.con (.int .i64 0)), none⟩,
    ⟨(some 14), .mov (.tmp 13), none⟩,
    ⟨(some 15), .mov (.tmp 1), (some (14, false))⟩,
    ⟨(some 16), .mov (.tmp 0), (some (14, false))⟩,
    ⟨(some 17), .lenSlice (.tmp 16), (some (14, false))⟩,
    ⟨(some 18), .bin .mul (.con (.int .i64 8)) (.tmp 17), (some (14, false))⟩,
    ⟨(some 19), .bin .gtr (.tmp 15) (.tmp 18), (some (14, false))⟩,
    ⟨(some 20), .pick (.tmp 14) (.con (.bool true)) (.tmp 19), none⟩])
  (.cond (.tmp 20)
  (.seq (.ops [⟨(some 4), .mov (.con (.str [])), none⟩,
    ⟨(some 5), .mov (.con (.int .i64 1)), none⟩])
  .ret)
  .skip))
  (.seq (.ops [⟨(some 21), .mov (.tmp 0), none⟩,
    ⟨(some 22), .lenSlice (.tmp 21), none⟩,
    ⟨(some 23), .bin .mul (.con (.int .i64 8)) (.tmp 22), none⟩,
    ⟨(some 24), .mkSlice 1 1 [(.int .u8 0)] (.con (.int .i64 0)) (.tmp 23), none⟩,
    ⟨(some 6), .mov (.tmp 24), none⟩])
  (.seq (.seq (.ops [⟨(some 25), .mov (.tmp 0), none⟩,
    ⟨(some 26), .lenSlice (.tmp 25), none⟩,
    ⟨(some 27), .mov (.con (.int .i64 0)), none⟩])
  (.block 0 (.loop c69l1)))
  (.seq (.seq (.ops [⟨(some 45), .mov (.tmp 6), none⟩,
    ⟨(some 46), .mov (.tmp 1), none⟩,
    ⟨(some 47), .slc 1 (.tmp 45) (some (.tmp 46)) none none, none⟩,
    ⟨(some 48), .lenSlice (.tmp 47), none⟩,
    ⟨(some 49), .mov (.con (.int .i64 0)), none⟩])
  (.block 4 (.loop c69l2)))
  (.seq (.ops [⟨(some 56), .mov (.tmp 6), none⟩,
    ⟨(some 57), .mov (.tmp 1), none⟩,
    ⟨(some 58), .slc 1 (.tmp 56) none (some (.tmp 57)) none, none⟩,
    ⟨(some 59), .toStr (.tmp 58), none⟩,
    ⟨(some 4), .mov (.tmp 59), none⟩,
    ⟨(some 5), .mov (.con (.int .i64 0)), none⟩])
  .ret))))))
def a69 : AFunc := ⟨2, c69, [.tmp 4, .tmp 5]⟩

/- 75: tendril/node.bytes -/
def c75l0 : ACode := (.seq (.ops [⟨(some 39), .bin .lss (.tmp 38) (.con (.int .i64 256)), none⟩])
  (.seq (.cond (.tmp 39)
  .skip
  (.exit 1))
  (.seq (.block 2 (.seq (.ops [⟨(some 40), .mov (.tmp 38), none⟩,
    ⟨(some 11), .mov (.tmp 40), none⟩])
  (.seq (.ops [⟨(some 41), .mov (.tmp 0), none⟩,
    ⟨(some 42), .mov (.tmp 11), none⟩,
    ⟨(some 43), .bin .quo (.tmp 42) (.con (.int .i64 8)), none⟩,
    ⟨(some 44), .bin .add (.con (.int .i64 4)) (.tmp 43), none⟩,
    ⟨(some 45), .idxAddr 1 (.tmp 41) (.tmp 44), none⟩,
    ⟨(some 46), .load false 1 (.tmp 45), none⟩,
    ⟨(some 47), .mov (.tmp 11), none⟩,
    ⟨(some 48), .bin .rem (.tmp 47) (.con (.int .i64 8)), none⟩,
    ⟨(some 49), .bin .mul (.con (.int .i64 8)) (.tmp 48), none⟩,
    ⟨(some 50), .toInt .u64 (.tmp 49), none⟩,
    ⟨(some 51), .bin .shr (.tmp 46) (.tmp 50), none⟩,
    ⟨(some 52), .bin .and (.tmp 51) (.con (.int .u64 255)), none⟩,
    ⟨(some 53), .toInt .i64 (.tmp 52), none⟩,
    ⟨(some 12), .mov (.tmp 53), none⟩])
  (.seq (.ops [⟨(some 54), .mov (.tmp 12), none⟩,
    ⟨(some 55), .mov (.tmp 2), none⟩,
    ⟨(some 56), .bin .gtr (.tmp 54) (.tmp 55), none⟩])
  (.cond (.tmp 56)
  (.seq (.ops [⟨(some 6), .mov (.con .nilSlice), none⟩,
    ⟨(some 7), .mov (.con (.bool false)), none⟩])
  .ret)
  (.seq (.ops [⟨(some 57), .mov (.tmp 12), none⟩,
    ⟨(some 58), .bin .gtr (.tmp 57) (.con (.int .i64 0)), none⟩])
  (.cond (.tmp 58)
  (.ops [⟨(some 59), .mov (.tmp 10), none⟩,
    ⟨(some 60), .mov (.tmp 12), none⟩,
    ⟨(some 61), .bin .sub (.tmp 60) (.con (.int .i64 1)), none⟩,
    ⟨(some 62), .mov (.tmp 11), none⟩,
    ⟨(some 63), .toInt .u8 (.tmp 62), none⟩,
    ⟨(some 64), .idxAddr 1 (.tmp 59) (.tmp 61), none⟩,
    ⟨none, .store 1 (.tmp 64) (.tmp 63), none⟩])
  .skip)))))))
  (.ops [⟨(some 65), .bin .add (.tmp 38) (.con (.int .i64 1)), none⟩,
    ⟨(some 38), .mov (.tmp 65), none⟩]))))
def c75l1 : ACode := (.seq (.ops [⟨(some 68), .bin .lss (.tmp 67) (.con (.int .i64 256)), none⟩])
  (.seq (.cond (.tmp 68)
  .skip
  (.exit 3))
  (.seq (.block 4 (.seq (.ops [⟨(some 69), .mov (.tmp 67), none⟩,
    ⟨(some 14), .mov (.tmp 69), none⟩])
  (.seq (.ops [⟨(some 70), .mov (.tmp 0), none⟩,
    ⟨(some 71), .mov (.tmp 14), none⟩,
    ⟨(some 72), .bin .add (.con (.int .i64 4)) (.tmp 71), none⟩,
    ⟨(some 73), .idxAddr 1 (.tmp 70) (.tmp 72), none⟩,
    ⟨(some 74), .load false 1 (.tmp 73), none⟩,
    ⟨(some 75), .bin .neq (.tmp 74) (.con (.int .u64 0)), none⟩])
  (.cond (.tmp 75)
  (.ops [⟨(some 76), .mov (.tmp 13), none⟩,
    ⟨(some 77), .mov (.tmp 14), none⟩,
    ⟨(some 78), .toInt .u8 (.tmp 77), none⟩,
    ⟨(some 79), .buildSlice 1 1 [(.int .u8 0)] [(0, 1, (.tmp 78))], none⟩,
    ⟨(some 80), .append 1 1 (.tmp 76) (.tmp 79), none⟩,
    ⟨(some 13), .mov (.tmp 80), none⟩])
  .skip))))
  (.ops [⟨(some 81), .bin .add (.tmp 67) (.con (.int .i64 1)), none⟩,
    ⟨(some 67), .mov (.tmp 81), none⟩]))))
def c75 : ACode := (.seq (.ops [⟨(some 6), .mov (.con .nilSlice), none⟩,
    ⟨(some 7), .mov (.con (.bool false)), none⟩])
  (.seq (.seq (.ops [⟨(some 15), .mov (.tmp 1), none⟩])
  (.block 0 (.seq (.seq (.ops [⟨(some 17), .bin .eql (.tmp 15) (.con (.int .i64 1)), none⟩,
    ⟨(some 16), .mov (.tmp 17), none⟩])
  (.cond (.tmp 16)
  .skip
  (.ops [⟨(some 18), .bin .eql (.tmp 15) (.con (.int .i64 2)), none⟩,
    ⟨(some 16), .mov (.tmp 18), none⟩])))
  (.cond (.tmp 16)
  (.seq (.ops [⟨(some 20), .mov (.tmp 0), none⟩,
    ⟨(some 21), .mov (.tmp 1), none⟩,
    ⟨(some 22), .call 27 [(.tmp 21)], none⟩,
    ⟨(some 23), .call 78 [(.tmp 22)], none⟩,
    ⟨(some 24), .bin .add (.con (.int .i64 4)) (.tmp 23), none⟩,
    ⟨(some 25), .slc 1 (.tmp 20) (some (.con (.int .i64 4))) (some (.tmp 24)) none, none⟩,
    ⟨(some 26), .mov (.tmp 2), none⟩,
    ⟨(some 27), .call 69 [(.tmp 25), (.tmp 26)], none⟩,
    ⟨(some 19), .mov (.tmp 27), none⟩,
    ⟨(some 28), .extract (.tmp 19) 0, none⟩,
    ⟨(some 29), .extract (.tmp 19) 1, none⟩,
    ⟨(some 8), .mov (.tmp 28), none⟩,
    ⟨(some 9), .mov (.tmp 29), none⟩])
  (.seq (.ops [⟨(some 30), .mov (.tmp 8), none⟩,
    ⟨(some 31), .toBytes (.tmp 30), none⟩,
    ⟨(some 32), .mov (.tmp 9), none⟩,
    ⟨(some 33), .bin .eql (.tmp 32) (.con (.int .i64 0)), none⟩,
    ⟨(some 6), .mov (.tmp 31), none⟩,
    ⟨(some 7), .mov (.tmp 33), none⟩])
  .ret))
  (.seq (.ops [⟨(some 35), .bin .eql (.tmp 15) (.con (.int .i64 3)), none⟩,
    ⟨(some 34), .mov (.tmp 35), none⟩])
  (.cond (.tmp 34)
  (.seq (.ops [⟨(some 36), .mov (.tmp 2), none⟩,
    ⟨(some 37), .mkSlice 1 1 [(.int .u8 0)] (.tmp 36) (.tmp 36), none⟩,
    ⟨(some 10), .mov (.tmp 37), none⟩])
  (.seq (.seq (.ops [⟨(some 38), .mov (.con (.int .i64 0)), none⟩])
  (.block 1 (.loop c75l0)))
  (.seq (.ops [⟨(some 66), .mov (.tmp 10), none⟩,
    ⟨(some 6), .mov (.tmp 66), none⟩,
    ⟨(some 7), .mov (.con (.bool true)), none⟩])
  .ret)))
  .skip))))))
  (.seq (.ops [⟨(some 13), .mov (.con .nilSlice), none⟩])
  (.seq (.seq (.ops [⟨(some 67), .mov (.con (.int .i64 0)), none⟩])
  (.block 3 (.loop c75l1)))
  (.seq (.ops [⟨(some 82), .mov (.tmp 13), none⟩,
    ⟨(some 83), .mov (.tmp 13), none⟩,
    ⟨(some 84), .lenSlice (.tmp 83), none⟩,
    ⟨(some 85), .mov (.tmp 2), none⟩,
    ⟨(some 86), .bin .eql (.tmp 84) (.tmp 85), none⟩,
    ⟨(some 6), .mov (.tmp 82), none⟩,
    ⟨(some 7), .mov (.tmp 86), none⟩])
  .ret)))))
def a75 : AFunc := ⟨3, c75, [.tmp 6, .tmp 7]⟩

/- 76: tendril/node.place -/
def c76 : ACode := (.seq (.ops [⟨(some 6), .mov (.con (.int .i64 0)), none⟩])
  (.seq (.seq (.ops [⟨(some 7), .mov (.tmp 0), none⟩])
  (.block 0 (.seq (.ops [⟨(some 9), .bin .eql (.tmp 7) (.con (.int .i64 1)), none⟩,
    ⟨(some 8), .mov (.tmp 9), none⟩])
  (.cond (.tmp 8)
  (.seq (.ops [⟨(some 10), .mov (.tmp 1), none⟩,
    ⟨(some 11), .bin .add (.con (.int .i64 5)) (.tmp 10), none⟩,
    ⟨(some 6), .mov (.tmp 11), none⟩])
  .ret)
  (.seq (.ops [⟨(some 13), .bin .eql (.tmp 7) (.con (.int .i64 2)), none⟩,
    ⟨(some 12), .mov (.tmp 13), none⟩])
  (.cond (.tmp 12)
  (.seq (.ops [⟨(some 14), .mov (.tmp 1), none⟩,
    ⟨(some 15), .bin .add (.con (.int .i64 6)) (.tmp 14), none⟩,
    ⟨(some 6), .mov (.tmp 15), none⟩])
  .ret)
  (.seq (.ops [⟨(some 17), .bin .eql (.tmp 7) (.con (.int .i64 3)), none⟩,
    ⟨(some 16), .mov (.tmp 17), none⟩])
  (.cond (.tmp 16)
  (.seq (.ops [⟨(some 18), .mov (.tmp 1), none⟩,
    ⟨(some 19), .bin .add (.con (.int .i64 36)) (.tmp 18), none⟩,
    ⟨(some 6), .mov (.tmp 19), none⟩])
  .ret)
  .skip))))))))
  (.seq (.ops [⟨(some 20), .mov (.tmp 2), none⟩,
    ⟨(some 21), .toInt .i64 (.tmp 20), none⟩,
    ⟨(some 22), .bin .add (.con (.int .i64 4)) (.tmp 21), none⟩,
    ⟨(some 6), .mov (.tmp 22), none⟩])
  .ret)))
def a76 : AFunc := ⟨3, c76, [.tmp 6]⟩

/- 70: slices.Equal[[]uint64,uint64] -/
def c70l0 : ACode := (.seq (.ops [⟨(some 14), .bin .lss (.tmp 13) (.tmp 12), none⟩])
  (.seq (.cond (.tmp 14)
  .skip
  (.exit 0))
  (.seq (.block 1 (.seq (.ops [⟨(some 15), .mov (.tmp 13), none⟩,
    ⟨(some 5), .mov (.tmp 15), none⟩])
  (.seq (.ops [⟨(some 16), .mov (.tmp 0), none⟩,
    ⟨(some 17), .mov (.tmp 5), none⟩,
    ⟨(some 18), .idxAddr 1 (.tmp 16) (.tmp 17), none⟩,
    ⟨(some 19), .load false 1 (.tmp 18), none⟩,
    ⟨(some 20), .mov (.tmp 1), none⟩,
    ⟨(some 21), .mov (.tmp 5), none⟩,
    ⟨(some 22), .idxAddr 1 (.tmp 20) (.tmp 21), none⟩,
    ⟨(some 23), .load false 1 (.tmp 22), none⟩,
    ⟨(some 24), .bin .neq (.tmp 19) (.tmp 23), none⟩])
  (.cond (.tmp 24)
  (.seq (.ops [⟨(some 4), .mov (.con (.bool false)), none⟩])
  .ret)
  .skip))))
  (.ops [⟨(some 25), .bin .add (.tmp 13) (.con (.int .i64 1)), none⟩,
    ⟨(some 13), .mov (.tmp 25), none⟩]))))
def c70 : ACode := (.seq (.ops [⟨(some 4), .mov (.con (.bool false)), none⟩])
  (.seq (.seq (.ops [⟨(some 6), .mov (.tmp 0), none⟩,
    ⟨(some 7), .lenSlice (.tmp 6), none⟩,
    ⟨(some 8), .mov (.tmp 1), none⟩,
    ⟨(some 9), .lenSlice (.tmp 8), none⟩,
    ⟨(some 10), .bin .neq (.tmp 7) (.tmp 9), none⟩])
  (.cond (.tmp 10)
  (.seq (.ops [⟨(some 4), .mov (.con (.bool false)), none⟩])
  .ret)
  .skip))
  (.seq (.seq (.ops [⟨(some 11), .mov (.tmp 0), none⟩,
    ⟨(some 12), .lenSlice (.tmp 11), none⟩,
    ⟨(some 13), .mov (.con (.int .i64 0)), none⟩])
  (.block 0 (.loop c70l0)))
  (.seq (.ops [⟨(some 4), .mov (.con (.bool true)), none⟩])
  .ret))))
def a70 : AFunc := ⟨2, c70, [.tmp 4]⟩

/- 71: tendril/tendrilref1.Size -/
def c71 : ACode := (.seq (.ops [⟨(some 2), .mov (.con (.int .i64 0)), none⟩])
  (.seq (.seq (.ops [⟨(some 3), .mov (.tmp 0), none⟩])
  (.block 0 (.seq (.ops [⟨(some 5), .bin .eql (.tmp 3) (.con (.int .i64 0)), none⟩,
    ⟨(some 4), .mov (.tmp 5), none⟩])
  (.cond (.tmp 4)
  (.seq (.ops [⟨(some 2), .mov (.con (.int .i64 8)), none⟩])
  .ret)
  (.seq (.ops [⟨(some 7), .bin .eql (.tmp 3) (.con (.int .i64 1)), none⟩,
    ⟨(some 6), .mov (.tmp 7), none⟩])
  (.cond (.tmp 6)
  (.seq (.ops [⟨(some 2), .mov (.con (.int .i64 12)), none⟩])
  .ret)
  (.seq (.ops [⟨(some 9), .bin .eql (.tmp 3) (.con (.int .i64 2)), none⟩,
    ⟨(some 8), .mov (.tmp 9), none⟩])
  (.cond (.tmp 8)
  (.seq (.ops [⟨(some 2), .mov (.con (.int .i64 24)), none⟩])
  .ret)
  (.seq (.ops [⟨(some 11), .bin .eql (.tmp 3) (.con (.int .i64 3)), none⟩,
    ⟨(some 10), .mov (.tmp 11), none⟩])
  (.cond (.tmp 10)
  (.seq (.ops [⟨(some 2), .mov (.con (.int .i64 88)), none⟩])
  .ret)
  (.seq (.ops [⟨(some 13), .bin .eql (.tmp 3) (.con (.int .i64 4)), none⟩,
    ⟨(some 12), .mov (.tmp 13), none⟩])
  (.cond (.tmp 12)
  (.seq (.ops [⟨(some 2), .mov (.con (.int .i64 264)), none⟩])
  .ret)
  .skip))))))))))))
  (.seq (.ops [⟨(some 2), .mov (.con (.int .i64 0)), none⟩])
  .ret)))
def a71 : AFunc := ⟨1, c71, [.tmp 2]⟩

/- 72: tendril/tendrilref1.Bytes -/
def c72l0 : ACode := (.seq (.seq (.ops [⟨(some 20), .mov (.tmp 7), none⟩,
    ⟨(some 21), .mov (.tmp 1), none⟩,
    ⟨(some 22), .bin .lss (.tmp 20) (.tmp 21), none⟩])
  (.cond (.tmp 22)
  .skip
  (.exit 0)))
  (.seq (.block 1 (.ops [⟨(some 25), .mov (.tmp 6), none⟩,
    ⟨(some 26), .mov (.tmp 7), none⟩,
    ⟨(some 27), .mov (.tmp 0), none⟩,
    ⟨(some 28), .mov (.tmp 7), none⟩,
    ⟨(some 29), .bin .quo (.tmp 28) (.con (.int .i64 8)), none⟩,
    ⟨(some 30), .idxAddr 1 (.tmp 27) (.tmp 29), none⟩,
    ⟨(some 31), .load false 1 (.tmp 30), none⟩,
    ⟨(some 32), .mov (.tmp 7), none⟩,
    ⟨(some 33), .bin .rem (.tmp 32) (.con (.int .i64 8)), none⟩,
    ⟨(some 34), .bin .mul (.con (.int .i64 8)) (.tmp 33), none⟩,
    ⟨(some 35), .bin .shr (.tmp 31) (.tmp 34), none⟩,
    ⟨(some 36), .toInt .u8 (.tmp 35), none⟩,
    ⟨(some 37), .idxAddr 1 (.tmp 25) (.tmp 26), none⟩,
    ⟨none, .store 1 (.tmp 37) (.tmp 36), none⟩]))
  (.ops [⟨(some 23), .mov (.tmp 7), none⟩,
    ⟨(some 24), .bin .add (.tmp 23) (.con (.int .i64 1)), none⟩,
    ⟨(some 7), .mov (.tmp 24), none⟩])))
def c72l1 : ACode := (.seq (.seq (.ops [⟨(some 39), .mov (.tmp 8), none⟩,
    ⟨(some 40), .mov (.tmp 0), none⟩,
    ⟨(some 41), .lenSlice (.tmp 40), none⟩,
    ⟨(some 42), .bin .mul (.con (.int .i64 8)) (.tmp 41), none⟩,
    ⟨(some 43), .bin .lss (.tmp 39) (.tmp 42), none⟩])
  (.cond (.tmp 43)
  .skip
  (.exit 2)))
  (.seq (.block 3 (.seq (.ops [⟨(some 46), .mov (.tmp 0), none⟩,
    ⟨(some 47), .mov (.tmp 8), none⟩,
    ⟨(some 48), .bin .quo (.tmp 47) (.con (.int .i64 8)), none⟩,
    ⟨(some 49), .idxAddr 1 (.tmp 46) (.tmp 48), none⟩,
    ⟨(some 50), .load false 1 (.tmp 49), none⟩,
    ⟨(some 51), .mov (.tmp 8), none⟩,
    ⟨(some 52), .bin .rem (.tmp 51) (.con (.int .i64 8)), none⟩,
    ⟨(some 53), .bin .mul (.con (.int .i64 8)) (.tmp 52), none⟩,
    ⟨(some 54), .bin .shr (.tmp 50) (.tmp 53), none⟩,
    ⟨(some 55), .toInt .u8 (.tmp 54), none⟩,
    ⟨(some 56), .bin .neq (.tmp 55) (.con (.int .u8 0)), none⟩])
  (.cond (.tmp 56)
  (.seq (.ops [⟨(some 4), .mov (.con (.str [])), none⟩,
    ⟨(some 5), .mov (.con (.int .i64 5)), none⟩])
  .ret)
  .skip)))
  (.ops [⟨(some 44), .mov (.tmp 8), none⟩,
    ⟨(some 45), .bin .add (.tmp 44) (.con (.int .i64 1)), none⟩,
    ⟨(some 8), .mov (.tmp 45), none⟩])))
def c72 : ACode := (.seq (.ops [⟨(some 4), .mov (.con (.str [])), none⟩,
    ⟨(some 5), .mov (.con (.int .i64 0)), none⟩])
  (.seq (.seq (.ops [⟨(some 9), .mov (.tmp 1), none⟩,
    ⟨(some 10), .bin .lss (.tmp 9) (.con (.int .i64 0)), none⟩,
    ⟨(some 11), .mov (.tmp 10), none⟩,
    ⟨(some 12), .mov (.tmp 1), (some (11, false))⟩,
    ⟨(some 13), .mov (.tmp 0), (some (11, false))⟩,
    ⟨(some 14), .lenSlice (.tmp 13), (some (11, false))⟩,
    ⟨(some 15), .bin .mul (.con (.int .i64 8)) (.tmp 14), (some (11, false))⟩,
    ⟨(some 16), .bin .gtr (.tmp 12) (.tmp 15), (some (11, false))⟩,
    ⟨(some 17), .pick (.tmp 11) (.con (.bool true)) (.tmp 16), none⟩])
  (.cond (.tmp 17)
  (.seq (.ops [⟨(some 4), .mov (.con (.str [])), none⟩,
    ⟨(some 5), .mov (.con (.int .i64 1)), none⟩])
  .ret)
  .skip))
  (.seq (.ops [⟨(some 18), .mov (.tmp 1), none⟩,
    ⟨(some 19), .mkSlice 1 1 [(.int .u8 0)] (.tmp 18) (.tmp 18), none⟩,
    ⟨(some 6), .mov (.tmp 19), none⟩])
  (.seq (.seq (.ops [⟨(some 7), .mov (.con (.int .i64 0)), none⟩])
  (.block 0 (.loop c72l0)))
  (.seq (.seq (.ops [⟨(some 38), .mov (.tmp 1), none⟩,
    ⟨(some 8), .mov (.tmp 38), none⟩])
  (.block 2 (.loop c72l1)))
  (.seq (.ops [⟨(some 57), .mov (.tmp 6), none⟩,
    ⟨(some 58), .toStr (.tmp 57), none⟩,
    ⟨(some 4), .mov (.tmp 58), none⟩,
    ⟨(some 5), .mov (.con (.int .i64 0)), none⟩])
  .ret))))))
def a72 : AFunc := ⟨2, c72, [.tmp 4, .tmp 5]⟩

/- 73: tendril/term.Of -/
def c73 : ACode := (.seq (.ops [⟨(some 2), .mov (.con (.str [])), none⟩,
    ⟨(some 3), .mov (.con (.bool false)), none⟩])
  (.seq (.ops [⟨(some 7), .mov (.tmp 0), none⟩,
    ⟨(some 8), .call 89 [(.tmp 7), (.con (.str [0]))], none⟩,
    ⟨(some 6), .mov (.tmp 8), none⟩,
    ⟨(some 9), .extract (.tmp 6) 0, none⟩,
    ⟨(some 10), .extract (.tmp 6) 1, none⟩,
    ⟨(some 4), .mov (.tmp 9), none⟩,
    ⟨(some 5), .mov (.tmp 10), none⟩])
  (.seq (.seq (.ops [⟨(some 11), .mov (.tmp 5), none⟩,
    ⟨(some 12), .un .not (.tmp 11), none⟩,
    ⟨(some 13), .mov (.tmp 12), none⟩,
    ⟨(some 14), .mov (.tmp 4), (some (13, false))⟩,
    ⟨(some 15), .call 90 [(.tmp 14)], (some (13, false))⟩,
    ⟨(some 16), .un .not (.tmp 15), (some (13, false))⟩,
    ⟨(some 17), .pick (.tmp 13) (.con (.bool true)) (.tmp 16), none⟩])
  (.cond (.tmp 17)
  (.seq (.ops [⟨(some 2), .mov (.con (.str [])), none⟩,
    ⟨(some 3), .mov (.con (.bool false)), none⟩])
  .ret)
  .skip))
  (.seq (.ops [⟨(some 18), .mov (.tmp 4), none⟩,
    ⟨(some 2), .mov (.tmp 18), none⟩,
    ⟨(some 3), .mov (.con (.bool true)), none⟩])
  .ret))))
def a73 : AFunc := ⟨1, c73, [.tmp 2, .tmp 3]⟩

/- 74: tendril/tendrilref1.Term -/
def c74 : ACode := (.seq (.ops [⟨(some 2), .mov (.con (.str [])), none⟩,
    ⟨(some 3), .mov (.con (.bool false)), none⟩])
  (.seq (.seq (.ops [⟨(some 4), .mov (.tmp 0), none⟩,
    ⟨(some 5), .lenStr (.tmp 4), none⟩,
    ⟨(some 6), .bin .lss (.tmp 5) (.con (.int .i64 2)), none⟩,
    ⟨(some 7), .mov (.tmp 6), none⟩,
    ⟨(some 8), .mov (.tmp 0), (some (7, false))⟩,
    ⟨(some 9), .mov (.tmp 0), (some (7, false))⟩,
    ⟨(some 10), .lenStr (.tmp 9), (some (7, false))⟩,
    ⟨(some 11), .bin .sub (.tmp 10) (.con (.int .i64 1)), (some (7, false))⟩,
    ⟨(some 12), .idxStr (.tmp 8) (.tmp 11), (some (7, false))⟩,
    ⟨(some 13), .bin .neq (.tmp 12) (.con (.int .u8 0)), (some (7, false))⟩,
    ⟨(some 14), .pick (.tmp 7) (.con (.bool true)) (.tmp 13), none⟩,
    ⟨(some 15), .mov (.tmp 14), none⟩,
    ⟨(some 16), .mov (.tmp 0), (some (15, false))⟩,
    ⟨(some 17), .mov (.tmp 0), (some (15, false))⟩,
    ⟨(some 18), .lenStr (.tmp 17), (some (15, false))⟩,
    ⟨(some 19), .bin .sub (.tmp 18) (.con (.int .i64 1)), (some (15, false))⟩,
    ⟨(some 20), .slcStr (.tmp 16) none (some (.tmp 19)), (some (15, false))⟩,
    ⟨(some 21), .call 91 [(.tmp 20)], (some (15, false))⟩,
    ⟨(some 22), .un .not (.tmp 21), (some (15, false))⟩,
    ⟨(some 23), .pick (.tmp 15) (.con (.bool true)) (.tmp 22), none⟩])
  (.cond (.tmp 23)
  (.seq (.ops [⟨(some 2), .mov (.con (.str [])), none⟩,
    ⟨(some 3), .mov (.con (.bool false)), none⟩])
  .ret)
  .skip))
  (.seq (.ops [⟨(some 24), .mov (.tmp 0), none⟩,
    ⟨(some 25), .mov (.tmp 0), none⟩,
    ⟨(some 26), .lenStr (.tmp 25), none⟩,
    ⟨(some 27), .bin .sub (.tmp 26) (.con (.int .i64 1)), none⟩,
    ⟨(some 28), .slcStr (.tmp 24) none (some (.tmp 27)), none⟩,
    ⟨(some 2), .mov (.tmp 28), none⟩,
    ⟨(some 3), .mov (.con (.bool true)), none⟩])
  .ret)))
def a74 : AFunc := ⟨1, c74, [.tmp 2, .tmp 3]⟩

/- 68: tendril/tendrilref1.Words -/
def c68l0 : ACode := (.seq (.seq (.ops [⟨(some 10), .mov (.tmp 4), none⟩,
    ⟨(some 11), .mov (.tmp 0), none⟩,
    ⟨(some 12), .lenStr (.tmp 11), none⟩,
    ⟨(some 13), .bin .lss (.tmp 10) (.tmp 12), none⟩])
  (.cond (.tmp 13)
  .skip
  (.exit 0)))
  (.seq (.block 1 (.ops [⟨(some 16), .mov (.tmp 3), none⟩,
    ⟨(some 17), .mov (.tmp 4), none⟩,
    ⟨(some 18), .bin .quo (.tmp 17) (.con (.int .i64 8)), none⟩,
    ⟨(some 19), .mov (.tmp 3), none⟩,
    ⟨(some 20), .mov (.tmp 4), none⟩,
    ⟨(some 21), .bin .quo (.tmp 20) (.con (.int .i64 8)), none⟩,
    ⟨(some 22), .idxAddr 1 (.tmp 19) (.tmp 21), none⟩,
    ⟨(some 23), .load false 1 (.tmp 22), none⟩,
    ⟨(some 24), .mov (.tmp 0), none⟩,
    ⟨(some 25), .mov (.tmp 4), none⟩,
    ⟨(some 26), .idxStr (.tmp 24) (.tmp 25), none⟩,
    ⟨(some 27), .toInt .u64 (.tmp 26), none⟩,
    ⟨(some 28), .mov (.tmp 4), none⟩,
    ⟨(some 29), .bin .rem (.tmp 28) (.con (.int .i64 8)), none⟩,
    ⟨(some 30), .bin .mul (.con (.int .i64 8)) (.tmp 29), none⟩,
    ⟨(some 31), .bin .shl (.tmp 27) (.tmp 30), none⟩,
    ⟨(some 32), .bin .or (.tmp 23) (.tmp 31), none⟩,
    ⟨(some 33), .idxAddr 1 (.tmp 16) (.tmp 18), none⟩,
    ⟨none, .store 1 (.tmp 33) (.tmp 32), none⟩]))
  (.ops [⟨(some 14), .mov (.tmp 4), none⟩,
    ⟨(some 15), .bin .add (.tmp 14) (.con (.int .i64 1)), none⟩,
    ⟨(some 4), .mov (.tmp 15), none⟩])))
def c68 : ACode := (.seq (.ops [⟨(some 2), .mov (.con .nilSlice), none⟩])
  (.seq (.ops [⟨(some 5), .mov (.tmp 0), none⟩,
    ⟨(some 6), .lenStr (.tmp 5), none⟩,
    ⟨(some 7), .bin .add (.tmp 6) (.con (.int .i64 7)), none⟩,
    ⟨(some 8), .bin .quo (.tmp 7) (.con (.int .i64 8)), none⟩,
    ⟨(some 9), .mkSlice 1 8 [(.int .u64 0)] (.tmp 8) (.tmp 8), none⟩,
    ⟨(some 3), .mov (.tmp 9), none⟩])
  (.seq (.seq (.ops [⟨(some 4), .mov (.con (.int .i64 0)), none⟩])
  (.block 0 (.loop c68l0)))
  (.seq (.ops [⟨(some 34), .mov (.tmp 3), none⟩,
    ⟨(some 2), .mov (.tmp 34), none⟩])
  .ret))))
def a68 : AFunc := ⟨1, c68, [.tmp 2]⟩

/- 67: tendril/tendrilref1.head -/
def c67 : ACode := (.seq (.ops [⟨(some 1), .box (.tmp 0), none⟩,
    ⟨(some 2), .mov (.con .nilSlice), none⟩])
  (.seq (.ops [⟨(some 4), .fieldAddr 0 (.tmp 1), none⟩,
    ⟨(some 5), .load false 1 (.tmp 4), none⟩,
    ⟨(some 6), .call 71 [(.tmp 5)], none⟩,
    ⟨(some 7), .mkSlice 1 8 [(.int .u64 0)] (.tmp 6) (.tmp 6), none⟩,
    ⟨(some 3), .mov (.tmp 7), none⟩])
  (.seq (.ops [⟨(some 8), .mov (.tmp 3), none⟩,
    ⟨(some 9), .fieldAddr 1 (.tmp 1), none⟩,
    ⟨(some 10), .load false 1 (.tmp 9), none⟩,
    ⟨(some 11), .idxAddr 1 (.tmp 8) (.con (.int .i64 0)), none⟩,
    ⟨none, .store 1 (.tmp 11) (.tmp 10), none⟩])
  (.seq (.ops [⟨(some 12), .mov (.tmp 3), none⟩,
    ⟨(some 13), .fieldAddr 0 (.tmp 1), none⟩,
    ⟨(some 14), .load false 1 (.tmp 13), none⟩,
    ⟨(some 15), .toInt .u64 (.tmp 14), none⟩,
    ⟨(some 16), .fieldAddr 2 (.tmp 1), none⟩,
    ⟨(some 17), .load false 1 (.tmp 16), none⟩,
    ⟨(some 18), .lenStr (.tmp 17), none⟩,
    ⟨(some 19), .toInt .u64 (.tmp 18), none⟩,
    ⟨(some 20), .bin .shl (.tmp 19) (.con (.int .u64 8)), none⟩,
    ⟨(some 21), .bin .or (.tmp 15) (.tmp 20), none⟩,
    ⟨(some 22), .fieldAddr 3 (.tmp 1), none⟩,
    ⟨(some 23), .load false 1 (.tmp 22), none⟩,
    ⟨(some 24), .lenSlice (.tmp 23), none⟩,
    ⟨(some 25), .toInt .u64 (.tmp 24), none⟩,
    ⟨(some 26), .bin .shl (.tmp 25) (.con (.int .u64 16)), none⟩,
    ⟨(some 27), .bin .or (.tmp 21) (.tmp 26), none⟩,
    ⟨(some 28), .idxAddr 1 (.tmp 12) (.con (.int .i64 1)), none⟩,
    ⟨none, .store 1 (.tmp 28) (.tmp 27), none⟩])
  (.seq (.ops [⟨(some 29), .mov (.tmp 3), none⟩,
    ⟨(some 30), .slc 1 (.tmp 29) (some (.con (.int .i64 2))) (some (.con (.int .i64 4))) none, none⟩,
    ⟨(some 31), .fieldAddr 2 (.tmp 1), none⟩,
    ⟨(some 32), .load false 1 (.tmp 31), none⟩,
    ⟨(some 33), .call 68 [(.tmp 32)], none⟩,
    ⟨(some 34), .copy 1 (.tmp 30) (.tmp 33), none⟩])
  (.seq (.ops [⟨(some 35), .mov (.tmp 3), none⟩,
    ⟨(some 2), .mov (.tmp 35), none⟩])
  .ret))))))
def a67 : AFunc := ⟨1, c67, [.tmp 2]⟩

/- 77: tendril/tendrilref1.parts -/
def c77l0 : ACode := (.seq (.seq (.ops [⟨(some 21), .mov (.tmp 11), none⟩,
    ⟨(some 22), .mov (.tmp 1), none⟩,
    ⟨(some 23), .bin .lss (.tmp 21) (.tmp 22), none⟩,
    ⟨(some 24), .mov (.tmp 23), none⟩,
    ⟨(some 25), .mov (.tmp 11), (some (24, true))⟩,
    ⟨(some 26), .mov (.tmp 0), (some (24, true))⟩,
    ⟨(some 27), .call 39 [(.tmp 26)], (some (24, true))⟩,
    ⟨(some 28), .bin .lss (.tmp 25) (.tmp 27), (some (24, true))⟩,
    ⟨(some 29), .pick (.tmp 24) (.tmp 28) (.con (.bool false)), none⟩])
  (.cond (.tmp 29)
  .skip
  (.exit 1)))
  (.seq (.block 2 (.seq (.ops [⟨(some 32), .mov (.tmp 8), none⟩,
    ⟨(some 33), .mov (.tmp 2), none⟩,
    ⟨(some 34), .mov (.tmp 11), none⟩,
    ⟨(some 35), .bin .quo (.tmp 34) (.con (.int .i64 8)), none⟩,
    ⟨(some 36), .bin .add (.con (.int .i64 4)) (.tmp 35), none⟩,
    ⟨(some 37), .idxAddr 1 (.tmp 33) (.tmp 36), none⟩,
    ⟨(some 38), .load false 1 (.tmp 37), none⟩,
    ⟨(some 39), .mov (.tmp 11), none⟩,
    ⟨(some 40), .bin .rem (.tmp 39) (.con (.int .i64 8)), none⟩,
    ⟨(some 41), .bin .mul (.con (.int .i64 8)) (.tmp 40), none⟩,
    ⟨(some 42), .bin .shr (.tmp 38) (.tmp 41), none⟩,
    ⟨(some 43), .toInt .u8 (.tmp 42), none⟩,
    ⟨(some 44), .buildSlice 1 1 [(.int .u8 0)] [(0, 1, (.tmp 43))], none⟩,
    ⟨(some 45), .append 1 1 (.tmp 32) (.tmp 44), none⟩,
    ⟨(some 8), .mov (.tmp 45), none⟩])
  (.ops [⟨(some 46), .mov (.tmp 9), none⟩,
    ⟨(some 47), .mov (.tmp 2), none⟩,
    ⟨(some 48), .mov (.tmp 10), none⟩,
    ⟨(some 49), .mov (.tmp 11), none⟩,
    ⟨(some 50), .bin .add (.tmp 48) (.tmp 49), none⟩,
    ⟨(some 51), .idxAddr 1 (.tmp 47) (.tmp 50), none⟩,
    ⟨(some 52), .load false 1 (.tmp 51), none⟩,
    ⟨(some 53), .toInt .i64 (.tmp 52), none⟩,
    ⟨(some 54), .buildSlice 1 1 [(.int .i64 0)] [(0, 1, (.tmp 53))], none⟩,
    ⟨(some 55), .append 1 8 (.tmp 46) (.tmp 54), none⟩,
    ⟨(some 9), .mov (.tmp 55), none⟩])))
  (.ops [⟨(some 30), .mov (.tmp 11), none⟩,
    ⟨(some 31), .bin .add (.tmp 30) (.con (.int .i64 1)), none⟩,
    ⟨(some 11), .mov (.tmp 31), none⟩])))
def c77l1 : ACode := (.seq (.seq (.ops [⟨(some 58), .mov (.tmp 12), none⟩,
    ⟨(some 59), .bin .lss (.tmp 58) (.con (.int .i64 256)), none⟩])
  (.cond (.tmp 59)
  .skip
  (.exit 3)))
  (.seq (.block 4 (.seq (.ops [⟨(some 62), .mov (.tmp 2), none⟩,
    ⟨(some 63), .mov (.tmp 12), none⟩,
    ⟨(some 64), .bin .quo (.tmp 63) (.con (.int .i64 8)), none⟩,
    ⟨(some 65), .bin .add (.con (.int .i64 4)) (.tmp 64), none⟩,
    ⟨(some 66), .idxAddr 1 (.tmp 62) (.tmp 65), none⟩,
    ⟨(some 67), .load false 1 (.tmp 66), none⟩,
    ⟨(some 68), .mov (.tmp 12), none⟩,
    ⟨(some 69), .bin .rem (.tmp 68) (.con (.int .i64 8)), none⟩,
    ⟨(some 70), .bin .mul (.con (.int .i64 8)) (.tmp 69), none⟩,
    ⟨(some 71), .bin .shr (.tmp 67) (.tmp 70), none⟩,
    ⟨(some 72), .bin .and (.tmp 71) (.con (.int .u64 255)), none⟩,
    ⟨(some 73), .toInt .i64 (.tmp 72), none⟩,
    ⟨(some 13), .mov (.tmp 73), none⟩])
  (.seq (.ops [⟨(some 74), .mov (.tmp 13), none⟩,
    ⟨(some 75), .bin .gtr (.tmp 74) (.con (.int .i64 0)), none⟩,
    ⟨(some 76), .mov (.tmp 75), none⟩,
    ⟨(some 77), .mov (.tmp 13), (some (76, true))⟩,
    ⟨(some 78), .bin .leq (.tmp 77) (.con (.int .i64 48)), (some (76, true))⟩,
    ⟨(some 79), .pick (.tmp 76) (.tmp 78) (.con (.bool false)), none⟩])
  (.cond (.tmp 79)
  (.seq (.ops [⟨(some 80), .mov (.tmp 8), none⟩,
    ⟨(some 81), .mov (.tmp 12), none⟩,
    ⟨(some 82), .toInt .u8 (.tmp 81), none⟩,
    ⟨(some 83), .buildSlice 1 1 [(.int .u8 0)] [(0, 1, (.tmp 82))], none⟩,
    ⟨(some 84), .append 1 1 (.tmp 80) (.tmp 83), none⟩,
    ⟨(some 8), .mov (.tmp 84), none⟩])
  (.ops [⟨(some 85), .mov (.tmp 9), none⟩,
    ⟨(some 86), .mov (.tmp 2), none⟩,
    ⟨(some 87), .mov (.tmp 13), none⟩,
    ⟨(some 88), .bin .add (.con (.int .i64 35)) (.tmp 87), none⟩,
    ⟨(some 89), .idxAddr 1 (.tmp 86) (.tmp 88), none⟩,
    ⟨(some 90), .load false 1 (.tmp 89), none⟩,
    ⟨(some 91), .toInt .i64 (.tmp 90), none⟩,
    ⟨(some 92), .buildSlice 1 1 [(.int .i64 0)] [(0, 1, (.tmp 91))], none⟩,
    ⟨(some 93), .append 1 8 (.tmp 85) (.tmp 92), none⟩,
    ⟨(some 9), .mov (.tmp 93), none⟩]))
  .skip))))
  (.ops [⟨(some 60), .mov (.tmp 12), none⟩,
    ⟨(some 61), .bin .add (.tmp 60) (.con (.int .i64 1)), none⟩,
    ⟨(some 12), .mov (.tmp 61), none⟩])))
def c77l2 : ACode := (.seq (.seq (.ops [⟨(some 96), .mov (.tmp 14), none⟩,
    ⟨(some 97), .bin .lss (.tmp 96) (.con (.int .i64 256)), none⟩])
  (.cond (.tmp 97)
  .skip
  (.exit 5)))
  (.seq (.block 6 (.seq (.ops [⟨(some 100), .mov (.tmp 2), none⟩,
    ⟨(some 101), .mov (.tmp 14), none⟩,
    ⟨(some 102), .bin .add (.con (.int .i64 4)) (.tmp 101), none⟩,
    ⟨(some 103), .idxAddr 1 (.tmp 100) (.tmp 102), none⟩,
    ⟨(some 104), .load false 1 (.tmp 103), none⟩,
    ⟨(some 105), .bin .neq (.tmp 104) (.con (.int .u64 0)), none⟩])
  (.cond (.tmp 105)
  (.seq (.ops [⟨(some 106), .mov (.tmp 8), none⟩,
    ⟨(some 107), .mov (.tmp 14), none⟩,
    ⟨(some 108), .toInt .u8 (.tmp 107), none⟩,
    ⟨(some 109), .buildSlice 1 1 [(.int .u8 0)] [(0, 1, (.tmp 108))], none⟩,
    ⟨(some 110), .append 1 1 (.tmp 106) (.tmp 109), none⟩,
    ⟨(some 8), .mov (.tmp 110), none⟩])
  (.ops [⟨(some 111), .mov (.tmp 9), none⟩,
    ⟨(some 112), .mov (.tmp 2), none⟩,
    ⟨(some 113), .mov (.tmp 14), none⟩,
    ⟨(some 114), .bin .add (.con (.int .i64 4)) (.tmp 113), none⟩,
    ⟨(some 115), .idxAddr 1 (.tmp 112) (.tmp 114), none⟩,
    ⟨(some 116), .load false 1 (.tmp 115), none⟩,
    ⟨(some 117), .toInt .i64 (.tmp 116), none⟩,
    ⟨(some 118), .buildSlice 1 1 [(.int .i64 0)] [(0, 1, (.tmp 117))], none⟩,
    ⟨(some 119), .append 1 8 (.tmp 111) (.tmp 118), none⟩,
    ⟨(some 9), .mov (.tmp 119), none⟩]))
  .skip)))
  (.ops [⟨(some 98), .mov (.tmp 14), none⟩,
    ⟨(some 99), .bin .add (.tmp 98) (.con (.int .i64 1)), none⟩,
    ⟨(some 14), .mov (.tmp 99), none⟩])))
def c77 : ACode := (.seq (.ops [⟨(some 6), .mov (.con .nilSlice), none⟩,
    ⟨(some 7), .mov (.con .nilSlice), none⟩])
  (.seq (.ops [⟨(some 8), .mov (.con .nilSlice), none⟩])
  (.seq (.ops [⟨(some 9), .mov (.con .nilSlice), none⟩])
  (.seq (.seq (.ops [⟨(some 15), .mov (.tmp 0), none⟩])
  (.block 0 (.seq (.seq (.ops [⟨(some 17), .bin .eql (.tmp 15) (.con (.int .i64 1)), none⟩,
    ⟨(some 16), .mov (.tmp 17), none⟩])
  (.cond (.tmp 16)
  .skip
  (.ops [⟨(some 18), .bin .eql (.tmp 15) (.con (.int .i64 2)), none⟩,
    ⟨(some 16), .mov (.tmp 18), none⟩])))
  (.cond (.tmp 16)
  (.seq (.ops [⟨(some 10), .mov (.con (.int .i64 5)), none⟩])
  (.seq (.seq (.ops [⟨(some 19), .mov (.tmp 0), none⟩,
    ⟨(some 20), .bin .eql (.tmp 19) (.con (.int .i64 2)), none⟩])
  (.cond (.tmp 20)
  (.ops [⟨(some 10), .mov (.con (.int .i64 6)), none⟩])
  .skip))
  (.seq (.ops [⟨(some 11), .mov (.con (.int .i64 0)), none⟩])
  (.block 1 (.loop c77l0)))))
  (.seq (.ops [⟨(some 57), .bin .eql (.tmp 15) (.con (.int .i64 3)), none⟩,
    ⟨(some 56), .mov (.tmp 57), none⟩])
  (.cond (.tmp 56)
  (.seq (.ops [⟨(some 12), .mov (.con (.int .i64 0)), none⟩])
  (.block 3 (.loop c77l1)))
  (.seq (.ops [⟨(some 95), .bin .eql (.tmp 15) (.con (.int .i64 4)), none⟩,
    ⟨(some 94), .mov (.tmp 95), none⟩])
  (.cond (.tmp 94)
  (.seq (.ops [⟨(some 14), .mov (.con (.int .i64 0)), none⟩])
  (.block 5 (.loop c77l2)))
  .skip))))))))
  (.seq (.ops [⟨(some 120), .mov (.tmp 8), none⟩,
    ⟨(some 121), .mov (.tmp 9), none⟩,
    ⟨(some 6), .mov (.tmp 120), none⟩,
    ⟨(some 7), .mov (.tmp 121), none⟩])
  .ret)))))
def a77 : AFunc := ⟨3, c77, [.tmp 6, .tmp 7]⟩

/- 66: tendril/tendrilref1.Parts -/
def c66 : ACode := (.seq (.ops [⟨(some 2), .mov (.con (.int .i64 0)), none⟩,
    ⟨(some 3), .mov (.con (.int .i64 0)), none⟩,
    ⟨(some 4), .mov (.con (.bool false)), none⟩,
    ⟨(some 5), .mov (.con (.bool false)), none⟩])
  (.seq (.seq (.ops [⟨(some 6), .mov (.tmp 0), none⟩,
    ⟨(some 7), .bin .leq (.tmp 6) (.con (.int .i64 0)), none⟩,
    ⟨(some 8), .mov (.tmp 7), none⟩,
    ⟨(some 9), .mov (.tmp 0), (some (8, false))⟩,
    ⟨(some 10), .bin .geq (.tmp 9) (.con (.int .i64 562949953421312)), (some (8, false))⟩,
    ⟨(some 11), .pick (.tmp 8) (.con (.bool true)) (.tmp 10), none⟩])
  (.cond (.tmp 11)
  (.seq (.ops [⟨(some 2), .mov (.con (.int .i64 0)), none⟩,
    ⟨(some 3), .mov (.con (.int .i64 0)), none⟩,
    ⟨(some 4), .mov (.con (.bool false)), none⟩,
    ⟨(some 5), .mov (.con (.bool false)), none⟩])
  .ret)
  .skip))
  (.seq (.ops [⟨(some 12), .mov (.tmp 0), none⟩,
    ⟨(some 13), .bin .and (.tmp 12) (.con (.int .i64 65535)), none⟩,
    ⟨(some 14), .mov (.tmp 0), none⟩,
    ⟨(some 15), .bin .shr (.tmp 14) (.con (.int .u64 16)), none⟩,
    ⟨(some 16), .bin .and (.tmp 15) (.con (.int .i64 4294967295)), none⟩,
    ⟨(some 17), .mov (.tmp 0), none⟩,
    ⟨(some 18), .bin .shr (.tmp 17) (.con (.int .u64 48)), none⟩,
    ⟨(some 19), .bin .eql (.tmp 18) (.con (.int .i64 1)), none⟩,
    ⟨(some 2), .mov (.tmp 13), none⟩,
    ⟨(some 3), .mov (.tmp 16), none⟩,
    ⟨(some 4), .mov (.tmp 19), none⟩])
  (.seq (.seq (.ops [⟨(some 20), .mov (.tmp 2), none⟩,
    ⟨(some 21), .mov (.tmp 3), none⟩,
    ⟨(some 22), .mov (.tmp 4), none⟩,
    ⟨(some 23), .call 88 [(.tmp 20), (.tmp 21), (.tmp 22)], none⟩,
    ⟨(some 24), .mov (.tmp 0), none⟩,
    ⟨(some 25), .bin .neq (.tmp 23) (.tmp 24), none⟩])
  (.cond (.tmp 25)
  (.seq (.ops [⟨(some 2), .mov (.con (.int .i64 0)), none⟩,
    ⟨(some 3), .mov (.con (.int .i64 0)), none⟩,
    ⟨(some 4), .mov (.con (.bool false)), none⟩,
    ⟨(some 5), .mov (.con (.bool false)), none⟩])
  .ret)
  .skip))
  (.seq (.ops [⟨(some 26), .mov (.tmp 2), none⟩,
    ⟨(some 27), .mov (.tmp 3), none⟩,
    ⟨(some 28), .mov (.tmp 4), none⟩,
    ⟨(some 2), .mov (.tmp 26), none⟩,
    ⟨(some 3), .mov (.tmp 27), none⟩,
    ⟨(some 4), .mov (.tmp 28), none⟩,
    ⟨(some 5), .mov (.con (.bool true)), none⟩])
  .ret)))))
def a66 : AFunc := ⟨1, c66, [.tmp 2, .tmp 3, .tmp 4, .tmp 5]⟩

/- 78: tendril/pack.Count -/
def c78 : ACode := (.seq (.ops [⟨(some 2), .mov (.con (.int .i64 0)), none⟩])
  (.seq (.seq (.ops [⟨(some 3), .mov (.tmp 0), none⟩,
    ⟨(some 4), .bin .leq (.tmp 3) (.con (.int .i64 0)), none⟩])
  (.cond (.tmp 4)
  (.seq (.ops [⟨(some 2), .mov (.con (.int .i64 0)), none⟩])
  .ret)
  .skip))
  (.seq (.ops [⟨(some 5), .mov (.tmp 0), none⟩,
    ⟨(some 6), .bin .sub (.tmp 5) (.con (.int .i64 1)), none⟩,
    ⟨(some 7), .bin .quo (.tmp 6) (.con (.int .i64 8)), none⟩,
    ⟨(some 8), .bin .add (.tmp 7) (.con (.int .i64 1)), none⟩,
    ⟨(some 2), .mov (.tmp 8), none⟩])
  .ret)))
def a78 : AFunc := ⟨1, c78, [.tmp 2]⟩

/- 79: tendril/word.Parts -/
def c79 : ACode := (.seq (.ops [⟨(some 2), .mov (.con (.int .i64 0)), none⟩,
    ⟨(some 3), .mov (.con (.int .i64 0)), none⟩,
    ⟨(some 4), .mov (.con (.bool false)), none⟩,
    ⟨(some 5), .mov (.con (.bool false)), none⟩])
  (.seq (.ops [⟨(some 6), .mov (.tmp 0), none⟩,
    ⟨(some 7), .bin .and (.tmp 6) (.con (.int .i64 65535)), none⟩,
    ⟨(some 8), .mov (.tmp 0), none⟩,
    ⟨(some 9), .bin .shr (.tmp 8) (.con (.int .u64 16)), none⟩,
    ⟨(some 10), .bin .and (.tmp 9) (.con (.int .i64 4294967295)), none⟩,
    ⟨(some 11), .mov (.tmp 0), none⟩,
    ⟨(some 12), .bin .and (.tmp 11) (.con (.int .i64 281474976710656)), none⟩,
    ⟨(some 13), .bin .neq (.tmp 12) (.con (.int .i64 0)), none⟩,
    ⟨(some 2), .mov (.tmp 7), none⟩,
    ⟨(some 3), .mov (.tmp 10), none⟩,
    ⟨(some 4), .mov (.tmp 13), none⟩])
  (.seq (.seq (.ops [⟨(some 14), .mov (.tmp 0), none⟩,
    ⟨(some 15), .bin .eql (.tmp 14) (.con (.int .i64 0)), none⟩,
    ⟨(some 16), .mov (.tmp 15), none⟩,
    ⟨(some 17), .mov (.tmp 2), (some (16, false))⟩,
    ⟨(some 18), .mov (.tmp 3), (some (16, false))⟩,
    ⟨(some 19), .mov (.tmp 4), (some (16, false))⟩,
    ⟨(some 20), .call 21 [(.tmp 17), (.tmp 18), (.tmp 19)], (some (16, false))⟩,
    ⟨(some 21), .mov (.tmp 0), (some (16, false))⟩,
    ⟨(some 22), .bin .neq (.tmp 20) (.tmp 21), (some (16, false))⟩,
    ⟨(some 23), .pick (.tmp 16) (.con (.bool true)) (.tmp 22), none⟩])
  (.cond (.tmp 23)
  (.seq (.ops [⟨(some 2), .mov (.con (.int .i64 0)), none⟩,
    ⟨(some 3), .mov (.con (.int .i64 0)), none⟩,
    ⟨(some 4), .mov (.con (.bool false)), none⟩,
    ⟨(some 5), .mov (.con (.bool false)), none⟩])
  .ret)
  .skip))
  (.seq (.ops [⟨(some 24), .mov (.tmp 2), none⟩,
    ⟨(some 25), .mov (.tmp 3), none⟩,
    ⟨(some 26), .mov (.tmp 4), none⟩,
    ⟨(some 2), .mov (.tmp 24), none⟩,
    ⟨(some 3), .mov (.tmp 25), none⟩,
    ⟨(some 4), .mov (.tmp 26), none⟩,
    ⟨(some 5), .mov (.con (.bool true)), none⟩])
  .ret))))
def a79 : AFunc := ⟨1, c79, [.tmp 2, .tmp 3, .tmp 4, .tmp 5]⟩

/- 80: cmp.Less[byte] -/
def c80 : ACode := (.seq (.ops [⟨(some 4), .mov (.con (.bool false)), none⟩])
  (.seq (.ops [⟨(some 5), .mov (.tmp 0), none⟩,
    ⟨(some 6), .call 92 [(.tmp 5)], none⟩,
    ⟨(some 7), .mov (.tmp 6), none⟩,
    ⟨(some 8), .mov (.tmp 1), (some (7, true))⟩,
    ⟨(some 9), .call 92 [(.tmp 8)], (some (7, true))⟩,
    ⟨(some 10), .un .not (.tmp 9), (some (7, true))⟩,
    ⟨(some 11), .pick (.tmp 7) (.tmp 10) (.con (.bool false)), none⟩,
    ⟨(some 12), .mov (.tmp 11), none⟩,
    ⟨(some 13), .mov (.tmp 0), (some (12, false))⟩,
    ⟨(some 14), .mov (.tmp 1), (some (12, false))⟩,
    ⟨(some 15), .bin .lss (.tmp 13) (.tmp 14), (some (12, false))⟩,
    ⟨(some 16), .pick (.tmp 12) (.con (.bool true)) (.tmp 15), none⟩,
    ⟨(some 4), .mov (.tmp 16), none⟩])
  .ret))
def a80 : AFunc := ⟨2, c80, [.tmp 4]⟩

/- 81: slices.isNaN[byte] -/
def c81 : ACode := (.seq (.ops [⟨(some 2), .mov (.con (.bool false)), none⟩])
  (.seq (.ops [⟨(some 3), .mov (.tmp 0), none⟩,
    ⟨(some 4), .mov (.tmp 0), none⟩,
    ⟨(some 5), .bin .neq (.tmp 3) (.tmp 4), none⟩,
    ⟨(some 2), .mov (.tmp 5), none⟩])
  .ret))
def a81 : AFunc := ⟨1, c81, [.tmp 2]⟩
/- 82 slices.overlaps[byte]: no body, not compiled -/

/- 83: slices.rotateRight[byte] -/
def c83 : ACode := (.ops [⟨(some 4), .mov (.tmp 0), none⟩,
    ⟨(some 5), .mov (.tmp 0), none⟩,
    ⟨(some 6), .lenSlice (.tmp 5), none⟩,
    ⟨(some 7), .mov (.tmp 1), none⟩,
    ⟨(some 8), .bin .sub (.tmp 6) (.tmp 7), none⟩,
    ⟨(some 9), .call 93 [(.tmp 4), (.tmp 8)], none⟩])
def a83 : AFunc := ⟨2, c83, []⟩
/- 84 slices.overlaps[int]: no body, not compiled -/

/- 85: slices.rotateRight[int] -/
def c85 : ACode := (.ops [⟨(some 4), .mov (.tmp 0), none⟩,
    ⟨(some 5), .mov (.tmp 0), none⟩,
    ⟨(some 6), .lenSlice (.tmp 5), none⟩,
    ⟨(some 7), .mov (.tmp 1), none⟩,
    ⟨(some 8), .bin .sub (.tmp 6) (.tmp 7), none⟩,
    ⟨(some 9), .call 94 [(.tmp 4), (.tmp 8)], none⟩])
def a85 : AFunc := ⟨2, c85, []⟩

/- 86: slices.Grow[[]byte,byte] -/
def c86 : ACode := (.seq (.ops [⟨(some 4), .mov (.con .nilSlice), none⟩])
  (.seq (.seq (.ops [⟨(some 5), .mov (.tmp 1), none⟩,
    ⟨(some 6), .bin .lss (.tmp 5) (.con (.int .i64 0)), none⟩])
  (.cond (.tmp 6)
  (.ops [⟨(some 7), .mkIface 9 (.con (.str [99, 97, 110, 110, 111, 116, 32, 98, 101, 32, 110, 101, 103, 97, 116, 105, 118, 101])), none⟩,
    ⟨none, .stuck, none⟩])
  .skip))
  (.seq (.seq (.ops [⟨(some 8), .mov (.tmp 1), none⟩,
    ⟨(some 9), .mov (.tmp 0), none⟩,
    ⟨(some 10), .capSlice (.tmp 9), none⟩,
    ⟨(some 11), .mov (.tmp 0), none⟩,
    ⟨(some 12), .lenSlice (.tmp 11), none⟩,
    ⟨(some 13), .bin .sub (.tmp 10) (.tmp 12), none⟩,
    ⟨(some 14), .bin .sub (.tmp 8) (.tmp 13), none⟩,
    ⟨(some 1), .mov (.tmp 14), none⟩])
  (.seq (.ops [⟨(some 15), .mov (.tmp 1), none⟩,
    ⟨(some 16), .bin .gtr (.tmp 15) (.con (.int .i64 0)), none⟩])
  (.cond (.tmp 16)
  (.ops [⟨(some 17), .mov (.tmp 0), none⟩,
    ⟨(some 18), .mov (.tmp 0), none⟩,
    ⟨(some 19), .capSlice (.tmp 18), none⟩,
    ⟨(some 20), .slc 1 (.tmp 17) none (some (.tmp 19)) none, none⟩,
    ⟨(some 21), .mov (.tmp 1), none⟩,
    ⟨(some 22), .appendZ 1 1 [(.int .u8 0)] (.tmp 20) (.tmp 21), none⟩,
    ⟨(some 23), .mov (.tmp 0), none⟩,
    ⟨(some 24), .lenSlice (.tmp 23), none⟩,
    ⟨(some 25), .slc 1 (.tmp 22) none (some (.tmp 24)) none, none⟩,
    ⟨(some 0), .mov (.tmp 25), none⟩])
  .skip)))
  (.seq (.ops [⟨(some 26), .mov (.tmp 0), none⟩,
    ⟨(some 4), .mov (.tmp 26), none⟩])
  .ret))))
def a86 : AFunc := ⟨2, c86, [.tmp 4]⟩

/- 87: slices.Grow[[]int,int] -/
def c87 : ACode := (.seq (.ops [⟨(some 4), .mov (.con .nilSlice), none⟩])
  (.seq (.seq (.ops [⟨(some 5), .mov (.tmp 1), none⟩,
    ⟨(some 6), .bin .lss (.tmp 5) (.con (.int .i64 0)), none⟩])
  (.cond (.tmp 6)
  (.ops [⟨(some 7), .mkIface 9 (.con (.str [99, 97, 110, 110, 111, 116, 32, 98, 101, 32, 110, 101, 103, 97, 116, 105, 118, 101])), none⟩,
    ⟨none, .stuck, none⟩])
  .skip))
  (.seq (.seq (.ops [⟨(some 8), .mov (.tmp 1), none⟩,
    ⟨(some 9), .mov (.tmp 0), none⟩,
    ⟨(some 10), .capSlice (.tmp 9), none⟩,
    ⟨(some 11), .mov (.tmp 0), none⟩,
    ⟨(some 12), .lenSlice (.tmp 11), none⟩,
    ⟨(some 13), .bin .sub (.tmp 10) (.tmp 12), none⟩,
    ⟨(some 14), .bin .sub (.tmp 8) (.tmp 13), none⟩,
    ⟨(some 1), .mov (.tmp 14), none⟩])
  (.seq (.ops [⟨(some 15), .mov (.tmp 1), none⟩,
    ⟨(some 16), .bin .gtr (.tmp 15) (.con (.int .i64 0)), none⟩])
  (.cond (.tmp 16)
  (.ops [⟨(some 17), .mov (.tmp 0), none⟩,
    ⟨(some 18), .mov (.tmp 0), none⟩,
    ⟨(some 19), .capSlice (.tmp 18), none⟩,
    ⟨(some 20), .slc 1 (.tmp 17) none (some (.tmp 19)) none, none⟩,
    ⟨(some 21), .mov (.tmp 1), none⟩,
    ⟨(some 22), .appendZ 1 8 [(.int .i64 0)] (.tmp 20) (.tmp 21), none⟩,
    ⟨(some 23), .mov (.tmp 0), none⟩,
    ⟨(some 24), .lenSlice (.tmp 23), none⟩,
    ⟨(some 25), .slc 1 (.tmp 22) none (some (.tmp 24)) none, none⟩,
    ⟨(some 0), .mov (.tmp 25), none⟩])
  .skip)))
  (.seq (.ops [⟨(some 26), .mov (.tmp 0), none⟩,
    ⟨(some 4), .mov (.tmp 26), none⟩])
  .ret))))
def a87 : AFunc := ⟨2, c87, [.tmp 4]⟩

/- 89: strings.CutSuffix -/
def c89 : ACode := (.seq (.ops [⟨(some 4), .mov (.con (.str [])), none⟩,
    ⟨(some 5), .mov (.con (.bool false)), none⟩])
  (.seq (.ops [⟨(some 6), .mov (.tmp 0), none⟩,
    ⟨(some 7), .mov (.tmp 1), none⟩,
    ⟨(some 8), .call 95 [(.tmp 6), (.tmp 7)], none⟩,
    ⟨(some 9), .extract (.tmp 8) 0, none⟩,
    ⟨(some 10), .extract (.tmp 8) 1, none⟩,
    ⟨(some 4), .mov (.tmp 9), none⟩,
    ⟨(some 5), .mov (.tmp 10), none⟩])
  .ret))
def a89 : AFunc := ⟨2, c89, [.tmp 4, .tmp 5]⟩

/- 90: tendril/term.Right -/
def c90 : ACode := (.seq (.ops [⟨(some 2), .mov (.con (.bool false)), none⟩])
  (.seq (.ops [⟨(some 3), .mov (.tmp 0), none⟩,
    ⟨(some 4), .bin .neq (.tmp 3) (.con (.str [])), none⟩,
    ⟨(some 5), .mov (.tmp 4), none⟩,
    ⟨(some 6), .mov (.tmp 0), (some (5, true))⟩,
    ⟨(some 7), .lenStr (.tmp 6), (some (5, true))⟩,
    ⟨(some 8), .bin .leq (.tmp 7) (.con (.int .i64 12)), (some (5, true))⟩,
    ⟨(some 9), .pick (.tmp 5) (.tmp 8) (.con (.bool false)), none⟩,
    ⟨(some 10), .mov (.tmp 9), none⟩,
    ⟨(some 11), .mov (.tmp 0), (some (10, true))⟩,
    ⟨(some 12), .call 96 [(.tmp 11), (.con (.int .u8 0))], (some (10, true))⟩,
    ⟨(some 13), .bin .lss (.tmp 12) (.con (.int .i64 0)), (some (10, true))⟩,
    ⟨(some 14), .pick (.tmp 10) (.tmp 13) (.con (.bool false)), none⟩,
    ⟨(some 2), .mov (.tmp 14), none⟩])
  .ret))
def a90 : AFunc := ⟨1, c90, [.tmp 2]⟩

/- 91: tendril/tendrilref1.RightTerm -/
def c91l0 : ACode := (.seq (.seq (.ops [⟨(some 4), .mov (.tmp 3), none⟩,
    ⟨(some 5), .mov (.tmp 0), none⟩,
    ⟨(some 6), .lenStr (.tmp 5), none⟩,
    ⟨(some 7), .bin .lss (.tmp 4) (.tmp 6), none⟩])
  (.cond (.tmp 7)
  .skip
  (.exit 0)))
  (.seq (.block 1 (.seq (.ops [⟨(some 10), .mov (.tmp 0), none⟩,
    ⟨(some 11), .mov (.tmp 3), none⟩,
    ⟨(some 12), .idxStr (.tmp 10) (.tmp 11), none⟩,
    ⟨(some 13), .bin .eql (.tmp 12) (.con (.int .u8 0)), none⟩])
  (.cond (.tmp 13)
  (.seq (.ops [⟨(some 2), .mov (.con (.bool false)), none⟩])
  .ret)
  .skip)))
  (.ops [⟨(some 8), .mov (.tmp 3), none⟩,
    ⟨(some 9), .bin .add (.tmp 8) (.con (.int .i64 1)), none⟩,
    ⟨(some 3), .mov (.tmp 9), none⟩])))
def c91 : ACode := (.seq (.ops [⟨(some 2), .mov (.con (.bool false)), none⟩])
  (.seq (.seq (.ops [⟨(some 3), .mov (.con (.int .i64 0)), none⟩])
  (.block 0 (.loop c91l0)))
  (.seq (.ops [⟨(some 14), .mov (.tmp 0), none⟩,
    ⟨(some 15), .lenStr (.tmp 14), none⟩,
    ⟨(some 16), .bin .geq (.tmp 15) (.con (.int .i64 1)), none⟩,
    ⟨(some 17), .mov (.tmp 16), none⟩,
    ⟨(some 18), .mov (.tmp 0), (some (17, true))⟩,
    ⟨(some 19), .lenStr (.tmp 18), (some (17, true))⟩,
    ⟨(some 20), .bin .leq (.tmp 19) (.con (.int .i64 12)), (some (17, true))⟩,
    ⟨(some 21), .pick (.tmp 17) (.tmp 20) (.con (.bool false)), none⟩,
    ⟨(some 2), .mov (.tmp 21), none⟩])
  .ret)))
def a91 : AFunc := ⟨1, c91, [.tmp 2]⟩

/- 88: tendril/tendrilref1.Ref -/
def c88 : ACode := (.seq (.ops [⟨(some 6), .mov (.con (.int .i64 0)), none⟩])
  (.seq (.seq (.ops [⟨(some 8), .mov (.tmp 0), none⟩,
    ⟨(some 9), .bin .lss (.tmp 8) (.con (.int .i64 0)), none⟩,
    ⟨(some 10), .mov (.tmp 9), none⟩,
    ⟨(some 11), .mov (.tmp 0), (some (10, false))⟩,
    ⟨(some 12), .bin .geq (.tmp 11) (.con (.int .i64 1024)), (some (10, false))⟩,
    ⟨(some 13), .pick (.tmp 10) (.con (.bool true)) (.tmp 12), none⟩,
    ⟨(some 14), .mov (.tmp 13), none⟩,
    ⟨(some 15), .mov (.tmp 1), (some (14, false))⟩,
    ⟨(some 16), .bin .lss (.tmp 15) (.con (.int .i64 1)), (some (14, false))⟩,
    ⟨(some 17), .pick (.tmp 14) (.con (.bool true)) (.tmp 16), none⟩,
    ⟨(some 18), .mov (.tmp 17), none⟩,
    ⟨(some 19), .mov (.tmp 1), (some (18, false))⟩,
    ⟨(some 20), .bin .gtr (.tmp 19) (.con (.int .i64 1073741824)), (some (18, false))⟩,
    ⟨(some 21), .pick (.tmp 18) (.con (.bool true)) (.tmp 20), none⟩])
  (.cond (.tmp 21)
  (.seq (.ops [⟨(some 6), .mov (.con (.int .i64 0)), none⟩])
  .ret)
  .skip))
  (.seq (.ops [⟨(some 22), .mov (.tmp 1), none⟩,
    ⟨(some 23), .bin .shl (.tmp 22) (.con (.int .u64 16)), none⟩,
    ⟨(some 24), .mov (.tmp 0), none⟩,
    ⟨(some 25), .bin .or (.tmp 23) (.tmp 24), none⟩,
    ⟨(some 7), .mov (.tmp 25), none⟩])
  (.seq (.seq (.ops [⟨(some 26), .mov (.tmp 2), none⟩])
  (.cond (.tmp 26)
  (.ops [⟨(some 27), .mov (.tmp 7), none⟩,
    ⟨(some 28), .bin .or (.tmp 27) (.con (.int .i64 281474976710656)), none⟩,
    ⟨(some 7), .mov (.tmp 28), none⟩])
  .skip))
  (.seq (.ops [⟨(some 29), .mov (.tmp 7), none⟩,
    ⟨(some 6), .mov (.tmp 29), none⟩])
  .ret)))))
def a88 : AFunc := ⟨3, c88, [.tmp 6]⟩

/- 92: cmp.isNaN[byte] -/
def c92 : ACode := (.seq (.ops [⟨(some 2), .mov (.con (.bool false)), none⟩])
  (.seq (.ops [⟨(some 3), .mov (.tmp 0), none⟩,
    ⟨(some 4), .mov (.tmp 0), none⟩,
    ⟨(some 5), .bin .neq (.tmp 3) (.tmp 4), none⟩,
    ⟨(some 2), .mov (.tmp 5), none⟩])
  .ret))
def a92 : AFunc := ⟨1, c92, [.tmp 2]⟩

/- 93: slices.rotateLeft[byte] -/
def c93 : ACode := (.seq (.ops [⟨(some 4), .mov (.tmp 0), none⟩,
    ⟨(some 5), .mov (.tmp 1), none⟩,
    ⟨(some 6), .slc 1 (.tmp 4) none (some (.tmp 5)) none, none⟩,
    ⟨(some 7), .call 97 [(.tmp 6)], none⟩])
  (.seq (.ops [⟨(some 8), .mov (.tmp 0), none⟩,
    ⟨(some 9), .mov (.tmp 1), none⟩,
    ⟨(some 10), .slc 1 (.tmp 8) (some (.tmp 9)) none none, none⟩,
    ⟨(some 11), .call 97 [(.tmp 10)], none⟩])
  (.ops [⟨(some 12), .mov (.tmp 0), none⟩,
    ⟨(some 13), .call 97 [(.tmp 12)], none⟩])))
def a93 : AFunc := ⟨2, c93, []⟩

/- 94: slices.rotateLeft[int] -/
def c94 : ACode := (.seq (.ops [⟨(some 4), .mov (.tmp 0), none⟩,
    ⟨(some 5), .mov (.tmp 1), none⟩,
    ⟨(some 6), .slc 1 (.tmp 4) none (some (.tmp 5)) none, none⟩,
    ⟨(some 7), .call 98 [(.tmp 6)], none⟩])
  (.seq (.ops [⟨(some 8), .mov (.tmp 0), none⟩,
    ⟨(some 9), .mov (.tmp 1), none⟩,
    ⟨(some 10), .slc 1 (.tmp 8) (some (.tmp 9)) none none, none⟩,
    ⟨(some 11), .call 98 [(.tmp 10)], none⟩])
  (.ops [⟨(some 12), .mov (.tmp 0), none⟩,
    ⟨(some 13), .call 98 [(.tmp 12)], none⟩])))
def a94 : AFunc := ⟨2, c94, []⟩

/- 95: internal/stringslite.CutSuffix -/
def c95 : ACode := (.seq (.ops [⟨(some 4), .mov (.con (.str [])), none⟩,
    ⟨(some 5), .mov (.con (.bool false)), none⟩])
  (.seq (.seq (.ops [⟨(some 6), .mov (.tmp 0), none⟩,
    ⟨(some 7), .mov (.tmp 1), none⟩,
    ⟨(some 8), .call 99 [(.tmp 6), (.tmp 7)], none⟩,
    ⟨(some 9), .un .not (.tmp 8), none⟩])
  (.cond (.tmp 9)
  (.seq (.ops [⟨(some 10), .mov (.tmp 0), none⟩,
    ⟨(some 4), .mov (.tmp 10), none⟩,
    ⟨(some 5), .mov (.con (.bool false)), none⟩])
  .ret)
  .skip))
  (.seq (.ops [⟨(some 11), .mov (.tmp 0), none⟩,
    ⟨(some 12), .mov (.tmp 0), none⟩,
    ⟨(some 13), .lenStr (.tmp 12), none⟩,
    ⟨(some 14), .mov (.tmp 1), none⟩,
    ⟨(some 15), .lenStr (.tmp 14), none⟩,
    ⟨(some 16), .bin .sub (.tmp 13) (.tmp 15), none⟩,
    ⟨(some 17), .slcStr (.tmp 11) none (some (.tmp 16)), none⟩,
    ⟨(some 4), .mov (.tmp 17), none⟩,
    ⟨(some 5), .mov (.con (.bool true)), none⟩])
  .ret)))
def a95 : AFunc := ⟨2, c95, [.tmp 4, .tmp 5]⟩

/- 96: strings.IndexByte -/
def c96 : ACode := (.seq (.ops [⟨(some 4), .mov (.con (.int .i64 0)), none⟩])
  (.seq (.ops [⟨(some 5), .mov (.tmp 0), none⟩,
    ⟨(some 6), .mov (.tmp 1), none⟩,
    ⟨(some 7), .call 100 [(.tmp 5), (.tmp 6)], none⟩,
    ⟨(some 4), .mov (.tmp 7), none⟩])
  .ret))
def a96 : AFunc := ⟨2, c96, [.tmp 4]⟩

/- 97: slices.Reverse[[]byte,byte] -/
def c97l0 : ACode := (.seq (.seq (.ops [⟨(some 7), .mov (.tmp 2), none⟩,
    ⟨(some 8), .mov (.tmp 3), none⟩,
    ⟨(some 9), .bin .lss (.tmp 7) (.tmp 8), none⟩])
  (.cond (.tmp 9)
  .skip
  (.exit 0)))
  (.seq (.block 1 (.ops [⟨(some 14), .mov (.tmp 0), none⟩,
    ⟨(some 15), .mov (.tmp 2), none⟩,
    ⟨(some 16), .mov (.tmp 0), none⟩,
    ⟨(some 17), .mov (.tmp 3), none⟩,
    ⟨(some 18), .mov (.tmp 0), none⟩,
    ⟨(some 19), .mov (.tmp 3), none⟩,
    ⟨(some 20), .idxAddr 1 (.tmp 18) (.tmp 19), none⟩,
    ⟨(some 21), .load false 1 (.tmp 20), none⟩,
    ⟨(some 22), .mov (.tmp 0), none⟩,
    ⟨(some 23), .mov (.tmp 2), none⟩,
    ⟨(some 24), .idxAddr 1 (.tmp 22) (.tmp 23), none⟩,
    ⟨(some 25), .load false 1 (.tmp 24), none⟩,
    ⟨(some 26), .idxAddr 1 (.tmp 14) (.tmp 15), none⟩,
    ⟨none, .store 1 (.tmp 26) (.tmp 21), none⟩,
    ⟨(some 27), .idxAddr 1 (.tmp 16) (.tmp 17), none⟩,
    ⟨none, .store 1 (.tmp 27) (.tmp 25), none⟩]))
  (.ops [⟨(some 10), .mov (.tmp 2), none⟩,
    ⟨(some 11), .bin .add (.tmp 10) (.con (.int .i64 1)), none⟩,
    ⟨(some 12), .mov (.tmp 3), none⟩,
    ⟨(some 13), .bin .sub (.tmp 12) (.con (.int .i64 1)), none⟩,
    ⟨(some 2), .mov (.tmp 11), none⟩,
    ⟨(some 3), .mov (.tmp 13), none⟩])))
def c97 : ACode := (.seq (.ops [⟨(some 4), .mov (.tmp 0), none⟩,
    ⟨(some 5), .lenSlice (.tmp 4), none⟩,
    ⟨(some 6), .bin .sub (.tmp 5) (.con (.int .i64 1)), none⟩,
    ⟨(some 2), .mov (.con (.int .i64 0)), none⟩,
    ⟨(some 3), .mov (.tmp 6), none⟩])
  (.block 0 (.loop c97l0)))
def a97 : AFunc := ⟨1, c97, []⟩

/- 98: slices.Reverse[[]int,int] -/
def c98l0 : ACode := (.seq (.seq (.ops [⟨(some 7), .mov (.tmp 2), none⟩,
    ⟨(some 8), .mov (.tmp 3), none⟩,
    ⟨(some 9), .bin .lss (.tmp 7) (.tmp 8), none⟩])
  (.cond (.tmp 9)
  .skip
  (.exit 0)))
  (.seq (.block 1 (.ops [⟨(some 14), .mov (.tmp 0), none⟩,
    ⟨(some 15), .mov (.tmp 2), none⟩,
    ⟨(some 16), .mov (.tmp 0), none⟩,
    ⟨(some 17), .mov (.tmp 3), none⟩,
    ⟨(some 18), .mov (.tmp 0), none⟩,
    ⟨(some 19), .mov (.tmp 3), none⟩,
    ⟨(some 20), .idxAddr 1 (.tmp 18) (.tmp 19), none⟩,
    ⟨(some 21), .load false 1 (.tmp 20), none⟩,
    ⟨(some 22), .mov (.tmp 0), none⟩,
    ⟨(some 23), .mov (.tmp 2), none⟩,
    ⟨(some 24), .idxAddr 1 (.tmp 22) (.tmp 23), none⟩,
    ⟨(some 25), .load false 1 (.tmp 24), none⟩,
    ⟨(some 26), .idxAddr 1 (.tmp 14) (.tmp 15), none⟩,
    ⟨none, .store 1 (.tmp 26) (.tmp 21), none⟩,
    ⟨(some 27), .idxAddr 1 (.tmp 16) (.tmp 17), none⟩,
    ⟨none, .store 1 (.tmp 27) (.tmp 25), none⟩]))
  (.ops [⟨(some 10), .mov (.tmp 2), none⟩,
    ⟨(some 11), .bin .add (.tmp 10) (.con (.int .i64 1)), none⟩,
    ⟨(some 12), .mov (.tmp 3), none⟩,
    ⟨(some 13), .bin .sub (.tmp 12) (.con (.int .i64 1)), none⟩,
    ⟨(some 2), .mov (.tmp 11), none⟩,
    ⟨(some 3), .mov (.tmp 13), none⟩])))
def c98 : ACode := (.seq (.ops [⟨(some 4), .mov (.tmp 0), none⟩,
    ⟨(some 5), .lenSlice (.tmp 4), none⟩,
    ⟨(some 6), .bin .sub (.tmp 5) (.con (.int .i64 1)), none⟩,
    ⟨(some 2), .mov (.con (.int .i64 0)), none⟩,
    ⟨(some 3), .mov (.tmp 6), none⟩])
  (.block 0 (.loop c98l0)))
def a98 : AFunc := ⟨1, c98, []⟩

/- 99: internal/stringslite.HasSuffix -/
def c99 : ACode := (.seq (.ops [⟨(some 4), .mov (.con (.bool false)), none⟩])
  (.seq (.ops [⟨(some 5), .mov (.tmp 0), none⟩,
    ⟨(some 6), .lenStr (.tmp 5), none⟩,
    ⟨(some 7), .mov (.tmp 1), none⟩,
    ⟨(some 8), .lenStr (.tmp 7), none⟩,
    ⟨(some 9), .bin .geq (.tmp 6) (.tmp 8), none⟩,
    ⟨(some 10), .mov (.tmp 9), none⟩,
    ⟨(some 11), .mov (.tmp 0), (some (10, true))⟩,
    ⟨(some 12), .mov (.tmp 0), (some (10, true))⟩,
    ⟨(some 13), .lenStr (.tmp 12), (some (10, true))⟩,
    ⟨(some 14), .mov (.tmp 1), (some (10, true))⟩,
    ⟨(some 15), .lenStr (.tmp 14), (some (10, true))⟩,
    ⟨(some 16), .bin .sub (.tmp 13) (.tmp 15), (some (10, true))⟩,
    ⟨(some 17), .slcStr (.tmp 11) (some (.tmp 16)) none, (some (10, true))⟩,
    ⟨(some 18), .mov (.tmp 1), (some (10, true))⟩,
    ⟨(some 19), .bin .eql (.tmp 17) (.tmp 18), (some (10, true))⟩,
    ⟨(some 20), .pick (.tmp 10) (.tmp 19) (.con (.bool false)), none⟩,
    ⟨(some 4), .mov (.tmp 20), none⟩])
  .ret))
def a99 : AFunc := ⟨2, c99, [.tmp 4]⟩

/- 100: internal/stringslite.IndexByte -/
def c100 : ACode := (.seq (.ops [⟨(some 4), .mov (.con (.int .i64 0)), none⟩])
  (.seq (.ops [⟨(some 5), .mov (.tmp 0), none⟩,
    ⟨(some 6), .mov (.tmp 1), none⟩,
    ⟨(some 7), .call 101 [(.tmp 5), (.tmp 6)], none⟩,
    ⟨(some 4), .mov (.tmp 7), none⟩])
  .ret))
def a100 : AFunc := ⟨2, c100, [.tmp 4]⟩
/- 101 internal/bytealg.IndexByteString: no body, not compiled -/


end Go.Proofs.Ytpabmkicdcilpaa

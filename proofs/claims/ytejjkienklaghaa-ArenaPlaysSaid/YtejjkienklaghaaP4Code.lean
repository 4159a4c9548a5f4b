/- The abstract code of the functions that the laws reach, as a program printed it; each is what the compiler makes of the given function. -/
import Derived.Test.YtejjkienklaghaaVmZ
import Derived.Test.YtejjkienklaghaaRows
namespace Go.Proofs.Ytejjkienklaghaa
open Go.Vm
/- 3: tendril/tendrillaw4.ArenaRuns -/
def c3 : ACode := (.seq (.ops [⟨(some 0), .mov (.con (.bool false)), none⟩])
  (.seq (.ops [⟨(some 17), .build [(.int .i64 0), (.int .i64 0), (.int .i64 0), (.int .i64 0), (.int .i64 0)] [(0, 1, (.con (.int .i64 2))), (1, 1, (.con (.int .i64 1)))], none⟩,
    ⟨(some 18), .call 9 [(.tmp 17)], none⟩,
    ⟨(some 16), .mov (.tmp 18), none⟩,
    ⟨(some 19), .extract (.tmp 16) 0, none⟩,
    ⟨(some 20), .extract (.tmp 16) 1, none⟩,
    ⟨(some 1), .mov (.tmp 19), none⟩,
    ⟨(some 2), .mov (.tmp 20), none⟩])
  (.seq (.seq (.ops [⟨(some 21), .mov (.tmp 1), none⟩,
    ⟨(some 22), .eqNil 0 false (.tmp 21) (.con .nilPtr), none⟩,
    ⟨(some 23), .mov (.tmp 22), none⟩,
    ⟨(some 24), .mov (.tmp 2), (some (23, false))⟩,
    ⟨(some 25), .bin .neq (.tmp 24) (.con (.int .i64 0)), (some (23, false))⟩,
    ⟨(some 26), .pick (.tmp 23) (.con (.bool true)) (.tmp 25), none⟩])
  (.cond (.tmp 26)
  (.seq (.ops [⟨(some 0), .mov (.con (.bool false)), none⟩])
  .ret)
  .skip))
  (.seq (.ops [⟨(some 28), .mov (.tmp 1), none⟩,
    ⟨(some 29), .buildSlice 1 1 [(.int .u64 0)] [(0, 1, (.con (.int .u64 5)))], none⟩,
    ⟨(some 30), .call 10 [(.tmp 28), (.con (.int .i64 0)), (.tmp 29)], none⟩,
    ⟨(some 27), .mov (.tmp 30), none⟩,
    ⟨(some 31), .extract (.tmp 27) 0, none⟩,
    ⟨(some 32), .extract (.tmp 27) 1, none⟩,
    ⟨(some 3), .mov (.tmp 31), none⟩,
    ⟨(some 4), .mov (.tmp 32), none⟩])
  (.seq (.ops [⟨(some 34), .mov (.tmp 1), none⟩,
    ⟨(some 35), .call 10 [(.tmp 34), (.con (.int .i64 1)), (.con .nilSlice)], none⟩,
    ⟨(some 33), .mov (.tmp 35), none⟩,
    ⟨(some 36), .extract (.tmp 33) 0, none⟩,
    ⟨(some 37), .extract (.tmp 33) 1, none⟩,
    ⟨(some 5), .mov (.tmp 36), none⟩,
    ⟨(some 6), .mov (.tmp 37), none⟩])
  (.seq (.ops [⟨(some 39), .mov (.tmp 1), none⟩,
    ⟨(some 40), .call 10 [(.tmp 39), (.con (.int .i64 1)), (.con .nilSlice)], none⟩,
    ⟨(some 38), .mov (.tmp 40), none⟩,
    ⟨(some 41), .extract (.tmp 38) 0, none⟩,
    ⟨(some 42), .extract (.tmp 38) 1, none⟩,
    ⟨(some 7), .mov (.tmp 41), none⟩,
    ⟨(some 8), .mov (.tmp 42), none⟩])
  (.seq (.ops [⟨(some 44), .mov (.tmp 1), none⟩,
    ⟨(some 45), .mov (.tmp 3), none⟩,
    ⟨(some 46), .call 11 [(.tmp 44), (.tmp 45)], none⟩,
    ⟨(some 43), .mov (.tmp 46), none⟩,
    ⟨(some 47), .extract (.tmp 43) 0, none⟩,
    ⟨(some 48), .extract (.tmp 43) 1, none⟩,
    ⟨(some 9), .mov (.tmp 47), none⟩,
    ⟨(some 10), .mov (.tmp 48), none⟩])
  (.seq (.ops [⟨(some 49), .mov (.tmp 1), none⟩,
    ⟨(some 50), .mov (.tmp 3), none⟩,
    ⟨(some 51), .call 12 [(.tmp 49), (.tmp 50)], none⟩,
    ⟨(some 11), .mov (.tmp 51), none⟩])
  (.seq (.ops [⟨(some 53), .mov (.tmp 1), none⟩,
    ⟨(some 54), .mov (.tmp 3), none⟩,
    ⟨(some 55), .call 11 [(.tmp 53), (.tmp 54)], none⟩,
    ⟨(some 52), .mov (.tmp 55), none⟩,
    ⟨(some 56), .extract (.tmp 52) 0, none⟩,
    ⟨(some 57), .extract (.tmp 52) 1, none⟩,
    ⟨(some 12), .mov (.tmp 56), none⟩,
    ⟨(some 13), .mov (.tmp 57), none⟩])
  (.seq (.ops [⟨(some 59), .mov (.tmp 1), none⟩,
    ⟨(some 60), .call 10 [(.tmp 59), (.con (.int .i64 0)), (.con .nilSlice)], none⟩,
    ⟨(some 58), .mov (.tmp 60), none⟩,
    ⟨(some 61), .extract (.tmp 58) 0, none⟩,
    ⟨(some 62), .extract (.tmp 58) 1, none⟩,
    ⟨(some 14), .mov (.tmp 61), none⟩,
    ⟨(some 15), .mov (.tmp 62), none⟩])
  (.seq (.ops [⟨(some 63), .mov (.tmp 4), none⟩,
    ⟨(some 64), .bin .eql (.tmp 63) (.con (.int .i64 0)), none⟩,
    ⟨(some 65), .mov (.tmp 64), none⟩,
    ⟨(some 66), .mov (.tmp 6), (some (65, true))⟩,
    ⟨(some 67), .bin .eql (.tmp 66) (.con (.int .i64 0)), (some (65, true))⟩,
    ⟨(some 68), .pick (.tmp 65) (.tmp 67) (.con (.bool false)), none⟩,
    ⟨(some 69), .mov (.tmp 68), none⟩,
    ⟨(some 70), .mov (.tmp 3), (some (69, true))⟩,
    ⟨(some 71), .bin .eql (.tmp 70) (.con (.int .i64 281474976776192)), (some (69, true))⟩,
    ⟨(some 72), .pick (.tmp 69) (.tmp 71) (.con (.bool false)), none⟩,
    ⟨(some 73), .mov (.tmp 72), none⟩,
    ⟨(some 74), .mov (.tmp 5), (some (73, true))⟩,
    ⟨(some 75), .bin .eql (.tmp 74) (.con (.int .i64 65538)), (some (73, true))⟩,
    ⟨(some 76), .pick (.tmp 73) (.tmp 75) (.con (.bool false)), none⟩,
    ⟨(some 77), .mov (.tmp 76), none⟩,
    ⟨(some 78), .mov (.tmp 8), (some (77, true))⟩,
    ⟨(some 79), .bin .eql (.tmp 78) (.con (.int .i64 2)), (some (77, true))⟩,
    ⟨(some 80), .pick (.tmp 77) (.tmp 79) (.con (.bool false)), none⟩,
    ⟨(some 81), .mov (.tmp 80), none⟩,
    ⟨(some 82), .mov (.tmp 10), (some (81, true))⟩,
    ⟨(some 83), .bin .eql (.tmp 82) (.con (.int .i64 0)), (some (81, true))⟩,
    ⟨(some 84), .pick (.tmp 81) (.tmp 83) (.con (.bool false)), none⟩,
    ⟨(some 85), .mov (.tmp 84), none⟩,
    ⟨(some 86), .mov (.tmp 9), (some (85, true))⟩,
    ⟨(some 87), .buildSlice 1 8 [(.int .u64 0), (.int .u64 0), (.int .u64 0), (.int .u64 0), (.int .u64 0), (.int .u64 0), (.int .u64 0), (.int .u64 0)] [(0, 1, (.con (.int .u64 5))), (1, 1, (.con (.int .u64 0))), (2, 1, (.con (.int .u64 0))), (3, 1, (.con (.int .u64 0))), (4, 1, (.con (.int .u64 0))), (5, 1, (.con (.int .u64 0))), (6, 1, (.con (.int .u64 0))), (7, 1, (.con (.int .u64 0)))], (some (85, true))⟩,
    ⟨(some 88), .call 13 [(.tmp 86), (.tmp 87)], (some (85, true))⟩,
    ⟨(some 89), .pick (.tmp 85) (.tmp 88) (.con (.bool false)), none⟩,
    ⟨(some 90), .mov (.tmp 89), none⟩,
    ⟨(some 91), .mov (.tmp 11), (some (90, true))⟩,
    ⟨(some 92), .bin .eql (.tmp 91) (.con (.int .i64 0)), (some (90, true))⟩,
    ⟨(some 93), .pick (.tmp 90) (.tmp 92) (.con (.bool false)), none⟩,
    ⟨(some 94), .mov (.tmp 93), none⟩,
    ⟨(some 95), .mov (.tmp 13), (some (94, true))⟩,
    ⟨(some 96), .bin .eql (.tmp 95) (.con (.int .i64 4)), (some (94, true))⟩,
    ⟨(some 97), .pick (.tmp 94) (.tmp 96) (.con (.bool false)), none⟩,
    ⟨(some 98), .mov (.tmp 97), none⟩,
    ⟨(some 99), .mov (.tmp 14), (some (98, true))⟩,
    ⟨(some 100), .bin .eql (.tmp 99) (.con (.int .i64 281474976841728)), (some (98, true))⟩,
    ⟨(some 101), .pick (.tmp 98) (.tmp 100) (.con (.bool false)), none⟩,
    ⟨(some 102), .mov (.tmp 101), none⟩,
    ⟨(some 103), .mov (.tmp 15), (some (102, true))⟩,
    ⟨(some 104), .bin .eql (.tmp 103) (.con (.int .i64 0)), (some (102, true))⟩,
    ⟨(some 105), .pick (.tmp 102) (.tmp 104) (.con (.bool false)), none⟩,
    ⟨(some 0), .mov (.tmp 105), none⟩])
  .ret)))))))))))
def a3 : AFunc := ⟨0, c3, [.tmp 0]⟩

/- 6: tendril/tendrillaw4.ArenaPlays -/
def c6l0 : ACode := (.seq (.ops [⟨(some 242), .bin .lss (.tmp 241) (.tmp 240), none⟩])
  (.seq (.cond (.tmp 242)
  .skip
  (.exit 3))
  (.seq (.block 4 (.seq (.ops [⟨(some 243), .idxAddr 4 (.tmp 239) (.tmp 241), none⟩,
    ⟨(some 244), .load true 4 (.tmp 243), none⟩,
    ⟨(some 31), .new [(.int .i64 0), (.int .i64 0), (.bool false), .nilSlice], none⟩,
    ⟨none, .store 4 (.tmp 31) (.tmp 244), none⟩])
  (.seq (.ops [⟨(some 245), .fieldAddr 2 (.tmp 31), none⟩,
    ⟨(some 246), .load false 1 (.tmp 245), none⟩])
  (.cond (.tmp 246)
  (.ops [⟨(some 247), .mov (.tmp 29), none⟩,
    ⟨(some 248), .bin .add (.tmp 247) (.con (.int .i64 1)), none⟩,
    ⟨(some 29), .mov (.tmp 248), none⟩])
  .skip))))
  (.ops [⟨(some 249), .bin .add (.tmp 241) (.con (.int .i64 1)), none⟩,
    ⟨(some 241), .mov (.tmp 249), none⟩]))))
def c6l1 : ACode := (.seq (.seq (.ops [⟨(some 258), .mov (.tmp 32), none⟩,
    ⟨(some 259), .bin .leq (.tmp 258) (.con (.int .i64 5)), none⟩])
  (.cond (.tmp 259)
  .skip
  (.exit 5)))
  (.seq (.block 6 (.seq (.ops [⟨(some 33), .mov (.con (.int .i64 0)), none⟩])
  (.seq (.seq (.ops [⟨(some 262), .mov (.tmp 32), none⟩,
    ⟨(some 263), .bin .geq (.tmp 262) (.con (.int .i64 0)), none⟩,
    ⟨(some 264), .mov (.tmp 263), none⟩,
    ⟨(some 265), .mov (.tmp 32), (some (264, true))⟩,
    ⟨(some 266), .bin .lss (.tmp 265) (.con (.int .i64 5)), (some (264, true))⟩,
    ⟨(some 267), .pick (.tmp 264) (.tmp 266) (.con (.bool false)), none⟩])
  (.cond (.tmp 267)
  (.ops [⟨(some 268), .mov (.tmp 9), none⟩,
    ⟨(some 269), .mov (.tmp 32), none⟩,
    ⟨(some 270), .nilChk (.tmp 268), none⟩,
    ⟨(some 271), .fieldAddr 1 (.tmp 270), none⟩,
    ⟨(some 272), .idxAddrArr 5 2 (.tmp 271) (.tmp 269), none⟩,
    ⟨(some 273), .fieldAddr 1 (.tmp 272), none⟩,
    ⟨(some 274), .load false 1 (.tmp 273), none⟩,
    ⟨(some 275), .lenSlice (.tmp 274), none⟩,
    ⟨(some 33), .mov (.tmp 275), none⟩])
  .skip))
  (.seq (.ops [⟨(some 276), .mov (.tmp 7), none⟩,
    ⟨(some 277), .mov (.tmp 32), none⟩,
    ⟨(some 278), .call 17 [(.tmp 276), (.tmp 277)], none⟩,
    ⟨(some 279), .mov (.tmp 33), none⟩,
    ⟨(some 280), .bin .neq (.tmp 278) (.tmp 279), none⟩,
    ⟨(some 281), .mov (.tmp 280), none⟩,
    ⟨(some 282), .mov (.tmp 32), (some (281, false))⟩,
    ⟨(some 283), .call 27 [(.tmp 282)], (some (281, false))⟩,
    ⟨(some 284), .mov (.tmp 32), (some (281, false))⟩,
    ⟨(some 285), .call 28 [(.tmp 284)], (some (281, false))⟩,
    ⟨(some 286), .bin .neq (.tmp 283) (.tmp 285), (some (281, false))⟩,
    ⟨(some 287), .pick (.tmp 281) (.con (.bool true)) (.tmp 286), none⟩])
  (.cond (.tmp 287)
  (.seq (.ops [⟨(some 6), .mov (.con (.bool false)), none⟩])
  .ret)
  .skip)))))
  (.ops [⟨(some 260), .mov (.tmp 32), none⟩,
    ⟨(some 261), .bin .add (.tmp 260) (.con (.int .i64 1)), none⟩,
    ⟨(some 32), .mov (.tmp 261), none⟩])))
def c6l2 : ACode := (.seq (.seq (.ops [⟨(some 58), .mov (.tmp 12), none⟩,
    ⟨(some 59), .mov (.tmp 2), none⟩,
    ⟨(some 60), .lenSlice (.tmp 59), none⟩,
    ⟨(some 61), .bin .lss (.tmp 58) (.tmp 60), none⟩,
    ⟨(some 62), .mov (.tmp 61), none⟩,
    ⟨(some 63), .mov (.tmp 12), (some (62, true))⟩,
    ⟨(some 64), .bin .lss (.tmp 63) (.con (.int .i64 60)), (some (62, true))⟩,
    ⟨(some 65), .pick (.tmp 62) (.tmp 64) (.con (.bool false)), none⟩,
    ⟨(some 66), .mov (.tmp 65), none⟩,
    ⟨(some 67), .mov (.tmp 7), (some (66, true))⟩,
    ⟨(some 68), .eqNil 0 true (.tmp 67) (.con .nilPtr), (some (66, true))⟩,
    ⟨(some 69), .pick (.tmp 66) (.tmp 68) (.con (.bool false)), none⟩])
  (.cond (.tmp 69)
  .skip
  (.exit 0)))
  (.seq (.block 1 (.seq (.ops [⟨(some 72), .mov (.tmp 2), none⟩,
    ⟨(some 73), .mov (.tmp 12), none⟩,
    ⟨(some 74), .idxAddr 7 (.tmp 72) (.tmp 73), none⟩,
    ⟨(some 75), .load true 7 (.tmp 74), none⟩,
    ⟨(some 13), .new [(.int .i64 0), (.int .i64 0), (.int .i64 0), (.int .i64 0), (.int .u64 0), (.bool false), .nilSlice], none⟩,
    ⟨none, .store 7 (.tmp 13) (.tmp 75), none⟩])
  (.seq (.seq (.ops [⟨(some 76), .fieldAddr 6 (.tmp 13), none⟩,
    ⟨(some 77), .load false 1 (.tmp 76), none⟩,
    ⟨(some 78), .lenSlice (.tmp 77), none⟩,
    ⟨(some 79), .bin .gtr (.tmp 78) (.con (.int .i64 270)), none⟩])
  (.cond (.tmp 79)
  (.ops [⟨(some 80), .fieldAddr 6 (.tmp 13), none⟩,
    ⟨(some 81), .load false 1 (.tmp 80), none⟩,
    ⟨(some 82), .slc 1 (.tmp 81) none (some (.con (.int .i64 270))) none, none⟩,
    ⟨(some 83), .fieldAddr 6 (.tmp 13), none⟩,
    ⟨none, .store 1 (.tmp 83) (.tmp 82), none⟩])
  .skip))
  (.seq (.seq (.ops [⟨(some 84), .fieldAddr 2 (.tmp 13), none⟩,
    ⟨(some 85), .load false 1 (.tmp 84), none⟩,
    ⟨(some 86), .bin .geq (.tmp 85) (.con (.int .i64 0)), none⟩,
    ⟨(some 87), .mov (.tmp 86), none⟩,
    ⟨(some 88), .mov (.tmp 11), (some (87, true))⟩,
    ⟨(some 89), .lenSlice (.tmp 88), (some (87, true))⟩,
    ⟨(some 90), .bin .gtr (.tmp 89) (.con (.int .i64 0)), (some (87, true))⟩,
    ⟨(some 91), .pick (.tmp 87) (.tmp 90) (.con (.bool false)), none⟩])
  (.cond (.tmp 91)
  (.ops [⟨(some 92), .mov (.tmp 11), none⟩,
    ⟨(some 93), .fieldAddr 2 (.tmp 13), none⟩,
    ⟨(some 94), .load false 1 (.tmp 93), none⟩,
    ⟨(some 95), .mov (.tmp 11), none⟩,
    ⟨(some 96), .lenSlice (.tmp 95), none⟩,
    ⟨(some 97), .bin .rem (.tmp 94) (.tmp 96), none⟩,
    ⟨(some 98), .idxAddr 1 (.tmp 92) (.tmp 97), none⟩,
    ⟨(some 99), .load false 1 (.tmp 98), none⟩,
    ⟨(some 100), .fieldAddr 3 (.tmp 13), none⟩,
    ⟨none, .store 1 (.tmp 100) (.tmp 99), none⟩])
  .skip))
  (.seq (.seq (.ops [⟨(some 102), .mov (.tmp 9), none⟩,
    ⟨(some 103), .fieldAddr 3 (.tmp 13), none⟩,
    ⟨(some 104), .load false 1 (.tmp 103), none⟩,
    ⟨(some 105), .call 21 [(.tmp 102), (.tmp 104)], none⟩,
    ⟨(some 101), .mov (.tmp 105), none⟩,
    ⟨(some 106), .extract (.tmp 101) 0, none⟩,
    ⟨(some 107), .extract (.tmp 101) 1, none⟩,
    ⟨(some 14), .mov (.tmp 106), none⟩,
    ⟨(some 15), .mov (.tmp 107), none⟩])
  (.seq (.ops [⟨(some 108), .fieldAddr 5 (.tmp 13), none⟩,
    ⟨(some 109), .load false 1 (.tmp 108), none⟩,
    ⟨(some 110), .mov (.tmp 109), none⟩,
    ⟨(some 111), .mov (.tmp 15), (some (110, true))⟩,
    ⟨(some 112), .bin .eql (.tmp 111) (.con (.int .i64 0)), (some (110, true))⟩,
    ⟨(some 113), .pick (.tmp 110) (.tmp 112) (.con (.bool false)), none⟩])
  (.cond (.tmp 113)
  (.ops [⟨(some 114), .mov (.tmp 14), none⟩,
    ⟨(some 115), .idxAddr 1 (.tmp 114) (.con (.int .i64 0)), none⟩,
    ⟨(some 116), .load false 1 (.tmp 115), none⟩,
    ⟨(some 117), .fieldAddr 4 (.tmp 13), none⟩,
    ⟨none, .store 1 (.tmp 117) (.tmp 116), none⟩])
  .skip)))
  (.seq (.ops [⟨(some 16), .mov (.con (.bool true)), none⟩])
  (.seq (.seq (.ops [⟨(some 118), .fieldAddr 0 (.tmp 13), none⟩,
    ⟨(some 119), .load false 1 (.tmp 118), none⟩])
  (.block 2 (.seq (.ops [⟨(some 121), .bin .eql (.tmp 119) (.con (.int .i64 1)), none⟩,
    ⟨(some 120), .mov (.tmp 121), none⟩])
  (.cond (.tmp 120)
  (.seq (.ops [⟨(some 123), .mov (.tmp 7), none⟩,
    ⟨(some 124), .fieldAddr 1 (.tmp 13), none⟩,
    ⟨(some 125), .load false 1 (.tmp 124), none⟩,
    ⟨(some 126), .fieldAddr 6 (.tmp 13), none⟩,
    ⟨(some 127), .load false 1 (.tmp 126), none⟩,
    ⟨(some 128), .call 10 [(.tmp 123), (.tmp 125), (.tmp 127)], none⟩,
    ⟨(some 122), .mov (.tmp 128), none⟩,
    ⟨(some 129), .extract (.tmp 122) 0, none⟩,
    ⟨(some 130), .extract (.tmp 122) 1, none⟩,
    ⟨(some 17), .mov (.tmp 129), none⟩,
    ⟨(some 18), .mov (.tmp 130), none⟩])
  (.seq (.ops [⟨(some 132), .mov (.tmp 9), none⟩,
    ⟨(some 133), .fieldAddr 1 (.tmp 13), none⟩,
    ⟨(some 134), .load false 1 (.tmp 133), none⟩,
    ⟨(some 135), .fieldAddr 6 (.tmp 13), none⟩,
    ⟨(some 136), .load false 1 (.tmp 135), none⟩,
    ⟨(some 137), .call 22 [(.tmp 132), (.tmp 134), (.tmp 136)], none⟩,
    ⟨(some 131), .mov (.tmp 137), none⟩,
    ⟨(some 138), .extract (.tmp 131) 0, none⟩,
    ⟨(some 139), .extract (.tmp 131) 1, none⟩,
    ⟨(some 19), .mov (.tmp 138), none⟩,
    ⟨(some 20), .mov (.tmp 139), none⟩])
  (.seq (.ops [⟨(some 140), .mov (.tmp 17), none⟩,
    ⟨(some 141), .mov (.tmp 19), none⟩,
    ⟨(some 142), .bin .eql (.tmp 140) (.tmp 141), none⟩,
    ⟨(some 143), .mov (.tmp 142), none⟩,
    ⟨(some 144), .mov (.tmp 18), (some (143, true))⟩,
    ⟨(some 145), .mov (.tmp 20), (some (143, true))⟩,
    ⟨(some 146), .bin .eql (.tmp 144) (.tmp 145), (some (143, true))⟩,
    ⟨(some 147), .pick (.tmp 143) (.tmp 146) (.con (.bool false)), none⟩,
    ⟨(some 16), .mov (.tmp 147), none⟩])
  (.seq (.ops [⟨(some 148), .mov (.tmp 20), none⟩,
    ⟨(some 149), .bin .eql (.tmp 148) (.con (.int .i64 0)), none⟩])
  (.cond (.tmp 149)
  (.ops [⟨(some 150), .mov (.tmp 11), none⟩,
    ⟨(some 151), .mov (.tmp 19), none⟩,
    ⟨(some 152), .buildSlice 1 1 [(.int .i64 0)] [(0, 1, (.tmp 151))], none⟩,
    ⟨(some 153), .append 1 8 (.tmp 150) (.tmp 152), none⟩,
    ⟨(some 11), .mov (.tmp 153), none⟩])
  .skip)))))
  (.seq (.ops [⟨(some 155), .bin .eql (.tmp 119) (.con (.int .i64 2)), none⟩,
    ⟨(some 154), .mov (.tmp 155), none⟩])
  (.cond (.tmp 154)
  (.draw [.op ⟨(some 156), .mov (.tmp 7), none⟩,
    .op ⟨(some 157), .fieldAddr 3 (.tmp 13), none⟩,
    .op ⟨(some 158), .load false 1 (.tmp 157), none⟩,
    .op ⟨(some 160), .mov (.tmp 9), none⟩,
    .op ⟨(some 161), .fieldAddr 3 (.tmp 13), none⟩,
    .op ⟨(some 162), .load false 1 (.tmp 161), none⟩,
    .op ⟨(some 159), .call 12 [(.tmp 156), (.tmp 158)], none⟩,
    .look ⟨(some 162), .load false 1 (.tmp 161), none⟩,
    .op ⟨(some 163), .call 23 [(.tmp 160), (.tmp 162)], none⟩,
    .op ⟨(some 164), .bin .eql (.tmp 159) (.tmp 163), none⟩,
    .op ⟨(some 16), .mov (.tmp 164), none⟩])
  (.seq (.ops [⟨(some 166), .bin .eql (.tmp 119) (.con (.int .i64 3)), none⟩,
    ⟨(some 165), .mov (.tmp 166), none⟩])
  (.cond (.tmp 165)
  (.seq (.ops [⟨(some 168), .mov (.tmp 7), none⟩,
    ⟨(some 169), .fieldAddr 3 (.tmp 13), none⟩,
    ⟨(some 170), .load false 1 (.tmp 169), none⟩,
    ⟨(some 171), .call 11 [(.tmp 168), (.tmp 170)], none⟩,
    ⟨(some 167), .mov (.tmp 171), none⟩,
    ⟨(some 172), .extract (.tmp 167) 0, none⟩,
    ⟨(some 173), .extract (.tmp 167) 1, none⟩,
    ⟨(some 21), .mov (.tmp 172), none⟩,
    ⟨(some 22), .mov (.tmp 173), none⟩])
  (.seq (.ops [⟨(some 175), .mov (.tmp 9), none⟩,
    ⟨(some 176), .fieldAddr 3 (.tmp 13), none⟩,
    ⟨(some 177), .load false 1 (.tmp 176), none⟩,
    ⟨(some 178), .call 21 [(.tmp 175), (.tmp 177)], none⟩,
    ⟨(some 174), .mov (.tmp 178), none⟩,
    ⟨(some 179), .extract (.tmp 174) 0, none⟩,
    ⟨(some 180), .extract (.tmp 174) 1, none⟩,
    ⟨(some 23), .mov (.tmp 179), none⟩,
    ⟨(some 24), .mov (.tmp 180), none⟩])
  (.ops [⟨(some 181), .mov (.tmp 22), none⟩,
    ⟨(some 182), .mov (.tmp 24), none⟩,
    ⟨(some 183), .bin .eql (.tmp 181) (.tmp 182), none⟩,
    ⟨(some 184), .mov (.tmp 183), none⟩,
    ⟨(some 185), .mov (.tmp 21), (some (184, true))⟩,
    ⟨(some 186), .mov (.tmp 23), (some (184, true))⟩,
    ⟨(some 187), .call 13 [(.tmp 185), (.tmp 186)], (some (184, true))⟩,
    ⟨(some 188), .pick (.tmp 184) (.tmp 187) (.con (.bool false)), none⟩,
    ⟨(some 16), .mov (.tmp 188), none⟩])))
  (.seq (.ops [⟨(some 190), .bin .eql (.tmp 119) (.con (.int .i64 4)), none⟩,
    ⟨(some 189), .mov (.tmp 190), none⟩])
  (.cond (.tmp 189)
  (.draw [.op ⟨(some 191), .mov (.tmp 7), none⟩,
    .op ⟨(some 192), .fieldAddr 3 (.tmp 13), none⟩,
    .op ⟨(some 193), .load false 1 (.tmp 192), none⟩,
    .op ⟨(some 194), .fieldAddr 6 (.tmp 13), none⟩,
    .op ⟨(some 195), .load false 1 (.tmp 194), none⟩,
    .op ⟨(some 197), .mov (.tmp 9), none⟩,
    .op ⟨(some 198), .fieldAddr 3 (.tmp 13), none⟩,
    .op ⟨(some 199), .load false 1 (.tmp 198), none⟩,
    .op ⟨(some 200), .fieldAddr 6 (.tmp 13), none⟩,
    .op ⟨(some 201), .load false 1 (.tmp 200), none⟩,
    .op ⟨(some 196), .call 24 [(.tmp 191), (.tmp 193), (.tmp 195)], none⟩,
    .look ⟨(some 199), .load false 1 (.tmp 198), none⟩,
    .look ⟨(some 201), .load false 1 (.tmp 200), none⟩,
    .op ⟨(some 202), .call 25 [(.tmp 197), (.tmp 199), (.tmp 201)], none⟩,
    .op ⟨(some 203), .bin .eql (.tmp 196) (.tmp 202), none⟩,
    .op ⟨(some 16), .mov (.tmp 203), none⟩])
  (.seq (.ops [⟨(some 205), .bin .eql (.tmp 119) (.con (.int .i64 5)), none⟩,
    ⟨(some 204), .mov (.tmp 205), none⟩])
  (.cond (.tmp 204)
  (.seq (.ops [⟨(some 207), .mov (.tmp 7), none⟩,
    ⟨(some 208), .fieldAddr 3 (.tmp 13), none⟩,
    ⟨(some 209), .load false 1 (.tmp 208), none⟩,
    ⟨(some 210), .fieldAddr 4 (.tmp 13), none⟩,
    ⟨(some 211), .load false 1 (.tmp 210), none⟩,
    ⟨(some 212), .fieldAddr 6 (.tmp 13), none⟩,
    ⟨(some 213), .load false 1 (.tmp 212), none⟩,
    ⟨(some 214), .call 15 [(.tmp 207), (.tmp 209), (.tmp 211), (.tmp 213)], none⟩,
    ⟨(some 206), .mov (.tmp 214), none⟩,
    ⟨(some 215), .extract (.tmp 206) 0, none⟩,
    ⟨(some 216), .extract (.tmp 206) 1, none⟩,
    ⟨(some 25), .mov (.tmp 215), none⟩,
    ⟨(some 26), .mov (.tmp 216), none⟩])
  (.seq (.ops [⟨(some 218), .mov (.tmp 9), none⟩,
    ⟨(some 219), .fieldAddr 3 (.tmp 13), none⟩,
    ⟨(some 220), .load false 1 (.tmp 219), none⟩,
    ⟨(some 221), .fieldAddr 4 (.tmp 13), none⟩,
    ⟨(some 222), .load false 1 (.tmp 221), none⟩,
    ⟨(some 223), .fieldAddr 6 (.tmp 13), none⟩,
    ⟨(some 224), .load false 1 (.tmp 223), none⟩,
    ⟨(some 225), .call 26 [(.tmp 218), (.tmp 220), (.tmp 222), (.tmp 224)], none⟩,
    ⟨(some 217), .mov (.tmp 225), none⟩,
    ⟨(some 226), .extract (.tmp 217) 0, none⟩,
    ⟨(some 227), .extract (.tmp 217) 1, none⟩,
    ⟨(some 27), .mov (.tmp 226), none⟩,
    ⟨(some 28), .mov (.tmp 227), none⟩])
  (.ops [⟨(some 228), .mov (.tmp 25), none⟩,
    ⟨(some 229), .mov (.tmp 27), none⟩,
    ⟨(some 230), .eqB false (.tmp 228) (.tmp 229), none⟩,
    ⟨(some 231), .mov (.tmp 230), none⟩,
    ⟨(some 232), .mov (.tmp 26), (some (231, true))⟩,
    ⟨(some 233), .mov (.tmp 28), (some (231, true))⟩,
    ⟨(some 234), .bin .eql (.tmp 232) (.tmp 233), (some (231, true))⟩,
    ⟨(some 235), .pick (.tmp 231) (.tmp 234) (.con (.bool false)), none⟩,
    ⟨(some 16), .mov (.tmp 235), none⟩])))
  .skip))))))))))))
  (.seq (.ops [⟨(some 29), .mov (.con (.int .i64 0)), none⟩])
  (.seq (.seq (.ops [⟨(some 236), .mov (.tmp 9), none⟩,
    ⟨(some 237), .nilChk (.tmp 236), none⟩,
    ⟨(some 238), .fieldAddr 0 (.tmp 237), none⟩,
    ⟨(some 239), .load false 1 (.tmp 238), none⟩,
    ⟨(some 240), .lenSlice (.tmp 239), none⟩,
    ⟨(some 241), .mov (.con (.int .i64 0)), none⟩])
  (.block 3 (.loop c6l0)))
  (.seq (.seq (.ops [⟨(some 250), .mov (.tmp 16), none⟩,
    ⟨(some 251), .un .not (.tmp 250), none⟩,
    ⟨(some 252), .mov (.tmp 251), none⟩,
    ⟨(some 253), .mov (.tmp 7), (some (252, false))⟩,
    ⟨(some 254), .call 16 [(.tmp 253)], (some (252, false))⟩,
    ⟨(some 255), .mov (.tmp 29), (some (252, false))⟩,
    ⟨(some 256), .bin .neq (.tmp 254) (.tmp 255), (some (252, false))⟩,
    ⟨(some 257), .pick (.tmp 252) (.con (.bool true)) (.tmp 256), none⟩])
  (.cond (.tmp 257)
  (.seq (.ops [⟨(some 6), .mov (.con (.bool false)), none⟩])
  .ret)
  .skip))
  (.seq (.ops [⟨(some 32), .mov (.con (.int .i64 (-1))), none⟩])
  (.block 5 (.loop c6l1)))))))))))))
  (.ops [⟨(some 70), .mov (.tmp 12), none⟩,
    ⟨(some 71), .bin .add (.tmp 70) (.con (.int .i64 1)), none⟩,
    ⟨(some 12), .mov (.tmp 71), none⟩])))
def c6 : ACode := (.seq (.ops [⟨(some 3), .box (.tmp 0), none⟩,
    ⟨(some 6), .mov (.con (.bool false)), none⟩])
  (.seq (.seq (.ops [⟨(some 34), .mov (.tmp 1), none⟩,
    ⟨(some 35), .un .not (.tmp 34), none⟩])
  (.cond (.tmp 35)
  (.ops [⟨(some 36), .load true 5 (.tmp 3), none⟩,
    ⟨(some 37), .call 19 [(.tmp 36)], none⟩,
    ⟨none, .store 5 (.tmp 3) (.tmp 37), none⟩])
  .skip))
  (.seq (.ops [⟨(some 39), .load true 5 (.tmp 3), none⟩,
    ⟨(some 40), .call 9 [(.tmp 39)], none⟩,
    ⟨(some 38), .mov (.tmp 40), none⟩,
    ⟨(some 41), .extract (.tmp 38) 0, none⟩,
    ⟨(some 42), .extract (.tmp 38) 1, none⟩,
    ⟨(some 7), .mov (.tmp 41), none⟩,
    ⟨(some 8), .mov (.tmp 42), none⟩])
  (.seq (.ops [⟨(some 44), .load true 5 (.tmp 3), none⟩,
    ⟨(some 45), .call 20 [(.tmp 44)], none⟩,
    ⟨(some 43), .mov (.tmp 45), none⟩,
    ⟨(some 46), .extract (.tmp 43) 0, none⟩,
    ⟨(some 47), .extract (.tmp 43) 1, none⟩,
    ⟨(some 9), .mov (.tmp 46), none⟩,
    ⟨(some 10), .mov (.tmp 47), none⟩])
  (.seq (.seq (.ops [⟨(some 48), .mov (.tmp 7), none⟩,
    ⟨(some 49), .eqNil 0 false (.tmp 48) (.con .nilPtr), none⟩,
    ⟨(some 50), .mov (.tmp 9), none⟩,
    ⟨(some 51), .eqNil 0 false (.tmp 50) (.con .nilPtr), none⟩,
    ⟨(some 52), .eqB true (.tmp 49) (.tmp 51), none⟩,
    ⟨(some 53), .mov (.tmp 52), none⟩,
    ⟨(some 54), .mov (.tmp 8), (some (53, false))⟩,
    ⟨(some 55), .mov (.tmp 10), (some (53, false))⟩,
    ⟨(some 56), .bin .neq (.tmp 54) (.tmp 55), (some (53, false))⟩,
    ⟨(some 57), .pick (.tmp 53) (.con (.bool true)) (.tmp 56), none⟩])
  (.cond (.tmp 57)
  (.seq (.ops [⟨(some 6), .mov (.con (.bool false)), none⟩])
  .ret)
  .skip))
  (.seq (.ops [⟨(some 11), .mov (.con .nilSlice), none⟩])
  (.seq (.seq (.ops [⟨(some 12), .mov (.con (.int .i64 0)), none⟩])
  (.block 0 (.loop c6l2)))
  (.seq (.ops [⟨(some 288), .call 3 [], none⟩,
    ⟨(some 6), .mov (.tmp 288), none⟩])
  .ret))))))))
def a6 : AFunc := ⟨3, c6, [.tmp 6]⟩

/- 9: tendril/arena.New -/
def c9l0 : ACode := (.seq (.ops [⟨(some 12), .bin .lss (.tmp 11) (.con (.int .i64 5)), none⟩])
  (.seq (.cond (.tmp 12)
  .skip
  (.exit 0))
  (.seq (.block 1 (.seq (.ops [⟨(some 13), .idxArr false 5 1 (.tmp 10) (.tmp 11), none⟩,
    ⟨(some 6), .mov (.tmp 13), none⟩])
  (.seq (.seq (.ops [⟨(some 14), .mov (.tmp 6), none⟩,
    ⟨(some 15), .bin .lss (.tmp 14) (.con (.int .i64 0)), none⟩,
    ⟨(some 16), .mov (.tmp 15), none⟩,
    ⟨(some 17), .mov (.tmp 6), (some (16, false))⟩,
    ⟨(some 18), .mov (.tmp 4), (some (16, false))⟩,
    ⟨(some 19), .bin .gtr (.tmp 17) (.tmp 18), (some (16, false))⟩,
    ⟨(some 20), .pick (.tmp 16) (.con (.bool true)) (.tmp 19), none⟩])
  (.cond (.tmp 20)
  (.seq (.ops [⟨(some 2), .mov (.con .nilPtr), none⟩,
    ⟨(some 3), .mov (.con (.int .i64 1)), none⟩])
  .ret)
  .skip))
  (.ops [⟨(some 21), .mov (.tmp 4), none⟩,
    ⟨(some 22), .mov (.tmp 6), none⟩,
    ⟨(some 23), .bin .sub (.tmp 21) (.tmp 22), none⟩,
    ⟨(some 4), .mov (.tmp 23), none⟩]))))
  (.ops [⟨(some 24), .bin .add (.tmp 11) (.con (.int .i64 1)), none⟩,
    ⟨(some 11), .mov (.tmp 24), none⟩]))))
def c9l1 : ACode := (.seq (.ops [⟨(some 43), .bin .lss (.tmp 42) (.tmp 41), none⟩])
  (.seq (.cond (.tmp 43)
  .skip
  (.exit 4))
  (.seq (.block 5 (.seq (.ops [⟨(some 44), .mov (.tmp 7), none⟩,
    ⟨(some 45), .mov (.tmp 8), none⟩,
    ⟨(some 46), .nilChk (.tmp 44), none⟩,
    ⟨(some 47), .fieldAddr 1 (.tmp 46), none⟩,
    ⟨(some 48), .idxAddrArr 5 1 (.tmp 47) (.tmp 45), none⟩,
    ⟨(some 49), .load false 1 (.tmp 48), none⟩,
    ⟨(some 50), .mov (.tmp 7), none⟩,
    ⟨(some 51), .nilChk (.tmp 50), none⟩,
    ⟨(some 52), .fieldAddr 0 (.tmp 51), none⟩,
    ⟨(some 53), .load false 1 (.tmp 52), none⟩,
    ⟨(some 54), .lenSlice (.tmp 53), none⟩,
    ⟨(some 55), .call 30 [(.tmp 49), (.tmp 54)], none⟩])
  (.draw [.op ⟨(some 56), .mov (.tmp 7), none⟩,
    .op ⟨(some 57), .mov (.tmp 7), none⟩,
    .op ⟨(some 58), .nilChk (.tmp 57), none⟩,
    .op ⟨(some 59), .fieldAddr 0 (.tmp 58), none⟩,
    .op ⟨(some 60), .load false 1 (.tmp 59), none⟩,
    .op ⟨(some 61), .mov (.tmp 8), none⟩,
    .op ⟨(some 62), .mov (.tmp 8), none⟩,
    .op ⟨(some 63), .call 31 [(.tmp 62)], none⟩,
    .op ⟨(some 64), .build [(.int .i64 0), (.int .i64 0), (.bool false), .nilSlice] [(0, 1, (.tmp 61)), (1, 1, (.con (.int .i64 1))), (3, 1, (.tmp 63))], none⟩,
    .op ⟨(some 65), .buildSlice 4 1 [(.int .i64 0), (.int .i64 0), (.bool false), .nilSlice] [(0, 4, (.tmp 64))], none⟩,
    .look ⟨(some 60), .load false 1 (.tmp 59), none⟩,
    .look ⟨(some 65), .buildSlice 4 1 [(.int .i64 0), (.int .i64 0), (.bool false), .nilSlice] [(0, 4, (.tmp 64))], none⟩,
    .op ⟨(some 66), .append 4 48 (.tmp 60) (.tmp 65), none⟩,
    .op ⟨(some 67), .nilChk (.tmp 56), none⟩,
    .op ⟨(some 68), .fieldAddr 0 (.tmp 67), none⟩,
    .op ⟨none, .store 1 (.tmp 68) (.tmp 66), none⟩])))
  (.ops [⟨(some 69), .bin .add (.tmp 42) (.con (.int .i64 1)), none⟩,
    ⟨(some 42), .mov (.tmp 69), none⟩]))))
def c9l2 : ACode := (.seq (.ops [⟨(some 29), .bin .lss (.tmp 28) (.con (.int .i64 5)), none⟩])
  (.seq (.cond (.tmp 29)
  .skip
  (.exit 2))
  (.seq (.block 3 (.seq (.ops [⟨(some 30), .mov (.tmp 28), none⟩,
    ⟨(some 31), .idxArr false 5 1 (.tmp 27) (.tmp 28), none⟩,
    ⟨(some 8), .mov (.tmp 30), none⟩,
    ⟨(some 9), .mov (.tmp 31), none⟩])
  (.seq (.ops [⟨(some 33), .mov (.tmp 7), none⟩,
    ⟨(some 34), .mov (.tmp 8), none⟩,
    ⟨(some 38), .nilChk (.tmp 33), none⟩,
    ⟨(some 39), .fieldAddr 1 (.tmp 38), none⟩,
    ⟨(some 35), .call 29 [(.con (.int .i64 1024))], none⟩,
    ⟨(some 32), .mov (.tmp 35), none⟩,
    ⟨(some 36), .extract (.tmp 32) 0, none⟩,
    ⟨(some 37), .extract (.tmp 32) 1, none⟩,
    ⟨(some 40), .idxAddrArr 5 1 (.tmp 39) (.tmp 34), none⟩,
    ⟨none, .store 1 (.tmp 40) (.tmp 36), none⟩])
  (.seq (.ops [⟨(some 41), .mov (.tmp 9), none⟩,
    ⟨(some 42), .mov (.con (.int .i64 0)), none⟩])
  (.block 4 (.loop c9l1))))))
  (.ops [⟨(some 70), .bin .add (.tmp 28) (.con (.int .i64 1)), none⟩,
    ⟨(some 28), .mov (.tmp 70), none⟩]))))
def c9 : ACode := (.seq (.ops [⟨(some 1), .box (.tmp 0), none⟩,
    ⟨(some 2), .mov (.con .nilPtr), none⟩,
    ⟨(some 3), .mov (.con (.int .i64 0)), none⟩])
  (.seq (.ops [⟨(some 4), .mov (.con (.int .i64 1024)), none⟩])
  (.seq (.seq (.ops [⟨(some 10), .load true 5 (.tmp 1), none⟩,
    ⟨(some 11), .mov (.con (.int .i64 0)), none⟩])
  (.block 0 (.loop c9l0)))
  (.seq (.ops [⟨(some 25), .build [.nilSlice, .nilPtr, .nilPtr, .nilPtr, .nilPtr, .nilPtr] [], none⟩,
    ⟨(some 26), .box (.tmp 25), none⟩,
    ⟨(some 7), .mov (.tmp 26), none⟩])
  (.seq (.seq (.ops [⟨(some 27), .load true 5 (.tmp 1), none⟩,
    ⟨(some 28), .mov (.con (.int .i64 0)), none⟩])
  (.block 2 (.loop c9l2)))
  (.seq (.ops [⟨(some 71), .mov (.tmp 7), none⟩,
    ⟨(some 2), .mov (.tmp 71), none⟩,
    ⟨(some 3), .mov (.con (.int .i64 0)), none⟩])
  .ret))))))
def a9 : AFunc := ⟨1, c9, [.tmp 2, .tmp 3]⟩

/- 10: (*tendril/arena.Arena).Alloc -/
def c10 : ACode := (.seq (.ops [⟨(some 6), .mov (.con (.int .i64 0)), none⟩,
    ⟨(some 7), .mov (.con (.int .i64 0)), none⟩])
  (.seq (.seq (.ops [⟨(some 11), .mov (.tmp 1), none⟩,
    ⟨(some 12), .bin .lss (.tmp 11) (.con (.int .i64 0)), none⟩,
    ⟨(some 13), .mov (.tmp 12), none⟩,
    ⟨(some 14), .mov (.tmp 1), (some (13, false))⟩,
    ⟨(some 15), .bin .geq (.tmp 14) (.con (.int .i64 5)), (some (13, false))⟩,
    ⟨(some 16), .pick (.tmp 13) (.con (.bool true)) (.tmp 15), none⟩,
    ⟨(some 17), .mov (.tmp 16), none⟩,
    ⟨(some 18), .mov (.tmp 2), (some (17, false))⟩,
    ⟨(some 19), .lenSlice (.tmp 18), (some (17, false))⟩,
    ⟨(some 20), .mov (.tmp 1), (some (17, false))⟩,
    ⟨(some 21), .call 27 [(.tmp 20)], (some (17, false))⟩,
    ⟨(some 22), .bin .gtr (.tmp 19) (.tmp 21), (some (17, false))⟩,
    ⟨(some 23), .pick (.tmp 17) (.con (.bool true)) (.tmp 22), none⟩])
  (.cond (.tmp 23)
  (.seq (.ops [⟨(some 6), .mov (.con (.int .i64 0)), none⟩,
    ⟨(some 7), .mov (.con (.int .i64 1)), none⟩])
  .ret)
  .skip))
  (.seq (.ops [⟨(some 25), .mov (.tmp 0), none⟩,
    ⟨(some 26), .mov (.tmp 1), none⟩,
    ⟨(some 27), .nilChk (.tmp 25), none⟩,
    ⟨(some 28), .fieldAddr 1 (.tmp 27), none⟩,
    ⟨(some 29), .idxAddrArr 5 1 (.tmp 28) (.tmp 26), none⟩,
    ⟨(some 30), .load false 1 (.tmp 29), none⟩,
    ⟨(some 31), .call 32 [(.tmp 30)], none⟩,
    ⟨(some 24), .mov (.tmp 31), none⟩,
    ⟨(some 32), .extract (.tmp 24) 0, none⟩,
    ⟨(some 33), .extract (.tmp 24) 1, none⟩,
    ⟨(some 8), .mov (.tmp 32), none⟩,
    ⟨(some 9), .mov (.tmp 33), none⟩])
  (.seq (.seq (.ops [⟨(some 34), .mov (.tmp 9), none⟩,
    ⟨(some 35), .un .not (.tmp 34), none⟩])
  (.cond (.tmp 35)
  (.seq (.ops [⟨(some 6), .mov (.con (.int .i64 0)), none⟩,
    ⟨(some 7), .mov (.con (.int .i64 2)), none⟩])
  .ret)
  .skip))
  (.seq (.ops [⟨(some 36), .mov (.tmp 0), none⟩,
    ⟨(some 37), .nilChk (.tmp 36), none⟩,
    ⟨(some 38), .fieldAddr 0 (.tmp 37), none⟩,
    ⟨(some 39), .load false 1 (.tmp 38), none⟩,
    ⟨(some 40), .mov (.tmp 8), none⟩,
    ⟨(some 41), .idxAddr 4 (.tmp 39) (.tmp 40), none⟩,
    ⟨(some 10), .mov (.tmp 41), none⟩])
  (.seq (.ops [⟨(some 42), .mov (.tmp 10), none⟩,
    ⟨(some 43), .nilChk (.tmp 42), none⟩,
    ⟨(some 44), .fieldAddr 2 (.tmp 43), none⟩,
    ⟨none, .store 1 (.tmp 44) (.con (.bool true)), none⟩])
  (.seq (.ops [⟨(some 45), .mov (.tmp 10), none⟩,
    ⟨(some 46), .mov (.tmp 2), none⟩,
    ⟨(some 47), .call 33 [(.tmp 45), (.tmp 46)], none⟩])
  (.seq (.ops [⟨(some 48), .mov (.tmp 8), none⟩,
    ⟨(some 49), .mov (.tmp 10), none⟩,
    ⟨(some 50), .nilChk (.tmp 49), none⟩,
    ⟨(some 51), .fieldAddr 1 (.tmp 50), none⟩,
    ⟨(some 52), .load false 1 (.tmp 51), none⟩,
    ⟨(some 53), .mov (.tmp 1), none⟩,
    ⟨(some 54), .bin .eql (.tmp 53) (.con (.int .i64 0)), none⟩,
    ⟨(some 55), .call 18 [(.tmp 48), (.tmp 52), (.tmp 54)], none⟩,
    ⟨(some 6), .mov (.tmp 55), none⟩,
    ⟨(some 7), .mov (.con (.int .i64 0)), none⟩])
  .ret))))))))
def a10 : AFunc := ⟨3, c10, [.tmp 6, .tmp 7]⟩

/- 11: (*tendril/arena.Arena).Load -/
def c11 : ACode := (.seq (.ops [⟨(some 4), .mov (.con .nilSlice), none⟩,
    ⟨(some 5), .mov (.con (.int .i64 0)), none⟩])
  (.seq (.ops [⟨(some 9), .mov (.tmp 0), none⟩,
    ⟨(some 10), .mov (.tmp 1), none⟩,
    ⟨(some 11), .call 34 [(.tmp 9), (.tmp 10)], none⟩,
    ⟨(some 8), .mov (.tmp 11), none⟩,
    ⟨(some 12), .extract (.tmp 8) 0, none⟩,
    ⟨(some 13), .extract (.tmp 8) 1, none⟩,
    ⟨(some 6), .mov (.tmp 12), none⟩,
    ⟨(some 7), .mov (.tmp 13), none⟩])
  (.seq (.seq (.ops [⟨(some 14), .mov (.tmp 7), none⟩,
    ⟨(some 15), .bin .neq (.tmp 14) (.con (.int .i64 0)), none⟩])
  (.cond (.tmp 15)
  (.seq (.ops [⟨(some 16), .mov (.tmp 7), none⟩,
    ⟨(some 4), .mov (.con .nilSlice), none⟩,
    ⟨(some 5), .mov (.tmp 16), none⟩])
  .ret)
  .skip))
  (.seq (.ops [⟨(some 17), .mov (.tmp 6), none⟩,
    ⟨(some 18), .nilChk (.tmp 17), none⟩,
    ⟨(some 19), .fieldAddr 3 (.tmp 18), none⟩,
    ⟨(some 20), .load false 1 (.tmp 19), none⟩,
    ⟨(some 21), .call 35 [(.tmp 20)], none⟩,
    ⟨(some 4), .mov (.tmp 21), none⟩,
    ⟨(some 5), .mov (.con (.int .i64 0)), none⟩])
  .ret))))
def a11 : AFunc := ⟨2, c11, [.tmp 4, .tmp 5]⟩

/- 12: (*tendril/arena.Arena).Free -/
def c12 : ACode := (.seq (.ops [⟨(some 4), .mov (.con (.int .i64 0)), none⟩])
  (.seq (.ops [⟨(some 12), .mov (.tmp 0), none⟩,
    ⟨(some 13), .mov (.tmp 1), none⟩,
    ⟨(some 14), .call 34 [(.tmp 12), (.tmp 13)], none⟩,
    ⟨(some 11), .mov (.tmp 14), none⟩,
    ⟨(some 15), .extract (.tmp 11) 0, none⟩,
    ⟨(some 16), .extract (.tmp 11) 1, none⟩,
    ⟨(some 5), .mov (.tmp 15), none⟩,
    ⟨(some 6), .mov (.tmp 16), none⟩])
  (.seq (.seq (.ops [⟨(some 17), .mov (.tmp 6), none⟩,
    ⟨(some 18), .bin .neq (.tmp 17) (.con (.int .i64 0)), none⟩])
  (.cond (.tmp 18)
  (.seq (.ops [⟨(some 19), .mov (.tmp 6), none⟩,
    ⟨(some 4), .mov (.tmp 19), none⟩])
  .ret)
  .skip))
  (.seq (.ops [⟨(some 20), .mov (.tmp 5), none⟩,
    ⟨(some 21), .mov (.tmp 5), none⟩,
    ⟨(some 22), .nilChk (.tmp 21), none⟩,
    ⟨(some 23), .fieldAddr 0 (.tmp 22), none⟩,
    ⟨(some 24), .load false 1 (.tmp 23), none⟩,
    ⟨(some 25), .call 31 [(.tmp 24)], none⟩,
    ⟨(some 26), .nilChk (.tmp 20), none⟩,
    ⟨(some 27), .fieldAddr 3 (.tmp 26), none⟩,
    ⟨none, .store 1 (.tmp 27) (.tmp 25), none⟩])
  (.seq (.ops [⟨(some 28), .mov (.tmp 5), none⟩,
    ⟨(some 29), .nilChk (.tmp 28), none⟩,
    ⟨(some 30), .fieldAddr 1 (.tmp 29), none⟩,
    ⟨(some 31), .load false 1 (.tmp 30), none⟩,
    ⟨(some 32), .bin .add (.tmp 31) (.con (.int .i64 1)), none⟩,
    ⟨(some 33), .nilChk (.tmp 28), none⟩,
    ⟨(some 34), .fieldAddr 1 (.tmp 33), none⟩,
    ⟨none, .store 1 (.tmp 34) (.tmp 32), none⟩])
  (.seq (.ops [⟨(some 35), .mov (.tmp 5), none⟩,
    ⟨(some 36), .nilChk (.tmp 35), none⟩,
    ⟨(some 37), .fieldAddr 2 (.tmp 36), none⟩,
    ⟨none, .store 1 (.tmp 37) (.con (.bool false)), none⟩])
  (.seq (.seq (.ops [⟨(some 39), .mov (.tmp 1), none⟩,
    ⟨(some 40), .call 36 [(.tmp 39)], none⟩,
    ⟨(some 38), .mov (.tmp 40), none⟩,
    ⟨(some 41), .extract (.tmp 38) 0, none⟩,
    ⟨(some 42), .extract (.tmp 38) 1, none⟩,
    ⟨(some 43), .extract (.tmp 38) 2, none⟩,
    ⟨(some 44), .extract (.tmp 38) 3, none⟩,
    ⟨(some 7), .mov (.tmp 41), none⟩,
    ⟨(some 8), .mov (.tmp 42), none⟩,
    ⟨(some 9), .mov (.tmp 43), none⟩,
    ⟨(some 10), .mov (.tmp 44), none⟩])
  (.seq (.ops [⟨(some 45), .mov (.tmp 5), none⟩,
    ⟨(some 46), .nilChk (.tmp 45), none⟩,
    ⟨(some 47), .fieldAddr 1 (.tmp 46), none⟩,
    ⟨(some 48), .load false 1 (.tmp 47), none⟩,
    ⟨(some 49), .bin .leq (.tmp 48) (.con (.int .i64 1073741824)), none⟩])
  (.cond (.tmp 49)
  (.ops [⟨(some 50), .mov (.tmp 0), none⟩,
    ⟨(some 51), .mov (.tmp 5), none⟩,
    ⟨(some 52), .nilChk (.tmp 51), none⟩,
    ⟨(some 53), .fieldAddr 0 (.tmp 52), none⟩,
    ⟨(some 54), .load false 1 (.tmp 53), none⟩,
    ⟨(some 55), .nilChk (.tmp 50), none⟩,
    ⟨(some 56), .fieldAddr 1 (.tmp 55), none⟩,
    ⟨(some 57), .idxAddrArr 5 1 (.tmp 56) (.tmp 54), none⟩,
    ⟨(some 58), .load false 1 (.tmp 57), none⟩,
    ⟨(some 59), .mov (.tmp 7), none⟩,
    ⟨(some 60), .call 30 [(.tmp 58), (.tmp 59)], none⟩])
  .skip)))
  (.seq (.ops [⟨(some 4), .mov (.con (.int .i64 0)), none⟩])
  .ret))))))))
def a12 : AFunc := ⟨2, c12, [.tmp 4]⟩

/- 13: tendril/tendrilbook.Same[uint64] -/
def c13l0 : ACode := (.seq (.seq (.ops [⟨(some 11), .mov (.tmp 5), none⟩,
    ⟨(some 12), .mov (.tmp 0), none⟩,
    ⟨(some 13), .lenSlice (.tmp 12), none⟩,
    ⟨(some 14), .bin .lss (.tmp 11) (.tmp 13), none⟩])
  (.cond (.tmp 14)
  .skip
  (.exit 0)))
  (.seq (.block 1 (.seq (.ops [⟨(some 17), .mov (.tmp 0), none⟩,
    ⟨(some 18), .mov (.tmp 5), none⟩,
    ⟨(some 19), .idxAddr 1 (.tmp 17) (.tmp 18), none⟩,
    ⟨(some 20), .load false 1 (.tmp 19), none⟩,
    ⟨(some 21), .mov (.tmp 1), none⟩,
    ⟨(some 22), .mov (.tmp 5), none⟩,
    ⟨(some 23), .idxAddr 1 (.tmp 21) (.tmp 22), none⟩,
    ⟨(some 24), .load false 1 (.tmp 23), none⟩,
    ⟨(some 25), .bin .neq (.tmp 20) (.tmp 24), none⟩])
  (.cond (.tmp 25)
  (.seq (.ops [⟨(some 4), .mov (.con (.bool false)), none⟩])
  .ret)
  .skip)))
  (.ops [⟨(some 15), .mov (.tmp 5), none⟩,
    ⟨(some 16), .bin .add (.tmp 15) (.con (.int .i64 1)), none⟩,
    ⟨(some 5), .mov (.tmp 16), none⟩])))
def c13 : ACode := (.seq (.ops [⟨(some 4), .mov (.con (.bool false)), none⟩])
  (.seq (.seq (.ops [⟨(some 6), .mov (.tmp 0), none⟩,
    ⟨(some 7), .lenSlice (.tmp 6), none⟩,
    ⟨(some 8), .mov (.tmp 1), none⟩,
    ⟨(some 9), .lenSlice (.tmp 8), none⟩,
    ⟨(some 10), .bin .neq (.tmp 7) (.tmp 9), none⟩])
  (.cond (.tmp 10)
  (.seq (.ops [⟨(some 4), .mov (.con (.bool false)), none⟩])
  .ret)
  .skip))
  (.seq (.seq (.ops [⟨(some 5), .mov (.con (.int .i64 0)), none⟩])
  (.block 0 (.loop c13l0)))
  (.seq (.ops [⟨(some 4), .mov (.con (.bool true)), none⟩])
  .ret))))
def a13 : AFunc := ⟨2, c13, [.tmp 4]⟩

/- 14: tendril/tendrilbook.Within -/
def c14 : ACode := (.seq (.ops [⟨(some 6), .mov (.con (.int .i64 0)), none⟩])
  (.seq (.ops [⟨(some 7), .mov (.tmp 0), none⟩,
    ⟨(some 8), .mov (.tmp 2), none⟩,
    ⟨(some 9), .mov (.tmp 1), none⟩,
    ⟨(some 10), .bin .sub (.tmp 8) (.tmp 9), none⟩,
    ⟨(some 11), .bin .add (.tmp 10) (.con (.int .i64 1)), none⟩,
    ⟨(some 12), .bin .rem (.tmp 7) (.tmp 11), none⟩,
    ⟨(some 0), .mov (.tmp 12), none⟩])
  (.seq (.seq (.ops [⟨(some 13), .mov (.tmp 0), none⟩,
    ⟨(some 14), .bin .lss (.tmp 13) (.con (.int .i64 0)), none⟩])
  (.cond (.tmp 14)
  (.ops [⟨(some 15), .mov (.tmp 0), none⟩,
    ⟨(some 16), .mov (.tmp 2), none⟩,
    ⟨(some 17), .bin .add (.tmp 15) (.tmp 16), none⟩,
    ⟨(some 18), .mov (.tmp 1), none⟩,
    ⟨(some 19), .bin .sub (.tmp 17) (.tmp 18), none⟩,
    ⟨(some 20), .bin .add (.tmp 19) (.con (.int .i64 1)), none⟩,
    ⟨(some 0), .mov (.tmp 20), none⟩])
  .skip))
  (.seq (.ops [⟨(some 21), .mov (.tmp 1), none⟩,
    ⟨(some 22), .mov (.tmp 0), none⟩,
    ⟨(some 23), .bin .add (.tmp 21) (.tmp 22), none⟩,
    ⟨(some 6), .mov (.tmp 23), none⟩])
  .ret))))
def a14 : AFunc := ⟨3, c14, [.tmp 6]⟩

/- 15: (*tendril/arena.Arena).Swap -/
def c15 : ACode := (.seq (.ops [⟨(some 8), .mov (.con (.bool false)), none⟩,
    ⟨(some 9), .mov (.con (.int .i64 0)), none⟩])
  (.seq (.ops [⟨(some 13), .mov (.tmp 0), none⟩,
    ⟨(some 14), .mov (.tmp 1), none⟩,
    ⟨(some 15), .call 34 [(.tmp 13), (.tmp 14)], none⟩,
    ⟨(some 12), .mov (.tmp 15), none⟩,
    ⟨(some 16), .extract (.tmp 12) 0, none⟩,
    ⟨(some 17), .extract (.tmp 12) 1, none⟩,
    ⟨(some 10), .mov (.tmp 16), none⟩,
    ⟨(some 11), .mov (.tmp 17), none⟩])
  (.seq (.seq (.ops [⟨(some 18), .mov (.tmp 11), none⟩,
    ⟨(some 19), .bin .neq (.tmp 18) (.con (.int .i64 0)), none⟩])
  (.cond (.tmp 19)
  (.seq (.ops [⟨(some 20), .mov (.tmp 11), none⟩,
    ⟨(some 8), .mov (.con (.bool false)), none⟩,
    ⟨(some 9), .mov (.tmp 20), none⟩])
  .ret)
  .skip))
  (.seq (.seq (.ops [⟨(some 21), .mov (.tmp 3), none⟩,
    ⟨(some 22), .lenSlice (.tmp 21), none⟩,
    ⟨(some 23), .mov (.tmp 10), none⟩,
    ⟨(some 24), .nilChk (.tmp 23), none⟩,
    ⟨(some 25), .fieldAddr 3 (.tmp 24), none⟩,
    ⟨(some 26), .load false 1 (.tmp 25), none⟩,
    ⟨(some 27), .lenSlice (.tmp 26), none⟩,
    ⟨(some 28), .bin .gtr (.tmp 22) (.tmp 27), none⟩])
  (.cond (.tmp 28)
  (.seq (.ops [⟨(some 8), .mov (.con (.bool false)), none⟩,
    ⟨(some 9), .mov (.con (.int .i64 1)), none⟩])
  .ret)
  .skip))
  (.seq (.seq (.ops [⟨(some 29), .mov (.tmp 10), none⟩,
    ⟨(some 30), .nilChk (.tmp 29), none⟩,
    ⟨(some 31), .fieldAddr 3 (.tmp 30), none⟩,
    ⟨(some 32), .load false 1 (.tmp 31), none⟩,
    ⟨(some 33), .idxAddr 1 (.tmp 32) (.con (.int .i64 0)), none⟩,
    ⟨(some 34), .load false 1 (.tmp 33), none⟩,
    ⟨(some 35), .mov (.tmp 2), none⟩,
    ⟨(some 36), .bin .neq (.tmp 34) (.tmp 35), none⟩])
  (.cond (.tmp 36)
  (.seq (.ops [⟨(some 8), .mov (.con (.bool false)), none⟩,
    ⟨(some 9), .mov (.con (.int .i64 0)), none⟩])
  .ret)
  .skip))
  (.seq (.ops [⟨(some 37), .mov (.tmp 10), none⟩,
    ⟨(some 38), .mov (.tmp 3), none⟩,
    ⟨(some 39), .call 33 [(.tmp 37), (.tmp 38)], none⟩])
  (.seq (.ops [⟨(some 8), .mov (.con (.bool true)), none⟩,
    ⟨(some 9), .mov (.con (.int .i64 0)), none⟩])
  .ret)))))))
def a15 : AFunc := ⟨4, c15, [.tmp 8, .tmp 9]⟩

/- 16: (*tendril/arena.Arena).Live -/
def c16l0 : ACode := (.seq (.ops [⟨(some 11), .bin .lss (.tmp 10) (.con (.int .i64 5)), none⟩])
  (.seq (.cond (.tmp 11)
  .skip
  (.exit 0))
  (.seq (.block 1 (.seq (.ops [⟨(some 12), .mov (.tmp 10), none⟩,
    ⟨(some 4), .mov (.tmp 12), none⟩])
  (.ops [⟨(some 13), .mov (.tmp 3), none⟩,
    ⟨(some 14), .mov (.tmp 0), none⟩,
    ⟨(some 15), .mov (.tmp 4), none⟩,
    ⟨(some 16), .call 17 [(.tmp 14), (.tmp 15)], none⟩,
    ⟨(some 17), .bin .sub (.tmp 13) (.tmp 16), none⟩,
    ⟨(some 3), .mov (.tmp 17), none⟩])))
  (.ops [⟨(some 18), .bin .add (.tmp 10) (.con (.int .i64 1)), none⟩,
    ⟨(some 10), .mov (.tmp 18), none⟩]))))
def c16 : ACode := (.seq (.ops [⟨(some 2), .mov (.con (.int .i64 0)), none⟩])
  (.seq (.ops [⟨(some 5), .mov (.tmp 0), none⟩,
    ⟨(some 6), .nilChk (.tmp 5), none⟩,
    ⟨(some 7), .fieldAddr 0 (.tmp 6), none⟩,
    ⟨(some 8), .load false 1 (.tmp 7), none⟩,
    ⟨(some 9), .lenSlice (.tmp 8), none⟩,
    ⟨(some 3), .mov (.tmp 9), none⟩])
  (.seq (.seq (.ops [⟨(some 10), .mov (.con (.int .i64 0)), none⟩])
  (.block 0 (.loop c16l0)))
  (.seq (.ops [⟨(some 19), .mov (.tmp 3), none⟩,
    ⟨(some 2), .mov (.tmp 19), none⟩])
  .ret))))
def a16 : AFunc := ⟨1, c16, [.tmp 2]⟩

/- 17: (*tendril/arena.Arena).Room -/
def c17 : ACode := (.seq (.ops [⟨(some 4), .mov (.con (.int .i64 0)), none⟩])
  (.seq (.seq (.ops [⟨(some 5), .mov (.tmp 1), none⟩,
    ⟨(some 6), .bin .lss (.tmp 5) (.con (.int .i64 0)), none⟩,
    ⟨(some 7), .mov (.tmp 6), none⟩,
    ⟨(some 8), .mov (.tmp 1), (some (7, false))⟩,
    ⟨(some 9), .bin .geq (.tmp 8) (.con (.int .i64 5)), (some (7, false))⟩,
    ⟨(some 10), .pick (.tmp 7) (.con (.bool true)) (.tmp 9), none⟩])
  (.cond (.tmp 10)
  (.seq (.ops [⟨(some 4), .mov (.con (.int .i64 0)), none⟩])
  .ret)
  .skip))
  (.seq (.ops [⟨(some 11), .mov (.tmp 0), none⟩,
    ⟨(some 12), .mov (.tmp 1), none⟩,
    ⟨(some 13), .nilChk (.tmp 11), none⟩,
    ⟨(some 14), .fieldAddr 1 (.tmp 13), none⟩,
    ⟨(some 15), .idxAddrArr 5 1 (.tmp 14) (.tmp 12), none⟩,
    ⟨(some 16), .load false 1 (.tmp 15), none⟩,
    ⟨(some 17), .call 37 [(.tmp 16)], none⟩,
    ⟨(some 4), .mov (.tmp 17), none⟩])
  .ret)))
def a17 : AFunc := ⟨2, c17, [.tmp 4]⟩

/- 18: tendril/word.Ref -/
def c18 : ACode := (.seq (.ops [⟨(some 6), .mov (.con (.int .i64 0)), none⟩])
  (.seq (.seq (.ops [⟨(some 8), .mov (.tmp 0), none⟩,
    ⟨(some 9), .bin .lss (.tmp 8) (.con (.int .i64 0)), none⟩,
    ⟨(some 10), .mov (.tmp 9), none⟩,
    ⟨(some 11), .mov (.tmp 0), (some (10, false))⟩,
    ⟨(some 12), .bin .geq (.tmp 11) (.con (.int .i64 1024)), (some (10, false))⟩,
    ⟨(some 13), .pick (.tmp 10) (.con (.bool true)) (.tmp 12), none⟩,
    ⟨(some 14), .mov (.tmp 13), none⟩,
    ⟨(some 15), .mov (.tmp 1), (some (14, false))⟩,
    ⟨(some 16), .bin .lss (.tmp 15) (.con (.int .i64 1)), (some (14, false))⟩,
    ⟨(some 17), .pick (.tmp 14) (.con (.bool true)) (.tmp 16), none⟩,
    ⟨(some 18), .mov (.tmp 17), none⟩,
    ⟨(some 19), .mov (.tmp 1), (some (18, false))⟩,
    ⟨(some 20), .bin .gtr (.tmp 19) (.con (.int .i64 1073741824)), (some (18, false))⟩,
    ⟨(some 21), .pick (.tmp 18) (.con (.bool true)) (.tmp 20), none⟩])
  (.cond (.tmp 21)
  (.seq (.ops [⟨(some 6), .mov (.con (.int .i64 0)), none⟩])
  .ret)
  .skip))
  (.seq (.ops [⟨(some 22), .mov (.tmp 1), none⟩,
    ⟨(some 23), .bin .shl (.tmp 22) (.con (.int .u64 16)), none⟩,
    ⟨(some 24), .mov (.tmp 0), none⟩,
    ⟨(some 25), .bin .or (.tmp 23) (.tmp 24), none⟩,
    ⟨(some 7), .mov (.tmp 25), none⟩])
  (.seq (.seq (.ops [⟨(some 26), .mov (.tmp 2), none⟩])
  (.cond (.tmp 26)
  (.ops [⟨(some 27), .mov (.tmp 7), none⟩,
    ⟨(some 28), .bin .or (.tmp 27) (.con (.int .i64 281474976710656)), none⟩,
    ⟨(some 7), .mov (.tmp 28), none⟩])
  .skip))
  (.seq (.ops [⟨(some 29), .mov (.tmp 7), none⟩,
    ⟨(some 6), .mov (.tmp 29), none⟩])
  .ret)))))
def a18 : AFunc := ⟨3, c18, [.tmp 6]⟩

/- 19: tendril/tendrillaw4.counts -/
def c19l0 : ACode := (.seq (.ops [⟨(some 5), .bin .lss (.tmp 4) (.con (.int .i64 5)), none⟩])
  (.seq (.cond (.tmp 5)
  .skip
  (.exit 0))
  (.seq (.block 1 (.seq (.ops [⟨(some 6), .mov (.tmp 4), none⟩,
    ⟨(some 3), .mov (.tmp 6), none⟩])
  (.ops [⟨(some 7), .mov (.tmp 3), none⟩,
    ⟨(some 8), .mov (.tmp 3), none⟩,
    ⟨(some 9), .idxAddrArr 5 1 (.tmp 1) (.tmp 8), none⟩,
    ⟨(some 10), .load false 1 (.tmp 9), none⟩,
    ⟨(some 11), .call 14 [(.tmp 10), (.con (.int .i64 0)), (.con (.int .i64 5))], none⟩,
    ⟨(some 12), .idxAddrArr 5 1 (.tmp 1) (.tmp 7), none⟩,
    ⟨none, .store 1 (.tmp 12) (.tmp 11), none⟩])))
  (.ops [⟨(some 13), .bin .add (.tmp 4) (.con (.int .i64 1)), none⟩,
    ⟨(some 4), .mov (.tmp 13), none⟩]))))
def c19 : ACode := (.seq (.ops [⟨(some 1), .box (.tmp 0), none⟩,
    ⟨(some 2), .new [(.int .i64 0), (.int .i64 0), (.int .i64 0), (.int .i64 0), (.int .i64 0)], none⟩])
  (.seq (.seq (.ops [⟨(some 4), .mov (.con (.int .i64 0)), none⟩])
  (.block 0 (.loop c19l0)))
  (.seq (.ops [⟨(some 14), .load true 5 (.tmp 1), none⟩,
    ⟨none, .store 5 (.tmp 2) (.tmp 14), none⟩])
  .ret)))
def a19 : AFunc := ⟨1, c19, [.cell 2 true 5]⟩

/- 20: tendril/tendrilref1.NewArena -/
def c20l0 : ACode := (.seq (.ops [⟨(some 13), .bin .lss (.tmp 12) (.con (.int .i64 5)), none⟩])
  (.seq (.cond (.tmp 13)
  .skip
  (.exit 0))
  (.seq (.block 1 (.seq (.ops [⟨(some 14), .idxArr false 5 1 (.tmp 11) (.tmp 12), none⟩,
    ⟨(some 6), .mov (.tmp 14), none⟩])
  (.seq (.seq (.ops [⟨(some 15), .mov (.tmp 6), none⟩,
    ⟨(some 16), .bin .lss (.tmp 15) (.con (.int .i64 0)), none⟩,
    ⟨(some 17), .mov (.tmp 16), none⟩,
    ⟨(some 18), .mov (.tmp 6), (some (17, false))⟩,
    ⟨(some 19), .bin .gtr (.tmp 18) (.con (.int .i64 1024)), (some (17, false))⟩,
    ⟨(some 20), .pick (.tmp 17) (.con (.bool true)) (.tmp 19), none⟩])
  (.cond (.tmp 20)
  (.seq (.ops [⟨(some 2), .mov (.con .nilPtr), none⟩,
    ⟨(some 3), .mov (.con (.int .i64 1)), none⟩])
  .ret)
  .skip))
  (.ops [⟨(some 21), .mov (.tmp 4), none⟩,
    ⟨(some 22), .mov (.tmp 6), none⟩,
    ⟨(some 23), .bin .add (.tmp 21) (.tmp 22), none⟩,
    ⟨(some 4), .mov (.tmp 23), none⟩]))))
  (.ops [⟨(some 24), .bin .add (.tmp 12) (.con (.int .i64 1)), none⟩,
    ⟨(some 12), .mov (.tmp 24), none⟩]))))
def c20l1 : ACode := (.seq (.seq (.ops [⟨(some 41), .mov (.tmp 10), none⟩,
    ⟨(some 42), .mov (.tmp 9), none⟩,
    ⟨(some 43), .bin .lss (.tmp 41) (.tmp 42), none⟩])
  (.cond (.tmp 43)
  .skip
  (.exit 4)))
  (.seq (.block 5 (.seq (.ops [⟨(some 46), .mov (.tmp 7), none⟩,
    ⟨(some 47), .mov (.tmp 8), none⟩,
    ⟨(some 48), .nilChk (.tmp 46), none⟩,
    ⟨(some 49), .fieldAddr 1 (.tmp 48), none⟩,
    ⟨(some 50), .idxAddrArr 5 2 (.tmp 49) (.tmp 47), none⟩,
    ⟨(some 51), .mov (.tmp 7), none⟩,
    ⟨(some 52), .nilChk (.tmp 51), none⟩,
    ⟨(some 53), .fieldAddr 0 (.tmp 52), none⟩,
    ⟨(some 54), .load false 1 (.tmp 53), none⟩,
    ⟨(some 55), .lenSlice (.tmp 54), none⟩,
    ⟨(some 56), .call 38 [(.tmp 50), (.tmp 55)], none⟩])
  (.draw [.op ⟨(some 57), .mov (.tmp 7), none⟩,
    .op ⟨(some 58), .mov (.tmp 7), none⟩,
    .op ⟨(some 59), .nilChk (.tmp 58), none⟩,
    .op ⟨(some 60), .fieldAddr 0 (.tmp 59), none⟩,
    .op ⟨(some 61), .load false 1 (.tmp 60), none⟩,
    .op ⟨(some 62), .mov (.tmp 8), none⟩,
    .op ⟨(some 63), .mov (.tmp 8), none⟩,
    .op ⟨(some 64), .call 39 [(.tmp 63)], none⟩,
    .op ⟨(some 65), .build [(.int .i64 0), (.int .i64 0), (.bool false), .nilSlice] [(0, 1, (.tmp 62)), (1, 1, (.con (.int .i64 1))), (3, 1, (.tmp 64))], none⟩,
    .op ⟨(some 66), .buildSlice 4 1 [(.int .i64 0), (.int .i64 0), (.bool false), .nilSlice] [(0, 4, (.tmp 65))], none⟩,
    .look ⟨(some 61), .load false 1 (.tmp 60), none⟩,
    .look ⟨(some 66), .buildSlice 4 1 [(.int .i64 0), (.int .i64 0), (.bool false), .nilSlice] [(0, 4, (.tmp 65))], none⟩,
    .op ⟨(some 67), .append 4 48 (.tmp 61) (.tmp 66), none⟩,
    .op ⟨(some 68), .nilChk (.tmp 57), none⟩,
    .op ⟨(some 69), .fieldAddr 0 (.tmp 68), none⟩,
    .op ⟨none, .store 1 (.tmp 69) (.tmp 67), none⟩])))
  (.ops [⟨(some 44), .mov (.tmp 10), none⟩,
    ⟨(some 45), .bin .add (.tmp 44) (.con (.int .i64 1)), none⟩,
    ⟨(some 10), .mov (.tmp 45), none⟩])))
def c20l2 : ACode := (.seq (.ops [⟨(some 31), .bin .lss (.tmp 30) (.con (.int .i64 5)), none⟩])
  (.seq (.cond (.tmp 31)
  .skip
  (.exit 2))
  (.seq (.block 3 (.seq (.ops [⟨(some 32), .mov (.tmp 30), none⟩,
    ⟨(some 33), .idxArr false 5 1 (.tmp 29) (.tmp 30), none⟩,
    ⟨(some 8), .mov (.tmp 32), none⟩,
    ⟨(some 9), .mov (.tmp 33), none⟩])
  (.seq (.ops [⟨(some 34), .mov (.tmp 7), none⟩,
    ⟨(some 35), .mov (.tmp 8), none⟩,
    ⟨(some 36), .mov (.tmp 4), none⟩,
    ⟨(some 37), .nilChk (.tmp 34), none⟩,
    ⟨(some 38), .fieldAddr 1 (.tmp 37), none⟩,
    ⟨(some 39), .idxAddrArr 5 2 (.tmp 38) (.tmp 35), none⟩,
    ⟨(some 40), .fieldAddr 0 (.tmp 39), none⟩,
    ⟨none, .store 1 (.tmp 40) (.tmp 36), none⟩])
  (.seq (.ops [⟨(some 10), .mov (.con (.int .i64 0)), none⟩])
  (.block 4 (.loop c20l1))))))
  (.ops [⟨(some 70), .bin .add (.tmp 30) (.con (.int .i64 1)), none⟩,
    ⟨(some 30), .mov (.tmp 70), none⟩]))))
def c20 : ACode := (.seq (.ops [⟨(some 1), .box (.tmp 0), none⟩,
    ⟨(some 2), .mov (.con .nilPtr), none⟩,
    ⟨(some 3), .mov (.con (.int .i64 0)), none⟩])
  (.seq (.ops [⟨(some 4), .mov (.con (.int .i64 0)), none⟩])
  (.seq (.seq (.ops [⟨(some 11), .load true 5 (.tmp 1), none⟩,
    ⟨(some 12), .mov (.con (.int .i64 0)), none⟩])
  (.block 0 (.loop c20l0)))
  (.seq (.seq (.ops [⟨(some 25), .mov (.tmp 4), none⟩,
    ⟨(some 26), .bin .gtr (.tmp 25) (.con (.int .i64 1024)), none⟩])
  (.cond (.tmp 26)
  (.seq (.ops [⟨(some 2), .mov (.con .nilPtr), none⟩,
    ⟨(some 3), .mov (.con (.int .i64 1)), none⟩])
  .ret)
  .skip))
  (.seq (.ops [⟨(some 27), .build [.nilSlice, (.int .i64 0), .nilSlice, (.int .i64 0), .nilSlice, (.int .i64 0), .nilSlice, (.int .i64 0), .nilSlice, (.int .i64 0), .nilSlice] [], none⟩,
    ⟨(some 28), .box (.tmp 27), none⟩,
    ⟨(some 7), .mov (.tmp 28), none⟩])
  (.seq (.seq (.ops [⟨(some 29), .load true 5 (.tmp 1), none⟩,
    ⟨(some 30), .mov (.con (.int .i64 0)), none⟩])
  (.block 2 (.loop c20l2)))
  (.seq (.ops [⟨(some 71), .mov (.tmp 7), none⟩,
    ⟨(some 2), .mov (.tmp 71), none⟩,
    ⟨(some 3), .mov (.con (.int .i64 0)), none⟩])
  .ret)))))))
def a20 : AFunc := ⟨1, c20, [.tmp 2, .tmp 3]⟩

/- 21: (*tendril/tendrilref1.Arena).Load -/
def c21 : ACode := (.seq (.ops [⟨(some 4), .mov (.con .nilSlice), none⟩,
    ⟨(some 5), .mov (.con (.int .i64 0)), none⟩])
  (.seq (.ops [⟨(some 9), .mov (.tmp 0), none⟩,
    ⟨(some 10), .mov (.tmp 1), none⟩,
    ⟨(some 11), .call 40 [(.tmp 9), (.tmp 10)], none⟩,
    ⟨(some 8), .mov (.tmp 11), none⟩,
    ⟨(some 12), .extract (.tmp 8) 0, none⟩,
    ⟨(some 13), .extract (.tmp 8) 1, none⟩,
    ⟨(some 6), .mov (.tmp 12), none⟩,
    ⟨(some 7), .mov (.tmp 13), none⟩])
  (.seq (.seq (.ops [⟨(some 14), .mov (.tmp 7), none⟩,
    ⟨(some 15), .bin .neq (.tmp 14) (.con (.int .i64 0)), none⟩])
  (.cond (.tmp 15)
  (.seq (.ops [⟨(some 16), .mov (.tmp 7), none⟩,
    ⟨(some 4), .mov (.con .nilSlice), none⟩,
    ⟨(some 5), .mov (.tmp 16), none⟩])
  .ret)
  .skip))
  (.seq (.ops [⟨(some 17), .buildSlice 1 0 [] [], none⟩,
    ⟨(some 18), .mov (.tmp 0), none⟩,
    ⟨(some 19), .nilChk (.tmp 18), none⟩,
    ⟨(some 20), .fieldAddr 0 (.tmp 19), none⟩,
    ⟨(some 21), .load false 1 (.tmp 20), none⟩,
    ⟨(some 22), .mov (.tmp 6), none⟩,
    ⟨(some 23), .idxAddr 4 (.tmp 21) (.tmp 22), none⟩,
    ⟨(some 24), .fieldAddr 3 (.tmp 23), none⟩,
    ⟨(some 25), .load false 1 (.tmp 24), none⟩,
    ⟨(some 26), .append 1 8 (.tmp 17) (.tmp 25), none⟩,
    ⟨(some 4), .mov (.tmp 26), none⟩,
    ⟨(some 5), .mov (.con (.int .i64 0)), none⟩])
  .ret))))
def a21 : AFunc := ⟨2, c21, [.tmp 4, .tmp 5]⟩

/- 22: (*tendril/tendrilref1.Arena).Alloc -/
def c22 : ACode := (.seq (.ops [⟨(some 6), .mov (.con (.int .i64 0)), none⟩,
    ⟨(some 7), .mov (.con (.int .i64 0)), none⟩])
  (.seq (.seq (.ops [⟨(some 11), .mov (.tmp 1), none⟩,
    ⟨(some 12), .bin .lss (.tmp 11) (.con (.int .i64 0)), none⟩,
    ⟨(some 13), .mov (.tmp 12), none⟩,
    ⟨(some 14), .mov (.tmp 1), (some (13, false))⟩,
    ⟨(some 15), .bin .geq (.tmp 14) (.con (.int .i64 5)), (some (13, false))⟩,
    ⟨(some 16), .pick (.tmp 13) (.con (.bool true)) (.tmp 15), none⟩,
    ⟨(some 17), .mov (.tmp 16), none⟩,
    ⟨(some 18), .mov (.tmp 2), (some (17, false))⟩,
    ⟨(some 19), .lenSlice (.tmp 18), (some (17, false))⟩,
    ⟨(some 20), .mov (.tmp 1), (some (17, false))⟩,
    ⟨(some 21), .call 28 [(.tmp 20)], (some (17, false))⟩,
    ⟨(some 22), .bin .gtr (.tmp 19) (.tmp 21), (some (17, false))⟩,
    ⟨(some 23), .pick (.tmp 17) (.con (.bool true)) (.tmp 22), none⟩])
  (.cond (.tmp 23)
  (.seq (.ops [⟨(some 6), .mov (.con (.int .i64 0)), none⟩,
    ⟨(some 7), .mov (.con (.int .i64 1)), none⟩])
  .ret)
  .skip))
  (.seq (.ops [⟨(some 25), .mov (.tmp 0), none⟩,
    ⟨(some 26), .mov (.tmp 1), none⟩,
    ⟨(some 27), .nilChk (.tmp 25), none⟩,
    ⟨(some 28), .fieldAddr 1 (.tmp 27), none⟩,
    ⟨(some 29), .idxAddrArr 5 2 (.tmp 28) (.tmp 26), none⟩,
    ⟨(some 30), .call 41 [(.tmp 29)], none⟩,
    ⟨(some 24), .mov (.tmp 30), none⟩,
    ⟨(some 31), .extract (.tmp 24) 0, none⟩,
    ⟨(some 32), .extract (.tmp 24) 1, none⟩,
    ⟨(some 8), .mov (.tmp 31), none⟩,
    ⟨(some 9), .mov (.tmp 32), none⟩])
  (.seq (.seq (.ops [⟨(some 33), .mov (.tmp 9), none⟩,
    ⟨(some 34), .un .not (.tmp 33), none⟩])
  (.cond (.tmp 34)
  (.seq (.ops [⟨(some 6), .mov (.con (.int .i64 0)), none⟩,
    ⟨(some 7), .mov (.con (.int .i64 2)), none⟩])
  .ret)
  .skip))
  (.seq (.ops [⟨(some 35), .mov (.tmp 0), none⟩,
    ⟨(some 36), .nilChk (.tmp 35), none⟩,
    ⟨(some 37), .fieldAddr 0 (.tmp 36), none⟩,
    ⟨(some 38), .load false 1 (.tmp 37), none⟩,
    ⟨(some 39), .mov (.tmp 8), none⟩,
    ⟨(some 40), .idxAddr 4 (.tmp 38) (.tmp 39), none⟩,
    ⟨(some 10), .mov (.tmp 40), none⟩])
  (.seq (.ops [⟨(some 41), .mov (.tmp 10), none⟩,
    ⟨(some 42), .mov (.tmp 10), none⟩,
    ⟨(some 43), .mov (.tmp 1), none⟩,
    ⟨(some 44), .mov (.tmp 2), none⟩,
    ⟨(some 45), .call 42 [(.tmp 43), (.tmp 44)], none⟩,
    ⟨(some 46), .nilChk (.tmp 41), none⟩,
    ⟨(some 47), .fieldAddr 2 (.tmp 46), none⟩,
    ⟨none, .store 1 (.tmp 47) (.con (.bool true)), none⟩,
    ⟨(some 48), .nilChk (.tmp 42), none⟩,
    ⟨(some 49), .fieldAddr 3 (.tmp 48), none⟩,
    ⟨none, .store 1 (.tmp 49) (.tmp 45), none⟩])
  (.seq (.ops [⟨(some 50), .mov (.tmp 8), none⟩,
    ⟨(some 51), .mov (.tmp 10), none⟩,
    ⟨(some 52), .nilChk (.tmp 51), none⟩,
    ⟨(some 53), .fieldAddr 1 (.tmp 52), none⟩,
    ⟨(some 54), .load false 1 (.tmp 53), none⟩,
    ⟨(some 55), .mov (.tmp 1), none⟩,
    ⟨(some 56), .bin .eql (.tmp 55) (.con (.int .i64 0)), none⟩,
    ⟨(some 57), .call 43 [(.tmp 50), (.tmp 54), (.tmp 56)], none⟩,
    ⟨(some 6), .mov (.tmp 57), none⟩,
    ⟨(some 7), .mov (.con (.int .i64 0)), none⟩])
  .ret)))))))
def a22 : AFunc := ⟨3, c22, [.tmp 6, .tmp 7]⟩

/- 23: (*tendril/tendrilref1.Arena).FreeSlot -/
def c23 : ACode := (.seq (.ops [⟨(some 4), .mov (.con (.int .i64 0)), none⟩])
  (.seq (.ops [⟨(some 9), .mov (.tmp 0), none⟩,
    ⟨(some 10), .mov (.tmp 1), none⟩,
    ⟨(some 11), .call 40 [(.tmp 9), (.tmp 10)], none⟩,
    ⟨(some 8), .mov (.tmp 11), none⟩,
    ⟨(some 12), .extract (.tmp 8) 0, none⟩,
    ⟨(some 13), .extract (.tmp 8) 1, none⟩,
    ⟨(some 5), .mov (.tmp 12), none⟩,
    ⟨(some 6), .mov (.tmp 13), none⟩])
  (.seq (.seq (.ops [⟨(some 14), .mov (.tmp 6), none⟩,
    ⟨(some 15), .bin .neq (.tmp 14) (.con (.int .i64 0)), none⟩])
  (.cond (.tmp 15)
  (.seq (.ops [⟨(some 16), .mov (.tmp 6), none⟩,
    ⟨(some 4), .mov (.tmp 16), none⟩])
  .ret)
  .skip))
  (.seq (.ops [⟨(some 17), .mov (.tmp 0), none⟩,
    ⟨(some 18), .nilChk (.tmp 17), none⟩,
    ⟨(some 19), .fieldAddr 0 (.tmp 18), none⟩,
    ⟨(some 20), .load false 1 (.tmp 19), none⟩,
    ⟨(some 21), .mov (.tmp 5), none⟩,
    ⟨(some 22), .idxAddr 4 (.tmp 20) (.tmp 21), none⟩,
    ⟨(some 7), .mov (.tmp 22), none⟩])
  (.seq (.ops [⟨(some 23), .mov (.tmp 7), none⟩,
    ⟨(some 24), .mov (.tmp 7), none⟩,
    ⟨(some 25), .mov (.tmp 7), none⟩,
    ⟨(some 26), .nilChk (.tmp 25), none⟩,
    ⟨(some 27), .fieldAddr 0 (.tmp 26), none⟩,
    ⟨(some 28), .load false 1 (.tmp 27), none⟩,
    ⟨(some 29), .call 39 [(.tmp 28)], none⟩,
    ⟨(some 30), .nilChk (.tmp 23), none⟩,
    ⟨(some 31), .fieldAddr 2 (.tmp 30), none⟩,
    ⟨none, .store 1 (.tmp 31) (.con (.bool false)), none⟩,
    ⟨(some 32), .nilChk (.tmp 24), none⟩,
    ⟨(some 33), .fieldAddr 3 (.tmp 32), none⟩,
    ⟨none, .store 1 (.tmp 33) (.tmp 29), none⟩])
  (.seq (.ops [⟨(some 34), .mov (.tmp 7), none⟩,
    ⟨(some 35), .nilChk (.tmp 34), none⟩,
    ⟨(some 36), .fieldAddr 1 (.tmp 35), none⟩,
    ⟨(some 37), .load false 1 (.tmp 36), none⟩,
    ⟨(some 38), .bin .add (.tmp 37) (.con (.int .i64 1)), none⟩,
    ⟨(some 39), .nilChk (.tmp 34), none⟩,
    ⟨(some 40), .fieldAddr 1 (.tmp 39), none⟩,
    ⟨none, .store 1 (.tmp 40) (.tmp 38), none⟩])
  (.seq (.seq (.ops [⟨(some 41), .mov (.tmp 7), none⟩,
    ⟨(some 42), .nilChk (.tmp 41), none⟩,
    ⟨(some 43), .fieldAddr 1 (.tmp 42), none⟩,
    ⟨(some 44), .load false 1 (.tmp 43), none⟩,
    ⟨(some 45), .bin .leq (.tmp 44) (.con (.int .i64 1073741824)), none⟩])
  (.cond (.tmp 45)
  (.ops [⟨(some 46), .mov (.tmp 0), none⟩,
    ⟨(some 47), .mov (.tmp 7), none⟩,
    ⟨(some 48), .nilChk (.tmp 47), none⟩,
    ⟨(some 49), .fieldAddr 0 (.tmp 48), none⟩,
    ⟨(some 50), .load false 1 (.tmp 49), none⟩,
    ⟨(some 51), .nilChk (.tmp 46), none⟩,
    ⟨(some 52), .fieldAddr 1 (.tmp 51), none⟩,
    ⟨(some 53), .idxAddrArr 5 2 (.tmp 52) (.tmp 50), none⟩,
    ⟨(some 54), .mov (.tmp 5), none⟩,
    ⟨(some 55), .call 38 [(.tmp 53), (.tmp 54)], none⟩])
  .skip))
  (.seq (.ops [⟨(some 4), .mov (.con (.int .i64 0)), none⟩])
  .ret))))))))
def a23 : AFunc := ⟨2, c23, [.tmp 4]⟩

/- 24: (*tendril/arena.Arena).Store -/
def c24 : ACode := (.seq (.ops [⟨(some 6), .mov (.con (.int .i64 0)), none⟩])
  (.seq (.ops [⟨(some 10), .mov (.tmp 0), none⟩,
    ⟨(some 11), .mov (.tmp 1), none⟩,
    ⟨(some 12), .call 34 [(.tmp 10), (.tmp 11)], none⟩,
    ⟨(some 9), .mov (.tmp 12), none⟩,
    ⟨(some 13), .extract (.tmp 9) 0, none⟩,
    ⟨(some 14), .extract (.tmp 9) 1, none⟩,
    ⟨(some 7), .mov (.tmp 13), none⟩,
    ⟨(some 8), .mov (.tmp 14), none⟩])
  (.seq (.seq (.ops [⟨(some 15), .mov (.tmp 8), none⟩,
    ⟨(some 16), .bin .neq (.tmp 15) (.con (.int .i64 0)), none⟩])
  (.cond (.tmp 16)
  (.seq (.ops [⟨(some 17), .mov (.tmp 8), none⟩,
    ⟨(some 6), .mov (.tmp 17), none⟩])
  .ret)
  .skip))
  (.seq (.seq (.ops [⟨(some 18), .mov (.tmp 2), none⟩,
    ⟨(some 19), .lenSlice (.tmp 18), none⟩,
    ⟨(some 20), .mov (.tmp 7), none⟩,
    ⟨(some 21), .nilChk (.tmp 20), none⟩,
    ⟨(some 22), .fieldAddr 3 (.tmp 21), none⟩,
    ⟨(some 23), .load false 1 (.tmp 22), none⟩,
    ⟨(some 24), .lenSlice (.tmp 23), none⟩,
    ⟨(some 25), .bin .gtr (.tmp 19) (.tmp 24), none⟩])
  (.cond (.tmp 25)
  (.seq (.ops [⟨(some 6), .mov (.con (.int .i64 1)), none⟩])
  .ret)
  .skip))
  (.seq (.ops [⟨(some 26), .mov (.tmp 7), none⟩,
    ⟨(some 27), .mov (.tmp 2), none⟩,
    ⟨(some 28), .call 33 [(.tmp 26), (.tmp 27)], none⟩])
  (.seq (.ops [⟨(some 6), .mov (.con (.int .i64 0)), none⟩])
  .ret))))))
def a24 : AFunc := ⟨3, c24, [.tmp 6]⟩

/- 25: (*tendril/tendrilref1.Arena).Store -/
def c25 : ACode := (.seq (.ops [⟨(some 6), .mov (.con (.int .i64 0)), none⟩])
  (.seq (.ops [⟨(some 10), .mov (.tmp 0), none⟩,
    ⟨(some 11), .mov (.tmp 1), none⟩,
    ⟨(some 12), .call 40 [(.tmp 10), (.tmp 11)], none⟩,
    ⟨(some 9), .mov (.tmp 12), none⟩,
    ⟨(some 13), .extract (.tmp 9) 0, none⟩,
    ⟨(some 14), .extract (.tmp 9) 1, none⟩,
    ⟨(some 7), .mov (.tmp 13), none⟩,
    ⟨(some 8), .mov (.tmp 14), none⟩])
  (.seq (.seq (.ops [⟨(some 15), .mov (.tmp 8), none⟩,
    ⟨(some 16), .bin .neq (.tmp 15) (.con (.int .i64 0)), none⟩])
  (.cond (.tmp 16)
  (.seq (.ops [⟨(some 17), .mov (.tmp 8), none⟩,
    ⟨(some 6), .mov (.tmp 17), none⟩])
  .ret)
  .skip))
  (.seq (.seq (.ops [⟨(some 18), .mov (.tmp 2), none⟩,
    ⟨(some 19), .lenSlice (.tmp 18), none⟩,
    ⟨(some 20), .mov (.tmp 0), none⟩,
    ⟨(some 21), .nilChk (.tmp 20), none⟩,
    ⟨(some 22), .fieldAddr 0 (.tmp 21), none⟩,
    ⟨(some 23), .load false 1 (.tmp 22), none⟩,
    ⟨(some 24), .mov (.tmp 7), none⟩,
    ⟨(some 25), .idxAddr 4 (.tmp 23) (.tmp 24), none⟩,
    ⟨(some 26), .fieldAddr 0 (.tmp 25), none⟩,
    ⟨(some 27), .load false 1 (.tmp 26), none⟩,
    ⟨(some 28), .call 28 [(.tmp 27)], none⟩,
    ⟨(some 29), .bin .gtr (.tmp 19) (.tmp 28), none⟩])
  (.cond (.tmp 29)
  (.seq (.ops [⟨(some 6), .mov (.con (.int .i64 1)), none⟩])
  .ret)
  .skip))
  (.seq (.draw [.op ⟨(some 30), .mov (.tmp 0), none⟩,
    .op ⟨(some 31), .nilChk (.tmp 30), none⟩,
    .op ⟨(some 32), .fieldAddr 0 (.tmp 31), none⟩,
    .op ⟨(some 33), .load false 1 (.tmp 32), none⟩,
    .op ⟨(some 34), .mov (.tmp 7), none⟩,
    .op ⟨(some 35), .mov (.tmp 0), none⟩,
    .op ⟨(some 36), .nilChk (.tmp 35), none⟩,
    .op ⟨(some 37), .fieldAddr 0 (.tmp 36), none⟩,
    .op ⟨(some 38), .load false 1 (.tmp 37), none⟩,
    .op ⟨(some 39), .mov (.tmp 7), none⟩,
    .op ⟨(some 40), .idxAddr 4 (.tmp 38) (.tmp 39), none⟩,
    .op ⟨(some 41), .fieldAddr 0 (.tmp 40), none⟩,
    .op ⟨(some 42), .load false 1 (.tmp 41), none⟩,
    .op ⟨(some 43), .mov (.tmp 2), none⟩,
    .op ⟨(some 44), .call 42 [(.tmp 42), (.tmp 43)], none⟩,
    .op ⟨(some 45), .idxAddr 4 (.tmp 33) (.tmp 34), none⟩,
    .op ⟨(some 46), .fieldAddr 3 (.tmp 45), none⟩,
    .look ⟨(some 33), .load false 1 (.tmp 32), none⟩,
    .op ⟨none, .store 1 (.tmp 46) (.tmp 44), none⟩])
  (.seq (.ops [⟨(some 6), .mov (.con (.int .i64 0)), none⟩])
  .ret))))))
def a25 : AFunc := ⟨3, c25, [.tmp 6]⟩

/- 26: (*tendril/tendrilref1.Arena).Swap -/
def c26 : ACode := (.seq (.ops [⟨(some 8), .mov (.con (.bool false)), none⟩,
    ⟨(some 9), .mov (.con (.int .i64 0)), none⟩])
  (.seq (.ops [⟨(some 13), .mov (.tmp 0), none⟩,
    ⟨(some 14), .mov (.tmp 1), none⟩,
    ⟨(some 15), .call 40 [(.tmp 13), (.tmp 14)], none⟩,
    ⟨(some 12), .mov (.tmp 15), none⟩,
    ⟨(some 16), .extract (.tmp 12) 0, none⟩,
    ⟨(some 17), .extract (.tmp 12) 1, none⟩,
    ⟨(some 10), .mov (.tmp 16), none⟩,
    ⟨(some 11), .mov (.tmp 17), none⟩])
  (.seq (.seq (.ops [⟨(some 18), .mov (.tmp 11), none⟩,
    ⟨(some 19), .bin .neq (.tmp 18) (.con (.int .i64 0)), none⟩])
  (.cond (.tmp 19)
  (.seq (.ops [⟨(some 20), .mov (.tmp 11), none⟩,
    ⟨(some 8), .mov (.con (.bool false)), none⟩,
    ⟨(some 9), .mov (.tmp 20), none⟩])
  .ret)
  .skip))
  (.seq (.seq (.ops [⟨(some 21), .mov (.tmp 3), none⟩,
    ⟨(some 22), .lenSlice (.tmp 21), none⟩,
    ⟨(some 23), .mov (.tmp 0), none⟩,
    ⟨(some 24), .nilChk (.tmp 23), none⟩,
    ⟨(some 25), .fieldAddr 0 (.tmp 24), none⟩,
    ⟨(some 26), .load false 1 (.tmp 25), none⟩,
    ⟨(some 27), .mov (.tmp 10), none⟩,
    ⟨(some 28), .idxAddr 4 (.tmp 26) (.tmp 27), none⟩,
    ⟨(some 29), .fieldAddr 0 (.tmp 28), none⟩,
    ⟨(some 30), .load false 1 (.tmp 29), none⟩,
    ⟨(some 31), .call 28 [(.tmp 30)], none⟩,
    ⟨(some 32), .bin .gtr (.tmp 22) (.tmp 31), none⟩])
  (.cond (.tmp 32)
  (.seq (.ops [⟨(some 8), .mov (.con (.bool false)), none⟩,
    ⟨(some 9), .mov (.con (.int .i64 1)), none⟩])
  .ret)
  .skip))
  (.seq (.seq (.ops [⟨(some 33), .mov (.tmp 0), none⟩,
    ⟨(some 34), .nilChk (.tmp 33), none⟩,
    ⟨(some 35), .fieldAddr 0 (.tmp 34), none⟩,
    ⟨(some 36), .load false 1 (.tmp 35), none⟩,
    ⟨(some 37), .mov (.tmp 10), none⟩,
    ⟨(some 38), .idxAddr 4 (.tmp 36) (.tmp 37), none⟩,
    ⟨(some 39), .fieldAddr 3 (.tmp 38), none⟩,
    ⟨(some 40), .load false 1 (.tmp 39), none⟩,
    ⟨(some 41), .idxAddr 1 (.tmp 40) (.con (.int .i64 0)), none⟩,
    ⟨(some 42), .load false 1 (.tmp 41), none⟩,
    ⟨(some 43), .mov (.tmp 2), none⟩,
    ⟨(some 44), .bin .neq (.tmp 42) (.tmp 43), none⟩])
  (.cond (.tmp 44)
  (.seq (.ops [⟨(some 8), .mov (.con (.bool false)), none⟩,
    ⟨(some 9), .mov (.con (.int .i64 0)), none⟩])
  .ret)
  .skip))
  (.seq (.draw [.op ⟨(some 45), .mov (.tmp 0), none⟩,
    .op ⟨(some 46), .nilChk (.tmp 45), none⟩,
    .op ⟨(some 47), .fieldAddr 0 (.tmp 46), none⟩,
    .op ⟨(some 48), .load false 1 (.tmp 47), none⟩,
    .op ⟨(some 49), .mov (.tmp 10), none⟩,
    .op ⟨(some 50), .mov (.tmp 0), none⟩,
    .op ⟨(some 51), .nilChk (.tmp 50), none⟩,
    .op ⟨(some 52), .fieldAddr 0 (.tmp 51), none⟩,
    .op ⟨(some 53), .load false 1 (.tmp 52), none⟩,
    .op ⟨(some 54), .mov (.tmp 10), none⟩,
    .op ⟨(some 55), .idxAddr 4 (.tmp 53) (.tmp 54), none⟩,
    .op ⟨(some 56), .fieldAddr 0 (.tmp 55), none⟩,
    .op ⟨(some 57), .load false 1 (.tmp 56), none⟩,
    .op ⟨(some 58), .mov (.tmp 3), none⟩,
    .op ⟨(some 59), .call 42 [(.tmp 57), (.tmp 58)], none⟩,
    .op ⟨(some 60), .idxAddr 4 (.tmp 48) (.tmp 49), none⟩,
    .op ⟨(some 61), .fieldAddr 3 (.tmp 60), none⟩,
    .look ⟨(some 48), .load false 1 (.tmp 47), none⟩,
    .op ⟨none, .store 1 (.tmp 61) (.tmp 59), none⟩])
  (.seq (.ops [⟨(some 8), .mov (.con (.bool true)), none⟩,
    ⟨(some 9), .mov (.con (.int .i64 0)), none⟩])
  .ret)))))))
def a26 : AFunc := ⟨4, c26, [.tmp 8, .tmp 9]⟩

/- 27: tendril/arena.Size -/
def c27 : ACode := (.seq (.ops [⟨(some 2), .mov (.con (.int .i64 0)), none⟩])
  (.seq (.seq (.ops [⟨(some 3), .mov (.tmp 0), none⟩])
  (.block 0 (.seq (.ops [⟨(some 5), .bin .eql (.tmp 3) (.con (.int .i64 0)), none⟩,
    ⟨(some 4), .mov (.tmp 5), none⟩])
  (.cond (.tmp 4)
  (.seq (.ops [⟨(some 2), .mov (.con (.int .i64 8)), none⟩])
  .ret)
  (.seq (.ops [⟨(some 7), .bin .eql (.tmp 3) (.con (.int .i64 1)), none⟩,
    ⟨(some 6), .mov (.tmp 7), none⟩])
  (.cond (.tmp 6)
  (.seq (.ops [⟨(some 2), .mov (.con (.int .i64 12)), none⟩])
  .ret)
  (.seq (.ops [⟨(some 9), .bin .eql (.tmp 3) (.con (.int .i64 2)), none⟩,
    ⟨(some 8), .mov (.tmp 9), none⟩])
  (.cond (.tmp 8)
  (.seq (.ops [⟨(some 2), .mov (.con (.int .i64 24)), none⟩])
  .ret)
  (.seq (.ops [⟨(some 11), .bin .eql (.tmp 3) (.con (.int .i64 3)), none⟩,
    ⟨(some 10), .mov (.tmp 11), none⟩])
  (.cond (.tmp 10)
  (.seq (.ops [⟨(some 2), .mov (.con (.int .i64 88)), none⟩])
  .ret)
  (.seq (.ops [⟨(some 13), .bin .eql (.tmp 3) (.con (.int .i64 4)), none⟩,
    ⟨(some 12), .mov (.tmp 13), none⟩])
  (.cond (.tmp 12)
  (.seq (.ops [⟨(some 2), .mov (.con (.int .i64 264)), none⟩])
  .ret)
  .skip))))))))))))
  (.seq (.ops [⟨(some 2), .mov (.con (.int .i64 0)), none⟩])
  .ret)))
def a27 : AFunc := ⟨1, c27, [.tmp 2]⟩

/- 28: tendril/tendrilref1.Size -/
def c28 : ACode := (.seq (.ops [⟨(some 2), .mov (.con (.int .i64 0)), none⟩])
  (.seq (.seq (.ops [⟨(some 3), .mov (.tmp 0), none⟩])
  (.block 0 (.seq (.ops [⟨(some 5), .bin .eql (.tmp 3) (.con (.int .i64 0)), none⟩,
    ⟨(some 4), .mov (.tmp 5), none⟩])
  (.cond (.tmp 4)
  (.seq (.ops [⟨(some 2), .mov (.con (.int .i64 8)), none⟩])
  .ret)
  (.seq (.ops [⟨(some 7), .bin .eql (.tmp 3) (.con (.int .i64 1)), none⟩,
    ⟨(some 6), .mov (.tmp 7), none⟩])
  (.cond (.tmp 6)
  (.seq (.ops [⟨(some 2), .mov (.con (.int .i64 12)), none⟩])
  .ret)
  (.seq (.ops [⟨(some 9), .bin .eql (.tmp 3) (.con (.int .i64 2)), none⟩,
    ⟨(some 8), .mov (.tmp 9), none⟩])
  (.cond (.tmp 8)
  (.seq (.ops [⟨(some 2), .mov (.con (.int .i64 24)), none⟩])
  .ret)
  (.seq (.ops [⟨(some 11), .bin .eql (.tmp 3) (.con (.int .i64 3)), none⟩,
    ⟨(some 10), .mov (.tmp 11), none⟩])
  (.cond (.tmp 10)
  (.seq (.ops [⟨(some 2), .mov (.con (.int .i64 88)), none⟩])
  .ret)
  (.seq (.ops [⟨(some 13), .bin .eql (.tmp 3) (.con (.int .i64 4)), none⟩,
    ⟨(some 12), .mov (.tmp 13), none⟩])
  (.cond (.tmp 12)
  (.seq (.ops [⟨(some 2), .mov (.con (.int .i64 264)), none⟩])
  .ret)
  .skip))))))))))))
  (.seq (.ops [⟨(some 2), .mov (.con (.int .i64 0)), none⟩])
  .ret)))
def a28 : AFunc := ⟨1, c28, [.tmp 2]⟩

/- 29: tendril/pool.New -/
def c29 : ACode := (.seq (.ops [⟨(some 2), .mov (.con .nilPtr), none⟩,
    ⟨(some 3), .mov (.con (.int .i64 0)), none⟩])
  (.seq (.seq (.ops [⟨(some 4), .mov (.tmp 0), none⟩,
    ⟨(some 5), .bin .lss (.tmp 4) (.con (.int .i64 0)), none⟩,
    ⟨(some 6), .mov (.tmp 5), none⟩,
    ⟨(some 7), .mov (.tmp 0), (some (6, false))⟩,
    ⟨(some 8), .bin .gtr (.tmp 7) (.con (.int .i64 65535)), (some (6, false))⟩,
    ⟨(some 9), .pick (.tmp 6) (.con (.bool true)) (.tmp 8), none⟩])
  (.cond (.tmp 9)
  (.seq (.ops [⟨(some 2), .mov (.con .nilPtr), none⟩,
    ⟨(some 3), .mov (.con (.int .i64 1)), none⟩])
  .ret)
  .skip))
  (.seq (.ops [⟨(some 10), .mov (.tmp 0), none⟩,
    ⟨(some 11), .mkMap, none⟩,
    ⟨(some 12), .build [(.int .i64 0), .nilSlice, .nilMap] [(0, 1, (.tmp 10)), (2, 1, (.tmp 11))], none⟩,
    ⟨(some 13), .box (.tmp 12), none⟩,
    ⟨(some 2), .mov (.tmp 13), none⟩,
    ⟨(some 3), .mov (.con (.int .i64 0)), none⟩])
  .ret)))
def a29 : AFunc := ⟨1, c29, [.tmp 2, .tmp 3]⟩

/- 30: (*tendril/pool.Pool).Put -/
def c30 : ACode := (.seq (.ops [⟨(some 4), .mov (.con (.bool false)), none⟩])
  (.seq (.seq (.ops [⟨(some 5), .mov (.tmp 1), none⟩,
    ⟨(some 6), .bin .lss (.tmp 5) (.con (.int .i64 0)), none⟩,
    ⟨(some 7), .mov (.tmp 6), none⟩,
    ⟨(some 8), .mov (.tmp 1), (some (7, false))⟩,
    ⟨(some 9), .mov (.tmp 0), (some (7, false))⟩,
    ⟨(some 10), .nilChk (.tmp 9), (some (7, false))⟩,
    ⟨(some 11), .fieldAddr 0 (.tmp 10), (some (7, false))⟩,
    ⟨(some 12), .load false 1 (.tmp 11), (some (7, false))⟩,
    ⟨(some 13), .bin .geq (.tmp 8) (.tmp 12), (some (7, false))⟩,
    ⟨(some 14), .pick (.tmp 7) (.con (.bool true)) (.tmp 13), none⟩,
    ⟨(some 15), .mov (.tmp 14), none⟩,
    ⟨(some 16), .mov (.tmp 0), (some (15, false))⟩,
    ⟨(some 17), .mov (.tmp 1), (some (15, false))⟩,
    ⟨(some 18), .call 44 [(.tmp 16), (.tmp 17)], (some (15, false))⟩,
    ⟨(some 19), .pick (.tmp 15) (.con (.bool true)) (.tmp 18), none⟩])
  (.cond (.tmp 19)
  (.seq (.ops [⟨(some 4), .mov (.con (.bool false)), none⟩])
  .ret)
  .skip))
  (.seq (.ops [⟨(some 20), .mov (.tmp 0), none⟩,
    ⟨(some 21), .nilChk (.tmp 20), none⟩,
    ⟨(some 22), .fieldAddr 2 (.tmp 21), none⟩,
    ⟨(some 23), .load false 1 (.tmp 22), none⟩,
    ⟨(some 24), .mov (.tmp 1), none⟩,
    ⟨(some 25), .build [] [], none⟩,
    ⟨none, .mapUpd 0 (.tmp 23) (.tmp 24) (.tmp 25), none⟩])
  (.seq (.ops [⟨(some 26), .mov (.tmp 0), none⟩,
    ⟨(some 27), .nilChk (.tmp 26), none⟩,
    ⟨(some 28), .fieldAddr 1 (.tmp 27), none⟩,
    ⟨(some 29), .mkIface 101 (.tmp 28), none⟩,
    ⟨(some 30), .mov (.tmp 1), none⟩,
    ⟨(some 31), .mkIface 3 (.tmp 30), none⟩,
    ⟨(some 32), .call 45 [(.tmp 29), (.tmp 31)], none⟩])
  (.seq (.ops [⟨(some 4), .mov (.con (.bool true)), none⟩])
  .ret)))))
def a30 : AFunc := ⟨2, c30, [.tmp 4]⟩

/- 31: tendril/arena.poison -/
def c31 : ACode := (.seq (.ops [⟨(some 2), .mov (.con .nilSlice), none⟩])
  (.seq (.ops [⟨(some 3), .buildSlice 1 1 [(.int .u64 0)] [(0, 1, (.con (.int .u64 16045690984833335023)))], none⟩,
    ⟨(some 4), .mov (.tmp 0), none⟩,
    ⟨(some 5), .call 27 [(.tmp 4)], none⟩,
    ⟨(some 6), .call 46 [(.tmp 3), (.tmp 5)], none⟩,
    ⟨(some 2), .mov (.tmp 6), none⟩])
  .ret))
def a31 : AFunc := ⟨1, c31, [.tmp 2]⟩

/- 32: (*tendril/pool.Pool).Take -/
def c32 : ACode := (.seq (.ops [⟨(some 2), .mov (.con (.int .i64 0)), none⟩,
    ⟨(some 3), .mov (.con (.bool false)), none⟩])
  (.seq (.seq (.ops [⟨(some 6), .mov (.tmp 0), none⟩,
    ⟨(some 7), .nilChk (.tmp 6), none⟩,
    ⟨(some 8), .fieldAddr 1 (.tmp 7), none⟩,
    ⟨(some 9), .load false 1 (.tmp 8), none⟩,
    ⟨(some 10), .lenSlice (.tmp 9), none⟩,
    ⟨(some 11), .bin .eql (.tmp 10) (.con (.int .i64 0)), none⟩])
  (.cond (.tmp 11)
  (.seq (.ops [⟨(some 2), .mov (.con (.int .i64 0)), none⟩,
    ⟨(some 3), .mov (.con (.bool false)), none⟩])
  .ret)
  .skip))
  (.seq (.ops [⟨(some 13), .mov (.tmp 0), none⟩,
    ⟨(some 14), .nilChk (.tmp 13), none⟩,
    ⟨(some 15), .fieldAddr 1 (.tmp 14), none⟩,
    ⟨(some 16), .mkIface 101 (.tmp 15), none⟩,
    ⟨(some 17), .call 47 [(.tmp 16)], none⟩,
    ⟨(some 18), .assertT 3 (.int .i64 0) true (.tmp 17), none⟩,
    ⟨(some 12), .mov (.tmp 18), none⟩,
    ⟨(some 19), .extract (.tmp 12) 0, none⟩,
    ⟨(some 20), .extract (.tmp 12) 1, none⟩,
    ⟨(some 4), .mov (.tmp 19), none⟩,
    ⟨(some 5), .mov (.tmp 20), none⟩])
  (.seq (.ops [⟨(some 21), .mov (.tmp 0), none⟩,
    ⟨(some 22), .nilChk (.tmp 21), none⟩,
    ⟨(some 23), .fieldAddr 2 (.tmp 22), none⟩,
    ⟨(some 24), .load false 1 (.tmp 23), none⟩,
    ⟨(some 25), .mov (.tmp 4), none⟩,
    ⟨none, .del 0 (.tmp 24) (.tmp 25), none⟩])
  (.seq (.ops [⟨(some 26), .mov (.tmp 4), none⟩,
    ⟨(some 2), .mov (.tmp 26), none⟩,
    ⟨(some 3), .mov (.con (.bool true)), none⟩])
  .ret)))))
def a32 : AFunc := ⟨1, c32, [.tmp 2, .tmp 3]⟩

/- 33: (*tendril/arena.slot).fill -/
def c33 : ACode := (.seq (.ops [⟨(some 4), .mov (.tmp 0), none⟩,
    ⟨(some 5), .mov (.tmp 0), none⟩,
    ⟨(some 6), .nilChk (.tmp 5), none⟩,
    ⟨(some 7), .fieldAddr 0 (.tmp 6), none⟩,
    ⟨(some 8), .load false 1 (.tmp 7), none⟩,
    ⟨(some 9), .call 27 [(.tmp 8)], none⟩,
    ⟨(some 10), .mkSlice 1 8 [(.int .u64 0)] (.tmp 9) (.tmp 9), none⟩,
    ⟨(some 11), .nilChk (.tmp 4), none⟩,
    ⟨(some 12), .fieldAddr 3 (.tmp 11), none⟩,
    ⟨none, .store 1 (.tmp 12) (.tmp 10), none⟩])
  (.ops [⟨(some 13), .mov (.tmp 0), none⟩,
    ⟨(some 14), .nilChk (.tmp 13), none⟩,
    ⟨(some 15), .fieldAddr 3 (.tmp 14), none⟩,
    ⟨(some 16), .load false 1 (.tmp 15), none⟩,
    ⟨(some 17), .mov (.tmp 1), none⟩,
    ⟨(some 18), .copy 1 (.tmp 16) (.tmp 17), none⟩]))
def a33 : AFunc := ⟨2, c33, []⟩

/- 34: (*tendril/arena.Arena).of -/
def c34 : ACode := (.seq (.ops [⟨(some 4), .mov (.con .nilPtr), none⟩,
    ⟨(some 5), .mov (.con (.int .i64 0)), none⟩])
  (.seq (.ops [⟨(some 12), .mov (.tmp 1), none⟩,
    ⟨(some 13), .call 36 [(.tmp 12)], none⟩,
    ⟨(some 11), .mov (.tmp 13), none⟩,
    ⟨(some 14), .extract (.tmp 11) 0, none⟩,
    ⟨(some 15), .extract (.tmp 11) 1, none⟩,
    ⟨(some 16), .extract (.tmp 11) 2, none⟩,
    ⟨(some 17), .extract (.tmp 11) 3, none⟩,
    ⟨(some 6), .mov (.tmp 14), none⟩,
    ⟨(some 7), .mov (.tmp 15), none⟩,
    ⟨(some 8), .mov (.tmp 16), none⟩,
    ⟨(some 9), .mov (.tmp 17), none⟩])
  (.seq (.seq (.ops [⟨(some 18), .mov (.tmp 9), none⟩,
    ⟨(some 19), .un .not (.tmp 18), none⟩,
    ⟨(some 20), .mov (.tmp 19), none⟩,
    ⟨(some 21), .mov (.tmp 6), (some (20, false))⟩,
    ⟨(some 22), .mov (.tmp 0), (some (20, false))⟩,
    ⟨(some 23), .nilChk (.tmp 22), (some (20, false))⟩,
    ⟨(some 24), .fieldAddr 0 (.tmp 23), (some (20, false))⟩,
    ⟨(some 25), .load false 1 (.tmp 24), (some (20, false))⟩,
    ⟨(some 26), .lenSlice (.tmp 25), (some (20, false))⟩,
    ⟨(some 27), .bin .geq (.tmp 21) (.tmp 26), (some (20, false))⟩,
    ⟨(some 28), .pick (.tmp 20) (.con (.bool true)) (.tmp 27), none⟩,
    ⟨(some 29), .mov (.tmp 28), none⟩,
    ⟨(some 30), .mov (.tmp 8), (some (29, false))⟩,
    ⟨(some 31), .mov (.tmp 0), (some (29, false))⟩,
    ⟨(some 32), .nilChk (.tmp 31), (some (29, false))⟩,
    ⟨(some 33), .fieldAddr 0 (.tmp 32), (some (29, false))⟩,
    ⟨(some 34), .load false 1 (.tmp 33), (some (29, false))⟩,
    ⟨(some 35), .mov (.tmp 6), (some (29, false))⟩,
    ⟨(some 36), .idxAddr 4 (.tmp 34) (.tmp 35), (some (29, false))⟩,
    ⟨(some 37), .fieldAddr 0 (.tmp 36), (some (29, false))⟩,
    ⟨(some 38), .load false 1 (.tmp 37), (some (29, false))⟩,
    ⟨(some 39), .bin .eql (.tmp 38) (.con (.int .i64 0)), (some (29, false))⟩,
    ⟨(some 40), .eqB true (.tmp 30) (.tmp 39), (some (29, false))⟩,
    ⟨(some 41), .pick (.tmp 29) (.con (.bool true)) (.tmp 40), none⟩])
  (.cond (.tmp 41)
  (.seq (.ops [⟨(some 4), .mov (.con .nilPtr), none⟩,
    ⟨(some 5), .mov (.con (.int .i64 1)), none⟩])
  .ret)
  .skip))
  (.seq (.ops [⟨(some 42), .mov (.tmp 0), none⟩,
    ⟨(some 43), .nilChk (.tmp 42), none⟩,
    ⟨(some 44), .fieldAddr 0 (.tmp 43), none⟩,
    ⟨(some 45), .load false 1 (.tmp 44), none⟩,
    ⟨(some 46), .mov (.tmp 6), none⟩,
    ⟨(some 47), .idxAddr 4 (.tmp 45) (.tmp 46), none⟩,
    ⟨(some 10), .mov (.tmp 47), none⟩])
  (.seq (.seq (.ops [⟨(some 48), .mov (.tmp 10), none⟩,
    ⟨(some 49), .nilChk (.tmp 48), none⟩,
    ⟨(some 50), .fieldAddr 1 (.tmp 49), none⟩,
    ⟨(some 51), .load false 1 (.tmp 50), none⟩,
    ⟨(some 52), .mov (.tmp 7), none⟩,
    ⟨(some 53), .bin .neq (.tmp 51) (.tmp 52), none⟩])
  (.cond (.tmp 53)
  (.seq (.ops [⟨(some 4), .mov (.con .nilPtr), none⟩,
    ⟨(some 5), .mov (.con (.int .i64 4)), none⟩])
  .ret)
  .skip))
  (.seq (.seq (.ops [⟨(some 54), .mov (.tmp 10), none⟩,
    ⟨(some 55), .nilChk (.tmp 54), none⟩,
    ⟨(some 56), .fieldAddr 2 (.tmp 55), none⟩,
    ⟨(some 57), .load false 1 (.tmp 56), none⟩,
    ⟨(some 58), .un .not (.tmp 57), none⟩])
  (.cond (.tmp 58)
  (.seq (.ops [⟨(some 4), .mov (.con .nilPtr), none⟩,
    ⟨(some 5), .mov (.con (.int .i64 3)), none⟩])
  .ret)
  .skip))
  (.seq (.ops [⟨(some 59), .mov (.tmp 10), none⟩,
    ⟨(some 4), .mov (.tmp 59), none⟩,
    ⟨(some 5), .mov (.con (.int .i64 0)), none⟩])
  .ret)))))))
def a34 : AFunc := ⟨2, c34, [.tmp 4, .tmp 5]⟩

/- 35: slices.Clone[[]uint64,uint64] -/
def c35 : ACode := (.seq (.ops [⟨(some 2), .mov (.con .nilSlice), none⟩])
  (.seq (.seq (.ops [⟨(some 3), .mov (.tmp 0), none⟩,
    ⟨(some 4), .eqNil 1 false (.tmp 3) (.con .nilSlice), none⟩])
  (.cond (.tmp 4)
  (.seq (.ops [⟨(some 2), .mov (.con .nilSlice), none⟩])
  .ret)
  .skip))
  (.seq (.ops [⟨(some 5), .buildSlice 1 0 [] [], none⟩,
    ⟨(some 6), .mov (.tmp 0), none⟩,
    ⟨(some 7), .append 1 8 (.tmp 5) (.tmp 6), none⟩,
    ⟨(some 2), .mov (.tmp 7), none⟩])
  .ret)))
def a35 : AFunc := ⟨1, c35, [.tmp 2]⟩

/- 36: tendril/word.Parts -/
def c36 : ACode := (.seq (.ops [⟨(some 2), .mov (.con (.int .i64 0)), none⟩,
    ⟨(some 3), .mov (.con (.int .i64 0)), none⟩,
    ⟨(some 4), .mov (.con (.bool false)), none⟩,
    ⟨(some 5), .mov (.con (.bool false)), none⟩])
  (.seq (.ops [⟨(some 6), .mov (.tmp 0), none⟩,
    ⟨(some 7), .bin .and (.tmp 6) (.con (.int .i64 65535)), none⟩,
    ⟨(some 8), .mov (.tmp 0), none⟩,
    ⟨(some 9), .bin .shr (.tmp 8) (.con (.int .u64 16)), none⟩,
    ⟨(some 10), .bin .and (.tmp 9) (.con (.int .i64 4294967295)), none⟩,
    ⟨(some 11), .mov (.tmp 0), none⟩,
    ⟨(some 12), .bin .and (.tmp 11) (.con (.int .i64 281474976710656)), none⟩,
    ⟨(some 13), .bin .neq (.tmp 12) (.con (.int .i64 0)), none⟩,
    ⟨(some 2), .mov (.tmp 7), none⟩,
    ⟨(some 3), .mov (.tmp 10), none⟩,
    ⟨(some 4), .mov (.tmp 13), none⟩])
  (.seq (.seq (.ops [⟨(some 14), .mov (.tmp 0), none⟩,
    ⟨(some 15), .bin .eql (.tmp 14) (.con (.int .i64 0)), none⟩,
    ⟨(some 16), .mov (.tmp 15), none⟩,
    ⟨(some 17), .mov (.tmp 2), (some (16, false))⟩,
    ⟨(some 18), .mov (.tmp 3), (some (16, false))⟩,
    ⟨(some 19), .mov (.tmp 4), (some (16, false))⟩,
    ⟨(some 20), .call 18 [(.tmp 17), (.tmp 18), (.tmp 19)], (some (16, false))⟩,
    ⟨(some 21), .mov (.tmp 0), (some (16, false))⟩,
    ⟨(some 22), .bin .neq (.tmp 20) (.tmp 21), (some (16, false))⟩,
    ⟨(some 23), .pick (.tmp 16) (.con (.bool true)) (.tmp 22), none⟩])
  (.cond (.tmp 23)
  (.seq (.ops [⟨(some 2), .mov (.con (.int .i64 0)), none⟩,
    ⟨(some 3), .mov (.con (.int .i64 0)), none⟩,
    ⟨(some 4), .mov (.con (.bool false)), none⟩,
    ⟨(some 5), .mov (.con (.bool false)), none⟩])
  .ret)
  .skip))
  (.seq (.ops [⟨(some 24), .mov (.tmp 2), none⟩,
    ⟨(some 25), .mov (.tmp 3), none⟩,
    ⟨(some 26), .mov (.tmp 4), none⟩,
    ⟨(some 2), .mov (.tmp 24), none⟩,
    ⟨(some 3), .mov (.tmp 25), none⟩,
    ⟨(some 4), .mov (.tmp 26), none⟩,
    ⟨(some 5), .mov (.con (.bool true)), none⟩])
  .ret))))
def a36 : AFunc := ⟨1, c36, [.tmp 2, .tmp 3, .tmp 4, .tmp 5]⟩

/- 37: (*tendril/pool.Pool).Len -/
def c37 : ACode := (.seq (.ops [⟨(some 2), .mov (.con (.int .i64 0)), none⟩])
  (.seq (.ops [⟨(some 3), .mov (.tmp 0), none⟩,
    ⟨(some 4), .nilChk (.tmp 3), none⟩,
    ⟨(some 5), .fieldAddr 1 (.tmp 4), none⟩,
    ⟨(some 6), .load false 1 (.tmp 5), none⟩,
    ⟨(some 7), .lenSlice (.tmp 6), none⟩,
    ⟨(some 2), .mov (.tmp 7), none⟩])
  .ret))
def a37 : AFunc := ⟨1, c37, [.tmp 2]⟩

/- 38: (*tendril/tendrilref1.Pool).Put -/
def c38l0 : ACode := (.seq (.seq (.ops [⟨(some 16), .mov (.tmp 5), none⟩,
    ⟨(some 17), .mov (.tmp 0), none⟩,
    ⟨(some 18), .nilChk (.tmp 17), none⟩,
    ⟨(some 19), .fieldAddr 1 (.tmp 18), none⟩,
    ⟨(some 20), .load false 1 (.tmp 19), none⟩,
    ⟨(some 21), .lenSlice (.tmp 20), none⟩,
    ⟨(some 22), .bin .lss (.tmp 16) (.tmp 21), none⟩,
    ⟨(some 23), .mov (.tmp 22), none⟩,
    ⟨(some 24), .mov (.tmp 0), (some (23, true))⟩,
    ⟨(some 25), .nilChk (.tmp 24), (some (23, true))⟩,
    ⟨(some 26), .fieldAddr 1 (.tmp 25), (some (23, true))⟩,
    ⟨(some 27), .load false 1 (.tmp 26), (some (23, true))⟩,
    ⟨(some 28), .mov (.tmp 5), (some (23, true))⟩,
    ⟨(some 29), .idxAddr 1 (.tmp 27) (.tmp 28), (some (23, true))⟩,
    ⟨(some 30), .load false 1 (.tmp 29), (some (23, true))⟩,
    ⟨(some 31), .mov (.tmp 1), (some (23, true))⟩,
    ⟨(some 32), .bin .lss (.tmp 30) (.tmp 31), (some (23, true))⟩,
    ⟨(some 33), .pick (.tmp 23) (.tmp 32) (.con (.bool false)), none⟩])
  (.cond (.tmp 33)
  .skip
  (.exit 0)))
  (.block 1 (.ops [⟨(some 34), .mov (.tmp 5), none⟩,
    ⟨(some 35), .bin .add (.tmp 34) (.con (.int .i64 1)), none⟩,
    ⟨(some 5), .mov (.tmp 35), none⟩])))
def c38 : ACode := (.seq (.ops [⟨(some 4), .mov (.con (.bool false)), none⟩])
  (.seq (.seq (.ops [⟨(some 6), .mov (.tmp 1), none⟩,
    ⟨(some 7), .bin .lss (.tmp 6) (.con (.int .i64 0)), none⟩,
    ⟨(some 8), .mov (.tmp 7), none⟩,
    ⟨(some 9), .mov (.tmp 1), (some (8, false))⟩,
    ⟨(some 10), .mov (.tmp 0), (some (8, false))⟩,
    ⟨(some 11), .nilChk (.tmp 10), (some (8, false))⟩,
    ⟨(some 12), .fieldAddr 0 (.tmp 11), (some (8, false))⟩,
    ⟨(some 13), .load false 1 (.tmp 12), (some (8, false))⟩,
    ⟨(some 14), .bin .geq (.tmp 9) (.tmp 13), (some (8, false))⟩,
    ⟨(some 15), .pick (.tmp 8) (.con (.bool true)) (.tmp 14), none⟩])
  (.cond (.tmp 15)
  (.seq (.ops [⟨(some 4), .mov (.con (.bool false)), none⟩])
  .ret)
  .skip))
  (.seq (.ops [⟨(some 5), .mov (.con (.int .i64 0)), none⟩])
  (.seq (.block 0 (.loop c38l0))
  (.seq (.seq (.ops [⟨(some 36), .mov (.tmp 5), none⟩,
    ⟨(some 37), .mov (.tmp 0), none⟩,
    ⟨(some 38), .nilChk (.tmp 37), none⟩,
    ⟨(some 39), .fieldAddr 1 (.tmp 38), none⟩,
    ⟨(some 40), .load false 1 (.tmp 39), none⟩,
    ⟨(some 41), .lenSlice (.tmp 40), none⟩,
    ⟨(some 42), .bin .lss (.tmp 36) (.tmp 41), none⟩,
    ⟨(some 43), .mov (.tmp 42), none⟩,
    ⟨(some 44), .mov (.tmp 0), (some (43, true))⟩,
    ⟨(some 45), .nilChk (.tmp 44), (some (43, true))⟩,
    ⟨(some 46), .fieldAddr 1 (.tmp 45), (some (43, true))⟩,
    ⟨(some 47), .load false 1 (.tmp 46), (some (43, true))⟩,
    ⟨(some 48), .mov (.tmp 5), (some (43, true))⟩,
    ⟨(some 49), .idxAddr 1 (.tmp 47) (.tmp 48), (some (43, true))⟩,
    ⟨(some 50), .load false 1 (.tmp 49), (some (43, true))⟩,
    ⟨(some 51), .mov (.tmp 1), (some (43, true))⟩,
    ⟨(some 52), .bin .eql (.tmp 50) (.tmp 51), (some (43, true))⟩,
    ⟨(some 53), .pick (.tmp 43) (.tmp 52) (.con (.bool false)), none⟩])
  (.cond (.tmp 53)
  (.seq (.ops [⟨(some 4), .mov (.con (.bool false)), none⟩])
  .ret)
  .skip))
  (.seq (.draw [.op ⟨(some 54), .mov (.tmp 0), none⟩,
    .op ⟨(some 55), .buildSlice 1 0 [] [], none⟩,
    .op ⟨(some 56), .mov (.tmp 0), none⟩,
    .op ⟨(some 57), .nilChk (.tmp 56), none⟩,
    .op ⟨(some 58), .fieldAddr 1 (.tmp 57), none⟩,
    .op ⟨(some 59), .load false 1 (.tmp 58), none⟩,
    .op ⟨(some 60), .mov (.tmp 5), none⟩,
    .op ⟨(some 61), .slc 1 (.tmp 59) none (some (.tmp 60)) none, none⟩,
    .op ⟨(some 63), .mov (.tmp 1), none⟩,
    .op ⟨(some 64), .buildSlice 1 1 [(.int .i64 0)] [(0, 1, (.tmp 63))], none⟩,
    .op ⟨(some 66), .mov (.tmp 0), none⟩,
    .op ⟨(some 67), .nilChk (.tmp 66), none⟩,
    .op ⟨(some 68), .fieldAddr 1 (.tmp 67), none⟩,
    .op ⟨(some 69), .load false 1 (.tmp 68), none⟩,
    .op ⟨(some 70), .mov (.tmp 5), none⟩,
    .op ⟨(some 71), .slc 1 (.tmp 69) (some (.tmp 70)) none none, none⟩,
    .look ⟨(some 55), .buildSlice 1 0 [] [], none⟩,
    .look ⟨(some 59), .load false 1 (.tmp 58), none⟩,
    .look ⟨(some 64), .buildSlice 1 1 [(.int .i64 0)] [(0, 1, (.tmp 63))], none⟩,
    .op ⟨(some 62), .append 1 8 (.tmp 55) (.tmp 61), none⟩,
    .look ⟨(some 64), .buildSlice 1 1 [(.int .i64 0)] [(0, 1, (.tmp 63))], none⟩,
    .look ⟨(some 69), .load false 1 (.tmp 68), none⟩,
    .op ⟨(some 65), .append 1 8 (.tmp 62) (.tmp 64), none⟩,
    .look ⟨(some 69), .load false 1 (.tmp 68), none⟩,
    .op ⟨(some 72), .append 1 8 (.tmp 65) (.tmp 71), none⟩,
    .op ⟨(some 73), .nilChk (.tmp 54), none⟩,
    .op ⟨(some 74), .fieldAddr 1 (.tmp 73), none⟩,
    .op ⟨none, .store 1 (.tmp 74) (.tmp 72), none⟩])
  (.seq (.ops [⟨(some 4), .mov (.con (.bool true)), none⟩])
  .ret)))))))
def a38 : AFunc := ⟨2, c38, [.tmp 4]⟩

/- 39: tendril/tendrilref1.poison -/
def c39l0 : ACode := (.seq (.ops [⟨(some 11), .bin .lss (.tmp 10) (.tmp 9), none⟩])
  (.seq (.cond (.tmp 11)
  .skip
  (.exit 0))
  (.seq (.block 1 (.seq (.ops [⟨(some 12), .mov (.tmp 10), none⟩,
    ⟨(some 4), .mov (.tmp 12), none⟩])
  (.ops [⟨(some 13), .mov (.tmp 3), none⟩,
    ⟨(some 14), .mov (.tmp 4), none⟩,
    ⟨(some 15), .idxAddr 1 (.tmp 13) (.tmp 14), none⟩,
    ⟨none, .store 1 (.tmp 15) (.con (.int .u64 16045690984833335023)), none⟩])))
  (.ops [⟨(some 16), .bin .add (.tmp 10) (.con (.int .i64 1)), none⟩,
    ⟨(some 10), .mov (.tmp 16), none⟩]))))
def c39 : ACode := (.seq (.ops [⟨(some 2), .mov (.con .nilSlice), none⟩])
  (.seq (.ops [⟨(some 5), .mov (.tmp 0), none⟩,
    ⟨(some 6), .call 28 [(.tmp 5)], none⟩,
    ⟨(some 7), .mkSlice 1 8 [(.int .u64 0)] (.tmp 6) (.tmp 6), none⟩,
    ⟨(some 3), .mov (.tmp 7), none⟩])
  (.seq (.seq (.ops [⟨(some 8), .mov (.tmp 3), none⟩,
    ⟨(some 9), .lenSlice (.tmp 8), none⟩,
    ⟨(some 10), .mov (.con (.int .i64 0)), none⟩])
  (.block 0 (.loop c39l0)))
  (.seq (.ops [⟨(some 17), .mov (.tmp 3), none⟩,
    ⟨(some 2), .mov (.tmp 17), none⟩])
  .ret))))
def a39 : AFunc := ⟨1, c39, [.tmp 2]⟩

/- 40: (*tendril/tendrilref1.Arena).at -/
def c40 : ACode := (.seq (.ops [⟨(some 4), .mov (.con (.int .i64 0)), none⟩,
    ⟨(some 5), .mov (.con (.int .i64 0)), none⟩])
  (.seq (.ops [⟨(some 11), .mov (.tmp 1), none⟩,
    ⟨(some 12), .call 48 [(.tmp 11)], none⟩,
    ⟨(some 10), .mov (.tmp 12), none⟩,
    ⟨(some 13), .extract (.tmp 10) 0, none⟩,
    ⟨(some 14), .extract (.tmp 10) 1, none⟩,
    ⟨(some 15), .extract (.tmp 10) 2, none⟩,
    ⟨(some 16), .extract (.tmp 10) 3, none⟩,
    ⟨(some 6), .mov (.tmp 13), none⟩,
    ⟨(some 7), .mov (.tmp 14), none⟩,
    ⟨(some 8), .mov (.tmp 15), none⟩,
    ⟨(some 9), .mov (.tmp 16), none⟩])
  (.seq (.seq (.ops [⟨(some 17), .mov (.tmp 9), none⟩,
    ⟨(some 18), .un .not (.tmp 17), none⟩,
    ⟨(some 19), .mov (.tmp 18), none⟩,
    ⟨(some 20), .mov (.tmp 6), (some (19, false))⟩,
    ⟨(some 21), .mov (.tmp 0), (some (19, false))⟩,
    ⟨(some 22), .nilChk (.tmp 21), (some (19, false))⟩,
    ⟨(some 23), .fieldAddr 0 (.tmp 22), (some (19, false))⟩,
    ⟨(some 24), .load false 1 (.tmp 23), (some (19, false))⟩,
    ⟨(some 25), .lenSlice (.tmp 24), (some (19, false))⟩,
    ⟨(some 26), .bin .geq (.tmp 20) (.tmp 25), (some (19, false))⟩,
    ⟨(some 27), .pick (.tmp 19) (.con (.bool true)) (.tmp 26), none⟩,
    ⟨(some 28), .mov (.tmp 27), none⟩,
    ⟨(some 29), .mov (.tmp 8), (some (28, false))⟩,
    ⟨(some 30), .mov (.tmp 0), (some (28, false))⟩,
    ⟨(some 31), .nilChk (.tmp 30), (some (28, false))⟩,
    ⟨(some 32), .fieldAddr 0 (.tmp 31), (some (28, false))⟩,
    ⟨(some 33), .load false 1 (.tmp 32), (some (28, false))⟩,
    ⟨(some 34), .mov (.tmp 6), (some (28, false))⟩,
    ⟨(some 35), .idxAddr 4 (.tmp 33) (.tmp 34), (some (28, false))⟩,
    ⟨(some 36), .fieldAddr 0 (.tmp 35), (some (28, false))⟩,
    ⟨(some 37), .load false 1 (.tmp 36), (some (28, false))⟩,
    ⟨(some 38), .bin .eql (.tmp 37) (.con (.int .i64 0)), (some (28, false))⟩,
    ⟨(some 39), .eqB true (.tmp 29) (.tmp 38), (some (28, false))⟩,
    ⟨(some 40), .pick (.tmp 28) (.con (.bool true)) (.tmp 39), none⟩])
  (.cond (.tmp 40)
  (.seq (.ops [⟨(some 4), .mov (.con (.int .i64 0)), none⟩,
    ⟨(some 5), .mov (.con (.int .i64 1)), none⟩])
  .ret)
  .skip))
  (.seq (.seq (.ops [⟨(some 41), .mov (.tmp 0), none⟩,
    ⟨(some 42), .nilChk (.tmp 41), none⟩,
    ⟨(some 43), .fieldAddr 0 (.tmp 42), none⟩,
    ⟨(some 44), .load false 1 (.tmp 43), none⟩,
    ⟨(some 45), .mov (.tmp 6), none⟩,
    ⟨(some 46), .idxAddr 4 (.tmp 44) (.tmp 45), none⟩,
    ⟨(some 47), .fieldAddr 1 (.tmp 46), none⟩,
    ⟨(some 48), .load false 1 (.tmp 47), none⟩,
    ⟨(some 49), .mov (.tmp 7), none⟩,
    ⟨(some 50), .bin .neq (.tmp 48) (.tmp 49), none⟩])
  (.cond (.tmp 50)
  (.seq (.ops [⟨(some 4), .mov (.con (.int .i64 0)), none⟩,
    ⟨(some 5), .mov (.con (.int .i64 4)), none⟩])
  .ret)
  .skip))
  (.seq (.seq (.ops [⟨(some 51), .mov (.tmp 0), none⟩,
    ⟨(some 52), .nilChk (.tmp 51), none⟩,
    ⟨(some 53), .fieldAddr 0 (.tmp 52), none⟩,
    ⟨(some 54), .load false 1 (.tmp 53), none⟩,
    ⟨(some 55), .mov (.tmp 6), none⟩,
    ⟨(some 56), .idxAddr 4 (.tmp 54) (.tmp 55), none⟩,
    ⟨(some 57), .fieldAddr 2 (.tmp 56), none⟩,
    ⟨(some 58), .load false 1 (.tmp 57), none⟩,
    ⟨(some 59), .un .not (.tmp 58), none⟩])
  (.cond (.tmp 59)
  (.seq (.ops [⟨(some 4), .mov (.con (.int .i64 0)), none⟩,
    ⟨(some 5), .mov (.con (.int .i64 3)), none⟩])
  .ret)
  .skip))
  (.seq (.ops [⟨(some 60), .mov (.tmp 6), none⟩,
    ⟨(some 4), .mov (.tmp 60), none⟩,
    ⟨(some 5), .mov (.con (.int .i64 0)), none⟩])
  .ret))))))
def a40 : AFunc := ⟨2, c40, [.tmp 4, .tmp 5]⟩

/- 41: (*tendril/tendrilref1.Pool).Take -/
def c41 : ACode := (.seq (.ops [⟨(some 2), .mov (.con (.int .i64 0)), none⟩,
    ⟨(some 3), .mov (.con (.bool false)), none⟩])
  (.seq (.seq (.ops [⟨(some 5), .mov (.tmp 0), none⟩,
    ⟨(some 6), .nilChk (.tmp 5), none⟩,
    ⟨(some 7), .fieldAddr 1 (.tmp 6), none⟩,
    ⟨(some 8), .load false 1 (.tmp 7), none⟩,
    ⟨(some 9), .lenSlice (.tmp 8), none⟩,
    ⟨(some 10), .bin .eql (.tmp 9) (.con (.int .i64 0)), none⟩])
  (.cond (.tmp 10)
  (.seq (.ops [⟨(some 2), .mov (.con (.int .i64 0)), none⟩,
    ⟨(some 3), .mov (.con (.bool false)), none⟩])
  .ret)
  .skip))
  (.seq (.ops [⟨(some 11), .mov (.tmp 0), none⟩,
    ⟨(some 12), .nilChk (.tmp 11), none⟩,
    ⟨(some 13), .fieldAddr 1 (.tmp 12), none⟩,
    ⟨(some 14), .load false 1 (.tmp 13), none⟩,
    ⟨(some 15), .idxAddr 1 (.tmp 14) (.con (.int .i64 0)), none⟩,
    ⟨(some 16), .load false 1 (.tmp 15), none⟩,
    ⟨(some 4), .mov (.tmp 16), none⟩])
  (.seq (.ops [⟨(some 17), .mov (.tmp 0), none⟩,
    ⟨(some 18), .mov (.tmp 0), none⟩,
    ⟨(some 19), .nilChk (.tmp 18), none⟩,
    ⟨(some 20), .fieldAddr 1 (.tmp 19), none⟩,
    ⟨(some 21), .load false 1 (.tmp 20), none⟩,
    ⟨(some 22), .slc 1 (.tmp 21) (some (.con (.int .i64 1))) none none, none⟩,
    ⟨(some 23), .nilChk (.tmp 17), none⟩,
    ⟨(some 24), .fieldAddr 1 (.tmp 23), none⟩,
    ⟨none, .store 1 (.tmp 24) (.tmp 22), none⟩])
  (.seq (.ops [⟨(some 25), .mov (.tmp 4), none⟩,
    ⟨(some 2), .mov (.tmp 25), none⟩,
    ⟨(some 3), .mov (.con (.bool true)), none⟩])
  .ret)))))
def a41 : AFunc := ⟨1, c41, [.tmp 2, .tmp 3]⟩

/- 42: tendril/tendrilref1.fill -/
def c42 : ACode := (.seq (.ops [⟨(some 4), .mov (.con .nilSlice), none⟩])
  (.seq (.ops [⟨(some 6), .mov (.tmp 0), none⟩,
    ⟨(some 7), .call 28 [(.tmp 6)], none⟩,
    ⟨(some 8), .mkSlice 1 8 [(.int .u64 0)] (.tmp 7) (.tmp 7), none⟩,
    ⟨(some 5), .mov (.tmp 8), none⟩])
  (.seq (.ops [⟨(some 9), .mov (.tmp 5), none⟩,
    ⟨(some 10), .mov (.tmp 1), none⟩,
    ⟨(some 11), .copy 1 (.tmp 9) (.tmp 10), none⟩])
  (.seq (.ops [⟨(some 12), .mov (.tmp 5), none⟩,
    ⟨(some 4), .mov (.tmp 12), none⟩])
  .ret))))
def a42 : AFunc := ⟨2, c42, [.tmp 4]⟩

/- 43: tendril/tendrilref1.Ref -/
def c43 : ACode := (.seq (.ops [⟨(some 6), .mov (.con (.int .i64 0)), none⟩])
  (.seq (.seq (.ops [⟨(some 8), .mov (.tmp 0), none⟩,
    ⟨(some 9), .bin .lss (.tmp 8) (.con (.int .i64 0)), none⟩,
    ⟨(some 10), .mov (.tmp 9), none⟩,
    ⟨(some 11), .mov (.tmp 0), (some (10, false))⟩,
    ⟨(some 12), .bin .geq (.tmp 11) (.con (.int .i64 1024)), (some (10, false))⟩,
    ⟨(some 13), .pick (.tmp 10) (.con (.bool true)) (.tmp 12), none⟩,
    ⟨(some 14), .mov (.tmp 13), none⟩,
    ⟨(some 15), .mov (.tmp 1), (some (14, false))⟩,
    ⟨(some 16), .bin .lss (.tmp 15) (.con (.int .i64 1)), (some (14, false))⟩,
    ⟨(some 17), .pick (.tmp 14) (.con (.bool true)) (.tmp 16), none⟩,
    ⟨(some 18), .mov (.tmp 17), none⟩,
    ⟨(some 19), .mov (.tmp 1), (some (18, false))⟩,
    ⟨(some 20), .bin .gtr (.tmp 19) (.con (.int .i64 1073741824)), (some (18, false))⟩,
    ⟨(some 21), .pick (.tmp 18) (.con (.bool true)) (.tmp 20), none⟩])
  (.cond (.tmp 21)
  (.seq (.ops [⟨(some 6), .mov (.con (.int .i64 0)), none⟩])
  .ret)
  .skip))
  (.seq (.ops [⟨(some 22), .mov (.tmp 1), none⟩,
    ⟨(some 23), .bin .shl (.tmp 22) (.con (.int .u64 16)), none⟩,
    ⟨(some 24), .mov (.tmp 0), none⟩,
    ⟨(some 25), .bin .or (.tmp 23) (.tmp 24), none⟩,
    ⟨(some 7), .mov (.tmp 25), none⟩])
  (.seq (.seq (.ops [⟨(some 26), .mov (.tmp 2), none⟩])
  (.cond (.tmp 26)
  (.ops [⟨(some 27), .mov (.tmp 7), none⟩,
    ⟨(some 28), .bin .or (.tmp 27) (.con (.int .i64 281474976710656)), none⟩,
    ⟨(some 7), .mov (.tmp 28), none⟩])
  .skip))
  (.seq (.ops [⟨(some 29), .mov (.tmp 7), none⟩,
    ⟨(some 6), .mov (.tmp 29), none⟩])
  .ret)))))
def a43 : AFunc := ⟨3, c43, [.tmp 6]⟩

/- 44: (*tendril/pool.Pool).Has -/
def c44 : ACode := (.seq (.ops [⟨(some 4), .mov (.con (.bool false)), none⟩])
  (.seq (.ops [⟨(some 8), .mov (.tmp 0), none⟩,
    ⟨(some 9), .nilChk (.tmp 8), none⟩,
    ⟨(some 10), .fieldAddr 2 (.tmp 9), none⟩,
    ⟨(some 11), .load false 1 (.tmp 10), none⟩,
    ⟨(some 12), .mov (.tmp 1), none⟩,
    ⟨(some 13), .lookup 0 (.agg []) true (.tmp 11) (.tmp 12), none⟩,
    ⟨(some 7), .mov (.tmp 13), none⟩,
    ⟨(some 14), .extract (.tmp 7) 0, none⟩,
    ⟨(some 15), .extract (.tmp 7) 1, none⟩,
    ⟨(some 5), .new [], none⟩,
    ⟨none, .store 0 (.tmp 5) (.tmp 14), none⟩,
    ⟨(some 6), .mov (.tmp 15), none⟩])
  (.seq (.ops [⟨(some 16), .mov (.tmp 6), none⟩,
    ⟨(some 4), .mov (.tmp 16), none⟩])
  .ret)))
def a44 : AFunc := ⟨2, c44, [.tmp 4]⟩

/- 45: container/heap.Push -/
def c45 : ACode := (.seq (.ops [⟨(some 4), .mov (.tmp 0), none⟩,
    ⟨(some 5), .mov (.tmp 1), none⟩,
    ⟨(some 6), .callM [(101, 74, .self)] (.tmp 4) [(.tmp 5)], none⟩])
  (.ops [⟨(some 7), .mov (.tmp 0), none⟩,
    ⟨(some 8), .mov (.tmp 0), none⟩,
    ⟨(some 9), .callM [(17, 67, .self), (72, 37, .self), (96, 70, .self), (101, 70, (.deref false 1))] (.tmp 8) [], none⟩,
    ⟨(some 10), .bin .sub (.tmp 9) (.con (.int .i64 1)), none⟩,
    ⟨(some 11), .call 49 [(.tmp 7), (.tmp 10)], none⟩]))
def a45 : AFunc := ⟨2, c45, []⟩

/- 46: slices.Repeat[[]uint64,uint64] -/
def c46l0 : ACode := (.seq (.seq (.ops [⟨(some 34), .mov (.tmp 8), none⟩,
    ⟨(some 35), .mov (.tmp 7), none⟩,
    ⟨(some 36), .lenSlice (.tmp 35), none⟩,
    ⟨(some 37), .bin .lss (.tmp 34) (.tmp 36), none⟩])
  (.cond (.tmp 37)
  .skip
  (.exit 0)))
  (.block 1 (.ops [⟨(some 38), .mov (.tmp 8), none⟩,
    ⟨(some 39), .mov (.tmp 7), none⟩,
    ⟨(some 40), .mov (.tmp 8), none⟩,
    ⟨(some 41), .slc 1 (.tmp 39) (some (.tmp 40)) none none, none⟩,
    ⟨(some 42), .mov (.tmp 7), none⟩,
    ⟨(some 43), .mov (.tmp 8), none⟩,
    ⟨(some 44), .slc 1 (.tmp 42) none (some (.tmp 43)) none, none⟩,
    ⟨(some 45), .copy 1 (.tmp 41) (.tmp 44), none⟩,
    ⟨(some 46), .bin .add (.tmp 38) (.tmp 45), none⟩,
    ⟨(some 8), .mov (.tmp 46), none⟩])))
def c46 : ACode := (.seq (.ops [⟨(some 4), .mov (.con .nilSlice), none⟩])
  (.seq (.seq (.ops [⟨(some 9), .mov (.tmp 1), none⟩,
    ⟨(some 10), .bin .lss (.tmp 9) (.con (.int .i64 0)), none⟩])
  (.cond (.tmp 10)
  (.ops [⟨(some 11), .mkIface 9 (.con (.str [99, 97, 110, 110, 111, 116, 32, 98, 101, 32, 110, 101, 103, 97, 116, 105, 118, 101])), none⟩,
    ⟨none, .stuck, none⟩])
  .skip))
  (.seq (.ops [⟨(some 13), .mov (.tmp 0), none⟩,
    ⟨(some 14), .lenSlice (.tmp 13), none⟩,
    ⟨(some 15), .toInt .u64 (.tmp 14), none⟩,
    ⟨(some 16), .mov (.tmp 1), none⟩,
    ⟨(some 17), .toInt .u64 (.tmp 16), none⟩,
    ⟨(some 18), .call 50 [(.tmp 15), (.tmp 17)], none⟩,
    ⟨(some 12), .mov (.tmp 18), none⟩,
    ⟨(some 19), .extract (.tmp 12) 0, none⟩,
    ⟨(some 20), .extract (.tmp 12) 1, none⟩,
    ⟨(some 5), .mov (.tmp 19), none⟩,
    ⟨(some 6), .mov (.tmp 20), none⟩])
  (.seq (.seq (.ops [⟨(some 21), .mov (.tmp 5), none⟩,
    ⟨(some 22), .bin .gtr (.tmp 21) (.con (.int .u64 0)), none⟩,
    ⟨(some 23), .mov (.tmp 22), none⟩,
    ⟨(some 24), .mov (.tmp 6), (some (23, false))⟩,
    ⟨(some 25), .bin .gtr (.tmp 24) (.con (.int .u64 9223372036854775807)), (some (23, false))⟩,
    ⟨(some 26), .pick (.tmp 23) (.con (.bool true)) (.tmp 25), none⟩])
  (.cond (.tmp 26)
  (.ops [⟨(some 27), .mkIface 9 (.con (.str [116, 104, 101, 32, 114, 101, 115, 117, 108, 116, 32, 111, 102, 32, 40, 108, 101, 110, 40, 120, 41, 32, 42, 32, 99, 111, 117, 110, 116, 41, 32, 111, 118, 101, 114, 102, 108, 111, 119, 115])), none⟩,
    ⟨none, .stuck, none⟩])
  .skip))
  (.seq (.ops [⟨(some 28), .mov (.tmp 6), none⟩,
    ⟨(some 29), .toInt .i64 (.tmp 28), none⟩,
    ⟨(some 30), .mkSlice 1 8 [(.int .u64 0)] (.tmp 29) (.tmp 29), none⟩,
    ⟨(some 7), .mov (.tmp 30), none⟩])
  (.seq (.ops [⟨(some 31), .mov (.tmp 7), none⟩,
    ⟨(some 32), .mov (.tmp 0), none⟩,
    ⟨(some 33), .copy 1 (.tmp 31) (.tmp 32), none⟩,
    ⟨(some 8), .mov (.tmp 33), none⟩])
  (.seq (.block 0 (.loop c46l0))
  (.seq (.ops [⟨(some 47), .mov (.tmp 7), none⟩,
    ⟨(some 4), .mov (.tmp 47), none⟩])
  .ret))))))))
def a46 : AFunc := ⟨2, c46, [.tmp 4]⟩

/- 47: container/heap.Pop -/
def c47 : ACode := (.seq (.ops [⟨(some 2), .mov (.con .nilIface), none⟩])
  (.seq (.ops [⟨(some 4), .mov (.tmp 0), none⟩,
    ⟨(some 5), .callM [(17, 67, .self), (72, 37, .self), (96, 70, .self), (101, 70, (.deref false 1))] (.tmp 4) [], none⟩,
    ⟨(some 6), .bin .sub (.tmp 5) (.con (.int .i64 1)), none⟩,
    ⟨(some 3), .mov (.tmp 6), none⟩])
  (.seq (.ops [⟨(some 7), .mov (.tmp 0), none⟩,
    ⟨(some 8), .mov (.tmp 3), none⟩,
    ⟨(some 9), .callM [(22, 15, .self), (49, 26, .self), (96, 72, .self), (101, 72, (.deref false 1))] (.tmp 7) [(.con (.int .i64 0)), (.tmp 8)], none⟩])
  (.seq (.ops [⟨(some 10), .mov (.tmp 0), none⟩,
    ⟨(some 11), .mov (.tmp 3), none⟩,
    ⟨(some 12), .call 51 [(.tmp 10), (.con (.int .i64 0)), (.tmp 11)], none⟩])
  (.seq (.ops [⟨(some 13), .mov (.tmp 0), none⟩,
    ⟨(some 14), .callM [(101, 73, .self)] (.tmp 13) [], none⟩,
    ⟨(some 2), .mov (.tmp 14), none⟩])
  .ret)))))
def a47 : AFunc := ⟨1, c47, [.tmp 2]⟩

/- 48: tendril/tendrilref1.Parts -/
def c48 : ACode := (.seq (.ops [⟨(some 2), .mov (.con (.int .i64 0)), none⟩,
    ⟨(some 3), .mov (.con (.int .i64 0)), none⟩,
    ⟨(some 4), .mov (.con (.bool false)), none⟩,
    ⟨(some 5), .mov (.con (.bool false)), none⟩])
  (.seq (.seq (.ops [⟨(some 6), .mov (.tmp 0), none⟩,
    ⟨(some 7), .bin .leq (.tmp 6) (.con (.int .i64 0)), none⟩,
    ⟨(some 8), .mov (.tmp 7), none⟩,
    ⟨(some 9), .mov (.tmp 0), (some (8, false))⟩,
    ⟨(some 10), .bin .geq (.tmp 9) (.con (.int .i64 562949953421312)), (some (8, false))⟩,
    ⟨(some 11), .pick (.tmp 8) (.con (.bool true)) (.tmp 10), none⟩])
  (.cond (.tmp 11)
  (.seq (.ops [⟨(some 2), .mov (.con (.int .i64 0)), none⟩,
    ⟨(some 3), .mov (.con (.int .i64 0)), none⟩,
    ⟨(some 4), .mov (.con (.bool false)), none⟩,
    ⟨(some 5), .mov (.con (.bool false)), none⟩])
  .ret)
  .skip))
  (.seq (.ops [⟨(some 12), .mov (.tmp 0), none⟩,
    ⟨(some 13), .bin .and (.tmp 12) (.con (.int .i64 65535)), none⟩,
    ⟨(some 14), .mov (.tmp 0), none⟩,
    ⟨(some 15), .bin .shr (.tmp 14) (.con (.int .u64 16)), none⟩,
    ⟨(some 16), .bin .and (.tmp 15) (.con (.int .i64 4294967295)), none⟩,
    ⟨(some 17), .mov (.tmp 0), none⟩,
    ⟨(some 18), .bin .shr (.tmp 17) (.con (.int .u64 48)), none⟩,
    ⟨(some 19), .bin .eql (.tmp 18) (.con (.int .i64 1)), none⟩,
    ⟨(some 2), .mov (.tmp 13), none⟩,
    ⟨(some 3), .mov (.tmp 16), none⟩,
    ⟨(some 4), .mov (.tmp 19), none⟩])
  (.seq (.seq (.ops [⟨(some 20), .mov (.tmp 2), none⟩,
    ⟨(some 21), .mov (.tmp 3), none⟩,
    ⟨(some 22), .mov (.tmp 4), none⟩,
    ⟨(some 23), .call 43 [(.tmp 20), (.tmp 21), (.tmp 22)], none⟩,
    ⟨(some 24), .mov (.tmp 0), none⟩,
    ⟨(some 25), .bin .neq (.tmp 23) (.tmp 24), none⟩])
  (.cond (.tmp 25)
  (.seq (.ops [⟨(some 2), .mov (.con (.int .i64 0)), none⟩,
    ⟨(some 3), .mov (.con (.int .i64 0)), none⟩,
    ⟨(some 4), .mov (.con (.bool false)), none⟩,
    ⟨(some 5), .mov (.con (.bool false)), none⟩])
  .ret)
  .skip))
  (.seq (.ops [⟨(some 26), .mov (.tmp 2), none⟩,
    ⟨(some 27), .mov (.tmp 3), none⟩,
    ⟨(some 28), .mov (.tmp 4), none⟩,
    ⟨(some 2), .mov (.tmp 26), none⟩,
    ⟨(some 3), .mov (.tmp 27), none⟩,
    ⟨(some 4), .mov (.tmp 28), none⟩,
    ⟨(some 5), .mov (.con (.bool true)), none⟩])
  .ret)))))
def a48 : AFunc := ⟨1, c48, [.tmp 2, .tmp 3, .tmp 4, .tmp 5]⟩

/- 74: (*tendril/pool.least).Push -/
def c74 : ACode := (.draw [.op ⟨(some 4), .mov (.tmp 0), none⟩,
    .op ⟨(some 5), .mov (.tmp 0), none⟩,
    .op ⟨(some 6), .nilChk (.tmp 5), none⟩,
    .op ⟨(some 7), .load false 1 (.tmp 6), none⟩,
    .op ⟨(some 8), .mov (.tmp 1), none⟩,
    .op ⟨(some 9), .assertT 3 (.int .i64 0) false (.tmp 8), none⟩,
    .op ⟨(some 10), .buildSlice 1 1 [(.int .i64 0)] [(0, 1, (.tmp 9))], none⟩,
    .look ⟨(some 7), .load false 1 (.tmp 6), none⟩,
    .look ⟨(some 10), .buildSlice 1 1 [(.int .i64 0)] [(0, 1, (.tmp 9))], none⟩,
    .op ⟨(some 11), .append 1 8 (.tmp 7) (.tmp 10), none⟩,
    .op ⟨(some 12), .nilChk (.tmp 4), none⟩,
    .op ⟨none, .store 1 (.tmp 12) (.tmp 11), none⟩])
def a74 : AFunc := ⟨2, c74, []⟩
/- 67 (*internal/abi.Type).Len: no body, not compiled -/

/- 70: (tendril/pool.least).Len -/
def c70 : ACode := (.seq (.ops [⟨(some 2), .mov (.con (.int .i64 0)), none⟩])
  (.seq (.ops [⟨(some 3), .mov (.tmp 0), none⟩,
    ⟨(some 4), .lenSlice (.tmp 3), none⟩,
    ⟨(some 2), .mov (.tmp 4), none⟩])
  .ret))
def a70 : AFunc := ⟨1, c70, [.tmp 2]⟩

/- 49: container/heap.up -/
def c49l0 : ACode := (.block 1 (.seq (.ops [⟨(some 5), .mov (.tmp 1), none⟩,
    ⟨(some 6), .bin .sub (.tmp 5) (.con (.int .i64 1)), none⟩,
    ⟨(some 7), .bin .quo (.tmp 6) (.con (.int .i64 2)), none⟩,
    ⟨(some 4), .mov (.tmp 7), none⟩])
  (.seq (.seq (.ops [⟨(some 8), .mov (.tmp 4), none⟩,
    ⟨(some 9), .mov (.tmp 1), none⟩,
    ⟨(some 10), .bin .eql (.tmp 8) (.tmp 9), none⟩,
    ⟨(some 11), .mov (.tmp 10), none⟩,
    ⟨(some 12), .mov (.tmp 0), (some (11, false))⟩,
    ⟨(some 13), .mov (.tmp 1), (some (11, false))⟩,
    ⟨(some 14), .mov (.tmp 4), (some (11, false))⟩,
    ⟨(some 15), .callM [(96, 71, .self), (101, 71, (.deref false 1))] (.tmp 12) [(.tmp 13), (.tmp 14)], (some (11, false))⟩,
    ⟨(some 16), .un .not (.tmp 15), (some (11, false))⟩,
    ⟨(some 17), .pick (.tmp 11) (.con (.bool true)) (.tmp 16), none⟩])
  (.cond (.tmp 17)
  (.exit 0)
  .skip))
  (.seq (.ops [⟨(some 18), .mov (.tmp 0), none⟩,
    ⟨(some 19), .mov (.tmp 4), none⟩,
    ⟨(some 20), .mov (.tmp 1), none⟩,
    ⟨(some 21), .callM [(22, 15, .self), (49, 26, .self), (96, 72, .self), (101, 72, (.deref false 1))] (.tmp 18) [(.tmp 19), (.tmp 20)], none⟩])
  (.ops [⟨(some 22), .mov (.tmp 4), none⟩,
    ⟨(some 1), .mov (.tmp 22), none⟩])))))
def c49 : ACode := (.block 0 (.loop c49l0))
def a49 : AFunc := ⟨2, c49, []⟩

/- 50: math/bits.Mul -/
def c50 : ACode := (.seq (.ops [⟨(some 4), .mov (.con (.int .u64 0)), none⟩,
    ⟨(some 5), .mov (.con (.int .u64 0)), none⟩])
  (.seq (.cond (.con (.bool false))
  (.seq (.ops [⟨(some 11), .mov (.tmp 0), none⟩,
    ⟨(some 12), .toInt .u32 (.tmp 11), none⟩,
    ⟨(some 13), .mov (.tmp 1), none⟩,
    ⟨(some 14), .toInt .u32 (.tmp 13), none⟩,
    ⟨(some 15), .call 52 [(.tmp 12), (.tmp 14)], none⟩,
    ⟨(some 10), .mov (.tmp 15), none⟩,
    ⟨(some 16), .extract (.tmp 10) 0, none⟩,
    ⟨(some 17), .extract (.tmp 10) 1, none⟩,
    ⟨(some 6), .mov (.tmp 16), none⟩,
    ⟨(some 7), .mov (.tmp 17), none⟩])
  (.seq (.ops [⟨(some 18), .mov (.tmp 6), none⟩,
    ⟨(some 19), .toInt .u64 (.tmp 18), none⟩,
    ⟨(some 20), .mov (.tmp 7), none⟩,
    ⟨(some 21), .toInt .u64 (.tmp 20), none⟩,
    ⟨(some 4), .mov (.tmp 19), none⟩,
    ⟨(some 5), .mov (.tmp 21), none⟩])
  .ret))
  .skip)
  (.seq (.ops [⟨(some 23), .mov (.tmp 0), none⟩,
    ⟨(some 24), .mov (.tmp 1), none⟩,
    ⟨(some 25), .call 53 [(.tmp 23), (.tmp 24)], none⟩,
    ⟨(some 22), .mov (.tmp 25), none⟩,
    ⟨(some 26), .extract (.tmp 22) 0, none⟩,
    ⟨(some 27), .extract (.tmp 22) 1, none⟩,
    ⟨(some 8), .mov (.tmp 26), none⟩,
    ⟨(some 9), .mov (.tmp 27), none⟩])
  (.seq (.ops [⟨(some 28), .mov (.tmp 8), none⟩,
    ⟨(some 29), .mov (.tmp 9), none⟩,
    ⟨(some 4), .mov (.tmp 28), none⟩,
    ⟨(some 5), .mov (.tmp 29), none⟩])
  .ret))))
def a50 : AFunc := ⟨2, c50, [.tmp 4, .tmp 5]⟩

/- 72: (tendril/pool.least).Swap -/
def c72 : ACode := (.ops [⟨(some 6), .mov (.tmp 0), none⟩,
    ⟨(some 7), .mov (.tmp 1), none⟩,
    ⟨(some 8), .mov (.tmp 0), none⟩,
    ⟨(some 9), .mov (.tmp 2), none⟩,
    ⟨(some 10), .mov (.tmp 0), none⟩,
    ⟨(some 11), .mov (.tmp 2), none⟩,
    ⟨(some 12), .idxAddr 1 (.tmp 10) (.tmp 11), none⟩,
    ⟨(some 13), .load false 1 (.tmp 12), none⟩,
    ⟨(some 14), .mov (.tmp 0), none⟩,
    ⟨(some 15), .mov (.tmp 1), none⟩,
    ⟨(some 16), .idxAddr 1 (.tmp 14) (.tmp 15), none⟩,
    ⟨(some 17), .load false 1 (.tmp 16), none⟩,
    ⟨(some 18), .idxAddr 1 (.tmp 6) (.tmp 7), none⟩,
    ⟨none, .store 1 (.tmp 18) (.tmp 13), none⟩,
    ⟨(some 19), .idxAddr 1 (.tmp 8) (.tmp 9), none⟩,
    ⟨none, .store 1 (.tmp 19) (.tmp 17), none⟩])
def a72 : AFunc := ⟨3, c72, []⟩

/- 51: container/heap.down -/
def c51l0 : ACode := (.block 1 (.seq (.ops [⟨(some 12), .mov (.tmp 7), none⟩,
    ⟨(some 13), .bin .mul (.con (.int .i64 2)) (.tmp 12), none⟩,
    ⟨(some 14), .bin .add (.tmp 13) (.con (.int .i64 1)), none⟩,
    ⟨(some 8), .mov (.tmp 14), none⟩])
  (.seq (.seq (.ops [⟨(some 15), .mov (.tmp 8), none⟩,
    ⟨(some 16), .mov (.tmp 2), none⟩,
    ⟨(some 17), .bin .geq (.tmp 15) (.tmp 16), none⟩,
    ⟨(some 18), .mov (.tmp 17), none⟩,
    ⟨(some 19), .mov (.tmp 8), (some (18, false))⟩,
    ⟨(some 20), .bin .lss (.tmp 19) (.con (.int .i64 0)), (some (18, false))⟩,
    ⟨(some 21), .pick (.tmp 18) (.con (.bool true)) (.tmp 20), none⟩])
  (.cond (.tmp 21)
  (.exit 0)
  .skip))
  (.seq (.ops [⟨(some 22), .mov (.tmp 8), none⟩,
    ⟨(some 9), .mov (.tmp 22), none⟩])
  (.seq (.seq (.ops [⟨(some 23), .mov (.tmp 8), none⟩,
    ⟨(some 24), .bin .add (.tmp 23) (.con (.int .i64 1)), none⟩,
    ⟨(some 10), .mov (.tmp 24), none⟩])
  (.seq (.ops [⟨(some 25), .mov (.tmp 10), none⟩,
    ⟨(some 26), .mov (.tmp 2), none⟩,
    ⟨(some 27), .bin .lss (.tmp 25) (.tmp 26), none⟩,
    ⟨(some 28), .mov (.tmp 27), none⟩,
    ⟨(some 29), .mov (.tmp 0), (some (28, true))⟩,
    ⟨(some 30), .mov (.tmp 10), (some (28, true))⟩,
    ⟨(some 31), .mov (.tmp 8), (some (28, true))⟩,
    ⟨(some 32), .callM [(96, 71, .self), (101, 71, (.deref false 1))] (.tmp 29) [(.tmp 30), (.tmp 31)], (some (28, true))⟩,
    ⟨(some 33), .pick (.tmp 28) (.tmp 32) (.con (.bool false)), none⟩])
  (.cond (.tmp 33)
  (.ops [⟨(some 34), .mov (.tmp 10), none⟩,
    ⟨(some 9), .mov (.tmp 34), none⟩])
  .skip)))
  (.seq (.seq (.ops [⟨(some 35), .mov (.tmp 0), none⟩,
    ⟨(some 36), .mov (.tmp 9), none⟩,
    ⟨(some 37), .mov (.tmp 7), none⟩,
    ⟨(some 38), .callM [(96, 71, .self), (101, 71, (.deref false 1))] (.tmp 35) [(.tmp 36), (.tmp 37)], none⟩,
    ⟨(some 39), .un .not (.tmp 38), none⟩])
  (.cond (.tmp 39)
  (.exit 0)
  .skip))
  (.seq (.ops [⟨(some 40), .mov (.tmp 0), none⟩,
    ⟨(some 41), .mov (.tmp 7), none⟩,
    ⟨(some 42), .mov (.tmp 9), none⟩,
    ⟨(some 43), .callM [(22, 15, .self), (49, 26, .self), (96, 72, .self), (101, 72, (.deref false 1))] (.tmp 40) [(.tmp 41), (.tmp 42)], none⟩])
  (.ops [⟨(some 44), .mov (.tmp 9), none⟩,
    ⟨(some 7), .mov (.tmp 44), none⟩]))))))))
def c51 : ACode := (.seq (.ops [⟨(some 6), .mov (.con (.bool false)), none⟩])
  (.seq (.ops [⟨(some 11), .mov (.tmp 1), none⟩,
    ⟨(some 7), .mov (.tmp 11), none⟩])
  (.seq (.block 0 (.loop c51l0))
  (.seq (.ops [⟨(some 45), .mov (.tmp 7), none⟩,
    ⟨(some 46), .mov (.tmp 1), none⟩,
    ⟨(some 47), .bin .gtr (.tmp 45) (.tmp 46), none⟩,
    ⟨(some 6), .mov (.tmp 47), none⟩])
  .ret))))
def a51 : AFunc := ⟨3, c51, [.tmp 6]⟩

/- 73: (*tendril/pool.least).Pop -/
def c73 : ACode := (.seq (.ops [⟨(some 2), .mov (.con .nilIface), none⟩])
  (.seq (.ops [⟨(some 5), .mov (.tmp 0), none⟩,
    ⟨(some 6), .nilChk (.tmp 5), none⟩,
    ⟨(some 7), .load false 1 (.tmp 6), none⟩,
    ⟨(some 8), .lenSlice (.tmp 7), none⟩,
    ⟨(some 9), .bin .sub (.tmp 8) (.con (.int .i64 1)), none⟩,
    ⟨(some 3), .mov (.tmp 9), none⟩])
  (.seq (.ops [⟨(some 10), .mov (.tmp 0), none⟩,
    ⟨(some 11), .nilChk (.tmp 10), none⟩,
    ⟨(some 12), .load false 1 (.tmp 11), none⟩,
    ⟨(some 13), .mov (.tmp 3), none⟩,
    ⟨(some 14), .idxAddr 1 (.tmp 12) (.tmp 13), none⟩,
    ⟨(some 15), .load false 1 (.tmp 14), none⟩,
    ⟨(some 4), .mov (.tmp 15), none⟩])
  (.seq (.ops [⟨(some 16), .mov (.tmp 0), none⟩,
    ⟨(some 17), .mov (.tmp 0), none⟩,
    ⟨(some 18), .nilChk (.tmp 17), none⟩,
    ⟨(some 19), .load false 1 (.tmp 18), none⟩,
    ⟨(some 20), .mov (.tmp 3), none⟩,
    ⟨(some 21), .slc 1 (.tmp 19) none (some (.tmp 20)) none, none⟩,
    ⟨(some 22), .nilChk (.tmp 16), none⟩,
    ⟨none, .store 1 (.tmp 22) (.tmp 21), none⟩])
  (.seq (.ops [⟨(some 23), .mov (.tmp 4), none⟩,
    ⟨(some 24), .mkIface 3 (.tmp 23), none⟩,
    ⟨(some 2), .mov (.tmp 24), none⟩])
  .ret)))))
def a73 : AFunc := ⟨1, c73, [.tmp 2]⟩

/- 71: (tendril/pool.least).Less -/
def c71 : ACode := (.seq (.ops [⟨(some 6), .mov (.con (.bool false)), none⟩])
  (.seq (.ops [⟨(some 7), .mov (.tmp 0), none⟩,
    ⟨(some 8), .mov (.tmp 1), none⟩,
    ⟨(some 9), .idxAddr 1 (.tmp 7) (.tmp 8), none⟩,
    ⟨(some 10), .load false 1 (.tmp 9), none⟩,
    ⟨(some 11), .mov (.tmp 0), none⟩,
    ⟨(some 12), .mov (.tmp 2), none⟩,
    ⟨(some 13), .idxAddr 1 (.tmp 11) (.tmp 12), none⟩,
    ⟨(some 14), .load false 1 (.tmp 13), none⟩,
    ⟨(some 15), .bin .lss (.tmp 10) (.tmp 14), none⟩,
    ⟨(some 6), .mov (.tmp 15), none⟩])
  .ret))
def a71 : AFunc := ⟨3, c71, [.tmp 6]⟩

/- 52: math/bits.Mul32 -/
def c52 : ACode := (.seq (.ops [⟨(some 4), .mov (.con (.int .u32 0)), none⟩,
    ⟨(some 5), .mov (.con (.int .u32 0)), none⟩])
  (.seq (.ops [⟨(some 7), .mov (.tmp 0), none⟩,
    ⟨(some 8), .toInt .u64 (.tmp 7), none⟩,
    ⟨(some 9), .mov (.tmp 1), none⟩,
    ⟨(some 10), .toInt .u64 (.tmp 9), none⟩,
    ⟨(some 11), .bin .mul (.tmp 8) (.tmp 10), none⟩,
    ⟨(some 6), .mov (.tmp 11), none⟩])
  (.seq (.ops [⟨(some 12), .mov (.tmp 6), none⟩,
    ⟨(some 13), .bin .shr (.tmp 12) (.con (.int .u64 32)), none⟩,
    ⟨(some 14), .toInt .u32 (.tmp 13), none⟩,
    ⟨(some 15), .mov (.tmp 6), none⟩,
    ⟨(some 16), .toInt .u32 (.tmp 15), none⟩,
    ⟨(some 4), .mov (.tmp 14), none⟩,
    ⟨(some 5), .mov (.tmp 16), none⟩])
  .ret)))
def a52 : AFunc := ⟨2, c52, [.tmp 4, .tmp 5]⟩

/- 53: math/bits.Mul64 -/
def c53 : ACode := (.seq (.ops [⟨(some 4), .mov (.con (.int .u64 0)), none⟩,
    ⟨(some 5), .mov (.con (.int .u64 0)), none⟩])
  (.seq (.ops [⟨(some 14), .mov (.tmp 0), none⟩,
    ⟨(some 15), .bin .and (.tmp 14) (.con (.int .u64 4294967295)), none⟩,
    ⟨(some 6), .mov (.tmp 15), none⟩])
  (.seq (.ops [⟨(some 16), .mov (.tmp 0), none⟩,
    ⟨(some 17), .bin .shr (.tmp 16) (.con (.int .u64 32)), none⟩,
    ⟨(some 7), .mov (.tmp 17), none⟩])
  (.seq (.ops [⟨(some 18), .mov (.tmp 1), none⟩,
    ⟨(some 19), .bin .and (.tmp 18) (.con (.int .u64 4294967295)), none⟩,
    ⟨(some 8), .mov (.tmp 19), none⟩])
  (.seq (.ops [⟨(some 20), .mov (.tmp 1), none⟩,
    ⟨(some 21), .bin .shr (.tmp 20) (.con (.int .u64 32)), none⟩,
    ⟨(some 9), .mov (.tmp 21), none⟩])
  (.seq (.ops [⟨(some 22), .mov (.tmp 6), none⟩,
    ⟨(some 23), .mov (.tmp 8), none⟩,
    ⟨(some 24), .bin .mul (.tmp 22) (.tmp 23), none⟩,
    ⟨(some 10), .mov (.tmp 24), none⟩])
  (.seq (.ops [⟨(some 25), .mov (.tmp 7), none⟩,
    ⟨(some 26), .mov (.tmp 8), none⟩,
    ⟨(some 27), .bin .mul (.tmp 25) (.tmp 26), none⟩,
    ⟨(some 28), .mov (.tmp 10), none⟩,
    ⟨(some 29), .bin .shr (.tmp 28) (.con (.int .u64 32)), none⟩,
    ⟨(some 30), .bin .add (.tmp 27) (.tmp 29), none⟩,
    ⟨(some 11), .mov (.tmp 30), none⟩])
  (.seq (.ops [⟨(some 31), .mov (.tmp 11), none⟩,
    ⟨(some 32), .bin .and (.tmp 31) (.con (.int .u64 4294967295)), none⟩,
    ⟨(some 12), .mov (.tmp 32), none⟩])
  (.seq (.ops [⟨(some 33), .mov (.tmp 11), none⟩,
    ⟨(some 34), .bin .shr (.tmp 33) (.con (.int .u64 32)), none⟩,
    ⟨(some 13), .mov (.tmp 34), none⟩])
  (.seq (.ops [⟨(some 35), .mov (.tmp 12), none⟩,
    ⟨(some 36), .mov (.tmp 6), none⟩,
    ⟨(some 37), .mov (.tmp 9), none⟩,
    ⟨(some 38), .bin .mul (.tmp 36) (.tmp 37), none⟩,
    ⟨(some 39), .bin .add (.tmp 35) (.tmp 38), none⟩,
    ⟨(some 12), .mov (.tmp 39), none⟩])
  (.seq (.ops [⟨(some 40), .mov (.tmp 7), none⟩,
    ⟨(some 41), .mov (.tmp 9), none⟩,
    ⟨(some 42), .bin .mul (.tmp 40) (.tmp 41), none⟩,
    ⟨(some 43), .mov (.tmp 13), none⟩,
    ⟨(some 44), .bin .add (.tmp 42) (.tmp 43), none⟩,
    ⟨(some 45), .mov (.tmp 12), none⟩,
    ⟨(some 46), .bin .shr (.tmp 45) (.con (.int .u64 32)), none⟩,
    ⟨(some 47), .bin .add (.tmp 44) (.tmp 46), none⟩,
    ⟨(some 4), .mov (.tmp 47), none⟩])
  (.seq (.ops [⟨(some 48), .mov (.tmp 0), none⟩,
    ⟨(some 49), .mov (.tmp 1), none⟩,
    ⟨(some 50), .bin .mul (.tmp 48) (.tmp 49), none⟩,
    ⟨(some 5), .mov (.tmp 50), none⟩])
  .ret))))))))))))
def a53 : AFunc := ⟨2, c53, [.tmp 4, .tmp 5]⟩

/- rows -/
def table : Nat → Option AFunc
  | 3 => some a3
  | 6 => some a6
  | 9 => some a9
  | 10 => some a10
  | 11 => some a11
  | 12 => some a12
  | 13 => some a13
  | 14 => some a14
  | 15 => some a15
  | 16 => some a16
  | 17 => some a17
  | 18 => some a18
  | 19 => some a19
  | 20 => some a20
  | 21 => some a21
  | 22 => some a22
  | 23 => some a23
  | 24 => some a24
  | 25 => some a25
  | 26 => some a26
  | 27 => some a27
  | 28 => some a28
  | 29 => some a29
  | 30 => some a30
  | 31 => some a31
  | 32 => some a32
  | 33 => some a33
  | 34 => some a34
  | 35 => some a35
  | 36 => some a36
  | 37 => some a37
  | 38 => some a38
  | 39 => some a39
  | 40 => some a40
  | 41 => some a41
  | 42 => some a42
  | 43 => some a43
  | 44 => some a44
  | 45 => some a45
  | 46 => some a46
  | 47 => some a47
  | 48 => some a48
  | 74 => some a74
  | 70 => some a70
  | 49 => some a49
  | 50 => some a50
  | 72 => some a72
  | 51 => some a51
  | 73 => some a73
  | 71 => some a71
  | 52 => some a52
  | 53 => some a53
  | _ => none
theorem k3 : cFunc Try.prog Try.f3 = some a3 := by kernel_rfl
theorem k6 : cFunc Try.prog Try.f6 = some a6 := by kernel_rfl
theorem k9 : cFunc Try.prog Try.f9 = some a9 := by kernel_rfl
theorem k10 : cFunc Try.prog Try.f10 = some a10 := by kernel_rfl
theorem k11 : cFunc Try.prog Try.f11 = some a11 := by kernel_rfl
theorem k12 : cFunc Try.prog Try.f12 = some a12 := by kernel_rfl
theorem k13 : cFunc Try.prog Try.f13 = some a13 := by kernel_rfl
theorem k14 : cFunc Try.prog Try.f14 = some a14 := by kernel_rfl
theorem k15 : cFunc Try.prog Try.f15 = some a15 := by kernel_rfl
theorem k16 : cFunc Try.prog Try.f16 = some a16 := by kernel_rfl
theorem k17 : cFunc Try.prog Try.f17 = some a17 := by kernel_rfl
theorem k18 : cFunc Try.prog Try.f18 = some a18 := by kernel_rfl
theorem k19 : cFunc Try.prog Try.f19 = some a19 := by kernel_rfl
theorem k20 : cFunc Try.prog Try.f20 = some a20 := by kernel_rfl
theorem k21 : cFunc Try.prog Try.f21 = some a21 := by kernel_rfl
theorem k22 : cFunc Try.prog Try.f22 = some a22 := by kernel_rfl
theorem k23 : cFunc Try.prog Try.f23 = some a23 := by kernel_rfl
theorem k24 : cFunc Try.prog Try.f24 = some a24 := by kernel_rfl
theorem k25 : cFunc Try.prog Try.f25 = some a25 := by kernel_rfl
theorem k26 : cFunc Try.prog Try.f26 = some a26 := by kernel_rfl
theorem k27 : cFunc Try.prog Try.f27 = some a27 := by kernel_rfl
theorem k28 : cFunc Try.prog Try.f28 = some a28 := by kernel_rfl
theorem k29 : cFunc Try.prog Try.f29 = some a29 := by kernel_rfl
theorem k30 : cFunc Try.prog Try.f30 = some a30 := by kernel_rfl
theorem k31 : cFunc Try.prog Try.f31 = some a31 := by kernel_rfl
theorem k32 : cFunc Try.prog Try.f32 = some a32 := by kernel_rfl
theorem k33 : cFunc Try.prog Try.f33 = some a33 := by kernel_rfl
theorem k34 : cFunc Try.prog Try.f34 = some a34 := by kernel_rfl
theorem k35 : cFunc Try.prog Try.f35 = some a35 := by kernel_rfl
theorem k36 : cFunc Try.prog Try.f36 = some a36 := by kernel_rfl
theorem k37 : cFunc Try.prog Try.f37 = some a37 := by kernel_rfl
theorem k38 : cFunc Try.prog Try.f38 = some a38 := by kernel_rfl
theorem k39 : cFunc Try.prog Try.f39 = some a39 := by kernel_rfl
theorem k40 : cFunc Try.prog Try.f40 = some a40 := by kernel_rfl
theorem k41 : cFunc Try.prog Try.f41 = some a41 := by kernel_rfl
theorem k42 : cFunc Try.prog Try.f42 = some a42 := by kernel_rfl
theorem k43 : cFunc Try.prog Try.f43 = some a43 := by kernel_rfl
theorem k44 : cFunc Try.prog Try.f44 = some a44 := by kernel_rfl
theorem k45 : cFunc Try.prog Try.f45 = some a45 := by kernel_rfl
theorem k46 : cFunc Try.prog Try.f46 = some a46 := by kernel_rfl
theorem k47 : cFunc Try.prog Try.f47 = some a47 := by kernel_rfl
theorem k48 : cFunc Try.prog Try.f48 = some a48 := by kernel_rfl
theorem k74 : cFunc Try.prog Try.f74 = some a74 := by kernel_rfl
theorem k70 : cFunc Try.prog Try.f70 = some a70 := by kernel_rfl
theorem k49 : cFunc Try.prog Try.f49 = some a49 := by kernel_rfl
theorem k50 : cFunc Try.prog Try.f50 = some a50 := by kernel_rfl
theorem k72 : cFunc Try.prog Try.f72 = some a72 := by kernel_rfl
theorem k51 : cFunc Try.prog Try.f51 = some a51 := by kernel_rfl
theorem k73 : cFunc Try.prog Try.f73 = some a73 := by kernel_rfl
theorem k71 : cFunc Try.prog Try.f71 = some a71 := by kernel_rfl
theorem k52 : cFunc Try.prog Try.f52 = some a52 := by kernel_rfl
theorem k53 : cFunc Try.prog Try.f53 = some a53 := by kernel_rfl
theorem table_ok : ∀ g af, table g = some af → ∃ fn, Try.prog.funcs[g]? = some fn ∧ cFunc Try.prog fn = some af := by
  intro g af h
  unfold table at h
  split at h
  · cases h; exact ⟨Try.f3, Try.func3, k3⟩
  · cases h; exact ⟨Try.f6, Try.func6, k6⟩
  · cases h; exact ⟨Try.f9, Try.func9, k9⟩
  · cases h; exact ⟨Try.f10, Try.func10, k10⟩
  · cases h; exact ⟨Try.f11, Try.func11, k11⟩
  · cases h; exact ⟨Try.f12, Try.func12, k12⟩
  · cases h; exact ⟨Try.f13, Try.func13, k13⟩
  · cases h; exact ⟨Try.f14, Try.func14, k14⟩
  · cases h; exact ⟨Try.f15, Try.func15, k15⟩
  · cases h; exact ⟨Try.f16, Try.func16, k16⟩
  · cases h; exact ⟨Try.f17, Try.func17, k17⟩
  · cases h; exact ⟨Try.f18, Try.func18, k18⟩
  · cases h; exact ⟨Try.f19, Try.func19, k19⟩
  · cases h; exact ⟨Try.f20, Try.func20, k20⟩
  · cases h; exact ⟨Try.f21, Try.func21, k21⟩
  · cases h; exact ⟨Try.f22, Try.func22, k22⟩
  · cases h; exact ⟨Try.f23, Try.func23, k23⟩
  · cases h; exact ⟨Try.f24, Try.func24, k24⟩
  · cases h; exact ⟨Try.f25, Try.func25, k25⟩
  · cases h; exact ⟨Try.f26, Try.func26, k26⟩
  · cases h; exact ⟨Try.f27, Try.func27, k27⟩
  · cases h; exact ⟨Try.f28, Try.func28, k28⟩
  · cases h; exact ⟨Try.f29, Try.func29, k29⟩
  · cases h; exact ⟨Try.f30, Try.func30, k30⟩
  · cases h; exact ⟨Try.f31, Try.func31, k31⟩
  · cases h; exact ⟨Try.f32, Try.func32, k32⟩
  · cases h; exact ⟨Try.f33, Try.func33, k33⟩
  · cases h; exact ⟨Try.f34, Try.func34, k34⟩
  · cases h; exact ⟨Try.f35, Try.func35, k35⟩
  · cases h; exact ⟨Try.f36, Try.func36, k36⟩
  · cases h; exact ⟨Try.f37, Try.func37, k37⟩
  · cases h; exact ⟨Try.f38, Try.func38, k38⟩
  · cases h; exact ⟨Try.f39, Try.func39, k39⟩
  · cases h; exact ⟨Try.f40, Try.func40, k40⟩
  · cases h; exact ⟨Try.f41, Try.func41, k41⟩
  · cases h; exact ⟨Try.f42, Try.func42, k42⟩
  · cases h; exact ⟨Try.f43, Try.func43, k43⟩
  · cases h; exact ⟨Try.f44, Try.func44, k44⟩
  · cases h; exact ⟨Try.f45, Try.func45, k45⟩
  · cases h; exact ⟨Try.f46, Try.func46, k46⟩
  · cases h; exact ⟨Try.f47, Try.func47, k47⟩
  · cases h; exact ⟨Try.f48, Try.func48, k48⟩
  · cases h; exact ⟨Try.f74, Try.func74, k74⟩
  · cases h; exact ⟨Try.f70, Try.func70, k70⟩
  · cases h; exact ⟨Try.f49, Try.func49, k49⟩
  · cases h; exact ⟨Try.f50, Try.func50, k50⟩
  · cases h; exact ⟨Try.f72, Try.func72, k72⟩
  · cases h; exact ⟨Try.f51, Try.func51, k51⟩
  · cases h; exact ⟨Try.f73, Try.func73, k73⟩
  · cases h; exact ⟨Try.f71, Try.func71, k71⟩
  · cases h; exact ⟨Try.f52, Try.func52, k52⟩
  · cases h; exact ⟨Try.f53, Try.func53, k53⟩
  · cases h
end Go.Proofs.Ytejjkienklaghaa

/- The abstract code of the functions that the laws reach, as a program printed it; each is what the compiler makes of the given function. -/
import Derived.Test.YtpabmkicdcilpaaVmZ
namespace Go.Proofs.Ytpabmkicdcilpaa
open Go.Vm
/- 3: tendril/tendrillaw7.NodeRuns -/
def c3 : ACode := (.seq (.ops [⟨(some 0), .mov (.con (.bool false)), none⟩])
  (.seq (.ops [⟨(some 11), .buildSlice 1 2 [(.int .u8 0), (.int .u8 0)] [(0, 1, (.con (.int .u8 97))), (1, 1, (.con (.int .u8 99)))], none⟩,
    ⟨(some 12), .mark (.tmp 11), none⟩,
    ⟨(some 13), .buildSlice 1 2 [(.int .i64 0), (.int .i64 0)] [(0, 1, (.con (.int .i64 65536))), (1, 1, (.con (.int .i64 65537)))], none⟩,
    ⟨(some 14), .build [(.int .i64 0), (.int .u64 0), (.str []), .nilSlice, .nilSlice] [(0, 1, (.con (.int .i64 1))), (1, 1, (.con (.int .u64 4))), (2, 1, (.con (.str [120]))), (3, 1, (.tmp 12)), (4, 1, (.tmp 13))], none⟩,
    ⟨(some 1), .new [(.int .i64 0), (.int .u64 0), (.str []), .nilSlice, .nilSlice], none⟩,
    ⟨none, .store 5 (.tmp 1) (.tmp 14), none⟩])
  (.seq (.ops [⟨(some 15), .load true 5 (.tmp 1), none⟩,
    ⟨(some 16), .call 15 [(.tmp 15)], none⟩,
    ⟨(some 2), .mov (.tmp 16), none⟩])
  (.seq (.ops [⟨(some 18), .load true 5 (.tmp 1), none⟩,
    ⟨(some 19), .call 16 [(.tmp 18), (.con (.int .u8 98)), (.con (.int .i64 65538))], none⟩,
    ⟨(some 17), .mov (.tmp 19), none⟩,
    ⟨(some 20), .extract (.tmp 17) 0, none⟩,
    ⟨(some 21), .extract (.tmp 17) 1, none⟩,
    ⟨(some 3), .new [(.int .i64 0), (.int .u64 0), (.str []), .nilSlice, .nilSlice], none⟩,
    ⟨none, .store 5 (.tmp 3) (.tmp 20), none⟩,
    ⟨(some 4), .mov (.tmp 21), none⟩])
  (.seq (.ops [⟨(some 23), .load true 5 (.tmp 1), none⟩,
    ⟨(some 24), .call 17 [(.tmp 23), (.con (.int .u8 99))], none⟩,
    ⟨(some 22), .mov (.tmp 24), none⟩,
    ⟨(some 25), .extract (.tmp 22) 0, none⟩,
    ⟨(some 26), .extract (.tmp 22) 1, none⟩,
    ⟨(some 5), .new [(.int .i64 0), (.int .u64 0), (.str []), .nilSlice, .nilSlice], none⟩,
    ⟨none, .store 5 (.tmp 5) (.tmp 25), none⟩,
    ⟨(some 6), .mov (.tmp 26), none⟩])
  (.seq (.ops [⟨(some 28), .load true 5 (.tmp 3), none⟩,
    ⟨(some 29), .call 16 [(.tmp 28), (.con (.int .u8 100)), (.con (.int .i64 65539))], none⟩,
    ⟨(some 27), .mov (.tmp 29), none⟩,
    ⟨(some 30), .extract (.tmp 27) 0, none⟩,
    ⟨(some 31), .extract (.tmp 27) 1, none⟩,
    ⟨(some 7), .new [(.int .i64 0), (.int .u64 0), (.str []), .nilSlice, .nilSlice], none⟩,
    ⟨none, .store 5 (.tmp 7) (.tmp 30), none⟩,
    ⟨(some 8), .mov (.tmp 31), none⟩])
  (.seq (.ops [⟨(some 33), .load true 5 (.tmp 7), none⟩,
    ⟨(some 34), .call 16 [(.tmp 33), (.con (.int .u8 101)), (.con (.int .i64 65540))], none⟩,
    ⟨(some 32), .mov (.tmp 34), none⟩,
    ⟨(some 35), .extract (.tmp 32) 0, none⟩,
    ⟨(some 36), .extract (.tmp 32) 1, none⟩,
    ⟨(some 9), .new [(.int .i64 0), (.int .u64 0), (.str []), .nilSlice, .nilSlice], none⟩,
    ⟨none, .store 5 (.tmp 9) (.tmp 35), none⟩,
    ⟨(some 10), .mov (.tmp 36), none⟩])
  (.seq (.ops [⟨(some 37), .mov (.tmp 2), none⟩,
    ⟨(some 38), .buildSlice 1 12 [(.int .u64 0), (.int .u64 0), (.int .u64 0), (.int .u64 0), (.int .u64 0), (.int .u64 0), (.int .u64 0), (.int .u64 0), (.int .u64 0), (.int .u64 0), (.int .u64 0), (.int .u64 0)] [(0, 1, (.con (.int .u64 4))), (1, 1, (.con (.int .u64 131329))), (2, 1, (.con (.int .u64 120))), (3, 1, (.con (.int .u64 0))), (4, 1, (.con (.int .u64 25441))), (5, 1, (.con (.int .u64 65536))), (6, 1, (.con (.int .u64 65537))), (7, 1, (.con (.int .u64 0))), (8, 1, (.con (.int .u64 0))), (9, 1, (.con (.int .u64 0))), (10, 1, (.con (.int .u64 0))), (11, 1, (.con (.int .u64 0)))], none⟩,
    ⟨(some 39), .call 18 [(.tmp 37), (.tmp 38)], none⟩,
    ⟨(some 40), .mov (.tmp 39), none⟩,
    ⟨(some 41), .mov (.tmp 4), (some (40, true))⟩,
    ⟨(some 42), .pick (.tmp 40) (.tmp 41) (.con (.bool false)), none⟩,
    ⟨(some 43), .mov (.tmp 42), none⟩,
    ⟨(some 44), .fieldAddr 3 (.tmp 3), (some (43, true))⟩,
    ⟨(some 45), .load false 1 (.tmp 44), (some (43, true))⟩,
    ⟨(some 46), .toStr (.tmp 45), (some (43, true))⟩,
    ⟨(some 47), .bin .eql (.tmp 46) (.con (.str [97, 98, 99])), (some (43, true))⟩,
    ⟨(some 48), .pick (.tmp 43) (.tmp 47) (.con (.bool false)), none⟩,
    ⟨(some 49), .mov (.tmp 48), none⟩,
    ⟨(some 50), .fieldAddr 4 (.tmp 3), (some (49, true))⟩,
    ⟨(some 51), .load false 1 (.tmp 50), (some (49, true))⟩,
    ⟨(some 52), .buildSlice 1 3 [(.int .i64 0), (.int .i64 0), (.int .i64 0)] [(0, 1, (.con (.int .i64 65536))), (1, 1, (.con (.int .i64 65538))), (2, 1, (.con (.int .i64 65537)))], (some (49, true))⟩,
    ⟨(some 53), .call 19 [(.tmp 51), (.tmp 52)], (some (49, true))⟩,
    ⟨(some 54), .pick (.tmp 49) (.tmp 53) (.con (.bool false)), none⟩,
    ⟨(some 55), .mov (.tmp 54), none⟩,
    ⟨(some 56), .mov (.tmp 6), (some (55, true))⟩,
    ⟨(some 57), .pick (.tmp 55) (.tmp 56) (.con (.bool false)), none⟩,
    ⟨(some 58), .mov (.tmp 57), none⟩,
    ⟨(some 59), .fieldAddr 3 (.tmp 5), (some (58, true))⟩,
    ⟨(some 60), .load false 1 (.tmp 59), (some (58, true))⟩,
    ⟨(some 61), .toStr (.tmp 60), (some (58, true))⟩,
    ⟨(some 62), .bin .eql (.tmp 61) (.con (.str [97])), (some (58, true))⟩,
    ⟨(some 63), .pick (.tmp 58) (.tmp 62) (.con (.bool false)), none⟩,
    ⟨(some 64), .mov (.tmp 63), none⟩,
    ⟨(some 65), .mov (.tmp 8), (some (64, true))⟩,
    ⟨(some 66), .pick (.tmp 64) (.tmp 65) (.con (.bool false)), none⟩,
    ⟨(some 67), .mov (.tmp 66), none⟩,
    ⟨(some 68), .mov (.tmp 10), (some (67, true))⟩,
    ⟨(some 69), .un .not (.tmp 68), (some (67, true))⟩,
    ⟨(some 70), .pick (.tmp 67) (.tmp 69) (.con (.bool false)), none⟩,
    ⟨(some 0), .mov (.tmp 70), none⟩])
  .ret))))))))
def a3 : AFunc := ⟨0, c3, [.tmp 0]⟩

/- 8: tendril/tendrillaw7.NodeBands -/
def c8 : ACode := (.seq (.ops [⟨(some 2), .mov (.con (.bool false)), none⟩])
  (.seq (.ops [⟨(some 4), .mov (.tmp 0), none⟩,
    ⟨(some 5), .call 22 [(.tmp 4), (.con (.int .i64 0)), (.con (.int .i64 2))], none⟩,
    ⟨(some 6), .bin .add (.con (.int .i64 1)) (.tmp 5), none⟩,
    ⟨(some 3), .mov (.tmp 6), none⟩])
  (.seq (.ops [⟨(some 7), .mov (.tmp 3), none⟩,
    ⟨(some 8), .call 27 [(.tmp 7)], none⟩,
    ⟨(some 9), .bin .add (.tmp 8) (.con (.int .i64 1)), none⟩,
    ⟨(some 10), .mov (.tmp 3), none⟩,
    ⟨(some 11), .bin .add (.tmp 10) (.con (.int .i64 1)), none⟩,
    ⟨(some 12), .call 30 [(.tmp 11)], none⟩,
    ⟨(some 13), .bin .geq (.tmp 9) (.tmp 12), none⟩,
    ⟨(some 14), .mov (.tmp 13), none⟩,
    ⟨(some 15), .mov (.tmp 3), (some (14, true))⟩,
    ⟨(some 16), .bin .add (.tmp 15) (.con (.int .i64 1)), (some (14, true))⟩,
    ⟨(some 17), .call 30 [(.tmp 16)], (some (14, true))⟩,
    ⟨(some 18), .bin .sub (.tmp 17) (.con (.int .i64 1)), (some (14, true))⟩,
    ⟨(some 19), .mov (.tmp 3), (some (14, true))⟩,
    ⟨(some 20), .call 27 [(.tmp 19)], (some (14, true))⟩,
    ⟨(some 21), .bin .leq (.tmp 18) (.tmp 20), (some (14, true))⟩,
    ⟨(some 22), .pick (.tmp 14) (.tmp 21) (.con (.bool false)), none⟩,
    ⟨(some 23), .mov (.tmp 22), none⟩,
    ⟨(some 24), .mov (.tmp 3), (some (23, true))⟩,
    ⟨(some 25), .bin .add (.tmp 24) (.con (.int .i64 1)), (some (23, true))⟩,
    ⟨(some 26), .call 30 [(.tmp 25)], (some (23, true))⟩,
    ⟨(some 27), .bin .sub (.tmp 26) (.con (.int .i64 1)), (some (23, true))⟩,
    ⟨(some 28), .mov (.tmp 3), (some (23, true))⟩,
    ⟨(some 29), .call 30 [(.tmp 28)], (some (23, true))⟩,
    ⟨(some 30), .bin .geq (.tmp 27) (.tmp 29), (some (23, true))⟩,
    ⟨(some 31), .pick (.tmp 23) (.tmp 30) (.con (.bool false)), none⟩,
    ⟨(some 32), .mov (.tmp 31), none⟩,
    ⟨(some 33), .mov (.tmp 3), (some (32, true))⟩,
    ⟨(some 34), .call 27 [(.tmp 33)], (some (32, true))⟩,
    ⟨(some 35), .mov (.tmp 3), (some (32, true))⟩,
    ⟨(some 36), .bin .add (.tmp 35) (.con (.int .i64 1)), (some (32, true))⟩,
    ⟨(some 37), .call 27 [(.tmp 36)], (some (32, true))⟩,
    ⟨(some 38), .bin .lss (.tmp 34) (.tmp 37), (some (32, true))⟩,
    ⟨(some 39), .pick (.tmp 32) (.tmp 38) (.con (.bool false)), none⟩,
    ⟨(some 40), .mov (.tmp 39), none⟩,
    ⟨(some 41), .call 3 [], (some (40, true))⟩,
    ⟨(some 42), .pick (.tmp 40) (.tmp 41) (.con (.bool false)), none⟩,
    ⟨(some 2), .mov (.tmp 42), none⟩])
  .ret)))
def a8 : AFunc := ⟨1, c8, [.tmp 2]⟩

/- 5: tendril/tendrillaw7.NodeTurns -/
def c5 : ACode := (.seq (.ops [⟨(some 2), .box (.tmp 0), none⟩,
    ⟨(some 4), .mov (.con (.bool false)), none⟩])
  (.seq (.ops [⟨(some 11), .load true 5 (.tmp 2), none⟩,
    ⟨(some 12), .call 25 [(.tmp 11)], none⟩,
    ⟨(some 5), .new [(.int .i64 0), (.int .u64 0), (.str []), .nilSlice, .nilSlice], none⟩,
    ⟨none, .store 5 (.tmp 5) (.tmp 12), none⟩])
  (.seq (.ops [⟨(some 13), .mov (.tmp 1), none⟩,
    ⟨(some 14), .call 22 [(.tmp 13), (.con (.int .i64 0)), (.con (.int .i64 3))], none⟩,
    ⟨(some 15), .bin .add (.con (.int .i64 1)) (.tmp 14), none⟩,
    ⟨(some 6), .mov (.tmp 15), none⟩])
  (.seq (.ops [⟨(some 17), .load true 5 (.tmp 5), none⟩,
    ⟨(some 18), .mov (.tmp 6), none⟩,
    ⟨(some 19), .call 26 [(.tmp 17), (.tmp 18)], none⟩,
    ⟨(some 16), .mov (.tmp 19), none⟩,
    ⟨(some 20), .extract (.tmp 16) 0, none⟩,
    ⟨(some 21), .extract (.tmp 16) 1, none⟩,
    ⟨(some 7), .new [(.int .i64 0), (.int .u64 0), (.str []), .nilSlice, .nilSlice], none⟩,
    ⟨none, .store 5 (.tmp 7) (.tmp 20), none⟩,
    ⟨(some 8), .mov (.tmp 21), none⟩])
  (.seq (.seq (.draw [.op ⟨(some 22), .mov (.tmp 8), none⟩,
    .op ⟨(some 23), .fieldAddr 3 (.tmp 5), none⟩,
    .op ⟨(some 24), .load false 1 (.tmp 23), none⟩,
    .op ⟨(some 25), .lenSlice (.tmp 24), none⟩,
    .op ⟨(some 26), .mov (.tmp 6), none⟩,
    .op ⟨(some 27), .call 27 [(.tmp 26)], none⟩,
    .op ⟨(some 28), .bin .leq (.tmp 25) (.tmp 27), none⟩,
    .op ⟨(some 29), .eqB true (.tmp 22) (.tmp 28), none⟩,
    .look ⟨(some 24), .load false 1 (.tmp 23), none⟩])
  (.cond (.tmp 29)
  (.seq (.ops [⟨(some 4), .mov (.con (.bool false)), none⟩])
  .ret)
  .skip))
  (.seq (.seq (.ops [⟨(some 30), .mov (.tmp 8), none⟩,
    ⟨(some 31), .un .not (.tmp 30), none⟩])
  (.cond (.tmp 31)
  (.seq (.ops [⟨(some 32), .mov (.tmp 6), none⟩,
    ⟨(some 33), .fieldAddr 0 (.tmp 5), none⟩,
    ⟨(some 34), .load false 1 (.tmp 33), none⟩,
    ⟨(some 35), .bin .lss (.tmp 32) (.tmp 34), none⟩,
    ⟨(some 36), .mov (.tmp 35), none⟩,
    ⟨(some 37), .call 3 [], (some (36, true))⟩,
    ⟨(some 38), .pick (.tmp 36) (.tmp 37) (.con (.bool false)), none⟩,
    ⟨(some 4), .mov (.tmp 38), none⟩])
  .ret)
  .skip))
  (.seq (.ops [⟨(some 40), .load true 5 (.tmp 7), none⟩,
    ⟨(some 41), .fieldAddr 0 (.tmp 5), none⟩,
    ⟨(some 42), .load false 1 (.tmp 41), none⟩,
    ⟨(some 43), .call 26 [(.tmp 40), (.tmp 42)], none⟩,
    ⟨(some 39), .mov (.tmp 43), none⟩,
    ⟨(some 44), .extract (.tmp 39) 0, none⟩,
    ⟨(some 45), .extract (.tmp 39) 1, none⟩,
    ⟨(some 9), .new [(.int .i64 0), (.int .u64 0), (.str []), .nilSlice, .nilSlice], none⟩,
    ⟨none, .store 5 (.tmp 9) (.tmp 44), none⟩,
    ⟨(some 10), .mov (.tmp 45), none⟩])
  (.seq (.ops [⟨(some 46), .fieldAddr 1 (.tmp 5), none⟩,
    ⟨none, .store 1 (.tmp 46) (.con (.int .u64 0)), none⟩])
  (.seq (.ops [⟨(some 47), .mov (.tmp 10), none⟩,
    ⟨(some 48), .mov (.tmp 47), none⟩,
    ⟨(some 49), .load true 5 (.tmp 9), (some (48, true))⟩,
    ⟨(some 50), .load true 5 (.tmp 5), (some (48, true))⟩,
    ⟨(some 51), .call 23 [(.tmp 49), (.tmp 50)], (some (48, true))⟩,
    ⟨(some 52), .pick (.tmp 48) (.tmp 51) (.con (.bool false)), none⟩,
    ⟨(some 53), .mov (.tmp 52), none⟩,
    ⟨(some 54), .fieldAddr 0 (.tmp 7), (some (53, true))⟩,
    ⟨(some 55), .load false 1 (.tmp 54), (some (53, true))⟩,
    ⟨(some 56), .mov (.tmp 6), (some (53, true))⟩,
    ⟨(some 57), .bin .eql (.tmp 55) (.tmp 56), (some (53, true))⟩,
    ⟨(some 58), .pick (.tmp 53) (.tmp 57) (.con (.bool false)), none⟩,
    ⟨(some 59), .mov (.tmp 58), none⟩,
    ⟨(some 60), .fieldAddr 1 (.tmp 7), (some (59, true))⟩,
    ⟨(some 61), .load false 1 (.tmp 60), (some (59, true))⟩,
    ⟨(some 62), .bin .eql (.tmp 61) (.con (.int .u64 0)), (some (59, true))⟩,
    ⟨(some 63), .pick (.tmp 59) (.tmp 62) (.con (.bool false)), none⟩,
    ⟨(some 64), .mov (.tmp 63), none⟩,
    ⟨(some 65), .fieldAddr 3 (.tmp 7), (some (64, true))⟩,
    ⟨(some 66), .load false 1 (.tmp 65), (some (64, true))⟩,
    ⟨(some 67), .fieldAddr 3 (.tmp 5), (some (64, true))⟩,
    ⟨(some 68), .load false 1 (.tmp 67), (some (64, true))⟩,
    ⟨(some 69), .call 28 [(.tmp 66), (.tmp 68)], (some (64, true))⟩,
    ⟨(some 70), .pick (.tmp 64) (.tmp 69) (.con (.bool false)), none⟩,
    ⟨(some 71), .mov (.tmp 70), none⟩,
    ⟨(some 72), .fieldAddr 4 (.tmp 7), (some (71, true))⟩,
    ⟨(some 73), .load false 1 (.tmp 72), (some (71, true))⟩,
    ⟨(some 74), .fieldAddr 4 (.tmp 5), (some (71, true))⟩,
    ⟨(some 75), .load false 1 (.tmp 74), (some (71, true))⟩,
    ⟨(some 76), .call 19 [(.tmp 73), (.tmp 75)], (some (71, true))⟩,
    ⟨(some 77), .pick (.tmp 71) (.tmp 76) (.con (.bool false)), none⟩,
    ⟨(some 78), .mov (.tmp 77), none⟩,
    ⟨(some 79), .call 3 [], (some (78, true))⟩,
    ⟨(some 80), .pick (.tmp 78) (.tmp 79) (.con (.bool false)), none⟩,
    ⟨(some 4), .mov (.tmp 80), none⟩])
  .ret)))))))))
def a5 : AFunc := ⟨2, c5, [.tmp 4]⟩

/- 12: tendril/tendrillaw7.NodeBack -/
def c12 : ACode := (.seq (.ops [⟨(some 2), .box (.tmp 0), none⟩,
    ⟨(some 3), .box (.tmp 1), none⟩,
    ⟨(some 4), .mov (.con (.bool false)), none⟩])
  (.seq (.draw [.op ⟨(some 9), .load true 5 (.tmp 2), none⟩,
    .op ⟨(some 11), .load true 5 (.tmp 3), none⟩,
    .op ⟨(some 5), .new [(.int .i64 0), (.int .u64 0), (.str []), .nilSlice, .nilSlice], none⟩,
    .op ⟨(some 6), .new [(.int .i64 0), (.int .u64 0), (.str []), .nilSlice, .nilSlice], none⟩,
    .look ⟨(some 9), .load true 5 (.tmp 2), none⟩,
    .look ⟨(some 11), .load true 5 (.tmp 3), none⟩,
    .look ⟨(some 5), .new [(.int .i64 0), (.int .u64 0), (.str []), .nilSlice, .nilSlice], none⟩,
    .look ⟨(some 6), .new [(.int .i64 0), (.int .u64 0), (.str []), .nilSlice, .nilSlice], none⟩,
    .op ⟨(some 10), .call 25 [(.tmp 9)], none⟩,
    .look ⟨(some 11), .load true 5 (.tmp 3), none⟩,
    .look ⟨(some 5), .new [(.int .i64 0), (.int .u64 0), (.str []), .nilSlice, .nilSlice], none⟩,
    .look ⟨(some 6), .new [(.int .i64 0), (.int .u64 0), (.str []), .nilSlice, .nilSlice], none⟩,
    .op ⟨(some 12), .call 25 [(.tmp 11)], none⟩,
    .look ⟨(some 5), .new [(.int .i64 0), (.int .u64 0), (.str []), .nilSlice, .nilSlice], none⟩,
    .look ⟨(some 6), .new [(.int .i64 0), (.int .u64 0), (.str []), .nilSlice, .nilSlice], none⟩,
    .op ⟨none, .store 5 (.tmp 5) (.tmp 10), none⟩,
    .op ⟨none, .store 5 (.tmp 6) (.tmp 12), none⟩])
  (.seq (.ops [⟨(some 14), .load true 5 (.tmp 5), none⟩,
    ⟨(some 15), .call 15 [(.tmp 14)], none⟩,
    ⟨(some 16), .call 49 [(.tmp 15)], none⟩,
    ⟨(some 13), .mov (.tmp 16), none⟩,
    ⟨(some 17), .extract (.tmp 13) 0, none⟩,
    ⟨(some 18), .extract (.tmp 13) 1, none⟩,
    ⟨(some 7), .new [(.int .i64 0), (.int .u64 0), (.str []), .nilSlice, .nilSlice], none⟩,
    ⟨none, .store 5 (.tmp 7) (.tmp 17), none⟩,
    ⟨(some 8), .mov (.tmp 18), none⟩])
  (.seq (.draw [.op ⟨(some 19), .load true 5 (.tmp 5), none⟩,
    .op ⟨(some 20), .call 24 [(.tmp 19)], none⟩,
    .op ⟨(some 21), .mov (.tmp 20), none⟩,
    .op ⟨(some 22), .mov (.tmp 8), (some (21, true))⟩,
    .op ⟨(some 23), .pick (.tmp 21) (.tmp 22) (.con (.bool false)), none⟩,
    .op ⟨(some 24), .mov (.tmp 23), none⟩,
    .op ⟨(some 25), .load true 5 (.tmp 7), (some (24, true))⟩,
    .op ⟨(some 26), .load true 5 (.tmp 5), (some (24, true))⟩,
    .op ⟨(some 27), .call 23 [(.tmp 25), (.tmp 26)], (some (24, true))⟩,
    .op ⟨(some 28), .pick (.tmp 24) (.tmp 27) (.con (.bool false)), none⟩,
    .op ⟨(some 29), .mov (.tmp 28), none⟩,
    .op ⟨(some 30), .load true 5 (.tmp 5), (some (29, true))⟩,
    .op ⟨(some 32), .load true 5 (.tmp 6), (some (29, true))⟩,
    .op ⟨(some 35), .load true 5 (.tmp 5), (some (29, true))⟩,
    .op ⟨(some 36), .load true 5 (.tmp 6), (some (29, true))⟩,
    .op ⟨(some 31), .call 15 [(.tmp 30)], (some (29, true))⟩,
    .look ⟨(some 32), .load true 5 (.tmp 6), (some (29, true))⟩,
    .look ⟨(some 35), .load true 5 (.tmp 5), (some (29, true))⟩,
    .look ⟨(some 36), .load true 5 (.tmp 6), (some (29, true))⟩,
    .op ⟨(some 33), .call 15 [(.tmp 32)], (some (29, true))⟩,
    .look ⟨(some 35), .load true 5 (.tmp 5), (some (29, true))⟩,
    .look ⟨(some 36), .load true 5 (.tmp 6), (some (29, true))⟩,
    .op ⟨(some 34), .call 18 [(.tmp 31), (.tmp 33)], (some (29, true))⟩,
    .look ⟨(some 35), .load true 5 (.tmp 5), (some (29, true))⟩,
    .look ⟨(some 36), .load true 5 (.tmp 6), (some (29, true))⟩,
    .op ⟨(some 37), .call 23 [(.tmp 35), (.tmp 36)], (some (29, true))⟩,
    .op ⟨(some 38), .eqB false (.tmp 34) (.tmp 37), (some (29, true))⟩,
    .op ⟨(some 39), .pick (.tmp 29) (.tmp 38) (.con (.bool false)), none⟩,
    .op ⟨(some 40), .mov (.tmp 39), none⟩,
    .op ⟨(some 41), .call 3 [], (some (40, true))⟩,
    .op ⟨(some 42), .pick (.tmp 40) (.tmp 41) (.con (.bool false)), none⟩,
    .op ⟨(some 4), .mov (.tmp 42), none⟩])
  .ret))))
def a12 : AFunc := ⟨2, c12, [.tmp 4]⟩

/- 13: tendril/tendrillaw7.NodeLeafApart -/
def c13 : ACode := (.seq (.ops [⟨(some 2), .box (.tmp 0), none⟩,
    ⟨(some 3), .box (.tmp 1), none⟩,
    ⟨(some 4), .mov (.con (.bool false)), none⟩])
  (.seq (.draw [.op ⟨(some 9), .fieldAddr 0 (.tmp 2), none⟩,
    .op ⟨(some 10), .load false 1 (.tmp 9), none⟩,
    .op ⟨(some 11), .fieldAddr 0 (.tmp 2), none⟩,
    .op ⟨(some 12), .load false 1 (.tmp 11), none⟩,
    .op ⟨(some 13), .lenStr (.tmp 12), none⟩,
    .op ⟨(some 14), .mnx false [(.tmp 13), (.con (.int .i64 30))], none⟩,
    .op ⟨(some 15), .slcStr (.tmp 10) none (some (.tmp 14)), none⟩,
    .op ⟨(some 16), .fieldAddr 0 (.tmp 3), none⟩,
    .op ⟨(some 17), .load false 1 (.tmp 16), none⟩,
    .op ⟨(some 18), .fieldAddr 0 (.tmp 3), none⟩,
    .op ⟨(some 19), .load false 1 (.tmp 18), none⟩,
    .op ⟨(some 20), .lenStr (.tmp 19), none⟩,
    .op ⟨(some 21), .mnx false [(.tmp 20), (.con (.int .i64 30))], none⟩,
    .op ⟨(some 22), .slcStr (.tmp 17) none (some (.tmp 21)), none⟩,
    .op ⟨(some 23), .fieldAddr 0 (.tmp 2), none⟩,
    .op ⟨none, .store 1 (.tmp 23) (.tmp 15), none⟩,
    .op ⟨(some 24), .fieldAddr 0 (.tmp 3), none⟩,
    .look ⟨(some 17), .load false 1 (.tmp 16), none⟩,
    .look ⟨(some 19), .load false 1 (.tmp 18), none⟩,
    .op ⟨none, .store 1 (.tmp 24) (.tmp 22), none⟩])
  (.seq (.seq (.ops [⟨(some 25), .load true 2 (.tmp 2), none⟩,
    ⟨(some 26), .call 46 [(.tmp 25)], none⟩,
    ⟨(some 27), .un .not (.tmp 26), none⟩,
    ⟨(some 28), .mov (.tmp 27), none⟩,
    ⟨(some 29), .load true 2 (.tmp 3), (some (28, false))⟩,
    ⟨(some 30), .call 46 [(.tmp 29)], (some (28, false))⟩,
    ⟨(some 31), .un .not (.tmp 30), (some (28, false))⟩,
    ⟨(some 32), .pick (.tmp 28) (.con (.bool true)) (.tmp 31), none⟩])
  (.cond (.tmp 32)
  (.seq (.ops [⟨(some 33), .call 3 [], none⟩,
    ⟨(some 4), .mov (.tmp 33), none⟩])
  .ret)
  .skip))
  (.seq (.draw [.op ⟨(some 34), .load true 2 (.tmp 2), none⟩,
    .op ⟨(some 36), .load true 2 (.tmp 3), none⟩,
    .op ⟨(some 35), .call 45 [(.tmp 34)], none⟩,
    .look ⟨(some 36), .load true 2 (.tmp 3), none⟩,
    .op ⟨(some 37), .call 45 [(.tmp 36)], none⟩,
    .op ⟨(some 5), .mov (.tmp 35), none⟩,
    .op ⟨(some 6), .mov (.tmp 37), none⟩])
  (.seq (.ops [⟨(some 39), .mov (.tmp 5), none⟩,
    ⟨(some 40), .call 49 [(.tmp 39)], none⟩,
    ⟨(some 38), .mov (.tmp 40), none⟩,
    ⟨(some 41), .extract (.tmp 38) 0, none⟩,
    ⟨(some 42), .extract (.tmp 38) 1, none⟩,
    ⟨(some 7), .new [(.int .i64 0), (.int .u64 0), (.str []), .nilSlice, .nilSlice], none⟩,
    ⟨none, .store 5 (.tmp 7) (.tmp 41), none⟩,
    ⟨(some 8), .mov (.tmp 42), none⟩])
  (.seq (.draw [.op ⟨(some 43), .mov (.tmp 5), none⟩,
    .op ⟨(some 44), .lenSlice (.tmp 43), none⟩,
    .op ⟨(some 45), .bin .eql (.tmp 44) (.con (.int .i64 8)), none⟩,
    .op ⟨(some 46), .mov (.tmp 45), none⟩,
    .op ⟨(some 47), .mov (.tmp 5), (some (46, true))⟩,
    .op ⟨(some 48), .mov (.tmp 6), (some (46, true))⟩,
    .op ⟨(some 50), .load true 2 (.tmp 2), (some (46, true))⟩,
    .op ⟨(some 51), .load true 2 (.tmp 3), (some (46, true))⟩,
    .op ⟨(some 52), .eqAgg [1, 0] false (.tmp 50) (.tmp 51), (some (46, true))⟩,
    .op ⟨(some 49), .call 18 [(.tmp 47), (.tmp 48)], (some (46, true))⟩,
    .op ⟨(some 53), .eqB false (.tmp 49) (.tmp 52), (some (46, true))⟩,
    .op ⟨(some 54), .pick (.tmp 46) (.tmp 53) (.con (.bool false)), none⟩,
    .op ⟨(some 55), .mov (.tmp 54), none⟩,
    .op ⟨(some 56), .mov (.tmp 8), (some (55, true))⟩,
    .op ⟨(some 57), .un .not (.tmp 56), (some (55, true))⟩,
    .op ⟨(some 58), .pick (.tmp 55) (.tmp 57) (.con (.bool false)), none⟩,
    .op ⟨(some 59), .mov (.tmp 58), none⟩,
    .look ⟨(some 50), .load true 2 (.tmp 2), (some (46, true))⟩,
    .look ⟨(some 51), .load true 2 (.tmp 3), (some (46, true))⟩,
    .op ⟨(some 60), .call 3 [], (some (59, true))⟩,
    .op ⟨(some 61), .pick (.tmp 59) (.tmp 60) (.con (.bool false)), none⟩,
    .op ⟨(some 4), .mov (.tmp 61), none⟩])
  .ret))))))
def a13 : AFunc := ⟨2, c13, [.tmp 4]⟩

/- 14: tendril/tendrillaw7.NodeReads -/
def c14 : ACode := (.seq (.ops [⟨(some 5), .box (.tmp 0), none⟩,
    ⟨(some 10), .mov (.con (.bool false)), none⟩])
  (.seq (.ops [⟨(some 21), .mov (.tmp 1), none⟩,
    ⟨(some 11), .mov (.tmp 21), none⟩])
  (.seq (.seq (.ops [⟨(some 22), .mov (.tmp 11), none⟩,
    ⟨(some 23), .lenSlice (.tmp 22), none⟩,
    ⟨(some 24), .bin .gtr (.tmp 23) (.con (.int .i64 300)), none⟩])
  (.cond (.tmp 24)
  (.ops [⟨(some 25), .mov (.tmp 11), none⟩,
    ⟨(some 26), .slc 1 (.tmp 25) none (some (.con (.int .i64 300))) none, none⟩,
    ⟨(some 11), .mov (.tmp 26), none⟩])
  .skip))
  (.seq (.seq (.ops [⟨(some 27), .mov (.tmp 4), none⟩,
    ⟨(some 28), .bin .geq (.tmp 27) (.con (.int .i64 0)), none⟩])
  (.cond (.tmp 28)
  (.seq (.ops [⟨(some 29), .load true 5 (.tmp 5), none⟩,
    ⟨(some 30), .call 25 [(.tmp 29)], none⟩,
    ⟨(some 31), .call 38 [(.tmp 30)], none⟩,
    ⟨(some 11), .mov (.tmp 31), none⟩])
  (.seq (.ops [⟨(some 32), .mov (.tmp 4), none⟩,
    ⟨(some 33), .bin .rem (.tmp 32) (.con (.int .i64 3)), none⟩,
    ⟨(some 34), .bin .gtr (.tmp 33) (.con (.int .i64 0)), none⟩])
  (.cond (.tmp 34)
  (.ops [⟨(some 35), .mov (.tmp 11), none⟩,
    ⟨(some 36), .mov (.tmp 2), none⟩,
    ⟨(some 37), .mov (.tmp 11), none⟩,
    ⟨(some 38), .lenSlice (.tmp 37), none⟩,
    ⟨(some 39), .bin .sub (.tmp 38) (.con (.int .i64 1)), none⟩,
    ⟨(some 40), .call 22 [(.tmp 36), (.con (.int .i64 0)), (.tmp 39)], none⟩,
    ⟨(some 41), .idxAddr 1 (.tmp 35) (.tmp 40), none⟩,
    ⟨(some 42), .load false 1 (.tmp 41), none⟩,
    ⟨(some 43), .mov (.tmp 3), none⟩,
    ⟨(some 44), .bin .xor (.tmp 42) (.tmp 43), none⟩,
    ⟨(some 45), .idxAddr 1 (.tmp 35) (.tmp 40), none⟩,
    ⟨none, .store 1 (.tmp 45) (.tmp 44), none⟩])
  .skip)))
  .skip))
  (.seq (.ops [⟨(some 46), .mov (.tmp 11), none⟩,
    ⟨(some 47), .call 50 [(.tmp 46), (.con (.int .u64 9))], none⟩,
    ⟨(some 12), .mov (.tmp 47), none⟩])
  (.seq (.ops [⟨(some 49), .mov (.tmp 12), none⟩,
    ⟨(some 50), .mov (.tmp 11), none⟩,
    ⟨(some 51), .lenSlice (.tmp 50), none⟩,
    ⟨(some 52), .slc 1 (.tmp 49) none (some (.tmp 51)) none, none⟩,
    ⟨(some 53), .call 49 [(.tmp 52)], none⟩,
    ⟨(some 48), .mov (.tmp 53), none⟩,
    ⟨(some 54), .extract (.tmp 48) 0, none⟩,
    ⟨(some 55), .extract (.tmp 48) 1, none⟩,
    ⟨(some 13), .new [(.int .i64 0), (.int .u64 0), (.str []), .nilSlice, .nilSlice], none⟩,
    ⟨none, .store 5 (.tmp 13) (.tmp 54), none⟩,
    ⟨(some 14), .mov (.tmp 55), none⟩])
  (.seq (.ops [⟨(some 57), .mov (.tmp 11), none⟩,
    ⟨(some 58), .call 51 [(.tmp 57)], none⟩,
    ⟨(some 56), .mov (.tmp 58), none⟩,
    ⟨(some 59), .extract (.tmp 56) 0, none⟩,
    ⟨(some 60), .extract (.tmp 56) 1, none⟩,
    ⟨(some 15), .new [(.int .i64 0), (.int .u64 0), (.str []), .nilSlice, .nilSlice], none⟩,
    ⟨none, .store 5 (.tmp 15) (.tmp 59), none⟩,
    ⟨(some 16), .mov (.tmp 60), none⟩])
  (.seq (.ops [⟨(some 62), .mov (.tmp 12), none⟩,
    ⟨(some 63), .mov (.tmp 11), none⟩,
    ⟨(some 64), .lenSlice (.tmp 63), none⟩,
    ⟨(some 65), .slc 1 (.tmp 62) none (some (.tmp 64)) none, none⟩,
    ⟨(some 66), .call 43 [(.tmp 65)], none⟩,
    ⟨(some 61), .mov (.tmp 66), none⟩,
    ⟨(some 67), .extract (.tmp 61) 0, none⟩,
    ⟨(some 68), .extract (.tmp 61) 1, none⟩,
    ⟨(some 17), .new [(.str []), (.int .i64 0)], none⟩,
    ⟨none, .store 2 (.tmp 17) (.tmp 67), none⟩,
    ⟨(some 18), .mov (.tmp 68), none⟩])
  (.seq (.ops [⟨(some 70), .mov (.tmp 11), none⟩,
    ⟨(some 71), .call 44 [(.tmp 70)], none⟩,
    ⟨(some 69), .mov (.tmp 71), none⟩,
    ⟨(some 72), .extract (.tmp 69) 0, none⟩,
    ⟨(some 73), .extract (.tmp 69) 1, none⟩,
    ⟨(some 19), .new [(.str []), (.int .i64 0)], none⟩,
    ⟨none, .store 2 (.tmp 19) (.tmp 72), none⟩,
    ⟨(some 20), .mov (.tmp 73), none⟩])
  (.seq (.ops [⟨(some 74), .load true 5 (.tmp 13), none⟩,
    ⟨(some 75), .load true 5 (.tmp 15), none⟩,
    ⟨(some 76), .call 23 [(.tmp 74), (.tmp 75)], none⟩,
    ⟨(some 77), .mov (.tmp 76), none⟩,
    ⟨(some 78), .mov (.tmp 14), (some (77, true))⟩,
    ⟨(some 79), .mov (.tmp 16), (some (77, true))⟩,
    ⟨(some 80), .eqB false (.tmp 78) (.tmp 79), (some (77, true))⟩,
    ⟨(some 81), .pick (.tmp 77) (.tmp 80) (.con (.bool false)), none⟩,
    ⟨(some 82), .mov (.tmp 81), none⟩,
    ⟨(some 83), .load true 2 (.tmp 17), (some (82, true))⟩,
    ⟨(some 84), .load true 2 (.tmp 19), (some (82, true))⟩,
    ⟨(some 85), .eqAgg [1, 0] false (.tmp 83) (.tmp 84), (some (82, true))⟩,
    ⟨(some 86), .pick (.tmp 82) (.tmp 85) (.con (.bool false)), none⟩,
    ⟨(some 87), .mov (.tmp 86), none⟩,
    ⟨(some 88), .mov (.tmp 18), (some (87, true))⟩,
    ⟨(some 89), .mov (.tmp 20), (some (87, true))⟩,
    ⟨(some 90), .eqB false (.tmp 88) (.tmp 89), (some (87, true))⟩,
    ⟨(some 91), .pick (.tmp 87) (.tmp 90) (.con (.bool false)), none⟩,
    ⟨(some 92), .mov (.tmp 91), none⟩,
    ⟨(some 93), .mov (.tmp 12), (some (92, true))⟩,
    ⟨(some 94), .mov (.tmp 11), (some (92, true))⟩,
    ⟨(some 95), .call 52 [(.tmp 93), (.tmp 94), (.con (.int .u64 9))], (some (92, true))⟩,
    ⟨(some 96), .pick (.tmp 92) (.tmp 95) (.con (.bool false)), none⟩,
    ⟨(some 97), .mov (.tmp 96), none⟩,
    ⟨(some 98), .call 3 [], (some (97, true))⟩,
    ⟨(some 99), .pick (.tmp 97) (.tmp 98) (.con (.bool false)), none⟩,
    ⟨(some 10), .mov (.tmp 99), none⟩])
  .ret))))))))))
def a14 : AFunc := ⟨5, c14, [.tmp 10]⟩

/- 15: tendril/node.Encode -/
def c15l0 : ACode := (.seq (.ops [⟨(some 72), .bin .lss (.tmp 71) (.tmp 70), none⟩])
  (.seq (.cond (.tmp 72)
  .skip
  (.exit 1))
  (.seq (.block 2 (.seq (.ops [⟨(some 73), .mov (.tmp 71), none⟩,
    ⟨(some 74), .idxAddr 1 (.tmp 69) (.tmp 71), none⟩,
    ⟨(some 75), .load false 1 (.tmp 74), none⟩,
    ⟨(some 5), .mov (.tmp 73), none⟩,
    ⟨(some 6), .mov (.tmp 75), none⟩])
  (.seq (.ops [⟨(some 76), .mov (.tmp 4), none⟩,
    ⟨(some 77), .mov (.tmp 5), none⟩,
    ⟨(some 78), .bin .add (.tmp 76) (.tmp 77), none⟩,
    ⟨(some 7), .mov (.tmp 78), none⟩])
  (.seq (.seq (.ops [⟨(some 79), .fieldAddr 0 (.tmp 1), none⟩,
    ⟨(some 80), .load false 1 (.tmp 79), none⟩,
    ⟨(some 81), .bin .eql (.tmp 80) (.con (.int .i64 4)), none⟩])
  (.cond (.tmp 81)
  (.ops [⟨(some 82), .fieldAddr 3 (.tmp 1), none⟩,
    ⟨(some 83), .load false 1 (.tmp 82), none⟩,
    ⟨(some 84), .mov (.tmp 5), none⟩,
    ⟨(some 85), .idxAddr 1 (.tmp 83) (.tmp 84), none⟩,
    ⟨(some 86), .load false 1 (.tmp 85), none⟩,
    ⟨(some 87), .toInt .i64 (.tmp 86), none⟩,
    ⟨(some 88), .bin .add (.con (.int .i64 4)) (.tmp 87), none⟩,
    ⟨(some 7), .mov (.tmp 88), none⟩])
  .skip))
  (.ops [⟨(some 89), .mov (.tmp 3), none⟩,
    ⟨(some 90), .mov (.tmp 7), none⟩,
    ⟨(some 91), .mov (.tmp 6), none⟩,
    ⟨(some 92), .toInt .u64 (.tmp 91), none⟩,
    ⟨(some 93), .idxAddr 1 (.tmp 89) (.tmp 90), none⟩,
    ⟨none, .store 1 (.tmp 93) (.tmp 92), none⟩])))))
  (.ops [⟨(some 94), .bin .add (.tmp 71) (.con (.int .i64 1)), none⟩,
    ⟨(some 71), .mov (.tmp 94), none⟩]))))
def c15 : ACode := (.seq (.ops [⟨(some 1), .box (.tmp 0), none⟩,
    ⟨(some 2), .mov (.con .nilSlice), none⟩])
  (.seq (.seq (.ops [⟨(some 8), .load true 5 (.tmp 1), none⟩,
    ⟨(some 9), .call 24 [(.tmp 8)], none⟩,
    ⟨(some 10), .un .not (.tmp 9), none⟩])
  (.cond (.tmp 10)
  (.seq (.ops [⟨(some 2), .mov (.con .nilSlice), none⟩])
  .ret)
  .skip))
  (.seq (.ops [⟨(some 11), .fieldAddr 0 (.tmp 1), none⟩,
    ⟨(some 12), .load false 1 (.tmp 11), none⟩,
    ⟨(some 13), .call 53 [(.tmp 12)], none⟩,
    ⟨(some 14), .mkSlice 1 8 [(.int .u64 0)] (.tmp 13) (.tmp 13), none⟩,
    ⟨(some 3), .mov (.tmp 14), none⟩])
  (.seq (.ops [⟨(some 15), .mov (.tmp 3), none⟩,
    ⟨(some 16), .fieldAddr 1 (.tmp 1), none⟩,
    ⟨(some 17), .load false 1 (.tmp 16), none⟩,
    ⟨(some 18), .idxAddr 1 (.tmp 15) (.con (.int .i64 0)), none⟩,
    ⟨none, .store 1 (.tmp 18) (.tmp 17), none⟩])
  (.seq (.ops [⟨(some 19), .mov (.tmp 3), none⟩,
    ⟨(some 20), .fieldAddr 0 (.tmp 1), none⟩,
    ⟨(some 21), .load false 1 (.tmp 20), none⟩,
    ⟨(some 22), .fieldAddr 2 (.tmp 1), none⟩,
    ⟨(some 23), .load false 1 (.tmp 22), none⟩,
    ⟨(some 24), .lenStr (.tmp 23), none⟩,
    ⟨(some 25), .bin .shl (.tmp 24) (.con (.int .u64 8)), none⟩,
    ⟨(some 26), .bin .or (.tmp 21) (.tmp 25), none⟩,
    ⟨(some 27), .fieldAddr 3 (.tmp 1), none⟩,
    ⟨(some 28), .load false 1 (.tmp 27), none⟩,
    ⟨(some 29), .lenSlice (.tmp 28), none⟩,
    ⟨(some 30), .bin .shl (.tmp 29) (.con (.int .u64 16)), none⟩,
    ⟨(some 31), .bin .or (.tmp 26) (.tmp 30), none⟩,
    ⟨(some 32), .toInt .u64 (.tmp 31), none⟩,
    ⟨(some 33), .idxAddr 1 (.tmp 19) (.con (.int .i64 1)), none⟩,
    ⟨none, .store 1 (.tmp 33) (.tmp 32), none⟩])
  (.seq (.ops [⟨(some 34), .mov (.tmp 3), none⟩,
    ⟨(some 35), .slc 1 (.tmp 34) (some (.con (.int .i64 2))) none none, none⟩,
    ⟨(some 36), .fieldAddr 2 (.tmp 1), none⟩,
    ⟨(some 37), .load false 1 (.tmp 36), none⟩,
    ⟨(some 38), .call 54 [(.tmp 37)], none⟩,
    ⟨(some 39), .copy 1 (.tmp 35) (.tmp 38), none⟩])
  (.seq (.ops [⟨(some 4), .mov (.con (.int .i64 4)), none⟩])
  (.seq (.seq (.ops [⟨(some 40), .fieldAddr 0 (.tmp 1), none⟩,
    ⟨(some 41), .load false 1 (.tmp 40), none⟩])
  (.block 0 (.seq (.ops [⟨(some 43), .bin .eql (.tmp 41) (.con (.int .i64 1)), none⟩,
    ⟨(some 42), .mov (.tmp 43), none⟩])
  (.cond (.tmp 42)
  (.seq (.ops [⟨(some 44), .mov (.tmp 3), none⟩,
    ⟨(some 45), .slc 1 (.tmp 44) (some (.con (.int .i64 4))) none none, none⟩,
    ⟨(some 46), .fieldAddr 3 (.tmp 1), none⟩,
    ⟨(some 47), .load false 1 (.tmp 46), none⟩,
    ⟨(some 48), .toStr (.tmp 47), none⟩,
    ⟨(some 49), .call 54 [(.tmp 48)], none⟩,
    ⟨(some 50), .copy 1 (.tmp 45) (.tmp 49), none⟩])
  (.ops [⟨(some 4), .mov (.con (.int .i64 5)), none⟩]))
  (.seq (.ops [⟨(some 52), .bin .eql (.tmp 41) (.con (.int .i64 2)), none⟩,
    ⟨(some 51), .mov (.tmp 52), none⟩])
  (.cond (.tmp 51)
  (.seq (.ops [⟨(some 53), .mov (.tmp 3), none⟩,
    ⟨(some 54), .slc 1 (.tmp 53) (some (.con (.int .i64 4))) none none, none⟩,
    ⟨(some 55), .fieldAddr 3 (.tmp 1), none⟩,
    ⟨(some 56), .load false 1 (.tmp 55), none⟩,
    ⟨(some 57), .toStr (.tmp 56), none⟩,
    ⟨(some 58), .call 54 [(.tmp 57)], none⟩,
    ⟨(some 59), .copy 1 (.tmp 54) (.tmp 58), none⟩])
  (.ops [⟨(some 4), .mov (.con (.int .i64 6)), none⟩]))
  (.seq (.ops [⟨(some 61), .bin .eql (.tmp 41) (.con (.int .i64 3)), none⟩,
    ⟨(some 60), .mov (.tmp 61), none⟩])
  (.cond (.tmp 60)
  (.seq (.ops [⟨(some 62), .mov (.tmp 3), none⟩,
    ⟨(some 63), .slc 1 (.tmp 62) (some (.con (.int .i64 4))) none none, none⟩,
    ⟨(some 64), .fieldAddr 3 (.tmp 1), none⟩,
    ⟨(some 65), .load false 1 (.tmp 64), none⟩,
    ⟨(some 66), .call 55 [(.tmp 65)], none⟩,
    ⟨(some 67), .copy 1 (.tmp 63) (.tmp 66), none⟩])
  (.ops [⟨(some 4), .mov (.con (.int .i64 36)), none⟩]))
  .skip))))))))
  (.seq (.seq (.ops [⟨(some 68), .fieldAddr 4 (.tmp 1), none⟩,
    ⟨(some 69), .load false 1 (.tmp 68), none⟩,
    ⟨(some 70), .lenSlice (.tmp 69), none⟩,
    ⟨(some 71), .mov (.con (.int .i64 0)), none⟩])
  (.block 1 (.loop c15l0)))
  (.seq (.ops [⟨(some 95), .mov (.tmp 3), none⟩,
    ⟨(some 2), .mov (.tmp 95), none⟩])
  .ret))))))))))
def a15 : AFunc := ⟨1, c15, [.tmp 2]⟩

/- 16: tendril/node.With -/
def c16 : ACode := (.seq (.ops [⟨(some 3), .box (.tmp 0), none⟩,
    ⟨(some 6), .new [(.int .i64 0), (.int .u64 0), (.str []), .nilSlice, .nilSlice], none⟩,
    ⟨(some 7), .mov (.con (.bool false)), none⟩])
  (.seq (.seq (.ops [⟨(some 10), .load true 5 (.tmp 3), none⟩,
    ⟨(some 11), .call 24 [(.tmp 10)], none⟩,
    ⟨(some 12), .un .not (.tmp 11), none⟩,
    ⟨(some 13), .mov (.tmp 12), none⟩,
    ⟨(some 14), .mov (.tmp 2), (some (13, false))⟩,
    ⟨(some 15), .call 56 [(.tmp 14)], (some (13, false))⟩,
    ⟨(some 16), .un .not (.tmp 15), (some (13, false))⟩,
    ⟨(some 17), .pick (.tmp 13) (.con (.bool true)) (.tmp 16), none⟩])
  (.cond (.tmp 17)
  (.seq (.ops [⟨(some 18), .build [(.int .i64 0), (.int .u64 0), (.str []), .nilSlice, .nilSlice] [], none⟩,
    ⟨none, .store 5 (.tmp 6) (.tmp 18), none⟩,
    ⟨(some 7), .mov (.con (.bool false)), none⟩])
  .ret)
  .skip))
  (.seq (.draw [.op ⟨(some 19), .fieldAddr 3 (.tmp 3), none⟩,
    .op ⟨(some 20), .load false 1 (.tmp 19), none⟩,
    .op ⟨(some 22), .fieldAddr 4 (.tmp 3), none⟩,
    .op ⟨(some 23), .load false 1 (.tmp 22), none⟩,
    .op ⟨(some 21), .call 57 [(.tmp 20)], none⟩,
    .op ⟨(some 25), .fieldAddr 3 (.tmp 3), none⟩,
    .look ⟨(some 23), .load false 1 (.tmp 22), none⟩,
    .op ⟨(some 24), .call 58 [(.tmp 23)], none⟩,
    .op ⟨none, .store 1 (.tmp 25) (.tmp 21), none⟩,
    .op ⟨(some 26), .fieldAddr 4 (.tmp 3), none⟩,
    .op ⟨none, .store 1 (.tmp 26) (.tmp 24), none⟩])
  (.seq (.ops [⟨(some 28), .fieldAddr 3 (.tmp 3), none⟩,
    ⟨(some 29), .load false 1 (.tmp 28), none⟩,
    ⟨(some 30), .mov (.tmp 1), none⟩,
    ⟨(some 31), .call 59 [(.tmp 29), (.tmp 30)], none⟩,
    ⟨(some 27), .mov (.tmp 31), none⟩,
    ⟨(some 32), .extract (.tmp 27) 0, none⟩,
    ⟨(some 33), .extract (.tmp 27) 1, none⟩,
    ⟨(some 8), .mov (.tmp 32), none⟩,
    ⟨(some 9), .mov (.tmp 33), none⟩])
  (.seq (.seq (.ops [⟨(some 34), .mov (.tmp 9), none⟩])
  (.cond (.tmp 34)
  (.seq (.ops [⟨(some 35), .fieldAddr 4 (.tmp 3), none⟩,
    ⟨(some 36), .load false 1 (.tmp 35), none⟩,
    ⟨(some 37), .mov (.tmp 8), none⟩,
    ⟨(some 38), .mov (.tmp 2), none⟩,
    ⟨(some 39), .idxAddr 1 (.tmp 36) (.tmp 37), none⟩,
    ⟨none, .store 1 (.tmp 39) (.tmp 38), none⟩])
  (.seq (.ops [⟨(some 40), .load true 5 (.tmp 3), none⟩,
    ⟨none, .store 5 (.tmp 6) (.tmp 40), none⟩,
    ⟨(some 7), .mov (.con (.bool true)), none⟩])
  .ret))
  .skip))
  (.seq (.seq (.draw [.op ⟨(some 41), .fieldAddr 3 (.tmp 3), none⟩,
    .op ⟨(some 42), .load false 1 (.tmp 41), none⟩,
    .op ⟨(some 43), .lenSlice (.tmp 42), none⟩,
    .op ⟨(some 44), .fieldAddr 0 (.tmp 3), none⟩,
    .op ⟨(some 45), .load false 1 (.tmp 44), none⟩,
    .op ⟨(some 46), .call 27 [(.tmp 45)], none⟩,
    .op ⟨(some 47), .bin .geq (.tmp 43) (.tmp 46), none⟩,
    .look ⟨(some 42), .load false 1 (.tmp 41), none⟩])
  (.cond (.tmp 47)
  (.seq (.ops [⟨(some 48), .build [(.int .i64 0), (.int .u64 0), (.str []), .nilSlice, .nilSlice] [], none⟩,
    ⟨none, .store 5 (.tmp 6) (.tmp 48), none⟩,
    ⟨(some 7), .mov (.con (.bool false)), none⟩])
  .ret)
  .skip))
  (.seq (.draw [.op ⟨(some 49), .fieldAddr 3 (.tmp 3), none⟩,
    .op ⟨(some 50), .load false 1 (.tmp 49), none⟩,
    .op ⟨(some 51), .mov (.tmp 8), none⟩,
    .op ⟨(some 52), .mov (.tmp 1), none⟩,
    .op ⟨(some 53), .buildSlice 1 1 [(.int .u8 0)] [(0, 1, (.tmp 52))], none⟩,
    .op ⟨(some 55), .fieldAddr 4 (.tmp 3), none⟩,
    .op ⟨(some 56), .load false 1 (.tmp 55), none⟩,
    .op ⟨(some 57), .mov (.tmp 8), none⟩,
    .op ⟨(some 58), .mov (.tmp 2), none⟩,
    .op ⟨(some 59), .buildSlice 1 1 [(.int .i64 0)] [(0, 1, (.tmp 58))], none⟩,
    .look ⟨(some 50), .load false 1 (.tmp 49), none⟩,
    .look ⟨(some 53), .buildSlice 1 1 [(.int .u8 0)] [(0, 1, (.tmp 52))], none⟩,
    .look ⟨(some 56), .load false 1 (.tmp 55), none⟩,
    .look ⟨(some 59), .buildSlice 1 1 [(.int .i64 0)] [(0, 1, (.tmp 58))], none⟩,
    .op ⟨(some 54), .call 60 [(.tmp 50), (.tmp 51), (.tmp 53)], none⟩,
    .op ⟨(some 61), .fieldAddr 3 (.tmp 3), none⟩,
    .look ⟨(some 56), .load false 1 (.tmp 55), none⟩,
    .look ⟨(some 59), .buildSlice 1 1 [(.int .i64 0)] [(0, 1, (.tmp 58))], none⟩,
    .op ⟨(some 60), .call 61 [(.tmp 56), (.tmp 57), (.tmp 59)], none⟩,
    .op ⟨none, .store 1 (.tmp 61) (.tmp 54), none⟩,
    .op ⟨(some 62), .fieldAddr 4 (.tmp 3), none⟩,
    .op ⟨none, .store 1 (.tmp 62) (.tmp 60), none⟩])
  (.seq (.ops [⟨(some 63), .load true 5 (.tmp 3), none⟩,
    ⟨none, .store 5 (.tmp 6) (.tmp 63), none⟩,
    ⟨(some 7), .mov (.con (.bool true)), none⟩])
  .ret))))))))
def a16 : AFunc := ⟨3, c16, [.cell 6 true 5, .tmp 7]⟩

/- 17: tendril/node.Without -/
def c17 : ACode := (.seq (.ops [⟨(some 2), .box (.tmp 0), none⟩,
    ⟨(some 4), .new [(.int .i64 0), (.int .u64 0), (.str []), .nilSlice, .nilSlice], none⟩,
    ⟨(some 5), .mov (.con (.bool false)), none⟩])
  (.seq (.ops [⟨(some 7), .load true 5 (.tmp 2), none⟩,
    ⟨(some 8), .mov (.tmp 1), none⟩,
    ⟨(some 9), .call 62 [(.tmp 7), (.tmp 8)], none⟩,
    ⟨(some 6), .mov (.tmp 9), none⟩])
  (.seq (.seq (.ops [⟨(some 10), .load true 5 (.tmp 2), none⟩,
    ⟨(some 11), .call 24 [(.tmp 10)], none⟩,
    ⟨(some 12), .un .not (.tmp 11), none⟩,
    ⟨(some 13), .mov (.tmp 12), none⟩,
    ⟨(some 14), .mov (.tmp 6), (some (13, false))⟩,
    ⟨(some 15), .bin .lss (.tmp 14) (.con (.int .i64 0)), (some (13, false))⟩,
    ⟨(some 16), .pick (.tmp 13) (.con (.bool true)) (.tmp 15), none⟩])
  (.cond (.tmp 16)
  (.seq (.ops [⟨(some 17), .build [(.int .i64 0), (.int .u64 0), (.str []), .nilSlice, .nilSlice] [], none⟩,
    ⟨none, .store 5 (.tmp 4) (.tmp 17), none⟩,
    ⟨(some 5), .mov (.con (.bool false)), none⟩])
  .ret)
  .skip))
  (.seq (.draw [.op ⟨(some 18), .fieldAddr 3 (.tmp 2), none⟩,
    .op ⟨(some 19), .load false 1 (.tmp 18), none⟩,
    .op ⟨(some 20), .mov (.tmp 6), none⟩,
    .op ⟨(some 21), .slc 1 (.tmp 19) none (some (.tmp 20)) none, none⟩,
    .op ⟨(some 22), .fieldAddr 3 (.tmp 2), none⟩,
    .op ⟨(some 23), .load false 1 (.tmp 22), none⟩,
    .op ⟨(some 24), .mov (.tmp 6), none⟩,
    .op ⟨(some 25), .bin .add (.tmp 24) (.con (.int .i64 1)), none⟩,
    .op ⟨(some 26), .slc 1 (.tmp 23) (some (.tmp 25)) none none, none⟩,
    .op ⟨(some 27), .buildSlice 1 2 [.nilSlice, .nilSlice] [(0, 1, (.tmp 21)), (1, 1, (.tmp 26))], none⟩,
    .op ⟨(some 29), .fieldAddr 4 (.tmp 2), none⟩,
    .op ⟨(some 30), .load false 1 (.tmp 29), none⟩,
    .op ⟨(some 31), .mov (.tmp 6), none⟩,
    .op ⟨(some 32), .slc 1 (.tmp 30) none (some (.tmp 31)) none, none⟩,
    .op ⟨(some 33), .fieldAddr 4 (.tmp 2), none⟩,
    .op ⟨(some 34), .load false 1 (.tmp 33), none⟩,
    .op ⟨(some 35), .mov (.tmp 6), none⟩,
    .op ⟨(some 36), .bin .add (.tmp 35) (.con (.int .i64 1)), none⟩,
    .op ⟨(some 37), .slc 1 (.tmp 34) (some (.tmp 36)) none none, none⟩,
    .op ⟨(some 38), .buildSlice 1 2 [.nilSlice, .nilSlice] [(0, 1, (.tmp 32)), (1, 1, (.tmp 37))], none⟩,
    .look ⟨(some 19), .load false 1 (.tmp 18), none⟩,
    .look ⟨(some 23), .load false 1 (.tmp 22), none⟩,
    .look ⟨(some 27), .buildSlice 1 2 [.nilSlice, .nilSlice] [(0, 1, (.tmp 21)), (1, 1, (.tmp 26))], none⟩,
    .look ⟨(some 30), .load false 1 (.tmp 29), none⟩,
    .look ⟨(some 34), .load false 1 (.tmp 33), none⟩,
    .look ⟨(some 38), .buildSlice 1 2 [.nilSlice, .nilSlice] [(0, 1, (.tmp 32)), (1, 1, (.tmp 37))], none⟩,
    .op ⟨(some 28), .call 63 [(.tmp 27)], none⟩,
    .op ⟨(some 40), .fieldAddr 3 (.tmp 2), none⟩,
    .look ⟨(some 30), .load false 1 (.tmp 29), none⟩,
    .look ⟨(some 34), .load false 1 (.tmp 33), none⟩,
    .look ⟨(some 38), .buildSlice 1 2 [.nilSlice, .nilSlice] [(0, 1, (.tmp 32)), (1, 1, (.tmp 37))], none⟩,
    .op ⟨(some 39), .call 64 [(.tmp 38)], none⟩,
    .op ⟨none, .store 1 (.tmp 40) (.tmp 28), none⟩,
    .op ⟨(some 41), .fieldAddr 4 (.tmp 2), none⟩,
    .op ⟨none, .store 1 (.tmp 41) (.tmp 39), none⟩])
  (.seq (.ops [⟨(some 42), .load true 5 (.tmp 2), none⟩,
    ⟨none, .store 5 (.tmp 4) (.tmp 42), none⟩,
    ⟨(some 5), .mov (.con (.bool true)), none⟩])
  .ret)))))
def a17 : AFunc := ⟨2, c17, [.cell 4 true 5, .tmp 5]⟩

/- 18: tendril/tendrilbook.Same[uint64] -/
def c18l0 : ACode := (.seq (.seq (.ops [⟨(some 11), .mov (.tmp 5), none⟩,
    ⟨(some 12), .mov (.tmp 0), none⟩,
    ⟨(some 13), .lenSlice (.tmp 12), none⟩,
    ⟨(some 14), .bin .lss (.tmp 11) (.tmp 13), none⟩])
  (.cond (.tmp 14)
  .skip
  (.exit 0)))
  (.seq (.block 1 (.seq (.ops [⟨(some 17), .mov (.tmp 0), none⟩,
    ⟨(some 18), .mov (.tmp 5), none⟩,
    ⟨(some 19), .idxAddr 1 (.tmp 17) (.tmp 18), none⟩,
    ⟨(some 20), .load false 1 (.tmp 19), none⟩,
    ⟨(some 21), .mov (.tmp 1), none⟩,
    ⟨(some 22), .mov (.tmp 5), none⟩,
    ⟨(some 23), .idxAddr 1 (.tmp 21) (.tmp 22), none⟩,
    ⟨(some 24), .load false 1 (.tmp 23), none⟩,
    ⟨(some 25), .bin .neq (.tmp 20) (.tmp 24), none⟩])
  (.cond (.tmp 25)
  (.seq (.ops [⟨(some 4), .mov (.con (.bool false)), none⟩])
  .ret)
  .skip)))
  (.ops [⟨(some 15), .mov (.tmp 5), none⟩,
    ⟨(some 16), .bin .add (.tmp 15) (.con (.int .i64 1)), none⟩,
    ⟨(some 5), .mov (.tmp 16), none⟩])))
def c18 : ACode := (.seq (.ops [⟨(some 4), .mov (.con (.bool false)), none⟩])
  (.seq (.seq (.ops [⟨(some 6), .mov (.tmp 0), none⟩,
    ⟨(some 7), .lenSlice (.tmp 6), none⟩,
    ⟨(some 8), .mov (.tmp 1), none⟩,
    ⟨(some 9), .lenSlice (.tmp 8), none⟩,
    ⟨(some 10), .bin .neq (.tmp 7) (.tmp 9), none⟩])
  (.cond (.tmp 10)
  (.seq (.ops [⟨(some 4), .mov (.con (.bool false)), none⟩])
  .ret)
  .skip))
  (.seq (.seq (.ops [⟨(some 5), .mov (.con (.int .i64 0)), none⟩])
  (.block 0 (.loop c18l0)))
  (.seq (.ops [⟨(some 4), .mov (.con (.bool true)), none⟩])
  .ret))))
def a18 : AFunc := ⟨2, c18, [.tmp 4]⟩

/- 19: tendril/tendrilbook.Same[int] -/
def c19l0 : ACode := (.seq (.seq (.ops [⟨(some 11), .mov (.tmp 5), none⟩,
    ⟨(some 12), .mov (.tmp 0), none⟩,
    ⟨(some 13), .lenSlice (.tmp 12), none⟩,
    ⟨(some 14), .bin .lss (.tmp 11) (.tmp 13), none⟩])
  (.cond (.tmp 14)
  .skip
  (.exit 0)))
  (.seq (.block 1 (.seq (.ops [⟨(some 17), .mov (.tmp 0), none⟩,
    ⟨(some 18), .mov (.tmp 5), none⟩,
    ⟨(some 19), .idxAddr 1 (.tmp 17) (.tmp 18), none⟩,
    ⟨(some 20), .load false 1 (.tmp 19), none⟩,
    ⟨(some 21), .mov (.tmp 1), none⟩,
    ⟨(some 22), .mov (.tmp 5), none⟩,
    ⟨(some 23), .idxAddr 1 (.tmp 21) (.tmp 22), none⟩,
    ⟨(some 24), .load false 1 (.tmp 23), none⟩,
    ⟨(some 25), .bin .neq (.tmp 20) (.tmp 24), none⟩])
  (.cond (.tmp 25)
  (.seq (.ops [⟨(some 4), .mov (.con (.bool false)), none⟩])
  .ret)
  .skip)))
  (.ops [⟨(some 15), .mov (.tmp 5), none⟩,
    ⟨(some 16), .bin .add (.tmp 15) (.con (.int .i64 1)), none⟩,
    ⟨(some 5), .mov (.tmp 16), none⟩])))
def c19 : ACode := (.seq (.ops [⟨(some 4), .mov (.con (.bool false)), none⟩])
  (.seq (.seq (.ops [⟨(some 6), .mov (.tmp 0), none⟩,
    ⟨(some 7), .lenSlice (.tmp 6), none⟩,
    ⟨(some 8), .mov (.tmp 1), none⟩,
    ⟨(some 9), .lenSlice (.tmp 8), none⟩,
    ⟨(some 10), .bin .neq (.tmp 7) (.tmp 9), none⟩])
  (.cond (.tmp 10)
  (.seq (.ops [⟨(some 4), .mov (.con (.bool false)), none⟩])
  .ret)
  .skip))
  (.seq (.seq (.ops [⟨(some 5), .mov (.con (.int .i64 0)), none⟩])
  (.block 0 (.loop c19l0)))
  (.seq (.ops [⟨(some 4), .mov (.con (.bool true)), none⟩])
  .ret))))
def a19 : AFunc := ⟨2, c19, [.tmp 4]⟩

/- 22: tendril/tendrilbook.Within -/
def c22 : ACode := (.seq (.ops [⟨(some 6), .mov (.con (.int .i64 0)), none⟩])
  (.seq (.ops [⟨(some 7), .mov (.tmp 0), none⟩,
    ⟨(some 8), .mov (.tmp 2), none⟩,
    ⟨(some 9), .mov (.tmp 1), none⟩,
    ⟨(some 10), .bin .sub (.tmp 8) (.tmp 9), none⟩,
    ⟨(some 11), .bin .add (.tmp 10) (.con (.int .i64 1)), none⟩,
    ⟨(some 12), .bin .rem (.tmp 7) (.tmp 11), none⟩,
    ⟨(some 0), .mov (.tmp 12), none⟩])
  (.seq (.seq (.ops [⟨(some 13), .mov (.tmp 0), none⟩,
    ⟨(some 14), .bin .lss (.tmp 13) (.con (.int .i64 0)), none⟩])
  (.cond (.tmp 14)
  (.ops [⟨(some 15), .mov (.tmp 0), none⟩,
    ⟨(some 16), .mov (.tmp 2), none⟩,
    ⟨(some 17), .bin .add (.tmp 15) (.tmp 16), none⟩,
    ⟨(some 18), .mov (.tmp 1), none⟩,
    ⟨(some 19), .bin .sub (.tmp 17) (.tmp 18), none⟩,
    ⟨(some 20), .bin .add (.tmp 19) (.con (.int .i64 1)), none⟩,
    ⟨(some 0), .mov (.tmp 20), none⟩])
  .skip))
  (.seq (.ops [⟨(some 21), .mov (.tmp 1), none⟩,
    ⟨(some 22), .mov (.tmp 0), none⟩,
    ⟨(some 23), .bin .add (.tmp 21) (.tmp 22), none⟩,
    ⟨(some 6), .mov (.tmp 23), none⟩])
  .ret))))
def a22 : AFunc := ⟨3, c22, [.tmp 6]⟩

/- 27: tendril/node.High -/
def c27 : ACode := (.seq (.ops [⟨(some 2), .mov (.con (.int .i64 0)), none⟩])
  (.seq (.seq (.ops [⟨(some 3), .mov (.tmp 0), none⟩])
  (.block 0 (.seq (.ops [⟨(some 5), .bin .eql (.tmp 3) (.con (.int .i64 1)), none⟩,
    ⟨(some 4), .mov (.tmp 5), none⟩])
  (.cond (.tmp 4)
  (.seq (.ops [⟨(some 2), .mov (.con (.int .i64 4)), none⟩])
  .ret)
  (.seq (.ops [⟨(some 7), .bin .eql (.tmp 3) (.con (.int .i64 2)), none⟩,
    ⟨(some 6), .mov (.tmp 7), none⟩])
  (.cond (.tmp 6)
  (.seq (.ops [⟨(some 2), .mov (.con (.int .i64 16)), none⟩])
  .ret)
  (.seq (.ops [⟨(some 9), .bin .eql (.tmp 3) (.con (.int .i64 3)), none⟩,
    ⟨(some 8), .mov (.tmp 9), none⟩])
  (.cond (.tmp 8)
  (.seq (.ops [⟨(some 2), .mov (.con (.int .i64 48)), none⟩])
  .ret)
  (.seq (.ops [⟨(some 11), .bin .eql (.tmp 3) (.con (.int .i64 4)), none⟩,
    ⟨(some 10), .mov (.tmp 11), none⟩])
  (.cond (.tmp 10)
  (.seq (.ops [⟨(some 2), .mov (.con (.int .i64 256)), none⟩])
  .ret)
  .skip))))))))))
  (.seq (.ops [⟨(some 2), .mov (.con (.int .i64 0)), none⟩])
  .ret)))
def a27 : AFunc := ⟨1, c27, [.tmp 2]⟩

/- 30: tendril/node.Low -/
def c30 : ACode := (.seq (.ops [⟨(some 2), .mov (.con (.int .i64 0)), none⟩])
  (.seq (.seq (.ops [⟨(some 3), .mov (.tmp 0), none⟩])
  (.block 0 (.seq (.ops [⟨(some 5), .bin .eql (.tmp 3) (.con (.int .i64 1)), none⟩,
    ⟨(some 4), .mov (.tmp 5), none⟩])
  (.cond (.tmp 4)
  (.seq (.ops [⟨(some 2), .mov (.con (.int .i64 2)), none⟩])
  .ret)
  (.seq (.ops [⟨(some 7), .bin .eql (.tmp 3) (.con (.int .i64 2)), none⟩,
    ⟨(some 6), .mov (.tmp 7), none⟩])
  (.cond (.tmp 6)
  (.seq (.ops [⟨(some 2), .mov (.con (.int .i64 4)), none⟩])
  .ret)
  (.seq (.ops [⟨(some 9), .bin .eql (.tmp 3) (.con (.int .i64 3)), none⟩,
    ⟨(some 8), .mov (.tmp 9), none⟩])
  (.cond (.tmp 8)
  (.seq (.ops [⟨(some 2), .mov (.con (.int .i64 13)), none⟩])
  .ret)
  (.seq (.ops [⟨(some 11), .bin .eql (.tmp 3) (.con (.int .i64 4)), none⟩,
    ⟨(some 10), .mov (.tmp 11), none⟩])
  (.cond (.tmp 10)
  (.seq (.ops [⟨(some 2), .mov (.con (.int .i64 38)), none⟩])
  .ret)
  .skip))))))))))
  (.seq (.ops [⟨(some 2), .mov (.con (.int .i64 0)), none⟩])
  .ret)))
def a30 : AFunc := ⟨1, c30, [.tmp 2]⟩

/- 25: tendril/tendrillaw7.made -/
def c25l0 : ACode := (.seq (.seq (.ops [⟨(some 21), .mov (.tmp 5), none⟩,
    ⟨(some 22), .fieldAddr 3 (.tmp 1), none⟩,
    ⟨(some 23), .load false 1 (.tmp 22), none⟩,
    ⟨(some 24), .lenSlice (.tmp 23), none⟩,
    ⟨(some 25), .bin .lss (.tmp 21) (.tmp 24), none⟩,
    ⟨(some 26), .mov (.tmp 25), none⟩,
    ⟨(some 27), .mov (.tmp 5), (some (26, true))⟩,
    ⟨(some 28), .bin .lss (.tmp 27) (.con (.int .i64 300)), (some (26, true))⟩,
    ⟨(some 29), .pick (.tmp 26) (.tmp 28) (.con (.bool false)), none⟩])
  (.cond (.tmp 29)
  .skip
  (.exit 0)))
  (.seq (.block 1 (.ops [⟨(some 32), .fieldAddr 3 (.tmp 1), none⟩,
    ⟨(some 33), .load false 1 (.tmp 32), none⟩,
    ⟨(some 34), .mov (.tmp 5), none⟩,
    ⟨(some 35), .idxAddr 1 (.tmp 33) (.tmp 34), none⟩,
    ⟨(some 36), .load false 1 (.tmp 35), none⟩,
    ⟨(some 37), .idxAddrArr 256 1 (.tmp 4) (.tmp 36), none⟩,
    ⟨none, .store 1 (.tmp 37) (.con (.bool true)), none⟩]))
  (.ops [⟨(some 30), .mov (.tmp 5), none⟩,
    ⟨(some 31), .bin .add (.tmp 30) (.con (.int .i64 1)), none⟩,
    ⟨(some 5), .mov (.tmp 31), none⟩])))
def c25l1 : ACode := (.seq (.seq (.ops [⟨(some 38), .mov (.tmp 6), none⟩,
    ⟨(some 39), .bin .lss (.tmp 38) (.con (.int .i64 256)), none⟩])
  (.cond (.tmp 39)
  .skip
  (.exit 2)))
  (.seq (.block 3 (.seq (.ops [⟨(some 42), .mov (.tmp 6), none⟩,
    ⟨(some 43), .idxAddrArr 256 1 (.tmp 4) (.tmp 42), none⟩,
    ⟨(some 44), .load false 1 (.tmp 43), none⟩])
  (.cond (.tmp 44)
  (.seq (.ops [⟨(some 45), .fieldAddr 3 (.tmp 3), none⟩,
    ⟨(some 46), .load false 1 (.tmp 45), none⟩,
    ⟨(some 47), .mov (.tmp 6), none⟩,
    ⟨(some 48), .toInt .u8 (.tmp 47), none⟩,
    ⟨(some 49), .buildSlice 1 1 [(.int .u8 0)] [(0, 1, (.tmp 48))], none⟩,
    ⟨(some 50), .append 1 1 (.tmp 46) (.tmp 49), none⟩,
    ⟨(some 51), .fieldAddr 3 (.tmp 3), none⟩,
    ⟨none, .store 1 (.tmp 51) (.tmp 50), none⟩])
  (.draw [.op ⟨(some 52), .fieldAddr 4 (.tmp 3), none⟩,
    .op ⟨(some 53), .load false 1 (.tmp 52), none⟩,
    .op ⟨(some 54), .fieldAddr 4 (.tmp 1), none⟩,
    .op ⟨(some 55), .load false 1 (.tmp 54), none⟩,
    .op ⟨(some 56), .mov (.tmp 6), none⟩,
    .op ⟨(some 57), .bin .add (.tmp 55) (.tmp 56), none⟩,
    .op ⟨(some 59), .mov (.tmp 6), none⟩,
    .op ⟨(some 60), .bin .add (.con (.int .i64 1)) (.tmp 59), none⟩,
    .op ⟨(some 61), .mov (.tmp 6), none⟩,
    .op ⟨(some 62), .bin .rem (.tmp 61) (.con (.int .i64 3)), none⟩,
    .op ⟨(some 63), .bin .eql (.tmp 62) (.con (.int .i64 0)), none⟩,
    .op ⟨(some 58), .call 22 [(.tmp 57), (.con (.int .i64 0)), (.con (.int .i64 1023))], none⟩,
    .look ⟨(some 53), .load false 1 (.tmp 52), none⟩,
    .op ⟨(some 64), .call 21 [(.tmp 58), (.tmp 60), (.tmp 63)], none⟩,
    .op ⟨(some 65), .buildSlice 1 1 [(.int .i64 0)] [(0, 1, (.tmp 64))], none⟩,
    .look ⟨(some 53), .load false 1 (.tmp 52), none⟩,
    .look ⟨(some 65), .buildSlice 1 1 [(.int .i64 0)] [(0, 1, (.tmp 64))], none⟩,
    .op ⟨(some 66), .append 1 8 (.tmp 53) (.tmp 65), none⟩,
    .op ⟨(some 67), .fieldAddr 4 (.tmp 3), none⟩,
    .op ⟨none, .store 1 (.tmp 67) (.tmp 66), none⟩]))
  .skip)))
  (.ops [⟨(some 40), .mov (.tmp 6), none⟩,
    ⟨(some 41), .bin .add (.tmp 40) (.con (.int .i64 1)), none⟩,
    ⟨(some 6), .mov (.tmp 41), none⟩])))
def c25l2 : ACode := (.seq (.seq (.draw [.op ⟨(some 73), .fieldAddr 0 (.tmp 3), none⟩,
    .op ⟨(some 74), .load false 1 (.tmp 73), none⟩,
    .op ⟨(some 75), .bin .lss (.tmp 74) (.con (.int .i64 4)), none⟩,
    .op ⟨(some 76), .mov (.tmp 75), none⟩,
    .op ⟨(some 77), .fieldAddr 3 (.tmp 3), (some (76, true))⟩,
    .op ⟨(some 78), .load false 1 (.tmp 77), (some (76, true))⟩,
    .op ⟨(some 79), .lenSlice (.tmp 78), (some (76, true))⟩,
    .op ⟨(some 80), .fieldAddr 0 (.tmp 3), (some (76, true))⟩,
    .op ⟨(some 81), .load false 1 (.tmp 80), (some (76, true))⟩,
    .op ⟨(some 82), .call 39 [(.tmp 81)], (some (76, true))⟩,
    .op ⟨(some 83), .bin .gtr (.tmp 79) (.tmp 82), (some (76, true))⟩,
    .op ⟨(some 84), .pick (.tmp 76) (.tmp 83) (.con (.bool false)), none⟩,
    .look ⟨(some 78), .load false 1 (.tmp 77), (some (76, true))⟩])
  (.cond (.tmp 84)
  .skip
  (.exit 4)))
  (.block 5 (.ops [⟨(some 85), .fieldAddr 0 (.tmp 3), none⟩,
    ⟨(some 86), .load false 1 (.tmp 85), none⟩,
    ⟨(some 87), .bin .add (.tmp 86) (.con (.int .i64 1)), none⟩,
    ⟨(some 88), .fieldAddr 0 (.tmp 3), none⟩,
    ⟨none, .store 1 (.tmp 88) (.tmp 87), none⟩])))
def c25 : ACode := (.seq (.ops [⟨(some 1), .box (.tmp 0), none⟩,
    ⟨(some 2), .new [(.int .i64 0), (.int .u64 0), (.str []), .nilSlice, .nilSlice], none⟩])
  (.seq (.ops [⟨(some 7), .fieldAddr 1 (.tmp 1), none⟩,
    ⟨(some 8), .load false 1 (.tmp 7), none⟩,
    ⟨(some 9), .bin .andNot (.tmp 8) (.con (.int .u64 3)), none⟩,
    ⟨(some 10), .fieldAddr 2 (.tmp 1), none⟩,
    ⟨(some 11), .load false 1 (.tmp 10), none⟩,
    ⟨(some 12), .build [(.int .i64 0), (.int .u64 0), (.str []), .nilSlice, .nilSlice] [(1, 1, (.tmp 9)), (2, 1, (.tmp 11))], none⟩,
    ⟨(some 3), .new [(.int .i64 0), (.int .u64 0), (.str []), .nilSlice, .nilSlice], none⟩,
    ⟨none, .store 5 (.tmp 3) (.tmp 12), none⟩])
  (.seq (.seq (.ops [⟨(some 13), .fieldAddr 2 (.tmp 3), none⟩,
    ⟨(some 14), .load false 1 (.tmp 13), none⟩,
    ⟨(some 15), .lenStr (.tmp 14), none⟩,
    ⟨(some 16), .bin .gtr (.tmp 15) (.con (.int .i64 12)), none⟩])
  (.cond (.tmp 16)
  (.ops [⟨(some 17), .fieldAddr 2 (.tmp 3), none⟩,
    ⟨(some 18), .load false 1 (.tmp 17), none⟩,
    ⟨(some 19), .slcStr (.tmp 18) none (some (.con (.int .i64 12))), none⟩,
    ⟨(some 20), .fieldAddr 2 (.tmp 3), none⟩,
    ⟨none, .store 1 (.tmp 20) (.tmp 19), none⟩])
  .skip))
  (.seq (.ops [⟨(some 4), .new [(.bool false), (.bool false), (.bool false), (.bool false), (.bool false), (.bool false), (.bool false), (.bool false), (.bool false), (.bool false), (.bool false), (.bool false), (.bool false), (.bool false), (.bool false), (.bool false), (.bool false), (.bool false), (.bool false), (.bool false), (.bool false), (.bool false), (.bool false), (.bool false), (.bool false), (.bool false), (.bool false), (.bool false), (.bool false), (.bool false), (.bool false), (.bool false), (.bool false), (.bool false), (.bool false), (.bool false), (.bool false), (.bool false), (.bool false), (.bool false), (.bool false), (.bool false), (.bool false), (.bool false), (.bool false), (.bool false), (.bool false), (.bool false), (.bool false), (.bool false), (.bool false), (.bool false), (.bool false), (.bool false), (.bool false), (.bool false), (.bool false), (.bool false), (.bool false), (.bool false), (.bool false), (.bool false), (.bool false), (.bool false), (.bool false), (.bool false), (.bool false), (.bool false), (.bool false), (.bool false), (.bool false), (.bool false), (.bool false), (.bool false), (.bool false), (.bool false), (.bool false), (.bool false), (.bool false), (.bool false), (.bool false), (.bool false), (.bool false), (.bool false), (.bool false), (.bool false), (.bool false), (.bool false), (.bool false), (.bool false), (.bool false), (.bool false), (.bool false), (.bool false), (.bool false), (.bool false), (.bool false), (.bool false), (.bool false), (.bool false), (.bool false), (.bool false), (.bool false), (.bool false), (.bool false), (.bool false), (.bool false), (.bool false), (.bool false), (.bool false), (.bool false), (.bool false), (.bool false), (.bool false), (.bool false), (.bool false), (.bool false), (.bool false), (.bool false), (.bool false), (.bool false), (.bool false), (.bool false), (.bool false), (.bool false), (.bool false), (.bool false), (.bool false), (.bool false), (.bool false), (.bool false), (.bool false), (.bool false), (.bool false), (.bool false), (.bool false), (.bool false), (.bool false), (.bool false), (.bool false), (.bool false), (.bool false), (.bool false), (.bool false), (.bool false), (.bool false), (.bool false), (.bool false), (.bool false), (.bool false), (.bool false), (.bool false), (.bool false), (.bool false), (.bool false), (.bool false), (.bool false), (.bool false), (.bool false), (.bool false), (.bool false), (.bool false), (.bool false), (.bool false), (.bool false), (.bool false), (.bool false), (.bool false), (.bool false), (.bool false), (.bool false), (.bool false), (.bool false), (.bool false), (.bool false), (.bool false), (.bool false), (.bool false), (.bool false), (.bool false), (.bool false), (.bool false), (.bool false), (.bool false), (.bool false), (.bool false), (.bool false), (.bool false), (.bool false), (.bool false), (.bool false), (.bool false), (.bool false), (.bool false), (.bool false), (.bool false), (.bool false), (.bool false), (.bool false), (.bool false), (.bool false), (.bool false), (.bool false), (.bool false), (.bool false), (.bool false), (.bool false), (.bool false), (.bool false), (.bool false), (.bool false), (.bool false), (.bool false), (.bool false), (.bool false), (.bool false), (.bool false), (.bool false), (.bool false), (.bool false), (.bool false), (.bool false), (.bool false), (.bool false), (.bool false), (.bool false), (.bool false), (.bool false), (.bool false), (.bool false), (.bool false), (.bool false), (.bool false), (.bool false), (.bool false), (.bool false), (.bool false), (.bool false), (.bool false), (.bool false), (.bool false), (.bool false), (.bool false), (.bool false), (.bool false), (.bool false), (.bool false), (.bool false), (.bool false), (.bool false), (.bool false), (.bool false), (.bool false), (.bool false), (.bool false), (.bool false)], none⟩])
  (.seq (.seq (.ops [⟨(some 5), .mov (.con (.int .i64 0)), none⟩])
  (.block 0 (.loop c25l0)))
  (.seq (.seq (.ops [⟨(some 6), .mov (.con (.int .i64 0)), none⟩])
  (.block 2 (.loop c25l1)))
  (.seq (.ops [⟨(some 68), .fieldAddr 0 (.tmp 1), none⟩,
    ⟨(some 69), .load false 1 (.tmp 68), none⟩,
    ⟨(some 70), .call 22 [(.tmp 69), (.con (.int .i64 0)), (.con (.int .i64 3))], none⟩,
    ⟨(some 71), .bin .add (.con (.int .i64 1)) (.tmp 70), none⟩,
    ⟨(some 72), .fieldAddr 0 (.tmp 3), none⟩,
    ⟨none, .store 1 (.tmp 72) (.tmp 71), none⟩])
  (.seq (.block 4 (.loop c25l2))
  (.seq (.ops [⟨(some 89), .load true 5 (.tmp 3), none⟩,
    ⟨none, .store 5 (.tmp 2) (.tmp 89), none⟩])
  .ret)))))))))
def a25 : AFunc := ⟨1, c25, [.cell 2 true 5]⟩

/- 21: tendril/word.Ref -/
def c21 : ACode := (.seq (.ops [⟨(some 6), .mov (.con (.int .i64 0)), none⟩])
  (.seq (.seq (.ops [⟨(some 8), .mov (.tmp 0), none⟩,
    ⟨(some 9), .bin .lss (.tmp 8) (.con (.int .i64 0)), none⟩,
    ⟨(some 10), .mov (.tmp 9), none⟩,
    ⟨(some 11), .mov (.tmp 0), (some (10, false))⟩,
    ⟨(some 12), .bin .geq (.tmp 11) (.con (.int .i64 1024)), (some (10, false))⟩,
    ⟨(some 13), .pick (.tmp 10) (.con (.bool true)) (.tmp 12), none⟩,
    ⟨(some 14), .mov (.tmp 13), none⟩,
    ⟨(some 15), .mov (.tmp 1), (some (14, false))⟩,
    ⟨(some 16), .bin .lss (.tmp 15) (.con (.int .i64 1)), (some (14, false))⟩,
    ⟨(some 17), .pick (.tmp 14) (.con (.bool true)) (.tmp 16), none⟩,
    ⟨(some 18), .mov (.tmp 17), none⟩,
    ⟨(some 19), .mov (.tmp 1), (some (18, false))⟩,
    ⟨(some 20), .bin .gtr (.tmp 19) (.con (.int .i64 1073741824)), (some (18, false))⟩,
    ⟨(some 21), .pick (.tmp 18) (.con (.bool true)) (.tmp 20), none⟩])
  (.cond (.tmp 21)
  (.seq (.ops [⟨(some 6), .mov (.con (.int .i64 0)), none⟩])
  .ret)
  .skip))
  (.seq (.ops [⟨(some 22), .mov (.tmp 1), none⟩,
    ⟨(some 23), .bin .shl (.tmp 22) (.con (.int .u64 16)), none⟩,
    ⟨(some 24), .mov (.tmp 0), none⟩,
    ⟨(some 25), .bin .or (.tmp 23) (.tmp 24), none⟩,
    ⟨(some 7), .mov (.tmp 25), none⟩])
  (.seq (.seq (.ops [⟨(some 26), .mov (.tmp 2), none⟩])
  (.cond (.tmp 26)
  (.ops [⟨(some 27), .mov (.tmp 7), none⟩,
    ⟨(some 28), .bin .or (.tmp 27) (.con (.int .i64 281474976710656)), none⟩,
    ⟨(some 7), .mov (.tmp 28), none⟩])
  .skip))
  (.seq (.ops [⟨(some 29), .mov (.tmp 7), none⟩,
    ⟨(some 6), .mov (.tmp 29), none⟩])
  .ret)))))
def a21 : AFunc := ⟨3, c21, [.tmp 6]⟩

/- 29: tendril/node.Find -/
def c29 : ACode := (.seq (.ops [⟨(some 2), .box (.tmp 0), none⟩,
    ⟨(some 4), .mov (.con (.int .i64 0)), none⟩,
    ⟨(some 5), .mov (.con (.bool false)), none⟩])
  (.seq (.ops [⟨(some 7), .load true 5 (.tmp 2), none⟩,
    ⟨(some 8), .mov (.tmp 1), none⟩,
    ⟨(some 9), .call 62 [(.tmp 7), (.tmp 8)], none⟩,
    ⟨(some 6), .mov (.tmp 9), none⟩])
  (.seq (.seq (.ops [⟨(some 10), .mov (.tmp 6), none⟩,
    ⟨(some 11), .bin .lss (.tmp 10) (.con (.int .i64 0)), none⟩])
  (.cond (.tmp 11)
  (.seq (.ops [⟨(some 4), .mov (.con (.int .i64 0)), none⟩,
    ⟨(some 5), .mov (.con (.bool false)), none⟩])
  .ret)
  .skip))
  (.seq (.ops [⟨(some 12), .fieldAddr 4 (.tmp 2), none⟩,
    ⟨(some 13), .load false 1 (.tmp 12), none⟩,
    ⟨(some 14), .mov (.tmp 6), none⟩,
    ⟨(some 15), .idxAddr 1 (.tmp 13) (.tmp 14), none⟩,
    ⟨(some 16), .load false 1 (.tmp 15), none⟩,
    ⟨(some 4), .mov (.tmp 16), none⟩,
    ⟨(some 5), .mov (.con (.bool true)), none⟩])
  .ret))))
def a29 : AFunc := ⟨2, c29, [.tmp 4, .tmp 5]⟩

/- 24: tendril/node.Right -/
def c24l0 : ACode := (.seq (.ops [⟨(some 48), .bin .lss (.tmp 47) (.tmp 46), none⟩])
  (.seq (.cond (.tmp 48)
  .skip
  (.exit 0))
  (.seq (.block 1 (.seq (.ops [⟨(some 49), .mov (.tmp 47), none⟩,
    ⟨(some 50), .idxAddr 1 (.tmp 45) (.tmp 47), none⟩,
    ⟨(some 51), .load false 1 (.tmp 50), none⟩,
    ⟨(some 3), .mov (.tmp 49), none⟩,
    ⟨(some 4), .mov (.tmp 51), none⟩])
  (.seq (.ops [⟨(some 52), .mov (.tmp 4), none⟩,
    ⟨(some 53), .call 56 [(.tmp 52)], none⟩,
    ⟨(some 54), .un .not (.tmp 53), none⟩,
    ⟨(some 55), .mov (.tmp 54), none⟩,
    ⟨(some 56), .mov (.tmp 3), (some (55, false))⟩,
    ⟨(some 57), .bin .gtr (.tmp 56) (.con (.int .i64 0)), (some (55, false))⟩,
    ⟨(some 58), .mov (.tmp 57), (some (55, false))⟩,
    ⟨(some 59), .fieldAddr 3 (.tmp 1), (some (58, true))⟩,
    ⟨(some 60), .load false 1 (.tmp 59), (some (58, true))⟩,
    ⟨(some 61), .mov (.tmp 3), (some (58, true))⟩,
    ⟨(some 62), .idxAddr 1 (.tmp 60) (.tmp 61), (some (58, true))⟩,
    ⟨(some 63), .load false 1 (.tmp 62), (some (58, true))⟩,
    ⟨(some 64), .fieldAddr 3 (.tmp 1), (some (58, true))⟩,
    ⟨(some 65), .load false 1 (.tmp 64), (some (58, true))⟩,
    ⟨(some 66), .mov (.tmp 3), (some (58, true))⟩,
    ⟨(some 67), .bin .sub (.tmp 66) (.con (.int .i64 1)), (some (58, true))⟩,
    ⟨(some 68), .idxAddr 1 (.tmp 65) (.tmp 67), (some (58, true))⟩,
    ⟨(some 69), .load false 1 (.tmp 68), (some (58, true))⟩,
    ⟨(some 70), .bin .leq (.tmp 63) (.tmp 69), (some (58, true))⟩,
    ⟨(some 71), .pick (.tmp 58) (.tmp 70) (.con (.bool false)), (some (55, false))⟩,
    ⟨(some 72), .pick (.tmp 55) (.con (.bool true)) (.tmp 71), none⟩])
  (.cond (.tmp 72)
  (.seq (.ops [⟨(some 2), .mov (.con (.bool false)), none⟩])
  .ret)
  .skip))))
  (.ops [⟨(some 73), .bin .add (.tmp 47) (.con (.int .i64 1)), none⟩,
    ⟨(some 47), .mov (.tmp 73), none⟩]))))
def c24 : ACode := (.seq (.ops [⟨(some 1), .box (.tmp 0), none⟩,
    ⟨(some 2), .mov (.con (.bool false)), none⟩])
  (.seq (.seq (.draw [.op ⟨(some 5), .fieldAddr 0 (.tmp 1), none⟩,
    .op ⟨(some 6), .load false 1 (.tmp 5), none⟩,
    .op ⟨(some 7), .call 27 [(.tmp 6)], none⟩,
    .op ⟨(some 8), .bin .eql (.tmp 7) (.con (.int .i64 0)), none⟩,
    .op ⟨(some 9), .mov (.tmp 8), none⟩,
    .op ⟨(some 10), .fieldAddr 1 (.tmp 1), (some (9, false))⟩,
    .op ⟨(some 11), .load false 1 (.tmp 10), (some (9, false))⟩,
    .op ⟨(some 12), .call 65 [(.tmp 11)], (some (9, false))⟩,
    .op ⟨(some 13), .mov (.tmp 12), (some (9, false))⟩,
    .op ⟨(some 14), .fieldAddr 1 (.tmp 1), (some (13, true))⟩,
    .op ⟨(some 15), .load false 1 (.tmp 14), (some (13, true))⟩,
    .op ⟨(some 16), .bin .and (.tmp 15) (.con (.int .u64 1)), (some (13, true))⟩,
    .op ⟨(some 17), .bin .neq (.tmp 16) (.con (.int .u64 0)), (some (13, true))⟩,
    .op ⟨(some 18), .pick (.tmp 13) (.tmp 17) (.con (.bool false)), (some (9, false))⟩,
    .op ⟨(some 19), .pick (.tmp 9) (.con (.bool true)) (.tmp 18), none⟩,
    .op ⟨(some 20), .mov (.tmp 19), none⟩,
    .op ⟨(some 21), .fieldAddr 2 (.tmp 1), (some (20, false))⟩,
    .op ⟨(some 22), .load false 1 (.tmp 21), (some (20, false))⟩,
    .op ⟨(some 23), .lenStr (.tmp 22), (some (20, false))⟩,
    .op ⟨(some 24), .bin .gtr (.tmp 23) (.con (.int .i64 12)), (some (20, false))⟩,
    .op ⟨(some 25), .pick (.tmp 20) (.con (.bool true)) (.tmp 24), none⟩,
    .op ⟨(some 26), .mov (.tmp 25), none⟩,
    .op ⟨(some 27), .fieldAddr 3 (.tmp 1), (some (26, false))⟩,
    .op ⟨(some 28), .load false 1 (.tmp 27), (some (26, false))⟩,
    .op ⟨(some 29), .lenSlice (.tmp 28), (some (26, false))⟩,
    .op ⟨(some 30), .fieldAddr 4 (.tmp 1), (some (26, false))⟩,
    .op ⟨(some 31), .load false 1 (.tmp 30), (some (26, false))⟩,
    .op ⟨(some 32), .lenSlice (.tmp 31), (some (26, false))⟩,
    .op ⟨(some 33), .bin .neq (.tmp 29) (.tmp 32), (some (26, false))⟩,
    .op ⟨(some 34), .pick (.tmp 26) (.con (.bool true)) (.tmp 33), none⟩,
    .op ⟨(some 35), .mov (.tmp 34), none⟩,
    .op ⟨(some 36), .fieldAddr 3 (.tmp 1), (some (35, false))⟩,
    .op ⟨(some 37), .load false 1 (.tmp 36), (some (35, false))⟩,
    .op ⟨(some 38), .lenSlice (.tmp 37), (some (35, false))⟩,
    .op ⟨(some 39), .fieldAddr 0 (.tmp 1), (some (35, false))⟩,
    .op ⟨(some 40), .load false 1 (.tmp 39), (some (35, false))⟩,
    .op ⟨(some 41), .call 27 [(.tmp 40)], (some (35, false))⟩,
    .op ⟨(some 42), .bin .gtr (.tmp 38) (.tmp 41), (some (35, false))⟩,
    .op ⟨(some 43), .pick (.tmp 35) (.con (.bool true)) (.tmp 42), none⟩,
    .look ⟨(some 37), .load false 1 (.tmp 36), (some (35, false))⟩])
  (.cond (.tmp 43)
  (.seq (.ops [⟨(some 2), .mov (.con (.bool false)), none⟩])
  .ret)
  .skip))
  (.seq (.seq (.ops [⟨(some 44), .fieldAddr 4 (.tmp 1), none⟩,
    ⟨(some 45), .load false 1 (.tmp 44), none⟩,
    ⟨(some 46), .lenSlice (.tmp 45), none⟩,
    ⟨(some 47), .mov (.con (.int .i64 0)), none⟩])
  (.block 0 (.loop c24l0)))
  (.seq (.ops [⟨(some 2), .mov (.con (.bool true)), none⟩])
  .ret))))
def a24 : AFunc := ⟨1, c24, [.tmp 2]⟩

/- 23: tendril/tendrillaw7.same -/
def c23 : ACode := (.seq (.ops [⟨(some 2), .box (.tmp 0), none⟩,
    ⟨(some 3), .box (.tmp 1), none⟩,
    ⟨(some 4), .mov (.con (.bool false)), none⟩])
  (.seq (.ops [⟨(some 5), .fieldAddr 0 (.tmp 2), none⟩,
    ⟨(some 6), .load false 1 (.tmp 5), none⟩,
    ⟨(some 7), .fieldAddr 0 (.tmp 3), none⟩,
    ⟨(some 8), .load false 1 (.tmp 7), none⟩,
    ⟨(some 9), .bin .eql (.tmp 6) (.tmp 8), none⟩,
    ⟨(some 10), .mov (.tmp 9), none⟩,
    ⟨(some 11), .fieldAddr 1 (.tmp 2), (some (10, true))⟩,
    ⟨(some 12), .load false 1 (.tmp 11), (some (10, true))⟩,
    ⟨(some 13), .fieldAddr 1 (.tmp 3), (some (10, true))⟩,
    ⟨(some 14), .load false 1 (.tmp 13), (some (10, true))⟩,
    ⟨(some 15), .bin .eql (.tmp 12) (.tmp 14), (some (10, true))⟩,
    ⟨(some 16), .pick (.tmp 10) (.tmp 15) (.con (.bool false)), none⟩,
    ⟨(some 17), .mov (.tmp 16), none⟩,
    ⟨(some 18), .fieldAddr 2 (.tmp 2), (some (17, true))⟩,
    ⟨(some 19), .load false 1 (.tmp 18), (some (17, true))⟩,
    ⟨(some 20), .fieldAddr 2 (.tmp 3), (some (17, true))⟩,
    ⟨(some 21), .load false 1 (.tmp 20), (some (17, true))⟩,
    ⟨(some 22), .bin .eql (.tmp 19) (.tmp 21), (some (17, true))⟩,
    ⟨(some 23), .pick (.tmp 17) (.tmp 22) (.con (.bool false)), none⟩,
    ⟨(some 24), .mov (.tmp 23), none⟩,
    ⟨(some 25), .fieldAddr 3 (.tmp 2), (some (24, true))⟩,
    ⟨(some 26), .load false 1 (.tmp 25), (some (24, true))⟩,
    ⟨(some 27), .fieldAddr 3 (.tmp 3), (some (24, true))⟩,
    ⟨(some 28), .load false 1 (.tmp 27), (some (24, true))⟩,
    ⟨(some 29), .call 28 [(.tmp 26), (.tmp 28)], (some (24, true))⟩,
    ⟨(some 30), .pick (.tmp 24) (.tmp 29) (.con (.bool false)), none⟩,
    ⟨(some 31), .mov (.tmp 30), none⟩,
    ⟨(some 32), .fieldAddr 4 (.tmp 2), (some (31, true))⟩,
    ⟨(some 33), .load false 1 (.tmp 32), (some (31, true))⟩,
    ⟨(some 34), .fieldAddr 4 (.tmp 3), (some (31, true))⟩,
    ⟨(some 35), .load false 1 (.tmp 34), (some (31, true))⟩,
    ⟨(some 36), .call 19 [(.tmp 33), (.tmp 35)], (some (31, true))⟩,
    ⟨(some 37), .pick (.tmp 31) (.tmp 36) (.con (.bool false)), none⟩,
    ⟨(some 4), .mov (.tmp 37), none⟩])
  .ret))
def a23 : AFunc := ⟨2, c23, [.tmp 4]⟩

/- 26: tendril/node.Turn -/
def c26 : ACode := (.seq (.ops [⟨(some 2), .box (.tmp 0), none⟩,
    ⟨(some 4), .new [(.int .i64 0), (.int .u64 0), (.str []), .nilSlice, .nilSlice], none⟩,
    ⟨(some 5), .mov (.con (.bool false)), none⟩])
  (.seq (.seq (.draw [.op ⟨(some 6), .load true 5 (.tmp 2), none⟩,
    .op ⟨(some 7), .call 24 [(.tmp 6)], none⟩,
    .op ⟨(some 8), .un .not (.tmp 7), none⟩,
    .op ⟨(some 9), .mov (.tmp 8), none⟩,
    .op ⟨(some 10), .mov (.tmp 1), (some (9, false))⟩,
    .op ⟨(some 11), .call 27 [(.tmp 10)], (some (9, false))⟩,
    .op ⟨(some 12), .bin .eql (.tmp 11) (.con (.int .i64 0)), (some (9, false))⟩,
    .op ⟨(some 13), .pick (.tmp 9) (.con (.bool true)) (.tmp 12), none⟩,
    .op ⟨(some 14), .mov (.tmp 13), none⟩,
    .op ⟨(some 15), .fieldAddr 3 (.tmp 2), (some (14, false))⟩,
    .op ⟨(some 16), .load false 1 (.tmp 15), (some (14, false))⟩,
    .op ⟨(some 17), .lenSlice (.tmp 16), (some (14, false))⟩,
    .op ⟨(some 18), .mov (.tmp 1), (some (14, false))⟩,
    .op ⟨(some 19), .call 27 [(.tmp 18)], (some (14, false))⟩,
    .op ⟨(some 20), .bin .gtr (.tmp 17) (.tmp 19), (some (14, false))⟩,
    .op ⟨(some 21), .pick (.tmp 14) (.con (.bool true)) (.tmp 20), none⟩,
    .look ⟨(some 16), .load false 1 (.tmp 15), (some (14, false))⟩])
  (.cond (.tmp 21)
  (.seq (.ops [⟨(some 22), .build [(.int .i64 0), (.int .u64 0), (.str []), .nilSlice, .nilSlice] [], none⟩,
    ⟨none, .store 5 (.tmp 4) (.tmp 22), none⟩,
    ⟨(some 5), .mov (.con (.bool false)), none⟩])
  .ret)
  .skip))
  (.seq (.draw [.op ⟨(some 23), .mov (.tmp 1), none⟩,
    .op ⟨(some 24), .fieldAddr 2 (.tmp 2), none⟩,
    .op ⟨(some 25), .load false 1 (.tmp 24), none⟩,
    .op ⟨(some 26), .fieldAddr 3 (.tmp 2), none⟩,
    .op ⟨(some 27), .load false 1 (.tmp 26), none⟩,
    .op ⟨(some 29), .fieldAddr 4 (.tmp 2), none⟩,
    .op ⟨(some 30), .load false 1 (.tmp 29), none⟩,
    .op ⟨(some 28), .call 57 [(.tmp 27)], none⟩,
    .look ⟨(some 25), .load false 1 (.tmp 24), none⟩,
    .look ⟨(some 30), .load false 1 (.tmp 29), none⟩,
    .op ⟨(some 31), .call 58 [(.tmp 30)], none⟩,
    .op ⟨(some 32), .build [(.int .i64 0), (.int .u64 0), (.str []), .nilSlice, .nilSlice] [(0, 1, (.tmp 23)), (2, 1, (.tmp 25)), (3, 1, (.tmp 28)), (4, 1, (.tmp 31))], none⟩,
    .look ⟨(some 25), .load false 1 (.tmp 24), none⟩,
    .op ⟨none, .store 5 (.tmp 4) (.tmp 32), none⟩,
    .op ⟨(some 5), .mov (.con (.bool true)), none⟩])
  .ret)))
def a26 : AFunc := ⟨2, c26, [.cell 4 true 5, .tmp 5]⟩

/- 28: tendril/tendrilbook.Same[byte] -/
def c28l0 : ACode := (.seq (.seq (.ops [⟨(some 11), .mov (.tmp 5), none⟩,
    ⟨(some 12), .mov (.tmp 0), none⟩,
    ⟨(some 13), .lenSlice (.tmp 12), none⟩,
    ⟨(some 14), .bin .lss (.tmp 11) (.tmp 13), none⟩])
  (.cond (.tmp 14)
  .skip
  (.exit 0)))
  (.seq (.block 1 (.seq (.ops [⟨(some 17), .mov (.tmp 0), none⟩,
    ⟨(some 18), .mov (.tmp 5), none⟩,
    ⟨(some 19), .idxAddr 1 (.tmp 17) (.tmp 18), none⟩,
    ⟨(some 20), .load false 1 (.tmp 19), none⟩,
    ⟨(some 21), .mov (.tmp 1), none⟩,
    ⟨(some 22), .mov (.tmp 5), none⟩,
    ⟨(some 23), .idxAddr 1 (.tmp 21) (.tmp 22), none⟩,
    ⟨(some 24), .load false 1 (.tmp 23), none⟩,
    ⟨(some 25), .bin .neq (.tmp 20) (.tmp 24), none⟩])
  (.cond (.tmp 25)
  (.seq (.ops [⟨(some 4), .mov (.con (.bool false)), none⟩])
  .ret)
  .skip)))
  (.ops [⟨(some 15), .mov (.tmp 5), none⟩,
    ⟨(some 16), .bin .add (.tmp 15) (.con (.int .i64 1)), none⟩,
    ⟨(some 5), .mov (.tmp 16), none⟩])))
def c28 : ACode := (.seq (.ops [⟨(some 4), .mov (.con (.bool false)), none⟩])
  (.seq (.seq (.ops [⟨(some 6), .mov (.tmp 0), none⟩,
    ⟨(some 7), .lenSlice (.tmp 6), none⟩,
    ⟨(some 8), .mov (.tmp 1), none⟩,
    ⟨(some 9), .lenSlice (.tmp 8), none⟩,
    ⟨(some 10), .bin .neq (.tmp 7) (.tmp 9), none⟩])
  (.cond (.tmp 10)
  (.seq (.ops [⟨(some 4), .mov (.con (.bool false)), none⟩])
  .ret)
  .skip))
  (.seq (.seq (.ops [⟨(some 5), .mov (.con (.int .i64 0)), none⟩])
  (.block 0 (.loop c28l0)))
  (.seq (.ops [⟨(some 4), .mov (.con (.bool true)), none⟩])
  .ret))))
def a28 : AFunc := ⟨2, c28, [.tmp 4]⟩

/- 49: tendril/node.Decode -/
def c49l0 : ACode := (.seq (.ops [⟨(some 83), .bin .lss (.tmp 82) (.tmp 81), none⟩])
  (.seq (.cond (.tmp 83)
  .skip
  (.exit 0))
  (.seq (.block 1 (.seq (.ops [⟨(some 84), .mov (.tmp 82), none⟩,
    ⟨(some 85), .idxAddr 1 (.tmp 80) (.tmp 82), none⟩,
    ⟨(some 86), .load false 1 (.tmp 85), none⟩,
    ⟨(some 12), .mov (.tmp 84), none⟩,
    ⟨(some 13), .mov (.tmp 86), none⟩])
  (.draw [.op ⟨(some 87), .fieldAddr 4 (.tmp 11), none⟩,
    .op ⟨(some 88), .load false 1 (.tmp 87), none⟩,
    .op ⟨(some 89), .mov (.tmp 0), none⟩,
    .op ⟨(some 90), .mov (.tmp 4), none⟩,
    .op ⟨(some 91), .mov (.tmp 12), none⟩,
    .op ⟨(some 92), .mov (.tmp 13), none⟩,
    .op ⟨(some 93), .call 76 [(.tmp 90), (.tmp 91), (.tmp 92)], none⟩,
    .op ⟨(some 94), .idxAddr 1 (.tmp 89) (.tmp 93), none⟩,
    .op ⟨(some 95), .load false 1 (.tmp 94), none⟩,
    .op ⟨(some 96), .toInt .i64 (.tmp 95), none⟩,
    .op ⟨(some 97), .buildSlice 1 1 [(.int .i64 0)] [(0, 1, (.tmp 96))], none⟩,
    .look ⟨(some 88), .load false 1 (.tmp 87), none⟩,
    .look ⟨(some 95), .load false 1 (.tmp 94), none⟩,
    .look ⟨(some 97), .buildSlice 1 1 [(.int .i64 0)] [(0, 1, (.tmp 96))], none⟩,
    .op ⟨(some 98), .append 1 8 (.tmp 88) (.tmp 97), none⟩,
    .op ⟨(some 99), .fieldAddr 4 (.tmp 11), none⟩,
    .op ⟨none, .store 1 (.tmp 99) (.tmp 98), none⟩])))
  (.ops [⟨(some 100), .bin .add (.tmp 82) (.con (.int .i64 1)), none⟩,
    ⟨(some 82), .mov (.tmp 100), none⟩]))))
def c49 : ACode := (.seq (.ops [⟨(some 2), .new [(.int .i64 0), (.int .u64 0), (.str []), .nilSlice, .nilSlice], none⟩,
    ⟨(some 3), .mov (.con (.bool false)), none⟩])
  (.seq (.seq (.ops [⟨(some 14), .mov (.tmp 0), none⟩,
    ⟨(some 15), .lenSlice (.tmp 14), none⟩,
    ⟨(some 16), .bin .lss (.tmp 15) (.con (.int .i64 4)), none⟩])
  (.cond (.tmp 16)
  (.seq (.ops [⟨(some 17), .build [(.int .i64 0), (.int .u64 0), (.str []), .nilSlice, .nilSlice] [], none⟩,
    ⟨none, .store 5 (.tmp 2) (.tmp 17), none⟩,
    ⟨(some 3), .mov (.con (.bool false)), none⟩])
  .ret)
  .skip))
  (.seq (.ops [⟨(some 18), .mov (.tmp 0), none⟩,
    ⟨(some 19), .idxAddr 1 (.tmp 18) (.con (.int .i64 1)), none⟩,
    ⟨(some 20), .load false 1 (.tmp 19), none⟩,
    ⟨(some 21), .bin .and (.tmp 20) (.con (.int .u64 255)), none⟩,
    ⟨(some 22), .toInt .i64 (.tmp 21), none⟩,
    ⟨(some 23), .mov (.tmp 0), none⟩,
    ⟨(some 24), .idxAddr 1 (.tmp 23) (.con (.int .i64 1)), none⟩,
    ⟨(some 25), .load false 1 (.tmp 24), none⟩,
    ⟨(some 26), .bin .shr (.tmp 25) (.con (.int .u64 8)), none⟩,
    ⟨(some 27), .bin .and (.tmp 26) (.con (.int .u64 255)), none⟩,
    ⟨(some 28), .toInt .i64 (.tmp 27), none⟩,
    ⟨(some 29), .mov (.tmp 0), none⟩,
    ⟨(some 30), .idxAddr 1 (.tmp 29) (.con (.int .i64 1)), none⟩,
    ⟨(some 31), .load false 1 (.tmp 30), none⟩,
    ⟨(some 32), .bin .shr (.tmp 31) (.con (.int .u64 16)), none⟩,
    ⟨(some 33), .bin .and (.tmp 32) (.con (.int .u64 65535)), none⟩,
    ⟨(some 34), .toInt .i64 (.tmp 33), none⟩,
    ⟨(some 4), .mov (.tmp 22), none⟩,
    ⟨(some 5), .mov (.tmp 28), none⟩,
    ⟨(some 6), .mov (.tmp 34), none⟩])
  (.seq (.seq (.ops [⟨(some 35), .mov (.tmp 4), none⟩,
    ⟨(some 36), .call 27 [(.tmp 35)], none⟩,
    ⟨(some 37), .bin .eql (.tmp 36) (.con (.int .i64 0)), none⟩,
    ⟨(some 38), .mov (.tmp 37), none⟩,
    ⟨(some 39), .mov (.tmp 0), (some (38, false))⟩,
    ⟨(some 40), .lenSlice (.tmp 39), (some (38, false))⟩,
    ⟨(some 41), .mov (.tmp 4), (some (38, false))⟩,
    ⟨(some 42), .call 53 [(.tmp 41)], (some (38, false))⟩,
    ⟨(some 43), .bin .neq (.tmp 40) (.tmp 42), (some (38, false))⟩,
    ⟨(some 44), .pick (.tmp 38) (.con (.bool true)) (.tmp 43), none⟩,
    ⟨(some 45), .mov (.tmp 44), none⟩,
    ⟨(some 46), .mov (.tmp 6), (some (45, false))⟩,
    ⟨(some 47), .mov (.tmp 4), (some (45, false))⟩,
    ⟨(some 48), .call 27 [(.tmp 47)], (some (45, false))⟩,
    ⟨(some 49), .bin .gtr (.tmp 46) (.tmp 48), (some (45, false))⟩,
    ⟨(some 50), .pick (.tmp 45) (.con (.bool true)) (.tmp 49), none⟩])
  (.cond (.tmp 50)
  (.seq (.ops [⟨(some 51), .build [(.int .i64 0), (.int .u64 0), (.str []), .nilSlice, .nilSlice] [], none⟩,
    ⟨none, .store 5 (.tmp 2) (.tmp 51), none⟩,
    ⟨(some 3), .mov (.con (.bool false)), none⟩])
  .ret)
  .skip))
  (.seq (.ops [⟨(some 53), .mov (.tmp 0), none⟩,
    ⟨(some 54), .slc 1 (.tmp 53) (some (.con (.int .i64 2))) (some (.con (.int .i64 4))) none, none⟩,
    ⟨(some 55), .mov (.tmp 5), none⟩,
    ⟨(some 56), .call 69 [(.tmp 54), (.tmp 55)], none⟩,
    ⟨(some 52), .mov (.tmp 56), none⟩,
    ⟨(some 57), .extract (.tmp 52) 0, none⟩,
    ⟨(some 58), .extract (.tmp 52) 1, none⟩,
    ⟨(some 7), .mov (.tmp 57), none⟩,
    ⟨(some 8), .mov (.tmp 58), none⟩])
  (.seq (.ops [⟨(some 60), .mov (.tmp 0), none⟩,
    ⟨(some 61), .mov (.tmp 4), none⟩,
    ⟨(some 62), .mov (.tmp 6), none⟩,
    ⟨(some 63), .call 75 [(.tmp 60), (.tmp 61), (.tmp 62)], none⟩,
    ⟨(some 59), .mov (.tmp 63), none⟩,
    ⟨(some 64), .extract (.tmp 59) 0, none⟩,
    ⟨(some 65), .extract (.tmp 59) 1, none⟩,
    ⟨(some 9), .mov (.tmp 64), none⟩,
    ⟨(some 10), .mov (.tmp 65), none⟩])
  (.seq (.seq (.ops [⟨(some 66), .mov (.tmp 8), none⟩,
    ⟨(some 67), .bin .neq (.tmp 66) (.con (.int .i64 0)), none⟩,
    ⟨(some 68), .mov (.tmp 67), none⟩,
    ⟨(some 69), .mov (.tmp 10), (some (68, false))⟩,
    ⟨(some 70), .un .not (.tmp 69), (some (68, false))⟩,
    ⟨(some 71), .pick (.tmp 68) (.con (.bool true)) (.tmp 70), none⟩])
  (.cond (.tmp 71)
  (.seq (.ops [⟨(some 72), .build [(.int .i64 0), (.int .u64 0), (.str []), .nilSlice, .nilSlice] [], none⟩,
    ⟨none, .store 5 (.tmp 2) (.tmp 72), none⟩,
    ⟨(some 3), .mov (.con (.bool false)), none⟩])
  .ret)
  .skip))
  (.seq (.ops [⟨(some 73), .mov (.tmp 4), none⟩,
    ⟨(some 74), .mov (.tmp 0), none⟩,
    ⟨(some 75), .idxAddr 1 (.tmp 74) (.con (.int .i64 0)), none⟩,
    ⟨(some 76), .load false 1 (.tmp 75), none⟩,
    ⟨(some 77), .mov (.tmp 7), none⟩,
    ⟨(some 78), .mov (.tmp 9), none⟩,
    ⟨(some 79), .build [(.int .i64 0), (.int .u64 0), (.str []), .nilSlice, .nilSlice] [(0, 1, (.tmp 73)), (1, 1, (.tmp 76)), (2, 1, (.tmp 77)), (3, 1, (.tmp 78))], none⟩,
    ⟨(some 11), .new [(.int .i64 0), (.int .u64 0), (.str []), .nilSlice, .nilSlice], none⟩,
    ⟨none, .store 5 (.tmp 11) (.tmp 79), none⟩])
  (.seq (.seq (.ops [⟨(some 80), .mov (.tmp 9), none⟩,
    ⟨(some 81), .lenSlice (.tmp 80), none⟩,
    ⟨(some 82), .mov (.con (.int .i64 0)), none⟩])
  (.block 0 (.loop c49l0)))
  (.seq (.seq (.ops [⟨(some 101), .load true 5 (.tmp 11), none⟩,
    ⟨(some 102), .call 15 [(.tmp 101)], none⟩,
    ⟨(some 103), .mov (.tmp 0), none⟩,
    ⟨(some 104), .call 70 [(.tmp 102), (.tmp 103)], none⟩,
    ⟨(some 105), .un .not (.tmp 104), none⟩])
  (.cond (.tmp 105)
  (.seq (.ops [⟨(some 106), .build [(.int .i64 0), (.int .u64 0), (.str []), .nilSlice, .nilSlice] [], none⟩,
    ⟨none, .store 5 (.tmp 2) (.tmp 106), none⟩,
    ⟨(some 3), .mov (.con (.bool false)), none⟩])
  .ret)
  .skip))
  (.seq (.ops [⟨(some 107), .load true 5 (.tmp 11), none⟩,
    ⟨none, .store 5 (.tmp 2) (.tmp 107), none⟩,
    ⟨(some 3), .mov (.con (.bool true)), none⟩])
  .ret)))))))))))
def a49 : AFunc := ⟨1, c49, [.cell 2 true 5, .tmp 3]⟩

/- 43: tendril/node.DecodeLeaf -/
def c43 : ACode := (.seq (.ops [⟨(some 2), .new [(.str []), (.int .i64 0)], none⟩,
    ⟨(some 3), .mov (.con (.bool false)), none⟩])
  (.seq (.seq (.ops [⟨(some 7), .mov (.tmp 0), none⟩,
    ⟨(some 8), .lenSlice (.tmp 7), none⟩,
    ⟨(some 9), .call 53 [(.con (.int .i64 0))], none⟩,
    ⟨(some 10), .bin .neq (.tmp 8) (.tmp 9), none⟩])
  (.cond (.tmp 10)
  (.seq (.ops [⟨(some 11), .build [(.str []), (.int .i64 0)] [], none⟩,
    ⟨none, .store 2 (.tmp 2) (.tmp 11), none⟩,
    ⟨(some 3), .mov (.con (.bool false)), none⟩])
  .ret)
  .skip))
  (.seq (.ops [⟨(some 13), .mov (.tmp 0), none⟩,
    ⟨(some 14), .slc 1 (.tmp 13) (some (.con (.int .i64 2))) (some (.con (.int .i64 4))) none, none⟩,
    ⟨(some 15), .mov (.tmp 0), none⟩,
    ⟨(some 16), .idxAddr 1 (.tmp 15) (.con (.int .i64 1)), none⟩,
    ⟨(some 17), .load false 1 (.tmp 16), none⟩,
    ⟨(some 18), .bin .shr (.tmp 17) (.con (.int .u64 8)), none⟩,
    ⟨(some 19), .bin .and (.tmp 18) (.con (.int .u64 255)), none⟩,
    ⟨(some 20), .toInt .i64 (.tmp 19), none⟩,
    ⟨(some 21), .call 69 [(.tmp 14), (.tmp 20)], none⟩,
    ⟨(some 12), .mov (.tmp 21), none⟩,
    ⟨(some 22), .extract (.tmp 12) 0, none⟩,
    ⟨(some 23), .extract (.tmp 12) 1, none⟩,
    ⟨(some 4), .mov (.tmp 22), none⟩,
    ⟨(some 5), .mov (.tmp 23), none⟩])
  (.seq (.ops [⟨(some 24), .mov (.tmp 4), none⟩,
    ⟨(some 25), .mov (.tmp 0), none⟩,
    ⟨(some 26), .idxAddr 1 (.tmp 25) (.con (.int .i64 4)), none⟩,
    ⟨(some 27), .load false 1 (.tmp 26), none⟩,
    ⟨(some 28), .toInt .i64 (.tmp 27), none⟩,
    ⟨(some 29), .build [(.str []), (.int .i64 0)] [(0, 1, (.tmp 24)), (1, 1, (.tmp 28))], none⟩,
    ⟨(some 6), .new [(.str []), (.int .i64 0)], none⟩,
    ⟨none, .store 2 (.tmp 6) (.tmp 29), none⟩])
  (.seq (.seq (.ops [⟨(some 30), .mov (.tmp 5), none⟩,
    ⟨(some 31), .bin .neq (.tmp 30) (.con (.int .i64 0)), none⟩,
    ⟨(some 32), .mov (.tmp 31), none⟩,
    ⟨(some 33), .load true 2 (.tmp 6), (some (32, false))⟩,
    ⟨(some 34), .call 45 [(.tmp 33)], (some (32, false))⟩,
    ⟨(some 35), .mov (.tmp 0), (some (32, false))⟩,
    ⟨(some 36), .call 70 [(.tmp 34), (.tmp 35)], (some (32, false))⟩,
    ⟨(some 37), .un .not (.tmp 36), (some (32, false))⟩,
    ⟨(some 38), .pick (.tmp 32) (.con (.bool true)) (.tmp 37), none⟩])
  (.cond (.tmp 38)
  (.seq (.ops [⟨(some 39), .build [(.str []), (.int .i64 0)] [], none⟩,
    ⟨none, .store 2 (.tmp 2) (.tmp 39), none⟩,
    ⟨(some 3), .mov (.con (.bool false)), none⟩])
  .ret)
  .skip))
  (.seq (.ops [⟨(some 40), .load true 2 (.tmp 6), none⟩,
    ⟨none, .store 2 (.tmp 2) (.tmp 40), none⟩,
    ⟨(some 3), .mov (.con (.bool true)), none⟩])
  .ret))))))
def a43 : AFunc := ⟨1, c43, [.cell 2 true 2, .tmp 3]⟩

/- 44: tendril/tendrilref1.DecodeLeaf -/
def c44 : ACode := (.seq (.ops [⟨(some 2), .new [(.str []), (.int .i64 0)], none⟩,
    ⟨(some 3), .mov (.con (.bool false)), none⟩])
  (.seq (.seq (.ops [⟨(some 7), .mov (.tmp 0), none⟩,
    ⟨(some 8), .lenSlice (.tmp 7), none⟩,
    ⟨(some 9), .call 71 [(.con (.int .i64 0))], none⟩,
    ⟨(some 10), .bin .neq (.tmp 8) (.tmp 9), none⟩,
    ⟨(some 11), .mov (.tmp 10), none⟩,
    ⟨(some 12), .mov (.tmp 0), (some (11, false))⟩,
    ⟨(some 13), .idxAddr 1 (.tmp 12) (.con (.int .i64 0)), (some (11, false))⟩,
    ⟨(some 14), .load false 1 (.tmp 13), (some (11, false))⟩,
    ⟨(some 15), .bin .neq (.tmp 14) (.con (.int .u64 0)), (some (11, false))⟩,
    ⟨(some 16), .pick (.tmp 11) (.con (.bool true)) (.tmp 15), none⟩,
    ⟨(some 17), .mov (.tmp 16), none⟩,
    ⟨(some 18), .mov (.tmp 0), (some (17, false))⟩,
    ⟨(some 19), .idxAddr 1 (.tmp 18) (.con (.int .i64 1)), (some (17, false))⟩,
    ⟨(some 20), .load false 1 (.tmp 19), (some (17, false))⟩,
    ⟨(some 21), .bin .andNot (.tmp 20) (.con (.int .u64 65280)), (some (17, false))⟩,
    ⟨(some 22), .bin .neq (.tmp 21) (.con (.int .u64 0)), (some (17, false))⟩,
    ⟨(some 23), .pick (.tmp 17) (.con (.bool true)) (.tmp 22), none⟩,
    ⟨(some 24), .mov (.tmp 23), none⟩,
    ⟨(some 25), .mov (.tmp 0), (some (24, false))⟩,
    ⟨(some 26), .idxAddr 1 (.tmp 25) (.con (.int .i64 4)), (some (24, false))⟩,
    ⟨(some 27), .load false 1 (.tmp 26), (some (24, false))⟩,
    ⟨(some 28), .bin .gtr (.tmp 27) (.con (.int .u64 1099511627776)), (some (24, false))⟩,
    ⟨(some 29), .pick (.tmp 24) (.con (.bool true)) (.tmp 28), none⟩,
    ⟨(some 30), .mov (.tmp 29), none⟩,
    ⟨(some 31), .mov (.tmp 0), (some (30, false))⟩,
    ⟨(some 32), .idxAddr 1 (.tmp 31) (.con (.int .i64 5)), (some (30, false))⟩,
    ⟨(some 33), .load false 1 (.tmp 32), (some (30, false))⟩,
    ⟨(some 34), .mov (.tmp 0), (some (30, false))⟩,
    ⟨(some 35), .idxAddr 1 (.tmp 34) (.con (.int .i64 6)), (some (30, false))⟩,
    ⟨(some 36), .load false 1 (.tmp 35), (some (30, false))⟩,
    ⟨(some 37), .bin .or (.tmp 33) (.tmp 36), (some (30, false))⟩,
    ⟨(some 38), .mov (.tmp 0), (some (30, false))⟩,
    ⟨(some 39), .idxAddr 1 (.tmp 38) (.con (.int .i64 7)), (some (30, false))⟩,
    ⟨(some 40), .load false 1 (.tmp 39), (some (30, false))⟩,
    ⟨(some 41), .bin .or (.tmp 37) (.tmp 40), (some (30, false))⟩,
    ⟨(some 42), .bin .neq (.tmp 41) (.con (.int .u64 0)), (some (30, false))⟩,
    ⟨(some 43), .pick (.tmp 30) (.con (.bool true)) (.tmp 42), none⟩])
  (.cond (.tmp 43)
  (.seq (.ops [⟨(some 44), .build [(.str []), (.int .i64 0)] [], none⟩,
    ⟨none, .store 2 (.tmp 2) (.tmp 44), none⟩,
    ⟨(some 3), .mov (.con (.bool false)), none⟩])
  .ret)
  .skip))
  (.seq (.ops [⟨(some 46), .mov (.tmp 0), none⟩,
    ⟨(some 47), .slc 1 (.tmp 46) (some (.con (.int .i64 2))) (some (.con (.int .i64 4))) none, none⟩,
    ⟨(some 48), .mov (.tmp 0), none⟩,
    ⟨(some 49), .idxAddr 1 (.tmp 48) (.con (.int .i64 1)), none⟩,
    ⟨(some 50), .load false 1 (.tmp 49), none⟩,
    ⟨(some 51), .bin .shr (.tmp 50) (.con (.int .u64 8)), none⟩,
    ⟨(some 52), .toInt .i64 (.tmp 51), none⟩,
    ⟨(some 53), .call 72 [(.tmp 47), (.tmp 52)], none⟩,
    ⟨(some 45), .mov (.tmp 53), none⟩,
    ⟨(some 54), .extract (.tmp 45) 0, none⟩,
    ⟨(some 55), .extract (.tmp 45) 1, none⟩,
    ⟨(some 4), .mov (.tmp 54), none⟩,
    ⟨(some 5), .mov (.tmp 55), none⟩])
  (.seq (.ops [⟨(some 56), .mov (.tmp 4), none⟩,
    ⟨(some 57), .mov (.tmp 0), none⟩,
    ⟨(some 58), .idxAddr 1 (.tmp 57) (.con (.int .i64 4)), none⟩,
    ⟨(some 59), .load false 1 (.tmp 58), none⟩,
    ⟨(some 60), .toInt .i64 (.tmp 59), none⟩,
    ⟨(some 61), .build [(.str []), (.int .i64 0)] [(0, 1, (.tmp 56)), (1, 1, (.tmp 60))], none⟩,
    ⟨(some 6), .new [(.str []), (.int .i64 0)], none⟩,
    ⟨none, .store 2 (.tmp 6) (.tmp 61), none⟩])
  (.seq (.seq (.ops [⟨(some 62), .mov (.tmp 5), none⟩,
    ⟨(some 63), .bin .neq (.tmp 62) (.con (.int .i64 0)), none⟩,
    ⟨(some 64), .mov (.tmp 63), none⟩,
    ⟨(some 65), .load true 2 (.tmp 6), (some (64, false))⟩,
    ⟨(some 66), .call 47 [(.tmp 65)], (some (64, false))⟩,
    ⟨(some 67), .un .not (.tmp 66), (some (64, false))⟩,
    ⟨(some 68), .pick (.tmp 64) (.con (.bool true)) (.tmp 67), none⟩])
  (.cond (.tmp 68)
  (.seq (.ops [⟨(some 69), .build [(.str []), (.int .i64 0)] [], none⟩,
    ⟨none, .store 2 (.tmp 2) (.tmp 69), none⟩,
    ⟨(some 3), .mov (.con (.bool false)), none⟩])
  .ret)
  .skip))
  (.seq (.ops [⟨(some 70), .load true 2 (.tmp 6), none⟩,
    ⟨none, .store 2 (.tmp 2) (.tmp 70), none⟩,
    ⟨(some 3), .mov (.con (.bool true)), none⟩])
  .ret))))))
def a44 : AFunc := ⟨1, c44, [.cell 2 true 2, .tmp 3]⟩

/- 45: tendril/node.EncodeLeaf -/
def c45 : ACode := (.seq (.ops [⟨(some 1), .box (.tmp 0), none⟩,
    ⟨(some 2), .mov (.con .nilSlice), none⟩])
  (.seq (.seq (.ops [⟨(some 4), .load true 2 (.tmp 1), none⟩,
    ⟨(some 5), .call 46 [(.tmp 4)], none⟩,
    ⟨(some 6), .un .not (.tmp 5), none⟩])
  (.cond (.tmp 6)
  (.seq (.ops [⟨(some 2), .mov (.con .nilSlice), none⟩])
  .ret)
  .skip))
  (.seq (.ops [⟨(some 7), .call 53 [(.con (.int .i64 0))], none⟩,
    ⟨(some 8), .mkSlice 1 8 [(.int .u64 0)] (.tmp 7) (.tmp 7), none⟩,
    ⟨(some 3), .mov (.tmp 8), none⟩])
  (.seq (.ops [⟨(some 9), .mov (.tmp 3), none⟩,
    ⟨(some 10), .fieldAddr 0 (.tmp 1), none⟩,
    ⟨(some 11), .load false 1 (.tmp 10), none⟩,
    ⟨(some 12), .lenStr (.tmp 11), none⟩,
    ⟨(some 13), .bin .shl (.tmp 12) (.con (.int .u64 8)), none⟩,
    ⟨(some 14), .toInt .u64 (.tmp 13), none⟩,
    ⟨(some 15), .idxAddr 1 (.tmp 9) (.con (.int .i64 1)), none⟩,
    ⟨none, .store 1 (.tmp 15) (.tmp 14), none⟩])
  (.seq (.ops [⟨(some 16), .mov (.tmp 3), none⟩,
    ⟨(some 17), .slc 1 (.tmp 16) (some (.con (.int .i64 2))) none none, none⟩,
    ⟨(some 18), .fieldAddr 0 (.tmp 1), none⟩,
    ⟨(some 19), .load false 1 (.tmp 18), none⟩,
    ⟨(some 20), .call 54 [(.tmp 19)], none⟩,
    ⟨(some 21), .copy 1 (.tmp 17) (.tmp 20), none⟩])
  (.seq (.ops [⟨(some 22), .mov (.tmp 3), none⟩,
    ⟨(some 23), .fieldAddr 1 (.tmp 1), none⟩,
    ⟨(some 24), .load false 1 (.tmp 23), none⟩,
    ⟨(some 25), .toInt .u64 (.tmp 24), none⟩,
    ⟨(some 26), .idxAddr 1 (.tmp 22) (.con (.int .i64 4)), none⟩,
    ⟨none, .store 1 (.tmp 26) (.tmp 25), none⟩])
  (.seq (.ops [⟨(some 27), .mov (.tmp 3), none⟩,
    ⟨(some 2), .mov (.tmp 27), none⟩])
  .ret)))))))
def a45 : AFunc := ⟨1, c45, [.tmp 2]⟩

/- 46: tendril/node.RightLeaf -/
def c46 : ACode := (.seq (.ops [⟨(some 1), .box (.tmp 0), none⟩,
    ⟨(some 2), .mov (.con (.bool false)), none⟩])
  (.seq (.ops [⟨(some 6), .fieldAddr 0 (.tmp 1), none⟩,
    ⟨(some 7), .load false 1 (.tmp 6), none⟩,
    ⟨(some 8), .call 73 [(.tmp 7)], none⟩,
    ⟨(some 5), .mov (.tmp 8), none⟩,
    ⟨(some 9), .extract (.tmp 5) 0, none⟩,
    ⟨(some 10), .extract (.tmp 5) 1, none⟩,
    ⟨(some 3), .mov (.tmp 9), none⟩,
    ⟨(some 4), .mov (.tmp 10), none⟩])
  (.seq (.ops [⟨(some 11), .mov (.tmp 4), none⟩,
    ⟨(some 12), .mov (.tmp 11), none⟩,
    ⟨(some 13), .fieldAddr 1 (.tmp 1), (some (12, true))⟩,
    ⟨(some 14), .load false 1 (.tmp 13), (some (12, true))⟩,
    ⟨(some 15), .bin .geq (.tmp 14) (.con (.int .i64 0)), (some (12, true))⟩,
    ⟨(some 16), .pick (.tmp 12) (.tmp 15) (.con (.bool false)), none⟩,
    ⟨(some 17), .mov (.tmp 16), none⟩,
    ⟨(some 18), .fieldAddr 1 (.tmp 1), (some (17, true))⟩,
    ⟨(some 19), .load false 1 (.tmp 18), (some (17, true))⟩,
    ⟨(some 20), .bin .leq (.tmp 19) (.con (.int .i64 1099511627776)), (some (17, true))⟩,
    ⟨(some 21), .pick (.tmp 17) (.tmp 20) (.con (.bool false)), none⟩,
    ⟨(some 2), .mov (.tmp 21), none⟩])
  .ret)))
def a46 : AFunc := ⟨1, c46, [.tmp 2]⟩

/- 47: tendril/tendrilref1.RightLeaf -/
def c47 : ACode := (.seq (.ops [⟨(some 1), .box (.tmp 0), none⟩,
    ⟨(some 2), .mov (.con (.bool false)), none⟩])
  (.seq (.ops [⟨(some 6), .fieldAddr 0 (.tmp 1), none⟩,
    ⟨(some 7), .load false 1 (.tmp 6), none⟩,
    ⟨(some 8), .call 74 [(.tmp 7)], none⟩,
    ⟨(some 5), .mov (.tmp 8), none⟩,
    ⟨(some 9), .extract (.tmp 5) 0, none⟩,
    ⟨(some 10), .extract (.tmp 5) 1, none⟩,
    ⟨(some 3), .mov (.tmp 9), none⟩,
    ⟨(some 4), .mov (.tmp 10), none⟩])
  (.seq (.ops [⟨(some 11), .mov (.tmp 4), none⟩,
    ⟨(some 12), .mov (.tmp 11), none⟩,
    ⟨(some 13), .fieldAddr 1 (.tmp 1), (some (12, true))⟩,
    ⟨(some 14), .load false 1 (.tmp 13), (some (12, true))⟩,
    ⟨(some 15), .bin .geq (.tmp 14) (.con (.int .i64 0)), (some (12, true))⟩,
    ⟨(some 16), .pick (.tmp 12) (.tmp 15) (.con (.bool false)), none⟩,
    ⟨(some 17), .mov (.tmp 16), none⟩,
    ⟨(some 18), .fieldAddr 1 (.tmp 1), (some (17, true))⟩,
    ⟨(some 19), .load false 1 (.tmp 18), (some (17, true))⟩,
    ⟨(some 20), .bin .leq (.tmp 19) (.con (.int .i64 1099511627776)), (some (17, true))⟩,
    ⟨(some 21), .pick (.tmp 17) (.tmp 20) (.con (.bool false)), none⟩,
    ⟨(some 2), .mov (.tmp 21), none⟩])
  .ret)))
def a47 : AFunc := ⟨1, c47, [.tmp 2]⟩

/- 48: tendril/tendrilref1.EncodeLeaf -/
def c48 : ACode := (.seq (.ops [⟨(some 1), .box (.tmp 0), none⟩,
    ⟨(some 2), .mov (.con .nilSlice), none⟩])
  (.seq (.seq (.ops [⟨(some 4), .load true 2 (.tmp 1), none⟩,
    ⟨(some 5), .call 47 [(.tmp 4)], none⟩,
    ⟨(some 6), .un .not (.tmp 5), none⟩])
  (.cond (.tmp 6)
  (.seq (.ops [⟨(some 2), .mov (.con .nilSlice), none⟩])
  .ret)
  .skip))
  (.seq (.ops [⟨(some 7), .call 71 [(.con (.int .i64 0))], none⟩,
    ⟨(some 8), .mkSlice 1 8 [(.int .u64 0)] (.tmp 7) (.tmp 7), none⟩,
    ⟨(some 3), .mov (.tmp 8), none⟩])
  (.seq (.ops [⟨(some 9), .mov (.tmp 3), none⟩,
    ⟨(some 10), .fieldAddr 0 (.tmp 1), none⟩,
    ⟨(some 11), .load false 1 (.tmp 10), none⟩,
    ⟨(some 12), .lenStr (.tmp 11), none⟩,
    ⟨(some 13), .toInt .u64 (.tmp 12), none⟩,
    ⟨(some 14), .bin .shl (.tmp 13) (.con (.int .u64 8)), none⟩,
    ⟨(some 15), .idxAddr 1 (.tmp 9) (.con (.int .i64 1)), none⟩,
    ⟨none, .store 1 (.tmp 15) (.tmp 14), none⟩])
  (.seq (.ops [⟨(some 16), .mov (.tmp 3), none⟩,
    ⟨(some 17), .slc 1 (.tmp 16) (some (.con (.int .i64 2))) (some (.con (.int .i64 4))) none, none⟩,
    ⟨(some 18), .fieldAddr 0 (.tmp 1), none⟩,
    ⟨(some 19), .load false 1 (.tmp 18), none⟩,
    ⟨(some 20), .call 68 [(.tmp 19)], none⟩,
    ⟨(some 21), .copy 1 (.tmp 17) (.tmp 20), none⟩])
  (.seq (.ops [⟨(some 22), .mov (.tmp 3), none⟩,
    ⟨(some 23), .fieldAddr 1 (.tmp 1), none⟩,
    ⟨(some 24), .load false 1 (.tmp 23), none⟩,
    ⟨(some 25), .toInt .u64 (.tmp 24), none⟩,
    ⟨(some 26), .idxAddr 1 (.tmp 22) (.con (.int .i64 4)), none⟩,
    ⟨none, .store 1 (.tmp 26) (.tmp 25), none⟩])
  (.seq (.ops [⟨(some 27), .mov (.tmp 3), none⟩,
    ⟨(some 2), .mov (.tmp 27), none⟩])
  .ret)))))))
def a48 : AFunc := ⟨1, c48, [.tmp 2]⟩

/- 38: tendril/tendrilref1.Encode -/
def c38l0 : ACode := (.seq (.ops [⟨(some 32), .bin .lss (.tmp 31) (.tmp 30), none⟩])
  (.seq (.cond (.tmp 32)
  .skip
  (.exit 1))
  (.seq (.block 2 (.seq (.ops [⟨(some 33), .mov (.tmp 31), none⟩,
    ⟨(some 34), .idxAddr 1 (.tmp 29) (.tmp 31), none⟩,
    ⟨(some 35), .load false 1 (.tmp 34), none⟩,
    ⟨(some 4), .mov (.tmp 33), none⟩,
    ⟨(some 5), .mov (.tmp 35), none⟩])
  (.ops [⟨(some 36), .mov (.tmp 3), none⟩,
    ⟨(some 37), .mov (.tmp 4), none⟩,
    ⟨(some 38), .bin .add (.con (.int .i64 5)) (.tmp 37), none⟩,
    ⟨(some 39), .mov (.tmp 5), none⟩,
    ⟨(some 40), .toInt .u64 (.tmp 39), none⟩,
    ⟨(some 41), .idxAddr 1 (.tmp 36) (.tmp 38), none⟩,
    ⟨none, .store 1 (.tmp 41) (.tmp 40), none⟩])))
  (.ops [⟨(some 42), .bin .add (.tmp 31) (.con (.int .i64 1)), none⟩,
    ⟨(some 31), .mov (.tmp 42), none⟩]))))
def c38l1 : ACode := (.seq (.ops [⟨(some 56), .bin .lss (.tmp 55) (.tmp 54), none⟩])
  (.seq (.cond (.tmp 56)
  .skip
  (.exit 3))
  (.seq (.block 4 (.seq (.ops [⟨(some 57), .mov (.tmp 55), none⟩,
    ⟨(some 58), .idxAddr 1 (.tmp 53) (.tmp 55), none⟩,
    ⟨(some 59), .load false 1 (.tmp 58), none⟩,
    ⟨(some 6), .mov (.tmp 57), none⟩,
    ⟨(some 7), .mov (.tmp 59), none⟩])
  (.ops [⟨(some 60), .mov (.tmp 3), none⟩,
    ⟨(some 61), .mov (.tmp 6), none⟩,
    ⟨(some 62), .bin .add (.con (.int .i64 6)) (.tmp 61), none⟩,
    ⟨(some 63), .mov (.tmp 7), none⟩,
    ⟨(some 64), .toInt .u64 (.tmp 63), none⟩,
    ⟨(some 65), .idxAddr 1 (.tmp 60) (.tmp 62), none⟩,
    ⟨none, .store 1 (.tmp 65) (.tmp 64), none⟩])))
  (.ops [⟨(some 66), .bin .add (.tmp 55) (.con (.int .i64 1)), none⟩,
    ⟨(some 55), .mov (.tmp 66), none⟩]))))
def c38l2 : ACode := (.seq (.ops [⟨(some 73), .bin .lss (.tmp 72) (.tmp 71), none⟩])
  (.seq (.cond (.tmp 73)
  .skip
  (.exit 5))
  (.seq (.block 6 (.seq (.ops [⟨(some 74), .mov (.tmp 72), none⟩,
    ⟨(some 75), .idxAddr 1 (.tmp 70) (.tmp 72), none⟩,
    ⟨(some 76), .load false 1 (.tmp 75), none⟩,
    ⟨(some 8), .mov (.tmp 74), none⟩,
    ⟨(some 9), .mov (.tmp 76), none⟩])
  (.seq (.ops [⟨(some 77), .mov (.tmp 3), none⟩,
    ⟨(some 78), .mov (.tmp 9), none⟩,
    ⟨(some 79), .toInt .i64 (.tmp 78), none⟩,
    ⟨(some 80), .bin .quo (.tmp 79) (.con (.int .i64 8)), none⟩,
    ⟨(some 81), .bin .add (.con (.int .i64 4)) (.tmp 80), none⟩,
    ⟨(some 82), .mov (.tmp 3), none⟩,
    ⟨(some 83), .mov (.tmp 9), none⟩,
    ⟨(some 84), .toInt .i64 (.tmp 83), none⟩,
    ⟨(some 85), .bin .quo (.tmp 84) (.con (.int .i64 8)), none⟩,
    ⟨(some 86), .bin .add (.con (.int .i64 4)) (.tmp 85), none⟩,
    ⟨(some 87), .idxAddr 1 (.tmp 82) (.tmp 86), none⟩,
    ⟨(some 88), .load false 1 (.tmp 87), none⟩,
    ⟨(some 89), .mov (.tmp 8), none⟩,
    ⟨(some 90), .bin .add (.tmp 89) (.con (.int .i64 1)), none⟩,
    ⟨(some 91), .toInt .u64 (.tmp 90), none⟩,
    ⟨(some 92), .mov (.tmp 9), none⟩,
    ⟨(some 93), .toInt .i64 (.tmp 92), none⟩,
    ⟨(some 94), .bin .rem (.tmp 93) (.con (.int .i64 8)), none⟩,
    ⟨(some 95), .bin .mul (.con (.int .i64 8)) (.tmp 94), none⟩,
    ⟨(some 96), .bin .shl (.tmp 91) (.tmp 95), none⟩,
    ⟨(some 97), .bin .or (.tmp 88) (.tmp 96), none⟩,
    ⟨(some 98), .idxAddr 1 (.tmp 77) (.tmp 81), none⟩,
    ⟨none, .store 1 (.tmp 98) (.tmp 97), none⟩])
  (.ops [⟨(some 99), .mov (.tmp 3), none⟩,
    ⟨(some 100), .mov (.tmp 8), none⟩,
    ⟨(some 101), .bin .add (.con (.int .i64 36)) (.tmp 100), none⟩,
    ⟨(some 102), .fieldAddr 4 (.tmp 1), none⟩,
    ⟨(some 103), .load false 1 (.tmp 102), none⟩,
    ⟨(some 104), .mov (.tmp 8), none⟩,
    ⟨(some 105), .idxAddr 1 (.tmp 103) (.tmp 104), none⟩,
    ⟨(some 106), .load false 1 (.tmp 105), none⟩,
    ⟨(some 107), .toInt .u64 (.tmp 106), none⟩,
    ⟨(some 108), .idxAddr 1 (.tmp 99) (.tmp 101), none⟩,
    ⟨none, .store 1 (.tmp 108) (.tmp 107), none⟩]))))
  (.ops [⟨(some 109), .bin .add (.tmp 72) (.con (.int .i64 1)), none⟩,
    ⟨(some 72), .mov (.tmp 109), none⟩]))))
def c38l3 : ACode := (.seq (.ops [⟨(some 116), .bin .lss (.tmp 115) (.tmp 114), none⟩])
  (.seq (.cond (.tmp 116)
  .skip
  (.exit 7))
  (.seq (.block 8 (.seq (.ops [⟨(some 117), .mov (.tmp 115), none⟩,
    ⟨(some 118), .idxAddr 1 (.tmp 113) (.tmp 115), none⟩,
    ⟨(some 119), .load false 1 (.tmp 118), none⟩,
    ⟨(some 10), .mov (.tmp 117), none⟩,
    ⟨(some 11), .mov (.tmp 119), none⟩])
  (.ops [⟨(some 120), .mov (.tmp 3), none⟩,
    ⟨(some 121), .mov (.tmp 11), none⟩,
    ⟨(some 122), .toInt .i64 (.tmp 121), none⟩,
    ⟨(some 123), .bin .add (.con (.int .i64 4)) (.tmp 122), none⟩,
    ⟨(some 124), .fieldAddr 4 (.tmp 1), none⟩,
    ⟨(some 125), .load false 1 (.tmp 124), none⟩,
    ⟨(some 126), .mov (.tmp 10), none⟩,
    ⟨(some 127), .idxAddr 1 (.tmp 125) (.tmp 126), none⟩,
    ⟨(some 128), .load false 1 (.tmp 127), none⟩,
    ⟨(some 129), .toInt .u64 (.tmp 128), none⟩,
    ⟨(some 130), .idxAddr 1 (.tmp 120) (.tmp 123), none⟩,
    ⟨none, .store 1 (.tmp 130) (.tmp 129), none⟩])))
  (.ops [⟨(some 131), .bin .add (.tmp 115) (.con (.int .i64 1)), none⟩,
    ⟨(some 115), .mov (.tmp 131), none⟩]))))
def c38 : ACode := (.seq (.ops [⟨(some 1), .box (.tmp 0), none⟩,
    ⟨(some 2), .mov (.con .nilSlice), none⟩])
  (.seq (.seq (.ops [⟨(some 12), .load true 5 (.tmp 1), none⟩,
    ⟨(some 13), .call 37 [(.tmp 12)], none⟩,
    ⟨(some 14), .un .not (.tmp 13), none⟩])
  (.cond (.tmp 14)
  (.seq (.ops [⟨(some 2), .mov (.con .nilSlice), none⟩])
  .ret)
  .skip))
  (.seq (.ops [⟨(some 15), .load true 5 (.tmp 1), none⟩,
    ⟨(some 16), .call 67 [(.tmp 15)], none⟩,
    ⟨(some 3), .mov (.tmp 16), none⟩])
  (.seq (.seq (.ops [⟨(some 17), .fieldAddr 0 (.tmp 1), none⟩,
    ⟨(some 18), .load false 1 (.tmp 17), none⟩])
  (.block 0 (.seq (.ops [⟨(some 20), .bin .eql (.tmp 18) (.con (.int .i64 1)), none⟩,
    ⟨(some 19), .mov (.tmp 20), none⟩])
  (.cond (.tmp 19)
  (.seq (.ops [⟨(some 21), .mov (.tmp 3), none⟩,
    ⟨(some 22), .slc 1 (.tmp 21) (some (.con (.int .i64 4))) (some (.con (.int .i64 5))) none, none⟩,
    ⟨(some 23), .fieldAddr 3 (.tmp 1), none⟩,
    ⟨(some 24), .load false 1 (.tmp 23), none⟩,
    ⟨(some 25), .toStr (.tmp 24), none⟩,
    ⟨(some 26), .call 68 [(.tmp 25)], none⟩,
    ⟨(some 27), .copy 1 (.tmp 22) (.tmp 26), none⟩])
  (.seq (.ops [⟨(some 28), .fieldAddr 4 (.tmp 1), none⟩,
    ⟨(some 29), .load false 1 (.tmp 28), none⟩,
    ⟨(some 30), .lenSlice (.tmp 29), none⟩,
    ⟨(some 31), .mov (.con (.int .i64 0)), none⟩])
  (.block 1 (.loop c38l0))))
  (.seq (.ops [⟨(some 44), .bin .eql (.tmp 18) (.con (.int .i64 2)), none⟩,
    ⟨(some 43), .mov (.tmp 44), none⟩])
  (.cond (.tmp 43)
  (.seq (.ops [⟨(some 45), .mov (.tmp 3), none⟩,
    ⟨(some 46), .slc 1 (.tmp 45) (some (.con (.int .i64 4))) (some (.con (.int .i64 6))) none, none⟩,
    ⟨(some 47), .fieldAddr 3 (.tmp 1), none⟩,
    ⟨(some 48), .load false 1 (.tmp 47), none⟩,
    ⟨(some 49), .toStr (.tmp 48), none⟩,
    ⟨(some 50), .call 68 [(.tmp 49)], none⟩,
    ⟨(some 51), .copy 1 (.tmp 46) (.tmp 50), none⟩])
  (.seq (.ops [⟨(some 52), .fieldAddr 4 (.tmp 1), none⟩,
    ⟨(some 53), .load false 1 (.tmp 52), none⟩,
    ⟨(some 54), .lenSlice (.tmp 53), none⟩,
    ⟨(some 55), .mov (.con (.int .i64 0)), none⟩])
  (.block 3 (.loop c38l1))))
  (.seq (.ops [⟨(some 68), .bin .eql (.tmp 18) (.con (.int .i64 3)), none⟩,
    ⟨(some 67), .mov (.tmp 68), none⟩])
  (.cond (.tmp 67)
  (.seq (.ops [⟨(some 69), .fieldAddr 3 (.tmp 1), none⟩,
    ⟨(some 70), .load false 1 (.tmp 69), none⟩,
    ⟨(some 71), .lenSlice (.tmp 70), none⟩,
    ⟨(some 72), .mov (.con (.int .i64 0)), none⟩])
  (.block 5 (.loop c38l2)))
  (.seq (.ops [⟨(some 111), .bin .eql (.tmp 18) (.con (.int .i64 4)), none⟩,
    ⟨(some 110), .mov (.tmp 111), none⟩])
  (.cond (.tmp 110)
  (.seq (.ops [⟨(some 112), .fieldAddr 3 (.tmp 1), none⟩,
    ⟨(some 113), .load false 1 (.tmp 112), none⟩,
    ⟨(some 114), .lenSlice (.tmp 113), none⟩,
    ⟨(some 115), .mov (.con (.int .i64 0)), none⟩])
  (.block 7 (.loop c38l3)))
  .skip))))))))))
  (.seq (.ops [⟨(some 132), .mov (.tmp 3), none⟩,
    ⟨(some 2), .mov (.tmp 132), none⟩])
  .ret)))))
def a38 : AFunc := ⟨1, c38, [.tmp 2]⟩

end Go.Proofs.Ytpabmkicdcilpaa

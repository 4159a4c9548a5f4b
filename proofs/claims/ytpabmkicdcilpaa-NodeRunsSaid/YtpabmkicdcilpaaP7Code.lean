/- The abstract code of the functions that the laws reach, as a program printed it; each is what the compiler makes of the given function. -/
import Derived.Test.YtpabmkicdcilpaaVmZ
import Derived.Test.YtpabmkicdcilpaaRows
namespace Go.Proofs.Ytpabmkicdcilpaa
open Go.Vm
/- 3: tendril/tendrillaw7.NodeRuns -/
def c3 : ACode := (.seq (.ops [⟨(some 0), .mov (.con (.bool false)), none⟩])
  (.seq (.ops [⟨(some 11), .buildSlice 1 2 [(.int .u8 0), (.int .u8 0)] [(0, 1, (.con (.int .u8 97))), (1, 1, (.con (.int .u8 99)))], none⟩,
    ⟨(some 12), .mark (.tmp 11), none⟩,
    ⟨(some 13), .buildSlice 1 2 [(.int .i64 0), (.int .i64 0)] [(0, 1, (.con (.int .i64 65536))), (1, 1, (.con (.int .i64 65537)))], none⟩,
    ⟨(some 14), .build [(.int .i64 0), (.int .u64 0), (.str []), .nilSlice, .nilSlice] [(0, 1, (.con (.int .i64 1))), (1, 1, (.con (.int .u64 4))), (2, 1, (.con (.str [120]))), (3, 1, (.tmp 12)), (4, 1, (.tmp 13))], none⟩,
    ⟨(some 1), .new [(.int .i64 0), (.int .u64 0), (.str []), .nilSlice, .nilSlice], none⟩,
    ⟨none, .store 5 (.tmp 1) (.tmp 14), none⟩])
  (.seq (.ops [⟨(some 15), .load true 5 (.tmp 1), none⟩,
    ⟨(some 16), .call 15 [(.tmp 15)], none⟩,
    ⟨(some 2), .mov (.tmp 16), none⟩])
  (.seq (.ops [⟨(some 18), .load true 5 (.tmp 1), none⟩,
    ⟨(some 19), .call 16 [(.tmp 18), (.con (.int .u8 98)), (.con (.int .i64 65538))], none⟩,
    ⟨(some 17), .mov (.tmp 19), none⟩,
    ⟨(some 20), .extract (.tmp 17) 0, none⟩,
    ⟨(some 21), .extract (.tmp 17) 1, none⟩,
    ⟨(some 3), .new [(.int .i64 0), (.int .u64 0), (.str []), .nilSlice, .nilSlice], none⟩,
    ⟨none, .store 5 (.tmp 3) (.tmp 20), none⟩,
    ⟨(some 4), .mov (.tmp 21), none⟩])
  (.seq (.ops [⟨(some 23), .load true 5 (.tmp 1), none⟩,
    ⟨(some 24), .call 17 [(.tmp 23), (.con (.int .u8 99))], none⟩,
    ⟨(some 22), .mov (.tmp 24), none⟩,
    ⟨(some 25), .extract (.tmp 22) 0, none⟩,
    ⟨(some 26), .extract (.tmp 22) 1, none⟩,
    ⟨(some 5), .new [(.int .i64 0), (.int .u64 0), (.str []), .nilSlice, .nilSlice], none⟩,
    ⟨none, .store 5 (.tmp 5) (.tmp 25), none⟩,
    ⟨(some 6), .mov (.tmp 26), none⟩])
  (.seq (.ops [⟨(some 28), .load true 5 (.tmp 3), none⟩,
    ⟨(some 29), .call 16 [(.tmp 28), (.con (.int .u8 100)), (.con (.int .i64 65539))], none⟩,
    ⟨(some 27), .mov (.tmp 29), none⟩,
    ⟨(some 30), .extract (.tmp 27) 0, none⟩,
    ⟨(some 31), .extract (.tmp 27) 1, none⟩,
    ⟨(some 7), .new [(.int .i64 0), (.int .u64 0), (.str []), .nilSlice, .nilSlice], none⟩,
    ⟨none, .store 5 (.tmp 7) (.tmp 30), none⟩,
    ⟨(some 8), .mov (.tmp 31), none⟩])
  (.seq (.ops [⟨(some 33), .load true 5 (.tmp 7), none⟩,
    ⟨(some 34), .call 16 [(.tmp 33), (.con (.int .u8 101)), (.con (.int .i64 65540))], none⟩,
    ⟨(some 32), .mov (.tmp 34), none⟩,
    ⟨(some 35), .extract (.tmp 32) 0, none⟩,
    ⟨(some 36), .extract (.tmp 32) 1, none⟩,
    ⟨(some 9), .new [(.int .i64 0), (.int .u64 0), (.str []), .nilSlice, .nilSlice], none⟩,
    ⟨none, .store 5 (.tmp 9) (.tmp 35), none⟩,
    ⟨(some 10), .mov (.tmp 36), none⟩])
  (.seq (.ops [⟨(some 37), .mov (.tmp 2), none⟩,
    ⟨(some 38), .buildSlice 1 12 [(.int .u64 0), (.int .u64 0), (.int .u64 0), (.int .u64 0), (.int .u64 0), (.int .u64 0), (.int .u64 0), (.int .u64 0), (.int .u64 0), (.int .u64 0), (.int .u64 0), (.int .u64 0)] [(0, 1, (.con (.int .u64 4))), (1, 1, (.con (.int .u64 131329))), (2, 1, (.con (.int .u64 120))), (3, 1, (.con (.int .u64 0))), (4, 1, (.con (.int .u64 25441))), (5, 1, (.con (.int .u64 65536))), (6, 1, (.con (.int .u64 65537))), (7, 1, (.con (.int .u64 0))), (8, 1, (.con (.int .u64 0))), (9, 1, (.con (.int .u64 0))), (10, 1, (.con (.int .u64 0))), (11, 1, (.con (.int .u64 0)))], none⟩,
    ⟨(some 39), .call 18 [(.tmp 37), (.tmp 38)], none⟩,
    ⟨(some 40), .mov (.tmp 39), none⟩,
    ⟨(some 41), .mov (.tmp 4), (some (40, true))⟩,
    ⟨(some 42), .pick (.tmp 40) (.tmp 41) (.con (.bool false)), none⟩,
    ⟨(some 43), .mov (.tmp 42), none⟩,
    ⟨(some 44), .fieldAddr 3 (.tmp 3), (some (43, true))⟩,
    ⟨(some 45), .load false 1 (.tmp 44), (some (43, true))⟩,
    ⟨(some 46), .toStr (.tmp 45), (some (43, true))⟩,
    ⟨(some 47), .bin .eql (.tmp 46) (.con (.str [97, 98, 99])), (some (43, true))⟩,
    ⟨(some 48), .pick (.tmp 43) (.tmp 47) (.con (.bool false)), none⟩,
    ⟨(some 49), .mov (.tmp 48), none⟩,
    ⟨(some 50), .fieldAddr 4 (.tmp 3), (some (49, true))⟩,
    ⟨(some 51), .load false 1 (.tmp 50), (some (49, true))⟩,
    ⟨(some 52), .buildSlice 1 3 [(.int .i64 0), (.int .i64 0), (.int .i64 0)] [(0, 1, (.con (.int .i64 65536))), (1, 1, (.con (.int .i64 65538))), (2, 1, (.con (.int .i64 65537)))], (some (49, true))⟩,
    ⟨(some 53), .call 19 [(.tmp 51), (.tmp 52)], (some (49, true))⟩,
    ⟨(some 54), .pick (.tmp 49) (.tmp 53) (.con (.bool false)), none⟩,
    ⟨(some 55), .mov (.tmp 54), none⟩,
    ⟨(some 56), .mov (.tmp 6), (some (55, true))⟩,
    ⟨(some 57), .pick (.tmp 55) (.tmp 56) (.con (.bool false)), none⟩,
    ⟨(some 58), .mov (.tmp 57), none⟩,
    ⟨(some 59), .fieldAddr 3 (.tmp 5), (some (58, true))⟩,
    ⟨(some 60), .load false 1 (.tmp 59), (some (58, true))⟩,
    ⟨(some 61), .toStr (.tmp 60), (some (58, true))⟩,
    ⟨(some 62), .bin .eql (.tmp 61) (.con (.str [97])), (some (58, true))⟩,
    ⟨(some 63), .pick (.tmp 58) (.tmp 62) (.con (.bool false)), none⟩,
    ⟨(some 64), .mov (.tmp 63), none⟩,
    ⟨(some 65), .mov (.tmp 8), (some (64, true))⟩,
    ⟨(some 66), .pick (.tmp 64) (.tmp 65) (.con (.bool false)), none⟩,
    ⟨(some 67), .mov (.tmp 66), none⟩,
    ⟨(some 68), .mov (.tmp 10), (some (67, true))⟩,
    ⟨(some 69), .un .not (.tmp 68), (some (67, true))⟩,
    ⟨(some 70), .pick (.tmp 67) (.tmp 69) (.con (.bool false)), none⟩,
    ⟨(some 0), .mov (.tmp 70), none⟩])
  .ret))))))))
def a3 : AFunc := ⟨0, c3, [.tmp 0]⟩

/- 15: tendril/node.Encode -/
def c15l0 : ACode := (.seq (.ops [⟨(some 72), .bin .lss (.tmp 71) (.tmp 70), none⟩])
  (.seq (.cond (.tmp 72)
  .skip
  (.exit 1))
  (.seq (.block 2 (.seq (.ops [⟨(some 73), .mov (.tmp 71), none⟩,
    ⟨(some 74), .idxAddr 1 (.tmp 69) (.tmp 71), none⟩,
    ⟨(some 75), .load false 1 (.tmp 74), none⟩,
    ⟨(some 5), .mov (.tmp 73), none⟩,
    ⟨(some 6), .mov (.tmp 75), none⟩])
  (.seq (.ops [⟨(some 76), .mov (.tmp 4), none⟩,
    ⟨(some 77), .mov (.tmp 5), none⟩,
    ⟨(some 78), .bin .add (.tmp 76) (.tmp 77), none⟩,
    ⟨(some 7), .mov (.tmp 78), none⟩])
  (.seq (.seq (.ops [⟨(some 79), .fieldAddr 0 (.tmp 1), none⟩,
    ⟨(some 80), .load false 1 (.tmp 79), none⟩,
    ⟨(some 81), .bin .eql (.tmp 80) (.con (.int .i64 4)), none⟩])
  (.cond (.tmp 81)
  (.ops [⟨(some 82), .fieldAddr 3 (.tmp 1), none⟩,
    ⟨(some 83), .load false 1 (.tmp 82), none⟩,
    ⟨(some 84), .mov (.tmp 5), none⟩,
    ⟨(some 85), .idxAddr 1 (.tmp 83) (.tmp 84), none⟩,
    ⟨(some 86), .load false 1 (.tmp 85), none⟩,
    ⟨(some 87), .toInt .i64 (.tmp 86), none⟩,
    ⟨(some 88), .bin .add (.con (.int .i64 4)) (.tmp 87), none⟩,
    ⟨(some 7), .mov (.tmp 88), none⟩])
  .skip))
  (.ops [⟨(some 89), .mov (.tmp 3), none⟩,
    ⟨(some 90), .mov (.tmp 7), none⟩,
    ⟨(some 91), .mov (.tmp 6), none⟩,
    ⟨(some 92), .toInt .u64 (.tmp 91), none⟩,
    ⟨(some 93), .idxAddr 1 (.tmp 89) (.tmp 90), none⟩,
    ⟨none, .store 1 (.tmp 93) (.tmp 92), none⟩])))))
  (.ops [⟨(some 94), .bin .add (.tmp 71) (.con (.int .i64 1)), none⟩,
    ⟨(some 71), .mov (.tmp 94), none⟩]))))
def c15 : ACode := (.seq (.ops [⟨(some 1), .box (.tmp 0), none⟩,
    ⟨(some 2), .mov (.con .nilSlice), none⟩])
  (.seq (.seq (.ops [⟨(some 8), .load true 5 (.tmp 1), none⟩,
    ⟨(some 9), .call 24 [(.tmp 8)], none⟩,
    ⟨(some 10), .un .not (.tmp 9), none⟩])
  (.cond (.tmp 10)
  (.seq (.ops [⟨(some 2), .mov (.con .nilSlice), none⟩])
  .ret)
  .skip))
  (.seq (.ops [⟨(some 11), .fieldAddr 0 (.tmp 1), none⟩,
    ⟨(some 12), .load false 1 (.tmp 11), none⟩,
    ⟨(some 13), .call 53 [(.tmp 12)], none⟩,
    ⟨(some 14), .mkSlice 1 8 [(.int .u64 0)] (.tmp 13) (.tmp 13), none⟩,
    ⟨(some 3), .mov (.tmp 14), none⟩])
  (.seq (.ops [⟨(some 15), .mov (.tmp 3), none⟩,
    ⟨(some 16), .fieldAddr 1 (.tmp 1), none⟩,
    ⟨(some 17), .load false 1 (.tmp 16), none⟩,
    ⟨(some 18), .idxAddr 1 (.tmp 15) (.con (.int .i64 0)), none⟩,
    ⟨none, .store 1 (.tmp 18) (.tmp 17), none⟩])
  (.seq (.ops [⟨(some 19), .mov (.tmp 3), none⟩,
    ⟨(some 20), .fieldAddr 0 (.tmp 1), none⟩,
    ⟨(some 21), .load false 1 (.tmp 20), none⟩,
    ⟨(some 22), .fieldAddr 2 (.tmp 1), none⟩,
    ⟨(some 23), .load false 1 (.tmp 22), none⟩,
    ⟨(some 24), .lenStr (.tmp 23), none⟩,
    ⟨(some 25), .bin .shl (.tmp 24) (.con (.int .u64 8)), none⟩,
    ⟨(some 26), .bin .or (.tmp 21) (.tmp 25), none⟩,
    ⟨(some 27), .fieldAddr 3 (.tmp 1), none⟩,
    ⟨(some 28), .load false 1 (.tmp 27), none⟩,
    ⟨(some 29), .lenSlice (.tmp 28), none⟩,
    ⟨(some 30), .bin .shl (.tmp 29) (.con (.int .u64 16)), none⟩,
    ⟨(some 31), .bin .or (.tmp 26) (.tmp 30), none⟩,
    ⟨(some 32), .toInt .u64 (.tmp 31), none⟩,
    ⟨(some 33), .idxAddr 1 (.tmp 19) (.con (.int .i64 1)), none⟩,
    ⟨none, .store 1 (.tmp 33) (.tmp 32), none⟩])
  (.seq (.ops [⟨(some 34), .mov (.tmp 3), none⟩,
    ⟨(some 35), .slc 1 (.tmp 34) (some (.con (.int .i64 2))) none none, none⟩,
    ⟨(some 36), .fieldAddr 2 (.tmp 1), none⟩,
    ⟨(some 37), .load false 1 (.tmp 36), none⟩,
    ⟨(some 38), .call 54 [(.tmp 37)], none⟩,
    ⟨(some 39), .copy 1 (.tmp 35) (.tmp 38), none⟩])
  (.seq (.ops [⟨(some 4), .mov (.con (.int .i64 4)), none⟩])
  (.seq (.seq (.ops [⟨(some 40), .fieldAddr 0 (.tmp 1), none⟩,
    ⟨(some 41), .load false 1 (.tmp 40), none⟩])
  (.block 0 (.seq (.ops [⟨(some 43), .bin .eql (.tmp 41) (.con (.int .i64 1)), none⟩,
    ⟨(some 42), .mov (.tmp 43), none⟩])
  (.cond (.tmp 42)
  (.seq (.ops [⟨(some 44), .mov (.tmp 3), none⟩,
    ⟨(some 45), .slc 1 (.tmp 44) (some (.con (.int .i64 4))) none none, none⟩,
    ⟨(some 46), .fieldAddr 3 (.tmp 1), none⟩,
    ⟨(some 47), .load false 1 (.tmp 46), none⟩,
    ⟨(some 48), .toStr (.tmp 47), none⟩,
    ⟨(some 49), .call 54 [(.tmp 48)], none⟩,
    ⟨(some 50), .copy 1 (.tmp 45) (.tmp 49), none⟩])
  (.ops [⟨(some 4), .mov (.con (.int .i64 5)), none⟩]))
  (.seq (.ops [⟨(some 52), .bin .eql (.tmp 41) (.con (.int .i64 2)), none⟩,
    ⟨(some 51), .mov (.tmp 52), none⟩])
  (.cond (.tmp 51)
  (.seq (.ops [⟨(some 53), .mov (.tmp 3), none⟩,
    ⟨(some 54), .slc 1 (.tmp 53) (some (.con (.int .i64 4))) none none, none⟩,
    ⟨(some 55), .fieldAddr 3 (.tmp 1), none⟩,
    ⟨(some 56), .load false 1 (.tmp 55), none⟩,
    ⟨(some 57), .toStr (.tmp 56), none⟩,
    ⟨(some 58), .call 54 [(.tmp 57)], none⟩,
    ⟨(some 59), .copy 1 (.tmp 54) (.tmp 58), none⟩])
  (.ops [⟨(some 4), .mov (.con (.int .i64 6)), none⟩]))
  (.seq (.ops [⟨(some 61), .bin .eql (.tmp 41) (.con (.int .i64 3)), none⟩,
    ⟨(some 60), .mov (.tmp 61), none⟩])
  (.cond (.tmp 60)
  (.seq (.ops [⟨(some 62), .mov (.tmp 3), none⟩,
    ⟨(some 63), .slc 1 (.tmp 62) (some (.con (.int .i64 4))) none none, none⟩,
    ⟨(some 64), .fieldAddr 3 (.tmp 1), none⟩,
    ⟨(some 65), .load false 1 (.tmp 64), none⟩,
    ⟨(some 66), .call 55 [(.tmp 65)], none⟩,
    ⟨(some 67), .copy 1 (.tmp 63) (.tmp 66), none⟩])
  (.ops [⟨(some 4), .mov (.con (.int .i64 36)), none⟩]))
  .skip))))))))
  (.seq (.seq (.ops [⟨(some 68), .fieldAddr 4 (.tmp 1), none⟩,
    ⟨(some 69), .load false 1 (.tmp 68), none⟩,
    ⟨(some 70), .lenSlice (.tmp 69), none⟩,
    ⟨(some 71), .mov (.con (.int .i64 0)), none⟩])
  (.block 1 (.loop c15l0)))
  (.seq (.ops [⟨(some 95), .mov (.tmp 3), none⟩,
    ⟨(some 2), .mov (.tmp 95), none⟩])
  .ret))))))))))
def a15 : AFunc := ⟨1, c15, [.tmp 2]⟩

/- 16: tendril/node.With -/
def c16 : ACode := (.seq (.ops [⟨(some 3), .box (.tmp 0), none⟩,
    ⟨(some 6), .new [(.int .i64 0), (.int .u64 0), (.str []), .nilSlice, .nilSlice], none⟩,
    ⟨(some 7), .mov (.con (.bool false)), none⟩])
  (.seq (.seq (.ops [⟨(some 10), .load true 5 (.tmp 3), none⟩,
    ⟨(some 11), .call 24 [(.tmp 10)], none⟩,
    ⟨(some 12), .un .not (.tmp 11), none⟩,
    ⟨(some 13), .mov (.tmp 12), none⟩,
    ⟨(some 14), .mov (.tmp 2), (some (13, false))⟩,
    ⟨(some 15), .call 56 [(.tmp 14)], (some (13, false))⟩,
    ⟨(some 16), .un .not (.tmp 15), (some (13, false))⟩,
    ⟨(some 17), .pick (.tmp 13) (.con (.bool true)) (.tmp 16), none⟩])
  (.cond (.tmp 17)
  (.seq (.ops [⟨(some 18), .build [(.int .i64 0), (.int .u64 0), (.str []), .nilSlice, .nilSlice] [], none⟩,
    ⟨none, .store 5 (.tmp 6) (.tmp 18), none⟩,
    ⟨(some 7), .mov (.con (.bool false)), none⟩])
  .ret)
  .skip))
  (.seq (.draw [.op ⟨(some 19), .fieldAddr 3 (.tmp 3), none⟩,
    .op ⟨(some 20), .load false 1 (.tmp 19), none⟩,
    .op ⟨(some 22), .fieldAddr 4 (.tmp 3), none⟩,
    .op ⟨(some 23), .load false 1 (.tmp 22), none⟩,
    .op ⟨(some 21), .call 57 [(.tmp 20)], none⟩,
    .op ⟨(some 25), .fieldAddr 3 (.tmp 3), none⟩,
    .look ⟨(some 23), .load false 1 (.tmp 22), none⟩,
    .op ⟨(some 24), .call 58 [(.tmp 23)], none⟩,
    .op ⟨none, .store 1 (.tmp 25) (.tmp 21), none⟩,
    .op ⟨(some 26), .fieldAddr 4 (.tmp 3), none⟩,
    .op ⟨none, .store 1 (.tmp 26) (.tmp 24), none⟩])
  (.seq (.ops [⟨(some 28), .fieldAddr 3 (.tmp 3), none⟩,
    ⟨(some 29), .load false 1 (.tmp 28), none⟩,
    ⟨(some 30), .mov (.tmp 1), none⟩,
    ⟨(some 31), .call 59 [(.tmp 29), (.tmp 30)], none⟩,
    ⟨(some 27), .mov (.tmp 31), none⟩,
    ⟨(some 32), .extract (.tmp 27) 0, none⟩,
    ⟨(some 33), .extract (.tmp 27) 1, none⟩,
    ⟨(some 8), .mov (.tmp 32), none⟩,
    ⟨(some 9), .mov (.tmp 33), none⟩])
  (.seq (.seq (.ops [⟨(some 34), .mov (.tmp 9), none⟩])
  (.cond (.tmp 34)
  (.seq (.ops [⟨(some 35), .fieldAddr 4 (.tmp 3), none⟩,
    ⟨(some 36), .load false 1 (.tmp 35), none⟩,
    ⟨(some 37), .mov (.tmp 8), none⟩,
    ⟨(some 38), .mov (.tmp 2), none⟩,
    ⟨(some 39), .idxAddr 1 (.tmp 36) (.tmp 37), none⟩,
    ⟨none, .store 1 (.tmp 39) (.tmp 38), none⟩])
  (.seq (.ops [⟨(some 40), .load true 5 (.tmp 3), none⟩,
    ⟨none, .store 5 (.tmp 6) (.tmp 40), none⟩,
    ⟨(some 7), .mov (.con (.bool true)), none⟩])
  .ret))
  .skip))
  (.seq (.seq (.draw [.op ⟨(some 41), .fieldAddr 3 (.tmp 3), none⟩,
    .op ⟨(some 42), .load false 1 (.tmp 41), none⟩,
    .op ⟨(some 43), .lenSlice (.tmp 42), none⟩,
    .op ⟨(some 44), .fieldAddr 0 (.tmp 3), none⟩,
    .op ⟨(some 45), .load false 1 (.tmp 44), none⟩,
    .op ⟨(some 46), .call 27 [(.tmp 45)], none⟩,
    .op ⟨(some 47), .bin .geq (.tmp 43) (.tmp 46), none⟩,
    .look ⟨(some 42), .load false 1 (.tmp 41), none⟩])
  (.cond (.tmp 47)
  (.seq (.ops [⟨(some 48), .build [(.int .i64 0), (.int .u64 0), (.str []), .nilSlice, .nilSlice] [], none⟩,
    ⟨none, .store 5 (.tmp 6) (.tmp 48), none⟩,
    ⟨(some 7), .mov (.con (.bool false)), none⟩])
  .ret)
  .skip))
  (.seq (.draw [.op ⟨(some 49), .fieldAddr 3 (.tmp 3), none⟩,
    .op ⟨(some 50), .load false 1 (.tmp 49), none⟩,
    .op ⟨(some 51), .mov (.tmp 8), none⟩,
    .op ⟨(some 52), .mov (.tmp 1), none⟩,
    .op ⟨(some 53), .buildSlice 1 1 [(.int .u8 0)] [(0, 1, (.tmp 52))], none⟩,
    .op ⟨(some 55), .fieldAddr 4 (.tmp 3), none⟩,
    .op ⟨(some 56), .load false 1 (.tmp 55), none⟩,
    .op ⟨(some 57), .mov (.tmp 8), none⟩,
    .op ⟨(some 58), .mov (.tmp 2), none⟩,
    .op ⟨(some 59), .buildSlice 1 1 [(.int .i64 0)] [(0, 1, (.tmp 58))], none⟩,
    .look ⟨(some 50), .load false 1 (.tmp 49), none⟩,
    .look ⟨(some 53), .buildSlice 1 1 [(.int .u8 0)] [(0, 1, (.tmp 52))], none⟩,
    .look ⟨(some 56), .load false 1 (.tmp 55), none⟩,
    .look ⟨(some 59), .buildSlice 1 1 [(.int .i64 0)] [(0, 1, (.tmp 58))], none⟩,
    .op ⟨(some 54), .call 60 [(.tmp 50), (.tmp 51), (.tmp 53)], none⟩,
    .op ⟨(some 61), .fieldAddr 3 (.tmp 3), none⟩,
    .look ⟨(some 56), .load false 1 (.tmp 55), none⟩,
    .look ⟨(some 59), .buildSlice 1 1 [(.int .i64 0)] [(0, 1, (.tmp 58))], none⟩,
    .op ⟨(some 60), .call 61 [(.tmp 56), (.tmp 57), (.tmp 59)], none⟩,
    .op ⟨none, .store 1 (.tmp 61) (.tmp 54), none⟩,
    .op ⟨(some 62), .fieldAddr 4 (.tmp 3), none⟩,
    .op ⟨none, .store 1 (.tmp 62) (.tmp 60), none⟩])
  (.seq (.ops [⟨(some 63), .load true 5 (.tmp 3), none⟩,
    ⟨none, .store 5 (.tmp 6) (.tmp 63), none⟩,
    ⟨(some 7), .mov (.con (.bool true)), none⟩])
  .ret))))))))
def a16 : AFunc := ⟨3, c16, [.cell 6 true 5, .tmp 7]⟩

/- 17: tendril/node.Without -/
def c17 : ACode := (.seq (.ops [⟨(some 2), .box (.tmp 0), none⟩,
    ⟨(some 4), .new [(.int .i64 0), (.int .u64 0), (.str []), .nilSlice, .nilSlice], none⟩,
    ⟨(some 5), .mov (.con (.bool false)), none⟩])
  (.seq (.ops [⟨(some 7), .load true 5 (.tmp 2), none⟩,
    ⟨(some 8), .mov (.tmp 1), none⟩,
    ⟨(some 9), .call 62 [(.tmp 7), (.tmp 8)], none⟩,
    ⟨(some 6), .mov (.tmp 9), none⟩])
  (.seq (.seq (.ops [⟨(some 10), .load true 5 (.tmp 2), none⟩,
    ⟨(some 11), .call 24 [(.tmp 10)], none⟩,
    ⟨(some 12), .un .not (.tmp 11), none⟩,
    ⟨(some 13), .mov (.tmp 12), none⟩,
    ⟨(some 14), .mov (.tmp 6), (some (13, false))⟩,
    ⟨(some 15), .bin .lss (.tmp 14) (.con (.int .i64 0)), (some (13, false))⟩,
    ⟨(some 16), .pick (.tmp 13) (.con (.bool true)) (.tmp 15), none⟩])
  (.cond (.tmp 16)
  (.seq (.ops [⟨(some 17), .build [(.int .i64 0), (.int .u64 0), (.str []), .nilSlice, .nilSlice] [], none⟩,
    ⟨none, .store 5 (.tmp 4) (.tmp 17), none⟩,
    ⟨(some 5), .mov (.con (.bool false)), none⟩])
  .ret)
  .skip))
  (.seq (.draw [.op ⟨(some 18), .fieldAddr 3 (.tmp 2), none⟩,
    .op ⟨(some 19), .load false 1 (.tmp 18), none⟩,
    .op ⟨(some 20), .mov (.tmp 6), none⟩,
    .op ⟨(some 21), .slc 1 (.tmp 19) none (some (.tmp 20)) none, none⟩,
    .op ⟨(some 22), .fieldAddr 3 (.tmp 2), none⟩,
    .op ⟨(some 23), .load false 1 (.tmp 22), none⟩,
    .op ⟨(some 24), .mov (.tmp 6), none⟩,
    .op ⟨(some 25), .bin .add (.tmp 24) (.con (.int .i64 1)), none⟩,
    .op ⟨(some 26), .slc 1 (.tmp 23) (some (.tmp 25)) none none, none⟩,
    .op ⟨(some 27), .buildSlice 1 2 [.nilSlice, .nilSlice] [(0, 1, (.tmp 21)), (1, 1, (.tmp 26))], none⟩,
    .op ⟨(some 29), .fieldAddr 4 (.tmp 2), none⟩,
    .op ⟨(some 30), .load false 1 (.tmp 29), none⟩,
    .op ⟨(some 31), .mov (.tmp 6), none⟩,
    .op ⟨(some 32), .slc 1 (.tmp 30) none (some (.tmp 31)) none, none⟩,
    .op ⟨(some 33), .fieldAddr 4 (.tmp 2), none⟩,
    .op ⟨(some 34), .load false 1 (.tmp 33), none⟩,
    .op ⟨(some 35), .mov (.tmp 6), none⟩,
    .op ⟨(some 36), .bin .add (.tmp 35) (.con (.int .i64 1)), none⟩,
    .op ⟨(some 37), .slc 1 (.tmp 34) (some (.tmp 36)) none none, none⟩,
    .op ⟨(some 38), .buildSlice 1 2 [.nilSlice, .nilSlice] [(0, 1, (.tmp 32)), (1, 1, (.tmp 37))], none⟩,
    .look ⟨(some 19), .load false 1 (.tmp 18), none⟩,
    .look ⟨(some 23), .load false 1 (.tmp 22), none⟩,
    .look ⟨(some 27), .buildSlice 1 2 [.nilSlice, .nilSlice] [(0, 1, (.tmp 21)), (1, 1, (.tmp 26))], none⟩,
    .look ⟨(some 30), .load false 1 (.tmp 29), none⟩,
    .look ⟨(some 34), .load false 1 (.tmp 33), none⟩,
    .look ⟨(some 38), .buildSlice 1 2 [.nilSlice, .nilSlice] [(0, 1, (.tmp 32)), (1, 1, (.tmp 37))], none⟩,
    .op ⟨(some 28), .call 63 [(.tmp 27)], none⟩,
    .op ⟨(some 40), .fieldAddr 3 (.tmp 2), none⟩,
    .look ⟨(some 30), .load false 1 (.tmp 29), none⟩,
    .look ⟨(some 34), .load false 1 (.tmp 33), none⟩,
    .look ⟨(some 38), .buildSlice 1 2 [.nilSlice, .nilSlice] [(0, 1, (.tmp 32)), (1, 1, (.tmp 37))], none⟩,
    .op ⟨(some 39), .call 64 [(.tmp 38)], none⟩,
    .op ⟨none, .store 1 (.tmp 40) (.tmp 28), none⟩,
    .op ⟨(some 41), .fieldAddr 4 (.tmp 2), none⟩,
    .op ⟨none, .store 1 (.tmp 41) (.tmp 39), none⟩])
  (.seq (.ops [⟨(some 42), .load true 5 (.tmp 2), none⟩,
    ⟨none, .store 5 (.tmp 4) (.tmp 42), none⟩,
    ⟨(some 5), .mov (.con (.bool true)), none⟩])
  .ret)))))
def a17 : AFunc := ⟨2, c17, [.cell 4 true 5, .tmp 5]⟩

/- 18: tendril/tendrilbook.Same[uint64] -/
def c18l0 : ACode := (.seq (.seq (.ops [⟨(some 11), .mov (.tmp 5), none⟩,
    ⟨(some 12), .mov (.tmp 0), none⟩,
    ⟨(some 13), .lenSlice (.tmp 12), none⟩,
    ⟨(some 14), .bin .lss (.tmp 11) (.tmp 13), none⟩])
  (.cond (.tmp 14)
  .skip
  (.exit 0)))
  (.seq (.block 1 (.seq (.ops [⟨(some 17), .mov (.tmp 0), none⟩,
    ⟨(some 18), .mov (.tmp 5), none⟩,
    ⟨(some 19), .idxAddr 1 (.tmp 17) (.tmp 18), none⟩,
    ⟨(some 20), .load false 1 (.tmp 19), none⟩,
    ⟨(some 21), .mov (.tmp 1), none⟩,
    ⟨(some 22), .mov (.tmp 5), none⟩,
    ⟨(some 23), .idxAddr 1 (.tmp 21) (.tmp 22), none⟩,
    ⟨(some 24), .load false 1 (.tmp 23), none⟩,
    ⟨(some 25), .bin .neq (.tmp 20) (.tmp 24), none⟩])
  (.cond (.tmp 25)
  (.seq (.ops [⟨(some 4), .mov (.con (.bool false)), none⟩])
  .ret)
  .skip)))
  (.ops [⟨(some 15), .mov (.tmp 5), none⟩,
    ⟨(some 16), .bin .add (.tmp 15) (.con (.int .i64 1)), none⟩,
    ⟨(some 5), .mov (.tmp 16), none⟩])))
def c18 : ACode := (.seq (.ops [⟨(some 4), .mov (.con (.bool false)), none⟩])
  (.seq (.seq (.ops [⟨(some 6), .mov (.tmp 0), none⟩,
    ⟨(some 7), .lenSlice (.tmp 6), none⟩,
    ⟨(some 8), .mov (.tmp 1), none⟩,
    ⟨(some 9), .lenSlice (.tmp 8), none⟩,
    ⟨(some 10), .bin .neq (.tmp 7) (.tmp 9), none⟩])
  (.cond (.tmp 10)
  (.seq (.ops [⟨(some 4), .mov (.con (.bool false)), none⟩])
  .ret)
  .skip))
  (.seq (.seq (.ops [⟨(some 5), .mov (.con (.int .i64 0)), none⟩])
  (.block 0 (.loop c18l0)))
  (.seq (.ops [⟨(some 4), .mov (.con (.bool true)), none⟩])
  .ret))))
def a18 : AFunc := ⟨2, c18, [.tmp 4]⟩

/- 19: tendril/tendrilbook.Same[int] -/
def c19l0 : ACode := (.seq (.seq (.ops [⟨(some 11), .mov (.tmp 5), none⟩,
    ⟨(some 12), .mov (.tmp 0), none⟩,
    ⟨(some 13), .lenSlice (.tmp 12), none⟩,
    ⟨(some 14), .bin .lss (.tmp 11) (.tmp 13), none⟩])
  (.cond (.tmp 14)
  .skip
  (.exit 0)))
  (.seq (.block 1 (.seq (.ops [⟨(some 17), .mov (.tmp 0), none⟩,
    ⟨(some 18), .mov (.tmp 5), none⟩,
    ⟨(some 19), .idxAddr 1 (.tmp 17) (.tmp 18), none⟩,
    ⟨(some 20), .load false 1 (.tmp 19), none⟩,
    ⟨(some 21), .mov (.tmp 1), none⟩,
    ⟨(some 22), .mov (.tmp 5), none⟩,
    ⟨(some 23), .idxAddr 1 (.tmp 21) (.tmp 22), none⟩,
    ⟨(some 24), .load false 1 (.tmp 23), none⟩,
    ⟨(some 25), .bin .neq (.tmp 20) (.tmp 24), none⟩])
  (.cond (.tmp 25)
  (.seq (.ops [⟨(some 4), .mov (.con (.bool false)), none⟩])
  .ret)
  .skip)))
  (.ops [⟨(some 15), .mov (.tmp 5), none⟩,
    ⟨(some 16), .bin .add (.tmp 15) (.con (.int .i64 1)), none⟩,
    ⟨(some 5), .mov (.tmp 16), none⟩])))
def c19 : ACode := (.seq (.ops [⟨(some 4), .mov (.con (.bool false)), none⟩])
  (.seq (.seq (.ops [⟨(some 6), .mov (.tmp 0), none⟩,
    ⟨(some 7), .lenSlice (.tmp 6), none⟩,
    ⟨(some 8), .mov (.tmp 1), none⟩,
    ⟨(some 9), .lenSlice (.tmp 8), none⟩,
    ⟨(some 10), .bin .neq (.tmp 7) (.tmp 9), none⟩])
  (.cond (.tmp 10)
  (.seq (.ops [⟨(some 4), .mov (.con (.bool false)), none⟩])
  .ret)
  .skip))
  (.seq (.seq (.ops [⟨(some 5), .mov (.con (.int .i64 0)), none⟩])
  (.block 0 (.loop c19l0)))
  (.seq (.ops [⟨(some 4), .mov (.con (.bool true)), none⟩])
  .ret))))
def a19 : AFunc := ⟨2, c19, [.tmp 4]⟩

/- 24: tendril/node.Right -/
def c24l0 : ACode := (.seq (.ops [⟨(some 48), .bin .lss (.tmp 47) (.tmp 46), none⟩])
  (.seq (.cond (.tmp 48)
  .skip
  (.exit 0))
  (.seq (.block 1 (.seq (.ops [⟨(some 49), .mov (.tmp 47), none⟩,
    ⟨(some 50), .idxAddr 1 (.tmp 45) (.tmp 47), none⟩,
    ⟨(some 51), .load false 1 (.tmp 50), none⟩,
    ⟨(some 3), .mov (.tmp 49), none⟩,
    ⟨(some 4), .mov (.tmp 51), none⟩])
  (.seq (.ops [⟨(some 52), .mov (.tmp 4), none⟩,
    ⟨(some 53), .call 56 [(.tmp 52)], none⟩,
    ⟨(some 54), .un .not (.tmp 53), none⟩,
    ⟨(some 55), .mov (.tmp 54), none⟩,
    ⟨(some 56), .mov (.tmp 3), (some (55, false))⟩,
    ⟨(some 57), .bin .gtr (.tmp 56) (.con (.int .i64 0)), (some (55, false))⟩,
    ⟨(some 58), .mov (.tmp 57), (some (55, false))⟩,
    ⟨(some 59), .fieldAddr 3 (.tmp 1), (some (58, true))⟩,
    ⟨(some 60), .load false 1 (.tmp 59), (some (58, true))⟩,
    ⟨(some 61), .mov (.tmp 3), (some (58, true))⟩,
    ⟨(some 62), .idxAddr 1 (.tmp 60) (.tmp 61), (some (58, true))⟩,
    ⟨(some 63), .load false 1 (.tmp 62), (some (58, true))⟩,
    ⟨(some 64), .fieldAddr 3 (.tmp 1), (some (58, true))⟩,
    ⟨(some 65), .load false 1 (.tmp 64), (some (58, true))⟩,
    ⟨(some 66), .mov (.tmp 3), (some (58, true))⟩,
    ⟨(some 67), .bin .sub (.tmp 66) (.con (.int .i64 1)), (some (58, true))⟩,
    ⟨(some 68), .idxAddr 1 (.tmp 65) (.tmp 67), (some (58, true))⟩,
    ⟨(some 69), .load false 1 (.tmp 68), (some (58, true))⟩,
    ⟨(some 70), .bin .leq (.tmp 63) (.tmp 69), (some (58, true))⟩,
    ⟨(some 71), .pick (.tmp 58) (.tmp 70) (.con (.bool false)), (some (55, false))⟩,
    ⟨(some 72), .pick (.tmp 55) (.con (.bool true)) (.tmp 71), none⟩])
  (.cond (.tmp 72)
  (.seq (.ops [⟨(some 2), .mov (.con (.bool false)), none⟩])
  .ret)
  .skip))))
  (.ops [⟨(some 73), .bin .add (.tmp 47) (.con (.int .i64 1)), none⟩,
    ⟨(some 47), .mov (.tmp 73), none⟩]))))
def c24 : ACode := (.seq (.ops [⟨(some 1), .box (.tmp 0), none⟩,
    ⟨(some 2), .mov (.con (.bool false)), none⟩])
  (.seq (.seq (.draw [.op ⟨(some 5), .fieldAddr 0 (.tmp 1), none⟩,
    .op ⟨(some 6), .load false 1 (.tmp 5), none⟩,
    .op ⟨(some 7), .call 27 [(.tmp 6)], none⟩,
    .op ⟨(some 8), .bin .eql (.tmp 7) (.con (.int .i64 0)), none⟩,
    .op ⟨(some 9), .mov (.tmp 8), none⟩,
    .op ⟨(some 10), .fieldAddr 1 (.tmp 1), (some (9, false))⟩,
    .op ⟨(some 11), .load false 1 (.tmp 10), (some (9, false))⟩,
    .op ⟨(some 12), .call 65 [(.tmp 11)], (some (9, false))⟩,
    .op ⟨(some 13), .mov (.tmp 12), (some (9, false))⟩,
    .op ⟨(some 14), .fieldAddr 1 (.tmp 1), (some (13, true))⟩,
    .op ⟨(some 15), .load false 1 (.tmp 14), (some (13, true))⟩,
    .op ⟨(some 16), .bin .and (.tmp 15) (.con (.int .u64 1)), (some (13, true))⟩,
    .op ⟨(some 17), .bin .neq (.tmp 16) (.con (.int .u64 0)), (some (13, true))⟩,
    .op ⟨(some 18), .pick (.tmp 13) (.tmp 17) (.con (.bool false)), (some (9, false))⟩,
    .op ⟨(some 19), .pick (.tmp 9) (.con (.bool true)) (.tmp 18), none⟩,
    .op ⟨(some 20), .mov (.tmp 19), none⟩,
    .op ⟨(some 21), .fieldAddr 2 (.tmp 1), (some (20, false))⟩,
    .op ⟨(some 22), .load false 1 (.tmp 21), (some (20, false))⟩,
    .op ⟨(some 23), .lenStr (.tmp 22), (some (20, false))⟩,
    .op ⟨(some 24), .bin .gtr (.tmp 23) (.con (.int .i64 12)), (some (20, false))⟩,
    .op ⟨(some 25), .pick (.tmp 20) (.con (.bool true)) (.tmp 24), none⟩,
    .op ⟨(some 26), .mov (.tmp 25), none⟩,
    .op ⟨(some 27), .fieldAddr 3 (.tmp 1), (some (26, false))⟩,
    .op ⟨(some 28), .load false 1 (.tmp 27), (some (26, false))⟩,
    .op ⟨(some 29), .lenSlice (.tmp 28), (some (26, false))⟩,
    .op ⟨(some 30), .fieldAddr 4 (.tmp 1), (some (26, false))⟩,
    .op ⟨(some 31), .load false 1 (.tmp 30), (some (26, false))⟩,
    .op ⟨(some 32), .lenSlice (.tmp 31), (some (26, false))⟩,
    .op ⟨(some 33), .bin .neq (.tmp 29) (.tmp 32), (some (26, false))⟩,
    .op ⟨(some 34), .pick (.tmp 26) (.con (.bool true)) (.tmp 33), none⟩,
    .op ⟨(some 35), .mov (.tmp 34), none⟩,
    .op ⟨(some 36), .fieldAddr 3 (.tmp 1), (some (35, false))⟩,
    .op ⟨(some 37), .load false 1 (.tmp 36), (some (35, false))⟩,
    .op ⟨(some 38), .lenSlice (.tmp 37), (some (35, false))⟩,
    .op ⟨(some 39), .fieldAddr 0 (.tmp 1), (some (35, false))⟩,
    .op ⟨(some 40), .load false 1 (.tmp 39), (some (35, false))⟩,
    .op ⟨(some 41), .call 27 [(.tmp 40)], (some (35, false))⟩,
    .op ⟨(some 42), .bin .gtr (.tmp 38) (.tmp 41), (some (35, false))⟩,
    .op ⟨(some 43), .pick (.tmp 35) (.con (.bool true)) (.tmp 42), none⟩,
    .look ⟨(some 37), .load false 1 (.tmp 36), (some (35, false))⟩])
  (.cond (.tmp 43)
  (.seq (.ops [⟨(some 2), .mov (.con (.bool false)), none⟩])
  .ret)
  .skip))
  (.seq (.seq (.ops [⟨(some 44), .fieldAddr 4 (.tmp 1), none⟩,
    ⟨(some 45), .load false 1 (.tmp 44), none⟩,
    ⟨(some 46), .lenSlice (.tmp 45), none⟩,
    ⟨(some 47), .mov (.con (.int .i64 0)), none⟩])
  (.block 0 (.loop c24l0)))
  (.seq (.ops [⟨(some 2), .mov (.con (.bool true)), none⟩])
  .ret))))
def a24 : AFunc := ⟨1, c24, [.tmp 2]⟩

/- 53: tendril/arena.Size -/
def c53 : ACode := (.seq (.ops [⟨(some 2), .mov (.con (.int .i64 0)), none⟩])
  (.seq (.seq (.ops [⟨(some 3), .mov (.tmp 0), none⟩])
  (.block 0 (.seq (.ops [⟨(some 5), .bin .eql (.tmp 3) (.con (.int .i64 0)), none⟩,
    ⟨(some 4), .mov (.tmp 5), none⟩])
  (.cond (.tmp 4)
  (.seq (.ops [⟨(some 2), .mov (.con (.int .i64 8)), none⟩])
  .ret)
  (.seq (.ops [⟨(some 7), .bin .eql (.tmp 3) (.con (.int .i64 1)), none⟩,
    ⟨(some 6), .mov (.tmp 7), none⟩])
  (.cond (.tmp 6)
  (.seq (.ops [⟨(some 2), .mov (.con (.int .i64 12)), none⟩])
  .ret)
  (.seq (.ops [⟨(some 9), .bin .eql (.tmp 3) (.con (.int .i64 2)), none⟩,
    ⟨(some 8), .mov (.tmp 9), none⟩])
  (.cond (.tmp 8)
  (.seq (.ops [⟨(some 2), .mov (.con (.int .i64 24)), none⟩])
  .ret)
  (.seq (.ops [⟨(some 11), .bin .eql (.tmp 3) (.con (.int .i64 3)), none⟩,
    ⟨(some 10), .mov (.tmp 11), none⟩])
  (.cond (.tmp 10)
  (.seq (.ops [⟨(some 2), .mov (.con (.int .i64 88)), none⟩])
  .ret)
  (.seq (.ops [⟨(some 13), .bin .eql (.tmp 3) (.con (.int .i64 4)), none⟩,
    ⟨(some 12), .mov (.tmp 13), none⟩])
  (.cond (.tmp 12)
  (.seq (.ops [⟨(some 2), .mov (.con (.int .i64 264)), none⟩])
  .ret)
  .skip))))))))))))
  (.seq (.ops [⟨(some 2), .mov (.con (.int .i64 0)), none⟩])
  .ret)))
def a53 : AFunc := ⟨1, c53, [.tmp 2]⟩

/- 54: tendril/pack.Words -/
def c54l0 : ACode := (.seq (.ops [⟨(some 12), .bin .lss (.tmp 11) (.tmp 10), none⟩])
  (.seq (.cond (.tmp 12)
  .skip
  (.exit 0))
  (.seq (.block 1 (.seq (.ops [⟨(some 13), .mov (.tmp 11), none⟩,
    ⟨(some 4), .mov (.tmp 13), none⟩])
  (.ops [⟨(some 14), .mov (.tmp 3), none⟩,
    ⟨(some 15), .mov (.tmp 4), none⟩,
    ⟨(some 16), .bin .quo (.tmp 15) (.con (.int .i64 8)), none⟩,
    ⟨(some 17), .idxAddr 1 (.tmp 14) (.tmp 16), none⟩,
    ⟨(some 18), .load false 1 (.tmp 17), none⟩,
    ⟨(some 19), .mov (.tmp 0), none⟩,
    ⟨(some 20), .mov (.tmp 4), none⟩,
    ⟨(some 21), .idxStr (.tmp 19) (.tmp 20), none⟩,
    ⟨(some 22), .toInt .u64 (.tmp 21), none⟩,
    ⟨(some 23), .mov (.tmp 4), none⟩,
    ⟨(some 24), .bin .rem (.tmp 23) (.con (.int .i64 8)), none⟩,
    ⟨(some 25), .bin .mul (.con (.int .i64 8)) (.tmp 24), none⟩,
    ⟨(some 26), .toInt .u64 (.tmp 25), none⟩,
    ⟨(some 27), .bin .shl (.tmp 22) (.tmp 26), none⟩,
    ⟨(some 28), .bin .or (.tmp 18) (.tmp 27), none⟩,
    ⟨(some 29), .idxAddr 1 (.tmp 14) (.tmp 16), none⟩,
    ⟨none, .store 1 (.tmp 29) (.tmp 28), none⟩])))
  (.ops [⟨(some 30), .bin .add (.tmp 11) (.con (.int .i64 1)), none⟩,
    ⟨(some 11), .mov (.tmp 30), none⟩]))))
def c54 : ACode := (.seq (.ops [⟨(some 2), .mov (.con .nilSlice), none⟩])
  (.seq (.ops [⟨(some 5), .mov (.tmp 0), none⟩,
    ⟨(some 6), .lenStr (.tmp 5), none⟩,
    ⟨(some 7), .call 78 [(.tmp 6)], none⟩,
    ⟨(some 8), .mkSlice 1 8 [(.int .u64 0)] (.tmp 7) (.tmp 7), none⟩,
    ⟨(some 3), .mov (.tmp 8), none⟩])
  (.seq (.seq (.ops [⟨(some 9), .mov (.tmp 0), none⟩,
    ⟨(some 10), .lenStr (.tmp 9), none⟩,
    ⟨(some 11), .mov (.con (.int .i64 0)), none⟩])
  (.block 0 (.loop c54l0)))
  (.seq (.ops [⟨(some 31), .mov (.tmp 3), none⟩,
    ⟨(some 2), .mov (.tmp 31), none⟩])
  .ret))))
def a54 : AFunc := ⟨1, c54, [.tmp 2]⟩

/- 55: tendril/node.index -/
def c55l0 : ACode := (.seq (.ops [⟨(some 10), .bin .lss (.tmp 9) (.tmp 8), none⟩])
  (.seq (.cond (.tmp 10)
  .skip
  (.exit 0))
  (.seq (.block 1 (.seq (.ops [⟨(some 11), .mov (.tmp 9), none⟩,
    ⟨(some 12), .idxAddr 1 (.tmp 7) (.tmp 9), none⟩,
    ⟨(some 13), .load false 1 (.tmp 12), none⟩,
    ⟨(some 4), .mov (.tmp 11), none⟩,
    ⟨(some 5), .mov (.tmp 13), none⟩])
  (.ops [⟨(some 14), .mov (.tmp 3), none⟩,
    ⟨(some 15), .mov (.tmp 5), none⟩,
    ⟨(some 16), .bin .quo (.tmp 15) (.con (.int .u8 8)), none⟩,
    ⟨(some 17), .idxAddr 1 (.tmp 14) (.tmp 16), none⟩,
    ⟨(some 18), .load false 1 (.tmp 17), none⟩,
    ⟨(some 19), .mov (.tmp 4), none⟩,
    ⟨(some 20), .bin .add (.tmp 19) (.con (.int .i64 1)), none⟩,
    ⟨(some 21), .toInt .u64 (.tmp 20), none⟩,
    ⟨(some 22), .mov (.tmp 5), none⟩,
    ⟨(some 23), .bin .rem (.tmp 22) (.con (.int .u8 8)), none⟩,
    ⟨(some 24), .bin .mul (.con (.int .u8 8)) (.tmp 23), none⟩,
    ⟨(some 25), .bin .shl (.tmp 21) (.tmp 24), none⟩,
    ⟨(some 26), .bin .or (.tmp 18) (.tmp 25), none⟩,
    ⟨(some 27), .idxAddr 1 (.tmp 14) (.tmp 16), none⟩,
    ⟨none, .store 1 (.tmp 27) (.tmp 26), none⟩])))
  (.ops [⟨(some 28), .bin .add (.tmp 9) (.con (.int .i64 1)), none⟩,
    ⟨(some 9), .mov (.tmp 28), none⟩]))))
def c55 : ACode := (.seq (.ops [⟨(some 2), .mov (.con .nilSlice), none⟩])
  (.seq (.ops [⟨(some 6), .mkSlice 1 8 [(.int .u64 0)] (.con (.int .i64 32)) (.con (.int .i64 32)), none⟩,
    ⟨(some 3), .mov (.tmp 6), none⟩])
  (.seq (.seq (.ops [⟨(some 7), .mov (.tmp 0), none⟩,
    ⟨(some 8), .lenSlice (.tmp 7), none⟩,
    ⟨(some 9), .mov (.con (.int .i64 0)), none⟩])
  (.block 0 (.loop c55l0)))
  (.seq (.ops [⟨(some 29), .mov (.tmp 3), none⟩,
    ⟨(some 2), .mov (.tmp 29), none⟩])
  .ret))))
def a55 : AFunc := ⟨1, c55, [.tmp 2]⟩

/- 56: tendril/node.isRef -/
def c56 : ACode := (.seq (.ops [⟨(some 2), .mov (.con (.bool false)), none⟩])
  (.seq (.ops [⟨(some 8), .mov (.tmp 0), none⟩,
    ⟨(some 9), .call 79 [(.tmp 8)], none⟩,
    ⟨(some 7), .mov (.tmp 9), none⟩,
    ⟨(some 10), .extract (.tmp 7) 0, none⟩,
    ⟨(some 11), .extract (.tmp 7) 1, none⟩,
    ⟨(some 12), .extract (.tmp 7) 2, none⟩,
    ⟨(some 13), .extract (.tmp 7) 3, none⟩,
    ⟨(some 3), .mov (.tmp 10), none⟩,
    ⟨(some 4), .mov (.tmp 11), none⟩,
    ⟨(some 5), .mov (.tmp 12), none⟩,
    ⟨(some 6), .mov (.tmp 13), none⟩])
  (.seq (.ops [⟨(some 14), .mov (.tmp 6), none⟩,
    ⟨(some 2), .mov (.tmp 14), none⟩])
  .ret)))
def a56 : AFunc := ⟨1, c56, [.tmp 2]⟩

/- 57: slices.Clone[[]byte,byte] -/
def c57 : ACode := (.seq (.ops [⟨(some 2), .mov (.con .nilSlice), none⟩])
  (.seq (.seq (.ops [⟨(some 3), .mov (.tmp 0), none⟩,
    ⟨(some 4), .eqNil 1 false (.tmp 3) (.con .nilSlice), none⟩])
  (.cond (.tmp 4)
  (.seq (.ops [⟨(some 2), .mov (.con .nilSlice), none⟩])
  .ret)
  .skip))
  (.seq (.ops [⟨(some 5), .buildSlice 1 0 [] [], none⟩,
    ⟨(some 6), .mov (.tmp 0), none⟩,
    ⟨(some 7), .append 1 1 (.tmp 5) (.tmp 6), none⟩,
    ⟨(some 2), .mov (.tmp 7), none⟩])
  .ret)))
def a57 : AFunc := ⟨1, c57, [.tmp 2]⟩

/- 58: slices.Clone[[]int,int] -/
def c58 : ACode := (.seq (.ops [⟨(some 2), .mov (.con .nilSlice), none⟩])
  (.seq (.seq (.ops [⟨(some 3), .mov (.tmp 0), none⟩,
    ⟨(some 4), .eqNil 1 false (.tmp 3) (.con .nilSlice), none⟩])
  (.cond (.tmp 4)
  (.seq (.ops [⟨(some 2), .mov (.con .nilSlice), none⟩])
  .ret)
  .skip))
  (.seq (.ops [⟨(some 5), .buildSlice 1 0 [] [], none⟩,
    ⟨(some 6), .mov (.tmp 0), none⟩,
    ⟨(some 7), .append 1 8 (.tmp 5) (.tmp 6), none⟩,
    ⟨(some 2), .mov (.tmp 7), none⟩])
  .ret)))
def a58 : AFunc := ⟨1, c58, [.tmp 2]⟩

/- 59: slices.BinarySearch[[]byte,byte] -/
def c59l0 : ACode := (.seq (.seq (.ops [⟨(some 13), .mov (.tmp 7), none⟩,
    ⟨(some 14), .mov (.tmp 8), none⟩,
    ⟨(some 15), .bin .lss (.tmp 13) (.tmp 14), none⟩])
  (.cond (.tmp 15)
  .skip
  (.exit 0)))
  (.block 1 (.seq (.ops [⟨(some 16), .mov (.tmp 7), none⟩,
    ⟨(some 17), .mov (.tmp 8), none⟩,
    ⟨(some 18), .bin .add (.tmp 16) (.tmp 17), none⟩,
    ⟨(some 19), .toInt .u64 (.tmp 18), none⟩,
    ⟨(some 20), .bin .shr (.tmp 19) (.con (.int .u64 1)), none⟩,
    ⟨(some 21), .toInt .i64 (.tmp 20), none⟩,
    ⟨(some 9), .mov (.tmp 21), none⟩])
  (.seq (.ops [⟨(some 22), .mov (.tmp 0), none⟩,
    ⟨(some 23), .mov (.tmp 9), none⟩,
    ⟨(some 24), .idxAddr 1 (.tmp 22) (.tmp 23), none⟩,
    ⟨(some 25), .load false 1 (.tmp 24), none⟩,
    ⟨(some 26), .mov (.tmp 1), none⟩,
    ⟨(some 27), .call 80 [(.tmp 25), (.tmp 26)], none⟩])
  (.cond (.tmp 27)
  (.ops [⟨(some 28), .mov (.tmp 9), none⟩,
    ⟨(some 29), .bin .add (.tmp 28) (.con (.int .i64 1)), none⟩,
    ⟨(some 7), .mov (.tmp 29), none⟩])
  (.ops [⟨(some 30), .mov (.tmp 9), none⟩,
    ⟨(some 8), .mov (.tmp 30), none⟩]))))))
def c59 : ACode := (.seq (.ops [⟨(some 4), .mov (.con (.int .i64 0)), none⟩,
    ⟨(some 5), .mov (.con (.bool false)), none⟩])
  (.seq (.ops [⟨(some 10), .mov (.tmp 0), none⟩,
    ⟨(some 11), .lenSlice (.tmp 10), none⟩,
    ⟨(some 6), .mov (.tmp 11), none⟩])
  (.seq (.ops [⟨(some 12), .mov (.tmp 6), none⟩,
    ⟨(some 7), .mov (.con (.int .i64 0)), none⟩,
    ⟨(some 8), .mov (.tmp 12), none⟩])
  (.seq (.block 0 (.loop c59l0))
  (.seq (.ops [⟨(some 31), .mov (.tmp 7), none⟩,
    ⟨(some 32), .mov (.tmp 7), none⟩,
    ⟨(some 33), .mov (.tmp 6), none⟩,
    ⟨(some 34), .bin .lss (.tmp 32) (.tmp 33), none⟩,
    ⟨(some 35), .mov (.tmp 34), none⟩,
    ⟨(some 36), .mov (.tmp 0), (some (35, true))⟩,
    ⟨(some 37), .mov (.tmp 7), (some (35, true))⟩,
    ⟨(some 38), .idxAddr 1 (.tmp 36) (.tmp 37), (some (35, true))⟩,
    ⟨(some 39), .load false 1 (.tmp 38), (some (35, true))⟩,
    ⟨(some 40), .mov (.tmp 1), (some (35, true))⟩,
    ⟨(some 41), .bin .eql (.tmp 39) (.tmp 40), (some (35, true))⟩,
    ⟨(some 42), .mov (.tmp 41), (some (35, true))⟩,
    ⟨(some 43), .mov (.tmp 0), (some (42, false))⟩,
    ⟨(some 44), .mov (.tmp 7), (some (42, false))⟩,
    ⟨(some 45), .idxAddr 1 (.tmp 43) (.tmp 44), (some (42, false))⟩,
    ⟨(some 46), .load false 1 (.tmp 45), (some (42, false))⟩,
    ⟨(some 47), .call 81 [(.tmp 46)], (some (42, false))⟩,
    ⟨(some 48), .mov (.tmp 47), (some (42, false))⟩,
    ⟨(some 49), .mov (.tmp 1), (some (48, true))⟩,
    ⟨(some 50), .call 81 [(.tmp 49)], (some (48, true))⟩,
    ⟨(some 51), .pick (.tmp 48) (.tmp 50) (.con (.bool false)), (some (42, false))⟩,
    ⟨(some 52), .pick (.tmp 42) (.con (.bool true)) (.tmp 51), (some (35, true))⟩,
    ⟨(some 53), .pick (.tmp 35) (.tmp 52) (.con (.bool false)), none⟩,
    ⟨(some 4), .mov (.tmp 31), none⟩,
    ⟨(some 5), .mov (.tmp 53), none⟩])
  .ret)))))
def a59 : AFunc := ⟨2, c59, [.tmp 4, .tmp 5]⟩

/- 27: tendril/node.High -/
def c27 : ACode := (.seq (.ops [⟨(some 2), .mov (.con (.int .i64 0)), none⟩])
  (.seq (.seq (.ops [⟨(some 3), .mov (.tmp 0), none⟩])
  (.block 0 (.seq (.ops [⟨(some 5), .bin .eql (.tmp 3) (.con (.int .i64 1)), none⟩,
    ⟨(some 4), .mov (.tmp 5), none⟩])
  (.cond (.tmp 4)
  (.seq (.ops [⟨(some 2), .mov (.con (.int .i64 4)), none⟩])
  .ret)
  (.seq (.ops [⟨(some 7), .bin .eql (.tmp 3) (.con (.int .i64 2)), none⟩,
    ⟨(some 6), .mov (.tmp 7), none⟩])
  (.cond (.tmp 6)
  (.seq (.ops [⟨(some 2), .mov (.con (.int .i64 16)), none⟩])
  .ret)
  (.seq (.ops [⟨(some 9), .bin .eql (.tmp 3) (.con (.int .i64 3)), none⟩,
    ⟨(some 8), .mov (.tmp 9), none⟩])
  (.cond (.tmp 8)
  (.seq (.ops [⟨(some 2), .mov (.con (.int .i64 48)), none⟩])
  .ret)
  (.seq (.ops [⟨(some 11), .bin .eql (.tmp 3) (.con (.int .i64 4)), none⟩,
    ⟨(some 10), .mov (.tmp 11), none⟩])
  (.cond (.tmp 10)
  (.seq (.ops [⟨(some 2), .mov (.con (.int .i64 256)), none⟩])
  .ret)
  .skip))))))))))
  (.seq (.ops [⟨(some 2), .mov (.con (.int .i64 0)), none⟩])
  .ret)))
def a27 : AFunc := ⟨1, c27, [.tmp 2]⟩

/- 60: slices.Insert[[]byte,byte] -/
def c60 : ACode := (.seq (.ops [⟨(some 6), .mov (.con .nilSlice), none⟩])
  (.seq (.ops [⟨(some 10), .mov (.tmp 0), none⟩,
    ⟨(some 11), .mov (.tmp 1), none⟩,
    ⟨(some 12), .slc 1 (.tmp 10) (some (.tmp 11)) none none, none⟩])
  (.seq (.ops [⟨(some 13), .mov (.tmp 2), none⟩,
    ⟨(some 14), .lenSlice (.tmp 13), none⟩,
    ⟨(some 7), .mov (.tmp 14), none⟩])
  (.seq (.seq (.ops [⟨(some 15), .mov (.tmp 7), none⟩,
    ⟨(some 16), .bin .eql (.tmp 15) (.con (.int .i64 0)), none⟩])
  (.cond (.tmp 16)
  (.seq (.ops [⟨(some 17), .mov (.tmp 0), none⟩,
    ⟨(some 6), .mov (.tmp 17), none⟩])
  .ret)
  .skip))
  (.seq (.ops [⟨(some 18), .mov (.tmp 0), none⟩,
    ⟨(some 19), .lenSlice (.tmp 18), none⟩,
    ⟨(some 8), .mov (.tmp 19), none⟩])
  (.seq (.seq (.ops [⟨(some 20), .mov (.tmp 1), none⟩,
    ⟨(some 21), .mov (.tmp 8), none⟩,
    ⟨(some 22), .bin .eql (.tmp 20) (.tmp 21), none⟩])
  (.cond (.tmp 22)
  (.seq (.ops [⟨(some 23), .mov (.tmp 0), none⟩,
    ⟨(some 24), .mov (.tmp 2), none⟩,
    ⟨(some 25), .append 1 1 (.tmp 23) (.tmp 24), none⟩,
    ⟨(some 6), .mov (.tmp 25), none⟩])
  .ret)
  .skip))
  (.seq (.seq (.ops [⟨(some 26), .mov (.tmp 8), none⟩,
    ⟨(some 27), .mov (.tmp 7), none⟩,
    ⟨(some 28), .bin .add (.tmp 26) (.tmp 27), none⟩,
    ⟨(some 29), .mov (.tmp 0), none⟩,
    ⟨(some 30), .capSlice (.tmp 29), none⟩,
    ⟨(some 31), .bin .gtr (.tmp 28) (.tmp 30), none⟩])
  (.cond (.tmp 31)
  (.seq (.ops [⟨(some 32), .mov (.tmp 0), none⟩,
    ⟨(some 33), .mov (.tmp 1), none⟩,
    ⟨(some 34), .slc 1 (.tmp 32) none (some (.tmp 33)) none, none⟩,
    ⟨(some 35), .mov (.tmp 8), none⟩,
    ⟨(some 36), .mov (.tmp 7), none⟩,
    ⟨(some 37), .bin .add (.tmp 35) (.tmp 36), none⟩,
    ⟨(some 38), .mov (.tmp 1), none⟩,
    ⟨(some 39), .bin .sub (.tmp 37) (.tmp 38), none⟩,
    ⟨(some 40), .appendZ 1 1 [(.int .u8 0)] (.tmp 34) (.tmp 39), none⟩,
    ⟨(some 9), .mov (.tmp 40), none⟩])
  (.seq (.ops [⟨(some 41), .mov (.tmp 9), none⟩,
    ⟨(some 42), .mov (.tmp 1), none⟩,
    ⟨(some 43), .slc 1 (.tmp 41) (some (.tmp 42)) none none, none⟩,
    ⟨(some 44), .mov (.tmp 2), none⟩,
    ⟨(some 45), .copy 1 (.tmp 43) (.tmp 44), none⟩])
  (.seq (.ops [⟨(some 46), .mov (.tmp 9), none⟩,
    ⟨(some 47), .mov (.tmp 1), none⟩,
    ⟨(some 48), .mov (.tmp 7), none⟩,
    ⟨(some 49), .bin .add (.tmp 47) (.tmp 48), none⟩,
    ⟨(some 50), .slc 1 (.tmp 46) (some (.tmp 49)) none none, none⟩,
    ⟨(some 51), .mov (.tmp 0), none⟩,
    ⟨(some 52), .mov (.tmp 1), none⟩,
    ⟨(some 53), .slc 1 (.tmp 51) (some (.tmp 52)) none none, none⟩,
    ⟨(some 54), .copy 1 (.tmp 50) (.tmp 53), none⟩])
  (.seq (.ops [⟨(some 55), .mov (.tmp 9), none⟩,
    ⟨(some 6), .mov (.tmp 55), none⟩])
  .ret))))
  .skip))
  (.seq (.ops [⟨(some 56), .mov (.tmp 0), none⟩,
    ⟨(some 57), .mov (.tmp 8), none⟩,
    ⟨(some 58), .mov (.tmp 7), none⟩,
    ⟨(some 59), .bin .add (.tmp 57) (.tmp 58), none⟩,
    ⟨(some 60), .slc 1 (.tmp 56) none (some (.tmp 59)) none, none⟩,
    ⟨(some 0), .mov (.tmp 60), none⟩])
  (.seq (.seq (.ops [⟨(some 61), .mov (.tmp 2), none⟩,
    ⟨(some 62), .mov (.tmp 0), none⟩,
    ⟨(some 63), .mov (.tmp 1), none⟩,
    ⟨(some 64), .mov (.tmp 7), none⟩,
    ⟨(some 65), .bin .add (.tmp 63) (.tmp 64), none⟩,
    ⟨(some 66), .slc 1 (.tmp 62) (some (.tmp 65)) none none, none⟩,
    ⟨(some 67), .call 82 [(.tmp 61), (.tmp 66)], none⟩,
    ⟨(some 68), .un .not (.tmp 67), none⟩])
  (.cond (.tmp 68)
  (.seq (.ops [⟨(some 69), .mov (.tmp 0), none⟩,
    ⟨(some 70), .mov (.tmp 1), none⟩,
    ⟨(some 71), .mov (.tmp 7), none⟩,
    ⟨(some 72), .bin .add (.tmp 70) (.tmp 71), none⟩,
    ⟨(some 73), .slc 1 (.tmp 69) (some (.tmp 72)) none none, none⟩,
    ⟨(some 74), .mov (.tmp 0), none⟩,
    ⟨(some 75), .mov (.tmp 1), none⟩,
    ⟨(some 76), .slc 1 (.tmp 74) (some (.tmp 75)) none none, none⟩,
    ⟨(some 77), .copy 1 (.tmp 73) (.tmp 76), none⟩])
  (.seq (.ops [⟨(some 78), .mov (.tmp 0), none⟩,
    ⟨(some 79), .mov (.tmp 1), none⟩,
    ⟨(some 80), .slc 1 (.tmp 78) (some (.tmp 79)) none none, none⟩,
    ⟨(some 81), .mov (.tmp 2), none⟩,
    ⟨(some 82), .copy 1 (.tmp 80) (.tmp 81), none⟩])
  (.seq (.ops [⟨(some 83), .mov (.tmp 0), none⟩,
    ⟨(some 6), .mov (.tmp 83), none⟩])
  .ret)))
  .skip))
  (.seq (.ops [⟨(some 84), .mov (.tmp 0), none⟩,
    ⟨(some 85), .mov (.tmp 8), none⟩,
    ⟨(some 86), .slc 1 (.tmp 84) (some (.tmp 85)) none none, none⟩,
    ⟨(some 87), .mov (.tmp 2), none⟩,
    ⟨(some 88), .copy 1 (.tmp 86) (.tmp 87), none⟩])
  (.seq (.ops [⟨(some 89), .mov (.tmp 0), none⟩,
    ⟨(some 90), .mov (.tmp 1), none⟩,
    ⟨(some 91), .slc 1 (.tmp 89) (some (.tmp 90)) none none, none⟩,
    ⟨(some 92), .mov (.tmp 7), none⟩,
    ⟨(some 93), .call 83 [(.tmp 91), (.tmp 92)], none⟩])
  (.seq (.ops [⟨(some 94), .mov (.tmp 0), none⟩,
    ⟨(some 6), .mov (.tmp 94), none⟩])
  .ret))))))))))))
def a60 : AFunc := ⟨3, c60, [.tmp 6]⟩

/- 61: slices.Insert[[]int,int] -/
def c61 : ACode := (.seq (.ops [⟨(some 6), .mov (.con .nilSlice), none⟩])
  (.seq (.ops [⟨(some 10), .mov (.tmp 0), none⟩,
    ⟨(some 11), .mov (.tmp 1), none⟩,
    ⟨(some 12), .slc 1 (.tmp 10) (some (.tmp 11)) none none, none⟩])
  (.seq (.ops [⟨(some 13), .mov (.tmp 2), none⟩,
    ⟨(some 14), .lenSlice (.tmp 13), none⟩,
    ⟨(some 7), .mov (.tmp 14), none⟩])
  (.seq (.seq (.ops [⟨(some 15), .mov (.tmp 7), none⟩,
    ⟨(some 16), .bin .eql (.tmp 15) (.con (.int .i64 0)), none⟩])
  (.cond (.tmp 16)
  (.seq (.ops [⟨(some 17), .mov (.tmp 0), none⟩,
    ⟨(some 6), .mov (.tmp 17), none⟩])
  .ret)
  .skip))
  (.seq (.ops [⟨(some 18), .mov (.tmp 0), none⟩,
    ⟨(some 19), .lenSlice (.tmp 18), none⟩,
    ⟨(some 8), .mov (.tmp 19), none⟩])
  (.seq (.seq (.ops [⟨(some 20), .mov (.tmp 1), none⟩,
    ⟨(some 21), .mov (.tmp 8), none⟩,
    ⟨(some 22), .bin .eql (.tmp 20) (.tmp 21), none⟩])
  (.cond (.tmp 22)
  (.seq (.ops [⟨(some 23), .mov (.tmp 0), none⟩,
    ⟨(some 24), .mov (.tmp 2), none⟩,
    ⟨(some 25), .append 1 8 (.tmp 23) (.tmp 24), none⟩,
    ⟨(some 6), .mov (.tmp 25), none⟩])
  .ret)
  .skip))
  (.seq (.seq (.ops [⟨(some 26), .mov (.tmp 8), none⟩,
    ⟨(some 27), .mov (.tmp 7), none⟩,
    ⟨(some 28), .bin .add (.tmp 26) (.tmp 27), none⟩,
    ⟨(some 29), .mov (.tmp 0), none⟩,
    ⟨(some 30), .capSlice (.tmp 29), none⟩,
    ⟨(some 31), .bin .gtr (.tmp 28) (.tmp 30), none⟩])
  (.cond (.tmp 31)
  (.seq (.ops [⟨(some 32), .mov (.tmp 0), none⟩,
    ⟨(some 33), .mov (.tmp 1), none⟩,
    ⟨(some 34), .slc 1 (.tmp 32) none (some (.tmp 33)) none, none⟩,
    ⟨(some 35), .mov (.tmp 8), none⟩,
    ⟨(some 36), .mov (.tmp 7), none⟩,
    ⟨(some 37), .bin .add (.tmp 35) (.tmp 36), none⟩,
    ⟨(some 38), .mov (.tmp 1), none⟩,
    ⟨(some 39), .bin .sub (.tmp 37) (.tmp 38), none⟩,
    ⟨(some 40), .appendZ 1 8 [(.int .i64 0)] (.tmp 34) (.tmp 39), none⟩,
    ⟨(some 9), .mov (.tmp 40), none⟩])
  (.seq (.ops [⟨(some 41), .mov (.tmp 9), none⟩,
    ⟨(some 42), .mov (.tmp 1), none⟩,
    ⟨(some 43), .slc 1 (.tmp 41) (some (.tmp 42)) none none, none⟩,
    ⟨(some 44), .mov (.tmp 2), none⟩,
    ⟨(some 45), .copy 1 (.tmp 43) (.tmp 44), none⟩])
  (.seq (.ops [⟨(some 46), .mov (.tmp 9), none⟩,
    ⟨(some 47), .mov (.tmp 1), none⟩,
    ⟨(some 48), .mov (.tmp 7), none⟩,
    ⟨(some 49), .bin .add (.tmp 47) (.tmp 48), none⟩,
    ⟨(some 50), .slc 1 (.tmp 46) (some (.tmp 49)) none none, none⟩,
    ⟨(some 51), .mov (.tmp 0), none⟩,
    ⟨(some 52), .mov (.tmp 1), none⟩,
    ⟨(some 53), .slc 1 (.tmp 51) (some (.tmp 52)) none none, none⟩,
    ⟨(some 54), .copy 1 (.tmp 50) (.tmp 53), none⟩])
  (.seq (.ops [⟨(some 55), .mov (.tmp 9), none⟩,
    ⟨(some 6), .mov (.tmp 55), none⟩])
  .ret))))
  .skip))
  (.seq (.ops [⟨(some 56), .mov (.tmp 0), none⟩,
    ⟨(some 57), .mov (.tmp 8), none⟩,
    ⟨(some 58), .mov (.tmp 7), none⟩,
    ⟨(some 59), .bin .add (.tmp 57) (.tmp 58), none⟩,
    ⟨(some 60), .slc 1 (.tmp 56) none (some (.tmp 59)) none, none⟩,
    ⟨(some 0), .mov (.tmp 60), none⟩])
  (.seq (.seq (.ops [⟨(some 61), .mov (.tmp 2), none⟩,
    ⟨(some 62), .mov (.tmp 0), none⟩,
    ⟨(some 63), .mov (.tmp 1), none⟩,
    ⟨(some 64), .mov (.tmp 7), none⟩,
    ⟨(some 65), .bin .add (.tmp 63) (.tmp 64), none⟩,
    ⟨(some 66), .slc 1 (.tmp 62) (some (.tmp 65)) none none, none⟩,
    ⟨(some 67), .call 84 [(.tmp 61), (.tmp 66)], none⟩,
    ⟨(some 68), .un .not (.tmp 67), none⟩])
  (.cond (.tmp 68)
  (.seq (.ops [⟨(some 69), .mov (.tmp 0), none⟩,
    ⟨(some 70), .mov (.tmp 1), none⟩,
    ⟨(some 71), .mov (.tmp 7), none⟩,
    ⟨(some 72), .bin .add (.tmp 70) (.tmp 71), none⟩,
    ⟨(some 73), .slc 1 (.tmp 69) (some (.tmp 72)) none none, none⟩,
    ⟨(some 74), .mov (.tmp 0), none⟩,
    ⟨(some 75), .mov (.tmp 1), none⟩,
    ⟨(some 76), .slc 1 (.tmp 74) (some (.tmp 75)) none none, none⟩,
    ⟨(some 77), .copy 1 (.tmp 73) (.tmp 76), none⟩])
  (.seq (.ops [⟨(some 78), .mov (.tmp 0), none⟩,
    ⟨(some 79), .mov (.tmp 1), none⟩,
    ⟨(some 80), .slc 1 (.tmp 78) (some (.tmp 79)) none none, none⟩,
    ⟨(some 81), .mov (.tmp 2), none⟩,
    ⟨(some 82), .copy 1 (.tmp 80) (.tmp 81), none⟩])
  (.seq (.ops [⟨(some 83), .mov (.tmp 0), none⟩,
    ⟨(some 6), .mov (.tmp 83), none⟩])
  .ret)))
  .skip))
  (.seq (.ops [⟨(some 84), .mov (.tmp 0), none⟩,
    ⟨(some 85), .mov (.tmp 8), none⟩,
    ⟨(some 86), .slc 1 (.tmp 84) (some (.tmp 85)) none none, none⟩,
    ⟨(some 87), .mov (.tmp 2), none⟩,
    ⟨(some 88), .copy 1 (.tmp 86) (.tmp 87), none⟩])
  (.seq (.ops [⟨(some 89), .mov (.tmp 0), none⟩,
    ⟨(some 90), .mov (.tmp 1), none⟩,
    ⟨(some 91), .slc 1 (.tmp 89) (some (.tmp 90)) none none, none⟩,
    ⟨(some 92), .mov (.tmp 7), none⟩,
    ⟨(some 93), .call 85 [(.tmp 91), (.tmp 92)], none⟩])
  (.seq (.ops [⟨(some 94), .mov (.tmp 0), none⟩,
    ⟨(some 6), .mov (.tmp 94), none⟩])
  .ret))))))))))))
def a61 : AFunc := ⟨3, c61, [.tmp 6]⟩

/- 62: tendril/node.at -/
def c62l0 : ACode := (.seq (.ops [⟨(some 11), .bin .lss (.tmp 10) (.tmp 9), none⟩])
  (.seq (.cond (.tmp 11)
  .skip
  (.exit 0))
  (.seq (.block 1 (.seq (.ops [⟨(some 12), .mov (.tmp 10), none⟩,
    ⟨(some 13), .idxAddr 1 (.tmp 8) (.tmp 10), none⟩,
    ⟨(some 14), .load false 1 (.tmp 13), none⟩,
    ⟨(some 5), .mov (.tmp 12), none⟩,
    ⟨(some 6), .mov (.tmp 14), none⟩])
  (.seq (.ops [⟨(some 15), .mov (.tmp 6), none⟩,
    ⟨(some 16), .mov (.tmp 1), none⟩,
    ⟨(some 17), .bin .eql (.tmp 15) (.tmp 16), none⟩,
    ⟨(some 18), .mov (.tmp 17), none⟩,
    ⟨(some 19), .mov (.tmp 5), (some (18, true))⟩,
    ⟨(some 20), .fieldAddr 4 (.tmp 2), (some (18, true))⟩,
    ⟨(some 21), .load false 1 (.tmp 20), (some (18, true))⟩,
    ⟨(some 22), .lenSlice (.tmp 21), (some (18, true))⟩,
    ⟨(some 23), .bin .lss (.tmp 19) (.tmp 22), (some (18, true))⟩,
    ⟨(some 24), .pick (.tmp 18) (.tmp 23) (.con (.bool false)), none⟩])
  (.cond (.tmp 24)
  (.seq (.ops [⟨(some 25), .mov (.tmp 5), none⟩,
    ⟨(some 4), .mov (.tmp 25), none⟩])
  .ret)
  .skip))))
  (.ops [⟨(some 26), .bin .add (.tmp 10) (.con (.int .i64 1)), none⟩,
    ⟨(some 10), .mov (.tmp 26), none⟩]))))
def c62 : ACode := (.seq (.ops [⟨(some 2), .box (.tmp 0), none⟩,
    ⟨(some 4), .mov (.con (.int .i64 0)), none⟩])
  (.seq (.seq (.ops [⟨(some 7), .fieldAddr 3 (.tmp 2), none⟩,
    ⟨(some 8), .load false 1 (.tmp 7), none⟩,
    ⟨(some 9), .lenSlice (.tmp 8), none⟩,
    ⟨(some 10), .mov (.con (.int .i64 0)), none⟩])
  (.block 0 (.loop c62l0)))
  (.seq (.ops [⟨(some 4), .mov (.con (.int .i64 (-1))), none⟩])
  .ret)))
def a62 : AFunc := ⟨2, c62, [.tmp 4]⟩

/- 63: slices.Concat[[]byte,byte] -/
def c63l0 : ACode := (.seq (.ops [⟨(some 12), .bin .lss (.tmp 11) (.tmp 10), none⟩])
  (.seq (.cond (.tmp 12)
  .skip
  (.exit 0))
  (.seq (.block 1 (.seq (.ops [⟨(some 13), .idxAddr 1 (.tmp 9) (.tmp 11), none⟩,
    ⟨(some 14), .load false 1 (.tmp 13), none⟩,
    ⟨(some 5), .mov (.tmp 14), none⟩])
  (.seq (.ops [⟨(some 15), .mov (.tmp 3), none⟩,
    ⟨(some 16), .mov (.tmp 5), none⟩,
    ⟨(some 17), .lenSlice (.tmp 16), none⟩,
    ⟨(some 18), .bin .add (.tmp 15) (.tmp 17), none⟩,
    ⟨(some 3), .mov (.tmp 18), none⟩])
  (.seq (.ops [⟨(some 19), .mov (.tmp 3), none⟩,
    ⟨(some 20), .bin .lss (.tmp 19) (.con (.int .i64 0)), none⟩])
  (.cond (.tmp 20)
  (.ops [⟨(some 21), .mkIface 9 (.con (.str [108, 101, 110, 32, 111, 117, 116, 32, 111, 102, 32, 114, 97, 110, 103, 101])), none⟩,
    ⟨none, .stuck, none⟩])
  .skip)))))
  (.ops [⟨(some 22), .bin .add (.tmp 11) (.con (.int .i64 1)), none⟩,
    ⟨(some 11), .mov (.tmp 22), none⟩]))))
def c63l1 : ACode := (.seq (.ops [⟨(some 28), .bin .lss (.tmp 27) (.tmp 26), none⟩])
  (.seq (.cond (.tmp 28)
  .skip
  (.exit 2))
  (.seq (.block 3 (.seq (.ops [⟨(some 29), .idxAddr 1 (.tmp 25) (.tmp 27), none⟩,
    ⟨(some 30), .load false 1 (.tmp 29), none⟩,
    ⟨(some 8), .mov (.tmp 30), none⟩])
  (.ops [⟨(some 31), .mov (.tmp 6), none⟩,
    ⟨(some 32), .mov (.tmp 8), none⟩,
    ⟨(some 33), .append 1 1 (.tmp 31) (.tmp 32), none⟩,
    ⟨(some 6), .mov (.tmp 33), none⟩])))
  (.ops [⟨(some 34), .bin .add (.tmp 27) (.con (.int .i64 1)), none⟩,
    ⟨(some 27), .mov (.tmp 34), none⟩]))))
def c63 : ACode := (.seq (.ops [⟨(some 2), .mov (.con .nilSlice), none⟩])
  (.seq (.ops [⟨(some 3), .mov (.con (.int .i64 0)), none⟩])
  (.seq (.seq (.ops [⟨(some 9), .mov (.tmp 0), none⟩,
    ⟨(some 10), .lenSlice (.tmp 9), none⟩,
    ⟨(some 11), .mov (.con (.int .i64 0)), none⟩])
  (.block 0 (.loop c63l0)))
  (.seq (.ops [⟨(some 23), .mov (.tmp 3), none⟩,
    ⟨(some 24), .call 86 [(.con .nilSlice), (.tmp 23)], none⟩,
    ⟨(some 6), .mov (.tmp 24), none⟩])
  (.seq (.seq (.ops [⟨(some 25), .mov (.tmp 0), none⟩,
    ⟨(some 26), .lenSlice (.tmp 25), none⟩,
    ⟨(some 27), .mov (.con (.int .i64 0)), none⟩])
  (.block 2 (.loop c63l1)))
  (.seq (.ops [⟨(some 35), .mov (.tmp 6), none⟩,
    ⟨(some 2), .mov (.tmp 35), none⟩])
  .ret))))))
def a63 : AFunc := ⟨1, c63, [.tmp 2]⟩

/- 64: slices.Concat[[]int,int] -/
def c64l0 : ACode := (.seq (.ops [⟨(some 12), .bin .lss (.tmp 11) (.tmp 10), none⟩])
  (.seq (.cond (.tmp 12)
  .skip
  (.exit 0))
  (.seq (.block 1 (.seq (.ops [⟨(some 13), .idxAddr 1 (.tmp 9) (.tmp 11), none⟩,
    ⟨(some 14), .load false 1 (.tmp 13), none⟩,
    ⟨(some 5), .mov (.tmp 14), none⟩])
  (.seq (.ops [⟨(some 15), .mov (.tmp 3), none⟩,
    ⟨(some 16), .mov (.tmp 5), none⟩,
    ⟨(some 17), .lenSlice (.tmp 16), none⟩,
    ⟨(some 18), .bin .add (.tmp 15) (.tmp 17), none⟩,
    ⟨(some 3), .mov (.tmp 18), none⟩])
  (.seq (.ops [⟨(some 19), .mov (.tmp 3), none⟩,
    ⟨(some 20), .bin .lss (.tmp 19) (.con (.int .i64 0)), none⟩])
  (.cond (.tmp 20)
  (.ops [⟨(some 21), .mkIface 9 (.con (.str [108, 101, 110, 32, 111, 117, 116, 32, 111, 102, 32, 114, 97, 110, 103, 101])), none⟩,
    ⟨none, .stuck, none⟩])
  .skip)))))
  (.ops [⟨(some 22), .bin .add (.tmp 11) (.con (.int .i64 1)), none⟩,
    ⟨(some 11), .mov (.tmp 22), none⟩]))))
def c64l1 : ACode := (.seq (.ops [⟨(some 28), .bin .lss (.tmp 27) (.tmp 26), none⟩])
  (.seq (.cond (.tmp 28)
  .skip
  (.exit 2))
  (.seq (.block 3 (.seq (.ops [⟨(some 29), .idxAddr 1 (.tmp 25) (.tmp 27), none⟩,
    ⟨(some 30), .load false 1 (.tmp 29), none⟩,
    ⟨(some 8), .mov (.tmp 30), none⟩])
  (.ops [⟨(some 31), .mov (.tmp 6), none⟩,
    ⟨(some 32), .mov (.tmp 8), none⟩,
    ⟨(some 33), .append 1 8 (.tmp 31) (.tmp 32), none⟩,
    ⟨(some 6), .mov (.tmp 33), none⟩])))
  (.ops [⟨(some 34), .bin .add (.tmp 27) (.con (.int .i64 1)), none⟩,
    ⟨(some 27), .mov (.tmp 34), none⟩]))))
def c64 : ACode := (.seq (.ops [⟨(some 2), .mov (.con .nilSlice), none⟩])
  (.seq (.ops [⟨(some 3), .mov (.con (.int .i64 0)), none⟩])
  (.seq (.seq (.ops [⟨(some 9), .mov (.tmp 0), none⟩,
    ⟨(some 10), .lenSlice (.tmp 9), none⟩,
    ⟨(some 11), .mov (.con (.int .i64 0)), none⟩])
  (.block 0 (.loop c64l0)))
  (.seq (.ops [⟨(some 23), .mov (.tmp 3), none⟩,
    ⟨(some 24), .call 87 [(.con .nilSlice), (.tmp 23)], none⟩,
    ⟨(some 6), .mov (.tmp 24), none⟩])
  (.seq (.seq (.ops [⟨(some 25), .mov (.tmp 0), none⟩,
    ⟨(some 26), .lenSlice (.tmp 25), none⟩,
    ⟨(some 27), .mov (.con (.int .i64 0)), none⟩])
  (.block 2 (.loop c64l1)))
  (.seq (.ops [⟨(some 35), .mov (.tmp 6), none⟩,
    ⟨(some 2), .mov (.tmp 35), none⟩])
  .ret))))))
def a64 : AFunc := ⟨1, c64, [.tmp 2]⟩

/- 65: tendril/word.Dead -/
def c65 : ACode := (.seq (.ops [⟨(some 2), .mov (.con (.bool false)), none⟩])
  (.seq (.ops [⟨(some 3), .mov (.tmp 0), none⟩,
    ⟨(some 4), .bin .and (.tmp 3) (.con (.int .u64 2)), none⟩,
    ⟨(some 5), .bin .neq (.tmp 4) (.con (.int .u64 0)), none⟩,
    ⟨(some 2), .mov (.tmp 5), none⟩])
  .ret))
def a65 : AFunc := ⟨1, c65, [.tmp 2]⟩

/- 78: tendril/pack.Count -/
def c78 : ACode := (.seq (.ops [⟨(some 2), .mov (.con (.int .i64 0)), none⟩])
  (.seq (.seq (.ops [⟨(some 3), .mov (.tmp 0), none⟩,
    ⟨(some 4), .bin .leq (.tmp 3) (.con (.int .i64 0)), none⟩])
  (.cond (.tmp 4)
  (.seq (.ops [⟨(some 2), .mov (.con (.int .i64 0)), none⟩])
  .ret)
  .skip))
  (.seq (.ops [⟨(some 5), .mov (.tmp 0), none⟩,
    ⟨(some 6), .bin .sub (.tmp 5) (.con (.int .i64 1)), none⟩,
    ⟨(some 7), .bin .quo (.tmp 6) (.con (.int .i64 8)), none⟩,
    ⟨(some 8), .bin .add (.tmp 7) (.con (.int .i64 1)), none⟩,
    ⟨(some 2), .mov (.tmp 8), none⟩])
  .ret)))
def a78 : AFunc := ⟨1, c78, [.tmp 2]⟩

/- 79: tendril/word.Parts -/
def c79 : ACode := (.seq (.ops [⟨(some 2), .mov (.con (.int .i64 0)), none⟩,
    ⟨(some 3), .mov (.con (.int .i64 0)), none⟩,
    ⟨(some 4), .mov (.con (.bool false)), none⟩,
    ⟨(some 5), .mov (.con (.bool false)), none⟩])
  (.seq (.ops [⟨(some 6), .mov (.tmp 0), none⟩,
    ⟨(some 7), .bin .and (.tmp 6) (.con (.int .i64 65535)), none⟩,
    ⟨(some 8), .mov (.tmp 0), none⟩,
    ⟨(some 9), .bin .shr (.tmp 8) (.con (.int .u64 16)), none⟩,
    ⟨(some 10), .bin .and (.tmp 9) (.con (.int .i64 4294967295)), none⟩,
    ⟨(some 11), .mov (.tmp 0), none⟩,
    ⟨(some 12), .bin .and (.tmp 11) (.con (.int .i64 281474976710656)), none⟩,
    ⟨(some 13), .bin .neq (.tmp 12) (.con (.int .i64 0)), none⟩,
    ⟨(some 2), .mov (.tmp 7), none⟩,
    ⟨(some 3), .mov (.tmp 10), none⟩,
    ⟨(some 4), .mov (.tmp 13), none⟩])
  (.seq (.seq (.ops [⟨(some 14), .mov (.tmp 0), none⟩,
    ⟨(some 15), .bin .eql (.tmp 14) (.con (.int .i64 0)), none⟩,
    ⟨(some 16), .mov (.tmp 15), none⟩,
    ⟨(some 17), .mov (.tmp 2), (some (16, false))⟩,
    ⟨(some 18), .mov (.tmp 3), (some (16, false))⟩,
    ⟨(some 19), .mov (.tmp 4), (some (16, false))⟩,
    ⟨(some 20), .call 21 [(.tmp 17), (.tmp 18), (.tmp 19)], (some (16, false))⟩,
    ⟨(some 21), .mov (.tmp 0), (some (16, false))⟩,
    ⟨(some 22), .bin .neq (.tmp 20) (.tmp 21), (some (16, false))⟩,
    ⟨(some 23), .pick (.tmp 16) (.con (.bool true)) (.tmp 22), none⟩])
  (.cond (.tmp 23)
  (.seq (.ops [⟨(some 2), .mov (.con (.int .i64 0)), none⟩,
    ⟨(some 3), .mov (.con (.int .i64 0)), none⟩,
    ⟨(some 4), .mov (.con (.bool false)), none⟩,
    ⟨(some 5), .mov (.con (.bool false)), none⟩])
  .ret)
  .skip))
  (.seq (.ops [⟨(some 24), .mov (.tmp 2), none⟩,
    ⟨(some 25), .mov (.tmp 3), none⟩,
    ⟨(some 26), .mov (.tmp 4), none⟩,
    ⟨(some 2), .mov (.tmp 24), none⟩,
    ⟨(some 3), .mov (.tmp 25), none⟩,
    ⟨(some 4), .mov (.tmp 26), none⟩,
    ⟨(some 5), .mov (.con (.bool true)), none⟩])
  .ret))))
def a79 : AFunc := ⟨1, c79, [.tmp 2, .tmp 3, .tmp 4, .tmp 5]⟩

/- 80: cmp.Less[byte] -/
def c80 : ACode := (.seq (.ops [⟨(some 4), .mov (.con (.bool false)), none⟩])
  (.seq (.ops [⟨(some 5), .mov (.tmp 0), none⟩,
    ⟨(some 6), .call 92 [(.tmp 5)], none⟩,
    ⟨(some 7), .mov (.tmp 6), none⟩,
    ⟨(some 8), .mov (.tmp 1), (some (7, true))⟩,
    ⟨(some 9), .call 92 [(.tmp 8)], (some (7, true))⟩,
    ⟨(some 10), .un .not (.tmp 9), (some (7, true))⟩,
    ⟨(some 11), .pick (.tmp 7) (.tmp 10) (.con (.bool false)), none⟩,
    ⟨(some 12), .mov (.tmp 11), none⟩,
    ⟨(some 13), .mov (.tmp 0), (some (12, false))⟩,
    ⟨(some 14), .mov (.tmp 1), (some (12, false))⟩,
    ⟨(some 15), .bin .lss (.tmp 13) (.tmp 14), (some (12, false))⟩,
    ⟨(some 16), .pick (.tmp 12) (.con (.bool true)) (.tmp 15), none⟩,
    ⟨(some 4), .mov (.tmp 16), none⟩])
  .ret))
def a80 : AFunc := ⟨2, c80, [.tmp 4]⟩

/- 81: slices.isNaN[byte] -/
def c81 : ACode := (.seq (.ops [⟨(some 2), .mov (.con (.bool false)), none⟩])
  (.seq (.ops [⟨(some 3), .mov (.tmp 0), none⟩,
    ⟨(some 4), .mov (.tmp 0), none⟩,
    ⟨(some 5), .bin .neq (.tmp 3) (.tmp 4), none⟩,
    ⟨(some 2), .mov (.tmp 5), none⟩])
  .ret))
def a81 : AFunc := ⟨1, c81, [.tmp 2]⟩
/- 82 slices.overlaps[byte]: no body, not compiled -/

/- 83: slices.rotateRight[byte] -/
def c83 : ACode := (.ops [⟨(some 4), .mov (.tmp 0), none⟩,
    ⟨(some 5), .mov (.tmp 0), none⟩,
    ⟨(some 6), .lenSlice (.tmp 5), none⟩,
    ⟨(some 7), .mov (.tmp 1), none⟩,
    ⟨(some 8), .bin .sub (.tmp 6) (.tmp 7), none⟩,
    ⟨(some 9), .call 93 [(.tmp 4), (.tmp 8)], none⟩])
def a83 : AFunc := ⟨2, c83, []⟩
/- 84 slices.overlaps[int]: no body, not compiled -/

/- 85: slices.rotateRight[int] -/
def c85 : ACode := (.ops [⟨(some 4), .mov (.tmp 0), none⟩,
    ⟨(some 5), .mov (.tmp 0), none⟩,
    ⟨(some 6), .lenSlice (.tmp 5), none⟩,
    ⟨(some 7), .mov (.tmp 1), none⟩,
    ⟨(some 8), .bin .sub (.tmp 6) (.tmp 7), none⟩,
    ⟨(some 9), .call 94 [(.tmp 4), (.tmp 8)], none⟩])
def a85 : AFunc := ⟨2, c85, []⟩

/- 86: slices.Grow[[]byte,byte] -/
def c86 : ACode := (.seq (.ops [⟨(some 4), .mov (.con .nilSlice), none⟩])
  (.seq (.seq (.ops [⟨(some 5), .mov (.tmp 1), none⟩,
    ⟨(some 6), .bin .lss (.tmp 5) (.con (.int .i64 0)), none⟩])
  (.cond (.tmp 6)
  (.ops [⟨(some 7), .mkIface 9 (.con (.str [99, 97, 110, 110, 111, 116, 32, 98, 101, 32, 110, 101, 103, 97, 116, 105, 118, 101])), none⟩,
    ⟨none, .stuck, none⟩])
  .skip))
  (.seq (.seq (.ops [⟨(some 8), .mov (.tmp 1), none⟩,
    ⟨(some 9), .mov (.tmp 0), none⟩,
    ⟨(some 10), .capSlice (.tmp 9), none⟩,
    ⟨(some 11), .mov (.tmp 0), none⟩,
    ⟨(some 12), .lenSlice (.tmp 11), none⟩,
    ⟨(some 13), .bin .sub (.tmp 10) (.tmp 12), none⟩,
    ⟨(some 14), .bin .sub (.tmp 8) (.tmp 13), none⟩,
    ⟨(some 1), .mov (.tmp 14), none⟩])
  (.seq (.ops [⟨(some 15), .mov (.tmp 1), none⟩,
    ⟨(some 16), .bin .gtr (.tmp 15) (.con (.int .i64 0)), none⟩])
  (.cond (.tmp 16)
  (.ops [⟨(some 17), .mov (.tmp 0), none⟩,
    ⟨(some 18), .mov (.tmp 0), none⟩,
    ⟨(some 19), .capSlice (.tmp 18), none⟩,
    ⟨(some 20), .slc 1 (.tmp 17) none (some (.tmp 19)) none, none⟩,
    ⟨(some 21), .mov (.tmp 1), none⟩,
    ⟨(some 22), .appendZ 1 1 [(.int .u8 0)] (.tmp 20) (.tmp 21), none⟩,
    ⟨(some 23), .mov (.tmp 0), none⟩,
    ⟨(some 24), .lenSlice (.tmp 23), none⟩,
    ⟨(some 25), .slc 1 (.tmp 22) none (some (.tmp 24)) none, none⟩,
    ⟨(some 0), .mov (.tmp 25), none⟩])
  .skip)))
  (.seq (.ops [⟨(some 26), .mov (.tmp 0), none⟩,
    ⟨(some 4), .mov (.tmp 26), none⟩])
  .ret))))
def a86 : AFunc := ⟨2, c86, [.tmp 4]⟩

/- 87: slices.Grow[[]int,int] -/
def c87 : ACode := (.seq (.ops [⟨(some 4), .mov (.con .nilSlice), none⟩])
  (.seq (.seq (.ops [⟨(some 5), .mov (.tmp 1), none⟩,
    ⟨(some 6), .bin .lss (.tmp 5) (.con (.int .i64 0)), none⟩])
  (.cond (.tmp 6)
  (.ops [⟨(some 7), .mkIface 9 (.con (.str [99, 97, 110, 110, 111, 116, 32, 98, 101, 32, 110, 101, 103, 97, 116, 105, 118, 101])), none⟩,
    ⟨none, .stuck, none⟩])
  .skip))
  (.seq (.seq (.ops [⟨(some 8), .mov (.tmp 1), none⟩,
    ⟨(some 9), .mov (.tmp 0), none⟩,
    ⟨(some 10), .capSlice (.tmp 9), none⟩,
    ⟨(some 11), .mov (.tmp 0), none⟩,
    ⟨(some 12), .lenSlice (.tmp 11), none⟩,
    ⟨(some 13), .bin .sub (.tmp 10) (.tmp 12), none⟩,
    ⟨(some 14), .bin .sub (.tmp 8) (.tmp 13), none⟩,
    ⟨(some 1), .mov (.tmp 14), none⟩])
  (.seq (.ops [⟨(some 15), .mov (.tmp 1), none⟩,
    ⟨(some 16), .bin .gtr (.tmp 15) (.con (.int .i64 0)), none⟩])
  (.cond (.tmp 16)
  (.ops [⟨(some 17), .mov (.tmp 0), none⟩,
    ⟨(some 18), .mov (.tmp 0), none⟩,
    ⟨(some 19), .capSlice (.tmp 18), none⟩,
    ⟨(some 20), .slc 1 (.tmp 17) none (some (.tmp 19)) none, none⟩,
    ⟨(some 21), .mov (.tmp 1), none⟩,
    ⟨(some 22), .appendZ 1 8 [(.int .i64 0)] (.tmp 20) (.tmp 21), none⟩,
    ⟨(some 23), .mov (.tmp 0), none⟩,
    ⟨(some 24), .lenSlice (.tmp 23), none⟩,
    ⟨(some 25), .slc 1 (.tmp 22) none (some (.tmp 24)) none, none⟩,
    ⟨(some 0), .mov (.tmp 25), none⟩])
  .skip)))
  (.seq (.ops [⟨(some 26), .mov (.tmp 0), none⟩,
    ⟨(some 4), .mov (.tmp 26), none⟩])
  .ret))))
def a87 : AFunc := ⟨2, c87, [.tmp 4]⟩

/- 21: tendril/word.Ref -/
def c21 : ACode := (.seq (.ops [⟨(some 6), .mov (.con (.int .i64 0)), none⟩])
  (.seq (.seq (.ops [⟨(some 8), .mov (.tmp 0), none⟩,
    ⟨(some 9), .bin .lss (.tmp 8) (.con (.int .i64 0)), none⟩,
    ⟨(some 10), .mov (.tmp 9), none⟩,
    ⟨(some 11), .mov (.tmp 0), (some (10, false))⟩,
    ⟨(some 12), .bin .geq (.tmp 11) (.con (.int .i64 1024)), (some (10, false))⟩,
    ⟨(some 13), .pick (.tmp 10) (.con (.bool true)) (.tmp 12), none⟩,
    ⟨(some 14), .mov (.tmp 13), none⟩,
    ⟨(some 15), .mov (.tmp 1), (some (14, false))⟩,
    ⟨(some 16), .bin .lss (.tmp 15) (.con (.int .i64 1)), (some (14, false))⟩,
    ⟨(some 17), .pick (.tmp 14) (.con (.bool true)) (.tmp 16), none⟩,
    ⟨(some 18), .mov (.tmp 17), none⟩,
    ⟨(some 19), .mov (.tmp 1), (some (18, false))⟩,
    ⟨(some 20), .bin .gtr (.tmp 19) (.con (.int .i64 1073741824)), (some (18, false))⟩,
    ⟨(some 21), .pick (.tmp 18) (.con (.bool true)) (.tmp 20), none⟩])
  (.cond (.tmp 21)
  (.seq (.ops [⟨(some 6), .mov (.con (.int .i64 0)), none⟩])
  .ret)
  .skip))
  (.seq (.ops [⟨(some 22), .mov (.tmp 1), none⟩,
    ⟨(some 23), .bin .shl (.tmp 22) (.con (.int .u64 16)), none⟩,
    ⟨(some 24), .mov (.tmp 0), none⟩,
    ⟨(some 25), .bin .or (.tmp 23) (.tmp 24), none⟩,
    ⟨(some 7), .mov (.tmp 25), none⟩])
  (.seq (.seq (.ops [⟨(some 26), .mov (.tmp 2), none⟩])
  (.cond (.tmp 26)
  (.ops [⟨(some 27), .mov (.tmp 7), none⟩,
    ⟨(some 28), .bin .or (.tmp 27) (.con (.int .i64 281474976710656)), none⟩,
    ⟨(some 7), .mov (.tmp 28), none⟩])
  .skip))
  (.seq (.ops [⟨(some 29), .mov (.tmp 7), none⟩,
    ⟨(some 6), .mov (.tmp 29), none⟩])
  .ret)))))
def a21 : AFunc := ⟨3, c21, [.tmp 6]⟩

/- 92: cmp.isNaN[byte] -/
def c92 : ACode := (.seq (.ops [⟨(some 2), .mov (.con (.bool false)), none⟩])
  (.seq (.ops [⟨(some 3), .mov (.tmp 0), none⟩,
    ⟨(some 4), .mov (.tmp 0), none⟩,
    ⟨(some 5), .bin .neq (.tmp 3) (.tmp 4), none⟩,
    ⟨(some 2), .mov (.tmp 5), none⟩])
  .ret))
def a92 : AFunc := ⟨1, c92, [.tmp 2]⟩

/- 93: slices.rotateLeft[byte] -/
def c93 : ACode := (.seq (.ops [⟨(some 4), .mov (.tmp 0), none⟩,
    ⟨(some 5), .mov (.tmp 1), none⟩,
    ⟨(some 6), .slc 1 (.tmp 4) none (some (.tmp 5)) none, none⟩,
    ⟨(some 7), .call 97 [(.tmp 6)], none⟩])
  (.seq (.ops [⟨(some 8), .mov (.tmp 0), none⟩,
    ⟨(some 9), .mov (.tmp 1), none⟩,
    ⟨(some 10), .slc 1 (.tmp 8) (some (.tmp 9)) none none, none⟩,
    ⟨(some 11), .call 97 [(.tmp 10)], none⟩])
  (.ops [⟨(some 12), .mov (.tmp 0), none⟩,
    ⟨(some 13), .call 97 [(.tmp 12)], none⟩])))
def a93 : AFunc := ⟨2, c93, []⟩

/- 94: slices.rotateLeft[int] -/
def c94 : ACode := (.seq (.ops [⟨(some 4), .mov (.tmp 0), none⟩,
    ⟨(some 5), .mov (.tmp 1), none⟩,
    ⟨(some 6), .slc 1 (.tmp 4) none (some (.tmp 5)) none, none⟩,
    ⟨(some 7), .call 98 [(.tmp 6)], none⟩])
  (.seq (.ops [⟨(some 8), .mov (.tmp 0), none⟩,
    ⟨(some 9), .mov (.tmp 1), none⟩,
    ⟨(some 10), .slc 1 (.tmp 8) (some (.tmp 9)) none none, none⟩,
    ⟨(some 11), .call 98 [(.tmp 10)], none⟩])
  (.ops [⟨(some 12), .mov (.tmp 0), none⟩,
    ⟨(some 13), .call 98 [(.tmp 12)], none⟩])))
def a94 : AFunc := ⟨2, c94, []⟩

/- 97: slices.Reverse[[]byte,byte] -/
def c97l0 : ACode := (.seq (.seq (.ops [⟨(some 7), .mov (.tmp 2), none⟩,
    ⟨(some 8), .mov (.tmp 3), none⟩,
    ⟨(some 9), .bin .lss (.tmp 7) (.tmp 8), none⟩])
  (.cond (.tmp 9)
  .skip
  (.exit 0)))
  (.seq (.block 1 (.ops [⟨(some 14), .mov (.tmp 0), none⟩,
    ⟨(some 15), .mov (.tmp 2), none⟩,
    ⟨(some 16), .mov (.tmp 0), none⟩,
    ⟨(some 17), .mov (.tmp 3), none⟩,
    ⟨(some 18), .mov (.tmp 0), none⟩,
    ⟨(some 19), .mov (.tmp 3), none⟩,
    ⟨(some 20), .idxAddr 1 (.tmp 18) (.tmp 19), none⟩,
    ⟨(some 21), .load false 1 (.tmp 20), none⟩,
    ⟨(some 22), .mov (.tmp 0), none⟩,
    ⟨(some 23), .mov (.tmp 2), none⟩,
    ⟨(some 24), .idxAddr 1 (.tmp 22) (.tmp 23), none⟩,
    ⟨(some 25), .load false 1 (.tmp 24), none⟩,
    ⟨(some 26), .idxAddr 1 (.tmp 14) (.tmp 15), none⟩,
    ⟨none, .store 1 (.tmp 26) (.tmp 21), none⟩,
    ⟨(some 27), .idxAddr 1 (.tmp 16) (.tmp 17), none⟩,
    ⟨none, .store 1 (.tmp 27) (.tmp 25), none⟩]))
  (.ops [⟨(some 10), .mov (.tmp 2), none⟩,
    ⟨(some 11), .bin .add (.tmp 10) (.con (.int .i64 1)), none⟩,
    ⟨(some 12), .mov (.tmp 3), none⟩,
    ⟨(some 13), .bin .sub (.tmp 12) (.con (.int .i64 1)), none⟩,
    ⟨(some 2), .mov (.tmp 11), none⟩,
    ⟨(some 3), .mov (.tmp 13), none⟩])))
def c97 : ACode := (.seq (.ops [⟨(some 4), .mov (.tmp 0), none⟩,
    ⟨(some 5), .lenSlice (.tmp 4), none⟩,
    ⟨(some 6), .bin .sub (.tmp 5) (.con (.int .i64 1)), none⟩,
    ⟨(some 2), .mov (.con (.int .i64 0)), none⟩,
    ⟨(some 3), .mov (.tmp 6), none⟩])
  (.block 0 (.loop c97l0)))
def a97 : AFunc := ⟨1, c97, []⟩

/- 98: slices.Reverse[[]int,int] -/
def c98l0 : ACode := (.seq (.seq (.ops [⟨(some 7), .mov (.tmp 2), none⟩,
    ⟨(some 8), .mov (.tmp 3), none⟩,
    ⟨(some 9), .bin .lss (.tmp 7) (.tmp 8), none⟩])
  (.cond (.tmp 9)
  .skip
  (.exit 0)))
  (.seq (.block 1 (.ops [⟨(some 14), .mov (.tmp 0), none⟩,
    ⟨(some 15), .mov (.tmp 2), none⟩,
    ⟨(some 16), .mov (.tmp 0), none⟩,
    ⟨(some 17), .mov (.tmp 3), none⟩,
    ⟨(some 18), .mov (.tmp 0), none⟩,
    ⟨(some 19), .mov (.tmp 3), none⟩,
    ⟨(some 20), .idxAddr 1 (.tmp 18) (.tmp 19), none⟩,
    ⟨(some 21), .load false 1 (.tmp 20), none⟩,
    ⟨(some 22), .mov (.tmp 0), none⟩,
    ⟨(some 23), .mov (.tmp 2), none⟩,
    ⟨(some 24), .idxAddr 1 (.tmp 22) (.tmp 23), none⟩,
    ⟨(some 25), .load false 1 (.tmp 24), none⟩,
    ⟨(some 26), .idxAddr 1 (.tmp 14) (.tmp 15), none⟩,
    ⟨none, .store 1 (.tmp 26) (.tmp 21), none⟩,
    ⟨(some 27), .idxAddr 1 (.tmp 16) (.tmp 17), none⟩,
    ⟨none, .store 1 (.tmp 27) (.tmp 25), none⟩]))
  (.ops [⟨(some 10), .mov (.tmp 2), none⟩,
    ⟨(some 11), .bin .add (.tmp 10) (.con (.int .i64 1)), none⟩,
    ⟨(some 12), .mov (.tmp 3), none⟩,
    ⟨(some 13), .bin .sub (.tmp 12) (.con (.int .i64 1)), none⟩,
    ⟨(some 2), .mov (.tmp 11), none⟩,
    ⟨(some 3), .mov (.tmp 13), none⟩])))
def c98 : ACode := (.seq (.ops [⟨(some 4), .mov (.tmp 0), none⟩,
    ⟨(some 5), .lenSlice (.tmp 4), none⟩,
    ⟨(some 6), .bin .sub (.tmp 5) (.con (.int .i64 1)), none⟩,
    ⟨(some 2), .mov (.con (.int .i64 0)), none⟩,
    ⟨(some 3), .mov (.tmp 6), none⟩])
  (.block 0 (.loop c98l0)))
def a98 : AFunc := ⟨1, c98, []⟩

/- rows -/
def table : Nat → Option AFunc
  | 3 => some a3
  | 15 => some a15
  | 16 => some a16
  | 17 => some a17
  | 18 => some a18
  | 19 => some a19
  | 24 => some a24
  | 53 => some a53
  | 54 => some a54
  | 55 => some a55
  | 56 => some a56
  | 57 => some a57
  | 58 => some a58
  | 59 => some a59
  | 27 => some a27
  | 60 => some a60
  | 61 => some a61
  | 62 => some a62
  | 63 => some a63
  | 64 => some a64
  | 65 => some a65
  | 78 => some a78
  | 79 => some a79
  | 80 => some a80
  | 81 => some a81
  | 83 => some a83
  | 85 => some a85
  | 86 => some a86
  | 87 => some a87
  | 21 => some a21
  | 92 => some a92
  | 93 => some a93
  | 94 => some a94
  | 97 => some a97
  | 98 => some a98
  | _ => none
theorem k3 : cFunc Try.prog Try.f3 = some a3 := by kernel_rfl
theorem k15 : cFunc Try.prog Try.f15 = some a15 := by kernel_rfl
theorem k16 : cFunc Try.prog Try.f16 = some a16 := by kernel_rfl
theorem k17 : cFunc Try.prog Try.f17 = some a17 := by kernel_rfl
theorem k18 : cFunc Try.prog Try.f18 = some a18 := by kernel_rfl
theorem k19 : cFunc Try.prog Try.f19 = some a19 := by kernel_rfl
theorem k24 : cFunc Try.prog Try.f24 = some a24 := by kernel_rfl
theorem k53 : cFunc Try.prog Try.f53 = some a53 := by kernel_rfl
theorem k54 : cFunc Try.prog Try.f54 = some a54 := by kernel_rfl
theorem k55 : cFunc Try.prog Try.f55 = some a55 := by kernel_rfl
theorem k56 : cFunc Try.prog Try.f56 = some a56 := by kernel_rfl
theorem k57 : cFunc Try.prog Try.f57 = some a57 := by kernel_rfl
theorem k58 : cFunc Try.prog Try.f58 = some a58 := by kernel_rfl
theorem k59 : cFunc Try.prog Try.f59 = some a59 := by kernel_rfl
theorem k27 : cFunc Try.prog Try.f27 = some a27 := by kernel_rfl
theorem k60 : cFunc Try.prog Try.f60 = some a60 := by kernel_rfl
theorem k61 : cFunc Try.prog Try.f61 = some a61 := by kernel_rfl
theorem k62 : cFunc Try.prog Try.f62 = some a62 := by kernel_rfl
theorem k63 : cFunc Try.prog Try.f63 = some a63 := by kernel_rfl
theorem k64 : cFunc Try.prog Try.f64 = some a64 := by kernel_rfl
theorem k65 : cFunc Try.prog Try.f65 = some a65 := by kernel_rfl
theorem k78 : cFunc Try.prog Try.f78 = some a78 := by kernel_rfl
theorem k79 : cFunc Try.prog Try.f79 = some a79 := by kernel_rfl
theorem k80 : cFunc Try.prog Try.f80 = some a80 := by kernel_rfl
theorem k81 : cFunc Try.prog Try.f81 = some a81 := by kernel_rfl
theorem k83 : cFunc Try.prog Try.f83 = some a83 := by kernel_rfl
theorem k85 : cFunc Try.prog Try.f85 = some a85 := by kernel_rfl
theorem k86 : cFunc Try.prog Try.f86 = some a86 := by kernel_rfl
theorem k87 : cFunc Try.prog Try.f87 = some a87 := by kernel_rfl
theorem k21 : cFunc Try.prog Try.f21 = some a21 := by kernel_rfl
theorem k92 : cFunc Try.prog Try.f92 = some a92 := by kernel_rfl
theorem k93 : cFunc Try.prog Try.f93 = some a93 := by kernel_rfl
theorem k94 : cFunc Try.prog Try.f94 = some a94 := by kernel_rfl
theorem k97 : cFunc Try.prog Try.f97 = some a97 := by kernel_rfl
theorem k98 : cFunc Try.prog Try.f98 = some a98 := by kernel_rfl
theorem table_ok : ∀ g af, table g = some af → ∃ fn, Try.prog.funcs[g]? = some fn ∧ cFunc Try.prog fn = some af := by
  intro g af h
  unfold table at h
  split at h
  · cases h; exact ⟨Try.f3, Try.func3, k3⟩
  · cases h; exact ⟨Try.f15, Try.func15, k15⟩
  · cases h; exact ⟨Try.f16, Try.func16, k16⟩
  · cases h; exact ⟨Try.f17, Try.func17, k17⟩
  · cases h; exact ⟨Try.f18, Try.func18, k18⟩
  · cases h; exact ⟨Try.f19, Try.func19, k19⟩
  · cases h; exact ⟨Try.f24, Try.func24, k24⟩
  · cases h; exact ⟨Try.f53, Try.func53, k53⟩
  · cases h; exact ⟨Try.f54, Try.func54, k54⟩
  · cases h; exact ⟨Try.f55, Try.func55, k55⟩
  · cases h; exact ⟨Try.f56, Try.func56, k56⟩
  · cases h; exact ⟨Try.f57, Try.func57, k57⟩
  · cases h; exact ⟨Try.f58, Try.func58, k58⟩
  · cases h; exact ⟨Try.f59, Try.func59, k59⟩
  · cases h; exact ⟨Try.f27, Try.func27, k27⟩
  · cases h; exact ⟨Try.f60, Try.func60, k60⟩
  · cases h; exact ⟨Try.f61, Try.func61, k61⟩
  · cases h; exact ⟨Try.f62, Try.func62, k62⟩
  · cases h; exact ⟨Try.f63, Try.func63, k63⟩
  · cases h; exact ⟨Try.f64, Try.func64, k64⟩
  · cases h; exact ⟨Try.f65, Try.func65, k65⟩
  · cases h; exact ⟨Try.f78, Try.func78, k78⟩
  · cases h; exact ⟨Try.f79, Try.func79, k79⟩
  · cases h; exact ⟨Try.f80, Try.func80, k80⟩
  · cases h; exact ⟨Try.f81, Try.func81, k81⟩
  · cases h; exact ⟨Try.f83, Try.func83, k83⟩
  · cases h; exact ⟨Try.f85, Try.func85, k85⟩
  · cases h; exact ⟨Try.f86, Try.func86, k86⟩
  · cases h; exact ⟨Try.f87, Try.func87, k87⟩
  · cases h; exact ⟨Try.f21, Try.func21, k21⟩
  · cases h; exact ⟨Try.f92, Try.func92, k92⟩
  · cases h; exact ⟨Try.f93, Try.func93, k93⟩
  · cases h; exact ⟨Try.f94, Try.func94, k94⟩
  · cases h; exact ⟨Try.f97, Try.func97, k97⟩
  · cases h; exact ⟨Try.f98, Try.func98, k98⟩
  · cases h
end Go.Proofs.Ytpabmkicdcilpaa

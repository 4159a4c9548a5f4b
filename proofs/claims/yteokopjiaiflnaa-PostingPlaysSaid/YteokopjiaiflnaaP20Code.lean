/- The abstract code of the functions that the laws reach, as a program printed it; each is what the compiler makes of the given function. -/
import Derived.Test.YteokopjiaiflnaaVmZ
import Derived.Test.YteokopjiaiflnaaVmS
import Derived.Test.YteokopjiaiflnaaRows
namespace Go.Proofs.Yteokopjiaiflnaa
open Go.Vm
/- 3: tendril/tendrillaw20.PostingRuns -/
def c3 : ACode := (.seq (.ops [⟨(some 0), .mov (.con (.bool false)), none⟩])
  (.seq (.ops [⟨(some 8), .call 11 [(.con (.int .i64 0)), (.con (.int .i64 15))], none⟩,
    ⟨(some 9), .call 10 [(.tmp 8)], none⟩,
    ⟨(some 7), .mov (.tmp 9), none⟩,
    ⟨(some 10), .extract (.tmp 7) 0, none⟩,
    ⟨(some 11), .extract (.tmp 7) 1, none⟩,
    ⟨(some 1), .new [.nilSlice], none⟩,
    ⟨none, .store 1 (.tmp 1) (.tmp 10), none⟩,
    ⟨(some 2), .mov (.tmp 11), none⟩])
  (.seq (.ops [⟨(some 13), .load true 1 (.tmp 1), none⟩,
    ⟨(some 14), .call 12 [(.tmp 13), (.con (.int .i64 16))], none⟩,
    ⟨(some 12), .mov (.tmp 14), none⟩,
    ⟨(some 15), .extract (.tmp 12) 0, none⟩,
    ⟨(some 16), .extract (.tmp 12) 1, none⟩,
    ⟨(some 3), .new [.nilSlice], none⟩,
    ⟨none, .store 1 (.tmp 3) (.tmp 15), none⟩,
    ⟨(some 4), .mov (.tmp 16), none⟩])
  (.seq (.ops [⟨(some 18), .load true 1 (.tmp 3), none⟩,
    ⟨(some 19), .call 13 [(.tmp 18), (.con (.int .i64 0))], none⟩,
    ⟨(some 17), .mov (.tmp 19), none⟩,
    ⟨(some 20), .extract (.tmp 17) 0, none⟩,
    ⟨(some 21), .extract (.tmp 17) 1, none⟩,
    ⟨(some 5), .new [.nilSlice], none⟩,
    ⟨none, .store 1 (.tmp 5) (.tmp 20), none⟩,
    ⟨(some 6), .mov (.tmp 21), none⟩])
  (.seq (.draw [.op ⟨(some 22), .mov (.tmp 2), none⟩,
    .op ⟨(some 23), .bin .eql (.tmp 22) (.con (.int .i64 0)), none⟩,
    .op ⟨(some 24), .mov (.tmp 23), none⟩,
    .op ⟨(some 25), .mov (.tmp 4), (some (24, true))⟩,
    .op ⟨(some 26), .pick (.tmp 24) (.tmp 25) (.con (.bool false)), none⟩,
    .op ⟨(some 27), .mov (.tmp 26), none⟩,
    .op ⟨(some 28), .mov (.tmp 6), (some (27, true))⟩,
    .op ⟨(some 29), .pick (.tmp 27) (.tmp 28) (.con (.bool false)), none⟩,
    .op ⟨(some 30), .mov (.tmp 29), none⟩,
    .op ⟨(some 31), .load true 1 (.tmp 3), (some (30, true))⟩,
    .op ⟨(some 32), .call 11 [(.con (.int .i64 0)), (.con (.int .i64 8))], (some (30, true))⟩,
    .look ⟨(some 31), .load true 1 (.tmp 3), (some (30, true))⟩,
    .op ⟨(some 33), .call 11 [(.con (.int .i64 9)), (.con (.int .i64 16))], (some (30, true))⟩,
    .op ⟨(some 34), .buildSlice 1 2 [.nilSlice, .nilSlice] [(0, 1, (.tmp 32)), (1, 1, (.tmp 33))], (some (30, true))⟩,
    .look ⟨(some 31), .load true 1 (.tmp 3), (some (30, true))⟩,
    .look ⟨(some 34), .buildSlice 1 2 [.nilSlice, .nilSlice] [(0, 1, (.tmp 32)), (1, 1, (.tmp 33))], (some (30, true))⟩,
    .op ⟨(some 35), .call 14 [(.tmp 31), (.tmp 34)], (some (30, true))⟩,
    .op ⟨(some 36), .pick (.tmp 30) (.tmp 35) (.con (.bool false)), none⟩,
    .op ⟨(some 37), .mov (.tmp 36), none⟩,
    .op ⟨(some 38), .load true 1 (.tmp 5), (some (37, true))⟩,
    .op ⟨(some 39), .call 11 [(.con (.int .i64 1)), (.con (.int .i64 16))], (some (37, true))⟩,
    .op ⟨(some 40), .buildSlice 1 1 [.nilSlice] [(0, 1, (.tmp 39))], (some (37, true))⟩,
    .look ⟨(some 38), .load true 1 (.tmp 5), (some (37, true))⟩,
    .look ⟨(some 40), .buildSlice 1 1 [.nilSlice] [(0, 1, (.tmp 39))], (some (37, true))⟩,
    .op ⟨(some 41), .call 14 [(.tmp 38), (.tmp 40)], (some (37, true))⟩,
    .op ⟨(some 42), .pick (.tmp 37) (.tmp 41) (.con (.bool false)), none⟩,
    .op ⟨(some 43), .mov (.tmp 42), none⟩,
    .op ⟨(some 44), .load true 1 (.tmp 1), (some (43, true))⟩,
    .op ⟨(some 45), .call 15 [(.tmp 44)], (some (43, true))⟩,
    .op ⟨(some 46), .bin .eql (.tmp 45) (.con (.int .i64 16)), (some (43, true))⟩,
    .op ⟨(some 47), .pick (.tmp 43) (.tmp 46) (.con (.bool false)), none⟩,
    .op ⟨(some 0), .mov (.tmp 47), none⟩])
  .ret)))))
def a3 : AFunc := ⟨0, c3, [.tmp 0]⟩

/- 5: tendril/tendrillaw20.PostingStays -/
def c5l0 : ACode := (.seq (.seq (.ops [⟨(some 23), .mov (.tmp 6), none⟩,
    ⟨(some 24), .mov (.tmp 0), none⟩,
    ⟨(some 25), .lenSlice (.tmp 24), none⟩,
    ⟨(some 26), .bin .lss (.tmp 23) (.tmp 25), none⟩,
    ⟨(some 27), .mov (.tmp 26), none⟩,
    ⟨(some 28), .mov (.tmp 6), (some (27, true))⟩,
    ⟨(some 29), .bin .lss (.tmp 28) (.con (.int .i64 60)), (some (27, true))⟩,
    ⟨(some 30), .pick (.tmp 27) (.tmp 29) (.con (.bool false)), none⟩])
  (.cond (.tmp 30)
  .skip
  (.exit 0)))
  (.seq (.block 1 (.ops [⟨(some 33), .mov (.tmp 5), none⟩,
    ⟨(some 34), .mov (.tmp 6), none⟩,
    ⟨(some 35), .bin .mul (.con (.int .i64 3)) (.tmp 34), none⟩,
    ⟨(some 36), .mov (.tmp 0), none⟩,
    ⟨(some 37), .mov (.tmp 6), none⟩,
    ⟨(some 38), .idxAddr 1 (.tmp 36) (.tmp 37), none⟩,
    ⟨(some 39), .load false 1 (.tmp 38), none⟩,
    ⟨(some 40), .call 16 [(.tmp 39), (.con (.int .i64 0)), (.con (.int .i64 2))], none⟩,
    ⟨(some 41), .bin .add (.tmp 35) (.tmp 40), none⟩,
    ⟨(some 42), .buildSlice 1 1 [(.int .i64 0)] [(0, 1, (.tmp 41))], none⟩,
    ⟨(some 43), .append 1 8 (.tmp 33) (.tmp 42), none⟩,
    ⟨(some 5), .mov (.tmp 43), none⟩]))
  (.ops [⟨(some 31), .mov (.tmp 6), none⟩,
    ⟨(some 32), .bin .add (.tmp 31) (.con (.int .i64 1)), none⟩,
    ⟨(some 6), .mov (.tmp 32), none⟩])))
def c5l1 : ACode := (.seq (.ops [⟨(some 89), .bin .lss (.tmp 88) (.tmp 87), none⟩])
  (.seq (.cond (.tmp 89)
  .skip
  (.exit 6))
  (.seq (.block 7 (.seq (.ops [⟨(some 90), .mov (.tmp 88), none⟩,
    ⟨(some 17), .mov (.tmp 90), none⟩])
  (.ops [⟨(some 91), .mov (.tmp 16), none⟩,
    ⟨(some 92), .mov (.tmp 17), none⟩,
    ⟨(some 93), .idxAddr 1 (.tmp 91) (.tmp 92), none⟩,
    ⟨none, .store 1 (.tmp 93) (.con (.int .i64 (-1))), none⟩])))
  (.ops [⟨(some 94), .bin .add (.tmp 88) (.con (.int .i64 1)), none⟩,
    ⟨(some 88), .mov (.tmp 94), none⟩]))))
def c5l2 : ACode := (.seq (.ops [⟨(some 83), .bin .lss (.tmp 82) (.tmp 81), none⟩])
  (.seq (.cond (.tmp 83)
  .skip
  (.exit 4))
  (.seq (.block 5 (.seq (.ops [⟨(some 84), .idxAddr 1 (.tmp 80) (.tmp 82), none⟩,
    ⟨(some 85), .load false 1 (.tmp 84), none⟩,
    ⟨(some 16), .mov (.tmp 85), none⟩])
  (.seq (.ops [⟨(some 86), .mov (.tmp 16), none⟩,
    ⟨(some 87), .lenSlice (.tmp 86), none⟩,
    ⟨(some 88), .mov (.con (.int .i64 0)), none⟩])
  (.block 6 (.loop c5l1)))))
  (.ops [⟨(some 95), .bin .add (.tmp 82) (.con (.int .i64 1)), none⟩,
    ⟨(some 82), .mov (.tmp 95), none⟩]))))
def c5l3 : ACode := (.seq (.ops [⟨(some 106), .bin .lss (.tmp 105) (.tmp 104), none⟩])
  (.seq (.cond (.tmp 106)
  .skip
  (.exit 10))
  (.seq (.block 11 (.seq (.ops [⟨(some 107), .mov (.tmp 105), none⟩,
    ⟨(some 20), .mov (.tmp 107), none⟩])
  (.ops [⟨(some 108), .mov (.tmp 19), none⟩,
    ⟨(some 109), .mov (.tmp 20), none⟩,
    ⟨(some 110), .idxAddr 1 (.tmp 108) (.tmp 109), none⟩,
    ⟨none, .store 1 (.tmp 110) (.con (.int .i64 (-2))), none⟩])))
  (.ops [⟨(some 111), .bin .add (.tmp 105) (.con (.int .i64 1)), none⟩,
    ⟨(some 105), .mov (.tmp 111), none⟩]))))
def c5l4 : ACode := (.seq (.ops [⟨(some 100), .bin .lss (.tmp 99) (.tmp 98), none⟩])
  (.seq (.cond (.tmp 100)
  .skip
  (.exit 8))
  (.seq (.block 9 (.seq (.ops [⟨(some 101), .idxAddr 1 (.tmp 97) (.tmp 99), none⟩,
    ⟨(some 102), .load false 1 (.tmp 101), none⟩,
    ⟨(some 19), .mov (.tmp 102), none⟩])
  (.seq (.ops [⟨(some 103), .mov (.tmp 19), none⟩,
    ⟨(some 104), .lenSlice (.tmp 103), none⟩,
    ⟨(some 105), .mov (.con (.int .i64 0)), none⟩])
  (.block 10 (.loop c5l3)))))
  (.ops [⟨(some 112), .bin .add (.tmp 99) (.con (.int .i64 1)), none⟩,
    ⟨(some 99), .mov (.tmp 112), none⟩]))))
def c5l5 : ACode := (.seq (.ops [⟨(some 118), .bin .lss (.tmp 117) (.tmp 116), none⟩])
  (.seq (.cond (.tmp 118)
  .skip
  (.exit 12))
  (.seq (.block 13 (.seq (.ops [⟨(some 119), .mov (.tmp 117), none⟩,
    ⟨(some 22), .mov (.tmp 119), none⟩])
  (.ops [⟨(some 120), .mov (.tmp 21), none⟩,
    ⟨(some 121), .mov (.tmp 22), none⟩,
    ⟨(some 122), .idxAddr 1 (.tmp 120) (.tmp 121), none⟩,
    ⟨none, .store 1 (.tmp 122) (.con (.int .i64 (-3))), none⟩])))
  (.ops [⟨(some 123), .bin .add (.tmp 117) (.con (.int .i64 1)), none⟩,
    ⟨(some 117), .mov (.tmp 123), none⟩]))))
def c5l6 : ACode := (.seq (.seq (.ops [⟨(some 51), .mov (.tmp 9), none⟩,
    ⟨(some 52), .mov (.tmp 1), none⟩,
    ⟨(some 53), .lenSlice (.tmp 52), none⟩,
    ⟨(some 54), .bin .lss (.tmp 51) (.tmp 53), none⟩,
    ⟨(some 55), .mov (.tmp 54), none⟩,
    ⟨(some 56), .mov (.tmp 9), (some (55, true))⟩,
    ⟨(some 57), .bin .lss (.tmp 56) (.con (.int .i64 40)), (some (55, true))⟩,
    ⟨(some 58), .pick (.tmp 55) (.tmp 57) (.con (.bool false)), none⟩])
  (.cond (.tmp 58)
  .skip
  (.exit 2)))
  (.seq (.block 3 (.seq (.ops [⟨(some 61), .mov (.tmp 1), none⟩,
    ⟨(some 62), .mov (.tmp 9), none⟩,
    ⟨(some 63), .idxAddr 3 (.tmp 61) (.tmp 62), none⟩,
    ⟨(some 64), .fieldAddr 1 (.tmp 63), none⟩,
    ⟨(some 65), .load false 1 (.tmp 64), none⟩,
    ⟨(some 66), .call 16 [(.tmp 65), (.con (.int .i64 0)), (.con (.int .i64 200))], none⟩,
    ⟨(some 10), .mov (.tmp 66), none⟩])
  (.seq (.ops [⟨(some 68), .load true 1 (.tmp 7), none⟩,
    ⟨(some 69), .mov (.tmp 10), none⟩,
    ⟨(some 70), .call 12 [(.tmp 68), (.tmp 69)], none⟩,
    ⟨(some 67), .mov (.tmp 70), none⟩,
    ⟨(some 71), .extract (.tmp 67) 0, none⟩,
    ⟨(some 72), .extract (.tmp 67) 1, none⟩,
    ⟨(some 11), .new [.nilSlice], none⟩,
    ⟨none, .store 1 (.tmp 11) (.tmp 71), none⟩,
    ⟨(some 12), .mov (.tmp 72), none⟩])
  (.seq (.ops [⟨(some 74), .load true 1 (.tmp 7), none⟩,
    ⟨(some 75), .mov (.tmp 10), none⟩,
    ⟨(some 76), .call 13 [(.tmp 74), (.tmp 75)], none⟩,
    ⟨(some 73), .mov (.tmp 76), none⟩,
    ⟨(some 77), .extract (.tmp 73) 0, none⟩,
    ⟨(some 78), .extract (.tmp 73) 1, none⟩,
    ⟨(some 13), .new [.nilSlice], none⟩,
    ⟨none, .store 1 (.tmp 13) (.tmp 77), none⟩,
    ⟨(some 14), .mov (.tmp 78), none⟩])
  (.seq (.seq (.ops [⟨(some 79), .load true 1 (.tmp 11), none⟩,
    ⟨(some 80), .call 17 [(.tmp 79)], none⟩,
    ⟨(some 81), .lenSlice (.tmp 80), none⟩,
    ⟨(some 82), .mov (.con (.int .i64 0)), none⟩])
  (.block 4 (.loop c5l2)))
  (.seq (.seq (.ops [⟨(some 96), .load true 1 (.tmp 7), none⟩,
    ⟨(some 97), .call 17 [(.tmp 96)], none⟩,
    ⟨(some 98), .lenSlice (.tmp 97), none⟩,
    ⟨(some 99), .mov (.con (.int .i64 0)), none⟩])
  (.block 8 (.loop c5l4)))
  (.seq (.ops [⟨(some 113), .load true 1 (.tmp 13), none⟩,
    ⟨(some 114), .call 18 [(.tmp 113)], none⟩,
    ⟨(some 21), .mov (.tmp 114), none⟩])
  (.seq (.seq (.ops [⟨(some 115), .mov (.tmp 21), none⟩,
    ⟨(some 116), .lenSlice (.tmp 115), none⟩,
    ⟨(some 117), .mov (.con (.int .i64 0)), none⟩])
  (.block 12 (.loop c5l5)))
  (.seq (.ops [⟨(some 124), .load true 1 (.tmp 7), none⟩,
    ⟨(some 125), .call 18 [(.tmp 124)], none⟩,
    ⟨(some 126), .mov (.tmp 5), none⟩,
    ⟨(some 127), .call 19 [(.tmp 125), (.tmp 126)], none⟩,
    ⟨(some 128), .un .not (.tmp 127), none⟩])
  (.cond (.tmp 128)
  (.seq (.ops [⟨(some 4), .mov (.con (.bool false)), none⟩])
  .ret)
  .skip))))))))))
  (.ops [⟨(some 59), .mov (.tmp 9), none⟩,
    ⟨(some 60), .bin .add (.tmp 59) (.con (.int .i64 1)), none⟩,
    ⟨(some 9), .mov (.tmp 60), none⟩])))
def c5 : ACode := (.seq (.ops [⟨(some 4), .mov (.con (.bool false)), none⟩])
  (.seq (.ops [⟨(some 5), .mov (.con .nilSlice), none⟩])
  (.seq (.seq (.ops [⟨(some 6), .mov (.con (.int .i64 0)), none⟩])
  (.block 0 (.loop c5l0)))
  (.seq (.ops [⟨(some 45), .mov (.tmp 5), none⟩,
    ⟨(some 46), .call 10 [(.tmp 45)], none⟩,
    ⟨(some 44), .mov (.tmp 46), none⟩,
    ⟨(some 47), .extract (.tmp 44) 0, none⟩,
    ⟨(some 48), .extract (.tmp 44) 1, none⟩,
    ⟨(some 7), .new [.nilSlice], none⟩,
    ⟨none, .store 1 (.tmp 7) (.tmp 47), none⟩,
    ⟨(some 8), .mov (.tmp 48), none⟩])
  (.seq (.seq (.ops [⟨(some 49), .mov (.tmp 8), none⟩,
    ⟨(some 50), .bin .neq (.tmp 49) (.con (.int .i64 0)), none⟩])
  (.cond (.tmp 50)
  (.seq (.ops [⟨(some 4), .mov (.con (.bool false)), none⟩])
  .ret)
  .skip))
  (.seq (.seq (.ops [⟨(some 9), .mov (.con (.int .i64 0)), none⟩])
  (.block 2 (.loop c5l6)))
  (.seq (.ops [⟨(some 129), .call 3 [], none⟩,
    ⟨(some 4), .mov (.tmp 129), none⟩])
  .ret)))))))
def a5 : AFunc := ⟨2, c5, [.tmp 4]⟩

/- 6: tendril/tendrillaw20.PostingOf -/
def c6l0 : ACode := (.seq (.ops [⟨(some 18), .bin .lss (.tmp 17) (.tmp 16), none⟩])
  (.seq (.cond (.tmp 18)
  .skip
  (.exit 0))
  (.seq (.block 1 (.seq (.ops [⟨(some 19), .mov (.tmp 17), none⟩,
    ⟨(some 20), .idxAddr 1 (.tmp 15) (.tmp 17), none⟩,
    ⟨(some 21), .load false 1 (.tmp 20), none⟩,
    ⟨(some 4), .mov (.tmp 19), none⟩,
    ⟨(some 5), .mov (.tmp 21), none⟩])
  (.ops [⟨(some 22), .mov (.tmp 3), none⟩,
    ⟨(some 23), .mov (.tmp 22), none⟩,
    ⟨(some 24), .mov (.tmp 5), (some (23, true))⟩,
    ⟨(some 25), .bin .geq (.tmp 24) (.con (.int .i64 0)), (some (23, true))⟩,
    ⟨(some 26), .pick (.tmp 23) (.tmp 25) (.con (.bool false)), none⟩,
    ⟨(some 27), .mov (.tmp 26), none⟩,
    ⟨(some 28), .mov (.tmp 5), (some (27, true))⟩,
    ⟨(some 29), .bin .leq (.tmp 28) (.con (.int .i64 1073741824)), (some (27, true))⟩,
    ⟨(some 30), .pick (.tmp 27) (.tmp 29) (.con (.bool false)), none⟩,
    ⟨(some 31), .mov (.tmp 30), none⟩,
    ⟨(some 32), .mov (.tmp 4), (some (31, true))⟩,
    ⟨(some 33), .bin .eql (.tmp 32) (.con (.int .i64 0)), (some (31, true))⟩,
    ⟨(some 34), .mov (.tmp 33), (some (31, true))⟩,
    ⟨(some 35), .mov (.tmp 5), (some (34, false))⟩,
    ⟨(some 36), .mov (.tmp 0), (some (34, false))⟩,
    ⟨(some 37), .mov (.tmp 4), (some (34, false))⟩,
    ⟨(some 38), .bin .sub (.tmp 37) (.con (.int .i64 1)), (some (34, false))⟩,
    ⟨(some 39), .idxAddr 1 (.tmp 36) (.tmp 38), (some (34, false))⟩,
    ⟨(some 40), .load false 1 (.tmp 39), (some (34, false))⟩,
    ⟨(some 41), .bin .gtr (.tmp 35) (.tmp 40), (some (34, false))⟩,
    ⟨(some 42), .pick (.tmp 34) (.con (.bool true)) (.tmp 41), (some (31, true))⟩,
    ⟨(some 43), .pick (.tmp 31) (.tmp 42) (.con (.bool false)), none⟩,
    ⟨(some 3), .mov (.tmp 43), none⟩])))
  (.ops [⟨(some 44), .bin .add (.tmp 17) (.con (.int .i64 1)), none⟩,
    ⟨(some 17), .mov (.tmp 44), none⟩]))))
def c6l1 : ACode := (.seq (.ops [⟨(some 75), .bin .lss (.tmp 74) (.tmp 73), none⟩])
  (.seq (.cond (.tmp 75)
  .skip
  (.exit 2))
  (.seq (.block 3 (.seq (.ops [⟨(some 76), .mov (.tmp 74), none⟩,
    ⟨(some 9), .mov (.tmp 76), none⟩])
  (.seq (.ops [⟨(some 77), .mov (.tmp 8), none⟩,
    ⟨(some 78), .mov (.tmp 9), none⟩,
    ⟨(some 79), .idxAddr 1 (.tmp 77) (.tmp 78), none⟩,
    ⟨(some 80), .load false 1 (.tmp 79), none⟩,
    ⟨(some 81), .lenSlice (.tmp 80), none⟩,
    ⟨(some 82), .mov (.tmp 0), none⟩,
    ⟨(some 83), .lenSlice (.tmp 82), none⟩,
    ⟨(some 84), .mov (.tmp 9), none⟩,
    ⟨(some 85), .bin .mul (.tmp 84) (.con (.int .i64 16)), none⟩,
    ⟨(some 86), .bin .sub (.tmp 83) (.tmp 85), none⟩,
    ⟨(some 87), .mnx false [(.con (.int .i64 16)), (.tmp 86)], none⟩,
    ⟨(some 88), .bin .neq (.tmp 81) (.tmp 87), none⟩])
  (.cond (.tmp 88)
  (.seq (.ops [⟨(some 2), .mov (.con (.bool false)), none⟩])
  .ret)
  .skip))))
  (.ops [⟨(some 89), .bin .add (.tmp 74) (.con (.int .i64 1)), none⟩,
    ⟨(some 74), .mov (.tmp 89), none⟩]))))
def c6 : ACode := (.seq (.ops [⟨(some 2), .mov (.con (.bool false)), none⟩])
  (.seq (.seq (.ops [⟨(some 10), .mov (.tmp 0), none⟩,
    ⟨(some 11), .lenSlice (.tmp 10), none⟩,
    ⟨(some 12), .bin .gtr (.tmp 11) (.con (.int .i64 100)), none⟩])
  (.cond (.tmp 12)
  (.ops [⟨(some 13), .mov (.tmp 0), none⟩,
    ⟨(some 14), .slc 1 (.tmp 13) none (some (.con (.int .i64 100))) none, none⟩,
    ⟨(some 0), .mov (.tmp 14), none⟩])
  .skip))
  (.seq (.ops [⟨(some 3), .mov (.con (.bool true)), none⟩])
  (.seq (.seq (.ops [⟨(some 15), .mov (.tmp 0), none⟩,
    ⟨(some 16), .lenSlice (.tmp 15), none⟩,
    ⟨(some 17), .mov (.con (.int .i64 0)), none⟩])
  (.block 0 (.loop c6l0)))
  (.seq (.ops [⟨(some 46), .mov (.tmp 0), none⟩,
    ⟨(some 47), .call 10 [(.tmp 46)], none⟩,
    ⟨(some 45), .mov (.tmp 47), none⟩,
    ⟨(some 48), .extract (.tmp 45) 0, none⟩,
    ⟨(some 49), .extract (.tmp 45) 1, none⟩,
    ⟨(some 6), .new [.nilSlice], none⟩,
    ⟨none, .store 1 (.tmp 6) (.tmp 48), none⟩,
    ⟨(some 7), .mov (.tmp 49), none⟩])
  (.seq (.seq (.ops [⟨(some 50), .mov (.tmp 7), none⟩,
    ⟨(some 51), .bin .eql (.tmp 50) (.con (.int .i64 0)), none⟩,
    ⟨(some 52), .mov (.tmp 3), none⟩,
    ⟨(some 53), .eqB true (.tmp 51) (.tmp 52), none⟩,
    ⟨(some 54), .mov (.tmp 53), none⟩,
    ⟨(some 55), .mov (.tmp 3), (some (54, false))⟩,
    ⟨(some 56), .un .not (.tmp 55), (some (54, false))⟩,
    ⟨(some 57), .mov (.tmp 56), (some (54, false))⟩,
    ⟨(some 58), .mov (.tmp 7), (some (57, true))⟩,
    ⟨(some 59), .bin .neq (.tmp 58) (.con (.int .i64 8)), (some (57, true))⟩,
    ⟨(some 60), .mov (.tmp 59), (some (57, true))⟩,
    ⟨(some 61), .load true 1 (.tmp 6), (some (60, false))⟩,
    ⟨(some 62), .call 15 [(.tmp 61)], (some (60, false))⟩,
    ⟨(some 63), .bin .neq (.tmp 62) (.con (.int .i64 0)), (some (60, false))⟩,
    ⟨(some 64), .pick (.tmp 60) (.con (.bool true)) (.tmp 63), (some (57, true))⟩,
    ⟨(some 65), .pick (.tmp 57) (.tmp 64) (.con (.bool false)), (some (54, false))⟩,
    ⟨(some 66), .pick (.tmp 54) (.con (.bool true)) (.tmp 65), none⟩])
  (.cond (.tmp 66)
  (.seq (.ops [⟨(some 2), .mov (.con (.bool false)), none⟩])
  .ret)
  .skip))
  (.seq (.seq (.ops [⟨(some 67), .mov (.tmp 3), none⟩,
    ⟨(some 68), .un .not (.tmp 67), none⟩])
  (.cond (.tmp 68)
  (.seq (.ops [⟨(some 69), .call 3 [], none⟩,
    ⟨(some 2), .mov (.tmp 69), none⟩])
  .ret)
  .skip))
  (.seq (.ops [⟨(some 70), .load true 1 (.tmp 6), none⟩,
    ⟨(some 71), .call 17 [(.tmp 70)], none⟩,
    ⟨(some 8), .mov (.tmp 71), none⟩])
  (.seq (.seq (.ops [⟨(some 72), .mov (.tmp 8), none⟩,
    ⟨(some 73), .lenSlice (.tmp 72), none⟩,
    ⟨(some 74), .mov (.con (.int .i64 0)), none⟩])
  (.block 2 (.loop c6l1)))
  (.seq (.ops [⟨(some 90), .load true 1 (.tmp 6), none⟩,
    ⟨(some 91), .call 18 [(.tmp 90)], none⟩,
    ⟨(some 92), .mov (.tmp 0), none⟩,
    ⟨(some 93), .call 19 [(.tmp 91), (.tmp 92)], none⟩,
    ⟨(some 94), .mov (.tmp 93), none⟩,
    ⟨(some 95), .mov (.tmp 8), (some (94, true))⟩,
    ⟨(some 96), .lenSlice (.tmp 95), (some (94, true))⟩,
    ⟨(some 97), .mov (.tmp 0), (some (94, true))⟩,
    ⟨(some 98), .lenSlice (.tmp 97), (some (94, true))⟩,
    ⟨(some 99), .bin .add (.tmp 98) (.con (.int .i64 16)), (some (94, true))⟩,
    ⟨(some 100), .bin .sub (.tmp 99) (.con (.int .i64 1)), (some (94, true))⟩,
    ⟨(some 101), .bin .quo (.tmp 100) (.con (.int .i64 16)), (some (94, true))⟩,
    ⟨(some 102), .bin .eql (.tmp 96) (.tmp 101), (some (94, true))⟩,
    ⟨(some 103), .pick (.tmp 94) (.tmp 102) (.con (.bool false)), none⟩,
    ⟨(some 104), .mov (.tmp 103), none⟩,
    ⟨(some 105), .call 3 [], (some (104, true))⟩,
    ⟨(some 106), .pick (.tmp 104) (.tmp 105) (.con (.bool false)), none⟩,
    ⟨(some 2), .mov (.tmp 106), none⟩])
  .ret))))))))))
def a6 : AFunc := ⟨1, c6, [.tmp 2]⟩

/- 9: tendril/tendrillaw20.PostingPlays -/
def c9l0 : ACode := (.seq (.seq (.ops [⟨(some 67), .mov (.tmp 12), none⟩,
    ⟨(some 68), .mov (.tmp 1), none⟩,
    ⟨(some 69), .lenSlice (.tmp 68), none⟩,
    ⟨(some 70), .bin .lss (.tmp 67) (.tmp 69), none⟩,
    ⟨(some 71), .mov (.tmp 70), none⟩,
    ⟨(some 72), .mov (.tmp 12), (some (71, true))⟩,
    ⟨(some 73), .bin .lss (.tmp 72) (.con (.int .i64 60)), (some (71, true))⟩,
    ⟨(some 74), .pick (.tmp 71) (.tmp 73) (.con (.bool false)), none⟩])
  (.cond (.tmp 74)
  .skip
  (.exit 0)))
  (.seq (.block 1 (.seq (.ops [⟨(some 77), .mov (.tmp 10), none⟩,
    ⟨(some 78), .lenSlice (.tmp 77), none⟩,
    ⟨(some 79), .bin .sub (.tmp 78) (.con (.int .i64 1)), none⟩,
    ⟨(some 80), .mov (.tmp 1), none⟩,
    ⟨(some 81), .mov (.tmp 12), none⟩,
    ⟨(some 82), .idxAddr 3 (.tmp 80) (.tmp 81), none⟩,
    ⟨(some 83), .fieldAddr 2 (.tmp 82), none⟩,
    ⟨(some 84), .load false 1 (.tmp 83), none⟩,
    ⟨(some 85), .mov (.tmp 10), none⟩,
    ⟨(some 86), .lenSlice (.tmp 85), none⟩,
    ⟨(some 87), .bin .sub (.tmp 86) (.con (.int .i64 1)), none⟩,
    ⟨(some 88), .mnx false [(.tmp 87), (.con (.int .i64 5))], none⟩,
    ⟨(some 89), .call 16 [(.tmp 84), (.con (.int .i64 0)), (.tmp 88)], none⟩,
    ⟨(some 90), .bin .sub (.tmp 79) (.tmp 89), none⟩,
    ⟨(some 13), .mov (.tmp 90), none⟩])
  (.seq (.seq (.ops [⟨(some 91), .mov (.tmp 1), none⟩,
    ⟨(some 92), .mov (.tmp 12), none⟩,
    ⟨(some 93), .idxAddr 3 (.tmp 91) (.tmp 92), none⟩,
    ⟨(some 94), .fieldAddr 0 (.tmp 93), none⟩,
    ⟨(some 95), .load false 1 (.tmp 94), none⟩])
  (.block 2 (.seq (.ops [⟨(some 97), .bin .eql (.tmp 95) (.con (.int .i64 1)), none⟩,
    ⟨(some 96), .mov (.tmp 97), none⟩])
  (.cond (.tmp 96)
  (.seq (.draw [.op ⟨(some 99), .mov (.tmp 10), none⟩,
    .op ⟨(some 100), .mov (.tmp 13), none⟩,
    .op ⟨(some 101), .idxAddr 1 (.tmp 99) (.tmp 100), none⟩,
    .op ⟨(some 102), .load true 1 (.tmp 101), none⟩,
    .op ⟨(some 103), .mov (.tmp 1), none⟩,
    .op ⟨(some 104), .mov (.tmp 12), none⟩,
    .op ⟨(some 105), .idxAddr 3 (.tmp 103) (.tmp 104), none⟩,
    .op ⟨(some 106), .fieldAddr 1 (.tmp 105), none⟩,
    .op ⟨(some 107), .load false 1 (.tmp 106), none⟩,
    .op ⟨(some 14), .new [.nilSlice], none⟩,
    .look ⟨(some 102), .load true 1 (.tmp 101), none⟩,
    .look ⟨(some 107), .load false 1 (.tmp 106), none⟩,
    .look ⟨(some 14), .new [.nilSlice], none⟩,
    .op ⟨(some 108), .call 12 [(.tmp 102), (.tmp 107)], none⟩,
    .op ⟨(some 98), .mov (.tmp 108), none⟩,
    .op ⟨(some 109), .extract (.tmp 98) 0, none⟩,
    .op ⟨(some 110), .extract (.tmp 98) 1, none⟩,
    .look ⟨(some 14), .new [.nilSlice], none⟩,
    .op ⟨none, .store 1 (.tmp 14) (.tmp 109), none⟩,
    .op ⟨(some 15), .mov (.tmp 110), none⟩])
  (.seq (.ops [⟨(some 112), .mov (.tmp 11), none⟩,
    ⟨(some 113), .mov (.tmp 13), none⟩,
    ⟨(some 114), .idxAddr 1 (.tmp 112) (.tmp 113), none⟩,
    ⟨(some 115), .load false 1 (.tmp 114), none⟩,
    ⟨(some 116), .mov (.tmp 1), none⟩,
    ⟨(some 117), .mov (.tmp 12), none⟩,
    ⟨(some 118), .idxAddr 3 (.tmp 116) (.tmp 117), none⟩,
    ⟨(some 119), .fieldAddr 1 (.tmp 118), none⟩,
    ⟨(some 120), .load false 1 (.tmp 119), none⟩,
    ⟨(some 121), .call 25 [(.tmp 115), (.tmp 120)], none⟩,
    ⟨(some 111), .mov (.tmp 121), none⟩,
    ⟨(some 122), .extract (.tmp 111) 0, none⟩,
    ⟨(some 123), .extract (.tmp 111) 1, none⟩,
    ⟨(some 16), .mov (.tmp 122), none⟩,
    ⟨(some 17), .mov (.tmp 123), none⟩])
  (.seq (.seq (.ops [⟨(some 124), .mov (.tmp 15), none⟩,
    ⟨(some 125), .mov (.tmp 17), none⟩,
    ⟨(some 126), .eqB true (.tmp 124) (.tmp 125), none⟩])
  (.cond (.tmp 126)
  (.seq (.ops [⟨(some 4), .mov (.con (.bool false)), none⟩])
  .ret)
  .skip))
  (.ops [⟨(some 127), .mov (.tmp 10), none⟩,
    ⟨(some 128), .load true 1 (.tmp 14), none⟩,
    ⟨(some 129), .buildSlice 1 1 [.nilSlice] [(0, 1, (.tmp 128))], none⟩,
    ⟨(some 130), .append 1 24 (.tmp 127) (.tmp 129), none⟩,
    ⟨(some 131), .mov (.tmp 11), none⟩,
    ⟨(some 132), .mov (.tmp 16), none⟩,
    ⟨(some 133), .buildSlice 1 1 [.nilSlice] [(0, 1, (.tmp 132))], none⟩,
    ⟨(some 134), .append 1 24 (.tmp 131) (.tmp 133), none⟩,
    ⟨(some 10), .mov (.tmp 130), none⟩,
    ⟨(some 11), .mov (.tmp 134), none⟩]))))
  (.seq (.ops [⟨(some 136), .bin .eql (.tmp 95) (.con (.int .i64 2)), none⟩,
    ⟨(some 135), .mov (.tmp 136), none⟩])
  (.cond (.tmp 135)
  (.seq (.draw [.op ⟨(some 138), .mov (.tmp 10), none⟩,
    .op ⟨(some 139), .mov (.tmp 13), none⟩,
    .op ⟨(some 140), .idxAddr 1 (.tmp 138) (.tmp 139), none⟩,
    .op ⟨(some 141), .load true 1 (.tmp 140), none⟩,
    .op ⟨(some 142), .mov (.tmp 1), none⟩,
    .op ⟨(some 143), .mov (.tmp 12), none⟩,
    .op ⟨(some 144), .idxAddr 3 (.tmp 142) (.tmp 143), none⟩,
    .op ⟨(some 145), .fieldAddr 1 (.tmp 144), none⟩,
    .op ⟨(some 146), .load false 1 (.tmp 145), none⟩,
    .op ⟨(some 18), .new [.nilSlice], none⟩,
    .look ⟨(some 141), .load true 1 (.tmp 140), none⟩,
    .look ⟨(some 146), .load false 1 (.tmp 145), none⟩,
    .look ⟨(some 18), .new [.nilSlice], none⟩,
    .op ⟨(some 147), .call 13 [(.tmp 141), (.tmp 146)], none⟩,
    .op ⟨(some 137), .mov (.tmp 147), none⟩,
    .op ⟨(some 148), .extract (.tmp 137) 0, none⟩,
    .op ⟨(some 149), .extract (.tmp 137) 1, none⟩,
    .look ⟨(some 18), .new [.nilSlice], none⟩,
    .op ⟨none, .store 1 (.tmp 18) (.tmp 148), none⟩,
    .op ⟨(some 19), .mov (.tmp 149), none⟩])
  (.seq (.ops [⟨(some 151), .mov (.tmp 11), none⟩,
    ⟨(some 152), .mov (.tmp 13), none⟩,
    ⟨(some 153), .idxAddr 1 (.tmp 151) (.tmp 152), none⟩,
    ⟨(some 154), .load false 1 (.tmp 153), none⟩,
    ⟨(some 155), .mov (.tmp 1), none⟩,
    ⟨(some 156), .mov (.tmp 12), none⟩,
    ⟨(some 157), .idxAddr 3 (.tmp 155) (.tmp 156), none⟩,
    ⟨(some 158), .fieldAddr 1 (.tmp 157), none⟩,
    ⟨(some 159), .load false 1 (.tmp 158), none⟩,
    ⟨(some 160), .call 26 [(.tmp 154), (.tmp 159)], none⟩,
    ⟨(some 150), .mov (.tmp 160), none⟩,
    ⟨(some 161), .extract (.tmp 150) 0, none⟩,
    ⟨(some 162), .extract (.tmp 150) 1, none⟩,
    ⟨(some 20), .mov (.tmp 161), none⟩,
    ⟨(some 21), .mov (.tmp 162), none⟩])
  (.seq (.seq (.ops [⟨(some 163), .mov (.tmp 19), none⟩,
    ⟨(some 164), .mov (.tmp 21), none⟩,
    ⟨(some 165), .eqB true (.tmp 163) (.tmp 164), none⟩])
  (.cond (.tmp 165)
  (.seq (.ops [⟨(some 4), .mov (.con (.bool false)), none⟩])
  .ret)
  .skip))
  (.ops [⟨(some 166), .mov (.tmp 10), none⟩,
    ⟨(some 167), .load true 1 (.tmp 18), none⟩,
    ⟨(some 168), .buildSlice 1 1 [.nilSlice] [(0, 1, (.tmp 167))], none⟩,
    ⟨(some 169), .append 1 24 (.tmp 166) (.tmp 168), none⟩,
    ⟨(some 170), .mov (.tmp 11), none⟩,
    ⟨(some 171), .mov (.tmp 20), none⟩,
    ⟨(some 172), .buildSlice 1 1 [.nilSlice] [(0, 1, (.tmp 171))], none⟩,
    ⟨(some 173), .append 1 24 (.tmp 170) (.tmp 172), none⟩,
    ⟨(some 10), .mov (.tmp 169), none⟩,
    ⟨(some 11), .mov (.tmp 173), none⟩]))))
  .skip))))))
  (.seq (.ops [⟨(some 174), .mov (.tmp 11), none⟩,
    ⟨(some 175), .mov (.tmp 13), none⟩,
    ⟨(some 176), .idxAddr 1 (.tmp 174) (.tmp 175), none⟩,
    ⟨(some 177), .load false 1 (.tmp 176), none⟩,
    ⟨(some 178), .call 27 [(.tmp 177)], none⟩,
    ⟨(some 22), .mov (.tmp 178), none⟩])
  (.seq (.ops [⟨(some 180), .mov (.tmp 10), none⟩,
    ⟨(some 181), .mov (.tmp 13), none⟩,
    ⟨(some 182), .idxAddr 1 (.tmp 180) (.tmp 181), none⟩,
    ⟨(some 183), .load true 1 (.tmp 182), none⟩,
    ⟨(some 184), .mov (.tmp 1), none⟩,
    ⟨(some 185), .mov (.tmp 12), none⟩,
    ⟨(some 186), .idxAddr 3 (.tmp 184) (.tmp 185), none⟩,
    ⟨(some 187), .fieldAddr 1 (.tmp 186), none⟩,
    ⟨(some 188), .load false 1 (.tmp 187), none⟩,
    ⟨(some 189), .call 21 [(.tmp 183), (.tmp 188)], none⟩,
    ⟨(some 179), .mov (.tmp 189), none⟩,
    ⟨(some 190), .extract (.tmp 179) 0, none⟩,
    ⟨(some 191), .extract (.tmp 179) 1, none⟩,
    ⟨(some 23), .mov (.tmp 190), none⟩,
    ⟨(some 24), .mov (.tmp 191), none⟩])
  (.seq (.ops [⟨(some 193), .mov (.tmp 11), none⟩,
    ⟨(some 194), .mov (.tmp 13), none⟩,
    ⟨(some 195), .idxAddr 1 (.tmp 193) (.tmp 194), none⟩,
    ⟨(some 196), .load false 1 (.tmp 195), none⟩,
    ⟨(some 197), .mov (.tmp 1), none⟩,
    ⟨(some 198), .mov (.tmp 12), none⟩,
    ⟨(some 199), .idxAddr 3 (.tmp 197) (.tmp 198), none⟩,
    ⟨(some 200), .fieldAddr 1 (.tmp 199), none⟩,
    ⟨(some 201), .load false 1 (.tmp 200), none⟩,
    ⟨(some 202), .call 28 [(.tmp 196), (.tmp 201)], none⟩,
    ⟨(some 192), .mov (.tmp 202), none⟩,
    ⟨(some 203), .extract (.tmp 192) 0, none⟩,
    ⟨(some 204), .extract (.tmp 192) 1, none⟩,
    ⟨(some 25), .mov (.tmp 203), none⟩,
    ⟨(some 26), .mov (.tmp 204), none⟩])
  (.seq (.draw [.op ⟨(some 205), .mov (.tmp 10), none⟩,
    .op ⟨(some 206), .mov (.tmp 13), none⟩,
    .op ⟨(some 207), .idxAddr 1 (.tmp 205) (.tmp 206), none⟩,
    .op ⟨(some 208), .load true 1 (.tmp 207), none⟩,
    .op ⟨(some 209), .mov (.tmp 1), none⟩,
    .op ⟨(some 210), .mov (.tmp 12), none⟩,
    .op ⟨(some 211), .idxAddr 3 (.tmp 209) (.tmp 210), none⟩,
    .op ⟨(some 212), .fieldAddr 1 (.tmp 211), none⟩,
    .op ⟨(some 213), .load false 1 (.tmp 212), none⟩,
    .op ⟨(some 215), .mov (.tmp 22), none⟩,
    .op ⟨(some 216), .mov (.tmp 1), none⟩,
    .op ⟨(some 217), .mov (.tmp 12), none⟩,
    .op ⟨(some 218), .idxAddr 3 (.tmp 216) (.tmp 217), none⟩,
    .op ⟨(some 219), .fieldAddr 1 (.tmp 218), none⟩,
    .op ⟨(some 220), .load false 1 (.tmp 219), none⟩,
    .op ⟨(some 214), .call 20 [(.tmp 208), (.tmp 213)], none⟩,
    .look ⟨(some 220), .load false 1 (.tmp 219), none⟩,
    .op ⟨(some 221), .call 29 [(.tmp 215), (.tmp 220)], none⟩,
    .op ⟨(some 222), .eqB true (.tmp 214) (.tmp 221), none⟩,
    .op ⟨(some 223), .mov (.tmp 222), none⟩,
    .op ⟨(some 224), .mov (.tmp 23), (some (223, false))⟩,
    .op ⟨(some 225), .mov (.tmp 25), (some (223, false))⟩,
    .op ⟨(some 226), .bin .neq (.tmp 224) (.tmp 225), (some (223, false))⟩,
    .op ⟨(some 227), .pick (.tmp 223) (.con (.bool true)) (.tmp 226), none⟩,
    .op ⟨(some 228), .mov (.tmp 227), none⟩,
    .op ⟨(some 229), .mov (.tmp 24), (some (228, false))⟩,
    .op ⟨(some 230), .mov (.tmp 26), (some (228, false))⟩,
    .op ⟨(some 231), .eqB true (.tmp 229) (.tmp 230), (some (228, false))⟩,
    .op ⟨(some 232), .pick (.tmp 228) (.con (.bool true)) (.tmp 231), none⟩,
    .op ⟨(some 233), .mov (.tmp 232), none⟩,
    .op ⟨(some 234), .mov (.tmp 10), (some (233, false))⟩,
    .op ⟨(some 235), .mov (.tmp 13), (some (233, false))⟩,
    .op ⟨(some 236), .idxAddr 1 (.tmp 234) (.tmp 235), (some (233, false))⟩,
    .op ⟨(some 237), .load true 1 (.tmp 236), (some (233, false))⟩,
    .op ⟨(some 239), .mov (.tmp 22), (some (233, false))⟩,
    .op ⟨(some 240), .lenSlice (.tmp 239), (some (233, false))⟩,
    .op ⟨(some 238), .call 15 [(.tmp 237)], (some (233, false))⟩,
    .op ⟨(some 241), .bin .neq (.tmp 238) (.tmp 240), (some (233, false))⟩,
    .op ⟨(some 242), .pick (.tmp 233) (.con (.bool true)) (.tmp 241), none⟩,
    .op ⟨(some 243), .mov (.tmp 242), none⟩,
    .op ⟨(some 244), .mov (.tmp 10), (some (243, false))⟩,
    .op ⟨(some 245), .mov (.tmp 13), (some (243, false))⟩,
    .op ⟨(some 246), .idxAddr 1 (.tmp 244) (.tmp 245), (some (243, false))⟩,
    .op ⟨(some 247), .load true 1 (.tmp 246), (some (243, false))⟩,
    .op ⟨(some 249), .mov (.tmp 22), (some (243, false))⟩,
    .op ⟨(some 248), .call 18 [(.tmp 247)], (some (243, false))⟩,
    .op ⟨(some 250), .call 19 [(.tmp 248), (.tmp 249)], (some (243, false))⟩,
    .op ⟨(some 251), .un .not (.tmp 250), (some (243, false))⟩,
    .op ⟨(some 252), .pick (.tmp 243) (.con (.bool true)) (.tmp 251), none⟩,
    .op ⟨(some 253), .mov (.tmp 252), none⟩,
    .op ⟨(some 254), .mov (.tmp 10), (some (253, false))⟩,
    .op ⟨(some 255), .mov (.tmp 10), (some (253, false))⟩,
    .op ⟨(some 256), .lenSlice (.tmp 255), (some (253, false))⟩,
    .op ⟨(some 257), .bin .sub (.tmp 256) (.con (.int .i64 1)), (some (253, false))⟩,
    .op ⟨(some 258), .idxAddr 1 (.tmp 254) (.tmp 257), (some (253, false))⟩,
    .op ⟨(some 259), .load true 1 (.tmp 258), (some (253, false))⟩,
    .op ⟨(some 260), .mov (.tmp 11), (some (253, false))⟩,
    .op ⟨(some 261), .mov (.tmp 11), (some (253, false))⟩,
    .op ⟨(some 262), .lenSlice (.tmp 261), (some (253, false))⟩,
    .op ⟨(some 263), .bin .sub (.tmp 262) (.con (.int .i64 1)), (some (253, false))⟩,
    .op ⟨(some 264), .idxAddr 1 (.tmp 260) (.tmp 263), (some (253, false))⟩,
    .op ⟨(some 265), .load false 1 (.tmp 264), (some (253, false))⟩,
    .op ⟨(some 266), .call 14 [(.tmp 259), (.tmp 265)], (some (253, false))⟩,
    .op ⟨(some 267), .un .not (.tmp 266), (some (253, false))⟩,
    .op ⟨(some 268), .pick (.tmp 253) (.con (.bool true)) (.tmp 267), none⟩,
    .op ⟨(some 269), .mov (.tmp 268), none⟩,
    .op ⟨(some 270), .mov (.tmp 10), (some (269, false))⟩,
    .op ⟨(some 271), .mov (.tmp 13), (some (269, false))⟩,
    .op ⟨(some 272), .idxAddr 1 (.tmp 270) (.tmp 271), (some (269, false))⟩,
    .op ⟨(some 273), .load true 1 (.tmp 272), (some (269, false))⟩,
    .op ⟨(some 274), .mov (.tmp 11), (some (269, false))⟩,
    .op ⟨(some 275), .mov (.tmp 13), (some (269, false))⟩,
    .op ⟨(some 276), .idxAddr 1 (.tmp 274) (.tmp 275), (some (269, false))⟩,
    .op ⟨(some 277), .load false 1 (.tmp 276), (some (269, false))⟩,
    .op ⟨(some 278), .call 14 [(.tmp 273), (.tmp 277)], (some (269, false))⟩,
    .op ⟨(some 279), .un .not (.tmp 278), (some (269, false))⟩,
    .op ⟨(some 280), .pick (.tmp 269) (.con (.bool true)) (.tmp 279), none⟩])
  (.cond (.tmp 280)
  (.seq (.ops [⟨(some 4), .mov (.con (.bool false)), none⟩])
  .ret)
  .skip))))))))
  (.ops [⟨(some 75), .mov (.tmp 12), none⟩,
    ⟨(some 76), .bin .add (.tmp 75) (.con (.int .i64 1)), none⟩,
    ⟨(some 12), .mov (.tmp 76), none⟩])))
def c9l1 : ACode := (.seq (.ops [⟨(some 284), .bin .lss (.tmp 283) (.tmp 282), none⟩])
  (.seq (.cond (.tmp 284)
  .skip
  (.exit 3))
  (.seq (.block 4 (.seq (.ops [⟨(some 285), .mov (.tmp 283), none⟩,
    ⟨(some 27), .mov (.tmp 285), none⟩])
  (.seq (.ops [⟨(some 286), .mov (.tmp 10), none⟩,
    ⟨(some 287), .mov (.tmp 27), none⟩,
    ⟨(some 288), .idxAddr 1 (.tmp 286) (.tmp 287), none⟩,
    ⟨(some 289), .load true 1 (.tmp 288), none⟩,
    ⟨(some 290), .mov (.tmp 11), none⟩,
    ⟨(some 291), .mov (.tmp 27), none⟩,
    ⟨(some 292), .idxAddr 1 (.tmp 290) (.tmp 291), none⟩,
    ⟨(some 293), .load false 1 (.tmp 292), none⟩,
    ⟨(some 294), .call 14 [(.tmp 289), (.tmp 293)], none⟩,
    ⟨(some 295), .un .not (.tmp 294), none⟩])
  (.cond (.tmp 295)
  (.seq (.ops [⟨(some 4), .mov (.con (.bool false)), none⟩])
  .ret)
  .skip))))
  (.ops [⟨(some 296), .bin .add (.tmp 283) (.con (.int .i64 1)), none⟩,
    ⟨(some 283), .mov (.tmp 296), none⟩]))))
def c9 : ACode := (.seq (.ops [⟨(some 4), .mov (.con (.bool false)), none⟩])
  (.seq (.seq (.ops [⟨(some 28), .mov (.tmp 0), none⟩,
    ⟨(some 29), .lenSlice (.tmp 28), none⟩,
    ⟨(some 30), .bin .gtr (.tmp 29) (.con (.int .i64 100)), none⟩])
  (.cond (.tmp 30)
  (.ops [⟨(some 31), .mov (.tmp 0), none⟩,
    ⟨(some 32), .slc 1 (.tmp 31) none (some (.con (.int .i64 100))) none, none⟩,
    ⟨(some 0), .mov (.tmp 32), none⟩])
  .skip))
  (.seq (.ops [⟨(some 33), .mov (.tmp 0), none⟩,
    ⟨(some 34), .call 22 [(.tmp 33), (.con (.int .i64 (-4)))], none⟩,
    ⟨(some 5), .mov (.tmp 34), none⟩])
  (.seq (.ops [⟨(some 36), .mov (.tmp 5), none⟩,
    ⟨(some 37), .mov (.tmp 0), none⟩,
    ⟨(some 38), .lenSlice (.tmp 37), none⟩,
    ⟨(some 39), .slc 1 (.tmp 36) none (some (.tmp 38)) none, none⟩,
    ⟨(some 40), .call 10 [(.tmp 39)], none⟩,
    ⟨(some 35), .mov (.tmp 40), none⟩,
    ⟨(some 41), .extract (.tmp 35) 0, none⟩,
    ⟨(some 42), .extract (.tmp 35) 1, none⟩,
    ⟨(some 6), .new [.nilSlice], none⟩,
    ⟨none, .store 1 (.tmp 6) (.tmp 41), none⟩,
    ⟨(some 7), .mov (.tmp 42), none⟩])
  (.seq (.ops [⟨(some 44), .mov (.tmp 0), none⟩,
    ⟨(some 45), .call 23 [(.tmp 44)], none⟩,
    ⟨(some 43), .mov (.tmp 45), none⟩,
    ⟨(some 46), .extract (.tmp 43) 0, none⟩,
    ⟨(some 47), .extract (.tmp 43) 1, none⟩,
    ⟨(some 8), .mov (.tmp 46), none⟩,
    ⟨(some 9), .mov (.tmp 47), none⟩])
  (.seq (.seq (.ops [⟨(some 48), .mov (.tmp 7), none⟩,
    ⟨(some 49), .mov (.tmp 9), none⟩,
    ⟨(some 50), .bin .neq (.tmp 48) (.tmp 49), none⟩,
    ⟨(some 51), .mov (.tmp 50), none⟩,
    ⟨(some 52), .mov (.tmp 5), (some (51, false))⟩,
    ⟨(some 53), .mov (.tmp 0), (some (51, false))⟩,
    ⟨(some 54), .call 24 [(.tmp 52), (.tmp 53), (.con (.int .i64 (-4)))], (some (51, false))⟩,
    ⟨(some 55), .un .not (.tmp 54), (some (51, false))⟩,
    ⟨(some 56), .pick (.tmp 51) (.con (.bool true)) (.tmp 55), none⟩,
    ⟨(some 57), .mov (.tmp 56), none⟩,
    ⟨(some 58), .load true 1 (.tmp 6), (some (57, false))⟩,
    ⟨(some 59), .mov (.tmp 8), (some (57, false))⟩,
    ⟨(some 60), .call 14 [(.tmp 58), (.tmp 59)], (some (57, false))⟩,
    ⟨(some 61), .un .not (.tmp 60), (some (57, false))⟩,
    ⟨(some 62), .pick (.tmp 57) (.con (.bool true)) (.tmp 61), none⟩])
  (.cond (.tmp 62)
  (.seq (.ops [⟨(some 4), .mov (.con (.bool false)), none⟩])
  .ret)
  .skip))
  (.seq (.ops [⟨(some 63), .load true 1 (.tmp 6), none⟩,
    ⟨(some 64), .buildSlice 1 1 [.nilSlice] [(0, 1, (.tmp 63))], none⟩,
    ⟨(some 65), .mov (.tmp 8), none⟩,
    ⟨(some 66), .buildSlice 1 1 [.nilSlice] [(0, 1, (.tmp 65))], none⟩,
    ⟨(some 10), .mov (.tmp 64), none⟩,
    ⟨(some 11), .mov (.tmp 66), none⟩])
  (.seq (.seq (.ops [⟨(some 12), .mov (.con (.int .i64 0)), none⟩])
  (.block 0 (.loop c9l0)))
  (.seq (.seq (.ops [⟨(some 281), .mov (.tmp 10), none⟩,
    ⟨(some 282), .lenSlice (.tmp 281), none⟩,
    ⟨(some 283), .mov (.con (.int .i64 0)), none⟩])
  (.block 3 (.loop c9l1)))
  (.seq (.ops [⟨(some 297), .call 3 [], none⟩,
    ⟨(some 4), .mov (.tmp 297), none⟩])
  .ret))))))))))
def a9 : AFunc := ⟨2, c9, [.tmp 4]⟩

/- 11: tendril/tendrillaw20.upto -/
def c11l0 : ACode := (.seq (.seq (.ops [⟨(some 8), .mov (.tmp 6), none⟩,
    ⟨(some 9), .mov (.tmp 1), none⟩,
    ⟨(some 10), .bin .leq (.tmp 8) (.tmp 9), none⟩])
  (.cond (.tmp 10)
  .skip
  (.exit 0)))
  (.seq (.block 1 (.ops [⟨(some 13), .mov (.tmp 5), none⟩,
    ⟨(some 14), .mov (.tmp 6), none⟩,
    ⟨(some 15), .buildSlice 1 1 [(.int .i64 0)] [(0, 1, (.tmp 14))], none⟩,
    ⟨(some 16), .append 1 8 (.tmp 13) (.tmp 15), none⟩,
    ⟨(some 5), .mov (.tmp 16), none⟩]))
  (.ops [⟨(some 11), .mov (.tmp 6), none⟩,
    ⟨(some 12), .bin .add (.tmp 11) (.con (.int .i64 1)), none⟩,
    ⟨(some 6), .mov (.tmp 12), none⟩])))
def c11 : ACode := (.seq (.ops [⟨(some 4), .mov (.con .nilSlice), none⟩])
  (.seq (.ops [⟨(some 5), .mov (.con .nilSlice), none⟩])
  (.seq (.seq (.ops [⟨(some 7), .mov (.tmp 0), none⟩,
    ⟨(some 6), .mov (.tmp 7), none⟩])
  (.block 0 (.loop c11l0)))
  (.seq (.ops [⟨(some 17), .mov (.tmp 5), none⟩,
    ⟨(some 4), .mov (.tmp 17), none⟩])
  .ret))))
def a11 : AFunc := ⟨2, c11, [.tmp 4]⟩

/- 10: tendril/posting.Of -/
def c10l0 : ACode := (.seq (.ops [⟨(some 11), .bin .lss (.tmp 10) (.tmp 9), none⟩])
  (.seq (.cond (.tmp 11)
  .skip
  (.exit 0))
  (.seq (.block 1 (.seq (.ops [⟨(some 12), .mov (.tmp 10), none⟩,
    ⟨(some 13), .idxAddr 1 (.tmp 8) (.tmp 10), none⟩,
    ⟨(some 14), .load false 1 (.tmp 13), none⟩,
    ⟨(some 4), .mov (.tmp 12), none⟩,
    ⟨(some 5), .mov (.tmp 14), none⟩])
  (.seq (.ops [⟨(some 15), .mov (.tmp 5), none⟩,
    ⟨(some 16), .bin .lss (.tmp 15) (.con (.int .i64 0)), none⟩,
    ⟨(some 17), .mov (.tmp 16), none⟩,
    ⟨(some 18), .mov (.tmp 5), (some (17, false))⟩,
    ⟨(some 19), .bin .gtr (.tmp 18) (.con (.int .i64 1073741824)), (some (17, false))⟩,
    ⟨(some 20), .pick (.tmp 17) (.con (.bool true)) (.tmp 19), none⟩,
    ⟨(some 21), .mov (.tmp 20), none⟩,
    ⟨(some 22), .mov (.tmp 4), (some (21, false))⟩,
    ⟨(some 23), .bin .gtr (.tmp 22) (.con (.int .i64 0)), (some (21, false))⟩,
    ⟨(some 24), .mov (.tmp 23), (some (21, false))⟩,
    ⟨(some 25), .mov (.tmp 5), (some (24, true))⟩,
    ⟨(some 26), .mov (.tmp 0), (some (24, true))⟩,
    ⟨(some 27), .mov (.tmp 4), (some (24, true))⟩,
    ⟨(some 28), .bin .sub (.tmp 27) (.con (.int .i64 1)), (some (24, true))⟩,
    ⟨(some 29), .idxAddr 1 (.tmp 26) (.tmp 28), (some (24, true))⟩,
    ⟨(some 30), .load false 1 (.tmp 29), (some (24, true))⟩,
    ⟨(some 31), .bin .leq (.tmp 25) (.tmp 30), (some (24, true))⟩,
    ⟨(some 32), .pick (.tmp 24) (.tmp 31) (.con (.bool false)), (some (21, false))⟩,
    ⟨(some 33), .pick (.tmp 21) (.con (.bool true)) (.tmp 32), none⟩])
  (.cond (.tmp 33)
  (.seq (.ops [⟨(some 34), .build [.nilSlice] [], none⟩,
    ⟨none, .store 1 (.tmp 2) (.tmp 34), none⟩,
    ⟨(some 3), .mov (.con (.int .i64 8)), none⟩])
  .ret)
  .skip))))
  (.ops [⟨(some 35), .bin .add (.tmp 10) (.con (.int .i64 1)), none⟩,
    ⟨(some 10), .mov (.tmp 35), none⟩]))))
def r10 : RCode := (.seq (.base (.ops [⟨(some 2), .new [.nilSlice], none⟩,
    ⟨(some 3), .mov (.con (.int .i64 0)), none⟩]))
  (.seq (.base (.seq (.ops [⟨(some 8), .mov (.tmp 0), none⟩,
    ⟨(some 9), .lenSlice (.tmp 8), none⟩,
    ⟨(some 10), .mov (.con (.int .i64 0)), none⟩])
  (.block 0 (.loop c10l0))))
  (.seq (.base (.ops [⟨(some 6), .new [.nilSlice], none⟩]))
  (.seq (.seq (.base (.ops [⟨(some 36), .mov (.tmp 0), none⟩,
    ⟨(some 37), .call 30 [(.tmp 36), (.con (.int .i64 16))], none⟩]))
  (.block 2 (.range (.tmp 37) [38]
  (.ops [⟨(some 7), .mov (.tmp 38), none⟩])
  (.block 3 (.draw [.op ⟨(some 39), .fieldAddr 0 (.tmp 6), none⟩,
    .op ⟨(some 40), .load false 1 (.tmp 39), none⟩,
    .op ⟨(some 41), .mov (.tmp 7), none⟩,
    .op ⟨(some 42), .call 31 [(.tmp 41)], none⟩,
    .op ⟨(some 43), .buildSlice 1 1 [.nilSlice] [(0, 1, (.tmp 42))], none⟩,
    .look ⟨(some 40), .load false 1 (.tmp 39), none⟩,
    .look ⟨(some 43), .buildSlice 1 1 [.nilSlice] [(0, 1, (.tmp 42))], none⟩,
    .op ⟨(some 44), .append 1 24 (.tmp 40) (.tmp 43), none⟩,
    .op ⟨(some 45), .fieldAddr 0 (.tmp 6), none⟩,
    .op ⟨none, .store 1 (.tmp 45) (.tmp 44), none⟩])))))
  (.base (.seq (.ops [⟨(some 46), .load true 1 (.tmp 6), none⟩,
    ⟨none, .store 1 (.tmp 2) (.tmp 46), none⟩,
    ⟨(some 3), .mov (.con (.int .i64 0)), none⟩])
  .ret))))))
def rf10 : RFunc := ⟨1, r10, [.cell 2 true 1, .tmp 3]⟩
theorem kr10 : cRFunc Try.prog Try.f10 = some rf10 := by kernel_rfl

/- 12: (tendril/posting.List).Add -/
def c12 : ACode := (.seq (.ops [⟨(some 2), .box (.tmp 0), none⟩,
    ⟨(some 4), .new [.nilSlice], none⟩,
    ⟨(some 5), .mov (.con (.bool false)), none⟩])
  (.seq (.ops [⟨(some 12), .load true 1 (.tmp 2), none⟩,
    ⟨(some 13), .mov (.tmp 1), none⟩,
    ⟨(some 14), .call 32 [(.tmp 12), (.tmp 13)], none⟩,
    ⟨(some 11), .mov (.tmp 14), none⟩,
    ⟨(some 15), .extract (.tmp 11) 0, none⟩,
    ⟨(some 16), .extract (.tmp 11) 1, none⟩,
    ⟨(some 17), .extract (.tmp 11) 2, none⟩,
    ⟨(some 6), .mov (.tmp 15), none⟩,
    ⟨(some 7), .mov (.tmp 16), none⟩,
    ⟨(some 8), .mov (.tmp 17), none⟩])
  (.seq (.block 0 (.seq (.ops [⟨(some 19), .mov (.tmp 1), none⟩,
    ⟨(some 20), .bin .lss (.tmp 19) (.con (.int .i64 0)), none⟩,
    ⟨(some 21), .mov (.tmp 20), none⟩,
    ⟨(some 22), .mov (.tmp 1), (some (21, false))⟩,
    ⟨(some 23), .bin .gtr (.tmp 22) (.con (.int .i64 1073741824)), (some (21, false))⟩,
    ⟨(some 24), .pick (.tmp 21) (.con (.bool true)) (.tmp 23), none⟩,
    ⟨(some 25), .mov (.tmp 24), none⟩,
    ⟨(some 26), .mov (.tmp 8), (some (25, false))⟩,
    ⟨(some 27), .pick (.tmp 25) (.con (.bool true)) (.tmp 26), none⟩,
    ⟨(some 18), .mov (.tmp 27), none⟩])
  (.cond (.tmp 18)
  (.seq (.ops [⟨(some 28), .load true 1 (.tmp 2), none⟩,
    ⟨none, .store 1 (.tmp 4) (.tmp 28), none⟩,
    ⟨(some 5), .mov (.con (.bool false)), none⟩])
  .ret)
  (.seq (.ops [⟨(some 30), .fieldAddr 0 (.tmp 2), none⟩,
    ⟨(some 31), .load false 1 (.tmp 30), none⟩,
    ⟨(some 32), .lenSlice (.tmp 31), none⟩,
    ⟨(some 33), .bin .eql (.tmp 32) (.con (.int .i64 0)), none⟩,
    ⟨(some 29), .mov (.tmp 33), none⟩])
  (.cond (.tmp 29)
  (.seq (.ops [⟨(some 34), .mov (.tmp 1), none⟩,
    ⟨(some 35), .buildSlice 1 1 [(.int .i64 0)] [(0, 1, (.tmp 34))], none⟩,
    ⟨(some 36), .buildSlice 1 1 [.nilSlice] [(0, 1, (.tmp 35))], none⟩,
    ⟨(some 37), .build [.nilSlice] [(0, 1, (.tmp 36))], none⟩,
    ⟨none, .store 1 (.tmp 4) (.tmp 37), none⟩,
    ⟨(some 5), .mov (.con (.bool true)), none⟩])
  .ret)
  .skip)))))
  (.seq (.ops [⟨(some 38), .fieldAddr 0 (.tmp 2), none⟩,
    ⟨(some 39), .load false 1 (.tmp 38), none⟩,
    ⟨(some 40), .mov (.tmp 6), none⟩,
    ⟨(some 41), .idxAddr 1 (.tmp 39) (.tmp 40), none⟩,
    ⟨(some 42), .load false 1 (.tmp 41), none⟩,
    ⟨(some 43), .call 31 [(.tmp 42)], none⟩,
    ⟨(some 44), .mov (.tmp 7), none⟩,
    ⟨(some 45), .mov (.tmp 1), none⟩,
    ⟨(some 46), .buildSlice 1 1 [(.int .i64 0)] [(0, 1, (.tmp 45))], none⟩,
    ⟨(some 47), .call 33 [(.tmp 43), (.tmp 44), (.tmp 46)], none⟩,
    ⟨(some 9), .mov (.tmp 47), none⟩])
  (.seq (.seq (.ops [⟨(some 48), .mov (.tmp 9), none⟩,
    ⟨(some 49), .lenSlice (.tmp 48), none⟩,
    ⟨(some 50), .bin .leq (.tmp 49) (.con (.int .i64 16)), none⟩])
  (.cond (.tmp 50)
  (.seq (.ops [⟨(some 51), .load true 1 (.tmp 2), none⟩,
    ⟨(some 52), .mov (.tmp 6), none⟩,
    ⟨(some 53), .mov (.tmp 6), none⟩,
    ⟨(some 54), .bin .add (.tmp 53) (.con (.int .i64 1)), none⟩,
    ⟨(some 55), .mov (.tmp 9), none⟩,
    ⟨(some 56), .buildSlice 1 1 [.nilSlice] [(0, 1, (.tmp 55))], none⟩,
    ⟨(some 57), .call 34 [(.tmp 51), (.tmp 52), (.tmp 54), (.tmp 56)], none⟩,
    ⟨none, .store 1 (.tmp 4) (.tmp 57), none⟩,
    ⟨(some 5), .mov (.con (.bool true)), none⟩])
  .ret)
  .skip))
  (.seq (.ops [⟨(some 58), .mov (.tmp 9), none⟩,
    ⟨(some 59), .lenSlice (.tmp 58), none⟩,
    ⟨(some 60), .bin .add (.tmp 59) (.con (.int .i64 1)), none⟩,
    ⟨(some 61), .bin .quo (.tmp 60) (.con (.int .i64 2)), none⟩,
    ⟨(some 10), .mov (.tmp 61), none⟩])
  (.seq (.draw [.op ⟨(some 62), .load true 1 (.tmp 2), none⟩,
    .op ⟨(some 63), .mov (.tmp 6), none⟩,
    .op ⟨(some 64), .mov (.tmp 6), none⟩,
    .op ⟨(some 65), .bin .add (.tmp 64) (.con (.int .i64 1)), none⟩,
    .op ⟨(some 66), .mov (.tmp 9), none⟩,
    .op ⟨(some 67), .mov (.tmp 10), none⟩,
    .op ⟨(some 68), .slc 1 (.tmp 66) none (some (.tmp 67)) none, none⟩,
    .op ⟨(some 70), .mov (.tmp 9), none⟩,
    .op ⟨(some 71), .mov (.tmp 10), none⟩,
    .op ⟨(some 72), .slc 1 (.tmp 70) (some (.tmp 71)) none none, none⟩,
    .op ⟨(some 69), .call 31 [(.tmp 68)], none⟩,
    .look ⟨(some 62), .load true 1 (.tmp 2), none⟩,
    .op ⟨(some 73), .call 31 [(.tmp 72)], none⟩,
    .op ⟨(some 74), .buildSlice 1 2 [.nilSlice, .nilSlice] [(0, 1, (.tmp 69)), (1, 1, (.tmp 73))], none⟩,
    .look ⟨(some 62), .load true 1 (.tmp 2), none⟩,
    .look ⟨(some 74), .buildSlice 1 2 [.nilSlice, .nilSlice] [(0, 1, (.tmp 69)), (1, 1, (.tmp 73))], none⟩,
    .op ⟨(some 75), .call 34 [(.tmp 62), (.tmp 63), (.tmp 65), (.tmp 74)], none⟩,
    .op ⟨none, .store 1 (.tmp 4) (.tmp 75), none⟩,
    .op ⟨(some 5), .mov (.con (.bool true)), none⟩])
  .ret)))))))
def a12 : AFunc := ⟨2, c12, [.cell 4 true 1, .tmp 5]⟩

/- 13: (tendril/posting.List).Remove -/
def c13 : ACode := (.seq (.ops [⟨(some 2), .box (.tmp 0), none⟩,
    ⟨(some 4), .new [.nilSlice], none⟩,
    ⟨(some 5), .mov (.con (.bool false)), none⟩])
  (.seq (.ops [⟨(some 12), .load true 1 (.tmp 2), none⟩,
    ⟨(some 13), .mov (.tmp 1), none⟩,
    ⟨(some 14), .call 32 [(.tmp 12), (.tmp 13)], none⟩,
    ⟨(some 11), .mov (.tmp 14), none⟩,
    ⟨(some 15), .extract (.tmp 11) 0, none⟩,
    ⟨(some 16), .extract (.tmp 11) 1, none⟩,
    ⟨(some 17), .extract (.tmp 11) 2, none⟩,
    ⟨(some 6), .mov (.tmp 15), none⟩,
    ⟨(some 7), .mov (.tmp 16), none⟩,
    ⟨(some 8), .mov (.tmp 17), none⟩])
  (.seq (.seq (.ops [⟨(some 18), .mov (.tmp 8), none⟩,
    ⟨(some 19), .un .not (.tmp 18), none⟩])
  (.cond (.tmp 19)
  (.seq (.ops [⟨(some 20), .load true 1 (.tmp 2), none⟩,
    ⟨none, .store 1 (.tmp 4) (.tmp 20), none⟩,
    ⟨(some 5), .mov (.con (.bool false)), none⟩])
  .ret)
  .skip))
  (.seq (.ops [⟨(some 21), .fieldAddr 0 (.tmp 2), none⟩,
    ⟨(some 22), .load false 1 (.tmp 21), none⟩,
    ⟨(some 23), .mov (.tmp 6), none⟩,
    ⟨(some 24), .idxAddr 1 (.tmp 22) (.tmp 23), none⟩,
    ⟨(some 25), .load false 1 (.tmp 24), none⟩,
    ⟨(some 26), .call 31 [(.tmp 25)], none⟩,
    ⟨(some 27), .mov (.tmp 7), none⟩,
    ⟨(some 28), .mov (.tmp 7), none⟩,
    ⟨(some 29), .bin .add (.tmp 28) (.con (.int .i64 1)), none⟩,
    ⟨(some 30), .call 35 [(.tmp 26), (.tmp 27), (.tmp 29)], none⟩,
    ⟨(some 9), .mov (.tmp 30), none⟩])
  (.seq (.ops [⟨(some 31), .fieldAddr 0 (.tmp 2), none⟩,
    ⟨(some 32), .load false 1 (.tmp 31), none⟩,
    ⟨(some 33), .lenSlice (.tmp 32), none⟩,
    ⟨(some 34), .bin .sub (.tmp 33) (.con (.int .i64 1)), none⟩,
    ⟨(some 10), .mov (.tmp 34), none⟩])
  (.seq (.block 0 (.seq (.ops [⟨(some 36), .mov (.tmp 9), none⟩,
    ⟨(some 37), .lenSlice (.tmp 36), none⟩,
    ⟨(some 38), .bin .eql (.tmp 37) (.con (.int .i64 0)), none⟩,
    ⟨(some 35), .mov (.tmp 38), none⟩])
  (.cond (.tmp 35)
  (.seq (.ops [⟨(some 39), .load true 1 (.tmp 2), none⟩,
    ⟨(some 40), .mov (.tmp 6), none⟩,
    ⟨(some 41), .mov (.tmp 6), none⟩,
    ⟨(some 42), .bin .add (.tmp 41) (.con (.int .i64 1)), none⟩,
    ⟨(some 43), .call 34 [(.tmp 39), (.tmp 40), (.tmp 42), (.con .nilSlice)], none⟩,
    ⟨none, .store 1 (.tmp 4) (.tmp 43), none⟩,
    ⟨(some 5), .mov (.con (.bool true)), none⟩])
  .ret)
  (.seq (.ops [⟨(some 45), .mov (.tmp 6), none⟩,
    ⟨(some 46), .mov (.tmp 10), none⟩,
    ⟨(some 47), .bin .lss (.tmp 45) (.tmp 46), none⟩,
    ⟨(some 48), .mov (.tmp 47), none⟩,
    ⟨(some 49), .mov (.tmp 9), (some (48, true))⟩,
    ⟨(some 50), .lenSlice (.tmp 49), (some (48, true))⟩,
    ⟨(some 51), .fieldAddr 0 (.tmp 2), (some (48, true))⟩,
    ⟨(some 52), .load false 1 (.tmp 51), (some (48, true))⟩,
    ⟨(some 53), .mov (.tmp 6), (some (48, true))⟩,
    ⟨(some 54), .bin .add (.tmp 53) (.con (.int .i64 1)), (some (48, true))⟩,
    ⟨(some 55), .idxAddr 1 (.tmp 52) (.tmp 54), (some (48, true))⟩,
    ⟨(some 56), .load false 1 (.tmp 55), (some (48, true))⟩,
    ⟨(some 57), .lenSlice (.tmp 56), (some (48, true))⟩,
    ⟨(some 58), .bin .add (.tmp 50) (.tmp 57), (some (48, true))⟩,
    ⟨(some 59), .bin .leq (.tmp 58) (.con (.int .i64 16)), (some (48, true))⟩,
    ⟨(some 60), .pick (.tmp 48) (.tmp 59) (.con (.bool false)), none⟩,
    ⟨(some 44), .mov (.tmp 60), none⟩])
  (.cond (.tmp 44)
  (.seq (.draw [.op ⟨(some 61), .load true 1 (.tmp 2), none⟩,
    .op ⟨(some 62), .mov (.tmp 6), none⟩,
    .op ⟨(some 63), .mov (.tmp 6), none⟩,
    .op ⟨(some 64), .bin .add (.tmp 63) (.con (.int .i64 2)), none⟩,
    .op ⟨(some 65), .mov (.tmp 9), none⟩,
    .op ⟨(some 66), .fieldAddr 0 (.tmp 2), none⟩,
    .op ⟨(some 67), .load false 1 (.tmp 66), none⟩,
    .op ⟨(some 68), .mov (.tmp 6), none⟩,
    .op ⟨(some 69), .bin .add (.tmp 68) (.con (.int .i64 1)), none⟩,
    .op ⟨(some 70), .idxAddr 1 (.tmp 67) (.tmp 69), none⟩,
    .op ⟨(some 71), .load false 1 (.tmp 70), none⟩,
    .op ⟨(some 72), .buildSlice 1 2 [.nilSlice, .nilSlice] [(0, 1, (.tmp 65)), (1, 1, (.tmp 71))], none⟩,
    .look ⟨(some 61), .load true 1 (.tmp 2), none⟩,
    .look ⟨(some 67), .load false 1 (.tmp 66), none⟩,
    .look ⟨(some 71), .load false 1 (.tmp 70), none⟩,
    .look ⟨(some 72), .buildSlice 1 2 [.nilSlice, .nilSlice] [(0, 1, (.tmp 65)), (1, 1, (.tmp 71))], none⟩,
    .op ⟨(some 73), .call 36 [(.tmp 72)], none⟩,
    .op ⟨(some 74), .buildSlice 1 1 [.nilSlice] [(0, 1, (.tmp 73))], none⟩,
    .look ⟨(some 61), .load true 1 (.tmp 2), none⟩,
    .look ⟨(some 74), .buildSlice 1 1 [.nilSlice] [(0, 1, (.tmp 73))], none⟩,
    .op ⟨(some 75), .call 34 [(.tmp 61), (.tmp 62), (.tmp 64), (.tmp 74)], none⟩,
    .op ⟨none, .store 1 (.tmp 4) (.tmp 75), none⟩,
    .op ⟨(some 5), .mov (.con (.bool true)), none⟩])
  .ret)
  (.seq (.ops [⟨(some 77), .mov (.tmp 6), none⟩,
    ⟨(some 78), .mov (.tmp 10), none⟩,
    ⟨(some 79), .bin .eql (.tmp 77) (.tmp 78), none⟩,
    ⟨(some 80), .mov (.tmp 79), none⟩,
    ⟨(some 81), .mov (.tmp 6), (some (80, true))⟩,
    ⟨(some 82), .bin .gtr (.tmp 81) (.con (.int .i64 0)), (some (80, true))⟩,
    ⟨(some 83), .pick (.tmp 80) (.tmp 82) (.con (.bool false)), none⟩,
    ⟨(some 84), .mov (.tmp 83), none⟩,
    ⟨(some 85), .mov (.tmp 9), (some (84, true))⟩,
    ⟨(some 86), .lenSlice (.tmp 85), (some (84, true))⟩,
    ⟨(some 87), .fieldAddr 0 (.tmp 2), (some (84, true))⟩,
    ⟨(some 88), .load false 1 (.tmp 87), (some (84, true))⟩,
    ⟨(some 89), .mov (.tmp 6), (some (84, true))⟩,
    ⟨(some 90), .bin .sub (.tmp 89) (.con (.int .i64 1)), (some (84, true))⟩,
    ⟨(some 91), .idxAddr 1 (.tmp 88) (.tmp 90), (some (84, true))⟩,
    ⟨(some 92), .load false 1 (.tmp 91), (some (84, true))⟩,
    ⟨(some 93), .lenSlice (.tmp 92), (some (84, true))⟩,
    ⟨(some 94), .bin .add (.tmp 86) (.tmp 93), (some (84, true))⟩,
    ⟨(some 95), .bin .leq (.tmp 94) (.con (.int .i64 16)), (some (84, true))⟩,
    ⟨(some 96), .pick (.tmp 84) (.tmp 95) (.con (.bool false)), none⟩,
    ⟨(some 76), .mov (.tmp 96), none⟩])
  (.cond (.tmp 76)
  (.seq (.draw [.op ⟨(some 97), .load true 1 (.tmp 2), none⟩,
    .op ⟨(some 98), .mov (.tmp 6), none⟩,
    .op ⟨(some 99), .bin .sub (.tmp 98) (.con (.int .i64 1)), none⟩,
    .op ⟨(some 100), .mov (.tmp 6), none⟩,
    .op ⟨(some 101), .bin .add (.tmp 100) (.con (.int .i64 1)), none⟩,
    .op ⟨(some 102), .fieldAddr 0 (.tmp 2), none⟩,
    .op ⟨(some 103), .load false 1 (.tmp 102), none⟩,
    .op ⟨(some 104), .mov (.tmp 6), none⟩,
    .op ⟨(some 105), .bin .sub (.tmp 104) (.con (.int .i64 1)), none⟩,
    .op ⟨(some 106), .idxAddr 1 (.tmp 103) (.tmp 105), none⟩,
    .op ⟨(some 107), .load false 1 (.tmp 106), none⟩,
    .op ⟨(some 108), .mov (.tmp 9), none⟩,
    .op ⟨(some 109), .buildSlice 1 2 [.nilSlice, .nilSlice] [(0, 1, (.tmp 107)), (1, 1, (.tmp 108))], none⟩,
    .look ⟨(some 97), .load true 1 (.tmp 2), none⟩,
    .look ⟨(some 103), .load false 1 (.tmp 102), none⟩,
    .look ⟨(some 107), .load false 1 (.tmp 106), none⟩,
    .look ⟨(some 109), .buildSlice 1 2 [.nilSlice, .nilSlice] [(0, 1, (.tmp 107)), (1, 1, (.tmp 108))], none⟩,
    .op ⟨(some 110), .call 36 [(.tmp 109)], none⟩,
    .op ⟨(some 111), .buildSlice 1 1 [.nilSlice] [(0, 1, (.tmp 110))], none⟩,
    .look ⟨(some 97), .load true 1 (.tmp 2), none⟩,
    .look ⟨(some 111), .buildSlice 1 1 [.nilSlice] [(0, 1, (.tmp 110))], none⟩,
    .op ⟨(some 112), .call 34 [(.tmp 97), (.tmp 99), (.tmp 101), (.tmp 111)], none⟩,
    .op ⟨none, .store 1 (.tmp 4) (.tmp 112), none⟩,
    .op ⟨(some 5), .mov (.con (.bool true)), none⟩])
  .ret)
  .skip)))))))
  (.seq (.ops [⟨(some 113), .load true 1 (.tmp 2), none⟩,
    ⟨(some 114), .mov (.tmp 6), none⟩,
    ⟨(some 115), .mov (.tmp 6), none⟩,
    ⟨(some 116), .bin .add (.tmp 115) (.con (.int .i64 1)), none⟩,
    ⟨(some 117), .mov (.tmp 9), none⟩,
    ⟨(some 118), .buildSlice 1 1 [.nilSlice] [(0, 1, (.tmp 117))], none⟩,
    ⟨(some 119), .call 34 [(.tmp 113), (.tmp 114), (.tmp 116), (.tmp 118)], none⟩,
    ⟨none, .store 1 (.tmp 4) (.tmp 119), none⟩,
    ⟨(some 5), .mov (.con (.bool true)), none⟩])
  .ret)))))))
def a13 : AFunc := ⟨2, c13, [.cell 4 true 1, .tmp 5]⟩

/- 14: tendril/tendrillaw20.blocks -/
def c14l0 : ACode := (.seq (.ops [⟨(some 17), .bin .lss (.tmp 16) (.tmp 15), none⟩])
  (.seq (.cond (.tmp 17)
  .skip
  (.exit 0))
  (.seq (.block 1 (.seq (.ops [⟨(some 18), .mov (.tmp 16), none⟩,
    ⟨(some 6), .mov (.tmp 18), none⟩])
  (.seq (.ops [⟨(some 19), .mov (.tmp 5), none⟩,
    ⟨(some 20), .mov (.tmp 6), none⟩,
    ⟨(some 21), .idxAddr 1 (.tmp 19) (.tmp 20), none⟩,
    ⟨(some 22), .load false 1 (.tmp 21), none⟩,
    ⟨(some 23), .mov (.tmp 1), none⟩,
    ⟨(some 24), .mov (.tmp 6), none⟩,
    ⟨(some 25), .idxAddr 1 (.tmp 23) (.tmp 24), none⟩,
    ⟨(some 26), .load false 1 (.tmp 25), none⟩,
    ⟨(some 27), .call 19 [(.tmp 22), (.tmp 26)], none⟩,
    ⟨(some 28), .un .not (.tmp 27), none⟩])
  (.cond (.tmp 28)
  (.seq (.ops [⟨(some 4), .mov (.con (.bool false)), none⟩])
  .ret)
  .skip))))
  (.ops [⟨(some 29), .bin .add (.tmp 16) (.con (.int .i64 1)), none⟩,
    ⟨(some 16), .mov (.tmp 29), none⟩]))))
def c14 : ACode := (.seq (.ops [⟨(some 2), .box (.tmp 0), none⟩,
    ⟨(some 4), .mov (.con (.bool false)), none⟩])
  (.seq (.ops [⟨(some 7), .load true 1 (.tmp 2), none⟩,
    ⟨(some 8), .call 17 [(.tmp 7)], none⟩,
    ⟨(some 5), .mov (.tmp 8), none⟩])
  (.seq (.seq (.ops [⟨(some 9), .mov (.tmp 5), none⟩,
    ⟨(some 10), .lenSlice (.tmp 9), none⟩,
    ⟨(some 11), .mov (.tmp 1), none⟩,
    ⟨(some 12), .lenSlice (.tmp 11), none⟩,
    ⟨(some 13), .bin .neq (.tmp 10) (.tmp 12), none⟩])
  (.cond (.tmp 13)
  (.seq (.ops [⟨(some 4), .mov (.con (.bool false)), none⟩])
  .ret)
  .skip))
  (.seq (.seq (.ops [⟨(some 14), .mov (.tmp 5), none⟩,
    ⟨(some 15), .lenSlice (.tmp 14), none⟩,
    ⟨(some 16), .mov (.con (.int .i64 0)), none⟩])
  (.block 0 (.loop c14l0)))
  (.seq (.ops [⟨(some 4), .mov (.con (.bool true)), none⟩])
  .ret)))))
def a14 : AFunc := ⟨2, c14, [.tmp 4]⟩

/- 15: (tendril/posting.List).Len -/
def c15l0 : ACode := (.seq (.ops [⟨(some 10), .bin .lss (.tmp 9) (.tmp 8), none⟩])
  (.seq (.cond (.tmp 10)
  .skip
  (.exit 0))
  (.seq (.block 1 (.seq (.ops [⟨(some 11), .idxAddr 1 (.tmp 7) (.tmp 9), none⟩,
    ⟨(some 12), .load false 1 (.tmp 11), none⟩,
    ⟨(some 5), .mov (.tmp 12), none⟩])
  (.ops [⟨(some 13), .mov (.tmp 3), none⟩,
    ⟨(some 14), .mov (.tmp 5), none⟩,
    ⟨(some 15), .lenSlice (.tmp 14), none⟩,
    ⟨(some 16), .bin .add (.tmp 13) (.tmp 15), none⟩,
    ⟨(some 3), .mov (.tmp 16), none⟩])))
  (.ops [⟨(some 17), .bin .add (.tmp 9) (.con (.int .i64 1)), none⟩,
    ⟨(some 9), .mov (.tmp 17), none⟩]))))
def c15 : ACode := (.seq (.ops [⟨(some 1), .box (.tmp 0), none⟩,
    ⟨(some 2), .mov (.con (.int .i64 0)), none⟩])
  (.seq (.ops [⟨(some 3), .mov (.con (.int .i64 0)), none⟩])
  (.seq (.seq (.ops [⟨(some 6), .fieldAddr 0 (.tmp 1), none⟩,
    ⟨(some 7), .load false 1 (.tmp 6), none⟩,
    ⟨(some 8), .lenSlice (.tmp 7), none⟩,
    ⟨(some 9), .mov (.con (.int .i64 0)), none⟩])
  (.block 0 (.loop c15l0)))
  (.seq (.ops [⟨(some 18), .mov (.tmp 3), none⟩,
    ⟨(some 2), .mov (.tmp 18), none⟩])
  .ret))))
def a15 : AFunc := ⟨1, c15, [.tmp 2]⟩

/- 16: tendril/tendrilbook.Within -/
def c16 : ACode := (.seq (.ops [⟨(some 6), .mov (.con (.int .i64 0)), none⟩])
  (.seq (.ops [⟨(some 7), .mov (.tmp 0), none⟩,
    ⟨(some 8), .mov (.tmp 2), none⟩,
    ⟨(some 9), .mov (.tmp 1), none⟩,
    ⟨(some 10), .bin .sub (.tmp 8) (.tmp 9), none⟩,
    ⟨(some 11), .bin .add (.tmp 10) (.con (.int .i64 1)), none⟩,
    ⟨(some 12), .bin .rem (.tmp 7) (.tmp 11), none⟩,
    ⟨(some 0), .mov (.tmp 12), none⟩])
  (.seq (.seq (.ops [⟨(some 13), .mov (.tmp 0), none⟩,
    ⟨(some 14), .bin .lss (.tmp 13) (.con (.int .i64 0)), none⟩])
  (.cond (.tmp 14)
  (.ops [⟨(some 15), .mov (.tmp 0), none⟩,
    ⟨(some 16), .mov (.tmp 2), none⟩,
    ⟨(some 17), .bin .add (.tmp 15) (.tmp 16), none⟩,
    ⟨(some 18), .mov (.tmp 1), none⟩,
    ⟨(some 19), .bin .sub (.tmp 17) (.tmp 18), none⟩,
    ⟨(some 20), .bin .add (.tmp 19) (.con (.int .i64 1)), none⟩,
    ⟨(some 0), .mov (.tmp 20), none⟩])
  .skip))
  (.seq (.ops [⟨(some 21), .mov (.tmp 1), none⟩,
    ⟨(some 22), .mov (.tmp 0), none⟩,
    ⟨(some 23), .bin .add (.tmp 21) (.tmp 22), none⟩,
    ⟨(some 6), .mov (.tmp 23), none⟩])
  .ret))))
def a16 : AFunc := ⟨3, c16, [.tmp 6]⟩

/- 17: (tendril/posting.List).Blocks -/
def c17l0 : ACode := (.seq (.ops [⟨(some 10), .bin .lss (.tmp 9) (.tmp 8), none⟩])
  (.seq (.cond (.tmp 10)
  .skip
  (.exit 0))
  (.seq (.block 1 (.seq (.ops [⟨(some 11), .idxAddr 1 (.tmp 7) (.tmp 9), none⟩,
    ⟨(some 12), .load false 1 (.tmp 11), none⟩,
    ⟨(some 5), .mov (.tmp 12), none⟩])
  (.ops [⟨(some 13), .mov (.tmp 3), none⟩,
    ⟨(some 14), .mov (.tmp 5), none⟩,
    ⟨(some 15), .call 31 [(.tmp 14)], none⟩,
    ⟨(some 16), .buildSlice 1 1 [.nilSlice] [(0, 1, (.tmp 15))], none⟩,
    ⟨(some 17), .append 1 24 (.tmp 13) (.tmp 16), none⟩,
    ⟨(some 3), .mov (.tmp 17), none⟩])))
  (.ops [⟨(some 18), .bin .add (.tmp 9) (.con (.int .i64 1)), none⟩,
    ⟨(some 9), .mov (.tmp 18), none⟩]))))
def c17 : ACode := (.seq (.ops [⟨(some 1), .box (.tmp 0), none⟩,
    ⟨(some 2), .mov (.con .nilSlice), none⟩])
  (.seq (.ops [⟨(some 3), .mov (.con .nilSlice), none⟩])
  (.seq (.seq (.ops [⟨(some 6), .fieldAddr 0 (.tmp 1), none⟩,
    ⟨(some 7), .load false 1 (.tmp 6), none⟩,
    ⟨(some 8), .lenSlice (.tmp 7), none⟩,
    ⟨(some 9), .mov (.con (.int .i64 0)), none⟩])
  (.block 0 (.loop c17l0)))
  (.seq (.ops [⟨(some 19), .mov (.tmp 3), none⟩,
    ⟨(some 2), .mov (.tmp 19), none⟩])
  .ret))))
def a17 : AFunc := ⟨1, c17, [.tmp 2]⟩

/- 18: (tendril/posting.List).Ids -/
def c18 : ACode := (.seq (.ops [⟨(some 1), .box (.tmp 0), none⟩,
    ⟨(some 2), .mov (.con .nilSlice), none⟩])
  (.seq (.ops [⟨(some 3), .fieldAddr 0 (.tmp 1), none⟩,
    ⟨(some 4), .load false 1 (.tmp 3), none⟩,
    ⟨(some 5), .call 36 [(.tmp 4)], none⟩,
    ⟨(some 2), .mov (.tmp 5), none⟩])
  .ret))
def a18 : AFunc := ⟨1, c18, [.tmp 2]⟩

/- 19: tendril/tendrilbook.Same[int] -/
def c19l0 : ACode := (.seq (.seq (.ops [⟨(some 11), .mov (.tmp 5), none⟩,
    ⟨(some 12), .mov (.tmp 0), none⟩,
    ⟨(some 13), .lenSlice (.tmp 12), none⟩,
    ⟨(some 14), .bin .lss (.tmp 11) (.tmp 13), none⟩])
  (.cond (.tmp 14)
  .skip
  (.exit 0)))
  (.seq (.block 1 (.seq (.ops [⟨(some 17), .mov (.tmp 0), none⟩,
    ⟨(some 18), .mov (.tmp 5), none⟩,
    ⟨(some 19), .idxAddr 1 (.tmp 17) (.tmp 18), none⟩,
    ⟨(some 20), .load false 1 (.tmp 19), none⟩,
    ⟨(some 21), .mov (.tmp 1), none⟩,
    ⟨(some 22), .mov (.tmp 5), none⟩,
    ⟨(some 23), .idxAddr 1 (.tmp 21) (.tmp 22), none⟩,
    ⟨(some 24), .load false 1 (.tmp 23), none⟩,
    ⟨(some 25), .bin .neq (.tmp 20) (.tmp 24), none⟩])
  (.cond (.tmp 25)
  (.seq (.ops [⟨(some 4), .mov (.con (.bool false)), none⟩])
  .ret)
  .skip)))
  (.ops [⟨(some 15), .mov (.tmp 5), none⟩,
    ⟨(some 16), .bin .add (.tmp 15) (.con (.int .i64 1)), none⟩,
    ⟨(some 5), .mov (.tmp 16), none⟩])))
def c19 : ACode := (.seq (.ops [⟨(some 4), .mov (.con (.bool false)), none⟩])
  (.seq (.seq (.ops [⟨(some 6), .mov (.tmp 0), none⟩,
    ⟨(some 7), .lenSlice (.tmp 6), none⟩,
    ⟨(some 8), .mov (.tmp 1), none⟩,
    ⟨(some 9), .lenSlice (.tmp 8), none⟩,
    ⟨(some 10), .bin .neq (.tmp 7) (.tmp 9), none⟩])
  (.cond (.tmp 10)
  (.seq (.ops [⟨(some 4), .mov (.con (.bool false)), none⟩])
  .ret)
  .skip))
  (.seq (.seq (.ops [⟨(some 5), .mov (.con (.int .i64 0)), none⟩])
  (.block 0 (.loop c19l0)))
  (.seq (.ops [⟨(some 4), .mov (.con (.bool true)), none⟩])
  .ret))))
def a19 : AFunc := ⟨2, c19, [.tmp 4]⟩

/- 20: (tendril/posting.List).Has -/
def c20 : ACode := (.seq (.ops [⟨(some 2), .box (.tmp 0), none⟩,
    ⟨(some 4), .mov (.con (.bool false)), none⟩])
  (.seq (.ops [⟨(some 9), .load true 1 (.tmp 2), none⟩,
    ⟨(some 10), .mov (.tmp 1), none⟩,
    ⟨(some 11), .call 32 [(.tmp 9), (.tmp 10)], none⟩,
    ⟨(some 8), .mov (.tmp 11), none⟩,
    ⟨(some 12), .extract (.tmp 8) 0, none⟩,
    ⟨(some 13), .extract (.tmp 8) 1, none⟩,
    ⟨(some 14), .extract (.tmp 8) 2, none⟩,
    ⟨(some 5), .mov (.tmp 12), none⟩,
    ⟨(some 6), .mov (.tmp 13), none⟩,
    ⟨(some 7), .mov (.tmp 14), none⟩])
  (.seq (.ops [⟨(some 15), .mov (.tmp 7), none⟩,
    ⟨(some 4), .mov (.tmp 15), none⟩])
  .ret)))
def a20 : AFunc := ⟨2, c20, [.tmp 4]⟩

/- 21: (tendril/posting.List).Seek -/
def c21 : ACode := (.seq (.ops [⟨(some 2), .box (.tmp 0), none⟩,
    ⟨(some 4), .mov (.con (.int .i64 0)), none⟩,
    ⟨(some 5), .mov (.con (.bool false)), none⟩])
  (.seq (.ops [⟨(some 10), .load true 1 (.tmp 2), none⟩,
    ⟨(some 11), .mov (.tmp 1), none⟩,
    ⟨(some 12), .call 32 [(.tmp 10), (.tmp 11)], none⟩,
    ⟨(some 9), .mov (.tmp 12), none⟩,
    ⟨(some 13), .extract (.tmp 9) 0, none⟩,
    ⟨(some 14), .extract (.tmp 9) 1, none⟩,
    ⟨(some 15), .extract (.tmp 9) 2, none⟩,
    ⟨(some 6), .mov (.tmp 13), none⟩,
    ⟨(some 7), .mov (.tmp 14), none⟩,
    ⟨(some 8), .mov (.tmp 15), none⟩])
  (.seq (.seq (.ops [⟨(some 16), .mov (.tmp 6), none⟩,
    ⟨(some 17), .fieldAddr 0 (.tmp 2), none⟩,
    ⟨(some 18), .load false 1 (.tmp 17), none⟩,
    ⟨(some 19), .lenSlice (.tmp 18), none⟩,
    ⟨(some 20), .bin .lss (.tmp 16) (.tmp 19), none⟩,
    ⟨(some 21), .mov (.tmp 20), none⟩,
    ⟨(some 22), .mov (.tmp 7), (some (21, true))⟩,
    ⟨(some 23), .fieldAddr 0 (.tmp 2), (some (21, true))⟩,
    ⟨(some 24), .load false 1 (.tmp 23), (some (21, true))⟩,
    ⟨(some 25), .mov (.tmp 6), (some (21, true))⟩,
    ⟨(some 26), .idxAddr 1 (.tmp 24) (.tmp 25), (some (21, true))⟩,
    ⟨(some 27), .load false 1 (.tmp 26), (some (21, true))⟩,
    ⟨(some 28), .lenSlice (.tmp 27), (some (21, true))⟩,
    ⟨(some 29), .bin .eql (.tmp 22) (.tmp 28), (some (21, true))⟩,
    ⟨(some 30), .pick (.tmp 21) (.tmp 29) (.con (.bool false)), none⟩])
  (.cond (.tmp 30)
  (.ops [⟨(some 31), .mov (.tmp 6), none⟩,
    ⟨(some 32), .bin .add (.tmp 31) (.con (.int .i64 1)), none⟩,
    ⟨(some 6), .mov (.tmp 32), none⟩,
    ⟨(some 7), .mov (.con (.int .i64 0)), none⟩])
  .skip))
  (.seq (.seq (.ops [⟨(some 33), .mov (.tmp 6), none⟩,
    ⟨(some 34), .fieldAddr 0 (.tmp 2), none⟩,
    ⟨(some 35), .load false 1 (.tmp 34), none⟩,
    ⟨(some 36), .lenSlice (.tmp 35), none⟩,
    ⟨(some 37), .bin .geq (.tmp 33) (.tmp 36), none⟩])
  (.cond (.tmp 37)
  (.seq (.ops [⟨(some 4), .mov (.con (.int .i64 0)), none⟩,
    ⟨(some 5), .mov (.con (.bool false)), none⟩])
  .ret)
  .skip))
  (.seq (.ops [⟨(some 38), .fieldAddr 0 (.tmp 2), none⟩,
    ⟨(some 39), .load false 1 (.tmp 38), none⟩,
    ⟨(some 40), .mov (.tmp 6), none⟩,
    ⟨(some 41), .idxAddr 1 (.tmp 39) (.tmp 40), none⟩,
    ⟨(some 42), .load false 1 (.tmp 41), none⟩,
    ⟨(some 43), .mov (.tmp 7), none⟩,
    ⟨(some 44), .idxAddr 1 (.tmp 42) (.tmp 43), none⟩,
    ⟨(some 45), .load false 1 (.tmp 44), none⟩,
    ⟨(some 4), .mov (.tmp 45), none⟩,
    ⟨(some 5), .mov (.con (.bool true)), none⟩])
  .ret)))))
def a21 : AFunc := ⟨2, c21, [.tmp 4, .tmp 5]⟩

/- 22: tendril/tendrilbook.Roomy[int] -/
def c22l0 : ACode := (.seq (.seq (.ops [⟨(some 16), .mov (.tmp 6), none⟩,
    ⟨(some 17), .mov (.tmp 5), none⟩,
    ⟨(some 18), .lenSlice (.tmp 17), none⟩,
    ⟨(some 19), .bin .lss (.tmp 16) (.tmp 18), none⟩])
  (.cond (.tmp 19)
  .skip
  (.exit 0)))
  (.seq (.block 1 (.ops [⟨(some 22), .mov (.tmp 5), none⟩,
    ⟨(some 23), .mov (.tmp 6), none⟩,
    ⟨(some 24), .mov (.tmp 1), none⟩,
    ⟨(some 25), .idxAddr 1 (.tmp 22) (.tmp 23), none⟩,
    ⟨none, .store 1 (.tmp 25) (.tmp 24), none⟩]))
  (.ops [⟨(some 20), .mov (.tmp 6), none⟩,
    ⟨(some 21), .bin .add (.tmp 20) (.con (.int .i64 1)), none⟩,
    ⟨(some 6), .mov (.tmp 21), none⟩])))
def c22 : ACode := (.seq (.ops [⟨(some 4), .mov (.con .nilSlice), none⟩])
  (.seq (.ops [⟨(some 7), .mov (.tmp 0), none⟩,
    ⟨(some 8), .lenSlice (.tmp 7), none⟩,
    ⟨(some 9), .bin .add (.tmp 8) (.con (.int .i64 80)), none⟩,
    ⟨(some 10), .mkSlice 1 8 [(.int .i64 0)] (.tmp 9) (.tmp 9), none⟩,
    ⟨(some 5), .mov (.tmp 10), none⟩])
  (.seq (.ops [⟨(some 11), .mov (.tmp 5), none⟩,
    ⟨(some 12), .mov (.tmp 0), none⟩,
    ⟨(some 13), .copy 1 (.tmp 11) (.tmp 12), none⟩])
  (.seq (.seq (.ops [⟨(some 14), .mov (.tmp 0), none⟩,
    ⟨(some 15), .lenSlice (.tmp 14), none⟩,
    ⟨(some 6), .mov (.tmp 15), none⟩])
  (.block 0 (.loop c22l0)))
  (.seq (.ops [⟨(some 26), .mov (.tmp 5), none⟩,
    ⟨(some 4), .mov (.tmp 26), none⟩])
  .ret)))))
def a22 : AFunc := ⟨2, c22, [.tmp 4]⟩

/- 23: tendril/tendrilref19.Of -/
def c23l0 : ACode := (.seq (.seq (.ops [⟨(some 6), .mov (.tmp 5), none⟩,
    ⟨(some 7), .mov (.tmp 0), none⟩,
    ⟨(some 8), .lenSlice (.tmp 7), none⟩,
    ⟨(some 9), .bin .lss (.tmp 6) (.tmp 8), none⟩])
  (.cond (.tmp 9)
  .skip
  (.exit 0)))
  (.seq (.block 1 (.ops [⟨(some 12), .mov (.tmp 4), none⟩,
    ⟨(some 13), .buildSlice 1 0 [] [], none⟩,
    ⟨(some 14), .mov (.tmp 0), none⟩,
    ⟨(some 15), .mov (.tmp 5), none⟩,
    ⟨(some 16), .mov (.tmp 5), none⟩,
    ⟨(some 17), .bin .add (.tmp 16) (.con (.int .i64 16)), none⟩,
    ⟨(some 18), .mov (.tmp 0), none⟩,
    ⟨(some 19), .lenSlice (.tmp 18), none⟩,
    ⟨(some 20), .mnx false [(.tmp 17), (.tmp 19)], none⟩,
    ⟨(some 21), .slc 1 (.tmp 14) (some (.tmp 15)) (some (.tmp 20)) none, none⟩,
    ⟨(some 22), .append 1 8 (.tmp 13) (.tmp 21), none⟩,
    ⟨(some 23), .buildSlice 1 1 [.nilSlice] [(0, 1, (.tmp 22))], none⟩,
    ⟨(some 24), .append 1 24 (.tmp 12) (.tmp 23), none⟩,
    ⟨(some 4), .mov (.tmp 24), none⟩]))
  (.ops [⟨(some 10), .mov (.tmp 5), none⟩,
    ⟨(some 11), .bin .add (.tmp 10) (.con (.int .i64 16)), none⟩,
    ⟨(some 5), .mov (.tmp 11), none⟩])))
def c23 : ACode := (.seq (.ops [⟨(some 2), .mov (.con .nilSlice), none⟩,
    ⟨(some 3), .mov (.con (.int .i64 0)), none⟩])
  (.seq (.ops [⟨(some 4), .mov (.con .nilSlice), none⟩])
  (.seq (.seq (.ops [⟨(some 5), .mov (.con (.int .i64 0)), none⟩])
  (.block 0 (.loop c23l0)))
  (.seq (.seq (.ops [⟨(some 25), .mov (.tmp 4), none⟩,
    ⟨(some 26), .call 37 [(.tmp 25)], none⟩,
    ⟨(some 27), .un .not (.tmp 26), none⟩])
  (.cond (.tmp 27)
  (.seq (.ops [⟨(some 2), .mov (.con .nilSlice), none⟩,
    ⟨(some 3), .mov (.con (.int .i64 8)), none⟩])
  .ret)
  .skip))
  (.seq (.ops [⟨(some 28), .mov (.tmp 4), none⟩,
    ⟨(some 2), .mov (.tmp 28), none⟩,
    ⟨(some 3), .mov (.con (.int .i64 0)), none⟩])
  .ret)))))
def a23 : AFunc := ⟨1, c23, [.tmp 2, .tmp 3]⟩

/- 24: tendril/tendrilbook.Intact[int] -/
def c24l0 : ACode := (.seq (.seq (.ops [⟨(some 25), .mov (.tmp 7), none⟩,
    ⟨(some 26), .mov (.tmp 0), none⟩,
    ⟨(some 27), .lenSlice (.tmp 26), none⟩,
    ⟨(some 28), .bin .lss (.tmp 25) (.tmp 27), none⟩])
  (.cond (.tmp 28)
  .skip
  (.exit 0)))
  (.seq (.block 1 (.seq (.ops [⟨(some 31), .mov (.tmp 0), none⟩,
    ⟨(some 32), .mov (.tmp 7), none⟩,
    ⟨(some 33), .idxAddr 1 (.tmp 31) (.tmp 32), none⟩,
    ⟨(some 34), .load false 1 (.tmp 33), none⟩,
    ⟨(some 35), .mov (.tmp 2), none⟩,
    ⟨(some 36), .bin .neq (.tmp 34) (.tmp 35), none⟩])
  (.cond (.tmp 36)
  (.seq (.ops [⟨(some 6), .mov (.con (.bool false)), none⟩])
  .ret)
  .skip)))
  (.ops [⟨(some 29), .mov (.tmp 7), none⟩,
    ⟨(some 30), .bin .add (.tmp 29) (.con (.int .i64 1)), none⟩,
    ⟨(some 7), .mov (.tmp 30), none⟩])))
def c24 : ACode := (.seq (.ops [⟨(some 6), .mov (.con (.bool false)), none⟩])
  (.seq (.seq (.ops [⟨(some 8), .mov (.tmp 0), none⟩,
    ⟨(some 9), .lenSlice (.tmp 8), none⟩,
    ⟨(some 10), .mov (.tmp 1), none⟩,
    ⟨(some 11), .lenSlice (.tmp 10), none⟩,
    ⟨(some 12), .bin .add (.tmp 11) (.con (.int .i64 80)), none⟩,
    ⟨(some 13), .bin .neq (.tmp 9) (.tmp 12), none⟩,
    ⟨(some 14), .mov (.tmp 13), none⟩,
    ⟨(some 15), .mov (.tmp 0), (some (14, false))⟩,
    ⟨(some 16), .mov (.tmp 1), (some (14, false))⟩,
    ⟨(some 17), .lenSlice (.tmp 16), (some (14, false))⟩,
    ⟨(some 18), .slc 1 (.tmp 15) none (some (.tmp 17)) none, (some (14, false))⟩,
    ⟨(some 19), .mov (.tmp 1), (some (14, false))⟩,
    ⟨(some 20), .call 19 [(.tmp 18), (.tmp 19)], (some (14, false))⟩,
    ⟨(some 21), .un .not (.tmp 20), (some (14, false))⟩,
    ⟨(some 22), .pick (.tmp 14) (.con (.bool true)) (.tmp 21), none⟩])
  (.cond (.tmp 22)
  (.seq (.ops [⟨(some 6), .mov (.con (.bool false)), none⟩])
  .ret)
  .skip))
  (.seq (.seq (.ops [⟨(some 23), .mov (.tmp 1), none⟩,
    ⟨(some 24), .lenSlice (.tmp 23), none⟩,
    ⟨(some 7), .mov (.tmp 24), none⟩])
  (.block 0 (.loop c24l0)))
  (.seq (.ops [⟨(some 6), .mov (.con (.bool true)), none⟩])
  .ret))))
def a24 : AFunc := ⟨3, c24, [.tmp 6]⟩

/- 25: tendril/tendrilref19.Add -/
def c25l0 : ACode := (.seq (.ops [⟨(some 36), .bin .lss (.tmp 35) (.tmp 34), none⟩])
  (.seq (.cond (.tmp 36)
  .skip
  (.exit 0))
  (.seq (.block 1 (.seq (.ops [⟨(some 37), .idxAddr 1 (.tmp 33) (.tmp 35), none⟩,
    ⟨(some 38), .load false 1 (.tmp 37), none⟩,
    ⟨(some 10), .mov (.tmp 38), none⟩])
  (.seq (.seq (.ops [⟨(some 39), .mov (.tmp 10), none⟩,
    ⟨(some 40), .mov (.tmp 1), none⟩,
    ⟨(some 41), .bin .eql (.tmp 39) (.tmp 40), none⟩])
  (.cond (.tmp 41)
  (.seq (.ops [⟨(some 42), .mov (.tmp 0), none⟩,
    ⟨(some 43), .call 38 [(.tmp 42)], none⟩,
    ⟨(some 4), .mov (.tmp 43), none⟩,
    ⟨(some 5), .mov (.con (.bool false)), none⟩])
  .ret)
  .skip))
  (.seq (.seq (.ops [⟨(some 44), .mov (.tmp 8), none⟩,
    ⟨(some 45), .un .not (.tmp 44), none⟩,
    ⟨(some 46), .mov (.tmp 45), none⟩,
    ⟨(some 47), .mov (.tmp 10), (some (46, true))⟩,
    ⟨(some 48), .mov (.tmp 1), (some (46, true))⟩,
    ⟨(some 49), .bin .gtr (.tmp 47) (.tmp 48), (some (46, true))⟩,
    ⟨(some 50), .pick (.tmp 46) (.tmp 49) (.con (.bool false)), none⟩])
  (.cond (.tmp 50)
  (.seq (.ops [⟨(some 51), .mov (.tmp 7), none⟩,
    ⟨(some 52), .mov (.tmp 1), none⟩,
    ⟨(some 53), .buildSlice 1 1 [(.int .i64 0)] [(0, 1, (.tmp 52))], none⟩,
    ⟨(some 54), .append 1 8 (.tmp 51) (.tmp 53), none⟩,
    ⟨(some 7), .mov (.tmp 54), none⟩])
  (.ops [⟨(some 8), .mov (.con (.bool true)), none⟩]))
  .skip))
  (.ops [⟨(some 55), .mov (.tmp 7), none⟩,
    ⟨(some 56), .mov (.tmp 10), none⟩,
    ⟨(some 57), .buildSlice 1 1 [(.int .i64 0)] [(0, 1, (.tmp 56))], none⟩,
    ⟨(some 58), .append 1 8 (.tmp 55) (.tmp 57), none⟩,
    ⟨(some 7), .mov (.tmp 58), none⟩])))))
  (.ops [⟨(some 59), .bin .add (.tmp 35) (.con (.int .i64 1)), none⟩,
    ⟨(some 35), .mov (.tmp 59), none⟩]))))
def c25 : ACode := (.seq (.ops [⟨(some 4), .mov (.con .nilSlice), none⟩,
    ⟨(some 5), .mov (.con (.bool false)), none⟩])
  (.seq (.seq (.ops [⟨(some 13), .mov (.tmp 1), none⟩,
    ⟨(some 14), .bin .lss (.tmp 13) (.con (.int .i64 0)), none⟩,
    ⟨(some 15), .mov (.tmp 14), none⟩,
    ⟨(some 16), .mov (.tmp 1), (some (15, false))⟩,
    ⟨(some 17), .bin .gtr (.tmp 16) (.con (.int .i64 1073741824)), (some (15, false))⟩,
    ⟨(some 18), .pick (.tmp 15) (.con (.bool true)) (.tmp 17), none⟩])
  (.cond (.tmp 18)
  (.seq (.ops [⟨(some 19), .mov (.tmp 0), none⟩,
    ⟨(some 20), .call 38 [(.tmp 19)], none⟩,
    ⟨(some 4), .mov (.tmp 20), none⟩,
    ⟨(some 5), .mov (.con (.bool false)), none⟩])
  .ret)
  .skip))
  (.seq (.seq (.ops [⟨(some 21), .mov (.tmp 0), none⟩,
    ⟨(some 22), .lenSlice (.tmp 21), none⟩,
    ⟨(some 23), .bin .eql (.tmp 22) (.con (.int .i64 0)), none⟩])
  (.cond (.tmp 23)
  (.seq (.ops [⟨(some 24), .mov (.tmp 1), none⟩,
    ⟨(some 25), .buildSlice 1 1 [(.int .i64 0)] [(0, 1, (.tmp 24))], none⟩,
    ⟨(some 26), .buildSlice 1 1 [.nilSlice] [(0, 1, (.tmp 25))], none⟩,
    ⟨(some 4), .mov (.tmp 26), none⟩,
    ⟨(some 5), .mov (.con (.bool true)), none⟩])
  .ret)
  .skip))
  (.seq (.ops [⟨(some 27), .mov (.tmp 0), none⟩,
    ⟨(some 28), .mov (.tmp 1), none⟩,
    ⟨(some 29), .call 39 [(.tmp 27), (.tmp 28)], none⟩,
    ⟨(some 6), .mov (.tmp 29), none⟩])
  (.seq (.ops [⟨(some 7), .mov (.con .nilSlice), none⟩])
  (.seq (.ops [⟨(some 8), .mov (.con (.bool false)), none⟩])
  (.seq (.seq (.ops [⟨(some 30), .mov (.tmp 0), none⟩,
    ⟨(some 31), .mov (.tmp 6), none⟩,
    ⟨(some 32), .idxAddr 1 (.tmp 30) (.tmp 31), none⟩,
    ⟨(some 33), .load false 1 (.tmp 32), none⟩,
    ⟨(some 34), .lenSlice (.tmp 33), none⟩,
    ⟨(some 35), .mov (.con (.int .i64 0)), none⟩])
  (.block 0 (.loop c25l0)))
  (.seq (.seq (.ops [⟨(some 60), .mov (.tmp 8), none⟩,
    ⟨(some 61), .un .not (.tmp 60), none⟩])
  (.cond (.tmp 61)
  (.ops [⟨(some 62), .mov (.tmp 7), none⟩,
    ⟨(some 63), .mov (.tmp 1), none⟩,
    ⟨(some 64), .buildSlice 1 1 [(.int .i64 0)] [(0, 1, (.tmp 63))], none⟩,
    ⟨(some 65), .append 1 8 (.tmp 62) (.tmp 64), none⟩,
    ⟨(some 7), .mov (.tmp 65), none⟩])
  .skip))
  (.seq (.ops [⟨(some 66), .mov (.tmp 0), none⟩,
    ⟨(some 67), .mov (.tmp 6), none⟩,
    ⟨(some 68), .slc 1 (.tmp 66) none (some (.tmp 67)) none, none⟩,
    ⟨(some 69), .call 38 [(.tmp 68)], none⟩,
    ⟨(some 11), .mov (.tmp 69), none⟩])
  (.seq (.seq (.ops [⟨(some 70), .mov (.tmp 7), none⟩,
    ⟨(some 71), .lenSlice (.tmp 70), none⟩,
    ⟨(some 72), .bin .gtr (.tmp 71) (.con (.int .i64 16)), none⟩])
  (.cond (.tmp 72)
  (.seq (.ops [⟨(some 73), .mov (.tmp 7), none⟩,
    ⟨(some 74), .lenSlice (.tmp 73), none⟩,
    ⟨(some 75), .bin .add (.tmp 74) (.con (.int .i64 1)), none⟩,
    ⟨(some 76), .bin .quo (.tmp 75) (.con (.int .i64 2)), none⟩,
    ⟨(some 12), .mov (.tmp 76), none⟩])
  (.draw [.op ⟨(some 77), .mov (.tmp 11), none⟩,
    .op ⟨(some 78), .mov (.tmp 7), none⟩,
    .op ⟨(some 79), .mov (.tmp 12), none⟩,
    .op ⟨(some 80), .mov (.tmp 12), none⟩,
    .op ⟨(some 81), .slc 1 (.tmp 78) none (some (.tmp 79)) (some (.tmp 80)), none⟩,
    .op ⟨(some 82), .buildSlice 1 0 [] [], none⟩,
    .op ⟨(some 83), .mov (.tmp 7), none⟩,
    .op ⟨(some 84), .mov (.tmp 12), none⟩,
    .op ⟨(some 85), .slc 1 (.tmp 83) (some (.tmp 84)) none none, none⟩,
    .look ⟨(some 82), .buildSlice 1 0 [] [], none⟩,
    .op ⟨(some 86), .append 1 8 (.tmp 82) (.tmp 85), none⟩,
    .op ⟨(some 87), .buildSlice 1 2 [.nilSlice, .nilSlice] [(0, 1, (.tmp 81)), (1, 1, (.tmp 86))], none⟩,
    .look ⟨(some 87), .buildSlice 1 2 [.nilSlice, .nilSlice] [(0, 1, (.tmp 81)), (1, 1, (.tmp 86))], none⟩,
    .op ⟨(some 88), .append 1 24 (.tmp 77) (.tmp 87), none⟩,
    .op ⟨(some 11), .mov (.tmp 88), none⟩]))
  (.ops [⟨(some 89), .mov (.tmp 11), none⟩,
    ⟨(some 90), .mov (.tmp 7), none⟩,
    ⟨(some 91), .buildSlice 1 1 [.nilSlice] [(0, 1, (.tmp 90))], none⟩,
    ⟨(some 92), .append 1 24 (.tmp 89) (.tmp 91), none⟩,
    ⟨(some 11), .mov (.tmp 92), none⟩])))
  (.seq (.ops [⟨(some 93), .mov (.tmp 11), none⟩,
    ⟨(some 94), .mov (.tmp 0), none⟩,
    ⟨(some 95), .mov (.tmp 6), none⟩,
    ⟨(some 96), .bin .add (.tmp 95) (.con (.int .i64 1)), none⟩,
    ⟨(some 97), .slc 1 (.tmp 94) (some (.tmp 96)) none none, none⟩,
    ⟨(some 98), .call 38 [(.tmp 97)], none⟩,
    ⟨(some 99), .append 1 24 (.tmp 93) (.tmp 98), none⟩,
    ⟨(some 4), .mov (.tmp 99), none⟩,
    ⟨(some 5), .mov (.con (.bool true)), none⟩])
  .ret)))))))))))
def a25 : AFunc := ⟨2, c25, [.tmp 4, .tmp 5]⟩

/- 26: tendril/tendrilref19.Remove -/
def c26l0 : ACode := (.seq (.ops [⟨(some 23), .bin .lss (.tmp 22) (.tmp 21), none⟩])
  (.seq (.cond (.tmp 23)
  .skip
  (.exit 0))
  (.seq (.block 1 (.seq (.ops [⟨(some 24), .idxAddr 1 (.tmp 20) (.tmp 22), none⟩,
    ⟨(some 25), .load false 1 (.tmp 24), none⟩,
    ⟨(some 9), .mov (.tmp 25), none⟩])
  (.seq (.ops [⟨(some 26), .mov (.tmp 9), none⟩,
    ⟨(some 27), .mov (.tmp 1), none⟩,
    ⟨(some 28), .bin .neq (.tmp 26) (.tmp 27), none⟩])
  (.cond (.tmp 28)
  (.ops [⟨(some 29), .mov (.tmp 7), none⟩,
    ⟨(some 30), .mov (.tmp 9), none⟩,
    ⟨(some 31), .buildSlice 1 1 [(.int .i64 0)] [(0, 1, (.tmp 30))], none⟩,
    ⟨(some 32), .append 1 8 (.tmp 29) (.tmp 31), none⟩,
    ⟨(some 7), .mov (.tmp 32), none⟩])
  .skip))))
  (.ops [⟨(some 33), .bin .add (.tmp 22) (.con (.int .i64 1)), none⟩,
    ⟨(some 22), .mov (.tmp 33), none⟩]))))
def c26 : ACode := (.seq (.ops [⟨(some 4), .mov (.con .nilSlice), none⟩,
    ⟨(some 5), .mov (.con (.bool false)), none⟩])
  (.seq (.seq (.ops [⟨(some 11), .mov (.tmp 0), none⟩,
    ⟨(some 12), .lenSlice (.tmp 11), none⟩,
    ⟨(some 13), .bin .eql (.tmp 12) (.con (.int .i64 0)), none⟩])
  (.cond (.tmp 13)
  (.seq (.ops [⟨(some 4), .mov (.con .nilSlice), none⟩,
    ⟨(some 5), .mov (.con (.bool false)), none⟩])
  .ret)
  .skip))
  (.seq (.ops [⟨(some 14), .mov (.tmp 0), none⟩,
    ⟨(some 15), .mov (.tmp 1), none⟩,
    ⟨(some 16), .call 39 [(.tmp 14), (.tmp 15)], none⟩,
    ⟨(some 6), .mov (.tmp 16), none⟩])
  (.seq (.ops [⟨(some 7), .mov (.con .nilSlice), none⟩])
  (.seq (.seq (.ops [⟨(some 17), .mov (.tmp 0), none⟩,
    ⟨(some 18), .mov (.tmp 6), none⟩,
    ⟨(some 19), .idxAddr 1 (.tmp 17) (.tmp 18), none⟩,
    ⟨(some 20), .load false 1 (.tmp 19), none⟩,
    ⟨(some 21), .lenSlice (.tmp 20), none⟩,
    ⟨(some 22), .mov (.con (.int .i64 0)), none⟩])
  (.block 0 (.loop c26l0)))
  (.seq (.seq (.ops [⟨(some 34), .mov (.tmp 7), none⟩,
    ⟨(some 35), .lenSlice (.tmp 34), none⟩,
    ⟨(some 36), .mov (.tmp 0), none⟩,
    ⟨(some 37), .mov (.tmp 6), none⟩,
    ⟨(some 38), .idxAddr 1 (.tmp 36) (.tmp 37), none⟩,
    ⟨(some 39), .load false 1 (.tmp 38), none⟩,
    ⟨(some 40), .lenSlice (.tmp 39), none⟩,
    ⟨(some 41), .bin .eql (.tmp 35) (.tmp 40), none⟩])
  (.cond (.tmp 41)
  (.seq (.ops [⟨(some 42), .mov (.tmp 0), none⟩,
    ⟨(some 43), .call 38 [(.tmp 42)], none⟩,
    ⟨(some 4), .mov (.tmp 43), none⟩,
    ⟨(some 5), .mov (.con (.bool false)), none⟩])
  .ret)
  .skip))
  (.seq (.ops [⟨(some 44), .mov (.tmp 0), none⟩,
    ⟨(some 45), .call 38 [(.tmp 44)], none⟩,
    ⟨(some 10), .mov (.tmp 45), none⟩])
  (.seq (.ops [⟨(some 46), .mov (.tmp 10), none⟩,
    ⟨(some 47), .mov (.tmp 6), none⟩,
    ⟨(some 48), .mov (.tmp 7), none⟩,
    ⟨(some 49), .idxAddr 1 (.tmp 46) (.tmp 47), none⟩,
    ⟨none, .store 1 (.tmp 49) (.tmp 48), none⟩])
  (.seq (.block 2 (.seq (.ops [⟨(some 51), .mov (.tmp 7), none⟩,
    ⟨(some 52), .lenSlice (.tmp 51), none⟩,
    ⟨(some 53), .bin .eql (.tmp 52) (.con (.int .i64 0)), none⟩,
    ⟨(some 50), .mov (.tmp 53), none⟩])
  (.cond (.tmp 50)
  (.seq (.ops [⟨(some 54), .mov (.tmp 10), none⟩,
    ⟨(some 55), .mov (.tmp 6), none⟩,
    ⟨(some 56), .mov (.tmp 6), none⟩,
    ⟨(some 57), .slc 1 (.tmp 54) none (some (.tmp 55)) (some (.tmp 56)), none⟩,
    ⟨(some 58), .mov (.tmp 10), none⟩,
    ⟨(some 59), .mov (.tmp 6), none⟩,
    ⟨(some 60), .bin .add (.tmp 59) (.con (.int .i64 1)), none⟩,
    ⟨(some 61), .slc 1 (.tmp 58) (some (.tmp 60)) none none, none⟩,
    ⟨(some 62), .append 1 24 (.tmp 57) (.tmp 61), none⟩,
    ⟨(some 4), .mov (.tmp 62), none⟩,
    ⟨(some 5), .mov (.con (.bool true)), none⟩])
  .ret)
  (.seq (.ops [⟨(some 64), .mov (.tmp 6), none⟩,
    ⟨(some 65), .bin .add (.tmp 64) (.con (.int .i64 1)), none⟩,
    ⟨(some 66), .mov (.tmp 10), none⟩,
    ⟨(some 67), .lenSlice (.tmp 66), none⟩,
    ⟨(some 68), .bin .lss (.tmp 65) (.tmp 67), none⟩,
    ⟨(some 69), .mov (.tmp 68), none⟩,
    ⟨(some 70), .mov (.tmp 7), (some (69, true))⟩,
    ⟨(some 71), .lenSlice (.tmp 70), (some (69, true))⟩,
    ⟨(some 72), .mov (.tmp 10), (some (69, true))⟩,
    ⟨(some 73), .mov (.tmp 6), (some (69, true))⟩,
    ⟨(some 74), .bin .add (.tmp 73) (.con (.int .i64 1)), (some (69, true))⟩,
    ⟨(some 75), .idxAddr 1 (.tmp 72) (.tmp 74), (some (69, true))⟩,
    ⟨(some 76), .load false 1 (.tmp 75), (some (69, true))⟩,
    ⟨(some 77), .lenSlice (.tmp 76), (some (69, true))⟩,
    ⟨(some 78), .bin .add (.tmp 71) (.tmp 77), (some (69, true))⟩,
    ⟨(some 79), .bin .leq (.tmp 78) (.con (.int .i64 16)), (some (69, true))⟩,
    ⟨(some 80), .pick (.tmp 69) (.tmp 79) (.con (.bool false)), none⟩,
    ⟨(some 63), .mov (.tmp 80), none⟩])
  (.cond (.tmp 63)
  (.seq (.ops [⟨(some 81), .mov (.tmp 10), none⟩,
    ⟨(some 82), .mov (.tmp 6), none⟩,
    ⟨(some 83), .mov (.tmp 7), none⟩,
    ⟨(some 84), .mov (.tmp 10), none⟩,
    ⟨(some 85), .mov (.tmp 6), none⟩,
    ⟨(some 86), .bin .add (.tmp 85) (.con (.int .i64 1)), none⟩,
    ⟨(some 87), .idxAddr 1 (.tmp 84) (.tmp 86), none⟩,
    ⟨(some 88), .load false 1 (.tmp 87), none⟩,
    ⟨(some 89), .append 1 8 (.tmp 83) (.tmp 88), none⟩,
    ⟨(some 90), .idxAddr 1 (.tmp 81) (.tmp 82), none⟩,
    ⟨none, .store 1 (.tmp 90) (.tmp 89), none⟩])
  (.seq (.ops [⟨(some 91), .mov (.tmp 10), none⟩,
    ⟨(some 92), .mov (.tmp 6), none⟩,
    ⟨(some 93), .bin .add (.tmp 92) (.con (.int .i64 1)), none⟩,
    ⟨(some 94), .mov (.tmp 6), none⟩,
    ⟨(some 95), .bin .add (.tmp 94) (.con (.int .i64 1)), none⟩,
    ⟨(some 96), .slc 1 (.tmp 91) none (some (.tmp 93)) (some (.tmp 95)), none⟩,
    ⟨(some 97), .mov (.tmp 10), none⟩,
    ⟨(some 98), .mov (.tmp 6), none⟩,
    ⟨(some 99), .bin .add (.tmp 98) (.con (.int .i64 2)), none⟩,
    ⟨(some 100), .slc 1 (.tmp 97) (some (.tmp 99)) none none, none⟩,
    ⟨(some 101), .append 1 24 (.tmp 96) (.tmp 100), none⟩,
    ⟨(some 4), .mov (.tmp 101), none⟩,
    ⟨(some 5), .mov (.con (.bool true)), none⟩])
  .ret))
  (.seq (.ops [⟨(some 103), .mov (.tmp 6), none⟩,
    ⟨(some 104), .bin .gtr (.tmp 103) (.con (.int .i64 0)), none⟩,
    ⟨(some 105), .mov (.tmp 104), none⟩,
    ⟨(some 106), .mov (.tmp 6), (some (105, true))⟩,
    ⟨(some 107), .bin .add (.tmp 106) (.con (.int .i64 1)), (some (105, true))⟩,
    ⟨(some 108), .mov (.tmp 10), (some (105, true))⟩,
    ⟨(some 109), .lenSlice (.tmp 108), (some (105, true))⟩,
    ⟨(some 110), .bin .eql (.tmp 107) (.tmp 109), (some (105, true))⟩,
    ⟨(some 111), .pick (.tmp 105) (.tmp 110) (.con (.bool false)), none⟩,
    ⟨(some 112), .mov (.tmp 111), none⟩,
    ⟨(some 113), .mov (.tmp 7), (some (112, true))⟩,
    ⟨(some 114), .lenSlice (.tmp 113), (some (112, true))⟩,
    ⟨(some 115), .mov (.tmp 10), (some (112, true))⟩,
    ⟨(some 116), .mov (.tmp 6), (some (112, true))⟩,
    ⟨(some 117), .bin .sub (.tmp 116) (.con (.int .i64 1)), (some (112, true))⟩,
    ⟨(some 118), .idxAddr 1 (.tmp 115) (.tmp 117), (some (112, true))⟩,
    ⟨(some 119), .load false 1 (.tmp 118), (some (112, true))⟩,
    ⟨(some 120), .lenSlice (.tmp 119), (some (112, true))⟩,
    ⟨(some 121), .bin .add (.tmp 114) (.tmp 120), (some (112, true))⟩,
    ⟨(some 122), .bin .leq (.tmp 121) (.con (.int .i64 16)), (some (112, true))⟩,
    ⟨(some 123), .pick (.tmp 112) (.tmp 122) (.con (.bool false)), none⟩,
    ⟨(some 102), .mov (.tmp 123), none⟩])
  (.cond (.tmp 102)
  (.seq (.ops [⟨(some 124), .mov (.tmp 10), none⟩,
    ⟨(some 125), .mov (.tmp 6), none⟩,
    ⟨(some 126), .bin .sub (.tmp 125) (.con (.int .i64 1)), none⟩,
    ⟨(some 127), .mov (.tmp 10), none⟩,
    ⟨(some 128), .mov (.tmp 6), none⟩,
    ⟨(some 129), .bin .sub (.tmp 128) (.con (.int .i64 1)), none⟩,
    ⟨(some 130), .idxAddr 1 (.tmp 127) (.tmp 129), none⟩,
    ⟨(some 131), .load false 1 (.tmp 130), none⟩,
    ⟨(some 132), .mov (.tmp 7), none⟩,
    ⟨(some 133), .append 1 8 (.tmp 131) (.tmp 132), none⟩,
    ⟨(some 134), .idxAddr 1 (.tmp 124) (.tmp 126), none⟩,
    ⟨none, .store 1 (.tmp 134) (.tmp 133), none⟩])
  (.seq (.ops [⟨(some 135), .mov (.tmp 10), none⟩,
    ⟨(some 136), .mov (.tmp 6), none⟩,
    ⟨(some 137), .mov (.tmp 6), none⟩,
    ⟨(some 138), .slc 1 (.tmp 135) none (some (.tmp 136)) (some (.tmp 137)), none⟩,
    ⟨(some 4), .mov (.tmp 138), none⟩,
    ⟨(some 5), .mov (.con (.bool true)), none⟩])
  .ret))
  .skip)))))))
  (.seq (.ops [⟨(some 139), .mov (.tmp 10), none⟩,
    ⟨(some 4), .mov (.tmp 139), none⟩,
    ⟨(some 5), .mov (.con (.bool true)), none⟩])
  .ret))))))))))
def a26 : AFunc := ⟨2, c26, [.tmp 4, .tmp 5]⟩

/- 27: tendril/tendrilref19.Ids -/
def c27l0 : ACode := (.seq (.ops [⟨(some 9), .bin .lss (.tmp 8) (.tmp 7), none⟩])
  (.seq (.cond (.tmp 9)
  .skip
  (.exit 0))
  (.seq (.block 1 (.seq (.ops [⟨(some 10), .idxAddr 1 (.tmp 6) (.tmp 8), none⟩,
    ⟨(some 11), .load false 1 (.tmp 10), none⟩,
    ⟨(some 5), .mov (.tmp 11), none⟩])
  (.ops [⟨(some 12), .mov (.tmp 3), none⟩,
    ⟨(some 13), .mov (.tmp 5), none⟩,
    ⟨(some 14), .append 1 8 (.tmp 12) (.tmp 13), none⟩,
    ⟨(some 3), .mov (.tmp 14), none⟩])))
  (.ops [⟨(some 15), .bin .add (.tmp 8) (.con (.int .i64 1)), none⟩,
    ⟨(some 8), .mov (.tmp 15), none⟩]))))
def c27 : ACode := (.seq (.ops [⟨(some 2), .mov (.con .nilSlice), none⟩])
  (.seq (.ops [⟨(some 3), .mov (.con .nilSlice), none⟩])
  (.seq (.seq (.ops [⟨(some 6), .mov (.tmp 0), none⟩,
    ⟨(some 7), .lenSlice (.tmp 6), none⟩,
    ⟨(some 8), .mov (.con (.int .i64 0)), none⟩])
  (.block 0 (.loop c27l0)))
  (.seq (.ops [⟨(some 16), .mov (.tmp 3), none⟩,
    ⟨(some 2), .mov (.tmp 16), none⟩])
  .ret))))
def a27 : AFunc := ⟨1, c27, [.tmp 2]⟩

/- 28: tendril/tendrilref19.Seek -/
def c28l0 : ACode := (.seq (.ops [⟨(some 12), .bin .lss (.tmp 11) (.tmp 10), none⟩])
  (.seq (.cond (.tmp 12)
  .skip
  (.exit 0))
  (.seq (.block 1 (.seq (.ops [⟨(some 13), .idxAddr 1 (.tmp 9) (.tmp 11), none⟩,
    ⟨(some 14), .load false 1 (.tmp 13), none⟩,
    ⟨(some 7), .mov (.tmp 14), none⟩])
  (.seq (.ops [⟨(some 15), .mov (.tmp 7), none⟩,
    ⟨(some 16), .mov (.tmp 1), none⟩,
    ⟨(some 17), .bin .geq (.tmp 15) (.tmp 16), none⟩])
  (.cond (.tmp 17)
  (.seq (.ops [⟨(some 18), .mov (.tmp 7), none⟩,
    ⟨(some 4), .mov (.tmp 18), none⟩,
    ⟨(some 5), .mov (.con (.bool true)), none⟩])
  .ret)
  .skip))))
  (.ops [⟨(some 19), .bin .add (.tmp 11) (.con (.int .i64 1)), none⟩,
    ⟨(some 11), .mov (.tmp 19), none⟩]))))
def c28 : ACode := (.seq (.ops [⟨(some 4), .mov (.con (.int .i64 0)), none⟩,
    ⟨(some 5), .mov (.con (.bool false)), none⟩])
  (.seq (.seq (.ops [⟨(some 8), .mov (.tmp 0), none⟩,
    ⟨(some 9), .call 27 [(.tmp 8)], none⟩,
    ⟨(some 10), .lenSlice (.tmp 9), none⟩,
    ⟨(some 11), .mov (.con (.int .i64 0)), none⟩])
  (.block 0 (.loop c28l0)))
  (.seq (.ops [⟨(some 4), .mov (.con (.int .i64 0)), none⟩,
    ⟨(some 5), .mov (.con (.bool false)), none⟩])
  .ret)))
def a28 : AFunc := ⟨2, c28, [.tmp 4, .tmp 5]⟩

/- 29: tendril/tendrilref19.Has -/
def c29l0 : ACode := (.seq (.ops [⟨(some 10), .bin .lss (.tmp 9) (.tmp 8), none⟩])
  (.seq (.cond (.tmp 10)
  .skip
  (.exit 0))
  (.seq (.block 1 (.seq (.ops [⟨(some 11), .idxAddr 1 (.tmp 7) (.tmp 9), none⟩,
    ⟨(some 12), .load false 1 (.tmp 11), none⟩,
    ⟨(some 6), .mov (.tmp 12), none⟩])
  (.seq (.ops [⟨(some 13), .mov (.tmp 6), none⟩,
    ⟨(some 14), .mov (.tmp 1), none⟩,
    ⟨(some 15), .bin .eql (.tmp 13) (.tmp 14), none⟩])
  (.cond (.tmp 15)
  (.seq (.ops [⟨(some 4), .mov (.con (.bool true)), none⟩])
  .ret)
  .skip))))
  (.ops [⟨(some 16), .bin .add (.tmp 9) (.con (.int .i64 1)), none⟩,
    ⟨(some 9), .mov (.tmp 16), none⟩]))))
def c29 : ACode := (.seq (.ops [⟨(some 4), .mov (.con (.bool false)), none⟩])
  (.seq (.seq (.ops [⟨(some 7), .mov (.tmp 0), none⟩,
    ⟨(some 8), .lenSlice (.tmp 7), none⟩,
    ⟨(some 9), .mov (.con (.int .i64 0)), none⟩])
  (.block 0 (.loop c29l0)))
  (.seq (.ops [⟨(some 4), .mov (.con (.bool false)), none⟩])
  .ret)))
def a29 : AFunc := ⟨2, c29, [.tmp 4]⟩

/- 30: slices.Chunk[[]int,int] -/
def c30 : ACode := (.seq (.ops [⟨(some 2), .box (.tmp 0), none⟩,
    ⟨(some 3), .box (.tmp 1), none⟩,
    ⟨(some 4), .mov (.con .nilFunc), none⟩])
  (.seq (.seq (.ops [⟨(some 5), .load false 1 (.tmp 3), none⟩,
    ⟨(some 6), .bin .lss (.tmp 5) (.con (.int .i64 1)), none⟩])
  (.cond (.tmp 6)
  (.ops [⟨(some 7), .mkIface 9 (.con (.str [99, 97, 110, 110, 111, 116, 32, 98, 101, 32, 108, 101, 115, 115, 32, 116, 104, 97, 110, 32, 49])), none⟩,
    ⟨none, .stuck, none⟩])
  .skip))
  (.seq (.ops [⟨(some 8), .mkFunc (.func 40) [] [(.tmp 2), (.tmp 3)], none⟩,
    ⟨(some 4), .mov (.tmp 8), none⟩])
  .ret)))
def a30 : AFunc := ⟨2, c30, [.tmp 4]⟩

/- 31: slices.Clone[[]int,int] -/
def c31 : ACode := (.seq (.ops [⟨(some 2), .mov (.con .nilSlice), none⟩])
  (.seq (.seq (.ops [⟨(some 3), .mov (.tmp 0), none⟩,
    ⟨(some 4), .eqNil 1 false (.tmp 3) (.con .nilSlice), none⟩])
  (.cond (.tmp 4)
  (.seq (.ops [⟨(some 2), .mov (.con .nilSlice), none⟩])
  .ret)
  .skip))
  (.seq (.ops [⟨(some 5), .buildSlice 1 0 [] [], none⟩,
    ⟨(some 6), .mov (.tmp 0), none⟩,
    ⟨(some 7), .append 1 8 (.tmp 5) (.tmp 6), none⟩,
    ⟨(some 2), .mov (.tmp 7), none⟩])
  .ret)))
def a31 : AFunc := ⟨1, c31, [.tmp 2]⟩

/- 32: (tendril/posting.List).place -/
def c32 : ACode := (.seq (.ops [⟨(some 2), .box (.tmp 0), none⟩,
    ⟨(some 4), .mov (.con (.int .i64 0)), none⟩,
    ⟨(some 5), .mov (.con (.int .i64 0)), none⟩,
    ⟨(some 6), .mov (.con (.bool false)), none⟩])
  (.seq (.seq (.ops [⟨(some 10), .fieldAddr 0 (.tmp 2), none⟩,
    ⟨(some 11), .load false 1 (.tmp 10), none⟩,
    ⟨(some 12), .lenSlice (.tmp 11), none⟩,
    ⟨(some 13), .bin .eql (.tmp 12) (.con (.int .i64 0)), none⟩])
  (.cond (.tmp 13)
  (.seq (.ops [⟨(some 4), .mov (.con (.int .i64 0)), none⟩,
    ⟨(some 5), .mov (.con (.int .i64 0)), none⟩,
    ⟨(some 6), .mov (.con (.bool false)), none⟩])
  .ret)
  .skip))
  (.seq (.ops [⟨(some 14), .load true 1 (.tmp 2), none⟩,
    ⟨(some 15), .mov (.tmp 1), none⟩,
    ⟨(some 16), .call 41 [(.tmp 14), (.tmp 15)], none⟩,
    ⟨(some 7), .mov (.tmp 16), none⟩])
  (.seq (.ops [⟨(some 18), .fieldAddr 0 (.tmp 2), none⟩,
    ⟨(some 19), .load false 1 (.tmp 18), none⟩,
    ⟨(some 20), .mov (.tmp 7), none⟩,
    ⟨(some 21), .idxAddr 1 (.tmp 19) (.tmp 20), none⟩,
    ⟨(some 22), .load false 1 (.tmp 21), none⟩,
    ⟨(some 23), .mov (.tmp 1), none⟩,
    ⟨(some 24), .call 42 [(.tmp 22), (.tmp 23)], none⟩,
    ⟨(some 17), .mov (.tmp 24), none⟩,
    ⟨(some 25), .extract (.tmp 17) 0, none⟩,
    ⟨(some 26), .extract (.tmp 17) 1, none⟩,
    ⟨(some 8), .mov (.tmp 25), none⟩,
    ⟨(some 9), .mov (.tmp 26), none⟩])
  (.seq (.ops [⟨(some 27), .mov (.tmp 7), none⟩,
    ⟨(some 28), .mov (.tmp 8), none⟩,
    ⟨(some 29), .mov (.tmp 9), none⟩,
    ⟨(some 4), .mov (.tmp 27), none⟩,
    ⟨(some 5), .mov (.tmp 28), none⟩,
    ⟨(some 6), .mov (.tmp 29), none⟩])
  .ret)))))
def a32 : AFunc := ⟨2, c32, [.tmp 4, .tmp 5, .tmp 6]⟩

/- 33: slices.Insert[[]int,int] -/
def c33 : ACode := (.seq (.ops [⟨(some 6), .mov (.con .nilSlice), none⟩])
  (.seq (.ops [⟨(some 10), .mov (.tmp 0), none⟩,
    ⟨(some 11), .mov (.tmp 1), none⟩,
    ⟨(some 12), .slc 1 (.tmp 10) (some (.tmp 11)) none none, none⟩])
  (.seq (.ops [⟨(some 13), .mov (.tmp 2), none⟩,
    ⟨(some 14), .lenSlice (.tmp 13), none⟩,
    ⟨(some 7), .mov (.tmp 14), none⟩])
  (.seq (.seq (.ops [⟨(some 15), .mov (.tmp 7), none⟩,
    ⟨(some 16), .bin .eql (.tmp 15) (.con (.int .i64 0)), none⟩])
  (.cond (.tmp 16)
  (.seq (.ops [⟨(some 17), .mov (.tmp 0), none⟩,
    ⟨(some 6), .mov (.tmp 17), none⟩])
  .ret)
  .skip))
  (.seq (.ops [⟨(some 18), .mov (.tmp 0), none⟩,
    ⟨(some 19), .lenSlice (.tmp 18), none⟩,
    ⟨(some 8), .mov (.tmp 19), none⟩])
  (.seq (.seq (.ops [⟨(some 20), .mov (.tmp 1), none⟩,
    ⟨(some 21), .mov (.tmp 8), none⟩,
    ⟨(some 22), .bin .eql (.tmp 20) (.tmp 21), none⟩])
  (.cond (.tmp 22)
  (.seq (.ops [⟨(some 23), .mov (.tmp 0), none⟩,
    ⟨(some 24), .mov (.tmp 2), none⟩,
    ⟨(some 25), .append 1 8 (.tmp 23) (.tmp 24), none⟩,
    ⟨(some 6), .mov (.tmp 25), none⟩])
  .ret)
  .skip))
  (.seq (.seq (.ops [⟨(some 26), .mov (.tmp 8), none⟩,
    ⟨(some 27), .mov (.tmp 7), none⟩,
    ⟨(some 28), .bin .add (.tmp 26) (.tmp 27), none⟩,
    ⟨(some 29), .mov (.tmp 0), none⟩,
    ⟨(some 30), .capSlice (.tmp 29), none⟩,
    ⟨(some 31), .bin .gtr (.tmp 28) (.tmp 30), none⟩])
  (.cond (.tmp 31)
  (.seq (.ops [⟨(some 32), .mov (.tmp 0), none⟩,
    ⟨(some 33), .mov (.tmp 1), none⟩,
    ⟨(some 34), .slc 1 (.tmp 32) none (some (.tmp 33)) none, none⟩,
    ⟨(some 35), .mov (.tmp 8), none⟩,
    ⟨(some 36), .mov (.tmp 7), none⟩,
    ⟨(some 37), .bin .add (.tmp 35) (.tmp 36), none⟩,
    ⟨(some 38), .mov (.tmp 1), none⟩,
    ⟨(some 39), .bin .sub (.tmp 37) (.tmp 38), none⟩,
    ⟨(some 40), .appendZ 1 8 [(.int .i64 0)] (.tmp 34) (.tmp 39), none⟩,
    ⟨(some 9), .mov (.tmp 40), none⟩])
  (.seq (.ops [⟨(some 41), .mov (.tmp 9), none⟩,
    ⟨(some 42), .mov (.tmp 1), none⟩,
    ⟨(some 43), .slc 1 (.tmp 41) (some (.tmp 42)) none none, none⟩,
    ⟨(some 44), .mov (.tmp 2), none⟩,
    ⟨(some 45), .copy 1 (.tmp 43) (.tmp 44), none⟩])
  (.seq (.ops [⟨(some 46), .mov (.tmp 9), none⟩,
    ⟨(some 47), .mov (.tmp 1), none⟩,
    ⟨(some 48), .mov (.tmp 7), none⟩,
    ⟨(some 49), .bin .add (.tmp 47) (.tmp 48), none⟩,
    ⟨(some 50), .slc 1 (.tmp 46) (some (.tmp 49)) none none, none⟩,
    ⟨(some 51), .mov (.tmp 0), none⟩,
    ⟨(some 52), .mov (.tmp 1), none⟩,
    ⟨(some 53), .slc 1 (.tmp 51) (some (.tmp 52)) none none, none⟩,
    ⟨(some 54), .copy 1 (.tmp 50) (.tmp 53), none⟩])
  (.seq (.ops [⟨(some 55), .mov (.tmp 9), none⟩,
    ⟨(some 6), .mov (.tmp 55), none⟩])
  .ret))))
  .skip))
  (.seq (.ops [⟨(some 56), .mov (.tmp 0), none⟩,
    ⟨(some 57), .mov (.tmp 8), none⟩,
    ⟨(some 58), .mov (.tmp 7), none⟩,
    ⟨(some 59), .bin .add (.tmp 57) (.tmp 58), none⟩,
    ⟨(some 60), .slc 1 (.tmp 56) none (some (.tmp 59)) none, none⟩,
    ⟨(some 0), .mov (.tmp 60), none⟩])
  (.seq (.seq (.ops [⟨(some 61), .mov (.tmp 2), none⟩,
    ⟨(some 62), .mov (.tmp 0), none⟩,
    ⟨(some 63), .mov (.tmp 1), none⟩,
    ⟨(some 64), .mov (.tmp 7), none⟩,
    ⟨(some 65), .bin .add (.tmp 63) (.tmp 64), none⟩,
    ⟨(some 66), .slc 1 (.tmp 62) (some (.tmp 65)) none none, none⟩,
    ⟨(some 67), .call 43 [(.tmp 61), (.tmp 66)], none⟩,
    ⟨(some 68), .un .not (.tmp 67), none⟩])
  (.cond (.tmp 68)
  (.seq (.ops [⟨(some 69), .mov (.tmp 0), none⟩,
    ⟨(some 70), .mov (.tmp 1), none⟩,
    ⟨(some 71), .mov (.tmp 7), none⟩,
    ⟨(some 72), .bin .add (.tmp 70) (.tmp 71), none⟩,
    ⟨(some 73), .slc 1 (.tmp 69) (some (.tmp 72)) none none, none⟩,
    ⟨(some 74), .mov (.tmp 0), none⟩,
    ⟨(some 75), .mov (.tmp 1), none⟩,
    ⟨(some 76), .slc 1 (.tmp 74) (some (.tmp 75)) none none, none⟩,
    ⟨(some 77), .copy 1 (.tmp 73) (.tmp 76), none⟩])
  (.seq (.ops [⟨(some 78), .mov (.tmp 0), none⟩,
    ⟨(some 79), .mov (.tmp 1), none⟩,
    ⟨(some 80), .slc 1 (.tmp 78) (some (.tmp 79)) none none, none⟩,
    ⟨(some 81), .mov (.tmp 2), none⟩,
    ⟨(some 82), .copy 1 (.tmp 80) (.tmp 81), none⟩])
  (.seq (.ops [⟨(some 83), .mov (.tmp 0), none⟩,
    ⟨(some 6), .mov (.tmp 83), none⟩])
  .ret)))
  .skip))
  (.seq (.ops [⟨(some 84), .mov (.tmp 0), none⟩,
    ⟨(some 85), .mov (.tmp 8), none⟩,
    ⟨(some 86), .slc 1 (.tmp 84) (some (.tmp 85)) none none, none⟩,
    ⟨(some 87), .mov (.tmp 2), none⟩,
    ⟨(some 88), .copy 1 (.tmp 86) (.tmp 87), none⟩])
  (.seq (.ops [⟨(some 89), .mov (.tmp 0), none⟩,
    ⟨(some 90), .mov (.tmp 1), none⟩,
    ⟨(some 91), .slc 1 (.tmp 89) (some (.tmp 90)) none none, none⟩,
    ⟨(some 92), .mov (.tmp 7), none⟩,
    ⟨(some 93), .call 44 [(.tmp 91), (.tmp 92)], none⟩])
  (.seq (.ops [⟨(some 94), .mov (.tmp 0), none⟩,
    ⟨(some 6), .mov (.tmp 94), none⟩])
  .ret))))))))))))
def a33 : AFunc := ⟨3, c33, [.tmp 6]⟩

/- 34: (tendril/posting.List).with -/
def c34 : ACode := (.seq (.ops [⟨(some 4), .box (.tmp 0), none⟩,
    ⟨(some 8), .new [.nilSlice], none⟩])
  (.seq (.draw [.op ⟨(some 9), .fieldAddr 0 (.tmp 4), none⟩,
    .op ⟨(some 10), .load false 1 (.tmp 9), none⟩,
    .op ⟨(some 11), .mov (.tmp 1), none⟩,
    .op ⟨(some 12), .slc 1 (.tmp 10) none (some (.tmp 11)) none, none⟩,
    .op ⟨(some 13), .mov (.tmp 3), none⟩,
    .op ⟨(some 14), .fieldAddr 0 (.tmp 4), none⟩,
    .op ⟨(some 15), .load false 1 (.tmp 14), none⟩,
    .op ⟨(some 16), .mov (.tmp 2), none⟩,
    .op ⟨(some 17), .slc 1 (.tmp 15) (some (.tmp 16)) none none, none⟩,
    .op ⟨(some 18), .buildSlice 1 3 [.nilSlice, .nilSlice, .nilSlice] [(0, 1, (.tmp 12)), (1, 1, (.tmp 13)), (2, 1, (.tmp 17))], none⟩,
    .look ⟨(some 10), .load false 1 (.tmp 9), none⟩,
    .look ⟨(some 15), .load false 1 (.tmp 14), none⟩,
    .look ⟨(some 18), .buildSlice 1 3 [.nilSlice, .nilSlice, .nilSlice] [(0, 1, (.tmp 12)), (1, 1, (.tmp 13)), (2, 1, (.tmp 17))], none⟩,
    .op ⟨(some 19), .call 45 [(.tmp 18)], none⟩,
    .op ⟨(some 20), .build [.nilSlice] [(0, 1, (.tmp 19))], none⟩,
    .op ⟨none, .store 1 (.tmp 8) (.tmp 20), none⟩])
  .ret))
def a34 : AFunc := ⟨4, c34, [.cell 8 true 1]⟩

/- 35: slices.Delete[[]int,int] -/
def c35 : ACode := (.seq (.ops [⟨(some 6), .mov (.con .nilSlice), none⟩])
  (.seq (.ops [⟨(some 8), .mov (.tmp 0), none⟩,
    ⟨(some 9), .mov (.tmp 1), none⟩,
    ⟨(some 10), .mov (.tmp 2), none⟩,
    ⟨(some 11), .mov (.tmp 0), none⟩,
    ⟨(some 12), .lenSlice (.tmp 11), none⟩,
    ⟨(some 13), .slc 1 (.tmp 8) (some (.tmp 9)) (some (.tmp 10)) (some (.tmp 12)), none⟩])
  (.seq (.seq (.ops [⟨(some 14), .mov (.tmp 1), none⟩,
    ⟨(some 15), .mov (.tmp 2), none⟩,
    ⟨(some 16), .bin .eql (.tmp 14) (.tmp 15), none⟩])
  (.cond (.tmp 16)
  (.seq (.ops [⟨(some 17), .mov (.tmp 0), none⟩,
    ⟨(some 6), .mov (.tmp 17), none⟩])
  .ret)
  .skip))
  (.seq (.ops [⟨(some 18), .mov (.tmp 0), none⟩,
    ⟨(some 19), .lenSlice (.tmp 18), none⟩,
    ⟨(some 7), .mov (.tmp 19), none⟩])
  (.seq (.ops [⟨(some 20), .mov (.tmp 0), none⟩,
    ⟨(some 21), .mov (.tmp 1), none⟩,
    ⟨(some 22), .slc 1 (.tmp 20) none (some (.tmp 21)) none, none⟩,
    ⟨(some 23), .mov (.tmp 0), none⟩,
    ⟨(some 24), .mov (.tmp 2), none⟩,
    ⟨(some 25), .slc 1 (.tmp 23) (some (.tmp 24)) none none, none⟩,
    ⟨(some 26), .append 1 8 (.tmp 22) (.tmp 25), none⟩,
    ⟨(some 0), .mov (.tmp 26), none⟩])
  (.seq (.ops [⟨(some 27), .mov (.tmp 0), none⟩,
    ⟨(some 28), .mov (.tmp 0), none⟩,
    ⟨(some 29), .lenSlice (.tmp 28), none⟩,
    ⟨(some 30), .mov (.tmp 7), none⟩,
    ⟨(some 31), .slc 1 (.tmp 27) (some (.tmp 29)) (some (.tmp 30)) none, none⟩,
    ⟨none, .clear 1 [(.int .i64 0)] (.tmp 31), none⟩])
  (.seq (.ops [⟨(some 32), .mov (.tmp 0), none⟩,
    ⟨(some 6), .mov (.tmp 32), none⟩])
  .ret)))))))
def a35 : AFunc := ⟨3, c35, [.tmp 6]⟩

/- 36: slices.Concat[[]int,int] -/
def c36l0 : ACode := (.seq (.ops [⟨(some 12), .bin .lss (.tmp 11) (.tmp 10), none⟩])
  (.seq (.cond (.tmp 12)
  .skip
  (.exit 0))
  (.seq (.block 1 (.seq (.ops [⟨(some 13), .idxAddr 1 (.tmp 9) (.tmp 11), none⟩,
    ⟨(some 14), .load false 1 (.tmp 13), none⟩,
    ⟨(some 5), .mov (.tmp 14), none⟩])
  (.seq (.ops [⟨(some 15), .mov (.tmp 3), none⟩,
    ⟨(some 16), .mov (.tmp 5), none⟩,
    ⟨(some 17), .lenSlice (.tmp 16), none⟩,
    ⟨(some 18), .bin .add (.tmp 15) (.tmp 17), none⟩,
    ⟨(some 3), .mov (.tmp 18), none⟩])
  (.seq (.ops [⟨(some 19), .mov (.tmp 3), none⟩,
    ⟨(some 20), .bin .lss (.tmp 19) (.con (.int .i64 0)), none⟩])
  (.cond (.tmp 20)
  (.ops [⟨(some 21), .mkIface 9 (.con (.str [108, 101, 110, 32, 111, 117, 116, 32, 111, 102, 32, 114, 97, 110, 103, 101])), none⟩,
    ⟨none, .stuck, none⟩])
  .skip)))))
  (.ops [⟨(some 22), .bin .add (.tmp 11) (.con (.int .i64 1)), none⟩,
    ⟨(some 11), .mov (.tmp 22), none⟩]))))
def c36l1 : ACode := (.seq (.ops [⟨(some 28), .bin .lss (.tmp 27) (.tmp 26), none⟩])
  (.seq (.cond (.tmp 28)
  .skip
  (.exit 2))
  (.seq (.block 3 (.seq (.ops [⟨(some 29), .idxAddr 1 (.tmp 25) (.tmp 27), none⟩,
    ⟨(some 30), .load false 1 (.tmp 29), none⟩,
    ⟨(some 8), .mov (.tmp 30), none⟩])
  (.ops [⟨(some 31), .mov (.tmp 6), none⟩,
    ⟨(some 32), .mov (.tmp 8), none⟩,
    ⟨(some 33), .append 1 8 (.tmp 31) (.tmp 32), none⟩,
    ⟨(some 6), .mov (.tmp 33), none⟩])))
  (.ops [⟨(some 34), .bin .add (.tmp 27) (.con (.int .i64 1)), none⟩,
    ⟨(some 27), .mov (.tmp 34), none⟩]))))
def c36 : ACode := (.seq (.ops [⟨(some 2), .mov (.con .nilSlice), none⟩])
  (.seq (.ops [⟨(some 3), .mov (.con (.int .i64 0)), none⟩])
  (.seq (.seq (.ops [⟨(some 9), .mov (.tmp 0), none⟩,
    ⟨(some 10), .lenSlice (.tmp 9), none⟩,
    ⟨(some 11), .mov (.con (.int .i64 0)), none⟩])
  (.block 0 (.loop c36l0)))
  (.seq (.ops [⟨(some 23), .mov (.tmp 3), none⟩,
    ⟨(some 24), .call 46 [(.con .nilSlice), (.tmp 23)], none⟩,
    ⟨(some 6), .mov (.tmp 24), none⟩])
  (.seq (.seq (.ops [⟨(some 25), .mov (.tmp 0), none⟩,
    ⟨(some 26), .lenSlice (.tmp 25), none⟩,
    ⟨(some 27), .mov (.con (.int .i64 0)), none⟩])
  (.block 2 (.loop c36l1)))
  (.seq (.ops [⟨(some 35), .mov (.tmp 6), none⟩,
    ⟨(some 2), .mov (.tmp 35), none⟩])
  .ret))))))
def a36 : AFunc := ⟨1, c36, [.tmp 2]⟩

/- 37: tendril/tendrilref19.RightList -/
def c37l0 : ACode := (.seq (.ops [⟨(some 9), .bin .lss (.tmp 8) (.tmp 7), none⟩])
  (.seq (.cond (.tmp 9)
  .skip
  (.exit 0))
  (.seq (.block 1 (.seq (.ops [⟨(some 10), .idxAddr 1 (.tmp 6) (.tmp 8), none⟩,
    ⟨(some 11), .load false 1 (.tmp 10), none⟩,
    ⟨(some 5), .mov (.tmp 11), none⟩])
  (.seq (.seq (.ops [⟨(some 12), .mov (.tmp 5), none⟩,
    ⟨(some 13), .call 47 [(.tmp 12)], none⟩,
    ⟨(some 14), .un .not (.tmp 13), none⟩,
    ⟨(some 15), .mov (.tmp 14), none⟩,
    ⟨(some 16), .mov (.tmp 5), (some (15, false))⟩,
    ⟨(some 17), .idxAddr 1 (.tmp 16) (.con (.int .i64 0)), (some (15, false))⟩,
    ⟨(some 18), .load false 1 (.tmp 17), (some (15, false))⟩,
    ⟨(some 19), .mov (.tmp 3), (some (15, false))⟩,
    ⟨(some 20), .bin .leq (.tmp 18) (.tmp 19), (some (15, false))⟩,
    ⟨(some 21), .pick (.tmp 15) (.con (.bool true)) (.tmp 20), none⟩])
  (.cond (.tmp 21)
  (.seq (.ops [⟨(some 2), .mov (.con (.bool false)), none⟩])
  .ret)
  .skip))
  (.ops [⟨(some 22), .mov (.tmp 5), none⟩,
    ⟨(some 23), .mov (.tmp 5), none⟩,
    ⟨(some 24), .lenSlice (.tmp 23), none⟩,
    ⟨(some 25), .bin .sub (.tmp 24) (.con (.int .i64 1)), none⟩,
    ⟨(some 26), .idxAddr 1 (.tmp 22) (.tmp 25), none⟩,
    ⟨(some 27), .load false 1 (.tmp 26), none⟩,
    ⟨(some 3), .mov (.tmp 27), none⟩]))))
  (.ops [⟨(some 28), .bin .add (.tmp 8) (.con (.int .i64 1)), none⟩,
    ⟨(some 8), .mov (.tmp 28), none⟩]))))
def c37 : ACode := (.seq (.ops [⟨(some 2), .mov (.con (.bool false)), none⟩])
  (.seq (.ops [⟨(some 3), .mov (.con (.int .i64 (-1))), none⟩])
  (.seq (.seq (.ops [⟨(some 6), .mov (.tmp 0), none⟩,
    ⟨(some 7), .lenSlice (.tmp 6), none⟩,
    ⟨(some 8), .mov (.con (.int .i64 0)), none⟩])
  (.block 0 (.loop c37l0)))
  (.seq (.ops [⟨(some 2), .mov (.con (.bool true)), none⟩])
  .ret))))
def a37 : AFunc := ⟨1, c37, [.tmp 2]⟩

/- 38: tendril/tendrilref19.copied -/
def c38l0 : ACode := (.seq (.ops [⟨(some 9), .bin .lss (.tmp 8) (.tmp 7), none⟩])
  (.seq (.cond (.tmp 9)
  .skip
  (.exit 0))
  (.seq (.block 1 (.seq (.ops [⟨(some 10), .idxAddr 1 (.tmp 6) (.tmp 8), none⟩,
    ⟨(some 11), .load false 1 (.tmp 10), none⟩,
    ⟨(some 5), .mov (.tmp 11), none⟩])
  (.ops [⟨(some 12), .mov (.tmp 3), none⟩,
    ⟨(some 13), .buildSlice 1 0 [] [], none⟩,
    ⟨(some 14), .mov (.tmp 5), none⟩,
    ⟨(some 15), .append 1 8 (.tmp 13) (.tmp 14), none⟩,
    ⟨(some 16), .buildSlice 1 1 [.nilSlice] [(0, 1, (.tmp 15))], none⟩,
    ⟨(some 17), .append 1 24 (.tmp 12) (.tmp 16), none⟩,
    ⟨(some 3), .mov (.tmp 17), none⟩])))
  (.ops [⟨(some 18), .bin .add (.tmp 8) (.con (.int .i64 1)), none⟩,
    ⟨(some 8), .mov (.tmp 18), none⟩]))))
def c38 : ACode := (.seq (.ops [⟨(some 2), .mov (.con .nilSlice), none⟩])
  (.seq (.ops [⟨(some 3), .mov (.con .nilSlice), none⟩])
  (.seq (.seq (.ops [⟨(some 6), .mov (.tmp 0), none⟩,
    ⟨(some 7), .lenSlice (.tmp 6), none⟩,
    ⟨(some 8), .mov (.con (.int .i64 0)), none⟩])
  (.block 0 (.loop c38l0)))
  (.seq (.ops [⟨(some 19), .mov (.tmp 3), none⟩,
    ⟨(some 2), .mov (.tmp 19), none⟩])
  .ret))))
def a38 : AFunc := ⟨1, c38, [.tmp 2]⟩

/- 39: tendril/tendrilref19.at -/
def c39l0 : ACode := (.seq (.ops [⟨(some 10), .bin .lss (.tmp 9) (.tmp 8), none⟩])
  (.seq (.cond (.tmp 10)
  .skip
  (.exit 0))
  (.seq (.block 1 (.seq (.ops [⟨(some 11), .mov (.tmp 9), none⟩,
    ⟨(some 6), .mov (.tmp 11), none⟩])
  (.seq (.ops [⟨(some 12), .mov (.tmp 0), none⟩,
    ⟨(some 13), .mov (.tmp 6), none⟩,
    ⟨(some 14), .idxAddr 1 (.tmp 12) (.tmp 13), none⟩,
    ⟨(some 15), .load false 1 (.tmp 14), none⟩,
    ⟨(some 16), .idxAddr 1 (.tmp 15) (.con (.int .i64 0)), none⟩,
    ⟨(some 17), .load false 1 (.tmp 16), none⟩,
    ⟨(some 18), .mov (.tmp 1), none⟩,
    ⟨(some 19), .bin .leq (.tmp 17) (.tmp 18), none⟩])
  (.cond (.tmp 19)
  (.ops [⟨(some 20), .mov (.tmp 6), none⟩,
    ⟨(some 5), .mov (.tmp 20), none⟩])
  .skip))))
  (.ops [⟨(some 21), .bin .add (.tmp 9) (.con (.int .i64 1)), none⟩,
    ⟨(some 9), .mov (.tmp 21), none⟩]))))
def c39 : ACode := (.seq (.ops [⟨(some 4), .mov (.con (.int .i64 0)), none⟩])
  (.seq (.ops [⟨(some 5), .mov (.con (.int .i64 0)), none⟩])
  (.seq (.seq (.ops [⟨(some 7), .mov (.tmp 0), none⟩,
    ⟨(some 8), .lenSlice (.tmp 7), none⟩,
    ⟨(some 9), .mov (.con (.int .i64 0)), none⟩])
  (.block 0 (.loop c39l0)))
  (.seq (.ops [⟨(some 22), .mov (.tmp 5), none⟩,
    ⟨(some 4), .mov (.tmp 22), none⟩])
  .ret))))
def a39 : AFunc := ⟨2, c39, [.tmp 4]⟩

/- 40: slices.Chunk[[]int,int]$1 -/
def c40l0 : ACode := (.seq (.seq (.ops [⟨(some 6), .mov (.tmp 4), none⟩,
    ⟨(some 7), .load false 1 (.tmp 1), none⟩,
    ⟨(some 8), .lenSlice (.tmp 7), none⟩,
    ⟨(some 9), .bin .lss (.tmp 6) (.tmp 8), none⟩])
  (.cond (.tmp 9)
  .skip
  (.exit 0)))
  (.seq (.block 1 (.seq (.ops [⟨(some 13), .load false 1 (.tmp 2), none⟩,
    ⟨(some 14), .load false 1 (.tmp 1), none⟩,
    ⟨(some 15), .mov (.tmp 4), none⟩,
    ⟨(some 16), .slc 1 (.tmp 14) (some (.tmp 15)) none none, none⟩,
    ⟨(some 17), .lenSlice (.tmp 16), none⟩,
    ⟨(some 18), .mnx false [(.tmp 13), (.tmp 17)], none⟩,
    ⟨(some 5), .mov (.tmp 18), none⟩])
  (.seq (.ops [⟨(some 19), .mov (.tmp 0), none⟩,
    ⟨(some 20), .load false 1 (.tmp 1), none⟩,
    ⟨(some 21), .mov (.tmp 4), none⟩,
    ⟨(some 22), .mov (.tmp 4), none⟩,
    ⟨(some 23), .mov (.tmp 5), none⟩,
    ⟨(some 24), .bin .add (.tmp 22) (.tmp 23), none⟩,
    ⟨(some 25), .mov (.tmp 4), none⟩,
    ⟨(some 26), .mov (.tmp 5), none⟩,
    ⟨(some 27), .bin .add (.tmp 25) (.tmp 26), none⟩,
    ⟨(some 28), .slc 1 (.tmp 20) (some (.tmp 21)) (some (.tmp 24)) (some (.tmp 27)), none⟩,
    ⟨(some 29), .callV (.tmp 19) [(.tmp 28)], none⟩,
    ⟨(some 30), .un .not (.tmp 29), none⟩])
  (.cond (.tmp 30)
  .ret
  .skip))))
  (.ops [⟨(some 10), .mov (.tmp 4), none⟩,
    ⟨(some 11), .load false 1 (.tmp 2), none⟩,
    ⟨(some 12), .bin .add (.tmp 10) (.tmp 11), none⟩,
    ⟨(some 4), .mov (.tmp 12), none⟩])))
def c40 : ACode := (.seq (.ops [⟨(some 4), .mov (.con (.int .i64 0)), none⟩])
  (.block 0 (.loop c40l0)))
def a40 : AFunc := ⟨3, c40, []⟩

/- 41: (tendril/posting.List).block -/
def c41 : ACode := (.seq (.ops [⟨(some 2), .box (.tmp 0), none⟩,
    ⟨(some 4), .mov (.con (.int .i64 0)), none⟩])
  (.seq (.ops [⟨(some 8), .fieldAddr 0 (.tmp 2), none⟩,
    ⟨(some 9), .load false 1 (.tmp 8), none⟩,
    ⟨(some 10), .mov (.tmp 1), none⟩,
    ⟨(some 11), .call 48 [(.tmp 9), (.tmp 10), (.con (.func (.func 49) [] []))], none⟩,
    ⟨(some 7), .mov (.tmp 11), none⟩,
    ⟨(some 12), .extract (.tmp 7) 0, none⟩,
    ⟨(some 13), .extract (.tmp 7) 1, none⟩,
    ⟨(some 5), .mov (.tmp 12), none⟩,
    ⟨(some 6), .mov (.tmp 13), none⟩])
  (.seq (.ops [⟨(some 14), .mov (.tmp 5), none⟩,
    ⟨(some 15), .bin .sub (.tmp 14) (.con (.int .i64 1)), none⟩,
    ⟨(some 16), .mnx true [(.tmp 15), (.con (.int .i64 0))], none⟩,
    ⟨(some 4), .mov (.tmp 16), none⟩])
  .ret)))
def a41 : AFunc := ⟨2, c41, [.tmp 4]⟩

/- 42: slices.BinarySearch[[]int,int] -/
def c42l0 : ACode := (.seq (.seq (.ops [⟨(some 13), .mov (.tmp 7), none⟩,
    ⟨(some 14), .mov (.tmp 8), none⟩,
    ⟨(some 15), .bin .lss (.tmp 13) (.tmp 14), none⟩])
  (.cond (.tmp 15)
  .skip
  (.exit 0)))
  (.block 1 (.seq (.ops [⟨(some 16), .mov (.tmp 7), none⟩,
    ⟨(some 17), .mov (.tmp 8), none⟩,
    ⟨(some 18), .bin .add (.tmp 16) (.tmp 17), none⟩,
    ⟨(some 19), .toInt .u64 (.tmp 18), none⟩,
    ⟨(some 20), .bin .shr (.tmp 19) (.con (.int .u64 1)), none⟩,
    ⟨(some 21), .toInt .i64 (.tmp 20), none⟩,
    ⟨(some 9), .mov (.tmp 21), none⟩])
  (.seq (.ops [⟨(some 22), .mov (.tmp 0), none⟩,
    ⟨(some 23), .mov (.tmp 9), none⟩,
    ⟨(some 24), .idxAddr 1 (.tmp 22) (.tmp 23), none⟩,
    ⟨(some 25), .load false 1 (.tmp 24), none⟩,
    ⟨(some 26), .mov (.tmp 1), none⟩,
    ⟨(some 27), .call 50 [(.tmp 25), (.tmp 26)], none⟩])
  (.cond (.tmp 27)
  (.ops [⟨(some 28), .mov (.tmp 9), none⟩,
    ⟨(some 29), .bin .add (.tmp 28) (.con (.int .i64 1)), none⟩,
    ⟨(some 7), .mov (.tmp 29), none⟩])
  (.ops [⟨(some 30), .mov (.tmp 9), none⟩,
    ⟨(some 8), .mov (.tmp 30), none⟩]))))))
def c42 : ACode := (.seq (.ops [⟨(some 4), .mov (.con (.int .i64 0)), none⟩,
    ⟨(some 5), .mov (.con (.bool false)), none⟩])
  (.seq (.ops [⟨(some 10), .mov (.tmp 0), none⟩,
    ⟨(some 11), .lenSlice (.tmp 10), none⟩,
    ⟨(some 6), .mov (.tmp 11), none⟩])
  (.seq (.ops [⟨(some 12), .mov (.tmp 6), none⟩,
    ⟨(some 7), .mov (.con (.int .i64 0)), none⟩,
    ⟨(some 8), .mov (.tmp 12), none⟩])
  (.seq (.block 0 (.loop c42l0))
  (.seq (.ops [⟨(some 31), .mov (.tmp 7), none⟩,
    ⟨(some 32), .mov (.tmp 7), none⟩,
    ⟨(some 33), .mov (.tmp 6), none⟩,
    ⟨(some 34), .bin .lss (.tmp 32) (.tmp 33), none⟩,
    ⟨(some 35), .mov (.tmp 34), none⟩,
    ⟨(some 36), .mov (.tmp 0), (some (35, true))⟩,
    ⟨(some 37), .mov (.tmp 7), (some (35, true))⟩,
    ⟨(some 38), .idxAddr 1 (.tmp 36) (.tmp 37), (some (35, true))⟩,
    ⟨(some 39), .load false 1 (.tmp 38), (some (35, true))⟩,
    ⟨(some 40), .mov (.tmp 1), (some (35, true))⟩,
    ⟨(some 41), .bin .eql (.tmp 39) (.tmp 40), (some (35, true))⟩,
    ⟨(some 42), .mov (.tmp 41), (some (35, true))⟩,
    ⟨(some 43), .mov (.tmp 0), (some (42, false))⟩,
    ⟨(some 44), .mov (.tmp 7), (some (42, false))⟩,
    ⟨(some 45), .idxAddr 1 (.tmp 43) (.tmp 44), (some (42, false))⟩,
    ⟨(some 46), .load false 1 (.tmp 45), (some (42, false))⟩,
    ⟨(some 47), .call 51 [(.tmp 46)], (some (42, false))⟩,
    ⟨(some 48), .mov (.tmp 47), (some (42, false))⟩,
    ⟨(some 49), .mov (.tmp 1), (some (48, true))⟩,
    ⟨(some 50), .call 51 [(.tmp 49)], (some (48, true))⟩,
    ⟨(some 51), .pick (.tmp 48) (.tmp 50) (.con (.bool false)), (some (42, false))⟩,
    ⟨(some 52), .pick (.tmp 42) (.con (.bool true)) (.tmp 51), (some (35, true))⟩,
    ⟨(some 53), .pick (.tmp 35) (.tmp 52) (.con (.bool false)), none⟩,
    ⟨(some 4), .mov (.tmp 31), none⟩,
    ⟨(some 5), .mov (.tmp 53), none⟩])
  .ret)))))
def a42 : AFunc := ⟨2, c42, [.tmp 4, .tmp 5]⟩
/- 43 slices.overlaps[int]: no body, not compiled -/

/- 44: slices.rotateRight[int] -/
def c44 : ACode := (.ops [⟨(some 4), .mov (.tmp 0), none⟩,
    ⟨(some 5), .mov (.tmp 0), none⟩,
    ⟨(some 6), .lenSlice (.tmp 5), none⟩,
    ⟨(some 7), .mov (.tmp 1), none⟩,
    ⟨(some 8), .bin .sub (.tmp 6) (.tmp 7), none⟩,
    ⟨(some 9), .call 52 [(.tmp 4), (.tmp 8)], none⟩])
def a44 : AFunc := ⟨2, c44, []⟩

/- 45: slices.Concat[[][]int,[]int] -/
def c45l0 : ACode := (.seq (.ops [⟨(some 12), .bin .lss (.tmp 11) (.tmp 10), none⟩])
  (.seq (.cond (.tmp 12)
  .skip
  (.exit 0))
  (.seq (.block 1 (.seq (.ops [⟨(some 13), .idxAddr 1 (.tmp 9) (.tmp 11), none⟩,
    ⟨(some 14), .load false 1 (.tmp 13), none⟩,
    ⟨(some 5), .mov (.tmp 14), none⟩])
  (.seq (.ops [⟨(some 15), .mov (.tmp 3), none⟩,
    ⟨(some 16), .mov (.tmp 5), none⟩,
    ⟨(some 17), .lenSlice (.tmp 16), none⟩,
    ⟨(some 18), .bin .add (.tmp 15) (.tmp 17), none⟩,
    ⟨(some 3), .mov (.tmp 18), none⟩])
  (.seq (.ops [⟨(some 19), .mov (.tmp 3), none⟩,
    ⟨(some 20), .bin .lss (.tmp 19) (.con (.int .i64 0)), none⟩])
  (.cond (.tmp 20)
  (.ops [⟨(some 21), .mkIface 9 (.con (.str [108, 101, 110, 32, 111, 117, 116, 32, 111, 102, 32, 114, 97, 110, 103, 101])), none⟩,
    ⟨none, .stuck, none⟩])
  .skip)))))
  (.ops [⟨(some 22), .bin .add (.tmp 11) (.con (.int .i64 1)), none⟩,
    ⟨(some 11), .mov (.tmp 22), none⟩]))))
def c45l1 : ACode := (.seq (.ops [⟨(some 28), .bin .lss (.tmp 27) (.tmp 26), none⟩])
  (.seq (.cond (.tmp 28)
  .skip
  (.exit 2))
  (.seq (.block 3 (.seq (.ops [⟨(some 29), .idxAddr 1 (.tmp 25) (.tmp 27), none⟩,
    ⟨(some 30), .load false 1 (.tmp 29), none⟩,
    ⟨(some 8), .mov (.tmp 30), none⟩])
  (.ops [⟨(some 31), .mov (.tmp 6), none⟩,
    ⟨(some 32), .mov (.tmp 8), none⟩,
    ⟨(some 33), .append 1 24 (.tmp 31) (.tmp 32), none⟩,
    ⟨(some 6), .mov (.tmp 33), none⟩])))
  (.ops [⟨(some 34), .bin .add (.tmp 27) (.con (.int .i64 1)), none⟩,
    ⟨(some 27), .mov (.tmp 34), none⟩]))))
def c45 : ACode := (.seq (.ops [⟨(some 2), .mov (.con .nilSlice), none⟩])
  (.seq (.ops [⟨(some 3), .mov (.con (.int .i64 0)), none⟩])
  (.seq (.seq (.ops [⟨(some 9), .mov (.tmp 0), none⟩,
    ⟨(some 10), .lenSlice (.tmp 9), none⟩,
    ⟨(some 11), .mov (.con (.int .i64 0)), none⟩])
  (.block 0 (.loop c45l0)))
  (.seq (.ops [⟨(some 23), .mov (.tmp 3), none⟩,
    ⟨(some 24), .call 53 [(.con .nilSlice), (.tmp 23)], none⟩,
    ⟨(some 6), .mov (.tmp 24), none⟩])
  (.seq (.seq (.ops [⟨(some 25), .mov (.tmp 0), none⟩,
    ⟨(some 26), .lenSlice (.tmp 25), none⟩,
    ⟨(some 27), .mov (.con (.int .i64 0)), none⟩])
  (.block 2 (.loop c45l1)))
  (.seq (.ops [⟨(some 35), .mov (.tmp 6), none⟩,
    ⟨(some 2), .mov (.tmp 35), none⟩])
  .ret))))))
def a45 : AFunc := ⟨1, c45, [.tmp 2]⟩

/- 46: slices.Grow[[]int,int] -/
def c46 : ACode := (.seq (.ops [⟨(some 4), .mov (.con .nilSlice), none⟩])
  (.seq (.seq (.ops [⟨(some 5), .mov (.tmp 1), none⟩,
    ⟨(some 6), .bin .lss (.tmp 5) (.con (.int .i64 0)), none⟩])
  (.cond (.tmp 6)
  (.ops [⟨(some 7), .mkIface 9 (.con (.str [99, 97, 110, 110, 111, 116, 32, 98, 101, 32, 110, 101, 103, 97, 116, 105, 118, 101])), none⟩,
    ⟨none, .stuck, none⟩])
  .skip))
  (.seq (.seq (.ops [⟨(some 8), .mov (.tmp 1), none⟩,
    ⟨(some 9), .mov (.tmp 0), none⟩,
    ⟨(some 10), .capSlice (.tmp 9), none⟩,
    ⟨(some 11), .mov (.tmp 0), none⟩,
    ⟨(some 12), .lenSlice (.tmp 11), none⟩,
    ⟨(some 13), .bin .sub (.tmp 10) (.tmp 12), none⟩,
    ⟨(some 14), .bin .sub (.tmp 8) (.tmp 13), none⟩,
    ⟨(some 1), .mov (.tmp 14), none⟩])
  (.seq (.ops [⟨(some 15), .mov (.tmp 1), none⟩,
    ⟨(some 16), .bin .gtr (.tmp 15) (.con (.int .i64 0)), none⟩])
  (.cond (.tmp 16)
  (.ops [⟨(some 17), .mov (.tmp 0), none⟩,
    ⟨(some 18), .mov (.tmp 0), none⟩,
    ⟨(some 19), .capSlice (.tmp 18), none⟩,
    ⟨(some 20), .slc 1 (.tmp 17) none (some (.tmp 19)) none, none⟩,
    ⟨(some 21), .mov (.tmp 1), none⟩,
    ⟨(some 22), .appendZ 1 8 [(.int .i64 0)] (.tmp 20) (.tmp 21), none⟩,
    ⟨(some 23), .mov (.tmp 0), none⟩,
    ⟨(some 24), .lenSlice (.tmp 23), none⟩,
    ⟨(some 25), .slc 1 (.tmp 22) none (some (.tmp 24)) none, none⟩,
    ⟨(some 0), .mov (.tmp 25), none⟩])
  .skip)))
  (.seq (.ops [⟨(some 26), .mov (.tmp 0), none⟩,
    ⟨(some 4), .mov (.tmp 26), none⟩])
  .ret))))
def a46 : AFunc := ⟨2, c46, [.tmp 4]⟩

/- 47: tendril/tendrilref19.RightIds -/
def c47l0 : ACode := (.seq (.ops [⟨(some 8), .bin .lss (.tmp 7) (.tmp 6), none⟩])
  (.seq (.cond (.tmp 8)
  .skip
  (.exit 0))
  (.seq (.block 1 (.seq (.ops [⟨(some 9), .mov (.tmp 7), none⟩,
    ⟨(some 10), .idxAddr 1 (.tmp 5) (.tmp 7), none⟩,
    ⟨(some 11), .load false 1 (.tmp 10), none⟩,
    ⟨(some 3), .mov (.tmp 9), none⟩,
    ⟨(some 4), .mov (.tmp 11), none⟩])
  (.seq (.ops [⟨(some 12), .mov (.tmp 4), none⟩,
    ⟨(some 13), .bin .lss (.tmp 12) (.con (.int .i64 0)), none⟩,
    ⟨(some 14), .mov (.tmp 13), none⟩,
    ⟨(some 15), .mov (.tmp 4), (some (14, false))⟩,
    ⟨(some 16), .bin .gtr (.tmp 15) (.con (.int .i64 1073741824)), (some (14, false))⟩,
    ⟨(some 17), .pick (.tmp 14) (.con (.bool true)) (.tmp 16), none⟩,
    ⟨(some 18), .mov (.tmp 17), none⟩,
    ⟨(some 19), .mov (.tmp 3), (some (18, false))⟩,
    ⟨(some 20), .bin .gtr (.tmp 19) (.con (.int .i64 0)), (some (18, false))⟩,
    ⟨(some 21), .mov (.tmp 20), (some (18, false))⟩,
    ⟨(some 22), .mov (.tmp 4), (some (21, true))⟩,
    ⟨(some 23), .mov (.tmp 0), (some (21, true))⟩,
    ⟨(some 24), .mov (.tmp 3), (some (21, true))⟩,
    ⟨(some 25), .bin .sub (.tmp 24) (.con (.int .i64 1)), (some (21, true))⟩,
    ⟨(some 26), .idxAddr 1 (.tmp 23) (.tmp 25), (some (21, true))⟩,
    ⟨(some 27), .load false 1 (.tmp 26), (some (21, true))⟩,
    ⟨(some 28), .bin .leq (.tmp 22) (.tmp 27), (some (21, true))⟩,
    ⟨(some 29), .pick (.tmp 21) (.tmp 28) (.con (.bool false)), (some (18, false))⟩,
    ⟨(some 30), .pick (.tmp 18) (.con (.bool true)) (.tmp 29), none⟩])
  (.cond (.tmp 30)
  (.seq (.ops [⟨(some 2), .mov (.con (.bool false)), none⟩])
  .ret)
  .skip))))
  (.ops [⟨(some 31), .bin .add (.tmp 7) (.con (.int .i64 1)), none⟩,
    ⟨(some 7), .mov (.tmp 31), none⟩]))))
def c47 : ACode := (.seq (.ops [⟨(some 2), .mov (.con (.bool false)), none⟩])
  (.seq (.seq (.ops [⟨(some 5), .mov (.tmp 0), none⟩,
    ⟨(some 6), .lenSlice (.tmp 5), none⟩,
    ⟨(some 7), .mov (.con (.int .i64 0)), none⟩])
  (.block 0 (.loop c47l0)))
  (.seq (.ops [⟨(some 32), .mov (.tmp 0), none⟩,
    ⟨(some 33), .lenSlice (.tmp 32), none⟩,
    ⟨(some 34), .bin .geq (.tmp 33) (.con (.int .i64 1)), none⟩,
    ⟨(some 35), .mov (.tmp 34), none⟩,
    ⟨(some 36), .mov (.tmp 0), (some (35, true))⟩,
    ⟨(some 37), .lenSlice (.tmp 36), (some (35, true))⟩,
    ⟨(some 38), .bin .leq (.tmp 37) (.con (.int .i64 16)), (some (35, true))⟩,
    ⟨(some 39), .pick (.tmp 35) (.tmp 38) (.con (.bool false)), none⟩,
    ⟨(some 2), .mov (.tmp 39), none⟩])
  .ret)))
def a47 : AFunc := ⟨1, c47, [.tmp 2]⟩

/- 48: slices.BinarySearchFunc[[][]int,[]int,int] -/
def c48l0 : ACode := (.seq (.seq (.ops [⟨(some 15), .mov (.tmp 9), none⟩,
    ⟨(some 16), .mov (.tmp 10), none⟩,
    ⟨(some 17), .bin .lss (.tmp 15) (.tmp 16), none⟩])
  (.cond (.tmp 17)
  .skip
  (.exit 0)))
  (.block 1 (.seq (.ops [⟨(some 18), .mov (.tmp 9), none⟩,
    ⟨(some 19), .mov (.tmp 10), none⟩,
    ⟨(some 20), .bin .add (.tmp 18) (.tmp 19), none⟩,
    ⟨(some 21), .toInt .u64 (.tmp 20), none⟩,
    ⟨(some 22), .bin .shr (.tmp 21) (.con (.int .u64 1)), none⟩,
    ⟨(some 23), .toInt .i64 (.tmp 22), none⟩,
    ⟨(some 11), .mov (.tmp 23), none⟩])
  (.seq (.ops [⟨(some 24), .mov (.tmp 2), none⟩,
    ⟨(some 25), .mov (.tmp 0), none⟩,
    ⟨(some 26), .mov (.tmp 11), none⟩,
    ⟨(some 27), .idxAddr 1 (.tmp 25) (.tmp 26), none⟩,
    ⟨(some 28), .load false 1 (.tmp 27), none⟩,
    ⟨(some 29), .mov (.tmp 1), none⟩,
    ⟨(some 30), .callV (.tmp 24) [(.tmp 28), (.tmp 29)], none⟩,
    ⟨(some 31), .bin .lss (.tmp 30) (.con (.int .i64 0)), none⟩])
  (.cond (.tmp 31)
  (.ops [⟨(some 32), .mov (.tmp 11), none⟩,
    ⟨(some 33), .bin .add (.tmp 32) (.con (.int .i64 1)), none⟩,
    ⟨(some 9), .mov (.tmp 33), none⟩])
  (.ops [⟨(some 34), .mov (.tmp 11), none⟩,
    ⟨(some 10), .mov (.tmp 34), none⟩]))))))
def c48 : ACode := (.seq (.ops [⟨(some 6), .mov (.con (.int .i64 0)), none⟩,
    ⟨(some 7), .mov (.con (.bool false)), none⟩])
  (.seq (.ops [⟨(some 12), .mov (.tmp 0), none⟩,
    ⟨(some 13), .lenSlice (.tmp 12), none⟩,
    ⟨(some 8), .mov (.tmp 13), none⟩])
  (.seq (.ops [⟨(some 14), .mov (.tmp 8), none⟩,
    ⟨(some 9), .mov (.con (.int .i64 0)), none⟩,
    ⟨(some 10), .mov (.tmp 14), none⟩])
  (.seq (.block 0 (.loop c48l0))
  (.seq (.ops [⟨(some 35), .mov (.tmp 9), none⟩,
    ⟨(some 36), .mov (.tmp 9), none⟩,
    ⟨(some 37), .mov (.tmp 8), none⟩,
    ⟨(some 38), .bin .lss (.tmp 36) (.tmp 37), none⟩,
    ⟨(some 39), .mov (.tmp 38), none⟩,
    ⟨(some 40), .mov (.tmp 2), (some (39, true))⟩,
    ⟨(some 41), .mov (.tmp 0), (some (39, true))⟩,
    ⟨(some 42), .mov (.tmp 9), (some (39, true))⟩,
    ⟨(some 43), .idxAddr 1 (.tmp 41) (.tmp 42), (some (39, true))⟩,
    ⟨(some 44), .load false 1 (.tmp 43), (some (39, true))⟩,
    ⟨(some 45), .mov (.tmp 1), (some (39, true))⟩,
    ⟨(some 46), .callV (.tmp 40) [(.tmp 44), (.tmp 45)], (some (39, true))⟩,
    ⟨(some 47), .bin .eql (.tmp 46) (.con (.int .i64 0)), (some (39, true))⟩,
    ⟨(some 48), .pick (.tmp 39) (.tmp 47) (.con (.bool false)), none⟩,
    ⟨(some 6), .mov (.tmp 35), none⟩,
    ⟨(some 7), .mov (.tmp 48), none⟩])
  .ret)))))
def a48 : AFunc := ⟨3, c48, [.tmp 6, .tmp 7]⟩

/- 49: (tendril/posting.List).block$1 -/
def c49 : ACode := (.seq (.ops [⟨(some 4), .mov (.con (.int .i64 0)), none⟩])
  (.seq (.seq (.ops [⟨(some 5), .mov (.tmp 0), none⟩,
    ⟨(some 6), .idxAddr 1 (.tmp 5) (.con (.int .i64 0)), none⟩,
    ⟨(some 7), .load false 1 (.tmp 6), none⟩,
    ⟨(some 8), .mov (.tmp 1), none⟩,
    ⟨(some 9), .bin .leq (.tmp 7) (.tmp 8), none⟩])
  (.cond (.tmp 9)
  (.seq (.ops [⟨(some 4), .mov (.con (.int .i64 (-1))), none⟩])
  .ret)
  .skip))
  (.seq (.ops [⟨(some 4), .mov (.con (.int .i64 1)), none⟩])
  .ret)))
def a49 : AFunc := ⟨2, c49, [.tmp 4]⟩

/- 50: cmp.Less[int] -/
def c50 : ACode := (.seq (.ops [⟨(some 4), .mov (.con (.bool false)), none⟩])
  (.seq (.ops [⟨(some 5), .mov (.tmp 0), none⟩,
    ⟨(some 6), .call 54 [(.tmp 5)], none⟩,
    ⟨(some 7), .mov (.tmp 6), none⟩,
    ⟨(some 8), .mov (.tmp 1), (some (7, true))⟩,
    ⟨(some 9), .call 54 [(.tmp 8)], (some (7, true))⟩,
    ⟨(some 10), .un .not (.tmp 9), (some (7, true))⟩,
    ⟨(some 11), .pick (.tmp 7) (.tmp 10) (.con (.bool false)), none⟩,
    ⟨(some 12), .mov (.tmp 11), none⟩,
    ⟨(some 13), .mov (.tmp 0), (some (12, false))⟩,
    ⟨(some 14), .mov (.tmp 1), (some (12, false))⟩,
    ⟨(some 15), .bin .lss (.tmp 13) (.tmp 14), (some (12, false))⟩,
    ⟨(some 16), .pick (.tmp 12) (.con (.bool true)) (.tmp 15), none⟩,
    ⟨(some 4), .mov (.tmp 16), none⟩])
  .ret))
def a50 : AFunc := ⟨2, c50, [.tmp 4]⟩

/- 51: slices.isNaN[int] -/
def c51 : ACode := (.seq (.ops [⟨(some 2), .mov (.con (.bool false)), none⟩])
  (.seq (.ops [⟨(some 3), .mov (.tmp 0), none⟩,
    ⟨(some 4), .mov (.tmp 0), none⟩,
    ⟨(some 5), .bin .neq (.tmp 3) (.tmp 4), none⟩,
    ⟨(some 2), .mov (.tmp 5), none⟩])
  .ret))
def a51 : AFunc := ⟨1, c51, [.tmp 2]⟩

/- 52: slices.rotateLeft[int] -/
def c52 : ACode := (.seq (.ops [⟨(some 4), .mov (.tmp 0), none⟩,
    ⟨(some 5), .mov (.tmp 1), none⟩,
    ⟨(some 6), .slc 1 (.tmp 4) none (some (.tmp 5)) none, none⟩,
    ⟨(some 7), .call 55 [(.tmp 6)], none⟩])
  (.seq (.ops [⟨(some 8), .mov (.tmp 0), none⟩,
    ⟨(some 9), .mov (.tmp 1), none⟩,
    ⟨(some 10), .slc 1 (.tmp 8) (some (.tmp 9)) none none, none⟩,
    ⟨(some 11), .call 55 [(.tmp 10)], none⟩])
  (.ops [⟨(some 12), .mov (.tmp 0), none⟩,
    ⟨(some 13), .call 55 [(.tmp 12)], none⟩])))
def a52 : AFunc := ⟨2, c52, []⟩

/- 53: slices.Grow[[][]int,[]int] -/
def c53 : ACode := (.seq (.ops [⟨(some 4), .mov (.con .nilSlice), none⟩])
  (.seq (.seq (.ops [⟨(some 5), .mov (.tmp 1), none⟩,
    ⟨(some 6), .bin .lss (.tmp 5) (.con (.int .i64 0)), none⟩])
  (.cond (.tmp 6)
  (.ops [⟨(some 7), .mkIface 9 (.con (.str [99, 97, 110, 110, 111, 116, 32, 98, 101, 32, 110, 101, 103, 97, 116, 105, 118, 101])), none⟩,
    ⟨none, .stuck, none⟩])
  .skip))
  (.seq (.seq (.ops [⟨(some 8), .mov (.tmp 1), none⟩,
    ⟨(some 9), .mov (.tmp 0), none⟩,
    ⟨(some 10), .capSlice (.tmp 9), none⟩,
    ⟨(some 11), .mov (.tmp 0), none⟩,
    ⟨(some 12), .lenSlice (.tmp 11), none⟩,
    ⟨(some 13), .bin .sub (.tmp 10) (.tmp 12), none⟩,
    ⟨(some 14), .bin .sub (.tmp 8) (.tmp 13), none⟩,
    ⟨(some 1), .mov (.tmp 14), none⟩])
  (.seq (.ops [⟨(some 15), .mov (.tmp 1), none⟩,
    ⟨(some 16), .bin .gtr (.tmp 15) (.con (.int .i64 0)), none⟩])
  (.cond (.tmp 16)
  (.ops [⟨(some 17), .mov (.tmp 0), none⟩,
    ⟨(some 18), .mov (.tmp 0), none⟩,
    ⟨(some 19), .capSlice (.tmp 18), none⟩,
    ⟨(some 20), .slc 1 (.tmp 17) none (some (.tmp 19)) none, none⟩,
    ⟨(some 21), .mov (.tmp 1), none⟩,
    ⟨(some 22), .appendZ 1 24 [.nilSlice] (.tmp 20) (.tmp 21), none⟩,
    ⟨(some 23), .mov (.tmp 0), none⟩,
    ⟨(some 24), .lenSlice (.tmp 23), none⟩,
    ⟨(some 25), .slc 1 (.tmp 22) none (some (.tmp 24)) none, none⟩,
    ⟨(some 0), .mov (.tmp 25), none⟩])
  .skip)))
  (.seq (.ops [⟨(some 26), .mov (.tmp 0), none⟩,
    ⟨(some 4), .mov (.tmp 26), none⟩])
  .ret))))
def a53 : AFunc := ⟨2, c53, [.tmp 4]⟩

/- 54: cmp.isNaN[int] -/
def c54 : ACode := (.seq (.ops [⟨(some 2), .mov (.con (.bool false)), none⟩])
  (.seq (.ops [⟨(some 3), .mov (.tmp 0), none⟩,
    ⟨(some 4), .mov (.tmp 0), none⟩,
    ⟨(some 5), .bin .neq (.tmp 3) (.tmp 4), none⟩,
    ⟨(some 2), .mov (.tmp 5), none⟩])
  .ret))
def a54 : AFunc := ⟨1, c54, [.tmp 2]⟩

/- 55: slices.Reverse[[]int,int] -/
def c55l0 : ACode := (.seq (.seq (.ops [⟨(some 7), .mov (.tmp 2), none⟩,
    ⟨(some 8), .mov (.tmp 3), none⟩,
    ⟨(some 9), .bin .lss (.tmp 7) (.tmp 8), none⟩])
  (.cond (.tmp 9)
  .skip
  (.exit 0)))
  (.seq (.block 1 (.ops [⟨(some 14), .mov (.tmp 0), none⟩,
    ⟨(some 15), .mov (.tmp 2), none⟩,
    ⟨(some 16), .mov (.tmp 0), none⟩,
    ⟨(some 17), .mov (.tmp 3), none⟩,
    ⟨(some 18), .mov (.tmp 0), none⟩,
    ⟨(some 19), .mov (.tmp 3), none⟩,
    ⟨(some 20), .idxAddr 1 (.tmp 18) (.tmp 19), none⟩,
    ⟨(some 21), .load false 1 (.tmp 20), none⟩,
    ⟨(some 22), .mov (.tmp 0), none⟩,
    ⟨(some 23), .mov (.tmp 2), none⟩,
    ⟨(some 24), .idxAddr 1 (.tmp 22) (.tmp 23), none⟩,
    ⟨(some 25), .load false 1 (.tmp 24), none⟩,
    ⟨(some 26), .idxAddr 1 (.tmp 14) (.tmp 15), none⟩,
    ⟨none, .store 1 (.tmp 26) (.tmp 21), none⟩,
    ⟨(some 27), .idxAddr 1 (.tmp 16) (.tmp 17), none⟩,
    ⟨none, .store 1 (.tmp 27) (.tmp 25), none⟩]))
  (.ops [⟨(some 10), .mov (.tmp 2), none⟩,
    ⟨(some 11), .bin .add (.tmp 10) (.con (.int .i64 1)), none⟩,
    ⟨(some 12), .mov (.tmp 3), none⟩,
    ⟨(some 13), .bin .sub (.tmp 12) (.con (.int .i64 1)), none⟩,
    ⟨(some 2), .mov (.tmp 11), none⟩,
    ⟨(some 3), .mov (.tmp 13), none⟩])))
def c55 : ACode := (.seq (.ops [⟨(some 4), .mov (.tmp 0), none⟩,
    ⟨(some 5), .lenSlice (.tmp 4), none⟩,
    ⟨(some 6), .bin .sub (.tmp 5) (.con (.int .i64 1)), none⟩,
    ⟨(some 2), .mov (.con (.int .i64 0)), none⟩,
    ⟨(some 3), .mov (.tmp 6), none⟩])
  (.block 0 (.loop c55l0)))
def a55 : AFunc := ⟨1, c55, []⟩

/- rows -/
def table : Nat → Option AFunc
  | 3 => some a3
  | 5 => some a5
  | 6 => some a6
  | 9 => some a9
  | 11 => some a11
  | 12 => some a12
  | 13 => some a13
  | 14 => some a14
  | 15 => some a15
  | 16 => some a16
  | 17 => some a17
  | 18 => some a18
  | 19 => some a19
  | 20 => some a20
  | 21 => some a21
  | 22 => some a22
  | 23 => some a23
  | 24 => some a24
  | 25 => some a25
  | 26 => some a26
  | 27 => some a27
  | 28 => some a28
  | 29 => some a29
  | 30 => some a30
  | 31 => some a31
  | 32 => some a32
  | 33 => some a33
  | 34 => some a34
  | 35 => some a35
  | 36 => some a36
  | 37 => some a37
  | 38 => some a38
  | 39 => some a39
  | 40 => some a40
  | 41 => some a41
  | 42 => some a42
  | 44 => some a44
  | 45 => some a45
  | 46 => some a46
  | 47 => some a47
  | 48 => some a48
  | 49 => some a49
  | 50 => some a50
  | 51 => some a51
  | 52 => some a52
  | 53 => some a53
  | 54 => some a54
  | 55 => some a55
  | _ => none
theorem k3 : cFunc Try.prog Try.f3 = some a3 := by kernel_rfl
theorem k5 : cFunc Try.prog Try.f5 = some a5 := by kernel_rfl
theorem k6 : cFunc Try.prog Try.f6 = some a6 := by kernel_rfl
theorem k9 : cFunc Try.prog Try.f9 = some a9 := by kernel_rfl
theorem k11 : cFunc Try.prog Try.f11 = some a11 := by kernel_rfl
theorem k12 : cFunc Try.prog Try.f12 = some a12 := by kernel_rfl
theorem k13 : cFunc Try.prog Try.f13 = some a13 := by kernel_rfl
theorem k14 : cFunc Try.prog Try.f14 = some a14 := by kernel_rfl
theorem k15 : cFunc Try.prog Try.f15 = some a15 := by kernel_rfl
theorem k16 : cFunc Try.prog Try.f16 = some a16 := by kernel_rfl
theorem k17 : cFunc Try.prog Try.f17 = some a17 := by kernel_rfl
theorem k18 : cFunc Try.prog Try.f18 = some a18 := by kernel_rfl
theorem k19 : cFunc Try.prog Try.f19 = some a19 := by kernel_rfl
theorem k20 : cFunc Try.prog Try.f20 = some a20 := by kernel_rfl
theorem k21 : cFunc Try.prog Try.f21 = some a21 := by kernel_rfl
theorem k22 : cFunc Try.prog Try.f22 = some a22 := by kernel_rfl
theorem k23 : cFunc Try.prog Try.f23 = some a23 := by kernel_rfl
theorem k24 : cFunc Try.prog Try.f24 = some a24 := by kernel_rfl
theorem k25 : cFunc Try.prog Try.f25 = some a25 := by kernel_rfl
theorem k26 : cFunc Try.prog Try.f26 = some a26 := by kernel_rfl
theorem k27 : cFunc Try.prog Try.f27 = some a27 := by kernel_rfl
theorem k28 : cFunc Try.prog Try.f28 = some a28 := by kernel_rfl
theorem k29 : cFunc Try.prog Try.f29 = some a29 := by kernel_rfl
theorem k30 : cFunc Try.prog Try.f30 = some a30 := by kernel_rfl
theorem k31 : cFunc Try.prog Try.f31 = some a31 := by kernel_rfl
theorem k32 : cFunc Try.prog Try.f32 = some a32 := by kernel_rfl
theorem k33 : cFunc Try.prog Try.f33 = some a33 := by kernel_rfl
theorem k34 : cFunc Try.prog Try.f34 = some a34 := by kernel_rfl
theorem k35 : cFunc Try.prog Try.f35 = some a35 := by kernel_rfl
theorem k36 : cFunc Try.prog Try.f36 = some a36 := by kernel_rfl
theorem k37 : cFunc Try.prog Try.f37 = some a37 := by kernel_rfl
theorem k38 : cFunc Try.prog Try.f38 = some a38 := by kernel_rfl
theorem k39 : cFunc Try.prog Try.f39 = some a39 := by kernel_rfl
theorem k40 : cFunc Try.prog Try.f40 = some a40 := by kernel_rfl
theorem k41 : cFunc Try.prog Try.f41 = some a41 := by kernel_rfl
theorem k42 : cFunc Try.prog Try.f42 = some a42 := by kernel_rfl
theorem k44 : cFunc Try.prog Try.f44 = some a44 := by kernel_rfl
theorem k45 : cFunc Try.prog Try.f45 = some a45 := by kernel_rfl
theorem k46 : cFunc Try.prog Try.f46 = some a46 := by kernel_rfl
theorem k47 : cFunc Try.prog Try.f47 = some a47 := by kernel_rfl
theorem k48 : cFunc Try.prog Try.f48 = some a48 := by kernel_rfl
theorem k49 : cFunc Try.prog Try.f49 = some a49 := by kernel_rfl
theorem k50 : cFunc Try.prog Try.f50 = some a50 := by kernel_rfl
theorem k51 : cFunc Try.prog Try.f51 = some a51 := by kernel_rfl
theorem k52 : cFunc Try.prog Try.f52 = some a52 := by kernel_rfl
theorem k53 : cFunc Try.prog Try.f53 = some a53 := by kernel_rfl
theorem k54 : cFunc Try.prog Try.f54 = some a54 := by kernel_rfl
theorem k55 : cFunc Try.prog Try.f55 = some a55 := by kernel_rfl
theorem table_ok : ∀ g af, table g = some af → ∃ fn, Try.prog.funcs[g]? = some fn ∧ cFunc Try.prog fn = some af := by
  intro g af h
  unfold table at h
  split at h
  · cases h; exact ⟨Try.f3, Try.func3, k3⟩
  · cases h; exact ⟨Try.f5, Try.func5, k5⟩
  · cases h; exact ⟨Try.f6, Try.func6, k6⟩
  · cases h; exact ⟨Try.f9, Try.func9, k9⟩
  · cases h; exact ⟨Try.f11, Try.func11, k11⟩
  · cases h; exact ⟨Try.f12, Try.func12, k12⟩
  · cases h; exact ⟨Try.f13, Try.func13, k13⟩
  · cases h; exact ⟨Try.f14, Try.func14, k14⟩
  · cases h; exact ⟨Try.f15, Try.func15, k15⟩
  · cases h; exact ⟨Try.f16, Try.func16, k16⟩
  · cases h; exact ⟨Try.f17, Try.func17, k17⟩
  · cases h; exact ⟨Try.f18, Try.func18, k18⟩
  · cases h; exact ⟨Try.f19, Try.func19, k19⟩
  · cases h; exact ⟨Try.f20, Try.func20, k20⟩
  · cases h; exact ⟨Try.f21, Try.func21, k21⟩
  · cases h; exact ⟨Try.f22, Try.func22, k22⟩
  · cases h; exact ⟨Try.f23, Try.func23, k23⟩
  · cases h; exact ⟨Try.f24, Try.func24, k24⟩
  · cases h; exact ⟨Try.f25, Try.func25, k25⟩
  · cases h; exact ⟨Try.f26, Try.func26, k26⟩
  · cases h; exact ⟨Try.f27, Try.func27, k27⟩
  · cases h; exact ⟨Try.f28, Try.func28, k28⟩
  · cases h; exact ⟨Try.f29, Try.func29, k29⟩
  · cases h; exact ⟨Try.f30, Try.func30, k30⟩
  · cases h; exact ⟨Try.f31, Try.func31, k31⟩
  · cases h; exact ⟨Try.f32, Try.func32, k32⟩
  · cases h; exact ⟨Try.f33, Try.func33, k33⟩
  · cases h; exact ⟨Try.f34, Try.func34, k34⟩
  · cases h; exact ⟨Try.f35, Try.func35, k35⟩
  · cases h; exact ⟨Try.f36, Try.func36, k36⟩
  · cases h; exact ⟨Try.f37, Try.func37, k37⟩
  · cases h; exact ⟨Try.f38, Try.func38, k38⟩
  · cases h; exact ⟨Try.f39, Try.func39, k39⟩
  · cases h; exact ⟨Try.f40, Try.func40, k40⟩
  · cases h; exact ⟨Try.f41, Try.func41, k41⟩
  · cases h; exact ⟨Try.f42, Try.func42, k42⟩
  · cases h; exact ⟨Try.f44, Try.func44, k44⟩
  · cases h; exact ⟨Try.f45, Try.func45, k45⟩
  · cases h; exact ⟨Try.f46, Try.func46, k46⟩
  · cases h; exact ⟨Try.f47, Try.func47, k47⟩
  · cases h; exact ⟨Try.f48, Try.func48, k48⟩
  · cases h; exact ⟨Try.f49, Try.func49, k49⟩
  · cases h; exact ⟨Try.f50, Try.func50, k50⟩
  · cases h; exact ⟨Try.f51, Try.func51, k51⟩
  · cases h; exact ⟨Try.f52, Try.func52, k52⟩
  · cases h; exact ⟨Try.f53, Try.func53, k53⟩
  · cases h; exact ⟨Try.f54, Try.func54, k54⟩
  · cases h; exact ⟨Try.f55, Try.func55, k55⟩
  · cases h
end Go.Proofs.Yteokopjiaiflnaa

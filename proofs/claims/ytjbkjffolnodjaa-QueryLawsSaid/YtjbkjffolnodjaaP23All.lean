/- The abstract code of the functions that the laws reach, as a program printed it; each is what the compiler makes of the given function. -/
import Derived.Test.YtjbkjffolnodjaaVmZ
import Derived.Test.YtjbkjffolnodjaaVmS
import Derived.Test.YtjbkjffolnodjaaRows
namespace Go.Proofs.Ytjbkjffolnodjaa
open Go.Vm
/- 3: tendril/tendrillaw23.QueryRuns -/
def c3 : ACode := (.seq (.ops [⟨(some 0), .mov (.con (.bool false)), none⟩])
  (.seq (.ops [⟨(some 9), .call 8 [(.con (.str [97, 32, 33, 98, 32, 124, 32, 99]))], none⟩,
    ⟨(some 8), .mov (.tmp 9), none⟩,
    ⟨(some 10), .extract (.tmp 8) 0, none⟩,
    ⟨(some 11), .extract (.tmp 8) 1, none⟩,
    ⟨(some 1), .mov (.tmp 10), none⟩,
    ⟨(some 2), .mov (.tmp 11), none⟩])
  (.seq (.ops [⟨(some 13), .call 8 [(.con (.str [97, 32, 38]))], none⟩,
    ⟨(some 12), .mov (.tmp 13), none⟩,
    ⟨(some 14), .extract (.tmp 12) 0, none⟩,
    ⟨(some 15), .extract (.tmp 12) 1, none⟩,
    ⟨(some 3), .mov (.tmp 14), none⟩,
    ⟨(some 4), .mov (.tmp 15), none⟩])
  (.seq (.ops [⟨(some 17), .call 8 [(.con (.str [41]))], none⟩,
    ⟨(some 16), .mov (.tmp 17), none⟩,
    ⟨(some 18), .extract (.tmp 16) 0, none⟩,
    ⟨(some 19), .extract (.tmp 16) 1, none⟩,
    ⟨(some 5), .mov (.tmp 18), none⟩,
    ⟨(some 6), .mov (.tmp 19), none⟩])
  (.seq (.ops [⟨(some 20), .mov (.tmp 1), none⟩,
    ⟨(some 21), .buildSlice 1 2 [(.int .i64 0), (.int .i64 0)] [(0, 1, (.con (.int .i64 1))), (1, 1, (.con (.int .i64 2)))], none⟩,
    ⟨(some 22), .buildSlice 1 1 [(.int .i64 0)] [(0, 1, (.con (.int .i64 2)))], none⟩,
    ⟨(some 23), .buildSlice 1 1 [(.int .i64 0)] [(0, 1, (.con (.int .i64 5)))], none⟩,
    ⟨(some 24), .buildSlice 1 3 [.nilSlice, .nilSlice, .nilSlice] [(0, 1, (.tmp 21)), (1, 1, (.tmp 22)), (2, 1, (.tmp 23))], none⟩,
    ⟨(some 25), .buildSlice 1 4 [(.int .i64 0), (.int .i64 0), (.int .i64 0), (.int .i64 0)] [(0, 1, (.con (.int .i64 1))), (1, 1, (.con (.int .i64 2))), (2, 1, (.con (.int .i64 3))), (3, 1, (.con (.int .i64 5)))], none⟩,
    ⟨(some 26), .call 9 [(.tmp 20), (.tmp 24), (.tmp 25)], none⟩,
    ⟨(some 7), .mov (.tmp 26), none⟩])
  (.seq (.ops [⟨(some 27), .mov (.tmp 2), none⟩,
    ⟨(some 28), .bin .eql (.tmp 27) (.con (.int .i64 0)), none⟩,
    ⟨(some 29), .mov (.tmp 28), none⟩,
    ⟨(some 30), .mov (.tmp 1), (some (29, true))⟩,
    ⟨(some 31), .call 10 [(.tmp 30)], (some (29, true))⟩,
    ⟨(some 32), .bin .eql (.tmp 31) (.con (.str [40, 40, 97, 38, 33, 98, 41, 124, 99, 41])), (some (29, true))⟩,
    ⟨(some 33), .pick (.tmp 29) (.tmp 32) (.con (.bool false)), none⟩,
    ⟨(some 34), .mov (.tmp 33), none⟩,
    ⟨(some 35), .mov (.tmp 4), (some (34, true))⟩,
    ⟨(some 36), .bin .eql (.tmp 35) (.con (.int .i64 7)), (some (34, true))⟩,
    ⟨(some 37), .pick (.tmp 34) (.tmp 36) (.con (.bool false)), none⟩,
    ⟨(some 38), .mov (.tmp 37), none⟩,
    ⟨(some 39), .mov (.tmp 6), (some (38, true))⟩,
    ⟨(some 40), .bin .eql (.tmp 39) (.con (.int .i64 7)), (some (38, true))⟩,
    ⟨(some 41), .pick (.tmp 38) (.tmp 40) (.con (.bool false)), none⟩,
    ⟨(some 42), .mov (.tmp 41), none⟩,
    ⟨(some 43), .mov (.tmp 7), (some (42, true))⟩,
    ⟨(some 44), .buildSlice 1 2 [(.int .i64 0), (.int .i64 0)] [(0, 1, (.con (.int .i64 1))), (1, 1, (.con (.int .i64 5)))], (some (42, true))⟩,
    ⟨(some 45), .call 11 [(.tmp 43), (.tmp 44)], (some (42, true))⟩,
    ⟨(some 46), .pick (.tmp 42) (.tmp 45) (.con (.bool false)), none⟩,
    ⟨(some 0), .mov (.tmp 46), none⟩])
  .ret))))))
def a3 : AFunc := ⟨0, c3, [.tmp 0]⟩

/- 4: tendril/tendrillaw23.QueryBack -/
def c4 : ACode := (.seq (.ops [⟨(some 2), .mov (.con (.bool false)), none⟩])
  (.seq (.seq (.ops [⟨(some 7), .mov (.tmp 0), none⟩,
    ⟨(some 8), .lenStr (.tmp 7), none⟩,
    ⟨(some 9), .bin .gtr (.tmp 8) (.con (.int .i64 200)), none⟩])
  (.cond (.tmp 9)
  (.ops [⟨(some 10), .mov (.tmp 0), none⟩,
    ⟨(some 11), .slcStr (.tmp 10) none (some (.con (.int .i64 200))), none⟩,
    ⟨(some 0), .mov (.tmp 11), none⟩])
  .skip))
  (.seq (.ops [⟨(some 13), .mov (.tmp 0), none⟩,
    ⟨(some 14), .call 8 [(.tmp 13)], none⟩,
    ⟨(some 12), .mov (.tmp 14), none⟩,
    ⟨(some 15), .extract (.tmp 12) 0, none⟩,
    ⟨(some 16), .extract (.tmp 12) 1, none⟩,
    ⟨(some 3), .mov (.tmp 15), none⟩,
    ⟨(some 4), .mov (.tmp 16), none⟩])
  (.seq (.seq (.ops [⟨(some 17), .mov (.tmp 4), none⟩,
    ⟨(some 18), .bin .neq (.tmp 17) (.con (.int .i64 0)), none⟩])
  (.cond (.tmp 18)
  (.seq (.ops [⟨(some 19), .mov (.tmp 3), none⟩,
    ⟨(some 20), .lenSlice (.tmp 19), none⟩,
    ⟨(some 21), .bin .eql (.tmp 20) (.con (.int .i64 0)), none⟩,
    ⟨(some 22), .mov (.tmp 21), none⟩,
    ⟨(some 23), .mov (.tmp 4), (some (22, true))⟩,
    ⟨(some 24), .bin .eql (.tmp 23) (.con (.int .i64 7)), (some (22, true))⟩,
    ⟨(some 25), .mov (.tmp 24), (some (22, true))⟩,
    ⟨(some 26), .mov (.tmp 4), (some (25, false))⟩,
    ⟨(some 27), .bin .eql (.tmp 26) (.con (.int .i64 6)), (some (25, false))⟩,
    ⟨(some 28), .pick (.tmp 25) (.con (.bool true)) (.tmp 27), (some (22, true))⟩,
    ⟨(some 29), .mov (.tmp 28), (some (22, true))⟩,
    ⟨(some 30), .mov (.tmp 4), (some (29, false))⟩,
    ⟨(some 31), .bin .eql (.tmp 30) (.con (.int .i64 11)), (some (29, false))⟩,
    ⟨(some 32), .pick (.tmp 29) (.con (.bool true)) (.tmp 31), (some (22, true))⟩,
    ⟨(some 33), .pick (.tmp 22) (.tmp 32) (.con (.bool false)), none⟩,
    ⟨(some 34), .mov (.tmp 33), none⟩,
    ⟨(some 35), .call 3 [], (some (34, true))⟩,
    ⟨(some 36), .pick (.tmp 34) (.tmp 35) (.con (.bool false)), none⟩,
    ⟨(some 2), .mov (.tmp 36), none⟩])
  .ret)
  .skip))
  (.seq (.ops [⟨(some 38), .mov (.tmp 3), none⟩,
    ⟨(some 39), .call 10 [(.tmp 38)], none⟩,
    ⟨(some 40), .call 8 [(.tmp 39)], none⟩,
    ⟨(some 37), .mov (.tmp 40), none⟩,
    ⟨(some 41), .extract (.tmp 37) 0, none⟩,
    ⟨(some 42), .extract (.tmp 37) 1, none⟩,
    ⟨(some 5), .mov (.tmp 41), none⟩,
    ⟨(some 6), .mov (.tmp 42), none⟩])
  (.seq (.ops [⟨(some 43), .mov (.tmp 3), none⟩,
    ⟨(some 44), .call 12 [(.tmp 43)], none⟩,
    ⟨(some 45), .mov (.tmp 44), none⟩,
    ⟨(some 46), .mov (.tmp 6), (some (45, true))⟩,
    ⟨(some 47), .bin .eql (.tmp 46) (.con (.int .i64 11)), (some (45, true))⟩,
    ⟨(some 48), .mov (.tmp 47), (some (45, true))⟩,
    ⟨(some 49), .mov (.tmp 6), (some (48, false))⟩,
    ⟨(some 50), .bin .eql (.tmp 49) (.con (.int .i64 0)), (some (48, false))⟩,
    ⟨(some 51), .mov (.tmp 50), (some (48, false))⟩,
    ⟨(some 52), .mov (.tmp 5), (some (51, true))⟩,
    ⟨(some 53), .mov (.tmp 3), (some (51, true))⟩,
    ⟨(some 54), .call 13 [(.tmp 52), (.tmp 53)], (some (51, true))⟩,
    ⟨(some 55), .pick (.tmp 51) (.tmp 54) (.con (.bool false)), (some (48, false))⟩,
    ⟨(some 56), .pick (.tmp 48) (.con (.bool true)) (.tmp 55), (some (45, true))⟩,
    ⟨(some 57), .pick (.tmp 45) (.tmp 56) (.con (.bool false)), none⟩,
    ⟨(some 58), .mov (.tmp 57), none⟩,
    ⟨(some 59), .call 3 [], (some (58, true))⟩,
    ⟨(some 60), .pick (.tmp 58) (.tmp 59) (.con (.bool false)), none⟩,
    ⟨(some 2), .mov (.tmp 60), none⟩])
  .ret))))))
def a4 : AFunc := ⟨1, c4, [.tmp 2]⟩

/- 5: tendril/tendrillaw23.QueryWrong -/
def c5l0 : ACode := (.seq (.seq (.ops [⟨(some 16), .mov (.tmp 6), none⟩,
    ⟨(some 17), .mov (.tmp 0), none⟩,
    ⟨(some 18), .lenStr (.tmp 17), none⟩,
    ⟨(some 19), .bin .lss (.tmp 16) (.tmp 18), none⟩,
    ⟨(some 20), .mov (.tmp 19), none⟩,
    ⟨(some 21), .mov (.tmp 6), (some (20, true))⟩,
    ⟨(some 22), .bin .lss (.tmp 21) (.con (.int .i64 8)), (some (20, true))⟩,
    ⟨(some 23), .pick (.tmp 20) (.tmp 22) (.con (.bool false)), none⟩])
  (.cond (.tmp 23)
  .skip
  (.exit 0)))
  (.seq (.block 1 (.ops [⟨(some 26), .mov (.tmp 5), none⟩,
    ⟨(some 27), .mov (.tmp 0), none⟩,
    ⟨(some 28), .mov (.tmp 6), none⟩,
    ⟨(some 29), .idxStr (.tmp 27) (.tmp 28), none⟩,
    ⟨(some 30), .bin .rem (.tmp 29) (.con (.int .u8 26)), none⟩,
    ⟨(some 31), .bin .add (.con (.int .u8 97)) (.tmp 30), none⟩,
    ⟨(some 32), .buildSlice 1 1 [(.int .u8 0)] [(0, 1, (.tmp 31))], none⟩,
    ⟨(some 33), .toStr (.tmp 32), none⟩,
    ⟨(some 34), .bin .add (.tmp 26) (.tmp 33), none⟩,
    ⟨(some 5), .mov (.tmp 34), none⟩]))
  (.ops [⟨(some 24), .mov (.tmp 6), none⟩,
    ⟨(some 25), .bin .add (.tmp 24) (.con (.int .i64 1)), none⟩,
    ⟨(some 6), .mov (.tmp 25), none⟩])))
def c5l1 : ACode := (.seq (.ops [⟨(some 56), .bin .lss (.tmp 55) (.tmp 54), none⟩])
  (.seq (.cond (.tmp 56)
  .skip
  (.exit 2))
  (.seq (.block 3 (.seq (.ops [⟨(some 57), .idxAddr 1 (.tmp 53) (.tmp 55), none⟩,
    ⟨(some 58), .load false 1 (.tmp 57), none⟩,
    ⟨(some 8), .mov (.tmp 58), none⟩])
  (.seq (.ops [⟨(some 60), .mov (.tmp 8), none⟩,
    ⟨(some 61), .call 8 [(.tmp 60)], none⟩,
    ⟨(some 59), .mov (.tmp 61), none⟩,
    ⟨(some 62), .extract (.tmp 59) 0, none⟩,
    ⟨(some 63), .extract (.tmp 59) 1, none⟩,
    ⟨(some 9), .mov (.tmp 62), none⟩,
    ⟨(some 10), .mov (.tmp 63), none⟩])
  (.seq (.ops [⟨(some 64), .mov (.tmp 10), none⟩,
    ⟨(some 65), .bin .neq (.tmp 64) (.con (.int .i64 7)), none⟩,
    ⟨(some 66), .mov (.tmp 65), none⟩,
    ⟨(some 67), .mov (.tmp 9), (some (66, false))⟩,
    ⟨(some 68), .lenSlice (.tmp 67), (some (66, false))⟩,
    ⟨(some 69), .bin .neq (.tmp 68) (.con (.int .i64 0)), (some (66, false))⟩,
    ⟨(some 70), .pick (.tmp 66) (.con (.bool true)) (.tmp 69), none⟩])
  (.cond (.tmp 70)
  (.seq (.ops [⟨(some 4), .mov (.con (.bool false)), none⟩])
  .ret)
  .skip)))))
  (.ops [⟨(some 71), .bin .add (.tmp 55) (.con (.int .i64 1)), none⟩,
    ⟨(some 55), .mov (.tmp 71), none⟩]))))
def c5 : ACode := (.seq (.ops [⟨(some 4), .mov (.con (.bool false)), none⟩])
  (.seq (.ops [⟨(some 5), .mov (.con (.str [])), none⟩])
  (.seq (.seq (.ops [⟨(some 6), .mov (.con (.int .i64 0)), none⟩])
  (.block 0 (.loop c5l0)))
  (.seq (.seq (.ops [⟨(some 35), .mov (.tmp 5), none⟩,
    ⟨(some 36), .bin .add (.con (.str [124])) (.tmp 35), none⟩,
    ⟨(some 37), .mov (.tmp 5), none⟩,
    ⟨(some 38), .bin .add (.tmp 37) (.con (.str [124])), none⟩,
    ⟨(some 39), .mov (.tmp 5), none⟩,
    ⟨(some 40), .bin .add (.tmp 39) (.con (.str [38])), none⟩,
    ⟨(some 41), .mov (.tmp 5), none⟩,
    ⟨(some 42), .bin .add (.con (.str [40])) (.tmp 41), none⟩,
    ⟨(some 43), .mov (.tmp 5), none⟩,
    ⟨(some 44), .bin .add (.tmp 43) (.con (.str [41])), none⟩,
    ⟨(some 45), .mov (.tmp 5), none⟩,
    ⟨(some 46), .bin .add (.tmp 45) (.con (.str [124, 124])), none⟩,
    ⟨(some 47), .mov (.tmp 5), none⟩,
    ⟨(some 48), .bin .add (.tmp 46) (.tmp 47), none⟩,
    ⟨(some 49), .mov (.tmp 5), none⟩,
    ⟨(some 50), .bin .add (.con (.str [33, 124])) (.tmp 49), none⟩,
    ⟨(some 51), .mov (.tmp 5), none⟩,
    ⟨(some 52), .bin .add (.con (.str [38, 32])) (.tmp 51), none⟩,
    ⟨(some 53), .buildSlice 1 11 [(.str []), (.str []), (.str []), (.str []), (.str []), (.str []), (.str []), (.str []), (.str []), (.str []), (.str [])] [(0, 1, (.con (.str []))), (1, 1, (.con (.str [33]))), (2, 1, (.tmp 36)), (3, 1, (.tmp 38)), (4, 1, (.tmp 40)), (5, 1, (.tmp 42)), (6, 1, (.tmp 44)), (7, 1, (.con (.str [40, 41]))), (8, 1, (.tmp 48)), (9, 1, (.tmp 50)), (10, 1, (.tmp 52))], none⟩,
    ⟨(some 54), .lenSlice (.tmp 53), none⟩,
    ⟨(some 55), .mov (.con (.int .i64 0)), none⟩])
  (.block 2 (.loop c5l1)))
  (.seq (.ops [⟨(some 73), .mov (.tmp 5), none⟩,
    ⟨(some 74), .bin .add (.con (.str [97, 98, 99, 100, 101, 102, 103, 104, 105, 106, 107, 108, 109])) (.tmp 73), none⟩,
    ⟨(some 75), .call 8 [(.tmp 74)], none⟩,
    ⟨(some 72), .mov (.tmp 75), none⟩,
    ⟨(some 76), .extract (.tmp 72) 0, none⟩,
    ⟨(some 77), .extract (.tmp 72) 1, none⟩,
    ⟨(some 11), .mov (.tmp 76), none⟩,
    ⟨(some 12), .mov (.tmp 77), none⟩])
  (.seq (.seq (.ops [⟨(some 78), .mov (.tmp 12), none⟩,
    ⟨(some 79), .bin .neq (.tmp 78) (.con (.int .i64 6)), none⟩])
  (.cond (.tmp 79)
  (.seq (.ops [⟨(some 4), .mov (.con (.bool false)), none⟩])
  .ret)
  .skip))
  (.seq (.ops [⟨(some 80), .mov (.tmp 1), none⟩,
    ⟨(some 81), .call 14 [(.tmp 80)], none⟩,
    ⟨(some 82), .bin .eql (.tmp 81) (.con (.int .u8 0)), none⟩,
    ⟨(some 83), .mov (.tmp 82), none⟩,
    ⟨(some 84), .mov (.tmp 1), (some (83, true))⟩,
    ⟨(some 85), .bin .neq (.tmp 84) (.con (.int .u8 32)), (some (83, true))⟩,
    ⟨(some 86), .pick (.tmp 83) (.tmp 85) (.con (.bool false)), none⟩,
    ⟨(some 87), .mov (.tmp 86), none⟩,
    ⟨(some 88), .mov (.tmp 1), (some (87, true))⟩,
    ⟨(some 89), .bin .neq (.tmp 88) (.con (.int .u8 33)), (some (87, true))⟩,
    ⟨(some 90), .pick (.tmp 87) (.tmp 89) (.con (.bool false)), none⟩,
    ⟨(some 91), .mov (.tmp 90), none⟩,
    ⟨(some 92), .mov (.tmp 1), (some (91, true))⟩,
    ⟨(some 93), .bin .neq (.tmp 92) (.con (.int .u8 40)), (some (91, true))⟩,
    ⟨(some 94), .pick (.tmp 91) (.tmp 93) (.con (.bool false)), none⟩,
    ⟨(some 95), .mov (.tmp 94), none⟩,
    ⟨(some 96), .mov (.tmp 1), (some (95, true))⟩,
    ⟨(some 97), .bin .neq (.tmp 96) (.con (.int .u8 41)), (some (95, true))⟩,
    ⟨(some 98), .pick (.tmp 95) (.tmp 97) (.con (.bool false)), none⟩,
    ⟨(some 99), .mov (.tmp 98), none⟩,
    ⟨(some 100), .mov (.tmp 1), (some (99, true))⟩,
    ⟨(some 101), .bin .neq (.tmp 100) (.con (.int .u8 38)), (some (99, true))⟩,
    ⟨(some 102), .pick (.tmp 99) (.tmp 101) (.con (.bool false)), none⟩,
    ⟨(some 103), .mov (.tmp 102), none⟩,
    ⟨(some 104), .mov (.tmp 1), (some (103, true))⟩,
    ⟨(some 105), .bin .neq (.tmp 104) (.con (.int .u8 124)), (some (103, true))⟩,
    ⟨(some 106), .pick (.tmp 103) (.tmp 105) (.con (.bool false)), none⟩,
    ⟨(some 13), .mov (.tmp 106), none⟩])
  (.seq (.ops [⟨(some 108), .mov (.tmp 1), none⟩,
    ⟨(some 109), .buildSlice 1 1 [(.int .u8 0)] [(0, 1, (.tmp 108))], none⟩,
    ⟨(some 110), .toStr (.tmp 109), none⟩,
    ⟨(some 111), .bin .add (.con (.str [97, 98])) (.tmp 110), none⟩,
    ⟨(some 112), .bin .add (.tmp 111) (.con (.str [99, 100])), none⟩,
    ⟨(some 113), .call 8 [(.tmp 112)], none⟩,
    ⟨(some 107), .mov (.tmp 113), none⟩,
    ⟨(some 114), .extract (.tmp 107) 0, none⟩,
    ⟨(some 115), .extract (.tmp 107) 1, none⟩,
    ⟨(some 14), .mov (.tmp 114), none⟩,
    ⟨(some 15), .mov (.tmp 115), none⟩])
  (.seq (.ops [⟨(some 116), .mov (.tmp 13), none⟩,
    ⟨(some 117), .un .not (.tmp 116), none⟩,
    ⟨(some 118), .mov (.tmp 117), none⟩,
    ⟨(some 119), .mov (.tmp 15), (some (118, false))⟩,
    ⟨(some 120), .bin .eql (.tmp 119) (.con (.int .i64 7)), (some (118, false))⟩,
    ⟨(some 121), .pick (.tmp 118) (.con (.bool true)) (.tmp 120), none⟩,
    ⟨(some 122), .mov (.tmp 121), none⟩,
    ⟨(some 123), .call 3 [], (some (122, true))⟩,
    ⟨(some 124), .pick (.tmp 122) (.tmp 123) (.con (.bool false)), none⟩,
    ⟨(some 4), .mov (.tmp 124), none⟩])
  .ret)))))))))
def a5 : AFunc := ⟨2, c5, [.tmp 4]⟩

/- 7: tendril/tendrillaw23.QueryLaws -/
def c7l0 : ACode := (.seq (.ops [⟨(some 55), .bin .lss (.tmp 54) (.tmp 53), none⟩])
  (.seq (.cond (.tmp 55)
  .skip
  (.exit 0))
  (.seq (.block 1 (.seq (.ops [⟨(some 56), .mov (.tmp 54), none⟩,
    ⟨(some 9), .mov (.tmp 56), none⟩])
  (.seq (.ops [⟨(some 57), .mov (.tmp 2), none⟩,
    ⟨(some 58), .mov (.tmp 9), none⟩,
    ⟨(some 59), .idxAddr 1 (.tmp 57) (.tmp 58), none⟩,
    ⟨(some 60), .load false 1 (.tmp 59), none⟩,
    ⟨(some 61), .lenSlice (.tmp 60), none⟩,
    ⟨(some 62), .bin .gtr (.tmp 61) (.con (.int .i64 40)), none⟩])
  (.cond (.tmp 62)
  (.seq (.ops [⟨(some 63), .call 3 [], none⟩,
    ⟨(some 8), .mov (.tmp 63), none⟩])
  .ret)
  .skip))))
  (.ops [⟨(some 64), .bin .add (.tmp 54) (.con (.int .i64 1)), none⟩,
    ⟨(some 54), .mov (.tmp 64), none⟩]))))
def c7l1 : ACode := (.seq (.seq (.ops [⟨(some 68), .mov (.tmp 13), none⟩,
    ⟨(some 69), .mov (.tmp 10), none⟩,
    ⟨(some 70), .bin .mul (.con (.int .i64 2)) (.tmp 69), none⟩,
    ⟨(some 71), .mov (.tmp 1), none⟩,
    ⟨(some 72), .lenSlice (.tmp 71), none⟩,
    ⟨(some 73), .bin .mul (.con (.int .i64 2)) (.tmp 72), none⟩,
    ⟨(some 74), .bin .add (.tmp 70) (.tmp 73), none⟩,
    ⟨(some 75), .bin .lss (.tmp 68) (.tmp 74), none⟩])
  (.cond (.tmp 75)
  .skip
  (.exit 2)))
  (.seq (.block 3 (.seq (.ops [⟨(some 14), .mov (.con .nilSlice), none⟩])
  (.seq (.seq (.ops [⟨(some 78), .mov (.tmp 2), none⟩,
    ⟨(some 79), .lenSlice (.tmp 78), none⟩,
    ⟨(some 80), .bin .gtr (.tmp 79) (.con (.int .i64 0)), none⟩])
  (.cond (.tmp 80)
  (.ops [⟨(some 81), .mov (.tmp 2), none⟩,
    ⟨(some 82), .mov (.tmp 13), none⟩,
    ⟨(some 83), .mov (.tmp 2), none⟩,
    ⟨(some 84), .lenSlice (.tmp 83), none⟩,
    ⟨(some 85), .bin .rem (.tmp 82) (.tmp 84), none⟩,
    ⟨(some 86), .idxAddr 1 (.tmp 81) (.tmp 85), none⟩,
    ⟨(some 87), .load false 1 (.tmp 86), none⟩,
    ⟨(some 14), .mov (.tmp 87), none⟩])
  .skip))
  (.seq (.ops [⟨(some 88), .mov (.tmp 11), none⟩,
    ⟨(some 89), .mov (.tmp 14), none⟩,
    ⟨(some 90), .buildSlice 1 1 [.nilSlice] [(0, 1, (.tmp 89))], none⟩,
    ⟨(some 91), .append 1 24 (.tmp 88) (.tmp 90), none⟩,
    ⟨(some 11), .mov (.tmp 91), none⟩])
  (.seq (.ops [⟨(some 92), .mov (.tmp 13), none⟩,
    ⟨(some 93), .mov (.tmp 10), none⟩,
    ⟨(some 94), .bin .geq (.tmp 92) (.tmp 93), none⟩])
  (.cond (.tmp 94)
  (.ops [⟨(some 95), .mov (.tmp 12), none⟩,
    ⟨(some 96), .mov (.tmp 14), none⟩,
    ⟨(some 97), .buildSlice 1 1 [.nilSlice] [(0, 1, (.tmp 96))], none⟩,
    ⟨(some 98), .append 1 24 (.tmp 95) (.tmp 97), none⟩,
    ⟨(some 12), .mov (.tmp 98), none⟩])
  .skip))))))
  (.ops [⟨(some 76), .mov (.tmp 13), none⟩,
    ⟨(some 77), .bin .add (.tmp 76) (.con (.int .i64 1)), none⟩,
    ⟨(some 13), .mov (.tmp 77), none⟩])))
def c7 : ACode := (.seq (.ops [⟨(some 8), .mov (.con (.bool false)), none⟩])
  (.seq (.seq (.ops [⟨(some 25), .mov (.tmp 0), none⟩,
    ⟨(some 26), .call 12 [(.tmp 25)], none⟩,
    ⟨(some 27), .un .not (.tmp 26), none⟩,
    ⟨(some 28), .mov (.tmp 27), none⟩,
    ⟨(some 29), .mov (.tmp 1), (some (28, false))⟩,
    ⟨(some 30), .call 12 [(.tmp 29)], (some (28, false))⟩,
    ⟨(some 31), .un .not (.tmp 30), (some (28, false))⟩,
    ⟨(some 32), .pick (.tmp 28) (.con (.bool true)) (.tmp 31), none⟩,
    ⟨(some 33), .mov (.tmp 32), none⟩,
    ⟨(some 34), .mov (.tmp 0), (some (33, false))⟩,
    ⟨(some 35), .lenSlice (.tmp 34), (some (33, false))⟩,
    ⟨(some 36), .mov (.tmp 1), (some (33, false))⟩,
    ⟨(some 37), .lenSlice (.tmp 36), (some (33, false))⟩,
    ⟨(some 38), .bin .add (.tmp 35) (.tmp 37), (some (33, false))⟩,
    ⟨(some 39), .bin .gtr (.tmp 38) (.con (.int .i64 40)), (some (33, false))⟩,
    ⟨(some 40), .pick (.tmp 33) (.con (.bool true)) (.tmp 39), none⟩,
    ⟨(some 41), .mov (.tmp 40), none⟩,
    ⟨(some 42), .mov (.tmp 3), (some (41, false))⟩,
    ⟨(some 43), .lenSlice (.tmp 42), (some (41, false))⟩,
    ⟨(some 44), .bin .gtr (.tmp 43) (.con (.int .i64 40)), (some (41, false))⟩,
    ⟨(some 45), .pick (.tmp 41) (.con (.bool true)) (.tmp 44), none⟩,
    ⟨(some 46), .mov (.tmp 45), none⟩,
    ⟨(some 47), .mov (.tmp 2), (some (46, false))⟩,
    ⟨(some 48), .lenSlice (.tmp 47), (some (46, false))⟩,
    ⟨(some 49), .bin .gtr (.tmp 48) (.con (.int .i64 40)), (some (46, false))⟩,
    ⟨(some 50), .pick (.tmp 46) (.con (.bool true)) (.tmp 49), none⟩])
  (.cond (.tmp 50)
  (.seq (.ops [⟨(some 51), .call 3 [], none⟩,
    ⟨(some 8), .mov (.tmp 51), none⟩])
  .ret)
  .skip))
  (.seq (.seq (.ops [⟨(some 52), .mov (.tmp 2), none⟩,
    ⟨(some 53), .lenSlice (.tmp 52), none⟩,
    ⟨(some 54), .mov (.con (.int .i64 0)), none⟩])
  (.block 0 (.loop c7l0)))
  (.seq (.ops [⟨(some 65), .mov (.tmp 0), none⟩,
    ⟨(some 66), .call 17 [(.tmp 65)], none⟩,
    ⟨(some 67), .lenSlice (.tmp 66), none⟩,
    ⟨(some 10), .mov (.tmp 67), none⟩])
  (.seq (.ops [⟨(some 11), .mov (.con .nilSlice), none⟩,
    ⟨(some 12), .mov (.con .nilSlice), none⟩])
  (.seq (.seq (.ops [⟨(some 13), .mov (.con (.int .i64 0)), none⟩])
  (.block 2 (.loop c7l1)))
  (.seq (.ops [⟨(some 15), .mov (.con (.func (.func 18) [] [])), none⟩])
  (.seq (.ops [⟨(some 16), .mov (.con (.func (.func 19) [] [])), none⟩])
  (.seq (.ops [⟨(some 99), .build [(.int .i64 0), (.str [])] [(0, 1, (.con (.int .i64 1))), (1, 1, (.con (.str [97])))], none⟩,
    ⟨(some 100), .build [(.int .i64 0), (.str [])] [(0, 1, (.con (.int .i64 1))), (1, 1, (.con (.str [97])))], none⟩,
    ⟨(some 101), .mov (.tmp 15), none⟩,
    ⟨(some 102), .callV (.tmp 101) [(.con (.int .i64 4))], none⟩,
    ⟨(some 103), .mov (.tmp 15), none⟩,
    ⟨(some 104), .callV (.tmp 103) [(.con (.int .i64 3))], none⟩,
    ⟨(some 105), .buildSlice 2 4 [(.int .i64 0), (.str []), (.int .i64 0), (.str []), (.int .i64 0), (.str []), (.int .i64 0), (.str [])] [(0, 2, (.tmp 99)), (2, 2, (.tmp 100)), (4, 2, (.tmp 102)), (6, 2, (.tmp 104))], none⟩,
    ⟨(some 106), .mov (.tmp 3), none⟩,
    ⟨(some 107), .call 9 [(.tmp 105), (.con .nilSlice), (.tmp 106)], none⟩,
    ⟨(some 108), .buildSlice 1 1 [.nilSlice] [(0, 1, (.tmp 107))], none⟩,
    ⟨(some 109), .call 20 [(.tmp 108)], none⟩,
    ⟨(some 17), .mov (.tmp 109), none⟩])
  (.seq (.ops [⟨(some 110), .mov (.tmp 0), none⟩,
    ⟨(some 111), .mov (.tmp 11), none⟩,
    ⟨(some 112), .mov (.tmp 3), none⟩,
    ⟨(some 113), .call 9 [(.tmp 110), (.tmp 111), (.tmp 112)], none⟩,
    ⟨(some 114), .mov (.tmp 1), none⟩,
    ⟨(some 115), .mov (.tmp 12), none⟩,
    ⟨(some 116), .mov (.tmp 3), none⟩,
    ⟨(some 117), .call 9 [(.tmp 114), (.tmp 115), (.tmp 116)], none⟩,
    ⟨(some 18), .mov (.tmp 113), none⟩,
    ⟨(some 19), .mov (.tmp 117), none⟩])
  (.seq (.ops [⟨(some 118), .mov (.tmp 16), none⟩,
    ⟨(some 119), .mov (.tmp 0), none⟩,
    ⟨(some 120), .mov (.tmp 15), none⟩,
    ⟨(some 121), .callV (.tmp 120) [(.con (.int .i64 4))], none⟩,
    ⟨(some 122), .buildSlice 2 1 [(.int .i64 0), (.str [])] [(0, 2, (.tmp 121))], none⟩,
    ⟨(some 123), .callV (.tmp 118) [(.tmp 119), (.con .nilSlice), (.tmp 122)], none⟩,
    ⟨(some 124), .mov (.tmp 11), none⟩,
    ⟨(some 125), .mov (.tmp 3), none⟩,
    ⟨(some 126), .call 9 [(.tmp 123), (.tmp 124), (.tmp 125)], none⟩,
    ⟨(some 20), .mov (.tmp 126), none⟩])
  (.seq (.ops [⟨(some 127), .mov (.tmp 16), none⟩,
    ⟨(some 128), .mov (.tmp 1), none⟩,
    ⟨(some 129), .mov (.tmp 15), none⟩,
    ⟨(some 130), .callV (.tmp 129) [(.con (.int .i64 4))], none⟩,
    ⟨(some 131), .buildSlice 2 1 [(.int .i64 0), (.str [])] [(0, 2, (.tmp 130))], none⟩,
    ⟨(some 132), .callV (.tmp 127) [(.tmp 128), (.con .nilSlice), (.tmp 131)], none⟩,
    ⟨(some 133), .mov (.tmp 12), none⟩,
    ⟨(some 134), .mov (.tmp 3), none⟩,
    ⟨(some 135), .call 9 [(.tmp 132), (.tmp 133), (.tmp 134)], none⟩,
    ⟨(some 21), .mov (.tmp 135), none⟩])
  (.seq (.ops [⟨(some 136), .mov (.tmp 16), none⟩,
    ⟨(some 137), .mov (.tmp 0), none⟩,
    ⟨(some 138), .mov (.tmp 1), none⟩,
    ⟨(some 139), .mov (.tmp 15), none⟩,
    ⟨(some 140), .callV (.tmp 139) [(.con (.int .i64 2))], none⟩,
    ⟨(some 141), .buildSlice 2 1 [(.int .i64 0), (.str [])] [(0, 2, (.tmp 140))], none⟩,
    ⟨(some 142), .callV (.tmp 136) [(.tmp 137), (.tmp 138), (.tmp 141)], none⟩,
    ⟨(some 143), .mov (.tmp 11), none⟩,
    ⟨(some 144), .mov (.tmp 3), none⟩,
    ⟨(some 145), .call 9 [(.tmp 142), (.tmp 143), (.tmp 144)], none⟩,
    ⟨(some 146), .mov (.tmp 16), none⟩,
    ⟨(some 147), .mov (.tmp 0), none⟩,
    ⟨(some 148), .mov (.tmp 1), none⟩,
    ⟨(some 149), .mov (.tmp 15), none⟩,
    ⟨(some 150), .callV (.tmp 149) [(.con (.int .i64 3))], none⟩,
    ⟨(some 151), .buildSlice 2 1 [(.int .i64 0), (.str [])] [(0, 2, (.tmp 150))], none⟩,
    ⟨(some 152), .callV (.tmp 146) [(.tmp 147), (.tmp 148), (.tmp 151)], none⟩,
    ⟨(some 153), .mov (.tmp 11), none⟩,
    ⟨(some 154), .mov (.tmp 3), none⟩,
    ⟨(some 155), .call 9 [(.tmp 152), (.tmp 153), (.tmp 154)], none⟩,
    ⟨(some 22), .mov (.tmp 145), none⟩,
    ⟨(some 23), .mov (.tmp 155), none⟩])
  (.seq (.seq (.ops [⟨(some 156), .mov (.tmp 22), none⟩,
    ⟨(some 157), .mov (.tmp 18), none⟩,
    ⟨(some 158), .mov (.tmp 19), none⟩,
    ⟨(some 159), .buildSlice 1 2 [.nilSlice, .nilSlice] [(0, 1, (.tmp 157)), (1, 1, (.tmp 158))], none⟩,
    ⟨(some 160), .call 21 [(.tmp 159)], none⟩,
    ⟨(some 161), .call 11 [(.tmp 156), (.tmp 160)], none⟩,
    ⟨(some 162), .un .not (.tmp 161), none⟩,
    ⟨(some 163), .mov (.tmp 162), none⟩,
    ⟨(some 164), .mov (.tmp 23), (some (163, false))⟩,
    ⟨(some 165), .mov (.tmp 18), (some (163, false))⟩,
    ⟨(some 166), .mov (.tmp 19), (some (163, false))⟩,
    ⟨(some 167), .buildSlice 1 2 [.nilSlice, .nilSlice] [(0, 1, (.tmp 165)), (1, 1, (.tmp 166))], (some (163, false))⟩,
    ⟨(some 168), .call 20 [(.tmp 167)], (some (163, false))⟩,
    ⟨(some 169), .call 11 [(.tmp 164), (.tmp 168)], (some (163, false))⟩,
    ⟨(some 170), .un .not (.tmp 169), (some (163, false))⟩,
    ⟨(some 171), .pick (.tmp 163) (.con (.bool true)) (.tmp 170), none⟩,
    ⟨(some 172), .mov (.tmp 171), none⟩,
    ⟨(some 173), .mov (.tmp 18), (some (172, false))⟩,
    ⟨(some 174), .mov (.tmp 20), (some (172, false))⟩,
    ⟨(some 175), .buildSlice 1 2 [.nilSlice, .nilSlice] [(0, 1, (.tmp 173)), (1, 1, (.tmp 174))], (some (172, false))⟩,
    ⟨(some 176), .call 21 [(.tmp 175)], (some (172, false))⟩,
    ⟨(some 177), .lenSlice (.tmp 176), (some (172, false))⟩,
    ⟨(some 178), .bin .neq (.tmp 177) (.con (.int .i64 0)), (some (172, false))⟩,
    ⟨(some 179), .pick (.tmp 172) (.con (.bool true)) (.tmp 178), none⟩,
    ⟨(some 180), .mov (.tmp 179), none⟩,
    ⟨(some 181), .mov (.tmp 18), (some (180, false))⟩,
    ⟨(some 182), .mov (.tmp 20), (some (180, false))⟩,
    ⟨(some 183), .buildSlice 1 2 [.nilSlice, .nilSlice] [(0, 1, (.tmp 181)), (1, 1, (.tmp 182))], (some (180, false))⟩,
    ⟨(some 184), .call 20 [(.tmp 183)], (some (180, false))⟩,
    ⟨(some 185), .mov (.tmp 17), (some (180, false))⟩,
    ⟨(some 186), .call 11 [(.tmp 184), (.tmp 185)], (some (180, false))⟩,
    ⟨(some 187), .un .not (.tmp 186), (some (180, false))⟩,
    ⟨(some 188), .pick (.tmp 180) (.con (.bool true)) (.tmp 187), none⟩])
  (.cond (.tmp 188)
  (.seq (.ops [⟨(some 8), .mov (.con (.bool false)), none⟩])
  .ret)
  .skip))
  (.seq (.ops [⟨(some 189), .mov (.tmp 16), none⟩,
    ⟨(some 190), .mov (.tmp 0), none⟩,
    ⟨(some 191), .mov (.tmp 1), none⟩,
    ⟨(some 192), .mov (.tmp 15), none⟩,
    ⟨(some 193), .callV (.tmp 192) [(.con (.int .i64 2))], none⟩,
    ⟨(some 194), .mov (.tmp 15), none⟩,
    ⟨(some 195), .callV (.tmp 194) [(.con (.int .i64 4))], none⟩,
    ⟨(some 196), .buildSlice 2 2 [(.int .i64 0), (.str []), (.int .i64 0), (.str [])] [(0, 2, (.tmp 193)), (2, 2, (.tmp 195))], none⟩,
    ⟨(some 197), .callV (.tmp 189) [(.tmp 190), (.tmp 191), (.tmp 196)], none⟩,
    ⟨(some 198), .mov (.tmp 11), none⟩,
    ⟨(some 199), .mov (.tmp 3), none⟩,
    ⟨(some 200), .call 9 [(.tmp 197), (.tmp 198), (.tmp 199)], none⟩,
    ⟨(some 24), .mov (.tmp 200), none⟩])
  (.seq (.ops [⟨(some 201), .mov (.tmp 24), none⟩,
    ⟨(some 202), .mov (.tmp 20), none⟩,
    ⟨(some 203), .mov (.tmp 21), none⟩,
    ⟨(some 204), .buildSlice 1 2 [.nilSlice, .nilSlice] [(0, 1, (.tmp 202)), (1, 1, (.tmp 203))], none⟩,
    ⟨(some 205), .call 20 [(.tmp 204)], none⟩,
    ⟨(some 206), .call 11 [(.tmp 201), (.tmp 205)], none⟩,
    ⟨(some 207), .mov (.tmp 206), none⟩,
    ⟨(some 208), .mov (.tmp 16), (some (207, true))⟩,
    ⟨(some 209), .mov (.tmp 0), (some (207, true))⟩,
    ⟨(some 210), .mov (.tmp 15), (some (207, true))⟩,
    ⟨(some 211), .callV (.tmp 210) [(.con (.int .i64 4))], (some (207, true))⟩,
    ⟨(some 212), .mov (.tmp 15), (some (207, true))⟩,
    ⟨(some 213), .callV (.tmp 212) [(.con (.int .i64 4))], (some (207, true))⟩,
    ⟨(some 214), .buildSlice 2 2 [(.int .i64 0), (.str []), (.int .i64 0), (.str [])] [(0, 2, (.tmp 211)), (2, 2, (.tmp 213))], (some (207, true))⟩,
    ⟨(some 215), .callV (.tmp 208) [(.tmp 209), (.con .nilSlice), (.tmp 214)], (some (207, true))⟩,
    ⟨(some 216), .mov (.tmp 11), (some (207, true))⟩,
    ⟨(some 217), .mov (.tmp 3), (some (207, true))⟩,
    ⟨(some 218), .call 9 [(.tmp 215), (.tmp 216), (.tmp 217)], (some (207, true))⟩,
    ⟨(some 219), .mov (.tmp 18), (some (207, true))⟩,
    ⟨(some 220), .call 11 [(.tmp 218), (.tmp 219)], (some (207, true))⟩,
    ⟨(some 221), .pick (.tmp 207) (.tmp 220) (.con (.bool false)), none⟩,
    ⟨(some 222), .mov (.tmp 221), none⟩,
    ⟨(some 223), .call 3 [], (some (222, true))⟩,
    ⟨(some 224), .pick (.tmp 222) (.tmp 223) (.con (.bool false)), none⟩,
    ⟨(some 8), .mov (.tmp 224), none⟩])
  .ret))))))))))))))))
def a7 : AFunc := ⟨4, c7, [.tmp 8]⟩

/- 8: tendril/query.Parse -/
def c8 : ACode := (.seq (.ops [⟨(some 2), .mov (.con .nilSlice), none⟩,
    ⟨(some 3), .mov (.con (.int .i64 0)), none⟩])
  (.seq (.seq (.ops [⟨(some 7), .mov (.tmp 0), none⟩,
    ⟨(some 8), .lenStr (.tmp 7), none⟩,
    ⟨(some 9), .bin .gtr (.tmp 8) (.con (.int .i64 512)), none⟩])
  (.cond (.tmp 9)
  (.seq (.ops [⟨(some 2), .mov (.con .nilSlice), none⟩,
    ⟨(some 3), .mov (.con (.int .i64 11)), none⟩])
  .ret)
  .skip))
  (.seq (.ops [⟨(some 10), .mov (.tmp 0), none⟩,
    ⟨(some 11), .build [(.str []), (.int .i64 0), .nilSlice, (.int .i64 0)] [(0, 1, (.tmp 10))], none⟩,
    ⟨(some 12), .box (.tmp 11), none⟩,
    ⟨(some 4), .mov (.tmp 12), none⟩])
  (.seq (.ops [⟨(some 13), .mov (.tmp 4), none⟩,
    ⟨(some 14), .call 22 [(.tmp 13)], none⟩])
  (.seq (.seq (.ops [⟨(some 16), .mov (.tmp 4), none⟩,
    ⟨(some 17), .call 23 [(.tmp 16)], none⟩,
    ⟨(some 15), .mov (.tmp 17), none⟩,
    ⟨(some 18), .extract (.tmp 15) 0, none⟩,
    ⟨(some 19), .extract (.tmp 15) 1, none⟩,
    ⟨(some 5), .mov (.tmp 18), none⟩,
    ⟨(some 6), .mov (.tmp 19), none⟩])
  (.seq (.ops [⟨(some 20), .mov (.tmp 6), none⟩])
  (.cond (.tmp 20)
  (.ops [⟨(some 21), .mov (.tmp 4), none⟩,
    ⟨(some 22), .call 24 [(.tmp 21), (.con (.int .i64 7))], none⟩])
  .skip)))
  (.seq (.seq (.ops [⟨(some 23), .mov (.tmp 4), none⟩,
    ⟨(some 24), .nilChk (.tmp 23), none⟩,
    ⟨(some 25), .fieldAddr 3 (.tmp 24), none⟩,
    ⟨(some 26), .load false 1 (.tmp 25), none⟩,
    ⟨(some 27), .bin .neq (.tmp 26) (.con (.int .i64 0)), none⟩])
  (.cond (.tmp 27)
  (.seq (.ops [⟨(some 28), .mov (.tmp 4), none⟩,
    ⟨(some 29), .nilChk (.tmp 28), none⟩,
    ⟨(some 30), .fieldAddr 3 (.tmp 29), none⟩,
    ⟨(some 31), .load false 1 (.tmp 30), none⟩,
    ⟨(some 2), .mov (.con .nilSlice), none⟩,
    ⟨(some 3), .mov (.tmp 31), none⟩])
  .ret)
  .skip))
  (.seq (.ops [⟨(some 32), .mov (.tmp 4), none⟩,
    ⟨(some 33), .nilChk (.tmp 32), none⟩,
    ⟨(some 34), .fieldAddr 2 (.tmp 33), none⟩,
    ⟨(some 35), .load false 1 (.tmp 34), none⟩,
    ⟨(some 2), .mov (.tmp 35), none⟩,
    ⟨(some 3), .mov (.con (.int .i64 0)), none⟩])
  .ret)))))))
def a8 : AFunc := ⟨1, c8, [.tmp 2, .tmp 3]⟩

/- 9: tendril/query.Eval -/
def c9l0 : ACode := (.seq (.ops [⟨(some 21), .bin .lss (.tmp 20) (.tmp 19), none⟩])
  (.seq (.cond (.tmp 21)
  .skip
  (.exit 0))
  (.seq (.block 1 (.seq (.ops [⟨(some 22), .idxAddr 2 (.tmp 18) (.tmp 20), none⟩,
    ⟨(some 23), .load true 2 (.tmp 22), none⟩,
    ⟨(some 10), .new [(.int .i64 0), (.str [])], none⟩,
    ⟨none, .store 2 (.tmp 10) (.tmp 23), none⟩])
  (.seq (.ops [⟨(some 24), .mov (.tmp 8), none⟩,
    ⟨(some 25), .lenSlice (.tmp 24), none⟩,
    ⟨(some 11), .mov (.tmp 25), none⟩])
  (.seq (.ops [⟨(some 26), .fieldAddr 0 (.tmp 10), none⟩,
    ⟨(some 27), .load false 1 (.tmp 26), none⟩])
  (.block 2 (.seq (.ops [⟨(some 29), .bin .eql (.tmp 27) (.con (.int .i64 1)), none⟩,
    ⟨(some 28), .mov (.tmp 29), none⟩])
  (.cond (.tmp 28)
  (.seq (.ops [⟨(some 12), .mov (.con .nilSlice), none⟩])
  (.seq (.seq (.ops [⟨(some 30), .mov (.tmp 1), none⟩,
    ⟨(some 31), .lenSlice (.tmp 30), none⟩,
    ⟨(some 32), .bin .gtr (.tmp 31) (.con (.int .i64 0)), none⟩])
  (.cond (.tmp 32)
  (.ops [⟨(some 33), .mov (.tmp 1), none⟩,
    ⟨(some 34), .idxAddr 1 (.tmp 33) (.con (.int .i64 0)), none⟩,
    ⟨(some 35), .load false 1 (.tmp 34), none⟩,
    ⟨(some 36), .mov (.tmp 1), none⟩,
    ⟨(some 37), .slc 1 (.tmp 36) (some (.con (.int .i64 1))) none none, none⟩,
    ⟨(some 12), .mov (.tmp 35), none⟩,
    ⟨(some 1), .mov (.tmp 37), none⟩])
  .skip))
  (.ops [⟨(some 38), .mov (.tmp 8), none⟩,
    ⟨(some 39), .mov (.tmp 7), none⟩,
    ⟨(some 40), .mov (.tmp 12), none⟩,
    ⟨(some 41), .call 25 [(.tmp 40)], none⟩,
    ⟨(some 42), .buildSlice 1 2 [.nilSlice, .nilSlice] [(0, 1, (.tmp 39)), (1, 1, (.tmp 41))], none⟩,
    ⟨(some 43), .call 21 [(.tmp 42)], none⟩,
    ⟨(some 44), .buildSlice 1 1 [.nilSlice] [(0, 1, (.tmp 43))], none⟩,
    ⟨(some 45), .append 1 24 (.tmp 38) (.tmp 44), none⟩,
    ⟨(some 8), .mov (.tmp 45), none⟩])))
  (.seq (.ops [⟨(some 47), .bin .eql (.tmp 27) (.con (.int .i64 4)), none⟩,
    ⟨(some 46), .mov (.tmp 47), none⟩])
  (.cond (.tmp 46)
  (.ops [⟨(some 48), .mov (.tmp 8), none⟩,
    ⟨(some 49), .mov (.tmp 11), none⟩,
    ⟨(some 50), .bin .sub (.tmp 49) (.con (.int .i64 1)), none⟩,
    ⟨(some 51), .mov (.tmp 7), none⟩,
    ⟨(some 52), .mov (.tmp 8), none⟩,
    ⟨(some 53), .mov (.tmp 11), none⟩,
    ⟨(some 54), .bin .sub (.tmp 53) (.con (.int .i64 1)), none⟩,
    ⟨(some 55), .idxAddr 1 (.tmp 52) (.tmp 54), none⟩,
    ⟨(some 56), .load false 1 (.tmp 55), none⟩,
    ⟨(some 57), .call 26 [(.tmp 51), (.tmp 56)], none⟩,
    ⟨(some 58), .idxAddr 1 (.tmp 48) (.tmp 50), none⟩,
    ⟨none, .store 1 (.tmp 58) (.tmp 57), none⟩])
  (.seq (.ops [⟨(some 60), .bin .eql (.tmp 27) (.con (.int .i64 2)), none⟩,
    ⟨(some 59), .mov (.tmp 60), none⟩])
  (.cond (.tmp 59)
  (.draw [.op ⟨(some 61), .mov (.tmp 8), none⟩,
    .op ⟨(some 62), .mov (.tmp 11), none⟩,
    .op ⟨(some 63), .bin .sub (.tmp 62) (.con (.int .i64 2)), none⟩,
    .op ⟨(some 64), .slc 1 (.tmp 61) none (some (.tmp 63)) none, none⟩,
    .op ⟨(some 65), .mov (.tmp 8), none⟩,
    .op ⟨(some 66), .mov (.tmp 11), none⟩,
    .op ⟨(some 67), .bin .sub (.tmp 66) (.con (.int .i64 2)), none⟩,
    .op ⟨(some 68), .idxAddr 1 (.tmp 65) (.tmp 67), none⟩,
    .op ⟨(some 69), .load false 1 (.tmp 68), none⟩,
    .op ⟨(some 70), .mov (.tmp 8), none⟩,
    .op ⟨(some 71), .mov (.tmp 11), none⟩,
    .op ⟨(some 72), .bin .sub (.tmp 71) (.con (.int .i64 1)), none⟩,
    .op ⟨(some 73), .idxAddr 1 (.tmp 70) (.tmp 72), none⟩,
    .op ⟨(some 74), .load false 1 (.tmp 73), none⟩,
    .op ⟨(some 75), .buildSlice 1 2 [.nilSlice, .nilSlice] [(0, 1, (.tmp 69)), (1, 1, (.tmp 74))], none⟩,
    .look ⟨(some 69), .load false 1 (.tmp 68), none⟩,
    .look ⟨(some 74), .load false 1 (.tmp 73), none⟩,
    .look ⟨(some 75), .buildSlice 1 2 [.nilSlice, .nilSlice] [(0, 1, (.tmp 69)), (1, 1, (.tmp 74))], none⟩,
    .op ⟨(some 76), .call 21 [(.tmp 75)], none⟩,
    .op ⟨(some 77), .buildSlice 1 1 [.nilSlice] [(0, 1, (.tmp 76))], none⟩,
    .look ⟨(some 77), .buildSlice 1 1 [.nilSlice] [(0, 1, (.tmp 76))], none⟩,
    .op ⟨(some 78), .append 1 24 (.tmp 64) (.tmp 77), none⟩,
    .op ⟨(some 8), .mov (.tmp 78), none⟩])
  (.seq (.ops [⟨(some 80), .bin .eql (.tmp 27) (.con (.int .i64 3)), none⟩,
    ⟨(some 79), .mov (.tmp 80), none⟩])
  (.cond (.tmp 79)
  (.draw [.op ⟨(some 81), .mov (.tmp 8), none⟩,
    .op ⟨(some 82), .mov (.tmp 11), none⟩,
    .op ⟨(some 83), .bin .sub (.tmp 82) (.con (.int .i64 2)), none⟩,
    .op ⟨(some 84), .slc 1 (.tmp 81) none (some (.tmp 83)) none, none⟩,
    .op ⟨(some 85), .mov (.tmp 8), none⟩,
    .op ⟨(some 86), .mov (.tmp 11), none⟩,
    .op ⟨(some 87), .bin .sub (.tmp 86) (.con (.int .i64 2)), none⟩,
    .op ⟨(some 88), .idxAddr 1 (.tmp 85) (.tmp 87), none⟩,
    .op ⟨(some 89), .load false 1 (.tmp 88), none⟩,
    .op ⟨(some 90), .mov (.tmp 8), none⟩,
    .op ⟨(some 91), .mov (.tmp 11), none⟩,
    .op ⟨(some 92), .bin .sub (.tmp 91) (.con (.int .i64 1)), none⟩,
    .op ⟨(some 93), .idxAddr 1 (.tmp 90) (.tmp 92), none⟩,
    .op ⟨(some 94), .load false 1 (.tmp 93), none⟩,
    .op ⟨(some 95), .buildSlice 1 2 [.nilSlice, .nilSlice] [(0, 1, (.tmp 89)), (1, 1, (.tmp 94))], none⟩,
    .look ⟨(some 89), .load false 1 (.tmp 88), none⟩,
    .look ⟨(some 94), .load false 1 (.tmp 93), none⟩,
    .look ⟨(some 95), .buildSlice 1 2 [.nilSlice, .nilSlice] [(0, 1, (.tmp 89)), (1, 1, (.tmp 94))], none⟩,
    .op ⟨(some 96), .call 20 [(.tmp 95)], none⟩,
    .op ⟨(some 97), .buildSlice 1 1 [.nilSlice] [(0, 1, (.tmp 96))], none⟩,
    .look ⟨(some 97), .buildSlice 1 1 [.nilSlice] [(0, 1, (.tmp 96))], none⟩,
    .op ⟨(some 98), .append 1 24 (.tmp 84) (.tmp 97), none⟩,
    .op ⟨(some 8), .mov (.tmp 98), none⟩])
  .skip)))))))))))))
  (.ops [⟨(some 99), .bin .add (.tmp 20) (.con (.int .i64 1)), none⟩,
    ⟨(some 20), .mov (.tmp 99), none⟩]))))
def c9 : ACode := (.seq (.ops [⟨(some 6), .mov (.con .nilSlice), none⟩])
  (.seq (.seq (.ops [⟨(some 13), .mov (.tmp 0), none⟩,
    ⟨(some 14), .call 12 [(.tmp 13)], none⟩,
    ⟨(some 15), .un .not (.tmp 14), none⟩])
  (.cond (.tmp 15)
  (.seq (.ops [⟨(some 6), .mov (.con .nilSlice), none⟩])
  .ret)
  .skip))
  (.seq (.ops [⟨(some 16), .mov (.tmp 2), none⟩,
    ⟨(some 17), .call 25 [(.tmp 16)], none⟩,
    ⟨(some 7), .mov (.tmp 17), none⟩])
  (.seq (.ops [⟨(some 8), .mov (.con .nilSlice), none⟩])
  (.seq (.seq (.ops [⟨(some 18), .mov (.tmp 0), none⟩,
    ⟨(some 19), .lenSlice (.tmp 18), none⟩,
    ⟨(some 20), .mov (.con (.int .i64 0)), none⟩])
  (.block 0 (.loop c9l0)))
  (.seq (.ops [⟨(some 100), .mov (.tmp 8), none⟩,
    ⟨(some 101), .idxAddr 1 (.tmp 100) (.con (.int .i64 0)), none⟩,
    ⟨(some 102), .load false 1 (.tmp 101), none⟩,
    ⟨(some 6), .mov (.tmp 102), none⟩])
  .ret))))))
def a9 : AFunc := ⟨3, c9, [.tmp 6]⟩

/- 10: tendril/query.Text -/
def c10l0 : ACode := (.seq (.ops [⟨(some 13), .bin .lss (.tmp 12) (.tmp 11), none⟩])
  (.seq (.cond (.tmp 13)
  .skip
  (.exit 0))
  (.seq (.block 1 (.seq (.ops [⟨(some 14), .idxAddr 2 (.tmp 10) (.tmp 12), none⟩,
    ⟨(some 15), .load true 2 (.tmp 14), none⟩,
    ⟨(some 5), .new [(.int .i64 0), (.str [])], none⟩,
    ⟨none, .store 2 (.tmp 5) (.tmp 15), none⟩])
  (.seq (.ops [⟨(some 16), .mov (.tmp 3), none⟩,
    ⟨(some 17), .lenSlice (.tmp 16), none⟩,
    ⟨(some 6), .mov (.tmp 17), none⟩])
  (.seq (.ops [⟨(some 18), .fieldAddr 0 (.tmp 5), none⟩,
    ⟨(some 19), .load false 1 (.tmp 18), none⟩])
  (.block 2 (.seq (.ops [⟨(some 21), .bin .eql (.tmp 19) (.con (.int .i64 1)), none⟩,
    ⟨(some 20), .mov (.tmp 21), none⟩])
  (.cond (.tmp 20)
  (.ops [⟨(some 22), .mov (.tmp 3), none⟩,
    ⟨(some 23), .fieldAddr 1 (.tmp 5), none⟩,
    ⟨(some 24), .load false 1 (.tmp 23), none⟩,
    ⟨(some 25), .buildSlice 1 1 [(.str [])] [(0, 1, (.tmp 24))], none⟩,
    ⟨(some 26), .append 1 16 (.tmp 22) (.tmp 25), none⟩,
    ⟨(some 3), .mov (.tmp 26), none⟩])
  (.seq (.ops [⟨(some 28), .bin .eql (.tmp 19) (.con (.int .i64 4)), none⟩,
    ⟨(some 27), .mov (.tmp 28), none⟩])
  (.cond (.tmp 27)
  (.ops [⟨(some 29), .mov (.tmp 3), none⟩,
    ⟨(some 30), .mov (.tmp 6), none⟩,
    ⟨(some 31), .bin .sub (.tmp 30) (.con (.int .i64 1)), none⟩,
    ⟨(some 32), .mov (.tmp 3), none⟩,
    ⟨(some 33), .mov (.tmp 6), none⟩,
    ⟨(some 34), .bin .sub (.tmp 33) (.con (.int .i64 1)), none⟩,
    ⟨(some 35), .idxAddr 1 (.tmp 32) (.tmp 34), none⟩,
    ⟨(some 36), .load false 1 (.tmp 35), none⟩,
    ⟨(some 37), .bin .add (.con (.str [33])) (.tmp 36), none⟩,
    ⟨(some 38), .idxAddr 1 (.tmp 29) (.tmp 31), none⟩,
    ⟨none, .store 1 (.tmp 38) (.tmp 37), none⟩])
  (.seq (.ops [⟨(some 40), .bin .eql (.tmp 19) (.con (.int .i64 2)), none⟩,
    ⟨(some 39), .mov (.tmp 40), none⟩])
  (.cond (.tmp 39)
  (.draw [.op ⟨(some 41), .mov (.tmp 3), none⟩,
    .op ⟨(some 42), .mov (.tmp 6), none⟩,
    .op ⟨(some 43), .bin .sub (.tmp 42) (.con (.int .i64 2)), none⟩,
    .op ⟨(some 44), .slc 1 (.tmp 41) none (some (.tmp 43)) none, none⟩,
    .op ⟨(some 45), .mov (.tmp 3), none⟩,
    .op ⟨(some 46), .mov (.tmp 6), none⟩,
    .op ⟨(some 47), .bin .sub (.tmp 46) (.con (.int .i64 2)), none⟩,
    .op ⟨(some 48), .idxAddr 1 (.tmp 45) (.tmp 47), none⟩,
    .op ⟨(some 49), .load false 1 (.tmp 48), none⟩,
    .op ⟨(some 50), .bin .add (.con (.str [40])) (.tmp 49), none⟩,
    .op ⟨(some 51), .bin .add (.tmp 50) (.con (.str [38])), none⟩,
    .op ⟨(some 52), .mov (.tmp 3), none⟩,
    .op ⟨(some 53), .mov (.tmp 6), none⟩,
    .op ⟨(some 54), .bin .sub (.tmp 53) (.con (.int .i64 1)), none⟩,
    .op ⟨(some 55), .idxAddr 1 (.tmp 52) (.tmp 54), none⟩,
    .op ⟨(some 56), .load false 1 (.tmp 55), none⟩,
    .op ⟨(some 57), .bin .add (.tmp 51) (.tmp 56), none⟩,
    .op ⟨(some 58), .bin .add (.tmp 57) (.con (.str [41])), none⟩,
    .op ⟨(some 59), .buildSlice 1 1 [(.str [])] [(0, 1, (.tmp 58))], none⟩,
    .look ⟨(some 49), .load false 1 (.tmp 48), none⟩,
    .look ⟨(some 56), .load false 1 (.tmp 55), none⟩,
    .look ⟨(some 59), .buildSlice 1 1 [(.str [])] [(0, 1, (.tmp 58))], none⟩,
    .op ⟨(some 60), .append 1 16 (.tmp 44) (.tmp 59), none⟩,
    .op ⟨(some 3), .mov (.tmp 60), none⟩])
  (.seq (.ops [⟨(some 62), .bin .eql (.tmp 19) (.con (.int .i64 3)), none⟩,
    ⟨(some 61), .mov (.tmp 62), none⟩])
  (.cond (.tmp 61)
  (.draw [.op ⟨(some 63), .mov (.tmp 3), none⟩,
    .op ⟨(some 64), .mov (.tmp 6), none⟩,
    .op ⟨(some 65), .bin .sub (.tmp 64) (.con (.int .i64 2)), none⟩,
    .op ⟨(some 66), .slc 1 (.tmp 63) none (some (.tmp 65)) none, none⟩,
    .op ⟨(some 67), .mov (.tmp 3), none⟩,
    .op ⟨(some 68), .mov (.tmp 6), none⟩,
    .op ⟨(some 69), .bin .sub (.tmp 68) (.con (.int .i64 2)), none⟩,
    .op ⟨(some 70), .idxAddr 1 (.tmp 67) (.tmp 69), none⟩,
    .op ⟨(some 71), .load false 1 (.tmp 70), none⟩,
    .op ⟨(some 72), .bin .add (.con (.str [40])) (.tmp 71), none⟩,
    .op ⟨(some 73), .bin .add (.tmp 72) (.con (.str [124])), none⟩,
    .op ⟨(some 74), .mov (.tmp 3), none⟩,
    .op ⟨(some 75), .mov (.tmp 6), none⟩,
    .op ⟨(some 76), .bin .sub (.tmp 75) (.con (.int .i64 1)), none⟩,
    .op ⟨(some 77), .idxAddr 1 (.tmp 74) (.tmp 76), none⟩,
    .op ⟨(some 78), .load false 1 (.tmp 77), none⟩,
    .op ⟨(some 79), .bin .add (.tmp 73) (.tmp 78), none⟩,
    .op ⟨(some 80), .bin .add (.tmp 79) (.con (.str [41])), none⟩,
    .op ⟨(some 81), .buildSlice 1 1 [(.str [])] [(0, 1, (.tmp 80))], none⟩,
    .look ⟨(some 71), .load false 1 (.tmp 70), none⟩,
    .look ⟨(some 78), .load false 1 (.tmp 77), none⟩,
    .look ⟨(some 81), .buildSlice 1 1 [(.str [])] [(0, 1, (.tmp 80))], none⟩,
    .op ⟨(some 82), .append 1 16 (.tmp 66) (.tmp 81), none⟩,
    .op ⟨(some 3), .mov (.tmp 82), none⟩])
  .skip)))))))))))))
  (.ops [⟨(some 83), .bin .add (.tmp 12) (.con (.int .i64 1)), none⟩,
    ⟨(some 12), .mov (.tmp 83), none⟩]))))
def c10 : ACode := (.seq (.ops [⟨(some 2), .mov (.con (.str [])), none⟩])
  (.seq (.seq (.ops [⟨(some 7), .mov (.tmp 0), none⟩,
    ⟨(some 8), .call 12 [(.tmp 7)], none⟩,
    ⟨(some 9), .un .not (.tmp 8), none⟩])
  (.cond (.tmp 9)
  (.seq (.ops [⟨(some 2), .mov (.con (.str [])), none⟩])
  .ret)
  .skip))
  (.seq (.ops [⟨(some 3), .mov (.con .nilSlice), none⟩])
  (.seq (.seq (.ops [⟨(some 10), .mov (.tmp 0), none⟩,
    ⟨(some 11), .lenSlice (.tmp 10), none⟩,
    ⟨(some 12), .mov (.con (.int .i64 0)), none⟩])
  (.block 0 (.loop c10l0)))
  (.seq (.ops [⟨(some 84), .mov (.tmp 3), none⟩,
    ⟨(some 85), .idxAddr 1 (.tmp 84) (.con (.int .i64 0)), none⟩,
    ⟨(some 86), .load false 1 (.tmp 85), none⟩,
    ⟨(some 2), .mov (.tmp 86), none⟩])
  .ret)))))
def a10 : AFunc := ⟨1, c10, [.tmp 2]⟩

/- 11: tendril/tendrilbook.Same[int] -/
def c11l0 : ACode := (.seq (.seq (.ops [⟨(some 11), .mov (.tmp 5), none⟩,
    ⟨(some 12), .mov (.tmp 0), none⟩,
    ⟨(some 13), .lenSlice (.tmp 12), none⟩,
    ⟨(some 14), .bin .lss (.tmp 11) (.tmp 13), none⟩])
  (.cond (.tmp 14)
  .skip
  (.exit 0)))
  (.seq (.block 1 (.seq (.ops [⟨(some 17), .mov (.tmp 0), none⟩,
    ⟨(some 18), .mov (.tmp 5), none⟩,
    ⟨(some 19), .idxAddr 1 (.tmp 17) (.tmp 18), none⟩,
    ⟨(some 20), .load false 1 (.tmp 19), none⟩,
    ⟨(some 21), .mov (.tmp 1), none⟩,
    ⟨(some 22), .mov (.tmp 5), none⟩,
    ⟨(some 23), .idxAddr 1 (.tmp 21) (.tmp 22), none⟩,
    ⟨(some 24), .load false 1 (.tmp 23), none⟩,
    ⟨(some 25), .bin .neq (.tmp 20) (.tmp 24), none⟩])
  (.cond (.tmp 25)
  (.seq (.ops [⟨(some 4), .mov (.con (.bool false)), none⟩])
  .ret)
  .skip)))
  (.ops [⟨(some 15), .mov (.tmp 5), none⟩,
    ⟨(some 16), .bin .add (.tmp 15) (.con (.int .i64 1)), none⟩,
    ⟨(some 5), .mov (.tmp 16), none⟩])))
def c11 : ACode := (.seq (.ops [⟨(some 4), .mov (.con (.bool false)), none⟩])
  (.seq (.seq (.ops [⟨(some 6), .mov (.tmp 0), none⟩,
    ⟨(some 7), .lenSlice (.tmp 6), none⟩,
    ⟨(some 8), .mov (.tmp 1), none⟩,
    ⟨(some 9), .lenSlice (.tmp 8), none⟩,
    ⟨(some 10), .bin .neq (.tmp 7) (.tmp 9), none⟩])
  (.cond (.tmp 10)
  (.seq (.ops [⟨(some 4), .mov (.con (.bool false)), none⟩])
  .ret)
  .skip))
  (.seq (.seq (.ops [⟨(some 5), .mov (.con (.int .i64 0)), none⟩])
  (.block 0 (.loop c11l0)))
  (.seq (.ops [⟨(some 4), .mov (.con (.bool true)), none⟩])
  .ret))))
def a11 : AFunc := ⟨2, c11, [.tmp 4]⟩

/- 12: tendril/query.Right -/
def c12l0 : ACode := (.seq (.ops [⟨(some 10), .bin .lss (.tmp 9) (.tmp 8), none⟩])
  (.seq (.cond (.tmp 10)
  .skip
  (.exit 0))
  (.seq (.block 1 (.seq (.ops [⟨(some 11), .idxAddr 2 (.tmp 7) (.tmp 9), none⟩,
    ⟨(some 12), .load true 2 (.tmp 11), none⟩,
    ⟨(some 5), .new [(.int .i64 0), (.str [])], none⟩,
    ⟨none, .store 2 (.tmp 5) (.tmp 12), none⟩])
  (.seq (.ops [⟨(some 13), .load true 2 (.tmp 5), none⟩,
    ⟨(some 14), .call 27 [(.tmp 13)], none⟩,
    ⟨(some 6), .mov (.tmp 14), none⟩])
  (.seq (.seq (.ops [⟨(some 15), .mov (.tmp 6), none⟩,
    ⟨(some 16), .bin .lss (.tmp 15) (.con (.int .i64 0)), none⟩,
    ⟨(some 17), .mov (.tmp 16), none⟩,
    ⟨(some 18), .mov (.tmp 3), (some (17, false))⟩,
    ⟨(some 19), .mov (.tmp 6), (some (17, false))⟩,
    ⟨(some 20), .bin .lss (.tmp 18) (.tmp 19), (some (17, false))⟩,
    ⟨(some 21), .pick (.tmp 17) (.con (.bool true)) (.tmp 20), none⟩])
  (.cond (.tmp 21)
  (.seq (.ops [⟨(some 2), .mov (.con (.bool false)), none⟩])
  .ret)
  .skip))
  (.ops [⟨(some 22), .mov (.tmp 3), none⟩,
    ⟨(some 23), .mov (.tmp 6), none⟩,
    ⟨(some 24), .bin .sub (.con (.int .i64 1)) (.tmp 23), none⟩,
    ⟨(some 25), .bin .add (.tmp 22) (.tmp 24), none⟩,
    ⟨(some 3), .mov (.tmp 25), none⟩])))))
  (.ops [⟨(some 26), .bin .add (.tmp 9) (.con (.int .i64 1)), none⟩,
    ⟨(some 9), .mov (.tmp 26), none⟩]))))
def c12 : ACode := (.seq (.ops [⟨(some 2), .mov (.con (.bool false)), none⟩])
  (.seq (.ops [⟨(some 3), .mov (.con (.int .i64 0)), none⟩])
  (.seq (.seq (.ops [⟨(some 7), .mov (.tmp 0), none⟩,
    ⟨(some 8), .lenSlice (.tmp 7), none⟩,
    ⟨(some 9), .mov (.con (.int .i64 0)), none⟩])
  (.block 0 (.loop c12l0)))
  (.seq (.ops [⟨(some 27), .mov (.tmp 3), none⟩,
    ⟨(some 28), .bin .eql (.tmp 27) (.con (.int .i64 1)), none⟩,
    ⟨(some 29), .mov (.tmp 28), none⟩,
    ⟨(some 30), .mov (.tmp 0), (some (29, true))⟩,
    ⟨(some 31), .lenSlice (.tmp 30), (some (29, true))⟩,
    ⟨(some 32), .bin .leq (.tmp 31) (.con (.int .i64 64)), (some (29, true))⟩,
    ⟨(some 33), .pick (.tmp 29) (.tmp 32) (.con (.bool false)), none⟩,
    ⟨(some 2), .mov (.tmp 33), none⟩])
  .ret))))
def a12 : AFunc := ⟨1, c12, [.tmp 2]⟩

/- 13: tendril/tendrilbook.Same[tendril/api.Part] -/
def c13l0 : ACode := (.seq (.seq (.ops [⟨(some 11), .mov (.tmp 5), none⟩,
    ⟨(some 12), .mov (.tmp 0), none⟩,
    ⟨(some 13), .lenSlice (.tmp 12), none⟩,
    ⟨(some 14), .bin .lss (.tmp 11) (.tmp 13), none⟩])
  (.cond (.tmp 14)
  .skip
  (.exit 0)))
  (.seq (.block 1 (.seq (.ops [⟨(some 17), .mov (.tmp 0), none⟩,
    ⟨(some 18), .mov (.tmp 5), none⟩,
    ⟨(some 19), .idxAddr 2 (.tmp 17) (.tmp 18), none⟩,
    ⟨(some 20), .load true 2 (.tmp 19), none⟩,
    ⟨(some 21), .mov (.tmp 1), none⟩,
    ⟨(some 22), .mov (.tmp 5), none⟩,
    ⟨(some 23), .idxAddr 2 (.tmp 21) (.tmp 22), none⟩,
    ⟨(some 24), .load true 2 (.tmp 23), none⟩,
    ⟨(some 25), .eqAgg [0, 1] true (.tmp 20) (.tmp 24), none⟩])
  (.cond (.tmp 25)
  (.seq (.ops [⟨(some 4), .mov (.con (.bool false)), none⟩])
  .ret)
  .skip)))
  (.ops [⟨(some 15), .mov (.tmp 5), none⟩,
    ⟨(some 16), .bin .add (.tmp 15) (.con (.int .i64 1)), none⟩,
    ⟨(some 5), .mov (.tmp 16), none⟩])))
def c13 : ACode := (.seq (.ops [⟨(some 4), .mov (.con (.bool false)), none⟩])
  (.seq (.seq (.ops [⟨(some 6), .mov (.tmp 0), none⟩,
    ⟨(some 7), .lenSlice (.tmp 6), none⟩,
    ⟨(some 8), .mov (.tmp 1), none⟩,
    ⟨(some 9), .lenSlice (.tmp 8), none⟩,
    ⟨(some 10), .bin .neq (.tmp 7) (.tmp 9), none⟩])
  (.cond (.tmp 10)
  (.seq (.ops [⟨(some 4), .mov (.con (.bool false)), none⟩])
  .ret)
  .skip))
  (.seq (.seq (.ops [⟨(some 5), .mov (.con (.int .i64 0)), none⟩])
  (.block 0 (.loop c13l0)))
  (.seq (.ops [⟨(some 4), .mov (.con (.bool true)), none⟩])
  .ret))))
def a13 : AFunc := ⟨2, c13, [.tmp 4]⟩

/- 14: tendril/token.Letter -/
def c14 : ACode := (.seq (.ops [⟨(some 2), .mov (.con (.int .u8 0)), none⟩])
  (.seq (.block 0 (.seq (.ops [⟨(some 4), .mov (.tmp 0), none⟩,
    ⟨(some 5), .bin .geq (.tmp 4) (.con (.int .u8 97)), none⟩,
    ⟨(some 6), .mov (.tmp 5), none⟩,
    ⟨(some 7), .mov (.tmp 0), (some (6, true))⟩,
    ⟨(some 8), .bin .leq (.tmp 7) (.con (.int .u8 122)), (some (6, true))⟩,
    ⟨(some 9), .pick (.tmp 6) (.tmp 8) (.con (.bool false)), none⟩,
    ⟨(some 10), .mov (.tmp 9), none⟩,
    ⟨(some 11), .mov (.tmp 0), (some (10, false))⟩,
    ⟨(some 12), .bin .geq (.tmp 11) (.con (.int .u8 48)), (some (10, false))⟩,
    ⟨(some 13), .mov (.tmp 12), (some (10, false))⟩,
    ⟨(some 14), .mov (.tmp 0), (some (13, true))⟩,
    ⟨(some 15), .bin .leq (.tmp 14) (.con (.int .u8 57)), (some (13, true))⟩,
    ⟨(some 16), .pick (.tmp 13) (.tmp 15) (.con (.bool false)), (some (10, false))⟩,
    ⟨(some 17), .pick (.tmp 10) (.con (.bool true)) (.tmp 16), none⟩,
    ⟨(some 3), .mov (.tmp 17), none⟩])
  (.cond (.tmp 3)
  (.seq (.ops [⟨(some 18), .mov (.tmp 0), none⟩,
    ⟨(some 2), .mov (.tmp 18), none⟩])
  .ret)
  (.seq (.ops [⟨(some 20), .mov (.tmp 0), none⟩,
    ⟨(some 21), .bin .geq (.tmp 20) (.con (.int .u8 65)), none⟩,
    ⟨(some 22), .mov (.tmp 21), none⟩,
    ⟨(some 23), .mov (.tmp 0), (some (22, true))⟩,
    ⟨(some 24), .bin .leq (.tmp 23) (.con (.int .u8 90)), (some (22, true))⟩,
    ⟨(some 25), .pick (.tmp 22) (.tmp 24) (.con (.bool false)), none⟩,
    ⟨(some 19), .mov (.tmp 25), none⟩])
  (.cond (.tmp 19)
  (.seq (.ops [⟨(some 26), .mov (.tmp 0), none⟩,
    ⟨(some 27), .bin .sub (.tmp 26) (.con (.int .u8 65)), none⟩,
    ⟨(some 28), .bin .add (.tmp 27) (.con (.int .u8 97)), none⟩,
    ⟨(some 2), .mov (.tmp 28), none⟩])
  .ret)
  .skip)))))
  (.seq (.ops [⟨(some 2), .mov (.con (.int .u8 0)), none⟩])
  .ret)))
def a14 : AFunc := ⟨1, c14, [.tmp 2]⟩

/- 17: tendril/query.Terms -/
def c17l0 : ACode := (.seq (.ops [⟨(some 9), .bin .lss (.tmp 8) (.tmp 7), none⟩])
  (.seq (.cond (.tmp 9)
  .skip
  (.exit 0))
  (.seq (.block 1 (.seq (.ops [⟨(some 10), .idxAddr 2 (.tmp 6) (.tmp 8), none⟩,
    ⟨(some 11), .load true 2 (.tmp 10), none⟩,
    ⟨(some 5), .new [(.int .i64 0), (.str [])], none⟩,
    ⟨none, .store 2 (.tmp 5) (.tmp 11), none⟩])
  (.seq (.ops [⟨(some 12), .fieldAddr 0 (.tmp 5), none⟩,
    ⟨(some 13), .load false 1 (.tmp 12), none⟩,
    ⟨(some 14), .bin .eql (.tmp 13) (.con (.int .i64 1)), none⟩])
  (.cond (.tmp 14)
  (.ops [⟨(some 15), .mov (.tmp 3), none⟩,
    ⟨(some 16), .fieldAddr 1 (.tmp 5), none⟩,
    ⟨(some 17), .load false 1 (.tmp 16), none⟩,
    ⟨(some 18), .buildSlice 1 1 [(.str [])] [(0, 1, (.tmp 17))], none⟩,
    ⟨(some 19), .append 1 16 (.tmp 15) (.tmp 18), none⟩,
    ⟨(some 3), .mov (.tmp 19), none⟩])
  .skip))))
  (.ops [⟨(some 20), .bin .add (.tmp 8) (.con (.int .i64 1)), none⟩,
    ⟨(some 8), .mov (.tmp 20), none⟩]))))
def c17 : ACode := (.seq (.ops [⟨(some 2), .mov (.con .nilSlice), none⟩])
  (.seq (.ops [⟨(some 3), .mov (.con .nilSlice), none⟩])
  (.seq (.seq (.ops [⟨(some 6), .mov (.tmp 0), none⟩,
    ⟨(some 7), .lenSlice (.tmp 6), none⟩,
    ⟨(some 8), .mov (.con (.int .i64 0)), none⟩])
  (.block 0 (.loop c17l0)))
  (.seq (.ops [⟨(some 21), .mov (.tmp 3), none⟩,
    ⟨(some 2), .mov (.tmp 21), none⟩])
  .ret))))
def a17 : AFunc := ⟨1, c17, [.tmp 2]⟩

/- 20: tendril/merge.Union -/
def c20l0 : ACode := (.seq (.seq (.ops [⟨(some 7), .mov (.tmp 4), none⟩,
    ⟨(some 8), .nilChk (.tmp 7), none⟩,
    ⟨(some 9), .load false 1 (.tmp 8), none⟩,
    ⟨(some 10), .call 29 [(.tmp 9)], none⟩,
    ⟨(some 11), .bin .gtr (.tmp 10) (.con (.int .i64 0)), none⟩])
  (.cond (.tmp 11)
  .skip
  (.exit 0)))
  (.block 1 (.ops [⟨(some 12), .mov (.tmp 3), none⟩,
    ⟨(some 13), .mov (.tmp 4), none⟩,
    ⟨(some 14), .call 30 [(.tmp 13)], none⟩,
    ⟨(some 15), .buildSlice 1 1 [(.int .i64 0)] [(0, 1, (.tmp 14))], none⟩,
    ⟨(some 16), .append 1 8 (.tmp 12) (.tmp 15), none⟩,
    ⟨(some 3), .mov (.tmp 16), none⟩])))
def c20 : ACode := (.seq (.ops [⟨(some 2), .mov (.con .nilSlice), none⟩])
  (.seq (.ops [⟨(some 3), .mov (.con .nilSlice), none⟩])
  (.seq (.seq (.ops [⟨(some 5), .mov (.tmp 0), none⟩,
    ⟨(some 6), .call 28 [(.tmp 5)], none⟩,
    ⟨(some 4), .mov (.tmp 6), none⟩])
  (.block 0 (.loop c20l0)))
  (.seq (.ops [⟨(some 17), .mov (.tmp 3), none⟩,
    ⟨(some 2), .mov (.tmp 17), none⟩])
  .ret))))
def a20 : AFunc := ⟨1, c20, [.tmp 2]⟩

/- 21: tendril/merge.Inter -/
def c21l0 : ACode := (.seq (.ops [⟨(some 17), .bin .lss (.tmp 16) (.tmp 15), none⟩])
  (.seq (.cond (.tmp 17)
  .skip
  (.exit 0))
  (.seq (.block 1 (.seq (.ops [⟨(some 18), .idxAddr 1 (.tmp 14) (.tmp 16), none⟩,
    ⟨(some 19), .load false 1 (.tmp 18), none⟩,
    ⟨(some 5), .mov (.tmp 19), none⟩])
  (.ops [⟨(some 20), .mov (.tmp 3), none⟩,
    ⟨(some 21), .mov (.tmp 5), none⟩,
    ⟨(some 22), .call 31 [(.tmp 21)], none⟩,
    ⟨(some 23), .call 32 [(.tmp 20), (.tmp 22), (.con (.bool true))], none⟩,
    ⟨(some 3), .mov (.tmp 23), none⟩])))
  (.ops [⟨(some 24), .bin .add (.tmp 16) (.con (.int .i64 1)), none⟩,
    ⟨(some 16), .mov (.tmp 24), none⟩]))))
def c21 : ACode := (.seq (.ops [⟨(some 2), .mov (.con .nilSlice), none⟩])
  (.seq (.seq (.ops [⟨(some 6), .mov (.tmp 0), none⟩,
    ⟨(some 7), .lenSlice (.tmp 6), none⟩,
    ⟨(some 8), .bin .eql (.tmp 7) (.con (.int .i64 0)), none⟩])
  (.cond (.tmp 8)
  (.seq (.ops [⟨(some 2), .mov (.con .nilSlice), none⟩])
  .ret)
  .skip))
  (.seq (.ops [⟨(some 9), .mov (.tmp 0), none⟩,
    ⟨(some 10), .idxAddr 1 (.tmp 9) (.con (.int .i64 0)), none⟩,
    ⟨(some 11), .load false 1 (.tmp 10), none⟩,
    ⟨(some 12), .call 31 [(.tmp 11)], none⟩,
    ⟨(some 3), .mov (.tmp 12), none⟩])
  (.seq (.seq (.ops [⟨(some 13), .mov (.tmp 0), none⟩,
    ⟨(some 14), .slc 1 (.tmp 13) (some (.con (.int .i64 1))) none none, none⟩,
    ⟨(some 15), .lenSlice (.tmp 14), none⟩,
    ⟨(some 16), .mov (.con (.int .i64 0)), none⟩])
  (.block 0 (.loop c21l0)))
  (.seq (.ops [⟨(some 25), .mov (.tmp 3), none⟩,
    ⟨(some 2), .mov (.tmp 25), none⟩])
  .ret)))))
def a21 : AFunc := ⟨1, c21, [.tmp 2]⟩

/- 18: tendril/tendrillaw23.QueryLaws$1 -/
def c18 : ACode := (.seq (.ops [⟨(some 2), .new [(.int .i64 0), (.str [])], none⟩])
  (.seq (.ops [⟨(some 3), .mov (.tmp 0), none⟩,
    ⟨(some 4), .build [(.int .i64 0), (.str [])] [(0, 1, (.tmp 3))], none⟩,
    ⟨none, .store 2 (.tmp 2) (.tmp 4), none⟩])
  .ret))
def a18 : AFunc := ⟨1, c18, [.cell 2 true 2]⟩

/- 19: tendril/tendrillaw23.QueryLaws$2 -/
def c19 : ACode := (.seq (.ops [⟨(some 6), .mov (.con .nilSlice), none⟩])
  (.seq (.ops [⟨(some 7), .buildSlice 2 0 [] [], none⟩,
    ⟨(some 8), .mov (.tmp 0), none⟩,
    ⟨(some 9), .append 2 24 (.tmp 7) (.tmp 8), none⟩,
    ⟨(some 10), .mov (.tmp 1), none⟩,
    ⟨(some 11), .append 2 24 (.tmp 9) (.tmp 10), none⟩,
    ⟨(some 12), .mov (.tmp 2), none⟩,
    ⟨(some 13), .append 2 24 (.tmp 11) (.tmp 12), none⟩,
    ⟨(some 6), .mov (.tmp 13), none⟩])
  .ret))
def a19 : AFunc := ⟨3, c19, [.tmp 6]⟩

/- 22: (*tendril/query.reader).or -/
def c22l0 : ACode := (.seq (.seq (.ops [⟨(some 4), .mov (.tmp 0), none⟩,
    ⟨(some 5), .nilChk (.tmp 4), none⟩,
    ⟨(some 6), .fieldAddr 3 (.tmp 5), none⟩,
    ⟨(some 7), .load false 1 (.tmp 6), none⟩,
    ⟨(some 8), .bin .eql (.tmp 7) (.con (.int .i64 0)), none⟩,
    ⟨(some 9), .mov (.tmp 8), none⟩,
    ⟨(some 10), .mov (.tmp 0), (some (9, true))⟩,
    ⟨(some 11), .call 34 [(.tmp 10), (.con (.int .u8 124))], (some (9, true))⟩,
    ⟨(some 12), .pick (.tmp 9) (.tmp 11) (.con (.bool false)), none⟩])
  (.cond (.tmp 12)
  .skip
  (.exit 0)))
  (.block 1 (.seq (.ops [⟨(some 13), .mov (.tmp 0), none⟩,
    ⟨(some 14), .call 33 [(.tmp 13)], none⟩])
  (.ops [⟨(some 15), .mov (.tmp 0), none⟩,
    ⟨(some 16), .call 35 [(.tmp 15), (.con (.int .i64 3)), (.con (.str []))], none⟩]))))
def c22 : ACode := (.seq (.ops [⟨(some 2), .mov (.tmp 0), none⟩,
    ⟨(some 3), .call 33 [(.tmp 2)], none⟩])
  (.block 0 (.loop c22l0)))
def a22 : AFunc := ⟨1, c22, []⟩

/- 23: (*tendril/query.reader).peek -/
def c23l0 : ACode := (.seq (.seq (.ops [⟨(some 4), .mov (.tmp 0), none⟩,
    ⟨(some 5), .nilChk (.tmp 4), none⟩,
    ⟨(some 6), .fieldAddr 0 (.tmp 5), none⟩,
    ⟨(some 7), .load false 1 (.tmp 6), none⟩,
    ⟨(some 8), .bin .neq (.tmp 7) (.con (.str [])), none⟩,
    ⟨(some 9), .mov (.tmp 8), none⟩,
    ⟨(some 10), .mov (.tmp 0), (some (9, true))⟩,
    ⟨(some 11), .nilChk (.tmp 10), (some (9, true))⟩,
    ⟨(some 12), .fieldAddr 0 (.tmp 11), (some (9, true))⟩,
    ⟨(some 13), .load false 1 (.tmp 12), (some (9, true))⟩,
    ⟨(some 14), .idxStr (.tmp 13) (.con (.int .i64 0)), (some (9, true))⟩,
    ⟨(some 15), .bin .eql (.tmp 14) (.con (.int .u8 32)), (some (9, true))⟩,
    ⟨(some 16), .pick (.tmp 9) (.tmp 15) (.con (.bool false)), none⟩])
  (.cond (.tmp 16)
  .skip
  (.exit 0)))
  (.block 1 (.ops [⟨(some 17), .mov (.tmp 0), none⟩,
    ⟨(some 18), .mov (.tmp 0), none⟩,
    ⟨(some 19), .nilChk (.tmp 18), none⟩,
    ⟨(some 20), .fieldAddr 0 (.tmp 19), none⟩,
    ⟨(some 21), .load false 1 (.tmp 20), none⟩,
    ⟨(some 22), .slcStr (.tmp 21) (some (.con (.int .i64 1))) none, none⟩,
    ⟨(some 23), .nilChk (.tmp 17), none⟩,
    ⟨(some 24), .fieldAddr 0 (.tmp 23), none⟩,
    ⟨none, .store 1 (.tmp 24) (.tmp 22), none⟩])))
def c23 : ACode := (.seq (.ops [⟨(some 2), .mov (.con (.int .u8 0)), none⟩,
    ⟨(some 3), .mov (.con (.bool false)), none⟩])
  (.seq (.block 0 (.loop c23l0))
  (.seq (.seq (.ops [⟨(some 25), .mov (.tmp 0), none⟩,
    ⟨(some 26), .nilChk (.tmp 25), none⟩,
    ⟨(some 27), .fieldAddr 0 (.tmp 26), none⟩,
    ⟨(some 28), .load false 1 (.tmp 27), none⟩,
    ⟨(some 29), .bin .eql (.tmp 28) (.con (.str [])), none⟩])
  (.cond (.tmp 29)
  (.seq (.ops [⟨(some 2), .mov (.con (.int .u8 0)), none⟩,
    ⟨(some 3), .mov (.con (.bool false)), none⟩])
  .ret)
  .skip))
  (.seq (.ops [⟨(some 30), .mov (.tmp 0), none⟩,
    ⟨(some 31), .nilChk (.tmp 30), none⟩,
    ⟨(some 32), .fieldAddr 0 (.tmp 31), none⟩,
    ⟨(some 33), .load false 1 (.tmp 32), none⟩,
    ⟨(some 34), .idxStr (.tmp 33) (.con (.int .i64 0)), none⟩,
    ⟨(some 2), .mov (.tmp 34), none⟩,
    ⟨(some 3), .mov (.con (.bool true)), none⟩])
  .ret))))
def a23 : AFunc := ⟨1, c23, [.tmp 2, .tmp 3]⟩

/- 24: (*tendril/query.reader).wrong -/
def c24 : ACode := (.seq (.ops [⟨(some 4), .mov (.tmp 0), none⟩,
    ⟨(some 5), .nilChk (.tmp 4), none⟩,
    ⟨(some 6), .fieldAddr 3 (.tmp 5), none⟩,
    ⟨(some 7), .load false 1 (.tmp 6), none⟩,
    ⟨(some 8), .bin .eql (.tmp 7) (.con (.int .i64 0)), none⟩])
  (.cond (.tmp 8)
  (.ops [⟨(some 9), .mov (.tmp 0), none⟩,
    ⟨(some 10), .mov (.tmp 1), none⟩,
    ⟨(some 11), .nilChk (.tmp 9), none⟩,
    ⟨(some 12), .fieldAddr 3 (.tmp 11), none⟩,
    ⟨none, .store 1 (.tmp 12) (.tmp 10), none⟩])
  .skip))
def a24 : AFunc := ⟨2, c24, []⟩

/- 25: tendril/query.set -/
def c25 : ACode := (.seq (.ops [⟨(some 2), .mov (.con .nilSlice), none⟩])
  (.seq (.ops [⟨(some 4), .mov (.tmp 0), none⟩,
    ⟨(some 5), .call 36 [(.tmp 4)], none⟩,
    ⟨(some 3), .mov (.tmp 5), none⟩])
  (.seq (.ops [⟨(some 6), .mov (.tmp 3), none⟩,
    ⟨(some 7), .call 37 [(.tmp 6)], none⟩])
  (.seq (.ops [⟨(some 8), .mov (.tmp 3), none⟩,
    ⟨(some 9), .call 38 [(.tmp 8)], none⟩,
    ⟨(some 2), .mov (.tmp 9), none⟩])
  .ret))))
def a25 : AFunc := ⟨1, c25, [.tmp 2]⟩

/- 26: tendril/merge.Minus -/
def c26 : ACode := (.seq (.ops [⟨(some 4), .mov (.con .nilSlice), none⟩])
  (.seq (.ops [⟨(some 5), .mov (.tmp 0), none⟩,
    ⟨(some 6), .call 31 [(.tmp 5)], none⟩,
    ⟨(some 7), .mov (.tmp 1), none⟩,
    ⟨(some 8), .call 31 [(.tmp 7)], none⟩,
    ⟨(some 9), .call 32 [(.tmp 6), (.tmp 8), (.con (.bool false))], none⟩,
    ⟨(some 4), .mov (.tmp 9), none⟩])
  .ret))
def a26 : AFunc := ⟨2, c26, [.tmp 4]⟩

/- 27: tendril/query.takes -/
def c27 : ACode := (.seq (.ops [⟨(some 1), .box (.tmp 0), none⟩,
    ⟨(some 2), .mov (.con (.int .i64 0)), none⟩])
  (.seq (.block 0 (.seq (.ops [⟨(some 4), .fieldAddr 0 (.tmp 1), none⟩,
    ⟨(some 5), .load false 1 (.tmp 4), none⟩,
    ⟨(some 6), .bin .eql (.tmp 5) (.con (.int .i64 1)), none⟩,
    ⟨(some 7), .mov (.tmp 6), none⟩,
    ⟨(some 8), .fieldAddr 1 (.tmp 1), (some (7, true))⟩,
    ⟨(some 9), .load false 1 (.tmp 8), (some (7, true))⟩,
    ⟨(some 10), .call 39 [(.tmp 9)], (some (7, true))⟩,
    ⟨(some 11), .pick (.tmp 7) (.tmp 10) (.con (.bool false)), none⟩,
    ⟨(some 3), .mov (.tmp 11), none⟩])
  (.cond (.tmp 3)
  (.seq (.ops [⟨(some 2), .mov (.con (.int .i64 0)), none⟩])
  .ret)
  (.seq (.ops [⟨(some 13), .fieldAddr 0 (.tmp 1), none⟩,
    ⟨(some 14), .load false 1 (.tmp 13), none⟩,
    ⟨(some 15), .bin .eql (.tmp 14) (.con (.int .i64 4)), none⟩,
    ⟨(some 16), .mov (.tmp 15), none⟩,
    ⟨(some 17), .fieldAddr 1 (.tmp 1), (some (16, true))⟩,
    ⟨(some 18), .load false 1 (.tmp 17), (some (16, true))⟩,
    ⟨(some 19), .bin .eql (.tmp 18) (.con (.str [])), (some (16, true))⟩,
    ⟨(some 20), .pick (.tmp 16) (.tmp 19) (.con (.bool false)), none⟩,
    ⟨(some 12), .mov (.tmp 20), none⟩])
  (.cond (.tmp 12)
  (.seq (.ops [⟨(some 2), .mov (.con (.int .i64 1)), none⟩])
  .ret)
  (.seq (.ops [⟨(some 22), .fieldAddr 0 (.tmp 1), none⟩,
    ⟨(some 23), .load false 1 (.tmp 22), none⟩,
    ⟨(some 24), .bin .eql (.tmp 23) (.con (.int .i64 2)), none⟩,
    ⟨(some 25), .mov (.tmp 24), none⟩,
    ⟨(some 26), .fieldAddr 0 (.tmp 1), (some (25, false))⟩,
    ⟨(some 27), .load false 1 (.tmp 26), (some (25, false))⟩,
    ⟨(some 28), .bin .eql (.tmp 27) (.con (.int .i64 3)), (some (25, false))⟩,
    ⟨(some 29), .pick (.tmp 25) (.con (.bool true)) (.tmp 28), none⟩,
    ⟨(some 30), .mov (.tmp 29), none⟩,
    ⟨(some 31), .fieldAddr 1 (.tmp 1), (some (30, true))⟩,
    ⟨(some 32), .load false 1 (.tmp 31), (some (30, true))⟩,
    ⟨(some 33), .bin .eql (.tmp 32) (.con (.str [])), (some (30, true))⟩,
    ⟨(some 34), .pick (.tmp 30) (.tmp 33) (.con (.bool false)), none⟩,
    ⟨(some 21), .mov (.tmp 34), none⟩])
  (.cond (.tmp 21)
  (.seq (.ops [⟨(some 2), .mov (.con (.int .i64 2)), none⟩])
  .ret)
  .skip)))))))
  (.seq (.ops [⟨(some 2), .mov (.con (.int .i64 (-1))), none⟩])
  .ret)))
def a27 : AFunc := ⟨1, c27, [.tmp 2]⟩

/- 28: tendril/merge.heads -/
def c28l0 : ACode := (.seq (.ops [⟨(some 11), .bin .lss (.tmp 10) (.tmp 9), none⟩])
  (.seq (.cond (.tmp 11)
  .skip
  (.exit 0))
  (.seq (.block 1 (.seq (.ops [⟨(some 12), .idxAddr 1 (.tmp 8) (.tmp 10), none⟩,
    ⟨(some 13), .load false 1 (.tmp 12), none⟩,
    ⟨(some 5), .mov (.tmp 13), none⟩])
  (.seq (.ops [⟨(some 14), .mov (.tmp 5), none⟩,
    ⟨(some 15), .call 31 [(.tmp 14)], none⟩,
    ⟨(some 5), .mov (.tmp 15), none⟩])
  (.seq (.ops [⟨(some 16), .mov (.tmp 5), none⟩,
    ⟨(some 17), .lenSlice (.tmp 16), none⟩,
    ⟨(some 18), .bin .gtr (.tmp 17) (.con (.int .i64 0)), none⟩])
  (.cond (.tmp 18)
  (.ops [⟨(some 19), .mov (.tmp 3), none⟩,
    ⟨(some 20), .mkIface 57 (.tmp 19), none⟩,
    ⟨(some 21), .mov (.tmp 5), none⟩,
    ⟨(some 22), .mkIface 26 (.tmp 21), none⟩,
    ⟨(some 23), .call 40 [(.tmp 20), (.tmp 22)], none⟩])
  .skip)))))
  (.ops [⟨(some 24), .bin .add (.tmp 10) (.con (.int .i64 1)), none⟩,
    ⟨(some 10), .mov (.tmp 24), none⟩]))))
def c28 : ACode := (.seq (.ops [⟨(some 2), .mov (.con .nilPtr), none⟩])
  (.seq (.ops [⟨(some 6), .buildSlice 1 0 [] [], none⟩,
    ⟨(some 7), .box (.tmp 6), none⟩,
    ⟨(some 3), .mov (.tmp 7), none⟩])
  (.seq (.seq (.ops [⟨(some 8), .mov (.tmp 0), none⟩,
    ⟨(some 9), .lenSlice (.tmp 8), none⟩,
    ⟨(some 10), .mov (.con (.int .i64 0)), none⟩])
  (.block 0 (.loop c28l0)))
  (.seq (.ops [⟨(some 25), .mov (.tmp 3), none⟩,
    ⟨(some 2), .mov (.tmp 25), none⟩])
  .ret))))
def a28 : AFunc := ⟨1, c28, [.tmp 2]⟩

/- 29: (tendril/merge.rows).Len -/
def c29 : ACode := (.seq (.ops [⟨(some 2), .mov (.con (.int .i64 0)), none⟩])
  (.seq (.ops [⟨(some 3), .mov (.tmp 0), none⟩,
    ⟨(some 4), .lenSlice (.tmp 3), none⟩,
    ⟨(some 2), .mov (.tmp 4), none⟩])
  .ret))
def a29 : AFunc := ⟨1, c29, [.tmp 2]⟩

/- 30: (*tendril/merge.rows).next -/
def c30l0 : ACode := (.seq (.seq (.ops [⟨(some 11), .mov (.tmp 0), none⟩,
    ⟨(some 12), .nilChk (.tmp 11), none⟩,
    ⟨(some 13), .load false 1 (.tmp 12), none⟩,
    ⟨(some 14), .call 29 [(.tmp 13)], none⟩,
    ⟨(some 15), .bin .gtr (.tmp 14) (.con (.int .i64 0)), none⟩,
    ⟨(some 16), .mov (.tmp 15), none⟩,
    ⟨(some 17), .mov (.tmp 0), (some (16, true))⟩,
    ⟨(some 18), .nilChk (.tmp 17), (some (16, true))⟩,
    ⟨(some 19), .load false 1 (.tmp 18), (some (16, true))⟩,
    ⟨(some 20), .idxAddr 1 (.tmp 19) (.con (.int .i64 0)), (some (16, true))⟩,
    ⟨(some 21), .load false 1 (.tmp 20), (some (16, true))⟩,
    ⟨(some 22), .idxAddr 1 (.tmp 21) (.con (.int .i64 0)), (some (16, true))⟩,
    ⟨(some 23), .load false 1 (.tmp 22), (some (16, true))⟩,
    ⟨(some 24), .mov (.tmp 3), (some (16, true))⟩,
    ⟨(some 25), .bin .eql (.tmp 23) (.tmp 24), (some (16, true))⟩,
    ⟨(some 26), .pick (.tmp 16) (.tmp 25) (.con (.bool false)), none⟩])
  (.cond (.tmp 26)
  .skip
  (.exit 0)))
  (.block 1 (.seq (.seq (.ops [⟨(some 27), .mov (.tmp 0), none⟩,
    ⟨(some 28), .nilChk (.tmp 27), none⟩,
    ⟨(some 29), .load false 1 (.tmp 28), none⟩,
    ⟨(some 30), .mov (.tmp 0), none⟩,
    ⟨(some 31), .nilChk (.tmp 30), none⟩,
    ⟨(some 32), .load false 1 (.tmp 31), none⟩,
    ⟨(some 33), .idxAddr 1 (.tmp 32) (.con (.int .i64 0)), none⟩,
    ⟨(some 34), .load false 1 (.tmp 33), none⟩,
    ⟨(some 35), .slc 1 (.tmp 34) (some (.con (.int .i64 1))) none none, none⟩,
    ⟨(some 36), .idxAddr 1 (.tmp 29) (.con (.int .i64 0)), none⟩,
    ⟨none, .store 1 (.tmp 36) (.tmp 35), none⟩])
  (.seq (.ops [⟨(some 37), .mov (.tmp 0), none⟩,
    ⟨(some 38), .nilChk (.tmp 37), none⟩,
    ⟨(some 39), .load false 1 (.tmp 38), none⟩,
    ⟨(some 40), .idxAddr 1 (.tmp 39) (.con (.int .i64 0)), none⟩,
    ⟨(some 41), .load false 1 (.tmp 40), none⟩,
    ⟨(some 42), .lenSlice (.tmp 41), none⟩,
    ⟨(some 43), .bin .eql (.tmp 42) (.con (.int .i64 0)), none⟩])
  (.cond (.tmp 43)
  (.seq (.ops [⟨(some 44), .mov (.tmp 0), none⟩,
    ⟨(some 45), .mkIface 57 (.tmp 44), none⟩,
    ⟨(some 46), .call 41 [(.tmp 45), (.con (.int .i64 0))], none⟩])
  (.exit 1))
  .skip)))
  (.ops [⟨(some 47), .mov (.tmp 0), none⟩,
    ⟨(some 48), .mkIface 57 (.tmp 47), none⟩,
    ⟨(some 49), .call 42 [(.tmp 48), (.con (.int .i64 0))], none⟩]))))
def c30 : ACode := (.seq (.ops [⟨(some 2), .mov (.con (.int .i64 0)), none⟩])
  (.seq (.ops [⟨(some 4), .mov (.tmp 0), none⟩,
    ⟨(some 5), .nilChk (.tmp 4), none⟩,
    ⟨(some 6), .load false 1 (.tmp 5), none⟩,
    ⟨(some 7), .idxAddr 1 (.tmp 6) (.con (.int .i64 0)), none⟩,
    ⟨(some 8), .load false 1 (.tmp 7), none⟩,
    ⟨(some 9), .idxAddr 1 (.tmp 8) (.con (.int .i64 0)), none⟩,
    ⟨(some 10), .load false 1 (.tmp 9), none⟩,
    ⟨(some 3), .mov (.tmp 10), none⟩])
  (.seq (.block 0 (.loop c30l0))
  (.seq (.ops [⟨(some 50), .mov (.tmp 3), none⟩,
    ⟨(some 2), .mov (.tmp 50), none⟩])
  .ret))))
def a30 : AFunc := ⟨1, c30, [.tmp 2]⟩

/- 31: tendril/merge.rising -/
def c31l0 : ACode := (.seq (.ops [⟨(some 9), .bin .lss (.tmp 8) (.tmp 7), none⟩])
  (.seq (.cond (.tmp 9)
  .skip
  (.exit 0))
  (.seq (.block 1 (.seq (.ops [⟨(some 10), .idxAddr 1 (.tmp 6) (.tmp 8), none⟩,
    ⟨(some 11), .load false 1 (.tmp 10), none⟩,
    ⟨(some 5), .mov (.tmp 11), none⟩])
  (.seq (.ops [⟨(some 12), .mov (.tmp 3), none⟩,
    ⟨(some 13), .lenSlice (.tmp 12), none⟩,
    ⟨(some 14), .bin .eql (.tmp 13) (.con (.int .i64 0)), none⟩,
    ⟨(some 15), .mov (.tmp 14), none⟩,
    ⟨(some 16), .mov (.tmp 5), (some (15, false))⟩,
    ⟨(some 17), .mov (.tmp 3), (some (15, false))⟩,
    ⟨(some 18), .mov (.tmp 3), (some (15, false))⟩,
    ⟨(some 19), .lenSlice (.tmp 18), (some (15, false))⟩,
    ⟨(some 20), .bin .sub (.tmp 19) (.con (.int .i64 1)), (some (15, false))⟩,
    ⟨(some 21), .idxAddr 1 (.tmp 17) (.tmp 20), (some (15, false))⟩,
    ⟨(some 22), .load false 1 (.tmp 21), (some (15, false))⟩,
    ⟨(some 23), .bin .gtr (.tmp 16) (.tmp 22), (some (15, false))⟩,
    ⟨(some 24), .pick (.tmp 15) (.con (.bool true)) (.tmp 23), none⟩])
  (.cond (.tmp 24)
  (.ops [⟨(some 25), .mov (.tmp 3), none⟩,
    ⟨(some 26), .mov (.tmp 5), none⟩,
    ⟨(some 27), .buildSlice 1 1 [(.int .i64 0)] [(0, 1, (.tmp 26))], none⟩,
    ⟨(some 28), .append 1 8 (.tmp 25) (.tmp 27), none⟩,
    ⟨(some 3), .mov (.tmp 28), none⟩])
  .skip))))
  (.ops [⟨(some 29), .bin .add (.tmp 8) (.con (.int .i64 1)), none⟩,
    ⟨(some 8), .mov (.tmp 29), none⟩]))))
def c31 : ACode := (.seq (.ops [⟨(some 2), .mov (.con .nilSlice), none⟩])
  (.seq (.ops [⟨(some 3), .mov (.con .nilSlice), none⟩])
  (.seq (.seq (.ops [⟨(some 6), .mov (.tmp 0), none⟩,
    ⟨(some 7), .lenSlice (.tmp 6), none⟩,
    ⟨(some 8), .mov (.con (.int .i64 0)), none⟩])
  (.block 0 (.loop c31l0)))
  (.seq (.ops [⟨(some 30), .mov (.tmp 3), none⟩,
    ⟨(some 2), .mov (.tmp 30), none⟩])
  .ret))))
def a31 : AFunc := ⟨1, c31, [.tmp 2]⟩

/- 32: tendril/merge.both -/
def c32l0 : ACode := (.seq (.ops [⟨(some 15), .bin .lss (.tmp 14) (.tmp 13), none⟩])
  (.seq (.cond (.tmp 15)
  .skip
  (.exit 0))
  (.seq (.block 1 (.seq (.ops [⟨(some 16), .idxAddr 1 (.tmp 12) (.tmp 14), none⟩,
    ⟨(some 17), .load false 1 (.tmp 16), none⟩,
    ⟨(some 9), .mov (.tmp 17), none⟩])
  (.seq (.ops [⟨(some 19), .mov (.tmp 1), none⟩,
    ⟨(some 20), .mov (.tmp 9), none⟩,
    ⟨(some 21), .call 43 [(.tmp 19), (.tmp 20)], none⟩,
    ⟨(some 18), .mov (.tmp 21), none⟩,
    ⟨(some 22), .extract (.tmp 18) 0, none⟩,
    ⟨(some 23), .extract (.tmp 18) 1, none⟩,
    ⟨(some 10), .mov (.tmp 22), none⟩,
    ⟨(some 11), .mov (.tmp 23), none⟩])
  (.seq (.ops [⟨(some 24), .mov (.tmp 11), none⟩,
    ⟨(some 25), .mov (.tmp 2), none⟩,
    ⟨(some 26), .eqB false (.tmp 24) (.tmp 25), none⟩])
  (.cond (.tmp 26)
  (.ops [⟨(some 27), .mov (.tmp 7), none⟩,
    ⟨(some 28), .mov (.tmp 9), none⟩,
    ⟨(some 29), .buildSlice 1 1 [(.int .i64 0)] [(0, 1, (.tmp 28))], none⟩,
    ⟨(some 30), .append 1 8 (.tmp 27) (.tmp 29), none⟩,
    ⟨(some 7), .mov (.tmp 30), none⟩])
  .skip)))))
  (.ops [⟨(some 31), .bin .add (.tmp 14) (.con (.int .i64 1)), none⟩,
    ⟨(some 14), .mov (.tmp 31), none⟩]))))
def c32 : ACode := (.seq (.ops [⟨(some 6), .mov (.con .nilSlice), none⟩])
  (.seq (.ops [⟨(some 7), .mov (.con .nilSlice), none⟩])
  (.seq (.seq (.ops [⟨(some 12), .mov (.tmp 0), none⟩,
    ⟨(some 13), .lenSlice (.tmp 12), none⟩,
    ⟨(some 14), .mov (.con (.int .i64 0)), none⟩])
  (.block 0 (.loop c32l0)))
  (.seq (.ops [⟨(some 32), .mov (.tmp 7), none⟩,
    ⟨(some 6), .mov (.tmp 32), none⟩])
  .ret))))
def a32 : AFunc := ⟨3, c32, [.tmp 6]⟩

/- 33: (*tendril/query.reader).and -/
def c33l0 : ACode := (.seq (.seq (.ops [⟨(some 6), .mov (.tmp 0), none⟩,
    ⟨(some 7), .nilChk (.tmp 6), none⟩,
    ⟨(some 8), .fieldAddr 3 (.tmp 7), none⟩,
    ⟨(some 9), .load false 1 (.tmp 8), none⟩,
    ⟨(some 10), .bin .eql (.tmp 9) (.con (.int .i64 0)), none⟩])
  (.cond (.tmp 10)
  .skip
  (.exit 0)))
  (.block 1 (.seq (.ops [⟨(some 12), .mov (.tmp 0), none⟩,
    ⟨(some 13), .call 23 [(.tmp 12)], none⟩,
    ⟨(some 11), .mov (.tmp 13), none⟩,
    ⟨(some 14), .extract (.tmp 11) 0, none⟩,
    ⟨(some 15), .extract (.tmp 11) 1, none⟩,
    ⟨(some 2), .mov (.tmp 14), none⟩,
    ⟨(some 3), .mov (.tmp 15), none⟩])
  (.seq (.seq (.ops [⟨(some 16), .mov (.tmp 3), none⟩,
    ⟨(some 17), .un .not (.tmp 16), none⟩,
    ⟨(some 18), .mov (.tmp 17), none⟩,
    ⟨(some 19), .mov (.tmp 2), (some (18, false))⟩,
    ⟨(some 20), .bin .eql (.tmp 19) (.con (.int .u8 124)), (some (18, false))⟩,
    ⟨(some 21), .pick (.tmp 18) (.con (.bool true)) (.tmp 20), none⟩,
    ⟨(some 22), .mov (.tmp 21), none⟩,
    ⟨(some 23), .mov (.tmp 2), (some (22, false))⟩,
    ⟨(some 24), .bin .eql (.tmp 23) (.con (.int .u8 41)), (some (22, false))⟩,
    ⟨(some 25), .pick (.tmp 22) (.con (.bool true)) (.tmp 24), none⟩])
  (.cond (.tmp 25)
  .ret
  .skip))
  (.seq (.ops [⟨(some 26), .mov (.tmp 0), none⟩,
    ⟨(some 27), .call 34 [(.tmp 26), (.con (.int .u8 38))], none⟩])
  (.seq (.ops [⟨(some 28), .mov (.tmp 0), none⟩,
    ⟨(some 29), .call 44 [(.tmp 28)], none⟩])
  (.ops [⟨(some 30), .mov (.tmp 0), none⟩,
    ⟨(some 31), .call 35 [(.tmp 30), (.con (.int .i64 2)), (.con (.str []))], none⟩])))))))
def c33 : ACode := (.seq (.ops [⟨(some 4), .mov (.tmp 0), none⟩,
    ⟨(some 5), .call 44 [(.tmp 4)], none⟩])
  (.block 0 (.loop c33l0)))
def a33 : AFunc := ⟨1, c33, []⟩

/- 34: (*tendril/query.reader).take -/
def c34 : ACode := (.seq (.ops [⟨(some 4), .mov (.con (.bool false)), none⟩])
  (.seq (.ops [⟨(some 8), .mov (.tmp 0), none⟩,
    ⟨(some 9), .call 23 [(.tmp 8)], none⟩,
    ⟨(some 7), .mov (.tmp 9), none⟩,
    ⟨(some 10), .extract (.tmp 7) 0, none⟩,
    ⟨(some 11), .extract (.tmp 7) 1, none⟩,
    ⟨(some 5), .mov (.tmp 10), none⟩,
    ⟨(some 6), .mov (.tmp 11), none⟩])
  (.seq (.seq (.ops [⟨(some 12), .mov (.tmp 6), none⟩,
    ⟨(some 13), .un .not (.tmp 12), none⟩,
    ⟨(some 14), .mov (.tmp 13), none⟩,
    ⟨(some 15), .mov (.tmp 5), (some (14, false))⟩,
    ⟨(some 16), .mov (.tmp 1), (some (14, false))⟩,
    ⟨(some 17), .bin .neq (.tmp 15) (.tmp 16), (some (14, false))⟩,
    ⟨(some 18), .pick (.tmp 14) (.con (.bool true)) (.tmp 17), none⟩])
  (.cond (.tmp 18)
  (.seq (.ops [⟨(some 4), .mov (.con (.bool false)), none⟩])
  .ret)
  .skip))
  (.seq (.ops [⟨(some 19), .mov (.tmp 0), none⟩,
    ⟨(some 20), .mov (.tmp 0), none⟩,
    ⟨(some 21), .nilChk (.tmp 20), none⟩,
    ⟨(some 22), .fieldAddr 0 (.tmp 21), none⟩,
    ⟨(some 23), .load false 1 (.tmp 22), none⟩,
    ⟨(some 24), .slcStr (.tmp 23) (some (.con (.int .i64 1))) none, none⟩,
    ⟨(some 25), .nilChk (.tmp 19), none⟩,
    ⟨(some 26), .fieldAddr 0 (.tmp 25), none⟩,
    ⟨none, .store 1 (.tmp 26) (.tmp 24), none⟩])
  (.seq (.ops [⟨(some 4), .mov (.con (.bool true)), none⟩])
  .ret)))))
def a34 : AFunc := ⟨2, c34, [.tmp 4]⟩

/- 35: (*tendril/query.reader).part -/
def c35 : ACode := (.seq (.seq (.ops [⟨(some 6), .mov (.tmp 0), none⟩,
    ⟨(some 7), .nilChk (.tmp 6), none⟩,
    ⟨(some 8), .fieldAddr 2 (.tmp 7), none⟩,
    ⟨(some 9), .load false 1 (.tmp 8), none⟩,
    ⟨(some 10), .lenSlice (.tmp 9), none⟩,
    ⟨(some 11), .bin .geq (.tmp 10) (.con (.int .i64 64)), none⟩])
  (.cond (.tmp 11)
  (.ops [⟨(some 12), .mov (.tmp 0), none⟩,
    ⟨(some 13), .call 24 [(.tmp 12), (.con (.int .i64 11))], none⟩])
  .skip))
  (.seq (.ops [⟨(some 14), .mov (.tmp 0), none⟩,
    ⟨(some 15), .nilChk (.tmp 14), none⟩,
    ⟨(some 16), .fieldAddr 3 (.tmp 15), none⟩,
    ⟨(some 17), .load false 1 (.tmp 16), none⟩,
    ⟨(some 18), .bin .eql (.tmp 17) (.con (.int .i64 0)), none⟩])
  (.cond (.tmp 18)
  (.ops [⟨(some 19), .mov (.tmp 0), none⟩,
    ⟨(some 20), .mov (.tmp 0), none⟩,
    ⟨(some 21), .nilChk (.tmp 20), none⟩,
    ⟨(some 22), .fieldAddr 2 (.tmp 21), none⟩,
    ⟨(some 23), .load false 1 (.tmp 22), none⟩,
    ⟨(some 24), .mov (.tmp 1), none⟩,
    ⟨(some 25), .mov (.tmp 2), none⟩,
    ⟨(some 26), .build [(.int .i64 0), (.str [])] [(0, 1, (.tmp 24)), (1, 1, (.tmp 25))], none⟩,
    ⟨(some 27), .buildSlice 2 1 [(.int .i64 0), (.str [])] [(0, 2, (.tmp 26))], none⟩,
    ⟨(some 28), .append 2 24 (.tmp 23) (.tmp 27), none⟩,
    ⟨(some 29), .nilChk (.tmp 19), none⟩,
    ⟨(some 30), .fieldAddr 2 (.tmp 29), none⟩,
    ⟨none, .store 1 (.tmp 30) (.tmp 28), none⟩])
  .skip)))
def a35 : AFunc := ⟨3, c35, []⟩

/- 36: slices.Clone[[]int,int] -/
def c36 : ACode := (.seq (.ops [⟨(some 2), .mov (.con .nilSlice), none⟩])
  (.seq (.seq (.ops [⟨(some 3), .mov (.tmp 0), none⟩,
    ⟨(some 4), .eqNil 1 false (.tmp 3) (.con .nilSlice), none⟩])
  (.cond (.tmp 4)
  (.seq (.ops [⟨(some 2), .mov (.con .nilSlice), none⟩])
  .ret)
  .skip))
  (.seq (.ops [⟨(some 5), .buildSlice 1 0 [] [], none⟩,
    ⟨(some 6), .mov (.tmp 0), none⟩,
    ⟨(some 7), .append 1 8 (.tmp 5) (.tmp 6), none⟩,
    ⟨(some 2), .mov (.tmp 7), none⟩])
  .ret)))
def a36 : AFunc := ⟨1, c36, [.tmp 2]⟩

/- 37: slices.Sort[[]int,int] -/
def c37 : ACode := (.seq (.ops [⟨(some 3), .mov (.tmp 0), none⟩,
    ⟨(some 4), .lenSlice (.tmp 3), none⟩,
    ⟨(some 2), .mov (.tmp 4), none⟩])
  (.ops [⟨(some 5), .mov (.tmp 0), none⟩,
    ⟨(some 6), .mov (.tmp 2), none⟩,
    ⟨(some 7), .mov (.tmp 2), none⟩,
    ⟨(some 8), .toInt .u64 (.tmp 7), none⟩,
    ⟨(some 9), .call 46 [(.tmp 8)], none⟩,
    ⟨(some 10), .call 45 [(.tmp 5), (.con (.int .i64 0)), (.tmp 6), (.tmp 9)], none⟩]))
def a37 : AFunc := ⟨1, c37, []⟩

/- 38: slices.Compact[[]int,int] -/
def c38l0 : ACode := (.seq (.seq (.ops [⟨(some 29), .mov (.tmp 5), none⟩,
    ⟨(some 30), .mov (.tmp 4), none⟩,
    ⟨(some 31), .lenSlice (.tmp 30), none⟩,
    ⟨(some 32), .bin .lss (.tmp 29) (.tmp 31), none⟩])
  (.cond (.tmp 32)
  .skip
  (.exit 2)))
  (.seq (.block 3 (.seq (.ops [⟨(some 35), .mov (.tmp 4), none⟩,
    ⟨(some 36), .mov (.tmp 5), none⟩,
    ⟨(some 37), .idxAddr 1 (.tmp 35) (.tmp 36), none⟩,
    ⟨(some 38), .load false 1 (.tmp 37), none⟩,
    ⟨(some 39), .mov (.tmp 4), none⟩,
    ⟨(some 40), .mov (.tmp 5), none⟩,
    ⟨(some 41), .bin .sub (.tmp 40) (.con (.int .i64 1)), none⟩,
    ⟨(some 42), .idxAddr 1 (.tmp 39) (.tmp 41), none⟩,
    ⟨(some 43), .load false 1 (.tmp 42), none⟩,
    ⟨(some 44), .bin .neq (.tmp 38) (.tmp 43), none⟩])
  (.cond (.tmp 44)
  (.seq (.ops [⟨(some 45), .mov (.tmp 0), none⟩,
    ⟨(some 46), .mov (.tmp 3), none⟩,
    ⟨(some 47), .mov (.tmp 4), none⟩,
    ⟨(some 48), .mov (.tmp 5), none⟩,
    ⟨(some 49), .idxAddr 1 (.tmp 47) (.tmp 48), none⟩,
    ⟨(some 50), .load false 1 (.tmp 49), none⟩,
    ⟨(some 51), .idxAddr 1 (.tmp 45) (.tmp 46), none⟩,
    ⟨none, .store 1 (.tmp 51) (.tmp 50), none⟩])
  (.ops [⟨(some 52), .mov (.tmp 3), none⟩,
    ⟨(some 53), .bin .add (.tmp 52) (.con (.int .i64 1)), none⟩,
    ⟨(some 3), .mov (.tmp 53), none⟩]))
  .skip)))
  (.ops [⟨(some 33), .mov (.tmp 5), none⟩,
    ⟨(some 34), .bin .add (.tmp 33) (.con (.int .i64 1)), none⟩,
    ⟨(some 5), .mov (.tmp 34), none⟩])))
def c38l1 : ACode := (.seq (.seq (.ops [⟨(some 10), .mov (.tmp 3), none⟩,
    ⟨(some 11), .mov (.tmp 0), none⟩,
    ⟨(some 12), .lenSlice (.tmp 11), none⟩,
    ⟨(some 13), .bin .lss (.tmp 10) (.tmp 12), none⟩])
  (.cond (.tmp 13)
  .skip
  (.exit 0)))
  (.seq (.block 1 (.seq (.ops [⟨(some 16), .mov (.tmp 0), none⟩,
    ⟨(some 17), .mov (.tmp 3), none⟩,
    ⟨(some 18), .idxAddr 1 (.tmp 16) (.tmp 17), none⟩,
    ⟨(some 19), .load false 1 (.tmp 18), none⟩,
    ⟨(some 20), .mov (.tmp 0), none⟩,
    ⟨(some 21), .mov (.tmp 3), none⟩,
    ⟨(some 22), .bin .sub (.tmp 21) (.con (.int .i64 1)), none⟩,
    ⟨(some 23), .idxAddr 1 (.tmp 20) (.tmp 22), none⟩,
    ⟨(some 24), .load false 1 (.tmp 23), none⟩,
    ⟨(some 25), .bin .eql (.tmp 19) (.tmp 24), none⟩])
  (.cond (.tmp 25)
  (.seq (.ops [⟨(some 26), .mov (.tmp 0), none⟩,
    ⟨(some 27), .mov (.tmp 3), none⟩,
    ⟨(some 28), .slc 1 (.tmp 26) (some (.tmp 27)) none none, none⟩,
    ⟨(some 4), .mov (.tmp 28), none⟩])
  (.seq (.seq (.ops [⟨(some 5), .mov (.con (.int .i64 1)), none⟩])
  (.block 2 (.loop c38l0)))
  (.seq (.ops [⟨(some 54), .mov (.tmp 0), none⟩,
    ⟨(some 55), .mov (.tmp 3), none⟩,
    ⟨(some 56), .slc 1 (.tmp 54) (some (.tmp 55)) none none, none⟩,
    ⟨none, .clear 1 [(.int .i64 0)] (.tmp 56), none⟩])
  (.seq (.ops [⟨(some 57), .mov (.tmp 0), none⟩,
    ⟨(some 58), .mov (.tmp 3), none⟩,
    ⟨(some 59), .slc 1 (.tmp 57) none (some (.tmp 58)) none, none⟩,
    ⟨(some 2), .mov (.tmp 59), none⟩])
  .ret))))
  .skip)))
  (.ops [⟨(some 14), .mov (.tmp 3), none⟩,
    ⟨(some 15), .bin .add (.tmp 14) (.con (.int .i64 1)), none⟩,
    ⟨(some 3), .mov (.tmp 15), none⟩])))
def c38 : ACode := (.seq (.ops [⟨(some 2), .mov (.con .nilSlice), none⟩])
  (.seq (.seq (.ops [⟨(some 6), .mov (.tmp 0), none⟩,
    ⟨(some 7), .lenSlice (.tmp 6), none⟩,
    ⟨(some 8), .bin .lss (.tmp 7) (.con (.int .i64 2)), none⟩])
  (.cond (.tmp 8)
  (.seq (.ops [⟨(some 9), .mov (.tmp 0), none⟩,
    ⟨(some 2), .mov (.tmp 9), none⟩])
  .ret)
  .skip))
  (.seq (.seq (.ops [⟨(some 3), .mov (.con (.int .i64 1)), none⟩])
  (.block 0 (.loop c38l1)))
  (.seq (.ops [⟨(some 60), .mov (.tmp 0), none⟩,
    ⟨(some 2), .mov (.tmp 60), none⟩])
  .ret))))
def a38 : AFunc := ⟨1, c38, [.tmp 2]⟩

/- 39: tendril/query.isTerm -/
def c39l0 : ACode := (.seq (.ops [⟨(some 7), .bin .lss (.tmp 6) (.tmp 5), none⟩])
  (.seq (.cond (.tmp 7)
  .skip
  (.exit 0))
  (.seq (.block 1 (.seq (.ops [⟨(some 8), .mov (.tmp 6), none⟩,
    ⟨(some 3), .mov (.tmp 8), none⟩])
  (.seq (.ops [⟨(some 9), .mov (.tmp 0), none⟩,
    ⟨(some 10), .mov (.tmp 3), none⟩,
    ⟨(some 11), .idxStr (.tmp 9) (.tmp 10), none⟩,
    ⟨(some 13), .mov (.tmp 0), none⟩,
    ⟨(some 14), .mov (.tmp 3), none⟩,
    ⟨(some 15), .idxStr (.tmp 13) (.tmp 14), none⟩,
    ⟨(some 12), .call 14 [(.tmp 11)], none⟩,
    ⟨(some 16), .bin .neq (.tmp 12) (.tmp 15), none⟩,
    ⟨(some 17), .mov (.tmp 16), none⟩,
    ⟨(some 18), .mov (.tmp 0), (some (17, false))⟩,
    ⟨(some 19), .mov (.tmp 3), (some (17, false))⟩,
    ⟨(some 20), .idxStr (.tmp 18) (.tmp 19), (some (17, false))⟩,
    ⟨(some 21), .bin .eql (.tmp 20) (.con (.int .u8 0)), (some (17, false))⟩,
    ⟨(some 22), .pick (.tmp 17) (.con (.bool true)) (.tmp 21), none⟩])
  (.cond (.tmp 22)
  (.seq (.ops [⟨(some 2), .mov (.con (.bool false)), none⟩])
  .ret)
  .skip))))
  (.ops [⟨(some 23), .bin .add (.tmp 6) (.con (.int .i64 1)), none⟩,
    ⟨(some 6), .mov (.tmp 23), none⟩]))))
def c39 : ACode := (.seq (.ops [⟨(some 2), .mov (.con (.bool false)), none⟩])
  (.seq (.seq (.ops [⟨(some 4), .mov (.tmp 0), none⟩,
    ⟨(some 5), .lenStr (.tmp 4), none⟩,
    ⟨(some 6), .mov (.con (.int .i64 0)), none⟩])
  (.block 0 (.loop c39l0)))
  (.seq (.ops [⟨(some 24), .mov (.tmp 0), none⟩,
    ⟨(some 25), .bin .neq (.tmp 24) (.con (.str [])), none⟩,
    ⟨(some 26), .mov (.tmp 25), none⟩,
    ⟨(some 27), .mov (.tmp 0), (some (26, true))⟩,
    ⟨(some 28), .lenStr (.tmp 27), (some (26, true))⟩,
    ⟨(some 29), .bin .leq (.tmp 28) (.con (.int .i64 12)), (some (26, true))⟩,
    ⟨(some 30), .pick (.tmp 26) (.tmp 29) (.con (.bool false)), none⟩,
    ⟨(some 2), .mov (.tmp 30), none⟩])
  .ret)))
def a39 : AFunc := ⟨1, c39, [.tmp 2]⟩

/- 40: container/heap.Push -/
def c40 : ACode := (.seq (.ops [⟨(some 4), .mov (.tmp 0), none⟩,
    ⟨(some 5), .mov (.tmp 1), none⟩,
    ⟨(some 6), .callM [(57, 87, .self)] (.tmp 4) [(.tmp 5)], none⟩])
  (.ops [⟨(some 7), .mov (.tmp 0), none⟩,
    ⟨(some 8), .mov (.tmp 0), none⟩,
    ⟨(some 9), .callM [(17, 82, .self), (57, 29, (.deref false 1)), (64, 29, .self)] (.tmp 8) [], none⟩,
    ⟨(some 10), .bin .sub (.tmp 9) (.con (.int .i64 1)), none⟩,
    ⟨(some 11), .call 47 [(.tmp 7), (.tmp 10)], none⟩]))
def a40 : AFunc := ⟨2, c40, []⟩

/- 41: container/heap.Remove -/
def c41 : ACode := (.seq (.ops [⟨(some 4), .mov (.con .nilIface), none⟩])
  (.seq (.ops [⟨(some 6), .mov (.tmp 0), none⟩,
    ⟨(some 7), .callM [(17, 82, .self), (57, 29, (.deref false 1)), (64, 29, .self)] (.tmp 6) [], none⟩,
    ⟨(some 8), .bin .sub (.tmp 7) (.con (.int .i64 1)), none⟩,
    ⟨(some 5), .mov (.tmp 8), none⟩])
  (.seq (.seq (.ops [⟨(some 9), .mov (.tmp 5), none⟩,
    ⟨(some 10), .mov (.tmp 1), none⟩,
    ⟨(some 11), .bin .neq (.tmp 9) (.tmp 10), none⟩])
  (.cond (.tmp 11)
  (.seq (.ops [⟨(some 12), .mov (.tmp 0), none⟩,
    ⟨(some 13), .mov (.tmp 1), none⟩,
    ⟨(some 14), .mov (.tmp 5), none⟩,
    ⟨(some 15), .callM [(57, 88, (.deref false 1)), (64, 88, .self)] (.tmp 12) [(.tmp 13), (.tmp 14)], none⟩])
  (.seq (.ops [⟨(some 16), .mov (.tmp 0), none⟩,
    ⟨(some 17), .mov (.tmp 1), none⟩,
    ⟨(some 18), .mov (.tmp 5), none⟩,
    ⟨(some 19), .call 48 [(.tmp 16), (.tmp 17), (.tmp 18)], none⟩,
    ⟨(some 20), .un .not (.tmp 19), none⟩])
  (.cond (.tmp 20)
  (.ops [⟨(some 21), .mov (.tmp 0), none⟩,
    ⟨(some 22), .mov (.tmp 1), none⟩,
    ⟨(some 23), .call 47 [(.tmp 21), (.tmp 22)], none⟩])
  .skip)))
  .skip))
  (.seq (.ops [⟨(some 24), .mov (.tmp 0), none⟩,
    ⟨(some 25), .callM [(57, 86, .self)] (.tmp 24) [], none⟩,
    ⟨(some 4), .mov (.tmp 25), none⟩])
  .ret))))
def a41 : AFunc := ⟨2, c41, [.tmp 4]⟩

/- 42: container/heap.Fix -/
def c42 : ACode := (.seq (.ops [⟨(some 4), .mov (.tmp 0), none⟩,
    ⟨(some 5), .mov (.tmp 1), none⟩,
    ⟨(some 6), .mov (.tmp 0), none⟩,
    ⟨(some 7), .callM [(17, 82, .self), (57, 29, (.deref false 1)), (64, 29, .self)] (.tmp 6) [], none⟩,
    ⟨(some 8), .call 48 [(.tmp 4), (.tmp 5), (.tmp 7)], none⟩,
    ⟨(some 9), .un .not (.tmp 8), none⟩])
  (.cond (.tmp 9)
  (.ops [⟨(some 10), .mov (.tmp 0), none⟩,
    ⟨(some 11), .mov (.tmp 1), none⟩,
    ⟨(some 12), .call 47 [(.tmp 10), (.tmp 11)], none⟩])
  .skip))
def a42 : AFunc := ⟨2, c42, []⟩

/- 43: slices.BinarySearch[[]int,int] -/
def c43l0 : ACode := (.seq (.seq (.ops [⟨(some 13), .mov (.tmp 7), none⟩,
    ⟨(some 14), .mov (.tmp 8), none⟩,
    ⟨(some 15), .bin .lss (.tmp 13) (.tmp 14), none⟩])
  (.cond (.tmp 15)
  .skip
  (.exit 0)))
  (.block 1 (.seq (.ops [⟨(some 16), .mov (.tmp 7), none⟩,
    ⟨(some 17), .mov (.tmp 8), none⟩,
    ⟨(some 18), .bin .add (.tmp 16) (.tmp 17), none⟩,
    ⟨(some 19), .toInt .u64 (.tmp 18), none⟩,
    ⟨(some 20), .bin .shr (.tmp 19) (.con (.int .u64 1)), none⟩,
    ⟨(some 21), .toInt .i64 (.tmp 20), none⟩,
    ⟨(some 9), .mov (.tmp 21), none⟩])
  (.seq (.ops [⟨(some 22), .mov (.tmp 0), none⟩,
    ⟨(some 23), .mov (.tmp 9), none⟩,
    ⟨(some 24), .idxAddr 1 (.tmp 22) (.tmp 23), none⟩,
    ⟨(some 25), .load false 1 (.tmp 24), none⟩,
    ⟨(some 26), .mov (.tmp 1), none⟩,
    ⟨(some 27), .call 49 [(.tmp 25), (.tmp 26)], none⟩])
  (.cond (.tmp 27)
  (.ops [⟨(some 28), .mov (.tmp 9), none⟩,
    ⟨(some 29), .bin .add (.tmp 28) (.con (.int .i64 1)), none⟩,
    ⟨(some 7), .mov (.tmp 29), none⟩])
  (.ops [⟨(some 30), .mov (.tmp 9), none⟩,
    ⟨(some 8), .mov (.tmp 30), none⟩]))))))
def c43 : ACode := (.seq (.ops [⟨(some 4), .mov (.con (.int .i64 0)), none⟩,
    ⟨(some 5), .mov (.con (.bool false)), none⟩])
  (.seq (.ops [⟨(some 10), .mov (.tmp 0), none⟩,
    ⟨(some 11), .lenSlice (.tmp 10), none⟩,
    ⟨(some 6), .mov (.tmp 11), none⟩])
  (.seq (.ops [⟨(some 12), .mov (.tmp 6), none⟩,
    ⟨(some 7), .mov (.con (.int .i64 0)), none⟩,
    ⟨(some 8), .mov (.tmp 12), none⟩])
  (.seq (.block 0 (.loop c43l0))
  (.seq (.ops [⟨(some 31), .mov (.tmp 7), none⟩,
    ⟨(some 32), .mov (.tmp 7), none⟩,
    ⟨(some 33), .mov (.tmp 6), none⟩,
    ⟨(some 34), .bin .lss (.tmp 32) (.tmp 33), none⟩,
    ⟨(some 35), .mov (.tmp 34), none⟩,
    ⟨(some 36), .mov (.tmp 0), (some (35, true))⟩,
    ⟨(some 37), .mov (.tmp 7), (some (35, true))⟩,
    ⟨(some 38), .idxAddr 1 (.tmp 36) (.tmp 37), (some (35, true))⟩,
    ⟨(some 39), .load false 1 (.tmp 38), (some (35, true))⟩,
    ⟨(some 40), .mov (.tmp 1), (some (35, true))⟩,
    ⟨(some 41), .bin .eql (.tmp 39) (.tmp 40), (some (35, true))⟩,
    ⟨(some 42), .mov (.tmp 41), (some (35, true))⟩,
    ⟨(some 43), .mov (.tmp 0), (some (42, false))⟩,
    ⟨(some 44), .mov (.tmp 7), (some (42, false))⟩,
    ⟨(some 45), .idxAddr 1 (.tmp 43) (.tmp 44), (some (42, false))⟩,
    ⟨(some 46), .load false 1 (.tmp 45), (some (42, false))⟩,
    ⟨(some 47), .call 50 [(.tmp 46)], (some (42, false))⟩,
    ⟨(some 48), .mov (.tmp 47), (some (42, false))⟩,
    ⟨(some 49), .mov (.tmp 1), (some (48, true))⟩,
    ⟨(some 50), .call 50 [(.tmp 49)], (some (48, true))⟩,
    ⟨(some 51), .pick (.tmp 48) (.tmp 50) (.con (.bool false)), (some (42, false))⟩,
    ⟨(some 52), .pick (.tmp 42) (.con (.bool true)) (.tmp 51), (some (35, true))⟩,
    ⟨(some 53), .pick (.tmp 35) (.tmp 52) (.con (.bool false)), none⟩,
    ⟨(some 4), .mov (.tmp 31), none⟩,
    ⟨(some 5), .mov (.tmp 53), none⟩])
  .ret)))))
def a43 : AFunc := ⟨2, c43, [.tmp 4, .tmp 5]⟩

/- 44: (*tendril/query.reader).factor -/
def c44 : ACode := (.seq (.ops [⟨(some 4), .mov (.tmp 0), none⟩,
    ⟨(some 5), .nilChk (.tmp 4), none⟩,
    ⟨(some 6), .fieldAddr 1 (.tmp 5), none⟩,
    ⟨(some 7), .load false 1 (.tmp 6), none⟩,
    ⟨(some 8), .bin .add (.tmp 7) (.con (.int .i64 1)), none⟩,
    ⟨(some 9), .nilChk (.tmp 4), none⟩,
    ⟨(some 10), .fieldAddr 1 (.tmp 9), none⟩,
    ⟨none, .store 1 (.tmp 10) (.tmp 8), none⟩])
  (.seq (.seq (.ops [⟨(some 11), .mov (.tmp 0), none⟩,
    ⟨(some 12), .nilChk (.tmp 11), none⟩,
    ⟨(some 13), .fieldAddr 1 (.tmp 12), none⟩,
    ⟨(some 14), .load false 1 (.tmp 13), none⟩,
    ⟨(some 15), .bin .gtr (.tmp 14) (.con (.int .i64 64)), none⟩])
  (.cond (.tmp 15)
  (.ops [⟨(some 16), .mov (.tmp 0), none⟩,
    ⟨(some 17), .call 24 [(.tmp 16), (.con (.int .i64 11))], none⟩])
  .skip))
  (.seq (.seq (.ops [⟨(some 18), .mov (.tmp 0), none⟩,
    ⟨(some 19), .nilChk (.tmp 18), none⟩,
    ⟨(some 20), .fieldAddr 3 (.tmp 19), none⟩,
    ⟨(some 21), .load false 1 (.tmp 20), none⟩,
    ⟨(some 22), .bin .neq (.tmp 21) (.con (.int .i64 0)), none⟩])
  (.cond (.tmp 22)
  .ret
  .skip))
  (.seq (.seq (.ops [⟨(some 24), .mov (.tmp 0), none⟩,
    ⟨(some 25), .call 23 [(.tmp 24)], none⟩,
    ⟨(some 23), .mov (.tmp 25), none⟩,
    ⟨(some 26), .extract (.tmp 23) 0, none⟩,
    ⟨(some 27), .extract (.tmp 23) 1, none⟩,
    ⟨(some 2), .mov (.tmp 26), none⟩,
    ⟨(some 3), .mov (.tmp 27), none⟩])
  (.block 0 (.seq (.ops [⟨(some 31), .mov (.tmp 0), none⟩,
    ⟨(some 32), .call 34 [(.tmp 31), (.con (.int .u8 33))], none⟩,
    ⟨(some 30), .mov (.tmp 32), none⟩])
  (.cond (.tmp 30)
  (.seq (.ops [⟨(some 33), .mov (.tmp 0), none⟩,
    ⟨(some 34), .call 44 [(.tmp 33)], none⟩])
  (.ops [⟨(some 35), .mov (.tmp 0), none⟩,
    ⟨(some 36), .call 35 [(.tmp 35), (.con (.int .i64 4)), (.con (.str []))], none⟩]))
  (.seq (.ops [⟨(some 38), .mov (.tmp 0), none⟩,
    ⟨(some 39), .call 34 [(.tmp 38), (.con (.int .u8 40))], none⟩,
    ⟨(some 37), .mov (.tmp 39), none⟩])
  (.cond (.tmp 37)
  (.seq (.ops [⟨(some 40), .mov (.tmp 0), none⟩,
    ⟨(some 41), .call 22 [(.tmp 40)], none⟩])
  (.seq (.ops [⟨(some 42), .mov (.tmp 0), none⟩,
    ⟨(some 43), .nilChk (.tmp 42), none⟩,
    ⟨(some 44), .fieldAddr 3 (.tmp 43), none⟩,
    ⟨(some 45), .load false 1 (.tmp 44), none⟩,
    ⟨(some 46), .bin .eql (.tmp 45) (.con (.int .i64 0)), none⟩,
    ⟨(some 47), .mov (.tmp 46), none⟩,
    ⟨(some 48), .mov (.tmp 0), (some (47, true))⟩,
    ⟨(some 49), .call 34 [(.tmp 48), (.con (.int .u8 41))], (some (47, true))⟩,
    ⟨(some 50), .un .not (.tmp 49), (some (47, true))⟩,
    ⟨(some 51), .pick (.tmp 47) (.tmp 50) (.con (.bool false)), none⟩])
  (.cond (.tmp 51)
  (.ops [⟨(some 52), .mov (.tmp 0), none⟩,
    ⟨(some 53), .call 24 [(.tmp 52), (.con (.int .i64 7))], none⟩])
  .skip)))
  (.seq (.ops [⟨(some 55), .mov (.tmp 2), none⟩,
    ⟨(some 56), .call 14 [(.tmp 55)], none⟩,
    ⟨(some 57), .bin .neq (.tmp 56) (.con (.int .u8 0)), none⟩,
    ⟨(some 54), .mov (.tmp 57), none⟩])
  (.cond (.tmp 54)
  (.ops [⟨(some 58), .mov (.tmp 0), none⟩,
    ⟨(some 59), .call 51 [(.tmp 58)], none⟩])
  (.ops [⟨(some 28), .mov (.tmp 0), none⟩,
    ⟨(some 29), .call 24 [(.tmp 28), (.con (.int .i64 7))], none⟩])))))))))
  (.ops [⟨(some 60), .mov (.tmp 0), none⟩,
    ⟨(some 61), .nilChk (.tmp 60), none⟩,
    ⟨(some 62), .fieldAddr 1 (.tmp 61), none⟩,
    ⟨(some 63), .load false 1 (.tmp 62), none⟩,
    ⟨(some 64), .bin .sub (.tmp 63) (.con (.int .i64 1)), none⟩,
    ⟨(some 65), .nilChk (.tmp 60), none⟩,
    ⟨(some 66), .fieldAddr 1 (.tmp 65), none⟩,
    ⟨none, .store 1 (.tmp 66) (.tmp 64), none⟩])))))
def a44 : AFunc := ⟨1, c44, []⟩

/- 46: math/bits.Len -/
def c46 : ACode := (.seq (.ops [⟨(some 2), .mov (.con (.int .i64 0)), none⟩])
  (.seq (.cond (.con (.bool false))
  (.seq (.ops [⟨(some 3), .mov (.tmp 0), none⟩,
    ⟨(some 4), .toInt .u32 (.tmp 3), none⟩,
    ⟨(some 5), .call 60 [(.tmp 4)], none⟩,
    ⟨(some 2), .mov (.tmp 5), none⟩])
  .ret)
  .skip)
  (.seq (.ops [⟨(some 6), .mov (.tmp 0), none⟩,
    ⟨(some 7), .call 61 [(.tmp 6)], none⟩,
    ⟨(some 2), .mov (.tmp 7), none⟩])
  .ret)))
def a46 : AFunc := ⟨1, c46, [.tmp 2]⟩

/- 45: slices.pdqsortOrdered[int] -/
def c45l0 : ACode := (.block 1 (.seq (.ops [⟨(some 19), .mov (.tmp 2), none⟩,
    ⟨(some 20), .mov (.tmp 1), none⟩,
    ⟨(some 21), .bin .sub (.tmp 19) (.tmp 20), none⟩,
    ⟨(some 10), .mov (.tmp 21), none⟩])
  (.seq (.seq (.ops [⟨(some 22), .mov (.tmp 10), none⟩,
    ⟨(some 23), .bin .leq (.tmp 22) (.con (.int .i64 12)), none⟩])
  (.cond (.tmp 23)
  (.seq (.ops [⟨(some 24), .mov (.tmp 0), none⟩,
    ⟨(some 25), .mov (.tmp 1), none⟩,
    ⟨(some 26), .mov (.tmp 2), none⟩,
    ⟨(some 27), .call 52 [(.tmp 24), (.tmp 25), (.tmp 26)], none⟩])
  .ret)
  .skip))
  (.seq (.seq (.ops [⟨(some 28), .mov (.tmp 3), none⟩,
    ⟨(some 29), .bin .eql (.tmp 28) (.con (.int .i64 0)), none⟩])
  (.cond (.tmp 29)
  (.seq (.ops [⟨(some 30), .mov (.tmp 0), none⟩,
    ⟨(some 31), .mov (.tmp 1), none⟩,
    ⟨(some 32), .mov (.tmp 2), none⟩,
    ⟨(some 33), .call 53 [(.tmp 30), (.tmp 31), (.tmp 32)], none⟩])
  .ret)
  .skip))
  (.seq (.seq (.ops [⟨(some 34), .mov (.tmp 8), none⟩,
    ⟨(some 35), .un .not (.tmp 34), none⟩])
  (.cond (.tmp 35)
  (.seq (.ops [⟨(some 36), .mov (.tmp 0), none⟩,
    ⟨(some 37), .mov (.tmp 1), none⟩,
    ⟨(some 38), .mov (.tmp 2), none⟩,
    ⟨(some 39), .call 54 [(.tmp 36), (.tmp 37), (.tmp 38)], none⟩])
  (.ops [⟨(some 40), .mov (.tmp 3), none⟩,
    ⟨(some 41), .bin .sub (.tmp 40) (.con (.int .i64 1)), none⟩,
    ⟨(some 3), .mov (.tmp 41), none⟩]))
  .skip))
  (.seq (.ops [⟨(some 43), .mov (.tmp 0), none⟩,
    ⟨(some 44), .mov (.tmp 1), none⟩,
    ⟨(some 45), .mov (.tmp 2), none⟩,
    ⟨(some 46), .call 55 [(.tmp 43), (.tmp 44), (.tmp 45)], none⟩,
    ⟨(some 42), .mov (.tmp 46), none⟩,
    ⟨(some 47), .extract (.tmp 42) 0, none⟩,
    ⟨(some 48), .extract (.tmp 42) 1, none⟩,
    ⟨(some 11), .mov (.tmp 47), none⟩,
    ⟨(some 12), .mov (.tmp 48), none⟩])
  (.seq (.seq (.ops [⟨(some 49), .mov (.tmp 12), none⟩,
    ⟨(some 50), .bin .eql (.tmp 49) (.con (.int .i64 2)), none⟩])
  (.cond (.tmp 50)
  (.seq (.ops [⟨(some 51), .mov (.tmp 0), none⟩,
    ⟨(some 52), .mov (.tmp 1), none⟩,
    ⟨(some 53), .mov (.tmp 2), none⟩,
    ⟨(some 54), .call 56 [(.tmp 51), (.tmp 52), (.tmp 53)], none⟩])
  (.seq (.ops [⟨(some 55), .mov (.tmp 2), none⟩,
    ⟨(some 56), .bin .sub (.tmp 55) (.con (.int .i64 1)), none⟩,
    ⟨(some 57), .mov (.tmp 11), none⟩,
    ⟨(some 58), .mov (.tmp 1), none⟩,
    ⟨(some 59), .bin .sub (.tmp 57) (.tmp 58), none⟩,
    ⟨(some 60), .bin .sub (.tmp 56) (.tmp 59), none⟩,
    ⟨(some 11), .mov (.tmp 60), none⟩])
  (.ops [⟨(some 12), .mov (.con (.int .i64 1)), none⟩])))
  .skip))
  (.seq (.seq (.ops [⟨(some 61), .mov (.tmp 8), none⟩,
    ⟨(some 62), .mov (.tmp 61), none⟩,
    ⟨(some 63), .mov (.tmp 9), (some (62, true))⟩,
    ⟨(some 64), .pick (.tmp 62) (.tmp 63) (.con (.bool false)), none⟩,
    ⟨(some 65), .mov (.tmp 64), none⟩,
    ⟨(some 66), .mov (.tmp 12), (some (65, true))⟩,
    ⟨(some 67), .bin .eql (.tmp 66) (.con (.int .i64 1)), (some (65, true))⟩,
    ⟨(some 68), .pick (.tmp 65) (.tmp 67) (.con (.bool false)), none⟩])
  (.cond (.tmp 68)
  (.seq (.ops [⟨(some 69), .mov (.tmp 0), none⟩,
    ⟨(some 70), .mov (.tmp 1), none⟩,
    ⟨(some 71), .mov (.tmp 2), none⟩,
    ⟨(some 72), .call 57 [(.tmp 69), (.tmp 70), (.tmp 71)], none⟩])
  (.cond (.tmp 72)
  .ret
  .skip))
  .skip))
  (.seq (.seq (.ops [⟨(some 73), .mov (.tmp 1), none⟩,
    ⟨(some 74), .bin .gtr (.tmp 73) (.con (.int .i64 0)), none⟩,
    ⟨(some 75), .mov (.tmp 74), none⟩,
    ⟨(some 76), .mov (.tmp 0), (some (75, true))⟩,
    ⟨(some 77), .mov (.tmp 1), (some (75, true))⟩,
    ⟨(some 78), .bin .sub (.tmp 77) (.con (.int .i64 1)), (some (75, true))⟩,
    ⟨(some 79), .idxAddr 1 (.tmp 76) (.tmp 78), (some (75, true))⟩,
    ⟨(some 80), .load false 1 (.tmp 79), (some (75, true))⟩,
    ⟨(some 81), .mov (.tmp 0), (some (75, true))⟩,
    ⟨(some 82), .mov (.tmp 11), (some (75, true))⟩,
    ⟨(some 83), .idxAddr 1 (.tmp 81) (.tmp 82), (some (75, true))⟩,
    ⟨(some 84), .load false 1 (.tmp 83), (some (75, true))⟩,
    ⟨(some 85), .call 49 [(.tmp 80), (.tmp 84)], (some (75, true))⟩,
    ⟨(some 86), .un .not (.tmp 85), (some (75, true))⟩,
    ⟨(some 87), .pick (.tmp 75) (.tmp 86) (.con (.bool false)), none⟩])
  (.cond (.tmp 87)
  (.seq (.ops [⟨(some 88), .mov (.tmp 0), none⟩,
    ⟨(some 89), .mov (.tmp 1), none⟩,
    ⟨(some 90), .mov (.tmp 2), none⟩,
    ⟨(some 91), .mov (.tmp 11), none⟩,
    ⟨(some 92), .call 58 [(.tmp 88), (.tmp 89), (.tmp 90), (.tmp 91)], none⟩,
    ⟨(some 13), .mov (.tmp 92), none⟩])
  (.seq (.ops [⟨(some 93), .mov (.tmp 13), none⟩,
    ⟨(some 1), .mov (.tmp 93), none⟩])
  (.exit 1)))
  .skip))
  (.seq (.ops [⟨(some 95), .mov (.tmp 0), none⟩,
    ⟨(some 96), .mov (.tmp 1), none⟩,
    ⟨(some 97), .mov (.tmp 2), none⟩,
    ⟨(some 98), .mov (.tmp 11), none⟩,
    ⟨(some 99), .call 59 [(.tmp 95), (.tmp 96), (.tmp 97), (.tmp 98)], none⟩,
    ⟨(some 94), .mov (.tmp 99), none⟩,
    ⟨(some 100), .extract (.tmp 94) 0, none⟩,
    ⟨(some 101), .extract (.tmp 94) 1, none⟩,
    ⟨(some 14), .mov (.tmp 100), none⟩,
    ⟨(some 15), .mov (.tmp 101), none⟩])
  (.seq (.ops [⟨(some 102), .mov (.tmp 15), none⟩,
    ⟨(some 9), .mov (.tmp 102), none⟩])
  (.seq (.ops [⟨(some 103), .mov (.tmp 14), none⟩,
    ⟨(some 104), .mov (.tmp 1), none⟩,
    ⟨(some 105), .bin .sub (.tmp 103) (.tmp 104), none⟩,
    ⟨(some 106), .mov (.tmp 2), none⟩,
    ⟨(some 107), .mov (.tmp 14), none⟩,
    ⟨(some 108), .bin .sub (.tmp 106) (.tmp 107), none⟩,
    ⟨(some 16), .mov (.tmp 105), none⟩,
    ⟨(some 17), .mov (.tmp 108), none⟩])
  (.seq (.ops [⟨(some 109), .mov (.tmp 10), none⟩,
    ⟨(some 110), .bin .quo (.tmp 109) (.con (.int .i64 8)), none⟩,
    ⟨(some 18), .mov (.tmp 110), none⟩])
  (.seq (.ops [⟨(some 111), .mov (.tmp 16), none⟩,
    ⟨(some 112), .mov (.tmp 17), none⟩,
    ⟨(some 113), .bin .lss (.tmp 111) (.tmp 112), none⟩])
  (.cond (.tmp 113)
  (.seq (.ops [⟨(some 114), .mov (.tmp 16), none⟩,
    ⟨(some 115), .mov (.tmp 18), none⟩,
    ⟨(some 116), .bin .geq (.tmp 114) (.tmp 115), none⟩,
    ⟨(some 8), .mov (.tmp 116), none⟩])
  (.seq (.ops [⟨(some 117), .mov (.tmp 0), none⟩,
    ⟨(some 118), .mov (.tmp 1), none⟩,
    ⟨(some 119), .mov (.tmp 14), none⟩,
    ⟨(some 120), .mov (.tmp 3), none⟩,
    ⟨(some 121), .call 45 [(.tmp 117), (.tmp 118), (.tmp 119), (.tmp 120)], none⟩])
  (.ops [⟨(some 122), .mov (.tmp 14), none⟩,
    ⟨(some 123), .bin .add (.tmp 122) (.con (.int .i64 1)), none⟩,
    ⟨(some 1), .mov (.tmp 123), none⟩])))
  (.seq (.ops [⟨(some 124), .mov (.tmp 17), none⟩,
    ⟨(some 125), .mov (.tmp 18), none⟩,
    ⟨(some 126), .bin .geq (.tmp 124) (.tmp 125), none⟩,
    ⟨(some 8), .mov (.tmp 126), none⟩])
  (.seq (.ops [⟨(some 127), .mov (.tmp 0), none⟩,
    ⟨(some 128), .mov (.tmp 14), none⟩,
    ⟨(some 129), .bin .add (.tmp 128) (.con (.int .i64 1)), none⟩,
    ⟨(some 130), .mov (.tmp 2), none⟩,
    ⟨(some 131), .mov (.tmp 3), none⟩,
    ⟨(some 132), .call 45 [(.tmp 127), (.tmp 129), (.tmp 130), (.tmp 131)], none⟩])
  (.ops [⟨(some 133), .mov (.tmp 14), none⟩,
    ⟨(some 2), .mov (.tmp 133), none⟩]))))))))))))))))))
def c45 : ACode := (.seq (.ops [⟨(some 8), .mov (.con (.bool true)), none⟩])
  (.seq (.ops [⟨(some 9), .mov (.con (.bool true)), none⟩])
  (.block 0 (.loop c45l0))))
def a45 : AFunc := ⟨4, c45, []⟩

/- 87: (*tendril/merge.rows).Push -/
def c87 : ACode := (.draw [.op ⟨(some 4), .mov (.tmp 0), none⟩,
    .op ⟨(some 5), .mov (.tmp 0), none⟩,
    .op ⟨(some 6), .nilChk (.tmp 5), none⟩,
    .op ⟨(some 7), .load false 1 (.tmp 6), none⟩,
    .op ⟨(some 8), .mov (.tmp 1), none⟩,
    .op ⟨(some 9), .assertT 26 .nilSlice false (.tmp 8), none⟩,
    .op ⟨(some 10), .buildSlice 1 1 [.nilSlice] [(0, 1, (.tmp 9))], none⟩,
    .look ⟨(some 7), .load false 1 (.tmp 6), none⟩,
    .look ⟨(some 10), .buildSlice 1 1 [.nilSlice] [(0, 1, (.tmp 9))], none⟩,
    .op ⟨(some 11), .append 1 24 (.tmp 7) (.tmp 10), none⟩,
    .op ⟨(some 12), .nilChk (.tmp 4), none⟩,
    .op ⟨none, .store 1 (.tmp 12) (.tmp 11), none⟩])
def a87 : AFunc := ⟨2, c87, []⟩
/- 82 (*internal/abi.Type).Len: no body, not compiled -/

/- 47: container/heap.up -/
def c47l0 : ACode := (.block 1 (.seq (.ops [⟨(some 5), .mov (.tmp 1), none⟩,
    ⟨(some 6), .bin .sub (.tmp 5) (.con (.int .i64 1)), none⟩,
    ⟨(some 7), .bin .quo (.tmp 6) (.con (.int .i64 2)), none⟩,
    ⟨(some 4), .mov (.tmp 7), none⟩])
  (.seq (.seq (.ops [⟨(some 8), .mov (.tmp 4), none⟩,
    ⟨(some 9), .mov (.tmp 1), none⟩,
    ⟨(some 10), .bin .eql (.tmp 8) (.tmp 9), none⟩,
    ⟨(some 11), .mov (.tmp 10), none⟩,
    ⟨(some 12), .mov (.tmp 0), (some (11, false))⟩,
    ⟨(some 13), .mov (.tmp 1), (some (11, false))⟩,
    ⟨(some 14), .mov (.tmp 4), (some (11, false))⟩,
    ⟨(some 15), .callM [(57, 85, (.deref false 1)), (64, 85, .self)] (.tmp 12) [(.tmp 13), (.tmp 14)], (some (11, false))⟩,
    ⟨(some 16), .un .not (.tmp 15), (some (11, false))⟩,
    ⟨(some 17), .pick (.tmp 11) (.con (.bool true)) (.tmp 16), none⟩])
  (.cond (.tmp 17)
  (.exit 0)
  .skip))
  (.seq (.ops [⟨(some 18), .mov (.tmp 0), none⟩,
    ⟨(some 19), .mov (.tmp 4), none⟩,
    ⟨(some 20), .mov (.tmp 1), none⟩,
    ⟨(some 21), .callM [(57, 88, (.deref false 1)), (64, 88, .self)] (.tmp 18) [(.tmp 19), (.tmp 20)], none⟩])
  (.ops [⟨(some 22), .mov (.tmp 4), none⟩,
    ⟨(some 1), .mov (.tmp 22), none⟩])))))
def c47 : ACode := (.block 0 (.loop c47l0))
def a47 : AFunc := ⟨2, c47, []⟩

/- 88: (tendril/merge.rows).Swap -/
def c88 : ACode := (.ops [⟨(some 6), .mov (.tmp 0), none⟩,
    ⟨(some 7), .mov (.tmp 1), none⟩,
    ⟨(some 8), .mov (.tmp 0), none⟩,
    ⟨(some 9), .mov (.tmp 2), none⟩,
    ⟨(some 10), .mov (.tmp 0), none⟩,
    ⟨(some 11), .mov (.tmp 2), none⟩,
    ⟨(some 12), .idxAddr 1 (.tmp 10) (.tmp 11), none⟩,
    ⟨(some 13), .load false 1 (.tmp 12), none⟩,
    ⟨(some 14), .mov (.tmp 0), none⟩,
    ⟨(some 15), .mov (.tmp 1), none⟩,
    ⟨(some 16), .idxAddr 1 (.tmp 14) (.tmp 15), none⟩,
    ⟨(some 17), .load false 1 (.tmp 16), none⟩,
    ⟨(some 18), .idxAddr 1 (.tmp 6) (.tmp 7), none⟩,
    ⟨none, .store 1 (.tmp 18) (.tmp 13), none⟩,
    ⟨(some 19), .idxAddr 1 (.tmp 8) (.tmp 9), none⟩,
    ⟨none, .store 1 (.tmp 19) (.tmp 17), none⟩])
def a88 : AFunc := ⟨3, c88, []⟩

/- 48: container/heap.down -/
def c48l0 : ACode := (.block 1 (.seq (.ops [⟨(some 12), .mov (.tmp 7), none⟩,
    ⟨(some 13), .bin .mul (.con (.int .i64 2)) (.tmp 12), none⟩,
    ⟨(some 14), .bin .add (.tmp 13) (.con (.int .i64 1)), none⟩,
    ⟨(some 8), .mov (.tmp 14), none⟩])
  (.seq (.seq (.ops [⟨(some 15), .mov (.tmp 8), none⟩,
    ⟨(some 16), .mov (.tmp 2), none⟩,
    ⟨(some 17), .bin .geq (.tmp 15) (.tmp 16), none⟩,
    ⟨(some 18), .mov (.tmp 17), none⟩,
    ⟨(some 19), .mov (.tmp 8), (some (18, false))⟩,
    ⟨(some 20), .bin .lss (.tmp 19) (.con (.int .i64 0)), (some (18, false))⟩,
    ⟨(some 21), .pick (.tmp 18) (.con (.bool true)) (.tmp 20), none⟩])
  (.cond (.tmp 21)
  (.exit 0)
  .skip))
  (.seq (.ops [⟨(some 22), .mov (.tmp 8), none⟩,
    ⟨(some 9), .mov (.tmp 22), none⟩])
  (.seq (.seq (.ops [⟨(some 23), .mov (.tmp 8), none⟩,
    ⟨(some 24), .bin .add (.tmp 23) (.con (.int .i64 1)), none⟩,
    ⟨(some 10), .mov (.tmp 24), none⟩])
  (.seq (.ops [⟨(some 25), .mov (.tmp 10), none⟩,
    ⟨(some 26), .mov (.tmp 2), none⟩,
    ⟨(some 27), .bin .lss (.tmp 25) (.tmp 26), none⟩,
    ⟨(some 28), .mov (.tmp 27), none⟩,
    ⟨(some 29), .mov (.tmp 0), (some (28, true))⟩,
    ⟨(some 30), .mov (.tmp 10), (some (28, true))⟩,
    ⟨(some 31), .mov (.tmp 8), (some (28, true))⟩,
    ⟨(some 32), .callM [(57, 85, (.deref false 1)), (64, 85, .self)] (.tmp 29) [(.tmp 30), (.tmp 31)], (some (28, true))⟩,
    ⟨(some 33), .pick (.tmp 28) (.tmp 32) (.con (.bool false)), none⟩])
  (.cond (.tmp 33)
  (.ops [⟨(some 34), .mov (.tmp 10), none⟩,
    ⟨(some 9), .mov (.tmp 34), none⟩])
  .skip)))
  (.seq (.seq (.ops [⟨(some 35), .mov (.tmp 0), none⟩,
    ⟨(some 36), .mov (.tmp 9), none⟩,
    ⟨(some 37), .mov (.tmp 7), none⟩,
    ⟨(some 38), .callM [(57, 85, (.deref false 1)), (64, 85, .self)] (.tmp 35) [(.tmp 36), (.tmp 37)], none⟩,
    ⟨(some 39), .un .not (.tmp 38), none⟩])
  (.cond (.tmp 39)
  (.exit 0)
  .skip))
  (.seq (.ops [⟨(some 40), .mov (.tmp 0), none⟩,
    ⟨(some 41), .mov (.tmp 7), none⟩,
    ⟨(some 42), .mov (.tmp 9), none⟩,
    ⟨(some 43), .callM [(57, 88, (.deref false 1)), (64, 88, .self)] (.tmp 40) [(.tmp 41), (.tmp 42)], none⟩])
  (.ops [⟨(some 44), .mov (.tmp 9), none⟩,
    ⟨(some 7), .mov (.tmp 44), none⟩]))))))))
def c48 : ACode := (.seq (.ops [⟨(some 6), .mov (.con (.bool false)), none⟩])
  (.seq (.ops [⟨(some 11), .mov (.tmp 1), none⟩,
    ⟨(some 7), .mov (.tmp 11), none⟩])
  (.seq (.block 0 (.loop c48l0))
  (.seq (.ops [⟨(some 45), .mov (.tmp 7), none⟩,
    ⟨(some 46), .mov (.tmp 1), none⟩,
    ⟨(some 47), .bin .gtr (.tmp 45) (.tmp 46), none⟩,
    ⟨(some 6), .mov (.tmp 47), none⟩])
  .ret))))
def a48 : AFunc := ⟨3, c48, [.tmp 6]⟩

/- 86: (*tendril/merge.rows).Pop -/
def c86 : ACode := (.seq (.ops [⟨(some 2), .mov (.con .nilIface), none⟩])
  (.seq (.ops [⟨(some 5), .mov (.tmp 0), none⟩,
    ⟨(some 6), .nilChk (.tmp 5), none⟩,
    ⟨(some 7), .load false 1 (.tmp 6), none⟩,
    ⟨(some 8), .lenSlice (.tmp 7), none⟩,
    ⟨(some 9), .bin .sub (.tmp 8) (.con (.int .i64 1)), none⟩,
    ⟨(some 3), .mov (.tmp 9), none⟩])
  (.seq (.ops [⟨(some 10), .mov (.tmp 0), none⟩,
    ⟨(some 11), .nilChk (.tmp 10), none⟩,
    ⟨(some 12), .load false 1 (.tmp 11), none⟩,
    ⟨(some 13), .mov (.tmp 3), none⟩,
    ⟨(some 14), .idxAddr 1 (.tmp 12) (.tmp 13), none⟩,
    ⟨(some 15), .load false 1 (.tmp 14), none⟩,
    ⟨(some 4), .mov (.tmp 15), none⟩])
  (.seq (.ops [⟨(some 16), .mov (.tmp 0), none⟩,
    ⟨(some 17), .mov (.tmp 0), none⟩,
    ⟨(some 18), .nilChk (.tmp 17), none⟩,
    ⟨(some 19), .load false 1 (.tmp 18), none⟩,
    ⟨(some 20), .mov (.tmp 3), none⟩,
    ⟨(some 21), .slc 1 (.tmp 19) none (some (.tmp 20)) none, none⟩,
    ⟨(some 22), .nilChk (.tmp 16), none⟩,
    ⟨none, .store 1 (.tmp 22) (.tmp 21), none⟩])
  (.seq (.ops [⟨(some 23), .mov (.tmp 4), none⟩,
    ⟨(some 24), .mkIface 26 (.tmp 23), none⟩,
    ⟨(some 2), .mov (.tmp 24), none⟩])
  .ret)))))
def a86 : AFunc := ⟨1, c86, [.tmp 2]⟩

/- 49: cmp.Less[int] -/
def c49 : ACode := (.seq (.ops [⟨(some 4), .mov (.con (.bool false)), none⟩])
  (.seq (.ops [⟨(some 5), .mov (.tmp 0), none⟩,
    ⟨(some 6), .call 62 [(.tmp 5)], none⟩,
    ⟨(some 7), .mov (.tmp 6), none⟩,
    ⟨(some 8), .mov (.tmp 1), (some (7, true))⟩,
    ⟨(some 9), .call 62 [(.tmp 8)], (some (7, true))⟩,
    ⟨(some 10), .un .not (.tmp 9), (some (7, true))⟩,
    ⟨(some 11), .pick (.tmp 7) (.tmp 10) (.con (.bool false)), none⟩,
    ⟨(some 12), .mov (.tmp 11), none⟩,
    ⟨(some 13), .mov (.tmp 0), (some (12, false))⟩,
    ⟨(some 14), .mov (.tmp 1), (some (12, false))⟩,
    ⟨(some 15), .bin .lss (.tmp 13) (.tmp 14), (some (12, false))⟩,
    ⟨(some 16), .pick (.tmp 12) (.con (.bool true)) (.tmp 15), none⟩,
    ⟨(some 4), .mov (.tmp 16), none⟩])
  .ret))
def a49 : AFunc := ⟨2, c49, [.tmp 4]⟩

/- 50: slices.isNaN[int] -/
def c50 : ACode := (.seq (.ops [⟨(some 2), .mov (.con (.bool false)), none⟩])
  (.seq (.ops [⟨(some 3), .mov (.tmp 0), none⟩,
    ⟨(some 4), .mov (.tmp 0), none⟩,
    ⟨(some 5), .bin .neq (.tmp 3) (.tmp 4), none⟩,
    ⟨(some 2), .mov (.tmp 5), none⟩])
  .ret))
def a50 : AFunc := ⟨1, c50, [.tmp 2]⟩

/- 51: (*tendril/query.reader).word -/
def c51l0 : ACode := (.seq (.seq (.ops [⟨(some 3), .mov (.tmp 0), none⟩,
    ⟨(some 4), .nilChk (.tmp 3), none⟩,
    ⟨(some 5), .fieldAddr 0 (.tmp 4), none⟩,
    ⟨(some 6), .load false 1 (.tmp 5), none⟩,
    ⟨(some 7), .bin .neq (.tmp 6) (.con (.str [])), none⟩,
    ⟨(some 8), .mov (.tmp 7), none⟩,
    ⟨(some 9), .mov (.tmp 0), (some (8, true))⟩,
    ⟨(some 10), .nilChk (.tmp 9), (some (8, true))⟩,
    ⟨(some 11), .fieldAddr 0 (.tmp 10), (some (8, true))⟩,
    ⟨(some 12), .load false 1 (.tmp 11), (some (8, true))⟩,
    ⟨(some 13), .idxStr (.tmp 12) (.con (.int .i64 0)), (some (8, true))⟩,
    ⟨(some 14), .call 14 [(.tmp 13)], (some (8, true))⟩,
    ⟨(some 15), .bin .neq (.tmp 14) (.con (.int .u8 0)), (some (8, true))⟩,
    ⟨(some 16), .pick (.tmp 8) (.tmp 15) (.con (.bool false)), none⟩])
  (.cond (.tmp 16)
  .skip
  (.exit 0)))
  (.block 1 (.seq (.ops [⟨(some 17), .mov (.tmp 2), none⟩,
    ⟨(some 18), .mov (.tmp 0), none⟩,
    ⟨(some 19), .nilChk (.tmp 18), none⟩,
    ⟨(some 20), .fieldAddr 0 (.tmp 19), none⟩,
    ⟨(some 21), .load false 1 (.tmp 20), none⟩,
    ⟨(some 22), .idxStr (.tmp 21) (.con (.int .i64 0)), none⟩,
    ⟨(some 23), .call 14 [(.tmp 22)], none⟩,
    ⟨(some 24), .buildSlice 1 1 [(.int .u8 0)] [(0, 1, (.tmp 23))], none⟩,
    ⟨(some 25), .append 1 1 (.tmp 17) (.tmp 24), none⟩,
    ⟨(some 2), .mov (.tmp 25), none⟩])
  (.ops [⟨(some 26), .mov (.tmp 0), none⟩,
    ⟨(some 27), .mov (.tmp 0), none⟩,
    ⟨(some 28), .nilChk (.tmp 27), none⟩,
    ⟨(some 29), .fieldAddr 0 (.tmp 28), none⟩,
    ⟨(some 30), .load false 1 (.tmp 29), none⟩,
    ⟨(some 31), .slcStr (.tmp 30) (some (.con (.int .i64 1))) none, none⟩,
    ⟨(some 32), .nilChk (.tmp 26), none⟩,
    ⟨(some 33), .fieldAddr 0 (.tmp 32), none⟩,
    ⟨none, .store 1 (.tmp 33) (.tmp 31), none⟩]))))
def c51 : ACode := (.seq (.ops [⟨(some 2), .mov (.con .nilSlice), none⟩])
  (.seq (.block 0 (.loop c51l0))
  (.seq (.seq (.ops [⟨(some 34), .mov (.tmp 2), none⟩,
    ⟨(some 35), .lenSlice (.tmp 34), none⟩,
    ⟨(some 36), .bin .gtr (.tmp 35) (.con (.int .i64 12)), none⟩])
  (.cond (.tmp 36)
  (.ops [⟨(some 37), .mov (.tmp 0), none⟩,
    ⟨(some 38), .call 24 [(.tmp 37), (.con (.int .i64 6))], none⟩])
  .skip))
  (.ops [⟨(some 39), .mov (.tmp 0), none⟩,
    ⟨(some 40), .mov (.tmp 2), none⟩,
    ⟨(some 41), .toStr (.tmp 40), none⟩,
    ⟨(some 42), .call 35 [(.tmp 39), (.con (.int .i64 1)), (.tmp 41)], none⟩]))))
def a51 : AFunc := ⟨1, c51, []⟩

/- 60: math/bits.Len32 -/
def c60 : ACode := (.seq (.ops [⟨(some 2), .mov (.con (.int .i64 0)), none⟩])
  (.seq (.seq (.ops [⟨(some 3), .mov (.tmp 0), none⟩,
    ⟨(some 4), .bin .geq (.tmp 3) (.con (.int .u32 65536)), none⟩])
  (.cond (.tmp 4)
  (.seq (.ops [⟨(some 5), .mov (.tmp 0), none⟩,
    ⟨(some 6), .bin .shr (.tmp 5) (.con (.int .u64 16)), none⟩,
    ⟨(some 0), .mov (.tmp 6), none⟩])
  (.ops [⟨(some 2), .mov (.con (.int .i64 16)), none⟩]))
  .skip))
  (.seq (.seq (.ops [⟨(some 7), .mov (.tmp 0), none⟩,
    ⟨(some 8), .bin .geq (.tmp 7) (.con (.int .u32 256)), none⟩])
  (.cond (.tmp 8)
  (.seq (.ops [⟨(some 9), .mov (.tmp 0), none⟩,
    ⟨(some 10), .bin .shr (.tmp 9) (.con (.int .u64 8)), none⟩,
    ⟨(some 0), .mov (.tmp 10), none⟩])
  (.ops [⟨(some 11), .mov (.tmp 2), none⟩,
    ⟨(some 12), .bin .add (.tmp 11) (.con (.int .i64 8)), none⟩,
    ⟨(some 2), .mov (.tmp 12), none⟩]))
  .skip))
  (.seq (.ops [⟨(some 13), .mov (.tmp 2), none⟩,
    ⟨(some 14), .mov (.tmp 0), none⟩,
    ⟨(some 15), .toInt .u8 (.tmp 14), none⟩,
    ⟨(some 16), .idxStr (.con (.str [0, 1, 2, 2, 3, 3, 3, 3, 4, 4, 4, 4, 4, 4, 4, 4, 5, 5, 5, 5, 5, 5, 5, 5, 5, 5, 5, 5, 5, 5, 5, 5, 6, 6, 6, 6, 6, 6, 6, 6, 6, 6, 6, 6, 6, 6, 6, 6, 6, 6, 6, 6, 6, 6, 6, 6, 6, 6, 6, 6, 6, 6, 6, 6, 7, 7, 7, 7, 7, 7, 7, 7, 7, 7, 7, 7, 7, 7, 7, 7, 7, 7, 7, 7, 7, 7, 7, 7, 7, 7, 7, 7, 7, 7, 7, 7, 7, 7, 7, 7, 7, 7, 7, 7, 7, 7, 7, 7, 7, 7, 7, 7, 7, 7, 7, 7, 7, 7, 7, 7, 7, 7, 7, 7, 7, 7, 7, 7, 8, 8, 8, 8, 8, 8, 8, 8, 8, 8, 8, 8, 8, 8, 8, 8, 8, 8, 8, 8, 8, 8, 8, 8, 8, 8, 8, 8, 8, 8, 8, 8, 8, 8, 8, 8, 8, 8, 8, 8, 8, 8, 8, 8, 8, 8, 8, 8, 8, 8, 8, 8, 8, 8, 8, 8, 8, 8, 8, 8, 8, 8, 8, 8, 8, 8, 8, 8, 8, 8, 8, 8, 8, 8, 8, 8, 8, 8, 8, 8, 8, 8, 8, 8, 8, 8, 8, 8, 8, 8, 8, 8, 8, 8, 8, 8, 8, 8, 8, 8, 8, 8, 8, 8, 8, 8, 8, 8, 8, 8, 8, 8, 8, 8, 8, 8, 8, 8, 8, 8, 8, 8, 8, 8, 8, 8, 8, 8])) (.tmp 15), none⟩,
    ⟨(some 17), .toInt .i64 (.tmp 16), none⟩,
    ⟨(some 18), .bin .add (.tmp 13) (.tmp 17), none⟩,
    ⟨(some 2), .mov (.tmp 18), none⟩])
  .ret))))
def a60 : AFunc := ⟨1, c60, [.tmp 2]⟩

/- 61: math/bits.Len64 -/
def c61 : ACode := (.seq (.ops [⟨(some 2), .mov (.con (.int .i64 0)), none⟩])
  (.seq (.seq (.ops [⟨(some 3), .mov (.tmp 0), none⟩,
    ⟨(some 4), .bin .geq (.tmp 3) (.con (.int .u64 4294967296)), none⟩])
  (.cond (.tmp 4)
  (.seq (.ops [⟨(some 5), .mov (.tmp 0), none⟩,
    ⟨(some 6), .bin .shr (.tmp 5) (.con (.int .u64 32)), none⟩,
    ⟨(some 0), .mov (.tmp 6), none⟩])
  (.ops [⟨(some 2), .mov (.con (.int .i64 32)), none⟩]))
  .skip))
  (.seq (.seq (.ops [⟨(some 7), .mov (.tmp 0), none⟩,
    ⟨(some 8), .bin .geq (.tmp 7) (.con (.int .u64 65536)), none⟩])
  (.cond (.tmp 8)
  (.seq (.ops [⟨(some 9), .mov (.tmp 0), none⟩,
    ⟨(some 10), .bin .shr (.tmp 9) (.con (.int .u64 16)), none⟩,
    ⟨(some 0), .mov (.tmp 10), none⟩])
  (.ops [⟨(some 11), .mov (.tmp 2), none⟩,
    ⟨(some 12), .bin .add (.tmp 11) (.con (.int .i64 16)), none⟩,
    ⟨(some 2), .mov (.tmp 12), none⟩]))
  .skip))
  (.seq (.seq (.ops [⟨(some 13), .mov (.tmp 0), none⟩,
    ⟨(some 14), .bin .geq (.tmp 13) (.con (.int .u64 256)), none⟩])
  (.cond (.tmp 14)
  (.seq (.ops [⟨(some 15), .mov (.tmp 0), none⟩,
    ⟨(some 16), .bin .shr (.tmp 15) (.con (.int .u64 8)), none⟩,
    ⟨(some 0), .mov (.tmp 16), none⟩])
  (.ops [⟨(some 17), .mov (.tmp 2), none⟩,
    ⟨(some 18), .bin .add (.tmp 17) (.con (.int .i64 8)), none⟩,
    ⟨(some 2), .mov (.tmp 18), none⟩]))
  .skip))
  (.seq (.ops [⟨(some 19), .mov (.tmp 2), none⟩,
    ⟨(some 20), .mov (.tmp 0), none⟩,
    ⟨(some 21), .toInt .u8 (.tmp 20), none⟩,
    ⟨(some 22), .idxStr (.con (.str [0, 1, 2, 2, 3, 3, 3, 3, 4, 4, 4, 4, 4, 4, 4, 4, 5, 5, 5, 5, 5, 5, 5, 5, 5, 5, 5, 5, 5, 5, 5, 5, 6, 6, 6, 6, 6, 6, 6, 6, 6, 6, 6, 6, 6, 6, 6, 6, 6, 6, 6, 6, 6, 6, 6, 6, 6, 6, 6, 6, 6, 6, 6, 6, 7, 7, 7, 7, 7, 7, 7, 7, 7, 7, 7, 7, 7, 7, 7, 7, 7, 7, 7, 7, 7, 7, 7, 7, 7, 7, 7, 7, 7, 7, 7, 7, 7, 7, 7, 7, 7, 7, 7, 7, 7, 7, 7, 7, 7, 7, 7, 7, 7, 7, 7, 7, 7, 7, 7, 7, 7, 7, 7, 7, 7, 7, 7, 7, 8, 8, 8, 8, 8, 8, 8, 8, 8, 8, 8, 8, 8, 8, 8, 8, 8, 8, 8, 8, 8, 8, 8, 8, 8, 8, 8, 8, 8, 8, 8, 8, 8, 8, 8, 8, 8, 8, 8, 8, 8, 8, 8, 8, 8, 8, 8, 8, 8, 8, 8, 8, 8, 8, 8, 8, 8, 8, 8, 8, 8, 8, 8, 8, 8, 8, 8, 8, 8, 8, 8, 8, 8, 8, 8, 8, 8, 8, 8, 8, 8, 8, 8, 8, 8, 8, 8, 8, 8, 8, 8, 8, 8, 8, 8, 8, 8, 8, 8, 8, 8, 8, 8, 8, 8, 8, 8, 8, 8, 8, 8, 8, 8, 8, 8, 8, 8, 8, 8, 8, 8, 8, 8, 8, 8, 8, 8, 8])) (.tmp 21), none⟩,
    ⟨(some 23), .toInt .i64 (.tmp 22), none⟩,
    ⟨(some 24), .bin .add (.tmp 19) (.tmp 23), none⟩,
    ⟨(some 2), .mov (.tmp 24), none⟩])
  .ret)))))
def a61 : AFunc := ⟨1, c61, [.tmp 2]⟩

/- 52: slices.insertionSortOrdered[int] -/
def c52l0 : ACode := (.seq (.seq (.ops [⟨(some 16), .mov (.tmp 7), none⟩,
    ⟨(some 17), .mov (.tmp 1), none⟩,
    ⟨(some 18), .bin .gtr (.tmp 16) (.tmp 17), none⟩,
    ⟨(some 19), .mov (.tmp 18), none⟩,
    ⟨(some 20), .mov (.tmp 0), (some (19, true))⟩,
    ⟨(some 21), .mov (.tmp 7), (some (19, true))⟩,
    ⟨(some 22), .idxAddr 1 (.tmp 20) (.tmp 21), (some (19, true))⟩,
    ⟨(some 23), .load false 1 (.tmp 22), (some (19, true))⟩,
    ⟨(some 24), .mov (.tmp 0), (some (19, true))⟩,
    ⟨(some 25), .mov (.tmp 7), (some (19, true))⟩,
    ⟨(some 26), .bin .sub (.tmp 25) (.con (.int .i64 1)), (some (19, true))⟩,
    ⟨(some 27), .idxAddr 1 (.tmp 24) (.tmp 26), (some (19, true))⟩,
    ⟨(some 28), .load false 1 (.tmp 27), (some (19, true))⟩,
    ⟨(some 29), .call 49 [(.tmp 23), (.tmp 28)], (some (19, true))⟩,
    ⟨(some 30), .pick (.tmp 19) (.tmp 29) (.con (.bool false)), none⟩])
  (.cond (.tmp 30)
  .skip
  (.exit 2)))
  (.seq (.block 3 (.ops [⟨(some 33), .mov (.tmp 0), none⟩,
    ⟨(some 34), .mov (.tmp 7), none⟩,
    ⟨(some 35), .mov (.tmp 0), none⟩,
    ⟨(some 36), .mov (.tmp 7), none⟩,
    ⟨(some 37), .bin .sub (.tmp 36) (.con (.int .i64 1)), none⟩,
    ⟨(some 38), .mov (.tmp 0), none⟩,
    ⟨(some 39), .mov (.tmp 7), none⟩,
    ⟨(some 40), .bin .sub (.tmp 39) (.con (.int .i64 1)), none⟩,
    ⟨(some 41), .idxAddr 1 (.tmp 38) (.tmp 40), none⟩,
    ⟨(some 42), .load false 1 (.tmp 41), none⟩,
    ⟨(some 43), .mov (.tmp 0), none⟩,
    ⟨(some 44), .mov (.tmp 7), none⟩,
    ⟨(some 45), .idxAddr 1 (.tmp 43) (.tmp 44), none⟩,
    ⟨(some 46), .load false 1 (.tmp 45), none⟩,
    ⟨(some 47), .idxAddr 1 (.tmp 33) (.tmp 34), none⟩,
    ⟨none, .store 1 (.tmp 47) (.tmp 42), none⟩,
    ⟨(some 48), .idxAddr 1 (.tmp 35) (.tmp 37), none⟩,
    ⟨none, .store 1 (.tmp 48) (.tmp 46), none⟩]))
  (.ops [⟨(some 31), .mov (.tmp 7), none⟩,
    ⟨(some 32), .bin .sub (.tmp 31) (.con (.int .i64 1)), none⟩,
    ⟨(some 7), .mov (.tmp 32), none⟩])))
def c52l1 : ACode := (.seq (.seq (.ops [⟨(some 10), .mov (.tmp 6), none⟩,
    ⟨(some 11), .mov (.tmp 2), none⟩,
    ⟨(some 12), .bin .lss (.tmp 10) (.tmp 11), none⟩])
  (.cond (.tmp 12)
  .skip
  (.exit 0)))
  (.seq (.block 1 (.seq (.ops [⟨(some 15), .mov (.tmp 6), none⟩,
    ⟨(some 7), .mov (.tmp 15), none⟩])
  (.block 2 (.loop c52l0))))
  (.ops [⟨(some 13), .mov (.tmp 6), none⟩,
    ⟨(some 14), .bin .add (.tmp 13) (.con (.int .i64 1)), none⟩,
    ⟨(some 6), .mov (.tmp 14), none⟩])))
def c52 : ACode := (.seq (.ops [⟨(some 8), .mov (.tmp 1), none⟩,
    ⟨(some 9), .bin .add (.tmp 8) (.con (.int .i64 1)), none⟩,
    ⟨(some 6), .mov (.tmp 9), none⟩])
  (.block 0 (.loop c52l1)))
def a52 : AFunc := ⟨3, c52, []⟩

/- 53: slices.heapSortOrdered[int] -/
def c53l0 : ACode := (.seq (.seq (.ops [⟨(some 18), .mov (.tmp 9), none⟩,
    ⟨(some 19), .bin .geq (.tmp 18) (.con (.int .i64 0)), none⟩])
  (.cond (.tmp 19)
  .skip
  (.exit 0)))
  (.seq (.block 1 (.ops [⟨(some 22), .mov (.tmp 0), none⟩,
    ⟨(some 23), .mov (.tmp 9), none⟩,
    ⟨(some 24), .mov (.tmp 8), none⟩,
    ⟨(some 25), .mov (.tmp 6), none⟩,
    ⟨(some 26), .call 63 [(.tmp 22), (.tmp 23), (.tmp 24), (.tmp 25)], none⟩]))
  (.ops [⟨(some 20), .mov (.tmp 9), none⟩,
    ⟨(some 21), .bin .sub (.tmp 20) (.con (.int .i64 1)), none⟩,
    ⟨(some 9), .mov (.tmp 21), none⟩])))
def c53l1 : ACode := (.seq (.seq (.ops [⟨(some 29), .mov (.tmp 10), none⟩,
    ⟨(some 30), .bin .geq (.tmp 29) (.con (.int .i64 0)), none⟩])
  (.cond (.tmp 30)
  .skip
  (.exit 2)))
  (.seq (.block 3 (.seq (.ops [⟨(some 33), .mov (.tmp 0), none⟩,
    ⟨(some 34), .mov (.tmp 6), none⟩,
    ⟨(some 35), .mov (.tmp 0), none⟩,
    ⟨(some 36), .mov (.tmp 6), none⟩,
    ⟨(some 37), .mov (.tmp 10), none⟩,
    ⟨(some 38), .bin .add (.tmp 36) (.tmp 37), none⟩,
    ⟨(some 39), .mov (.tmp 0), none⟩,
    ⟨(some 40), .mov (.tmp 6), none⟩,
    ⟨(some 41), .mov (.tmp 10), none⟩,
    ⟨(some 42), .bin .add (.tmp 40) (.tmp 41), none⟩,
    ⟨(some 43), .idxAddr 1 (.tmp 39) (.tmp 42), none⟩,
    ⟨(some 44), .load false 1 (.tmp 43), none⟩,
    ⟨(some 45), .mov (.tmp 0), none⟩,
    ⟨(some 46), .mov (.tmp 6), none⟩,
    ⟨(some 47), .idxAddr 1 (.tmp 45) (.tmp 46), none⟩,
    ⟨(some 48), .load false 1 (.tmp 47), none⟩,
    ⟨(some 49), .idxAddr 1 (.tmp 33) (.tmp 34), none⟩,
    ⟨none, .store 1 (.tmp 49) (.tmp 44), none⟩,
    ⟨(some 50), .idxAddr 1 (.tmp 35) (.tmp 38), none⟩,
    ⟨none, .store 1 (.tmp 50) (.tmp 48), none⟩])
  (.ops [⟨(some 51), .mov (.tmp 0), none⟩,
    ⟨(some 52), .mov (.tmp 7), none⟩,
    ⟨(some 53), .mov (.tmp 10), none⟩,
    ⟨(some 54), .mov (.tmp 6), none⟩,
    ⟨(some 55), .call 63 [(.tmp 51), (.tmp 52), (.tmp 53), (.tmp 54)], none⟩])))
  (.ops [⟨(some 31), .mov (.tmp 10), none⟩,
    ⟨(some 32), .bin .sub (.tmp 31) (.con (.int .i64 1)), none⟩,
    ⟨(some 10), .mov (.tmp 32), none⟩])))
def c53 : ACode := (.seq (.ops [⟨(some 11), .mov (.tmp 1), none⟩,
    ⟨(some 6), .mov (.tmp 11), none⟩])
  (.seq (.ops [⟨(some 7), .mov (.con (.int .i64 0)), none⟩])
  (.seq (.ops [⟨(some 12), .mov (.tmp 2), none⟩,
    ⟨(some 13), .mov (.tmp 1), none⟩,
    ⟨(some 14), .bin .sub (.tmp 12) (.tmp 13), none⟩,
    ⟨(some 8), .mov (.tmp 14), none⟩])
  (.seq (.seq (.ops [⟨(some 15), .mov (.tmp 8), none⟩,
    ⟨(some 16), .bin .sub (.tmp 15) (.con (.int .i64 1)), none⟩,
    ⟨(some 17), .bin .quo (.tmp 16) (.con (.int .i64 2)), none⟩,
    ⟨(some 9), .mov (.tmp 17), none⟩])
  (.block 0 (.loop c53l0)))
  (.seq (.ops [⟨(some 27), .mov (.tmp 8), none⟩,
    ⟨(some 28), .bin .sub (.tmp 27) (.con (.int .i64 1)), none⟩,
    ⟨(some 10), .mov (.tmp 28), none⟩])
  (.block 2 (.loop c53l1)))))))
def a53 : AFunc := ⟨3, c53, []⟩

/- 54: slices.breakPatternsOrdered[int] -/
def c54l0 : ACode := (.seq (.seq (.ops [⟨(some 26), .mov (.tmp 9), none⟩,
    ⟨(some 27), .mov (.tmp 1), none⟩,
    ⟨(some 28), .mov (.tmp 6), none⟩,
    ⟨(some 29), .bin .quo (.tmp 28) (.con (.int .i64 4)), none⟩,
    ⟨(some 30), .bin .mul (.tmp 29) (.con (.int .i64 2)), none⟩,
    ⟨(some 31), .bin .add (.tmp 27) (.tmp 30), none⟩,
    ⟨(some 32), .bin .add (.tmp 31) (.con (.int .i64 1)), none⟩,
    ⟨(some 33), .bin .leq (.tmp 26) (.tmp 32), none⟩])
  (.cond (.tmp 33)
  .skip
  (.exit 0)))
  (.seq (.block 1 (.seq (.ops [⟨(some 36), .call 65 [(.tmp 7)], none⟩,
    ⟨(some 37), .mov (.tmp 8), none⟩,
    ⟨(some 38), .bin .sub (.tmp 37) (.con (.int .u64 1)), none⟩,
    ⟨(some 39), .bin .and (.tmp 36) (.tmp 38), none⟩,
    ⟨(some 40), .toInt .i64 (.tmp 39), none⟩,
    ⟨(some 10), .mov (.tmp 40), none⟩])
  (.seq (.seq (.ops [⟨(some 41), .mov (.tmp 10), none⟩,
    ⟨(some 42), .mov (.tmp 6), none⟩,
    ⟨(some 43), .bin .geq (.tmp 41) (.tmp 42), none⟩])
  (.cond (.tmp 43)
  (.ops [⟨(some 44), .mov (.tmp 10), none⟩,
    ⟨(some 45), .mov (.tmp 6), none⟩,
    ⟨(some 46), .bin .sub (.tmp 44) (.tmp 45), none⟩,
    ⟨(some 10), .mov (.tmp 46), none⟩])
  .skip))
  (.ops [⟨(some 47), .mov (.tmp 0), none⟩,
    ⟨(some 48), .mov (.tmp 9), none⟩,
    ⟨(some 49), .mov (.tmp 0), none⟩,
    ⟨(some 50), .mov (.tmp 1), none⟩,
    ⟨(some 51), .mov (.tmp 10), none⟩,
    ⟨(some 52), .bin .add (.tmp 50) (.tmp 51), none⟩,
    ⟨(some 53), .mov (.tmp 0), none⟩,
    ⟨(some 54), .mov (.tmp 1), none⟩,
    ⟨(some 55), .mov (.tmp 10), none⟩,
    ⟨(some 56), .bin .add (.tmp 54) (.tmp 55), none⟩,
    ⟨(some 57), .idxAddr 1 (.tmp 53) (.tmp 56), none⟩,
    ⟨(some 58), .load false 1 (.tmp 57), none⟩,
    ⟨(some 59), .mov (.tmp 0), none⟩,
    ⟨(some 60), .mov (.tmp 9), none⟩,
    ⟨(some 61), .idxAddr 1 (.tmp 59) (.tmp 60), none⟩,
    ⟨(some 62), .load false 1 (.tmp 61), none⟩,
    ⟨(some 63), .idxAddr 1 (.tmp 47) (.tmp 48), none⟩,
    ⟨none, .store 1 (.tmp 63) (.tmp 58), none⟩,
    ⟨(some 64), .idxAddr 1 (.tmp 49) (.tmp 52), none⟩,
    ⟨none, .store 1 (.tmp 64) (.tmp 62), none⟩]))))
  (.ops [⟨(some 34), .mov (.tmp 9), none⟩,
    ⟨(some 35), .bin .add (.tmp 34) (.con (.int .i64 1)), none⟩,
    ⟨(some 9), .mov (.tmp 35), none⟩])))
def c54 : ACode := (.seq (.ops [⟨(some 11), .mov (.tmp 2), none⟩,
    ⟨(some 12), .mov (.tmp 1), none⟩,
    ⟨(some 13), .bin .sub (.tmp 11) (.tmp 12), none⟩,
    ⟨(some 6), .mov (.tmp 13), none⟩])
  (.seq (.ops [⟨(some 14), .mov (.tmp 6), none⟩,
    ⟨(some 15), .bin .geq (.tmp 14) (.con (.int .i64 8)), none⟩])
  (.cond (.tmp 15)
  (.seq (.ops [⟨(some 16), .mov (.tmp 6), none⟩,
    ⟨(some 17), .toInt .u64 (.tmp 16), none⟩,
    ⟨(some 7), .new [(.int .u64 0)], none⟩,
    ⟨none, .store 1 (.tmp 7) (.tmp 17), none⟩])
  (.seq (.ops [⟨(some 18), .mov (.tmp 6), none⟩,
    ⟨(some 19), .call 64 [(.tmp 18)], none⟩,
    ⟨(some 8), .mov (.tmp 19), none⟩])
  (.seq (.ops [⟨(some 20), .mov (.tmp 1), none⟩,
    ⟨(some 21), .mov (.tmp 6), none⟩,
    ⟨(some 22), .bin .quo (.tmp 21) (.con (.int .i64 4)), none⟩,
    ⟨(some 23), .bin .mul (.tmp 22) (.con (.int .i64 2)), none⟩,
    ⟨(some 24), .bin .add (.tmp 20) (.tmp 23), none⟩,
    ⟨(some 25), .bin .sub (.tmp 24) (.con (.int .i64 1)), none⟩,
    ⟨(some 9), .mov (.tmp 25), none⟩])
  (.block 0 (.loop c54l0)))))
  .skip)))
def a54 : AFunc := ⟨3, c54, []⟩

/- 55: slices.choosePivotOrdered[int] -/
def c55 : ACode := (.seq (.ops [⟨(some 6), .mov (.con (.int .i64 0)), none⟩,
    ⟨(some 7), .mov (.con (.int .i64 0)), none⟩])
  (.seq (.ops [⟨(some 13), .mov (.tmp 2), none⟩,
    ⟨(some 14), .mov (.tmp 1), none⟩,
    ⟨(some 15), .bin .sub (.tmp 13) (.tmp 14), none⟩,
    ⟨(some 8), .mov (.tmp 15), none⟩])
  (.seq (.ops [⟨(some 9), .new [(.int .i64 0)], none⟩])
  (.seq (.ops [⟨(some 16), .mov (.tmp 1), none⟩,
    ⟨(some 17), .mov (.tmp 8), none⟩,
    ⟨(some 18), .bin .quo (.tmp 17) (.con (.int .i64 4)), none⟩,
    ⟨(some 19), .bin .mul (.tmp 18) (.con (.int .i64 1)), none⟩,
    ⟨(some 20), .bin .add (.tmp 16) (.tmp 19), none⟩,
    ⟨(some 10), .mov (.tmp 20), none⟩])
  (.seq (.ops [⟨(some 21), .mov (.tmp 1), none⟩,
    ⟨(some 22), .mov (.tmp 8), none⟩,
    ⟨(some 23), .bin .quo (.tmp 22) (.con (.int .i64 4)), none⟩,
    ⟨(some 24), .bin .mul (.tmp 23) (.con (.int .i64 2)), none⟩,
    ⟨(some 25), .bin .add (.tmp 21) (.tmp 24), none⟩,
    ⟨(some 11), .mov (.tmp 25), none⟩])
  (.seq (.ops [⟨(some 26), .mov (.tmp 1), none⟩,
    ⟨(some 27), .mov (.tmp 8), none⟩,
    ⟨(some 28), .bin .quo (.tmp 27) (.con (.int .i64 4)), none⟩,
    ⟨(some 29), .bin .mul (.tmp 28) (.con (.int .i64 3)), none⟩,
    ⟨(some 30), .bin .add (.tmp 26) (.tmp 29), none⟩,
    ⟨(some 12), .mov (.tmp 30), none⟩])
  (.seq (.seq (.ops [⟨(some 31), .mov (.tmp 8), none⟩,
    ⟨(some 32), .bin .geq (.tmp 31) (.con (.int .i64 8)), none⟩])
  (.cond (.tmp 32)
  (.seq (.seq (.ops [⟨(some 33), .mov (.tmp 8), none⟩,
    ⟨(some 34), .bin .geq (.tmp 33) (.con (.int .i64 50)), none⟩])
  (.cond (.tmp 34)
  (.seq (.ops [⟨(some 35), .mov (.tmp 0), none⟩,
    ⟨(some 36), .mov (.tmp 10), none⟩,
    ⟨(some 37), .call 66 [(.tmp 35), (.tmp 36), (.tmp 9)], none⟩,
    ⟨(some 10), .mov (.tmp 37), none⟩])
  (.seq (.ops [⟨(some 38), .mov (.tmp 0), none⟩,
    ⟨(some 39), .mov (.tmp 11), none⟩,
    ⟨(some 40), .call 66 [(.tmp 38), (.tmp 39), (.tmp 9)], none⟩,
    ⟨(some 11), .mov (.tmp 40), none⟩])
  (.ops [⟨(some 41), .mov (.tmp 0), none⟩,
    ⟨(some 42), .mov (.tmp 12), none⟩,
    ⟨(some 43), .call 66 [(.tmp 41), (.tmp 42), (.tmp 9)], none⟩,
    ⟨(some 12), .mov (.tmp 43), none⟩])))
  .skip))
  (.ops [⟨(some 44), .mov (.tmp 0), none⟩,
    ⟨(some 45), .mov (.tmp 10), none⟩,
    ⟨(some 46), .mov (.tmp 11), none⟩,
    ⟨(some 47), .mov (.tmp 12), none⟩,
    ⟨(some 48), .call 67 [(.tmp 44), (.tmp 45), (.tmp 46), (.tmp 47), (.tmp 9)], none⟩,
    ⟨(some 11), .mov (.tmp 48), none⟩]))
  .skip))
  (.seq (.ops [⟨(some 49), .load false 1 (.tmp 9), none⟩])
  (.block 0 (.seq (.ops [⟨(some 52), .bin .eql (.tmp 49) (.con (.int .i64 0)), none⟩,
    ⟨(some 51), .mov (.tmp 52), none⟩])
  (.cond (.tmp 51)
  (.seq (.ops [⟨(some 53), .mov (.tmp 11), none⟩,
    ⟨(some 6), .mov (.tmp 53), none⟩,
    ⟨(some 7), .mov (.con (.int .i64 1)), none⟩])
  .ret)
  (.seq (.ops [⟨(some 55), .bin .eql (.tmp 49) (.con (.int .i64 12)), none⟩,
    ⟨(some 54), .mov (.tmp 55), none⟩])
  (.cond (.tmp 54)
  (.seq (.ops [⟨(some 56), .mov (.tmp 11), none⟩,
    ⟨(some 6), .mov (.tmp 56), none⟩,
    ⟨(some 7), .mov (.con (.int .i64 2)), none⟩])
  .ret)
  (.seq (.ops [⟨(some 50), .mov (.tmp 11), none⟩,
    ⟨(some 6), .mov (.tmp 50), none⟩,
    ⟨(some 7), .mov (.con (.int .i64 0)), none⟩])
  .ret))))))))))))))
def a55 : AFunc := ⟨3, c55, [.tmp 6, .tmp 7]⟩

/- 56: slices.reverseRangeOrdered[int] -/
def c56l0 : ACode := (.seq (.seq (.ops [⟨(some 11), .mov (.tmp 6), none⟩,
    ⟨(some 12), .mov (.tmp 7), none⟩,
    ⟨(some 13), .bin .lss (.tmp 11) (.tmp 12), none⟩])
  (.cond (.tmp 13)
  .skip
  (.exit 0)))
  (.block 1 (.seq (.ops [⟨(some 14), .mov (.tmp 0), none⟩,
    ⟨(some 15), .mov (.tmp 6), none⟩,
    ⟨(some 16), .mov (.tmp 0), none⟩,
    ⟨(some 17), .mov (.tmp 7), none⟩,
    ⟨(some 18), .mov (.tmp 0), none⟩,
    ⟨(some 19), .mov (.tmp 7), none⟩,
    ⟨(some 20), .idxAddr 1 (.tmp 18) (.tmp 19), none⟩,
    ⟨(some 21), .load false 1 (.tmp 20), none⟩,
    ⟨(some 22), .mov (.tmp 0), none⟩,
    ⟨(some 23), .mov (.tmp 6), none⟩,
    ⟨(some 24), .idxAddr 1 (.tmp 22) (.tmp 23), none⟩,
    ⟨(some 25), .load false 1 (.tmp 24), none⟩,
    ⟨(some 26), .idxAddr 1 (.tmp 14) (.tmp 15), none⟩,
    ⟨none, .store 1 (.tmp 26) (.tmp 21), none⟩,
    ⟨(some 27), .idxAddr 1 (.tmp 16) (.tmp 17), none⟩,
    ⟨none, .store 1 (.tmp 27) (.tmp 25), none⟩])
  (.seq (.ops [⟨(some 28), .mov (.tmp 6), none⟩,
    ⟨(some 29), .bin .add (.tmp 28) (.con (.int .i64 1)), none⟩,
    ⟨(some 6), .mov (.tmp 29), none⟩])
  (.ops [⟨(some 30), .mov (.tmp 7), none⟩,
    ⟨(some 31), .bin .sub (.tmp 30) (.con (.int .i64 1)), none⟩,
    ⟨(some 7), .mov (.tmp 31), none⟩])))))
def c56 : ACode := (.seq (.ops [⟨(some 8), .mov (.tmp 1), none⟩,
    ⟨(some 6), .mov (.tmp 8), none⟩])
  (.seq (.ops [⟨(some 9), .mov (.tmp 2), none⟩,
    ⟨(some 10), .bin .sub (.tmp 9) (.con (.int .i64 1)), none⟩,
    ⟨(some 7), .mov (.tmp 10), none⟩])
  (.block 0 (.loop c56l0))))
def a56 : AFunc := ⟨3, c56, []⟩

/- 57: slices.partialInsertionSortOrdered[int] -/
def c57l0 : ACode := (.seq (.seq (.ops [⟨(some 17), .mov (.tmp 7), none⟩,
    ⟨(some 18), .mov (.tmp 2), none⟩,
    ⟨(some 19), .bin .lss (.tmp 17) (.tmp 18), none⟩,
    ⟨(some 20), .mov (.tmp 19), none⟩,
    ⟨(some 21), .mov (.tmp 0), (some (20, true))⟩,
    ⟨(some 22), .mov (.tmp 7), (some (20, true))⟩,
    ⟨(some 23), .idxAddr 1 (.tmp 21) (.tmp 22), (some (20, true))⟩,
    ⟨(some 24), .load false 1 (.tmp 23), (some (20, true))⟩,
    ⟨(some 25), .mov (.tmp 0), (some (20, true))⟩,
    ⟨(some 26), .mov (.tmp 7), (some (20, true))⟩,
    ⟨(some 27), .bin .sub (.tmp 26) (.con (.int .i64 1)), (some (20, true))⟩,
    ⟨(some 28), .idxAddr 1 (.tmp 25) (.tmp 27), (some (20, true))⟩,
    ⟨(some 29), .load false 1 (.tmp 28), (some (20, true))⟩,
    ⟨(some 30), .call 49 [(.tmp 24), (.tmp 29)], (some (20, true))⟩,
    ⟨(some 31), .un .not (.tmp 30), (some (20, true))⟩,
    ⟨(some 32), .pick (.tmp 20) (.tmp 31) (.con (.bool false)), none⟩])
  (.cond (.tmp 32)
  .skip
  (.exit 2)))
  (.block 3 (.ops [⟨(some 33), .mov (.tmp 7), none⟩,
    ⟨(some 34), .bin .add (.tmp 33) (.con (.int .i64 1)), none⟩,
    ⟨(some 7), .mov (.tmp 34), none⟩])))
def c57l1 : ACode := (.seq (.seq (.ops [⟨(some 64), .mov (.tmp 9), none⟩,
    ⟨(some 65), .bin .geq (.tmp 64) (.con (.int .i64 1)), none⟩])
  (.cond (.tmp 65)
  .skip
  (.exit 4)))
  (.seq (.block 5 (.seq (.seq (.ops [⟨(some 68), .mov (.tmp 0), none⟩,
    ⟨(some 69), .mov (.tmp 9), none⟩,
    ⟨(some 70), .idxAddr 1 (.tmp 68) (.tmp 69), none⟩,
    ⟨(some 71), .load false 1 (.tmp 70), none⟩,
    ⟨(some 72), .mov (.tmp 0), none⟩,
    ⟨(some 73), .mov (.tmp 9), none⟩,
    ⟨(some 74), .bin .sub (.tmp 73) (.con (.int .i64 1)), none⟩,
    ⟨(some 75), .idxAddr 1 (.tmp 72) (.tmp 74), none⟩,
    ⟨(some 76), .load false 1 (.tmp 75), none⟩,
    ⟨(some 77), .call 49 [(.tmp 71), (.tmp 76)], none⟩,
    ⟨(some 78), .un .not (.tmp 77), none⟩])
  (.cond (.tmp 78)
  (.exit 4)
  .skip))
  (.ops [⟨(some 79), .mov (.tmp 0), none⟩,
    ⟨(some 80), .mov (.tmp 9), none⟩,
    ⟨(some 81), .mov (.tmp 0), none⟩,
    ⟨(some 82), .mov (.tmp 9), none⟩,
    ⟨(some 83), .bin .sub (.tmp 82) (.con (.int .i64 1)), none⟩,
    ⟨(some 84), .mov (.tmp 0), none⟩,
    ⟨(some 85), .mov (.tmp 9), none⟩,
    ⟨(some 86), .bin .sub (.tmp 85) (.con (.int .i64 1)), none⟩,
    ⟨(some 87), .idxAddr 1 (.tmp 84) (.tmp 86), none⟩,
    ⟨(some 88), .load false 1 (.tmp 87), none⟩,
    ⟨(some 89), .mov (.tmp 0), none⟩,
    ⟨(some 90), .mov (.tmp 9), none⟩,
    ⟨(some 91), .idxAddr 1 (.tmp 89) (.tmp 90), none⟩,
    ⟨(some 92), .load false 1 (.tmp 91), none⟩,
    ⟨(some 93), .idxAddr 1 (.tmp 79) (.tmp 80), none⟩,
    ⟨none, .store 1 (.tmp 93) (.tmp 88), none⟩,
    ⟨(some 94), .idxAddr 1 (.tmp 81) (.tmp 83), none⟩,
    ⟨none, .store 1 (.tmp 94) (.tmp 92), none⟩])))
  (.ops [⟨(some 66), .mov (.tmp 9), none⟩,
    ⟨(some 67), .bin .sub (.tmp 66) (.con (.int .i64 1)), none⟩,
    ⟨(some 9), .mov (.tmp 67), none⟩])))
def c57l2 : ACode := (.seq (.seq (.ops [⟨(some 101), .mov (.tmp 10), none⟩,
    ⟨(some 102), .mov (.tmp 2), none⟩,
    ⟨(some 103), .bin .lss (.tmp 101) (.tmp 102), none⟩])
  (.cond (.tmp 103)
  .skip
  (.exit 6)))
  (.seq (.block 7 (.seq (.seq (.ops [⟨(some 106), .mov (.tmp 0), none⟩,
    ⟨(some 107), .mov (.tmp 10), none⟩,
    ⟨(some 108), .idxAddr 1 (.tmp 106) (.tmp 107), none⟩,
    ⟨(some 109), .load false 1 (.tmp 108), none⟩,
    ⟨(some 110), .mov (.tmp 0), none⟩,
    ⟨(some 111), .mov (.tmp 10), none⟩,
    ⟨(some 112), .bin .sub (.tmp 111) (.con (.int .i64 1)), none⟩,
    ⟨(some 113), .idxAddr 1 (.tmp 110) (.tmp 112), none⟩,
    ⟨(some 114), .load false 1 (.tmp 113), none⟩,
    ⟨(some 115), .call 49 [(.tmp 109), (.tmp 114)], none⟩,
    ⟨(some 116), .un .not (.tmp 115), none⟩])
  (.cond (.tmp 116)
  (.exit 6)
  .skip))
  (.ops [⟨(some 117), .mov (.tmp 0), none⟩,
    ⟨(some 118), .mov (.tmp 10), none⟩,
    ⟨(some 119), .mov (.tmp 0), none⟩,
    ⟨(some 120), .mov (.tmp 10), none⟩,
    ⟨(some 121), .bin .sub (.tmp 120) (.con (.int .i64 1)), none⟩,
    ⟨(some 122), .mov (.tmp 0), none⟩,
    ⟨(some 123), .mov (.tmp 10), none⟩,
    ⟨(some 124), .bin .sub (.tmp 123) (.con (.int .i64 1)), none⟩,
    ⟨(some 125), .idxAddr 1 (.tmp 122) (.tmp 124), none⟩,
    ⟨(some 126), .load false 1 (.tmp 125), none⟩,
    ⟨(some 127), .mov (.tmp 0), none⟩,
    ⟨(some 128), .mov (.tmp 10), none⟩,
    ⟨(some 129), .idxAddr 1 (.tmp 127) (.tmp 128), none⟩,
    ⟨(some 130), .load false 1 (.tmp 129), none⟩,
    ⟨(some 131), .idxAddr 1 (.tmp 117) (.tmp 118), none⟩,
    ⟨none, .store 1 (.tmp 131) (.tmp 126), none⟩,
    ⟨(some 132), .idxAddr 1 (.tmp 119) (.tmp 121), none⟩,
    ⟨none, .store 1 (.tmp 132) (.tmp 130), none⟩])))
  (.ops [⟨(some 104), .mov (.tmp 10), none⟩,
    ⟨(some 105), .bin .add (.tmp 104) (.con (.int .i64 1)), none⟩,
    ⟨(some 10), .mov (.tmp 105), none⟩])))
def c57l3 : ACode := (.seq (.seq (.ops [⟨(some 13), .mov (.tmp 8), none⟩,
    ⟨(some 14), .bin .lss (.tmp 13) (.con (.int .i64 5)), none⟩])
  (.cond (.tmp 14)
  .skip
  (.exit 0)))
  (.seq (.block 1 (.seq (.block 2 (.loop c57l0))
  (.seq (.seq (.ops [⟨(some 35), .mov (.tmp 7), none⟩,
    ⟨(some 36), .mov (.tmp 2), none⟩,
    ⟨(some 37), .bin .eql (.tmp 35) (.tmp 36), none⟩])
  (.cond (.tmp 37)
  (.seq (.ops [⟨(some 6), .mov (.con (.bool true)), none⟩])
  .ret)
  .skip))
  (.seq (.seq (.ops [⟨(some 38), .mov (.tmp 2), none⟩,
    ⟨(some 39), .mov (.tmp 1), none⟩,
    ⟨(some 40), .bin .sub (.tmp 38) (.tmp 39), none⟩,
    ⟨(some 41), .bin .lss (.tmp 40) (.con (.int .i64 50)), none⟩])
  (.cond (.tmp 41)
  (.seq (.ops [⟨(some 6), .mov (.con (.bool false)), none⟩])
  .ret)
  .skip))
  (.seq (.ops [⟨(some 42), .mov (.tmp 0), none⟩,
    ⟨(some 43), .mov (.tmp 7), none⟩,
    ⟨(some 44), .mov (.tmp 0), none⟩,
    ⟨(some 45), .mov (.tmp 7), none⟩,
    ⟨(some 46), .bin .sub (.tmp 45) (.con (.int .i64 1)), none⟩,
    ⟨(some 47), .mov (.tmp 0), none⟩,
    ⟨(some 48), .mov (.tmp 7), none⟩,
    ⟨(some 49), .bin .sub (.tmp 48) (.con (.int .i64 1)), none⟩,
    ⟨(some 50), .idxAddr 1 (.tmp 47) (.tmp 49), none⟩,
    ⟨(some 51), .load false 1 (.tmp 50), none⟩,
    ⟨(some 52), .mov (.tmp 0), none⟩,
    ⟨(some 53), .mov (.tmp 7), none⟩,
    ⟨(some 54), .idxAddr 1 (.tmp 52) (.tmp 53), none⟩,
    ⟨(some 55), .load false 1 (.tmp 54), none⟩,
    ⟨(some 56), .idxAddr 1 (.tmp 42) (.tmp 43), none⟩,
    ⟨none, .store 1 (.tmp 56) (.tmp 51), none⟩,
    ⟨(some 57), .idxAddr 1 (.tmp 44) (.tmp 46), none⟩,
    ⟨none, .store 1 (.tmp 57) (.tmp 55), none⟩])
  (.seq (.seq (.ops [⟨(some 58), .mov (.tmp 7), none⟩,
    ⟨(some 59), .mov (.tmp 1), none⟩,
    ⟨(some 60), .bin .sub (.tmp 58) (.tmp 59), none⟩,
    ⟨(some 61), .bin .geq (.tmp 60) (.con (.int .i64 2)), none⟩])
  (.cond (.tmp 61)
  (.seq (.ops [⟨(some 62), .mov (.tmp 7), none⟩,
    ⟨(some 63), .bin .sub (.tmp 62) (.con (.int .i64 1)), none⟩,
    ⟨(some 9), .mov (.tmp 63), none⟩])
  (.block 4 (.loop c57l1)))
  .skip))
  (.seq (.ops [⟨(some 95), .mov (.tmp 2), none⟩,
    ⟨(some 96), .mov (.tmp 7), none⟩,
    ⟨(some 97), .bin .sub (.tmp 95) (.tmp 96), none⟩,
    ⟨(some 98), .bin .geq (.tmp 97) (.con (.int .i64 2)), none⟩])
  (.cond (.tmp 98)
  (.seq (.ops [⟨(some 99), .mov (.tmp 7), none⟩,
    ⟨(some 100), .bin .add (.tmp 99) (.con (.int .i64 1)), none⟩,
    ⟨(some 10), .mov (.tmp 100), none⟩])
  (.block 6 (.loop c57l2)))
  .skip))))))))
  (.ops [⟨(some 15), .mov (.tmp 8), none⟩,
    ⟨(some 16), .bin .add (.tmp 15) (.con (.int .i64 1)), none⟩,
    ⟨(some 8), .mov (.tmp 16), none⟩])))
def c57 : ACode := (.seq (.ops [⟨(some 6), .mov (.con (.bool false)), none⟩])
  (.seq (.ops [⟨(some 11), .mov (.tmp 1), none⟩,
    ⟨(some 12), .bin .add (.tmp 11) (.con (.int .i64 1)), none⟩,
    ⟨(some 7), .mov (.tmp 12), none⟩])
  (.seq (.seq (.ops [⟨(some 8), .mov (.con (.int .i64 0)), none⟩])
  (.block 0 (.loop c57l3)))
  (.seq (.ops [⟨(some 6), .mov (.con (.bool false)), none⟩])
  .ret))))
def a57 : AFunc := ⟨3, c57, [.tmp 6]⟩

/- 58: slices.partitionEqualOrdered[int] -/
def c58l0 : ACode := (.seq (.seq (.ops [⟨(some 29), .mov (.tmp 9), none⟩,
    ⟨(some 30), .mov (.tmp 10), none⟩,
    ⟨(some 31), .bin .leq (.tmp 29) (.tmp 30), none⟩,
    ⟨(some 32), .mov (.tmp 31), none⟩,
    ⟨(some 33), .mov (.tmp 0), (some (32, true))⟩,
    ⟨(some 34), .mov (.tmp 1), (some (32, true))⟩,
    ⟨(some 35), .idxAddr 1 (.tmp 33) (.tmp 34), (some (32, true))⟩,
    ⟨(some 36), .load false 1 (.tmp 35), (some (32, true))⟩,
    ⟨(some 37), .mov (.tmp 0), (some (32, true))⟩,
    ⟨(some 38), .mov (.tmp 9), (some (32, true))⟩,
    ⟨(some 39), .idxAddr 1 (.tmp 37) (.tmp 38), (some (32, true))⟩,
    ⟨(some 40), .load false 1 (.tmp 39), (some (32, true))⟩,
    ⟨(some 41), .call 49 [(.tmp 36), (.tmp 40)], (some (32, true))⟩,
    ⟨(some 42), .un .not (.tmp 41), (some (32, true))⟩,
    ⟨(some 43), .pick (.tmp 32) (.tmp 42) (.con (.bool false)), none⟩])
  (.cond (.tmp 43)
  .skip
  (.exit 2)))
  (.block 3 (.ops [⟨(some 44), .mov (.tmp 9), none⟩,
    ⟨(some 45), .bin .add (.tmp 44) (.con (.int .i64 1)), none⟩,
    ⟨(some 9), .mov (.tmp 45), none⟩])))
def c58l1 : ACode := (.seq (.seq (.ops [⟨(some 46), .mov (.tmp 9), none⟩,
    ⟨(some 47), .mov (.tmp 10), none⟩,
    ⟨(some 48), .bin .leq (.tmp 46) (.tmp 47), none⟩,
    ⟨(some 49), .mov (.tmp 48), none⟩,
    ⟨(some 50), .mov (.tmp 0), (some (49, true))⟩,
    ⟨(some 51), .mov (.tmp 1), (some (49, true))⟩,
    ⟨(some 52), .idxAddr 1 (.tmp 50) (.tmp 51), (some (49, true))⟩,
    ⟨(some 53), .load false 1 (.tmp 52), (some (49, true))⟩,
    ⟨(some 54), .mov (.tmp 0), (some (49, true))⟩,
    ⟨(some 55), .mov (.tmp 10), (some (49, true))⟩,
    ⟨(some 56), .idxAddr 1 (.tmp 54) (.tmp 55), (some (49, true))⟩,
    ⟨(some 57), .load false 1 (.tmp 56), (some (49, true))⟩,
    ⟨(some 58), .call 49 [(.tmp 53), (.tmp 57)], (some (49, true))⟩,
    ⟨(some 59), .pick (.tmp 49) (.tmp 58) (.con (.bool false)), none⟩])
  (.cond (.tmp 59)
  .skip
  (.exit 4)))
  (.block 5 (.ops [⟨(some 60), .mov (.tmp 10), none⟩,
    ⟨(some 61), .bin .sub (.tmp 60) (.con (.int .i64 1)), none⟩,
    ⟨(some 10), .mov (.tmp 61), none⟩])))
def c58l2 : ACode := (.block 1 (.seq (.block 2 (.loop c58l0))
  (.seq (.block 4 (.loop c58l1))
  (.seq (.seq (.ops [⟨(some 62), .mov (.tmp 9), none⟩,
    ⟨(some 63), .mov (.tmp 10), none⟩,
    ⟨(some 64), .bin .gtr (.tmp 62) (.tmp 63), none⟩])
  (.cond (.tmp 64)
  (.exit 0)
  .skip))
  (.seq (.ops [⟨(some 65), .mov (.tmp 0), none⟩,
    ⟨(some 66), .mov (.tmp 9), none⟩,
    ⟨(some 67), .mov (.tmp 0), none⟩,
    ⟨(some 68), .mov (.tmp 10), none⟩,
    ⟨(some 69), .mov (.tmp 0), none⟩,
    ⟨(some 70), .mov (.tmp 10), none⟩,
    ⟨(some 71), .idxAddr 1 (.tmp 69) (.tmp 70), none⟩,
    ⟨(some 72), .load false 1 (.tmp 71), none⟩,
    ⟨(some 73), .mov (.tmp 0), none⟩,
    ⟨(some 74), .mov (.tmp 9), none⟩,
    ⟨(some 75), .idxAddr 1 (.tmp 73) (.tmp 74), none⟩,
    ⟨(some 76), .load false 1 (.tmp 75), none⟩,
    ⟨(some 77), .idxAddr 1 (.tmp 65) (.tmp 66), none⟩,
    ⟨none, .store 1 (.tmp 77) (.tmp 72), none⟩,
    ⟨(some 78), .idxAddr 1 (.tmp 67) (.tmp 68), none⟩,
    ⟨none, .store 1 (.tmp 78) (.tmp 76), none⟩])
  (.seq (.ops [⟨(some 79), .mov (.tmp 9), none⟩,
    ⟨(some 80), .bin .add (.tmp 79) (.con (.int .i64 1)), none⟩,
    ⟨(some 9), .mov (.tmp 80), none⟩])
  (.ops [⟨(some 81), .mov (.tmp 10), none⟩,
    ⟨(some 82), .bin .sub (.tmp 81) (.con (.int .i64 1)), none⟩,
    ⟨(some 10), .mov (.tmp 82), none⟩])))))))
def c58 : ACode := (.seq (.ops [⟨(some 8), .mov (.con (.int .i64 0)), none⟩])
  (.seq (.ops [⟨(some 11), .mov (.tmp 0), none⟩,
    ⟨(some 12), .mov (.tmp 1), none⟩,
    ⟨(some 13), .mov (.tmp 0), none⟩,
    ⟨(some 14), .mov (.tmp 3), none⟩,
    ⟨(some 15), .mov (.tmp 0), none⟩,
    ⟨(some 16), .mov (.tmp 3), none⟩,
    ⟨(some 17), .idxAddr 1 (.tmp 15) (.tmp 16), none⟩,
    ⟨(some 18), .load false 1 (.tmp 17), none⟩,
    ⟨(some 19), .mov (.tmp 0), none⟩,
    ⟨(some 20), .mov (.tmp 1), none⟩,
    ⟨(some 21), .idxAddr 1 (.tmp 19) (.tmp 20), none⟩,
    ⟨(some 22), .load false 1 (.tmp 21), none⟩,
    ⟨(some 23), .idxAddr 1 (.tmp 11) (.tmp 12), none⟩,
    ⟨none, .store 1 (.tmp 23) (.tmp 18), none⟩,
    ⟨(some 24), .idxAddr 1 (.tmp 13) (.tmp 14), none⟩,
    ⟨none, .store 1 (.tmp 24) (.tmp 22), none⟩])
  (.seq (.ops [⟨(some 25), .mov (.tmp 1), none⟩,
    ⟨(some 26), .bin .add (.tmp 25) (.con (.int .i64 1)), none⟩,
    ⟨(some 27), .mov (.tmp 2), none⟩,
    ⟨(some 28), .bin .sub (.tmp 27) (.con (.int .i64 1)), none⟩,
    ⟨(some 9), .mov (.tmp 26), none⟩,
    ⟨(some 10), .mov (.tmp 28), none⟩])
  (.seq (.block 0 (.loop c58l2))
  (.seq (.ops [⟨(some 83), .mov (.tmp 9), none⟩,
    ⟨(some 8), .mov (.tmp 83), none⟩])
  .ret)))))
def a58 : AFunc := ⟨4, c58, [.tmp 8]⟩

/- 59: slices.partitionOrdered[int] -/
def c59l0 : ACode := (.seq (.seq (.ops [⟨(some 30), .mov (.tmp 10), none⟩,
    ⟨(some 31), .mov (.tmp 11), none⟩,
    ⟨(some 32), .bin .leq (.tmp 30) (.tmp 31), none⟩,
    ⟨(some 33), .mov (.tmp 32), none⟩,
    ⟨(some 34), .mov (.tmp 0), (some (33, true))⟩,
    ⟨(some 35), .mov (.tmp 10), (some (33, true))⟩,
    ⟨(some 36), .idxAddr 1 (.tmp 34) (.tmp 35), (some (33, true))⟩,
    ⟨(some 37), .load false 1 (.tmp 36), (some (33, true))⟩,
    ⟨(some 38), .mov (.tmp 0), (some (33, true))⟩,
    ⟨(some 39), .mov (.tmp 1), (some (33, true))⟩,
    ⟨(some 40), .idxAddr 1 (.tmp 38) (.tmp 39), (some (33, true))⟩,
    ⟨(some 41), .load false 1 (.tmp 40), (some (33, true))⟩,
    ⟨(some 42), .call 49 [(.tmp 37), (.tmp 41)], (some (33, true))⟩,
    ⟨(some 43), .pick (.tmp 33) (.tmp 42) (.con (.bool false)), none⟩])
  (.cond (.tmp 43)
  .skip
  (.exit 0)))
  (.block 1 (.ops [⟨(some 44), .mov (.tmp 10), none⟩,
    ⟨(some 45), .bin .add (.tmp 44) (.con (.int .i64 1)), none⟩,
    ⟨(some 10), .mov (.tmp 45), none⟩])))
def c59l1 : ACode := (.seq (.seq (.ops [⟨(some 46), .mov (.tmp 10), none⟩,
    ⟨(some 47), .mov (.tmp 11), none⟩,
    ⟨(some 48), .bin .leq (.tmp 46) (.tmp 47), none⟩,
    ⟨(some 49), .mov (.tmp 48), none⟩,
    ⟨(some 50), .mov (.tmp 0), (some (49, true))⟩,
    ⟨(some 51), .mov (.tmp 11), (some (49, true))⟩,
    ⟨(some 52), .idxAddr 1 (.tmp 50) (.tmp 51), (some (49, true))⟩,
    ⟨(some 53), .load false 1 (.tmp 52), (some (49, true))⟩,
    ⟨(some 54), .mov (.tmp 0), (some (49, true))⟩,
    ⟨(some 55), .mov (.tmp 1), (some (49, true))⟩,
    ⟨(some 56), .idxAddr 1 (.tmp 54) (.tmp 55), (some (49, true))⟩,
    ⟨(some 57), .load false 1 (.tmp 56), (some (49, true))⟩,
    ⟨(some 58), .call 49 [(.tmp 53), (.tmp 57)], (some (49, true))⟩,
    ⟨(some 59), .un .not (.tmp 58), (some (49, true))⟩,
    ⟨(some 60), .pick (.tmp 49) (.tmp 59) (.con (.bool false)), none⟩])
  (.cond (.tmp 60)
  .skip
  (.exit 2)))
  (.block 3 (.ops [⟨(some 61), .mov (.tmp 11), none⟩,
    ⟨(some 62), .bin .sub (.tmp 61) (.con (.int .i64 1)), none⟩,
    ⟨(some 11), .mov (.tmp 62), none⟩])))
def c59l2 : ACode := (.seq (.seq (.ops [⟨(some 99), .mov (.tmp 10), none⟩,
    ⟨(some 100), .mov (.tmp 11), none⟩,
    ⟨(some 101), .bin .leq (.tmp 99) (.tmp 100), none⟩,
    ⟨(some 102), .mov (.tmp 101), none⟩,
    ⟨(some 103), .mov (.tmp 0), (some (102, true))⟩,
    ⟨(some 104), .mov (.tmp 10), (some (102, true))⟩,
    ⟨(some 105), .idxAddr 1 (.tmp 103) (.tmp 104), (some (102, true))⟩,
    ⟨(some 106), .load false 1 (.tmp 105), (some (102, true))⟩,
    ⟨(some 107), .mov (.tmp 0), (some (102, true))⟩,
    ⟨(some 108), .mov (.tmp 1), (some (102, true))⟩,
    ⟨(some 109), .idxAddr 1 (.tmp 107) (.tmp 108), (some (102, true))⟩,
    ⟨(some 110), .load false 1 (.tmp 109), (some (102, true))⟩,
    ⟨(some 111), .call 49 [(.tmp 106), (.tmp 110)], (some (102, true))⟩,
    ⟨(some 112), .pick (.tmp 102) (.tmp 111) (.con (.bool false)), none⟩])
  (.cond (.tmp 112)
  .skip
  (.exit 6)))
  (.block 7 (.ops [⟨(some 113), .mov (.tmp 10), none⟩,
    ⟨(some 114), .bin .add (.tmp 113) (.con (.int .i64 1)), none⟩,
    ⟨(some 10), .mov (.tmp 114), none⟩])))
def c59l3 : ACode := (.seq (.seq (.ops [⟨(some 115), .mov (.tmp 10), none⟩,
    ⟨(some 116), .mov (.tmp 11), none⟩,
    ⟨(some 117), .bin .leq (.tmp 115) (.tmp 116), none⟩,
    ⟨(some 118), .mov (.tmp 117), none⟩,
    ⟨(some 119), .mov (.tmp 0), (some (118, true))⟩,
    ⟨(some 120), .mov (.tmp 11), (some (118, true))⟩,
    ⟨(some 121), .idxAddr 1 (.tmp 119) (.tmp 120), (some (118, true))⟩,
    ⟨(some 122), .load false 1 (.tmp 121), (some (118, true))⟩,
    ⟨(some 123), .mov (.tmp 0), (some (118, true))⟩,
    ⟨(some 124), .mov (.tmp 1), (some (118, true))⟩,
    ⟨(some 125), .idxAddr 1 (.tmp 123) (.tmp 124), (some (118, true))⟩,
    ⟨(some 126), .load false 1 (.tmp 125), (some (118, true))⟩,
    ⟨(some 127), .call 49 [(.tmp 122), (.tmp 126)], (some (118, true))⟩,
    ⟨(some 128), .un .not (.tmp 127), (some (118, true))⟩,
    ⟨(some 129), .pick (.tmp 118) (.tmp 128) (.con (.bool false)), none⟩])
  (.cond (.tmp 129)
  .skip
  (.exit 8)))
  (.block 9 (.ops [⟨(some 130), .mov (.tmp 11), none⟩,
    ⟨(some 131), .bin .sub (.tmp 130) (.con (.int .i64 1)), none⟩,
    ⟨(some 11), .mov (.tmp 131), none⟩])))
def c59l4 : ACode := (.block 5 (.seq (.block 6 (.loop c59l2))
  (.seq (.block 8 (.loop c59l3))
  (.seq (.seq (.ops [⟨(some 132), .mov (.tmp 10), none⟩,
    ⟨(some 133), .mov (.tmp 11), none⟩,
    ⟨(some 134), .bin .gtr (.tmp 132) (.tmp 133), none⟩])
  (.cond (.tmp 134)
  (.exit 4)
  .skip))
  (.seq (.ops [⟨(some 135), .mov (.tmp 0), none⟩,
    ⟨(some 136), .mov (.tmp 10), none⟩,
    ⟨(some 137), .mov (.tmp 0), none⟩,
    ⟨(some 138), .mov (.tmp 11), none⟩,
    ⟨(some 139), .mov (.tmp 0), none⟩,
    ⟨(some 140), .mov (.tmp 11), none⟩,
    ⟨(some 141), .idxAddr 1 (.tmp 139) (.tmp 140), none⟩,
    ⟨(some 142), .load false 1 (.tmp 141), none⟩,
    ⟨(some 143), .mov (.tmp 0), none⟩,
    ⟨(some 144), .mov (.tmp 10), none⟩,
    ⟨(some 145), .idxAddr 1 (.tmp 143) (.tmp 144), none⟩,
    ⟨(some 146), .load false 1 (.tmp 145), none⟩,
    ⟨(some 147), .idxAddr 1 (.tmp 135) (.tmp 136), none⟩,
    ⟨none, .store 1 (.tmp 147) (.tmp 142), none⟩,
    ⟨(some 148), .idxAddr 1 (.tmp 137) (.tmp 138), none⟩,
    ⟨none, .store 1 (.tmp 148) (.tmp 146), none⟩])
  (.seq (.ops [⟨(some 149), .mov (.tmp 10), none⟩,
    ⟨(some 150), .bin .add (.tmp 149) (.con (.int .i64 1)), none⟩,
    ⟨(some 10), .mov (.tmp 150), none⟩])
  (.ops [⟨(some 151), .mov (.tmp 11), none⟩,
    ⟨(some 152), .bin .sub (.tmp 151) (.con (.int .i64 1)), none⟩,
    ⟨(some 11), .mov (.tmp 152), none⟩])))))))
def c59 : ACode := (.seq (.ops [⟨(some 8), .mov (.con (.int .i64 0)), none⟩,
    ⟨(some 9), .mov (.con (.bool false)), none⟩])
  (.seq (.ops [⟨(some 12), .mov (.tmp 0), none⟩,
    ⟨(some 13), .mov (.tmp 1), none⟩,
    ⟨(some 14), .mov (.tmp 0), none⟩,
    ⟨(some 15), .mov (.tmp 3), none⟩,
    ⟨(some 16), .mov (.tmp 0), none⟩,
    ⟨(some 17), .mov (.tmp 3), none⟩,
    ⟨(some 18), .idxAddr 1 (.tmp 16) (.tmp 17), none⟩,
    ⟨(some 19), .load false 1 (.tmp 18), none⟩,
    ⟨(some 20), .mov (.tmp 0), none⟩,
    ⟨(some 21), .mov (.tmp 1), none⟩,
    ⟨(some 22), .idxAddr 1 (.tmp 20) (.tmp 21), none⟩,
    ⟨(some 23), .load false 1 (.tmp 22), none⟩,
    ⟨(some 24), .idxAddr 1 (.tmp 12) (.tmp 13), none⟩,
    ⟨none, .store 1 (.tmp 24) (.tmp 19), none⟩,
    ⟨(some 25), .idxAddr 1 (.tmp 14) (.tmp 15), none⟩,
    ⟨none, .store 1 (.tmp 25) (.tmp 23), none⟩])
  (.seq (.ops [⟨(some 26), .mov (.tmp 1), none⟩,
    ⟨(some 27), .bin .add (.tmp 26) (.con (.int .i64 1)), none⟩,
    ⟨(some 28), .mov (.tmp 2), none⟩,
    ⟨(some 29), .bin .sub (.tmp 28) (.con (.int .i64 1)), none⟩,
    ⟨(some 10), .mov (.tmp 27), none⟩,
    ⟨(some 11), .mov (.tmp 29), none⟩])
  (.seq (.block 0 (.loop c59l0))
  (.seq (.block 2 (.loop c59l1))
  (.seq (.seq (.ops [⟨(some 63), .mov (.tmp 10), none⟩,
    ⟨(some 64), .mov (.tmp 11), none⟩,
    ⟨(some 65), .bin .gtr (.tmp 63) (.tmp 64), none⟩])
  (.cond (.tmp 65)
  (.seq (.ops [⟨(some 66), .mov (.tmp 0), none⟩,
    ⟨(some 67), .mov (.tmp 11), none⟩,
    ⟨(some 68), .mov (.tmp 0), none⟩,
    ⟨(some 69), .mov (.tmp 1), none⟩,
    ⟨(some 70), .mov (.tmp 0), none⟩,
    ⟨(some 71), .mov (.tmp 1), none⟩,
    ⟨(some 72), .idxAddr 1 (.tmp 70) (.tmp 71), none⟩,
    ⟨(some 73), .load false 1 (.tmp 72), none⟩,
    ⟨(some 74), .mov (.tmp 0), none⟩,
    ⟨(some 75), .mov (.tmp 11), none⟩,
    ⟨(some 76), .idxAddr 1 (.tmp 74) (.tmp 75), none⟩,
    ⟨(some 77), .load false 1 (.tmp 76), none⟩,
    ⟨(some 78), .idxAddr 1 (.tmp 66) (.tmp 67), none⟩,
    ⟨none, .store 1 (.tmp 78) (.tmp 73), none⟩,
    ⟨(some 79), .idxAddr 1 (.tmp 68) (.tmp 69), none⟩,
    ⟨none, .store 1 (.tmp 79) (.tmp 77), none⟩])
  (.seq (.ops [⟨(some 80), .mov (.tmp 11), none⟩,
    ⟨(some 8), .mov (.tmp 80), none⟩,
    ⟨(some 9), .mov (.con (.bool true)), none⟩])
  .ret))
  .skip))
  (.seq (.ops [⟨(some 81), .mov (.tmp 0), none⟩,
    ⟨(some 82), .mov (.tmp 10), none⟩,
    ⟨(some 83), .mov (.tmp 0), none⟩,
    ⟨(some 84), .mov (.tmp 11), none⟩,
    ⟨(some 85), .mov (.tmp 0), none⟩,
    ⟨(some 86), .mov (.tmp 11), none⟩,
    ⟨(some 87), .idxAddr 1 (.tmp 85) (.tmp 86), none⟩,
    ⟨(some 88), .load false 1 (.tmp 87), none⟩,
    ⟨(some 89), .mov (.tmp 0), none⟩,
    ⟨(some 90), .mov (.tmp 10), none⟩,
    ⟨(some 91), .idxAddr 1 (.tmp 89) (.tmp 90), none⟩,
    ⟨(some 92), .load false 1 (.tmp 91), none⟩,
    ⟨(some 93), .idxAddr 1 (.tmp 81) (.tmp 82), none⟩,
    ⟨none, .store 1 (.tmp 93) (.tmp 88), none⟩,
    ⟨(some 94), .idxAddr 1 (.tmp 83) (.tmp 84), none⟩,
    ⟨none, .store 1 (.tmp 94) (.tmp 92), none⟩])
  (.seq (.ops [⟨(some 95), .mov (.tmp 10), none⟩,
    ⟨(some 96), .bin .add (.tmp 95) (.con (.int .i64 1)), none⟩,
    ⟨(some 10), .mov (.tmp 96), none⟩])
  (.seq (.ops [⟨(some 97), .mov (.tmp 11), none⟩,
    ⟨(some 98), .bin .sub (.tmp 97) (.con (.int .i64 1)), none⟩,
    ⟨(some 11), .mov (.tmp 98), none⟩])
  (.seq (.block 4 (.loop c59l4))
  (.seq (.ops [⟨(some 153), .mov (.tmp 0), none⟩,
    ⟨(some 154), .mov (.tmp 11), none⟩,
    ⟨(some 155), .mov (.tmp 0), none⟩,
    ⟨(some 156), .mov (.tmp 1), none⟩,
    ⟨(some 157), .mov (.tmp 0), none⟩,
    ⟨(some 158), .mov (.tmp 1), none⟩,
    ⟨(some 159), .idxAddr 1 (.tmp 157) (.tmp 158), none⟩,
    ⟨(some 160), .load false 1 (.tmp 159), none⟩,
    ⟨(some 161), .mov (.tmp 0), none⟩,
    ⟨(some 162), .mov (.tmp 11), none⟩,
    ⟨(some 163), .idxAddr 1 (.tmp 161) (.tmp 162), none⟩,
    ⟨(some 164), .load false 1 (.tmp 163), none⟩,
    ⟨(some 165), .idxAddr 1 (.tmp 153) (.tmp 154), none⟩,
    ⟨none, .store 1 (.tmp 165) (.tmp 160), none⟩,
    ⟨(some 166), .idxAddr 1 (.tmp 155) (.tmp 156), none⟩,
    ⟨none, .store 1 (.tmp 166) (.tmp 164), none⟩])
  (.seq (.ops [⟨(some 167), .mov (.tmp 11), none⟩,
    ⟨(some 8), .mov (.tmp 167), none⟩,
    ⟨(some 9), .mov (.con (.bool false)), none⟩])
  .ret))))))))))))
def a59 : AFunc := ⟨4, c59, [.tmp 8, .tmp 9]⟩

/- 85: (tendril/merge.rows).Less -/
def c85 : ACode := (.seq (.ops [⟨(some 6), .mov (.con (.bool false)), none⟩])
  (.seq (.ops [⟨(some 7), .mov (.tmp 0), none⟩,
    ⟨(some 8), .mov (.tmp 1), none⟩,
    ⟨(some 9), .idxAddr 1 (.tmp 7) (.tmp 8), none⟩,
    ⟨(some 10), .load false 1 (.tmp 9), none⟩,
    ⟨(some 11), .idxAddr 1 (.tmp 10) (.con (.int .i64 0)), none⟩,
    ⟨(some 12), .load false 1 (.tmp 11), none⟩,
    ⟨(some 13), .mov (.tmp 0), none⟩,
    ⟨(some 14), .mov (.tmp 2), none⟩,
    ⟨(some 15), .idxAddr 1 (.tmp 13) (.tmp 14), none⟩,
    ⟨(some 16), .load false 1 (.tmp 15), none⟩,
    ⟨(some 17), .idxAddr 1 (.tmp 16) (.con (.int .i64 0)), none⟩,
    ⟨(some 18), .load false 1 (.tmp 17), none⟩,
    ⟨(some 19), .bin .lss (.tmp 12) (.tmp 18), none⟩,
    ⟨(some 6), .mov (.tmp 19), none⟩])
  .ret))
def a85 : AFunc := ⟨3, c85, [.tmp 6]⟩

/- 62: cmp.isNaN[int] -/
def c62 : ACode := (.seq (.ops [⟨(some 2), .mov (.con (.bool false)), none⟩])
  (.seq (.ops [⟨(some 3), .mov (.tmp 0), none⟩,
    ⟨(some 4), .mov (.tmp 0), none⟩,
    ⟨(some 5), .bin .neq (.tmp 3) (.tmp 4), none⟩,
    ⟨(some 2), .mov (.tmp 5), none⟩])
  .ret))
def a62 : AFunc := ⟨1, c62, [.tmp 2]⟩

/- 63: slices.siftDownOrdered[int] -/
def c63l0 : ACode := (.block 1 (.seq (.ops [⟨(some 11), .mov (.tmp 8), none⟩,
    ⟨(some 12), .bin .mul (.con (.int .i64 2)) (.tmp 11), none⟩,
    ⟨(some 13), .bin .add (.tmp 12) (.con (.int .i64 1)), none⟩,
    ⟨(some 9), .mov (.tmp 13), none⟩])
  (.seq (.seq (.ops [⟨(some 14), .mov (.tmp 9), none⟩,
    ⟨(some 15), .mov (.tmp 2), none⟩,
    ⟨(some 16), .bin .geq (.tmp 14) (.tmp 15), none⟩])
  (.cond (.tmp 16)
  (.exit 0)
  .skip))
  (.seq (.seq (.ops [⟨(some 17), .mov (.tmp 9), none⟩,
    ⟨(some 18), .bin .add (.tmp 17) (.con (.int .i64 1)), none⟩,
    ⟨(some 19), .mov (.tmp 2), none⟩,
    ⟨(some 20), .bin .lss (.tmp 18) (.tmp 19), none⟩,
    ⟨(some 21), .mov (.tmp 20), none⟩,
    ⟨(some 22), .mov (.tmp 0), (some (21, true))⟩,
    ⟨(some 23), .mov (.tmp 3), (some (21, true))⟩,
    ⟨(some 24), .mov (.tmp 9), (some (21, true))⟩,
    ⟨(some 25), .bin .add (.tmp 23) (.tmp 24), (some (21, true))⟩,
    ⟨(some 26), .idxAddr 1 (.tmp 22) (.tmp 25), (some (21, true))⟩,
    ⟨(some 27), .load false 1 (.tmp 26), (some (21, true))⟩,
    ⟨(some 28), .mov (.tmp 0), (some (21, true))⟩,
    ⟨(some 29), .mov (.tmp 3), (some (21, true))⟩,
    ⟨(some 30), .mov (.tmp 9), (some (21, true))⟩,
    ⟨(some 31), .bin .add (.tmp 29) (.tmp 30), (some (21, true))⟩,
    ⟨(some 32), .bin .add (.tmp 31) (.con (.int .i64 1)), (some (21, true))⟩,
    ⟨(some 33), .idxAddr 1 (.tmp 28) (.tmp 32), (some (21, true))⟩,
    ⟨(some 34), .load false 1 (.tmp 33), (some (21, true))⟩,
    ⟨(some 35), .call 49 [(.tmp 27), (.tmp 34)], (some (21, true))⟩,
    ⟨(some 36), .pick (.tmp 21) (.tmp 35) (.con (.bool false)), none⟩])
  (.cond (.tmp 36)
  (.ops [⟨(some 37), .mov (.tmp 9), none⟩,
    ⟨(some 38), .bin .add (.tmp 37) (.con (.int .i64 1)), none⟩,
    ⟨(some 9), .mov (.tmp 38), none⟩])
  .skip))
  (.seq (.seq (.ops [⟨(some 39), .mov (.tmp 0), none⟩,
    ⟨(some 40), .mov (.tmp 3), none⟩,
    ⟨(some 41), .mov (.tmp 8), none⟩,
    ⟨(some 42), .bin .add (.tmp 40) (.tmp 41), none⟩,
    ⟨(some 43), .idxAddr 1 (.tmp 39) (.tmp 42), none⟩,
    ⟨(some 44), .load false 1 (.tmp 43), none⟩,
    ⟨(some 45), .mov (.tmp 0), none⟩,
    ⟨(some 46), .mov (.tmp 3), none⟩,
    ⟨(some 47), .mov (.tmp 9), none⟩,
    ⟨(some 48), .bin .add (.tmp 46) (.tmp 47), none⟩,
    ⟨(some 49), .idxAddr 1 (.tmp 45) (.tmp 48), none⟩,
    ⟨(some 50), .load false 1 (.tmp 49), none⟩,
    ⟨(some 51), .call 49 [(.tmp 44), (.tmp 50)], none⟩,
    ⟨(some 52), .un .not (.tmp 51), none⟩])
  (.cond (.tmp 52)
  .ret
  .skip))
  (.seq (.ops [⟨(some 53), .mov (.tmp 0), none⟩,
    ⟨(some 54), .mov (.tmp 3), none⟩,
    ⟨(some 55), .mov (.tmp 8), none⟩,
    ⟨(some 56), .bin .add (.tmp 54) (.tmp 55), none⟩,
    ⟨(some 57), .mov (.tmp 0), none⟩,
    ⟨(some 58), .mov (.tmp 3), none⟩,
    ⟨(some 59), .mov (.tmp 9), none⟩,
    ⟨(some 60), .bin .add (.tmp 58) (.tmp 59), none⟩,
    ⟨(some 61), .mov (.tmp 0), none⟩,
    ⟨(some 62), .mov (.tmp 3), none⟩,
    ⟨(some 63), .mov (.tmp 9), none⟩,
    ⟨(some 64), .bin .add (.tmp 62) (.tmp 63), none⟩,
    ⟨(some 65), .idxAddr 1 (.tmp 61) (.tmp 64), none⟩,
    ⟨(some 66), .load false 1 (.tmp 65), none⟩,
    ⟨(some 67), .mov (.tmp 0), none⟩,
    ⟨(some 68), .mov (.tmp 3), none⟩,
    ⟨(some 69), .mov (.tmp 8), none⟩,
    ⟨(some 70), .bin .add (.tmp 68) (.tmp 69), none⟩,
    ⟨(some 71), .idxAddr 1 (.tmp 67) (.tmp 70), none⟩,
    ⟨(some 72), .load false 1 (.tmp 71), none⟩,
    ⟨(some 73), .idxAddr 1 (.tmp 53) (.tmp 56), none⟩,
    ⟨none, .store 1 (.tmp 73) (.tmp 66), none⟩,
    ⟨(some 74), .idxAddr 1 (.tmp 57) (.tmp 60), none⟩,
    ⟨none, .store 1 (.tmp 74) (.tmp 72), none⟩])
  (.ops [⟨(some 75), .mov (.tmp 9), none⟩,
    ⟨(some 8), .mov (.tmp 75), none⟩])))))))
def c63 : ACode := (.seq (.ops [⟨(some 10), .mov (.tmp 1), none⟩,
    ⟨(some 8), .mov (.tmp 10), none⟩])
  (.block 0 (.loop c63l0)))
def a63 : AFunc := ⟨4, c63, []⟩

/- 64: slices.nextPowerOfTwo -/
def c64 : ACode := (.seq (.ops [⟨(some 2), .mov (.con (.int .u64 0)), none⟩])
  (.seq (.ops [⟨(some 3), .mov (.tmp 0), none⟩,
    ⟨(some 4), .toInt .u64 (.tmp 3), none⟩,
    ⟨(some 5), .call 46 [(.tmp 4)], none⟩,
    ⟨(some 6), .bin .shl (.con (.int .u64 1)) (.tmp 5), none⟩,
    ⟨(some 2), .mov (.tmp 6), none⟩])
  .ret))
def a64 : AFunc := ⟨1, c64, [.tmp 2]⟩

/- 65: (*slices.xorshift).Next -/
def c65 : ACode := (.seq (.ops [⟨(some 2), .mov (.con (.int .u64 0)), none⟩])
  (.seq (.ops [⟨(some 3), .mov (.tmp 0), none⟩,
    ⟨(some 4), .nilChk (.tmp 3), none⟩,
    ⟨(some 5), .load false 1 (.tmp 4), none⟩,
    ⟨(some 6), .mov (.tmp 0), none⟩,
    ⟨(some 7), .nilChk (.tmp 6), none⟩,
    ⟨(some 8), .load false 1 (.tmp 7), none⟩,
    ⟨(some 9), .bin .shl (.tmp 8) (.con (.int .u64 13)), none⟩,
    ⟨(some 10), .bin .xor (.tmp 5) (.tmp 9), none⟩,
    ⟨(some 11), .nilChk (.tmp 3), none⟩,
    ⟨none, .store 1 (.tmp 11) (.tmp 10), none⟩])
  (.seq (.ops [⟨(some 12), .mov (.tmp 0), none⟩,
    ⟨(some 13), .nilChk (.tmp 12), none⟩,
    ⟨(some 14), .load false 1 (.tmp 13), none⟩,
    ⟨(some 15), .mov (.tmp 0), none⟩,
    ⟨(some 16), .nilChk (.tmp 15), none⟩,
    ⟨(some 17), .load false 1 (.tmp 16), none⟩,
    ⟨(some 18), .bin .shr (.tmp 17) (.con (.int .u64 7)), none⟩,
    ⟨(some 19), .bin .xor (.tmp 14) (.tmp 18), none⟩,
    ⟨(some 20), .nilChk (.tmp 12), none⟩,
    ⟨none, .store 1 (.tmp 20) (.tmp 19), none⟩])
  (.seq (.ops [⟨(some 21), .mov (.tmp 0), none⟩,
    ⟨(some 22), .nilChk (.tmp 21), none⟩,
    ⟨(some 23), .load false 1 (.tmp 22), none⟩,
    ⟨(some 24), .mov (.tmp 0), none⟩,
    ⟨(some 25), .nilChk (.tmp 24), none⟩,
    ⟨(some 26), .load false 1 (.tmp 25), none⟩,
    ⟨(some 27), .bin .shl (.tmp 26) (.con (.int .u64 17)), none⟩,
    ⟨(some 28), .bin .xor (.tmp 23) (.tmp 27), none⟩,
    ⟨(some 29), .nilChk (.tmp 21), none⟩,
    ⟨none, .store 1 (.tmp 29) (.tmp 28), none⟩])
  (.seq (.ops [⟨(some 30), .mov (.tmp 0), none⟩,
    ⟨(some 31), .nilChk (.tmp 30), none⟩,
    ⟨(some 32), .load false 1 (.tmp 31), none⟩,
    ⟨(some 2), .mov (.tmp 32), none⟩])
  .ret)))))
def a65 : AFunc := ⟨1, c65, [.tmp 2]⟩

/- 66: slices.medianAdjacentOrdered[int] -/
def c66 : ACode := (.seq (.ops [⟨(some 6), .mov (.con (.int .i64 0)), none⟩])
  (.seq (.ops [⟨(some 7), .mov (.tmp 0), none⟩,
    ⟨(some 8), .mov (.tmp 1), none⟩,
    ⟨(some 9), .bin .sub (.tmp 8) (.con (.int .i64 1)), none⟩,
    ⟨(some 10), .mov (.tmp 1), none⟩,
    ⟨(some 11), .mov (.tmp 1), none⟩,
    ⟨(some 12), .bin .add (.tmp 11) (.con (.int .i64 1)), none⟩,
    ⟨(some 13), .mov (.tmp 2), none⟩,
    ⟨(some 14), .call 67 [(.tmp 7), (.tmp 9), (.tmp 10), (.tmp 12), (.tmp 13)], none⟩,
    ⟨(some 6), .mov (.tmp 14), none⟩])
  .ret))
def a66 : AFunc := ⟨3, c66, [.tmp 6]⟩

/- 67: slices.medianOrdered[int] -/
def c67 : ACode := (.seq (.ops [⟨(some 10), .mov (.con (.int .i64 0)), none⟩])
  (.seq (.ops [⟨(some 12), .mov (.tmp 0), none⟩,
    ⟨(some 13), .mov (.tmp 1), none⟩,
    ⟨(some 14), .mov (.tmp 2), none⟩,
    ⟨(some 15), .mov (.tmp 4), none⟩,
    ⟨(some 16), .call 68 [(.tmp 12), (.tmp 13), (.tmp 14), (.tmp 15)], none⟩,
    ⟨(some 11), .mov (.tmp 16), none⟩,
    ⟨(some 17), .extract (.tmp 11) 0, none⟩,
    ⟨(some 18), .extract (.tmp 11) 1, none⟩,
    ⟨(some 1), .mov (.tmp 17), none⟩,
    ⟨(some 2), .mov (.tmp 18), none⟩])
  (.seq (.ops [⟨(some 20), .mov (.tmp 0), none⟩,
    ⟨(some 21), .mov (.tmp 2), none⟩,
    ⟨(some 22), .mov (.tmp 3), none⟩,
    ⟨(some 23), .mov (.tmp 4), none⟩,
    ⟨(some 24), .call 68 [(.tmp 20), (.tmp 21), (.tmp 22), (.tmp 23)], none⟩,
    ⟨(some 19), .mov (.tmp 24), none⟩,
    ⟨(some 25), .extract (.tmp 19) 0, none⟩,
    ⟨(some 26), .extract (.tmp 19) 1, none⟩,
    ⟨(some 2), .mov (.tmp 25), none⟩,
    ⟨(some 3), .mov (.tmp 26), none⟩])
  (.seq (.ops [⟨(some 28), .mov (.tmp 0), none⟩,
    ⟨(some 29), .mov (.tmp 1), none⟩,
    ⟨(some 30), .mov (.tmp 2), none⟩,
    ⟨(some 31), .mov (.tmp 4), none⟩,
    ⟨(some 32), .call 68 [(.tmp 28), (.tmp 29), (.tmp 30), (.tmp 31)], none⟩,
    ⟨(some 27), .mov (.tmp 32), none⟩,
    ⟨(some 33), .extract (.tmp 27) 0, none⟩,
    ⟨(some 34), .extract (.tmp 27) 1, none⟩,
    ⟨(some 1), .mov (.tmp 33), none⟩,
    ⟨(some 2), .mov (.tmp 34), none⟩])
  (.seq (.ops [⟨(some 35), .mov (.tmp 2), none⟩,
    ⟨(some 10), .mov (.tmp 35), none⟩])
  .ret)))))
def a67 : AFunc := ⟨5, c67, [.tmp 10]⟩

/- 68: slices.order2Ordered[int] -/
def c68 : ACode := (.seq (.ops [⟨(some 8), .mov (.con (.int .i64 0)), none⟩,
    ⟨(some 9), .mov (.con (.int .i64 0)), none⟩])
  (.seq (.seq (.ops [⟨(some 10), .mov (.tmp 0), none⟩,
    ⟨(some 11), .mov (.tmp 2), none⟩,
    ⟨(some 12), .idxAddr 1 (.tmp 10) (.tmp 11), none⟩,
    ⟨(some 13), .load false 1 (.tmp 12), none⟩,
    ⟨(some 14), .mov (.tmp 0), none⟩,
    ⟨(some 15), .mov (.tmp 1), none⟩,
    ⟨(some 16), .idxAddr 1 (.tmp 14) (.tmp 15), none⟩,
    ⟨(some 17), .load false 1 (.tmp 16), none⟩,
    ⟨(some 18), .call 49 [(.tmp 13), (.tmp 17)], none⟩])
  (.cond (.tmp 18)
  (.seq (.ops [⟨(some 19), .mov (.tmp 3), none⟩,
    ⟨(some 20), .nilChk (.tmp 19), none⟩,
    ⟨(some 21), .load false 1 (.tmp 20), none⟩,
    ⟨(some 22), .bin .add (.tmp 21) (.con (.int .i64 1)), none⟩,
    ⟨(some 23), .nilChk (.tmp 19), none⟩,
    ⟨none, .store 1 (.tmp 23) (.tmp 22), none⟩])
  (.seq (.ops [⟨(some 24), .mov (.tmp 2), none⟩,
    ⟨(some 25), .mov (.tmp 1), none⟩,
    ⟨(some 8), .mov (.tmp 24), none⟩,
    ⟨(some 9), .mov (.tmp 25), none⟩])
  .ret))
  .skip))
  (.seq (.ops [⟨(some 26), .mov (.tmp 1), none⟩,
    ⟨(some 27), .mov (.tmp 2), none⟩,
    ⟨(some 8), .mov (.tmp 26), none⟩,
    ⟨(some 9), .mov (.tmp 27), none⟩])
  .ret)))
def a68 : AFunc := ⟨4, c68, [.tmp 8, .tmp 9]⟩

/- rows -/
def table : Nat → Option AFunc
  | 3 => some a3
  | 4 => some a4
  | 5 => some a5
  | 7 => some a7
  | 8 => some a8
  | 9 => some a9
  | 10 => some a10
  | 11 => some a11
  | 12 => some a12
  | 13 => some a13
  | 14 => some a14
  | 17 => some a17
  | 20 => some a20
  | 21 => some a21
  | 18 => some a18
  | 19 => some a19
  | 22 => some a22
  | 23 => some a23
  | 24 => some a24
  | 25 => some a25
  | 26 => some a26
  | 27 => some a27
  | 28 => some a28
  | 29 => some a29
  | 30 => some a30
  | 31 => some a31
  | 32 => some a32
  | 33 => some a33
  | 34 => some a34
  | 35 => some a35
  | 36 => some a36
  | 37 => some a37
  | 38 => some a38
  | 39 => some a39
  | 40 => some a40
  | 41 => some a41
  | 42 => some a42
  | 43 => some a43
  | 44 => some a44
  | 46 => some a46
  | 45 => some a45
  | 87 => some a87
  | 47 => some a47
  | 88 => some a88
  | 48 => some a48
  | 86 => some a86
  | 49 => some a49
  | 50 => some a50
  | 51 => some a51
  | 60 => some a60
  | 61 => some a61
  | 52 => some a52
  | 53 => some a53
  | 54 => some a54
  | 55 => some a55
  | 56 => some a56
  | 57 => some a57
  | 58 => some a58
  | 59 => some a59
  | 85 => some a85
  | 62 => some a62
  | 63 => some a63
  | 64 => some a64
  | 65 => some a65
  | 66 => some a66
  | 67 => some a67
  | 68 => some a68
  | _ => none
theorem k3 : cFunc Try.prog Try.f3 = some a3 := by kernel_rfl
theorem k4 : cFunc Try.prog Try.f4 = some a4 := by kernel_rfl
theorem k5 : cFunc Try.prog Try.f5 = some a5 := by kernel_rfl
theorem k7 : cFunc Try.prog Try.f7 = some a7 := by kernel_rfl
theorem k8 : cFunc Try.prog Try.f8 = some a8 := by kernel_rfl
theorem k9 : cFunc Try.prog Try.f9 = some a9 := by kernel_rfl
theorem k10 : cFunc Try.prog Try.f10 = some a10 := by kernel_rfl
theorem k11 : cFunc Try.prog Try.f11 = some a11 := by kernel_rfl
theorem k12 : cFunc Try.prog Try.f12 = some a12 := by kernel_rfl
theorem k13 : cFunc Try.prog Try.f13 = some a13 := by kernel_rfl
theorem k14 : cFunc Try.prog Try.f14 = some a14 := by kernel_rfl
theorem k17 : cFunc Try.prog Try.f17 = some a17 := by kernel_rfl
theorem k20 : cFunc Try.prog Try.f20 = some a20 := by kernel_rfl
theorem k21 : cFunc Try.prog Try.f21 = some a21 := by kernel_rfl
theorem k18 : cFunc Try.prog Try.f18 = some a18 := by kernel_rfl
theorem k19 : cFunc Try.prog Try.f19 = some a19 := by kernel_rfl
theorem k22 : cFunc Try.prog Try.f22 = some a22 := by kernel_rfl
theorem k23 : cFunc Try.prog Try.f23 = some a23 := by kernel_rfl
theorem k24 : cFunc Try.prog Try.f24 = some a24 := by kernel_rfl
theorem k25 : cFunc Try.prog Try.f25 = some a25 := by kernel_rfl
theorem k26 : cFunc Try.prog Try.f26 = some a26 := by kernel_rfl
theorem k27 : cFunc Try.prog Try.f27 = some a27 := by kernel_rfl
theorem k28 : cFunc Try.prog Try.f28 = some a28 := by kernel_rfl
theorem k29 : cFunc Try.prog Try.f29 = some a29 := by kernel_rfl
theorem k30 : cFunc Try.prog Try.f30 = some a30 := by kernel_rfl
theorem k31 : cFunc Try.prog Try.f31 = some a31 := by kernel_rfl
theorem k32 : cFunc Try.prog Try.f32 = some a32 := by kernel_rfl
theorem k33 : cFunc Try.prog Try.f33 = some a33 := by kernel_rfl
theorem k34 : cFunc Try.prog Try.f34 = some a34 := by kernel_rfl
theorem k35 : cFunc Try.prog Try.f35 = some a35 := by kernel_rfl
theorem k36 : cFunc Try.prog Try.f36 = some a36 := by kernel_rfl
theorem k37 : cFunc Try.prog Try.f37 = some a37 := by kernel_rfl
theorem k38 : cFunc Try.prog Try.f38 = some a38 := by kernel_rfl
theorem k39 : cFunc Try.prog Try.f39 = some a39 := by kernel_rfl
theorem k40 : cFunc Try.prog Try.f40 = some a40 := by kernel_rfl
theorem k41 : cFunc Try.prog Try.f41 = some a41 := by kernel_rfl
theorem k42 : cFunc Try.prog Try.f42 = some a42 := by kernel_rfl
theorem k43 : cFunc Try.prog Try.f43 = some a43 := by kernel_rfl
theorem k44 : cFunc Try.prog Try.f44 = some a44 := by kernel_rfl
theorem k46 : cFunc Try.prog Try.f46 = some a46 := by kernel_rfl
theorem k45 : cFunc Try.prog Try.f45 = some a45 := by kernel_rfl
theorem k87 : cFunc Try.prog Try.f87 = some a87 := by kernel_rfl
theorem k47 : cFunc Try.prog Try.f47 = some a47 := by kernel_rfl
theorem k88 : cFunc Try.prog Try.f88 = some a88 := by kernel_rfl
theorem k48 : cFunc Try.prog Try.f48 = some a48 := by kernel_rfl
theorem k86 : cFunc Try.prog Try.f86 = some a86 := by kernel_rfl
theorem k49 : cFunc Try.prog Try.f49 = some a49 := by kernel_rfl
theorem k50 : cFunc Try.prog Try.f50 = some a50 := by kernel_rfl
theorem k51 : cFunc Try.prog Try.f51 = some a51 := by kernel_rfl
theorem k60 : cFunc Try.prog Try.f60 = some a60 := by kernel_rfl
theorem k61 : cFunc Try.prog Try.f61 = some a61 := by kernel_rfl
theorem k52 : cFunc Try.prog Try.f52 = some a52 := by kernel_rfl
theorem k53 : cFunc Try.prog Try.f53 = some a53 := by kernel_rfl
theorem k54 : cFunc Try.prog Try.f54 = some a54 := by kernel_rfl
theorem k55 : cFunc Try.prog Try.f55 = some a55 := by kernel_rfl
theorem k56 : cFunc Try.prog Try.f56 = some a56 := by kernel_rfl
theorem k57 : cFunc Try.prog Try.f57 = some a57 := by kernel_rfl
theorem k58 : cFunc Try.prog Try.f58 = some a58 := by kernel_rfl
theorem k59 : cFunc Try.prog Try.f59 = some a59 := by kernel_rfl
theorem k85 : cFunc Try.prog Try.f85 = some a85 := by kernel_rfl
theorem k62 : cFunc Try.prog Try.f62 = some a62 := by kernel_rfl
theorem k63 : cFunc Try.prog Try.f63 = some a63 := by kernel_rfl
theorem k64 : cFunc Try.prog Try.f64 = some a64 := by kernel_rfl
theorem k65 : cFunc Try.prog Try.f65 = some a65 := by kernel_rfl
theorem k66 : cFunc Try.prog Try.f66 = some a66 := by kernel_rfl
theorem k67 : cFunc Try.prog Try.f67 = some a67 := by kernel_rfl
theorem k68 : cFunc Try.prog Try.f68 = some a68 := by kernel_rfl
theorem table_ok : ∀ g af, table g = some af → ∃ fn, Try.prog.funcs[g]? = some fn ∧ cFunc Try.prog fn = some af := by
  intro g af h
  unfold table at h
  split at h
  · cases h; exact ⟨Try.f3, Try.func3, k3⟩
  · cases h; exact ⟨Try.f4, Try.func4, k4⟩
  · cases h; exact ⟨Try.f5, Try.func5, k5⟩
  · cases h; exact ⟨Try.f7, Try.func7, k7⟩
  · cases h; exact ⟨Try.f8, Try.func8, k8⟩
  · cases h; exact ⟨Try.f9, Try.func9, k9⟩
  · cases h; exact ⟨Try.f10, Try.func10, k10⟩
  · cases h; exact ⟨Try.f11, Try.func11, k11⟩
  · cases h; exact ⟨Try.f12, Try.func12, k12⟩
  · cases h; exact ⟨Try.f13, Try.func13, k13⟩
  · cases h; exact ⟨Try.f14, Try.func14, k14⟩
  · cases h; exact ⟨Try.f17, Try.func17, k17⟩
  · cases h; exact ⟨Try.f20, Try.func20, k20⟩
  · cases h; exact ⟨Try.f21, Try.func21, k21⟩
  · cases h; exact ⟨Try.f18, Try.func18, k18⟩
  · cases h; exact ⟨Try.f19, Try.func19, k19⟩
  · cases h; exact ⟨Try.f22, Try.func22, k22⟩
  · cases h; exact ⟨Try.f23, Try.func23, k23⟩
  · cases h; exact ⟨Try.f24, Try.func24, k24⟩
  · cases h; exact ⟨Try.f25, Try.func25, k25⟩
  · cases h; exact ⟨Try.f26, Try.func26, k26⟩
  · cases h; exact ⟨Try.f27, Try.func27, k27⟩
  · cases h; exact ⟨Try.f28, Try.func28, k28⟩
  · cases h; exact ⟨Try.f29, Try.func29, k29⟩
  · cases h; exact ⟨Try.f30, Try.func30, k30⟩
  · cases h; exact ⟨Try.f31, Try.func31, k31⟩
  · cases h; exact ⟨Try.f32, Try.func32, k32⟩
  · cases h; exact ⟨Try.f33, Try.func33, k33⟩
  · cases h; exact ⟨Try.f34, Try.func34, k34⟩
  · cases h; exact ⟨Try.f35, Try.func35, k35⟩
  · cases h; exact ⟨Try.f36, Try.func36, k36⟩
  · cases h; exact ⟨Try.f37, Try.func37, k37⟩
  · cases h; exact ⟨Try.f38, Try.func38, k38⟩
  · cases h; exact ⟨Try.f39, Try.func39, k39⟩
  · cases h; exact ⟨Try.f40, Try.func40, k40⟩
  · cases h; exact ⟨Try.f41, Try.func41, k41⟩
  · cases h; exact ⟨Try.f42, Try.func42, k42⟩
  · cases h; exact ⟨Try.f43, Try.func43, k43⟩
  · cases h; exact ⟨Try.f44, Try.func44, k44⟩
  · cases h; exact ⟨Try.f46, Try.func46, k46⟩
  · cases h; exact ⟨Try.f45, Try.func45, k45⟩
  · cases h; exact ⟨Try.f87, Try.func87, k87⟩
  · cases h; exact ⟨Try.f47, Try.func47, k47⟩
  · cases h; exact ⟨Try.f88, Try.func88, k88⟩
  · cases h; exact ⟨Try.f48, Try.func48, k48⟩
  · cases h; exact ⟨Try.f86, Try.func86, k86⟩
  · cases h; exact ⟨Try.f49, Try.func49, k49⟩
  · cases h; exact ⟨Try.f50, Try.func50, k50⟩
  · cases h; exact ⟨Try.f51, Try.func51, k51⟩
  · cases h; exact ⟨Try.f60, Try.func60, k60⟩
  · cases h; exact ⟨Try.f61, Try.func61, k61⟩
  · cases h; exact ⟨Try.f52, Try.func52, k52⟩
  · cases h; exact ⟨Try.f53, Try.func53, k53⟩
  · cases h; exact ⟨Try.f54, Try.func54, k54⟩
  · cases h; exact ⟨Try.f55, Try.func55, k55⟩
  · cases h; exact ⟨Try.f56, Try.func56, k56⟩
  · cases h; exact ⟨Try.f57, Try.func57, k57⟩
  · cases h; exact ⟨Try.f58, Try.func58, k58⟩
  · cases h; exact ⟨Try.f59, Try.func59, k59⟩
  · cases h; exact ⟨Try.f85, Try.func85, k85⟩
  · cases h; exact ⟨Try.f62, Try.func62, k62⟩
  · cases h; exact ⟨Try.f63, Try.func63, k63⟩
  · cases h; exact ⟨Try.f64, Try.func64, k64⟩
  · cases h; exact ⟨Try.f65, Try.func65, k65⟩
  · cases h; exact ⟨Try.f66, Try.func66, k66⟩
  · cases h; exact ⟨Try.f67, Try.func67, k67⟩
  · cases h; exact ⟨Try.f68, Try.func68, k68⟩
  · cases h
end Go.Proofs.Ytjbkjffolnodjaa

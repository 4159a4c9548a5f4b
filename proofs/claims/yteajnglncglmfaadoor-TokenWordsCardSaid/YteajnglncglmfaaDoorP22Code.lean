/- The abstract code of the functions that the laws reach, as a program printed it; each is what the compiler makes of the given function. -/
import Derived.Test.YteajnglncglmfaaDoorVmZ
import Derived.Test.YteajnglncglmfaaDoorVmS
import Derived.Test.YteajnglncglmfaaDoorRows
namespace Go.Proofs.YteajnglncglmfaaDoor
open Go.Vm
/- 3: tendril/tendrillaw22.TokenRuns -/
def c3 : ACode := (.seq (.ops [⟨(some 0), .mov (.con (.bool false)), none⟩])
  (.seq (.ops [⟨(some 4), .call 9 [(.con (.str [84, 111, 32, 98, 101, 44, 32, 111, 114, 32, 110, 111, 116, 32, 84, 79, 32, 98, 101, 32, 50]))], none⟩,
    ⟨(some 3), .mov (.tmp 4), none⟩,
    ⟨(some 5), .extract (.tmp 3) 0, none⟩,
    ⟨(some 6), .extract (.tmp 3) 1, none⟩,
    ⟨(some 1), .mov (.tmp 5), none⟩,
    ⟨(some 2), .mov (.tmp 6), none⟩])
  (.seq (.ops [⟨(some 7), .mov (.tmp 2), none⟩,
    ⟨(some 8), .bin .eql (.tmp 7) (.con (.int .i64 0)), none⟩,
    ⟨(some 9), .mov (.tmp 8), none⟩,
    ⟨(some 10), .mov (.tmp 1), (some (9, true))⟩,
    ⟨(some 11), .buildSlice 1 5 [(.str []), (.str []), (.str []), (.str []), (.str [])] [(0, 1, (.con (.str [50]))), (1, 1, (.con (.str [98, 101]))), (2, 1, (.con (.str [110, 111, 116]))), (3, 1, (.con (.str [111, 114]))), (4, 1, (.con (.str [116, 111])))], (some (9, true))⟩,
    ⟨(some 12), .call 10 [(.tmp 10), (.tmp 11)], (some (9, true))⟩,
    ⟨(some 13), .pick (.tmp 9) (.tmp 12) (.con (.bool false)), none⟩,
    ⟨(some 0), .mov (.tmp 13), none⟩])
  .ret)))
def a3 : AFunc := ⟨0, c3, [.tmp 0]⟩

/- 4: tendril/tendrillaw22.TokenTells -/
def c4 : ACode := (.seq (.ops [⟨(some 4), .mov (.con (.bool false)), none⟩])
  (.seq (.seq (.ops [⟨(some 9), .mov (.tmp 0), none⟩,
    ⟨(some 10), .lenStr (.tmp 9), none⟩,
    ⟨(some 11), .bin .gtr (.tmp 10) (.con (.int .i64 600)), none⟩])
  (.cond (.tmp 11)
  (.ops [⟨(some 12), .mov (.tmp 0), none⟩,
    ⟨(some 13), .slcStr (.tmp 12) none (some (.con (.int .i64 600))), none⟩,
    ⟨(some 0), .mov (.tmp 13), none⟩])
  .skip))
  (.seq (.ops [⟨(some 15), .mov (.tmp 0), none⟩,
    ⟨(some 16), .call 9 [(.tmp 15)], none⟩,
    ⟨(some 14), .mov (.tmp 16), none⟩,
    ⟨(some 17), .extract (.tmp 14) 0, none⟩,
    ⟨(some 18), .extract (.tmp 14) 1, none⟩,
    ⟨(some 5), .mov (.tmp 17), none⟩,
    ⟨(some 6), .mov (.tmp 18), none⟩])
  (.seq (.ops [⟨(some 20), .mov (.tmp 0), none⟩,
    ⟨(some 21), .call 11 [(.tmp 20)], none⟩,
    ⟨(some 19), .mov (.tmp 21), none⟩,
    ⟨(some 22), .extract (.tmp 19) 0, none⟩,
    ⟨(some 23), .extract (.tmp 19) 1, none⟩,
    ⟨(some 7), .mov (.tmp 22), none⟩,
    ⟨(some 8), .mov (.tmp 23), none⟩])
  (.seq (.ops [⟨(some 24), .mov (.tmp 5), none⟩,
    ⟨(some 25), .mov (.tmp 7), none⟩,
    ⟨(some 26), .call 10 [(.tmp 24), (.tmp 25)], none⟩,
    ⟨(some 27), .mov (.tmp 26), none⟩,
    ⟨(some 28), .mov (.tmp 6), (some (27, true))⟩,
    ⟨(some 29), .mov (.tmp 8), (some (27, true))⟩,
    ⟨(some 30), .bin .eql (.tmp 28) (.tmp 29), (some (27, true))⟩,
    ⟨(some 31), .pick (.tmp 27) (.tmp 30) (.con (.bool false)), none⟩,
    ⟨(some 32), .mov (.tmp 31), none⟩,
    ⟨(some 33), .mov (.tmp 1), (some (32, true))⟩,
    ⟨(some 34), .call 12 [(.tmp 33)], (some (32, true))⟩,
    ⟨(some 35), .mov (.tmp 1), (some (32, true))⟩,
    ⟨(some 36), .call 13 [(.tmp 35)], (some (32, true))⟩,
    ⟨(some 37), .bin .eql (.tmp 34) (.tmp 36), (some (32, true))⟩,
    ⟨(some 38), .pick (.tmp 32) (.tmp 37) (.con (.bool false)), none⟩,
    ⟨(some 39), .mov (.tmp 38), none⟩,
    ⟨(some 40), .call 3 [], (some (39, true))⟩,
    ⟨(some 41), .pick (.tmp 39) (.tmp 40) (.con (.bool false)), none⟩,
    ⟨(some 4), .mov (.tmp 41), none⟩])
  .ret)))))
def a4 : AFunc := ⟨2, c4, [.tmp 4]⟩

/- 5: tendril/tendrillaw22.TokenWords -/
def c5l0 : ACode := (.seq (.seq (.ops [⟨(some 38), .mov (.tmp 11), none⟩,
    ⟨(some 39), .mov (.tmp 10), none⟩,
    ⟨(some 40), .bin .rem (.tmp 39) (.con (.int .i64 15)), none⟩,
    ⟨(some 41), .bin .add (.con (.int .i64 1)) (.tmp 40), none⟩,
    ⟨(some 42), .bin .lss (.tmp 38) (.tmp 41), none⟩])
  (.cond (.tmp 42)
  .skip
  (.exit 2)))
  (.seq (.block 3 (.ops [⟨(some 45), .mov (.tmp 9), none⟩,
    ⟨(some 46), .mov (.tmp 10), none⟩,
    ⟨(some 47), .mov (.tmp 11), none⟩,
    ⟨(some 48), .mov (.tmp 11), none⟩,
    ⟨(some 49), .bin .mul (.tmp 47) (.tmp 48), none⟩,
    ⟨(some 50), .bin .add (.tmp 46) (.tmp 49), none⟩,
    ⟨(some 51), .bin .rem (.tmp 50) (.con (.int .i64 26)), none⟩,
    ⟨(some 52), .bin .add (.con (.int .i64 97)) (.tmp 51), none⟩,
    ⟨(some 53), .toInt .u8 (.tmp 52), none⟩,
    ⟨(some 54), .buildSlice 1 1 [(.int .u8 0)] [(0, 1, (.tmp 53))], none⟩,
    ⟨(some 55), .toStr (.tmp 54), none⟩,
    ⟨(some 56), .bin .add (.tmp 45) (.tmp 55), none⟩,
    ⟨(some 9), .mov (.tmp 56), none⟩]))
  (.ops [⟨(some 43), .mov (.tmp 11), none⟩,
    ⟨(some 44), .bin .add (.tmp 43) (.con (.int .i64 1)), none⟩,
    ⟨(some 11), .mov (.tmp 44), none⟩])))
def c5l1 : ACode := (.seq (.seq (.ops [⟨(some 67), .mov (.tmp 12), none⟩,
    ⟨(some 68), .mov (.tmp 7), none⟩,
    ⟨(some 69), .lenSlice (.tmp 68), none⟩,
    ⟨(some 70), .bin .lss (.tmp 67) (.tmp 69), none⟩,
    ⟨(some 71), .mov (.tmp 70), none⟩,
    ⟨(some 72), .mov (.tmp 7), (some (71, true))⟩,
    ⟨(some 73), .mov (.tmp 12), (some (71, true))⟩,
    ⟨(some 74), .idxAddr 1 (.tmp 72) (.tmp 73), (some (71, true))⟩,
    ⟨(some 75), .load false 1 (.tmp 74), (some (71, true))⟩,
    ⟨(some 76), .mov (.tmp 9), (some (71, true))⟩,
    ⟨(some 77), .bin .lss (.tmp 75) (.tmp 76), (some (71, true))⟩,
    ⟨(some 78), .pick (.tmp 71) (.tmp 77) (.con (.bool false)), none⟩])
  (.cond (.tmp 78)
  .skip
  (.exit 4)))
  (.block 5 (.ops [⟨(some 79), .mov (.tmp 12), none⟩,
    ⟨(some 80), .bin .add (.tmp 79) (.con (.int .i64 1)), none⟩,
    ⟨(some 12), .mov (.tmp 80), none⟩])))
def c5l2 : ACode := (.seq (.seq (.ops [⟨(some 23), .mov (.tmp 8), none⟩,
    ⟨(some 24), .mov (.tmp 0), none⟩,
    ⟨(some 25), .lenSlice (.tmp 24), none⟩,
    ⟨(some 26), .bin .lss (.tmp 23) (.tmp 25), none⟩,
    ⟨(some 27), .mov (.tmp 26), none⟩,
    ⟨(some 28), .mov (.tmp 8), (some (27, true))⟩,
    ⟨(some 29), .bin .lss (.tmp 28) (.con (.int .i64 15)), (some (27, true))⟩,
    ⟨(some 30), .pick (.tmp 27) (.tmp 29) (.con (.bool false)), none⟩])
  (.cond (.tmp 30)
  .skip
  (.exit 0)))
  (.seq (.block 1 (.seq (.ops [⟨(some 9), .mov (.con (.str [])), none⟩])
  (.seq (.ops [⟨(some 33), .mov (.tmp 0), none⟩,
    ⟨(some 34), .mov (.tmp 8), none⟩,
    ⟨(some 35), .idxAddr 1 (.tmp 33) (.tmp 34), none⟩,
    ⟨(some 36), .load false 1 (.tmp 35), none⟩,
    ⟨(some 37), .call 14 [(.tmp 36), (.con (.int .i64 0)), (.con (.int .i64 1073741824))], none⟩,
    ⟨(some 10), .mov (.tmp 37), none⟩])
  (.seq (.seq (.ops [⟨(some 11), .mov (.con (.int .i64 0)), none⟩])
  (.block 2 (.loop c5l0)))
  (.seq (.ops [⟨(some 57), .mov (.tmp 6), none⟩,
    ⟨(some 58), .mov (.tmp 9), none⟩,
    ⟨(some 59), .bin .add (.tmp 57) (.tmp 58), none⟩,
    ⟨(some 60), .mov (.tmp 5), none⟩,
    ⟨(some 61), .bin .add (.tmp 59) (.tmp 60), none⟩,
    ⟨(some 6), .mov (.tmp 61), none⟩])
  (.seq (.ops [⟨(some 62), .mov (.tmp 9), none⟩,
    ⟨(some 63), .mov (.tmp 9), none⟩,
    ⟨(some 64), .lenStr (.tmp 63), none⟩,
    ⟨(some 65), .mnx false [(.tmp 64), (.con (.int .i64 12))], none⟩,
    ⟨(some 66), .slcStr (.tmp 62) none (some (.tmp 65)), none⟩,
    ⟨(some 9), .mov (.tmp 66), none⟩])
  (.seq (.ops [⟨(some 12), .mov (.con (.int .i64 0)), none⟩])
  (.seq (.block 4 (.loop c5l1))
  (.seq (.ops [⟨(some 81), .mov (.tmp 12), none⟩,
    ⟨(some 82), .mov (.tmp 7), none⟩,
    ⟨(some 83), .lenSlice (.tmp 82), none⟩,
    ⟨(some 84), .bin .eql (.tmp 81) (.tmp 83), none⟩,
    ⟨(some 85), .mov (.tmp 84), none⟩,
    ⟨(some 86), .mov (.tmp 7), (some (85, false))⟩,
    ⟨(some 87), .mov (.tmp 12), (some (85, false))⟩,
    ⟨(some 88), .idxAddr 1 (.tmp 86) (.tmp 87), (some (85, false))⟩,
    ⟨(some 89), .load false 1 (.tmp 88), (some (85, false))⟩,
    ⟨(some 90), .mov (.tmp 9), (some (85, false))⟩,
    ⟨(some 91), .bin .neq (.tmp 89) (.tmp 90), (some (85, false))⟩,
    ⟨(some 92), .pick (.tmp 85) (.con (.bool true)) (.tmp 91), none⟩])
  (.cond (.tmp 92)
  (.draw [.op ⟨(some 93), .buildSlice 1 0 [] [], none⟩,
    .op ⟨(some 94), .mov (.tmp 7), none⟩,
    .op ⟨(some 95), .mov (.tmp 12), none⟩,
    .op ⟨(some 96), .slc 1 (.tmp 94) none (some (.tmp 95)) none, none⟩,
    .op ⟨(some 98), .mov (.tmp 9), none⟩,
    .op ⟨(some 99), .buildSlice 1 1 [(.str [])] [(0, 1, (.tmp 98))], none⟩,
    .op ⟨(some 101), .mov (.tmp 7), none⟩,
    .op ⟨(some 102), .mov (.tmp 12), none⟩,
    .op ⟨(some 103), .slc 1 (.tmp 101) (some (.tmp 102)) none none, none⟩,
    .look ⟨(some 93), .buildSlice 1 0 [] [], none⟩,
    .look ⟨(some 99), .buildSlice 1 1 [(.str [])] [(0, 1, (.tmp 98))], none⟩,
    .op ⟨(some 97), .append 1 16 (.tmp 93) (.tmp 96), none⟩,
    .look ⟨(some 99), .buildSlice 1 1 [(.str [])] [(0, 1, (.tmp 98))], none⟩,
    .op ⟨(some 100), .append 1 16 (.tmp 97) (.tmp 99), none⟩,
    .op ⟨(some 104), .append 1 16 (.tmp 100) (.tmp 103), none⟩,
    .op ⟨(some 7), .mov (.tmp 104), none⟩])
  .skip))))))))))
  (.ops [⟨(some 31), .mov (.tmp 8), none⟩,
    ⟨(some 32), .bin .add (.tmp 31) (.con (.int .i64 1)), none⟩,
    ⟨(some 8), .mov (.tmp 32), none⟩])))
def c5 : ACode := (.seq (.ops [⟨(some 4), .mov (.con (.bool false)), none⟩])
  (.seq (.seq (.ops [⟨(some 15), .mov (.tmp 1), none⟩,
    ⟨(some 16), .call 12 [(.tmp 15)], none⟩,
    ⟨(some 17), .bin .neq (.tmp 16) (.con (.int .u8 0)), none⟩])
  (.cond (.tmp 17)
  (.seq (.ops [⟨(some 18), .call 3 [], none⟩,
    ⟨(some 4), .mov (.tmp 18), none⟩])
  .ret)
  .skip))
  (.seq (.ops [⟨(some 19), .mov (.tmp 1), none⟩,
    ⟨(some 20), .buildSlice 1 1 [(.int .u8 0)] [(0, 1, (.tmp 19))], none⟩,
    ⟨(some 21), .toStr (.tmp 20), none⟩,
    ⟨(some 5), .mov (.tmp 21), none⟩])
  (.seq (.ops [⟨(some 22), .mov (.tmp 5), none⟩,
    ⟨(some 6), .mov (.tmp 22), none⟩])
  (.seq (.ops [⟨(some 7), .mov (.con .nilSlice), none⟩])
  (.seq (.seq (.ops [⟨(some 8), .mov (.con (.int .i64 0)), none⟩])
  (.block 0 (.loop c5l2)))
  (.seq (.ops [⟨(some 106), .mov (.tmp 6), none⟩,
    ⟨(some 107), .call 9 [(.tmp 106)], none⟩,
    ⟨(some 105), .mov (.tmp 107), none⟩,
    ⟨(some 108), .extract (.tmp 105) 0, none⟩,
    ⟨(some 109), .extract (.tmp 105) 1, none⟩,
    ⟨(some 13), .mov (.tmp 108), none⟩,
    ⟨(some 14), .mov (.tmp 109), none⟩])
  (.seq (.ops [⟨(some 110), .mov (.tmp 14), none⟩,
    ⟨(some 111), .bin .eql (.tmp 110) (.con (.int .i64 0)), none⟩,
    ⟨(some 112), .mov (.tmp 111), none⟩,
    ⟨(some 113), .mov (.tmp 13), (some (112, true))⟩,
    ⟨(some 114), .mov (.tmp 7), (some (112, true))⟩,
    ⟨(some 115), .call 10 [(.tmp 113), (.tmp 114)], (some (112, true))⟩,
    ⟨(some 116), .pick (.tmp 112) (.tmp 115) (.con (.bool false)), none⟩,
    ⟨(some 117), .mov (.tmp 116), none⟩,
    ⟨(some 118), .call 3 [], (some (117, true))⟩,
    ⟨(some 119), .pick (.tmp 117) (.tmp 118) (.con (.bool false)), none⟩,
    ⟨(some 4), .mov (.tmp 119), none⟩])
  .ret))))))))
def a5 : AFunc := ⟨2, c5, [.tmp 4]⟩

/- 6: tendril/tendrillaw22.TokenLong -/
def c6l0 : ACode := (.seq (.seq (.ops [⟨(some 9), .mov (.tmp 0), none⟩,
    ⟨(some 10), .lenStr (.tmp 9), none⟩,
    ⟨(some 11), .bin .lss (.tmp 10) (.con (.int .i64 512)), none⟩])
  (.cond (.tmp 11)
  .skip
  (.exit 0)))
  (.block 1 (.ops [⟨(some 12), .mov (.tmp 0), none⟩,
    ⟨(some 13), .mov (.tmp 1), none⟩,
    ⟨(some 14), .buildSlice 1 1 [(.int .u8 0)] [(0, 1, (.tmp 13))], none⟩,
    ⟨(some 15), .toStr (.tmp 14), none⟩,
    ⟨(some 16), .bin .add (.tmp 12) (.tmp 15), none⟩,
    ⟨(some 0), .mov (.tmp 16), none⟩])))
def c6 : ACode := (.seq (.ops [⟨(some 4), .mov (.con (.bool false)), none⟩])
  (.seq (.block 0 (.loop c6l0))
  (.seq (.ops [⟨(some 17), .mov (.tmp 0), none⟩,
    ⟨(some 18), .slcStr (.tmp 17) none (some (.con (.int .i64 512))), none⟩,
    ⟨(some 0), .mov (.tmp 18), none⟩])
  (.seq (.ops [⟨(some 20), .mov (.tmp 0), none⟩,
    ⟨(some 21), .call 9 [(.tmp 20)], none⟩,
    ⟨(some 19), .mov (.tmp 21), none⟩,
    ⟨(some 22), .extract (.tmp 19) 0, none⟩,
    ⟨(some 23), .extract (.tmp 19) 1, none⟩,
    ⟨(some 5), .mov (.tmp 22), none⟩,
    ⟨(some 6), .mov (.tmp 23), none⟩])
  (.seq (.ops [⟨(some 25), .mov (.tmp 0), none⟩,
    ⟨(some 26), .mov (.tmp 1), none⟩,
    ⟨(some 27), .buildSlice 1 1 [(.int .u8 0)] [(0, 1, (.tmp 26))], none⟩,
    ⟨(some 28), .toStr (.tmp 27), none⟩,
    ⟨(some 29), .bin .add (.tmp 25) (.tmp 28), none⟩,
    ⟨(some 30), .call 9 [(.tmp 29)], none⟩,
    ⟨(some 24), .mov (.tmp 30), none⟩,
    ⟨(some 31), .extract (.tmp 24) 0, none⟩,
    ⟨(some 32), .extract (.tmp 24) 1, none⟩,
    ⟨(some 7), .mov (.tmp 31), none⟩,
    ⟨(some 8), .mov (.tmp 32), none⟩])
  (.seq (.ops [⟨(some 33), .mov (.tmp 6), none⟩,
    ⟨(some 34), .bin .eql (.tmp 33) (.con (.int .i64 0)), none⟩,
    ⟨(some 35), .mov (.tmp 34), none⟩,
    ⟨(some 36), .mov (.tmp 8), (some (35, true))⟩,
    ⟨(some 37), .bin .eql (.tmp 36) (.con (.int .i64 11)), (some (35, true))⟩,
    ⟨(some 38), .pick (.tmp 35) (.tmp 37) (.con (.bool false)), none⟩,
    ⟨(some 39), .mov (.tmp 38), none⟩,
    ⟨(some 40), .mov (.tmp 7), (some (39, true))⟩,
    ⟨(some 41), .lenSlice (.tmp 40), (some (39, true))⟩,
    ⟨(some 42), .bin .eql (.tmp 41) (.con (.int .i64 0)), (some (39, true))⟩,
    ⟨(some 43), .pick (.tmp 39) (.tmp 42) (.con (.bool false)), none⟩,
    ⟨(some 44), .mov (.tmp 43), none⟩,
    ⟨(some 45), .call 3 [], (some (44, true))⟩,
    ⟨(some 46), .pick (.tmp 44) (.tmp 45) (.con (.bool false)), none⟩,
    ⟨(some 4), .mov (.tmp 46), none⟩])
  .ret))))))
def a6 : AFunc := ⟨2, c6, [.tmp 4]⟩

/- 7: tendril/tendrillaw22.TokenTerms -/
def c7l0 : ACode := (.seq (.ops [⟨(some 26), .bin .lss (.tmp 25) (.tmp 24), none⟩])
  (.seq (.cond (.tmp 26)
  .skip
  (.exit 0))
  (.seq (.block 1 (.seq (.ops [⟨(some 27), .idxAddr 1 (.tmp 23) (.tmp 25), none⟩,
    ⟨(some 28), .load false 1 (.tmp 27), none⟩,
    ⟨(some 7), .mov (.tmp 28), none⟩])
  (.seq (.ops [⟨(some 30), .mov (.tmp 7), none⟩,
    ⟨(some 31), .call 9 [(.tmp 30)], none⟩,
    ⟨(some 29), .mov (.tmp 31), none⟩,
    ⟨(some 32), .extract (.tmp 29) 0, none⟩,
    ⟨(some 33), .extract (.tmp 29) 1, none⟩,
    ⟨(some 8), .mov (.tmp 32), none⟩,
    ⟨(some 9), .mov (.tmp 33), none⟩])
  (.seq (.seq (.ops [⟨(some 34), .mov (.tmp 9), none⟩,
    ⟨(some 35), .bin .neq (.tmp 34) (.con (.int .i64 0)), none⟩,
    ⟨(some 36), .mov (.tmp 35), none⟩,
    ⟨(some 37), .mov (.tmp 8), (some (36, false))⟩,
    ⟨(some 38), .lenSlice (.tmp 37), (some (36, false))⟩,
    ⟨(some 39), .bin .neq (.tmp 38) (.con (.int .i64 1)), (some (36, false))⟩,
    ⟨(some 40), .pick (.tmp 36) (.con (.bool true)) (.tmp 39), none⟩,
    ⟨(some 41), .mov (.tmp 40), none⟩,
    ⟨(some 42), .mov (.tmp 8), (some (41, false))⟩,
    ⟨(some 43), .idxAddr 1 (.tmp 42) (.con (.int .i64 0)), (some (41, false))⟩,
    ⟨(some 44), .load false 1 (.tmp 43), (some (41, false))⟩,
    ⟨(some 45), .mov (.tmp 7), (some (41, false))⟩,
    ⟨(some 46), .bin .neq (.tmp 44) (.tmp 45), (some (41, false))⟩,
    ⟨(some 47), .pick (.tmp 41) (.con (.bool true)) (.tmp 46), none⟩])
  (.cond (.tmp 47)
  (.seq (.ops [⟨(some 2), .mov (.con (.bool false)), none⟩])
  .ret)
  .skip))
  (.ops [⟨(some 48), .mov (.tmp 5), none⟩,
    ⟨(some 49), .mov (.tmp 7), none⟩,
    ⟨(some 50), .bin .add (.tmp 48) (.tmp 49), none⟩,
    ⟨(some 51), .bin .add (.tmp 50) (.con (.str [32])), none⟩,
    ⟨(some 5), .mov (.tmp 51), none⟩])))))
  (.ops [⟨(some 52), .bin .add (.tmp 25) (.con (.int .i64 1)), none⟩,
    ⟨(some 25), .mov (.tmp 52), none⟩]))))
def c7 : ACode := (.seq (.ops [⟨(some 2), .mov (.con (.bool false)), none⟩])
  (.seq (.ops [⟨(some 13), .mov (.tmp 0), none⟩,
    ⟨(some 14), .mov (.tmp 0), none⟩,
    ⟨(some 15), .lenStr (.tmp 14), none⟩,
    ⟨(some 16), .mnx false [(.tmp 15), (.con (.int .i64 200))], none⟩,
    ⟨(some 17), .slcStr (.tmp 13) none (some (.tmp 16)), none⟩,
    ⟨(some 18), .call 9 [(.tmp 17)], none⟩,
    ⟨(some 12), .mov (.tmp 18), none⟩,
    ⟨(some 19), .extract (.tmp 12) 0, none⟩,
    ⟨(some 20), .extract (.tmp 12) 1, none⟩,
    ⟨(some 3), .mov (.tmp 19), none⟩,
    ⟨(some 4), .mov (.tmp 20), none⟩])
  (.seq (.seq (.ops [⟨(some 21), .mov (.tmp 4), none⟩,
    ⟨(some 22), .bin .neq (.tmp 21) (.con (.int .i64 0)), none⟩])
  (.cond (.tmp 22)
  (.seq (.ops [⟨(some 2), .mov (.con (.bool false)), none⟩])
  .ret)
  .skip))
  (.seq (.ops [⟨(some 5), .mov (.con (.str [])), none⟩])
  (.seq (.seq (.ops [⟨(some 23), .mov (.tmp 3), none⟩,
    ⟨(some 24), .lenSlice (.tmp 23), none⟩,
    ⟨(some 25), .mov (.con (.int .i64 0)), none⟩])
  (.block 0 (.loop c7l0)))
  (.seq (.ops [⟨(some 54), .mov (.tmp 5), none⟩,
    ⟨(some 55), .call 9 [(.tmp 54)], none⟩,
    ⟨(some 53), .mov (.tmp 55), none⟩,
    ⟨(some 56), .extract (.tmp 53) 0, none⟩,
    ⟨(some 57), .extract (.tmp 53) 1, none⟩,
    ⟨(some 10), .mov (.tmp 56), none⟩,
    ⟨(some 11), .mov (.tmp 57), none⟩])
  (.seq (.ops [⟨(some 58), .mov (.tmp 11), none⟩,
    ⟨(some 59), .bin .eql (.tmp 58) (.con (.int .i64 0)), none⟩,
    ⟨(some 60), .mov (.tmp 59), none⟩,
    ⟨(some 61), .mov (.tmp 10), (some (60, true))⟩,
    ⟨(some 62), .mov (.tmp 3), (some (60, true))⟩,
    ⟨(some 63), .call 10 [(.tmp 61), (.tmp 62)], (some (60, true))⟩,
    ⟨(some 64), .pick (.tmp 60) (.tmp 63) (.con (.bool false)), none⟩,
    ⟨(some 65), .mov (.tmp 64), none⟩,
    ⟨(some 66), .call 3 [], (some (65, true))⟩,
    ⟨(some 67), .pick (.tmp 65) (.tmp 66) (.con (.bool false)), none⟩,
    ⟨(some 2), .mov (.tmp 67), none⟩])
  .ret)))))))
def a7 : AFunc := ⟨1, c7, [.tmp 2]⟩

/- 8: tendril/tendrillaw22.TokenJoins -/
def c8l0 : ACode := (.seq (.ops [⟨(some 73), .bin .lss (.tmp 72) (.tmp 71), none⟩])
  (.seq (.cond (.tmp 73)
  .skip
  (.exit 2))
  (.seq (.block 3 (.seq (.ops [⟨(some 74), .idxAddr 1 (.tmp 70) (.tmp 72), none⟩,
    ⟨(some 75), .load false 1 (.tmp 74), none⟩,
    ⟨(some 15), .mov (.tmp 75), none⟩])
  (.ops [⟨(some 76), .mov (.tmp 13), none⟩,
    ⟨(some 77), .mov (.tmp 76), none⟩,
    ⟨(some 78), .mov (.tmp 15), (some (77, false))⟩,
    ⟨(some 79), .mov (.tmp 12), (some (77, false))⟩,
    ⟨(some 80), .bin .eql (.tmp 78) (.tmp 79), (some (77, false))⟩,
    ⟨(some 81), .pick (.tmp 77) (.con (.bool true)) (.tmp 80), none⟩,
    ⟨(some 13), .mov (.tmp 81), none⟩])))
  (.ops [⟨(some 82), .bin .add (.tmp 72) (.con (.int .i64 1)), none⟩,
    ⟨(some 72), .mov (.tmp 82), none⟩]))))
def c8l1 : ACode := (.seq (.ops [⟨(some 86), .bin .lss (.tmp 85) (.tmp 84), none⟩])
  (.seq (.cond (.tmp 86)
  .skip
  (.exit 4))
  (.seq (.block 5 (.seq (.ops [⟨(some 87), .idxAddr 1 (.tmp 83) (.tmp 85), none⟩,
    ⟨(some 88), .load false 1 (.tmp 87), none⟩,
    ⟨(some 17), .mov (.tmp 88), none⟩])
  (.ops [⟨(some 89), .mov (.tmp 13), none⟩,
    ⟨(some 90), .mov (.tmp 89), none⟩,
    ⟨(some 91), .mov (.tmp 17), (some (90, false))⟩,
    ⟨(some 92), .mov (.tmp 12), (some (90, false))⟩,
    ⟨(some 93), .bin .eql (.tmp 91) (.tmp 92), (some (90, false))⟩,
    ⟨(some 94), .pick (.tmp 90) (.con (.bool true)) (.tmp 93), none⟩,
    ⟨(some 13), .mov (.tmp 94), none⟩])))
  (.ops [⟨(some 95), .bin .add (.tmp 85) (.con (.int .i64 1)), none⟩,
    ⟨(some 85), .mov (.tmp 95), none⟩]))))
def c8l2 : ACode := (.seq (.ops [⟨(some 66), .bin .lss (.tmp 65) (.tmp 64), none⟩])
  (.seq (.cond (.tmp 66)
  .skip
  (.exit 0))
  (.seq (.block 1 (.seq (.ops [⟨(some 67), .mov (.tmp 65), none⟩,
    ⟨(some 68), .idxAddr 1 (.tmp 63) (.tmp 65), none⟩,
    ⟨(some 69), .load false 1 (.tmp 68), none⟩,
    ⟨(some 11), .mov (.tmp 67), none⟩,
    ⟨(some 12), .mov (.tmp 69), none⟩])
  (.seq (.ops [⟨(some 13), .mov (.con (.bool false)), none⟩])
  (.seq (.seq (.ops [⟨(some 70), .mov (.tmp 5), none⟩,
    ⟨(some 71), .lenSlice (.tmp 70), none⟩,
    ⟨(some 72), .mov (.con (.int .i64 0)), none⟩])
  (.block 2 (.loop c8l0)))
  (.seq (.seq (.ops [⟨(some 83), .mov (.tmp 7), none⟩,
    ⟨(some 84), .lenSlice (.tmp 83), none⟩,
    ⟨(some 85), .mov (.con (.int .i64 0)), none⟩])
  (.block 4 (.loop c8l1)))
  (.seq (.ops [⟨(some 96), .mov (.tmp 13), none⟩,
    ⟨(some 97), .un .not (.tmp 96), none⟩,
    ⟨(some 98), .mov (.tmp 97), none⟩,
    ⟨(some 99), .mov (.tmp 12), (some (98, false))⟩,
    ⟨(some 100), .call 15 [(.tmp 99)], (some (98, false))⟩,
    ⟨(some 101), .un .not (.tmp 100), (some (98, false))⟩,
    ⟨(some 102), .pick (.tmp 98) (.con (.bool true)) (.tmp 101), none⟩,
    ⟨(some 103), .mov (.tmp 102), none⟩,
    ⟨(some 104), .mov (.tmp 11), (some (103, false))⟩,
    ⟨(some 105), .bin .gtr (.tmp 104) (.con (.int .i64 0)), (some (103, false))⟩,
    ⟨(some 106), .mov (.tmp 105), (some (103, false))⟩,
    ⟨(some 107), .mov (.tmp 12), (some (106, true))⟩,
    ⟨(some 108), .mov (.tmp 9), (some (106, true))⟩,
    ⟨(some 109), .mov (.tmp 11), (some (106, true))⟩,
    ⟨(some 110), .bin .sub (.tmp 109) (.con (.int .i64 1)), (some (106, true))⟩,
    ⟨(some 111), .idxAddr 1 (.tmp 108) (.tmp 110), (some (106, true))⟩,
    ⟨(some 112), .load false 1 (.tmp 111), (some (106, true))⟩,
    ⟨(some 113), .bin .leq (.tmp 107) (.tmp 112), (some (106, true))⟩,
    ⟨(some 114), .pick (.tmp 106) (.tmp 113) (.con (.bool false)), (some (103, false))⟩,
    ⟨(some 115), .pick (.tmp 103) (.con (.bool true)) (.tmp 114), none⟩])
  (.cond (.tmp 115)
  (.seq (.ops [⟨(some 4), .mov (.con (.bool false)), none⟩])
  .ret)
  .skip)))))))
  (.ops [⟨(some 116), .bin .add (.tmp 65) (.con (.int .i64 1)), none⟩,
    ⟨(some 65), .mov (.tmp 116), none⟩]))))
def c8l3 : ACode := (.seq (.ops [⟨(some 130), .bin .lss (.tmp 129) (.tmp 128), none⟩])
  (.seq (.cond (.tmp 130)
  .skip
  (.exit 8))
  (.seq (.block 9 (.seq (.ops [⟨(some 131), .idxAddr 1 (.tmp 127) (.tmp 129), none⟩,
    ⟨(some 132), .load false 1 (.tmp 131), none⟩,
    ⟨(some 22), .mov (.tmp 132), none⟩])
  (.ops [⟨(some 133), .mov (.tmp 20), none⟩,
    ⟨(some 134), .mov (.tmp 133), none⟩,
    ⟨(some 135), .mov (.tmp 19), (some (134, false))⟩,
    ⟨(some 136), .mov (.tmp 22), (some (134, false))⟩,
    ⟨(some 137), .bin .eql (.tmp 135) (.tmp 136), (some (134, false))⟩,
    ⟨(some 138), .pick (.tmp 134) (.con (.bool true)) (.tmp 137), none⟩,
    ⟨(some 20), .mov (.tmp 138), none⟩])))
  (.ops [⟨(some 139), .bin .add (.tmp 129) (.con (.int .i64 1)), none⟩,
    ⟨(some 129), .mov (.tmp 139), none⟩]))))
def c8l4 : ACode := (.seq (.ops [⟨(some 124), .bin .lss (.tmp 123) (.tmp 122), none⟩])
  (.seq (.cond (.tmp 124)
  .skip
  (.exit 6))
  (.seq (.block 7 (.seq (.ops [⟨(some 125), .idxAddr 1 (.tmp 121) (.tmp 123), none⟩,
    ⟨(some 126), .load false 1 (.tmp 125), none⟩,
    ⟨(some 19), .mov (.tmp 126), none⟩])
  (.seq (.ops [⟨(some 20), .mov (.con (.bool false)), none⟩])
  (.seq (.seq (.ops [⟨(some 127), .mov (.tmp 9), none⟩,
    ⟨(some 128), .lenSlice (.tmp 127), none⟩,
    ⟨(some 129), .mov (.con (.int .i64 0)), none⟩])
  (.block 8 (.loop c8l3)))
  (.seq (.ops [⟨(some 140), .mov (.tmp 20), none⟩,
    ⟨(some 141), .un .not (.tmp 140), none⟩])
  (.cond (.tmp 141)
  (.seq (.ops [⟨(some 4), .mov (.con (.bool false)), none⟩])
  .ret)
  .skip))))))
  (.ops [⟨(some 142), .bin .add (.tmp 123) (.con (.int .i64 1)), none⟩,
    ⟨(some 123), .mov (.tmp 142), none⟩]))))
def c8l5 : ACode := (.seq (.seq (.ops [⟨(some 143), .mov (.tmp 24), none⟩,
    ⟨(some 144), .mov (.tmp 0), none⟩,
    ⟨(some 145), .lenStr (.tmp 144), none⟩,
    ⟨(some 146), .bin .lss (.tmp 143) (.tmp 145), none⟩])
  (.cond (.tmp 146)
  .skip
  (.exit 10)))
  (.seq (.block 11 (.seq (.ops [⟨(some 149), .mov (.tmp 0), none⟩,
    ⟨(some 150), .mov (.tmp 24), none⟩,
    ⟨(some 151), .idxStr (.tmp 149) (.tmp 150), none⟩,
    ⟨(some 25), .mov (.tmp 151), none⟩])
  (.seq (.seq (.ops [⟨(some 152), .mov (.tmp 25), none⟩,
    ⟨(some 153), .bin .geq (.tmp 152) (.con (.int .u8 97)), none⟩,
    ⟨(some 154), .mov (.tmp 153), none⟩,
    ⟨(some 155), .mov (.tmp 25), (some (154, true))⟩,
    ⟨(some 156), .bin .leq (.tmp 155) (.con (.int .u8 122)), (some (154, true))⟩,
    ⟨(some 157), .pick (.tmp 154) (.tmp 156) (.con (.bool false)), none⟩])
  (.cond (.tmp 157)
  (.ops [⟨(some 158), .mov (.tmp 25), none⟩,
    ⟨(some 159), .bin .sub (.tmp 158) (.con (.int .u8 32)), none⟩,
    ⟨(some 25), .mov (.tmp 159), none⟩])
  .skip))
  (.ops [⟨(some 160), .mov (.tmp 23), none⟩,
    ⟨(some 161), .mov (.tmp 25), none⟩,
    ⟨(some 162), .buildSlice 1 1 [(.int .u8 0)] [(0, 1, (.tmp 161))], none⟩,
    ⟨(some 163), .append 1 1 (.tmp 160) (.tmp 162), none⟩,
    ⟨(some 23), .mov (.tmp 163), none⟩]))))
  (.ops [⟨(some 147), .mov (.tmp 24), none⟩,
    ⟨(some 148), .bin .add (.tmp 147) (.con (.int .i64 1)), none⟩,
    ⟨(some 24), .mov (.tmp 148), none⟩])))
def c8 : ACode := (.seq (.ops [⟨(some 4), .mov (.con (.bool false)), none⟩])
  (.seq (.seq (.ops [⟨(some 28), .mov (.tmp 0), none⟩,
    ⟨(some 29), .lenStr (.tmp 28), none⟩,
    ⟨(some 30), .mov (.tmp 1), none⟩,
    ⟨(some 31), .lenStr (.tmp 30), none⟩,
    ⟨(some 32), .bin .add (.tmp 29) (.tmp 31), none⟩,
    ⟨(some 33), .bin .geq (.tmp 32) (.con (.int .i64 512)), none⟩])
  (.cond (.tmp 33)
  (.seq (.ops [⟨(some 34), .call 3 [], none⟩,
    ⟨(some 4), .mov (.tmp 34), none⟩])
  .ret)
  .skip))
  (.seq (.ops [⟨(some 36), .mov (.tmp 0), none⟩,
    ⟨(some 37), .call 9 [(.tmp 36)], none⟩,
    ⟨(some 35), .mov (.tmp 37), none⟩,
    ⟨(some 38), .extract (.tmp 35) 0, none⟩,
    ⟨(some 39), .extract (.tmp 35) 1, none⟩,
    ⟨(some 5), .mov (.tmp 38), none⟩,
    ⟨(some 6), .mov (.tmp 39), none⟩])
  (.seq (.ops [⟨(some 41), .mov (.tmp 1), none⟩,
    ⟨(some 42), .call 9 [(.tmp 41)], none⟩,
    ⟨(some 40), .mov (.tmp 42), none⟩,
    ⟨(some 43), .extract (.tmp 40) 0, none⟩,
    ⟨(some 44), .extract (.tmp 40) 1, none⟩,
    ⟨(some 7), .mov (.tmp 43), none⟩,
    ⟨(some 8), .mov (.tmp 44), none⟩])
  (.seq (.ops [⟨(some 46), .mov (.tmp 0), none⟩,
    ⟨(some 47), .bin .add (.tmp 46) (.con (.str [32])), none⟩,
    ⟨(some 48), .mov (.tmp 1), none⟩,
    ⟨(some 49), .bin .add (.tmp 47) (.tmp 48), none⟩,
    ⟨(some 50), .call 9 [(.tmp 49)], none⟩,
    ⟨(some 45), .mov (.tmp 50), none⟩,
    ⟨(some 51), .extract (.tmp 45) 0, none⟩,
    ⟨(some 52), .extract (.tmp 45) 1, none⟩,
    ⟨(some 9), .mov (.tmp 51), none⟩,
    ⟨(some 10), .mov (.tmp 52), none⟩])
  (.seq (.seq (.ops [⟨(some 53), .mov (.tmp 6), none⟩,
    ⟨(some 54), .bin .neq (.tmp 53) (.con (.int .i64 0)), none⟩,
    ⟨(some 55), .mov (.tmp 54), none⟩,
    ⟨(some 56), .mov (.tmp 8), (some (55, false))⟩,
    ⟨(some 57), .bin .neq (.tmp 56) (.con (.int .i64 0)), (some (55, false))⟩,
    ⟨(some 58), .pick (.tmp 55) (.con (.bool true)) (.tmp 57), none⟩,
    ⟨(some 59), .mov (.tmp 58), none⟩,
    ⟨(some 60), .mov (.tmp 10), (some (59, false))⟩,
    ⟨(some 61), .bin .neq (.tmp 60) (.con (.int .i64 0)), (some (59, false))⟩,
    ⟨(some 62), .pick (.tmp 59) (.con (.bool true)) (.tmp 61), none⟩])
  (.cond (.tmp 62)
  (.seq (.ops [⟨(some 4), .mov (.con (.bool false)), none⟩])
  .ret)
  .skip))
  (.seq (.seq (.ops [⟨(some 63), .mov (.tmp 9), none⟩,
    ⟨(some 64), .lenSlice (.tmp 63), none⟩,
    ⟨(some 65), .mov (.con (.int .i64 0)), none⟩])
  (.block 0 (.loop c8l2)))
  (.seq (.seq (.ops [⟨(some 117), .buildSlice 1 0 [] [], none⟩,
    ⟨(some 118), .mov (.tmp 5), none⟩,
    ⟨(some 119), .append 1 16 (.tmp 117) (.tmp 118), none⟩,
    ⟨(some 120), .mov (.tmp 7), none⟩,
    ⟨(some 121), .append 1 16 (.tmp 119) (.tmp 120), none⟩,
    ⟨(some 122), .lenSlice (.tmp 121), none⟩,
    ⟨(some 123), .mov (.con (.int .i64 0)), none⟩])
  (.block 6 (.loop c8l4)))
  (.seq (.ops [⟨(some 23), .mov (.con .nilSlice), none⟩])
  (.seq (.seq (.ops [⟨(some 24), .mov (.con (.int .i64 0)), none⟩])
  (.block 10 (.loop c8l5)))
  (.seq (.ops [⟨(some 165), .mov (.tmp 23), none⟩,
    ⟨(some 166), .toStr (.tmp 165), none⟩,
    ⟨(some 167), .call 9 [(.tmp 166)], none⟩,
    ⟨(some 164), .mov (.tmp 167), none⟩,
    ⟨(some 168), .extract (.tmp 164) 0, none⟩,
    ⟨(some 169), .extract (.tmp 164) 1, none⟩,
    ⟨(some 26), .mov (.tmp 168), none⟩,
    ⟨(some 27), .mov (.tmp 169), none⟩])
  (.seq (.ops [⟨(some 170), .mov (.tmp 27), none⟩,
    ⟨(some 171), .bin .eql (.tmp 170) (.con (.int .i64 0)), none⟩,
    ⟨(some 172), .mov (.tmp 171), none⟩,
    ⟨(some 173), .mov (.tmp 26), (some (172, true))⟩,
    ⟨(some 174), .mov (.tmp 5), (some (172, true))⟩,
    ⟨(some 175), .call 10 [(.tmp 173), (.tmp 174)], (some (172, true))⟩,
    ⟨(some 176), .pick (.tmp 172) (.tmp 175) (.con (.bool false)), none⟩,
    ⟨(some 177), .mov (.tmp 176), none⟩,
    ⟨(some 178), .call 3 [], (some (177, true))⟩,
    ⟨(some 179), .pick (.tmp 177) (.tmp 178) (.con (.bool false)), none⟩,
    ⟨(some 4), .mov (.tmp 179), none⟩])
  .ret))))))))))))
def a8 : AFunc := ⟨2, c8, [.tmp 4]⟩

/- 9: tendril/token.Terms -/
def c9l0 : ACode := (.seq (.ops [⟨(some 17), .bin .lss (.tmp 16) (.tmp 15), none⟩])
  (.seq (.cond (.tmp 17)
  .skip
  (.exit 0))
  (.seq (.block 1 (.seq (.ops [⟨(some 18), .mov (.tmp 16), none⟩,
    ⟨(some 19), .idxAddr 1 (.tmp 14) (.tmp 16), none⟩,
    ⟨(some 20), .load false 1 (.tmp 19), none⟩,
    ⟨(some 5), .mov (.tmp 18), none⟩,
    ⟨(some 6), .mov (.tmp 20), none⟩])
  (.ops [⟨(some 21), .mov (.tmp 4), none⟩,
    ⟨(some 22), .mov (.tmp 5), none⟩,
    ⟨(some 23), .mov (.tmp 6), none⟩,
    ⟨(some 24), .call 12 [(.tmp 23)], none⟩,
    ⟨(some 25), .idxAddr 1 (.tmp 21) (.tmp 22), none⟩,
    ⟨none, .store 1 (.tmp 25) (.tmp 24), none⟩])))
  (.ops [⟨(some 26), .bin .add (.tmp 16) (.con (.int .i64 1)), none⟩,
    ⟨(some 16), .mov (.tmp 26), none⟩]))))
def r9 : RCode := (.seq (.base (.ops [⟨(some 2), .mov (.con .nilSlice), none⟩,
    ⟨(some 3), .mov (.con (.int .i64 0)), none⟩]))
  (.seq (.base (.seq (.ops [⟨(some 9), .mov (.tmp 0), none⟩,
    ⟨(some 10), .lenStr (.tmp 9), none⟩,
    ⟨(some 11), .bin .gtr (.tmp 10) (.con (.int .i64 512)), none⟩])
  (.cond (.tmp 11)
  (.seq (.ops [⟨(some 2), .mov (.con .nilSlice), none⟩,
    ⟨(some 3), .mov (.con (.int .i64 11)), none⟩])
  .ret)
  .skip)))
  (.seq (.base (.ops [⟨(some 12), .mov (.tmp 0), none⟩,
    ⟨(some 13), .toBytes (.tmp 12), none⟩,
    ⟨(some 4), .mov (.tmp 13), none⟩]))
  (.seq (.base (.seq (.ops [⟨(some 14), .mov (.tmp 4), none⟩,
    ⟨(some 15), .lenSlice (.tmp 14), none⟩,
    ⟨(some 16), .mov (.con (.int .i64 0)), none⟩])
  (.block 0 (.loop c9l0))))
  (.seq (.base (.ops [⟨(some 7), .new [.nilSlice], none⟩]))
  (.seq (.seq (.base (.ops [⟨(some 27), .mov (.tmp 4), none⟩,
    ⟨(some 28), .toStr (.tmp 27), none⟩,
    ⟨(some 29), .call 16 [(.tmp 28), (.con (.str [0]))], none⟩]))
  (.block 2 (.range (.tmp 29) [30]
  (.ops [⟨(some 8), .mov (.tmp 30), none⟩])
  (.block 3 (.seq (.ops [⟨(some 31), .mov (.tmp 8), none⟩,
    ⟨(some 32), .bin .neq (.tmp 31) (.con (.str [])), none⟩])
  (.cond (.tmp 32)
  (.draw [.op ⟨(some 33), .load false 1 (.tmp 7), none⟩,
    .op ⟨(some 34), .mov (.tmp 8), none⟩,
    .op ⟨(some 35), .mov (.tmp 8), none⟩,
    .op ⟨(some 36), .lenStr (.tmp 35), none⟩,
    .op ⟨(some 37), .mnx false [(.tmp 36), (.con (.int .i64 12))], none⟩,
    .op ⟨(some 38), .slcStr (.tmp 34) none (some (.tmp 37)), none⟩,
    .op ⟨(some 39), .buildSlice 1 1 [(.str [])] [(0, 1, (.tmp 38))], none⟩,
    .look ⟨(some 33), .load false 1 (.tmp 7), none⟩,
    .look ⟨(some 39), .buildSlice 1 1 [(.str [])] [(0, 1, (.tmp 38))], none⟩,
    .op ⟨(some 40), .append 1 16 (.tmp 33) (.tmp 39), none⟩,
    .op ⟨none, .store 1 (.tmp 7) (.tmp 40), none⟩])
  .skip))))))
  (.base (.seq (.ops [⟨(some 41), .load false 1 (.tmp 7), none⟩,
    ⟨(some 42), .call 17 [(.tmp 41)], none⟩])
  (.seq (.ops [⟨(some 43), .load false 1 (.tmp 7), none⟩,
    ⟨(some 44), .call 18 [(.tmp 43)], none⟩,
    ⟨(some 2), .mov (.tmp 44), none⟩,
    ⟨(some 3), .mov (.con (.int .i64 0)), none⟩])
  .ret)))))))))
def rf9 : RFunc := ⟨1, r9, [.tmp 2, .tmp 3]⟩
theorem kr9 : cRFunc Tryd.prog Tryd.f9 = some rf9 := by kernel_rfl

/- 10: tendril/tendrilbook.Same[string] -/
def c10l0 : ACode := (.seq (.seq (.ops [⟨(some 11), .mov (.tmp 5), none⟩,
    ⟨(some 12), .mov (.tmp 0), none⟩,
    ⟨(some 13), .lenSlice (.tmp 12), none⟩,
    ⟨(some 14), .bin .lss (.tmp 11) (.tmp 13), none⟩])
  (.cond (.tmp 14)
  .skip
  (.exit 0)))
  (.seq (.block 1 (.seq (.ops [⟨(some 17), .mov (.tmp 0), none⟩,
    ⟨(some 18), .mov (.tmp 5), none⟩,
    ⟨(some 19), .idxAddr 1 (.tmp 17) (.tmp 18), none⟩,
    ⟨(some 20), .load false 1 (.tmp 19), none⟩,
    ⟨(some 21), .mov (.tmp 1), none⟩,
    ⟨(some 22), .mov (.tmp 5), none⟩,
    ⟨(some 23), .idxAddr 1 (.tmp 21) (.tmp 22), none⟩,
    ⟨(some 24), .load false 1 (.tmp 23), none⟩,
    ⟨(some 25), .bin .neq (.tmp 20) (.tmp 24), none⟩])
  (.cond (.tmp 25)
  (.seq (.ops [⟨(some 4), .mov (.con (.bool false)), none⟩])
  .ret)
  .skip)))
  (.ops [⟨(some 15), .mov (.tmp 5), none⟩,
    ⟨(some 16), .bin .add (.tmp 15) (.con (.int .i64 1)), none⟩,
    ⟨(some 5), .mov (.tmp 16), none⟩])))
def c10 : ACode := (.seq (.ops [⟨(some 4), .mov (.con (.bool false)), none⟩])
  (.seq (.seq (.ops [⟨(some 6), .mov (.tmp 0), none⟩,
    ⟨(some 7), .lenSlice (.tmp 6), none⟩,
    ⟨(some 8), .mov (.tmp 1), none⟩,
    ⟨(some 9), .lenSlice (.tmp 8), none⟩,
    ⟨(some 10), .bin .neq (.tmp 7) (.tmp 9), none⟩])
  (.cond (.tmp 10)
  (.seq (.ops [⟨(some 4), .mov (.con (.bool false)), none⟩])
  .ret)
  .skip))
  (.seq (.seq (.ops [⟨(some 5), .mov (.con (.int .i64 0)), none⟩])
  (.block 0 (.loop c10l0)))
  (.seq (.ops [⟨(some 4), .mov (.con (.bool true)), none⟩])
  .ret))))
def a10 : AFunc := ⟨2, c10, [.tmp 4]⟩

/- 11: tendril/tendrilref19.Terms -/
def c11l0 : ACode := (.seq (.seq (.ops [⟨(some 11), .mov (.tmp 6), none⟩,
    ⟨(some 12), .mov (.tmp 0), none⟩,
    ⟨(some 13), .lenStr (.tmp 12), none⟩,
    ⟨(some 14), .bin .leq (.tmp 11) (.tmp 13), none⟩])
  (.cond (.tmp 14)
  .skip
  (.exit 0)))
  (.seq (.block 1 (.seq (.ops [⟨(some 7), .mov (.con (.int .u8 0)), none⟩])
  (.seq (.seq (.ops [⟨(some 17), .mov (.tmp 6), none⟩,
    ⟨(some 18), .mov (.tmp 0), none⟩,
    ⟨(some 19), .lenStr (.tmp 18), none⟩,
    ⟨(some 20), .bin .lss (.tmp 17) (.tmp 19), none⟩])
  (.cond (.tmp 20)
  (.ops [⟨(some 21), .mov (.tmp 0), none⟩,
    ⟨(some 22), .mov (.tmp 6), none⟩,
    ⟨(some 23), .idxStr (.tmp 21) (.tmp 22), none⟩,
    ⟨(some 24), .call 13 [(.tmp 23)], none⟩,
    ⟨(some 7), .mov (.tmp 24), none⟩])
  .skip))
  (.seq (.seq (.ops [⟨(some 25), .mov (.tmp 7), none⟩,
    ⟨(some 26), .bin .neq (.tmp 25) (.con (.int .u8 0)), none⟩])
  (.cond (.tmp 26)
  (.seq (.seq (.ops [⟨(some 27), .mov (.tmp 5), none⟩,
    ⟨(some 28), .lenStr (.tmp 27), none⟩,
    ⟨(some 29), .bin .lss (.tmp 28) (.con (.int .i64 12)), none⟩])
  (.cond (.tmp 29)
  (.ops [⟨(some 30), .mov (.tmp 5), none⟩,
    ⟨(some 31), .mov (.tmp 7), none⟩,
    ⟨(some 32), .buildSlice 1 1 [(.int .u8 0)] [(0, 1, (.tmp 31))], none⟩,
    ⟨(some 33), .toStr (.tmp 32), none⟩,
    ⟨(some 34), .bin .add (.tmp 30) (.tmp 33), none⟩,
    ⟨(some 5), .mov (.tmp 34), none⟩])
  .skip))
  (.exit 1))
  .skip))
  (.seq (.seq (.ops [⟨(some 35), .mov (.tmp 5), none⟩,
    ⟨(some 36), .bin .neq (.tmp 35) (.con (.str [])), none⟩])
  (.cond (.tmp 36)
  (.ops [⟨(some 37), .mov (.tmp 4), none⟩,
    ⟨(some 38), .mov (.tmp 5), none⟩,
    ⟨(some 39), .call 19 [(.tmp 37), (.tmp 38)], none⟩,
    ⟨(some 4), .mov (.tmp 39), none⟩])
  .skip))
  (.ops [⟨(some 5), .mov (.con (.str [])), none⟩]))))))
  (.ops [⟨(some 15), .mov (.tmp 6), none⟩,
    ⟨(some 16), .bin .add (.tmp 15) (.con (.int .i64 1)), none⟩,
    ⟨(some 6), .mov (.tmp 16), none⟩])))
def c11 : ACode := (.seq (.ops [⟨(some 2), .mov (.con .nilSlice), none⟩,
    ⟨(some 3), .mov (.con (.int .i64 0)), none⟩])
  (.seq (.seq (.ops [⟨(some 8), .mov (.tmp 0), none⟩,
    ⟨(some 9), .lenStr (.tmp 8), none⟩,
    ⟨(some 10), .bin .gtr (.tmp 9) (.con (.int .i64 512)), none⟩])
  (.cond (.tmp 10)
  (.seq (.ops [⟨(some 2), .mov (.con .nilSlice), none⟩,
    ⟨(some 3), .mov (.con (.int .i64 11)), none⟩])
  .ret)
  .skip))
  (.seq (.ops [⟨(some 4), .mov (.con .nilSlice), none⟩])
  (.seq (.ops [⟨(some 5), .mov (.con (.str [])), none⟩])
  (.seq (.seq (.ops [⟨(some 6), .mov (.con (.int .i64 0)), none⟩])
  (.block 0 (.loop c11l0)))
  (.seq (.ops [⟨(some 40), .mov (.tmp 4), none⟩,
    ⟨(some 2), .mov (.tmp 40), none⟩,
    ⟨(some 3), .mov (.con (.int .i64 0)), none⟩])
  .ret))))))
def a11 : AFunc := ⟨1, c11, [.tmp 2, .tmp 3]⟩

/- 12: tendril/token.Letter -/
def c12 : ACode := (.seq (.ops [⟨(some 2), .mov (.con (.int .u8 0)), none⟩])
  (.seq (.block 0 (.seq (.ops [⟨(some 4), .mov (.tmp 0), none⟩,
    ⟨(some 5), .bin .geq (.tmp 4) (.con (.int .u8 97)), none⟩,
    ⟨(some 6), .mov (.tmp 5), none⟩,
    ⟨(some 7), .mov (.tmp 0), (some (6, true))⟩,
    ⟨(some 8), .bin .leq (.tmp 7) (.con (.int .u8 122)), (some (6, true))⟩,
    ⟨(some 9), .pick (.tmp 6) (.tmp 8) (.con (.bool false)), none⟩,
    ⟨(some 10), .mov (.tmp 9), none⟩,
    ⟨(some 11), .mov (.tmp 0), (some (10, false))⟩,
    ⟨(some 12), .bin .geq (.tmp 11) (.con (.int .u8 48)), (some (10, false))⟩,
    ⟨(some 13), .mov (.tmp 12), (some (10, false))⟩,
    ⟨(some 14), .mov (.tmp 0), (some (13, true))⟩,
    ⟨(some 15), .bin .leq (.tmp 14) (.con (.int .u8 57)), (some (13, true))⟩,
    ⟨(some 16), .pick (.tmp 13) (.tmp 15) (.con (.bool false)), (some (10, false))⟩,
    ⟨(some 17), .pick (.tmp 10) (.con (.bool true)) (.tmp 16), none⟩,
    ⟨(some 3), .mov (.tmp 17), none⟩])
  (.cond (.tmp 3)
  (.seq (.ops [⟨(some 18), .mov (.tmp 0), none⟩,
    ⟨(some 2), .mov (.tmp 18), none⟩])
  .ret)
  (.seq (.ops [⟨(some 20), .mov (.tmp 0), none⟩,
    ⟨(some 21), .bin .geq (.tmp 20) (.con (.int .u8 65)), none⟩,
    ⟨(some 22), .mov (.tmp 21), none⟩,
    ⟨(some 23), .mov (.tmp 0), (some (22, true))⟩,
    ⟨(some 24), .bin .leq (.tmp 23) (.con (.int .u8 90)), (some (22, true))⟩,
    ⟨(some 25), .pick (.tmp 22) (.tmp 24) (.con (.bool false)), none⟩,
    ⟨(some 19), .mov (.tmp 25), none⟩])
  (.cond (.tmp 19)
  (.seq (.ops [⟨(some 26), .mov (.tmp 0), none⟩,
    ⟨(some 27), .bin .sub (.tmp 26) (.con (.int .u8 65)), none⟩,
    ⟨(some 28), .bin .add (.tmp 27) (.con (.int .u8 97)), none⟩,
    ⟨(some 2), .mov (.tmp 28), none⟩])
  .ret)
  .skip)))))
  (.seq (.ops [⟨(some 2), .mov (.con (.int .u8 0)), none⟩])
  .ret)))
def a12 : AFunc := ⟨1, c12, [.tmp 2]⟩

/- 13: tendril/tendrilref19.Letter -/
def c13 : ACode := (.seq (.ops [⟨(some 2), .mov (.con (.int .u8 0)), none⟩])
  (.seq (.block 0 (.seq (.ops [⟨(some 4), .mov (.tmp 0), none⟩,
    ⟨(some 5), .bin .geq (.tmp 4) (.con (.int .u8 97)), none⟩,
    ⟨(some 6), .mov (.tmp 5), none⟩,
    ⟨(some 7), .mov (.tmp 0), (some (6, true))⟩,
    ⟨(some 8), .bin .leq (.tmp 7) (.con (.int .u8 122)), (some (6, true))⟩,
    ⟨(some 9), .pick (.tmp 6) (.tmp 8) (.con (.bool false)), none⟩,
    ⟨(some 10), .mov (.tmp 9), none⟩,
    ⟨(some 11), .mov (.tmp 0), (some (10, false))⟩,
    ⟨(some 12), .bin .geq (.tmp 11) (.con (.int .u8 48)), (some (10, false))⟩,
    ⟨(some 13), .mov (.tmp 12), (some (10, false))⟩,
    ⟨(some 14), .mov (.tmp 0), (some (13, true))⟩,
    ⟨(some 15), .bin .leq (.tmp 14) (.con (.int .u8 57)), (some (13, true))⟩,
    ⟨(some 16), .pick (.tmp 13) (.tmp 15) (.con (.bool false)), (some (10, false))⟩,
    ⟨(some 17), .pick (.tmp 10) (.con (.bool true)) (.tmp 16), none⟩,
    ⟨(some 3), .mov (.tmp 17), none⟩])
  (.cond (.tmp 3)
  (.seq (.ops [⟨(some 18), .mov (.tmp 0), none⟩,
    ⟨(some 2), .mov (.tmp 18), none⟩])
  .ret)
  (.seq (.ops [⟨(some 20), .mov (.tmp 0), none⟩,
    ⟨(some 21), .bin .geq (.tmp 20) (.con (.int .u8 65)), none⟩,
    ⟨(some 22), .mov (.tmp 21), none⟩,
    ⟨(some 23), .mov (.tmp 0), (some (22, true))⟩,
    ⟨(some 24), .bin .leq (.tmp 23) (.con (.int .u8 90)), (some (22, true))⟩,
    ⟨(some 25), .pick (.tmp 22) (.tmp 24) (.con (.bool false)), none⟩,
    ⟨(some 19), .mov (.tmp 25), none⟩])
  (.cond (.tmp 19)
  (.seq (.ops [⟨(some 26), .mov (.tmp 0), none⟩,
    ⟨(some 27), .bin .add (.tmp 26) (.con (.int .u8 32)), none⟩,
    ⟨(some 2), .mov (.tmp 27), none⟩])
  .ret)
  .skip)))))
  (.seq (.ops [⟨(some 2), .mov (.con (.int .u8 0)), none⟩])
  .ret)))
def a13 : AFunc := ⟨1, c13, [.tmp 2]⟩

/- 14: tendril/tendrilbook.Within -/
def c14 : ACode := (.seq (.ops [⟨(some 6), .mov (.con (.int .i64 0)), none⟩])
  (.seq (.ops [⟨(some 7), .mov (.tmp 0), none⟩,
    ⟨(some 8), .mov (.tmp 2), none⟩,
    ⟨(some 9), .mov (.tmp 1), none⟩,
    ⟨(some 10), .bin .sub (.tmp 8) (.tmp 9), none⟩,
    ⟨(some 11), .bin .add (.tmp 10) (.con (.int .i64 1)), none⟩,
    ⟨(some 12), .bin .rem (.tmp 7) (.tmp 11), none⟩,
    ⟨(some 0), .mov (.tmp 12), none⟩])
  (.seq (.seq (.ops [⟨(some 13), .mov (.tmp 0), none⟩,
    ⟨(some 14), .bin .lss (.tmp 13) (.con (.int .i64 0)), none⟩])
  (.cond (.tmp 14)
  (.ops [⟨(some 15), .mov (.tmp 0), none⟩,
    ⟨(some 16), .mov (.tmp 2), none⟩,
    ⟨(some 17), .bin .add (.tmp 15) (.tmp 16), none⟩,
    ⟨(some 18), .mov (.tmp 1), none⟩,
    ⟨(some 19), .bin .sub (.tmp 17) (.tmp 18), none⟩,
    ⟨(some 20), .bin .add (.tmp 19) (.con (.int .i64 1)), none⟩,
    ⟨(some 0), .mov (.tmp 20), none⟩])
  .skip))
  (.seq (.ops [⟨(some 21), .mov (.tmp 1), none⟩,
    ⟨(some 22), .mov (.tmp 0), none⟩,
    ⟨(some 23), .bin .add (.tmp 21) (.tmp 22), none⟩,
    ⟨(some 6), .mov (.tmp 23), none⟩])
  .ret))))
def a14 : AFunc := ⟨3, c14, [.tmp 6]⟩

/- 15: tendril/term.Right -/
def c15 : ACode := (.seq (.ops [⟨(some 2), .mov (.con (.bool false)), none⟩])
  (.seq (.ops [⟨(some 3), .mov (.tmp 0), none⟩,
    ⟨(some 4), .bin .neq (.tmp 3) (.con (.str [])), none⟩,
    ⟨(some 5), .mov (.tmp 4), none⟩,
    ⟨(some 6), .mov (.tmp 0), (some (5, true))⟩,
    ⟨(some 7), .lenStr (.tmp 6), (some (5, true))⟩,
    ⟨(some 8), .bin .leq (.tmp 7) (.con (.int .i64 12)), (some (5, true))⟩,
    ⟨(some 9), .pick (.tmp 5) (.tmp 8) (.con (.bool false)), none⟩,
    ⟨(some 10), .mov (.tmp 9), none⟩,
    ⟨(some 11), .mov (.tmp 0), (some (10, true))⟩,
    ⟨(some 12), .call 20 [(.tmp 11), (.con (.int .u8 0))], (some (10, true))⟩,
    ⟨(some 13), .bin .lss (.tmp 12) (.con (.int .i64 0)), (some (10, true))⟩,
    ⟨(some 14), .pick (.tmp 10) (.tmp 13) (.con (.bool false)), none⟩,
    ⟨(some 2), .mov (.tmp 14), none⟩])
  .ret))
def a15 : AFunc := ⟨1, c15, [.tmp 2]⟩

/- 16: strings.SplitSeq -/
def c16 : ACode := (.seq (.ops [⟨(some 4), .mov (.con .nilFunc), none⟩])
  (.seq (.ops [⟨(some 5), .mov (.tmp 0), none⟩,
    ⟨(some 6), .mov (.tmp 1), none⟩,
    ⟨(some 7), .call 21 [(.tmp 5), (.tmp 6), (.con (.int .i64 0))], none⟩,
    ⟨(some 4), .mov (.tmp 7), none⟩])
  .ret))
def a16 : AFunc := ⟨2, c16, [.tmp 4]⟩

/- 17: slices.Sort[[]string,string] -/
def c17 : ACode := (.seq (.ops [⟨(some 3), .mov (.tmp 0), none⟩,
    ⟨(some 4), .lenSlice (.tmp 3), none⟩,
    ⟨(some 2), .mov (.tmp 4), none⟩])
  (.ops [⟨(some 5), .mov (.tmp 0), none⟩,
    ⟨(some 6), .mov (.tmp 2), none⟩,
    ⟨(some 7), .mov (.tmp 2), none⟩,
    ⟨(some 8), .toInt .u64 (.tmp 7), none⟩,
    ⟨(some 9), .call 23 [(.tmp 8)], none⟩,
    ⟨(some 10), .call 22 [(.tmp 5), (.con (.int .i64 0)), (.tmp 6), (.tmp 9)], none⟩]))
def a17 : AFunc := ⟨1, c17, []⟩

/- 18: slices.Compact[[]string,string] -/
def c18l0 : ACode := (.seq (.seq (.ops [⟨(some 29), .mov (.tmp 5), none⟩,
    ⟨(some 30), .mov (.tmp 4), none⟩,
    ⟨(some 31), .lenSlice (.tmp 30), none⟩,
    ⟨(some 32), .bin .lss (.tmp 29) (.tmp 31), none⟩])
  (.cond (.tmp 32)
  .skip
  (.exit 2)))
  (.seq (.block 3 (.seq (.ops [⟨(some 35), .mov (.tmp 4), none⟩,
    ⟨(some 36), .mov (.tmp 5), none⟩,
    ⟨(some 37), .idxAddr 1 (.tmp 35) (.tmp 36), none⟩,
    ⟨(some 38), .load false 1 (.tmp 37), none⟩,
    ⟨(some 39), .mov (.tmp 4), none⟩,
    ⟨(some 40), .mov (.tmp 5), none⟩,
    ⟨(some 41), .bin .sub (.tmp 40) (.con (.int .i64 1)), none⟩,
    ⟨(some 42), .idxAddr 1 (.tmp 39) (.tmp 41), none⟩,
    ⟨(some 43), .load false 1 (.tmp 42), none⟩,
    ⟨(some 44), .bin .neq (.tmp 38) (.tmp 43), none⟩])
  (.cond (.tmp 44)
  (.seq (.ops [⟨(some 45), .mov (.tmp 0), none⟩,
    ⟨(some 46), .mov (.tmp 3), none⟩,
    ⟨(some 47), .mov (.tmp 4), none⟩,
    ⟨(some 48), .mov (.tmp 5), none⟩,
    ⟨(some 49), .idxAddr 1 (.tmp 47) (.tmp 48), none⟩,
    ⟨(some 50), .load false 1 (.tmp 49), none⟩,
    ⟨(some 51), .idxAddr 1 (.tmp 45) (.tmp 46), none⟩,
    ⟨none, .store 1 (.tmp 51) (.tmp 50), none⟩])
  (.ops [⟨(some 52), .mov (.tmp 3), none⟩,
    ⟨(some 53), .bin .add (.tmp 52) (.con (.int .i64 1)), none⟩,
    ⟨(some 3), .mov (.tmp 53), none⟩]))
  .skip)))
  (.ops [⟨(some 33), .mov (.tmp 5), none⟩,
    ⟨(some 34), .bin .add (.tmp 33) (.con (.int .i64 1)), none⟩,
    ⟨(some 5), .mov (.tmp 34), none⟩])))
def c18l1 : ACode := (.seq (.seq (.ops [⟨(some 10), .mov (.tmp 3), none⟩,
    ⟨(some 11), .mov (.tmp 0), none⟩,
    ⟨(some 12), .lenSlice (.tmp 11), none⟩,
    ⟨(some 13), .bin .lss (.tmp 10) (.tmp 12), none⟩])
  (.cond (.tmp 13)
  .skip
  (.exit 0)))
  (.seq (.block 1 (.seq (.ops [⟨(some 16), .mov (.tmp 0), none⟩,
    ⟨(some 17), .mov (.tmp 3), none⟩,
    ⟨(some 18), .idxAddr 1 (.tmp 16) (.tmp 17), none⟩,
    ⟨(some 19), .load false 1 (.tmp 18), none⟩,
    ⟨(some 20), .mov (.tmp 0), none⟩,
    ⟨(some 21), .mov (.tmp 3), none⟩,
    ⟨(some 22), .bin .sub (.tmp 21) (.con (.int .i64 1)), none⟩,
    ⟨(some 23), .idxAddr 1 (.tmp 20) (.tmp 22), none⟩,
    ⟨(some 24), .load false 1 (.tmp 23), none⟩,
    ⟨(some 25), .bin .eql (.tmp 19) (.tmp 24), none⟩])
  (.cond (.tmp 25)
  (.seq (.ops [⟨(some 26), .mov (.tmp 0), none⟩,
    ⟨(some 27), .mov (.tmp 3), none⟩,
    ⟨(some 28), .slc 1 (.tmp 26) (some (.tmp 27)) none none, none⟩,
    ⟨(some 4), .mov (.tmp 28), none⟩])
  (.seq (.seq (.ops [⟨(some 5), .mov (.con (.int .i64 1)), none⟩])
  (.block 2 (.loop c18l0)))
  (.seq (.ops [⟨(some 54), .mov (.tmp 0), none⟩,
    ⟨(some 55), .mov (.tmp 3), none⟩,
    ⟨(some 56), .slc 1 (.tmp 54) (some (.tmp 55)) none none, none⟩,
    ⟨none, .clear 1 [(.str [])] (.tmp 56), none⟩])
  (.seq (.ops [⟨(some 57), .mov (.tmp 0), none⟩,
    ⟨(some 58), .mov (.tmp 3), none⟩,
    ⟨(some 59), .slc 1 (.tmp 57) none (some (.tmp 58)) none, none⟩,
    ⟨(some 2), .mov (.tmp 59), none⟩])
  .ret))))
  .skip)))
  (.ops [⟨(some 14), .mov (.tmp 3), none⟩,
    ⟨(some 15), .bin .add (.tmp 14) (.con (.int .i64 1)), none⟩,
    ⟨(some 3), .mov (.tmp 15), none⟩])))
def c18 : ACode := (.seq (.ops [⟨(some 2), .mov (.con .nilSlice), none⟩])
  (.seq (.seq (.ops [⟨(some 6), .mov (.tmp 0), none⟩,
    ⟨(some 7), .lenSlice (.tmp 6), none⟩,
    ⟨(some 8), .bin .lss (.tmp 7) (.con (.int .i64 2)), none⟩])
  (.cond (.tmp 8)
  (.seq (.ops [⟨(some 9), .mov (.tmp 0), none⟩,
    ⟨(some 2), .mov (.tmp 9), none⟩])
  .ret)
  .skip))
  (.seq (.seq (.ops [⟨(some 3), .mov (.con (.int .i64 1)), none⟩])
  (.block 0 (.loop c18l1)))
  (.seq (.ops [⟨(some 60), .mov (.tmp 0), none⟩,
    ⟨(some 2), .mov (.tmp 60), none⟩])
  .ret))))
def a18 : AFunc := ⟨1, c18, [.tmp 2]⟩

/- 19: tendril/tendrilref19.insert -/
def c19l0 : ACode := (.seq (.seq (.ops [⟨(some 6), .mov (.tmp 5), none⟩,
    ⟨(some 7), .mov (.tmp 0), none⟩,
    ⟨(some 8), .lenSlice (.tmp 7), none⟩,
    ⟨(some 9), .bin .lss (.tmp 6) (.tmp 8), none⟩,
    ⟨(some 10), .mov (.tmp 9), none⟩,
    ⟨(some 11), .mov (.tmp 0), (some (10, true))⟩,
    ⟨(some 12), .mov (.tmp 5), (some (10, true))⟩,
    ⟨(some 13), .idxAddr 1 (.tmp 11) (.tmp 12), (some (10, true))⟩,
    ⟨(some 14), .load false 1 (.tmp 13), (some (10, true))⟩,
    ⟨(some 15), .mov (.tmp 1), (some (10, true))⟩,
    ⟨(some 16), .bin .lss (.tmp 14) (.tmp 15), (some (10, true))⟩,
    ⟨(some 17), .pick (.tmp 10) (.tmp 16) (.con (.bool false)), none⟩])
  (.cond (.tmp 17)
  .skip
  (.exit 0)))
  (.block 1 (.ops [⟨(some 18), .mov (.tmp 5), none⟩,
    ⟨(some 19), .bin .add (.tmp 18) (.con (.int .i64 1)), none⟩,
    ⟨(some 5), .mov (.tmp 19), none⟩])))
def c19 : ACode := (.seq (.ops [⟨(some 4), .mov (.con .nilSlice), none⟩])
  (.seq (.ops [⟨(some 5), .mov (.con (.int .i64 0)), none⟩])
  (.seq (.block 0 (.loop c19l0))
  (.seq (.seq (.ops [⟨(some 20), .mov (.tmp 5), none⟩,
    ⟨(some 21), .mov (.tmp 0), none⟩,
    ⟨(some 22), .lenSlice (.tmp 21), none⟩,
    ⟨(some 23), .bin .lss (.tmp 20) (.tmp 22), none⟩,
    ⟨(some 24), .mov (.tmp 23), none⟩,
    ⟨(some 25), .mov (.tmp 0), (some (24, true))⟩,
    ⟨(some 26), .mov (.tmp 5), (some (24, true))⟩,
    ⟨(some 27), .idxAddr 1 (.tmp 25) (.tmp 26), (some (24, true))⟩,
    ⟨(some 28), .load false 1 (.tmp 27), (some (24, true))⟩,
    ⟨(some 29), .mov (.tmp 1), (some (24, true))⟩,
    ⟨(some 30), .bin .eql (.tmp 28) (.tmp 29), (some (24, true))⟩,
    ⟨(some 31), .pick (.tmp 24) (.tmp 30) (.con (.bool false)), none⟩])
  (.cond (.tmp 31)
  (.seq (.ops [⟨(some 32), .mov (.tmp 0), none⟩,
    ⟨(some 4), .mov (.tmp 32), none⟩])
  .ret)
  .skip))
  (.seq (.draw [.op ⟨(some 33), .buildSlice 1 0 [] [], none⟩,
    .op ⟨(some 34), .mov (.tmp 0), none⟩,
    .op ⟨(some 35), .mov (.tmp 5), none⟩,
    .op ⟨(some 36), .slc 1 (.tmp 34) none (some (.tmp 35)) none, none⟩,
    .op ⟨(some 38), .mov (.tmp 1), none⟩,
    .op ⟨(some 39), .buildSlice 1 1 [(.str [])] [(0, 1, (.tmp 38))], none⟩,
    .op ⟨(some 41), .mov (.tmp 0), none⟩,
    .op ⟨(some 42), .mov (.tmp 5), none⟩,
    .op ⟨(some 43), .slc 1 (.tmp 41) (some (.tmp 42)) none none, none⟩,
    .look ⟨(some 33), .buildSlice 1 0 [] [], none⟩,
    .look ⟨(some 39), .buildSlice 1 1 [(.str [])] [(0, 1, (.tmp 38))], none⟩,
    .op ⟨(some 37), .append 1 16 (.tmp 33) (.tmp 36), none⟩,
    .look ⟨(some 39), .buildSlice 1 1 [(.str [])] [(0, 1, (.tmp 38))], none⟩,
    .op ⟨(some 40), .append 1 16 (.tmp 37) (.tmp 39), none⟩,
    .op ⟨(some 44), .append 1 16 (.tmp 40) (.tmp 43), none⟩,
    .op ⟨(some 4), .mov (.tmp 44), none⟩])
  .ret)))))
def a19 : AFunc := ⟨2, c19, [.tmp 4]⟩

/- 20: strings.IndexByte -/
def c20 : ACode := (.seq (.ops [⟨(some 4), .mov (.con (.int .i64 0)), none⟩])
  (.seq (.ops [⟨(some 5), .mov (.tmp 0), none⟩,
    ⟨(some 6), .mov (.tmp 1), none⟩,
    ⟨(some 7), .call 24 [(.tmp 5), (.tmp 6)], none⟩,
    ⟨(some 4), .mov (.tmp 7), none⟩])
  .ret))
def a20 : AFunc := ⟨2, c20, [.tmp 4]⟩

/- 21: strings.splitSeq -/
def c21 : ACode := (.seq (.ops [⟨(some 3), .box (.tmp 0), none⟩,
    ⟨(some 4), .box (.tmp 1), none⟩,
    ⟨(some 5), .box (.tmp 2), none⟩,
    ⟨(some 6), .mov (.con .nilFunc), none⟩])
  (.seq (.ops [⟨(some 7), .mkFunc (.func 25) [] [(.tmp 4), (.tmp 3), (.tmp 5)], none⟩,
    ⟨(some 6), .mov (.tmp 7), none⟩])
  .ret))
def a21 : AFunc := ⟨3, c21, [.tmp 6]⟩

/- 23: math/bits.Len -/
def c23 : ACode := (.seq (.ops [⟨(some 2), .mov (.con (.int .i64 0)), none⟩])
  (.seq (.cond (.con (.bool false))
  (.seq (.ops [⟨(some 3), .mov (.tmp 0), none⟩,
    ⟨(some 4), .toInt .u32 (.tmp 3), none⟩,
    ⟨(some 5), .call 37 [(.tmp 4)], none⟩,
    ⟨(some 2), .mov (.tmp 5), none⟩])
  .ret)
  .skip)
  (.seq (.ops [⟨(some 6), .mov (.tmp 0), none⟩,
    ⟨(some 7), .call 38 [(.tmp 6)], none⟩,
    ⟨(some 2), .mov (.tmp 7), none⟩])
  .ret)))
def a23 : AFunc := ⟨1, c23, [.tmp 2]⟩

/- 22: slices.pdqsortOrdered[string] -/
def c22l0 : ACode := (.block 1 (.seq (.ops [⟨(some 19), .mov (.tmp 2), none⟩,
    ⟨(some 20), .mov (.tmp 1), none⟩,
    ⟨(some 21), .bin .sub (.tmp 19) (.tmp 20), none⟩,
    ⟨(some 10), .mov (.tmp 21), none⟩])
  (.seq (.seq (.ops [⟨(some 22), .mov (.tmp 10), none⟩,
    ⟨(some 23), .bin .leq (.tmp 22) (.con (.int .i64 12)), none⟩])
  (.cond (.tmp 23)
  (.seq (.ops [⟨(some 24), .mov (.tmp 0), none⟩,
    ⟨(some 25), .mov (.tmp 1), none⟩,
    ⟨(some 26), .mov (.tmp 2), none⟩,
    ⟨(some 27), .call 28 [(.tmp 24), (.tmp 25), (.tmp 26)], none⟩])
  .ret)
  .skip))
  (.seq (.seq (.ops [⟨(some 28), .mov (.tmp 3), none⟩,
    ⟨(some 29), .bin .eql (.tmp 28) (.con (.int .i64 0)), none⟩])
  (.cond (.tmp 29)
  (.seq (.ops [⟨(some 30), .mov (.tmp 0), none⟩,
    ⟨(some 31), .mov (.tmp 1), none⟩,
    ⟨(some 32), .mov (.tmp 2), none⟩,
    ⟨(some 33), .call 29 [(.tmp 30), (.tmp 31), (.tmp 32)], none⟩])
  .ret)
  .skip))
  (.seq (.seq (.ops [⟨(some 34), .mov (.tmp 8), none⟩,
    ⟨(some 35), .un .not (.tmp 34), none⟩])
  (.cond (.tmp 35)
  (.seq (.ops [⟨(some 36), .mov (.tmp 0), none⟩,
    ⟨(some 37), .mov (.tmp 1), none⟩,
    ⟨(some 38), .mov (.tmp 2), none⟩,
    ⟨(some 39), .call 30 [(.tmp 36), (.tmp 37), (.tmp 38)], none⟩])
  (.ops [⟨(some 40), .mov (.tmp 3), none⟩,
    ⟨(some 41), .bin .sub (.tmp 40) (.con (.int .i64 1)), none⟩,
    ⟨(some 3), .mov (.tmp 41), none⟩]))
  .skip))
  (.seq (.ops [⟨(some 43), .mov (.tmp 0), none⟩,
    ⟨(some 44), .mov (.tmp 1), none⟩,
    ⟨(some 45), .mov (.tmp 2), none⟩,
    ⟨(some 46), .call 31 [(.tmp 43), (.tmp 44), (.tmp 45)], none⟩,
    ⟨(some 42), .mov (.tmp 46), none⟩,
    ⟨(some 47), .extract (.tmp 42) 0, none⟩,
    ⟨(some 48), .extract (.tmp 42) 1, none⟩,
    ⟨(some 11), .mov (.tmp 47), none⟩,
    ⟨(some 12), .mov (.tmp 48), none⟩])
  (.seq (.seq (.ops [⟨(some 49), .mov (.tmp 12), none⟩,
    ⟨(some 50), .bin .eql (.tmp 49) (.con (.int .i64 2)), none⟩])
  (.cond (.tmp 50)
  (.seq (.ops [⟨(some 51), .mov (.tmp 0), none⟩,
    ⟨(some 52), .mov (.tmp 1), none⟩,
    ⟨(some 53), .mov (.tmp 2), none⟩,
    ⟨(some 54), .call 32 [(.tmp 51), (.tmp 52), (.tmp 53)], none⟩])
  (.seq (.ops [⟨(some 55), .mov (.tmp 2), none⟩,
    ⟨(some 56), .bin .sub (.tmp 55) (.con (.int .i64 1)), none⟩,
    ⟨(some 57), .mov (.tmp 11), none⟩,
    ⟨(some 58), .mov (.tmp 1), none⟩,
    ⟨(some 59), .bin .sub (.tmp 57) (.tmp 58), none⟩,
    ⟨(some 60), .bin .sub (.tmp 56) (.tmp 59), none⟩,
    ⟨(some 11), .mov (.tmp 60), none⟩])
  (.ops [⟨(some 12), .mov (.con (.int .i64 1)), none⟩])))
  .skip))
  (.seq (.seq (.ops [⟨(some 61), .mov (.tmp 8), none⟩,
    ⟨(some 62), .mov (.tmp 61), none⟩,
    ⟨(some 63), .mov (.tmp 9), (some (62, true))⟩,
    ⟨(some 64), .pick (.tmp 62) (.tmp 63) (.con (.bool false)), none⟩,
    ⟨(some 65), .mov (.tmp 64), none⟩,
    ⟨(some 66), .mov (.tmp 12), (some (65, true))⟩,
    ⟨(some 67), .bin .eql (.tmp 66) (.con (.int .i64 1)), (some (65, true))⟩,
    ⟨(some 68), .pick (.tmp 65) (.tmp 67) (.con (.bool false)), none⟩])
  (.cond (.tmp 68)
  (.seq (.ops [⟨(some 69), .mov (.tmp 0), none⟩,
    ⟨(some 70), .mov (.tmp 1), none⟩,
    ⟨(some 71), .mov (.tmp 2), none⟩,
    ⟨(some 72), .call 33 [(.tmp 69), (.tmp 70), (.tmp 71)], none⟩])
  (.cond (.tmp 72)
  .ret
  .skip))
  .skip))
  (.seq (.seq (.ops [⟨(some 73), .mov (.tmp 1), none⟩,
    ⟨(some 74), .bin .gtr (.tmp 73) (.con (.int .i64 0)), none⟩,
    ⟨(some 75), .mov (.tmp 74), none⟩,
    ⟨(some 76), .mov (.tmp 0), (some (75, true))⟩,
    ⟨(some 77), .mov (.tmp 1), (some (75, true))⟩,
    ⟨(some 78), .bin .sub (.tmp 77) (.con (.int .i64 1)), (some (75, true))⟩,
    ⟨(some 79), .idxAddr 1 (.tmp 76) (.tmp 78), (some (75, true))⟩,
    ⟨(some 80), .load false 1 (.tmp 79), (some (75, true))⟩,
    ⟨(some 81), .mov (.tmp 0), (some (75, true))⟩,
    ⟨(some 82), .mov (.tmp 11), (some (75, true))⟩,
    ⟨(some 83), .idxAddr 1 (.tmp 81) (.tmp 82), (some (75, true))⟩,
    ⟨(some 84), .load false 1 (.tmp 83), (some (75, true))⟩,
    ⟨(some 85), .call 34 [(.tmp 80), (.tmp 84)], (some (75, true))⟩,
    ⟨(some 86), .un .not (.tmp 85), (some (75, true))⟩,
    ⟨(some 87), .pick (.tmp 75) (.tmp 86) (.con (.bool false)), none⟩])
  (.cond (.tmp 87)
  (.seq (.ops [⟨(some 88), .mov (.tmp 0), none⟩,
    ⟨(some 89), .mov (.tmp 1), none⟩,
    ⟨(some 90), .mov (.tmp 2), none⟩,
    ⟨(some 91), .mov (.tmp 11), none⟩,
    ⟨(some 92), .call 35 [(.tmp 88), (.tmp 89), (.tmp 90), (.tmp 91)], none⟩,
    ⟨(some 13), .mov (.tmp 92), none⟩])
  (.seq (.ops [⟨(some 93), .mov (.tmp 13), none⟩,
    ⟨(some 1), .mov (.tmp 93), none⟩])
  (.exit 1)))
  .skip))
  (.seq (.ops [⟨(some 95), .mov (.tmp 0), none⟩,
    ⟨(some 96), .mov (.tmp 1), none⟩,
    ⟨(some 97), .mov (.tmp 2), none⟩,
    ⟨(some 98), .mov (.tmp 11), none⟩,
    ⟨(some 99), .call 36 [(.tmp 95), (.tmp 96), (.tmp 97), (.tmp 98)], none⟩,
    ⟨(some 94), .mov (.tmp 99), none⟩,
    ⟨(some 100), .extract (.tmp 94) 0, none⟩,
    ⟨(some 101), .extract (.tmp 94) 1, none⟩,
    ⟨(some 14), .mov (.tmp 100), none⟩,
    ⟨(some 15), .mov (.tmp 101), none⟩])
  (.seq (.ops [⟨(some 102), .mov (.tmp 15), none⟩,
    ⟨(some 9), .mov (.tmp 102), none⟩])
  (.seq (.ops [⟨(some 103), .mov (.tmp 14), none⟩,
    ⟨(some 104), .mov (.tmp 1), none⟩,
    ⟨(some 105), .bin .sub (.tmp 103) (.tmp 104), none⟩,
    ⟨(some 106), .mov (.tmp 2), none⟩,
    ⟨(some 107), .mov (.tmp 14), none⟩,
    ⟨(some 108), .bin .sub (.tmp 106) (.tmp 107), none⟩,
    ⟨(some 16), .mov (.tmp 105), none⟩,
    ⟨(some 17), .mov (.tmp 108), none⟩])
  (.seq (.ops [⟨(some 109), .mov (.tmp 10), none⟩,
    ⟨(some 110), .bin .quo (.tmp 109) (.con (.int .i64 8)), none⟩,
    ⟨(some 18), .mov (.tmp 110), none⟩])
  (.seq (.ops [⟨(some 111), .mov (.tmp 16), none⟩,
    ⟨(some 112), .mov (.tmp 17), none⟩,
    ⟨(some 113), .bin .lss (.tmp 111) (.tmp 112), none⟩])
  (.cond (.tmp 113)
  (.seq (.ops [⟨(some 114), .mov (.tmp 16), none⟩,
    ⟨(some 115), .mov (.tmp 18), none⟩,
    ⟨(some 116), .bin .geq (.tmp 114) (.tmp 115), none⟩,
    ⟨(some 8), .mov (.tmp 116), none⟩])
  (.seq (.ops [⟨(some 117), .mov (.tmp 0), none⟩,
    ⟨(some 118), .mov (.tmp 1), none⟩,
    ⟨(some 119), .mov (.tmp 14), none⟩,
    ⟨(some 120), .mov (.tmp 3), none⟩,
    ⟨(some 121), .call 22 [(.tmp 117), (.tmp 118), (.tmp 119), (.tmp 120)], none⟩])
  (.ops [⟨(some 122), .mov (.tmp 14), none⟩,
    ⟨(some 123), .bin .add (.tmp 122) (.con (.int .i64 1)), none⟩,
    ⟨(some 1), .mov (.tmp 123), none⟩])))
  (.seq (.ops [⟨(some 124), .mov (.tmp 17), none⟩,
    ⟨(some 125), .mov (.tmp 18), none⟩,
    ⟨(some 126), .bin .geq (.tmp 124) (.tmp 125), none⟩,
    ⟨(some 8), .mov (.tmp 126), none⟩])
  (.seq (.ops [⟨(some 127), .mov (.tmp 0), none⟩,
    ⟨(some 128), .mov (.tmp 14), none⟩,
    ⟨(some 129), .bin .add (.tmp 128) (.con (.int .i64 1)), none⟩,
    ⟨(some 130), .mov (.tmp 2), none⟩,
    ⟨(some 131), .mov (.tmp 3), none⟩,
    ⟨(some 132), .call 22 [(.tmp 127), (.tmp 129), (.tmp 130), (.tmp 131)], none⟩])
  (.ops [⟨(some 133), .mov (.tmp 14), none⟩,
    ⟨(some 2), .mov (.tmp 133), none⟩]))))))))))))))))))
def c22 : ACode := (.seq (.ops [⟨(some 8), .mov (.con (.bool true)), none⟩])
  (.seq (.ops [⟨(some 9), .mov (.con (.bool true)), none⟩])
  (.block 0 (.loop c22l0))))
def a22 : AFunc := ⟨4, c22, []⟩

/- 24: internal/stringslite.IndexByte -/
def c24 : ACode := (.seq (.ops [⟨(some 4), .mov (.con (.int .i64 0)), none⟩])
  (.seq (.ops [⟨(some 5), .mov (.tmp 0), none⟩,
    ⟨(some 6), .mov (.tmp 1), none⟩,
    ⟨(some 7), .call 39 [(.tmp 5), (.tmp 6)], none⟩,
    ⟨(some 4), .mov (.tmp 7), none⟩])
  .ret))
def a24 : AFunc := ⟨2, c24, [.tmp 4]⟩

/- 25: strings.splitSeq$1 -/
def c25l0 : ACode := (.seq (.seq (.ops [⟨(some 12), .load false 1 (.tmp 2), none⟩,
    ⟨(some 13), .lenStr (.tmp 12), none⟩,
    ⟨(some 14), .bin .gtr (.tmp 13) (.con (.int .i64 0)), none⟩])
  (.cond (.tmp 14)
  .skip
  (.exit 0)))
  (.block 1 (.seq (.ops [⟨(some 16), .load false 1 (.tmp 2), none⟩,
    ⟨(some 17), .call 26 [(.tmp 16)], none⟩,
    ⟨(some 15), .mov (.tmp 17), none⟩,
    ⟨(some 18), .extract (.tmp 15) 0, none⟩,
    ⟨(some 19), .extract (.tmp 15) 1, none⟩,
    ⟨(some 5), .mov (.tmp 18), none⟩,
    ⟨(some 6), .mov (.tmp 19), none⟩])
  (.seq (.seq (.ops [⟨(some 20), .mov (.tmp 0), none⟩,
    ⟨(some 21), .load false 1 (.tmp 2), none⟩,
    ⟨(some 22), .mov (.tmp 6), none⟩,
    ⟨(some 23), .slcStr (.tmp 21) none (some (.tmp 22)), none⟩,
    ⟨(some 24), .callV (.tmp 20) [(.tmp 23)], none⟩,
    ⟨(some 25), .un .not (.tmp 24), none⟩])
  (.cond (.tmp 25)
  .ret
  .skip))
  (.ops [⟨(some 26), .load false 1 (.tmp 2), none⟩,
    ⟨(some 27), .mov (.tmp 6), none⟩,
    ⟨(some 28), .slcStr (.tmp 26) (some (.tmp 27)) none, none⟩,
    ⟨none, .store 1 (.tmp 2) (.tmp 28), none⟩])))))
def c25l1 : ACode := (.block 3 (.seq (.ops [⟨(some 29), .load false 1 (.tmp 2), none⟩,
    ⟨(some 30), .load false 1 (.tmp 1), none⟩,
    ⟨(some 31), .call 27 [(.tmp 29), (.tmp 30)], none⟩,
    ⟨(some 7), .mov (.tmp 31), none⟩])
  (.seq (.seq (.ops [⟨(some 32), .mov (.tmp 7), none⟩,
    ⟨(some 33), .bin .lss (.tmp 32) (.con (.int .i64 0)), none⟩])
  (.cond (.tmp 33)
  (.exit 2)
  .skip))
  (.seq (.ops [⟨(some 34), .load false 1 (.tmp 2), none⟩,
    ⟨(some 35), .mov (.tmp 7), none⟩,
    ⟨(some 36), .load false 1 (.tmp 3), none⟩,
    ⟨(some 37), .bin .add (.tmp 35) (.tmp 36), none⟩,
    ⟨(some 38), .slcStr (.tmp 34) none (some (.tmp 37)), none⟩,
    ⟨(some 8), .mov (.tmp 38), none⟩])
  (.seq (.seq (.ops [⟨(some 39), .mov (.tmp 0), none⟩,
    ⟨(some 40), .mov (.tmp 8), none⟩,
    ⟨(some 41), .callV (.tmp 39) [(.tmp 40)], none⟩,
    ⟨(some 42), .un .not (.tmp 41), none⟩])
  (.cond (.tmp 42)
  .ret
  .skip))
  (.ops [⟨(some 43), .load false 1 (.tmp 2), none⟩,
    ⟨(some 44), .mov (.tmp 7), none⟩,
    ⟨(some 45), .load false 1 (.tmp 1), none⟩,
    ⟨(some 46), .lenStr (.tmp 45), none⟩,
    ⟨(some 47), .bin .add (.tmp 44) (.tmp 46), none⟩,
    ⟨(some 48), .slcStr (.tmp 43) (some (.tmp 47)) none, none⟩,
    ⟨none, .store 1 (.tmp 2) (.tmp 48), none⟩]))))))
def c25 : ACode := (.seq (.seq (.ops [⟨(some 9), .load false 1 (.tmp 1), none⟩,
    ⟨(some 10), .lenStr (.tmp 9), none⟩,
    ⟨(some 11), .bin .eql (.tmp 10) (.con (.int .i64 0)), none⟩])
  (.cond (.tmp 11)
  (.seq (.block 0 (.loop c25l0))
  .ret)
  .skip))
  (.seq (.block 2 (.loop c25l1))
  (.ops [⟨(some 49), .mov (.tmp 0), none⟩,
    ⟨(some 50), .load false 1 (.tmp 2), none⟩,
    ⟨(some 51), .callV (.tmp 49) [(.tmp 50)], none⟩])))
def a25 : AFunc := ⟨4, c25, []⟩

/- 37: math/bits.Len32 -/
def c37 : ACode := (.seq (.ops [⟨(some 2), .mov (.con (.int .i64 0)), none⟩])
  (.seq (.seq (.ops [⟨(some 3), .mov (.tmp 0), none⟩,
    ⟨(some 4), .bin .geq (.tmp 3) (.con (.int .u32 65536)), none⟩])
  (.cond (.tmp 4)
  (.seq (.ops [⟨(some 5), .mov (.tmp 0), none⟩,
    ⟨(some 6), .bin .shr (.tmp 5) (.con (.int .u64 16)), none⟩,
    ⟨(some 0), .mov (.tmp 6), none⟩])
  (.ops [⟨(some 2), .mov (.con (.int .i64 16)), none⟩]))
  .skip))
  (.seq (.seq (.ops [⟨(some 7), .mov (.tmp 0), none⟩,
    ⟨(some 8), .bin .geq (.tmp 7) (.con (.int .u32 256)), none⟩])
  (.cond (.tmp 8)
  (.seq (.ops [⟨(some 9), .mov (.tmp 0), none⟩,
    ⟨(some 10), .bin .shr (.tmp 9) (.con (.int .u64 8)), none⟩,
    ⟨(some 0), .mov (.tmp 10), none⟩])
  (.ops [⟨(some 11), .mov (.tmp 2), none⟩,
    ⟨(some 12), .bin .add (.tmp 11) (.con (.int .i64 8)), none⟩,
    ⟨(some 2), .mov (.tmp 12), none⟩]))
  .skip))
  (.seq (.ops [⟨(some 13), .mov (.tmp 2), none⟩,
    ⟨(some 14), .mov (.tmp 0), none⟩,
    ⟨(some 15), .toInt .u8 (.tmp 14), none⟩,
    ⟨(some 16), .idxStr (.con (.str [0, 1, 2, 2, 3, 3, 3, 3, 4, 4, 4, 4, 4, 4, 4, 4, 5, 5, 5, 5, 5, 5, 5, 5, 5, 5, 5, 5, 5, 5, 5, 5, 6, 6, 6, 6, 6, 6, 6, 6, 6, 6, 6, 6, 6, 6, 6, 6, 6, 6, 6, 6, 6, 6, 6, 6, 6, 6, 6, 6, 6, 6, 6, 6, 7, 7, 7, 7, 7, 7, 7, 7, 7, 7, 7, 7, 7, 7, 7, 7, 7, 7, 7, 7, 7, 7, 7, 7, 7, 7, 7, 7, 7, 7, 7, 7, 7, 7, 7, 7, 7, 7, 7, 7, 7, 7, 7, 7, 7, 7, 7, 7, 7, 7, 7, 7, 7, 7, 7, 7, 7, 7, 7, 7, 7, 7, 7, 7, 8, 8, 8, 8, 8, 8, 8, 8, 8, 8, 8, 8, 8, 8, 8, 8, 8, 8, 8, 8, 8, 8, 8, 8, 8, 8, 8, 8, 8, 8, 8, 8, 8, 8, 8, 8, 8, 8, 8, 8, 8, 8, 8, 8, 8, 8, 8, 8, 8, 8, 8, 8, 8, 8, 8, 8, 8, 8, 8, 8, 8, 8, 8, 8, 8, 8, 8, 8, 8, 8, 8, 8, 8, 8, 8, 8, 8, 8, 8, 8, 8, 8, 8, 8, 8, 8, 8, 8, 8, 8, 8, 8, 8, 8, 8, 8, 8, 8, 8, 8, 8, 8, 8, 8, 8, 8, 8, 8, 8, 8, 8, 8, 8, 8, 8, 8, 8, 8, 8, 8, 8, 8, 8, 8, 8, 8, 8, 8])) (.tmp 15), none⟩,
    ⟨(some 17), .toInt .i64 (.tmp 16), none⟩,
    ⟨(some 18), .bin .add (.tmp 13) (.tmp 17), none⟩,
    ⟨(some 2), .mov (.tmp 18), none⟩])
  .ret))))
def a37 : AFunc := ⟨1, c37, [.tmp 2]⟩

/- 38: math/bits.Len64 -/
def c38 : ACode := (.seq (.ops [⟨(some 2), .mov (.con (.int .i64 0)), none⟩])
  (.seq (.seq (.ops [⟨(some 3), .mov (.tmp 0), none⟩,
    ⟨(some 4), .bin .geq (.tmp 3) (.con (.int .u64 4294967296)), none⟩])
  (.cond (.tmp 4)
  (.seq (.ops [⟨(some 5), .mov (.tmp 0), none⟩,
    ⟨(some 6), .bin .shr (.tmp 5) (.con (.int .u64 32)), none⟩,
    ⟨(some 0), .mov (.tmp 6), none⟩])
  (.ops [⟨(some 2), .mov (.con (.int .i64 32)), none⟩]))
  .skip))
  (.seq (.seq (.ops [⟨(some 7), .mov (.tmp 0), none⟩,
    ⟨(some 8), .bin .geq (.tmp 7) (.con (.int .u64 65536)), none⟩])
  (.cond (.tmp 8)
  (.seq (.ops [⟨(some 9), .mov (.tmp 0), none⟩,
    ⟨(some 10), .bin .shr (.tmp 9) (.con (.int .u64 16)), none⟩,
    ⟨(some 0), .mov (.tmp 10), none⟩])
  (.ops [⟨(some 11), .mov (.tmp 2), none⟩,
    ⟨(some 12), .bin .add (.tmp 11) (.con (.int .i64 16)), none⟩,
    ⟨(some 2), .mov (.tmp 12), none⟩]))
  .skip))
  (.seq (.seq (.ops [⟨(some 13), .mov (.tmp 0), none⟩,
    ⟨(some 14), .bin .geq (.tmp 13) (.con (.int .u64 256)), none⟩])
  (.cond (.tmp 14)
  (.seq (.ops [⟨(some 15), .mov (.tmp 0), none⟩,
    ⟨(some 16), .bin .shr (.tmp 15) (.con (.int .u64 8)), none⟩,
    ⟨(some 0), .mov (.tmp 16), none⟩])
  (.ops [⟨(some 17), .mov (.tmp 2), none⟩,
    ⟨(some 18), .bin .add (.tmp 17) (.con (.int .i64 8)), none⟩,
    ⟨(some 2), .mov (.tmp 18), none⟩]))
  .skip))
  (.seq (.ops [⟨(some 19), .mov (.tmp 2), none⟩,
    ⟨(some 20), .mov (.tmp 0), none⟩,
    ⟨(some 21), .toInt .u8 (.tmp 20), none⟩,
    ⟨(some 22), .idxStr (.con (.str [0, 1, 2, 2, 3, 3, 3, 3, 4, 4, 4, 4, 4, 4, 4, 4, 5, 5, 5, 5, 5, 5, 5, 5, 5, 5, 5, 5, 5, 5, 5, 5, 6, 6, 6, 6, 6, 6, 6, 6, 6, 6, 6, 6, 6, 6, 6, 6, 6, 6, 6, 6, 6, 6, 6, 6, 6, 6, 6, 6, 6, 6, 6, 6, 7, 7, 7, 7, 7, 7, 7, 7, 7, 7, 7, 7, 7, 7, 7, 7, 7, 7, 7, 7, 7, 7, 7, 7, 7, 7, 7, 7, 7, 7, 7, 7, 7, 7, 7, 7, 7, 7, 7, 7, 7, 7, 7, 7, 7, 7, 7, 7, 7, 7, 7, 7, 7, 7, 7, 7, 7, 7, 7, 7, 7, 7, 7, 7, 8, 8, 8, 8, 8, 8, 8, 8, 8, 8, 8, 8, 8, 8, 8, 8, 8, 8, 8, 8, 8, 8, 8, 8, 8, 8, 8, 8, 8, 8, 8, 8, 8, 8, 8, 8, 8, 8, 8, 8, 8, 8, 8, 8, 8, 8, 8, 8, 8, 8, 8, 8, 8, 8, 8, 8, 8, 8, 8, 8, 8, 8, 8, 8, 8, 8, 8, 8, 8, 8, 8, 8, 8, 8, 8, 8, 8, 8, 8, 8, 8, 8, 8, 8, 8, 8, 8, 8, 8, 8, 8, 8, 8, 8, 8, 8, 8, 8, 8, 8, 8, 8, 8, 8, 8, 8, 8, 8, 8, 8, 8, 8, 8, 8, 8, 8, 8, 8, 8, 8, 8, 8, 8, 8, 8, 8, 8, 8])) (.tmp 21), none⟩,
    ⟨(some 23), .toInt .i64 (.tmp 22), none⟩,
    ⟨(some 24), .bin .add (.tmp 19) (.tmp 23), none⟩,
    ⟨(some 2), .mov (.tmp 24), none⟩])
  .ret)))))
def a38 : AFunc := ⟨1, c38, [.tmp 2]⟩

/- 28: slices.insertionSortOrdered[string] -/
def c28l0 : ACode := (.seq (.seq (.ops [⟨(some 16), .mov (.tmp 7), none⟩,
    ⟨(some 17), .mov (.tmp 1), none⟩,
    ⟨(some 18), .bin .gtr (.tmp 16) (.tmp 17), none⟩,
    ⟨(some 19), .mov (.tmp 18), none⟩,
    ⟨(some 20), .mov (.tmp 0), (some (19, true))⟩,
    ⟨(some 21), .mov (.tmp 7), (some (19, true))⟩,
    ⟨(some 22), .idxAddr 1 (.tmp 20) (.tmp 21), (some (19, true))⟩,
    ⟨(some 23), .load false 1 (.tmp 22), (some (19, true))⟩,
    ⟨(some 24), .mov (.tmp 0), (some (19, true))⟩,
    ⟨(some 25), .mov (.tmp 7), (some (19, true))⟩,
    ⟨(some 26), .bin .sub (.tmp 25) (.con (.int .i64 1)), (some (19, true))⟩,
    ⟨(some 27), .idxAddr 1 (.tmp 24) (.tmp 26), (some (19, true))⟩,
    ⟨(some 28), .load false 1 (.tmp 27), (some (19, true))⟩,
    ⟨(some 29), .call 34 [(.tmp 23), (.tmp 28)], (some (19, true))⟩,
    ⟨(some 30), .pick (.tmp 19) (.tmp 29) (.con (.bool false)), none⟩])
  (.cond (.tmp 30)
  .skip
  (.exit 2)))
  (.seq (.block 3 (.ops [⟨(some 33), .mov (.tmp 0), none⟩,
    ⟨(some 34), .mov (.tmp 7), none⟩,
    ⟨(some 35), .mov (.tmp 0), none⟩,
    ⟨(some 36), .mov (.tmp 7), none⟩,
    ⟨(some 37), .bin .sub (.tmp 36) (.con (.int .i64 1)), none⟩,
    ⟨(some 38), .mov (.tmp 0), none⟩,
    ⟨(some 39), .mov (.tmp 7), none⟩,
    ⟨(some 40), .bin .sub (.tmp 39) (.con (.int .i64 1)), none⟩,
    ⟨(some 41), .idxAddr 1 (.tmp 38) (.tmp 40), none⟩,
    ⟨(some 42), .load false 1 (.tmp 41), none⟩,
    ⟨(some 43), .mov (.tmp 0), none⟩,
    ⟨(some 44), .mov (.tmp 7), none⟩,
    ⟨(some 45), .idxAddr 1 (.tmp 43) (.tmp 44), none⟩,
    ⟨(some 46), .load false 1 (.tmp 45), none⟩,
    ⟨(some 47), .idxAddr 1 (.tmp 33) (.tmp 34), none⟩,
    ⟨none, .store 1 (.tmp 47) (.tmp 42), none⟩,
    ⟨(some 48), .idxAddr 1 (.tmp 35) (.tmp 37), none⟩,
    ⟨none, .store 1 (.tmp 48) (.tmp 46), none⟩]))
  (.ops [⟨(some 31), .mov (.tmp 7), none⟩,
    ⟨(some 32), .bin .sub (.tmp 31) (.con (.int .i64 1)), none⟩,
    ⟨(some 7), .mov (.tmp 32), none⟩])))
def c28l1 : ACode := (.seq (.seq (.ops [⟨(some 10), .mov (.tmp 6), none⟩,
    ⟨(some 11), .mov (.tmp 2), none⟩,
    ⟨(some 12), .bin .lss (.tmp 10) (.tmp 11), none⟩])
  (.cond (.tmp 12)
  .skip
  (.exit 0)))
  (.seq (.block 1 (.seq (.ops [⟨(some 15), .mov (.tmp 6), none⟩,
    ⟨(some 7), .mov (.tmp 15), none⟩])
  (.block 2 (.loop c28l0))))
  (.ops [⟨(some 13), .mov (.tmp 6), none⟩,
    ⟨(some 14), .bin .add (.tmp 13) (.con (.int .i64 1)), none⟩,
    ⟨(some 6), .mov (.tmp 14), none⟩])))
def c28 : ACode := (.seq (.ops [⟨(some 8), .mov (.tmp 1), none⟩,
    ⟨(some 9), .bin .add (.tmp 8) (.con (.int .i64 1)), none⟩,
    ⟨(some 6), .mov (.tmp 9), none⟩])
  (.block 0 (.loop c28l1)))
def a28 : AFunc := ⟨3, c28, []⟩

/- 29: slices.heapSortOrdered[string] -/
def c29l0 : ACode := (.seq (.seq (.ops [⟨(some 18), .mov (.tmp 9), none⟩,
    ⟨(some 19), .bin .geq (.tmp 18) (.con (.int .i64 0)), none⟩])
  (.cond (.tmp 19)
  .skip
  (.exit 0)))
  (.seq (.block 1 (.ops [⟨(some 22), .mov (.tmp 0), none⟩,
    ⟨(some 23), .mov (.tmp 9), none⟩,
    ⟨(some 24), .mov (.tmp 8), none⟩,
    ⟨(some 25), .mov (.tmp 6), none⟩,
    ⟨(some 26), .call 42 [(.tmp 22), (.tmp 23), (.tmp 24), (.tmp 25)], none⟩]))
  (.ops [⟨(some 20), .mov (.tmp 9), none⟩,
    ⟨(some 21), .bin .sub (.tmp 20) (.con (.int .i64 1)), none⟩,
    ⟨(some 9), .mov (.tmp 21), none⟩])))
def c29l1 : ACode := (.seq (.seq (.ops [⟨(some 29), .mov (.tmp 10), none⟩,
    ⟨(some 30), .bin .geq (.tmp 29) (.con (.int .i64 0)), none⟩])
  (.cond (.tmp 30)
  .skip
  (.exit 2)))
  (.seq (.block 3 (.seq (.ops [⟨(some 33), .mov (.tmp 0), none⟩,
    ⟨(some 34), .mov (.tmp 6), none⟩,
    ⟨(some 35), .mov (.tmp 0), none⟩,
    ⟨(some 36), .mov (.tmp 6), none⟩,
    ⟨(some 37), .mov (.tmp 10), none⟩,
    ⟨(some 38), .bin .add (.tmp 36) (.tmp 37), none⟩,
    ⟨(some 39), .mov (.tmp 0), none⟩,
    ⟨(some 40), .mov (.tmp 6), none⟩,
    ⟨(some 41), .mov (.tmp 10), none⟩,
    ⟨(some 42), .bin .add (.tmp 40) (.tmp 41), none⟩,
    ⟨(some 43), .idxAddr 1 (.tmp 39) (.tmp 42), none⟩,
    ⟨(some 44), .load false 1 (.tmp 43), none⟩,
    ⟨(some 45), .mov (.tmp 0), none⟩,
    ⟨(some 46), .mov (.tmp 6), none⟩,
    ⟨(some 47), .idxAddr 1 (.tmp 45) (.tmp 46), none⟩,
    ⟨(some 48), .load false 1 (.tmp 47), none⟩,
    ⟨(some 49), .idxAddr 1 (.tmp 33) (.tmp 34), none⟩,
    ⟨none, .store 1 (.tmp 49) (.tmp 44), none⟩,
    ⟨(some 50), .idxAddr 1 (.tmp 35) (.tmp 38), none⟩,
    ⟨none, .store 1 (.tmp 50) (.tmp 48), none⟩])
  (.ops [⟨(some 51), .mov (.tmp 0), none⟩,
    ⟨(some 52), .mov (.tmp 7), none⟩,
    ⟨(some 53), .mov (.tmp 10), none⟩,
    ⟨(some 54), .mov (.tmp 6), none⟩,
    ⟨(some 55), .call 42 [(.tmp 51), (.tmp 52), (.tmp 53), (.tmp 54)], none⟩])))
  (.ops [⟨(some 31), .mov (.tmp 10), none⟩,
    ⟨(some 32), .bin .sub (.tmp 31) (.con (.int .i64 1)), none⟩,
    ⟨(some 10), .mov (.tmp 32), none⟩])))
def c29 : ACode := (.seq (.ops [⟨(some 11), .mov (.tmp 1), none⟩,
    ⟨(some 6), .mov (.tmp 11), none⟩])
  (.seq (.ops [⟨(some 7), .mov (.con (.int .i64 0)), none⟩])
  (.seq (.ops [⟨(some 12), .mov (.tmp 2), none⟩,
    ⟨(some 13), .mov (.tmp 1), none⟩,
    ⟨(some 14), .bin .sub (.tmp 12) (.tmp 13), none⟩,
    ⟨(some 8), .mov (.tmp 14), none⟩])
  (.seq (.seq (.ops [⟨(some 15), .mov (.tmp 8), none⟩,
    ⟨(some 16), .bin .sub (.tmp 15) (.con (.int .i64 1)), none⟩,
    ⟨(some 17), .bin .quo (.tmp 16) (.con (.int .i64 2)), none⟩,
    ⟨(some 9), .mov (.tmp 17), none⟩])
  (.block 0 (.loop c29l0)))
  (.seq (.ops [⟨(some 27), .mov (.tmp 8), none⟩,
    ⟨(some 28), .bin .sub (.tmp 27) (.con (.int .i64 1)), none⟩,
    ⟨(some 10), .mov (.tmp 28), none⟩])
  (.block 2 (.loop c29l1)))))))
def a29 : AFunc := ⟨3, c29, []⟩

/- 30: slices.breakPatternsOrdered[string] -/
def c30l0 : ACode := (.seq (.seq (.ops [⟨(some 26), .mov (.tmp 9), none⟩,
    ⟨(some 27), .mov (.tmp 1), none⟩,
    ⟨(some 28), .mov (.tmp 6), none⟩,
    ⟨(some 29), .bin .quo (.tmp 28) (.con (.int .i64 4)), none⟩,
    ⟨(some 30), .bin .mul (.tmp 29) (.con (.int .i64 2)), none⟩,
    ⟨(some 31), .bin .add (.tmp 27) (.tmp 30), none⟩,
    ⟨(some 32), .bin .add (.tmp 31) (.con (.int .i64 1)), none⟩,
    ⟨(some 33), .bin .leq (.tmp 26) (.tmp 32), none⟩])
  (.cond (.tmp 33)
  .skip
  (.exit 0)))
  (.seq (.block 1 (.seq (.ops [⟨(some 36), .call 44 [(.tmp 7)], none⟩,
    ⟨(some 37), .mov (.tmp 8), none⟩,
    ⟨(some 38), .bin .sub (.tmp 37) (.con (.int .u64 1)), none⟩,
    ⟨(some 39), .bin .and (.tmp 36) (.tmp 38), none⟩,
    ⟨(some 40), .toInt .i64 (.tmp 39), none⟩,
    ⟨(some 10), .mov (.tmp 40), none⟩])
  (.seq (.seq (.ops [⟨(some 41), .mov (.tmp 10), none⟩,
    ⟨(some 42), .mov (.tmp 6), none⟩,
    ⟨(some 43), .bin .geq (.tmp 41) (.tmp 42), none⟩])
  (.cond (.tmp 43)
  (.ops [⟨(some 44), .mov (.tmp 10), none⟩,
    ⟨(some 45), .mov (.tmp 6), none⟩,
    ⟨(some 46), .bin .sub (.tmp 44) (.tmp 45), none⟩,
    ⟨(some 10), .mov (.tmp 46), none⟩])
  .skip))
  (.ops [⟨(some 47), .mov (.tmp 0), none⟩,
    ⟨(some 48), .mov (.tmp 9), none⟩,
    ⟨(some 49), .mov (.tmp 0), none⟩,
    ⟨(some 50), .mov (.tmp 1), none⟩,
    ⟨(some 51), .mov (.tmp 10), none⟩,
    ⟨(some 52), .bin .add (.tmp 50) (.tmp 51), none⟩,
    ⟨(some 53), .mov (.tmp 0), none⟩,
    ⟨(some 54), .mov (.tmp 1), none⟩,
    ⟨(some 55), .mov (.tmp 10), none⟩,
    ⟨(some 56), .bin .add (.tmp 54) (.tmp 55), none⟩,
    ⟨(some 57), .idxAddr 1 (.tmp 53) (.tmp 56), none⟩,
    ⟨(some 58), .load false 1 (.tmp 57), none⟩,
    ⟨(some 59), .mov (.tmp 0), none⟩,
    ⟨(some 60), .mov (.tmp 9), none⟩,
    ⟨(some 61), .idxAddr 1 (.tmp 59) (.tmp 60), none⟩,
    ⟨(some 62), .load false 1 (.tmp 61), none⟩,
    ⟨(some 63), .idxAddr 1 (.tmp 47) (.tmp 48), none⟩,
    ⟨none, .store 1 (.tmp 63) (.tmp 58), none⟩,
    ⟨(some 64), .idxAddr 1 (.tmp 49) (.tmp 52), none⟩,
    ⟨none, .store 1 (.tmp 64) (.tmp 62), none⟩]))))
  (.ops [⟨(some 34), .mov (.tmp 9), none⟩,
    ⟨(some 35), .bin .add (.tmp 34) (.con (.int .i64 1)), none⟩,
    ⟨(some 9), .mov (.tmp 35), none⟩])))
def c30 : ACode := (.seq (.ops [⟨(some 11), .mov (.tmp 2), none⟩,
    ⟨(some 12), .mov (.tmp 1), none⟩,
    ⟨(some 13), .bin .sub (.tmp 11) (.tmp 12), none⟩,
    ⟨(some 6), .mov (.tmp 13), none⟩])
  (.seq (.ops [⟨(some 14), .mov (.tmp 6), none⟩,
    ⟨(some 15), .bin .geq (.tmp 14) (.con (.int .i64 8)), none⟩])
  (.cond (.tmp 15)
  (.seq (.ops [⟨(some 16), .mov (.tmp 6), none⟩,
    ⟨(some 17), .toInt .u64 (.tmp 16), none⟩,
    ⟨(some 7), .new [(.int .u64 0)], none⟩,
    ⟨none, .store 1 (.tmp 7) (.tmp 17), none⟩])
  (.seq (.ops [⟨(some 18), .mov (.tmp 6), none⟩,
    ⟨(some 19), .call 43 [(.tmp 18)], none⟩,
    ⟨(some 8), .mov (.tmp 19), none⟩])
  (.seq (.ops [⟨(some 20), .mov (.tmp 1), none⟩,
    ⟨(some 21), .mov (.tmp 6), none⟩,
    ⟨(some 22), .bin .quo (.tmp 21) (.con (.int .i64 4)), none⟩,
    ⟨(some 23), .bin .mul (.tmp 22) (.con (.int .i64 2)), none⟩,
    ⟨(some 24), .bin .add (.tmp 20) (.tmp 23), none⟩,
    ⟨(some 25), .bin .sub (.tmp 24) (.con (.int .i64 1)), none⟩,
    ⟨(some 9), .mov (.tmp 25), none⟩])
  (.block 0 (.loop c30l0)))))
  .skip)))
def a30 : AFunc := ⟨3, c30, []⟩

/- 31: slices.choosePivotOrdered[string] -/
def c31 : ACode := (.seq (.ops [⟨(some 6), .mov (.con (.int .i64 0)), none⟩,
    ⟨(some 7), .mov (.con (.int .i64 0)), none⟩])
  (.seq (.ops [⟨(some 13), .mov (.tmp 2), none⟩,
    ⟨(some 14), .mov (.tmp 1), none⟩,
    ⟨(some 15), .bin .sub (.tmp 13) (.tmp 14), none⟩,
    ⟨(some 8), .mov (.tmp 15), none⟩])
  (.seq (.ops [⟨(some 9), .new [(.int .i64 0)], none⟩])
  (.seq (.ops [⟨(some 16), .mov (.tmp 1), none⟩,
    ⟨(some 17), .mov (.tmp 8), none⟩,
    ⟨(some 18), .bin .quo (.tmp 17) (.con (.int .i64 4)), none⟩,
    ⟨(some 19), .bin .mul (.tmp 18) (.con (.int .i64 1)), none⟩,
    ⟨(some 20), .bin .add (.tmp 16) (.tmp 19), none⟩,
    ⟨(some 10), .mov (.tmp 20), none⟩])
  (.seq (.ops [⟨(some 21), .mov (.tmp 1), none⟩,
    ⟨(some 22), .mov (.tmp 8), none⟩,
    ⟨(some 23), .bin .quo (.tmp 22) (.con (.int .i64 4)), none⟩,
    ⟨(some 24), .bin .mul (.tmp 23) (.con (.int .i64 2)), none⟩,
    ⟨(some 25), .bin .add (.tmp 21) (.tmp 24), none⟩,
    ⟨(some 11), .mov (.tmp 25), none⟩])
  (.seq (.ops [⟨(some 26), .mov (.tmp 1), none⟩,
    ⟨(some 27), .mov (.tmp 8), none⟩,
    ⟨(some 28), .bin .quo (.tmp 27) (.con (.int .i64 4)), none⟩,
    ⟨(some 29), .bin .mul (.tmp 28) (.con (.int .i64 3)), none⟩,
    ⟨(some 30), .bin .add (.tmp 26) (.tmp 29), none⟩,
    ⟨(some 12), .mov (.tmp 30), none⟩])
  (.seq (.seq (.ops [⟨(some 31), .mov (.tmp 8), none⟩,
    ⟨(some 32), .bin .geq (.tmp 31) (.con (.int .i64 8)), none⟩])
  (.cond (.tmp 32)
  (.seq (.seq (.ops [⟨(some 33), .mov (.tmp 8), none⟩,
    ⟨(some 34), .bin .geq (.tmp 33) (.con (.int .i64 50)), none⟩])
  (.cond (.tmp 34)
  (.seq (.ops [⟨(some 35), .mov (.tmp 0), none⟩,
    ⟨(some 36), .mov (.tmp 10), none⟩,
    ⟨(some 37), .call 45 [(.tmp 35), (.tmp 36), (.tmp 9)], none⟩,
    ⟨(some 10), .mov (.tmp 37), none⟩])
  (.seq (.ops [⟨(some 38), .mov (.tmp 0), none⟩,
    ⟨(some 39), .mov (.tmp 11), none⟩,
    ⟨(some 40), .call 45 [(.tmp 38), (.tmp 39), (.tmp 9)], none⟩,
    ⟨(some 11), .mov (.tmp 40), none⟩])
  (.ops [⟨(some 41), .mov (.tmp 0), none⟩,
    ⟨(some 42), .mov (.tmp 12), none⟩,
    ⟨(some 43), .call 45 [(.tmp 41), (.tmp 42), (.tmp 9)], none⟩,
    ⟨(some 12), .mov (.tmp 43), none⟩])))
  .skip))
  (.ops [⟨(some 44), .mov (.tmp 0), none⟩,
    ⟨(some 45), .mov (.tmp 10), none⟩,
    ⟨(some 46), .mov (.tmp 11), none⟩,
    ⟨(some 47), .mov (.tmp 12), none⟩,
    ⟨(some 48), .call 46 [(.tmp 44), (.tmp 45), (.tmp 46), (.tmp 47), (.tmp 9)], none⟩,
    ⟨(some 11), .mov (.tmp 48), none⟩]))
  .skip))
  (.seq (.ops [⟨(some 49), .load false 1 (.tmp 9), none⟩])
  (.block 0 (.seq (.ops [⟨(some 52), .bin .eql (.tmp 49) (.con (.int .i64 0)), none⟩,
    ⟨(some 51), .mov (.tmp 52), none⟩])
  (.cond (.tmp 51)
  (.seq (.ops [⟨(some 53), .mov (.tmp 11), none⟩,
    ⟨(some 6), .mov (.tmp 53), none⟩,
    ⟨(some 7), .mov (.con (.int .i64 1)), none⟩])
  .ret)
  (.seq (.ops [⟨(some 55), .bin .eql (.tmp 49) (.con (.int .i64 12)), none⟩,
    ⟨(some 54), .mov (.tmp 55), none⟩])
  (.cond (.tmp 54)
  (.seq (.ops [⟨(some 56), .mov (.tmp 11), none⟩,
    ⟨(some 6), .mov (.tmp 56), none⟩,
    ⟨(some 7), .mov (.con (.int .i64 2)), none⟩])
  .ret)
  (.seq (.ops [⟨(some 50), .mov (.tmp 11), none⟩,
    ⟨(some 6), .mov (.tmp 50), none⟩,
    ⟨(some 7), .mov (.con (.int .i64 0)), none⟩])
  .ret))))))))))))))
def a31 : AFunc := ⟨3, c31, [.tmp 6, .tmp 7]⟩

/- 32: slices.reverseRangeOrdered[string] -/
def c32l0 : ACode := (.seq (.seq (.ops [⟨(some 11), .mov (.tmp 6), none⟩,
    ⟨(some 12), .mov (.tmp 7), none⟩,
    ⟨(some 13), .bin .lss (.tmp 11) (.tmp 12), none⟩])
  (.cond (.tmp 13)
  .skip
  (.exit 0)))
  (.block 1 (.seq (.ops [⟨(some 14), .mov (.tmp 0), none⟩,
    ⟨(some 15), .mov (.tmp 6), none⟩,
    ⟨(some 16), .mov (.tmp 0), none⟩,
    ⟨(some 17), .mov (.tmp 7), none⟩,
    ⟨(some 18), .mov (.tmp 0), none⟩,
    ⟨(some 19), .mov (.tmp 7), none⟩,
    ⟨(some 20), .idxAddr 1 (.tmp 18) (.tmp 19), none⟩,
    ⟨(some 21), .load false 1 (.tmp 20), none⟩,
    ⟨(some 22), .mov (.tmp 0), none⟩,
    ⟨(some 23), .mov (.tmp 6), none⟩,
    ⟨(some 24), .idxAddr 1 (.tmp 22) (.tmp 23), none⟩,
    ⟨(some 25), .load false 1 (.tmp 24), none⟩,
    ⟨(some 26), .idxAddr 1 (.tmp 14) (.tmp 15), none⟩,
    ⟨none, .store 1 (.tmp 26) (.tmp 21), none⟩,
    ⟨(some 27), .idxAddr 1 (.tmp 16) (.tmp 17), none⟩,
    ⟨none, .store 1 (.tmp 27) (.tmp 25), none⟩])
  (.seq (.ops [⟨(some 28), .mov (.tmp 6), none⟩,
    ⟨(some 29), .bin .add (.tmp 28) (.con (.int .i64 1)), none⟩,
    ⟨(some 6), .mov (.tmp 29), none⟩])
  (.ops [⟨(some 30), .mov (.tmp 7), none⟩,
    ⟨(some 31), .bin .sub (.tmp 30) (.con (.int .i64 1)), none⟩,
    ⟨(some 7), .mov (.tmp 31), none⟩])))))
def c32 : ACode := (.seq (.ops [⟨(some 8), .mov (.tmp 1), none⟩,
    ⟨(some 6), .mov (.tmp 8), none⟩])
  (.seq (.ops [⟨(some 9), .mov (.tmp 2), none⟩,
    ⟨(some 10), .bin .sub (.tmp 9) (.con (.int .i64 1)), none⟩,
    ⟨(some 7), .mov (.tmp 10), none⟩])
  (.block 0 (.loop c32l0))))
def a32 : AFunc := ⟨3, c32, []⟩

/- 33: slices.partialInsertionSortOrdered[string] -/
def c33l0 : ACode := (.seq (.seq (.ops [⟨(some 17), .mov (.tmp 7), none⟩,
    ⟨(some 18), .mov (.tmp 2), none⟩,
    ⟨(some 19), .bin .lss (.tmp 17) (.tmp 18), none⟩,
    ⟨(some 20), .mov (.tmp 19), none⟩,
    ⟨(some 21), .mov (.tmp 0), (some (20, true))⟩,
    ⟨(some 22), .mov (.tmp 7), (some (20, true))⟩,
    ⟨(some 23), .idxAddr 1 (.tmp 21) (.tmp 22), (some (20, true))⟩,
    ⟨(some 24), .load false 1 (.tmp 23), (some (20, true))⟩,
    ⟨(some 25), .mov (.tmp 0), (some (20, true))⟩,
    ⟨(some 26), .mov (.tmp 7), (some (20, true))⟩,
    ⟨(some 27), .bin .sub (.tmp 26) (.con (.int .i64 1)), (some (20, true))⟩,
    ⟨(some 28), .idxAddr 1 (.tmp 25) (.tmp 27), (some (20, true))⟩,
    ⟨(some 29), .load false 1 (.tmp 28), (some (20, true))⟩,
    ⟨(some 30), .call 34 [(.tmp 24), (.tmp 29)], (some (20, true))⟩,
    ⟨(some 31), .un .not (.tmp 30), (some (20, true))⟩,
    ⟨(some 32), .pick (.tmp 20) (.tmp 31) (.con (.bool false)), none⟩])
  (.cond (.tmp 32)
  .skip
  (.exit 2)))
  (.block 3 (.ops [⟨(some 33), .mov (.tmp 7), none⟩,
    ⟨(some 34), .bin .add (.tmp 33) (.con (.int .i64 1)), none⟩,
    ⟨(some 7), .mov (.tmp 34), none⟩])))
def c33l1 : ACode := (.seq (.seq (.ops [⟨(some 64), .mov (.tmp 9), none⟩,
    ⟨(some 65), .bin .geq (.tmp 64) (.con (.int .i64 1)), none⟩])
  (.cond (.tmp 65)
  .skip
  (.exit 4)))
  (.seq (.block 5 (.seq (.seq (.ops [⟨(some 68), .mov (.tmp 0), none⟩,
    ⟨(some 69), .mov (.tmp 9), none⟩,
    ⟨(some 70), .idxAddr 1 (.tmp 68) (.tmp 69), none⟩,
    ⟨(some 71), .load false 1 (.tmp 70), none⟩,
    ⟨(some 72), .mov (.tmp 0), none⟩,
    ⟨(some 73), .mov (.tmp 9), none⟩,
    ⟨(some 74), .bin .sub (.tmp 73) (.con (.int .i64 1)), none⟩,
    ⟨(some 75), .idxAddr 1 (.tmp 72) (.tmp 74), none⟩,
    ⟨(some 76), .load false 1 (.tmp 75), none⟩,
    ⟨(some 77), .call 34 [(.tmp 71), (.tmp 76)], none⟩,
    ⟨(some 78), .un .not (.tmp 77), none⟩])
  (.cond (.tmp 78)
  (.exit 4)
  .skip))
  (.ops [⟨(some 79), .mov (.tmp 0), none⟩,
    ⟨(some 80), .mov (.tmp 9), none⟩,
    ⟨(some 81), .mov (.tmp 0), none⟩,
    ⟨(some 82), .mov (.tmp 9), none⟩,
    ⟨(some 83), .bin .sub (.tmp 82) (.con (.int .i64 1)), none⟩,
    ⟨(some 84), .mov (.tmp 0), none⟩,
    ⟨(some 85), .mov (.tmp 9), none⟩,
    ⟨(some 86), .bin .sub (.tmp 85) (.con (.int .i64 1)), none⟩,
    ⟨(some 87), .idxAddr 1 (.tmp 84) (.tmp 86), none⟩,
    ⟨(some 88), .load false 1 (.tmp 87), none⟩,
    ⟨(some 89), .mov (.tmp 0), none⟩,
    ⟨(some 90), .mov (.tmp 9), none⟩,
    ⟨(some 91), .idxAddr 1 (.tmp 89) (.tmp 90), none⟩,
    ⟨(some 92), .load false 1 (.tmp 91), none⟩,
    ⟨(some 93), .idxAddr 1 (.tmp 79) (.tmp 80), none⟩,
    ⟨none, .store 1 (.tmp 93) (.tmp 88), none⟩,
    ⟨(some 94), .idxAddr 1 (.tmp 81) (.tmp 83), none⟩,
    ⟨none, .store 1 (.tmp 94) (.tmp 92), none⟩])))
  (.ops [⟨(some 66), .mov (.tmp 9), none⟩,
    ⟨(some 67), .bin .sub (.tmp 66) (.con (.int .i64 1)), none⟩,
    ⟨(some 9), .mov (.tmp 67), none⟩])))
def c33l2 : ACode := (.seq (.seq (.ops [⟨(some 101), .mov (.tmp 10), none⟩,
    ⟨(some 102), .mov (.tmp 2), none⟩,
    ⟨(some 103), .bin .lss (.tmp 101) (.tmp 102), none⟩])
  (.cond (.tmp 103)
  .skip
  (.exit 6)))
  (.seq (.block 7 (.seq (.seq (.ops [⟨(some 106), .mov (.tmp 0), none⟩,
    ⟨(some 107), .mov (.tmp 10), none⟩,
    ⟨(some 108), .idxAddr 1 (.tmp 106) (.tmp 107), none⟩,
    ⟨(some 109), .load false 1 (.tmp 108), none⟩,
    ⟨(some 110), .mov (.tmp 0), none⟩,
    ⟨(some 111), .mov (.tmp 10), none⟩,
    ⟨(some 112), .bin .sub (.tmp 111) (.con (.int .i64 1)), none⟩,
    ⟨(some 113), .idxAddr 1 (.tmp 110) (.tmp 112), none⟩,
    ⟨(some 114), .load false 1 (.tmp 113), none⟩,
    ⟨(some 115), .call 34 [(.tmp 109), (.tmp 114)], none⟩,
    ⟨(some 116), .un .not (.tmp 115), none⟩])
  (.cond (.tmp 116)
  (.exit 6)
  .skip))
  (.ops [⟨(some 117), .mov (.tmp 0), none⟩,
    ⟨(some 118), .mov (.tmp 10), none⟩,
    ⟨(some 119), .mov (.tmp 0), none⟩,
    ⟨(some 120), .mov (.tmp 10), none⟩,
    ⟨(some 121), .bin .sub (.tmp 120) (.con (.int .i64 1)), none⟩,
    ⟨(some 122), .mov (.tmp 0), none⟩,
    ⟨(some 123), .mov (.tmp 10), none⟩,
    ⟨(some 124), .bin .sub (.tmp 123) (.con (.int .i64 1)), none⟩,
    ⟨(some 125), .idxAddr 1 (.tmp 122) (.tmp 124), none⟩,
    ⟨(some 126), .load false 1 (.tmp 125), none⟩,
    ⟨(some 127), .mov (.tmp 0), none⟩,
    ⟨(some 128), .mov (.tmp 10), none⟩,
    ⟨(some 129), .idxAddr 1 (.tmp 127) (.tmp 128), none⟩,
    ⟨(some 130), .load false 1 (.tmp 129), none⟩,
    ⟨(some 131), .idxAddr 1 (.tmp 117) (.tmp 118), none⟩,
    ⟨none, .store 1 (.tmp 131) (.tmp 126), none⟩,
    ⟨(some 132), .idxAddr 1 (.tmp 119) (.tmp 121), none⟩,
    ⟨none, .store 1 (.tmp 132) (.tmp 130), none⟩])))
  (.ops [⟨(some 104), .mov (.tmp 10), none⟩,
    ⟨(some 105), .bin .add (.tmp 104) (.con (.int .i64 1)), none⟩,
    ⟨(some 10), .mov (.tmp 105), none⟩])))
def c33l3 : ACode := (.seq (.seq (.ops [⟨(some 13), .mov (.tmp 8), none⟩,
    ⟨(some 14), .bin .lss (.tmp 13) (.con (.int .i64 5)), none⟩])
  (.cond (.tmp 14)
  .skip
  (.exit 0)))
  (.seq (.block 1 (.seq (.block 2 (.loop c33l0))
  (.seq (.seq (.ops [⟨(some 35), .mov (.tmp 7), none⟩,
    ⟨(some 36), .mov (.tmp 2), none⟩,
    ⟨(some 37), .bin .eql (.tmp 35) (.tmp 36), none⟩])
  (.cond (.tmp 37)
  (.seq (.ops [⟨(some 6), .mov (.con (.bool true)), none⟩])
  .ret)
  .skip))
  (.seq (.seq (.ops [⟨(some 38), .mov (.tmp 2), none⟩,
    ⟨(some 39), .mov (.tmp 1), none⟩,
    ⟨(some 40), .bin .sub (.tmp 38) (.tmp 39), none⟩,
    ⟨(some 41), .bin .lss (.tmp 40) (.con (.int .i64 50)), none⟩])
  (.cond (.tmp 41)
  (.seq (.ops [⟨(some 6), .mov (.con (.bool false)), none⟩])
  .ret)
  .skip))
  (.seq (.ops [⟨(some 42), .mov (.tmp 0), none⟩,
    ⟨(some 43), .mov (.tmp 7), none⟩,
    ⟨(some 44), .mov (.tmp 0), none⟩,
    ⟨(some 45), .mov (.tmp 7), none⟩,
    ⟨(some 46), .bin .sub (.tmp 45) (.con (.int .i64 1)), none⟩,
    ⟨(some 47), .mov (.tmp 0), none⟩,
    ⟨(some 48), .mov (.tmp 7), none⟩,
    ⟨(some 49), .bin .sub (.tmp 48) (.con (.int .i64 1)), none⟩,
    ⟨(some 50), .idxAddr 1 (.tmp 47) (.tmp 49), none⟩,
    ⟨(some 51), .load false 1 (.tmp 50), none⟩,
    ⟨(some 52), .mov (.tmp 0), none⟩,
    ⟨(some 53), .mov (.tmp 7), none⟩,
    ⟨(some 54), .idxAddr 1 (.tmp 52) (.tmp 53), none⟩,
    ⟨(some 55), .load false 1 (.tmp 54), none⟩,
    ⟨(some 56), .idxAddr 1 (.tmp 42) (.tmp 43), none⟩,
    ⟨none, .store 1 (.tmp 56) (.tmp 51), none⟩,
    ⟨(some 57), .idxAddr 1 (.tmp 44) (.tmp 46), none⟩,
    ⟨none, .store 1 (.tmp 57) (.tmp 55), none⟩])
  (.seq (.seq (.ops [⟨(some 58), .mov (.tmp 7), none⟩,
    ⟨(some 59), .mov (.tmp 1), none⟩,
    ⟨(some 60), .bin .sub (.tmp 58) (.tmp 59), none⟩,
    ⟨(some 61), .bin .geq (.tmp 60) (.con (.int .i64 2)), none⟩])
  (.cond (.tmp 61)
  (.seq (.ops [⟨(some 62), .mov (.tmp 7), none⟩,
    ⟨(some 63), .bin .sub (.tmp 62) (.con (.int .i64 1)), none⟩,
    ⟨(some 9), .mov (.tmp 63), none⟩])
  (.block 4 (.loop c33l1)))
  .skip))
  (.seq (.ops [⟨(some 95), .mov (.tmp 2), none⟩,
    ⟨(some 96), .mov (.tmp 7), none⟩,
    ⟨(some 97), .bin .sub (.tmp 95) (.tmp 96), none⟩,
    ⟨(some 98), .bin .geq (.tmp 97) (.con (.int .i64 2)), none⟩])
  (.cond (.tmp 98)
  (.seq (.ops [⟨(some 99), .mov (.tmp 7), none⟩,
    ⟨(some 100), .bin .add (.tmp 99) (.con (.int .i64 1)), none⟩,
    ⟨(some 10), .mov (.tmp 100), none⟩])
  (.block 6 (.loop c33l2)))
  .skip))))))))
  (.ops [⟨(some 15), .mov (.tmp 8), none⟩,
    ⟨(some 16), .bin .add (.tmp 15) (.con (.int .i64 1)), none⟩,
    ⟨(some 8), .mov (.tmp 16), none⟩])))
def c33 : ACode := (.seq (.ops [⟨(some 6), .mov (.con (.bool false)), none⟩])
  (.seq (.ops [⟨(some 11), .mov (.tmp 1), none⟩,
    ⟨(some 12), .bin .add (.tmp 11) (.con (.int .i64 1)), none⟩,
    ⟨(some 7), .mov (.tmp 12), none⟩])
  (.seq (.seq (.ops [⟨(some 8), .mov (.con (.int .i64 0)), none⟩])
  (.block 0 (.loop c33l3)))
  (.seq (.ops [⟨(some 6), .mov (.con (.bool false)), none⟩])
  .ret))))
def a33 : AFunc := ⟨3, c33, [.tmp 6]⟩

/- 34: cmp.Less[string] -/
def c34 : ACode := (.seq (.ops [⟨(some 4), .mov (.con (.bool false)), none⟩])
  (.seq (.ops [⟨(some 5), .mov (.tmp 0), none⟩,
    ⟨(some 6), .call 47 [(.tmp 5)], none⟩,
    ⟨(some 7), .mov (.tmp 6), none⟩,
    ⟨(some 8), .mov (.tmp 1), (some (7, true))⟩,
    ⟨(some 9), .call 47 [(.tmp 8)], (some (7, true))⟩,
    ⟨(some 10), .un .not (.tmp 9), (some (7, true))⟩,
    ⟨(some 11), .pick (.tmp 7) (.tmp 10) (.con (.bool false)), none⟩,
    ⟨(some 12), .mov (.tmp 11), none⟩,
    ⟨(some 13), .mov (.tmp 0), (some (12, false))⟩,
    ⟨(some 14), .mov (.tmp 1), (some (12, false))⟩,
    ⟨(some 15), .bin .lss (.tmp 13) (.tmp 14), (some (12, false))⟩,
    ⟨(some 16), .pick (.tmp 12) (.con (.bool true)) (.tmp 15), none⟩,
    ⟨(some 4), .mov (.tmp 16), none⟩])
  .ret))
def a34 : AFunc := ⟨2, c34, [.tmp 4]⟩

/- 35: slices.partitionEqualOrdered[string] -/
def c35l0 : ACode := (.seq (.seq (.ops [⟨(some 29), .mov (.tmp 9), none⟩,
    ⟨(some 30), .mov (.tmp 10), none⟩,
    ⟨(some 31), .bin .leq (.tmp 29) (.tmp 30), none⟩,
    ⟨(some 32), .mov (.tmp 31), none⟩,
    ⟨(some 33), .mov (.tmp 0), (some (32, true))⟩,
    ⟨(some 34), .mov (.tmp 1), (some (32, true))⟩,
    ⟨(some 35), .idxAddr 1 (.tmp 33) (.tmp 34), (some (32, true))⟩,
    ⟨(some 36), .load false 1 (.tmp 35), (some (32, true))⟩,
    ⟨(some 37), .mov (.tmp 0), (some (32, true))⟩,
    ⟨(some 38), .mov (.tmp 9), (some (32, true))⟩,
    ⟨(some 39), .idxAddr 1 (.tmp 37) (.tmp 38), (some (32, true))⟩,
    ⟨(some 40), .load false 1 (.tmp 39), (some (32, true))⟩,
    ⟨(some 41), .call 34 [(.tmp 36), (.tmp 40)], (some (32, true))⟩,
    ⟨(some 42), .un .not (.tmp 41), (some (32, true))⟩,
    ⟨(some 43), .pick (.tmp 32) (.tmp 42) (.con (.bool false)), none⟩])
  (.cond (.tmp 43)
  .skip
  (.exit 2)))
  (.block 3 (.ops [⟨(some 44), .mov (.tmp 9), none⟩,
    ⟨(some 45), .bin .add (.tmp 44) (.con (.int .i64 1)), none⟩,
    ⟨(some 9), .mov (.tmp 45), none⟩])))
def c35l1 : ACode := (.seq (.seq (.ops [⟨(some 46), .mov (.tmp 9), none⟩,
    ⟨(some 47), .mov (.tmp 10), none⟩,
    ⟨(some 48), .bin .leq (.tmp 46) (.tmp 47), none⟩,
    ⟨(some 49), .mov (.tmp 48), none⟩,
    ⟨(some 50), .mov (.tmp 0), (some (49, true))⟩,
    ⟨(some 51), .mov (.tmp 1), (some (49, true))⟩,
    ⟨(some 52), .idxAddr 1 (.tmp 50) (.tmp 51), (some (49, true))⟩,
    ⟨(some 53), .load false 1 (.tmp 52), (some (49, true))⟩,
    ⟨(some 54), .mov (.tmp 0), (some (49, true))⟩,
    ⟨(some 55), .mov (.tmp 10), (some (49, true))⟩,
    ⟨(some 56), .idxAddr 1 (.tmp 54) (.tmp 55), (some (49, true))⟩,
    ⟨(some 57), .load false 1 (.tmp 56), (some (49, true))⟩,
    ⟨(some 58), .call 34 [(.tmp 53), (.tmp 57)], (some (49, true))⟩,
    ⟨(some 59), .pick (.tmp 49) (.tmp 58) (.con (.bool false)), none⟩])
  (.cond (.tmp 59)
  .skip
  (.exit 4)))
  (.block 5 (.ops [⟨(some 60), .mov (.tmp 10), none⟩,
    ⟨(some 61), .bin .sub (.tmp 60) (.con (.int .i64 1)), none⟩,
    ⟨(some 10), .mov (.tmp 61), none⟩])))
def c35l2 : ACode := (.block 1 (.seq (.block 2 (.loop c35l0))
  (.seq (.block 4 (.loop c35l1))
  (.seq (.seq (.ops [⟨(some 62), .mov (.tmp 9), none⟩,
    ⟨(some 63), .mov (.tmp 10), none⟩,
    ⟨(some 64), .bin .gtr (.tmp 62) (.tmp 63), none⟩])
  (.cond (.tmp 64)
  (.exit 0)
  .skip))
  (.seq (.ops [⟨(some 65), .mov (.tmp 0), none⟩,
    ⟨(some 66), .mov (.tmp 9), none⟩,
    ⟨(some 67), .mov (.tmp 0), none⟩,
    ⟨(some 68), .mov (.tmp 10), none⟩,
    ⟨(some 69), .mov (.tmp 0), none⟩,
    ⟨(some 70), .mov (.tmp 10), none⟩,
    ⟨(some 71), .idxAddr 1 (.tmp 69) (.tmp 70), none⟩,
    ⟨(some 72), .load false 1 (.tmp 71), none⟩,
    ⟨(some 73), .mov (.tmp 0), none⟩,
    ⟨(some 74), .mov (.tmp 9), none⟩,
    ⟨(some 75), .idxAddr 1 (.tmp 73) (.tmp 74), none⟩,
    ⟨(some 76), .load false 1 (.tmp 75), none⟩,
    ⟨(some 77), .idxAddr 1 (.tmp 65) (.tmp 66), none⟩,
    ⟨none, .store 1 (.tmp 77) (.tmp 72), none⟩,
    ⟨(some 78), .idxAddr 1 (.tmp 67) (.tmp 68), none⟩,
    ⟨none, .store 1 (.tmp 78) (.tmp 76), none⟩])
  (.seq (.ops [⟨(some 79), .mov (.tmp 9), none⟩,
    ⟨(some 80), .bin .add (.tmp 79) (.con (.int .i64 1)), none⟩,
    ⟨(some 9), .mov (.tmp 80), none⟩])
  (.ops [⟨(some 81), .mov (.tmp 10), none⟩,
    ⟨(some 82), .bin .sub (.tmp 81) (.con (.int .i64 1)), none⟩,
    ⟨(some 10), .mov (.tmp 82), none⟩])))))))
def c35 : ACode := (.seq (.ops [⟨(some 8), .mov (.con (.int .i64 0)), none⟩])
  (.seq (.ops [⟨(some 11), .mov (.tmp 0), none⟩,
    ⟨(some 12), .mov (.tmp 1), none⟩,
    ⟨(some 13), .mov (.tmp 0), none⟩,
    ⟨(some 14), .mov (.tmp 3), none⟩,
    ⟨(some 15), .mov (.tmp 0), none⟩,
    ⟨(some 16), .mov (.tmp 3), none⟩,
    ⟨(some 17), .idxAddr 1 (.tmp 15) (.tmp 16), none⟩,
    ⟨(some 18), .load false 1 (.tmp 17), none⟩,
    ⟨(some 19), .mov (.tmp 0), none⟩,
    ⟨(some 20), .mov (.tmp 1), none⟩,
    ⟨(some 21), .idxAddr 1 (.tmp 19) (.tmp 20), none⟩,
    ⟨(some 22), .load false 1 (.tmp 21), none⟩,
    ⟨(some 23), .idxAddr 1 (.tmp 11) (.tmp 12), none⟩,
    ⟨none, .store 1 (.tmp 23) (.tmp 18), none⟩,
    ⟨(some 24), .idxAddr 1 (.tmp 13) (.tmp 14), none⟩,
    ⟨none, .store 1 (.tmp 24) (.tmp 22), none⟩])
  (.seq (.ops [⟨(some 25), .mov (.tmp 1), none⟩,
    ⟨(some 26), .bin .add (.tmp 25) (.con (.int .i64 1)), none⟩,
    ⟨(some 27), .mov (.tmp 2), none⟩,
    ⟨(some 28), .bin .sub (.tmp 27) (.con (.int .i64 1)), none⟩,
    ⟨(some 9), .mov (.tmp 26), none⟩,
    ⟨(some 10), .mov (.tmp 28), none⟩])
  (.seq (.block 0 (.loop c35l2))
  (.seq (.ops [⟨(some 83), .mov (.tmp 9), none⟩,
    ⟨(some 8), .mov (.tmp 83), none⟩])
  .ret)))))
def a35 : AFunc := ⟨4, c35, [.tmp 8]⟩

/- 36: slices.partitionOrdered[string] -/
def c36l0 : ACode := (.seq (.seq (.ops [⟨(some 30), .mov (.tmp 10), none⟩,
    ⟨(some 31), .mov (.tmp 11), none⟩,
    ⟨(some 32), .bin .leq (.tmp 30) (.tmp 31), none⟩,
    ⟨(some 33), .mov (.tmp 32), none⟩,
    ⟨(some 34), .mov (.tmp 0), (some (33, true))⟩,
    ⟨(some 35), .mov (.tmp 10), (some (33, true))⟩,
    ⟨(some 36), .idxAddr 1 (.tmp 34) (.tmp 35), (some (33, true))⟩,
    ⟨(some 37), .load false 1 (.tmp 36), (some (33, true))⟩,
    ⟨(some 38), .mov (.tmp 0), (some (33, true))⟩,
    ⟨(some 39), .mov (.tmp 1), (some (33, true))⟩,
    ⟨(some 40), .idxAddr 1 (.tmp 38) (.tmp 39), (some (33, true))⟩,
    ⟨(some 41), .load false 1 (.tmp 40), (some (33, true))⟩,
    ⟨(some 42), .call 34 [(.tmp 37), (.tmp 41)], (some (33, true))⟩,
    ⟨(some 43), .pick (.tmp 33) (.tmp 42) (.con (.bool false)), none⟩])
  (.cond (.tmp 43)
  .skip
  (.exit 0)))
  (.block 1 (.ops [⟨(some 44), .mov (.tmp 10), none⟩,
    ⟨(some 45), .bin .add (.tmp 44) (.con (.int .i64 1)), none⟩,
    ⟨(some 10), .mov (.tmp 45), none⟩])))
def c36l1 : ACode := (.seq (.seq (.ops [⟨(some 46), .mov (.tmp 10), none⟩,
    ⟨(some 47), .mov (.tmp 11), none⟩,
    ⟨(some 48), .bin .leq (.tmp 46) (.tmp 47), none⟩,
    ⟨(some 49), .mov (.tmp 48), none⟩,
    ⟨(some 50), .mov (.tmp 0), (some (49, true))⟩,
    ⟨(some 51), .mov (.tmp 11), (some (49, true))⟩,
    ⟨(some 52), .idxAddr 1 (.tmp 50) (.tmp 51), (some (49, true))⟩,
    ⟨(some 53), .load false 1 (.tmp 52), (some (49, true))⟩,
    ⟨(some 54), .mov (.tmp 0), (some (49, true))⟩,
    ⟨(some 55), .mov (.tmp 1), (some (49, true))⟩,
    ⟨(some 56), .idxAddr 1 (.tmp 54) (.tmp 55), (some (49, true))⟩,
    ⟨(some 57), .load false 1 (.tmp 56), (some (49, true))⟩,
    ⟨(some 58), .call 34 [(.tmp 53), (.tmp 57)], (some (49, true))⟩,
    ⟨(some 59), .un .not (.tmp 58), (some (49, true))⟩,
    ⟨(some 60), .pick (.tmp 49) (.tmp 59) (.con (.bool false)), none⟩])
  (.cond (.tmp 60)
  .skip
  (.exit 2)))
  (.block 3 (.ops [⟨(some 61), .mov (.tmp 11), none⟩,
    ⟨(some 62), .bin .sub (.tmp 61) (.con (.int .i64 1)), none⟩,
    ⟨(some 11), .mov (.tmp 62), none⟩])))
def c36l2 : ACode := (.seq (.seq (.ops [⟨(some 99), .mov (.tmp 10), none⟩,
    ⟨(some 100), .mov (.tmp 11), none⟩,
    ⟨(some 101), .bin .leq (.tmp 99) (.tmp 100), none⟩,
    ⟨(some 102), .mov (.tmp 101), none⟩,
    ⟨(some 103), .mov (.tmp 0), (some (102, true))⟩,
    ⟨(some 104), .mov (.tmp 10), (some (102, true))⟩,
    ⟨(some 105), .idxAddr 1 (.tmp 103) (.tmp 104), (some (102, true))⟩,
    ⟨(some 106), .load false 1 (.tmp 105), (some (102, true))⟩,
    ⟨(some 107), .mov (.tmp 0), (some (102, true))⟩,
    ⟨(some 108), .mov (.tmp 1), (some (102, true))⟩,
    ⟨(some 109), .idxAddr 1 (.tmp 107) (.tmp 108), (some (102, true))⟩,
    ⟨(some 110), .load false 1 (.tmp 109), (some (102, true))⟩,
    ⟨(some 111), .call 34 [(.tmp 106), (.tmp 110)], (some (102, true))⟩,
    ⟨(some 112), .pick (.tmp 102) (.tmp 111) (.con (.bool false)), none⟩])
  (.cond (.tmp 112)
  .skip
  (.exit 6)))
  (.block 7 (.ops [⟨(some 113), .mov (.tmp 10), none⟩,
    ⟨(some 114), .bin .add (.tmp 113) (.con (.int .i64 1)), none⟩,
    ⟨(some 10), .mov (.tmp 114), none⟩])))
def c36l3 : ACode := (.seq (.seq (.ops [⟨(some 115), .mov (.tmp 10), none⟩,
    ⟨(some 116), .mov (.tmp 11), none⟩,
    ⟨(some 117), .bin .leq (.tmp 115) (.tmp 116), none⟩,
    ⟨(some 118), .mov (.tmp 117), none⟩,
    ⟨(some 119), .mov (.tmp 0), (some (118, true))⟩,
    ⟨(some 120), .mov (.tmp 11), (some (118, true))⟩,
    ⟨(some 121), .idxAddr 1 (.tmp 119) (.tmp 120), (some (118, true))⟩,
    ⟨(some 122), .load false 1 (.tmp 121), (some (118, true))⟩,
    ⟨(some 123), .mov (.tmp 0), (some (118, true))⟩,
    ⟨(some 124), .mov (.tmp 1), (some (118, true))⟩,
    ⟨(some 125), .idxAddr 1 (.tmp 123) (.tmp 124), (some (118, true))⟩,
    ⟨(some 126), .load false 1 (.tmp 125), (some (118, true))⟩,
    ⟨(some 127), .call 34 [(.tmp 122), (.tmp 126)], (some (118, true))⟩,
    ⟨(some 128), .un .not (.tmp 127), (some (118, true))⟩,
    ⟨(some 129), .pick (.tmp 118) (.tmp 128) (.con (.bool false)), none⟩])
  (.cond (.tmp 129)
  .skip
  (.exit 8)))
  (.block 9 (.ops [⟨(some 130), .mov (.tmp 11), none⟩,
    ⟨(some 131), .bin .sub (.tmp 130) (.con (.int .i64 1)), none⟩,
    ⟨(some 11), .mov (.tmp 131), none⟩])))
def c36l4 : ACode := (.block 5 (.seq (.block 6 (.loop c36l2))
  (.seq (.block 8 (.loop c36l3))
  (.seq (.seq (.ops [⟨(some 132), .mov (.tmp 10), none⟩,
    ⟨(some 133), .mov (.tmp 11), none⟩,
    ⟨(some 134), .bin .gtr (.tmp 132) (.tmp 133), none⟩])
  (.cond (.tmp 134)
  (.exit 4)
  .skip))
  (.seq (.ops [⟨(some 135), .mov (.tmp 0), none⟩,
    ⟨(some 136), .mov (.tmp 10), none⟩,
    ⟨(some 137), .mov (.tmp 0), none⟩,
    ⟨(some 138), .mov (.tmp 11), none⟩,
    ⟨(some 139), .mov (.tmp 0), none⟩,
    ⟨(some 140), .mov (.tmp 11), none⟩,
    ⟨(some 141), .idxAddr 1 (.tmp 139) (.tmp 140), none⟩,
    ⟨(some 142), .load false 1 (.tmp 141), none⟩,
    ⟨(some 143), .mov (.tmp 0), none⟩,
    ⟨(some 144), .mov (.tmp 10), none⟩,
    ⟨(some 145), .idxAddr 1 (.tmp 143) (.tmp 144), none⟩,
    ⟨(some 146), .load false 1 (.tmp 145), none⟩,
    ⟨(some 147), .idxAddr 1 (.tmp 135) (.tmp 136), none⟩,
    ⟨none, .store 1 (.tmp 147) (.tmp 142), none⟩,
    ⟨(some 148), .idxAddr 1 (.tmp 137) (.tmp 138), none⟩,
    ⟨none, .store 1 (.tmp 148) (.tmp 146), none⟩])
  (.seq (.ops [⟨(some 149), .mov (.tmp 10), none⟩,
    ⟨(some 150), .bin .add (.tmp 149) (.con (.int .i64 1)), none⟩,
    ⟨(some 10), .mov (.tmp 150), none⟩])
  (.ops [⟨(some 151), .mov (.tmp 11), none⟩,
    ⟨(some 152), .bin .sub (.tmp 151) (.con (.int .i64 1)), none⟩,
    ⟨(some 11), .mov (.tmp 152), none⟩])))))))
def c36 : ACode := (.seq (.ops [⟨(some 8), .mov (.con (.int .i64 0)), none⟩,
    ⟨(some 9), .mov (.con (.bool false)), none⟩])
  (.seq (.ops [⟨(some 12), .mov (.tmp 0), none⟩,
    ⟨(some 13), .mov (.tmp 1), none⟩,
    ⟨(some 14), .mov (.tmp 0), none⟩,
    ⟨(some 15), .mov (.tmp 3), none⟩,
    ⟨(some 16), .mov (.tmp 0), none⟩,
    ⟨(some 17), .mov (.tmp 3), none⟩,
    ⟨(some 18), .idxAddr 1 (.tmp 16) (.tmp 17), none⟩,
    ⟨(some 19), .load false 1 (.tmp 18), none⟩,
    ⟨(some 20), .mov (.tmp 0), none⟩,
    ⟨(some 21), .mov (.tmp 1), none⟩,
    ⟨(some 22), .idxAddr 1 (.tmp 20) (.tmp 21), none⟩,
    ⟨(some 23), .load false 1 (.tmp 22), none⟩,
    ⟨(some 24), .idxAddr 1 (.tmp 12) (.tmp 13), none⟩,
    ⟨none, .store 1 (.tmp 24) (.tmp 19), none⟩,
    ⟨(some 25), .idxAddr 1 (.tmp 14) (.tmp 15), none⟩,
    ⟨none, .store 1 (.tmp 25) (.tmp 23), none⟩])
  (.seq (.ops [⟨(some 26), .mov (.tmp 1), none⟩,
    ⟨(some 27), .bin .add (.tmp 26) (.con (.int .i64 1)), none⟩,
    ⟨(some 28), .mov (.tmp 2), none⟩,
    ⟨(some 29), .bin .sub (.tmp 28) (.con (.int .i64 1)), none⟩,
    ⟨(some 10), .mov (.tmp 27), none⟩,
    ⟨(some 11), .mov (.tmp 29), none⟩])
  (.seq (.block 0 (.loop c36l0))
  (.seq (.block 2 (.loop c36l1))
  (.seq (.seq (.ops [⟨(some 63), .mov (.tmp 10), none⟩,
    ⟨(some 64), .mov (.tmp 11), none⟩,
    ⟨(some 65), .bin .gtr (.tmp 63) (.tmp 64), none⟩])
  (.cond (.tmp 65)
  (.seq (.ops [⟨(some 66), .mov (.tmp 0), none⟩,
    ⟨(some 67), .mov (.tmp 11), none⟩,
    ⟨(some 68), .mov (.tmp 0), none⟩,
    ⟨(some 69), .mov (.tmp 1), none⟩,
    ⟨(some 70), .mov (.tmp 0), none⟩,
    ⟨(some 71), .mov (.tmp 1), none⟩,
    ⟨(some 72), .idxAddr 1 (.tmp 70) (.tmp 71), none⟩,
    ⟨(some 73), .load false 1 (.tmp 72), none⟩,
    ⟨(some 74), .mov (.tmp 0), none⟩,
    ⟨(some 75), .mov (.tmp 11), none⟩,
    ⟨(some 76), .idxAddr 1 (.tmp 74) (.tmp 75), none⟩,
    ⟨(some 77), .load false 1 (.tmp 76), none⟩,
    ⟨(some 78), .idxAddr 1 (.tmp 66) (.tmp 67), none⟩,
    ⟨none, .store 1 (.tmp 78) (.tmp 73), none⟩,
    ⟨(some 79), .idxAddr 1 (.tmp 68) (.tmp 69), none⟩,
    ⟨none, .store 1 (.tmp 79) (.tmp 77), none⟩])
  (.seq (.ops [⟨(some 80), .mov (.tmp 11), none⟩,
    ⟨(some 8), .mov (.tmp 80), none⟩,
    ⟨(some 9), .mov (.con (.bool true)), none⟩])
  .ret))
  .skip))
  (.seq (.ops [⟨(some 81), .mov (.tmp 0), none⟩,
    ⟨(some 82), .mov (.tmp 10), none⟩,
    ⟨(some 83), .mov (.tmp 0), none⟩,
    ⟨(some 84), .mov (.tmp 11), none⟩,
    ⟨(some 85), .mov (.tmp 0), none⟩,
    ⟨(some 86), .mov (.tmp 11), none⟩,
    ⟨(some 87), .idxAddr 1 (.tmp 85) (.tmp 86), none⟩,
    ⟨(some 88), .load false 1 (.tmp 87), none⟩,
    ⟨(some 89), .mov (.tmp 0), none⟩,
    ⟨(some 90), .mov (.tmp 10), none⟩,
    ⟨(some 91), .idxAddr 1 (.tmp 89) (.tmp 90), none⟩,
    ⟨(some 92), .load false 1 (.tmp 91), none⟩,
    ⟨(some 93), .idxAddr 1 (.tmp 81) (.tmp 82), none⟩,
    ⟨none, .store 1 (.tmp 93) (.tmp 88), none⟩,
    ⟨(some 94), .idxAddr 1 (.tmp 83) (.tmp 84), none⟩,
    ⟨none, .store 1 (.tmp 94) (.tmp 92), none⟩])
  (.seq (.ops [⟨(some 95), .mov (.tmp 10), none⟩,
    ⟨(some 96), .bin .add (.tmp 95) (.con (.int .i64 1)), none⟩,
    ⟨(some 10), .mov (.tmp 96), none⟩])
  (.seq (.ops [⟨(some 97), .mov (.tmp 11), none⟩,
    ⟨(some 98), .bin .sub (.tmp 97) (.con (.int .i64 1)), none⟩,
    ⟨(some 11), .mov (.tmp 98), none⟩])
  (.seq (.block 4 (.loop c36l4))
  (.seq (.ops [⟨(some 153), .mov (.tmp 0), none⟩,
    ⟨(some 154), .mov (.tmp 11), none⟩,
    ⟨(some 155), .mov (.tmp 0), none⟩,
    ⟨(some 156), .mov (.tmp 1), none⟩,
    ⟨(some 157), .mov (.tmp 0), none⟩,
    ⟨(some 158), .mov (.tmp 1), none⟩,
    ⟨(some 159), .idxAddr 1 (.tmp 157) (.tmp 158), none⟩,
    ⟨(some 160), .load false 1 (.tmp 159), none⟩,
    ⟨(some 161), .mov (.tmp 0), none⟩,
    ⟨(some 162), .mov (.tmp 11), none⟩,
    ⟨(some 163), .idxAddr 1 (.tmp 161) (.tmp 162), none⟩,
    ⟨(some 164), .load false 1 (.tmp 163), none⟩,
    ⟨(some 165), .idxAddr 1 (.tmp 153) (.tmp 154), none⟩,
    ⟨none, .store 1 (.tmp 165) (.tmp 160), none⟩,
    ⟨(some 166), .idxAddr 1 (.tmp 155) (.tmp 156), none⟩,
    ⟨none, .store 1 (.tmp 166) (.tmp 164), none⟩])
  (.seq (.ops [⟨(some 167), .mov (.tmp 11), none⟩,
    ⟨(some 8), .mov (.tmp 167), none⟩,
    ⟨(some 9), .mov (.con (.bool false)), none⟩])
  .ret))))))))))))
def a36 : AFunc := ⟨4, c36, [.tmp 8, .tmp 9]⟩
/- 39 internal/bytealg.IndexByteString: no body, not compiled -/

/- 26: unicode/utf8.DecodeRuneInString -/
def c26 : ACode := (.seq (.ops [⟨(some 2), .mov (.con (.int .i32 0)), none⟩,
    ⟨(some 3), .mov (.con (.int .i64 0)), none⟩])
  (.seq (.seq (.ops [⟨(some 4), .mov (.tmp 0), none⟩,
    ⟨(some 5), .bin .neq (.tmp 4) (.con (.str [])), none⟩,
    ⟨(some 6), .mov (.tmp 5), none⟩,
    ⟨(some 7), .mov (.tmp 0), (some (6, true))⟩,
    ⟨(some 8), .idxStr (.tmp 7) (.con (.int .i64 0)), (some (6, true))⟩,
    ⟨(some 9), .bin .lss (.tmp 8) (.con (.int .u8 128)), (some (6, true))⟩,
    ⟨(some 10), .pick (.tmp 6) (.tmp 9) (.con (.bool false)), none⟩])
  (.cond (.tmp 10)
  (.seq (.ops [⟨(some 11), .mov (.tmp 0), none⟩,
    ⟨(some 12), .idxStr (.tmp 11) (.con (.int .i64 0)), none⟩,
    ⟨(some 13), .toInt .i32 (.tmp 12), none⟩,
    ⟨(some 2), .mov (.tmp 13), none⟩,
    ⟨(some 3), .mov (.con (.int .i64 1)), none⟩])
  .ret)
  (.ops [⟨(some 15), .mov (.tmp 0), none⟩,
    ⟨(some 16), .call 40 [(.tmp 15)], none⟩,
    ⟨(some 14), .mov (.tmp 16), none⟩,
    ⟨(some 17), .extract (.tmp 14) 0, none⟩,
    ⟨(some 18), .extract (.tmp 14) 1, none⟩,
    ⟨(some 2), .mov (.tmp 17), none⟩,
    ⟨(some 3), .mov (.tmp 18), none⟩])))
  .ret))
def a26 : AFunc := ⟨1, c26, [.tmp 2, .tmp 3]⟩

/- 27: strings.Index -/
def c27 : ACode := (.seq (.ops [⟨(some 4), .mov (.con (.int .i64 0)), none⟩])
  (.seq (.ops [⟨(some 5), .mov (.tmp 0), none⟩,
    ⟨(some 6), .mov (.tmp 1), none⟩,
    ⟨(some 7), .call 41 [(.tmp 5), (.tmp 6)], none⟩,
    ⟨(some 4), .mov (.tmp 7), none⟩])
  .ret))
def a27 : AFunc := ⟨2, c27, [.tmp 4]⟩

/- 42: slices.siftDownOrdered[string] -/
def c42l0 : ACode := (.block 1 (.seq (.ops [⟨(some 11), .mov (.tmp 8), none⟩,
    ⟨(some 12), .bin .mul (.con (.int .i64 2)) (.tmp 11), none⟩,
    ⟨(some 13), .bin .add (.tmp 12) (.con (.int .i64 1)), none⟩,
    ⟨(some 9), .mov (.tmp 13), none⟩])
  (.seq (.seq (.ops [⟨(some 14), .mov (.tmp 9), none⟩,
    ⟨(some 15), .mov (.tmp 2), none⟩,
    ⟨(some 16), .bin .geq (.tmp 14) (.tmp 15), none⟩])
  (.cond (.tmp 16)
  (.exit 0)
  .skip))
  (.seq (.seq (.ops [⟨(some 17), .mov (.tmp 9), none⟩,
    ⟨(some 18), .bin .add (.tmp 17) (.con (.int .i64 1)), none⟩,
    ⟨(some 19), .mov (.tmp 2), none⟩,
    ⟨(some 20), .bin .lss (.tmp 18) (.tmp 19), none⟩,
    ⟨(some 21), .mov (.tmp 20), none⟩,
    ⟨(some 22), .mov (.tmp 0), (some (21, true))⟩,
    ⟨(some 23), .mov (.tmp 3), (some (21, true))⟩,
    ⟨(some 24), .mov (.tmp 9), (some (21, true))⟩,
    ⟨(some 25), .bin .add (.tmp 23) (.tmp 24), (some (21, true))⟩,
    ⟨(some 26), .idxAddr 1 (.tmp 22) (.tmp 25), (some (21, true))⟩,
    ⟨(some 27), .load false 1 (.tmp 26), (some (21, true))⟩,
    ⟨(some 28), .mov (.tmp 0), (some (21, true))⟩,
    ⟨(some 29), .mov (.tmp 3), (some (21, true))⟩,
    ⟨(some 30), .mov (.tmp 9), (some (21, true))⟩,
    ⟨(some 31), .bin .add (.tmp 29) (.tmp 30), (some (21, true))⟩,
    ⟨(some 32), .bin .add (.tmp 31) (.con (.int .i64 1)), (some (21, true))⟩,
    ⟨(some 33), .idxAddr 1 (.tmp 28) (.tmp 32), (some (21, true))⟩,
    ⟨(some 34), .load false 1 (.tmp 33), (some (21, true))⟩,
    ⟨(some 35), .call 34 [(.tmp 27), (.tmp 34)], (some (21, true))⟩,
    ⟨(some 36), .pick (.tmp 21) (.tmp 35) (.con (.bool false)), none⟩])
  (.cond (.tmp 36)
  (.ops [⟨(some 37), .mov (.tmp 9), none⟩,
    ⟨(some 38), .bin .add (.tmp 37) (.con (.int .i64 1)), none⟩,
    ⟨(some 9), .mov (.tmp 38), none⟩])
  .skip))
  (.seq (.seq (.ops [⟨(some 39), .mov (.tmp 0), none⟩,
    ⟨(some 40), .mov (.tmp 3), none⟩,
    ⟨(some 41), .mov (.tmp 8), none⟩,
    ⟨(some 42), .bin .add (.tmp 40) (.tmp 41), none⟩,
    ⟨(some 43), .idxAddr 1 (.tmp 39) (.tmp 42), none⟩,
    ⟨(some 44), .load false 1 (.tmp 43), none⟩,
    ⟨(some 45), .mov (.tmp 0), none⟩,
    ⟨(some 46), .mov (.tmp 3), none⟩,
    ⟨(some 47), .mov (.tmp 9), none⟩,
    ⟨(some 48), .bin .add (.tmp 46) (.tmp 47), none⟩,
    ⟨(some 49), .idxAddr 1 (.tmp 45) (.tmp 48), none⟩,
    ⟨(some 50), .load false 1 (.tmp 49), none⟩,
    ⟨(some 51), .call 34 [(.tmp 44), (.tmp 50)], none⟩,
    ⟨(some 52), .un .not (.tmp 51), none⟩])
  (.cond (.tmp 52)
  .ret
  .skip))
  (.seq (.ops [⟨(some 53), .mov (.tmp 0), none⟩,
    ⟨(some 54), .mov (.tmp 3), none⟩,
    ⟨(some 55), .mov (.tmp 8), none⟩,
    ⟨(some 56), .bin .add (.tmp 54) (.tmp 55), none⟩,
    ⟨(some 57), .mov (.tmp 0), none⟩,
    ⟨(some 58), .mov (.tmp 3), none⟩,
    ⟨(some 59), .mov (.tmp 9), none⟩,
    ⟨(some 60), .bin .add (.tmp 58) (.tmp 59), none⟩,
    ⟨(some 61), .mov (.tmp 0), none⟩,
    ⟨(some 62), .mov (.tmp 3), none⟩,
    ⟨(some 63), .mov (.tmp 9), none⟩,
    ⟨(some 64), .bin .add (.tmp 62) (.tmp 63), none⟩,
    ⟨(some 65), .idxAddr 1 (.tmp 61) (.tmp 64), none⟩,
    ⟨(some 66), .load false 1 (.tmp 65), none⟩,
    ⟨(some 67), .mov (.tmp 0), none⟩,
    ⟨(some 68), .mov (.tmp 3), none⟩,
    ⟨(some 69), .mov (.tmp 8), none⟩,
    ⟨(some 70), .bin .add (.tmp 68) (.tmp 69), none⟩,
    ⟨(some 71), .idxAddr 1 (.tmp 67) (.tmp 70), none⟩,
    ⟨(some 72), .load false 1 (.tmp 71), none⟩,
    ⟨(some 73), .idxAddr 1 (.tmp 53) (.tmp 56), none⟩,
    ⟨none, .store 1 (.tmp 73) (.tmp 66), none⟩,
    ⟨(some 74), .idxAddr 1 (.tmp 57) (.tmp 60), none⟩,
    ⟨none, .store 1 (.tmp 74) (.tmp 72), none⟩])
  (.ops [⟨(some 75), .mov (.tmp 9), none⟩,
    ⟨(some 8), .mov (.tmp 75), none⟩])))))))
def c42 : ACode := (.seq (.ops [⟨(some 10), .mov (.tmp 1), none⟩,
    ⟨(some 8), .mov (.tmp 10), none⟩])
  (.block 0 (.loop c42l0)))
def a42 : AFunc := ⟨4, c42, []⟩

/- 43: slices.nextPowerOfTwo -/
def c43 : ACode := (.seq (.ops [⟨(some 2), .mov (.con (.int .u64 0)), none⟩])
  (.seq (.ops [⟨(some 3), .mov (.tmp 0), none⟩,
    ⟨(some 4), .toInt .u64 (.tmp 3), none⟩,
    ⟨(some 5), .call 23 [(.tmp 4)], none⟩,
    ⟨(some 6), .bin .shl (.con (.int .u64 1)) (.tmp 5), none⟩,
    ⟨(some 2), .mov (.tmp 6), none⟩])
  .ret))
def a43 : AFunc := ⟨1, c43, [.tmp 2]⟩

/- 44: (*slices.xorshift).Next -/
def c44 : ACode := (.seq (.ops [⟨(some 2), .mov (.con (.int .u64 0)), none⟩])
  (.seq (.ops [⟨(some 3), .mov (.tmp 0), none⟩,
    ⟨(some 4), .nilChk (.tmp 3), none⟩,
    ⟨(some 5), .load false 1 (.tmp 4), none⟩,
    ⟨(some 6), .mov (.tmp 0), none⟩,
    ⟨(some 7), .nilChk (.tmp 6), none⟩,
    ⟨(some 8), .load false 1 (.tmp 7), none⟩,
    ⟨(some 9), .bin .shl (.tmp 8) (.con (.int .u64 13)), none⟩,
    ⟨(some 10), .bin .xor (.tmp 5) (.tmp 9), none⟩,
    ⟨(some 11), .nilChk (.tmp 3), none⟩,
    ⟨none, .store 1 (.tmp 11) (.tmp 10), none⟩])
  (.seq (.ops [⟨(some 12), .mov (.tmp 0), none⟩,
    ⟨(some 13), .nilChk (.tmp 12), none⟩,
    ⟨(some 14), .load false 1 (.tmp 13), none⟩,
    ⟨(some 15), .mov (.tmp 0), none⟩,
    ⟨(some 16), .nilChk (.tmp 15), none⟩,
    ⟨(some 17), .load false 1 (.tmp 16), none⟩,
    ⟨(some 18), .bin .shr (.tmp 17) (.con (.int .u64 7)), none⟩,
    ⟨(some 19), .bin .xor (.tmp 14) (.tmp 18), none⟩,
    ⟨(some 20), .nilChk (.tmp 12), none⟩,
    ⟨none, .store 1 (.tmp 20) (.tmp 19), none⟩])
  (.seq (.ops [⟨(some 21), .mov (.tmp 0), none⟩,
    ⟨(some 22), .nilChk (.tmp 21), none⟩,
    ⟨(some 23), .load false 1 (.tmp 22), none⟩,
    ⟨(some 24), .mov (.tmp 0), none⟩,
    ⟨(some 25), .nilChk (.tmp 24), none⟩,
    ⟨(some 26), .load false 1 (.tmp 25), none⟩,
    ⟨(some 27), .bin .shl (.tmp 26) (.con (.int .u64 17)), none⟩,
    ⟨(some 28), .bin .xor (.tmp 23) (.tmp 27), none⟩,
    ⟨(some 29), .nilChk (.tmp 21), none⟩,
    ⟨none, .store 1 (.tmp 29) (.tmp 28), none⟩])
  (.seq (.ops [⟨(some 30), .mov (.tmp 0), none⟩,
    ⟨(some 31), .nilChk (.tmp 30), none⟩,
    ⟨(some 32), .load false 1 (.tmp 31), none⟩,
    ⟨(some 2), .mov (.tmp 32), none⟩])
  .ret)))))
def a44 : AFunc := ⟨1, c44, [.tmp 2]⟩

/- 45: slices.medianAdjacentOrdered[string] -/
def c45 : ACode := (.seq (.ops [⟨(some 6), .mov (.con (.int .i64 0)), none⟩])
  (.seq (.ops [⟨(some 7), .mov (.tmp 0), none⟩,
    ⟨(some 8), .mov (.tmp 1), none⟩,
    ⟨(some 9), .bin .sub (.tmp 8) (.con (.int .i64 1)), none⟩,
    ⟨(some 10), .mov (.tmp 1), none⟩,
    ⟨(some 11), .mov (.tmp 1), none⟩,
    ⟨(some 12), .bin .add (.tmp 11) (.con (.int .i64 1)), none⟩,
    ⟨(some 13), .mov (.tmp 2), none⟩,
    ⟨(some 14), .call 46 [(.tmp 7), (.tmp 9), (.tmp 10), (.tmp 12), (.tmp 13)], none⟩,
    ⟨(some 6), .mov (.tmp 14), none⟩])
  .ret))
def a45 : AFunc := ⟨3, c45, [.tmp 6]⟩

/- 46: slices.medianOrdered[string] -/
def c46 : ACode := (.seq (.ops [⟨(some 10), .mov (.con (.int .i64 0)), none⟩])
  (.seq (.ops [⟨(some 12), .mov (.tmp 0), none⟩,
    ⟨(some 13), .mov (.tmp 1), none⟩,
    ⟨(some 14), .mov (.tmp 2), none⟩,
    ⟨(some 15), .mov (.tmp 4), none⟩,
    ⟨(some 16), .call 51 [(.tmp 12), (.tmp 13), (.tmp 14), (.tmp 15)], none⟩,
    ⟨(some 11), .mov (.tmp 16), none⟩,
    ⟨(some 17), .extract (.tmp 11) 0, none⟩,
    ⟨(some 18), .extract (.tmp 11) 1, none⟩,
    ⟨(some 1), .mov (.tmp 17), none⟩,
    ⟨(some 2), .mov (.tmp 18), none⟩])
  (.seq (.ops [⟨(some 20), .mov (.tmp 0), none⟩,
    ⟨(some 21), .mov (.tmp 2), none⟩,
    ⟨(some 22), .mov (.tmp 3), none⟩,
    ⟨(some 23), .mov (.tmp 4), none⟩,
    ⟨(some 24), .call 51 [(.tmp 20), (.tmp 21), (.tmp 22), (.tmp 23)], none⟩,
    ⟨(some 19), .mov (.tmp 24), none⟩,
    ⟨(some 25), .extract (.tmp 19) 0, none⟩,
    ⟨(some 26), .extract (.tmp 19) 1, none⟩,
    ⟨(some 2), .mov (.tmp 25), none⟩,
    ⟨(some 3), .mov (.tmp 26), none⟩])
  (.seq (.ops [⟨(some 28), .mov (.tmp 0), none⟩,
    ⟨(some 29), .mov (.tmp 1), none⟩,
    ⟨(some 30), .mov (.tmp 2), none⟩,
    ⟨(some 31), .mov (.tmp 4), none⟩,
    ⟨(some 32), .call 51 [(.tmp 28), (.tmp 29), (.tmp 30), (.tmp 31)], none⟩,
    ⟨(some 27), .mov (.tmp 32), none⟩,
    ⟨(some 33), .extract (.tmp 27) 0, none⟩,
    ⟨(some 34), .extract (.tmp 27) 1, none⟩,
    ⟨(some 1), .mov (.tmp 33), none⟩,
    ⟨(some 2), .mov (.tmp 34), none⟩])
  (.seq (.ops [⟨(some 35), .mov (.tmp 2), none⟩,
    ⟨(some 10), .mov (.tmp 35), none⟩])
  .ret)))))
def a46 : AFunc := ⟨5, c46, [.tmp 10]⟩

/- 47: cmp.isNaN[string] -/
def c47 : ACode := (.seq (.ops [⟨(some 2), .mov (.con (.bool false)), none⟩])
  (.seq (.ops [⟨(some 3), .mov (.tmp 0), none⟩,
    ⟨(some 4), .mov (.tmp 0), none⟩,
    ⟨(some 5), .bin .neq (.tmp 3) (.tmp 4), none⟩,
    ⟨(some 2), .mov (.tmp 5), none⟩])
  .ret))
def a47 : AFunc := ⟨1, c47, [.tmp 2]⟩

/- 40: unicode/utf8.decodeRuneInStringSlow -/
def c40 : ACode := (.seq (.ops [⟨(some 2), .mov (.con (.int .i32 0)), none⟩,
    ⟨(some 3), .mov (.con (.int .i64 0)), none⟩])
  (.seq (.ops [⟨(some 13), .mov (.tmp 0), none⟩,
    ⟨(some 14), .lenStr (.tmp 13), none⟩,
    ⟨(some 4), .mov (.tmp 14), none⟩])
  (.seq (.seq (.ops [⟨(some 15), .mov (.tmp 4), none⟩,
    ⟨(some 16), .bin .lss (.tmp 15) (.con (.int .i64 1)), none⟩])
  (.cond (.tmp 16)
  (.seq (.ops [⟨(some 2), .mov (.con (.int .i32 65533)), none⟩,
    ⟨(some 3), .mov (.con (.int .i64 0)), none⟩])
  .ret)
  .skip))
  (.seq (.ops [⟨(some 17), .mov (.tmp 0), none⟩,
    ⟨(some 18), .idxStr (.tmp 17) (.con (.int .i64 0)), none⟩,
    ⟨(some 5), .mov (.tmp 18), none⟩])
  (.seq (.ops [⟨(some 19), .mov (.tmp 5), none⟩,
    ⟨none, .stuck, none⟩,
    ⟨(some 21), .load false 1 (.tmp 20), none⟩,
    ⟨(some 6), .mov (.tmp 21), none⟩])
  (.seq (.seq (.ops [⟨(some 22), .mov (.tmp 6), none⟩,
    ⟨(some 23), .bin .geq (.tmp 22) (.con (.int .u8 240)), none⟩])
  (.cond (.tmp 23)
  (.seq (.ops [⟨(some 24), .mov (.tmp 6), none⟩,
    ⟨(some 25), .toInt .i32 (.tmp 24), none⟩,
    ⟨(some 26), .bin .shl (.tmp 25) (.con (.int .u64 31)), none⟩,
    ⟨(some 27), .bin .shr (.tmp 26) (.con (.int .u64 31)), none⟩,
    ⟨(some 7), .mov (.tmp 27), none⟩])
  (.seq (.ops [⟨(some 28), .mov (.tmp 0), none⟩,
    ⟨(some 29), .idxStr (.tmp 28) (.con (.int .i64 0)), none⟩,
    ⟨(some 30), .toInt .i32 (.tmp 29), none⟩,
    ⟨(some 31), .mov (.tmp 7), none⟩,
    ⟨(some 32), .bin .andNot (.tmp 30) (.tmp 31), none⟩,
    ⟨(some 33), .mov (.tmp 7), none⟩,
    ⟨(some 34), .bin .and (.con (.int .i32 65533)) (.tmp 33), none⟩,
    ⟨(some 35), .bin .or (.tmp 32) (.tmp 34), none⟩,
    ⟨(some 2), .mov (.tmp 35), none⟩,
    ⟨(some 3), .mov (.con (.int .i64 1)), none⟩])
  .ret))
  .skip))
  (.seq (.ops [⟨(some 36), .mov (.tmp 6), none⟩,
    ⟨(some 37), .bin .and (.tmp 36) (.con (.int .u8 7)), none⟩,
    ⟨(some 38), .toInt .i64 (.tmp 37), none⟩,
    ⟨(some 8), .mov (.tmp 38), none⟩])
  (.seq (.ops [⟨(some 39), .mov (.tmp 6), none⟩,
    ⟨(some 40), .bin .shr (.tmp 39) (.con (.int .u64 4)), none⟩,
    ⟨none, .stuck, none⟩,
    ⟨(some 42), .load true 2 (.tmp 41), none⟩,
    ⟨(some 9), .new [(.int .u8 0), (.int .u8 0)], none⟩,
    ⟨none, .store 2 (.tmp 9) (.tmp 42), none⟩])
  (.seq (.seq (.ops [⟨(some 43), .mov (.tmp 4), none⟩,
    ⟨(some 44), .mov (.tmp 8), none⟩,
    ⟨(some 45), .bin .lss (.tmp 43) (.tmp 44), none⟩])
  (.cond (.tmp 45)
  (.seq (.ops [⟨(some 2), .mov (.con (.int .i32 65533)), none⟩,
    ⟨(some 3), .mov (.con (.int .i64 1)), none⟩])
  .ret)
  .skip))
  (.seq (.ops [⟨(some 46), .mov (.tmp 0), none⟩,
    ⟨(some 47), .idxStr (.tmp 46) (.con (.int .i64 1)), none⟩,
    ⟨(some 10), .mov (.tmp 47), none⟩])
  (.seq (.seq (.ops [⟨(some 48), .mov (.tmp 10), none⟩,
    ⟨(some 49), .fieldAddr 0 (.tmp 9), none⟩,
    ⟨(some 50), .load false 1 (.tmp 49), none⟩,
    ⟨(some 51), .bin .lss (.tmp 48) (.tmp 50), none⟩,
    ⟨(some 52), .mov (.tmp 51), none⟩,
    ⟨(some 53), .fieldAddr 1 (.tmp 9), (some (52, false))⟩,
    ⟨(some 54), .load false 1 (.tmp 53), (some (52, false))⟩,
    ⟨(some 55), .mov (.tmp 10), (some (52, false))⟩,
    ⟨(some 56), .bin .lss (.tmp 54) (.tmp 55), (some (52, false))⟩,
    ⟨(some 57), .pick (.tmp 52) (.con (.bool true)) (.tmp 56), none⟩])
  (.cond (.tmp 57)
  (.seq (.ops [⟨(some 2), .mov (.con (.int .i32 65533)), none⟩,
    ⟨(some 3), .mov (.con (.int .i64 1)), none⟩])
  .ret)
  .skip))
  (.seq (.seq (.ops [⟨(some 58), .mov (.tmp 8), none⟩,
    ⟨(some 59), .bin .leq (.tmp 58) (.con (.int .i64 2)), none⟩])
  (.cond (.tmp 59)
  (.seq (.ops [⟨(some 60), .mov (.tmp 5), none⟩,
    ⟨(some 61), .bin .and (.tmp 60) (.con (.int .u8 31)), none⟩,
    ⟨(some 62), .toInt .i32 (.tmp 61), none⟩,
    ⟨(some 63), .bin .shl (.tmp 62) (.con (.int .u64 6)), none⟩,
    ⟨(some 64), .mov (.tmp 10), none⟩,
    ⟨(some 65), .bin .and (.tmp 64) (.con (.int .u8 63)), none⟩,
    ⟨(some 66), .toInt .i32 (.tmp 65), none⟩,
    ⟨(some 67), .bin .or (.tmp 63) (.tmp 66), none⟩,
    ⟨(some 2), .mov (.tmp 67), none⟩,
    ⟨(some 3), .mov (.con (.int .i64 2)), none⟩])
  .ret)
  .skip))
  (.seq (.ops [⟨(some 68), .mov (.tmp 0), none⟩,
    ⟨(some 69), .idxStr (.tmp 68) (.con (.int .i64 2)), none⟩,
    ⟨(some 11), .mov (.tmp 69), none⟩])
  (.seq (.seq (.ops [⟨(some 70), .mov (.tmp 11), none⟩,
    ⟨(some 71), .bin .lss (.tmp 70) (.con (.int .u8 128)), none⟩,
    ⟨(some 72), .mov (.tmp 71), none⟩,
    ⟨(some 73), .mov (.tmp 11), (some (72, false))⟩,
    ⟨(some 74), .bin .lss (.con (.int .u8 191)) (.tmp 73), (some (72, false))⟩,
    ⟨(some 75), .pick (.tmp 72) (.con (.bool true)) (.tmp 74), none⟩])
  (.cond (.tmp 75)
  (.seq (.ops [⟨(some 2), .mov (.con (.int .i32 65533)), none⟩,
    ⟨(some 3), .mov (.con (.int .i64 1)), none⟩])
  .ret)
  .skip))
  (.seq (.seq (.ops [⟨(some 76), .mov (.tmp 8), none⟩,
    ⟨(some 77), .bin .leq (.tmp 76) (.con (.int .i64 3)), none⟩])
  (.cond (.tmp 77)
  (.seq (.ops [⟨(some 78), .mov (.tmp 5), none⟩,
    ⟨(some 79), .bin .and (.tmp 78) (.con (.int .u8 15)), none⟩,
    ⟨(some 80), .toInt .i32 (.tmp 79), none⟩,
    ⟨(some 81), .bin .shl (.tmp 80) (.con (.int .u64 12)), none⟩,
    ⟨(some 82), .mov (.tmp 10), none⟩,
    ⟨(some 83), .bin .and (.tmp 82) (.con (.int .u8 63)), none⟩,
    ⟨(some 84), .toInt .i32 (.tmp 83), none⟩,
    ⟨(some 85), .bin .shl (.tmp 84) (.con (.int .u64 6)), none⟩,
    ⟨(some 86), .bin .or (.tmp 81) (.tmp 85), none⟩,
    ⟨(some 87), .mov (.tmp 11), none⟩,
    ⟨(some 88), .bin .and (.tmp 87) (.con (.int .u8 63)), none⟩,
    ⟨(some 89), .toInt .i32 (.tmp 88), none⟩,
    ⟨(some 90), .bin .or (.tmp 86) (.tmp 89), none⟩,
    ⟨(some 2), .mov (.tmp 90), none⟩,
    ⟨(some 3), .mov (.con (.int .i64 3)), none⟩])
  .ret)
  .skip))
  (.seq (.ops [⟨(some 91), .mov (.tmp 0), none⟩,
    ⟨(some 92), .idxStr (.tmp 91) (.con (.int .i64 3)), none⟩,
    ⟨(some 12), .mov (.tmp 92), none⟩])
  (.seq (.seq (.ops [⟨(some 93), .mov (.tmp 12), none⟩,
    ⟨(some 94), .bin .lss (.tmp 93) (.con (.int .u8 128)), none⟩,
    ⟨(some 95), .mov (.tmp 94), none⟩,
    ⟨(some 96), .mov (.tmp 12), (some (95, false))⟩,
    ⟨(some 97), .bin .lss (.con (.int .u8 191)) (.tmp 96), (some (95, false))⟩,
    ⟨(some 98), .pick (.tmp 95) (.con (.bool true)) (.tmp 97), none⟩])
  (.cond (.tmp 98)
  (.seq (.ops [⟨(some 2), .mov (.con (.int .i32 65533)), none⟩,
    ⟨(some 3), .mov (.con (.int .i64 1)), none⟩])
  .ret)
  .skip))
  (.seq (.ops [⟨(some 99), .mov (.tmp 5), none⟩,
    ⟨(some 100), .bin .and (.tmp 99) (.con (.int .u8 7)), none⟩,
    ⟨(some 101), .toInt .i32 (.tmp 100), none⟩,
    ⟨(some 102), .bin .shl (.tmp 101) (.con (.int .u64 18)), none⟩,
    ⟨(some 103), .mov (.tmp 10), none⟩,
    ⟨(some 104), .bin .and (.tmp 103) (.con (.int .u8 63)), none⟩,
    ⟨(some 105), .toInt .i32 (.tmp 104), none⟩,
    ⟨(some 106), .bin .shl (.tmp 105) (.con (.int .u64 12)), none⟩,
    ⟨(some 107), .bin .or (.tmp 102) (.tmp 106), none⟩,
    ⟨(some 108), .mov (.tmp 11), none⟩,
    ⟨(some 109), .bin .and (.tmp 108) (.con (.int .u8 63)), none⟩,
    ⟨(some 110), .toInt .i32 (.tmp 109), none⟩,
    ⟨(some 111), .bin .shl (.tmp 110) (.con (.int .u64 6)), none⟩,
    ⟨(some 112), .bin .or (.tmp 107) (.tmp 111), none⟩,
    ⟨(some 113), .mov (.tmp 12), none⟩,
    ⟨(some 114), .bin .and (.tmp 113) (.con (.int .u8 63)), none⟩,
    ⟨(some 115), .toInt .i32 (.tmp 114), none⟩,
    ⟨(some 116), .bin .or (.tmp 112) (.tmp 115), none⟩,
    ⟨(some 2), .mov (.tmp 116), none⟩,
    ⟨(some 3), .mov (.con (.int .i64 4)), none⟩])
  .ret))))))))))))))))))
def a40 : AFunc := ⟨1, c40, [.tmp 2, .tmp 3]⟩

/- 41: internal/stringslite.Index -/
def c41l0 : ACode := (.seq (.seq (.ops [⟨(some 57), .mov (.tmp 8), none⟩,
    ⟨(some 58), .mov (.tmp 9), none⟩,
    ⟨(some 59), .bin .lss (.tmp 57) (.tmp 58), none⟩])
  (.cond (.tmp 59)
  .skip
  (.exit 1)))
  (.block 2 (.seq (.seq (.ops [⟨(some 60), .mov (.tmp 0), none⟩,
    ⟨(some 61), .mov (.tmp 8), none⟩,
    ⟨(some 62), .idxStr (.tmp 60) (.tmp 61), none⟩,
    ⟨(some 63), .mov (.tmp 6), none⟩,
    ⟨(some 64), .bin .neq (.tmp 62) (.tmp 63), none⟩])
  (.cond (.tmp 64)
  (.seq (.ops [⟨(some 65), .mov (.tmp 0), none⟩,
    ⟨(some 66), .mov (.tmp 8), none⟩,
    ⟨(some 67), .bin .add (.tmp 66) (.con (.int .i64 1)), none⟩,
    ⟨(some 68), .mov (.tmp 9), none⟩,
    ⟨(some 69), .slcStr (.tmp 65) (some (.tmp 67)) (some (.tmp 68)), none⟩,
    ⟨(some 70), .mov (.tmp 6), none⟩,
    ⟨(some 71), .call 24 [(.tmp 69), (.tmp 70)], none⟩,
    ⟨(some 11), .mov (.tmp 71), none⟩])
  (.seq (.seq (.ops [⟨(some 72), .mov (.tmp 11), none⟩,
    ⟨(some 73), .bin .lss (.tmp 72) (.con (.int .i64 0)), none⟩])
  (.cond (.tmp 73)
  (.seq (.ops [⟨(some 4), .mov (.con (.int .i64 (-1))), none⟩])
  .ret)
  .skip))
  (.ops [⟨(some 74), .mov (.tmp 8), none⟩,
    ⟨(some 75), .mov (.tmp 11), none⟩,
    ⟨(some 76), .bin .add (.tmp 75) (.con (.int .i64 1)), none⟩,
    ⟨(some 77), .bin .add (.tmp 74) (.tmp 76), none⟩,
    ⟨(some 8), .mov (.tmp 77), none⟩])))
  .skip))
  (.seq (.seq (.ops [⟨(some 78), .mov (.tmp 0), none⟩,
    ⟨(some 79), .mov (.tmp 8), none⟩,
    ⟨(some 80), .bin .add (.tmp 79) (.con (.int .i64 1)), none⟩,
    ⟨(some 81), .idxStr (.tmp 78) (.tmp 80), none⟩,
    ⟨(some 82), .mov (.tmp 7), none⟩,
    ⟨(some 83), .bin .eql (.tmp 81) (.tmp 82), none⟩,
    ⟨(some 84), .mov (.tmp 83), none⟩,
    ⟨(some 85), .mov (.tmp 0), (some (84, true))⟩,
    ⟨(some 86), .mov (.tmp 8), (some (84, true))⟩,
    ⟨(some 87), .mov (.tmp 8), (some (84, true))⟩,
    ⟨(some 88), .mov (.tmp 5), (some (84, true))⟩,
    ⟨(some 89), .bin .add (.tmp 87) (.tmp 88), (some (84, true))⟩,
    ⟨(some 90), .slcStr (.tmp 85) (some (.tmp 86)) (some (.tmp 89)), (some (84, true))⟩,
    ⟨(some 91), .mov (.tmp 1), (some (84, true))⟩,
    ⟨(some 92), .bin .eql (.tmp 90) (.tmp 91), (some (84, true))⟩,
    ⟨(some 93), .pick (.tmp 84) (.tmp 92) (.con (.bool false)), none⟩])
  (.cond (.tmp 93)
  (.seq (.ops [⟨(some 94), .mov (.tmp 8), none⟩,
    ⟨(some 4), .mov (.tmp 94), none⟩])
  .ret)
  .skip))
  (.seq (.ops [⟨(some 95), .mov (.tmp 8), none⟩,
    ⟨(some 96), .bin .add (.tmp 95) (.con (.int .i64 1)), none⟩,
    ⟨(some 8), .mov (.tmp 96), none⟩])
  (.seq (.ops [⟨(some 97), .mov (.tmp 10), none⟩,
    ⟨(some 98), .bin .add (.tmp 97) (.con (.int .i64 1)), none⟩,
    ⟨(some 10), .mov (.tmp 98), none⟩])
  (.seq (.ops [⟨(some 99), .mov (.tmp 5), none⟩,
    ⟨none, .stuck, none⟩,
    ⟨(some 101), .bin .leq (.tmp 99) (.tmp 100), none⟩,
    ⟨(some 102), .mov (.tmp 101), none⟩,
    ⟨(some 103), .mov (.tmp 10), (some (102, true))⟩,
    ⟨(some 104), .mov (.tmp 8), (some (102, true))⟩,
    ⟨(some 105), .call 49 [(.tmp 104)], (some (102, true))⟩,
    ⟨(some 106), .bin .gtr (.tmp 103) (.tmp 105), (some (102, true))⟩,
    ⟨(some 107), .pick (.tmp 102) (.tmp 106) (.con (.bool false)), none⟩])
  (.cond (.tmp 107)
  (.seq (.ops [⟨(some 108), .mov (.tmp 0), none⟩,
    ⟨(some 109), .mov (.tmp 8), none⟩,
    ⟨(some 110), .slcStr (.tmp 108) (some (.tmp 109)) none, none⟩,
    ⟨(some 111), .mov (.tmp 1), none⟩,
    ⟨(some 112), .call 48 [(.tmp 110), (.tmp 111)], none⟩,
    ⟨(some 12), .mov (.tmp 112), none⟩])
  (.seq (.seq (.ops [⟨(some 113), .mov (.tmp 12), none⟩,
    ⟨(some 114), .bin .geq (.tmp 113) (.con (.int .i64 0)), none⟩])
  (.cond (.tmp 114)
  (.seq (.ops [⟨(some 115), .mov (.tmp 12), none⟩,
    ⟨(some 116), .mov (.tmp 8), none⟩,
    ⟨(some 117), .bin .add (.tmp 115) (.tmp 116), none⟩,
    ⟨(some 4), .mov (.tmp 117), none⟩])
  .ret)
  .skip))
  (.seq (.ops [⟨(some 4), .mov (.con (.int .i64 (-1))), none⟩])
  .ret)))
  (.seq (.ops [⟨(some 118), .mov (.tmp 5), none⟩,
    ⟨none, .stuck, none⟩,
    ⟨(some 120), .bin .gtr (.tmp 118) (.tmp 119), none⟩,
    ⟨(some 121), .mov (.tmp 120), none⟩,
    ⟨(some 122), .mov (.tmp 10), (some (121, true))⟩,
    ⟨(some 123), .mov (.tmp 8), (some (121, true))⟩,
    ⟨(some 124), .bin .shr (.tmp 123) (.con (.int .u64 4)), (some (121, true))⟩,
    ⟨(some 125), .bin .add (.con (.int .i64 4)) (.tmp 124), (some (121, true))⟩,
    ⟨(some 126), .bin .geq (.tmp 122) (.tmp 125), (some (121, true))⟩,
    ⟨(some 127), .pick (.tmp 121) (.tmp 126) (.con (.bool false)), none⟩,
    ⟨(some 128), .mov (.tmp 127), none⟩,
    ⟨(some 129), .mov (.tmp 8), (some (128, true))⟩,
    ⟨(some 130), .mov (.tmp 9), (some (128, true))⟩,
    ⟨(some 131), .bin .lss (.tmp 129) (.tmp 130), (some (128, true))⟩,
    ⟨(some 132), .pick (.tmp 128) (.tmp 131) (.con (.bool false)), none⟩])
  (.cond (.tmp 132)
  (.seq (.ops [⟨(some 133), .mov (.tmp 0), none⟩,
    ⟨(some 134), .mov (.tmp 8), none⟩,
    ⟨(some 135), .slcStr (.tmp 133) (some (.tmp 134)) none, none⟩,
    ⟨(some 136), .mov (.tmp 1), none⟩,
    ⟨(some 137), .call 50 [(.tmp 135), (.tmp 136)], none⟩,
    ⟨(some 13), .mov (.tmp 137), none⟩])
  (.seq (.seq (.ops [⟨(some 138), .mov (.tmp 13), none⟩,
    ⟨(some 139), .bin .lss (.tmp 138) (.con (.int .i64 0)), none⟩])
  (.cond (.tmp 139)
  (.seq (.ops [⟨(some 4), .mov (.con (.int .i64 (-1))), none⟩])
  .ret)
  .skip))
  (.seq (.ops [⟨(some 140), .mov (.tmp 8), none⟩,
    ⟨(some 141), .mov (.tmp 13), none⟩,
    ⟨(some 142), .bin .add (.tmp 140) (.tmp 141), none⟩,
    ⟨(some 4), .mov (.tmp 142), none⟩])
  .ret)))
  .skip))))))))))
def c41 : ACode := (.seq (.ops [⟨(some 4), .mov (.con (.int .i64 0)), none⟩])
  (.seq (.ops [⟨(some 14), .mov (.tmp 1), none⟩,
    ⟨(some 15), .lenStr (.tmp 14), none⟩,
    ⟨(some 5), .mov (.tmp 15), none⟩])
  (.seq (.block 0 (.seq (.ops [⟨(some 17), .mov (.tmp 5), none⟩,
    ⟨(some 18), .bin .eql (.tmp 17) (.con (.int .i64 0)), none⟩,
    ⟨(some 19), .mov (.tmp 18), none⟩,
    ⟨(some 20), .mov (.tmp 1), (some (19, false))⟩,
    ⟨(some 21), .mov (.tmp 0), (some (19, false))⟩,
    ⟨(some 22), .bin .eql (.tmp 20) (.tmp 21), (some (19, false))⟩,
    ⟨(some 23), .pick (.tmp 19) (.con (.bool true)) (.tmp 22), none⟩,
    ⟨(some 16), .mov (.tmp 23), none⟩])
  (.cond (.tmp 16)
  (.seq (.ops [⟨(some 4), .mov (.con (.int .i64 0)), none⟩])
  .ret)
  (.seq (.ops [⟨(some 25), .mov (.tmp 5), none⟩,
    ⟨(some 26), .bin .eql (.tmp 25) (.con (.int .i64 1)), none⟩,
    ⟨(some 24), .mov (.tmp 26), none⟩])
  (.cond (.tmp 24)
  (.seq (.ops [⟨(some 27), .mov (.tmp 0), none⟩,
    ⟨(some 28), .mov (.tmp 1), none⟩,
    ⟨(some 29), .idxStr (.tmp 28) (.con (.int .i64 0)), none⟩,
    ⟨(some 30), .call 24 [(.tmp 27), (.tmp 29)], none⟩,
    ⟨(some 4), .mov (.tmp 30), none⟩])
  .ret)
  (.seq (.ops [⟨(some 32), .mov (.tmp 5), none⟩,
    ⟨(some 33), .mov (.tmp 0), none⟩,
    ⟨(some 34), .lenStr (.tmp 33), none⟩,
    ⟨(some 35), .bin .geq (.tmp 32) (.tmp 34), none⟩,
    ⟨(some 31), .mov (.tmp 35), none⟩])
  (.cond (.tmp 31)
  (.seq (.ops [⟨(some 4), .mov (.con (.int .i64 (-1))), none⟩])
  .ret)
  (.seq (.ops [⟨(some 37), .mov (.tmp 5), none⟩,
    ⟨none, .stuck, none⟩,
    ⟨(some 39), .bin .leq (.tmp 37) (.tmp 38), none⟩,
    ⟨(some 40), .mov (.tmp 39), none⟩,
    ⟨(some 41), .mov (.tmp 0), (some (40, true))⟩,
    ⟨(some 42), .lenStr (.tmp 41), (some (40, true))⟩,
    ⟨(some 43), .bin .leq (.tmp 42) (.con (.int .i64 64)), (some (40, true))⟩,
    ⟨(some 44), .pick (.tmp 40) (.tmp 43) (.con (.bool false)), none⟩,
    ⟨(some 36), .mov (.tmp 44), none⟩])
  (.cond (.tmp 36)
  (.seq (.ops [⟨(some 45), .mov (.tmp 0), none⟩,
    ⟨(some 46), .mov (.tmp 1), none⟩,
    ⟨(some 47), .call 48 [(.tmp 45), (.tmp 46)], none⟩,
    ⟨(some 4), .mov (.tmp 47), none⟩])
  .ret)
  .skip)))))))))
  (.seq (.ops [⟨(some 48), .mov (.tmp 1), none⟩,
    ⟨(some 49), .idxStr (.tmp 48) (.con (.int .i64 0)), none⟩,
    ⟨(some 6), .mov (.tmp 49), none⟩])
  (.seq (.ops [⟨(some 50), .mov (.tmp 1), none⟩,
    ⟨(some 51), .idxStr (.tmp 50) (.con (.int .i64 1)), none⟩,
    ⟨(some 7), .mov (.tmp 51), none⟩])
  (.seq (.ops [⟨(some 8), .mov (.con (.int .i64 0)), none⟩])
  (.seq (.ops [⟨(some 52), .mov (.tmp 0), none⟩,
    ⟨(some 53), .lenStr (.tmp 52), none⟩,
    ⟨(some 54), .mov (.tmp 5), none⟩,
    ⟨(some 55), .bin .sub (.tmp 53) (.tmp 54), none⟩,
    ⟨(some 56), .bin .add (.tmp 55) (.con (.int .i64 1)), none⟩,
    ⟨(some 9), .mov (.tmp 56), none⟩])
  (.seq (.ops [⟨(some 10), .mov (.con (.int .i64 0)), none⟩])
  (.seq (.block 1 (.loop c41l0))
  (.seq (.ops [⟨(some 4), .mov (.con (.int .i64 (-1))), none⟩])
  .ret))))))))))
def a41 : AFunc := ⟨2, c41, [.tmp 4]⟩

/- 51: slices.order2Ordered[string] -/
def c51 : ACode := (.seq (.ops [⟨(some 8), .mov (.con (.int .i64 0)), none⟩,
    ⟨(some 9), .mov (.con (.int .i64 0)), none⟩])
  (.seq (.seq (.ops [⟨(some 10), .mov (.tmp 0), none⟩,
    ⟨(some 11), .mov (.tmp 2), none⟩,
    ⟨(some 12), .idxAddr 1 (.tmp 10) (.tmp 11), none⟩,
    ⟨(some 13), .load false 1 (.tmp 12), none⟩,
    ⟨(some 14), .mov (.tmp 0), none⟩,
    ⟨(some 15), .mov (.tmp 1), none⟩,
    ⟨(some 16), .idxAddr 1 (.tmp 14) (.tmp 15), none⟩,
    ⟨(some 17), .load false 1 (.tmp 16), none⟩,
    ⟨(some 18), .call 34 [(.tmp 13), (.tmp 17)], none⟩])
  (.cond (.tmp 18)
  (.seq (.ops [⟨(some 19), .mov (.tmp 3), none⟩,
    ⟨(some 20), .nilChk (.tmp 19), none⟩,
    ⟨(some 21), .load false 1 (.tmp 20), none⟩,
    ⟨(some 22), .bin .add (.tmp 21) (.con (.int .i64 1)), none⟩,
    ⟨(some 23), .nilChk (.tmp 19), none⟩,
    ⟨none, .store 1 (.tmp 23) (.tmp 22), none⟩])
  (.seq (.ops [⟨(some 24), .mov (.tmp 2), none⟩,
    ⟨(some 25), .mov (.tmp 1), none⟩,
    ⟨(some 8), .mov (.tmp 24), none⟩,
    ⟨(some 9), .mov (.tmp 25), none⟩])
  .ret))
  .skip))
  (.seq (.ops [⟨(some 26), .mov (.tmp 1), none⟩,
    ⟨(some 27), .mov (.tmp 2), none⟩,
    ⟨(some 8), .mov (.tmp 26), none⟩,
    ⟨(some 9), .mov (.tmp 27), none⟩])
  .ret)))
def a51 : AFunc := ⟨4, c51, [.tmp 8, .tmp 9]⟩
/- 48 internal/bytealg.IndexString: no body, not compiled -/

/- 49: internal/bytealg.Cutover -/
def c49 : ACode := (.seq (.ops [⟨(some 2), .mov (.con (.int .i64 0)), none⟩])
  (.seq (.ops [⟨(some 3), .mov (.tmp 0), none⟩,
    ⟨(some 4), .bin .add (.tmp 3) (.con (.int .i64 16)), none⟩,
    ⟨(some 5), .bin .quo (.tmp 4) (.con (.int .i64 8)), none⟩,
    ⟨(some 2), .mov (.tmp 5), none⟩])
  .ret))
def a49 : AFunc := ⟨1, c49, [.tmp 2]⟩

/- 50: internal/bytealg.IndexRabinKarp[string] -/
def c50l0 : ACode := (.seq (.seq (.ops [⟨(some 18), .mov (.tmp 9), none⟩,
    ⟨(some 19), .mov (.tmp 7), none⟩,
    ⟨(some 20), .bin .lss (.tmp 18) (.tmp 19), none⟩])
  (.cond (.tmp 20)
  .skip
  (.exit 0)))
  (.seq (.block 1 (.ops [⟨(some 23), .mov (.tmp 8), none⟩,
    ⟨(some 24), .bin .mul (.tmp 23) (.con (.int .u32 16777619)), none⟩,
    ⟨(some 25), .mov (.tmp 0), none⟩,
    ⟨(some 26), .mov (.tmp 9), none⟩,
    ⟨(some 27), .idxStr (.tmp 25) (.tmp 26), none⟩,
    ⟨(some 28), .toInt .u32 (.tmp 27), none⟩,
    ⟨(some 29), .bin .add (.tmp 24) (.tmp 28), none⟩,
    ⟨(some 8), .mov (.tmp 29), none⟩]))
  (.ops [⟨(some 21), .mov (.tmp 9), none⟩,
    ⟨(some 22), .bin .add (.tmp 21) (.con (.int .i64 1)), none⟩,
    ⟨(some 9), .mov (.tmp 22), none⟩])))
def c50l1 : ACode := (.seq (.seq (.ops [⟨(some 41), .mov (.tmp 10), none⟩,
    ⟨(some 42), .mov (.tmp 0), none⟩,
    ⟨(some 43), .lenStr (.tmp 42), none⟩,
    ⟨(some 44), .bin .lss (.tmp 41) (.tmp 43), none⟩])
  (.cond (.tmp 44)
  .skip
  (.exit 2)))
  (.block 3 (.seq (.ops [⟨(some 45), .mov (.tmp 8), none⟩,
    ⟨(some 46), .bin .mul (.tmp 45) (.con (.int .u32 16777619)), none⟩,
    ⟨(some 8), .mov (.tmp 46), none⟩])
  (.seq (.ops [⟨(some 47), .mov (.tmp 8), none⟩,
    ⟨(some 48), .mov (.tmp 0), none⟩,
    ⟨(some 49), .mov (.tmp 10), none⟩,
    ⟨(some 50), .idxStr (.tmp 48) (.tmp 49), none⟩,
    ⟨(some 51), .toInt .u32 (.tmp 50), none⟩,
    ⟨(some 52), .bin .add (.tmp 47) (.tmp 51), none⟩,
    ⟨(some 8), .mov (.tmp 52), none⟩])
  (.seq (.ops [⟨(some 53), .mov (.tmp 8), none⟩,
    ⟨(some 54), .mov (.tmp 6), none⟩,
    ⟨(some 55), .mov (.tmp 0), none⟩,
    ⟨(some 56), .mov (.tmp 10), none⟩,
    ⟨(some 57), .mov (.tmp 7), none⟩,
    ⟨(some 58), .bin .sub (.tmp 56) (.tmp 57), none⟩,
    ⟨(some 59), .idxStr (.tmp 55) (.tmp 58), none⟩,
    ⟨(some 60), .toInt .u32 (.tmp 59), none⟩,
    ⟨(some 61), .bin .mul (.tmp 54) (.tmp 60), none⟩,
    ⟨(some 62), .bin .sub (.tmp 53) (.tmp 61), none⟩,
    ⟨(some 8), .mov (.tmp 62), none⟩])
  (.seq (.ops [⟨(some 63), .mov (.tmp 10), none⟩,
    ⟨(some 64), .bin .add (.tmp 63) (.con (.int .i64 1)), none⟩,
    ⟨(some 10), .mov (.tmp 64), none⟩])
  (.seq (.ops [⟨(some 65), .mov (.tmp 8), none⟩,
    ⟨(some 66), .mov (.tmp 5), none⟩,
    ⟨(some 67), .bin .eql (.tmp 65) (.tmp 66), none⟩,
    ⟨(some 68), .mov (.tmp 67), none⟩,
    ⟨(some 69), .mov (.tmp 0), (some (68, true))⟩,
    ⟨(some 70), .mov (.tmp 10), (some (68, true))⟩,
    ⟨(some 71), .mov (.tmp 7), (some (68, true))⟩,
    ⟨(some 72), .bin .sub (.tmp 70) (.tmp 71), (some (68, true))⟩,
    ⟨(some 73), .mov (.tmp 10), (some (68, true))⟩,
    ⟨(some 74), .slcStr (.tmp 69) (some (.tmp 72)) (some (.tmp 73)), (some (68, true))⟩,
    ⟨(some 75), .mov (.tmp 1), (some (68, true))⟩,
    ⟨(some 76), .bin .eql (.tmp 74) (.tmp 75), (some (68, true))⟩,
    ⟨(some 77), .pick (.tmp 68) (.tmp 76) (.con (.bool false)), none⟩])
  (.cond (.tmp 77)
  (.seq (.ops [⟨(some 78), .mov (.tmp 10), none⟩,
    ⟨(some 79), .mov (.tmp 7), none⟩,
    ⟨(some 80), .bin .sub (.tmp 78) (.tmp 79), none⟩,
    ⟨(some 4), .mov (.tmp 80), none⟩])
  .ret)
  .skip))))))))
def c50 : ACode := (.seq (.ops [⟨(some 4), .mov (.con (.int .i64 0)), none⟩])
  (.seq (.ops [⟨(some 12), .mov (.tmp 1), none⟩,
    ⟨(some 13), .call 52 [(.tmp 12)], none⟩,
    ⟨(some 11), .mov (.tmp 13), none⟩,
    ⟨(some 14), .extract (.tmp 11) 0, none⟩,
    ⟨(some 15), .extract (.tmp 11) 1, none⟩,
    ⟨(some 5), .mov (.tmp 14), none⟩,
    ⟨(some 6), .mov (.tmp 15), none⟩])
  (.seq (.ops [⟨(some 16), .mov (.tmp 1), none⟩,
    ⟨(some 17), .lenStr (.tmp 16), none⟩,
    ⟨(some 7), .mov (.tmp 17), none⟩])
  (.seq (.ops [⟨(some 8), .mov (.con (.int .u32 0)), none⟩])
  (.seq (.seq (.ops [⟨(some 9), .mov (.con (.int .i64 0)), none⟩])
  (.block 0 (.loop c50l0)))
  (.seq (.seq (.ops [⟨(some 30), .mov (.tmp 8), none⟩,
    ⟨(some 31), .mov (.tmp 5), none⟩,
    ⟨(some 32), .bin .eql (.tmp 30) (.tmp 31), none⟩,
    ⟨(some 33), .mov (.tmp 32), none⟩,
    ⟨(some 34), .mov (.tmp 0), (some (33, true))⟩,
    ⟨(some 35), .mov (.tmp 7), (some (33, true))⟩,
    ⟨(some 36), .slcStr (.tmp 34) none (some (.tmp 35)), (some (33, true))⟩,
    ⟨(some 37), .mov (.tmp 1), (some (33, true))⟩,
    ⟨(some 38), .bin .eql (.tmp 36) (.tmp 37), (some (33, true))⟩,
    ⟨(some 39), .pick (.tmp 33) (.tmp 38) (.con (.bool false)), none⟩])
  (.cond (.tmp 39)
  (.seq (.ops [⟨(some 4), .mov (.con (.int .i64 0)), none⟩])
  .ret)
  .skip))
  (.seq (.seq (.ops [⟨(some 40), .mov (.tmp 7), none⟩,
    ⟨(some 10), .mov (.tmp 40), none⟩])
  (.block 2 (.loop c50l1)))
  (.seq (.ops [⟨(some 4), .mov (.con (.int .i64 (-1))), none⟩])
  .ret))))))))
def a50 : AFunc := ⟨2, c50, [.tmp 4]⟩

/- 52: internal/bytealg.hashStr[string] -/
def c52l0 : ACode := (.seq (.seq (.ops [⟨(some 9), .mov (.tmp 5), none⟩,
    ⟨(some 10), .mov (.tmp 0), none⟩,
    ⟨(some 11), .lenStr (.tmp 10), none⟩,
    ⟨(some 12), .bin .lss (.tmp 9) (.tmp 11), none⟩])
  (.cond (.tmp 12)
  .skip
  (.exit 0)))
  (.seq (.block 1 (.ops [⟨(some 15), .mov (.tmp 4), none⟩,
    ⟨(some 16), .bin .mul (.tmp 15) (.con (.int .u32 16777619)), none⟩,
    ⟨(some 17), .mov (.tmp 0), none⟩,
    ⟨(some 18), .mov (.tmp 5), none⟩,
    ⟨(some 19), .idxStr (.tmp 17) (.tmp 18), none⟩,
    ⟨(some 20), .toInt .u32 (.tmp 19), none⟩,
    ⟨(some 21), .bin .add (.tmp 16) (.tmp 20), none⟩,
    ⟨(some 4), .mov (.tmp 21), none⟩]))
  (.ops [⟨(some 13), .mov (.tmp 5), none⟩,
    ⟨(some 14), .bin .add (.tmp 13) (.con (.int .i64 1)), none⟩,
    ⟨(some 5), .mov (.tmp 14), none⟩])))
def c52l1 : ACode := (.seq (.seq (.ops [⟨(some 24), .mov (.tmp 8), none⟩,
    ⟨(some 25), .bin .gtr (.tmp 24) (.con (.int .i64 0)), none⟩])
  (.cond (.tmp 25)
  .skip
  (.exit 2)))
  (.seq (.block 3 (.seq (.seq (.ops [⟨(some 28), .mov (.tmp 8), none⟩,
    ⟨(some 29), .bin .and (.tmp 28) (.con (.int .i64 1)), none⟩,
    ⟨(some 30), .bin .neq (.tmp 29) (.con (.int .i64 0)), none⟩])
  (.cond (.tmp 30)
  (.ops [⟨(some 31), .mov (.tmp 6), none⟩,
    ⟨(some 32), .mov (.tmp 7), none⟩,
    ⟨(some 33), .bin .mul (.tmp 31) (.tmp 32), none⟩,
    ⟨(some 6), .mov (.tmp 33), none⟩])
  .skip))
  (.ops [⟨(some 34), .mov (.tmp 7), none⟩,
    ⟨(some 35), .mov (.tmp 7), none⟩,
    ⟨(some 36), .bin .mul (.tmp 34) (.tmp 35), none⟩,
    ⟨(some 7), .mov (.tmp 36), none⟩])))
  (.ops [⟨(some 26), .mov (.tmp 8), none⟩,
    ⟨(some 27), .bin .shr (.tmp 26) (.con (.int .u64 1)), none⟩,
    ⟨(some 8), .mov (.tmp 27), none⟩])))
def c52 : ACode := (.seq (.ops [⟨(some 2), .mov (.con (.int .u32 0)), none⟩,
    ⟨(some 3), .mov (.con (.int .u32 0)), none⟩])
  (.seq (.ops [⟨(some 4), .mov (.con (.int .u32 0)), none⟩])
  (.seq (.seq (.ops [⟨(some 5), .mov (.con (.int .i64 0)), none⟩])
  (.block 0 (.loop c52l0)))
  (.seq (.ops [⟨(some 6), .mov (.con (.int .u32 1)), none⟩,
    ⟨(some 7), .mov (.con (.int .u32 16777619)), none⟩])
  (.seq (.seq (.ops [⟨(some 22), .mov (.tmp 0), none⟩,
    ⟨(some 23), .lenStr (.tmp 22), none⟩,
    ⟨(some 8), .mov (.tmp 23), none⟩])
  (.block 2 (.loop c52l1)))
  (.seq (.ops [⟨(some 37), .mov (.tmp 4), none⟩,
    ⟨(some 38), .mov (.tmp 6), none⟩,
    ⟨(some 2), .mov (.tmp 37), none⟩,
    ⟨(some 3), .mov (.tmp 38), none⟩])
  .ret))))))
def a52 : AFunc := ⟨1, c52, [.tmp 2, .tmp 3]⟩

/- rows -/
def table : Nat → Option AFunc
  | 3 => some a3
  | 4 => some a4
  | 5 => some a5
  | 6 => some a6
  | 7 => some a7
  | 8 => some a8
  | 10 => some a10
  | 11 => some a11
  | 12 => some a12
  | 13 => some a13
  | 14 => some a14
  | 15 => some a15
  | 16 => some a16
  | 17 => some a17
  | 18 => some a18
  | 19 => some a19
  | 20 => some a20
  | 21 => some a21
  | 23 => some a23
  | 22 => some a22
  | 24 => some a24
  | 25 => some a25
  | 37 => some a37
  | 38 => some a38
  | 28 => some a28
  | 29 => some a29
  | 30 => some a30
  | 31 => some a31
  | 32 => some a32
  | 33 => some a33
  | 34 => some a34
  | 35 => some a35
  | 36 => some a36
  | 26 => some a26
  | 27 => some a27
  | 42 => some a42
  | 43 => some a43
  | 44 => some a44
  | 45 => some a45
  | 46 => some a46
  | 47 => some a47
  | 40 => some a40
  | 41 => some a41
  | 51 => some a51
  | 49 => some a49
  | 50 => some a50
  | 52 => some a52
  | _ => none
theorem k3 : cFunc Tryd.prog Tryd.f3 = some a3 := by kernel_rfl
theorem k4 : cFunc Tryd.prog Tryd.f4 = some a4 := by kernel_rfl
theorem k5 : cFunc Tryd.prog Tryd.f5 = some a5 := by kernel_rfl
theorem k6 : cFunc Tryd.prog Tryd.f6 = some a6 := by kernel_rfl
theorem k7 : cFunc Tryd.prog Tryd.f7 = some a7 := by kernel_rfl
theorem k8 : cFunc Tryd.prog Tryd.f8 = some a8 := by kernel_rfl
theorem k10 : cFunc Tryd.prog Tryd.f10 = some a10 := by kernel_rfl
theorem k11 : cFunc Tryd.prog Tryd.f11 = some a11 := by kernel_rfl
theorem k12 : cFunc Tryd.prog Tryd.f12 = some a12 := by kernel_rfl
theorem k13 : cFunc Tryd.prog Tryd.f13 = some a13 := by kernel_rfl
theorem k14 : cFunc Tryd.prog Tryd.f14 = some a14 := by kernel_rfl
theorem k15 : cFunc Tryd.prog Tryd.f15 = some a15 := by kernel_rfl
theorem k16 : cFunc Tryd.prog Tryd.f16 = some a16 := by kernel_rfl
theorem k17 : cFunc Tryd.prog Tryd.f17 = some a17 := by kernel_rfl
theorem k18 : cFunc Tryd.prog Tryd.f18 = some a18 := by kernel_rfl
theorem k19 : cFunc Tryd.prog Tryd.f19 = some a19 := by kernel_rfl
theorem k20 : cFunc Tryd.prog Tryd.f20 = some a20 := by kernel_rfl
theorem k21 : cFunc Tryd.prog Tryd.f21 = some a21 := by kernel_rfl
theorem k23 : cFunc Tryd.prog Tryd.f23 = some a23 := by kernel_rfl
theorem k22 : cFunc Tryd.prog Tryd.f22 = some a22 := by kernel_rfl
theorem k24 : cFunc Tryd.prog Tryd.f24 = some a24 := by kernel_rfl
theorem k25 : cFunc Tryd.prog Tryd.f25 = some a25 := by kernel_rfl
theorem k37 : cFunc Tryd.prog Tryd.f37 = some a37 := by kernel_rfl
theorem k38 : cFunc Tryd.prog Tryd.f38 = some a38 := by kernel_rfl
theorem k28 : cFunc Tryd.prog Tryd.f28 = some a28 := by kernel_rfl
theorem k29 : cFunc Tryd.prog Tryd.f29 = some a29 := by kernel_rfl
theorem k30 : cFunc Tryd.prog Tryd.f30 = some a30 := by kernel_rfl
theorem k31 : cFunc Tryd.prog Tryd.f31 = some a31 := by kernel_rfl
theorem k32 : cFunc Tryd.prog Tryd.f32 = some a32 := by kernel_rfl
theorem k33 : cFunc Tryd.prog Tryd.f33 = some a33 := by kernel_rfl
theorem k34 : cFunc Tryd.prog Tryd.f34 = some a34 := by kernel_rfl
theorem k35 : cFunc Tryd.prog Tryd.f35 = some a35 := by kernel_rfl
theorem k36 : cFunc Tryd.prog Tryd.f36 = some a36 := by kernel_rfl
theorem k26 : cFunc Tryd.prog Tryd.f26 = some a26 := by kernel_rfl
theorem k27 : cFunc Tryd.prog Tryd.f27 = some a27 := by kernel_rfl
theorem k42 : cFunc Tryd.prog Tryd.f42 = some a42 := by kernel_rfl
theorem k43 : cFunc Tryd.prog Tryd.f43 = some a43 := by kernel_rfl
theorem k44 : cFunc Tryd.prog Tryd.f44 = some a44 := by kernel_rfl
theorem k45 : cFunc Tryd.prog Tryd.f45 = some a45 := by kernel_rfl
theorem k46 : cFunc Tryd.prog Tryd.f46 = some a46 := by kernel_rfl
theorem k47 : cFunc Tryd.prog Tryd.f47 = some a47 := by kernel_rfl
theorem k40 : cFunc Tryd.prog Tryd.f40 = some a40 := by kernel_rfl
theorem k41 : cFunc Tryd.prog Tryd.f41 = some a41 := by kernel_rfl
theorem k51 : cFunc Tryd.prog Tryd.f51 = some a51 := by kernel_rfl
theorem k49 : cFunc Tryd.prog Tryd.f49 = some a49 := by kernel_rfl
theorem k50 : cFunc Tryd.prog Tryd.f50 = some a50 := by kernel_rfl
theorem k52 : cFunc Tryd.prog Tryd.f52 = some a52 := by kernel_rfl
theorem table_ok : ∀ g af, table g = some af → ∃ fn, Tryd.prog.funcs[g]? = some fn ∧ cFunc Tryd.prog fn = some af := by
  intro g af h
  unfold table at h
  split at h
  · cases h; exact ⟨Tryd.f3, Tryd.func3, k3⟩
  · cases h; exact ⟨Tryd.f4, Tryd.func4, k4⟩
  · cases h; exact ⟨Tryd.f5, Tryd.func5, k5⟩
  · cases h; exact ⟨Tryd.f6, Tryd.func6, k6⟩
  · cases h; exact ⟨Tryd.f7, Tryd.func7, k7⟩
  · cases h; exact ⟨Tryd.f8, Tryd.func8, k8⟩
  · cases h; exact ⟨Tryd.f10, Tryd.func10, k10⟩
  · cases h; exact ⟨Tryd.f11, Tryd.func11, k11⟩
  · cases h; exact ⟨Tryd.f12, Tryd.func12, k12⟩
  · cases h; exact ⟨Tryd.f13, Tryd.func13, k13⟩
  · cases h; exact ⟨Tryd.f14, Tryd.func14, k14⟩
  · cases h; exact ⟨Tryd.f15, Tryd.func15, k15⟩
  · cases h; exact ⟨Tryd.f16, Tryd.func16, k16⟩
  · cases h; exact ⟨Tryd.f17, Tryd.func17, k17⟩
  · cases h; exact ⟨Tryd.f18, Tryd.func18, k18⟩
  · cases h; exact ⟨Tryd.f19, Tryd.func19, k19⟩
  · cases h; exact ⟨Tryd.f20, Tryd.func20, k20⟩
  · cases h; exact ⟨Tryd.f21, Tryd.func21, k21⟩
  · cases h; exact ⟨Tryd.f23, Tryd.func23, k23⟩
  · cases h; exact ⟨Tryd.f22, Tryd.func22, k22⟩
  · cases h; exact ⟨Tryd.f24, Tryd.func24, k24⟩
  · cases h; exact ⟨Tryd.f25, Tryd.func25, k25⟩
  · cases h; exact ⟨Tryd.f37, Tryd.func37, k37⟩
  · cases h; exact ⟨Tryd.f38, Tryd.func38, k38⟩
  · cases h; exact ⟨Tryd.f28, Tryd.func28, k28⟩
  · cases h; exact ⟨Tryd.f29, Tryd.func29, k29⟩
  · cases h; exact ⟨Tryd.f30, Tryd.func30, k30⟩
  · cases h; exact ⟨Tryd.f31, Tryd.func31, k31⟩
  · cases h; exact ⟨Tryd.f32, Tryd.func32, k32⟩
  · cases h; exact ⟨Tryd.f33, Tryd.func33, k33⟩
  · cases h; exact ⟨Tryd.f34, Tryd.func34, k34⟩
  · cases h; exact ⟨Tryd.f35, Tryd.func35, k35⟩
  · cases h; exact ⟨Tryd.f36, Tryd.func36, k36⟩
  · cases h; exact ⟨Tryd.f26, Tryd.func26, k26⟩
  · cases h; exact ⟨Tryd.f27, Tryd.func27, k27⟩
  · cases h; exact ⟨Tryd.f42, Tryd.func42, k42⟩
  · cases h; exact ⟨Tryd.f43, Tryd.func43, k43⟩
  · cases h; exact ⟨Tryd.f44, Tryd.func44, k44⟩
  · cases h; exact ⟨Tryd.f45, Tryd.func45, k45⟩
  · cases h; exact ⟨Tryd.f46, Tryd.func46, k46⟩
  · cases h; exact ⟨Tryd.f47, Tryd.func47, k47⟩
  · cases h; exact ⟨Tryd.f40, Tryd.func40, k40⟩
  · cases h; exact ⟨Tryd.f41, Tryd.func41, k41⟩
  · cases h; exact ⟨Tryd.f51, Tryd.func51, k51⟩
  · cases h; exact ⟨Tryd.f49, Tryd.func49, k49⟩
  · cases h; exact ⟨Tryd.f50, Tryd.func50, k50⟩
  · cases h; exact ⟨Tryd.f52, Tryd.func52, k52⟩
  · cases h
end Go.Proofs.YteajnglncglmfaaDoor

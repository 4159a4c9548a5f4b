/- The abstract code of the functions that the laws of chapter 2 reach, as a program printed it; each is what the compiler makes of the given function. -/
import Derived.Test.YtcnghmfmokmnpaaVmZ
import Derived.Test.YtcnghmfmokmnpaaRows
namespace Go.Proofs.Ytcnghmfmokmnpaa
open Go.Vm
/- 4: tendril/tendrillaw2.PackTells -/
def c4 : ACode := (.seq (.ops [⟨(some 6), .mov (.con (.bool false)), none⟩])
  (.seq (.seq (.ops [⟨(some 13), .mov (.tmp 0), none⟩,
    ⟨(some 14), .lenStr (.tmp 13), none⟩,
    ⟨(some 15), .bin .gtr (.tmp 14) (.con (.int .i64 300)), none⟩])
  (.cond (.tmp 15)
  (.ops [⟨(some 16), .mov (.tmp 0), none⟩,
    ⟨(some 17), .slcStr (.tmp 16) none (some (.con (.int .i64 300))), none⟩,
    ⟨(some 0), .mov (.tmp 17), none⟩])
  .skip))
  (.seq (.seq (.ops [⟨(some 18), .mov (.tmp 1), none⟩,
    ⟨(some 19), .lenSlice (.tmp 18), none⟩,
    ⟨(some 20), .bin .gtr (.tmp 19) (.con (.int .i64 60)), none⟩])
  (.cond (.tmp 20)
  (.ops [⟨(some 21), .mov (.tmp 1), none⟩,
    ⟨(some 22), .slc 1 (.tmp 21) none (some (.con (.int .i64 60))) none, none⟩,
    ⟨(some 1), .mov (.tmp 22), none⟩])
  .skip))
  (.seq (.ops [⟨(some 23), .mov (.tmp 1), none⟩,
    ⟨(some 24), .call 12 [(.tmp 23), (.con (.int .u64 7))], none⟩,
    ⟨(some 7), .mov (.tmp 24), none⟩])
  (.seq (.ops [⟨(some 26), .mov (.tmp 7), none⟩,
    ⟨(some 27), .mov (.tmp 1), none⟩,
    ⟨(some 28), .lenSlice (.tmp 27), none⟩,
    ⟨(some 29), .slc 1 (.tmp 26) none (some (.tmp 28)) none, none⟩,
    ⟨(some 30), .mov (.tmp 2), none⟩,
    ⟨(some 31), .call 9 [(.tmp 29), (.tmp 30)], none⟩,
    ⟨(some 25), .mov (.tmp 31), none⟩,
    ⟨(some 32), .extract (.tmp 25) 0, none⟩,
    ⟨(some 33), .extract (.tmp 25) 1, none⟩,
    ⟨(some 8), .mov (.tmp 32), none⟩,
    ⟨(some 9), .mov (.tmp 33), none⟩])
  (.seq (.ops [⟨(some 35), .mov (.tmp 1), none⟩,
    ⟨(some 36), .mov (.tmp 2), none⟩,
    ⟨(some 37), .call 13 [(.tmp 35), (.tmp 36)], none⟩,
    ⟨(some 34), .mov (.tmp 37), none⟩,
    ⟨(some 38), .extract (.tmp 34) 0, none⟩,
    ⟨(some 39), .extract (.tmp 34) 1, none⟩,
    ⟨(some 10), .mov (.tmp 38), none⟩,
    ⟨(some 11), .mov (.tmp 39), none⟩])
  (.seq (.ops [⟨(some 12), .mov (.con (.int .i64 0)), none⟩])
  (.seq (.seq (.ops [⟨(some 40), .mov (.tmp 2), none⟩,
    ⟨(some 41), .bin .gtr (.tmp 40) (.con (.int .i64 0)), none⟩])
  (.cond (.tmp 41)
  (.seq (.ops [⟨(some 42), .mov (.tmp 2), none⟩,
    ⟨(some 43), .bin .quo (.tmp 42) (.con (.int .i64 8)), none⟩,
    ⟨(some 12), .mov (.tmp 43), none⟩])
  (.seq (.ops [⟨(some 44), .mov (.tmp 2), none⟩,
    ⟨(some 45), .bin .rem (.tmp 44) (.con (.int .i64 8)), none⟩,
    ⟨(some 46), .bin .gtr (.tmp 45) (.con (.int .i64 0)), none⟩])
  (.cond (.tmp 46)
  (.ops [⟨(some 47), .mov (.tmp 12), none⟩,
    ⟨(some 48), .bin .add (.tmp 47) (.con (.int .i64 1)), none⟩,
    ⟨(some 12), .mov (.tmp 48), none⟩])
  .skip)))
  .skip))
  (.seq (.ops [⟨(some 49), .mov (.tmp 0), none⟩,
    ⟨(some 50), .call 8 [(.tmp 49)], none⟩,
    ⟨(some 51), .mov (.tmp 0), none⟩,
    ⟨(some 52), .call 14 [(.tmp 51)], none⟩,
    ⟨(some 53), .call 10 [(.tmp 50), (.tmp 52)], none⟩,
    ⟨(some 54), .mov (.tmp 53), none⟩,
    ⟨(some 55), .mov (.tmp 8), (some (54, true))⟩,
    ⟨(some 56), .mov (.tmp 10), (some (54, true))⟩,
    ⟨(some 57), .bin .eql (.tmp 55) (.tmp 56), (some (54, true))⟩,
    ⟨(some 58), .pick (.tmp 54) (.tmp 57) (.con (.bool false)), none⟩,
    ⟨(some 59), .mov (.tmp 58), none⟩,
    ⟨(some 60), .mov (.tmp 9), (some (59, true))⟩,
    ⟨(some 61), .mov (.tmp 11), (some (59, true))⟩,
    ⟨(some 62), .bin .eql (.tmp 60) (.tmp 61), (some (59, true))⟩,
    ⟨(some 63), .pick (.tmp 59) (.tmp 62) (.con (.bool false)), none⟩,
    ⟨(some 64), .mov (.tmp 63), none⟩,
    ⟨(some 65), .mov (.tmp 2), (some (64, true))⟩,
    ⟨(some 66), .call 11 [(.tmp 65)], (some (64, true))⟩,
    ⟨(some 67), .mov (.tmp 12), (some (64, true))⟩,
    ⟨(some 68), .bin .eql (.tmp 66) (.tmp 67), (some (64, true))⟩,
    ⟨(some 69), .pick (.tmp 64) (.tmp 68) (.con (.bool false)), none⟩,
    ⟨(some 70), .mov (.tmp 69), none⟩,
    ⟨(some 71), .mov (.tmp 7), (some (70, true))⟩,
    ⟨(some 72), .mov (.tmp 1), (some (70, true))⟩,
    ⟨(some 73), .call 15 [(.tmp 71), (.tmp 72), (.con (.int .u64 7))], (some (70, true))⟩,
    ⟨(some 74), .pick (.tmp 70) (.tmp 73) (.con (.bool false)), none⟩,
    ⟨(some 75), .mov (.tmp 74), none⟩,
    ⟨(some 76), .call 3 [], (some (75, true))⟩,
    ⟨(some 77), .pick (.tmp 75) (.tmp 76) (.con (.bool false)), none⟩,
    ⟨(some 6), .mov (.tmp 77), none⟩])
  .ret)))))))))
def a4 : AFunc := ⟨3, c4, [.tmp 6]⟩

/- 5: tendril/tendrillaw2.PackBack -/
def c5l0 : ACode := (.seq (.seq (.ops [⟨(some 51), .mov (.tmp 10), none⟩,
    ⟨(some 52), .mov (.tmp 0), none⟩,
    ⟨(some 53), .lenStr (.tmp 52), none⟩,
    ⟨(some 54), .bin .lss (.tmp 51) (.tmp 53), none⟩])
  (.cond (.tmp 54)
  .skip
  (.exit 0)))
  (.seq (.block 1 (.ops [⟨(some 57), .mov (.tmp 9), none⟩,
    ⟨(some 58), .mov (.tmp 57), none⟩,
    ⟨(some 59), .mov (.tmp 0), (some (58, true))⟩,
    ⟨(some 60), .mov (.tmp 10), (some (58, true))⟩,
    ⟨(some 61), .idxStr (.tmp 59) (.tmp 60), (some (58, true))⟩,
    ⟨(some 62), .bin .eql (.tmp 61) (.con (.int .u8 0)), (some (58, true))⟩,
    ⟨(some 63), .pick (.tmp 58) (.tmp 62) (.con (.bool false)), none⟩,
    ⟨(some 9), .mov (.tmp 63), none⟩]))
  (.ops [⟨(some 55), .mov (.tmp 10), none⟩,
    ⟨(some 56), .bin .add (.tmp 55) (.con (.int .i64 1)), none⟩,
    ⟨(some 10), .mov (.tmp 56), none⟩])))
def c5 : ACode := (.seq (.ops [⟨(some 4), .mov (.con (.bool false)), none⟩])
  (.seq (.seq (.ops [⟨(some 17), .mov (.tmp 0), none⟩,
    ⟨(some 18), .lenStr (.tmp 17), none⟩,
    ⟨(some 19), .bin .gtr (.tmp 18) (.con (.int .i64 200)), none⟩])
  (.cond (.tmp 19)
  (.ops [⟨(some 20), .mov (.tmp 0), none⟩,
    ⟨(some 21), .slcStr (.tmp 20) none (some (.con (.int .i64 200))), none⟩,
    ⟨(some 0), .mov (.tmp 21), none⟩])
  .skip))
  (.seq (.ops [⟨(some 22), .mov (.tmp 0), none⟩,
    ⟨(some 23), .call 8 [(.tmp 22)], none⟩,
    ⟨(some 5), .mov (.tmp 23), none⟩])
  (.seq (.ops [⟨(some 25), .mov (.tmp 5), none⟩,
    ⟨(some 26), .mov (.tmp 0), none⟩,
    ⟨(some 27), .lenStr (.tmp 26), none⟩,
    ⟨(some 28), .call 9 [(.tmp 25), (.tmp 27)], none⟩,
    ⟨(some 24), .mov (.tmp 28), none⟩,
    ⟨(some 29), .extract (.tmp 24) 0, none⟩,
    ⟨(some 30), .extract (.tmp 24) 1, none⟩,
    ⟨(some 6), .mov (.tmp 29), none⟩,
    ⟨(some 7), .mov (.tmp 30), none⟩])
  (.seq (.seq (.ops [⟨(some 31), .mov (.tmp 7), none⟩,
    ⟨(some 32), .bin .neq (.tmp 31) (.con (.int .i64 0)), none⟩,
    ⟨(some 33), .mov (.tmp 32), none⟩,
    ⟨(some 34), .mov (.tmp 6), (some (33, false))⟩,
    ⟨(some 35), .mov (.tmp 0), (some (33, false))⟩,
    ⟨(some 36), .bin .neq (.tmp 34) (.tmp 35), (some (33, false))⟩,
    ⟨(some 37), .pick (.tmp 33) (.con (.bool true)) (.tmp 36), none⟩,
    ⟨(some 38), .mov (.tmp 37), none⟩,
    ⟨(some 39), .mov (.tmp 5), (some (38, false))⟩,
    ⟨(some 40), .lenSlice (.tmp 39), (some (38, false))⟩,
    ⟨(some 41), .mov (.tmp 0), (some (38, false))⟩,
    ⟨(some 42), .lenStr (.tmp 41), (some (38, false))⟩,
    ⟨(some 43), .call 11 [(.tmp 42)], (some (38, false))⟩,
    ⟨(some 44), .bin .neq (.tmp 40) (.tmp 43), (some (38, false))⟩,
    ⟨(some 45), .pick (.tmp 38) (.con (.bool true)) (.tmp 44), none⟩])
  (.cond (.tmp 45)
  (.seq (.ops [⟨(some 4), .mov (.con (.bool false)), none⟩])
  .ret)
  .skip))
  (.seq (.ops [⟨(some 46), .mov (.tmp 1), none⟩,
    ⟨(some 47), .mov (.tmp 0), none⟩,
    ⟨(some 48), .lenStr (.tmp 47), none⟩,
    ⟨(some 49), .call 16 [(.tmp 46), (.con (.int .i64 0)), (.tmp 48)], none⟩,
    ⟨(some 8), .mov (.tmp 49), none⟩])
  (.seq (.ops [⟨(some 9), .mov (.con (.bool true)), none⟩])
  (.seq (.seq (.ops [⟨(some 50), .mov (.tmp 8), none⟩,
    ⟨(some 10), .mov (.tmp 50), none⟩])
  (.block 0 (.loop c5l0)))
  (.seq (.ops [⟨(some 65), .mov (.tmp 5), none⟩,
    ⟨(some 66), .mov (.tmp 8), none⟩,
    ⟨(some 67), .call 9 [(.tmp 65), (.tmp 66)], none⟩,
    ⟨(some 64), .mov (.tmp 67), none⟩,
    ⟨(some 68), .extract (.tmp 64) 0, none⟩,
    ⟨(some 69), .extract (.tmp 64) 1, none⟩,
    ⟨(some 11), .mov (.tmp 68), none⟩,
    ⟨(some 12), .mov (.tmp 69), none⟩])
  (.seq (.ops [⟨(some 71), .mov (.tmp 5), none⟩,
    ⟨(some 72), .mov (.tmp 5), none⟩,
    ⟨(some 73), .lenSlice (.tmp 72), none⟩,
    ⟨(some 74), .bin .mul (.con (.int .i64 8)) (.tmp 73), none⟩,
    ⟨(some 75), .call 9 [(.tmp 71), (.tmp 74)], none⟩,
    ⟨(some 70), .mov (.tmp 75), none⟩,
    ⟨(some 76), .extract (.tmp 70) 0, none⟩,
    ⟨(some 77), .extract (.tmp 70) 1, none⟩,
    ⟨(some 13), .mov (.tmp 76), none⟩,
    ⟨(some 14), .mov (.tmp 77), none⟩])
  (.seq (.ops [⟨(some 79), .mov (.tmp 5), none⟩,
    ⟨(some 80), .mov (.tmp 5), none⟩,
    ⟨(some 81), .lenSlice (.tmp 80), none⟩,
    ⟨(some 82), .bin .mul (.con (.int .i64 8)) (.tmp 81), none⟩,
    ⟨(some 83), .bin .add (.tmp 82) (.con (.int .i64 1)), none⟩,
    ⟨(some 84), .call 9 [(.tmp 79), (.tmp 83)], none⟩,
    ⟨(some 78), .mov (.tmp 84), none⟩,
    ⟨(some 85), .extract (.tmp 78) 0, none⟩,
    ⟨(some 86), .extract (.tmp 78) 1, none⟩,
    ⟨(some 15), .mov (.tmp 85), none⟩,
    ⟨(some 16), .mov (.tmp 86), none⟩])
  (.seq (.ops [⟨(some 87), .mov (.tmp 12), none⟩,
    ⟨(some 88), .bin .eql (.tmp 87) (.con (.int .i64 0)), none⟩,
    ⟨(some 89), .mov (.tmp 9), none⟩,
    ⟨(some 90), .eqB false (.tmp 88) (.tmp 89), none⟩,
    ⟨(some 91), .mov (.tmp 90), none⟩,
    ⟨(some 92), .mov (.tmp 12), (some (91, true))⟩,
    ⟨(some 93), .bin .neq (.tmp 92) (.con (.int .i64 0)), (some (91, true))⟩,
    ⟨(some 94), .mov (.tmp 93), (some (91, true))⟩,
    ⟨(some 95), .mov (.tmp 11), (some (94, false))⟩,
    ⟨(some 96), .mov (.tmp 0), (some (94, false))⟩,
    ⟨(some 97), .mov (.tmp 8), (some (94, false))⟩,
    ⟨(some 98), .slcStr (.tmp 96) none (some (.tmp 97)), (some (94, false))⟩,
    ⟨(some 99), .bin .eql (.tmp 95) (.tmp 98), (some (94, false))⟩,
    ⟨(some 100), .pick (.tmp 94) (.con (.bool true)) (.tmp 99), (some (91, true))⟩,
    ⟨(some 101), .pick (.tmp 91) (.tmp 100) (.con (.bool false)), none⟩,
    ⟨(some 102), .mov (.tmp 101), none⟩,
    ⟨(some 103), .mov (.tmp 14), (some (102, true))⟩,
    ⟨(some 104), .bin .eql (.tmp 103) (.con (.int .i64 0)), (some (102, true))⟩,
    ⟨(some 105), .pick (.tmp 102) (.tmp 104) (.con (.bool false)), none⟩,
    ⟨(some 106), .mov (.tmp 105), none⟩,
    ⟨(some 107), .mov (.tmp 13), (some (106, true))⟩,
    ⟨(some 108), .lenStr (.tmp 107), (some (106, true))⟩,
    ⟨(some 109), .mov (.tmp 5), (some (106, true))⟩,
    ⟨(some 110), .lenSlice (.tmp 109), (some (106, true))⟩,
    ⟨(some 111), .bin .mul (.con (.int .i64 8)) (.tmp 110), (some (106, true))⟩,
    ⟨(some 112), .bin .eql (.tmp 108) (.tmp 111), (some (106, true))⟩,
    ⟨(some 113), .pick (.tmp 106) (.tmp 112) (.con (.bool false)), none⟩,
    ⟨(some 114), .mov (.tmp 113), none⟩,
    ⟨(some 115), .mov (.tmp 13), (some (114, true))⟩,
    ⟨(some 116), .lenStr (.tmp 115), (some (114, true))⟩,
    ⟨(some 117), .mov (.tmp 0), (some (114, true))⟩,
    ⟨(some 118), .lenStr (.tmp 117), (some (114, true))⟩,
    ⟨(some 119), .bin .geq (.tmp 116) (.tmp 118), (some (114, true))⟩,
    ⟨(some 120), .pick (.tmp 114) (.tmp 119) (.con (.bool false)), none⟩,
    ⟨(some 121), .mov (.tmp 120), none⟩,
    ⟨(some 122), .mov (.tmp 13), (some (121, true))⟩,
    ⟨(some 123), .mov (.tmp 0), (some (121, true))⟩,
    ⟨(some 124), .lenStr (.tmp 123), (some (121, true))⟩,
    ⟨(some 125), .slcStr (.tmp 122) none (some (.tmp 124)), (some (121, true))⟩,
    ⟨(some 126), .mov (.tmp 0), (some (121, true))⟩,
    ⟨(some 127), .bin .eql (.tmp 125) (.tmp 126), (some (121, true))⟩,
    ⟨(some 128), .pick (.tmp 121) (.tmp 127) (.con (.bool false)), none⟩,
    ⟨(some 129), .mov (.tmp 128), none⟩,
    ⟨(some 130), .mov (.tmp 16), (some (129, true))⟩,
    ⟨(some 131), .bin .eql (.tmp 130) (.con (.int .i64 1)), (some (129, true))⟩,
    ⟨(some 132), .pick (.tmp 129) (.tmp 131) (.con (.bool false)), none⟩,
    ⟨(some 133), .mov (.tmp 132), none⟩,
    ⟨(some 134), .call 3 [], (some (133, true))⟩,
    ⟨(some 135), .pick (.tmp 133) (.tmp 134) (.con (.bool false)), none⟩,
    ⟨(some 4), .mov (.tmp 135), none⟩])
  .ret))))))))))))
def a5 : AFunc := ⟨2, c5, [.tmp 4]⟩

/- 6: tendril/tendrillaw2.PackApart -/
def c6 : ACode := (.seq (.ops [⟨(some 4), .mov (.con (.bool false)), none⟩])
  (.seq (.ops [⟨(some 12), .mov (.tmp 0), none⟩,
    ⟨(some 13), .lenStr (.tmp 12), none⟩,
    ⟨(some 14), .mov (.tmp 1), none⟩,
    ⟨(some 15), .lenStr (.tmp 14), none⟩,
    ⟨(some 16), .mnx false [(.tmp 13), (.tmp 15), (.con (.int .i64 200))], none⟩,
    ⟨(some 5), .mov (.tmp 16), none⟩])
  (.seq (.ops [⟨(some 17), .mov (.tmp 0), none⟩,
    ⟨(some 18), .mov (.tmp 5), none⟩,
    ⟨(some 19), .slcStr (.tmp 17) none (some (.tmp 18)), none⟩,
    ⟨(some 20), .mov (.tmp 1), none⟩,
    ⟨(some 21), .mov (.tmp 5), none⟩,
    ⟨(some 22), .slcStr (.tmp 20) none (some (.tmp 21)), none⟩,
    ⟨(some 6), .mov (.tmp 19), none⟩,
    ⟨(some 7), .mov (.tmp 22), none⟩])
  (.seq (.ops [⟨(some 23), .mov (.tmp 6), none⟩,
    ⟨(some 25), .mov (.tmp 7), none⟩,
    ⟨(some 27), .mov (.tmp 6), none⟩,
    ⟨(some 28), .mov (.tmp 1), none⟩,
    ⟨(some 29), .mov (.tmp 1), none⟩,
    ⟨(some 30), .lenStr (.tmp 29), none⟩,
    ⟨(some 31), .mnx false [(.tmp 30), (.con (.int .i64 40))], none⟩,
    ⟨(some 32), .slcStr (.tmp 28) none (some (.tmp 31)), none⟩,
    ⟨(some 33), .bin .add (.tmp 27) (.tmp 32), none⟩,
    ⟨(some 24), .call 8 [(.tmp 23)], none⟩,
    ⟨(some 26), .call 8 [(.tmp 25)], none⟩,
    ⟨(some 34), .call 8 [(.tmp 33)], none⟩,
    ⟨(some 8), .mov (.tmp 24), none⟩,
    ⟨(some 9), .mov (.tmp 26), none⟩,
    ⟨(some 10), .mov (.tmp 34), none⟩])
  (.seq (.ops [⟨(some 35), .mov (.tmp 5), none⟩,
    ⟨(some 36), .bin .quo (.tmp 35) (.con (.int .i64 8)), none⟩,
    ⟨(some 11), .mov (.tmp 36), none⟩])
  (.seq (.ops [⟨(some 37), .mov (.tmp 8), none⟩,
    ⟨(some 38), .mov (.tmp 9), none⟩,
    ⟨(some 40), .mov (.tmp 6), none⟩,
    ⟨(some 41), .mov (.tmp 7), none⟩,
    ⟨(some 42), .bin .eql (.tmp 40) (.tmp 41), none⟩,
    ⟨(some 39), .call 10 [(.tmp 37), (.tmp 38)], none⟩,
    ⟨(some 43), .eqB false (.tmp 39) (.tmp 42), none⟩,
    ⟨(some 44), .mov (.tmp 43), none⟩,
    ⟨(some 45), .mov (.tmp 10), (some (44, true))⟩,
    ⟨(some 46), .lenSlice (.tmp 45), (some (44, true))⟩,
    ⟨(some 47), .mov (.tmp 8), (some (44, true))⟩,
    ⟨(some 48), .lenSlice (.tmp 47), (some (44, true))⟩,
    ⟨(some 49), .bin .geq (.tmp 46) (.tmp 48), (some (44, true))⟩,
    ⟨(some 50), .pick (.tmp 44) (.tmp 49) (.con (.bool false)), none⟩,
    ⟨(some 51), .mov (.tmp 50), none⟩,
    ⟨(some 52), .mov (.tmp 8), (some (51, true))⟩,
    ⟨(some 53), .lenSlice (.tmp 52), (some (51, true))⟩,
    ⟨(some 54), .mov (.tmp 11), (some (51, true))⟩,
    ⟨(some 55), .bin .geq (.tmp 53) (.tmp 54), (some (51, true))⟩,
    ⟨(some 56), .pick (.tmp 51) (.tmp 55) (.con (.bool false)), none⟩,
    ⟨(some 57), .mov (.tmp 56), none⟩,
    ⟨(some 58), .mov (.tmp 10), (some (57, true))⟩,
    ⟨(some 59), .mov (.tmp 11), (some (57, true))⟩,
    ⟨(some 60), .mov (.tmp 10), (some (57, true))⟩,
    ⟨(some 61), .lenSlice (.tmp 60), (some (57, true))⟩,
    ⟨(some 62), .mnx false [(.tmp 59), (.tmp 61)], (some (57, true))⟩,
    ⟨(some 63), .slc 1 (.tmp 58) none (some (.tmp 62)) none, (some (57, true))⟩,
    ⟨(some 64), .mov (.tmp 8), (some (57, true))⟩,
    ⟨(some 65), .mov (.tmp 11), (some (57, true))⟩,
    ⟨(some 66), .mov (.tmp 8), (some (57, true))⟩,
    ⟨(some 67), .lenSlice (.tmp 66), (some (57, true))⟩,
    ⟨(some 68), .mnx false [(.tmp 65), (.tmp 67)], (some (57, true))⟩,
    ⟨(some 69), .slc 1 (.tmp 64) none (some (.tmp 68)) none, (some (57, true))⟩,
    ⟨(some 70), .call 10 [(.tmp 63), (.tmp 69)], (some (57, true))⟩,
    ⟨(some 71), .pick (.tmp 57) (.tmp 70) (.con (.bool false)), none⟩,
    ⟨(some 72), .mov (.tmp 71), none⟩,
    ⟨(some 73), .call 3 [], (some (72, true))⟩,
    ⟨(some 74), .pick (.tmp 72) (.tmp 73) (.con (.bool false)), none⟩,
    ⟨(some 4), .mov (.tmp 74), none⟩])
  .ret))))))
def a6 : AFunc := ⟨2, c6, [.tmp 4]⟩

/- 7: tendril/tendrillaw2.PackCounts -/
def c7 : ACode := (.seq (.ops [⟨(some 2), .mov (.con (.bool false)), none⟩])
  (.seq (.ops [⟨(some 4), .mov (.tmp 0), none⟩,
    ⟨(some 5), .call 16 [(.tmp 4), (.con (.int .i64 0)), (.con (.int .i64 1099511627776))], none⟩,
    ⟨(some 3), .mov (.tmp 5), none⟩])
  (.seq (.ops [⟨(some 6), .mov (.tmp 3), none⟩,
    ⟨(some 7), .bin .add (.tmp 6) (.con (.int .i64 8)), none⟩,
    ⟨(some 8), .call 11 [(.tmp 7)], none⟩,
    ⟨(some 9), .mov (.tmp 3), none⟩,
    ⟨(some 10), .call 11 [(.tmp 9)], none⟩,
    ⟨(some 11), .bin .add (.tmp 10) (.con (.int .i64 1)), none⟩,
    ⟨(some 12), .bin .eql (.tmp 8) (.tmp 11), none⟩,
    ⟨(some 13), .mov (.tmp 12), none⟩,
    ⟨(some 14), .call 11 [(.con (.int .i64 0))], (some (13, true))⟩,
    ⟨(some 15), .bin .eql (.tmp 14) (.con (.int .i64 0)), (some (13, true))⟩,
    ⟨(some 16), .pick (.tmp 13) (.tmp 15) (.con (.bool false)), none⟩,
    ⟨(some 17), .mov (.tmp 16), none⟩,
    ⟨(some 18), .mov (.tmp 3), (some (17, true))⟩,
    ⟨(some 19), .bin .sub (.con (.int .i64 (-1))) (.tmp 18), (some (17, true))⟩,
    ⟨(some 20), .call 11 [(.tmp 19)], (some (17, true))⟩,
    ⟨(some 21), .bin .eql (.tmp 20) (.con (.int .i64 0)), (some (17, true))⟩,
    ⟨(some 22), .pick (.tmp 17) (.tmp 21) (.con (.bool false)), none⟩,
    ⟨(some 23), .mov (.tmp 22), none⟩,
    ⟨(some 24), .mov (.tmp 3), (some (23, true))⟩,
    ⟨(some 25), .call 11 [(.tmp 24)], (some (23, true))⟩,
    ⟨(some 26), .bin .mul (.con (.int .i64 8)) (.tmp 25), (some (23, true))⟩,
    ⟨(some 27), .mov (.tmp 3), (some (23, true))⟩,
    ⟨(some 28), .bin .geq (.tmp 26) (.tmp 27), (some (23, true))⟩,
    ⟨(some 29), .pick (.tmp 23) (.tmp 28) (.con (.bool false)), none⟩,
    ⟨(some 30), .mov (.tmp 29), none⟩,
    ⟨(some 31), .mov (.tmp 3), (some (30, true))⟩,
    ⟨(some 32), .call 11 [(.tmp 31)], (some (30, true))⟩,
    ⟨(some 33), .bin .mul (.con (.int .i64 8)) (.tmp 32), (some (30, true))⟩,
    ⟨(some 34), .mov (.tmp 3), (some (30, true))⟩,
    ⟨(some 35), .bin .add (.tmp 34) (.con (.int .i64 8)), (some (30, true))⟩,
    ⟨(some 36), .bin .lss (.tmp 33) (.tmp 35), (some (30, true))⟩,
    ⟨(some 37), .pick (.tmp 30) (.tmp 36) (.con (.bool false)), none⟩,
    ⟨(some 38), .mov (.tmp 37), none⟩,
    ⟨(some 39), .call 3 [], (some (38, true))⟩,
    ⟨(some 40), .pick (.tmp 38) (.tmp 39) (.con (.bool false)), none⟩,
    ⟨(some 2), .mov (.tmp 40), none⟩])
  .ret)))
def a7 : AFunc := ⟨1, c7, [.tmp 2]⟩

/- 12: tendril/tendrilbook.Roomy[uint64] -/
def c12l0 : ACode := (.seq (.seq (.ops [⟨(some 16), .mov (.tmp 6), none⟩,
    ⟨(some 17), .mov (.tmp 5), none⟩,
    ⟨(some 18), .lenSlice (.tmp 17), none⟩,
    ⟨(some 19), .bin .lss (.tmp 16) (.tmp 18), none⟩])
  (.cond (.tmp 19)
  .skip
  (.exit 0)))
  (.seq (.block 1 (.ops [⟨(some 22), .mov (.tmp 5), none⟩,
    ⟨(some 23), .mov (.tmp 6), none⟩,
    ⟨(some 24), .mov (.tmp 1), none⟩,
    ⟨(some 25), .idxAddr 1 (.tmp 22) (.tmp 23), none⟩,
    ⟨none, .store 1 (.tmp 25) (.tmp 24), none⟩]))
  (.ops [⟨(some 20), .mov (.tmp 6), none⟩,
    ⟨(some 21), .bin .add (.tmp 20) (.con (.int .i64 1)), none⟩,
    ⟨(some 6), .mov (.tmp 21), none⟩])))
def c12 : ACode := (.seq (.ops [⟨(some 4), .mov (.con .nilSlice), none⟩])
  (.seq (.ops [⟨(some 7), .mov (.tmp 0), none⟩,
    ⟨(some 8), .lenSlice (.tmp 7), none⟩,
    ⟨(some 9), .bin .add (.tmp 8) (.con (.int .i64 80)), none⟩,
    ⟨(some 10), .mkSlice 1 8 [(.int .u64 0)] (.tmp 9) (.tmp 9), none⟩,
    ⟨(some 5), .mov (.tmp 10), none⟩])
  (.seq (.ops [⟨(some 11), .mov (.tmp 5), none⟩,
    ⟨(some 12), .mov (.tmp 0), none⟩,
    ⟨(some 13), .copy 1 (.tmp 11) (.tmp 12), none⟩])
  (.seq (.seq (.ops [⟨(some 14), .mov (.tmp 0), none⟩,
    ⟨(some 15), .lenSlice (.tmp 14), none⟩,
    ⟨(some 6), .mov (.tmp 15), none⟩])
  (.block 0 (.loop c12l0)))
  (.seq (.ops [⟨(some 26), .mov (.tmp 5), none⟩,
    ⟨(some 4), .mov (.tmp 26), none⟩])
  .ret)))))
def a12 : AFunc := ⟨2, c12, [.tmp 4]⟩

/- 9: tendril/pack.Bytes -/
def c9l0 : ACode := (.seq (.ops [⟨(some 32), .bin .lss (.tmp 31) (.con (.int .i64 8)), none⟩])
  (.seq (.cond (.tmp 32)
  .skip
  (.exit 2))
  (.seq (.block 3 (.seq (.ops [⟨(some 33), .mov (.tmp 31), none⟩,
    ⟨(some 9), .mov (.tmp 33), none⟩])
  (.ops [⟨(some 34), .mov (.tmp 6), none⟩,
    ⟨(some 35), .mov (.tmp 8), none⟩,
    ⟨(some 36), .mov (.tmp 9), none⟩,
    ⟨(some 37), .bin .mul (.con (.int .i64 8)) (.tmp 36), none⟩,
    ⟨(some 38), .toInt .u64 (.tmp 37), none⟩,
    ⟨(some 39), .bin .shr (.tmp 35) (.tmp 38), none⟩,
    ⟨(some 40), .toInt .u8 (.tmp 39), none⟩,
    ⟨(some 41), .buildSlice 1 1 [(.int .u8 0)] [(0, 1, (.tmp 40))], none⟩,
    ⟨(some 42), .append 1 1 (.tmp 34) (.tmp 41), none⟩,
    ⟨(some 6), .mov (.tmp 42), none⟩])))
  (.ops [⟨(some 43), .bin .add (.tmp 31) (.con (.int .i64 1)), none⟩,
    ⟨(some 31), .mov (.tmp 43), none⟩]))))
def c9l1 : ACode := (.seq (.ops [⟨(some 28), .bin .lss (.tmp 27) (.tmp 26), none⟩])
  (.seq (.cond (.tmp 28)
  .skip
  (.exit 0))
  (.seq (.block 1 (.seq (.ops [⟨(some 29), .idxAddr 1 (.tmp 25) (.tmp 27), none⟩,
    ⟨(some 30), .load false 1 (.tmp 29), none⟩,
    ⟨(some 8), .mov (.tmp 30), none⟩])
  (.seq (.ops [⟨(some 31), .mov (.con (.int .i64 0)), none⟩])
  (.block 2 (.loop c9l0)))))
  (.ops [⟨(some 44), .bin .add (.tmp 27) (.con (.int .i64 1)), none⟩,
    ⟨(some 27), .mov (.tmp 44), none⟩]))))
def c9l2 : ACode := (.seq (.ops [⟨(some 50), .bin .lss (.tmp 49) (.tmp 48), none⟩])
  (.seq (.cond (.tmp 50)
  .skip
  (.exit 4))
  (.seq (.block 5 (.seq (.ops [⟨(some 51), .idxAddr 1 (.tmp 47) (.tmp 49), none⟩,
    ⟨(some 52), .load false 1 (.tmp 51), none⟩,
    ⟨(some 11), .mov (.tmp 52), none⟩])
  (.seq (.ops [⟨(some 53), .mov (.tmp 11), none⟩,
    ⟨(some 54), .bin .neq (.tmp 53) (.con (.int .u8 0)), none⟩])
  (.cond (.tmp 54)
  (.seq (.ops [⟨(some 4), .mov (.con (.str [])), none⟩,
    ⟨(some 5), .mov (.con (.int .i64 5)), none⟩])
  .ret)
  .skip))))
  (.ops [⟨(some 55), .bin .add (.tmp 49) (.con (.int .i64 1)), none⟩,
    ⟨(some 49), .mov (.tmp 55), none⟩]))))
def c9 : ACode := (.seq (.ops [⟨(some 4), .mov (.con (.str [])), none⟩,
    ⟨(some 5), .mov (.con (.int .i64 0)), none⟩])
  (.seq (.seq (.ops [⟨(some 12), .mov (.tmp 1), none⟩,
    ⟨(some 13), .bin .lss (.tmp 12) (.con (.int .i64 0)), none⟩,
    ⟨(some 14), .mov (.tmp 13), none⟩,
    ⟨(some 15), .mov (.tmp 1), (some (14, false))⟩,
    ⟨(some 16), .mov (.tmp 0), (some (14, false))⟩,
    ⟨(some 17), .lenSlice (.tmp 16), (some (14, false))⟩,
    ⟨(some 18), .bin .mul (.con (.int .i64 8)) (.tmp 17), (some (14, false))⟩,
    ⟨(some 19), .bin .gtr (.tmp 15) (.tmp 18), (some (14, false))⟩,
    ⟨(some 20), .pick (.tmp 14) (.con (.bool true)) (.tmp 19), none⟩])
  (.cond (.tmp 20)
  (.seq (.ops [⟨(some 4), .mov (.con (.str [])), none⟩,
    ⟨(some 5), .mov (.con (.int .i64 1)), none⟩])
  .ret)
  .skip))
  (.seq (.ops [⟨(some 21), .mov (.tmp 0), none⟩,
    ⟨(some 22), .lenSlice (.tmp 21), none⟩,
    ⟨(some 23), .bin .mul (.con (.int .i64 8)) (.tmp 22), none⟩,
    ⟨(some 24), .mkSlice 1 1 [(.int .u8 0)] (.con (.int .i64 0)) (.tmp 23), none⟩,
    ⟨(some 6), .mov (.tmp 24), none⟩])
  (.seq (.seq (.ops [⟨(some 25), .mov (.tmp 0), none⟩,
    ⟨(some 26), .lenSlice (.tmp 25), none⟩,
    ⟨(some 27), .mov (.con (.int .i64 0)), none⟩])
  (.block 0 (.loop c9l1)))
  (.seq (.seq (.ops [⟨(some 45), .mov (.tmp 6), none⟩,
    ⟨(some 46), .mov (.tmp 1), none⟩,
    ⟨(some 47), .slc 1 (.tmp 45) (some (.tmp 46)) none none, none⟩,
    ⟨(some 48), .lenSlice (.tmp 47), none⟩,
    ⟨(some 49), .mov (.con (.int .i64 0)), none⟩])
  (.block 4 (.loop c9l2)))
  (.seq (.ops [⟨(some 56), .mov (.tmp 6), none⟩,
    ⟨(some 57), .mov (.tmp 1), none⟩,
    ⟨(some 58), .slc 1 (.tmp 56) none (some (.tmp 57)) none, none⟩,
    ⟨(some 59), .toStr (.tmp 58), none⟩,
    ⟨(some 4), .mov (.tmp 59), none⟩,
    ⟨(some 5), .mov (.con (.int .i64 0)), none⟩])
  .ret))))))
def a9 : AFunc := ⟨2, c9, [.tmp 4, .tmp 5]⟩

/- 13: tendril/tendrilref1.Bytes -/
def c13l0 : ACode := (.seq (.seq (.ops [⟨(some 20), .mov (.tmp 7), none⟩,
    ⟨(some 21), .mov (.tmp 1), none⟩,
    ⟨(some 22), .bin .lss (.tmp 20) (.tmp 21), none⟩])
  (.cond (.tmp 22)
  .skip
  (.exit 0)))
  (.seq (.block 1 (.ops [⟨(some 25), .mov (.tmp 6), none⟩,
    ⟨(some 26), .mov (.tmp 7), none⟩,
    ⟨(some 27), .mov (.tmp 0), none⟩,
    ⟨(some 28), .mov (.tmp 7), none⟩,
    ⟨(some 29), .bin .quo (.tmp 28) (.con (.int .i64 8)), none⟩,
    ⟨(some 30), .idxAddr 1 (.tmp 27) (.tmp 29), none⟩,
    ⟨(some 31), .load false 1 (.tmp 30), none⟩,
    ⟨(some 32), .mov (.tmp 7), none⟩,
    ⟨(some 33), .bin .rem (.tmp 32) (.con (.int .i64 8)), none⟩,
    ⟨(some 34), .bin .mul (.con (.int .i64 8)) (.tmp 33), none⟩,
    ⟨(some 35), .bin .shr (.tmp 31) (.tmp 34), none⟩,
    ⟨(some 36), .toInt .u8 (.tmp 35), none⟩,
    ⟨(some 37), .idxAddr 1 (.tmp 25) (.tmp 26), none⟩,
    ⟨none, .store 1 (.tmp 37) (.tmp 36), none⟩]))
  (.ops [⟨(some 23), .mov (.tmp 7), none⟩,
    ⟨(some 24), .bin .add (.tmp 23) (.con (.int .i64 1)), none⟩,
    ⟨(some 7), .mov (.tmp 24), none⟩])))
def c13l1 : ACode := (.seq (.seq (.ops [⟨(some 39), .mov (.tmp 8), none⟩,
    ⟨(some 40), .mov (.tmp 0), none⟩,
    ⟨(some 41), .lenSlice (.tmp 40), none⟩,
    ⟨(some 42), .bin .mul (.con (.int .i64 8)) (.tmp 41), none⟩,
    ⟨(some 43), .bin .lss (.tmp 39) (.tmp 42), none⟩])
  (.cond (.tmp 43)
  .skip
  (.exit 2)))
  (.seq (.block 3 (.seq (.ops [⟨(some 46), .mov (.tmp 0), none⟩,
    ⟨(some 47), .mov (.tmp 8), none⟩,
    ⟨(some 48), .bin .quo (.tmp 47) (.con (.int .i64 8)), none⟩,
    ⟨(some 49), .idxAddr 1 (.tmp 46) (.tmp 48), none⟩,
    ⟨(some 50), .load false 1 (.tmp 49), none⟩,
    ⟨(some 51), .mov (.tmp 8), none⟩,
    ⟨(some 52), .bin .rem (.tmp 51) (.con (.int .i64 8)), none⟩,
    ⟨(some 53), .bin .mul (.con (.int .i64 8)) (.tmp 52), none⟩,
    ⟨(some 54), .bin .shr (.tmp 50) (.tmp 53), none⟩,
    ⟨(some 55), .toInt .u8 (.tmp 54), none⟩,
    ⟨(some 56), .bin .neq (.tmp 55) (.con (.int .u8 0)), none⟩])
  (.cond (.tmp 56)
  (.seq (.ops [⟨(some 4), .mov (.con (.str [])), none⟩,
    ⟨(some 5), .mov (.con (.int .i64 5)), none⟩])
  .ret)
  .skip)))
  (.ops [⟨(some 44), .mov (.tmp 8), none⟩,
    ⟨(some 45), .bin .add (.tmp 44) (.con (.int .i64 1)), none⟩,
    ⟨(some 8), .mov (.tmp 45), none⟩])))
def c13 : ACode := (.seq (.ops [⟨(some 4), .mov (.con (.str [])), none⟩,
    ⟨(some 5), .mov (.con (.int .i64 0)), none⟩])
  (.seq (.seq (.ops [⟨(some 9), .mov (.tmp 1), none⟩,
    ⟨(some 10), .bin .lss (.tmp 9) (.con (.int .i64 0)), none⟩,
    ⟨(some 11), .mov (.tmp 10), none⟩,
    ⟨(some 12), .mov (.tmp 1), (some (11, false))⟩,
    ⟨(some 13), .mov (.tmp 0), (some (11, false))⟩,
    ⟨(some 14), .lenSlice (.tmp 13), (some (11, false))⟩,
    ⟨(some 15), .bin .mul (.con (.int .i64 8)) (.tmp 14), (some (11, false))⟩,
    ⟨(some 16), .bin .gtr (.tmp 12) (.tmp 15), (some (11, false))⟩,
    ⟨(some 17), .pick (.tmp 11) (.con (.bool true)) (.tmp 16), none⟩])
  (.cond (.tmp 17)
  (.seq (.ops [⟨(some 4), .mov (.con (.str [])), none⟩,
    ⟨(some 5), .mov (.con (.int .i64 1)), none⟩])
  .ret)
  .skip))
  (.seq (.ops [⟨(some 18), .mov (.tmp 1), none⟩,
    ⟨(some 19), .mkSlice 1 1 [(.int .u8 0)] (.tmp 18) (.tmp 18), none⟩,
    ⟨(some 6), .mov (.tmp 19), none⟩])
  (.seq (.seq (.ops [⟨(some 7), .mov (.con (.int .i64 0)), none⟩])
  (.block 0 (.loop c13l0)))
  (.seq (.seq (.ops [⟨(some 38), .mov (.tmp 1), none⟩,
    ⟨(some 8), .mov (.tmp 38), none⟩])
  (.block 2 (.loop c13l1)))
  (.seq (.ops [⟨(some 57), .mov (.tmp 6), none⟩,
    ⟨(some 58), .toStr (.tmp 57), none⟩,
    ⟨(some 4), .mov (.tmp 58), none⟩,
    ⟨(some 5), .mov (.con (.int .i64 0)), none⟩])
  .ret))))))
def a13 : AFunc := ⟨2, c13, [.tmp 4, .tmp 5]⟩

/- 8: tendril/pack.Words -/
def c8l0 : ACode := (.seq (.ops [⟨(some 12), .bin .lss (.tmp 11) (.tmp 10), none⟩])
  (.seq (.cond (.tmp 12)
  .skip
  (.exit 0))
  (.seq (.block 1 (.seq (.ops [⟨(some 13), .mov (.tmp 11), none⟩,
    ⟨(some 4), .mov (.tmp 13), none⟩])
  (.ops [⟨(some 14), .mov (.tmp 3), none⟩,
    ⟨(some 15), .mov (.tmp 4), none⟩,
    ⟨(some 16), .bin .quo (.tmp 15) (.con (.int .i64 8)), none⟩,
    ⟨(some 17), .idxAddr 1 (.tmp 14) (.tmp 16), none⟩,
    ⟨(some 18), .load false 1 (.tmp 17), none⟩,
    ⟨(some 19), .mov (.tmp 0), none⟩,
    ⟨(some 20), .mov (.tmp 4), none⟩,
    ⟨(some 21), .idxStr (.tmp 19) (.tmp 20), none⟩,
    ⟨(some 22), .toInt .u64 (.tmp 21), none⟩,
    ⟨(some 23), .mov (.tmp 4), none⟩,
    ⟨(some 24), .bin .rem (.tmp 23) (.con (.int .i64 8)), none⟩,
    ⟨(some 25), .bin .mul (.con (.int .i64 8)) (.tmp 24), none⟩,
    ⟨(some 26), .toInt .u64 (.tmp 25), none⟩,
    ⟨(some 27), .bin .shl (.tmp 22) (.tmp 26), none⟩,
    ⟨(some 28), .bin .or (.tmp 18) (.tmp 27), none⟩,
    ⟨(some 29), .idxAddr 1 (.tmp 14) (.tmp 16), none⟩,
    ⟨none, .store 1 (.tmp 29) (.tmp 28), none⟩])))
  (.ops [⟨(some 30), .bin .add (.tmp 11) (.con (.int .i64 1)), none⟩,
    ⟨(some 11), .mov (.tmp 30), none⟩]))))
def c8 : ACode := (.seq (.ops [⟨(some 2), .mov (.con .nilSlice), none⟩])
  (.seq (.ops [⟨(some 5), .mov (.tmp 0), none⟩,
    ⟨(some 6), .lenStr (.tmp 5), none⟩,
    ⟨(some 7), .call 11 [(.tmp 6)], none⟩,
    ⟨(some 8), .mkSlice 1 8 [(.int .u64 0)] (.tmp 7) (.tmp 7), none⟩,
    ⟨(some 3), .mov (.tmp 8), none⟩])
  (.seq (.seq (.ops [⟨(some 9), .mov (.tmp 0), none⟩,
    ⟨(some 10), .lenStr (.tmp 9), none⟩,
    ⟨(some 11), .mov (.con (.int .i64 0)), none⟩])
  (.block 0 (.loop c8l0)))
  (.seq (.ops [⟨(some 31), .mov (.tmp 3), none⟩,
    ⟨(some 2), .mov (.tmp 31), none⟩])
  .ret))))
def a8 : AFunc := ⟨1, c8, [.tmp 2]⟩

/- 14: tendril/tendrilref1.Words -/
def c14l0 : ACode := (.seq (.seq (.ops [⟨(some 10), .mov (.tmp 4), none⟩,
    ⟨(some 11), .mov (.tmp 0), none⟩,
    ⟨(some 12), .lenStr (.tmp 11), none⟩,
    ⟨(some 13), .bin .lss (.tmp 10) (.tmp 12), none⟩])
  (.cond (.tmp 13)
  .skip
  (.exit 0)))
  (.seq (.block 1 (.ops [⟨(some 16), .mov (.tmp 3), none⟩,
    ⟨(some 17), .mov (.tmp 4), none⟩,
    ⟨(some 18), .bin .quo (.tmp 17) (.con (.int .i64 8)), none⟩,
    ⟨(some 19), .mov (.tmp 3), none⟩,
    ⟨(some 20), .mov (.tmp 4), none⟩,
    ⟨(some 21), .bin .quo (.tmp 20) (.con (.int .i64 8)), none⟩,
    ⟨(some 22), .idxAddr 1 (.tmp 19) (.tmp 21), none⟩,
    ⟨(some 23), .load false 1 (.tmp 22), none⟩,
    ⟨(some 24), .mov (.tmp 0), none⟩,
    ⟨(some 25), .mov (.tmp 4), none⟩,
    ⟨(some 26), .idxStr (.tmp 24) (.tmp 25), none⟩,
    ⟨(some 27), .toInt .u64 (.tmp 26), none⟩,
    ⟨(some 28), .mov (.tmp 4), none⟩,
    ⟨(some 29), .bin .rem (.tmp 28) (.con (.int .i64 8)), none⟩,
    ⟨(some 30), .bin .mul (.con (.int .i64 8)) (.tmp 29), none⟩,
    ⟨(some 31), .bin .shl (.tmp 27) (.tmp 30), none⟩,
    ⟨(some 32), .bin .or (.tmp 23) (.tmp 31), none⟩,
    ⟨(some 33), .idxAddr 1 (.tmp 16) (.tmp 18), none⟩,
    ⟨none, .store 1 (.tmp 33) (.tmp 32), none⟩]))
  (.ops [⟨(some 14), .mov (.tmp 4), none⟩,
    ⟨(some 15), .bin .add (.tmp 14) (.con (.int .i64 1)), none⟩,
    ⟨(some 4), .mov (.tmp 15), none⟩])))
def c14 : ACode := (.seq (.ops [⟨(some 2), .mov (.con .nilSlice), none⟩])
  (.seq (.ops [⟨(some 5), .mov (.tmp 0), none⟩,
    ⟨(some 6), .lenStr (.tmp 5), none⟩,
    ⟨(some 7), .bin .add (.tmp 6) (.con (.int .i64 7)), none⟩,
    ⟨(some 8), .bin .quo (.tmp 7) (.con (.int .i64 8)), none⟩,
    ⟨(some 9), .mkSlice 1 8 [(.int .u64 0)] (.tmp 8) (.tmp 8), none⟩,
    ⟨(some 3), .mov (.tmp 9), none⟩])
  (.seq (.seq (.ops [⟨(some 4), .mov (.con (.int .i64 0)), none⟩])
  (.block 0 (.loop c14l0)))
  (.seq (.ops [⟨(some 34), .mov (.tmp 3), none⟩,
    ⟨(some 2), .mov (.tmp 34), none⟩])
  .ret))))
def a14 : AFunc := ⟨1, c14, [.tmp 2]⟩

/- 10: tendril/tendrilbook.Same[uint64] -/
def c10l0 : ACode := (.seq (.seq (.ops [⟨(some 11), .mov (.tmp 5), none⟩,
    ⟨(some 12), .mov (.tmp 0), none⟩,
    ⟨(some 13), .lenSlice (.tmp 12), none⟩,
    ⟨(some 14), .bin .lss (.tmp 11) (.tmp 13), none⟩])
  (.cond (.tmp 14)
  .skip
  (.exit 0)))
  (.seq (.block 1 (.seq (.ops [⟨(some 17), .mov (.tmp 0), none⟩,
    ⟨(some 18), .mov (.tmp 5), none⟩,
    ⟨(some 19), .idxAddr 1 (.tmp 17) (.tmp 18), none⟩,
    ⟨(some 20), .load false 1 (.tmp 19), none⟩,
    ⟨(some 21), .mov (.tmp 1), none⟩,
    ⟨(some 22), .mov (.tmp 5), none⟩,
    ⟨(some 23), .idxAddr 1 (.tmp 21) (.tmp 22), none⟩,
    ⟨(some 24), .load false 1 (.tmp 23), none⟩,
    ⟨(some 25), .bin .neq (.tmp 20) (.tmp 24), none⟩])
  (.cond (.tmp 25)
  (.seq (.ops [⟨(some 4), .mov (.con (.bool false)), none⟩])
  .ret)
  .skip)))
  (.ops [⟨(some 15), .mov (.tmp 5), none⟩,
    ⟨(some 16), .bin .add (.tmp 15) (.con (.int .i64 1)), none⟩,
    ⟨(some 5), .mov (.tmp 16), none⟩])))
def c10 : ACode := (.seq (.ops [⟨(some 4), .mov (.con (.bool false)), none⟩])
  (.seq (.seq (.ops [⟨(some 6), .mov (.tmp 0), none⟩,
    ⟨(some 7), .lenSlice (.tmp 6), none⟩,
    ⟨(some 8), .mov (.tmp 1), none⟩,
    ⟨(some 9), .lenSlice (.tmp 8), none⟩,
    ⟨(some 10), .bin .neq (.tmp 7) (.tmp 9), none⟩])
  (.cond (.tmp 10)
  (.seq (.ops [⟨(some 4), .mov (.con (.bool false)), none⟩])
  .ret)
  .skip))
  (.seq (.seq (.ops [⟨(some 5), .mov (.con (.int .i64 0)), none⟩])
  (.block 0 (.loop c10l0)))
  (.seq (.ops [⟨(some 4), .mov (.con (.bool true)), none⟩])
  .ret))))
def a10 : AFunc := ⟨2, c10, [.tmp 4]⟩

/- 11: tendril/pack.Count -/
def c11 : ACode := (.seq (.ops [⟨(some 2), .mov (.con (.int .i64 0)), none⟩])
  (.seq (.seq (.ops [⟨(some 3), .mov (.tmp 0), none⟩,
    ⟨(some 4), .bin .leq (.tmp 3) (.con (.int .i64 0)), none⟩])
  (.cond (.tmp 4)
  (.seq (.ops [⟨(some 2), .mov (.con (.int .i64 0)), none⟩])
  .ret)
  .skip))
  (.seq (.ops [⟨(some 5), .mov (.tmp 0), none⟩,
    ⟨(some 6), .bin .sub (.tmp 5) (.con (.int .i64 1)), none⟩,
    ⟨(some 7), .bin .quo (.tmp 6) (.con (.int .i64 8)), none⟩,
    ⟨(some 8), .bin .add (.tmp 7) (.con (.int .i64 1)), none⟩,
    ⟨(some 2), .mov (.tmp 8), none⟩])
  .ret)))
def a11 : AFunc := ⟨1, c11, [.tmp 2]⟩

/- 15: tendril/tendrilbook.Intact[uint64] -/
def c15l0 : ACode := (.seq (.seq (.ops [⟨(some 25), .mov (.tmp 7), none⟩,
    ⟨(some 26), .mov (.tmp 0), none⟩,
    ⟨(some 27), .lenSlice (.tmp 26), none⟩,
    ⟨(some 28), .bin .lss (.tmp 25) (.tmp 27), none⟩])
  (.cond (.tmp 28)
  .skip
  (.exit 0)))
  (.seq (.block 1 (.seq (.ops [⟨(some 31), .mov (.tmp 0), none⟩,
    ⟨(some 32), .mov (.tmp 7), none⟩,
    ⟨(some 33), .idxAddr 1 (.tmp 31) (.tmp 32), none⟩,
    ⟨(some 34), .load false 1 (.tmp 33), none⟩,
    ⟨(some 35), .mov (.tmp 2), none⟩,
    ⟨(some 36), .bin .neq (.tmp 34) (.tmp 35), none⟩])
  (.cond (.tmp 36)
  (.seq (.ops [⟨(some 6), .mov (.con (.bool false)), none⟩])
  .ret)
  .skip)))
  (.ops [⟨(some 29), .mov (.tmp 7), none⟩,
    ⟨(some 30), .bin .add (.tmp 29) (.con (.int .i64 1)), none⟩,
    ⟨(some 7), .mov (.tmp 30), none⟩])))
def c15 : ACode := (.seq (.ops [⟨(some 6), .mov (.con (.bool false)), none⟩])
  (.seq (.seq (.ops [⟨(some 8), .mov (.tmp 0), none⟩,
    ⟨(some 9), .lenSlice (.tmp 8), none⟩,
    ⟨(some 10), .mov (.tmp 1), none⟩,
    ⟨(some 11), .lenSlice (.tmp 10), none⟩,
    ⟨(some 12), .bin .add (.tmp 11) (.con (.int .i64 80)), none⟩,
    ⟨(some 13), .bin .neq (.tmp 9) (.tmp 12), none⟩,
    ⟨(some 14), .mov (.tmp 13), none⟩,
    ⟨(some 15), .mov (.tmp 0), (some (14, false))⟩,
    ⟨(some 16), .mov (.tmp 1), (some (14, false))⟩,
    ⟨(some 17), .lenSlice (.tmp 16), (some (14, false))⟩,
    ⟨(some 18), .slc 1 (.tmp 15) none (some (.tmp 17)) none, (some (14, false))⟩,
    ⟨(some 19), .mov (.tmp 1), (some (14, false))⟩,
    ⟨(some 20), .call 10 [(.tmp 18), (.tmp 19)], (some (14, false))⟩,
    ⟨(some 21), .un .not (.tmp 20), (some (14, false))⟩,
    ⟨(some 22), .pick (.tmp 14) (.con (.bool true)) (.tmp 21), none⟩])
  (.cond (.tmp 22)
  (.seq (.ops [⟨(some 6), .mov (.con (.bool false)), none⟩])
  .ret)
  .skip))
  (.seq (.seq (.ops [⟨(some 23), .mov (.tmp 1), none⟩,
    ⟨(some 24), .lenSlice (.tmp 23), none⟩,
    ⟨(some 7), .mov (.tmp 24), none⟩])
  (.block 0 (.loop c15l0)))
  (.seq (.ops [⟨(some 6), .mov (.con (.bool true)), none⟩])
  .ret))))
def a15 : AFunc := ⟨3, c15, [.tmp 6]⟩

/- 3: tendril/tendrillaw2.PackRuns -/
def c3 : ACode := (.seq (.ops [⟨(some 0), .mov (.con (.bool false)), none⟩])
  (.seq (.ops [⟨(some 6), .call 8 [(.con (.str [97, 98]))], none⟩,
    ⟨(some 1), .mov (.tmp 6), none⟩])
  (.seq (.ops [⟨(some 8), .mov (.tmp 1), none⟩,
    ⟨(some 9), .call 9 [(.tmp 8), (.con (.int .i64 2))], none⟩,
    ⟨(some 7), .mov (.tmp 9), none⟩,
    ⟨(some 10), .extract (.tmp 7) 0, none⟩,
    ⟨(some 11), .extract (.tmp 7) 1, none⟩,
    ⟨(some 2), .mov (.tmp 10), none⟩,
    ⟨(some 3), .mov (.tmp 11), none⟩])
  (.seq (.ops [⟨(some 13), .mov (.tmp 1), none⟩,
    ⟨(some 14), .call 9 [(.tmp 13), (.con (.int .i64 1))], none⟩,
    ⟨(some 12), .mov (.tmp 14), none⟩,
    ⟨(some 15), .extract (.tmp 12) 0, none⟩,
    ⟨(some 16), .extract (.tmp 12) 1, none⟩,
    ⟨(some 4), .mov (.tmp 15), none⟩,
    ⟨(some 5), .mov (.tmp 16), none⟩])
  (.seq (.ops [⟨(some 17), .mov (.tmp 1), none⟩,
    ⟨(some 18), .buildSlice 1 1 [(.int .u64 0)] [(0, 1, (.con (.int .u64 25185)))], none⟩,
    ⟨(some 19), .call 10 [(.tmp 17), (.tmp 18)], none⟩,
    ⟨(some 20), .mov (.tmp 19), none⟩,
    ⟨(some 21), .mov (.tmp 2), (some (20, true))⟩,
    ⟨(some 22), .bin .eql (.tmp 21) (.con (.str [97, 98])), (some (20, true))⟩,
    ⟨(some 23), .pick (.tmp 20) (.tmp 22) (.con (.bool false)), none⟩,
    ⟨(some 24), .mov (.tmp 23), none⟩,
    ⟨(some 25), .mov (.tmp 3), (some (24, true))⟩,
    ⟨(some 26), .bin .eql (.tmp 25) (.con (.int .i64 0)), (some (24, true))⟩,
    ⟨(some 27), .pick (.tmp 24) (.tmp 26) (.con (.bool false)), none⟩,
    ⟨(some 28), .mov (.tmp 27), none⟩,
    ⟨(some 29), .mov (.tmp 5), (some (28, true))⟩,
    ⟨(some 30), .bin .eql (.tmp 29) (.con (.int .i64 5)), (some (28, true))⟩,
    ⟨(some 31), .pick (.tmp 28) (.tmp 30) (.con (.bool false)), none⟩,
    ⟨(some 32), .mov (.tmp 31), none⟩,
    ⟨(some 33), .call 11 [(.con (.int .i64 9))], (some (32, true))⟩,
    ⟨(some 34), .bin .eql (.tmp 33) (.con (.int .i64 2)), (some (32, true))⟩,
    ⟨(some 35), .pick (.tmp 32) (.tmp 34) (.con (.bool false)), none⟩,
    ⟨(some 0), .mov (.tmp 35), none⟩])
  .ret)))))
def a3 : AFunc := ⟨0, c3, [.tmp 0]⟩

/- 16: tendril/tendrilbook.Within -/
def c16 : ACode := (.seq (.ops [⟨(some 6), .mov (.con (.int .i64 0)), none⟩])
  (.seq (.ops [⟨(some 7), .mov (.tmp 0), none⟩,
    ⟨(some 8), .mov (.tmp 2), none⟩,
    ⟨(some 9), .mov (.tmp 1), none⟩,
    ⟨(some 10), .bin .sub (.tmp 8) (.tmp 9), none⟩,
    ⟨(some 11), .bin .add (.tmp 10) (.con (.int .i64 1)), none⟩,
    ⟨(some 12), .bin .rem (.tmp 7) (.tmp 11), none⟩,
    ⟨(some 0), .mov (.tmp 12), none⟩])
  (.seq (.seq (.ops [⟨(some 13), .mov (.tmp 0), none⟩,
    ⟨(some 14), .bin .lss (.tmp 13) (.con (.int .i64 0)), none⟩])
  (.cond (.tmp 14)
  (.ops [⟨(some 15), .mov (.tmp 0), none⟩,
    ⟨(some 16), .mov (.tmp 2), none⟩,
    ⟨(some 17), .bin .add (.tmp 15) (.tmp 16), none⟩,
    ⟨(some 18), .mov (.tmp 1), none⟩,
    ⟨(some 19), .bin .sub (.tmp 17) (.tmp 18), none⟩,
    ⟨(some 20), .bin .add (.tmp 19) (.con (.int .i64 1)), none⟩,
    ⟨(some 0), .mov (.tmp 20), none⟩])
  .skip))
  (.seq (.ops [⟨(some 21), .mov (.tmp 1), none⟩,
    ⟨(some 22), .mov (.tmp 0), none⟩,
    ⟨(some 23), .bin .add (.tmp 21) (.tmp 22), none⟩,
    ⟨(some 6), .mov (.tmp 23), none⟩])
  .ret))))
def a16 : AFunc := ⟨3, c16, [.tmp 6]⟩

/- rows -/
def table : Nat → Option AFunc
  | 4 => some a4
  | 5 => some a5
  | 6 => some a6
  | 7 => some a7
  | 12 => some a12
  | 9 => some a9
  | 13 => some a13
  | 8 => some a8
  | 14 => some a14
  | 10 => some a10
  | 11 => some a11
  | 15 => some a15
  | 3 => some a3
  | 16 => some a16
  | _ => none
theorem k4 : cFunc Try.prog Try.f4 = some a4 := by kernel_rfl
theorem k5 : cFunc Try.prog Try.f5 = some a5 := by kernel_rfl
theorem k6 : cFunc Try.prog Try.f6 = some a6 := by kernel_rfl
theorem k7 : cFunc Try.prog Try.f7 = some a7 := by kernel_rfl
theorem k12 : cFunc Try.prog Try.f12 = some a12 := by kernel_rfl
theorem k9 : cFunc Try.prog Try.f9 = some a9 := by kernel_rfl
theorem k13 : cFunc Try.prog Try.f13 = some a13 := by kernel_rfl
theorem k8 : cFunc Try.prog Try.f8 = some a8 := by kernel_rfl
theorem k14 : cFunc Try.prog Try.f14 = some a14 := by kernel_rfl
theorem k10 : cFunc Try.prog Try.f10 = some a10 := by kernel_rfl
theorem k11 : cFunc Try.prog Try.f11 = some a11 := by kernel_rfl
theorem k15 : cFunc Try.prog Try.f15 = some a15 := by kernel_rfl
theorem k3 : cFunc Try.prog Try.f3 = some a3 := by kernel_rfl
theorem k16 : cFunc Try.prog Try.f16 = some a16 := by kernel_rfl
theorem table_ok : ∀ g af, table g = some af → ∃ fn, Try.prog.funcs[g]? = some fn ∧ cFunc Try.prog fn = some af := by
  intro g af h
  unfold table at h
  split at h
  · cases h; exact ⟨Try.f4, Try.func4, k4⟩
  · cases h; exact ⟨Try.f5, Try.func5, k5⟩
  · cases h; exact ⟨Try.f6, Try.func6, k6⟩
  · cases h; exact ⟨Try.f7, Try.func7, k7⟩
  · cases h; exact ⟨Try.f12, Try.func12, k12⟩
  · cases h; exact ⟨Try.f9, Try.func9, k9⟩
  · cases h; exact ⟨Try.f13, Try.func13, k13⟩
  · cases h; exact ⟨Try.f8, Try.func8, k8⟩
  · cases h; exact ⟨Try.f14, Try.func14, k14⟩
  · cases h; exact ⟨Try.f10, Try.func10, k10⟩
  · cases h; exact ⟨Try.f11, Try.func11, k11⟩
  · cases h; exact ⟨Try.f15, Try.func15, k15⟩
  · cases h; exact ⟨Try.f3, Try.func3, k3⟩
  · cases h; exact ⟨Try.f16, Try.func16, k16⟩
  · cases h

end Go.Proofs.Ytcnghmfmokmnpaa

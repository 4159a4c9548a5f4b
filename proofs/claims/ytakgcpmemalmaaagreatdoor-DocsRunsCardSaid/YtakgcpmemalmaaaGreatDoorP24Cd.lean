/- The abstract code of functions that the laws reach, as a program printed it; each is what the compiler makes of the given function. -/
import Derived.Test.YtakgcpmemalmaaaGreatDoorVmZ
import Derived.Test.YtakgcpmemalmaaaGreatDoorVmS
import Derived.Test.YtakgcpmemalmaaaGreatDoorRows
namespace Go.Proofs.YtakgcpmemalmaaaGreatDoor
open Go.Vm
/- 278: (*tendril/tick.Tick).atAdvance -/
def c278 : ACode:=(.seq (.ops [⟨(some 3),.box (.tmp 1),none⟩])
 (.ops [⟨(some 4),.mov (.tmp 0),none⟩,
  ⟨(some 5),.call 277 [(.tmp 4)],none⟩]))
def a278 : AFunc:=⟨2,c278,[]⟩
theorem k278 : cFunc Tryz.prog Tryz.f278=some a278:=by kernel_rfl
/- 280: tendril/pack.Bytes -/
def c280l0 : ACode:=(.seq (.ops [⟨(some 32),.bin .lss (.tmp 31) (.con (.int .i64 8)),none⟩])
 (.seq (.cond (.tmp 32)
 .skip
 (.exit 2))
 (.seq (.block 3 (.seq (.ops [⟨(some 33),.mov (.tmp 31),none⟩,
  ⟨(some 9),.mov (.tmp 33),none⟩])
 (.ops [⟨(some 34),.mov (.tmp 6),none⟩,
  ⟨(some 35),.mov (.tmp 8),none⟩,
  ⟨(some 36),.mov (.tmp 9),none⟩,
  ⟨(some 37),.bin .mul (.con (.int .i64 8)) (.tmp 36),none⟩,
  ⟨(some 38),.toInt .u64 (.tmp 37),none⟩,
  ⟨(some 39),.bin .shr (.tmp 35) (.tmp 38),none⟩,
  ⟨(some 40),.toInt .u8 (.tmp 39),none⟩,
  ⟨(some 41),.buildSlice 1 1 [(.int .u8 0)] [(0,1,(.tmp 40))],none⟩,
  ⟨(some 42),.append 1 1 (.tmp 34) (.tmp 41),none⟩,
  ⟨(some 6),.mov (.tmp 42),none⟩])))
 (.ops [⟨(some 43),.bin .add (.tmp 31) (.con (.int .i64 1)),none⟩,
  ⟨(some 31),.mov (.tmp 43),none⟩]))))
def c280l1 : ACode:=(.seq (.ops [⟨(some 28),.bin .lss (.tmp 27) (.tmp 26),none⟩])
 (.seq (.cond (.tmp 28)
 .skip
 (.exit 0))
 (.seq (.block 1 (.seq (.ops [⟨(some 29),.idxAddr 1 (.tmp 25) (.tmp 27),none⟩,
  ⟨(some 30),.load false 1 (.tmp 29),none⟩,
  ⟨(some 8),.mov (.tmp 30),none⟩])
 (.seq (.ops [⟨(some 31),.mov (.con (.int .i64 0)),none⟩])
 (.block 2 (.loop c280l0)))))
 (.ops [⟨(some 44),.bin .add (.tmp 27) (.con (.int .i64 1)),none⟩,
  ⟨(some 27),.mov (.tmp 44),none⟩]))))
def c280l2 : ACode:=(.seq (.ops [⟨(some 50),.bin .lss (.tmp 49) (.tmp 48),none⟩])
 (.seq (.cond (.tmp 50)
 .skip
 (.exit 4))
 (.seq (.block 5 (.seq (.ops [⟨(some 51),.idxAddr 1 (.tmp 47) (.tmp 49),none⟩,
  ⟨(some 52),.load false 1 (.tmp 51),none⟩,
  ⟨(some 11),.mov (.tmp 52),none⟩])
 (.seq (.ops [⟨(some 53),.mov (.tmp 11),none⟩,
  ⟨(some 54),.bin .neq (.tmp 53) (.con (.int .u8 0)),none⟩])
 (.cond (.tmp 54)
 (.seq (.ops [⟨(some 4),.mov (.con (.str [])),none⟩,
  ⟨(some 5),.mov (.con (.int .i64 5)),none⟩])
 .ret)
 .skip))))
 (.ops [⟨(some 55),.bin .add (.tmp 49) (.con (.int .i64 1)),none⟩,
  ⟨(some 49),.mov (.tmp 55),none⟩]))))
def c280 : ACode:=(.seq (.ops [⟨(some 4),.mov (.con (.str [])),none⟩,
  ⟨(some 5),.mov (.con (.int .i64 0)),none⟩])
 (.seq (.seq (.ops [⟨(some 12),.mov (.tmp 1),none⟩,
  ⟨(some 13),.bin .lss (.tmp 12) (.con (.int .i64 0)),none⟩,
  ⟨(some 14),.mov (.tmp 13),none⟩,
  ⟨(some 15),.mov (.tmp 1),(some (14,false))⟩,
  ⟨(some 16),.mov (.tmp 0),(some (14,false))⟩,
  ⟨(some 17),.lenSlice (.tmp 16),(some (14,false))⟩,
  ⟨(some 18),.bin .mul (.con (.int .i64 8)) (.tmp 17),(some (14,false))⟩,
  ⟨(some 19),.bin .gtr (.tmp 15) (.tmp 18),(some (14,false))⟩,
  ⟨(some 20),.pick (.tmp 14) (.con (.bool true)) (.tmp 19),none⟩])
 (.cond (.tmp 20)
 (.seq (.ops [⟨(some 4),.mov (.con (.str [])),none⟩,
  ⟨(some 5),.mov (.con (.int .i64 1)),none⟩])
 .ret)
 .skip))
 (.seq (.ops [⟨(some 21),.mov (.tmp 0),none⟩,
  ⟨(some 22),.lenSlice (.tmp 21),none⟩,
  ⟨(some 23),.bin .mul (.con (.int .i64 8)) (.tmp 22),none⟩,
  ⟨(some 24),.mkSlice 1 1 [(.int .u8 0)] (.con (.int .i64 0)) (.tmp 23),none⟩,
  ⟨(some 6),.mov (.tmp 24),none⟩])
 (.seq (.seq (.ops [⟨(some 25),.mov (.tmp 0),none⟩,
  ⟨(some 26),.lenSlice (.tmp 25),none⟩,
  ⟨(some 27),.mov (.con (.int .i64 0)),none⟩])
 (.block 0 (.loop c280l1)))
 (.seq (.seq (.ops [⟨(some 45),.mov (.tmp 6),none⟩,
  ⟨(some 46),.mov (.tmp 1),none⟩,
  ⟨(some 47),.slc 1 (.tmp 45) (some (.tmp 46)) none none,none⟩,
  ⟨(some 48),.lenSlice (.tmp 47),none⟩,
  ⟨(some 49),.mov (.con (.int .i64 0)),none⟩])
 (.block 4 (.loop c280l2)))
 (.seq (.ops [⟨(some 56),.mov (.tmp 6),none⟩,
  ⟨(some 57),.mov (.tmp 1),none⟩,
  ⟨(some 58),.slc 1 (.tmp 56) none (some (.tmp 57)) none,none⟩,
  ⟨(some 59),.toStr (.tmp 58),none⟩,
  ⟨(some 4),.mov (.tmp 59),none⟩,
  ⟨(some 5),.mov (.con (.int .i64 0)),none⟩])
 .ret))))))
def a280 : AFunc:=⟨2,c280,[.tmp 4,.tmp 5]⟩
theorem k280 : cFunc Tryz.prog Tryz.f280=some a280:=by kernel_rfl
/- 281: tendril/node.bytes -/
def c281l0 : ACode:=(.seq (.ops [⟨(some 39),.bin .lss (.tmp 38) (.con (.int .i64 256)),none⟩])
 (.seq (.cond (.tmp 39)
 .skip
 (.exit 1))
 (.seq (.block 2 (.seq (.ops [⟨(some 40),.mov (.tmp 38),none⟩,
  ⟨(some 11),.mov (.tmp 40),none⟩])
 (.seq (.ops [⟨(some 41),.mov (.tmp 0),none⟩,
  ⟨(some 42),.mov (.tmp 11),none⟩,
  ⟨(some 43),.bin .quo (.tmp 42) (.con (.int .i64 8)),none⟩,
  ⟨(some 44),.bin .add (.con (.int .i64 4)) (.tmp 43),none⟩,
  ⟨(some 45),.idxAddr 1 (.tmp 41) (.tmp 44),none⟩,
  ⟨(some 46),.load false 1 (.tmp 45),none⟩,
  ⟨(some 47),.mov (.tmp 11),none⟩,
  ⟨(some 48),.bin .rem (.tmp 47) (.con (.int .i64 8)),none⟩,
  ⟨(some 49),.bin .mul (.con (.int .i64 8)) (.tmp 48),none⟩,
  ⟨(some 50),.toInt .u64 (.tmp 49),none⟩,
  ⟨(some 51),.bin .shr (.tmp 46) (.tmp 50),none⟩,
  ⟨(some 52),.bin .and (.tmp 51) (.con (.int .u64 255)),none⟩,
  ⟨(some 53),.toInt .i64 (.tmp 52),none⟩,
  ⟨(some 12),.mov (.tmp 53),none⟩])
 (.seq (.ops [⟨(some 54),.mov (.tmp 12),none⟩,
  ⟨(some 55),.mov (.tmp 2),none⟩,
  ⟨(some 56),.bin .gtr (.tmp 54) (.tmp 55),none⟩])
 (.cond (.tmp 56)
 (.seq (.ops [⟨(some 6),.mov (.con .nilSlice),none⟩,
  ⟨(some 7),.mov (.con (.bool false)),none⟩])
 .ret)
 (.seq (.ops [⟨(some 57),.mov (.tmp 12),none⟩,
  ⟨(some 58),.bin .gtr (.tmp 57) (.con (.int .i64 0)),none⟩])
 (.cond (.tmp 58)
 (.ops [⟨(some 59),.mov (.tmp 10),none⟩,
  ⟨(some 60),.mov (.tmp 12),none⟩,
  ⟨(some 61),.bin .sub (.tmp 60) (.con (.int .i64 1)),none⟩,
  ⟨(some 62),.mov (.tmp 11),none⟩,
  ⟨(some 63),.toInt .u8 (.tmp 62),none⟩,
  ⟨(some 64),.idxAddr 1 (.tmp 59) (.tmp 61),none⟩,
  ⟨none,.store 1 (.tmp 64) (.tmp 63),none⟩])
 .skip)))))))
 (.ops [⟨(some 65),.bin .add (.tmp 38) (.con (.int .i64 1)),none⟩,
  ⟨(some 38),.mov (.tmp 65),none⟩]))))
def c281l1 : ACode:=(.seq (.ops [⟨(some 68),.bin .lss (.tmp 67) (.con (.int .i64 256)),none⟩])
 (.seq (.cond (.tmp 68)
 .skip
 (.exit 3))
 (.seq (.block 4 (.seq (.ops [⟨(some 69),.mov (.tmp 67),none⟩,
  ⟨(some 14),.mov (.tmp 69),none⟩])
 (.seq (.ops [⟨(some 70),.mov (.tmp 0),none⟩,
  ⟨(some 71),.mov (.tmp 14),none⟩,
  ⟨(some 72),.bin .add (.con (.int .i64 4)) (.tmp 71),none⟩,
  ⟨(some 73),.idxAddr 1 (.tmp 70) (.tmp 72),none⟩,
  ⟨(some 74),.load false 1 (.tmp 73),none⟩,
  ⟨(some 75),.bin .neq (.tmp 74) (.con (.int .u64 0)),none⟩])
 (.cond (.tmp 75)
 (.ops [⟨(some 76),.mov (.tmp 13),none⟩,
  ⟨(some 77),.mov (.tmp 14),none⟩,
  ⟨(some 78),.toInt .u8 (.tmp 77),none⟩,
  ⟨(some 79),.buildSlice 1 1 [(.int .u8 0)] [(0,1,(.tmp 78))],none⟩,
  ⟨(some 80),.append 1 1 (.tmp 76) (.tmp 79),none⟩,
  ⟨(some 13),.mov (.tmp 80),none⟩])
 .skip))))
 (.ops [⟨(some 81),.bin .add (.tmp 67) (.con (.int .i64 1)),none⟩,
  ⟨(some 67),.mov (.tmp 81),none⟩]))))
def c281 : ACode:=(.seq (.ops [⟨(some 6),.mov (.con .nilSlice),none⟩,
  ⟨(some 7),.mov (.con (.bool false)),none⟩])
 (.seq (.seq (.ops [⟨(some 15),.mov (.tmp 1),none⟩])
 (.block 0 (.seq (.seq (.ops [⟨(some 17),.bin .eql (.tmp 15) (.con (.int .i64 1)),none⟩,
  ⟨(some 16),.mov (.tmp 17),none⟩])
 (.cond (.tmp 16)
 .skip
 (.ops [⟨(some 18),.bin .eql (.tmp 15) (.con (.int .i64 2)),none⟩,
  ⟨(some 16),.mov (.tmp 18),none⟩])))
 (.cond (.tmp 16)
 (.seq (.ops [⟨(some 20),.mov (.tmp 0),none⟩,
  ⟨(some 21),.mov (.tmp 1),none⟩,
  ⟨(some 22),.call 177 [(.tmp 21)],none⟩,
  ⟨(some 23),.call 180 [(.tmp 22)],none⟩,
  ⟨(some 24),.bin .add (.con (.int .i64 4)) (.tmp 23),none⟩,
  ⟨(some 25),.slc 1 (.tmp 20) (some (.con (.int .i64 4))) (some (.tmp 24)) none,none⟩,
  ⟨(some 26),.mov (.tmp 2),none⟩,
  ⟨(some 27),.call 280 [(.tmp 25),(.tmp 26)],none⟩,
  ⟨(some 19),.mov (.tmp 27),none⟩,
  ⟨(some 28),.extract (.tmp 19) 0,none⟩,
  ⟨(some 29),.extract (.tmp 19) 1,none⟩,
  ⟨(some 8),.mov (.tmp 28),none⟩,
  ⟨(some 9),.mov (.tmp 29),none⟩])
 (.seq (.ops [⟨(some 30),.mov (.tmp 8),none⟩,
  ⟨(some 31),.toBytes (.tmp 30),none⟩,
  ⟨(some 32),.mov (.tmp 9),none⟩,
  ⟨(some 33),.bin .eql (.tmp 32) (.con (.int .i64 0)),none⟩,
  ⟨(some 6),.mov (.tmp 31),none⟩,
  ⟨(some 7),.mov (.tmp 33),none⟩])
 .ret))
 (.seq (.ops [⟨(some 35),.bin .eql (.tmp 15) (.con (.int .i64 3)),none⟩,
  ⟨(some 34),.mov (.tmp 35),none⟩])
 (.cond (.tmp 34)
 (.seq (.ops [⟨(some 36),.mov (.tmp 2),none⟩,
  ⟨(some 37),.mkSlice 1 1 [(.int .u8 0)] (.tmp 36) (.tmp 36),none⟩,
  ⟨(some 10),.mov (.tmp 37),none⟩])
 (.seq (.seq (.ops [⟨(some 38),.mov (.con (.int .i64 0)),none⟩])
 (.block 1 (.loop c281l0)))
 (.seq (.ops [⟨(some 66),.mov (.tmp 10),none⟩,
  ⟨(some 6),.mov (.tmp 66),none⟩,
  ⟨(some 7),.mov (.con (.bool true)),none⟩])
 .ret)))
 .skip))))))
 (.seq (.ops [⟨(some 13),.mov (.con .nilSlice),none⟩])
 (.seq (.seq (.ops [⟨(some 67),.mov (.con (.int .i64 0)),none⟩])
 (.block 3 (.loop c281l1)))
 (.seq (.ops [⟨(some 82),.mov (.tmp 13),none⟩,
  ⟨(some 83),.mov (.tmp 13),none⟩,
  ⟨(some 84),.lenSlice (.tmp 83),none⟩,
  ⟨(some 85),.mov (.tmp 2),none⟩,
  ⟨(some 86),.bin .eql (.tmp 84) (.tmp 85),none⟩,
  ⟨(some 6),.mov (.tmp 82),none⟩,
  ⟨(some 7),.mov (.tmp 86),none⟩])
 .ret)))))
def a281 : AFunc:=⟨3,c281,[.tmp 6,.tmp 7]⟩
theorem k281 : cFunc Tryz.prog Tryz.f281=some a281:=by kernel_rfl
/- 282: tendril/node.place -/
def c282 : ACode:=(.seq (.ops [⟨(some 6),.mov (.con (.int .i64 0)),none⟩])
 (.seq (.seq (.ops [⟨(some 7),.mov (.tmp 0),none⟩])
 (.block 0 (.seq (.ops [⟨(some 9),.bin .eql (.tmp 7) (.con (.int .i64 1)),none⟩,
  ⟨(some 8),.mov (.tmp 9),none⟩])
 (.cond (.tmp 8)
 (.seq (.ops [⟨(some 10),.mov (.tmp 1),none⟩,
  ⟨(some 11),.bin .add (.con (.int .i64 5)) (.tmp 10),none⟩,
  ⟨(some 6),.mov (.tmp 11),none⟩])
 .ret)
 (.seq (.ops [⟨(some 13),.bin .eql (.tmp 7) (.con (.int .i64 2)),none⟩,
  ⟨(some 12),.mov (.tmp 13),none⟩])
 (.cond (.tmp 12)
 (.seq (.ops [⟨(some 14),.mov (.tmp 1),none⟩,
  ⟨(some 15),.bin .add (.con (.int .i64 6)) (.tmp 14),none⟩,
  ⟨(some 6),.mov (.tmp 15),none⟩])
 .ret)
 (.seq (.ops [⟨(some 17),.bin .eql (.tmp 7) (.con (.int .i64 3)),none⟩,
  ⟨(some 16),.mov (.tmp 17),none⟩])
 (.cond (.tmp 16)
 (.seq (.ops [⟨(some 18),.mov (.tmp 1),none⟩,
  ⟨(some 19),.bin .add (.con (.int .i64 36)) (.tmp 18),none⟩,
  ⟨(some 6),.mov (.tmp 19),none⟩])
 .ret)
 .skip))))))))
 (.seq (.ops [⟨(some 20),.mov (.tmp 2),none⟩,
  ⟨(some 21),.toInt .i64 (.tmp 20),none⟩,
  ⟨(some 22),.bin .add (.con (.int .i64 4)) (.tmp 21),none⟩,
  ⟨(some 6),.mov (.tmp 22),none⟩])
 .ret)))
def a282 : AFunc:=⟨3,c282,[.tmp 6]⟩
theorem k282 : cFunc Tryz.prog Tryz.f282=some a282:=by kernel_rfl
/- 283: slices.Equal[[]uint64,uint64] -/
def c283l0 : ACode:=(.seq (.ops [⟨(some 14),.bin .lss (.tmp 13) (.tmp 12),none⟩])
 (.seq (.cond (.tmp 14)
 .skip
 (.exit 0))
 (.seq (.block 1 (.seq (.ops [⟨(some 15),.mov (.tmp 13),none⟩,
  ⟨(some 5),.mov (.tmp 15),none⟩])
 (.seq (.ops [⟨(some 16),.mov (.tmp 0),none⟩,
  ⟨(some 17),.mov (.tmp 5),none⟩,
  ⟨(some 18),.idxAddr 1 (.tmp 16) (.tmp 17),none⟩,
  ⟨(some 19),.load false 1 (.tmp 18),none⟩,
  ⟨(some 20),.mov (.tmp 1),none⟩,
  ⟨(some 21),.mov (.tmp 5),none⟩,
  ⟨(some 22),.idxAddr 1 (.tmp 20) (.tmp 21),none⟩,
  ⟨(some 23),.load false 1 (.tmp 22),none⟩,
  ⟨(some 24),.bin .neq (.tmp 19) (.tmp 23),none⟩])
 (.cond (.tmp 24)
 (.seq (.ops [⟨(some 4),.mov (.con (.bool false)),none⟩])
 .ret)
 .skip))))
 (.ops [⟨(some 25),.bin .add (.tmp 13) (.con (.int .i64 1)),none⟩,
  ⟨(some 13),.mov (.tmp 25),none⟩]))))
def c283 : ACode:=(.seq (.ops [⟨(some 4),.mov (.con (.bool false)),none⟩])
 (.seq (.seq (.ops [⟨(some 6),.mov (.tmp 0),none⟩,
  ⟨(some 7),.lenSlice (.tmp 6),none⟩,
  ⟨(some 8),.mov (.tmp 1),none⟩,
  ⟨(some 9),.lenSlice (.tmp 8),none⟩,
  ⟨(some 10),.bin .neq (.tmp 7) (.tmp 9),none⟩])
 (.cond (.tmp 10)
 (.seq (.ops [⟨(some 4),.mov (.con (.bool false)),none⟩])
 .ret)
 .skip))
 (.seq (.seq (.ops [⟨(some 11),.mov (.tmp 0),none⟩,
  ⟨(some 12),.lenSlice (.tmp 11),none⟩,
  ⟨(some 13),.mov (.con (.int .i64 0)),none⟩])
 (.block 0 (.loop c283l0)))
 (.seq (.ops [⟨(some 4),.mov (.con (.bool true)),none⟩])
 .ret))))
def a283 : AFunc:=⟨2,c283,[.tmp 4]⟩
theorem k283 : cFunc Tryz.prog Tryz.f283=some a283:=by kernel_rfl
/- 284: (*tendril/scan.Scan).done -/
def c284 : ACode:=(.ops [⟨(some 2),.mov (.tmp 0),none⟩,
  ⟨(some 3),.build [(.int .i64 0),(.int .i64 0),(.int .i64 0),(.int .i64 0),(.int .u64 0),.nilSlice] [(0,1,(.con (.int .i64 9)))],none⟩,
  ⟨(some 4),.call 102 [(.tmp 2),(.tmp 3),(.con (.func (.func 295) [] []))],none⟩])
def a284 : AFunc:=⟨1,c284,[]⟩
theorem k284 : cFunc Tryz.prog Tryz.f284=some a284:=by kernel_rfl
/- 285: (*tendril/scan.Scan).child -/
def c285l0 : ACode:=(.seq (.seq (.ops [⟨(some 19),.mov (.tmp 5),none⟩,
  ⟨(some 20),.nilChk (.tmp 19),none⟩,
  ⟨(some 21),.fieldAddr 6 (.tmp 20),none⟩,
  ⟨(some 22),.load false 1 (.tmp 21),none⟩,
  ⟨(some 23),.mov (.tmp 5),none⟩,
  ⟨(some 24),.nilChk (.tmp 23),none⟩,
  ⟨(some 25),.fieldAddr 0 (.tmp 24),none⟩,
  ⟨(some 26),.fieldAddr 3 (.tmp 25),none⟩,
  ⟨(some 27),.load false 1 (.tmp 26),none⟩,
  ⟨(some 28),.lenSlice (.tmp 27),none⟩,
  ⟨(some 29),.bin .lss (.tmp 22) (.tmp 28),none⟩])
 (.cond (.tmp 29)
 .skip
 (.exit 0)))
 (.block 1 (.seq (.ops [⟨(some 30),.mov (.tmp 5),none⟩,
  ⟨(some 31),.nilChk (.tmp 30),none⟩,
  ⟨(some 32),.fieldAddr 0 (.tmp 31),none⟩,
  ⟨(some 33),.fieldAddr 4 (.tmp 32),none⟩,
  ⟨(some 34),.load false 1 (.tmp 33),none⟩,
  ⟨(some 35),.mov (.tmp 5),none⟩,
  ⟨(some 36),.nilChk (.tmp 35),none⟩,
  ⟨(some 37),.fieldAddr 6 (.tmp 36),none⟩,
  ⟨(some 38),.load false 1 (.tmp 37),none⟩,
  ⟨(some 39),.idxAddr 1 (.tmp 34) (.tmp 38),none⟩,
  ⟨(some 40),.load false 1 (.tmp 39),none⟩,
  ⟨(some 41),.mov (.tmp 5),none⟩,
  ⟨(some 42),.nilChk (.tmp 41),none⟩,
  ⟨(some 43),.fieldAddr 5 (.tmp 42),none⟩,
  ⟨(some 44),.load false 1 (.tmp 43),none⟩,
  ⟨(some 45),.mov (.tmp 5),none⟩,
  ⟨(some 46),.nilChk (.tmp 45),none⟩,
  ⟨(some 47),.fieldAddr 0 (.tmp 46),none⟩,
  ⟨(some 48),.fieldAddr 3 (.tmp 47),none⟩,
  ⟨(some 49),.load false 1 (.tmp 48),none⟩,
  ⟨(some 50),.mov (.tmp 5),none⟩,
  ⟨(some 51),.nilChk (.tmp 50),none⟩,
  ⟨(some 52),.fieldAddr 6 (.tmp 51),none⟩,
  ⟨(some 53),.load false 1 (.tmp 52),none⟩,
  ⟨(some 54),.mov (.tmp 5),none⟩,
  ⟨(some 55),.nilChk (.tmp 54),none⟩,
  ⟨(some 56),.fieldAddr 6 (.tmp 55),none⟩,
  ⟨(some 57),.load false 1 (.tmp 56),none⟩,
  ⟨(some 58),.bin .add (.tmp 57) (.con (.int .i64 1)),none⟩,
  ⟨(some 59),.slc 1 (.tmp 49) (some (.tmp 53)) (some (.tmp 58)) none,none⟩,
  ⟨(some 60),.toStr (.tmp 59),none⟩,
  ⟨(some 61),.bin .add (.tmp 44) (.tmp 60),none⟩,
  ⟨(some 6),.mov (.tmp 40),none⟩,
  ⟨(some 7),.mov (.tmp 61),none⟩])
 (.seq (.ops [⟨(some 62),.mov (.tmp 5),none⟩,
  ⟨(some 63),.nilChk (.tmp 62),none⟩,
  ⟨(some 64),.fieldAddr 6 (.tmp 63),none⟩,
  ⟨(some 65),.load false 1 (.tmp 64),none⟩,
  ⟨(some 66),.bin .add (.tmp 65) (.con (.int .i64 1)),none⟩,
  ⟨(some 67),.nilChk (.tmp 62),none⟩,
  ⟨(some 68),.fieldAddr 6 (.tmp 67),none⟩,
  ⟨none,.store 1 (.tmp 68) (.tmp 66),none⟩])
 (.seq (.ops [⟨(some 69),.mov (.tmp 7),none⟩,
  ⟨(some 70),.mov (.tmp 0),none⟩,
  ⟨(some 71),.nilChk (.tmp 70),none⟩,
  ⟨(some 72),.fieldAddr 0 (.tmp 71),none⟩,
  ⟨(some 73),.load false 1 (.tmp 72),none⟩,
  ⟨(some 74),.mov (.tmp 7),none⟩,
  ⟨(some 75),.lenStr (.tmp 74),none⟩,
  ⟨(some 76),.mov (.tmp 0),none⟩,
  ⟨(some 77),.nilChk (.tmp 76),none⟩,
  ⟨(some 78),.fieldAddr 0 (.tmp 77),none⟩,
  ⟨(some 79),.load false 1 (.tmp 78),none⟩,
  ⟨(some 80),.lenStr (.tmp 79),none⟩,
  ⟨(some 81),.mnx false [(.tmp 75),(.tmp 80)],none⟩,
  ⟨(some 82),.slcStr (.tmp 73) none (some (.tmp 81)),none⟩,
  ⟨(some 83),.bin .geq (.tmp 69) (.tmp 82),none⟩])
 (.cond (.tmp 83)
 (.seq (.ops [⟨(some 84),.mov (.tmp 6),none⟩,
  ⟨(some 85),.mov (.tmp 7),none⟩,
  ⟨(some 2),.mov (.tmp 84),none⟩,
  ⟨(some 3),.mov (.tmp 85),none⟩,
  ⟨(some 4),.mov (.con (.bool true)),none⟩])
 .ret)
 .skip))))))
def c285 : ACode:=(.seq (.ops [⟨(some 2),.mov (.con (.int .i64 0)),none⟩,
  ⟨(some 3),.mov (.con (.str [])),none⟩,
  ⟨(some 4),.mov (.con (.bool false)),none⟩])
 (.seq (.ops [⟨(some 8),.mov (.tmp 0),none⟩,
  ⟨(some 9),.nilChk (.tmp 8),none⟩,
  ⟨(some 10),.fieldAddr 12 (.tmp 9),none⟩,
  ⟨(some 11),.load false 1 (.tmp 10),none⟩,
  ⟨(some 12),.mov (.tmp 0),none⟩,
  ⟨(some 13),.nilChk (.tmp 12),none⟩,
  ⟨(some 14),.fieldAddr 12 (.tmp 13),none⟩,
  ⟨(some 15),.load false 1 (.tmp 14),none⟩,
  ⟨(some 16),.lenSlice (.tmp 15),none⟩,
  ⟨(some 17),.bin .sub (.tmp 16) (.con (.int .i64 1)),none⟩,
  ⟨(some 18),.idxAddr 7 (.tmp 11) (.tmp 17),none⟩,
  ⟨(some 5),.mov (.tmp 18),none⟩])
 (.seq (.block 0 (.loop c285l0))
 (.seq (.ops [⟨(some 2),.mov (.con (.int .i64 0)),none⟩,
  ⟨(some 3),.mov (.con (.str [])),none⟩,
  ⟨(some 4),.mov (.con (.bool false)),none⟩])
 .ret))))
def a285 : AFunc:=⟨1,c285,[.tmp 2,.tmp 3,.tmp 4]⟩
theorem k285 : cFunc Tryz.prog Tryz.f285=some a285:=by kernel_rfl
/- 286: (*tendril/scan.Scan).atLeaf -/
def c286 : ACode:=(.seq (.ops [⟨(some 3),.box (.tmp 1),none⟩])
 (.seq (.ops [⟨(some 9),.fieldAddr 3 (.tmp 3),none⟩,
  ⟨(some 10),.load false 1 (.tmp 9),none⟩,
  ⟨(some 11),.call 296 [(.tmp 10)],none⟩,
  ⟨(some 8),.mov (.tmp 11),none⟩,
  ⟨(some 12),.extract (.tmp 8) 0,none⟩,
  ⟨(some 13),.extract (.tmp 8) 1,none⟩,
  ⟨(some 4),.new [(.str []),(.int .i64 0)],none⟩,
  ⟨none,.store 2 (.tmp 4) (.tmp 12),none⟩,
  ⟨(some 5),.mov (.tmp 13),none⟩])
 (.seq (.ops [⟨(some 15),.fieldAddr 0 (.tmp 4),none⟩,
  ⟨(some 16),.load false 1 (.tmp 15),none⟩,
  ⟨(some 17),.call 297 [(.tmp 16)],none⟩,
  ⟨(some 14),.mov (.tmp 17),none⟩,
  ⟨(some 18),.extract (.tmp 14) 0,none⟩,
  ⟨(some 19),.extract (.tmp 14) 1,none⟩,
  ⟨(some 6),.mov (.tmp 18),none⟩,
  ⟨(some 7),.mov (.tmp 19),none⟩])
 (.block 0 (.seq (.ops [⟨(some 56),.fieldAddr 0 (.tmp 3),none⟩,
  ⟨(some 57),.load false 1 (.tmp 56),none⟩,
  ⟨(some 58),.bin .neq (.tmp 57) (.con (.int .i64 0)),none⟩,
  ⟨(some 55),.mov (.tmp 58),none⟩])
 (.cond (.tmp 55)
 (.ops [⟨(some 59),.mov (.tmp 0),none⟩,
  ⟨(some 60),.fieldAddr 0 (.tmp 3),none⟩,
  ⟨(some 61),.load false 1 (.tmp 60),none⟩,
  ⟨(some 62),.call 264 [(.tmp 59),(.tmp 61)],none⟩])
 (.seq (.ops [⟨(some 64),.mov (.tmp 5),none⟩,
  ⟨(some 65),.un .not (.tmp 64),none⟩,
  ⟨(some 63),.mov (.tmp 65),none⟩])
 (.cond (.tmp 63)
 (.ops [⟨(some 66),.mov (.tmp 0),none⟩,
  ⟨(some 67),.call 264 [(.tmp 66),(.con (.int .i64 5))],none⟩])
 (.seq (.ops [⟨(some 69),.mov (.tmp 6),none⟩,
  ⟨(some 70),.mov (.tmp 0),none⟩,
  ⟨(some 71),.nilChk (.tmp 70),none⟩,
  ⟨(some 72),.fieldAddr 0 (.tmp 71),none⟩,
  ⟨(some 73),.load false 1 (.tmp 72),none⟩,
  ⟨(some 74),.bin .lss (.tmp 69) (.tmp 73),none⟩,
  ⟨(some 68),.mov (.tmp 74),none⟩])
 (.cond (.tmp 68)
 (.ops [⟨(some 75),.mov (.tmp 0),none⟩,
  ⟨(some 76),.call 266 [(.tmp 75)],none⟩])
 (.seq (.ops [⟨(some 78),.mov (.tmp 0),none⟩,
  ⟨(some 79),.nilChk (.tmp 78),none⟩,
  ⟨(some 80),.fieldAddr 1 (.tmp 79),none⟩,
  ⟨(some 81),.load false 1 (.tmp 80),none⟩,
  ⟨(some 82),.bin .neq (.tmp 81) (.con (.str [])),none⟩,
  ⟨(some 83),.mov (.tmp 82),none⟩,
  ⟨(some 84),.mov (.tmp 6),(some (83,true))⟩,
  ⟨(some 85),.mov (.tmp 0),(some (83,true))⟩,
  ⟨(some 86),.nilChk (.tmp 85),(some (83,true))⟩,
  ⟨(some 87),.fieldAddr 1 (.tmp 86),(some (83,true))⟩,
  ⟨(some 88),.load false 1 (.tmp 87),(some (83,true))⟩,
  ⟨(some 89),.bin .geq (.tmp 84) (.tmp 88),(some (83,true))⟩,
  ⟨(some 90),.pick (.tmp 83) (.tmp 89) (.con (.bool false)),none⟩,
  ⟨(some 77),.mov (.tmp 90),none⟩])
 (.cond (.tmp 77)
 (.ops [⟨(some 91),.mov (.tmp 0),none⟩,
  ⟨(some 92),.call 284 [(.tmp 91)],none⟩])
 (.seq (.draw [.op ⟨(some 20),.mov (.tmp 0),none⟩,
  .op ⟨(some 21),.mov (.tmp 0),none⟩,
  .op ⟨(some 22),.nilChk (.tmp 21),none⟩,
  .op ⟨(some 23),.fieldAddr 14 (.tmp 22),none⟩,
  .op ⟨(some 24),.fieldAddr 3 (.tmp 23),none⟩,
  .op ⟨(some 25),.load false 1 (.tmp 24),none⟩,
  .op ⟨(some 26),.mov (.tmp 6),none⟩,
  .op ⟨(some 27),.fieldAddr 1 (.tmp 4),none⟩,
  .op ⟨(some 28),.load false 1 (.tmp 27),none⟩,
  .op ⟨(some 29),.build [(.str []),(.int .i64 0)] [(0,1,(.tmp 26)),(1,1,(.tmp 28))],none⟩,
  .op ⟨(some 30),.buildSlice 2 1 [(.str []),(.int .i64 0)] [(0,2,(.tmp 29))],none⟩,
  .look ⟨(some 25),.load false 1 (.tmp 24),none⟩,
  .look ⟨(some 28),.load false 1 (.tmp 27),none⟩,
  .look ⟨(some 30),.buildSlice 2 1 [(.str []),(.int .i64 0)] [(0,2,(.tmp 29))],none⟩,
  .op ⟨(some 31),.append 2 24 (.tmp 25) (.tmp 30),none⟩,
  .op ⟨(some 32),.nilChk (.tmp 20),none⟩,
  .op ⟨(some 33),.fieldAddr 14 (.tmp 32),none⟩,
  .op ⟨(some 34),.fieldAddr 3 (.tmp 33),none⟩,
  .op ⟨none,.store 1 (.tmp 34) (.tmp 31),none⟩])
 (.seq (.ops [⟨(some 35),.mov (.tmp 0),none⟩,
  ⟨(some 36),.mov (.tmp 6),none⟩,
  ⟨(some 37),.call 37 [(.tmp 36)],none⟩,
  ⟨(some 38),.nilChk (.tmp 35),none⟩,
  ⟨(some 39),.fieldAddr 0 (.tmp 38),none⟩,
  ⟨none,.store 1 (.tmp 39) (.tmp 37),none⟩])
 (.seq (.seq (.ops [⟨(some 40),.mov (.tmp 0),none⟩,
  ⟨(some 41),.nilChk (.tmp 40),none⟩,
  ⟨(some 42),.fieldAddr 14 (.tmp 41),none⟩,
  ⟨(some 43),.fieldAddr 3 (.tmp 42),none⟩,
  ⟨(some 44),.load false 1 (.tmp 43),none⟩,
  ⟨(some 45),.lenSlice (.tmp 44),none⟩,
  ⟨(some 46),.mov (.tmp 0),none⟩,
  ⟨(some 47),.nilChk (.tmp 46),none⟩,
  ⟨(some 48),.fieldAddr 2 (.tmp 47),none⟩,
  ⟨(some 49),.load false 1 (.tmp 48),none⟩,
  ⟨(some 50),.bin .eql (.tmp 45) (.tmp 49),none⟩])
 (.cond (.tmp 50)
 (.seq (.ops [⟨(some 51),.mov (.tmp 0),none⟩,
  ⟨(some 52),.call 284 [(.tmp 51)],none⟩])
 .ret)
 .skip))
 (.ops [⟨(some 53),.mov (.tmp 0),none⟩,
  ⟨(some 54),.call 266 [(.tmp 53)],none⟩]))))))))))))))))
def a286 : AFunc:=⟨2,c286,[]⟩
theorem k286 : cFunc Tryz.prog Tryz.f286=some a286:=by kernel_rfl
/- 288: (*tendril/drop.Drop).down -/
def c288 : ACode:=(.seq (.ops [⟨(some 2),.mov (.tmp 0),none⟩,
  ⟨(some 3),.mov (.tmp 0),none⟩,
  ⟨(some 4),.mov (.tmp 0),none⟩,
  ⟨(some 5),.nilChk (.tmp 4),none⟩,
  ⟨(some 6),.fieldAddr 0 (.tmp 5),none⟩,
  ⟨(some 7),.load false 1 (.tmp 6),none⟩,
  ⟨(some 8),.build [(.int .i64 0),(.int .i64 0),(.int .u64 0),(.str []),.nilSlice,.nilSlice,(.int .u8 0)] [],none⟩,
  ⟨(some 9),.nilChk (.tmp 2),none⟩,
  ⟨(some 10),.fieldAddr 1 (.tmp 9),none⟩,
  ⟨none,.store 1 (.tmp 10) (.tmp 7),none⟩,
  ⟨(some 11),.nilChk (.tmp 3),none⟩,
  ⟨(some 12),.fieldAddr 14 (.tmp 11),none⟩,
  ⟨none,.store 7 (.tmp 12) (.tmp 8),none⟩])
 (.ops [⟨(some 13),.mov (.tmp 0),none⟩,
  ⟨(some 14),.mov (.tmp 0),none⟩,
  ⟨(some 15),.nilChk (.tmp 14),none⟩,
  ⟨(some 16),.fieldAddr 2 (.tmp 15),none⟩,
  ⟨(some 17),.load false 1 (.tmp 16),none⟩,
  ⟨(some 18),.call 298 [(.tmp 13),(.tmp 17)],none⟩]))
def a288 : AFunc:=⟨1,c288,[]⟩
theorem k288 : cFunc Tryz.prog Tryz.f288=some a288:=by kernel_rfl
/- 290: (*tendril/drop.Drop).atTurn -/
def c290 : ACode:=(.seq (.ops [⟨(some 3),.box (.tmp 1),none⟩])
 (.seq (.ops [⟨(some 4),.fieldAddr 1 (.tmp 3),none⟩,
  ⟨(some 5),.load false 1 (.tmp 4),none⟩,
  ⟨(some 6),.bin .lss (.tmp 5) (.con (.int .i64 0)),none⟩])
 (.cond (.tmp 6)
 (.ops [⟨(some 7),.mov (.tmp 0),none⟩,
  ⟨(some 8),.call 288 [(.tmp 7)],none⟩])
 .skip)))
def a290 : AFunc:=⟨2,c290,[]⟩
theorem k290 : cFunc Tryz.prog Tryz.f290=some a290:=by kernel_rfl
/- 292: (*tendril/get.Get).down -/
def c292 : ACode:=(.seq (.ops [⟨(some 3),.box (.tmp 1),none⟩])
 (.seq (.ops [⟨(some 11),.fieldAddr 2 (.tmp 3),none⟩,
  ⟨(some 12),.load false 1 (.tmp 11),none⟩,
  ⟨(some 13),.mov (.tmp 0),none⟩,
  ⟨(some 14),.nilChk (.tmp 13),none⟩,
  ⟨(some 15),.fieldAddr 1 (.tmp 14),none⟩,
  ⟨(some 16),.load false 1 (.tmp 15),none⟩,
  ⟨(some 17),.call 301 [(.tmp 12),(.tmp 16)],none⟩,
  ⟨(some 4),.mov (.tmp 17),none⟩])
 (.seq (.seq (.ops [⟨(some 18),.mov (.tmp 4),none⟩,
  ⟨(some 19),.fieldAddr 2 (.tmp 3),none⟩,
  ⟨(some 20),.load false 1 (.tmp 19),none⟩,
  ⟨(some 21),.lenStr (.tmp 20),none⟩,
  ⟨(some 22),.bin .lss (.tmp 18) (.tmp 21),none⟩,
  ⟨(some 23),.mov (.tmp 22),none⟩,
  ⟨(some 24),.mov (.tmp 4),(some (23,false))⟩,
  ⟨(some 25),.mov (.tmp 0),(some (23,false))⟩,
  ⟨(some 26),.nilChk (.tmp 25),(some (23,false))⟩,
  ⟨(some 27),.fieldAddr 1 (.tmp 26),(some (23,false))⟩,
  ⟨(some 28),.load false 1 (.tmp 27),(some (23,false))⟩,
  ⟨(some 29),.lenStr (.tmp 28),(some (23,false))⟩,
  ⟨(some 30),.bin .eql (.tmp 24) (.tmp 29),(some (23,false))⟩,
  ⟨(some 31),.pick (.tmp 23) (.con (.bool true)) (.tmp 30),none⟩])
 (.cond (.tmp 31)
 (.seq (.ops [⟨(some 32),.mov (.tmp 0),none⟩,
  ⟨(some 33),.call 299 [(.tmp 32)],none⟩])
 (.seq (.ops [⟨(some 34),.mov (.tmp 0),none⟩,
  ⟨(some 35),.build [(.int .i64 0),(.bool false),(.int .i64 0),.nilSlice] [],none⟩,
  ⟨(some 36),.call 300 [(.tmp 34),(.tmp 35)],none⟩])
 .ret))
 .skip))
 (.seq (.ops [⟨(some 38),.load true 5 (.tmp 3),none⟩,
  ⟨(some 39),.mov (.tmp 0),none⟩,
  ⟨(some 40),.nilChk (.tmp 39),none⟩,
  ⟨(some 41),.fieldAddr 1 (.tmp 40),none⟩,
  ⟨(some 42),.load false 1 (.tmp 41),none⟩,
  ⟨(some 43),.mov (.tmp 4),none⟩,
  ⟨(some 44),.idxStr (.tmp 42) (.tmp 43),none⟩,
  ⟨(some 45),.call 302 [(.tmp 38),(.tmp 44)],none⟩,
  ⟨(some 37),.mov (.tmp 45),none⟩,
  ⟨(some 46),.extract (.tmp 37) 0,none⟩,
  ⟨(some 47),.extract (.tmp 37) 1,none⟩,
  ⟨(some 5),.mov (.tmp 46),none⟩,
  ⟨(some 6),.mov (.tmp 47),none⟩])
 (.seq (.seq (.ops [⟨(some 48),.mov (.tmp 6),none⟩,
  ⟨(some 49),.un .not (.tmp 48),none⟩])
 (.cond (.tmp 49)
 (.seq (.ops [⟨(some 50),.mov (.tmp 0),none⟩,
  ⟨(some 51),.call 299 [(.tmp 50)],none⟩])
 (.seq (.ops [⟨(some 52),.mov (.tmp 0),none⟩,
  ⟨(some 53),.build [(.int .i64 0),(.bool false),(.int .i64 0),.nilSlice] [],none⟩,
  ⟨(some 54),.call 300 [(.tmp 52),(.tmp 53)],none⟩])
 .ret))
 .skip))
 (.seq (.seq (.ops [⟨(some 56),.mov (.tmp 5),none⟩,
  ⟨(some 57),.call 204 [(.tmp 56)],none⟩,
  ⟨(some 55),.mov (.tmp 57),none⟩,
  ⟨(some 58),.extract (.tmp 55) 0,none⟩,
  ⟨(some 59),.extract (.tmp 55) 1,none⟩,
  ⟨(some 60),.extract (.tmp 55) 2,none⟩,
  ⟨(some 61),.extract (.tmp 55) 3,none⟩,
  ⟨(some 7),.mov (.tmp 58),none⟩,
  ⟨(some 8),.mov (.tmp 59),none⟩,
  ⟨(some 9),.mov (.tmp 60),none⟩,
  ⟨(some 10),.mov (.tmp 61),none⟩])
 (.seq (.ops [⟨(some 62),.mov (.tmp 9),none⟩])
 (.cond (.tmp 62)
 (.seq (.ops [⟨(some 63),.mov (.tmp 0),none⟩,
  ⟨(some 64),.call 299 [(.tmp 63)],none⟩])
 (.seq (.ops [⟨(some 65),.mov (.tmp 0),none⟩,
  ⟨(some 66),.mov (.tmp 5),none⟩,
  ⟨(some 67),.call 272 [(.tmp 65),(.tmp 66),(.con (.func (.func 303) [] []))],none⟩])
 .ret))
 .skip)))
 (.seq (.ops [⟨(some 68),.mov (.tmp 0),none⟩,
  ⟨(some 69),.mov (.tmp 0),none⟩,
  ⟨(some 70),.nilChk (.tmp 69),none⟩,
  ⟨(some 71),.fieldAddr 1 (.tmp 70),none⟩,
  ⟨(some 72),.load false 1 (.tmp 71),none⟩,
  ⟨(some 73),.mov (.tmp 4),none⟩,
  ⟨(some 74),.bin .add (.tmp 73) (.con (.int .i64 1)),none⟩,
  ⟨(some 75),.slcStr (.tmp 72) (some (.tmp 74)) none,none⟩,
  ⟨(some 76),.nilChk (.tmp 68),none⟩,
  ⟨(some 77),.fieldAddr 1 (.tmp 76),none⟩,
  ⟨none,.store 1 (.tmp 77) (.tmp 75),none⟩])
 (.ops [⟨(some 78),.mov (.tmp 0),none⟩,
  ⟨(some 79),.mov (.tmp 5),none⟩,
  ⟨(some 80),.call 272 [(.tmp 78),(.tmp 79),(.con (.func (.func 273) [] []))],none⟩]))))))))
def a292 : AFunc:=⟨2,c292,[]⟩
theorem k292 : cFunc Tryz.prog Tryz.f292=some a292:=by kernel_rfl
/- 293: (*tendril/put.Put).load -/
def c293 : ACode:=(.seq (.ops [⟨(some 4),.mov (.tmp 0),none⟩,
  ⟨(some 5),.mov (.tmp 1),none⟩,
  ⟨(some 6),.build [(.int .i64 0),(.int .i64 0),(.int .u64 0),(.str []),.nilSlice,.nilSlice,(.int .u8 0)] [(0,1,(.tmp 5))],none⟩,
  ⟨(some 7),.nilChk (.tmp 4),none⟩,
  ⟨(some 8),.fieldAddr 22 (.tmp 7),none⟩,
  ⟨none,.store 7 (.tmp 8) (.tmp 6),none⟩])
 (.ops [⟨(some 9),.mov (.tmp 0),none⟩,
  ⟨(some 10),.mov (.tmp 1),none⟩,
  ⟨(some 11),.build [(.int .i64 0),(.int .i64 0),(.int .i64 0),(.int .i64 0),(.int .u64 0),.nilSlice] [(0,1,(.con (.int .i64 1))),(1,1,(.tmp 10))],none⟩,
  ⟨(some 12),.call 184 [(.tmp 9),(.tmp 11),(.con (.func (.func 304) [] []))],none⟩]))
def a293 : AFunc:=⟨2,c293,[]⟩
theorem k293 : cFunc Tryz.prog Tryz.f293=some a293:=by kernel_rfl
/- 294: (*tendril/tick.Tick).atCollect -/
def c294 : ACode:=(.seq (.ops [⟨(some 3),.box (.tmp 1),none⟩])
 (.seq (.seq (.ops [⟨(some 4),.fieldAddr 2 (.tmp 3),none⟩,
  ⟨(some 5),.load false 1 (.tmp 4),none⟩])
 (.cond (.tmp 5)
 .ret
 .skip))
 (.seq (.ops [⟨(some 6),.mov (.tmp 0),none⟩,
  ⟨(some 7),.nilChk (.tmp 6),none⟩,
  ⟨(some 8),.fieldAddr 9 (.tmp 7),none⟩,
  ⟨none,.store 1 (.tmp 8) (.con (.bool true)),none⟩])
 (.ops [⟨(some 9),.mov (.tmp 0),none⟩,
  ⟨(some 10),.build [(.int .i64 0),(.int .i64 0),(.int .i64 0),(.int .i64 0),(.int .u64 0),.nilSlice] [],none⟩,
  ⟨(some 11),.call 227 [(.tmp 9),(.tmp 10),(.con .nilFunc)],none⟩]))))
def a294 : AFunc:=⟨2,c294,[]⟩
theorem k294 : cFunc Tryz.prog Tryz.f294=some a294:=by kernel_rfl
/- 295: (*tendril/scan.Scan).atUnpin -/
def c295 : ACode:=(.seq (.ops [⟨(some 3),.box (.tmp 1),none⟩])
 (.seq (.ops [⟨(some 4),.mov (.tmp 0),none⟩,
  ⟨(some 5),.nilChk (.tmp 4),none⟩,
  ⟨(some 6),.fieldAddr 13 (.tmp 5),none⟩,
  ⟨none,.store 1 (.tmp 6) (.con (.bool true)),none⟩])
 (.ops [⟨(some 7),.mov (.tmp 0),none⟩,
  ⟨(some 8),.build [(.int .i64 0),(.int .i64 0),(.int .i64 0),(.int .i64 0),(.int .u64 0),.nilSlice] [],none⟩,
  ⟨(some 9),.call 102 [(.tmp 7),(.tmp 8),(.con .nilFunc)],none⟩])))
def a295 : AFunc:=⟨2,c295,[]⟩
theorem k295 : cFunc Tryz.prog Tryz.f295=some a295:=by kernel_rfl
/- 296: tendril/node.DecodeLeaf -/
def c296 : ACode:=(.seq (.ops [⟨(some 2),.new [(.str []),(.int .i64 0)],none⟩,
  ⟨(some 3),.mov (.con (.bool false)),none⟩])
 (.seq (.seq (.ops [⟨(some 7),.mov (.tmp 0),none⟩,
  ⟨(some 8),.lenSlice (.tmp 7),none⟩,
  ⟨(some 9),.call 125 [(.con (.int .i64 0))],none⟩,
  ⟨(some 10),.bin .neq (.tmp 8) (.tmp 9),none⟩])
 (.cond (.tmp 10)
 (.seq (.ops [⟨(some 11),.build [(.str []),(.int .i64 0)] [],none⟩,
  ⟨none,.store 2 (.tmp 2) (.tmp 11),none⟩,
  ⟨(some 3),.mov (.con (.bool false)),none⟩])
 .ret)
 .skip))
 (.seq (.ops [⟨(some 13),.mov (.tmp 0),none⟩,
  ⟨(some 14),.slc 1 (.tmp 13) (some (.con (.int .i64 2))) (some (.con (.int .i64 4))) none,none⟩,
  ⟨(some 15),.mov (.tmp 0),none⟩,
  ⟨(some 16),.idxAddr 1 (.tmp 15) (.con (.int .i64 1)),none⟩,
  ⟨(some 17),.load false 1 (.tmp 16),none⟩,
  ⟨(some 18),.bin .shr (.tmp 17) (.con (.int .u64 8)),none⟩,
  ⟨(some 19),.bin .and (.tmp 18) (.con (.int .u64 255)),none⟩,
  ⟨(some 20),.toInt .i64 (.tmp 19),none⟩,
  ⟨(some 21),.call 280 [(.tmp 14),(.tmp 20)],none⟩,
  ⟨(some 12),.mov (.tmp 21),none⟩,
  ⟨(some 22),.extract (.tmp 12) 0,none⟩,
  ⟨(some 23),.extract (.tmp 12) 1,none⟩,
  ⟨(some 4),.mov (.tmp 22),none⟩,
  ⟨(some 5),.mov (.tmp 23),none⟩])
 (.seq (.ops [⟨(some 24),.mov (.tmp 4),none⟩,
  ⟨(some 25),.mov (.tmp 0),none⟩,
  ⟨(some 26),.idxAddr 1 (.tmp 25) (.con (.int .i64 4)),none⟩,
  ⟨(some 27),.load false 1 (.tmp 26),none⟩,
  ⟨(some 28),.toInt .i64 (.tmp 27),none⟩,
  ⟨(some 29),.build [(.str []),(.int .i64 0)] [(0,1,(.tmp 24)),(1,1,(.tmp 28))],none⟩,
  ⟨(some 6),.new [(.str []),(.int .i64 0)],none⟩,
  ⟨none,.store 2 (.tmp 6) (.tmp 29),none⟩])
 (.seq (.seq (.ops [⟨(some 30),.mov (.tmp 5),none⟩,
  ⟨(some 31),.bin .neq (.tmp 30) (.con (.int .i64 0)),none⟩,
  ⟨(some 32),.mov (.tmp 31),none⟩,
  ⟨(some 33),.load true 2 (.tmp 6),(some (32,false))⟩,
  ⟨(some 34),.call 305 [(.tmp 33)],(some (32,false))⟩,
  ⟨(some 35),.mov (.tmp 0),(some (32,false))⟩,
  ⟨(some 36),.call 283 [(.tmp 34),(.tmp 35)],(some (32,false))⟩,
  ⟨(some 37),.un .not (.tmp 36),(some (32,false))⟩,
  ⟨(some 38),.pick (.tmp 32) (.con (.bool true)) (.tmp 37),none⟩])
 (.cond (.tmp 38)
 (.seq (.ops [⟨(some 39),.build [(.str []),(.int .i64 0)] [],none⟩,
  ⟨none,.store 2 (.tmp 2) (.tmp 39),none⟩,
  ⟨(some 3),.mov (.con (.bool false)),none⟩])
 .ret)
 .skip))
 (.seq (.ops [⟨(some 40),.load true 2 (.tmp 6),none⟩,
  ⟨none,.store 2 (.tmp 2) (.tmp 40),none⟩,
  ⟨(some 3),.mov (.con (.bool true)),none⟩])
 .ret))))))
def a296 : AFunc:=⟨1,c296,[.cell 2 true 2,.tmp 3]⟩
theorem k296 : cFunc Tryz.prog Tryz.f296=some a296:=by kernel_rfl
/- 297: tendril/term.Of -/
def c297 : ACode:=(.seq (.ops [⟨(some 2),.mov (.con (.str [])),none⟩,
  ⟨(some 3),.mov (.con (.bool false)),none⟩])
 (.seq (.ops [⟨(some 7),.mov (.tmp 0),none⟩,
  ⟨(some 8),.call 306 [(.tmp 7),(.con (.str [0]))],none⟩,
  ⟨(some 6),.mov (.tmp 8),none⟩,
  ⟨(some 9),.extract (.tmp 6) 0,none⟩,
  ⟨(some 10),.extract (.tmp 6) 1,none⟩,
  ⟨(some 4),.mov (.tmp 9),none⟩,
  ⟨(some 5),.mov (.tmp 10),none⟩])
 (.seq (.seq (.ops [⟨(some 11),.mov (.tmp 5),none⟩,
  ⟨(some 12),.un .not (.tmp 11),none⟩,
  ⟨(some 13),.mov (.tmp 12),none⟩,
  ⟨(some 14),.mov (.tmp 4),(some (13,false))⟩,
  ⟨(some 15),.call 42 [(.tmp 14)],(some (13,false))⟩,
  ⟨(some 16),.un .not (.tmp 15),(some (13,false))⟩,
  ⟨(some 17),.pick (.tmp 13) (.con (.bool true)) (.tmp 16),none⟩])
 (.cond (.tmp 17)
 (.seq (.ops [⟨(some 2),.mov (.con (.str [])),none⟩,
  ⟨(some 3),.mov (.con (.bool false)),none⟩])
 .ret)
 .skip))
 (.seq (.ops [⟨(some 18),.mov (.tmp 4),none⟩,
  ⟨(some 2),.mov (.tmp 18),none⟩,
  ⟨(some 3),.mov (.con (.bool true)),none⟩])
 .ret))))
def a297 : AFunc:=⟨1,c297,[.tmp 2,.tmp 3]⟩
theorem k297 : cFunc Tryz.prog Tryz.f297=some a297:=by kernel_rfl
/- 37: tendril/term.Next -/
def c37 : ACode:=(.seq (.ops [⟨(some 2),.mov (.con (.str [])),none⟩])
 (.seq (.ops [⟨(some 3),.mov (.tmp 0),none⟩,
  ⟨(some 4),.bin .add (.tmp 3) (.con (.str [0])),none⟩,
  ⟨(some 2),.mov (.tmp 4),none⟩])
 .ret))
def a37 : AFunc:=⟨1,c37,[.tmp 2]⟩
theorem k37 : cFunc Tryz.prog Tryz.f37=some a37:=by kernel_rfl
/- 298: (*tendril/drop.Drop).load -/
def c298 : ACode:=(.seq (.ops [⟨(some 4),.mov (.tmp 0),none⟩,
  ⟨(some 5),.mov (.tmp 1),none⟩,
  ⟨(some 6),.build [(.int .i64 0),(.int .i64 0),(.int .u64 0),(.str []),.nilSlice,.nilSlice,(.int .u8 0)] [(0,1,(.tmp 5))],none⟩,
  ⟨(some 7),.nilChk (.tmp 4),none⟩,
  ⟨(some 8),.fieldAddr 21 (.tmp 7),none⟩,
  ⟨none,.store 7 (.tmp 8) (.tmp 6),none⟩])
 (.ops [⟨(some 9),.mov (.tmp 0),none⟩,
  ⟨(some 10),.mov (.tmp 1),none⟩,
  ⟨(some 11),.build [(.int .i64 0),(.int .i64 0),(.int .i64 0),(.int .i64 0),(.int .u64 0),.nilSlice] [(0,1,(.con (.int .i64 1))),(1,1,(.tmp 10))],none⟩,
  ⟨(some 12),.call 220 [(.tmp 9),(.tmp 11),(.con (.func (.func 307) [] []))],none⟩]))
def a298 : AFunc:=⟨2,c298,[]⟩
theorem k298 : cFunc Tryz.prog Tryz.f298=some a298:=by kernel_rfl
/- 299: (*tendril/get.Get).place -/
def c299 : ACode:=(.seq (.ops [⟨(some 2),.mov (.tmp 0),none⟩,
  ⟨(some 3),.mov (.tmp 0),none⟩,
  ⟨(some 4),.nilChk (.tmp 3),none⟩,
  ⟨(some 5),.fieldAddr 11 (.tmp 4),none⟩,
  ⟨(some 6),.load false 1 (.tmp 5),none⟩,
  ⟨(some 7),.un .not (.tmp 6),none⟩,
  ⟨(some 8),.nilChk (.tmp 2),none⟩,
  ⟨(some 9),.fieldAddr 12 (.tmp 8),none⟩,
  ⟨none,.store 1 (.tmp 9) (.tmp 7),none⟩])
 (.ops [⟨(some 10),.mov (.tmp 0),none⟩,
  ⟨(some 11),.nilChk (.tmp 10),none⟩,
  ⟨(some 12),.fieldAddr 11 (.tmp 11),none⟩,
  ⟨none,.store 1 (.tmp 12) (.con (.bool true)),none⟩]))
def a299 : AFunc:=⟨1,c299,[]⟩
theorem k299 : cFunc Tryz.prog Tryz.f299=some a299:=by kernel_rfl
/- 300: (*tendril/get.Get).end -/
def c300 : ACode:=(.seq (.ops [⟨(some 3),.box (.tmp 1),none⟩])
 (.seq (.ops [⟨(some 4),.mov (.tmp 0),none⟩,
  ⟨(some 5),.load true 4 (.tmp 3),none⟩,
  ⟨(some 6),.nilChk (.tmp 4),none⟩,
  ⟨(some 7),.fieldAddr 13 (.tmp 6),none⟩,
  ⟨none,.store 4 (.tmp 7) (.tmp 5),none⟩])
 (.ops [⟨(some 8),.mov (.tmp 0),none⟩,
  ⟨(some 9),.build [(.int .i64 0),(.int .i64 0),(.int .i64 0),(.int .i64 0),(.int .u64 0),.nilSlice] [(0,1,(.con (.int .i64 9)))],none⟩,
  ⟨(some 10),.call 182 [(.tmp 8),(.tmp 9),(.con (.func (.func 308) [] []))],none⟩])))
def a300 : AFunc:=⟨2,c300,[]⟩
theorem k300 : cFunc Tryz.prog Tryz.f300=some a300:=by kernel_rfl
/- 301: tendril/term.Common -/
def c301l0 : ACode:=(.seq (.seq (.ops [⟨(some 6),.mov (.tmp 5),none⟩,
  ⟨(some 7),.mov (.tmp 0),none⟩,
  ⟨(some 8),.lenStr (.tmp 7),none⟩,
  ⟨(some 9),.bin .lss (.tmp 6) (.tmp 8),none⟩,
  ⟨(some 10),.mov (.tmp 9),none⟩,
  ⟨(some 11),.mov (.tmp 5),(some (10,true))⟩,
  ⟨(some 12),.mov (.tmp 1),(some (10,true))⟩,
  ⟨(some 13),.lenStr (.tmp 12),(some (10,true))⟩,
  ⟨(some 14),.bin .lss (.tmp 11) (.tmp 13),(some (10,true))⟩,
  ⟨(some 15),.pick (.tmp 10) (.tmp 14) (.con (.bool false)),none⟩,
  ⟨(some 16),.mov (.tmp 15),none⟩,
  ⟨(some 17),.mov (.tmp 0),(some (16,true))⟩,
  ⟨(some 18),.mov (.tmp 5),(some (16,true))⟩,
  ⟨(some 19),.idxStr (.tmp 17) (.tmp 18),(some (16,true))⟩,
  ⟨(some 20),.mov (.tmp 1),(some (16,true))⟩,
  ⟨(some 21),.mov (.tmp 5),(some (16,true))⟩,
  ⟨(some 22),.idxStr (.tmp 20) (.tmp 21),(some (16,true))⟩,
  ⟨(some 23),.bin .eql (.tmp 19) (.tmp 22),(some (16,true))⟩,
  ⟨(some 24),.pick (.tmp 16) (.tmp 23) (.con (.bool false)),none⟩])
 (.cond (.tmp 24)
 .skip
 (.exit 0)))
 (.block 1 (.ops [⟨(some 25),.mov (.tmp 5),none⟩,
  ⟨(some 26),.bin .add (.tmp 25) (.con (.int .i64 1)),none⟩,
  ⟨(some 5),.mov (.tmp 26),none⟩])))
def c301 : ACode:=(.seq (.ops [⟨(some 4),.mov (.con (.int .i64 0)),none⟩])
 (.seq (.ops [⟨(some 5),.mov (.con (.int .i64 0)),none⟩])
 (.seq (.block 0 (.loop c301l0))
 (.seq (.ops [⟨(some 27),.mov (.tmp 5),none⟩,
  ⟨(some 4),.mov (.tmp 27),none⟩])
 .ret))))
def a301 : AFunc:=⟨2,c301,[.tmp 4]⟩
theorem k301 : cFunc Tryz.prog Tryz.f301=some a301:=by kernel_rfl
/- 302: tendril/node.Find -/
def c302 : ACode:=(.seq (.ops [⟨(some 2),.box (.tmp 0),none⟩,
  ⟨(some 4),.mov (.con (.int .i64 0)),none⟩,
  ⟨(some 5),.mov (.con (.bool false)),none⟩])
 (.seq (.ops [⟨(some 7),.load true 5 (.tmp 2),none⟩,
  ⟨(some 8),.mov (.tmp 1),none⟩,
  ⟨(some 9),.call 309 [(.tmp 7),(.tmp 8)],none⟩,
  ⟨(some 6),.mov (.tmp 9),none⟩])
 (.seq (.seq (.ops [⟨(some 10),.mov (.tmp 6),none⟩,
  ⟨(some 11),.bin .lss (.tmp 10) (.con (.int .i64 0)),none⟩])
 (.cond (.tmp 11)
 (.seq (.ops [⟨(some 4),.mov (.con (.int .i64 0)),none⟩,
  ⟨(some 5),.mov (.con (.bool false)),none⟩])
 .ret)
 .skip))
 (.seq (.ops [⟨(some 12),.fieldAddr 4 (.tmp 2),none⟩,
  ⟨(some 13),.load false 1 (.tmp 12),none⟩,
  ⟨(some 14),.mov (.tmp 6),none⟩,
  ⟨(some 15),.idxAddr 1 (.tmp 13) (.tmp 14),none⟩,
  ⟨(some 16),.load false 1 (.tmp 15),none⟩,
  ⟨(some 4),.mov (.tmp 16),none⟩,
  ⟨(some 5),.mov (.con (.bool true)),none⟩])
 .ret))))
def a302 : AFunc:=⟨2,c302,[.tmp 4,.tmp 5]⟩
theorem k302 : cFunc Tryz.prog Tryz.f302=some a302:=by kernel_rfl
/- 303: (*tendril/get.Get).atLeaf -/
def c303 : ACode:=(.seq (.ops [⟨(some 3),.box (.tmp 1),none⟩])
 (.seq (.ops [⟨(some 7),.fieldAddr 3 (.tmp 3),none⟩,
  ⟨(some 8),.load false 1 (.tmp 7),none⟩,
  ⟨(some 9),.call 296 [(.tmp 8)],none⟩,
  ⟨(some 6),.mov (.tmp 9),none⟩,
  ⟨(some 10),.extract (.tmp 6) 0,none⟩,
  ⟨(some 11),.extract (.tmp 6) 1,none⟩,
  ⟨(some 4),.new [(.str []),(.int .i64 0)],none⟩,
  ⟨none,.store 2 (.tmp 4) (.tmp 10),none⟩,
  ⟨(some 5),.mov (.tmp 11),none⟩])
 (.block 0 (.seq (.ops [⟨(some 16),.fieldAddr 0 (.tmp 3),none⟩,
  ⟨(some 17),.load false 1 (.tmp 16),none⟩,
  ⟨(some 18),.bin .neq (.tmp 17) (.con (.int .i64 0)),none⟩,
  ⟨(some 15),.mov (.tmp 18),none⟩])
 (.cond (.tmp 15)
 (.ops [⟨(some 19),.mov (.tmp 0),none⟩,
  ⟨(some 20),.fieldAddr 0 (.tmp 3),none⟩,
  ⟨(some 21),.load false 1 (.tmp 20),none⟩,
  ⟨(some 22),.call 291 [(.tmp 19),(.tmp 21)],none⟩])
 (.seq (.ops [⟨(some 24),.mov (.tmp 5),none⟩,
  ⟨(some 25),.un .not (.tmp 24),none⟩,
  ⟨(some 23),.mov (.tmp 25),none⟩])
 (.cond (.tmp 23)
 (.ops [⟨(some 26),.mov (.tmp 0),none⟩,
  ⟨(some 27),.call 291 [(.tmp 26),(.con (.int .i64 5))],none⟩])
 (.seq (.ops [⟨(some 29),.fieldAddr 0 (.tmp 4),none⟩,
  ⟨(some 30),.load false 1 (.tmp 29),none⟩,
  ⟨(some 31),.mov (.tmp 0),none⟩,
  ⟨(some 32),.nilChk (.tmp 31),none⟩,
  ⟨(some 33),.fieldAddr 0 (.tmp 32),none⟩,
  ⟨(some 34),.load false 1 (.tmp 33),none⟩,
  ⟨(some 35),.bin .eql (.tmp 30) (.tmp 34),none⟩,
  ⟨(some 28),.mov (.tmp 35),none⟩])
 (.cond (.tmp 28)
 (.ops [⟨(some 36),.mov (.tmp 0),none⟩,
  ⟨(some 37),.fieldAddr 1 (.tmp 4),none⟩,
  ⟨(some 38),.load false 1 (.tmp 37),none⟩,
  ⟨(some 39),.build [(.int .i64 0),(.bool false),(.int .i64 0),.nilSlice] [(1,1,(.con (.bool true))),(2,1,(.tmp 38))],none⟩,
  ⟨(some 40),.call 300 [(.tmp 36),(.tmp 39)],none⟩])
 (.ops [⟨(some 12),.mov (.tmp 0),none⟩,
  ⟨(some 13),.build [(.int .i64 0),(.bool false),(.int .i64 0),.nilSlice] [],none⟩,
  ⟨(some 14),.call 300 [(.tmp 12),(.tmp 13)],none⟩]))))))))))
def a303 : AFunc:=⟨2,c303,[]⟩
theorem k303 : cFunc Tryz.prog Tryz.f303=some a303:=by kernel_rfl
/- 304: (*tendril/put.Put).atNode -/
def c304 : ACode:=(.seq (.ops [⟨(some 3),.box (.tmp 1),none⟩])
 (.seq (.ops [⟨(some 13),.mov (.tmp 0),none⟩,
  ⟨(some 14),.load true 4 (.tmp 3),none⟩,
  ⟨(some 15),.call 310 [(.tmp 13),(.tmp 14)],none⟩,
  ⟨(some 12),.mov (.tmp 15),none⟩,
  ⟨(some 16),.extract (.tmp 12) 0,none⟩,
  ⟨(some 17),.extract (.tmp 12) 1,none⟩,
  ⟨(some 4),.new [(.int .i64 0),(.int .u64 0),(.str []),.nilSlice,.nilSlice],none⟩,
  ⟨none,.store 5 (.tmp 4) (.tmp 16),none⟩,
  ⟨(some 5),.mov (.tmp 17),none⟩])
 (.seq (.seq (.ops [⟨(some 18),.mov (.tmp 5),none⟩,
  ⟨(some 19),.un .not (.tmp 18),none⟩])
 (.cond (.tmp 19)
 .ret
 .skip))
 (.seq (.ops [⟨(some 20),.mov (.tmp 0),none⟩,
  ⟨(some 21),.load true 5 (.tmp 4),none⟩,
  ⟨(some 22),.nilChk (.tmp 20),none⟩,
  ⟨(some 23),.fieldAddr 22 (.tmp 22),none⟩,
  ⟨(some 24),.fieldAddr 1 (.tmp 23),none⟩,
  ⟨none,.store 5 (.tmp 24) (.tmp 21),none⟩])
 (.seq (.ops [⟨(some 25),.fieldAddr 2 (.tmp 4),none⟩,
  ⟨(some 26),.load false 1 (.tmp 25),none⟩,
  ⟨(some 27),.mov (.tmp 0),none⟩,
  ⟨(some 28),.nilChk (.tmp 27),none⟩,
  ⟨(some 29),.fieldAddr 1 (.tmp 28),none⟩,
  ⟨(some 30),.load false 1 (.tmp 29),none⟩,
  ⟨(some 31),.call 301 [(.tmp 26),(.tmp 30)],none⟩,
  ⟨(some 6),.mov (.tmp 31),none⟩])
 (.seq (.block 0 (.seq (.ops [⟨(some 33),.mov (.tmp 6),none⟩,
  ⟨(some 34),.mov (.tmp 0),none⟩,
  ⟨(some 35),.nilChk (.tmp 34),none⟩,
  ⟨(some 36),.fieldAddr 1 (.tmp 35),none⟩,
  ⟨(some 37),.load false 1 (.tmp 36),none⟩,
  ⟨(some 38),.lenStr (.tmp 37),none⟩,
  ⟨(some 39),.bin .eql (.tmp 33) (.tmp 38),none⟩,
  ⟨(some 32),.mov (.tmp 39),none⟩])
 (.cond (.tmp 32)
 (.seq (.ops [⟨(some 40),.mov (.tmp 0),none⟩,
  ⟨(some 41),.build [(.int .i64 0),(.bool false),(.int .i64 0),.nilSlice] [],none⟩,
  ⟨(some 42),.call 311 [(.tmp 40),(.tmp 41)],none⟩])
 .ret)
 (.seq (.ops [⟨(some 44),.mov (.tmp 6),none⟩,
  ⟨(some 45),.fieldAddr 2 (.tmp 4),none⟩,
  ⟨(some 46),.load false 1 (.tmp 45),none⟩,
  ⟨(some 47),.lenStr (.tmp 46),none⟩,
  ⟨(some 48),.bin .lss (.tmp 44) (.tmp 47),none⟩,
  ⟨(some 43),.mov (.tmp 48),none⟩])
 (.cond (.tmp 43)
 (.seq (.ops [⟨(some 49),.mov (.tmp 0),none⟩,
  ⟨(some 50),.mov (.tmp 6),none⟩,
  ⟨(some 51),.call 312 [(.tmp 49),(.tmp 50)],none⟩])
 .ret)
 .skip)))))
 (.seq (.ops [⟨(some 52),.mov (.tmp 0),none⟩,
  ⟨(some 53),.mov (.tmp 0),none⟩,
  ⟨(some 54),.nilChk (.tmp 53),none⟩,
  ⟨(some 55),.fieldAddr 1 (.tmp 54),none⟩,
  ⟨(some 56),.load false 1 (.tmp 55),none⟩,
  ⟨(some 57),.mov (.tmp 6),none⟩,
  ⟨(some 58),.idxStr (.tmp 56) (.tmp 57),none⟩,
  ⟨(some 59),.nilChk (.tmp 52),none⟩,
  ⟨(some 60),.fieldAddr 22 (.tmp 59),none⟩,
  ⟨(some 61),.fieldAddr 6 (.tmp 60),none⟩,
  ⟨none,.store 1 (.tmp 61) (.tmp 58),none⟩])
 (.seq (.ops [⟨(some 62),.mov (.tmp 0),none⟩,
  ⟨(some 63),.mov (.tmp 0),none⟩,
  ⟨(some 64),.nilChk (.tmp 63),none⟩,
  ⟨(some 65),.fieldAddr 1 (.tmp 64),none⟩,
  ⟨(some 66),.load false 1 (.tmp 65),none⟩,
  ⟨(some 67),.mov (.tmp 6),none⟩,
  ⟨(some 68),.bin .add (.tmp 67) (.con (.int .i64 1)),none⟩,
  ⟨(some 69),.slcStr (.tmp 66) (some (.tmp 68)) none,none⟩,
  ⟨(some 70),.nilChk (.tmp 62),none⟩,
  ⟨(some 71),.fieldAddr 1 (.tmp 70),none⟩,
  ⟨none,.store 1 (.tmp 71) (.tmp 69),none⟩])
 (.seq (.ops [⟨(some 73),.load true 5 (.tmp 4),none⟩,
  ⟨(some 74),.mov (.tmp 0),none⟩,
  ⟨(some 75),.nilChk (.tmp 74),none⟩,
  ⟨(some 76),.fieldAddr 22 (.tmp 75),none⟩,
  ⟨(some 77),.fieldAddr 6 (.tmp 76),none⟩,
  ⟨(some 78),.load false 1 (.tmp 77),none⟩,
  ⟨(some 79),.call 302 [(.tmp 73),(.tmp 78)],none⟩,
  ⟨(some 72),.mov (.tmp 79),none⟩,
  ⟨(some 80),.extract (.tmp 72) 0,none⟩,
  ⟨(some 81),.extract (.tmp 72) 1,none⟩,
  ⟨(some 7),.mov (.tmp 80),none⟩,
  ⟨(some 5),.mov (.tmp 81),none⟩])
 (.seq (.seq (.ops [⟨(some 82),.mov (.tmp 5),none⟩,
  ⟨(some 83),.un .not (.tmp 82),none⟩])
 (.cond (.tmp 83)
 (.seq (.ops [⟨(some 84),.mov (.tmp 0),none⟩,
  ⟨(some 85),.call 313 [(.tmp 84)],none⟩])
 .ret)
 .skip))
 (.seq (.seq (.ops [⟨(some 87),.mov (.tmp 7),none⟩,
  ⟨(some 88),.call 204 [(.tmp 87)],none⟩,
  ⟨(some 86),.mov (.tmp 88),none⟩,
  ⟨(some 89),.extract (.tmp 86) 0,none⟩,
  ⟨(some 90),.extract (.tmp 86) 1,none⟩,
  ⟨(some 91),.extract (.tmp 86) 2,none⟩,
  ⟨(some 92),.extract (.tmp 86) 3,none⟩,
  ⟨(some 8),.mov (.tmp 89),none⟩,
  ⟨(some 9),.mov (.tmp 90),none⟩,
  ⟨(some 10),.mov (.tmp 91),none⟩,
  ⟨(some 11),.mov (.tmp 92),none⟩])
 (.seq (.ops [⟨(some 93),.mov (.tmp 10),none⟩])
 (.cond (.tmp 93)
 (.seq (.ops [⟨(some 94),.mov (.tmp 0),none⟩,
  ⟨(some 95),.mov (.tmp 7),none⟩,
  ⟨(some 96),.build [(.int .i64 0),(.int .i64 0),(.int .i64 0),(.int .i64 0),(.int .u64 0),.nilSlice] [(0,1,(.con (.int .i64 1))),(1,1,(.tmp 95))],none⟩,
  ⟨(some 97),.call 184 [(.tmp 94),(.tmp 96),(.con (.func (.func 314) [] []))],none⟩])
 .ret)
 .skip)))
 (.seq (.ops [⟨(some 98),.mov (.tmp 0),none⟩,
  ⟨(some 99),.mov (.tmp 0),none⟩,
  ⟨(some 100),.nilChk (.tmp 99),none⟩,
  ⟨(some 101),.fieldAddr 22 (.tmp 100),none⟩,
  ⟨(some 102),.load true 7 (.tmp 101),none⟩,
  ⟨(some 103),.nilChk (.tmp 98),none⟩,
  ⟨(some 104),.fieldAddr 15 (.tmp 103),none⟩,
  ⟨none,.store 7 (.tmp 104) (.tmp 102),none⟩])
 (.ops [⟨(some 105),.mov (.tmp 0),none⟩,
  ⟨(some 106),.mov (.tmp 7),none⟩,
  ⟨(some 107),.call 293 [(.tmp 105),(.tmp 106)],none⟩])))))))))))))
def a304 : AFunc:=⟨2,c304,[]⟩
theorem k304 : cFunc Tryz.prog Tryz.f304=some a304:=by kernel_rfl
/- 305: tendril/node.EncodeLeaf -/
def c305 : ACode:=(.seq (.ops [⟨(some 1),.box (.tmp 0),none⟩,
  ⟨(some 2),.mov (.con .nilSlice),none⟩])
 (.seq (.seq (.ops [⟨(some 4),.load true 2 (.tmp 1),none⟩,
  ⟨(some 5),.call 315 [(.tmp 4)],none⟩,
  ⟨(some 6),.un .not (.tmp 5),none⟩])
 (.cond (.tmp 6)
 (.seq (.ops [⟨(some 2),.mov (.con .nilSlice),none⟩])
 .ret)
 .skip))
 (.seq (.ops [⟨(some 7),.call 125 [(.con (.int .i64 0))],none⟩,
  ⟨(some 8),.mkSlice 1 8 [(.int .u64 0)] (.tmp 7) (.tmp 7),none⟩,
  ⟨(some 3),.mov (.tmp 8),none⟩])
 (.seq (.ops [⟨(some 9),.mov (.tmp 3),none⟩,
  ⟨(some 10),.fieldAddr 0 (.tmp 1),none⟩,
  ⟨(some 11),.load false 1 (.tmp 10),none⟩,
  ⟨(some 12),.lenStr (.tmp 11),none⟩,
  ⟨(some 13),.bin .shl (.tmp 12) (.con (.int .u64 8)),none⟩,
  ⟨(some 14),.toInt .u64 (.tmp 13),none⟩,
  ⟨(some 15),.idxAddr 1 (.tmp 9) (.con (.int .i64 1)),none⟩,
  ⟨none,.store 1 (.tmp 15) (.tmp 14),none⟩])
 (.seq (.ops [⟨(some 16),.mov (.tmp 3),none⟩,
  ⟨(some 17),.slc 1 (.tmp 16) (some (.con (.int .i64 2))) none none,none⟩,
  ⟨(some 18),.fieldAddr 0 (.tmp 1),none⟩,
  ⟨(some 19),.load false 1 (.tmp 18),none⟩,
  ⟨(some 20),.call 129 [(.tmp 19)],none⟩,
  ⟨(some 21),.copy 1 (.tmp 17) (.tmp 20),none⟩])
 (.seq (.ops [⟨(some 22),.mov (.tmp 3),none⟩,
  ⟨(some 23),.fieldAddr 1 (.tmp 1),none⟩,
  ⟨(some 24),.load false 1 (.tmp 23),none⟩,
  ⟨(some 25),.toInt .u64 (.tmp 24),none⟩,
  ⟨(some 26),.idxAddr 1 (.tmp 22) (.con (.int .i64 4)),none⟩,
  ⟨none,.store 1 (.tmp 26) (.tmp 25),none⟩])
 (.seq (.ops [⟨(some 27),.mov (.tmp 3),none⟩,
  ⟨(some 2),.mov (.tmp 27),none⟩])
 .ret)))))))
def a305 : AFunc:=⟨1,c305,[.tmp 2]⟩
theorem k305 : cFunc Tryz.prog Tryz.f305=some a305:=by kernel_rfl
/- 306: strings.CutSuffix -/
def c306 : ACode:=(.seq (.ops [⟨(some 4),.mov (.con (.str [])),none⟩,
  ⟨(some 5),.mov (.con (.bool false)),none⟩])
 (.seq (.ops [⟨(some 6),.mov (.tmp 0),none⟩,
  ⟨(some 7),.mov (.tmp 1),none⟩,
  ⟨(some 8),.call 316 [(.tmp 6),(.tmp 7)],none⟩,
  ⟨(some 9),.extract (.tmp 8) 0,none⟩,
  ⟨(some 10),.extract (.tmp 8) 1,none⟩,
  ⟨(some 4),.mov (.tmp 9),none⟩,
  ⟨(some 5),.mov (.tmp 10),none⟩])
 .ret))
def a306 : AFunc:=⟨2,c306,[.tmp 4,.tmp 5]⟩
theorem k306 : cFunc Tryz.prog Tryz.f306=some a306:=by kernel_rfl
/- 307: (*tendril/drop.Drop).atNode -/
def c307 : ACode:=(.seq (.ops [⟨(some 3),.box (.tmp 1),none⟩])
 (.seq (.ops [⟨(some 13),.mov (.tmp 0),none⟩,
  ⟨(some 14),.load true 4 (.tmp 3),none⟩,
  ⟨(some 15),.call 317 [(.tmp 13),(.tmp 14)],none⟩,
  ⟨(some 12),.mov (.tmp 15),none⟩,
  ⟨(some 16),.extract (.tmp 12) 0,none⟩,
  ⟨(some 17),.extract (.tmp 12) 1,none⟩,
  ⟨(some 4),.new [(.int .i64 0),(.int .u64 0),(.str []),.nilSlice,.nilSlice],none⟩,
  ⟨none,.store 5 (.tmp 4) (.tmp 16),none⟩,
  ⟨(some 5),.mov (.tmp 17),none⟩])
 (.seq (.seq (.ops [⟨(some 18),.mov (.tmp 5),none⟩,
  ⟨(some 19),.un .not (.tmp 18),none⟩])
 (.cond (.tmp 19)
 .ret
 .skip))
 (.seq (.ops [⟨(some 20),.mov (.tmp 0),none⟩,
  ⟨(some 21),.mov (.tmp 0),none⟩,
  ⟨(some 22),.load true 5 (.tmp 4),none⟩,
  ⟨(some 23),.build [(.int .i64 0),(.int .i64 0),(.int .u64 0),(.str []),.nilSlice,.nilSlice,(.int .u8 0)] [],none⟩,
  ⟨(some 24),.nilChk (.tmp 20),none⟩,
  ⟨(some 25),.fieldAddr 21 (.tmp 24),none⟩,
  ⟨(some 26),.fieldAddr 1 (.tmp 25),none⟩,
  ⟨none,.store 5 (.tmp 26) (.tmp 22),none⟩,
  ⟨(some 27),.nilChk (.tmp 21),none⟩,
  ⟨(some 28),.fieldAddr 28 (.tmp 27),none⟩,
  ⟨none,.store 7 (.tmp 28) (.tmp 23),none⟩])
 (.seq (.ops [⟨(some 29),.fieldAddr 2 (.tmp 4),none⟩,
  ⟨(some 30),.load false 1 (.tmp 29),none⟩,
  ⟨(some 31),.mov (.tmp 0),none⟩,
  ⟨(some 32),.nilChk (.tmp 31),none⟩,
  ⟨(some 33),.fieldAddr 1 (.tmp 32),none⟩,
  ⟨(some 34),.load false 1 (.tmp 33),none⟩,
  ⟨(some 35),.call 301 [(.tmp 30),(.tmp 34)],none⟩,
  ⟨(some 6),.mov (.tmp 35),none⟩])
 (.seq (.seq (.ops [⟨(some 36),.mov (.tmp 6),none⟩,
  ⟨(some 37),.fieldAddr 2 (.tmp 4),none⟩,
  ⟨(some 38),.load false 1 (.tmp 37),none⟩,
  ⟨(some 39),.lenStr (.tmp 38),none⟩,
  ⟨(some 40),.bin .lss (.tmp 36) (.tmp 39),none⟩,
  ⟨(some 41),.mov (.tmp 40),none⟩,
  ⟨(some 42),.mov (.tmp 6),(some (41,false))⟩,
  ⟨(some 43),.mov (.tmp 0),(some (41,false))⟩,
  ⟨(some 44),.nilChk (.tmp 43),(some (41,false))⟩,
  ⟨(some 45),.fieldAddr 1 (.tmp 44),(some (41,false))⟩,
  ⟨(some 46),.load false 1 (.tmp 45),(some (41,false))⟩,
  ⟨(some 47),.lenStr (.tmp 46),(some (41,false))⟩,
  ⟨(some 48),.bin .eql (.tmp 42) (.tmp 47),(some (41,false))⟩,
  ⟨(some 49),.pick (.tmp 41) (.con (.bool true)) (.tmp 48),none⟩])
 (.cond (.tmp 49)
 (.seq (.ops [⟨(some 50),.mov (.tmp 0),none⟩,
  ⟨(some 51),.build [(.int .i64 0),(.bool false),(.int .i64 0),.nilSlice] [],none⟩,
  ⟨(some 52),.call 318 [(.tmp 50),(.tmp 51)],none⟩])
 .ret)
 .skip))
 (.seq (.ops [⟨(some 53),.mov (.tmp 0),none⟩,
  ⟨(some 54),.mov (.tmp 0),none⟩,
  ⟨(some 55),.nilChk (.tmp 54),none⟩,
  ⟨(some 56),.fieldAddr 1 (.tmp 55),none⟩,
  ⟨(some 57),.load false 1 (.tmp 56),none⟩,
  ⟨(some 58),.mov (.tmp 6),none⟩,
  ⟨(some 59),.idxStr (.tmp 57) (.tmp 58),none⟩,
  ⟨(some 60),.nilChk (.tmp 53),none⟩,
  ⟨(some 61),.fieldAddr 21 (.tmp 60),none⟩,
  ⟨(some 62),.fieldAddr 6 (.tmp 61),none⟩,
  ⟨none,.store 1 (.tmp 62) (.tmp 59),none⟩])
 (.seq (.ops [⟨(some 64),.load true 5 (.tmp 4),none⟩,
  ⟨(some 65),.mov (.tmp 0),none⟩,
  ⟨(some 66),.nilChk (.tmp 65),none⟩,
  ⟨(some 67),.fieldAddr 21 (.tmp 66),none⟩,
  ⟨(some 68),.fieldAddr 6 (.tmp 67),none⟩,
  ⟨(some 69),.load false 1 (.tmp 68),none⟩,
  ⟨(some 70),.call 302 [(.tmp 64),(.tmp 69)],none⟩,
  ⟨(some 63),.mov (.tmp 70),none⟩,
  ⟨(some 71),.extract (.tmp 63) 0,none⟩,
  ⟨(some 72),.extract (.tmp 63) 1,none⟩,
  ⟨(some 7),.mov (.tmp 71),none⟩,
  ⟨(some 5),.mov (.tmp 72),none⟩])
 (.seq (.seq (.ops [⟨(some 73),.mov (.tmp 5),none⟩,
  ⟨(some 74),.un .not (.tmp 73),none⟩])
 (.cond (.tmp 74)
 (.seq (.ops [⟨(some 75),.mov (.tmp 0),none⟩,
  ⟨(some 76),.build [(.int .i64 0),(.bool false),(.int .i64 0),.nilSlice] [],none⟩,
  ⟨(some 77),.call 318 [(.tmp 75),(.tmp 76)],none⟩])
 .ret)
 .skip))
 (.seq (.seq (.ops [⟨(some 79),.mov (.tmp 7),none⟩,
  ⟨(some 80),.call 204 [(.tmp 79)],none⟩,
  ⟨(some 78),.mov (.tmp 80),none⟩,
  ⟨(some 81),.extract (.tmp 78) 0,none⟩,
  ⟨(some 82),.extract (.tmp 78) 1,none⟩,
  ⟨(some 83),.extract (.tmp 78) 2,none⟩,
  ⟨(some 84),.extract (.tmp 78) 3,none⟩,
  ⟨(some 8),.mov (.tmp 81),none⟩,
  ⟨(some 9),.mov (.tmp 82),none⟩,
  ⟨(some 10),.mov (.tmp 83),none⟩,
  ⟨(some 11),.mov (.tmp 84),none⟩])
 (.seq (.ops [⟨(some 85),.mov (.tmp 10),none⟩])
 (.cond (.tmp 85)
 (.seq (.ops [⟨(some 86),.mov (.tmp 0),none⟩,
  ⟨(some 87),.mov (.tmp 7),none⟩,
  ⟨(some 88),.nilChk (.tmp 86),none⟩,
  ⟨(some 89),.fieldAddr 35 (.tmp 88),none⟩,
  ⟨none,.store 1 (.tmp 89) (.tmp 87),none⟩])
 (.seq (.ops [⟨(some 90),.mov (.tmp 0),none⟩,
  ⟨(some 91),.mov (.tmp 7),none⟩,
  ⟨(some 92),.build [(.int .i64 0),(.int .i64 0),(.int .i64 0),(.int .i64 0),(.int .u64 0),.nilSlice] [(0,1,(.con (.int .i64 1))),(1,1,(.tmp 91))],none⟩,
  ⟨(some 93),.call 220 [(.tmp 90),(.tmp 92),(.con (.func (.func 319) [] []))],none⟩])
 .ret))
 .skip)))
 (.seq (.ops [⟨(some 94),.mov (.tmp 0),none⟩,
  ⟨(some 95),.mov (.tmp 0),none⟩,
  ⟨(some 96),.nilChk (.tmp 95),none⟩,
  ⟨(some 97),.fieldAddr 1 (.tmp 96),none⟩,
  ⟨(some 98),.load false 1 (.tmp 97),none⟩,
  ⟨(some 99),.mov (.tmp 6),none⟩,
  ⟨(some 100),.bin .add (.tmp 99) (.con (.int .i64 1)),none⟩,
  ⟨(some 101),.slcStr (.tmp 98) (some (.tmp 100)) none,none⟩,
  ⟨(some 102),.nilChk (.tmp 94),none⟩,
  ⟨(some 103),.fieldAddr 1 (.tmp 102),none⟩,
  ⟨none,.store 1 (.tmp 103) (.tmp 101),none⟩])
 (.seq (.ops [⟨(some 104),.mov (.tmp 0),none⟩,
  ⟨(some 105),.mov (.tmp 0),none⟩,
  ⟨(some 106),.nilChk (.tmp 105),none⟩,
  ⟨(some 107),.fieldAddr 21 (.tmp 106),none⟩,
  ⟨(some 108),.load true 7 (.tmp 107),none⟩,
  ⟨(some 109),.nilChk (.tmp 104),none⟩,
  ⟨(some 110),.fieldAddr 14 (.tmp 109),none⟩,
  ⟨none,.store 7 (.tmp 110) (.tmp 108),none⟩])
 (.ops [⟨(some 111),.mov (.tmp 0),none⟩,
  ⟨(some 112),.mov (.tmp 7),none⟩,
  ⟨(some 113),.call 298 [(.tmp 111),(.tmp 112)],none⟩])))))))))))))
def a307 : AFunc:=⟨2,c307,[]⟩
theorem k307 : cFunc Tryz.prog Tryz.f307=some a307:=by kernel_rfl
/- 308: (*tendril/get.Get).atUnpin -/
def c308 : ACode:=(.seq (.ops [⟨(some 3),.box (.tmp 1),none⟩])
 (.ops [⟨(some 4),.mov (.tmp 0),none⟩,
  ⟨(some 5),.build [(.int .i64 0),(.int .i64 0),(.int .i64 0),(.int .i64 0),(.int .u64 0),.nilSlice] [],none⟩,
  ⟨(some 6),.call 182 [(.tmp 4),(.tmp 5),(.con .nilFunc)],none⟩]))
def a308 : AFunc:=⟨2,c308,[]⟩
theorem k308 : cFunc Tryz.prog Tryz.f308=some a308:=by kernel_rfl
/- 309: tendril/node.at -/
def c309l0 : ACode:=(.seq (.ops [⟨(some 11),.bin .lss (.tmp 10) (.tmp 9),none⟩])
 (.seq (.cond (.tmp 11)
 .skip
 (.exit 0))
 (.seq (.block 1 (.seq (.ops [⟨(some 12),.mov (.tmp 10),none⟩,
  ⟨(some 13),.idxAddr 1 (.tmp 8) (.tmp 10),none⟩,
  ⟨(some 14),.load false 1 (.tmp 13),none⟩,
  ⟨(some 5),.mov (.tmp 12),none⟩,
  ⟨(some 6),.mov (.tmp 14),none⟩])
 (.seq (.ops [⟨(some 15),.mov (.tmp 6),none⟩,
  ⟨(some 16),.mov (.tmp 1),none⟩,
  ⟨(some 17),.bin .eql (.tmp 15) (.tmp 16),none⟩,
  ⟨(some 18),.mov (.tmp 17),none⟩,
  ⟨(some 19),.mov (.tmp 5),(some (18,true))⟩,
  ⟨(some 20),.fieldAddr 4 (.tmp 2),(some (18,true))⟩,
  ⟨(some 21),.load false 1 (.tmp 20),(some (18,true))⟩,
  ⟨(some 22),.lenSlice (.tmp 21),(some (18,true))⟩,
  ⟨(some 23),.bin .lss (.tmp 19) (.tmp 22),(some (18,true))⟩,
  ⟨(some 24),.pick (.tmp 18) (.tmp 23) (.con (.bool false)),none⟩])
 (.cond (.tmp 24)
 (.seq (.ops [⟨(some 25),.mov (.tmp 5),none⟩,
  ⟨(some 4),.mov (.tmp 25),none⟩])
 .ret)
 .skip))))
 (.ops [⟨(some 26),.bin .add (.tmp 10) (.con (.int .i64 1)),none⟩,
  ⟨(some 10),.mov (.tmp 26),none⟩]))))
def c309 : ACode:=(.seq (.ops [⟨(some 2),.box (.tmp 0),none⟩,
  ⟨(some 4),.mov (.con (.int .i64 0)),none⟩])
 (.seq (.seq (.ops [⟨(some 7),.fieldAddr 3 (.tmp 2),none⟩,
  ⟨(some 8),.load false 1 (.tmp 7),none⟩,
  ⟨(some 9),.lenSlice (.tmp 8),none⟩,
  ⟨(some 10),.mov (.con (.int .i64 0)),none⟩])
 (.block 0 (.loop c309l0)))
 (.seq (.ops [⟨(some 4),.mov (.con (.int .i64 (-1))),none⟩])
 .ret)))
def a309 : AFunc:=⟨2,c309,[.tmp 4]⟩
theorem k309 : cFunc Tryz.prog Tryz.f309=some a309:=by kernel_rfl
/- 310: (*tendril/put.Put).alive -/
def c310 : ACode:=(.seq (.ops [⟨(some 3),.box (.tmp 1),none⟩,
  ⟨(some 4),.new [(.int .i64 0),(.int .u64 0),(.str []),.nilSlice,.nilSlice],none⟩,
  ⟨(some 5),.mov (.con (.bool false)),none⟩])
 (.seq (.ops [⟨(some 9),.fieldAddr 3 (.tmp 3),none⟩,
  ⟨(some 10),.load false 1 (.tmp 9),none⟩,
  ⟨(some 11),.call 263 [(.tmp 10)],none⟩,
  ⟨(some 8),.mov (.tmp 11),none⟩,
  ⟨(some 12),.extract (.tmp 8) 0,none⟩,
  ⟨(some 13),.extract (.tmp 8) 1,none⟩,
  ⟨(some 6),.new [(.int .i64 0),(.int .u64 0),(.str []),.nilSlice,.nilSlice],none⟩,
  ⟨none,.store 5 (.tmp 6) (.tmp 12),none⟩,
  ⟨(some 7),.mov (.tmp 13),none⟩])
 (.seq (.block 0 (.seq (.ops [⟨(some 15),.mov (.tmp 0),none⟩,
  ⟨(some 16),.load true 4 (.tmp 3),none⟩,
  ⟨(some 17),.mov (.tmp 7),none⟩,
  ⟨(some 18),.call 320 [(.tmp 15),(.tmp 16),(.tmp 17)],none⟩,
  ⟨(some 14),.mov (.tmp 18),none⟩])
 (.cond (.tmp 14)
 .skip
 (.seq (.ops [⟨(some 20),.fieldAddr 1 (.tmp 6),none⟩,
  ⟨(some 21),.load false 1 (.tmp 20),none⟩,
  ⟨(some 22),.call 178 [(.tmp 21)],none⟩,
  ⟨(some 19),.mov (.tmp 22),none⟩])
 (.cond (.tmp 19)
 (.ops [⟨(some 23),.mov (.tmp 0),none⟩,
  ⟨(some 24),.call 321 [(.tmp 23)],none⟩])
 (.seq (.ops [⟨(some 26),.fieldAddr 1 (.tmp 6),none⟩,
  ⟨(some 27),.load false 1 (.tmp 26),none⟩,
  ⟨(some 28),.call 265 [(.tmp 27)],none⟩,
  ⟨(some 25),.mov (.tmp 28),none⟩])
 (.cond (.tmp 25)
 (.seq (.ops [⟨(some 29),.load true 5 (.tmp 6),none⟩,
  ⟨none,.store 5 (.tmp 4) (.tmp 29),none⟩,
  ⟨(some 5),.mov (.con (.bool true)),none⟩])
 .ret)
 .skip)))))))
 (.seq (.ops [⟨(some 30),.build [(.int .i64 0),(.int .u64 0),(.str []),.nilSlice,.nilSlice] [],none⟩,
  ⟨none,.store 5 (.tmp 4) (.tmp 30),none⟩,
  ⟨(some 5),.mov (.con (.bool false)),none⟩])
 .ret))))
def a310 : AFunc:=⟨2,c310,[.cell 4 true 5,.tmp 5]⟩
theorem k310 : cFunc Tryz.prog Tryz.f310=some a310:=by kernel_rfl
/- 313: (*tendril/put.Put).hang -/
def c313 : ACode:=(.seq (.ops [⟨(some 1),.box (.tmp 0),none⟩])
 (.seq (.ops [⟨(some 3),.load false 1 (.tmp 1),none⟩,
  ⟨(some 4),.nilChk (.tmp 3),none⟩,
  ⟨(some 5),.fieldAddr 22 (.tmp 4),none⟩,
  ⟨(some 6),.fieldAddr 1 (.tmp 5),none⟩,
  ⟨(some 7),.load true 5 (.tmp 6),none⟩,
  ⟨(some 2),.new [(.int .i64 0),(.int .u64 0),(.str []),.nilSlice,.nilSlice],none⟩,
  ⟨none,.store 5 (.tmp 2) (.tmp 7),none⟩])
 (.seq (.seq (.draw [.op ⟨(some 8),.fieldAddr 3 (.tmp 2),none⟩,
  .op ⟨(some 9),.load false 1 (.tmp 8),none⟩,
  .op ⟨(some 10),.lenSlice (.tmp 9),none⟩,
  .op ⟨(some 11),.fieldAddr 0 (.tmp 2),none⟩,
  .op ⟨(some 12),.load false 1 (.tmp 11),none⟩,
  .op ⟨(some 13),.call 177 [(.tmp 12)],none⟩,
  .op ⟨(some 14),.bin .lss (.tmp 10) (.tmp 13),none⟩,
  .look ⟨(some 9),.load false 1 (.tmp 8),none⟩])
 (.cond (.tmp 14)
 (.seq (.ops [⟨(some 15),.load false 1 (.tmp 1),none⟩,
  ⟨(some 16),.load false 1 (.tmp 1),none⟩,
  ⟨(some 17),.mkFunc (.func 326) [(.tmp 16)] [],none⟩,
  ⟨(some 18),.buildSlice 1 1 [.nilFunc] [(0,1,(.tmp 17))],none⟩,
  ⟨(some 19),.call 324 [(.tmp 15),(.con (.func (.func 331) [] [])),(.tmp 18)],none⟩])
 .ret)
 .skip))
 (.seq (.draw [.op ⟨(some 20),.load false 1 (.tmp 1),none⟩,
  .op ⟨(some 21),.load false 1 (.tmp 1),none⟩,
  .op ⟨(some 22),.nilChk (.tmp 21),none⟩,
  .op ⟨(some 23),.fieldAddr 22 (.tmp 22),none⟩,
  .op ⟨(some 24),.fieldAddr 0 (.tmp 23),none⟩,
  .op ⟨(some 25),.load false 1 (.tmp 24),none⟩,
  .op ⟨(some 26),.buildSlice 1 1 [(.int .i64 0)] [(0,1,(.tmp 25))],none⟩,
  .op ⟨(some 27),.nilChk (.tmp 20),none⟩,
  .op ⟨(some 28),.fieldAddr 31 (.tmp 27),none⟩,
  .look ⟨(some 20),.load false 1 (.tmp 1),none⟩,
  .look ⟨(some 21),.load false 1 (.tmp 1),none⟩,
  .look ⟨(some 25),.load false 1 (.tmp 24),none⟩,
  .look ⟨(some 26),.buildSlice 1 1 [(.int .i64 0)] [(0,1,(.tmp 25))],none⟩,
  .op ⟨none,.store 1 (.tmp 28) (.tmp 26),none⟩])
 (.draw [.op ⟨(some 29),.load false 1 (.tmp 1),none⟩,
  .op ⟨(some 30),.load false 1 (.tmp 1),none⟩,
  .op ⟨(some 31),.mkFunc (.func 326) [(.tmp 30)] [],none⟩,
  .op ⟨(some 32),.mkFunc (.func 332) [] [(.tmp 2),(.tmp 1)],none⟩,
  .op ⟨(some 33),.call 327 [(.tmp 32)],none⟩,
  .op ⟨(some 34),.buildSlice 1 2 [.nilFunc,.nilFunc] [(0,1,(.tmp 31)),(1,1,(.tmp 33))],none⟩,
  .look ⟨(some 29),.load false 1 (.tmp 1),none⟩,
  .look ⟨(some 30),.load false 1 (.tmp 1),none⟩,
  .look ⟨(some 34),.buildSlice 1 2 [.nilFunc,.nilFunc] [(0,1,(.tmp 31)),(1,1,(.tmp 33))],none⟩,
  .op ⟨(some 35),.call 324 [(.tmp 29),(.con (.func (.func 325) [] [])),(.tmp 34)],none⟩])))))
def a313 : AFunc:=⟨1,c313,[]⟩
theorem k313 : cFunc Tryz.prog Tryz.f313=some a313:=by kernel_rfl
/- 315: tendril/node.RightLeaf -/
def c315 : ACode:=(.seq (.ops [⟨(some 1),.box (.tmp 0),none⟩,
  ⟨(some 2),.mov (.con (.bool false)),none⟩])
 (.seq (.ops [⟨(some 6),.fieldAddr 0 (.tmp 1),none⟩,
  ⟨(some 7),.load false 1 (.tmp 6),none⟩,
  ⟨(some 8),.call 297 [(.tmp 7)],none⟩,
  ⟨(some 5),.mov (.tmp 8),none⟩,
  ⟨(some 9),.extract (.tmp 5) 0,none⟩,
  ⟨(some 10),.extract (.tmp 5) 1,none⟩,
  ⟨(some 3),.mov (.tmp 9),none⟩,
  ⟨(some 4),.mov (.tmp 10),none⟩])
 (.seq (.ops [⟨(some 11),.mov (.tmp 4),none⟩,
  ⟨(some 12),.mov (.tmp 11),none⟩,
  ⟨(some 13),.fieldAddr 1 (.tmp 1),(some (12,true))⟩,
  ⟨(some 14),.load false 1 (.tmp 13),(some (12,true))⟩,
  ⟨(some 15),.bin .geq (.tmp 14) (.con (.int .i64 0)),(some (12,true))⟩,
  ⟨(some 16),.pick (.tmp 12) (.tmp 15) (.con (.bool false)),none⟩,
  ⟨(some 17),.mov (.tmp 16),none⟩,
  ⟨(some 18),.fieldAddr 1 (.tmp 1),(some (17,true))⟩,
  ⟨(some 19),.load false 1 (.tmp 18),(some (17,true))⟩,
  ⟨(some 20),.bin .leq (.tmp 19) (.con (.int .i64 1099511627776)),(some (17,true))⟩,
  ⟨(some 21),.pick (.tmp 17) (.tmp 20) (.con (.bool false)),none⟩,
  ⟨(some 2),.mov (.tmp 21),none⟩])
 .ret)))
def a315 : AFunc:=⟨1,c315,[.tmp 2]⟩
theorem k315 : cFunc Tryz.prog Tryz.f315=some a315:=by kernel_rfl
/- 316: internal/stringslite.CutSuffix -/
def c316 : ACode:=(.seq (.ops [⟨(some 4),.mov (.con (.str [])),none⟩,
  ⟨(some 5),.mov (.con (.bool false)),none⟩])
 (.seq (.seq (.ops [⟨(some 6),.mov (.tmp 0),none⟩,
  ⟨(some 7),.mov (.tmp 1),none⟩,
  ⟨(some 8),.call 336 [(.tmp 6),(.tmp 7)],none⟩,
  ⟨(some 9),.un .not (.tmp 8),none⟩])
 (.cond (.tmp 9)
 (.seq (.ops [⟨(some 10),.mov (.tmp 0),none⟩,
  ⟨(some 4),.mov (.tmp 10),none⟩,
  ⟨(some 5),.mov (.con (.bool false)),none⟩])
 .ret)
 .skip))
 (.seq (.ops [⟨(some 11),.mov (.tmp 0),none⟩,
  ⟨(some 12),.mov (.tmp 0),none⟩,
  ⟨(some 13),.lenStr (.tmp 12),none⟩,
  ⟨(some 14),.mov (.tmp 1),none⟩,
  ⟨(some 15),.lenStr (.tmp 14),none⟩,
  ⟨(some 16),.bin .sub (.tmp 13) (.tmp 15),none⟩,
  ⟨(some 17),.slcStr (.tmp 11) none (some (.tmp 16)),none⟩,
  ⟨(some 4),.mov (.tmp 17),none⟩,
  ⟨(some 5),.mov (.con (.bool true)),none⟩])
 .ret)))
def a316 : AFunc:=⟨2,c316,[.tmp 4,.tmp 5]⟩
theorem k316 : cFunc Tryz.prog Tryz.f316=some a316:=by kernel_rfl
/- 317: (*tendril/drop.Drop).alive -/
def c317 : ACode:=(.seq (.ops [⟨(some 3),.box (.tmp 1),none⟩,
  ⟨(some 4),.new [(.int .i64 0),(.int .u64 0),(.str []),.nilSlice,.nilSlice],none⟩,
  ⟨(some 5),.mov (.con (.bool false)),none⟩])
 (.seq (.ops [⟨(some 9),.fieldAddr 3 (.tmp 3),none⟩,
  ⟨(some 10),.load false 1 (.tmp 9),none⟩,
  ⟨(some 11),.call 263 [(.tmp 10)],none⟩,
  ⟨(some 8),.mov (.tmp 11),none⟩,
  ⟨(some 12),.extract (.tmp 8) 0,none⟩,
  ⟨(some 13),.extract (.tmp 8) 1,none⟩,
  ⟨(some 6),.new [(.int .i64 0),(.int .u64 0),(.str []),.nilSlice,.nilSlice],none⟩,
  ⟨none,.store 5 (.tmp 6) (.tmp 12),none⟩,
  ⟨(some 7),.mov (.tmp 13),none⟩])
 (.seq (.block 0 (.seq (.ops [⟨(some 15),.mov (.tmp 0),none⟩,
  ⟨(some 16),.load true 4 (.tmp 3),none⟩,
  ⟨(some 17),.mov (.tmp 7),none⟩,
  ⟨(some 18),.call 337 [(.tmp 15),(.tmp 16),(.tmp 17)],none⟩,
  ⟨(some 14),.mov (.tmp 18),none⟩])
 (.cond (.tmp 14)
 .skip
 (.seq (.ops [⟨(some 20),.fieldAddr 1 (.tmp 6),none⟩,
  ⟨(some 21),.load false 1 (.tmp 20),none⟩,
  ⟨(some 22),.call 178 [(.tmp 21)],none⟩,
  ⟨(some 19),.mov (.tmp 22),none⟩])
 (.cond (.tmp 19)
 (.ops [⟨(some 23),.mov (.tmp 0),none⟩,
  ⟨(some 24),.call 338 [(.tmp 23)],none⟩])
 (.seq (.ops [⟨(some 26),.fieldAddr 1 (.tmp 6),none⟩,
  ⟨(some 27),.load false 1 (.tmp 26),none⟩,
  ⟨(some 28),.call 265 [(.tmp 27)],none⟩,
  ⟨(some 25),.mov (.tmp 28),none⟩])
 (.cond (.tmp 25)
 (.seq (.ops [⟨(some 29),.load true 5 (.tmp 6),none⟩,
  ⟨none,.store 5 (.tmp 4) (.tmp 29),none⟩,
  ⟨(some 5),.mov (.con (.bool true)),none⟩])
 .ret)
 .skip)))))))
 (.seq (.ops [⟨(some 30),.build [(.int .i64 0),(.int .u64 0),(.str []),.nilSlice,.nilSlice] [],none⟩,
  ⟨none,.store 5 (.tmp 4) (.tmp 30),none⟩,
  ⟨(some 5),.mov (.con (.bool false)),none⟩])
 .ret))))
def a317 : AFunc:=⟨2,c317,[.cell 4 true 5,.tmp 5]⟩
theorem k317 : cFunc Tryz.prog Tryz.f317=some a317:=by kernel_rfl
/- 319: (*tendril/drop.Drop).atLeaf -/
def c319 : ACode:=(.seq (.ops [⟨(some 3),.box (.tmp 1),none⟩])
 (.seq (.ops [⟨(some 7),.fieldAddr 3 (.tmp 3),none⟩,
  ⟨(some 8),.load false 1 (.tmp 7),none⟩,
  ⟨(some 9),.call 296 [(.tmp 8)],none⟩,
  ⟨(some 6),.mov (.tmp 9),none⟩,
  ⟨(some 10),.extract (.tmp 6) 0,none⟩,
  ⟨(some 11),.extract (.tmp 6) 1,none⟩,
  ⟨(some 4),.new [(.str []),(.int .i64 0)],none⟩,
  ⟨none,.store 2 (.tmp 4) (.tmp 10),none⟩,
  ⟨(some 5),.mov (.tmp 11),none⟩])
 (.seq (.seq (.ops [⟨(some 12),.mov (.tmp 0),none⟩,
  ⟨(some 13),.load true 4 (.tmp 3),none⟩,
  ⟨(some 14),.mov (.tmp 5),none⟩,
  ⟨(some 15),.call 337 [(.tmp 12),(.tmp 13),(.tmp 14)],none⟩])
 (.cond (.tmp 15)
 .ret
 .skip))
 (.seq (.seq (.ops [⟨(some 16),.fieldAddr 0 (.tmp 4),none⟩,
  ⟨(some 17),.load false 1 (.tmp 16),none⟩,
  ⟨(some 18),.mov (.tmp 0),none⟩,
  ⟨(some 19),.nilChk (.tmp 18),none⟩,
  ⟨(some 20),.fieldAddr 0 (.tmp 19),none⟩,
  ⟨(some 21),.load false 1 (.tmp 20),none⟩,
  ⟨(some 22),.bin .neq (.tmp 17) (.tmp 21),none⟩])
 (.cond (.tmp 22)
 (.seq (.ops [⟨(some 23),.mov (.tmp 0),none⟩,
  ⟨(some 24),.mov (.tmp 0),none⟩,
  ⟨(some 25),.nilChk (.tmp 24),none⟩,
  ⟨(some 26),.fieldAddr 21 (.tmp 25),none⟩,
  ⟨(some 27),.fieldAddr 0 (.tmp 26),none⟩,
  ⟨(some 28),.load false 1 (.tmp 27),none⟩,
  ⟨(some 29),.build [(.int .i64 0),(.int .i64 0),(.int .i64 0),(.int .i64 0),(.int .u64 0),.nilSlice] [(0,1,(.con (.int .i64 1))),(1,1,(.tmp 28))],none⟩,
  ⟨(some 30),.call 220 [(.tmp 23),(.tmp 29),(.con (.func (.func 341) [] []))],none⟩])
 .ret)
 .skip))
 (.seq (.ops [⟨(some 31),.mov (.tmp 0),none⟩,
  ⟨(some 32),.fieldAddr 1 (.tmp 4),none⟩,
  ⟨(some 33),.load false 1 (.tmp 32),none⟩,
  ⟨(some 34),.build [(.int .i64 0),(.bool false),(.int .i64 0),.nilSlice] [(1,1,(.con (.bool true))),(2,1,(.tmp 33))],none⟩,
  ⟨(some 35),.nilChk (.tmp 31),none⟩,
  ⟨(some 36),.fieldAddr 41 (.tmp 35),none⟩,
  ⟨none,.store 4 (.tmp 36) (.tmp 34),none⟩])
 (.ops [⟨(some 37),.mov (.tmp 0),none⟩,
  ⟨(some 38),.call 342 [(.tmp 37)],none⟩]))))))
def a319 : AFunc:=⟨2,c319,[]⟩
theorem k319 : cFunc Tryz.prog Tryz.f319=some a319:=by kernel_rfl
/- 320: (*tendril/put.Put).wrong -/
def c320 : ACode:=(.seq (.ops [⟨(some 4),.box (.tmp 1),none⟩,
  ⟨(some 6),.mov (.con (.bool false)),none⟩])
 (.seq (.block 0 (.seq (.ops [⟨(some 8),.fieldAddr 0 (.tmp 4),none⟩,
  ⟨(some 9),.load false 1 (.tmp 8),none⟩,
  ⟨(some 10),.bin .neq (.tmp 9) (.con (.int .i64 0)),none⟩,
  ⟨(some 7),.mov (.tmp 10),none⟩])
 (.cond (.tmp 7)
 (.ops [⟨(some 11),.mov (.tmp 0),none⟩,
  ⟨(some 12),.fieldAddr 0 (.tmp 4),none⟩,
  ⟨(some 13),.load false 1 (.tmp 12),none⟩,
  ⟨(some 14),.build [(.int .i64 0),(.bool false),(.int .i64 0),.nilSlice] [(0,1,(.tmp 13))],none⟩,
  ⟨(some 15),.call 311 [(.tmp 11),(.tmp 14)],none⟩])
 (.seq (.ops [⟨(some 17),.mov (.tmp 2),none⟩,
  ⟨(some 18),.un .not (.tmp 17),none⟩,
  ⟨(some 16),.mov (.tmp 18),none⟩])
 (.cond (.tmp 16)
 (.ops [⟨(some 19),.mov (.tmp 0),none⟩,
  ⟨(some 20),.build [(.int .i64 0),(.bool false),(.int .i64 0),.nilSlice] [(0,1,(.con (.int .i64 5)))],none⟩,
  ⟨(some 21),.call 311 [(.tmp 19),(.tmp 20)],none⟩])
 (.seq (.ops [⟨(some 6),.mov (.con (.bool false)),none⟩])
 .ret))))))
 (.seq (.ops [⟨(some 6),.mov (.con (.bool true)),none⟩])
 .ret)))
def a320 : AFunc:=⟨3,c320,[.tmp 6]⟩
theorem k320 : cFunc Tryz.prog Tryz.f320=some a320:=by kernel_rfl
/- 322: (*tendril/put.Put).place -/
def c322 : ACode:=(.seq (.ops [⟨(some 2),.mov (.tmp 0),none⟩,
  ⟨(some 3),.mov (.tmp 0),none⟩,
  ⟨(some 4),.nilChk (.tmp 3),none⟩,
  ⟨(some 5),.fieldAddr 32 (.tmp 4),none⟩,
  ⟨(some 6),.load false 1 (.tmp 5),none⟩,
  ⟨(some 7),.un .not (.tmp 6),none⟩,
  ⟨(some 8),.nilChk (.tmp 2),none⟩,
  ⟨(some 9),.fieldAddr 33 (.tmp 8),none⟩,
  ⟨none,.store 1 (.tmp 9) (.tmp 7),none⟩])
 (.ops [⟨(some 10),.mov (.tmp 0),none⟩,
  ⟨(some 11),.nilChk (.tmp 10),none⟩,
  ⟨(some 12),.fieldAddr 32 (.tmp 11),none⟩,
  ⟨none,.store 1 (.tmp 12) (.con (.bool true)),none⟩]))
def a322 : AFunc:=⟨1,c322,[]⟩
theorem k322 : cFunc Tryz.prog Tryz.f322=some a322:=by kernel_rfl
/- 323: (*tendril/put.Put).end -/
def c323 : ACode:=(.seq (.seq (.ops [⟨(some 2),.mov (.tmp 0),none⟩,
  ⟨(some 3),.nilChk (.tmp 2),none⟩,
  ⟨(some 4),.fieldAddr 6 (.tmp 3),none⟩,
  ⟨(some 5),.load false 1 (.tmp 4),none⟩])
 (.cond (.tmp 5)
 (.seq (.ops [⟨(some 6),.mov (.tmp 0),none⟩,
  ⟨(some 7),.build [(.int .i64 0),(.int .i64 0),(.int .i64 0),(.int .i64 0),(.int .u64 0),.nilSlice] [(0,1,(.con (.int .i64 15)))],none⟩,
  ⟨(some 8),.call 184 [(.tmp 6),(.tmp 7),(.con (.func (.func 343) [] []))],none⟩])
 .ret)
 .skip))
 (.ops [⟨(some 9),.mov (.tmp 0),none⟩,
  ⟨(some 10),.build [(.int .i64 0),(.int .i64 0),(.int .i64 0),(.int .i64 0),(.int .u64 0),.nilSlice] [(0,1,(.con (.int .i64 9)))],none⟩,
  ⟨(some 11),.call 184 [(.tmp 9),(.tmp 10),(.con (.func (.func 344) [] []))],none⟩]))
def a323 : AFunc:=⟨1,c323,[]⟩
theorem k323 : cFunc Tryz.prog Tryz.f323=some a323:=by kernel_rfl
/- 326: (*tendril/put.Put).leaf -/
def c326 : ACode:=(.seq (.ops [⟨(some 2),.new [(.int .i64 0),(.int .i64 0),(.int .i64 0),(.int .i64 0),(.int .u64 0),.nilSlice],none⟩])
 (.seq (.ops [⟨(some 3),.mov (.tmp 0),none⟩,
  ⟨(some 4),.nilChk (.tmp 3),none⟩,
  ⟨(some 5),.fieldAddr 0 (.tmp 4),none⟩,
  ⟨(some 6),.load false 1 (.tmp 5),none⟩,
  ⟨(some 7),.mov (.tmp 0),none⟩,
  ⟨(some 8),.nilChk (.tmp 7),none⟩,
  ⟨(some 9),.fieldAddr 2 (.tmp 8),none⟩,
  ⟨(some 10),.load false 1 (.tmp 9),none⟩,
  ⟨(some 11),.build [(.str []),(.int .i64 0)] [(0,1,(.tmp 6)),(1,1,(.tmp 10))],none⟩,
  ⟨(some 12),.call 305 [(.tmp 11)],none⟩,
  ⟨(some 13),.build [(.int .i64 0),(.int .i64 0),(.int .i64 0),(.int .i64 0),(.int .u64 0),.nilSlice] [(0,1,(.con (.int .i64 4))),(2,1,(.con (.int .i64 0))),(5,1,(.tmp 12))],none⟩,
  ⟨none,.store 6 (.tmp 2) (.tmp 13),none⟩])
 .ret))
def a326 : AFunc:=⟨1,c326,[.cell 2 true 6]⟩
theorem k326 : cFunc Tryz.prog Tryz.f326=some a326:=by kernel_rfl
/- 324: (*tendril/put.Put).build -/
def c324 : ACode:=(.seq (.ops [⟨(some 6),.mov (.tmp 0),none⟩,
  ⟨(some 7),.mov (.tmp 0),none⟩,
  ⟨(some 8),.mov (.tmp 1),none⟩,
  ⟨(some 9),.mov (.tmp 2),none⟩,
  ⟨(some 10),.nilChk (.tmp 6),none⟩,
  ⟨(some 11),.fieldAddr 14 (.tmp 10),none⟩,
  ⟨none,.store 1 (.tmp 11) (.tmp 8),none⟩,
  ⟨(some 12),.nilChk (.tmp 7),none⟩,
  ⟨(some 13),.fieldAddr 29 (.tmp 12),none⟩,
  ⟨none,.store 1 (.tmp 13) (.tmp 9),none⟩])
 (.ops [⟨(some 14),.mov (.tmp 0),none⟩,
  ⟨(some 15),.call 345 [(.tmp 14)],none⟩]))
def a324 : AFunc:=⟨3,c324,[]⟩
theorem k324 : cFunc Tryz.prog Tryz.f324=some a324:=by kernel_rfl
/- 331: (*tendril/put.Put).last -/
def c331 : ACode:=(.seq (.draw [.op ⟨(some 5),.mov (.tmp 0),none⟩,
  .op ⟨(some 6),.nilChk (.tmp 5),none⟩,
  .op ⟨(some 7),.fieldAddr 22 (.tmp 6),none⟩,
  .op ⟨(some 8),.fieldAddr 1 (.tmp 7),none⟩,
  .op ⟨(some 9),.load true 5 (.tmp 8),none⟩,
  .op ⟨(some 10),.mov (.tmp 0),none⟩,
  .op ⟨(some 11),.nilChk (.tmp 10),none⟩,
  .op ⟨(some 12),.fieldAddr 22 (.tmp 11),none⟩,
  .op ⟨(some 13),.fieldAddr 6 (.tmp 12),none⟩,
  .op ⟨(some 14),.load false 1 (.tmp 13),none⟩,
  .op ⟨(some 15),.mov (.tmp 0),none⟩,
  .op ⟨(some 16),.nilChk (.tmp 15),none⟩,
  .op ⟨(some 17),.fieldAddr 30 (.tmp 16),none⟩,
  .op ⟨(some 18),.load false 1 (.tmp 17),none⟩,
  .op ⟨(some 19),.mov (.tmp 0),none⟩,
  .op ⟨(some 20),.nilChk (.tmp 19),none⟩,
  .op ⟨(some 21),.fieldAddr 30 (.tmp 20),none⟩,
  .op ⟨(some 22),.load false 1 (.tmp 21),none⟩,
  .op ⟨(some 23),.lenSlice (.tmp 22),none⟩,
  .op ⟨(some 24),.bin .sub (.tmp 23) (.con (.int .i64 1)),none⟩,
  .op ⟨(some 25),.idxAddr 1 (.tmp 18) (.tmp 24),none⟩,
  .op ⟨(some 26),.load false 1 (.tmp 25),none⟩,
  .op ⟨(some 2),.new [(.int .i64 0),(.int .u64 0),(.str []),.nilSlice,.nilSlice],none⟩,
  .look ⟨(some 9),.load true 5 (.tmp 8),none⟩,
  .look ⟨(some 14),.load false 1 (.tmp 13),none⟩,
  .look ⟨(some 18),.load false 1 (.tmp 17),none⟩,
  .look ⟨(some 22),.load false 1 (.tmp 21),none⟩,
  .look ⟨(some 26),.load false 1 (.tmp 25),none⟩,
  .look ⟨(some 2),.new [(.int .i64 0),(.int .u64 0),(.str []),.nilSlice,.nilSlice],none⟩,
  .op ⟨(some 27),.call 334 [(.tmp 9),(.tmp 14),(.tmp 26)],none⟩,
  .op ⟨(some 4),.mov (.tmp 27),none⟩,
  .op ⟨(some 28),.extract (.tmp 4) 0,none⟩,
  .op ⟨(some 29),.extract (.tmp 4) 1,none⟩,
  .look ⟨(some 2),.new [(.int .i64 0),(.int .u64 0),(.str []),.nilSlice,.nilSlice],none⟩,
  .op ⟨none,.store 5 (.tmp 2) (.tmp 28),none⟩,
  .op ⟨(some 3),.mov (.tmp 29),none⟩])
 (.ops [⟨(some 30),.mov (.tmp 0),none⟩,
  ⟨(some 31),.load true 5 (.tmp 2),none⟩,
  ⟨(some 32),.call 348 [(.tmp 30),(.tmp 31)],none⟩]))
def a331 : AFunc:=⟨1,c331,[]⟩
theorem k331 : cFunc Tryz.prog Tryz.f331=some a331:=by kernel_rfl
/- 336: internal/stringslite.HasSuffix -/
def c336 : ACode:=(.seq (.ops [⟨(some 4),.mov (.con (.bool false)),none⟩])
 (.seq (.ops [⟨(some 5),.mov (.tmp 0),none⟩,
  ⟨(some 6),.lenStr (.tmp 5),none⟩,
  ⟨(some 7),.mov (.tmp 1),none⟩,
  ⟨(some 8),.lenStr (.tmp 7),none⟩,
  ⟨(some 9),.bin .geq (.tmp 6) (.tmp 8),none⟩,
  ⟨(some 10),.mov (.tmp 9),none⟩,
  ⟨(some 11),.mov (.tmp 0),(some (10,true))⟩,
  ⟨(some 12),.mov (.tmp 0),(some (10,true))⟩,
  ⟨(some 13),.lenStr (.tmp 12),(some (10,true))⟩,
  ⟨(some 14),.mov (.tmp 1),(some (10,true))⟩,
  ⟨(some 15),.lenStr (.tmp 14),(some (10,true))⟩,
  ⟨(some 16),.bin .sub (.tmp 13) (.tmp 15),(some (10,true))⟩,
  ⟨(some 17),.slcStr (.tmp 11) (some (.tmp 16)) none,(some (10,true))⟩,
  ⟨(some 18),.mov (.tmp 1),(some (10,true))⟩,
  ⟨(some 19),.bin .eql (.tmp 17) (.tmp 18),(some (10,true))⟩,
  ⟨(some 20),.pick (.tmp 10) (.tmp 19) (.con (.bool false)),none⟩,
  ⟨(some 4),.mov (.tmp 20),none⟩])
 .ret))
def a336 : AFunc:=⟨2,c336,[.tmp 4]⟩
theorem k336 : cFunc Tryz.prog Tryz.f336=some a336:=by kernel_rfl
/- 337: (*tendril/drop.Drop).wrong -/
def c337 : ACode:=(.seq (.ops [⟨(some 4),.box (.tmp 1),none⟩,
  ⟨(some 6),.mov (.con (.bool false)),none⟩])
 (.seq (.block 0 (.seq (.ops [⟨(some 8),.fieldAddr 0 (.tmp 4),none⟩,
  ⟨(some 9),.load false 1 (.tmp 8),none⟩,
  ⟨(some 10),.bin .neq (.tmp 9) (.con (.int .i64 0)),none⟩,
  ⟨(some 7),.mov (.tmp 10),none⟩])
 (.cond (.tmp 7)
 (.ops [⟨(some 11),.mov (.tmp 0),none⟩,
  ⟨(some 12),.fieldAddr 0 (.tmp 4),none⟩,
  ⟨(some 13),.load false 1 (.tmp 12),none⟩,
  ⟨(some 14),.build [(.int .i64 0),(.bool false),(.int .i64 0),.nilSlice] [(0,1,(.tmp 13))],none⟩,
  ⟨(some 15),.call 318 [(.tmp 11),(.tmp 14)],none⟩])
 (.seq (.ops [⟨(some 17),.mov (.tmp 2),none⟩,
  ⟨(some 18),.un .not (.tmp 17),none⟩,
  ⟨(some 16),.mov (.tmp 18),none⟩])
 (.cond (.tmp 16)
 (.ops [⟨(some 19),.mov (.tmp 0),none⟩,
  ⟨(some 20),.build [(.int .i64 0),(.bool false),(.int .i64 0),.nilSlice] [(0,1,(.con (.int .i64 5)))],none⟩,
  ⟨(some 21),.call 318 [(.tmp 19),(.tmp 20)],none⟩])
 (.seq (.ops [⟨(some 6),.mov (.con (.bool false)),none⟩])
 .ret))))))
 (.seq (.ops [⟨(some 6),.mov (.con (.bool true)),none⟩])
 .ret)))
def a337 : AFunc:=⟨3,c337,[.tmp 6]⟩
theorem k337 : cFunc Tryz.prog Tryz.f337=some a337:=by kernel_rfl
/- 339: (*tendril/drop.Drop).place -/
def c339 : ACode:=(.seq (.ops [⟨(some 2),.mov (.tmp 0),none⟩,
  ⟨(some 3),.mov (.tmp 0),none⟩,
  ⟨(some 4),.nilChk (.tmp 3),none⟩,
  ⟨(some 5),.fieldAddr 39 (.tmp 4),none⟩,
  ⟨(some 6),.load false 1 (.tmp 5),none⟩,
  ⟨(some 7),.un .not (.tmp 6),none⟩,
  ⟨(some 8),.nilChk (.tmp 2),none⟩,
  ⟨(some 9),.fieldAddr 40 (.tmp 8),none⟩,
  ⟨none,.store 1 (.tmp 9) (.tmp 7),none⟩])
 (.ops [⟨(some 10),.mov (.tmp 0),none⟩,
  ⟨(some 11),.nilChk (.tmp 10),none⟩,
  ⟨(some 12),.fieldAddr 39 (.tmp 11),none⟩,
  ⟨none,.store 1 (.tmp 12) (.con (.bool true)),none⟩]))
def a339 : AFunc:=⟨1,c339,[]⟩
theorem k339 : cFunc Tryz.prog Tryz.f339=some a339:=by kernel_rfl
/- 340: (*tendril/drop.Drop).end -/
def c340 : ACode:=(.seq (.seq (.ops [⟨(some 2),.mov (.tmp 0),none⟩,
  ⟨(some 3),.nilChk (.tmp 2),none⟩,
  ⟨(some 4),.fieldAddr 5 (.tmp 3),none⟩,
  ⟨(some 5),.load false 1 (.tmp 4),none⟩])
 (.cond (.tmp 5)
 (.seq (.ops [⟨(some 6),.mov (.tmp 0),none⟩,
  ⟨(some 7),.build [(.int .i64 0),(.int .i64 0),(.int .i64 0),(.int .i64 0),(.int .u64 0),.nilSlice] [(0,1,(.con (.int .i64 15)))],none⟩,
  ⟨(some 8),.call 220 [(.tmp 6),(.tmp 7),(.con (.func (.func 352) [] []))],none⟩])
 .ret)
 .skip))
 (.ops [⟨(some 9),.mov (.tmp 0),none⟩,
  ⟨(some 10),.build [(.int .i64 0),(.int .i64 0),(.int .i64 0),(.int .i64 0),(.int .u64 0),.nilSlice] [(0,1,(.con (.int .i64 9)))],none⟩,
  ⟨(some 11),.call 220 [(.tmp 9),(.tmp 10),(.con (.func (.func 353) [] []))],none⟩]))
def a340 : AFunc:=⟨1,c340,[]⟩
theorem k340 : cFunc Tryz.prog Tryz.f340=some a340:=by kernel_rfl
/- 342: (*tendril/drop.Drop).out -/
def c342 : ACode:=(.seq (.ops [⟨(some 10),.mov (.tmp 0),none⟩,
  ⟨(some 11),.nilChk (.tmp 10),none⟩,
  ⟨(some 12),.fieldAddr 21 (.tmp 11),none⟩,
  ⟨(some 13),.fieldAddr 1 (.tmp 12),none⟩,
  ⟨(some 14),.load true 5 (.tmp 13),none⟩,
  ⟨(some 2),.new [(.int .i64 0),(.int .u64 0),(.str []),.nilSlice,.nilSlice],none⟩,
  ⟨none,.store 5 (.tmp 2) (.tmp 14),none⟩])
 (.seq (.draw [.op ⟨(some 16),.load true 5 (.tmp 2),none⟩,
  .op ⟨(some 17),.mov (.tmp 0),none⟩,
  .op ⟨(some 18),.nilChk (.tmp 17),none⟩,
  .op ⟨(some 19),.fieldAddr 21 (.tmp 18),none⟩,
  .op ⟨(some 20),.fieldAddr 6 (.tmp 19),none⟩,
  .op ⟨(some 21),.load false 1 (.tmp 20),none⟩,
  .op ⟨(some 3),.new [(.int .i64 0),(.int .u64 0),(.str []),.nilSlice,.nilSlice],none⟩,
  .look ⟨(some 16),.load true 5 (.tmp 2),none⟩,
  .look ⟨(some 21),.load false 1 (.tmp 20),none⟩,
  .look ⟨(some 3),.new [(.int .i64 0),(.int .u64 0),(.str []),.nilSlice,.nilSlice],none⟩,
  .op ⟨(some 22),.call 354 [(.tmp 16),(.tmp 21)],none⟩,
  .op ⟨(some 15),.mov (.tmp 22),none⟩,
  .op ⟨(some 23),.extract (.tmp 15) 0,none⟩,
  .op ⟨(some 24),.extract (.tmp 15) 1,none⟩,
  .look ⟨(some 3),.new [(.int .i64 0),(.int .u64 0),(.str []),.nilSlice,.nilSlice],none⟩,
  .op ⟨none,.store 5 (.tmp 3) (.tmp 23),none⟩,
  .op ⟨(some 4),.mov (.tmp 24),none⟩])
 (.seq (.ops [⟨(some 25),.fieldAddr 3 (.tmp 3),none⟩,
  ⟨(some 26),.load false 1 (.tmp 25),none⟩,
  ⟨(some 27),.lenSlice (.tmp 26),none⟩,
  ⟨(some 5),.mov (.tmp 27),none⟩])
 (.seq (.block 0 (.seq (.ops [⟨(some 29),.mov (.tmp 0),none⟩,
  ⟨(some 30),.nilChk (.tmp 29),none⟩,
  ⟨(some 31),.fieldAddr 21 (.tmp 30),none⟩,
  ⟨(some 32),.fieldAddr 0 (.tmp 31),none⟩,
  ⟨(some 33),.load false 1 (.tmp 32),none⟩,
  ⟨(some 34),.mov (.tmp 0),none⟩,
  ⟨(some 35),.nilChk (.tmp 34),none⟩,
  ⟨(some 36),.fieldAddr 2 (.tmp 35),none⟩,
  ⟨(some 37),.load false 1 (.tmp 36),none⟩,
  ⟨(some 38),.bin .eql (.tmp 33) (.tmp 37),none⟩,
  ⟨(some 39),.mov (.tmp 38),none⟩,
  ⟨(some 40),.mov (.tmp 5),(some (39,false))⟩,
  ⟨(some 41),.fieldAddr 0 (.tmp 2),(some (39,false))⟩,
  ⟨(some 42),.load false 1 (.tmp 41),(some (39,false))⟩,
  ⟨(some 43),.call 355 [(.tmp 42)],(some (39,false))⟩,
  ⟨(some 44),.bin .geq (.tmp 40) (.tmp 43),(some (39,false))⟩,
  ⟨(some 45),.pick (.tmp 39) (.con (.bool true)) (.tmp 44),none⟩,
  ⟨(some 28),.mov (.tmp 45),none⟩])
 (.cond (.tmp 28)
 (.seq (.ops [⟨(some 46),.mov (.tmp 0),none⟩,
  ⟨(some 47),.mov (.tmp 0),none⟩,
  ⟨(some 48),.nilChk (.tmp 47),none⟩,
  ⟨(some 49),.fieldAddr 35 (.tmp 48),none⟩,
  ⟨(some 50),.load false 1 (.tmp 49),none⟩,
  ⟨(some 51),.buildSlice 1 1 [(.int .i64 0)] [(0,1,(.tmp 50))],none⟩,
  ⟨(some 52),.nilChk (.tmp 46),none⟩,
  ⟨(some 53),.fieldAddr 38 (.tmp 52),none⟩,
  ⟨none,.store 1 (.tmp 53) (.tmp 51),none⟩])
 (.seq (.ops [⟨(some 54),.mov (.tmp 0),none⟩,
  ⟨(some 55),.load true 5 (.tmp 3),none⟩,
  ⟨(some 56),.call 356 [(.tmp 54),(.tmp 55)],none⟩])
 .ret))
 (.seq (.ops [⟨(some 58),.mov (.tmp 5),none⟩,
  ⟨(some 59),.bin .geq (.tmp 58) (.con (.int .i64 2)),none⟩,
  ⟨(some 57),.mov (.tmp 59),none⟩])
 (.cond (.tmp 57)
 (.seq (.draw [.op ⟨(some 60),.mov (.tmp 0),none⟩,
  .op ⟨(some 61),.mov (.tmp 0),none⟩,
  .op ⟨(some 62),.nilChk (.tmp 61),none⟩,
  .op ⟨(some 63),.fieldAddr 21 (.tmp 62),none⟩,
  .op ⟨(some 64),.fieldAddr 0 (.tmp 63),none⟩,
  .op ⟨(some 65),.load false 1 (.tmp 64),none⟩,
  .op ⟨(some 66),.mov (.tmp 0),none⟩,
  .op ⟨(some 67),.nilChk (.tmp 66),none⟩,
  .op ⟨(some 68),.fieldAddr 35 (.tmp 67),none⟩,
  .op ⟨(some 69),.load false 1 (.tmp 68),none⟩,
  .op ⟨(some 70),.buildSlice 1 2 [(.int .i64 0),(.int .i64 0)] [(0,1,(.tmp 65)),(1,1,(.tmp 69))],none⟩,
  .op ⟨(some 71),.nilChk (.tmp 60),none⟩,
  .op ⟨(some 72),.fieldAddr 38 (.tmp 71),none⟩,
  .look ⟨(some 65),.load false 1 (.tmp 64),none⟩,
  .look ⟨(some 69),.load false 1 (.tmp 68),none⟩,
  .look ⟨(some 70),.buildSlice 1 2 [(.int .i64 0),(.int .i64 0)] [(0,1,(.tmp 65)),(1,1,(.tmp 69))],none⟩,
  .op ⟨none,.store 1 (.tmp 72) (.tmp 70),none⟩])
 (.seq (.ops [⟨(some 73),.mov (.tmp 0),none⟩,
  ⟨(some 74),.mkFunc (.func 360) [] [(.tmp 3),(.tmp 2)],none⟩,
  ⟨(some 75),.call 359 [(.tmp 74)],none⟩,
  ⟨(some 76),.buildSlice 1 1 [.nilFunc] [(0,1,(.tmp 75))],none⟩,
  ⟨(some 77),.call 357 [(.tmp 73),(.con (.func (.func 358) [] [])),(.tmp 76)],none⟩])
 .ret))
 (.seq (.ops [⟨(some 79),.mov (.tmp 5),none⟩,
  ⟨(some 80),.bin .eql (.tmp 79) (.con (.int .i64 0)),none⟩,
  ⟨(some 78),.mov (.tmp 80),none⟩])
 (.cond (.tmp 78)
 (.seq (.ops [⟨(some 81),.mov (.tmp 0),none⟩,
  ⟨(some 82),.build [(.int .i64 0),(.bool false),(.int .i64 0),.nilSlice] [(0,1,(.con (.int .i64 5)))],none⟩,
  ⟨(some 83),.call 318 [(.tmp 81),(.tmp 82)],none⟩])
 .ret)
 .skip)))))))
 (.seq (.draw [.op ⟨(some 84),.mov (.tmp 0),none⟩,
  .op ⟨(some 85),.mov (.tmp 0),none⟩,
  .op ⟨(some 86),.nilChk (.tmp 85),none⟩,
  .op ⟨(some 87),.fieldAddr 21 (.tmp 86),none⟩,
  .op ⟨(some 88),.fieldAddr 0 (.tmp 87),none⟩,
  .op ⟨(some 89),.load false 1 (.tmp 88),none⟩,
  .op ⟨(some 90),.mov (.tmp 0),none⟩,
  .op ⟨(some 91),.nilChk (.tmp 90),none⟩,
  .op ⟨(some 92),.fieldAddr 35 (.tmp 91),none⟩,
  .op ⟨(some 93),.load false 1 (.tmp 92),none⟩,
  .op ⟨(some 94),.buildSlice 1 2 [(.int .i64 0),(.int .i64 0)] [(0,1,(.tmp 89)),(1,1,(.tmp 93))],none⟩,
  .op ⟨(some 95),.nilChk (.tmp 84),none⟩,
  .op ⟨(some 96),.fieldAddr 38 (.tmp 95),none⟩,
  .look ⟨(some 89),.load false 1 (.tmp 88),none⟩,
  .look ⟨(some 93),.load false 1 (.tmp 92),none⟩,
  .look ⟨(some 94),.buildSlice 1 2 [(.int .i64 0),(.int .i64 0)] [(0,1,(.tmp 89)),(1,1,(.tmp 93))],none⟩,
  .op ⟨none,.store 1 (.tmp 96) (.tmp 94),none⟩])
 (.seq (.ops [⟨(some 97),.mov (.tmp 0),none⟩,
  ⟨(some 98),.fieldAddr 4 (.tmp 3),none⟩,
  ⟨(some 99),.load false 1 (.tmp 98),none⟩,
  ⟨(some 100),.idxAddr 1 (.tmp 99) (.con (.int .i64 0)),none⟩,
  ⟨(some 101),.load false 1 (.tmp 100),none⟩,
  ⟨(some 102),.fieldAddr 3 (.tmp 3),none⟩,
  ⟨(some 103),.load false 1 (.tmp 102),none⟩,
  ⟨(some 104),.idxAddr 1 (.tmp 103) (.con (.int .i64 0)),none⟩,
  ⟨(some 105),.load false 1 (.tmp 104),none⟩,
  ⟨(some 106),.build [(.int .i64 0),(.int .i64 0),(.int .u64 0),(.str []),.nilSlice,.nilSlice,(.int .u8 0)] [(0,1,(.tmp 101)),(6,1,(.tmp 105))],none⟩,
  ⟨(some 107),.nilChk (.tmp 97),none⟩,
  ⟨(some 108),.fieldAddr 28 (.tmp 107),none⟩,
  ⟨none,.store 7 (.tmp 108) (.tmp 106),none⟩])
 (.seq (.seq (.ops [⟨(some 110),.mov (.tmp 0),none⟩,
  ⟨(some 111),.nilChk (.tmp 110),none⟩,
  ⟨(some 112),.fieldAddr 28 (.tmp 111),none⟩,
  ⟨(some 113),.fieldAddr 0 (.tmp 112),none⟩,
  ⟨(some 114),.load false 1 (.tmp 113),none⟩,
  ⟨(some 115),.call 204 [(.tmp 114)],none⟩,
  ⟨(some 109),.mov (.tmp 115),none⟩,
  ⟨(some 116),.extract (.tmp 109) 0,none⟩,
  ⟨(some 117),.extract (.tmp 109) 1,none⟩,
  ⟨(some 118),.extract (.tmp 109) 2,none⟩,
  ⟨(some 119),.extract (.tmp 109) 3,none⟩,
  ⟨(some 6),.mov (.tmp 116),none⟩,
  ⟨(some 7),.mov (.tmp 117),none⟩,
  ⟨(some 8),.mov (.tmp 118),none⟩,
  ⟨(some 9),.mov (.tmp 119),none⟩])
 (.seq (.ops [⟨(some 120),.mov (.tmp 8),none⟩])
 (.cond (.tmp 120)
 (.seq (.ops [⟨(some 121),.mov (.tmp 0),none⟩,
  ⟨(some 122),.call 358 [(.tmp 121)],none⟩])
 .ret)
 .skip)))
 (.ops [⟨(some 123),.mov (.tmp 0),none⟩,
  ⟨(some 124),.mov (.tmp 0),none⟩,
  ⟨(some 125),.nilChk (.tmp 124),none⟩,
  ⟨(some 126),.fieldAddr 28 (.tmp 125),none⟩,
  ⟨(some 127),.fieldAddr 0 (.tmp 126),none⟩,
  ⟨(some 128),.load false 1 (.tmp 127),none⟩,
  ⟨(some 129),.build [(.int .i64 0),(.int .i64 0),(.int .i64 0),(.int .i64 0),(.int .u64 0),.nilSlice] [(0,1,(.con (.int .i64 1))),(1,1,(.tmp 128))],none⟩,
  ⟨(some 130),.call 220 [(.tmp 123),(.tmp 129),(.con (.func (.func 361) [] []))],none⟩]))))))))
def a342 : AFunc:=⟨1,c342,[]⟩
theorem k342 : cFunc Tryz.prog Tryz.f342=some a342:=by kernel_rfl
/- 344: (*tendril/put.Put).atUnpin -/
def c344 : ACode:=(.seq (.ops [⟨(some 3),.box (.tmp 1),none⟩])
 (.ops [⟨(some 4),.mov (.tmp 0),none⟩,
  ⟨(some 5),.build [(.int .i64 0),(.int .i64 0),(.int .i64 0),(.int .i64 0),(.int .u64 0),.nilSlice] [],none⟩,
  ⟨(some 6),.call 184 [(.tmp 4),(.tmp 5),(.con .nilFunc)],none⟩]))
def a344 : AFunc:=⟨2,c344,[]⟩
theorem k344 : cFunc Tryz.prog Tryz.f344=some a344:=by kernel_rfl
/- 345: (*tendril/put.Put).more -/
def c345 : ACode:=(.seq (.seq (.ops [⟨(some 2),.mov (.tmp 0),none⟩,
  ⟨(some 3),.nilChk (.tmp 2),none⟩,
  ⟨(some 4),.fieldAddr 30 (.tmp 3),none⟩,
  ⟨(some 5),.load false 1 (.tmp 4),none⟩,
  ⟨(some 6),.lenSlice (.tmp 5),none⟩,
  ⟨(some 7),.mov (.tmp 0),none⟩,
  ⟨(some 8),.nilChk (.tmp 7),none⟩,
  ⟨(some 9),.fieldAddr 29 (.tmp 8),none⟩,
  ⟨(some 10),.load false 1 (.tmp 9),none⟩,
  ⟨(some 11),.lenSlice (.tmp 10),none⟩,
  ⟨(some 12),.bin .eql (.tmp 6) (.tmp 11),none⟩])
 (.cond (.tmp 12)
 (.seq (.ops [⟨(some 13),.mov (.tmp 0),none⟩,
  ⟨(some 14),.nilChk (.tmp 13),none⟩,
  ⟨(some 15),.fieldAddr 14 (.tmp 14),none⟩,
  ⟨(some 16),.load false 1 (.tmp 15),none⟩,
  ⟨(some 17),.mov (.tmp 0),none⟩,
  ⟨(some 18),.callV (.tmp 16) [(.tmp 17)],none⟩])
 .ret)
 .skip))
 (.ops [⟨(some 19),.mov (.tmp 0),none⟩,
  ⟨(some 20),.mov (.tmp 0),none⟩,
  ⟨(some 21),.nilChk (.tmp 20),none⟩,
  ⟨(some 22),.fieldAddr 29 (.tmp 21),none⟩,
  ⟨(some 23),.load false 1 (.tmp 22),none⟩,
  ⟨(some 24),.mov (.tmp 0),none⟩,
  ⟨(some 25),.nilChk (.tmp 24),none⟩,
  ⟨(some 26),.fieldAddr 30 (.tmp 25),none⟩,
  ⟨(some 27),.load false 1 (.tmp 26),none⟩,
  ⟨(some 28),.lenSlice (.tmp 27),none⟩,
  ⟨(some 29),.idxAddr 1 (.tmp 23) (.tmp 28),none⟩,
  ⟨(some 30),.load false 1 (.tmp 29),none⟩,
  ⟨(some 31),.callV (.tmp 30) [],none⟩,
  ⟨(some 32),.call 184 [(.tmp 19),(.tmp 31),(.con (.func (.func 362) [] []))],none⟩]))
def a345 : AFunc:=⟨1,c345,[]⟩
theorem k345 : cFunc Tryz.prog Tryz.f345=some a345:=by kernel_rfl
/- 334: tendril/node.With -/
def c334 : ACode:=(.seq (.ops [⟨(some 3),.box (.tmp 0),none⟩,
  ⟨(some 6),.new [(.int .i64 0),(.int .u64 0),(.str []),.nilSlice,.nilSlice],none⟩,
  ⟨(some 7),.mov (.con (.bool false)),none⟩])
 (.seq (.seq (.ops [⟨(some 10),.load true 5 (.tmp 3),none⟩,
  ⟨(some 11),.call 128 [(.tmp 10)],none⟩,
  ⟨(some 12),.un .not (.tmp 11),none⟩,
  ⟨(some 13),.mov (.tmp 12),none⟩,
  ⟨(some 14),.mov (.tmp 2),(some (13,false))⟩,
  ⟨(some 15),.call 179 [(.tmp 14)],(some (13,false))⟩,
  ⟨(some 16),.un .not (.tmp 15),(some (13,false))⟩,
  ⟨(some 17),.pick (.tmp 13) (.con (.bool true)) (.tmp 16),none⟩])
 (.cond (.tmp 17)
 (.seq (.ops [⟨(some 18),.build [(.int .i64 0),(.int .u64 0),(.str []),.nilSlice,.nilSlice] [],none⟩,
  ⟨none,.store 5 (.tmp 6) (.tmp 18),none⟩,
  ⟨(some 7),.mov (.con (.bool false)),none⟩])
 .ret)
 .skip))
 (.seq (.draw [.op ⟨(some 19),.fieldAddr 3 (.tmp 3),none⟩,
  .op ⟨(some 20),.load false 1 (.tmp 19),none⟩,
  .op ⟨(some 22),.fieldAddr 4 (.tmp 3),none⟩,
  .op ⟨(some 23),.load false 1 (.tmp 22),none⟩,
  .op ⟨(some 21),.call 349 [(.tmp 20)],none⟩,
  .op ⟨(some 25),.fieldAddr 3 (.tmp 3),none⟩,
  .look ⟨(some 23),.load false 1 (.tmp 22),none⟩,
  .op ⟨(some 24),.call 143 [(.tmp 23)],none⟩,
  .op ⟨none,.store 1 (.tmp 25) (.tmp 21),none⟩,
  .op ⟨(some 26),.fieldAddr 4 (.tmp 3),none⟩,
  .op ⟨none,.store 1 (.tmp 26) (.tmp 24),none⟩])
 (.seq (.ops [⟨(some 28),.fieldAddr 3 (.tmp 3),none⟩,
  ⟨(some 29),.load false 1 (.tmp 28),none⟩,
  ⟨(some 30),.mov (.tmp 1),none⟩,
  ⟨(some 31),.call 350 [(.tmp 29),(.tmp 30)],none⟩,
  ⟨(some 27),.mov (.tmp 31),none⟩,
  ⟨(some 32),.extract (.tmp 27) 0,none⟩,
  ⟨(some 33),.extract (.tmp 27) 1,none⟩,
  ⟨(some 8),.mov (.tmp 32),none⟩,
  ⟨(some 9),.mov (.tmp 33),none⟩])
 (.seq (.seq (.ops [⟨(some 34),.mov (.tmp 9),none⟩])
 (.cond (.tmp 34)
 (.seq (.ops [⟨(some 35),.fieldAddr 4 (.tmp 3),none⟩,
  ⟨(some 36),.load false 1 (.tmp 35),none⟩,
  ⟨(some 37),.mov (.tmp 8),none⟩,
  ⟨(some 38),.mov (.tmp 2),none⟩,
  ⟨(some 39),.idxAddr 1 (.tmp 36) (.tmp 37),none⟩,
  ⟨none,.store 1 (.tmp 39) (.tmp 38),none⟩])
 (.seq (.ops [⟨(some 40),.load true 5 (.tmp 3),none⟩,
  ⟨none,.store 5 (.tmp 6) (.tmp 40),none⟩,
  ⟨(some 7),.mov (.con (.bool true)),none⟩])
 .ret))
 .skip))
 (.seq (.seq (.draw [.op ⟨(some 41),.fieldAddr 3 (.tmp 3),none⟩,
  .op ⟨(some 42),.load false 1 (.tmp 41),none⟩,
  .op ⟨(some 43),.lenSlice (.tmp 42),none⟩,
  .op ⟨(some 44),.fieldAddr 0 (.tmp 3),none⟩,
  .op ⟨(some 45),.load false 1 (.tmp 44),none⟩,
  .op ⟨(some 46),.call 177 [(.tmp 45)],none⟩,
  .op ⟨(some 47),.bin .geq (.tmp 43) (.tmp 46),none⟩,
  .look ⟨(some 42),.load false 1 (.tmp 41),none⟩])
 (.cond (.tmp 47)
 (.seq (.ops [⟨(some 48),.build [(.int .i64 0),(.int .u64 0),(.str []),.nilSlice,.nilSlice] [],none⟩,
  ⟨none,.store 5 (.tmp 6) (.tmp 48),none⟩,
  ⟨(some 7),.mov (.con (.bool false)),none⟩])
 .ret)
 .skip))
 (.seq (.draw [.op ⟨(some 49),.fieldAddr 3 (.tmp 3),none⟩,
  .op ⟨(some 50),.load false 1 (.tmp 49),none⟩,
  .op ⟨(some 51),.mov (.tmp 8),none⟩,
  .op ⟨(some 52),.mov (.tmp 1),none⟩,
  .op ⟨(some 53),.buildSlice 1 1 [(.int .u8 0)] [(0,1,(.tmp 52))],none⟩,
  .op ⟨(some 55),.fieldAddr 4 (.tmp 3),none⟩,
  .op ⟨(some 56),.load false 1 (.tmp 55),none⟩,
  .op ⟨(some 57),.mov (.tmp 8),none⟩,
  .op ⟨(some 58),.mov (.tmp 2),none⟩,
  .op ⟨(some 59),.buildSlice 1 1 [(.int .i64 0)] [(0,1,(.tmp 58))],none⟩,
  .look ⟨(some 50),.load false 1 (.tmp 49),none⟩,
  .look ⟨(some 53),.buildSlice 1 1 [(.int .u8 0)] [(0,1,(.tmp 52))],none⟩,
  .look ⟨(some 56),.load false 1 (.tmp 55),none⟩,
  .look ⟨(some 59),.buildSlice 1 1 [(.int .i64 0)] [(0,1,(.tmp 58))],none⟩,
  .op ⟨(some 54),.call 351 [(.tmp 50),(.tmp 51),(.tmp 53)],none⟩,
  .op ⟨(some 61),.fieldAddr 3 (.tmp 3),none⟩,
  .look ⟨(some 56),.load false 1 (.tmp 55),none⟩,
  .look ⟨(some 59),.buildSlice 1 1 [(.int .i64 0)] [(0,1,(.tmp 58))],none⟩,
  .op ⟨(some 60),.call 142 [(.tmp 56),(.tmp 57),(.tmp 59)],none⟩,
  .op ⟨none,.store 1 (.tmp 61) (.tmp 54),none⟩,
  .op ⟨(some 62),.fieldAddr 4 (.tmp 3),none⟩,
  .op ⟨none,.store 1 (.tmp 62) (.tmp 60),none⟩])
 (.seq (.ops [⟨(some 63),.load true 5 (.tmp 3),none⟩,
  ⟨none,.store 5 (.tmp 6) (.tmp 63),none⟩,
  ⟨(some 7),.mov (.con (.bool true)),none⟩])
 .ret))))))))
def a334 : AFunc:=⟨3,c334,[.cell 6 true 5,.tmp 7]⟩
theorem k334 : cFunc Tryz.prog Tryz.f334=some a334:=by kernel_rfl
/- 348: (*tendril/put.Put).change -/
def c348 : ACode:=(.seq (.ops [⟨(some 3),.box (.tmp 1),none⟩])
 (.seq (.ops [⟨(some 4),.mov (.tmp 0),none⟩,
  ⟨(some 5),.nilChk (.tmp 4),none⟩,
  ⟨(some 6),.fieldAddr 22 (.tmp 5),none⟩,
  ⟨(some 7),.fieldAddr 1 (.tmp 6),none⟩,
  ⟨(some 8),.fieldAddr 1 (.tmp 7),none⟩,
  ⟨(some 9),.load false 1 (.tmp 8),none⟩,
  ⟨(some 10),.call 365 [(.tmp 9)],none⟩,
  ⟨(some 11),.fieldAddr 1 (.tmp 3),none⟩,
  ⟨none,.store 1 (.tmp 11) (.tmp 10),none⟩])
 (.draw [.op ⟨(some 12),.mov (.tmp 0),none⟩,
  .op ⟨(some 13),.mov (.tmp 0),none⟩,
  .op ⟨(some 14),.nilChk (.tmp 13),none⟩,
  .op ⟨(some 15),.fieldAddr 22 (.tmp 14),none⟩,
  .op ⟨(some 16),.fieldAddr 0 (.tmp 15),none⟩,
  .op ⟨(some 17),.load false 1 (.tmp 16),none⟩,
  .op ⟨(some 18),.mov (.tmp 0),none⟩,
  .op ⟨(some 19),.nilChk (.tmp 18),none⟩,
  .op ⟨(some 20),.fieldAddr 22 (.tmp 19),none⟩,
  .op ⟨(some 21),.fieldAddr 1 (.tmp 20),none⟩,
  .op ⟨(some 22),.fieldAddr 1 (.tmp 21),none⟩,
  .op ⟨(some 23),.load false 1 (.tmp 22),none⟩,
  .op ⟨(some 24),.load true 5 (.tmp 3),none⟩,
  .op ⟨(some 25),.call 85 [(.tmp 24)],none⟩,
  .op ⟨(some 26),.build [(.int .i64 0),(.int .i64 0),(.int .i64 0),(.int .i64 0),(.int .u64 0),.nilSlice] [(0,1,(.con (.int .i64 2))),(1,1,(.tmp 17)),(4,1,(.tmp 23)),(5,1,(.tmp 25))],none⟩,
  .look ⟨(some 17),.load false 1 (.tmp 16),none⟩,
  .look ⟨(some 23),.load false 1 (.tmp 22),none⟩,
  .op ⟨(some 27),.call 184 [(.tmp 12),(.tmp 26),(.con (.func (.func 366) [] []))],none⟩])))
def a348 : AFunc:=⟨2,c348,[]⟩
theorem k348 : cFunc Tryz.prog Tryz.f348=some a348:=by kernel_rfl
/- 353: (*tendril/drop.Drop).atUnpin -/
def c353 : ACode:=(.seq (.ops [⟨(some 3),.box (.tmp 1),none⟩])
 (.ops [⟨(some 4),.mov (.tmp 0),none⟩,
  ⟨(some 5),.build [(.int .i64 0),(.int .i64 0),(.int .i64 0),(.int .i64 0),(.int .u64 0),.nilSlice] [],none⟩,
  ⟨(some 6),.call 220 [(.tmp 4),(.tmp 5),(.con .nilFunc)],none⟩]))
def a353 : AFunc:=⟨2,c353,[]⟩
theorem k353 : cFunc Tryz.prog Tryz.f353=some a353:=by kernel_rfl
/- 354: tendril/node.Without -/
def c354 : ACode:=(.seq (.ops [⟨(some 2),.box (.tmp 0),none⟩,
  ⟨(some 4),.new [(.int .i64 0),(.int .u64 0),(.str []),.nilSlice,.nilSlice],none⟩,
  ⟨(some 5),.mov (.con (.bool false)),none⟩])
 (.seq (.ops [⟨(some 7),.load true 5 (.tmp 2),none⟩,
  ⟨(some 8),.mov (.tmp 1),none⟩,
  ⟨(some 9),.call 309 [(.tmp 7),(.tmp 8)],none⟩,
  ⟨(some 6),.mov (.tmp 9),none⟩])
 (.seq (.seq (.ops [⟨(some 10),.load true 5 (.tmp 2),none⟩,
  ⟨(some 11),.call 128 [(.tmp 10)],none⟩,
  ⟨(some 12),.un .not (.tmp 11),none⟩,
  ⟨(some 13),.mov (.tmp 12),none⟩,
  ⟨(some 14),.mov (.tmp 6),(some (13,false))⟩,
  ⟨(some 15),.bin .lss (.tmp 14) (.con (.int .i64 0)),(some (13,false))⟩,
  ⟨(some 16),.pick (.tmp 13) (.con (.bool true)) (.tmp 15),none⟩])
 (.cond (.tmp 16)
 (.seq (.ops [⟨(some 17),.build [(.int .i64 0),(.int .u64 0),(.str []),.nilSlice,.nilSlice] [],none⟩,
  ⟨none,.store 5 (.tmp 4) (.tmp 17),none⟩,
  ⟨(some 5),.mov (.con (.bool false)),none⟩])
 .ret)
 .skip))
 (.seq (.draw [.op ⟨(some 18),.fieldAddr 3 (.tmp 2),none⟩,
  .op ⟨(some 19),.load false 1 (.tmp 18),none⟩,
  .op ⟨(some 20),.mov (.tmp 6),none⟩,
  .op ⟨(some 21),.slc 1 (.tmp 19) none (some (.tmp 20)) none,none⟩,
  .op ⟨(some 22),.fieldAddr 3 (.tmp 2),none⟩,
  .op ⟨(some 23),.load false 1 (.tmp 22),none⟩,
  .op ⟨(some 24),.mov (.tmp 6),none⟩,
  .op ⟨(some 25),.bin .add (.tmp 24) (.con (.int .i64 1)),none⟩,
  .op ⟨(some 26),.slc 1 (.tmp 23) (some (.tmp 25)) none none,none⟩,
  .op ⟨(some 27),.buildSlice 1 2 [.nilSlice,.nilSlice] [(0,1,(.tmp 21)),(1,1,(.tmp 26))],none⟩,
  .op ⟨(some 29),.fieldAddr 4 (.tmp 2),none⟩,
  .op ⟨(some 30),.load false 1 (.tmp 29),none⟩,
  .op ⟨(some 31),.mov (.tmp 6),none⟩,
  .op ⟨(some 32),.slc 1 (.tmp 30) none (some (.tmp 31)) none,none⟩,
  .op ⟨(some 33),.fieldAddr 4 (.tmp 2),none⟩,
  .op ⟨(some 34),.load false 1 (.tmp 33),none⟩,
  .op ⟨(some 35),.mov (.tmp 6),none⟩,
  .op ⟨(some 36),.bin .add (.tmp 35) (.con (.int .i64 1)),none⟩,
  .op ⟨(some 37),.slc 1 (.tmp 34) (some (.tmp 36)) none none,none⟩,
  .op ⟨(some 38),.buildSlice 1 2 [.nilSlice,.nilSlice] [(0,1,(.tmp 32)),(1,1,(.tmp 37))],none⟩,
  .look ⟨(some 19),.load false 1 (.tmp 18),none⟩,
  .look ⟨(some 23),.load false 1 (.tmp 22),none⟩,
  .look ⟨(some 27),.buildSlice 1 2 [.nilSlice,.nilSlice] [(0,1,(.tmp 21)),(1,1,(.tmp 26))],none⟩,
  .look ⟨(some 30),.load false 1 (.tmp 29),none⟩,
  .look ⟨(some 34),.load false 1 (.tmp 33),none⟩,
  .look ⟨(some 38),.buildSlice 1 2 [.nilSlice,.nilSlice] [(0,1,(.tmp 32)),(1,1,(.tmp 37))],none⟩,
  .op ⟨(some 28),.call 371 [(.tmp 27)],none⟩,
  .op ⟨(some 40),.fieldAddr 3 (.tmp 2),none⟩,
  .look ⟨(some 30),.load false 1 (.tmp 29),none⟩,
  .look ⟨(some 34),.load false 1 (.tmp 33),none⟩,
  .look ⟨(some 38),.buildSlice 1 2 [.nilSlice,.nilSlice] [(0,1,(.tmp 32)),(1,1,(.tmp 37))],none⟩,
  .op ⟨(some 39),.call 146 [(.tmp 38)],none⟩,
  .op ⟨none,.store 1 (.tmp 40) (.tmp 28),none⟩,
  .op ⟨(some 41),.fieldAddr 4 (.tmp 2),none⟩,
  .op ⟨none,.store 1 (.tmp 41) (.tmp 39),none⟩])
 (.seq (.ops [⟨(some 42),.load true 5 (.tmp 2),none⟩,
  ⟨none,.store 5 (.tmp 4) (.tmp 42),none⟩,
  ⟨(some 5),.mov (.con (.bool true)),none⟩])
 .ret)))))
def a354 : AFunc:=⟨2,c354,[.cell 4 true 5,.tmp 5]⟩
theorem k354 : cFunc Tryz.prog Tryz.f354=some a354:=by kernel_rfl
/- 356: (*tendril/drop.Drop).change -/
def c356 : ACode:=(.seq (.ops [⟨(some 3),.box (.tmp 1),none⟩])
 (.seq (.ops [⟨(some 4),.mov (.tmp 0),none⟩,
  ⟨(some 5),.nilChk (.tmp 4),none⟩,
  ⟨(some 6),.fieldAddr 21 (.tmp 5),none⟩,
  ⟨(some 7),.fieldAddr 1 (.tmp 6),none⟩,
  ⟨(some 8),.fieldAddr 1 (.tmp 7),none⟩,
  ⟨(some 9),.load false 1 (.tmp 8),none⟩,
  ⟨(some 10),.call 365 [(.tmp 9)],none⟩,
  ⟨(some 11),.fieldAddr 1 (.tmp 3),none⟩,
  ⟨none,.store 1 (.tmp 11) (.tmp 10),none⟩])
 (.draw [.op ⟨(some 12),.mov (.tmp 0),none⟩,
  .op ⟨(some 13),.mov (.tmp 0),none⟩,
  .op ⟨(some 14),.nilChk (.tmp 13),none⟩,
  .op ⟨(some 15),.fieldAddr 21 (.tmp 14),none⟩,
  .op ⟨(some 16),.fieldAddr 0 (.tmp 15),none⟩,
  .op ⟨(some 17),.load false 1 (.tmp 16),none⟩,
  .op ⟨(some 18),.mov (.tmp 0),none⟩,
  .op ⟨(some 19),.nilChk (.tmp 18),none⟩,
  .op ⟨(some 20),.fieldAddr 21 (.tmp 19),none⟩,
  .op ⟨(some 21),.fieldAddr 1 (.tmp 20),none⟩,
  .op ⟨(some 22),.fieldAddr 1 (.tmp 21),none⟩,
  .op ⟨(some 23),.load false 1 (.tmp 22),none⟩,
  .op ⟨(some 24),.load true 5 (.tmp 3),none⟩,
  .op ⟨(some 25),.call 85 [(.tmp 24)],none⟩,
  .op ⟨(some 26),.build [(.int .i64 0),(.int .i64 0),(.int .i64 0),(.int .i64 0),(.int .u64 0),.nilSlice] [(0,1,(.con (.int .i64 2))),(1,1,(.tmp 17)),(4,1,(.tmp 23)),(5,1,(.tmp 25))],none⟩,
  .look ⟨(some 17),.load false 1 (.tmp 16),none⟩,
  .look ⟨(some 23),.load false 1 (.tmp 22),none⟩,
  .op ⟨(some 27),.call 220 [(.tmp 12),(.tmp 26),(.con (.func (.func 372) [] []))],none⟩])))
def a356 : AFunc:=⟨2,c356,[]⟩
theorem k356 : cFunc Tryz.prog Tryz.f356=some a356:=by kernel_rfl
/- 362: (*tendril/put.Put).atAlloc -/
def c362 : ACode:=(.seq (.ops [⟨(some 3),.box (.tmp 1),none⟩])
 (.seq (.seq (.ops [⟨(some 4),.fieldAddr 0 (.tmp 3),none⟩,
  ⟨(some 5),.load false 1 (.tmp 4),none⟩,
  ⟨(some 6),.bin .neq (.tmp 5) (.con (.int .i64 0)),none⟩])
 (.cond (.tmp 6)
 (.seq (.ops [⟨(some 7),.mov (.tmp 0),none⟩,
  ⟨(some 8),.fieldAddr 0 (.tmp 3),none⟩,
  ⟨(some 9),.load false 1 (.tmp 8),none⟩,
  ⟨(some 10),.build [(.int .i64 0),(.bool false),(.int .i64 0),.nilSlice] [(0,1,(.tmp 9))],none⟩,
  ⟨(some 11),.nilChk (.tmp 7),none⟩,
  ⟨(some 12),.fieldAddr 34 (.tmp 11),none⟩,
  ⟨none,.store 4 (.tmp 12) (.tmp 10),none⟩])
 (.seq (.ops [⟨(some 13),.mov (.tmp 0),none⟩,
  ⟨(some 14),.call 378 [(.tmp 13),(.con (.func (.func 379) [] []))],none⟩])
 .ret))
 .skip))
 (.seq (.draw [.op ⟨(some 15),.mov (.tmp 0),none⟩,
  .op ⟨(some 16),.mov (.tmp 0),none⟩,
  .op ⟨(some 17),.nilChk (.tmp 16),none⟩,
  .op ⟨(some 18),.fieldAddr 30 (.tmp 17),none⟩,
  .op ⟨(some 19),.load false 1 (.tmp 18),none⟩,
  .op ⟨(some 20),.fieldAddr 1 (.tmp 3),none⟩,
  .op ⟨(some 21),.load false 1 (.tmp 20),none⟩,
  .op ⟨(some 22),.buildSlice 1 1 [(.int .i64 0)] [(0,1,(.tmp 21))],none⟩,
  .look ⟨(some 19),.load false 1 (.tmp 18),none⟩,
  .look ⟨(some 21),.load false 1 (.tmp 20),none⟩,
  .look ⟨(some 22),.buildSlice 1 1 [(.int .i64 0)] [(0,1,(.tmp 21))],none⟩,
  .op ⟨(some 23),.append 1 8 (.tmp 19) (.tmp 22),none⟩,
  .op ⟨(some 24),.nilChk (.tmp 15),none⟩,
  .op ⟨(some 25),.fieldAddr 30 (.tmp 24),none⟩,
  .op ⟨none,.store 1 (.tmp 25) (.tmp 23),none⟩])
 (.ops [⟨(some 26),.mov (.tmp 0),none⟩,
  ⟨(some 27),.call 345 [(.tmp 26)],none⟩]))))
def a362 : AFunc:=⟨2,c362,[]⟩
theorem k362 : cFunc Tryz.prog Tryz.f362=some a362:=by kernel_rfl
/- 349: slices.Clone[[]byte,byte] -/
def c349 : ACode:=(.seq (.ops [⟨(some 2),.mov (.con .nilSlice),none⟩])
 (.seq (.seq (.ops [⟨(some 3),.mov (.tmp 0),none⟩,
  ⟨(some 4),.eqNil 1 false (.tmp 3) (.con .nilSlice),none⟩])
 (.cond (.tmp 4)
 (.seq (.ops [⟨(some 2),.mov (.con .nilSlice),none⟩])
 .ret)
 .skip))
 (.seq (.ops [⟨(some 5),.buildSlice 1 0 [] [],none⟩,
  ⟨(some 6),.mov (.tmp 0),none⟩,
  ⟨(some 7),.append 1 1 (.tmp 5) (.tmp 6),none⟩,
  ⟨(some 2),.mov (.tmp 7),none⟩])
 .ret)))
def a349 : AFunc:=⟨1,c349,[.tmp 2]⟩
theorem k349 : cFunc Tryz.prog Tryz.f349=some a349:=by kernel_rfl
/- 350: slices.BinarySearch[[]byte,byte] -/
def c350l0 : ACode:=(.seq (.seq (.ops [⟨(some 13),.mov (.tmp 7),none⟩,
  ⟨(some 14),.mov (.tmp 8),none⟩,
  ⟨(some 15),.bin .lss (.tmp 13) (.tmp 14),none⟩])
 (.cond (.tmp 15)
 .skip
 (.exit 0)))
 (.block 1 (.seq (.ops [⟨(some 16),.mov (.tmp 7),none⟩,
  ⟨(some 17),.mov (.tmp 8),none⟩,
  ⟨(some 18),.bin .add (.tmp 16) (.tmp 17),none⟩,
  ⟨(some 19),.toInt .u64 (.tmp 18),none⟩,
  ⟨(some 20),.bin .shr (.tmp 19) (.con (.int .u64 1)),none⟩,
  ⟨(some 21),.toInt .i64 (.tmp 20),none⟩,
  ⟨(some 9),.mov (.tmp 21),none⟩])
 (.seq (.ops [⟨(some 22),.mov (.tmp 0),none⟩,
  ⟨(some 23),.mov (.tmp 9),none⟩,
  ⟨(some 24),.idxAddr 1 (.tmp 22) (.tmp 23),none⟩,
  ⟨(some 25),.load false 1 (.tmp 24),none⟩,
  ⟨(some 26),.mov (.tmp 1),none⟩,
  ⟨(some 27),.call 367 [(.tmp 25),(.tmp 26)],none⟩])
 (.cond (.tmp 27)
 (.ops [⟨(some 28),.mov (.tmp 9),none⟩,
  ⟨(some 29),.bin .add (.tmp 28) (.con (.int .i64 1)),none⟩,
  ⟨(some 7),.mov (.tmp 29),none⟩])
 (.ops [⟨(some 30),.mov (.tmp 9),none⟩,
  ⟨(some 8),.mov (.tmp 30),none⟩]))))))
def c350 : ACode:=(.seq (.ops [⟨(some 4),.mov (.con (.int .i64 0)),none⟩,
  ⟨(some 5),.mov (.con (.bool false)),none⟩])
 (.seq (.ops [⟨(some 10),.mov (.tmp 0),none⟩,
  ⟨(some 11),.lenSlice (.tmp 10),none⟩,
  ⟨(some 6),.mov (.tmp 11),none⟩])
 (.seq (.ops [⟨(some 12),.mov (.tmp 6),none⟩,
  ⟨(some 7),.mov (.con (.int .i64 0)),none⟩,
  ⟨(some 8),.mov (.tmp 12),none⟩])
 (.seq (.block 0 (.loop c350l0))
 (.seq (.ops [⟨(some 31),.mov (.tmp 7),none⟩,
  ⟨(some 32),.mov (.tmp 7),none⟩,
  ⟨(some 33),.mov (.tmp 6),none⟩,
  ⟨(some 34),.bin .lss (.tmp 32) (.tmp 33),none⟩,
  ⟨(some 35),.mov (.tmp 34),none⟩,
  ⟨(some 36),.mov (.tmp 0),(some (35,true))⟩,
  ⟨(some 37),.mov (.tmp 7),(some (35,true))⟩,
  ⟨(some 38),.idxAddr 1 (.tmp 36) (.tmp 37),(some (35,true))⟩,
  ⟨(some 39),.load false 1 (.tmp 38),(some (35,true))⟩,
  ⟨(some 40),.mov (.tmp 1),(some (35,true))⟩,
  ⟨(some 41),.bin .eql (.tmp 39) (.tmp 40),(some (35,true))⟩,
  ⟨(some 42),.mov (.tmp 41),(some (35,true))⟩,
  ⟨(some 43),.mov (.tmp 0),(some (42,false))⟩,
  ⟨(some 44),.mov (.tmp 7),(some (42,false))⟩,
  ⟨(some 45),.idxAddr 1 (.tmp 43) (.tmp 44),(some (42,false))⟩,
  ⟨(some 46),.load false 1 (.tmp 45),(some (42,false))⟩,
  ⟨(some 47),.call 368 [(.tmp 46)],(some (42,false))⟩,
  ⟨(some 48),.mov (.tmp 47),(some (42,false))⟩,
  ⟨(some 49),.mov (.tmp 1),(some (48,true))⟩,
  ⟨(some 50),.call 368 [(.tmp 49)],(some (48,true))⟩,
  ⟨(some 51),.pick (.tmp 48) (.tmp 50) (.con (.bool false)),(some (42,false))⟩,
  ⟨(some 52),.pick (.tmp 42) (.con (.bool true)) (.tmp 51),(some (35,true))⟩,
  ⟨(some 53),.pick (.tmp 35) (.tmp 52) (.con (.bool false)),none⟩,
  ⟨(some 4),.mov (.tmp 31),none⟩,
  ⟨(some 5),.mov (.tmp 53),none⟩])
 .ret)))))
def a350 : AFunc:=⟨2,c350,[.tmp 4,.tmp 5]⟩
theorem k350 : cFunc Tryz.prog Tryz.f350=some a350:=by kernel_rfl
/- 351: slices.Insert[[]byte,byte] -/
def c351 : ACode:=(.seq (.ops [⟨(some 6),.mov (.con .nilSlice),none⟩])
 (.seq (.ops [⟨(some 10),.mov (.tmp 0),none⟩,
  ⟨(some 11),.mov (.tmp 1),none⟩,
  ⟨(some 12),.slc 1 (.tmp 10) (some (.tmp 11)) none none,none⟩])
 (.seq (.ops [⟨(some 13),.mov (.tmp 2),none⟩,
  ⟨(some 14),.lenSlice (.tmp 13),none⟩,
  ⟨(some 7),.mov (.tmp 14),none⟩])
 (.seq (.seq (.ops [⟨(some 15),.mov (.tmp 7),none⟩,
  ⟨(some 16),.bin .eql (.tmp 15) (.con (.int .i64 0)),none⟩])
 (.cond (.tmp 16)
 (.seq (.ops [⟨(some 17),.mov (.tmp 0),none⟩,
  ⟨(some 6),.mov (.tmp 17),none⟩])
 .ret)
 .skip))
 (.seq (.ops [⟨(some 18),.mov (.tmp 0),none⟩,
  ⟨(some 19),.lenSlice (.tmp 18),none⟩,
  ⟨(some 8),.mov (.tmp 19),none⟩])
 (.seq (.seq (.ops [⟨(some 20),.mov (.tmp 1),none⟩,
  ⟨(some 21),.mov (.tmp 8),none⟩,
  ⟨(some 22),.bin .eql (.tmp 20) (.tmp 21),none⟩])
 (.cond (.tmp 22)
 (.seq (.ops [⟨(some 23),.mov (.tmp 0),none⟩,
  ⟨(some 24),.mov (.tmp 2),none⟩,
  ⟨(some 25),.append 1 1 (.tmp 23) (.tmp 24),none⟩,
  ⟨(some 6),.mov (.tmp 25),none⟩])
 .ret)
 .skip))
 (.seq (.seq (.ops [⟨(some 26),.mov (.tmp 8),none⟩,
  ⟨(some 27),.mov (.tmp 7),none⟩,
  ⟨(some 28),.bin .add (.tmp 26) (.tmp 27),none⟩,
  ⟨(some 29),.mov (.tmp 0),none⟩,
  ⟨(some 30),.capSlice (.tmp 29),none⟩,
  ⟨(some 31),.bin .gtr (.tmp 28) (.tmp 30),none⟩])
 (.cond (.tmp 31)
 (.seq (.ops [⟨(some 32),.mov (.tmp 0),none⟩,
  ⟨(some 33),.mov (.tmp 1),none⟩,
  ⟨(some 34),.slc 1 (.tmp 32) none (some (.tmp 33)) none,none⟩,
  ⟨(some 35),.mov (.tmp 8),none⟩,
  ⟨(some 36),.mov (.tmp 7),none⟩,
  ⟨(some 37),.bin .add (.tmp 35) (.tmp 36),none⟩,
  ⟨(some 38),.mov (.tmp 1),none⟩,
  ⟨(some 39),.bin .sub (.tmp 37) (.tmp 38),none⟩,
  ⟨(some 40),.appendZ 1 1 [(.int .u8 0)] (.tmp 34) (.tmp 39),none⟩,
  ⟨(some 9),.mov (.tmp 40),none⟩])
 (.seq (.ops [⟨(some 41),.mov (.tmp 9),none⟩,
  ⟨(some 42),.mov (.tmp 1),none⟩,
  ⟨(some 43),.slc 1 (.tmp 41) (some (.tmp 42)) none none,none⟩,
  ⟨(some 44),.mov (.tmp 2),none⟩,
  ⟨(some 45),.copy 1 (.tmp 43) (.tmp 44),none⟩])
 (.seq (.ops [⟨(some 46),.mov (.tmp 9),none⟩,
  ⟨(some 47),.mov (.tmp 1),none⟩,
  ⟨(some 48),.mov (.tmp 7),none⟩,
  ⟨(some 49),.bin .add (.tmp 47) (.tmp 48),none⟩,
  ⟨(some 50),.slc 1 (.tmp 46) (some (.tmp 49)) none none,none⟩,
  ⟨(some 51),.mov (.tmp 0),none⟩,
  ⟨(some 52),.mov (.tmp 1),none⟩,
  ⟨(some 53),.slc 1 (.tmp 51) (some (.tmp 52)) none none,none⟩,
  ⟨(some 54),.copy 1 (.tmp 50) (.tmp 53),none⟩])
 (.seq (.ops [⟨(some 55),.mov (.tmp 9),none⟩,
  ⟨(some 6),.mov (.tmp 55),none⟩])
 .ret))))
 .skip))
 (.seq (.ops [⟨(some 56),.mov (.tmp 0),none⟩,
  ⟨(some 57),.mov (.tmp 8),none⟩,
  ⟨(some 58),.mov (.tmp 7),none⟩,
  ⟨(some 59),.bin .add (.tmp 57) (.tmp 58),none⟩,
  ⟨(some 60),.slc 1 (.tmp 56) none (some (.tmp 59)) none,none⟩,
  ⟨(some 0),.mov (.tmp 60),none⟩])
 (.seq (.seq (.ops [⟨(some 61),.mov (.tmp 2),none⟩,
  ⟨(some 62),.mov (.tmp 0),none⟩,
  ⟨(some 63),.mov (.tmp 1),none⟩,
  ⟨(some 64),.mov (.tmp 7),none⟩,
  ⟨(some 65),.bin .add (.tmp 63) (.tmp 64),none⟩,
  ⟨(some 66),.slc 1 (.tmp 62) (some (.tmp 65)) none none,none⟩,
  ⟨(some 67),.call 369 [(.tmp 61),(.tmp 66)],none⟩,
  ⟨(some 68),.un .not (.tmp 67),none⟩])
 (.cond (.tmp 68)
 (.seq (.ops [⟨(some 69),.mov (.tmp 0),none⟩,
  ⟨(some 70),.mov (.tmp 1),none⟩,
  ⟨(some 71),.mov (.tmp 7),none⟩,
  ⟨(some 72),.bin .add (.tmp 70) (.tmp 71),none⟩,
  ⟨(some 73),.slc 1 (.tmp 69) (some (.tmp 72)) none none,none⟩,
  ⟨(some 74),.mov (.tmp 0),none⟩,
  ⟨(some 75),.mov (.tmp 1),none⟩,
  ⟨(some 76),.slc 1 (.tmp 74) (some (.tmp 75)) none none,none⟩,
  ⟨(some 77),.copy 1 (.tmp 73) (.tmp 76),none⟩])
 (.seq (.ops [⟨(some 78),.mov (.tmp 0),none⟩,
  ⟨(some 79),.mov (.tmp 1),none⟩,
  ⟨(some 80),.slc 1 (.tmp 78) (some (.tmp 79)) none none,none⟩,
  ⟨(some 81),.mov (.tmp 2),none⟩,
  ⟨(some 82),.copy 1 (.tmp 80) (.tmp 81),none⟩])
 (.seq (.ops [⟨(some 83),.mov (.tmp 0),none⟩,
  ⟨(some 6),.mov (.tmp 83),none⟩])
 .ret)))
 .skip))
 (.seq (.ops [⟨(some 84),.mov (.tmp 0),none⟩,
  ⟨(some 85),.mov (.tmp 8),none⟩,
  ⟨(some 86),.slc 1 (.tmp 84) (some (.tmp 85)) none none,none⟩,
  ⟨(some 87),.mov (.tmp 2),none⟩,
  ⟨(some 88),.copy 1 (.tmp 86) (.tmp 87),none⟩])
 (.seq (.ops [⟨(some 89),.mov (.tmp 0),none⟩,
  ⟨(some 90),.mov (.tmp 1),none⟩,
  ⟨(some 91),.slc 1 (.tmp 89) (some (.tmp 90)) none none,none⟩,
  ⟨(some 92),.mov (.tmp 7),none⟩,
  ⟨(some 93),.call 370 [(.tmp 91),(.tmp 92)],none⟩])
 (.seq (.ops [⟨(some 94),.mov (.tmp 0),none⟩,
  ⟨(some 6),.mov (.tmp 94),none⟩])
 .ret))))))))))))
def a351 : AFunc:=⟨3,c351,[.tmp 6]⟩
theorem k351 : cFunc Tryz.prog Tryz.f351=some a351:=by kernel_rfl
/- 365: tendril/word.Unlock -/
def c365 : ACode:=(.seq (.ops [⟨(some 2),.mov (.con (.int .u64 0)),none⟩])
 (.seq (.ops [⟨(some 3),.mov (.tmp 0),none⟩,
  ⟨(some 4),.call 383 [(.tmp 3)],none⟩,
  ⟨(some 2),.mov (.tmp 4),none⟩])
 .ret))
def a365 : AFunc:=⟨1,c365,[.tmp 2]⟩
theorem k365 : cFunc Tryz.prog Tryz.f365=some a365:=by kernel_rfl
/- 366: (*tendril/put.Put).atChange -/
def c366 : ACode:=(.seq (.ops [⟨(some 3),.box (.tmp 1),none⟩])
 (.seq (.seq (.ops [⟨(some 4),.fieldAddr 2 (.tmp 3),none⟩,
  ⟨(some 5),.load false 1 (.tmp 4),none⟩,
  ⟨(some 6),.un .not (.tmp 5),none⟩])
 (.cond (.tmp 6)
 (.seq (.ops [⟨(some 7),.mov (.tmp 0),none⟩,
  ⟨(some 8),.call 378 [(.tmp 7),(.con (.func (.func 321) [] []))],none⟩])
 .ret)
 .skip))
 (.seq (.ops [⟨(some 9),.mov (.tmp 0),none⟩,
  ⟨(some 10),.call 322 [(.tmp 9)],none⟩])
 (.ops [⟨(some 11),.mov (.tmp 0),none⟩,
  ⟨(some 12),.call 384 [(.tmp 11)],none⟩]))))
def a366 : AFunc:=⟨2,c366,[]⟩
theorem k366 : cFunc Tryz.prog Tryz.f366=some a366:=by kernel_rfl
/- 371: slices.Concat[[]byte,byte] -/
def c371l0 : ACode:=(.seq (.ops [⟨(some 12),.bin .lss (.tmp 11) (.tmp 10),none⟩])
 (.seq (.cond (.tmp 12)
 .skip
 (.exit 0))
 (.seq (.block 1 (.seq (.ops [⟨(some 13),.idxAddr 1 (.tmp 9) (.tmp 11),none⟩,
  ⟨(some 14),.load false 1 (.tmp 13),none⟩,
  ⟨(some 5),.mov (.tmp 14),none⟩])
 (.seq (.ops [⟨(some 15),.mov (.tmp 3),none⟩,
  ⟨(some 16),.mov (.tmp 5),none⟩,
  ⟨(some 17),.lenSlice (.tmp 16),none⟩,
  ⟨(some 18),.bin .add (.tmp 15) (.tmp 17),none⟩,
  ⟨(some 3),.mov (.tmp 18),none⟩])
 (.seq (.ops [⟨(some 19),.mov (.tmp 3),none⟩,
  ⟨(some 20),.bin .lss (.tmp 19) (.con (.int .i64 0)),none⟩])
 (.cond (.tmp 20)
 (.ops [⟨(some 21),.mkIface 9 (.con (.str [108,101,110,32,111,117,116,32,111,102,32,114,97,110,103,101])),none⟩,
  ⟨none,.stuck,none⟩])
 .skip)))))
 (.ops [⟨(some 22),.bin .add (.tmp 11) (.con (.int .i64 1)),none⟩,
  ⟨(some 11),.mov (.tmp 22),none⟩]))))
def c371l1 : ACode:=(.seq (.ops [⟨(some 28),.bin .lss (.tmp 27) (.tmp 26),none⟩])
 (.seq (.cond (.tmp 28)
 .skip
 (.exit 2))
 (.seq (.block 3 (.seq (.ops [⟨(some 29),.idxAddr 1 (.tmp 25) (.tmp 27),none⟩,
  ⟨(some 30),.load false 1 (.tmp 29),none⟩,
  ⟨(some 8),.mov (.tmp 30),none⟩])
 (.ops [⟨(some 31),.mov (.tmp 6),none⟩,
  ⟨(some 32),.mov (.tmp 8),none⟩,
  ⟨(some 33),.append 1 1 (.tmp 31) (.tmp 32),none⟩,
  ⟨(some 6),.mov (.tmp 33),none⟩])))
 (.ops [⟨(some 34),.bin .add (.tmp 27) (.con (.int .i64 1)),none⟩,
  ⟨(some 27),.mov (.tmp 34),none⟩]))))
def c371 : ACode:=(.seq (.ops [⟨(some 2),.mov (.con .nilSlice),none⟩])
 (.seq (.ops [⟨(some 3),.mov (.con (.int .i64 0)),none⟩])
 (.seq (.seq (.ops [⟨(some 9),.mov (.tmp 0),none⟩,
  ⟨(some 10),.lenSlice (.tmp 9),none⟩,
  ⟨(some 11),.mov (.con (.int .i64 0)),none⟩])
 (.block 0 (.loop c371l0)))
 (.seq (.ops [⟨(some 23),.mov (.tmp 3),none⟩,
  ⟨(some 24),.call 387 [(.con .nilSlice),(.tmp 23)],none⟩,
  ⟨(some 6),.mov (.tmp 24),none⟩])
 (.seq (.seq (.ops [⟨(some 25),.mov (.tmp 0),none⟩,
  ⟨(some 26),.lenSlice (.tmp 25),none⟩,
  ⟨(some 27),.mov (.con (.int .i64 0)),none⟩])
 (.block 2 (.loop c371l1)))
 (.seq (.ops [⟨(some 35),.mov (.tmp 6),none⟩,
  ⟨(some 2),.mov (.tmp 35),none⟩])
 .ret))))))
def a371 : AFunc:=⟨1,c371,[.tmp 2]⟩
theorem k371 : cFunc Tryz.prog Tryz.f371=some a371:=by kernel_rfl
/- 372: (*tendril/drop.Drop).atChange -/
def c372 : ACode:=(.seq (.ops [⟨(some 3),.box (.tmp 1),none⟩])
 (.seq (.seq (.ops [⟨(some 4),.fieldAddr 2 (.tmp 3),none⟩,
  ⟨(some 5),.load false 1 (.tmp 4),none⟩,
  ⟨(some 6),.un .not (.tmp 5),none⟩])
 (.cond (.tmp 6)
 (.seq (.ops [⟨(some 7),.mov (.tmp 0),none⟩,
  ⟨(some 8),.call 388 [(.tmp 7),(.con (.func (.func 338) [] []))],none⟩])
 .ret)
 .skip))
 (.seq (.ops [⟨(some 9),.mov (.tmp 0),none⟩,
  ⟨(some 10),.call 339 [(.tmp 9)],none⟩])
 (.ops [⟨(some 11),.mov (.tmp 0),none⟩,
  ⟨(some 12),.call 389 [(.tmp 11)],none⟩]))))
def a372 : AFunc:=⟨2,c372,[]⟩
theorem k372 : cFunc Tryz.prog Tryz.f372=some a372:=by kernel_rfl
/- 367: cmp.Less[byte] -/
def c367 : ACode:=(.seq (.ops [⟨(some 4),.mov (.con (.bool false)),none⟩])
 (.seq (.ops [⟨(some 5),.mov (.tmp 0),none⟩,
  ⟨(some 6),.call 385 [(.tmp 5)],none⟩,
  ⟨(some 7),.mov (.tmp 6),none⟩,
  ⟨(some 8),.mov (.tmp 1),(some (7,true))⟩,
  ⟨(some 9),.call 385 [(.tmp 8)],(some (7,true))⟩,
  ⟨(some 10),.un .not (.tmp 9),(some (7,true))⟩,
  ⟨(some 11),.pick (.tmp 7) (.tmp 10) (.con (.bool false)),none⟩,
  ⟨(some 12),.mov (.tmp 11),none⟩,
  ⟨(some 13),.mov (.tmp 0),(some (12,false))⟩,
  ⟨(some 14),.mov (.tmp 1),(some (12,false))⟩,
  ⟨(some 15),.bin .lss (.tmp 13) (.tmp 14),(some (12,false))⟩,
  ⟨(some 16),.pick (.tmp 12) (.con (.bool true)) (.tmp 15),none⟩,
  ⟨(some 4),.mov (.tmp 16),none⟩])
 .ret))
def a367 : AFunc:=⟨2,c367,[.tmp 4]⟩
theorem k367 : cFunc Tryz.prog Tryz.f367=some a367:=by kernel_rfl
/- 368: slices.isNaN[byte] -/
def c368 : ACode:=(.seq (.ops [⟨(some 2),.mov (.con (.bool false)),none⟩])
 (.seq (.ops [⟨(some 3),.mov (.tmp 0),none⟩,
  ⟨(some 4),.mov (.tmp 0),none⟩,
  ⟨(some 5),.bin .neq (.tmp 3) (.tmp 4),none⟩,
  ⟨(some 2),.mov (.tmp 5),none⟩])
 .ret))
def a368 : AFunc:=⟨1,c368,[.tmp 2]⟩
theorem k368 : cFunc Tryz.prog Tryz.f368=some a368:=by kernel_rfl
/- 383: tendril/word.bare -/
def c383 : ACode:=(.seq (.ops [⟨(some 2),.mov (.con (.int .u64 0)),none⟩])
 (.seq (.ops [⟨(some 3),.mov (.tmp 0),none⟩,
  ⟨(some 4),.bin .andNot (.tmp 3) (.con (.int .u64 3)),none⟩,
  ⟨(some 5),.bin .add (.tmp 4) (.con (.int .u64 4)),none⟩,
  ⟨(some 2),.mov (.tmp 5),none⟩])
 .ret))
def a383 : AFunc:=⟨1,c383,[.tmp 2]⟩
theorem k383 : cFunc Tryz.prog Tryz.f383=some a383:=by kernel_rfl
/- 384: (*tendril/put.Put).retires -/
def c384 : ACode:=(.seq (.seq (.ops [⟨(some 2),.mov (.tmp 0),none⟩,
  ⟨(some 3),.nilChk (.tmp 2),none⟩,
  ⟨(some 4),.fieldAddr 31 (.tmp 3),none⟩,
  ⟨(some 5),.load false 1 (.tmp 4),none⟩,
  ⟨(some 6),.lenSlice (.tmp 5),none⟩,
  ⟨(some 7),.bin .eql (.tmp 6) (.con (.int .i64 0)),none⟩])
 (.cond (.tmp 7)
 (.seq (.ops [⟨(some 8),.mov (.tmp 0),none⟩,
  ⟨(some 9),.call 323 [(.tmp 8)],none⟩])
 .ret)
 .skip))
 (.ops [⟨(some 10),.mov (.tmp 0),none⟩,
  ⟨(some 11),.mov (.tmp 0),none⟩,
  ⟨(some 12),.nilChk (.tmp 11),none⟩,
  ⟨(some 13),.fieldAddr 31 (.tmp 12),none⟩,
  ⟨(some 14),.load false 1 (.tmp 13),none⟩,
  ⟨(some 15),.idxAddr 1 (.tmp 14) (.con (.int .i64 0)),none⟩,
  ⟨(some 16),.load false 1 (.tmp 15),none⟩,
  ⟨(some 17),.build [(.int .i64 0),(.int .i64 0),(.int .i64 0),(.int .i64 0),(.int .u64 0),.nilSlice] [(0,1,(.con (.int .i64 6))),(1,1,(.tmp 16))],none⟩,
  ⟨(some 18),.call 184 [(.tmp 10),(.tmp 17),(.con (.func (.func 396) [] []))],none⟩]))
def a384 : AFunc:=⟨1,c384,[]⟩
theorem k384 : cFunc Tryz.prog Tryz.f384=some a384:=by kernel_rfl
/- 387: slices.Grow[[]byte,byte] -/
def c387 : ACode:=(.seq (.ops [⟨(some 4),.mov (.con .nilSlice),none⟩])
 (.seq (.seq (.ops [⟨(some 5),.mov (.tmp 1),none⟩,
  ⟨(some 6),.bin .lss (.tmp 5) (.con (.int .i64 0)),none⟩])
 (.cond (.tmp 6)
 (.ops [⟨(some 7),.mkIface 9 (.con (.str [99,97,110,110,111,116,32,98,101,32,110,101,103,97,116,105,118,101])),none⟩,
  ⟨none,.stuck,none⟩])
 .skip))
 (.seq (.seq (.ops [⟨(some 8),.mov (.tmp 1),none⟩,
  ⟨(some 9),.mov (.tmp 0),none⟩,
  ⟨(some 10),.capSlice (.tmp 9),none⟩,
  ⟨(some 11),.mov (.tmp 0),none⟩,
  ⟨(some 12),.lenSlice (.tmp 11),none⟩,
  ⟨(some 13),.bin .sub (.tmp 10) (.tmp 12),none⟩,
  ⟨(some 14),.bin .sub (.tmp 8) (.tmp 13),none⟩,
  ⟨(some 1),.mov (.tmp 14),none⟩])
 (.seq (.ops [⟨(some 15),.mov (.tmp 1),none⟩,
  ⟨(some 16),.bin .gtr (.tmp 15) (.con (.int .i64 0)),none⟩])
 (.cond (.tmp 16)
 (.ops [⟨(some 17),.mov (.tmp 0),none⟩,
  ⟨(some 18),.mov (.tmp 0),none⟩,
  ⟨(some 19),.capSlice (.tmp 18),none⟩,
  ⟨(some 20),.slc 1 (.tmp 17) none (some (.tmp 19)) none,none⟩,
  ⟨(some 21),.mov (.tmp 1),none⟩,
  ⟨(some 22),.appendZ 1 1 [(.int .u8 0)] (.tmp 20) (.tmp 21),none⟩,
  ⟨(some 23),.mov (.tmp 0),none⟩,
  ⟨(some 24),.lenSlice (.tmp 23),none⟩,
  ⟨(some 25),.slc 1 (.tmp 22) none (some (.tmp 24)) none,none⟩,
  ⟨(some 0),.mov (.tmp 25),none⟩])
 .skip)))
 (.seq (.ops [⟨(some 26),.mov (.tmp 0),none⟩,
  ⟨(some 4),.mov (.tmp 26),none⟩])
 .ret))))
def a387 : AFunc:=⟨2,c387,[.tmp 4]⟩
theorem k387 : cFunc Tryz.prog Tryz.f387=some a387:=by kernel_rfl
/- 389: (*tendril/drop.Drop).retires -/
def c389 : ACode:=(.seq (.seq (.ops [⟨(some 2),.mov (.tmp 0),none⟩,
  ⟨(some 3),.nilChk (.tmp 2),none⟩,
  ⟨(some 4),.fieldAddr 38 (.tmp 3),none⟩,
  ⟨(some 5),.load false 1 (.tmp 4),none⟩,
  ⟨(some 6),.lenSlice (.tmp 5),none⟩,
  ⟨(some 7),.bin .eql (.tmp 6) (.con (.int .i64 0)),none⟩])
 (.cond (.tmp 7)
 (.seq (.ops [⟨(some 8),.mov (.tmp 0),none⟩,
  ⟨(some 9),.call 340 [(.tmp 8)],none⟩])
 .ret)
 .skip))
 (.ops [⟨(some 10),.mov (.tmp 0),none⟩,
  ⟨(some 11),.mov (.tmp 0),none⟩,
  ⟨(some 12),.nilChk (.tmp 11),none⟩,
  ⟨(some 13),.fieldAddr 38 (.tmp 12),none⟩,
  ⟨(some 14),.load false 1 (.tmp 13),none⟩,
  ⟨(some 15),.idxAddr 1 (.tmp 14) (.con (.int .i64 0)),none⟩,
  ⟨(some 16),.load false 1 (.tmp 15),none⟩,
  ⟨(some 17),.build [(.int .i64 0),(.int .i64 0),(.int .i64 0),(.int .i64 0),(.int .u64 0),.nilSlice] [(0,1,(.con (.int .i64 6))),(1,1,(.tmp 16))],none⟩,
  ⟨(some 18),.call 220 [(.tmp 10),(.tmp 17),(.con (.func (.func 399) [] []))],none⟩]))
def a389 : AFunc:=⟨1,c389,[]⟩
theorem k389 : cFunc Tryz.prog Tryz.f389=some a389:=by kernel_rfl
/- 385: cmp.isNaN[byte] -/
def c385 : ACode:=(.seq (.ops [⟨(some 2),.mov (.con (.bool false)),none⟩])
 (.seq (.ops [⟨(some 3),.mov (.tmp 0),none⟩,
  ⟨(some 4),.mov (.tmp 0),none⟩,
  ⟨(some 5),.bin .neq (.tmp 3) (.tmp 4),none⟩,
  ⟨(some 2),.mov (.tmp 5),none⟩])
 .ret))
def a385 : AFunc:=⟨1,c385,[.tmp 2]⟩
theorem k385 : cFunc Tryz.prog Tryz.f385=some a385:=by kernel_rfl
/- 399: (*tendril/drop.Drop).atRetired -/
def c399 : ACode:=(.seq (.ops [⟨(some 3),.box (.tmp 1),none⟩])
 (.seq (.ops [⟨(some 4),.mov (.tmp 0),none⟩,
  ⟨(some 5),.mov (.tmp 0),none⟩,
  ⟨(some 6),.nilChk (.tmp 5),none⟩,
  ⟨(some 7),.fieldAddr 38 (.tmp 6),none⟩,
  ⟨(some 8),.load false 1 (.tmp 7),none⟩,
  ⟨(some 9),.slc 1 (.tmp 8) (some (.con (.int .i64 1))) none none,none⟩,
  ⟨(some 10),.nilChk (.tmp 4),none⟩,
  ⟨(some 11),.fieldAddr 38 (.tmp 10),none⟩,
  ⟨none,.store 1 (.tmp 11) (.tmp 9),none⟩])
 (.ops [⟨(some 12),.mov (.tmp 0),none⟩,
  ⟨(some 13),.call 389 [(.tmp 12)],none⟩])))
def a399 : AFunc:=⟨2,c399,[]⟩
theorem k399 : cFunc Tryz.prog Tryz.f399=some a399:=by kernel_rfl
end Go.Proofs.YtakgcpmemalmaaaGreatDoor

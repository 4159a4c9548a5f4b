/- The abstract code of functions that the laws reach, as a program printed it; each is what the compiler makes of the given function. -/
import Derived.Test.YtakgcpmemalmaaaGreatDoorVmZ
import Derived.Test.YtakgcpmemalmaaaGreatDoorVmS
import Derived.Test.YtakgcpmemalmaaaGreatDoorRows
namespace Go.Proofs.YtakgcpmemalmaaaGreatDoor
open Go.Vm
/- 195: slices.Grow[[]int,int] -/
def c195 : ACode:=(.seq (.ops [⟨(some 4),.mov (.con .nilSlice),none⟩])
 (.seq (.seq (.ops [⟨(some 5),.mov (.tmp 1),none⟩,
  ⟨(some 6),.bin .lss (.tmp 5) (.con (.int .i64 0)),none⟩])
 (.cond (.tmp 6)
 (.ops [⟨(some 7),.mkIface 9 (.con (.str [99,97,110,110,111,116,32,98,101,32,110,101,103,97,116,105,118,101])),none⟩,
  ⟨none,.stuck,none⟩])
 .skip))
 (.seq (.seq (.ops [⟨(some 8),.mov (.tmp 1),none⟩,
  ⟨(some 9),.mov (.tmp 0),none⟩,
  ⟨(some 10),.capSlice (.tmp 9),none⟩,
  ⟨(some 11),.mov (.tmp 0),none⟩,
  ⟨(some 12),.lenSlice (.tmp 11),none⟩,
  ⟨(some 13),.bin .sub (.tmp 10) (.tmp 12),none⟩,
  ⟨(some 14),.bin .sub (.tmp 8) (.tmp 13),none⟩,
  ⟨(some 1),.mov (.tmp 14),none⟩])
 (.seq (.ops [⟨(some 15),.mov (.tmp 1),none⟩,
  ⟨(some 16),.bin .gtr (.tmp 15) (.con (.int .i64 0)),none⟩])
 (.cond (.tmp 16)
 (.ops [⟨(some 17),.mov (.tmp 0),none⟩,
  ⟨(some 18),.mov (.tmp 0),none⟩,
  ⟨(some 19),.capSlice (.tmp 18),none⟩,
  ⟨(some 20),.slc 1 (.tmp 17) none (some (.tmp 19)) none,none⟩,
  ⟨(some 21),.mov (.tmp 1),none⟩,
  ⟨(some 22),.appendZ 1 8 [(.int .i64 0)] (.tmp 20) (.tmp 21),none⟩,
  ⟨(some 23),.mov (.tmp 0),none⟩,
  ⟨(some 24),.lenSlice (.tmp 23),none⟩,
  ⟨(some 25),.slc 1 (.tmp 22) none (some (.tmp 24)) none,none⟩,
  ⟨(some 0),.mov (.tmp 25),none⟩])
 .skip)))
 (.seq (.ops [⟨(some 26),.mov (.tmp 0),none⟩,
  ⟨(some 4),.mov (.tmp 26),none⟩])
 .ret))))
def a195 : AFunc:=⟨2,c195,[.tmp 4]⟩
theorem k195 : cFunc Tryz.prog Tryz.f195=some a195:=by kernel_rfl
/- 196: (*tendril/query.reader).factor -/
def c196 : ACode:=(.seq (.ops [⟨(some 4),.mov (.tmp 0),none⟩,
  ⟨(some 5),.nilChk (.tmp 4),none⟩,
  ⟨(some 6),.fieldAddr 1 (.tmp 5),none⟩,
  ⟨(some 7),.load false 1 (.tmp 6),none⟩,
  ⟨(some 8),.bin .add (.tmp 7) (.con (.int .i64 1)),none⟩,
  ⟨(some 9),.nilChk (.tmp 4),none⟩,
  ⟨(some 10),.fieldAddr 1 (.tmp 9),none⟩,
  ⟨none,.store 1 (.tmp 10) (.tmp 8),none⟩])
 (.seq (.seq (.ops [⟨(some 11),.mov (.tmp 0),none⟩,
  ⟨(some 12),.nilChk (.tmp 11),none⟩,
  ⟨(some 13),.fieldAddr 1 (.tmp 12),none⟩,
  ⟨(some 14),.load false 1 (.tmp 13),none⟩,
  ⟨(some 15),.bin .gtr (.tmp 14) (.con (.int .i64 64)),none⟩])
 (.cond (.tmp 15)
 (.ops [⟨(some 16),.mov (.tmp 0),none⟩,
  ⟨(some 17),.call 99 [(.tmp 16),(.con (.int .i64 11))],none⟩])
 .skip))
 (.seq (.seq (.ops [⟨(some 18),.mov (.tmp 0),none⟩,
  ⟨(some 19),.nilChk (.tmp 18),none⟩,
  ⟨(some 20),.fieldAddr 3 (.tmp 19),none⟩,
  ⟨(some 21),.load false 1 (.tmp 20),none⟩,
  ⟨(some 22),.bin .neq (.tmp 21) (.con (.int .i64 0)),none⟩])
 (.cond (.tmp 22)
 .ret
 .skip))
 (.seq (.seq (.ops [⟨(some 24),.mov (.tmp 0),none⟩,
  ⟨(some 25),.call 98 [(.tmp 24)],none⟩,
  ⟨(some 23),.mov (.tmp 25),none⟩,
  ⟨(some 26),.extract (.tmp 23) 0,none⟩,
  ⟨(some 27),.extract (.tmp 23) 1,none⟩,
  ⟨(some 2),.mov (.tmp 26),none⟩,
  ⟨(some 3),.mov (.tmp 27),none⟩])
 (.block 0 (.seq (.ops [⟨(some 31),.mov (.tmp 0),none⟩,
  ⟨(some 32),.call 148 [(.tmp 31),(.con (.int .u8 33))],none⟩,
  ⟨(some 30),.mov (.tmp 32),none⟩])
 (.cond (.tmp 30)
 (.seq (.ops [⟨(some 33),.mov (.tmp 0),none⟩,
  ⟨(some 34),.call 196 [(.tmp 33)],none⟩])
 (.ops [⟨(some 35),.mov (.tmp 0),none⟩,
  ⟨(some 36),.call 149 [(.tmp 35),(.con (.int .i64 4)),(.con (.str []))],none⟩]))
 (.seq (.ops [⟨(some 38),.mov (.tmp 0),none⟩,
  ⟨(some 39),.call 148 [(.tmp 38),(.con (.int .u8 40))],none⟩,
  ⟨(some 37),.mov (.tmp 39),none⟩])
 (.cond (.tmp 37)
 (.seq (.ops [⟨(some 40),.mov (.tmp 0),none⟩,
  ⟨(some 41),.call 97 [(.tmp 40)],none⟩])
 (.seq (.ops [⟨(some 42),.mov (.tmp 0),none⟩,
  ⟨(some 43),.nilChk (.tmp 42),none⟩,
  ⟨(some 44),.fieldAddr 3 (.tmp 43),none⟩,
  ⟨(some 45),.load false 1 (.tmp 44),none⟩,
  ⟨(some 46),.bin .eql (.tmp 45) (.con (.int .i64 0)),none⟩,
  ⟨(some 47),.mov (.tmp 46),none⟩,
  ⟨(some 48),.mov (.tmp 0),(some (47,true))⟩,
  ⟨(some 49),.call 148 [(.tmp 48),(.con (.int .u8 41))],(some (47,true))⟩,
  ⟨(some 50),.un .not (.tmp 49),(some (47,true))⟩,
  ⟨(some 51),.pick (.tmp 47) (.tmp 50) (.con (.bool false)),none⟩])
 (.cond (.tmp 51)
 (.ops [⟨(some 52),.mov (.tmp 0),none⟩,
  ⟨(some 53),.call 99 [(.tmp 52),(.con (.int .i64 7))],none⟩])
 .skip)))
 (.seq (.ops [⟨(some 55),.mov (.tmp 2),none⟩,
  ⟨(some 56),.call 106 [(.tmp 55)],none⟩,
  ⟨(some 57),.bin .neq (.tmp 56) (.con (.int .u8 0)),none⟩,
  ⟨(some 54),.mov (.tmp 57),none⟩])
 (.cond (.tmp 54)
 (.ops [⟨(some 58),.mov (.tmp 0),none⟩,
  ⟨(some 59),.call 233 [(.tmp 58)],none⟩])
 (.ops [⟨(some 28),.mov (.tmp 0),none⟩,
  ⟨(some 29),.call 99 [(.tmp 28),(.con (.int .i64 7))],none⟩])))))))))
 (.ops [⟨(some 60),.mov (.tmp 0),none⟩,
  ⟨(some 61),.nilChk (.tmp 60),none⟩,
  ⟨(some 62),.fieldAddr 1 (.tmp 61),none⟩,
  ⟨(some 63),.load false 1 (.tmp 62),none⟩,
  ⟨(some 64),.bin .sub (.tmp 63) (.con (.int .i64 1)),none⟩,
  ⟨(some 65),.nilChk (.tmp 60),none⟩,
  ⟨(some 66),.fieldAddr 1 (.tmp 65),none⟩,
  ⟨none,.store 1 (.tmp 66) (.tmp 64),none⟩])))))
def a196 : AFunc:=⟨1,c196,[]⟩
theorem k196 : cFunc Tryz.prog Tryz.f196=some a196:=by kernel_rfl
/- 197: tendril/query.isTerm -/
def c197l0 : ACode:=(.seq (.ops [⟨(some 7),.bin .lss (.tmp 6) (.tmp 5),none⟩])
 (.seq (.cond (.tmp 7)
 .skip
 (.exit 0))
 (.seq (.block 1 (.seq (.ops [⟨(some 8),.mov (.tmp 6),none⟩,
  ⟨(some 3),.mov (.tmp 8),none⟩])
 (.seq (.ops [⟨(some 9),.mov (.tmp 0),none⟩,
  ⟨(some 10),.mov (.tmp 3),none⟩,
  ⟨(some 11),.idxStr (.tmp 9) (.tmp 10),none⟩,
  ⟨(some 13),.mov (.tmp 0),none⟩,
  ⟨(some 14),.mov (.tmp 3),none⟩,
  ⟨(some 15),.idxStr (.tmp 13) (.tmp 14),none⟩,
  ⟨(some 12),.call 106 [(.tmp 11)],none⟩,
  ⟨(some 16),.bin .neq (.tmp 12) (.tmp 15),none⟩,
  ⟨(some 17),.mov (.tmp 16),none⟩,
  ⟨(some 18),.mov (.tmp 0),(some (17,false))⟩,
  ⟨(some 19),.mov (.tmp 3),(some (17,false))⟩,
  ⟨(some 20),.idxStr (.tmp 18) (.tmp 19),(some (17,false))⟩,
  ⟨(some 21),.bin .eql (.tmp 20) (.con (.int .u8 0)),(some (17,false))⟩,
  ⟨(some 22),.pick (.tmp 17) (.con (.bool true)) (.tmp 21),none⟩])
 (.cond (.tmp 22)
 (.seq (.ops [⟨(some 2),.mov (.con (.bool false)),none⟩])
 .ret)
 .skip))))
 (.ops [⟨(some 23),.bin .add (.tmp 6) (.con (.int .i64 1)),none⟩,
  ⟨(some 6),.mov (.tmp 23),none⟩]))))
def c197 : ACode:=(.seq (.ops [⟨(some 2),.mov (.con (.bool false)),none⟩])
 (.seq (.seq (.ops [⟨(some 4),.mov (.tmp 0),none⟩,
  ⟨(some 5),.lenStr (.tmp 4),none⟩,
  ⟨(some 6),.mov (.con (.int .i64 0)),none⟩])
 (.block 0 (.loop c197l0)))
 (.seq (.ops [⟨(some 24),.mov (.tmp 0),none⟩,
  ⟨(some 25),.bin .neq (.tmp 24) (.con (.str [])),none⟩,
  ⟨(some 26),.mov (.tmp 25),none⟩,
  ⟨(some 27),.mov (.tmp 0),(some (26,true))⟩,
  ⟨(some 28),.lenStr (.tmp 27),(some (26,true))⟩,
  ⟨(some 29),.bin .leq (.tmp 28) (.con (.int .i64 12)),(some (26,true))⟩,
  ⟨(some 30),.pick (.tmp 26) (.tmp 29) (.con (.bool false)),none⟩,
  ⟨(some 2),.mov (.tmp 30),none⟩])
 .ret)))
def a197 : AFunc:=⟨1,c197,[.tmp 2]⟩
theorem k197 : cFunc Tryz.prog Tryz.f197=some a197:=by kernel_rfl
/- 198: slices.pdqsortOrdered[int] -/
def c198l0 : ACode:=(.block 1 (.seq (.ops [⟨(some 19),.mov (.tmp 2),none⟩,
  ⟨(some 20),.mov (.tmp 1),none⟩,
  ⟨(some 21),.bin .sub (.tmp 19) (.tmp 20),none⟩,
  ⟨(some 10),.mov (.tmp 21),none⟩])
 (.seq (.seq (.ops [⟨(some 22),.mov (.tmp 10),none⟩,
  ⟨(some 23),.bin .leq (.tmp 22) (.con (.int .i64 12)),none⟩])
 (.cond (.tmp 23)
 (.seq (.ops [⟨(some 24),.mov (.tmp 0),none⟩,
  ⟨(some 25),.mov (.tmp 1),none⟩,
  ⟨(some 26),.mov (.tmp 2),none⟩,
  ⟨(some 27),.call 234 [(.tmp 24),(.tmp 25),(.tmp 26)],none⟩])
 .ret)
 .skip))
 (.seq (.seq (.ops [⟨(some 28),.mov (.tmp 3),none⟩,
  ⟨(some 29),.bin .eql (.tmp 28) (.con (.int .i64 0)),none⟩])
 (.cond (.tmp 29)
 (.seq (.ops [⟨(some 30),.mov (.tmp 0),none⟩,
  ⟨(some 31),.mov (.tmp 1),none⟩,
  ⟨(some 32),.mov (.tmp 2),none⟩,
  ⟨(some 33),.call 235 [(.tmp 30),(.tmp 31),(.tmp 32)],none⟩])
 .ret)
 .skip))
 (.seq (.seq (.ops [⟨(some 34),.mov (.tmp 8),none⟩,
  ⟨(some 35),.un .not (.tmp 34),none⟩])
 (.cond (.tmp 35)
 (.seq (.ops [⟨(some 36),.mov (.tmp 0),none⟩,
  ⟨(some 37),.mov (.tmp 1),none⟩,
  ⟨(some 38),.mov (.tmp 2),none⟩,
  ⟨(some 39),.call 236 [(.tmp 36),(.tmp 37),(.tmp 38)],none⟩])
 (.ops [⟨(some 40),.mov (.tmp 3),none⟩,
  ⟨(some 41),.bin .sub (.tmp 40) (.con (.int .i64 1)),none⟩,
  ⟨(some 3),.mov (.tmp 41),none⟩]))
 .skip))
 (.seq (.ops [⟨(some 43),.mov (.tmp 0),none⟩,
  ⟨(some 44),.mov (.tmp 1),none⟩,
  ⟨(some 45),.mov (.tmp 2),none⟩,
  ⟨(some 46),.call 237 [(.tmp 43),(.tmp 44),(.tmp 45)],none⟩,
  ⟨(some 42),.mov (.tmp 46),none⟩,
  ⟨(some 47),.extract (.tmp 42) 0,none⟩,
  ⟨(some 48),.extract (.tmp 42) 1,none⟩,
  ⟨(some 11),.mov (.tmp 47),none⟩,
  ⟨(some 12),.mov (.tmp 48),none⟩])
 (.seq (.seq (.ops [⟨(some 49),.mov (.tmp 12),none⟩,
  ⟨(some 50),.bin .eql (.tmp 49) (.con (.int .i64 2)),none⟩])
 (.cond (.tmp 50)
 (.seq (.ops [⟨(some 51),.mov (.tmp 0),none⟩,
  ⟨(some 52),.mov (.tmp 1),none⟩,
  ⟨(some 53),.mov (.tmp 2),none⟩,
  ⟨(some 54),.call 238 [(.tmp 51),(.tmp 52),(.tmp 53)],none⟩])
 (.seq (.ops [⟨(some 55),.mov (.tmp 2),none⟩,
  ⟨(some 56),.bin .sub (.tmp 55) (.con (.int .i64 1)),none⟩,
  ⟨(some 57),.mov (.tmp 11),none⟩,
  ⟨(some 58),.mov (.tmp 1),none⟩,
  ⟨(some 59),.bin .sub (.tmp 57) (.tmp 58),none⟩,
  ⟨(some 60),.bin .sub (.tmp 56) (.tmp 59),none⟩,
  ⟨(some 11),.mov (.tmp 60),none⟩])
 (.ops [⟨(some 12),.mov (.con (.int .i64 1)),none⟩])))
 .skip))
 (.seq (.seq (.ops [⟨(some 61),.mov (.tmp 8),none⟩,
  ⟨(some 62),.mov (.tmp 61),none⟩,
  ⟨(some 63),.mov (.tmp 9),(some (62,true))⟩,
  ⟨(some 64),.pick (.tmp 62) (.tmp 63) (.con (.bool false)),none⟩,
  ⟨(some 65),.mov (.tmp 64),none⟩,
  ⟨(some 66),.mov (.tmp 12),(some (65,true))⟩,
  ⟨(some 67),.bin .eql (.tmp 66) (.con (.int .i64 1)),(some (65,true))⟩,
  ⟨(some 68),.pick (.tmp 65) (.tmp 67) (.con (.bool false)),none⟩])
 (.cond (.tmp 68)
 (.seq (.ops [⟨(some 69),.mov (.tmp 0),none⟩,
  ⟨(some 70),.mov (.tmp 1),none⟩,
  ⟨(some 71),.mov (.tmp 2),none⟩,
  ⟨(some 72),.call 239 [(.tmp 69),(.tmp 70),(.tmp 71)],none⟩])
 (.cond (.tmp 72)
 .ret
 .skip))
 .skip))
 (.seq (.seq (.ops [⟨(some 73),.mov (.tmp 1),none⟩,
  ⟨(some 74),.bin .gtr (.tmp 73) (.con (.int .i64 0)),none⟩,
  ⟨(some 75),.mov (.tmp 74),none⟩,
  ⟨(some 76),.mov (.tmp 0),(some (75,true))⟩,
  ⟨(some 77),.mov (.tmp 1),(some (75,true))⟩,
  ⟨(some 78),.bin .sub (.tmp 77) (.con (.int .i64 1)),(some (75,true))⟩,
  ⟨(some 79),.idxAddr 1 (.tmp 76) (.tmp 78),(some (75,true))⟩,
  ⟨(some 80),.load false 1 (.tmp 79),(some (75,true))⟩,
  ⟨(some 81),.mov (.tmp 0),(some (75,true))⟩,
  ⟨(some 82),.mov (.tmp 11),(some (75,true))⟩,
  ⟨(some 83),.idxAddr 1 (.tmp 81) (.tmp 82),(some (75,true))⟩,
  ⟨(some 84),.load false 1 (.tmp 83),(some (75,true))⟩,
  ⟨(some 85),.call 170 [(.tmp 80),(.tmp 84)],(some (75,true))⟩,
  ⟨(some 86),.un .not (.tmp 85),(some (75,true))⟩,
  ⟨(some 87),.pick (.tmp 75) (.tmp 86) (.con (.bool false)),none⟩])
 (.cond (.tmp 87)
 (.seq (.ops [⟨(some 88),.mov (.tmp 0),none⟩,
  ⟨(some 89),.mov (.tmp 1),none⟩,
  ⟨(some 90),.mov (.tmp 2),none⟩,
  ⟨(some 91),.mov (.tmp 11),none⟩,
  ⟨(some 92),.call 240 [(.tmp 88),(.tmp 89),(.tmp 90),(.tmp 91)],none⟩,
  ⟨(some 13),.mov (.tmp 92),none⟩])
 (.seq (.ops [⟨(some 93),.mov (.tmp 13),none⟩,
  ⟨(some 1),.mov (.tmp 93),none⟩])
 (.exit 1)))
 .skip))
 (.seq (.ops [⟨(some 95),.mov (.tmp 0),none⟩,
  ⟨(some 96),.mov (.tmp 1),none⟩,
  ⟨(some 97),.mov (.tmp 2),none⟩,
  ⟨(some 98),.mov (.tmp 11),none⟩,
  ⟨(some 99),.call 241 [(.tmp 95),(.tmp 96),(.tmp 97),(.tmp 98)],none⟩,
  ⟨(some 94),.mov (.tmp 99),none⟩,
  ⟨(some 100),.extract (.tmp 94) 0,none⟩,
  ⟨(some 101),.extract (.tmp 94) 1,none⟩,
  ⟨(some 14),.mov (.tmp 100),none⟩,
  ⟨(some 15),.mov (.tmp 101),none⟩])
 (.seq (.ops [⟨(some 102),.mov (.tmp 15),none⟩,
  ⟨(some 9),.mov (.tmp 102),none⟩])
 (.seq (.ops [⟨(some 103),.mov (.tmp 14),none⟩,
  ⟨(some 104),.mov (.tmp 1),none⟩,
  ⟨(some 105),.bin .sub (.tmp 103) (.tmp 104),none⟩,
  ⟨(some 106),.mov (.tmp 2),none⟩,
  ⟨(some 107),.mov (.tmp 14),none⟩,
  ⟨(some 108),.bin .sub (.tmp 106) (.tmp 107),none⟩,
  ⟨(some 16),.mov (.tmp 105),none⟩,
  ⟨(some 17),.mov (.tmp 108),none⟩])
 (.seq (.ops [⟨(some 109),.mov (.tmp 10),none⟩,
  ⟨(some 110),.bin .quo (.tmp 109) (.con (.int .i64 8)),none⟩,
  ⟨(some 18),.mov (.tmp 110),none⟩])
 (.seq (.ops [⟨(some 111),.mov (.tmp 16),none⟩,
  ⟨(some 112),.mov (.tmp 17),none⟩,
  ⟨(some 113),.bin .lss (.tmp 111) (.tmp 112),none⟩])
 (.cond (.tmp 113)
 (.seq (.ops [⟨(some 114),.mov (.tmp 16),none⟩,
  ⟨(some 115),.mov (.tmp 18),none⟩,
  ⟨(some 116),.bin .geq (.tmp 114) (.tmp 115),none⟩,
  ⟨(some 8),.mov (.tmp 116),none⟩])
 (.seq (.ops [⟨(some 117),.mov (.tmp 0),none⟩,
  ⟨(some 118),.mov (.tmp 1),none⟩,
  ⟨(some 119),.mov (.tmp 14),none⟩,
  ⟨(some 120),.mov (.tmp 3),none⟩,
  ⟨(some 121),.call 198 [(.tmp 117),(.tmp 118),(.tmp 119),(.tmp 120)],none⟩])
 (.ops [⟨(some 122),.mov (.tmp 14),none⟩,
  ⟨(some 123),.bin .add (.tmp 122) (.con (.int .i64 1)),none⟩,
  ⟨(some 1),.mov (.tmp 123),none⟩])))
 (.seq (.ops [⟨(some 124),.mov (.tmp 17),none⟩,
  ⟨(some 125),.mov (.tmp 18),none⟩,
  ⟨(some 126),.bin .geq (.tmp 124) (.tmp 125),none⟩,
  ⟨(some 8),.mov (.tmp 126),none⟩])
 (.seq (.ops [⟨(some 127),.mov (.tmp 0),none⟩,
  ⟨(some 128),.mov (.tmp 14),none⟩,
  ⟨(some 129),.bin .add (.tmp 128) (.con (.int .i64 1)),none⟩,
  ⟨(some 130),.mov (.tmp 2),none⟩,
  ⟨(some 131),.mov (.tmp 3),none⟩,
  ⟨(some 132),.call 198 [(.tmp 127),(.tmp 129),(.tmp 130),(.tmp 131)],none⟩])
 (.ops [⟨(some 133),.mov (.tmp 14),none⟩,
  ⟨(some 2),.mov (.tmp 133),none⟩]))))))))))))))))))
def c198 : ACode:=(.seq (.ops [⟨(some 8),.mov (.con (.bool true)),none⟩])
 (.seq (.ops [⟨(some 9),.mov (.con (.bool true)),none⟩])
 (.block 0 (.loop c198l0))))
def a198 : AFunc:=⟨4,c198,[]⟩
theorem k198 : cFunc Tryz.prog Tryz.f198=some a198:=by kernel_rfl
/- 199: (*tendril/scan.Scan).begin -/
def c199 : ACode:=(.seq (.ops [⟨(some 2),.mov (.tmp 0),none⟩,
  ⟨(some 3),.mov (.tmp 0),none⟩,
  ⟨(some 4),.nilChk (.tmp 2),none⟩,
  ⟨(some 5),.fieldAddr 12 (.tmp 4),none⟩,
  ⟨none,.store 1 (.tmp 5) (.con .nilSlice),none⟩,
  ⟨(some 6),.nilChk (.tmp 3),none⟩,
  ⟨(some 7),.fieldAddr 11 (.tmp 6),none⟩,
  ⟨none,.store 1 (.tmp 7) (.con (.str [])),none⟩])
 (.ops [⟨(some 8),.mov (.tmp 0),none⟩,
  ⟨(some 9),.mov (.tmp 0),none⟩,
  ⟨(some 10),.nilChk (.tmp 9),none⟩,
  ⟨(some 11),.fieldAddr 3 (.tmp 10),none⟩,
  ⟨(some 12),.load false 1 (.tmp 11),none⟩,
  ⟨(some 13),.build [(.int .i64 0),(.int .i64 0),(.int .i64 0),(.int .i64 0),(.int .u64 0),.nilSlice] [(0,1,(.con (.int .i64 1))),(1,1,(.tmp 12))],none⟩,
  ⟨(some 14),.call 102 [(.tmp 8),(.tmp 13),(.con (.func (.func 242) [] []))],none⟩]))
def a199 : AFunc:=⟨1,c199,[]⟩
theorem k199 : cFunc Tryz.prog Tryz.f199=some a199:=by kernel_rfl
/- 200: (*tendril/arena.Arena).Load -/
def c200 : ACode:=(.seq (.ops [⟨(some 4),.mov (.con .nilSlice),none⟩,
  ⟨(some 5),.mov (.con (.int .i64 0)),none⟩])
 (.seq (.ops [⟨(some 9),.mov (.tmp 0),none⟩,
  ⟨(some 10),.mov (.tmp 1),none⟩,
  ⟨(some 11),.call 243 [(.tmp 9),(.tmp 10)],none⟩,
  ⟨(some 8),.mov (.tmp 11),none⟩,
  ⟨(some 12),.extract (.tmp 8) 0,none⟩,
  ⟨(some 13),.extract (.tmp 8) 1,none⟩,
  ⟨(some 6),.mov (.tmp 12),none⟩,
  ⟨(some 7),.mov (.tmp 13),none⟩])
 (.seq (.seq (.ops [⟨(some 14),.mov (.tmp 7),none⟩,
  ⟨(some 15),.bin .neq (.tmp 14) (.con (.int .i64 0)),none⟩])
 (.cond (.tmp 15)
 (.seq (.ops [⟨(some 16),.mov (.tmp 7),none⟩,
  ⟨(some 4),.mov (.con .nilSlice),none⟩,
  ⟨(some 5),.mov (.tmp 16),none⟩])
 .ret)
 .skip))
 (.seq (.ops [⟨(some 17),.mov (.tmp 6),none⟩,
  ⟨(some 18),.nilChk (.tmp 17),none⟩,
  ⟨(some 19),.fieldAddr 3 (.tmp 18),none⟩,
  ⟨(some 20),.load false 1 (.tmp 19),none⟩,
  ⟨(some 21),.call 186 [(.tmp 20)],none⟩,
  ⟨(some 4),.mov (.tmp 21),none⟩,
  ⟨(some 5),.mov (.con (.int .i64 0)),none⟩])
 .ret))))
def a200 : AFunc:=⟨2,c200,[.tmp 4,.tmp 5]⟩
theorem k200 : cFunc Tryz.prog Tryz.f200=some a200:=by kernel_rfl
/- 203: (*tendril/arena.Arena).Free -/
def c203 : ACode:=(.seq (.ops [⟨(some 4),.mov (.con (.int .i64 0)),none⟩])
 (.seq (.ops [⟨(some 12),.mov (.tmp 0),none⟩,
  ⟨(some 13),.mov (.tmp 1),none⟩,
  ⟨(some 14),.call 243 [(.tmp 12),(.tmp 13)],none⟩,
  ⟨(some 11),.mov (.tmp 14),none⟩,
  ⟨(some 15),.extract (.tmp 11) 0,none⟩,
  ⟨(some 16),.extract (.tmp 11) 1,none⟩,
  ⟨(some 5),.mov (.tmp 15),none⟩,
  ⟨(some 6),.mov (.tmp 16),none⟩])
 (.seq (.seq (.ops [⟨(some 17),.mov (.tmp 6),none⟩,
  ⟨(some 18),.bin .neq (.tmp 17) (.con (.int .i64 0)),none⟩])
 (.cond (.tmp 18)
 (.seq (.ops [⟨(some 19),.mov (.tmp 6),none⟩,
  ⟨(some 4),.mov (.tmp 19),none⟩])
 .ret)
 .skip))
 (.seq (.ops [⟨(some 20),.mov (.tmp 5),none⟩,
  ⟨(some 21),.mov (.tmp 5),none⟩,
  ⟨(some 22),.nilChk (.tmp 21),none⟩,
  ⟨(some 23),.fieldAddr 0 (.tmp 22),none⟩,
  ⟨(some 24),.load false 1 (.tmp 23),none⟩,
  ⟨(some 25),.call 124 [(.tmp 24)],none⟩,
  ⟨(some 26),.nilChk (.tmp 20),none⟩,
  ⟨(some 27),.fieldAddr 3 (.tmp 26),none⟩,
  ⟨none,.store 1 (.tmp 27) (.tmp 25),none⟩])
 (.seq (.ops [⟨(some 28),.mov (.tmp 5),none⟩,
  ⟨(some 29),.nilChk (.tmp 28),none⟩,
  ⟨(some 30),.fieldAddr 1 (.tmp 29),none⟩,
  ⟨(some 31),.load false 1 (.tmp 30),none⟩,
  ⟨(some 32),.bin .add (.tmp 31) (.con (.int .i64 1)),none⟩,
  ⟨(some 33),.nilChk (.tmp 28),none⟩,
  ⟨(some 34),.fieldAddr 1 (.tmp 33),none⟩,
  ⟨none,.store 1 (.tmp 34) (.tmp 32),none⟩])
 (.seq (.ops [⟨(some 35),.mov (.tmp 5),none⟩,
  ⟨(some 36),.nilChk (.tmp 35),none⟩,
  ⟨(some 37),.fieldAddr 2 (.tmp 36),none⟩,
  ⟨none,.store 1 (.tmp 37) (.con (.bool false)),none⟩])
 (.seq (.seq (.ops [⟨(some 39),.mov (.tmp 1),none⟩,
  ⟨(some 40),.call 204 [(.tmp 39)],none⟩,
  ⟨(some 38),.mov (.tmp 40),none⟩,
  ⟨(some 41),.extract (.tmp 38) 0,none⟩,
  ⟨(some 42),.extract (.tmp 38) 1,none⟩,
  ⟨(some 43),.extract (.tmp 38) 2,none⟩,
  ⟨(some 44),.extract (.tmp 38) 3,none⟩,
  ⟨(some 7),.mov (.tmp 41),none⟩,
  ⟨(some 8),.mov (.tmp 42),none⟩,
  ⟨(some 9),.mov (.tmp 43),none⟩,
  ⟨(some 10),.mov (.tmp 44),none⟩])
 (.seq (.ops [⟨(some 45),.mov (.tmp 5),none⟩,
  ⟨(some 46),.nilChk (.tmp 45),none⟩,
  ⟨(some 47),.fieldAddr 1 (.tmp 46),none⟩,
  ⟨(some 48),.load false 1 (.tmp 47),none⟩,
  ⟨(some 49),.bin .leq (.tmp 48) (.con (.int .i64 1073741824)),none⟩])
 (.cond (.tmp 49)
 (.ops [⟨(some 50),.mov (.tmp 0),none⟩,
  ⟨(some 51),.mov (.tmp 5),none⟩,
  ⟨(some 52),.nilChk (.tmp 51),none⟩,
  ⟨(some 53),.fieldAddr 0 (.tmp 52),none⟩,
  ⟨(some 54),.load false 1 (.tmp 53),none⟩,
  ⟨(some 55),.nilChk (.tmp 50),none⟩,
  ⟨(some 56),.fieldAddr 1 (.tmp 55),none⟩,
  ⟨(some 57),.idxAddrArr 5 1 (.tmp 56) (.tmp 54),none⟩,
  ⟨(some 58),.load false 1 (.tmp 57),none⟩,
  ⟨(some 59),.mov (.tmp 7),none⟩,
  ⟨(some 60),.call 47 [(.tmp 58),(.tmp 59)],none⟩])
 .skip)))
 (.seq (.ops [⟨(some 4),.mov (.con (.int .i64 0)),none⟩])
 .ret))))))))
def a203 : AFunc:=⟨2,c203,[.tmp 4]⟩
theorem k203 : cFunc Tryz.prog Tryz.f203=some a203:=by kernel_rfl
/- 123: (*tendril/epoch.Epochs).of -/
def c123 : ACode:=(.seq (.ops [⟨(some 4),.mov (.con .nilPtr),none⟩])
 (.seq (.seq (.ops [⟨(some 5),.mov (.tmp 1),none⟩,
  ⟨(some 6),.bin .lss (.tmp 5) (.con (.int .i64 0)),none⟩,
  ⟨(some 7),.mov (.tmp 6),none⟩,
  ⟨(some 8),.mov (.tmp 1),(some (7,false))⟩,
  ⟨(some 9),.mov (.tmp 0),(some (7,false))⟩,
  ⟨(some 10),.nilChk (.tmp 9),(some (7,false))⟩,
  ⟨(some 11),.fieldAddr 2 (.tmp 10),(some (7,false))⟩,
  ⟨(some 12),.load false 1 (.tmp 11),(some (7,false))⟩,
  ⟨(some 13),.lenSlice (.tmp 12),(some (7,false))⟩,
  ⟨(some 14),.bin .geq (.tmp 8) (.tmp 13),(some (7,false))⟩,
  ⟨(some 15),.pick (.tmp 7) (.con (.bool true)) (.tmp 14),none⟩])
 (.cond (.tmp 15)
 (.seq (.ops [⟨(some 4),.mov (.con .nilPtr),none⟩])
 .ret)
 .skip))
 (.seq (.ops [⟨(some 16),.mov (.tmp 0),none⟩,
  ⟨(some 17),.nilChk (.tmp 16),none⟩,
  ⟨(some 18),.fieldAddr 2 (.tmp 17),none⟩,
  ⟨(some 19),.load false 1 (.tmp 18),none⟩,
  ⟨(some 20),.mov (.tmp 1),none⟩,
  ⟨(some 21),.idxAddr 2 (.tmp 19) (.tmp 20),none⟩,
  ⟨(some 4),.mov (.tmp 21),none⟩])
 .ret)))
def a123 : AFunc:=⟨2,c123,[.tmp 4]⟩
theorem k123 : cFunc Tryz.prog Tryz.f123=some a123:=by kernel_rfl
/- 204: tendril/word.Parts -/
def c204 : ACode:=(.seq (.ops [⟨(some 2),.mov (.con (.int .i64 0)),none⟩,
  ⟨(some 3),.mov (.con (.int .i64 0)),none⟩,
  ⟨(some 4),.mov (.con (.bool false)),none⟩,
  ⟨(some 5),.mov (.con (.bool false)),none⟩])
 (.seq (.ops [⟨(some 6),.mov (.tmp 0),none⟩,
  ⟨(some 7),.bin .and (.tmp 6) (.con (.int .i64 65535)),none⟩,
  ⟨(some 8),.mov (.tmp 0),none⟩,
  ⟨(some 9),.bin .shr (.tmp 8) (.con (.int .u64 16)),none⟩,
  ⟨(some 10),.bin .and (.tmp 9) (.con (.int .i64 4294967295)),none⟩,
  ⟨(some 11),.mov (.tmp 0),none⟩,
  ⟨(some 12),.bin .and (.tmp 11) (.con (.int .i64 281474976710656)),none⟩,
  ⟨(some 13),.bin .neq (.tmp 12) (.con (.int .i64 0)),none⟩,
  ⟨(some 2),.mov (.tmp 7),none⟩,
  ⟨(some 3),.mov (.tmp 10),none⟩,
  ⟨(some 4),.mov (.tmp 13),none⟩])
 (.seq (.seq (.ops [⟨(some 14),.mov (.tmp 0),none⟩,
  ⟨(some 15),.bin .eql (.tmp 14) (.con (.int .i64 0)),none⟩,
  ⟨(some 16),.mov (.tmp 15),none⟩,
  ⟨(some 17),.mov (.tmp 2),(some (16,false))⟩,
  ⟨(some 18),.mov (.tmp 3),(some (16,false))⟩,
  ⟨(some 19),.mov (.tmp 4),(some (16,false))⟩,
  ⟨(some 20),.call 127 [(.tmp 17),(.tmp 18),(.tmp 19)],(some (16,false))⟩,
  ⟨(some 21),.mov (.tmp 0),(some (16,false))⟩,
  ⟨(some 22),.bin .neq (.tmp 20) (.tmp 21),(some (16,false))⟩,
  ⟨(some 23),.pick (.tmp 16) (.con (.bool true)) (.tmp 22),none⟩])
 (.cond (.tmp 23)
 (.seq (.ops [⟨(some 2),.mov (.con (.int .i64 0)),none⟩,
  ⟨(some 3),.mov (.con (.int .i64 0)),none⟩,
  ⟨(some 4),.mov (.con (.bool false)),none⟩,
  ⟨(some 5),.mov (.con (.bool false)),none⟩])
 .ret)
 .skip))
 (.seq (.ops [⟨(some 24),.mov (.tmp 2),none⟩,
  ⟨(some 25),.mov (.tmp 3),none⟩,
  ⟨(some 26),.mov (.tmp 4),none⟩,
  ⟨(some 2),.mov (.tmp 24),none⟩,
  ⟨(some 3),.mov (.tmp 25),none⟩,
  ⟨(some 4),.mov (.tmp 26),none⟩,
  ⟨(some 5),.mov (.con (.bool true)),none⟩])
 .ret))))
def a204 : AFunc:=⟨1,c204,[.tmp 2,.tmp 3,.tmp 4,.tmp 5]⟩
theorem k204 : cFunc Tryz.prog Tryz.f204=some a204:=by kernel_rfl
/- 205: (*tendril/epoch.Epochs).Collect -/
def c205 : ACode:=(.seq (.ops [⟨(some 4),.mov (.con (.int .i64 0)),none⟩,
  ⟨(some 5),.mov (.con (.bool false)),none⟩])
 (.seq (.ops [⟨(some 8),.mov (.tmp 0),none⟩,
  ⟨(some 9),.mov (.tmp 1),none⟩,
  ⟨(some 10),.call 123 [(.tmp 8),(.tmp 9)],none⟩,
  ⟨(some 6),.mov (.tmp 10),none⟩])
 (.seq (.seq (.ops [⟨(some 11),.mov (.tmp 6),none⟩,
  ⟨(some 12),.eqNil 0 false (.tmp 11) (.con .nilPtr),none⟩,
  ⟨(some 13),.mov (.tmp 12),none⟩,
  ⟨(some 14),.mov (.tmp 6),(some (13,false))⟩,
  ⟨(some 15),.nilChk (.tmp 14),(some (13,false))⟩,
  ⟨(some 16),.fieldAddr 1 (.tmp 15),(some (13,false))⟩,
  ⟨(some 17),.load false 1 (.tmp 16),(some (13,false))⟩,
  ⟨(some 18),.lenSlice (.tmp 17),(some (13,false))⟩,
  ⟨(some 19),.bin .eql (.tmp 18) (.con (.int .i64 0)),(some (13,false))⟩,
  ⟨(some 20),.pick (.tmp 13) (.con (.bool true)) (.tmp 19),none⟩,
  ⟨(some 21),.mov (.tmp 20),none⟩,
  ⟨(some 22),.mov (.tmp 0),(some (21,false))⟩,
  ⟨(some 23),.nilChk (.tmp 22),(some (21,false))⟩,
  ⟨(some 24),.fieldAddr 0 (.tmp 23),(some (21,false))⟩,
  ⟨(some 25),.load false 1 (.tmp 24),(some (21,false))⟩,
  ⟨(some 26),.mov (.tmp 6),(some (21,false))⟩,
  ⟨(some 27),.nilChk (.tmp 26),(some (21,false))⟩,
  ⟨(some 28),.fieldAddr 1 (.tmp 27),(some (21,false))⟩,
  ⟨(some 29),.load false 1 (.tmp 28),(some (21,false))⟩,
  ⟨(some 30),.idxAddr 2 (.tmp 29) (.con (.int .i64 0)),(some (21,false))⟩,
  ⟨(some 31),.fieldAddr 1 (.tmp 30),(some (21,false))⟩,
  ⟨(some 32),.load false 1 (.tmp 31),(some (21,false))⟩,
  ⟨(some 33),.bin .sub (.tmp 25) (.tmp 32),(some (21,false))⟩,
  ⟨(some 34),.bin .lss (.tmp 33) (.con (.int .i64 2)),(some (21,false))⟩,
  ⟨(some 35),.pick (.tmp 21) (.con (.bool true)) (.tmp 34),none⟩])
 (.cond (.tmp 35)
 (.seq (.ops [⟨(some 4),.mov (.con (.int .i64 0)),none⟩,
  ⟨(some 5),.mov (.con (.bool false)),none⟩])
 .ret)
 .skip))
 (.seq (.ops [⟨(some 36),.mov (.tmp 6),none⟩,
  ⟨(some 37),.nilChk (.tmp 36),none⟩,
  ⟨(some 38),.fieldAddr 1 (.tmp 37),none⟩,
  ⟨(some 39),.load false 1 (.tmp 38),none⟩,
  ⟨(some 40),.idxAddr 2 (.tmp 39) (.con (.int .i64 0)),none⟩,
  ⟨(some 41),.fieldAddr 0 (.tmp 40),none⟩,
  ⟨(some 42),.load false 1 (.tmp 41),none⟩,
  ⟨(some 7),.mov (.tmp 42),none⟩])
 (.seq (.ops [⟨(some 43),.mov (.tmp 6),none⟩,
  ⟨(some 44),.mov (.tmp 6),none⟩,
  ⟨(some 45),.nilChk (.tmp 44),none⟩,
  ⟨(some 46),.fieldAddr 1 (.tmp 45),none⟩,
  ⟨(some 47),.load false 1 (.tmp 46),none⟩,
  ⟨(some 48),.slc 2 (.tmp 47) (some (.con (.int .i64 1))) none none,none⟩,
  ⟨(some 49),.call 244 [(.tmp 48)],none⟩,
  ⟨(some 50),.nilChk (.tmp 43),none⟩,
  ⟨(some 51),.fieldAddr 1 (.tmp 50),none⟩,
  ⟨none,.store 1 (.tmp 51) (.tmp 49),none⟩])
 (.seq (.ops [⟨(some 52),.mov (.tmp 7),none⟩,
  ⟨(some 4),.mov (.tmp 52),none⟩,
  ⟨(some 5),.mov (.con (.bool true)),none⟩])
 .ret))))))
def a205 : AFunc:=⟨2,c205,[.tmp 4,.tmp 5]⟩
theorem k205 : cFunc Tryz.prog Tryz.f205=some a205:=by kernel_rfl
/- 206: strings.splitSeq$1 -/
def c206l0 : ACode:=(.seq (.seq (.ops [⟨(some 12),.load false 1 (.tmp 2),none⟩,
  ⟨(some 13),.lenStr (.tmp 12),none⟩,
  ⟨(some 14),.bin .gtr (.tmp 13) (.con (.int .i64 0)),none⟩])
 (.cond (.tmp 14)
 .skip
 (.exit 0)))
 (.block 1 (.seq (.ops [⟨(some 16),.load false 1 (.tmp 2),none⟩,
  ⟨(some 17),.call 207 [(.tmp 16)],none⟩,
  ⟨(some 15),.mov (.tmp 17),none⟩,
  ⟨(some 18),.extract (.tmp 15) 0,none⟩,
  ⟨(some 19),.extract (.tmp 15) 1,none⟩,
  ⟨(some 5),.mov (.tmp 18),none⟩,
  ⟨(some 6),.mov (.tmp 19),none⟩])
 (.seq (.seq (.ops [⟨(some 20),.mov (.tmp 0),none⟩,
  ⟨(some 21),.load false 1 (.tmp 2),none⟩,
  ⟨(some 22),.mov (.tmp 6),none⟩,
  ⟨(some 23),.slcStr (.tmp 21) none (some (.tmp 22)),none⟩,
  ⟨(some 24),.callV (.tmp 20) [(.tmp 23)],none⟩,
  ⟨(some 25),.un .not (.tmp 24),none⟩])
 (.cond (.tmp 25)
 .ret
 .skip))
 (.ops [⟨(some 26),.load false 1 (.tmp 2),none⟩,
  ⟨(some 27),.mov (.tmp 6),none⟩,
  ⟨(some 28),.slcStr (.tmp 26) (some (.tmp 27)) none,none⟩,
  ⟨none,.store 1 (.tmp 2) (.tmp 28),none⟩])))))
def c206l1 : ACode:=(.block 3 (.seq (.ops [⟨(some 29),.load false 1 (.tmp 2),none⟩,
  ⟨(some 30),.load false 1 (.tmp 1),none⟩,
  ⟨(some 31),.call 208 [(.tmp 29),(.tmp 30)],none⟩,
  ⟨(some 7),.mov (.tmp 31),none⟩])
 (.seq (.seq (.ops [⟨(some 32),.mov (.tmp 7),none⟩,
  ⟨(some 33),.bin .lss (.tmp 32) (.con (.int .i64 0)),none⟩])
 (.cond (.tmp 33)
 (.exit 2)
 .skip))
 (.seq (.ops [⟨(some 34),.load false 1 (.tmp 2),none⟩,
  ⟨(some 35),.mov (.tmp 7),none⟩,
  ⟨(some 36),.load false 1 (.tmp 3),none⟩,
  ⟨(some 37),.bin .add (.tmp 35) (.tmp 36),none⟩,
  ⟨(some 38),.slcStr (.tmp 34) none (some (.tmp 37)),none⟩,
  ⟨(some 8),.mov (.tmp 38),none⟩])
 (.seq (.seq (.ops [⟨(some 39),.mov (.tmp 0),none⟩,
  ⟨(some 40),.mov (.tmp 8),none⟩,
  ⟨(some 41),.callV (.tmp 39) [(.tmp 40)],none⟩,
  ⟨(some 42),.un .not (.tmp 41),none⟩])
 (.cond (.tmp 42)
 .ret
 .skip))
 (.ops [⟨(some 43),.load false 1 (.tmp 2),none⟩,
  ⟨(some 44),.mov (.tmp 7),none⟩,
  ⟨(some 45),.load false 1 (.tmp 1),none⟩,
  ⟨(some 46),.lenStr (.tmp 45),none⟩,
  ⟨(some 47),.bin .add (.tmp 44) (.tmp 46),none⟩,
  ⟨(some 48),.slcStr (.tmp 43) (some (.tmp 47)) none,none⟩,
  ⟨none,.store 1 (.tmp 2) (.tmp 48),none⟩]))))))
def c206 : ACode:=(.seq (.seq (.ops [⟨(some 9),.load false 1 (.tmp 1),none⟩,
  ⟨(some 10),.lenStr (.tmp 9),none⟩,
  ⟨(some 11),.bin .eql (.tmp 10) (.con (.int .i64 0)),none⟩])
 (.cond (.tmp 11)
 (.seq (.block 0 (.loop c206l0))
 .ret)
 .skip))
 (.seq (.block 2 (.loop c206l1))
 (.ops [⟨(some 49),.mov (.tmp 0),none⟩,
  ⟨(some 50),.load false 1 (.tmp 2),none⟩,
  ⟨(some 51),.callV (.tmp 49) [(.tmp 50)],none⟩])))
def a206 : AFunc:=⟨4,c206,[]⟩
theorem k206 : cFunc Tryz.prog Tryz.f206=some a206:=by kernel_rfl
/- 219: math/bits.Len64 -/
def c219 : ACode:=(.seq (.ops [⟨(some 2),.mov (.con (.int .i64 0)),none⟩])
 (.seq (.seq (.ops [⟨(some 3),.mov (.tmp 0),none⟩,
  ⟨(some 4),.bin .geq (.tmp 3) (.con (.int .u64 4294967296)),none⟩])
 (.cond (.tmp 4)
 (.seq (.ops [⟨(some 5),.mov (.tmp 0),none⟩,
  ⟨(some 6),.bin .shr (.tmp 5) (.con (.int .u64 32)),none⟩,
  ⟨(some 0),.mov (.tmp 6),none⟩])
 (.ops [⟨(some 2),.mov (.con (.int .i64 32)),none⟩]))
 .skip))
 (.seq (.seq (.ops [⟨(some 7),.mov (.tmp 0),none⟩,
  ⟨(some 8),.bin .geq (.tmp 7) (.con (.int .u64 65536)),none⟩])
 (.cond (.tmp 8)
 (.seq (.ops [⟨(some 9),.mov (.tmp 0),none⟩,
  ⟨(some 10),.bin .shr (.tmp 9) (.con (.int .u64 16)),none⟩,
  ⟨(some 0),.mov (.tmp 10),none⟩])
 (.ops [⟨(some 11),.mov (.tmp 2),none⟩,
  ⟨(some 12),.bin .add (.tmp 11) (.con (.int .i64 16)),none⟩,
  ⟨(some 2),.mov (.tmp 12),none⟩]))
 .skip))
 (.seq (.seq (.ops [⟨(some 13),.mov (.tmp 0),none⟩,
  ⟨(some 14),.bin .geq (.tmp 13) (.con (.int .u64 256)),none⟩])
 (.cond (.tmp 14)
 (.seq (.ops [⟨(some 15),.mov (.tmp 0),none⟩,
  ⟨(some 16),.bin .shr (.tmp 15) (.con (.int .u64 8)),none⟩,
  ⟨(some 0),.mov (.tmp 16),none⟩])
 (.ops [⟨(some 17),.mov (.tmp 2),none⟩,
  ⟨(some 18),.bin .add (.tmp 17) (.con (.int .i64 8)),none⟩,
  ⟨(some 2),.mov (.tmp 18),none⟩]))
 .skip))
 (.seq (.ops [⟨(some 19),.mov (.tmp 2),none⟩,
  ⟨(some 20),.mov (.tmp 0),none⟩,
  ⟨(some 21),.toInt .u8 (.tmp 20),none⟩,
  ⟨(some 22),.idxStr (.con (.str [0,1,2,2,3,3,3,3,4,4,4,4,4,4,4,4,5,5,5,5,5,5,5,5,5,5,5,5,5,5,5,5,6,6,6,6,6,6,6,6,6,6,6,6,6,6,6,6,6,6,6,6,6,6,6,6,6,6,6,6,6,6,6,6,7,7,7,7,7,7,7,7,7,7,7,7,7,7,7,7,7,7,7,7,7,7,7,7,7,7,7,7,7,7,7,7,7,7,7,7,7,7,7,7,7,7,7,7,7,7,7,7,7,7,7,7,7,7,7,7,7,7,7,7,7,7,7,7,8,8,8,8,8,8,8,8,8,8,8,8,8,8,8,8,8,8,8,8,8,8,8,8,8,8,8,8,8,8,8,8,8,8,8,8,8,8,8,8,8,8,8,8,8,8,8,8,8,8,8,8,8,8,8,8,8,8,8,8,8,8,8,8,8,8,8,8,8,8,8,8,8,8,8,8,8,8,8,8,8,8,8,8,8,8,8,8,8,8,8,8,8,8,8,8,8,8,8,8,8,8,8,8,8,8,8,8,8,8,8,8,8,8,8,8,8,8,8,8,8,8,8,8,8,8,8,8])) (.tmp 21),none⟩,
  ⟨(some 23),.toInt .i64 (.tmp 22),none⟩,
  ⟨(some 24),.bin .add (.tmp 19) (.tmp 23),none⟩,
  ⟨(some 2),.mov (.tmp 24),none⟩])
 .ret)))))
def a219 : AFunc:=⟨1,c219,[.tmp 2]⟩
theorem k219 : cFunc Tryz.prog Tryz.f219=some a219:=by kernel_rfl
/- 209: slices.insertionSortOrdered[string] -/
def c209l0 : ACode:=(.seq (.seq (.ops [⟨(some 16),.mov (.tmp 7),none⟩,
  ⟨(some 17),.mov (.tmp 1),none⟩,
  ⟨(some 18),.bin .gtr (.tmp 16) (.tmp 17),none⟩,
  ⟨(some 19),.mov (.tmp 18),none⟩,
  ⟨(some 20),.mov (.tmp 0),(some (19,true))⟩,
  ⟨(some 21),.mov (.tmp 7),(some (19,true))⟩,
  ⟨(some 22),.idxAddr 1 (.tmp 20) (.tmp 21),(some (19,true))⟩,
  ⟨(some 23),.load false 1 (.tmp 22),(some (19,true))⟩,
  ⟨(some 24),.mov (.tmp 0),(some (19,true))⟩,
  ⟨(some 25),.mov (.tmp 7),(some (19,true))⟩,
  ⟨(some 26),.bin .sub (.tmp 25) (.con (.int .i64 1)),(some (19,true))⟩,
  ⟨(some 27),.idxAddr 1 (.tmp 24) (.tmp 26),(some (19,true))⟩,
  ⟨(some 28),.load false 1 (.tmp 27),(some (19,true))⟩,
  ⟨(some 29),.call 215 [(.tmp 23),(.tmp 28)],(some (19,true))⟩,
  ⟨(some 30),.pick (.tmp 19) (.tmp 29) (.con (.bool false)),none⟩])
 (.cond (.tmp 30)
 .skip
 (.exit 2)))
 (.seq (.block 3 (.ops [⟨(some 33),.mov (.tmp 0),none⟩,
  ⟨(some 34),.mov (.tmp 7),none⟩,
  ⟨(some 35),.mov (.tmp 0),none⟩,
  ⟨(some 36),.mov (.tmp 7),none⟩,
  ⟨(some 37),.bin .sub (.tmp 36) (.con (.int .i64 1)),none⟩,
  ⟨(some 38),.mov (.tmp 0),none⟩,
  ⟨(some 39),.mov (.tmp 7),none⟩,
  ⟨(some 40),.bin .sub (.tmp 39) (.con (.int .i64 1)),none⟩,
  ⟨(some 41),.idxAddr 1 (.tmp 38) (.tmp 40),none⟩,
  ⟨(some 42),.load false 1 (.tmp 41),none⟩,
  ⟨(some 43),.mov (.tmp 0),none⟩,
  ⟨(some 44),.mov (.tmp 7),none⟩,
  ⟨(some 45),.idxAddr 1 (.tmp 43) (.tmp 44),none⟩,
  ⟨(some 46),.load false 1 (.tmp 45),none⟩,
  ⟨(some 47),.idxAddr 1 (.tmp 33) (.tmp 34),none⟩,
  ⟨none,.store 1 (.tmp 47) (.tmp 42),none⟩,
  ⟨(some 48),.idxAddr 1 (.tmp 35) (.tmp 37),none⟩,
  ⟨none,.store 1 (.tmp 48) (.tmp 46),none⟩]))
 (.ops [⟨(some 31),.mov (.tmp 7),none⟩,
  ⟨(some 32),.bin .sub (.tmp 31) (.con (.int .i64 1)),none⟩,
  ⟨(some 7),.mov (.tmp 32),none⟩])))
def c209l1 : ACode:=(.seq (.seq (.ops [⟨(some 10),.mov (.tmp 6),none⟩,
  ⟨(some 11),.mov (.tmp 2),none⟩,
  ⟨(some 12),.bin .lss (.tmp 10) (.tmp 11),none⟩])
 (.cond (.tmp 12)
 .skip
 (.exit 0)))
 (.seq (.block 1 (.seq (.ops [⟨(some 15),.mov (.tmp 6),none⟩,
  ⟨(some 7),.mov (.tmp 15),none⟩])
 (.block 2 (.loop c209l0))))
 (.ops [⟨(some 13),.mov (.tmp 6),none⟩,
  ⟨(some 14),.bin .add (.tmp 13) (.con (.int .i64 1)),none⟩,
  ⟨(some 6),.mov (.tmp 14),none⟩])))
def c209 : ACode:=(.seq (.ops [⟨(some 8),.mov (.tmp 1),none⟩,
  ⟨(some 9),.bin .add (.tmp 8) (.con (.int .i64 1)),none⟩,
  ⟨(some 6),.mov (.tmp 9),none⟩])
 (.block 0 (.loop c209l1)))
def a209 : AFunc:=⟨3,c209,[]⟩
theorem k209 : cFunc Tryz.prog Tryz.f209=some a209:=by kernel_rfl
/- 210: slices.heapSortOrdered[string] -/
def c210l0 : ACode:=(.seq (.seq (.ops [⟨(some 18),.mov (.tmp 9),none⟩,
  ⟨(some 19),.bin .geq (.tmp 18) (.con (.int .i64 0)),none⟩])
 (.cond (.tmp 19)
 .skip
 (.exit 0)))
 (.seq (.block 1 (.ops [⟨(some 22),.mov (.tmp 0),none⟩,
  ⟨(some 23),.mov (.tmp 9),none⟩,
  ⟨(some 24),.mov (.tmp 8),none⟩,
  ⟨(some 25),.mov (.tmp 6),none⟩,
  ⟨(some 26),.call 247 [(.tmp 22),(.tmp 23),(.tmp 24),(.tmp 25)],none⟩]))
 (.ops [⟨(some 20),.mov (.tmp 9),none⟩,
  ⟨(some 21),.bin .sub (.tmp 20) (.con (.int .i64 1)),none⟩,
  ⟨(some 9),.mov (.tmp 21),none⟩])))
def c210l1 : ACode:=(.seq (.seq (.ops [⟨(some 29),.mov (.tmp 10),none⟩,
  ⟨(some 30),.bin .geq (.tmp 29) (.con (.int .i64 0)),none⟩])
 (.cond (.tmp 30)
 .skip
 (.exit 2)))
 (.seq (.block 3 (.seq (.ops [⟨(some 33),.mov (.tmp 0),none⟩,
  ⟨(some 34),.mov (.tmp 6),none⟩,
  ⟨(some 35),.mov (.tmp 0),none⟩,
  ⟨(some 36),.mov (.tmp 6),none⟩,
  ⟨(some 37),.mov (.tmp 10),none⟩,
  ⟨(some 38),.bin .add (.tmp 36) (.tmp 37),none⟩,
  ⟨(some 39),.mov (.tmp 0),none⟩,
  ⟨(some 40),.mov (.tmp 6),none⟩,
  ⟨(some 41),.mov (.tmp 10),none⟩,
  ⟨(some 42),.bin .add (.tmp 40) (.tmp 41),none⟩,
  ⟨(some 43),.idxAddr 1 (.tmp 39) (.tmp 42),none⟩,
  ⟨(some 44),.load false 1 (.tmp 43),none⟩,
  ⟨(some 45),.mov (.tmp 0),none⟩,
  ⟨(some 46),.mov (.tmp 6),none⟩,
  ⟨(some 47),.idxAddr 1 (.tmp 45) (.tmp 46),none⟩,
  ⟨(some 48),.load false 1 (.tmp 47),none⟩,
  ⟨(some 49),.idxAddr 1 (.tmp 33) (.tmp 34),none⟩,
  ⟨none,.store 1 (.tmp 49) (.tmp 44),none⟩,
  ⟨(some 50),.idxAddr 1 (.tmp 35) (.tmp 38),none⟩,
  ⟨none,.store 1 (.tmp 50) (.tmp 48),none⟩])
 (.ops [⟨(some 51),.mov (.tmp 0),none⟩,
  ⟨(some 52),.mov (.tmp 7),none⟩,
  ⟨(some 53),.mov (.tmp 10),none⟩,
  ⟨(some 54),.mov (.tmp 6),none⟩,
  ⟨(some 55),.call 247 [(.tmp 51),(.tmp 52),(.tmp 53),(.tmp 54)],none⟩])))
 (.ops [⟨(some 31),.mov (.tmp 10),none⟩,
  ⟨(some 32),.bin .sub (.tmp 31) (.con (.int .i64 1)),none⟩,
  ⟨(some 10),.mov (.tmp 32),none⟩])))
def c210 : ACode:=(.seq (.ops [⟨(some 11),.mov (.tmp 1),none⟩,
  ⟨(some 6),.mov (.tmp 11),none⟩])
 (.seq (.ops [⟨(some 7),.mov (.con (.int .i64 0)),none⟩])
 (.seq (.ops [⟨(some 12),.mov (.tmp 2),none⟩,
  ⟨(some 13),.mov (.tmp 1),none⟩,
  ⟨(some 14),.bin .sub (.tmp 12) (.tmp 13),none⟩,
  ⟨(some 8),.mov (.tmp 14),none⟩])
 (.seq (.seq (.ops [⟨(some 15),.mov (.tmp 8),none⟩,
  ⟨(some 16),.bin .sub (.tmp 15) (.con (.int .i64 1)),none⟩,
  ⟨(some 17),.bin .quo (.tmp 16) (.con (.int .i64 2)),none⟩,
  ⟨(some 9),.mov (.tmp 17),none⟩])
 (.block 0 (.loop c210l0)))
 (.seq (.ops [⟨(some 27),.mov (.tmp 8),none⟩,
  ⟨(some 28),.bin .sub (.tmp 27) (.con (.int .i64 1)),none⟩,
  ⟨(some 10),.mov (.tmp 28),none⟩])
 (.block 2 (.loop c210l1)))))))
def a210 : AFunc:=⟨3,c210,[]⟩
theorem k210 : cFunc Tryz.prog Tryz.f210=some a210:=by kernel_rfl
/- 211: slices.breakPatternsOrdered[string] -/
def c211l0 : ACode:=(.seq (.seq (.ops [⟨(some 26),.mov (.tmp 9),none⟩,
  ⟨(some 27),.mov (.tmp 1),none⟩,
  ⟨(some 28),.mov (.tmp 6),none⟩,
  ⟨(some 29),.bin .quo (.tmp 28) (.con (.int .i64 4)),none⟩,
  ⟨(some 30),.bin .mul (.tmp 29) (.con (.int .i64 2)),none⟩,
  ⟨(some 31),.bin .add (.tmp 27) (.tmp 30),none⟩,
  ⟨(some 32),.bin .add (.tmp 31) (.con (.int .i64 1)),none⟩,
  ⟨(some 33),.bin .leq (.tmp 26) (.tmp 32),none⟩])
 (.cond (.tmp 33)
 .skip
 (.exit 0)))
 (.seq (.block 1 (.seq (.ops [⟨(some 36),.call 249 [(.tmp 7)],none⟩,
  ⟨(some 37),.mov (.tmp 8),none⟩,
  ⟨(some 38),.bin .sub (.tmp 37) (.con (.int .u64 1)),none⟩,
  ⟨(some 39),.bin .and (.tmp 36) (.tmp 38),none⟩,
  ⟨(some 40),.toInt .i64 (.tmp 39),none⟩,
  ⟨(some 10),.mov (.tmp 40),none⟩])
 (.seq (.seq (.ops [⟨(some 41),.mov (.tmp 10),none⟩,
  ⟨(some 42),.mov (.tmp 6),none⟩,
  ⟨(some 43),.bin .geq (.tmp 41) (.tmp 42),none⟩])
 (.cond (.tmp 43)
 (.ops [⟨(some 44),.mov (.tmp 10),none⟩,
  ⟨(some 45),.mov (.tmp 6),none⟩,
  ⟨(some 46),.bin .sub (.tmp 44) (.tmp 45),none⟩,
  ⟨(some 10),.mov (.tmp 46),none⟩])
 .skip))
 (.ops [⟨(some 47),.mov (.tmp 0),none⟩,
  ⟨(some 48),.mov (.tmp 9),none⟩,
  ⟨(some 49),.mov (.tmp 0),none⟩,
  ⟨(some 50),.mov (.tmp 1),none⟩,
  ⟨(some 51),.mov (.tmp 10),none⟩,
  ⟨(some 52),.bin .add (.tmp 50) (.tmp 51),none⟩,
  ⟨(some 53),.mov (.tmp 0),none⟩,
  ⟨(some 54),.mov (.tmp 1),none⟩,
  ⟨(some 55),.mov (.tmp 10),none⟩,
  ⟨(some 56),.bin .add (.tmp 54) (.tmp 55),none⟩,
  ⟨(some 57),.idxAddr 1 (.tmp 53) (.tmp 56),none⟩,
  ⟨(some 58),.load false 1 (.tmp 57),none⟩,
  ⟨(some 59),.mov (.tmp 0),none⟩,
  ⟨(some 60),.mov (.tmp 9),none⟩,
  ⟨(some 61),.idxAddr 1 (.tmp 59) (.tmp 60),none⟩,
  ⟨(some 62),.load false 1 (.tmp 61),none⟩,
  ⟨(some 63),.idxAddr 1 (.tmp 47) (.tmp 48),none⟩,
  ⟨none,.store 1 (.tmp 63) (.tmp 58),none⟩,
  ⟨(some 64),.idxAddr 1 (.tmp 49) (.tmp 52),none⟩,
  ⟨none,.store 1 (.tmp 64) (.tmp 62),none⟩]))))
 (.ops [⟨(some 34),.mov (.tmp 9),none⟩,
  ⟨(some 35),.bin .add (.tmp 34) (.con (.int .i64 1)),none⟩,
  ⟨(some 9),.mov (.tmp 35),none⟩])))
def c211 : ACode:=(.seq (.ops [⟨(some 11),.mov (.tmp 2),none⟩,
  ⟨(some 12),.mov (.tmp 1),none⟩,
  ⟨(some 13),.bin .sub (.tmp 11) (.tmp 12),none⟩,
  ⟨(some 6),.mov (.tmp 13),none⟩])
 (.seq (.ops [⟨(some 14),.mov (.tmp 6),none⟩,
  ⟨(some 15),.bin .geq (.tmp 14) (.con (.int .i64 8)),none⟩])
 (.cond (.tmp 15)
 (.seq (.ops [⟨(some 16),.mov (.tmp 6),none⟩,
  ⟨(some 17),.toInt .u64 (.tmp 16),none⟩,
  ⟨(some 7),.new [(.int .u64 0)],none⟩,
  ⟨none,.store 1 (.tmp 7) (.tmp 17),none⟩])
 (.seq (.ops [⟨(some 18),.mov (.tmp 6),none⟩,
  ⟨(some 19),.call 248 [(.tmp 18)],none⟩,
  ⟨(some 8),.mov (.tmp 19),none⟩])
 (.seq (.ops [⟨(some 20),.mov (.tmp 1),none⟩,
  ⟨(some 21),.mov (.tmp 6),none⟩,
  ⟨(some 22),.bin .quo (.tmp 21) (.con (.int .i64 4)),none⟩,
  ⟨(some 23),.bin .mul (.tmp 22) (.con (.int .i64 2)),none⟩,
  ⟨(some 24),.bin .add (.tmp 20) (.tmp 23),none⟩,
  ⟨(some 25),.bin .sub (.tmp 24) (.con (.int .i64 1)),none⟩,
  ⟨(some 9),.mov (.tmp 25),none⟩])
 (.block 0 (.loop c211l0)))))
 .skip)))
def a211 : AFunc:=⟨3,c211,[]⟩
theorem k211 : cFunc Tryz.prog Tryz.f211=some a211:=by kernel_rfl
/- 212: slices.choosePivotOrdered[string] -/
def c212 : ACode:=(.seq (.ops [⟨(some 6),.mov (.con (.int .i64 0)),none⟩,
  ⟨(some 7),.mov (.con (.int .i64 0)),none⟩])
 (.seq (.ops [⟨(some 13),.mov (.tmp 2),none⟩,
  ⟨(some 14),.mov (.tmp 1),none⟩,
  ⟨(some 15),.bin .sub (.tmp 13) (.tmp 14),none⟩,
  ⟨(some 8),.mov (.tmp 15),none⟩])
 (.seq (.ops [⟨(some 9),.new [(.int .i64 0)],none⟩])
 (.seq (.ops [⟨(some 16),.mov (.tmp 1),none⟩,
  ⟨(some 17),.mov (.tmp 8),none⟩,
  ⟨(some 18),.bin .quo (.tmp 17) (.con (.int .i64 4)),none⟩,
  ⟨(some 19),.bin .mul (.tmp 18) (.con (.int .i64 1)),none⟩,
  ⟨(some 20),.bin .add (.tmp 16) (.tmp 19),none⟩,
  ⟨(some 10),.mov (.tmp 20),none⟩])
 (.seq (.ops [⟨(some 21),.mov (.tmp 1),none⟩,
  ⟨(some 22),.mov (.tmp 8),none⟩,
  ⟨(some 23),.bin .quo (.tmp 22) (.con (.int .i64 4)),none⟩,
  ⟨(some 24),.bin .mul (.tmp 23) (.con (.int .i64 2)),none⟩,
  ⟨(some 25),.bin .add (.tmp 21) (.tmp 24),none⟩,
  ⟨(some 11),.mov (.tmp 25),none⟩])
 (.seq (.ops [⟨(some 26),.mov (.tmp 1),none⟩,
  ⟨(some 27),.mov (.tmp 8),none⟩,
  ⟨(some 28),.bin .quo (.tmp 27) (.con (.int .i64 4)),none⟩,
  ⟨(some 29),.bin .mul (.tmp 28) (.con (.int .i64 3)),none⟩,
  ⟨(some 30),.bin .add (.tmp 26) (.tmp 29),none⟩,
  ⟨(some 12),.mov (.tmp 30),none⟩])
 (.seq (.seq (.ops [⟨(some 31),.mov (.tmp 8),none⟩,
  ⟨(some 32),.bin .geq (.tmp 31) (.con (.int .i64 8)),none⟩])
 (.cond (.tmp 32)
 (.seq (.seq (.ops [⟨(some 33),.mov (.tmp 8),none⟩,
  ⟨(some 34),.bin .geq (.tmp 33) (.con (.int .i64 50)),none⟩])
 (.cond (.tmp 34)
 (.seq (.ops [⟨(some 35),.mov (.tmp 0),none⟩,
  ⟨(some 36),.mov (.tmp 10),none⟩,
  ⟨(some 37),.call 250 [(.tmp 35),(.tmp 36),(.tmp 9)],none⟩,
  ⟨(some 10),.mov (.tmp 37),none⟩])
 (.seq (.ops [⟨(some 38),.mov (.tmp 0),none⟩,
  ⟨(some 39),.mov (.tmp 11),none⟩,
  ⟨(some 40),.call 250 [(.tmp 38),(.tmp 39),(.tmp 9)],none⟩,
  ⟨(some 11),.mov (.tmp 40),none⟩])
 (.ops [⟨(some 41),.mov (.tmp 0),none⟩,
  ⟨(some 42),.mov (.tmp 12),none⟩,
  ⟨(some 43),.call 250 [(.tmp 41),(.tmp 42),(.tmp 9)],none⟩,
  ⟨(some 12),.mov (.tmp 43),none⟩])))
 .skip))
 (.ops [⟨(some 44),.mov (.tmp 0),none⟩,
  ⟨(some 45),.mov (.tmp 10),none⟩,
  ⟨(some 46),.mov (.tmp 11),none⟩,
  ⟨(some 47),.mov (.tmp 12),none⟩,
  ⟨(some 48),.call 251 [(.tmp 44),(.tmp 45),(.tmp 46),(.tmp 47),(.tmp 9)],none⟩,
  ⟨(some 11),.mov (.tmp 48),none⟩]))
 .skip))
 (.seq (.ops [⟨(some 49),.load false 1 (.tmp 9),none⟩])
 (.block 0 (.seq (.ops [⟨(some 52),.bin .eql (.tmp 49) (.con (.int .i64 0)),none⟩,
  ⟨(some 51),.mov (.tmp 52),none⟩])
 (.cond (.tmp 51)
 (.seq (.ops [⟨(some 53),.mov (.tmp 11),none⟩,
  ⟨(some 6),.mov (.tmp 53),none⟩,
  ⟨(some 7),.mov (.con (.int .i64 1)),none⟩])
 .ret)
 (.seq (.ops [⟨(some 55),.bin .eql (.tmp 49) (.con (.int .i64 12)),none⟩,
  ⟨(some 54),.mov (.tmp 55),none⟩])
 (.cond (.tmp 54)
 (.seq (.ops [⟨(some 56),.mov (.tmp 11),none⟩,
  ⟨(some 6),.mov (.tmp 56),none⟩,
  ⟨(some 7),.mov (.con (.int .i64 2)),none⟩])
 .ret)
 (.seq (.ops [⟨(some 50),.mov (.tmp 11),none⟩,
  ⟨(some 6),.mov (.tmp 50),none⟩,
  ⟨(some 7),.mov (.con (.int .i64 0)),none⟩])
 .ret))))))))))))))
def a212 : AFunc:=⟨3,c212,[.tmp 6,.tmp 7]⟩
theorem k212 : cFunc Tryz.prog Tryz.f212=some a212:=by kernel_rfl
/- 213: slices.reverseRangeOrdered[string] -/
def c213l0 : ACode:=(.seq (.seq (.ops [⟨(some 11),.mov (.tmp 6),none⟩,
  ⟨(some 12),.mov (.tmp 7),none⟩,
  ⟨(some 13),.bin .lss (.tmp 11) (.tmp 12),none⟩])
 (.cond (.tmp 13)
 .skip
 (.exit 0)))
 (.block 1 (.seq (.ops [⟨(some 14),.mov (.tmp 0),none⟩,
  ⟨(some 15),.mov (.tmp 6),none⟩,
  ⟨(some 16),.mov (.tmp 0),none⟩,
  ⟨(some 17),.mov (.tmp 7),none⟩,
  ⟨(some 18),.mov (.tmp 0),none⟩,
  ⟨(some 19),.mov (.tmp 7),none⟩,
  ⟨(some 20),.idxAddr 1 (.tmp 18) (.tmp 19),none⟩,
  ⟨(some 21),.load false 1 (.tmp 20),none⟩,
  ⟨(some 22),.mov (.tmp 0),none⟩,
  ⟨(some 23),.mov (.tmp 6),none⟩,
  ⟨(some 24),.idxAddr 1 (.tmp 22) (.tmp 23),none⟩,
  ⟨(some 25),.load false 1 (.tmp 24),none⟩,
  ⟨(some 26),.idxAddr 1 (.tmp 14) (.tmp 15),none⟩,
  ⟨none,.store 1 (.tmp 26) (.tmp 21),none⟩,
  ⟨(some 27),.idxAddr 1 (.tmp 16) (.tmp 17),none⟩,
  ⟨none,.store 1 (.tmp 27) (.tmp 25),none⟩])
 (.seq (.ops [⟨(some 28),.mov (.tmp 6),none⟩,
  ⟨(some 29),.bin .add (.tmp 28) (.con (.int .i64 1)),none⟩,
  ⟨(some 6),.mov (.tmp 29),none⟩])
 (.ops [⟨(some 30),.mov (.tmp 7),none⟩,
  ⟨(some 31),.bin .sub (.tmp 30) (.con (.int .i64 1)),none⟩,
  ⟨(some 7),.mov (.tmp 31),none⟩])))))
def c213 : ACode:=(.seq (.ops [⟨(some 8),.mov (.tmp 1),none⟩,
  ⟨(some 6),.mov (.tmp 8),none⟩])
 (.seq (.ops [⟨(some 9),.mov (.tmp 2),none⟩,
  ⟨(some 10),.bin .sub (.tmp 9) (.con (.int .i64 1)),none⟩,
  ⟨(some 7),.mov (.tmp 10),none⟩])
 (.block 0 (.loop c213l0))))
def a213 : AFunc:=⟨3,c213,[]⟩
theorem k213 : cFunc Tryz.prog Tryz.f213=some a213:=by kernel_rfl
/- 214: slices.partialInsertionSortOrdered[string] -/
def c214l0 : ACode:=(.seq (.seq (.ops [⟨(some 17),.mov (.tmp 7),none⟩,
  ⟨(some 18),.mov (.tmp 2),none⟩,
  ⟨(some 19),.bin .lss (.tmp 17) (.tmp 18),none⟩,
  ⟨(some 20),.mov (.tmp 19),none⟩,
  ⟨(some 21),.mov (.tmp 0),(some (20,true))⟩,
  ⟨(some 22),.mov (.tmp 7),(some (20,true))⟩,
  ⟨(some 23),.idxAddr 1 (.tmp 21) (.tmp 22),(some (20,true))⟩,
  ⟨(some 24),.load false 1 (.tmp 23),(some (20,true))⟩,
  ⟨(some 25),.mov (.tmp 0),(some (20,true))⟩,
  ⟨(some 26),.mov (.tmp 7),(some (20,true))⟩,
  ⟨(some 27),.bin .sub (.tmp 26) (.con (.int .i64 1)),(some (20,true))⟩,
  ⟨(some 28),.idxAddr 1 (.tmp 25) (.tmp 27),(some (20,true))⟩,
  ⟨(some 29),.load false 1 (.tmp 28),(some (20,true))⟩,
  ⟨(some 30),.call 215 [(.tmp 24),(.tmp 29)],(some (20,true))⟩,
  ⟨(some 31),.un .not (.tmp 30),(some (20,true))⟩,
  ⟨(some 32),.pick (.tmp 20) (.tmp 31) (.con (.bool false)),none⟩])
 (.cond (.tmp 32)
 .skip
 (.exit 2)))
 (.block 3 (.ops [⟨(some 33),.mov (.tmp 7),none⟩,
  ⟨(some 34),.bin .add (.tmp 33) (.con (.int .i64 1)),none⟩,
  ⟨(some 7),.mov (.tmp 34),none⟩])))
def c214l1 : ACode:=(.seq (.seq (.ops [⟨(some 64),.mov (.tmp 9),none⟩,
  ⟨(some 65),.bin .geq (.tmp 64) (.con (.int .i64 1)),none⟩])
 (.cond (.tmp 65)
 .skip
 (.exit 4)))
 (.seq (.block 5 (.seq (.seq (.ops [⟨(some 68),.mov (.tmp 0),none⟩,
  ⟨(some 69),.mov (.tmp 9),none⟩,
  ⟨(some 70),.idxAddr 1 (.tmp 68) (.tmp 69),none⟩,
  ⟨(some 71),.load false 1 (.tmp 70),none⟩,
  ⟨(some 72),.mov (.tmp 0),none⟩,
  ⟨(some 73),.mov (.tmp 9),none⟩,
  ⟨(some 74),.bin .sub (.tmp 73) (.con (.int .i64 1)),none⟩,
  ⟨(some 75),.idxAddr 1 (.tmp 72) (.tmp 74),none⟩,
  ⟨(some 76),.load false 1 (.tmp 75),none⟩,
  ⟨(some 77),.call 215 [(.tmp 71),(.tmp 76)],none⟩,
  ⟨(some 78),.un .not (.tmp 77),none⟩])
 (.cond (.tmp 78)
 (.exit 4)
 .skip))
 (.ops [⟨(some 79),.mov (.tmp 0),none⟩,
  ⟨(some 80),.mov (.tmp 9),none⟩,
  ⟨(some 81),.mov (.tmp 0),none⟩,
  ⟨(some 82),.mov (.tmp 9),none⟩,
  ⟨(some 83),.bin .sub (.tmp 82) (.con (.int .i64 1)),none⟩,
  ⟨(some 84),.mov (.tmp 0),none⟩,
  ⟨(some 85),.mov (.tmp 9),none⟩,
  ⟨(some 86),.bin .sub (.tmp 85) (.con (.int .i64 1)),none⟩,
  ⟨(some 87),.idxAddr 1 (.tmp 84) (.tmp 86),none⟩,
  ⟨(some 88),.load false 1 (.tmp 87),none⟩,
  ⟨(some 89),.mov (.tmp 0),none⟩,
  ⟨(some 90),.mov (.tmp 9),none⟩,
  ⟨(some 91),.idxAddr 1 (.tmp 89) (.tmp 90),none⟩,
  ⟨(some 92),.load false 1 (.tmp 91),none⟩,
  ⟨(some 93),.idxAddr 1 (.tmp 79) (.tmp 80),none⟩,
  ⟨none,.store 1 (.tmp 93) (.tmp 88),none⟩,
  ⟨(some 94),.idxAddr 1 (.tmp 81) (.tmp 83),none⟩,
  ⟨none,.store 1 (.tmp 94) (.tmp 92),none⟩])))
 (.ops [⟨(some 66),.mov (.tmp 9),none⟩,
  ⟨(some 67),.bin .sub (.tmp 66) (.con (.int .i64 1)),none⟩,
  ⟨(some 9),.mov (.tmp 67),none⟩])))
def c214l2 : ACode:=(.seq (.seq (.ops [⟨(some 101),.mov (.tmp 10),none⟩,
  ⟨(some 102),.mov (.tmp 2),none⟩,
  ⟨(some 103),.bin .lss (.tmp 101) (.tmp 102),none⟩])
 (.cond (.tmp 103)
 .skip
 (.exit 6)))
 (.seq (.block 7 (.seq (.seq (.ops [⟨(some 106),.mov (.tmp 0),none⟩,
  ⟨(some 107),.mov (.tmp 10),none⟩,
  ⟨(some 108),.idxAddr 1 (.tmp 106) (.tmp 107),none⟩,
  ⟨(some 109),.load false 1 (.tmp 108),none⟩,
  ⟨(some 110),.mov (.tmp 0),none⟩,
  ⟨(some 111),.mov (.tmp 10),none⟩,
  ⟨(some 112),.bin .sub (.tmp 111) (.con (.int .i64 1)),none⟩,
  ⟨(some 113),.idxAddr 1 (.tmp 110) (.tmp 112),none⟩,
  ⟨(some 114),.load false 1 (.tmp 113),none⟩,
  ⟨(some 115),.call 215 [(.tmp 109),(.tmp 114)],none⟩,
  ⟨(some 116),.un .not (.tmp 115),none⟩])
 (.cond (.tmp 116)
 (.exit 6)
 .skip))
 (.ops [⟨(some 117),.mov (.tmp 0),none⟩,
  ⟨(some 118),.mov (.tmp 10),none⟩,
  ⟨(some 119),.mov (.tmp 0),none⟩,
  ⟨(some 120),.mov (.tmp 10),none⟩,
  ⟨(some 121),.bin .sub (.tmp 120) (.con (.int .i64 1)),none⟩,
  ⟨(some 122),.mov (.tmp 0),none⟩,
  ⟨(some 123),.mov (.tmp 10),none⟩,
  ⟨(some 124),.bin .sub (.tmp 123) (.con (.int .i64 1)),none⟩,
  ⟨(some 125),.idxAddr 1 (.tmp 122) (.tmp 124),none⟩,
  ⟨(some 126),.load false 1 (.tmp 125),none⟩,
  ⟨(some 127),.mov (.tmp 0),none⟩,
  ⟨(some 128),.mov (.tmp 10),none⟩,
  ⟨(some 129),.idxAddr 1 (.tmp 127) (.tmp 128),none⟩,
  ⟨(some 130),.load false 1 (.tmp 129),none⟩,
  ⟨(some 131),.idxAddr 1 (.tmp 117) (.tmp 118),none⟩,
  ⟨none,.store 1 (.tmp 131) (.tmp 126),none⟩,
  ⟨(some 132),.idxAddr 1 (.tmp 119) (.tmp 121),none⟩,
  ⟨none,.store 1 (.tmp 132) (.tmp 130),none⟩])))
 (.ops [⟨(some 104),.mov (.tmp 10),none⟩,
  ⟨(some 105),.bin .add (.tmp 104) (.con (.int .i64 1)),none⟩,
  ⟨(some 10),.mov (.tmp 105),none⟩])))
def c214l3 : ACode:=(.seq (.seq (.ops [⟨(some 13),.mov (.tmp 8),none⟩,
  ⟨(some 14),.bin .lss (.tmp 13) (.con (.int .i64 5)),none⟩])
 (.cond (.tmp 14)
 .skip
 (.exit 0)))
 (.seq (.block 1 (.seq (.block 2 (.loop c214l0))
 (.seq (.seq (.ops [⟨(some 35),.mov (.tmp 7),none⟩,
  ⟨(some 36),.mov (.tmp 2),none⟩,
  ⟨(some 37),.bin .eql (.tmp 35) (.tmp 36),none⟩])
 (.cond (.tmp 37)
 (.seq (.ops [⟨(some 6),.mov (.con (.bool true)),none⟩])
 .ret)
 .skip))
 (.seq (.seq (.ops [⟨(some 38),.mov (.tmp 2),none⟩,
  ⟨(some 39),.mov (.tmp 1),none⟩,
  ⟨(some 40),.bin .sub (.tmp 38) (.tmp 39),none⟩,
  ⟨(some 41),.bin .lss (.tmp 40) (.con (.int .i64 50)),none⟩])
 (.cond (.tmp 41)
 (.seq (.ops [⟨(some 6),.mov (.con (.bool false)),none⟩])
 .ret)
 .skip))
 (.seq (.ops [⟨(some 42),.mov (.tmp 0),none⟩,
  ⟨(some 43),.mov (.tmp 7),none⟩,
  ⟨(some 44),.mov (.tmp 0),none⟩,
  ⟨(some 45),.mov (.tmp 7),none⟩,
  ⟨(some 46),.bin .sub (.tmp 45) (.con (.int .i64 1)),none⟩,
  ⟨(some 47),.mov (.tmp 0),none⟩,
  ⟨(some 48),.mov (.tmp 7),none⟩,
  ⟨(some 49),.bin .sub (.tmp 48) (.con (.int .i64 1)),none⟩,
  ⟨(some 50),.idxAddr 1 (.tmp 47) (.tmp 49),none⟩,
  ⟨(some 51),.load false 1 (.tmp 50),none⟩,
  ⟨(some 52),.mov (.tmp 0),none⟩,
  ⟨(some 53),.mov (.tmp 7),none⟩,
  ⟨(some 54),.idxAddr 1 (.tmp 52) (.tmp 53),none⟩,
  ⟨(some 55),.load false 1 (.tmp 54),none⟩,
  ⟨(some 56),.idxAddr 1 (.tmp 42) (.tmp 43),none⟩,
  ⟨none,.store 1 (.tmp 56) (.tmp 51),none⟩,
  ⟨(some 57),.idxAddr 1 (.tmp 44) (.tmp 46),none⟩,
  ⟨none,.store 1 (.tmp 57) (.tmp 55),none⟩])
 (.seq (.seq (.ops [⟨(some 58),.mov (.tmp 7),none⟩,
  ⟨(some 59),.mov (.tmp 1),none⟩,
  ⟨(some 60),.bin .sub (.tmp 58) (.tmp 59),none⟩,
  ⟨(some 61),.bin .geq (.tmp 60) (.con (.int .i64 2)),none⟩])
 (.cond (.tmp 61)
 (.seq (.ops [⟨(some 62),.mov (.tmp 7),none⟩,
  ⟨(some 63),.bin .sub (.tmp 62) (.con (.int .i64 1)),none⟩,
  ⟨(some 9),.mov (.tmp 63),none⟩])
 (.block 4 (.loop c214l1)))
 .skip))
 (.seq (.ops [⟨(some 95),.mov (.tmp 2),none⟩,
  ⟨(some 96),.mov (.tmp 7),none⟩,
  ⟨(some 97),.bin .sub (.tmp 95) (.tmp 96),none⟩,
  ⟨(some 98),.bin .geq (.tmp 97) (.con (.int .i64 2)),none⟩])
 (.cond (.tmp 98)
 (.seq (.ops [⟨(some 99),.mov (.tmp 7),none⟩,
  ⟨(some 100),.bin .add (.tmp 99) (.con (.int .i64 1)),none⟩,
  ⟨(some 10),.mov (.tmp 100),none⟩])
 (.block 6 (.loop c214l2)))
 .skip))))))))
 (.ops [⟨(some 15),.mov (.tmp 8),none⟩,
  ⟨(some 16),.bin .add (.tmp 15) (.con (.int .i64 1)),none⟩,
  ⟨(some 8),.mov (.tmp 16),none⟩])))
def c214 : ACode:=(.seq (.ops [⟨(some 6),.mov (.con (.bool false)),none⟩])
 (.seq (.ops [⟨(some 11),.mov (.tmp 1),none⟩,
  ⟨(some 12),.bin .add (.tmp 11) (.con (.int .i64 1)),none⟩,
  ⟨(some 7),.mov (.tmp 12),none⟩])
 (.seq (.seq (.ops [⟨(some 8),.mov (.con (.int .i64 0)),none⟩])
 (.block 0 (.loop c214l3)))
 (.seq (.ops [⟨(some 6),.mov (.con (.bool false)),none⟩])
 .ret))))
def a214 : AFunc:=⟨3,c214,[.tmp 6]⟩
theorem k214 : cFunc Tryz.prog Tryz.f214=some a214:=by kernel_rfl
/- 215: cmp.Less[string] -/
def c215 : ACode:=(.seq (.ops [⟨(some 4),.mov (.con (.bool false)),none⟩])
 (.seq (.ops [⟨(some 5),.mov (.tmp 0),none⟩,
  ⟨(some 6),.call 252 [(.tmp 5)],none⟩,
  ⟨(some 7),.mov (.tmp 6),none⟩,
  ⟨(some 8),.mov (.tmp 1),(some (7,true))⟩,
  ⟨(some 9),.call 252 [(.tmp 8)],(some (7,true))⟩,
  ⟨(some 10),.un .not (.tmp 9),(some (7,true))⟩,
  ⟨(some 11),.pick (.tmp 7) (.tmp 10) (.con (.bool false)),none⟩,
  ⟨(some 12),.mov (.tmp 11),none⟩,
  ⟨(some 13),.mov (.tmp 0),(some (12,false))⟩,
  ⟨(some 14),.mov (.tmp 1),(some (12,false))⟩,
  ⟨(some 15),.bin .lss (.tmp 13) (.tmp 14),(some (12,false))⟩,
  ⟨(some 16),.pick (.tmp 12) (.con (.bool true)) (.tmp 15),none⟩,
  ⟨(some 4),.mov (.tmp 16),none⟩])
 .ret))
def a215 : AFunc:=⟨2,c215,[.tmp 4]⟩
theorem k215 : cFunc Tryz.prog Tryz.f215=some a215:=by kernel_rfl
/- 216: slices.partitionEqualOrdered[string] -/
def c216l0 : ACode:=(.seq (.seq (.ops [⟨(some 29),.mov (.tmp 9),none⟩,
  ⟨(some 30),.mov (.tmp 10),none⟩,
  ⟨(some 31),.bin .leq (.tmp 29) (.tmp 30),none⟩,
  ⟨(some 32),.mov (.tmp 31),none⟩,
  ⟨(some 33),.mov (.tmp 0),(some (32,true))⟩,
  ⟨(some 34),.mov (.tmp 1),(some (32,true))⟩,
  ⟨(some 35),.idxAddr 1 (.tmp 33) (.tmp 34),(some (32,true))⟩,
  ⟨(some 36),.load false 1 (.tmp 35),(some (32,true))⟩,
  ⟨(some 37),.mov (.tmp 0),(some (32,true))⟩,
  ⟨(some 38),.mov (.tmp 9),(some (32,true))⟩,
  ⟨(some 39),.idxAddr 1 (.tmp 37) (.tmp 38),(some (32,true))⟩,
  ⟨(some 40),.load false 1 (.tmp 39),(some (32,true))⟩,
  ⟨(some 41),.call 215 [(.tmp 36),(.tmp 40)],(some (32,true))⟩,
  ⟨(some 42),.un .not (.tmp 41),(some (32,true))⟩,
  ⟨(some 43),.pick (.tmp 32) (.tmp 42) (.con (.bool false)),none⟩])
 (.cond (.tmp 43)
 .skip
 (.exit 2)))
 (.block 3 (.ops [⟨(some 44),.mov (.tmp 9),none⟩,
  ⟨(some 45),.bin .add (.tmp 44) (.con (.int .i64 1)),none⟩,
  ⟨(some 9),.mov (.tmp 45),none⟩])))
def c216l1 : ACode:=(.seq (.seq (.ops [⟨(some 46),.mov (.tmp 9),none⟩,
  ⟨(some 47),.mov (.tmp 10),none⟩,
  ⟨(some 48),.bin .leq (.tmp 46) (.tmp 47),none⟩,
  ⟨(some 49),.mov (.tmp 48),none⟩,
  ⟨(some 50),.mov (.tmp 0),(some (49,true))⟩,
  ⟨(some 51),.mov (.tmp 1),(some (49,true))⟩,
  ⟨(some 52),.idxAddr 1 (.tmp 50) (.tmp 51),(some (49,true))⟩,
  ⟨(some 53),.load false 1 (.tmp 52),(some (49,true))⟩,
  ⟨(some 54),.mov (.tmp 0),(some (49,true))⟩,
  ⟨(some 55),.mov (.tmp 10),(some (49,true))⟩,
  ⟨(some 56),.idxAddr 1 (.tmp 54) (.tmp 55),(some (49,true))⟩,
  ⟨(some 57),.load false 1 (.tmp 56),(some (49,true))⟩,
  ⟨(some 58),.call 215 [(.tmp 53),(.tmp 57)],(some (49,true))⟩,
  ⟨(some 59),.pick (.tmp 49) (.tmp 58) (.con (.bool false)),none⟩])
 (.cond (.tmp 59)
 .skip
 (.exit 4)))
 (.block 5 (.ops [⟨(some 60),.mov (.tmp 10),none⟩,
  ⟨(some 61),.bin .sub (.tmp 60) (.con (.int .i64 1)),none⟩,
  ⟨(some 10),.mov (.tmp 61),none⟩])))
def c216l2 : ACode:=(.block 1 (.seq (.block 2 (.loop c216l0))
 (.seq (.block 4 (.loop c216l1))
 (.seq (.seq (.ops [⟨(some 62),.mov (.tmp 9),none⟩,
  ⟨(some 63),.mov (.tmp 10),none⟩,
  ⟨(some 64),.bin .gtr (.tmp 62) (.tmp 63),none⟩])
 (.cond (.tmp 64)
 (.exit 0)
 .skip))
 (.seq (.ops [⟨(some 65),.mov (.tmp 0),none⟩,
  ⟨(some 66),.mov (.tmp 9),none⟩,
  ⟨(some 67),.mov (.tmp 0),none⟩,
  ⟨(some 68),.mov (.tmp 10),none⟩,
  ⟨(some 69),.mov (.tmp 0),none⟩,
  ⟨(some 70),.mov (.tmp 10),none⟩,
  ⟨(some 71),.idxAddr 1 (.tmp 69) (.tmp 70),none⟩,
  ⟨(some 72),.load false 1 (.tmp 71),none⟩,
  ⟨(some 73),.mov (.tmp 0),none⟩,
  ⟨(some 74),.mov (.tmp 9),none⟩,
  ⟨(some 75),.idxAddr 1 (.tmp 73) (.tmp 74),none⟩,
  ⟨(some 76),.load false 1 (.tmp 75),none⟩,
  ⟨(some 77),.idxAddr 1 (.tmp 65) (.tmp 66),none⟩,
  ⟨none,.store 1 (.tmp 77) (.tmp 72),none⟩,
  ⟨(some 78),.idxAddr 1 (.tmp 67) (.tmp 68),none⟩,
  ⟨none,.store 1 (.tmp 78) (.tmp 76),none⟩])
 (.seq (.ops [⟨(some 79),.mov (.tmp 9),none⟩,
  ⟨(some 80),.bin .add (.tmp 79) (.con (.int .i64 1)),none⟩,
  ⟨(some 9),.mov (.tmp 80),none⟩])
 (.ops [⟨(some 81),.mov (.tmp 10),none⟩,
  ⟨(some 82),.bin .sub (.tmp 81) (.con (.int .i64 1)),none⟩,
  ⟨(some 10),.mov (.tmp 82),none⟩])))))))
def c216 : ACode:=(.seq (.ops [⟨(some 8),.mov (.con (.int .i64 0)),none⟩])
 (.seq (.ops [⟨(some 11),.mov (.tmp 0),none⟩,
  ⟨(some 12),.mov (.tmp 1),none⟩,
  ⟨(some 13),.mov (.tmp 0),none⟩,
  ⟨(some 14),.mov (.tmp 3),none⟩,
  ⟨(some 15),.mov (.tmp 0),none⟩,
  ⟨(some 16),.mov (.tmp 3),none⟩,
  ⟨(some 17),.idxAddr 1 (.tmp 15) (.tmp 16),none⟩,
  ⟨(some 18),.load false 1 (.tmp 17),none⟩,
  ⟨(some 19),.mov (.tmp 0),none⟩,
  ⟨(some 20),.mov (.tmp 1),none⟩,
  ⟨(some 21),.idxAddr 1 (.tmp 19) (.tmp 20),none⟩,
  ⟨(some 22),.load false 1 (.tmp 21),none⟩,
  ⟨(some 23),.idxAddr 1 (.tmp 11) (.tmp 12),none⟩,
  ⟨none,.store 1 (.tmp 23) (.tmp 18),none⟩,
  ⟨(some 24),.idxAddr 1 (.tmp 13) (.tmp 14),none⟩,
  ⟨none,.store 1 (.tmp 24) (.tmp 22),none⟩])
 (.seq (.ops [⟨(some 25),.mov (.tmp 1),none⟩,
  ⟨(some 26),.bin .add (.tmp 25) (.con (.int .i64 1)),none⟩,
  ⟨(some 27),.mov (.tmp 2),none⟩,
  ⟨(some 28),.bin .sub (.tmp 27) (.con (.int .i64 1)),none⟩,
  ⟨(some 9),.mov (.tmp 26),none⟩,
  ⟨(some 10),.mov (.tmp 28),none⟩])
 (.seq (.block 0 (.loop c216l2))
 (.seq (.ops [⟨(some 83),.mov (.tmp 9),none⟩,
  ⟨(some 8),.mov (.tmp 83),none⟩])
 .ret)))))
def a216 : AFunc:=⟨4,c216,[.tmp 8]⟩
theorem k216 : cFunc Tryz.prog Tryz.f216=some a216:=by kernel_rfl
/- 217: slices.partitionOrdered[string] -/
def c217l0 : ACode:=(.seq (.seq (.ops [⟨(some 30),.mov (.tmp 10),none⟩,
  ⟨(some 31),.mov (.tmp 11),none⟩,
  ⟨(some 32),.bin .leq (.tmp 30) (.tmp 31),none⟩,
  ⟨(some 33),.mov (.tmp 32),none⟩,
  ⟨(some 34),.mov (.tmp 0),(some (33,true))⟩,
  ⟨(some 35),.mov (.tmp 10),(some (33,true))⟩,
  ⟨(some 36),.idxAddr 1 (.tmp 34) (.tmp 35),(some (33,true))⟩,
  ⟨(some 37),.load false 1 (.tmp 36),(some (33,true))⟩,
  ⟨(some 38),.mov (.tmp 0),(some (33,true))⟩,
  ⟨(some 39),.mov (.tmp 1),(some (33,true))⟩,
  ⟨(some 40),.idxAddr 1 (.tmp 38) (.tmp 39),(some (33,true))⟩,
  ⟨(some 41),.load false 1 (.tmp 40),(some (33,true))⟩,
  ⟨(some 42),.call 215 [(.tmp 37),(.tmp 41)],(some (33,true))⟩,
  ⟨(some 43),.pick (.tmp 33) (.tmp 42) (.con (.bool false)),none⟩])
 (.cond (.tmp 43)
 .skip
 (.exit 0)))
 (.block 1 (.ops [⟨(some 44),.mov (.tmp 10),none⟩,
  ⟨(some 45),.bin .add (.tmp 44) (.con (.int .i64 1)),none⟩,
  ⟨(some 10),.mov (.tmp 45),none⟩])))
def c217l1 : ACode:=(.seq (.seq (.ops [⟨(some 46),.mov (.tmp 10),none⟩,
  ⟨(some 47),.mov (.tmp 11),none⟩,
  ⟨(some 48),.bin .leq (.tmp 46) (.tmp 47),none⟩,
  ⟨(some 49),.mov (.tmp 48),none⟩,
  ⟨(some 50),.mov (.tmp 0),(some (49,true))⟩,
  ⟨(some 51),.mov (.tmp 11),(some (49,true))⟩,
  ⟨(some 52),.idxAddr 1 (.tmp 50) (.tmp 51),(some (49,true))⟩,
  ⟨(some 53),.load false 1 (.tmp 52),(some (49,true))⟩,
  ⟨(some 54),.mov (.tmp 0),(some (49,true))⟩,
  ⟨(some 55),.mov (.tmp 1),(some (49,true))⟩,
  ⟨(some 56),.idxAddr 1 (.tmp 54) (.tmp 55),(some (49,true))⟩,
  ⟨(some 57),.load false 1 (.tmp 56),(some (49,true))⟩,
  ⟨(some 58),.call 215 [(.tmp 53),(.tmp 57)],(some (49,true))⟩,
  ⟨(some 59),.un .not (.tmp 58),(some (49,true))⟩,
  ⟨(some 60),.pick (.tmp 49) (.tmp 59) (.con (.bool false)),none⟩])
 (.cond (.tmp 60)
 .skip
 (.exit 2)))
 (.block 3 (.ops [⟨(some 61),.mov (.tmp 11),none⟩,
  ⟨(some 62),.bin .sub (.tmp 61) (.con (.int .i64 1)),none⟩,
  ⟨(some 11),.mov (.tmp 62),none⟩])))
def c217l2 : ACode:=(.seq (.seq (.ops [⟨(some 99),.mov (.tmp 10),none⟩,
  ⟨(some 100),.mov (.tmp 11),none⟩,
  ⟨(some 101),.bin .leq (.tmp 99) (.tmp 100),none⟩,
  ⟨(some 102),.mov (.tmp 101),none⟩,
  ⟨(some 103),.mov (.tmp 0),(some (102,true))⟩,
  ⟨(some 104),.mov (.tmp 10),(some (102,true))⟩,
  ⟨(some 105),.idxAddr 1 (.tmp 103) (.tmp 104),(some (102,true))⟩,
  ⟨(some 106),.load false 1 (.tmp 105),(some (102,true))⟩,
  ⟨(some 107),.mov (.tmp 0),(some (102,true))⟩,
  ⟨(some 108),.mov (.tmp 1),(some (102,true))⟩,
  ⟨(some 109),.idxAddr 1 (.tmp 107) (.tmp 108),(some (102,true))⟩,
  ⟨(some 110),.load false 1 (.tmp 109),(some (102,true))⟩,
  ⟨(some 111),.call 215 [(.tmp 106),(.tmp 110)],(some (102,true))⟩,
  ⟨(some 112),.pick (.tmp 102) (.tmp 111) (.con (.bool false)),none⟩])
 (.cond (.tmp 112)
 .skip
 (.exit 6)))
 (.block 7 (.ops [⟨(some 113),.mov (.tmp 10),none⟩,
  ⟨(some 114),.bin .add (.tmp 113) (.con (.int .i64 1)),none⟩,
  ⟨(some 10),.mov (.tmp 114),none⟩])))
def c217l3 : ACode:=(.seq (.seq (.ops [⟨(some 115),.mov (.tmp 10),none⟩,
  ⟨(some 116),.mov (.tmp 11),none⟩,
  ⟨(some 117),.bin .leq (.tmp 115) (.tmp 116),none⟩,
  ⟨(some 118),.mov (.tmp 117),none⟩,
  ⟨(some 119),.mov (.tmp 0),(some (118,true))⟩,
  ⟨(some 120),.mov (.tmp 11),(some (118,true))⟩,
  ⟨(some 121),.idxAddr 1 (.tmp 119) (.tmp 120),(some (118,true))⟩,
  ⟨(some 122),.load false 1 (.tmp 121),(some (118,true))⟩,
  ⟨(some 123),.mov (.tmp 0),(some (118,true))⟩,
  ⟨(some 124),.mov (.tmp 1),(some (118,true))⟩,
  ⟨(some 125),.idxAddr 1 (.tmp 123) (.tmp 124),(some (118,true))⟩,
  ⟨(some 126),.load false 1 (.tmp 125),(some (118,true))⟩,
  ⟨(some 127),.call 215 [(.tmp 122),(.tmp 126)],(some (118,true))⟩,
  ⟨(some 128),.un .not (.tmp 127),(some (118,true))⟩,
  ⟨(some 129),.pick (.tmp 118) (.tmp 128) (.con (.bool false)),none⟩])
 (.cond (.tmp 129)
 .skip
 (.exit 8)))
 (.block 9 (.ops [⟨(some 130),.mov (.tmp 11),none⟩,
  ⟨(some 131),.bin .sub (.tmp 130) (.con (.int .i64 1)),none⟩,
  ⟨(some 11),.mov (.tmp 131),none⟩])))
def c217l4 : ACode:=(.block 5 (.seq (.block 6 (.loop c217l2))
 (.seq (.block 8 (.loop c217l3))
 (.seq (.seq (.ops [⟨(some 132),.mov (.tmp 10),none⟩,
  ⟨(some 133),.mov (.tmp 11),none⟩,
  ⟨(some 134),.bin .gtr (.tmp 132) (.tmp 133),none⟩])
 (.cond (.tmp 134)
 (.exit 4)
 .skip))
 (.seq (.ops [⟨(some 135),.mov (.tmp 0),none⟩,
  ⟨(some 136),.mov (.tmp 10),none⟩,
  ⟨(some 137),.mov (.tmp 0),none⟩,
  ⟨(some 138),.mov (.tmp 11),none⟩,
  ⟨(some 139),.mov (.tmp 0),none⟩,
  ⟨(some 140),.mov (.tmp 11),none⟩,
  ⟨(some 141),.idxAddr 1 (.tmp 139) (.tmp 140),none⟩,
  ⟨(some 142),.load false 1 (.tmp 141),none⟩,
  ⟨(some 143),.mov (.tmp 0),none⟩,
  ⟨(some 144),.mov (.tmp 10),none⟩,
  ⟨(some 145),.idxAddr 1 (.tmp 143) (.tmp 144),none⟩,
  ⟨(some 146),.load false 1 (.tmp 145),none⟩,
  ⟨(some 147),.idxAddr 1 (.tmp 135) (.tmp 136),none⟩,
  ⟨none,.store 1 (.tmp 147) (.tmp 142),none⟩,
  ⟨(some 148),.idxAddr 1 (.tmp 137) (.tmp 138),none⟩,
  ⟨none,.store 1 (.tmp 148) (.tmp 146),none⟩])
 (.seq (.ops [⟨(some 149),.mov (.tmp 10),none⟩,
  ⟨(some 150),.bin .add (.tmp 149) (.con (.int .i64 1)),none⟩,
  ⟨(some 10),.mov (.tmp 150),none⟩])
 (.ops [⟨(some 151),.mov (.tmp 11),none⟩,
  ⟨(some 152),.bin .sub (.tmp 151) (.con (.int .i64 1)),none⟩,
  ⟨(some 11),.mov (.tmp 152),none⟩])))))))
def c217 : ACode:=(.seq (.ops [⟨(some 8),.mov (.con (.int .i64 0)),none⟩,
  ⟨(some 9),.mov (.con (.bool false)),none⟩])
 (.seq (.ops [⟨(some 12),.mov (.tmp 0),none⟩,
  ⟨(some 13),.mov (.tmp 1),none⟩,
  ⟨(some 14),.mov (.tmp 0),none⟩,
  ⟨(some 15),.mov (.tmp 3),none⟩,
  ⟨(some 16),.mov (.tmp 0),none⟩,
  ⟨(some 17),.mov (.tmp 3),none⟩,
  ⟨(some 18),.idxAddr 1 (.tmp 16) (.tmp 17),none⟩,
  ⟨(some 19),.load false 1 (.tmp 18),none⟩,
  ⟨(some 20),.mov (.tmp 0),none⟩,
  ⟨(some 21),.mov (.tmp 1),none⟩,
  ⟨(some 22),.idxAddr 1 (.tmp 20) (.tmp 21),none⟩,
  ⟨(some 23),.load false 1 (.tmp 22),none⟩,
  ⟨(some 24),.idxAddr 1 (.tmp 12) (.tmp 13),none⟩,
  ⟨none,.store 1 (.tmp 24) (.tmp 19),none⟩,
  ⟨(some 25),.idxAddr 1 (.tmp 14) (.tmp 15),none⟩,
  ⟨none,.store 1 (.tmp 25) (.tmp 23),none⟩])
 (.seq (.ops [⟨(some 26),.mov (.tmp 1),none⟩,
  ⟨(some 27),.bin .add (.tmp 26) (.con (.int .i64 1)),none⟩,
  ⟨(some 28),.mov (.tmp 2),none⟩,
  ⟨(some 29),.bin .sub (.tmp 28) (.con (.int .i64 1)),none⟩,
  ⟨(some 10),.mov (.tmp 27),none⟩,
  ⟨(some 11),.mov (.tmp 29),none⟩])
 (.seq (.block 0 (.loop c217l0))
 (.seq (.block 2 (.loop c217l1))
 (.seq (.seq (.ops [⟨(some 63),.mov (.tmp 10),none⟩,
  ⟨(some 64),.mov (.tmp 11),none⟩,
  ⟨(some 65),.bin .gtr (.tmp 63) (.tmp 64),none⟩])
 (.cond (.tmp 65)
 (.seq (.ops [⟨(some 66),.mov (.tmp 0),none⟩,
  ⟨(some 67),.mov (.tmp 11),none⟩,
  ⟨(some 68),.mov (.tmp 0),none⟩,
  ⟨(some 69),.mov (.tmp 1),none⟩,
  ⟨(some 70),.mov (.tmp 0),none⟩,
  ⟨(some 71),.mov (.tmp 1),none⟩,
  ⟨(some 72),.idxAddr 1 (.tmp 70) (.tmp 71),none⟩,
  ⟨(some 73),.load false 1 (.tmp 72),none⟩,
  ⟨(some 74),.mov (.tmp 0),none⟩,
  ⟨(some 75),.mov (.tmp 11),none⟩,
  ⟨(some 76),.idxAddr 1 (.tmp 74) (.tmp 75),none⟩,
  ⟨(some 77),.load false 1 (.tmp 76),none⟩,
  ⟨(some 78),.idxAddr 1 (.tmp 66) (.tmp 67),none⟩,
  ⟨none,.store 1 (.tmp 78) (.tmp 73),none⟩,
  ⟨(some 79),.idxAddr 1 (.tmp 68) (.tmp 69),none⟩,
  ⟨none,.store 1 (.tmp 79) (.tmp 77),none⟩])
 (.seq (.ops [⟨(some 80),.mov (.tmp 11),none⟩,
  ⟨(some 8),.mov (.tmp 80),none⟩,
  ⟨(some 9),.mov (.con (.bool true)),none⟩])
 .ret))
 .skip))
 (.seq (.ops [⟨(some 81),.mov (.tmp 0),none⟩,
  ⟨(some 82),.mov (.tmp 10),none⟩,
  ⟨(some 83),.mov (.tmp 0),none⟩,
  ⟨(some 84),.mov (.tmp 11),none⟩,
  ⟨(some 85),.mov (.tmp 0),none⟩,
  ⟨(some 86),.mov (.tmp 11),none⟩,
  ⟨(some 87),.idxAddr 1 (.tmp 85) (.tmp 86),none⟩,
  ⟨(some 88),.load false 1 (.tmp 87),none⟩,
  ⟨(some 89),.mov (.tmp 0),none⟩,
  ⟨(some 90),.mov (.tmp 10),none⟩,
  ⟨(some 91),.idxAddr 1 (.tmp 89) (.tmp 90),none⟩,
  ⟨(some 92),.load false 1 (.tmp 91),none⟩,
  ⟨(some 93),.idxAddr 1 (.tmp 81) (.tmp 82),none⟩,
  ⟨none,.store 1 (.tmp 93) (.tmp 88),none⟩,
  ⟨(some 94),.idxAddr 1 (.tmp 83) (.tmp 84),none⟩,
  ⟨none,.store 1 (.tmp 94) (.tmp 92),none⟩])
 (.seq (.ops [⟨(some 95),.mov (.tmp 10),none⟩,
  ⟨(some 96),.bin .add (.tmp 95) (.con (.int .i64 1)),none⟩,
  ⟨(some 10),.mov (.tmp 96),none⟩])
 (.seq (.ops [⟨(some 97),.mov (.tmp 11),none⟩,
  ⟨(some 98),.bin .sub (.tmp 97) (.con (.int .i64 1)),none⟩,
  ⟨(some 11),.mov (.tmp 98),none⟩])
 (.seq (.block 4 (.loop c217l4))
 (.seq (.ops [⟨(some 153),.mov (.tmp 0),none⟩,
  ⟨(some 154),.mov (.tmp 11),none⟩,
  ⟨(some 155),.mov (.tmp 0),none⟩,
  ⟨(some 156),.mov (.tmp 1),none⟩,
  ⟨(some 157),.mov (.tmp 0),none⟩,
  ⟨(some 158),.mov (.tmp 1),none⟩,
  ⟨(some 159),.idxAddr 1 (.tmp 157) (.tmp 158),none⟩,
  ⟨(some 160),.load false 1 (.tmp 159),none⟩,
  ⟨(some 161),.mov (.tmp 0),none⟩,
  ⟨(some 162),.mov (.tmp 11),none⟩,
  ⟨(some 163),.idxAddr 1 (.tmp 161) (.tmp 162),none⟩,
  ⟨(some 164),.load false 1 (.tmp 163),none⟩,
  ⟨(some 165),.idxAddr 1 (.tmp 153) (.tmp 154),none⟩,
  ⟨none,.store 1 (.tmp 165) (.tmp 160),none⟩,
  ⟨(some 166),.idxAddr 1 (.tmp 155) (.tmp 156),none⟩,
  ⟨none,.store 1 (.tmp 166) (.tmp 164),none⟩])
 (.seq (.ops [⟨(some 167),.mov (.tmp 11),none⟩,
  ⟨(some 8),.mov (.tmp 167),none⟩,
  ⟨(some 9),.mov (.con (.bool false)),none⟩])
 .ret))))))))))))
def a217 : AFunc:=⟨4,c217,[.tmp 8,.tmp 9]⟩
theorem k217 : cFunc Tryz.prog Tryz.f217=some a217:=by kernel_rfl
/- 220: (*tendril/drop.Drop).wants -/
def c220 : ACode:=(.seq (.ops [⟨(some 4),.box (.tmp 1),none⟩])
 (.ops [⟨(some 6),.mov (.tmp 0),none⟩,
  ⟨(some 7),.mov (.tmp 0),none⟩,
  ⟨(some 8),.load true 6 (.tmp 4),none⟩,
  ⟨(some 9),.mov (.tmp 2),none⟩,
  ⟨(some 10),.nilChk (.tmp 6),none⟩,
  ⟨(some 11),.fieldAddr 6 (.tmp 10),none⟩,
  ⟨none,.store 6 (.tmp 11) (.tmp 8),none⟩,
  ⟨(some 12),.nilChk (.tmp 7),none⟩,
  ⟨(some 13),.fieldAddr 12 (.tmp 12),none⟩,
  ⟨none,.store 1 (.tmp 13) (.tmp 9),none⟩]))
def a220 : AFunc:=⟨3,c220,[]⟩
theorem k220 : cFunc Tryz.prog Tryz.f220=some a220:=by kernel_rfl
/- 221: (*tendril/drop.Drop).atEpoch -/
def c221 : ACode:=(.seq (.ops [⟨(some 3),.box (.tmp 1),none⟩])
 (.ops [⟨(some 4),.mov (.tmp 0),none⟩,
  ⟨(some 5),.fieldAddr 1 (.tmp 3),none⟩,
  ⟨(some 6),.load false 1 (.tmp 5),none⟩,
  ⟨(some 7),.build [(.int .i64 0),(.int .i64 0),(.int .i64 0),(.int .i64 0),(.int .u64 0),.nilSlice] [(0,1,(.con (.int .i64 8))),(3,1,(.tmp 6))],none⟩,
  ⟨(some 8),.call 220 [(.tmp 4),(.tmp 7),(.con (.func (.func 253) [] []))],none⟩]))
def a221 : AFunc:=⟨2,c221,[]⟩
theorem k221 : cFunc Tryz.prog Tryz.f221=some a221:=by kernel_rfl
/- 224: math/bits.Mul -/
def c224 : ACode:=(.seq (.ops [⟨(some 4),.mov (.con (.int .u64 0)),none⟩,
  ⟨(some 5),.mov (.con (.int .u64 0)),none⟩])
 (.seq (.cond (.con (.bool false))
 (.seq (.ops [⟨(some 11),.mov (.tmp 0),none⟩,
  ⟨(some 12),.toInt .u32 (.tmp 11),none⟩,
  ⟨(some 13),.mov (.tmp 1),none⟩,
  ⟨(some 14),.toInt .u32 (.tmp 13),none⟩,
  ⟨(some 15),.call 254 [(.tmp 12),(.tmp 14)],none⟩,
  ⟨(some 10),.mov (.tmp 15),none⟩,
  ⟨(some 16),.extract (.tmp 10) 0,none⟩,
  ⟨(some 17),.extract (.tmp 10) 1,none⟩,
  ⟨(some 6),.mov (.tmp 16),none⟩,
  ⟨(some 7),.mov (.tmp 17),none⟩])
 (.seq (.ops [⟨(some 18),.mov (.tmp 6),none⟩,
  ⟨(some 19),.toInt .u64 (.tmp 18),none⟩,
  ⟨(some 20),.mov (.tmp 7),none⟩,
  ⟨(some 21),.toInt .u64 (.tmp 20),none⟩,
  ⟨(some 4),.mov (.tmp 19),none⟩,
  ⟨(some 5),.mov (.tmp 21),none⟩])
 .ret))
 .skip)
 (.seq (.ops [⟨(some 23),.mov (.tmp 0),none⟩,
  ⟨(some 24),.mov (.tmp 1),none⟩,
  ⟨(some 25),.call 255 [(.tmp 23),(.tmp 24)],none⟩,
  ⟨(some 22),.mov (.tmp 25),none⟩,
  ⟨(some 26),.extract (.tmp 22) 0,none⟩,
  ⟨(some 27),.extract (.tmp 22) 1,none⟩,
  ⟨(some 8),.mov (.tmp 26),none⟩,
  ⟨(some 9),.mov (.tmp 27),none⟩])
 (.seq (.ops [⟨(some 28),.mov (.tmp 8),none⟩,
  ⟨(some 29),.mov (.tmp 9),none⟩,
  ⟨(some 4),.mov (.tmp 28),none⟩,
  ⟨(some 5),.mov (.tmp 29),none⟩])
 .ret))))
def a224 : AFunc:=⟨2,c224,[.tmp 4,.tmp 5]⟩
theorem k224 : cFunc Tryz.prog Tryz.f224=some a224:=by kernel_rfl
/- 243: (*tendril/arena.Arena).of -/
def c243 : ACode:=(.seq (.ops [⟨(some 4),.mov (.con .nilPtr),none⟩,
  ⟨(some 5),.mov (.con (.int .i64 0)),none⟩])
 (.seq (.ops [⟨(some 12),.mov (.tmp 1),none⟩,
  ⟨(some 13),.call 204 [(.tmp 12)],none⟩,
  ⟨(some 11),.mov (.tmp 13),none⟩,
  ⟨(some 14),.extract (.tmp 11) 0,none⟩,
  ⟨(some 15),.extract (.tmp 11) 1,none⟩,
  ⟨(some 16),.extract (.tmp 11) 2,none⟩,
  ⟨(some 17),.extract (.tmp 11) 3,none⟩,
  ⟨(some 6),.mov (.tmp 14),none⟩,
  ⟨(some 7),.mov (.tmp 15),none⟩,
  ⟨(some 8),.mov (.tmp 16),none⟩,
  ⟨(some 9),.mov (.tmp 17),none⟩])
 (.seq (.seq (.ops [⟨(some 18),.mov (.tmp 9),none⟩,
  ⟨(some 19),.un .not (.tmp 18),none⟩,
  ⟨(some 20),.mov (.tmp 19),none⟩,
  ⟨(some 21),.mov (.tmp 6),(some (20,false))⟩,
  ⟨(some 22),.mov (.tmp 0),(some (20,false))⟩,
  ⟨(some 23),.nilChk (.tmp 22),(some (20,false))⟩,
  ⟨(some 24),.fieldAddr 0 (.tmp 23),(some (20,false))⟩,
  ⟨(some 25),.load false 1 (.tmp 24),(some (20,false))⟩,
  ⟨(some 26),.lenSlice (.tmp 25),(some (20,false))⟩,
  ⟨(some 27),.bin .geq (.tmp 21) (.tmp 26),(some (20,false))⟩,
  ⟨(some 28),.pick (.tmp 20) (.con (.bool true)) (.tmp 27),none⟩,
  ⟨(some 29),.mov (.tmp 28),none⟩,
  ⟨(some 30),.mov (.tmp 8),(some (29,false))⟩,
  ⟨(some 31),.mov (.tmp 0),(some (29,false))⟩,
  ⟨(some 32),.nilChk (.tmp 31),(some (29,false))⟩,
  ⟨(some 33),.fieldAddr 0 (.tmp 32),(some (29,false))⟩,
  ⟨(some 34),.load false 1 (.tmp 33),(some (29,false))⟩,
  ⟨(some 35),.mov (.tmp 6),(some (29,false))⟩,
  ⟨(some 36),.idxAddr 4 (.tmp 34) (.tmp 35),(some (29,false))⟩,
  ⟨(some 37),.fieldAddr 0 (.tmp 36),(some (29,false))⟩,
  ⟨(some 38),.load false 1 (.tmp 37),(some (29,false))⟩,
  ⟨(some 39),.bin .eql (.tmp 38) (.con (.int .i64 0)),(some (29,false))⟩,
  ⟨(some 40),.eqB true (.tmp 30) (.tmp 39),(some (29,false))⟩,
  ⟨(some 41),.pick (.tmp 29) (.con (.bool true)) (.tmp 40),none⟩])
 (.cond (.tmp 41)
 (.seq (.ops [⟨(some 4),.mov (.con .nilPtr),none⟩,
  ⟨(some 5),.mov (.con (.int .i64 1)),none⟩])
 .ret)
 .skip))
 (.seq (.ops [⟨(some 42),.mov (.tmp 0),none⟩,
  ⟨(some 43),.nilChk (.tmp 42),none⟩,
  ⟨(some 44),.fieldAddr 0 (.tmp 43),none⟩,
  ⟨(some 45),.load false 1 (.tmp 44),none⟩,
  ⟨(some 46),.mov (.tmp 6),none⟩,
  ⟨(some 47),.idxAddr 4 (.tmp 45) (.tmp 46),none⟩,
  ⟨(some 10),.mov (.tmp 47),none⟩])
 (.seq (.seq (.ops [⟨(some 48),.mov (.tmp 10),none⟩,
  ⟨(some 49),.nilChk (.tmp 48),none⟩,
  ⟨(some 50),.fieldAddr 1 (.tmp 49),none⟩,
  ⟨(some 51),.load false 1 (.tmp 50),none⟩,
  ⟨(some 52),.mov (.tmp 7),none⟩,
  ⟨(some 53),.bin .neq (.tmp 51) (.tmp 52),none⟩])
 (.cond (.tmp 53)
 (.seq (.ops [⟨(some 4),.mov (.con .nilPtr),none⟩,
  ⟨(some 5),.mov (.con (.int .i64 4)),none⟩])
 .ret)
 .skip))
 (.seq (.seq (.ops [⟨(some 54),.mov (.tmp 10),none⟩,
  ⟨(some 55),.nilChk (.tmp 54),none⟩,
  ⟨(some 56),.fieldAddr 2 (.tmp 55),none⟩,
  ⟨(some 57),.load false 1 (.tmp 56),none⟩,
  ⟨(some 58),.un .not (.tmp 57),none⟩])
 (.cond (.tmp 58)
 (.seq (.ops [⟨(some 4),.mov (.con .nilPtr),none⟩,
  ⟨(some 5),.mov (.con (.int .i64 3)),none⟩])
 .ret)
 .skip))
 (.seq (.ops [⟨(some 59),.mov (.tmp 10),none⟩,
  ⟨(some 4),.mov (.tmp 59),none⟩,
  ⟨(some 5),.mov (.con (.int .i64 0)),none⟩])
 .ret)))))))
def a243 : AFunc:=⟨2,c243,[.tmp 4,.tmp 5]⟩
theorem k243 : cFunc Tryz.prog Tryz.f243=some a243:=by kernel_rfl
/- 225: (*tendril/get.Get).atPin -/
def c225 : ACode:=(.seq (.ops [⟨(some 3),.box (.tmp 1),none⟩])
 (.ops [⟨(some 4),.mov (.tmp 0),none⟩,
  ⟨(some 5),.call 256 [(.tmp 4)],none⟩]))
def a225 : AFunc:=⟨2,c225,[]⟩
theorem k225 : cFunc Tryz.prog Tryz.f225=some a225:=by kernel_rfl
/- 226: (*tendril/put.Put).atPin -/
def c226 : ACode:=(.seq (.ops [⟨(some 3),.box (.tmp 1),none⟩])
 (.ops [⟨(some 4),.mov (.tmp 0),none⟩,
  ⟨(some 5),.call 257 [(.tmp 4)],none⟩]))
def a226 : AFunc:=⟨2,c226,[]⟩
theorem k226 : cFunc Tryz.prog Tryz.f226=some a226:=by kernel_rfl
/- 81: (*tendril/epoch.Epochs).Limbo -/
def c81 : ACode:=(.seq (.ops [⟨(some 4),.mov (.con (.int .i64 0)),none⟩])
 (.seq (.ops [⟨(some 6),.mov (.tmp 0),none⟩,
  ⟨(some 7),.mov (.tmp 1),none⟩,
  ⟨(some 8),.call 123 [(.tmp 6),(.tmp 7)],none⟩,
  ⟨(some 5),.mov (.tmp 8),none⟩])
 (.seq (.seq (.ops [⟨(some 9),.mov (.tmp 5),none⟩,
  ⟨(some 10),.eqNil 0 false (.tmp 9) (.con .nilPtr),none⟩])
 (.cond (.tmp 10)
 (.seq (.ops [⟨(some 4),.mov (.con (.int .i64 0)),none⟩])
 .ret)
 .skip))
 (.seq (.ops [⟨(some 11),.mov (.tmp 5),none⟩,
  ⟨(some 12),.nilChk (.tmp 11),none⟩,
  ⟨(some 13),.fieldAddr 1 (.tmp 12),none⟩,
  ⟨(some 14),.load false 1 (.tmp 13),none⟩,
  ⟨(some 15),.lenSlice (.tmp 14),none⟩,
  ⟨(some 4),.mov (.tmp 15),none⟩])
 .ret))))
def a81 : AFunc:=⟨2,c81,[.tmp 4]⟩
theorem k81 : cFunc Tryz.prog Tryz.f81=some a81:=by kernel_rfl
/- 227: (*tendril/tick.Tick).wants -/
def c227 : ACode:=(.seq (.ops [⟨(some 4),.box (.tmp 1),none⟩])
 (.ops [⟨(some 6),.mov (.tmp 0),none⟩,
  ⟨(some 7),.mov (.tmp 0),none⟩,
  ⟨(some 8),.load true 6 (.tmp 4),none⟩,
  ⟨(some 9),.mov (.tmp 2),none⟩,
  ⟨(some 10),.nilChk (.tmp 6),none⟩,
  ⟨(some 11),.fieldAddr 1 (.tmp 10),none⟩,
  ⟨none,.store 6 (.tmp 11) (.tmp 8),none⟩,
  ⟨(some 12),.nilChk (.tmp 7),none⟩,
  ⟨(some 13),.fieldAddr 7 (.tmp 12),none⟩,
  ⟨none,.store 1 (.tmp 13) (.tmp 9),none⟩]))
def a227 : AFunc:=⟨3,c227,[]⟩
theorem k227 : cFunc Tryz.prog Tryz.f227=some a227:=by kernel_rfl
/- 228: (*tendril/tick.Tick).atEpoch -/
def c228 : ACode:=(.seq (.ops [⟨(some 3),.box (.tmp 1),none⟩])
 (.seq (.ops [⟨(some 4),.mov (.tmp 0),none⟩,
  ⟨(some 5),.fieldAddr 1 (.tmp 3),none⟩,
  ⟨(some 6),.load false 1 (.tmp 5),none⟩,
  ⟨(some 7),.nilChk (.tmp 4),none⟩,
  ⟨(some 8),.fieldAddr 8 (.tmp 7),none⟩,
  ⟨none,.store 1 (.tmp 8) (.tmp 6),none⟩])
 (.ops [⟨(some 9),.mov (.tmp 0),none⟩,
  ⟨(some 10),.build [(.int .i64 0),(.int .i64 0),(.int .i64 0),(.int .i64 0),(.int .u64 0),.nilSlice] [(0,1,(.con (.int .i64 10)))],none⟩,
  ⟨(some 11),.call 227 [(.tmp 9),(.tmp 10),(.con (.func (.func 258) [] []))],none⟩])))
def a228 : AFunc:=⟨2,c228,[]⟩
theorem k228 : cFunc Tryz.prog Tryz.f228=some a228:=by kernel_rfl
/- 229: slices.BinarySearchFunc[[][]int,[]int,int] -/
def c229l0 : ACode:=(.seq (.seq (.ops [⟨(some 15),.mov (.tmp 9),none⟩,
  ⟨(some 16),.mov (.tmp 10),none⟩,
  ⟨(some 17),.bin .lss (.tmp 15) (.tmp 16),none⟩])
 (.cond (.tmp 17)
 .skip
 (.exit 0)))
 (.block 1 (.seq (.ops [⟨(some 18),.mov (.tmp 9),none⟩,
  ⟨(some 19),.mov (.tmp 10),none⟩,
  ⟨(some 20),.bin .add (.tmp 18) (.tmp 19),none⟩,
  ⟨(some 21),.toInt .u64 (.tmp 20),none⟩,
  ⟨(some 22),.bin .shr (.tmp 21) (.con (.int .u64 1)),none⟩,
  ⟨(some 23),.toInt .i64 (.tmp 22),none⟩,
  ⟨(some 11),.mov (.tmp 23),none⟩])
 (.seq (.ops [⟨(some 24),.mov (.tmp 2),none⟩,
  ⟨(some 25),.mov (.tmp 0),none⟩,
  ⟨(some 26),.mov (.tmp 11),none⟩,
  ⟨(some 27),.idxAddr 1 (.tmp 25) (.tmp 26),none⟩,
  ⟨(some 28),.load false 1 (.tmp 27),none⟩,
  ⟨(some 29),.mov (.tmp 1),none⟩,
  ⟨(some 30),.callV (.tmp 24) [(.tmp 28),(.tmp 29)],none⟩,
  ⟨(some 31),.bin .lss (.tmp 30) (.con (.int .i64 0)),none⟩])
 (.cond (.tmp 31)
 (.ops [⟨(some 32),.mov (.tmp 11),none⟩,
  ⟨(some 33),.bin .add (.tmp 32) (.con (.int .i64 1)),none⟩,
  ⟨(some 9),.mov (.tmp 33),none⟩])
 (.ops [⟨(some 34),.mov (.tmp 11),none⟩,
  ⟨(some 10),.mov (.tmp 34),none⟩]))))))
def c229 : ACode:=(.seq (.ops [⟨(some 6),.mov (.con (.int .i64 0)),none⟩,
  ⟨(some 7),.mov (.con (.bool false)),none⟩])
 (.seq (.ops [⟨(some 12),.mov (.tmp 0),none⟩,
  ⟨(some 13),.lenSlice (.tmp 12),none⟩,
  ⟨(some 8),.mov (.tmp 13),none⟩])
 (.seq (.ops [⟨(some 14),.mov (.tmp 8),none⟩,
  ⟨(some 9),.mov (.con (.int .i64 0)),none⟩,
  ⟨(some 10),.mov (.tmp 14),none⟩])
 (.seq (.block 0 (.loop c229l0))
 (.seq (.ops [⟨(some 35),.mov (.tmp 9),none⟩,
  ⟨(some 36),.mov (.tmp 9),none⟩,
  ⟨(some 37),.mov (.tmp 8),none⟩,
  ⟨(some 38),.bin .lss (.tmp 36) (.tmp 37),none⟩,
  ⟨(some 39),.mov (.tmp 38),none⟩,
  ⟨(some 40),.mov (.tmp 2),(some (39,true))⟩,
  ⟨(some 41),.mov (.tmp 0),(some (39,true))⟩,
  ⟨(some 42),.mov (.tmp 9),(some (39,true))⟩,
  ⟨(some 43),.idxAddr 1 (.tmp 41) (.tmp 42),(some (39,true))⟩,
  ⟨(some 44),.load false 1 (.tmp 43),(some (39,true))⟩,
  ⟨(some 45),.mov (.tmp 1),(some (39,true))⟩,
  ⟨(some 46),.callV (.tmp 40) [(.tmp 44),(.tmp 45)],(some (39,true))⟩,
  ⟨(some 47),.bin .eql (.tmp 46) (.con (.int .i64 0)),(some (39,true))⟩,
  ⟨(some 48),.pick (.tmp 39) (.tmp 47) (.con (.bool false)),none⟩,
  ⟨(some 6),.mov (.tmp 35),none⟩,
  ⟨(some 7),.mov (.tmp 48),none⟩])
 .ret)))))
def a229 : AFunc:=⟨3,c229,[.tmp 6,.tmp 7]⟩
theorem k229 : cFunc Tryz.prog Tryz.f229=some a229:=by kernel_rfl
/- 230: (tendril/posting.List).block$1 -/
def c230 : ACode:=(.seq (.ops [⟨(some 4),.mov (.con (.int .i64 0)),none⟩])
 (.seq (.seq (.ops [⟨(some 5),.mov (.tmp 0),none⟩,
  ⟨(some 6),.idxAddr 1 (.tmp 5) (.con (.int .i64 0)),none⟩,
  ⟨(some 7),.load false 1 (.tmp 6),none⟩,
  ⟨(some 8),.mov (.tmp 1),none⟩,
  ⟨(some 9),.bin .leq (.tmp 7) (.tmp 8),none⟩])
 (.cond (.tmp 9)
 (.seq (.ops [⟨(some 4),.mov (.con (.int .i64 (-1))),none⟩])
 .ret)
 .skip))
 (.seq (.ops [⟨(some 4),.mov (.con (.int .i64 1)),none⟩])
 .ret)))
def a230 : AFunc:=⟨2,c230,[.tmp 4]⟩
theorem k230 : cFunc Tryz.prog Tryz.f230=some a230:=by kernel_rfl
/- 170: cmp.Less[int] -/
def c170 : ACode:=(.seq (.ops [⟨(some 4),.mov (.con (.bool false)),none⟩])
 (.seq (.ops [⟨(some 5),.mov (.tmp 0),none⟩,
  ⟨(some 6),.call 222 [(.tmp 5)],none⟩,
  ⟨(some 7),.mov (.tmp 6),none⟩,
  ⟨(some 8),.mov (.tmp 1),(some (7,true))⟩,
  ⟨(some 9),.call 222 [(.tmp 8)],(some (7,true))⟩,
  ⟨(some 10),.un .not (.tmp 9),(some (7,true))⟩,
  ⟨(some 11),.pick (.tmp 7) (.tmp 10) (.con (.bool false)),none⟩,
  ⟨(some 12),.mov (.tmp 11),none⟩,
  ⟨(some 13),.mov (.tmp 0),(some (12,false))⟩,
  ⟨(some 14),.mov (.tmp 1),(some (12,false))⟩,
  ⟨(some 15),.bin .lss (.tmp 13) (.tmp 14),(some (12,false))⟩,
  ⟨(some 16),.pick (.tmp 12) (.con (.bool true)) (.tmp 15),none⟩,
  ⟨(some 4),.mov (.tmp 16),none⟩])
 .ret))
def a170 : AFunc:=⟨2,c170,[.tmp 4]⟩
theorem k170 : cFunc Tryz.prog Tryz.f170=some a170:=by kernel_rfl
/- 171: slices.isNaN[int] -/
def c171 : ACode:=(.seq (.ops [⟨(some 2),.mov (.con (.bool false)),none⟩])
 (.seq (.ops [⟨(some 3),.mov (.tmp 0),none⟩,
  ⟨(some 4),.mov (.tmp 0),none⟩,
  ⟨(some 5),.bin .neq (.tmp 3) (.tmp 4),none⟩,
  ⟨(some 2),.mov (.tmp 5),none⟩])
 .ret))
def a171 : AFunc:=⟨1,c171,[.tmp 2]⟩
theorem k171 : cFunc Tryz.prog Tryz.f171=some a171:=by kernel_rfl
/- 231: slices.rotateLeft[int] -/
def c231 : ACode:=(.seq (.ops [⟨(some 4),.mov (.tmp 0),none⟩,
  ⟨(some 5),.mov (.tmp 1),none⟩,
  ⟨(some 6),.slc 1 (.tmp 4) none (some (.tmp 5)) none,none⟩,
  ⟨(some 7),.call 259 [(.tmp 6)],none⟩])
 (.seq (.ops [⟨(some 8),.mov (.tmp 0),none⟩,
  ⟨(some 9),.mov (.tmp 1),none⟩,
  ⟨(some 10),.slc 1 (.tmp 8) (some (.tmp 9)) none none,none⟩,
  ⟨(some 11),.call 259 [(.tmp 10)],none⟩])
 (.ops [⟨(some 12),.mov (.tmp 0),none⟩,
  ⟨(some 13),.call 259 [(.tmp 12)],none⟩])))
def a231 : AFunc:=⟨2,c231,[]⟩
theorem k231 : cFunc Tryz.prog Tryz.f231=some a231:=by kernel_rfl
/- 232: slices.Grow[[][]int,[]int] -/
def c232 : ACode:=(.seq (.ops [⟨(some 4),.mov (.con .nilSlice),none⟩])
 (.seq (.seq (.ops [⟨(some 5),.mov (.tmp 1),none⟩,
  ⟨(some 6),.bin .lss (.tmp 5) (.con (.int .i64 0)),none⟩])
 (.cond (.tmp 6)
 (.ops [⟨(some 7),.mkIface 9 (.con (.str [99,97,110,110,111,116,32,98,101,32,110,101,103,97,116,105,118,101])),none⟩,
  ⟨none,.stuck,none⟩])
 .skip))
 (.seq (.seq (.ops [⟨(some 8),.mov (.tmp 1),none⟩,
  ⟨(some 9),.mov (.tmp 0),none⟩,
  ⟨(some 10),.capSlice (.tmp 9),none⟩,
  ⟨(some 11),.mov (.tmp 0),none⟩,
  ⟨(some 12),.lenSlice (.tmp 11),none⟩,
  ⟨(some 13),.bin .sub (.tmp 10) (.tmp 12),none⟩,
  ⟨(some 14),.bin .sub (.tmp 8) (.tmp 13),none⟩,
  ⟨(some 1),.mov (.tmp 14),none⟩])
 (.seq (.ops [⟨(some 15),.mov (.tmp 1),none⟩,
  ⟨(some 16),.bin .gtr (.tmp 15) (.con (.int .i64 0)),none⟩])
 (.cond (.tmp 16)
 (.ops [⟨(some 17),.mov (.tmp 0),none⟩,
  ⟨(some 18),.mov (.tmp 0),none⟩,
  ⟨(some 19),.capSlice (.tmp 18),none⟩,
  ⟨(some 20),.slc 1 (.tmp 17) none (some (.tmp 19)) none,none⟩,
  ⟨(some 21),.mov (.tmp 1),none⟩,
  ⟨(some 22),.appendZ 1 24 [.nilSlice] (.tmp 20) (.tmp 21),none⟩,
  ⟨(some 23),.mov (.tmp 0),none⟩,
  ⟨(some 24),.lenSlice (.tmp 23),none⟩,
  ⟨(some 25),.slc 1 (.tmp 22) none (some (.tmp 24)) none,none⟩,
  ⟨(some 0),.mov (.tmp 25),none⟩])
 .skip)))
 (.seq (.ops [⟨(some 26),.mov (.tmp 0),none⟩,
  ⟨(some 4),.mov (.tmp 26),none⟩])
 .ret))))
def a232 : AFunc:=⟨2,c232,[.tmp 4]⟩
theorem k232 : cFunc Tryz.prog Tryz.f232=some a232:=by kernel_rfl
/- 233: (*tendril/query.reader).word -/
def c233l0 : ACode:=(.seq (.seq (.ops [⟨(some 3),.mov (.tmp 0),none⟩,
  ⟨(some 4),.nilChk (.tmp 3),none⟩,
  ⟨(some 5),.fieldAddr 0 (.tmp 4),none⟩,
  ⟨(some 6),.load false 1 (.tmp 5),none⟩,
  ⟨(some 7),.bin .neq (.tmp 6) (.con (.str [])),none⟩,
  ⟨(some 8),.mov (.tmp 7),none⟩,
  ⟨(some 9),.mov (.tmp 0),(some (8,true))⟩,
  ⟨(some 10),.nilChk (.tmp 9),(some (8,true))⟩,
  ⟨(some 11),.fieldAddr 0 (.tmp 10),(some (8,true))⟩,
  ⟨(some 12),.load false 1 (.tmp 11),(some (8,true))⟩,
  ⟨(some 13),.idxStr (.tmp 12) (.con (.int .i64 0)),(some (8,true))⟩,
  ⟨(some 14),.call 106 [(.tmp 13)],(some (8,true))⟩,
  ⟨(some 15),.bin .neq (.tmp 14) (.con (.int .u8 0)),(some (8,true))⟩,
  ⟨(some 16),.pick (.tmp 8) (.tmp 15) (.con (.bool false)),none⟩])
 (.cond (.tmp 16)
 .skip
 (.exit 0)))
 (.block 1 (.seq (.ops [⟨(some 17),.mov (.tmp 2),none⟩,
  ⟨(some 18),.mov (.tmp 0),none⟩,
  ⟨(some 19),.nilChk (.tmp 18),none⟩,
  ⟨(some 20),.fieldAddr 0 (.tmp 19),none⟩,
  ⟨(some 21),.load false 1 (.tmp 20),none⟩,
  ⟨(some 22),.idxStr (.tmp 21) (.con (.int .i64 0)),none⟩,
  ⟨(some 23),.call 106 [(.tmp 22)],none⟩,
  ⟨(some 24),.buildSlice 1 1 [(.int .u8 0)] [(0,1,(.tmp 23))],none⟩,
  ⟨(some 25),.append 1 1 (.tmp 17) (.tmp 24),none⟩,
  ⟨(some 2),.mov (.tmp 25),none⟩])
 (.ops [⟨(some 26),.mov (.tmp 0),none⟩,
  ⟨(some 27),.mov (.tmp 0),none⟩,
  ⟨(some 28),.nilChk (.tmp 27),none⟩,
  ⟨(some 29),.fieldAddr 0 (.tmp 28),none⟩,
  ⟨(some 30),.load false 1 (.tmp 29),none⟩,
  ⟨(some 31),.slcStr (.tmp 30) (some (.con (.int .i64 1))) none,none⟩,
  ⟨(some 32),.nilChk (.tmp 26),none⟩,
  ⟨(some 33),.fieldAddr 0 (.tmp 32),none⟩,
  ⟨none,.store 1 (.tmp 33) (.tmp 31),none⟩]))))
def c233 : ACode:=(.seq (.ops [⟨(some 2),.mov (.con .nilSlice),none⟩])
 (.seq (.block 0 (.loop c233l0))
 (.seq (.seq (.ops [⟨(some 34),.mov (.tmp 2),none⟩,
  ⟨(some 35),.lenSlice (.tmp 34),none⟩,
  ⟨(some 36),.bin .gtr (.tmp 35) (.con (.int .i64 12)),none⟩])
 (.cond (.tmp 36)
 (.ops [⟨(some 37),.mov (.tmp 0),none⟩,
  ⟨(some 38),.call 99 [(.tmp 37),(.con (.int .i64 6))],none⟩])
 .skip))
 (.ops [⟨(some 39),.mov (.tmp 0),none⟩,
  ⟨(some 40),.mov (.tmp 2),none⟩,
  ⟨(some 41),.toStr (.tmp 40),none⟩,
  ⟨(some 42),.call 149 [(.tmp 39),(.con (.int .i64 1)),(.tmp 41)],none⟩]))))
def a233 : AFunc:=⟨1,c233,[]⟩
theorem k233 : cFunc Tryz.prog Tryz.f233=some a233:=by kernel_rfl
/- 234: slices.insertionSortOrdered[int] -/
def c234l0 : ACode:=(.seq (.seq (.ops [⟨(some 16),.mov (.tmp 7),none⟩,
  ⟨(some 17),.mov (.tmp 1),none⟩,
  ⟨(some 18),.bin .gtr (.tmp 16) (.tmp 17),none⟩,
  ⟨(some 19),.mov (.tmp 18),none⟩,
  ⟨(some 20),.mov (.tmp 0),(some (19,true))⟩,
  ⟨(some 21),.mov (.tmp 7),(some (19,true))⟩,
  ⟨(some 22),.idxAddr 1 (.tmp 20) (.tmp 21),(some (19,true))⟩,
  ⟨(some 23),.load false 1 (.tmp 22),(some (19,true))⟩,
  ⟨(some 24),.mov (.tmp 0),(some (19,true))⟩,
  ⟨(some 25),.mov (.tmp 7),(some (19,true))⟩,
  ⟨(some 26),.bin .sub (.tmp 25) (.con (.int .i64 1)),(some (19,true))⟩,
  ⟨(some 27),.idxAddr 1 (.tmp 24) (.tmp 26),(some (19,true))⟩,
  ⟨(some 28),.load false 1 (.tmp 27),(some (19,true))⟩,
  ⟨(some 29),.call 170 [(.tmp 23),(.tmp 28)],(some (19,true))⟩,
  ⟨(some 30),.pick (.tmp 19) (.tmp 29) (.con (.bool false)),none⟩])
 (.cond (.tmp 30)
 .skip
 (.exit 2)))
 (.seq (.block 3 (.ops [⟨(some 33),.mov (.tmp 0),none⟩,
  ⟨(some 34),.mov (.tmp 7),none⟩,
  ⟨(some 35),.mov (.tmp 0),none⟩,
  ⟨(some 36),.mov (.tmp 7),none⟩,
  ⟨(some 37),.bin .sub (.tmp 36) (.con (.int .i64 1)),none⟩,
  ⟨(some 38),.mov (.tmp 0),none⟩,
  ⟨(some 39),.mov (.tmp 7),none⟩,
  ⟨(some 40),.bin .sub (.tmp 39) (.con (.int .i64 1)),none⟩,
  ⟨(some 41),.idxAddr 1 (.tmp 38) (.tmp 40),none⟩,
  ⟨(some 42),.load false 1 (.tmp 41),none⟩,
  ⟨(some 43),.mov (.tmp 0),none⟩,
  ⟨(some 44),.mov (.tmp 7),none⟩,
  ⟨(some 45),.idxAddr 1 (.tmp 43) (.tmp 44),none⟩,
  ⟨(some 46),.load false 1 (.tmp 45),none⟩,
  ⟨(some 47),.idxAddr 1 (.tmp 33) (.tmp 34),none⟩,
  ⟨none,.store 1 (.tmp 47) (.tmp 42),none⟩,
  ⟨(some 48),.idxAddr 1 (.tmp 35) (.tmp 37),none⟩,
  ⟨none,.store 1 (.tmp 48) (.tmp 46),none⟩]))
 (.ops [⟨(some 31),.mov (.tmp 7),none⟩,
  ⟨(some 32),.bin .sub (.tmp 31) (.con (.int .i64 1)),none⟩,
  ⟨(some 7),.mov (.tmp 32),none⟩])))
def c234l1 : ACode:=(.seq (.seq (.ops [⟨(some 10),.mov (.tmp 6),none⟩,
  ⟨(some 11),.mov (.tmp 2),none⟩,
  ⟨(some 12),.bin .lss (.tmp 10) (.tmp 11),none⟩])
 (.cond (.tmp 12)
 .skip
 (.exit 0)))
 (.seq (.block 1 (.seq (.ops [⟨(some 15),.mov (.tmp 6),none⟩,
  ⟨(some 7),.mov (.tmp 15),none⟩])
 (.block 2 (.loop c234l0))))
 (.ops [⟨(some 13),.mov (.tmp 6),none⟩,
  ⟨(some 14),.bin .add (.tmp 13) (.con (.int .i64 1)),none⟩,
  ⟨(some 6),.mov (.tmp 14),none⟩])))
def c234 : ACode:=(.seq (.ops [⟨(some 8),.mov (.tmp 1),none⟩,
  ⟨(some 9),.bin .add (.tmp 8) (.con (.int .i64 1)),none⟩,
  ⟨(some 6),.mov (.tmp 9),none⟩])
 (.block 0 (.loop c234l1)))
def a234 : AFunc:=⟨3,c234,[]⟩
theorem k234 : cFunc Tryz.prog Tryz.f234=some a234:=by kernel_rfl
/- 242: (*tendril/scan.Scan).atNode -/
def c242 : ACode:=(.seq (.ops [⟨(some 3),.box (.tmp 1),none⟩])
 (.seq (.ops [⟨(some 7),.fieldAddr 3 (.tmp 3),none⟩,
  ⟨(some 8),.load false 1 (.tmp 7),none⟩,
  ⟨(some 9),.call 263 [(.tmp 8)],none⟩,
  ⟨(some 6),.mov (.tmp 9),none⟩,
  ⟨(some 10),.extract (.tmp 6) 0,none⟩,
  ⟨(some 11),.extract (.tmp 6) 1,none⟩,
  ⟨(some 4),.new [(.int .i64 0),(.int .u64 0),(.str []),.nilSlice,.nilSlice],none⟩,
  ⟨none,.store 5 (.tmp 4) (.tmp 10),none⟩,
  ⟨(some 5),.mov (.tmp 11),none⟩])
 (.block 0 (.seq (.ops [⟨(some 13),.fieldAddr 0 (.tmp 3),none⟩,
  ⟨(some 14),.load false 1 (.tmp 13),none⟩,
  ⟨(some 15),.bin .neq (.tmp 14) (.con (.int .i64 0)),none⟩,
  ⟨(some 12),.mov (.tmp 15),none⟩])
 (.cond (.tmp 12)
 (.ops [⟨(some 16),.mov (.tmp 0),none⟩,
  ⟨(some 17),.fieldAddr 0 (.tmp 3),none⟩,
  ⟨(some 18),.load false 1 (.tmp 17),none⟩,
  ⟨(some 19),.call 264 [(.tmp 16),(.tmp 18)],none⟩])
 (.seq (.ops [⟨(some 21),.mov (.tmp 5),none⟩,
  ⟨(some 22),.un .not (.tmp 21),none⟩,
  ⟨(some 20),.mov (.tmp 22),none⟩])
 (.cond (.tmp 20)
 (.ops [⟨(some 23),.mov (.tmp 0),none⟩,
  ⟨(some 24),.call 264 [(.tmp 23),(.con (.int .i64 5))],none⟩])
 (.seq (.ops [⟨(some 26),.fieldAddr 1 (.tmp 4),none⟩,
  ⟨(some 27),.load false 1 (.tmp 26),none⟩,
  ⟨(some 28),.call 178 [(.tmp 27)],none⟩,
  ⟨(some 25),.mov (.tmp 28),none⟩])
 (.cond (.tmp 25)
 (.ops [⟨(some 29),.mov (.tmp 0),none⟩,
  ⟨(some 30),.call 199 [(.tmp 29)],none⟩])
 (.seq (.ops [⟨(some 32),.fieldAddr 1 (.tmp 4),none⟩,
  ⟨(some 33),.load false 1 (.tmp 32),none⟩,
  ⟨(some 34),.call 265 [(.tmp 33)],none⟩,
  ⟨(some 31),.mov (.tmp 34),none⟩])
 (.cond (.tmp 31)
 (.seq (.draw [.op ⟨(some 35),.mov (.tmp 0),none⟩,
  .op ⟨(some 36),.mov (.tmp 0),none⟩,
  .op ⟨(some 37),.nilChk (.tmp 36),none⟩,
  .op ⟨(some 38),.fieldAddr 12 (.tmp 37),none⟩,
  .op ⟨(some 39),.load false 1 (.tmp 38),none⟩,
  .op ⟨(some 40),.load true 5 (.tmp 4),none⟩,
  .op ⟨(some 41),.mov (.tmp 0),none⟩,
  .op ⟨(some 42),.nilChk (.tmp 41),none⟩,
  .op ⟨(some 43),.fieldAddr 11 (.tmp 42),none⟩,
  .op ⟨(some 44),.load false 1 (.tmp 43),none⟩,
  .op ⟨(some 45),.fieldAddr 2 (.tmp 4),none⟩,
  .op ⟨(some 46),.load false 1 (.tmp 45),none⟩,
  .op ⟨(some 47),.bin .add (.tmp 44) (.tmp 46),none⟩,
  .op ⟨(some 48),.build [(.int .i64 0),(.int .u64 0),(.str []),.nilSlice,.nilSlice,(.str []),(.int .i64 0)] [(0,5,(.tmp 40)),(5,1,(.tmp 47))],none⟩,
  .op ⟨(some 49),.buildSlice 7 1 [(.int .i64 0),(.int .u64 0),(.str []),.nilSlice,.nilSlice,(.str []),(.int .i64 0)] [(0,7,(.tmp 48))],none⟩,
  .look ⟨(some 39),.load false 1 (.tmp 38),none⟩,
  .look ⟨(some 40),.load true 5 (.tmp 4),none⟩,
  .look ⟨(some 44),.load false 1 (.tmp 43),none⟩,
  .look ⟨(some 46),.load false 1 (.tmp 45),none⟩,
  .look ⟨(some 49),.buildSlice 7 1 [(.int .i64 0),(.int .u64 0),(.str []),.nilSlice,.nilSlice,(.str []),(.int .i64 0)] [(0,7,(.tmp 48))],none⟩,
  .op ⟨(some 50),.append 7 104 (.tmp 39) (.tmp 49),none⟩,
  .op ⟨(some 51),.nilChk (.tmp 35),none⟩,
  .op ⟨(some 52),.fieldAddr 12 (.tmp 51),none⟩,
  .op ⟨none,.store 1 (.tmp 52) (.tmp 50),none⟩])
 (.ops [⟨(some 53),.mov (.tmp 0),none⟩,
  ⟨(some 54),.call 266 [(.tmp 53)],none⟩]))
 .skip)))))))))))
def a242 : AFunc:=⟨2,c242,[]⟩
theorem k242 : cFunc Tryz.prog Tryz.f242=some a242:=by kernel_rfl
/- 244: slices.Clone[[]tendril/epoch.retired,tendril/epoch.retired] -/
def c244 : ACode:=(.seq (.ops [⟨(some 2),.mov (.con .nilSlice),none⟩])
 (.seq (.seq (.ops [⟨(some 3),.mov (.tmp 0),none⟩,
  ⟨(some 4),.eqNil 1 false (.tmp 3) (.con .nilSlice),none⟩])
 (.cond (.tmp 4)
 (.seq (.ops [⟨(some 2),.mov (.con .nilSlice),none⟩])
 .ret)
 .skip))
 (.seq (.ops [⟨(some 5),.buildSlice 2 0 [] [],none⟩,
  ⟨(some 6),.mov (.tmp 0),none⟩,
  ⟨(some 7),.append 2 16 (.tmp 5) (.tmp 6),none⟩,
  ⟨(some 2),.mov (.tmp 7),none⟩])
 .ret)))
def a244 : AFunc:=⟨1,c244,[.tmp 2]⟩
theorem k244 : cFunc Tryz.prog Tryz.f244=some a244:=by kernel_rfl
/- 207: unicode/utf8.DecodeRuneInString -/
def c207 : ACode:=(.seq (.ops [⟨(some 2),.mov (.con (.int .i32 0)),none⟩,
  ⟨(some 3),.mov (.con (.int .i64 0)),none⟩])
 (.seq (.seq (.ops [⟨(some 4),.mov (.tmp 0),none⟩,
  ⟨(some 5),.bin .neq (.tmp 4) (.con (.str [])),none⟩,
  ⟨(some 6),.mov (.tmp 5),none⟩,
  ⟨(some 7),.mov (.tmp 0),(some (6,true))⟩,
  ⟨(some 8),.idxStr (.tmp 7) (.con (.int .i64 0)),(some (6,true))⟩,
  ⟨(some 9),.bin .lss (.tmp 8) (.con (.int .u8 128)),(some (6,true))⟩,
  ⟨(some 10),.pick (.tmp 6) (.tmp 9) (.con (.bool false)),none⟩])
 (.cond (.tmp 10)
 (.seq (.ops [⟨(some 11),.mov (.tmp 0),none⟩,
  ⟨(some 12),.idxStr (.tmp 11) (.con (.int .i64 0)),none⟩,
  ⟨(some 13),.toInt .i32 (.tmp 12),none⟩,
  ⟨(some 2),.mov (.tmp 13),none⟩,
  ⟨(some 3),.mov (.con (.int .i64 1)),none⟩])
 .ret)
 (.ops [⟨(some 15),.mov (.tmp 0),none⟩,
  ⟨(some 16),.call 245 [(.tmp 15)],none⟩,
  ⟨(some 14),.mov (.tmp 16),none⟩,
  ⟨(some 17),.extract (.tmp 14) 0,none⟩,
  ⟨(some 18),.extract (.tmp 14) 1,none⟩,
  ⟨(some 2),.mov (.tmp 17),none⟩,
  ⟨(some 3),.mov (.tmp 18),none⟩])))
 .ret))
def a207 : AFunc:=⟨1,c207,[.tmp 2,.tmp 3]⟩
theorem k207 : cFunc Tryz.prog Tryz.f207=some a207:=by kernel_rfl
/- 208: strings.Index -/
def c208 : ACode:=(.seq (.ops [⟨(some 4),.mov (.con (.int .i64 0)),none⟩])
 (.seq (.ops [⟨(some 5),.mov (.tmp 0),none⟩,
  ⟨(some 6),.mov (.tmp 1),none⟩,
  ⟨(some 7),.call 246 [(.tmp 5),(.tmp 6)],none⟩,
  ⟨(some 4),.mov (.tmp 7),none⟩])
 .ret))
def a208 : AFunc:=⟨2,c208,[.tmp 4]⟩
theorem k208 : cFunc Tryz.prog Tryz.f208=some a208:=by kernel_rfl
/- 247: slices.siftDownOrdered[string] -/
def c247l0 : ACode:=(.block 1 (.seq (.ops [⟨(some 11),.mov (.tmp 8),none⟩,
  ⟨(some 12),.bin .mul (.con (.int .i64 2)) (.tmp 11),none⟩,
  ⟨(some 13),.bin .add (.tmp 12) (.con (.int .i64 1)),none⟩,
  ⟨(some 9),.mov (.tmp 13),none⟩])
 (.seq (.seq (.ops [⟨(some 14),.mov (.tmp 9),none⟩,
  ⟨(some 15),.mov (.tmp 2),none⟩,
  ⟨(some 16),.bin .geq (.tmp 14) (.tmp 15),none⟩])
 (.cond (.tmp 16)
 (.exit 0)
 .skip))
 (.seq (.seq (.ops [⟨(some 17),.mov (.tmp 9),none⟩,
  ⟨(some 18),.bin .add (.tmp 17) (.con (.int .i64 1)),none⟩,
  ⟨(some 19),.mov (.tmp 2),none⟩,
  ⟨(some 20),.bin .lss (.tmp 18) (.tmp 19),none⟩,
  ⟨(some 21),.mov (.tmp 20),none⟩,
  ⟨(some 22),.mov (.tmp 0),(some (21,true))⟩,
  ⟨(some 23),.mov (.tmp 3),(some (21,true))⟩,
  ⟨(some 24),.mov (.tmp 9),(some (21,true))⟩,
  ⟨(some 25),.bin .add (.tmp 23) (.tmp 24),(some (21,true))⟩,
  ⟨(some 26),.idxAddr 1 (.tmp 22) (.tmp 25),(some (21,true))⟩,
  ⟨(some 27),.load false 1 (.tmp 26),(some (21,true))⟩,
  ⟨(some 28),.mov (.tmp 0),(some (21,true))⟩,
  ⟨(some 29),.mov (.tmp 3),(some (21,true))⟩,
  ⟨(some 30),.mov (.tmp 9),(some (21,true))⟩,
  ⟨(some 31),.bin .add (.tmp 29) (.tmp 30),(some (21,true))⟩,
  ⟨(some 32),.bin .add (.tmp 31) (.con (.int .i64 1)),(some (21,true))⟩,
  ⟨(some 33),.idxAddr 1 (.tmp 28) (.tmp 32),(some (21,true))⟩,
  ⟨(some 34),.load false 1 (.tmp 33),(some (21,true))⟩,
  ⟨(some 35),.call 215 [(.tmp 27),(.tmp 34)],(some (21,true))⟩,
  ⟨(some 36),.pick (.tmp 21) (.tmp 35) (.con (.bool false)),none⟩])
 (.cond (.tmp 36)
 (.ops [⟨(some 37),.mov (.tmp 9),none⟩,
  ⟨(some 38),.bin .add (.tmp 37) (.con (.int .i64 1)),none⟩,
  ⟨(some 9),.mov (.tmp 38),none⟩])
 .skip))
 (.seq (.seq (.ops [⟨(some 39),.mov (.tmp 0),none⟩,
  ⟨(some 40),.mov (.tmp 3),none⟩,
  ⟨(some 41),.mov (.tmp 8),none⟩,
  ⟨(some 42),.bin .add (.tmp 40) (.tmp 41),none⟩,
  ⟨(some 43),.idxAddr 1 (.tmp 39) (.tmp 42),none⟩,
  ⟨(some 44),.load false 1 (.tmp 43),none⟩,
  ⟨(some 45),.mov (.tmp 0),none⟩,
  ⟨(some 46),.mov (.tmp 3),none⟩,
  ⟨(some 47),.mov (.tmp 9),none⟩,
  ⟨(some 48),.bin .add (.tmp 46) (.tmp 47),none⟩,
  ⟨(some 49),.idxAddr 1 (.tmp 45) (.tmp 48),none⟩,
  ⟨(some 50),.load false 1 (.tmp 49),none⟩,
  ⟨(some 51),.call 215 [(.tmp 44),(.tmp 50)],none⟩,
  ⟨(some 52),.un .not (.tmp 51),none⟩])
 (.cond (.tmp 52)
 .ret
 .skip))
 (.seq (.ops [⟨(some 53),.mov (.tmp 0),none⟩,
  ⟨(some 54),.mov (.tmp 3),none⟩,
  ⟨(some 55),.mov (.tmp 8),none⟩,
  ⟨(some 56),.bin .add (.tmp 54) (.tmp 55),none⟩,
  ⟨(some 57),.mov (.tmp 0),none⟩,
  ⟨(some 58),.mov (.tmp 3),none⟩,
  ⟨(some 59),.mov (.tmp 9),none⟩,
  ⟨(some 60),.bin .add (.tmp 58) (.tmp 59),none⟩,
  ⟨(some 61),.mov (.tmp 0),none⟩,
  ⟨(some 62),.mov (.tmp 3),none⟩,
  ⟨(some 63),.mov (.tmp 9),none⟩,
  ⟨(some 64),.bin .add (.tmp 62) (.tmp 63),none⟩,
  ⟨(some 65),.idxAddr 1 (.tmp 61) (.tmp 64),none⟩,
  ⟨(some 66),.load false 1 (.tmp 65),none⟩,
  ⟨(some 67),.mov (.tmp 0),none⟩,
  ⟨(some 68),.mov (.tmp 3),none⟩,
  ⟨(some 69),.mov (.tmp 8),none⟩,
  ⟨(some 70),.bin .add (.tmp 68) (.tmp 69),none⟩,
  ⟨(some 71),.idxAddr 1 (.tmp 67) (.tmp 70),none⟩,
  ⟨(some 72),.load false 1 (.tmp 71),none⟩,
  ⟨(some 73),.idxAddr 1 (.tmp 53) (.tmp 56),none⟩,
  ⟨none,.store 1 (.tmp 73) (.tmp 66),none⟩,
  ⟨(some 74),.idxAddr 1 (.tmp 57) (.tmp 60),none⟩,
  ⟨none,.store 1 (.tmp 74) (.tmp 72),none⟩])
 (.ops [⟨(some 75),.mov (.tmp 9),none⟩,
  ⟨(some 8),.mov (.tmp 75),none⟩])))))))
def c247 : ACode:=(.seq (.ops [⟨(some 10),.mov (.tmp 1),none⟩,
  ⟨(some 8),.mov (.tmp 10),none⟩])
 (.block 0 (.loop c247l0)))
def a247 : AFunc:=⟨4,c247,[]⟩
theorem k247 : cFunc Tryz.prog Tryz.f247=some a247:=by kernel_rfl
/- 248: slices.nextPowerOfTwo -/
def c248 : ACode:=(.seq (.ops [⟨(some 2),.mov (.con (.int .u64 0)),none⟩])
 (.seq (.ops [⟨(some 3),.mov (.tmp 0),none⟩,
  ⟨(some 4),.toInt .u64 (.tmp 3),none⟩,
  ⟨(some 5),.call 165 [(.tmp 4)],none⟩,
  ⟨(some 6),.bin .shl (.con (.int .u64 1)) (.tmp 5),none⟩,
  ⟨(some 2),.mov (.tmp 6),none⟩])
 .ret))
def a248 : AFunc:=⟨1,c248,[.tmp 2]⟩
theorem k248 : cFunc Tryz.prog Tryz.f248=some a248:=by kernel_rfl
/- 249: (*slices.xorshift).Next -/
def c249 : ACode:=(.seq (.ops [⟨(some 2),.mov (.con (.int .u64 0)),none⟩])
 (.seq (.ops [⟨(some 3),.mov (.tmp 0),none⟩,
  ⟨(some 4),.nilChk (.tmp 3),none⟩,
  ⟨(some 5),.load false 1 (.tmp 4),none⟩,
  ⟨(some 6),.mov (.tmp 0),none⟩,
  ⟨(some 7),.nilChk (.tmp 6),none⟩,
  ⟨(some 8),.load false 1 (.tmp 7),none⟩,
  ⟨(some 9),.bin .shl (.tmp 8) (.con (.int .u64 13)),none⟩,
  ⟨(some 10),.bin .xor (.tmp 5) (.tmp 9),none⟩,
  ⟨(some 11),.nilChk (.tmp 3),none⟩,
  ⟨none,.store 1 (.tmp 11) (.tmp 10),none⟩])
 (.seq (.ops [⟨(some 12),.mov (.tmp 0),none⟩,
  ⟨(some 13),.nilChk (.tmp 12),none⟩,
  ⟨(some 14),.load false 1 (.tmp 13),none⟩,
  ⟨(some 15),.mov (.tmp 0),none⟩,
  ⟨(some 16),.nilChk (.tmp 15),none⟩,
  ⟨(some 17),.load false 1 (.tmp 16),none⟩,
  ⟨(some 18),.bin .shr (.tmp 17) (.con (.int .u64 7)),none⟩,
  ⟨(some 19),.bin .xor (.tmp 14) (.tmp 18),none⟩,
  ⟨(some 20),.nilChk (.tmp 12),none⟩,
  ⟨none,.store 1 (.tmp 20) (.tmp 19),none⟩])
 (.seq (.ops [⟨(some 21),.mov (.tmp 0),none⟩,
  ⟨(some 22),.nilChk (.tmp 21),none⟩,
  ⟨(some 23),.load false 1 (.tmp 22),none⟩,
  ⟨(some 24),.mov (.tmp 0),none⟩,
  ⟨(some 25),.nilChk (.tmp 24),none⟩,
  ⟨(some 26),.load false 1 (.tmp 25),none⟩,
  ⟨(some 27),.bin .shl (.tmp 26) (.con (.int .u64 17)),none⟩,
  ⟨(some 28),.bin .xor (.tmp 23) (.tmp 27),none⟩,
  ⟨(some 29),.nilChk (.tmp 21),none⟩,
  ⟨none,.store 1 (.tmp 29) (.tmp 28),none⟩])
 (.seq (.ops [⟨(some 30),.mov (.tmp 0),none⟩,
  ⟨(some 31),.nilChk (.tmp 30),none⟩,
  ⟨(some 32),.load false 1 (.tmp 31),none⟩,
  ⟨(some 2),.mov (.tmp 32),none⟩])
 .ret)))))
def a249 : AFunc:=⟨1,c249,[.tmp 2]⟩
theorem k249 : cFunc Tryz.prog Tryz.f249=some a249:=by kernel_rfl
/- 250: slices.medianAdjacentOrdered[string] -/
def c250 : ACode:=(.seq (.ops [⟨(some 6),.mov (.con (.int .i64 0)),none⟩])
 (.seq (.ops [⟨(some 7),.mov (.tmp 0),none⟩,
  ⟨(some 8),.mov (.tmp 1),none⟩,
  ⟨(some 9),.bin .sub (.tmp 8) (.con (.int .i64 1)),none⟩,
  ⟨(some 10),.mov (.tmp 1),none⟩,
  ⟨(some 11),.mov (.tmp 1),none⟩,
  ⟨(some 12),.bin .add (.tmp 11) (.con (.int .i64 1)),none⟩,
  ⟨(some 13),.mov (.tmp 2),none⟩,
  ⟨(some 14),.call 251 [(.tmp 7),(.tmp 9),(.tmp 10),(.tmp 12),(.tmp 13)],none⟩,
  ⟨(some 6),.mov (.tmp 14),none⟩])
 .ret))
def a250 : AFunc:=⟨3,c250,[.tmp 6]⟩
theorem k250 : cFunc Tryz.prog Tryz.f250=some a250:=by kernel_rfl
/- 251: slices.medianOrdered[string] -/
def c251 : ACode:=(.seq (.ops [⟨(some 10),.mov (.con (.int .i64 0)),none⟩])
 (.seq (.ops [⟨(some 12),.mov (.tmp 0),none⟩,
  ⟨(some 13),.mov (.tmp 1),none⟩,
  ⟨(some 14),.mov (.tmp 2),none⟩,
  ⟨(some 15),.mov (.tmp 4),none⟩,
  ⟨(some 16),.call 270 [(.tmp 12),(.tmp 13),(.tmp 14),(.tmp 15)],none⟩,
  ⟨(some 11),.mov (.tmp 16),none⟩,
  ⟨(some 17),.extract (.tmp 11) 0,none⟩,
  ⟨(some 18),.extract (.tmp 11) 1,none⟩,
  ⟨(some 1),.mov (.tmp 17),none⟩,
  ⟨(some 2),.mov (.tmp 18),none⟩])
 (.seq (.ops [⟨(some 20),.mov (.tmp 0),none⟩,
  ⟨(some 21),.mov (.tmp 2),none⟩,
  ⟨(some 22),.mov (.tmp 3),none⟩,
  ⟨(some 23),.mov (.tmp 4),none⟩,
  ⟨(some 24),.call 270 [(.tmp 20),(.tmp 21),(.tmp 22),(.tmp 23)],none⟩,
  ⟨(some 19),.mov (.tmp 24),none⟩,
  ⟨(some 25),.extract (.tmp 19) 0,none⟩,
  ⟨(some 26),.extract (.tmp 19) 1,none⟩,
  ⟨(some 2),.mov (.tmp 25),none⟩,
  ⟨(some 3),.mov (.tmp 26),none⟩])
 (.seq (.ops [⟨(some 28),.mov (.tmp 0),none⟩,
  ⟨(some 29),.mov (.tmp 1),none⟩,
  ⟨(some 30),.mov (.tmp 2),none⟩,
  ⟨(some 31),.mov (.tmp 4),none⟩,
  ⟨(some 32),.call 270 [(.tmp 28),(.tmp 29),(.tmp 30),(.tmp 31)],none⟩,
  ⟨(some 27),.mov (.tmp 32),none⟩,
  ⟨(some 33),.extract (.tmp 27) 0,none⟩,
  ⟨(some 34),.extract (.tmp 27) 1,none⟩,
  ⟨(some 1),.mov (.tmp 33),none⟩,
  ⟨(some 2),.mov (.tmp 34),none⟩])
 (.seq (.ops [⟨(some 35),.mov (.tmp 2),none⟩,
  ⟨(some 10),.mov (.tmp 35),none⟩])
 .ret)))))
def a251 : AFunc:=⟨5,c251,[.tmp 10]⟩
theorem k251 : cFunc Tryz.prog Tryz.f251=some a251:=by kernel_rfl
/- 252: cmp.isNaN[string] -/
def c252 : ACode:=(.seq (.ops [⟨(some 2),.mov (.con (.bool false)),none⟩])
 (.seq (.ops [⟨(some 3),.mov (.tmp 0),none⟩,
  ⟨(some 4),.mov (.tmp 0),none⟩,
  ⟨(some 5),.bin .neq (.tmp 3) (.tmp 4),none⟩,
  ⟨(some 2),.mov (.tmp 5),none⟩])
 .ret))
def a252 : AFunc:=⟨1,c252,[.tmp 2]⟩
theorem k252 : cFunc Tryz.prog Tryz.f252=some a252:=by kernel_rfl
/- 253: (*tendril/drop.Drop).atPin -/
def c253 : ACode:=(.seq (.ops [⟨(some 3),.box (.tmp 1),none⟩])
 (.ops [⟨(some 4),.mov (.tmp 0),none⟩,
  ⟨(some 5),.call 271 [(.tmp 4)],none⟩]))
def a253 : AFunc:=⟨2,c253,[]⟩
theorem k253 : cFunc Tryz.prog Tryz.f253=some a253:=by kernel_rfl
/- 255: math/bits.Mul64 -/
def c255 : ACode:=(.seq (.ops [⟨(some 4),.mov (.con (.int .u64 0)),none⟩,
  ⟨(some 5),.mov (.con (.int .u64 0)),none⟩])
 (.seq (.ops [⟨(some 14),.mov (.tmp 0),none⟩,
  ⟨(some 15),.bin .and (.tmp 14) (.con (.int .u64 4294967295)),none⟩,
  ⟨(some 6),.mov (.tmp 15),none⟩])
 (.seq (.ops [⟨(some 16),.mov (.tmp 0),none⟩,
  ⟨(some 17),.bin .shr (.tmp 16) (.con (.int .u64 32)),none⟩,
  ⟨(some 7),.mov (.tmp 17),none⟩])
 (.seq (.ops [⟨(some 18),.mov (.tmp 1),none⟩,
  ⟨(some 19),.bin .and (.tmp 18) (.con (.int .u64 4294967295)),none⟩,
  ⟨(some 8),.mov (.tmp 19),none⟩])
 (.seq (.ops [⟨(some 20),.mov (.tmp 1),none⟩,
  ⟨(some 21),.bin .shr (.tmp 20) (.con (.int .u64 32)),none⟩,
  ⟨(some 9),.mov (.tmp 21),none⟩])
 (.seq (.ops [⟨(some 22),.mov (.tmp 6),none⟩,
  ⟨(some 23),.mov (.tmp 8),none⟩,
  ⟨(some 24),.bin .mul (.tmp 22) (.tmp 23),none⟩,
  ⟨(some 10),.mov (.tmp 24),none⟩])
 (.seq (.ops [⟨(some 25),.mov (.tmp 7),none⟩,
  ⟨(some 26),.mov (.tmp 8),none⟩,
  ⟨(some 27),.bin .mul (.tmp 25) (.tmp 26),none⟩,
  ⟨(some 28),.mov (.tmp 10),none⟩,
  ⟨(some 29),.bin .shr (.tmp 28) (.con (.int .u64 32)),none⟩,
  ⟨(some 30),.bin .add (.tmp 27) (.tmp 29),none⟩,
  ⟨(some 11),.mov (.tmp 30),none⟩])
 (.seq (.ops [⟨(some 31),.mov (.tmp 11),none⟩,
  ⟨(some 32),.bin .and (.tmp 31) (.con (.int .u64 4294967295)),none⟩,
  ⟨(some 12),.mov (.tmp 32),none⟩])
 (.seq (.ops [⟨(some 33),.mov (.tmp 11),none⟩,
  ⟨(some 34),.bin .shr (.tmp 33) (.con (.int .u64 32)),none⟩,
  ⟨(some 13),.mov (.tmp 34),none⟩])
 (.seq (.ops [⟨(some 35),.mov (.tmp 12),none⟩,
  ⟨(some 36),.mov (.tmp 6),none⟩,
  ⟨(some 37),.mov (.tmp 9),none⟩,
  ⟨(some 38),.bin .mul (.tmp 36) (.tmp 37),none⟩,
  ⟨(some 39),.bin .add (.tmp 35) (.tmp 38),none⟩,
  ⟨(some 12),.mov (.tmp 39),none⟩])
 (.seq (.ops [⟨(some 40),.mov (.tmp 7),none⟩,
  ⟨(some 41),.mov (.tmp 9),none⟩,
  ⟨(some 42),.bin .mul (.tmp 40) (.tmp 41),none⟩,
  ⟨(some 43),.mov (.tmp 13),none⟩,
  ⟨(some 44),.bin .add (.tmp 42) (.tmp 43),none⟩,
  ⟨(some 45),.mov (.tmp 12),none⟩,
  ⟨(some 46),.bin .shr (.tmp 45) (.con (.int .u64 32)),none⟩,
  ⟨(some 47),.bin .add (.tmp 44) (.tmp 46),none⟩,
  ⟨(some 4),.mov (.tmp 47),none⟩])
 (.seq (.ops [⟨(some 48),.mov (.tmp 0),none⟩,
  ⟨(some 49),.mov (.tmp 1),none⟩,
  ⟨(some 50),.bin .mul (.tmp 48) (.tmp 49),none⟩,
  ⟨(some 5),.mov (.tmp 50),none⟩])
 .ret))))))))))))
def a255 : AFunc:=⟨2,c255,[.tmp 4,.tmp 5]⟩
theorem k255 : cFunc Tryz.prog Tryz.f255=some a255:=by kernel_rfl
/- 256: (*tendril/get.Get).begin -/
def c256 : ACode:=(.seq (.ops [⟨(some 2),.mov (.tmp 0),none⟩,
  ⟨(some 3),.mov (.tmp 0),none⟩,
  ⟨(some 4),.nilChk (.tmp 3),none⟩,
  ⟨(some 5),.fieldAddr 0 (.tmp 4),none⟩,
  ⟨(some 6),.load false 1 (.tmp 5),none⟩,
  ⟨(some 7),.nilChk (.tmp 2),none⟩,
  ⟨(some 8),.fieldAddr 1 (.tmp 7),none⟩,
  ⟨none,.store 1 (.tmp 8) (.tmp 6),none⟩])
 (.ops [⟨(some 9),.mov (.tmp 0),none⟩,
  ⟨(some 10),.mov (.tmp 0),none⟩,
  ⟨(some 11),.nilChk (.tmp 10),none⟩,
  ⟨(some 12),.fieldAddr 2 (.tmp 11),none⟩,
  ⟨(some 13),.load false 1 (.tmp 12),none⟩,
  ⟨(some 14),.call 272 [(.tmp 9),(.tmp 13),(.con (.func (.func 273) [] []))],none⟩]))
def a256 : AFunc:=⟨1,c256,[]⟩
theorem k256 : cFunc Tryz.prog Tryz.f256=some a256:=by kernel_rfl
/- 257: (*tendril/put.Put).attempt -/
def c257 : ACode:=(.seq (.ops [⟨(some 2),.mov (.tmp 0),none⟩,
  ⟨(some 3),.mov (.tmp 0),none⟩,
  ⟨(some 4),.mov (.tmp 0),none⟩,
  ⟨(some 5),.mov (.tmp 0),none⟩,
  ⟨(some 6),.build [(.int .i64 0),(.bool false),(.int .i64 0),.nilSlice] [],none⟩,
  ⟨(some 7),.nilChk (.tmp 2),none⟩,
  ⟨(some 8),.fieldAddr 30 (.tmp 7),none⟩,
  ⟨none,.store 1 (.tmp 8) (.con .nilSlice),none⟩,
  ⟨(some 9),.nilChk (.tmp 3),none⟩,
  ⟨(some 10),.fieldAddr 29 (.tmp 9),none⟩,
  ⟨none,.store 1 (.tmp 10) (.con .nilSlice),none⟩,
  ⟨(some 11),.nilChk (.tmp 4),none⟩,
  ⟨(some 12),.fieldAddr 31 (.tmp 11),none⟩,
  ⟨none,.store 1 (.tmp 12) (.con .nilSlice),none⟩,
  ⟨(some 13),.nilChk (.tmp 5),none⟩,
  ⟨(some 14),.fieldAddr 34 (.tmp 13),none⟩,
  ⟨none,.store 4 (.tmp 14) (.tmp 6),none⟩])
 (.block 0 (.seq (.ops [⟨(some 19),.mov (.tmp 0),none⟩,
  ⟨(some 20),.nilChk (.tmp 19),none⟩,
  ⟨(some 21),.fieldAddr 6 (.tmp 20),none⟩,
  ⟨(some 22),.load false 1 (.tmp 21),none⟩,
  ⟨(some 18),.mov (.tmp 22),none⟩])
 (.cond (.tmp 18)
 (.ops [⟨(some 23),.mov (.tmp 0),none⟩,
  ⟨(some 24),.call 274 [(.tmp 23)],none⟩])
 (.seq (.ops [⟨(some 26),.mov (.tmp 0),none⟩,
  ⟨(some 27),.nilChk (.tmp 26),none⟩,
  ⟨(some 28),.fieldAddr 5 (.tmp 27),none⟩,
  ⟨(some 29),.load false 1 (.tmp 28),none⟩,
  ⟨(some 30),.mov (.tmp 0),none⟩,
  ⟨(some 31),.nilChk (.tmp 30),none⟩,
  ⟨(some 32),.fieldAddr 4 (.tmp 31),none⟩,
  ⟨(some 33),.load false 1 (.tmp 32),none⟩,
  ⟨(some 34),.bin .geq (.tmp 29) (.tmp 33),none⟩,
  ⟨(some 25),.mov (.tmp 34),none⟩])
 (.cond (.tmp 25)
 (.ops [⟨(some 35),.mov (.tmp 0),none⟩,
  ⟨(some 36),.build [(.int .i64 0),(.int .i64 0),(.int .i64 0),(.int .i64 0),(.int .u64 0),.nilSlice] [(0,1,(.con (.int .i64 14)))],none⟩,
  ⟨(some 37),.call 184 [(.tmp 35),(.tmp 36),(.con (.func (.func 275) [] []))],none⟩])
 (.ops [⟨(some 15),.mov (.tmp 0),none⟩,
  ⟨(some 16),.build [(.int .i64 0),(.int .i64 0),(.int .i64 0),(.int .i64 0),(.int .u64 0),.nilSlice] [(0,1,(.con (.int .i64 13)))],none⟩,
  ⟨(some 17),.call 184 [(.tmp 15),(.tmp 16),(.con (.func (.func 276) [] []))],none⟩])))))))
def a257 : AFunc:=⟨1,c257,[]⟩
theorem k257 : cFunc Tryz.prog Tryz.f257=some a257:=by kernel_rfl
/- 258: (*tendril/tick.Tick).atPin -/
def c258 : ACode:=(.seq (.ops [⟨(some 3),.box (.tmp 1),none⟩])
 (.seq (.ops [⟨(some 5),.mov (.tmp 0),none⟩,
  ⟨(some 6),.nilChk (.tmp 5),none⟩,
  ⟨(some 7),.fieldAddr 1 (.tmp 6),none⟩,
  ⟨(some 8),.fieldAddr 3 (.tmp 7),none⟩,
  ⟨(some 9),.load false 1 (.tmp 8),none⟩,
  ⟨(some 10),.bin .add (.tmp 9) (.con (.int .i64 1)),none⟩,
  ⟨(some 4),.mov (.tmp 10),none⟩])
 (.block 0 (.seq (.ops [⟨(some 19),.fieldAddr 1 (.tmp 3),none⟩,
  ⟨(some 20),.load false 1 (.tmp 19),none⟩,
  ⟨(some 21),.bin .geq (.tmp 20) (.con (.int .i64 0)),none⟩,
  ⟨(some 22),.mov (.tmp 21),none⟩,
  ⟨(some 23),.fieldAddr 1 (.tmp 3),(some (22,true))⟩,
  ⟨(some 24),.load false 1 (.tmp 23),(some (22,true))⟩,
  ⟨(some 25),.mov (.tmp 0),(some (22,true))⟩,
  ⟨(some 26),.nilChk (.tmp 25),(some (22,true))⟩,
  ⟨(some 27),.fieldAddr 8 (.tmp 26),(some (22,true))⟩,
  ⟨(some 28),.load false 1 (.tmp 27),(some (22,true))⟩,
  ⟨(some 29),.bin .neq (.tmp 24) (.tmp 28),(some (22,true))⟩,
  ⟨(some 30),.pick (.tmp 22) (.tmp 29) (.con (.bool false)),none⟩,
  ⟨(some 18),.mov (.tmp 30),none⟩])
 (.cond (.tmp 18)
 (.ops [⟨(some 31),.mov (.tmp 0),none⟩,
  ⟨(some 32),.call 277 [(.tmp 31)],none⟩])
 (.seq (.ops [⟨(some 34),.mov (.tmp 4),none⟩,
  ⟨(some 35),.mov (.tmp 0),none⟩,
  ⟨(some 36),.nilChk (.tmp 35),none⟩,
  ⟨(some 37),.fieldAddr 0 (.tmp 36),none⟩,
  ⟨(some 38),.load false 1 (.tmp 37),none⟩,
  ⟨(some 39),.bin .lss (.tmp 34) (.tmp 38),none⟩,
  ⟨(some 33),.mov (.tmp 39),none⟩])
 (.cond (.tmp 33)
 (.ops [⟨(some 40),.mov (.tmp 0),none⟩,
  ⟨(some 41),.mov (.tmp 4),none⟩,
  ⟨(some 42),.build [(.int .i64 0),(.int .i64 0),(.int .i64 0),(.int .i64 0),(.int .u64 0),.nilSlice] [(0,1,(.con (.int .i64 10))),(3,1,(.tmp 41))],none⟩,
  ⟨(some 43),.call 227 [(.tmp 40),(.tmp 42),(.con (.func (.func 258) [] []))],none⟩])
 (.ops [⟨(some 11),.mov (.tmp 0),none⟩,
  ⟨(some 12),.mov (.tmp 0),none⟩,
  ⟨(some 13),.nilChk (.tmp 12),none⟩,
  ⟨(some 14),.fieldAddr 8 (.tmp 13),none⟩,
  ⟨(some 15),.load false 1 (.tmp 14),none⟩,
  ⟨(some 16),.build [(.int .i64 0),(.int .i64 0),(.int .i64 0),(.int .i64 0),(.int .u64 0),.nilSlice] [(0,1,(.con (.int .i64 11))),(3,1,(.tmp 15))],none⟩,
  ⟨(some 17),.call 227 [(.tmp 11),(.tmp 16),(.con (.func (.func 278) [] []))],none⟩]))))))))
def a258 : AFunc:=⟨2,c258,[]⟩
theorem k258 : cFunc Tryz.prog Tryz.f258=some a258:=by kernel_rfl
/- 222: cmp.isNaN[int] -/
def c222 : ACode:=(.seq (.ops [⟨(some 2),.mov (.con (.bool false)),none⟩])
 (.seq (.ops [⟨(some 3),.mov (.tmp 0),none⟩,
  ⟨(some 4),.mov (.tmp 0),none⟩,
  ⟨(some 5),.bin .neq (.tmp 3) (.tmp 4),none⟩,
  ⟨(some 2),.mov (.tmp 5),none⟩])
 .ret))
def a222 : AFunc:=⟨1,c222,[.tmp 2]⟩
theorem k222 : cFunc Tryz.prog Tryz.f222=some a222:=by kernel_rfl
/- 259: slices.Reverse[[]int,int] -/
def c259l0 : ACode:=(.seq (.seq (.ops [⟨(some 7),.mov (.tmp 2),none⟩,
  ⟨(some 8),.mov (.tmp 3),none⟩,
  ⟨(some 9),.bin .lss (.tmp 7) (.tmp 8),none⟩])
 (.cond (.tmp 9)
 .skip
 (.exit 0)))
 (.seq (.block 1 (.ops [⟨(some 14),.mov (.tmp 0),none⟩,
  ⟨(some 15),.mov (.tmp 2),none⟩,
  ⟨(some 16),.mov (.tmp 0),none⟩,
  ⟨(some 17),.mov (.tmp 3),none⟩,
  ⟨(some 18),.mov (.tmp 0),none⟩,
  ⟨(some 19),.mov (.tmp 3),none⟩,
  ⟨(some 20),.idxAddr 1 (.tmp 18) (.tmp 19),none⟩,
  ⟨(some 21),.load false 1 (.tmp 20),none⟩,
  ⟨(some 22),.mov (.tmp 0),none⟩,
  ⟨(some 23),.mov (.tmp 2),none⟩,
  ⟨(some 24),.idxAddr 1 (.tmp 22) (.tmp 23),none⟩,
  ⟨(some 25),.load false 1 (.tmp 24),none⟩,
  ⟨(some 26),.idxAddr 1 (.tmp 14) (.tmp 15),none⟩,
  ⟨none,.store 1 (.tmp 26) (.tmp 21),none⟩,
  ⟨(some 27),.idxAddr 1 (.tmp 16) (.tmp 17),none⟩,
  ⟨none,.store 1 (.tmp 27) (.tmp 25),none⟩]))
 (.ops [⟨(some 10),.mov (.tmp 2),none⟩,
  ⟨(some 11),.bin .add (.tmp 10) (.con (.int .i64 1)),none⟩,
  ⟨(some 12),.mov (.tmp 3),none⟩,
  ⟨(some 13),.bin .sub (.tmp 12) (.con (.int .i64 1)),none⟩,
  ⟨(some 2),.mov (.tmp 11),none⟩,
  ⟨(some 3),.mov (.tmp 13),none⟩])))
def c259 : ACode:=(.seq (.ops [⟨(some 4),.mov (.tmp 0),none⟩,
  ⟨(some 5),.lenSlice (.tmp 4),none⟩,
  ⟨(some 6),.bin .sub (.tmp 5) (.con (.int .i64 1)),none⟩,
  ⟨(some 2),.mov (.con (.int .i64 0)),none⟩,
  ⟨(some 3),.mov (.tmp 6),none⟩])
 (.block 0 (.loop c259l0)))
def a259 : AFunc:=⟨1,c259,[]⟩
theorem k259 : cFunc Tryz.prog Tryz.f259=some a259:=by kernel_rfl
/- 263: tendril/node.Decode -/
def c263l0 : ACode:=(.seq (.ops [⟨(some 83),.bin .lss (.tmp 82) (.tmp 81),none⟩])
 (.seq (.cond (.tmp 83)
 .skip
 (.exit 0))
 (.seq (.block 1 (.seq (.ops [⟨(some 84),.mov (.tmp 82),none⟩,
  ⟨(some 85),.idxAddr 1 (.tmp 80) (.tmp 82),none⟩,
  ⟨(some 86),.load false 1 (.tmp 85),none⟩,
  ⟨(some 12),.mov (.tmp 84),none⟩,
  ⟨(some 13),.mov (.tmp 86),none⟩])
 (.draw [.op ⟨(some 87),.fieldAddr 4 (.tmp 11),none⟩,
  .op ⟨(some 88),.load false 1 (.tmp 87),none⟩,
  .op ⟨(some 89),.mov (.tmp 0),none⟩,
  .op ⟨(some 90),.mov (.tmp 4),none⟩,
  .op ⟨(some 91),.mov (.tmp 12),none⟩,
  .op ⟨(some 92),.mov (.tmp 13),none⟩,
  .op ⟨(some 93),.call 282 [(.tmp 90),(.tmp 91),(.tmp 92)],none⟩,
  .op ⟨(some 94),.idxAddr 1 (.tmp 89) (.tmp 93),none⟩,
  .op ⟨(some 95),.load false 1 (.tmp 94),none⟩,
  .op ⟨(some 96),.toInt .i64 (.tmp 95),none⟩,
  .op ⟨(some 97),.buildSlice 1 1 [(.int .i64 0)] [(0,1,(.tmp 96))],none⟩,
  .look ⟨(some 88),.load false 1 (.tmp 87),none⟩,
  .look ⟨(some 95),.load false 1 (.tmp 94),none⟩,
  .look ⟨(some 97),.buildSlice 1 1 [(.int .i64 0)] [(0,1,(.tmp 96))],none⟩,
  .op ⟨(some 98),.append 1 8 (.tmp 88) (.tmp 97),none⟩,
  .op ⟨(some 99),.fieldAddr 4 (.tmp 11),none⟩,
  .op ⟨none,.store 1 (.tmp 99) (.tmp 98),none⟩])))
 (.ops [⟨(some 100),.bin .add (.tmp 82) (.con (.int .i64 1)),none⟩,
  ⟨(some 82),.mov (.tmp 100),none⟩]))))
def c263 : ACode:=(.seq (.ops [⟨(some 2),.new [(.int .i64 0),(.int .u64 0),(.str []),.nilSlice,.nilSlice],none⟩,
  ⟨(some 3),.mov (.con (.bool false)),none⟩])
 (.seq (.seq (.ops [⟨(some 14),.mov (.tmp 0),none⟩,
  ⟨(some 15),.lenSlice (.tmp 14),none⟩,
  ⟨(some 16),.bin .lss (.tmp 15) (.con (.int .i64 4)),none⟩])
 (.cond (.tmp 16)
 (.seq (.ops [⟨(some 17),.build [(.int .i64 0),(.int .u64 0),(.str []),.nilSlice,.nilSlice] [],none⟩,
  ⟨none,.store 5 (.tmp 2) (.tmp 17),none⟩,
  ⟨(some 3),.mov (.con (.bool false)),none⟩])
 .ret)
 .skip))
 (.seq (.ops [⟨(some 18),.mov (.tmp 0),none⟩,
  ⟨(some 19),.idxAddr 1 (.tmp 18) (.con (.int .i64 1)),none⟩,
  ⟨(some 20),.load false 1 (.tmp 19),none⟩,
  ⟨(some 21),.bin .and (.tmp 20) (.con (.int .u64 255)),none⟩,
  ⟨(some 22),.toInt .i64 (.tmp 21),none⟩,
  ⟨(some 23),.mov (.tmp 0),none⟩,
  ⟨(some 24),.idxAddr 1 (.tmp 23) (.con (.int .i64 1)),none⟩,
  ⟨(some 25),.load false 1 (.tmp 24),none⟩,
  ⟨(some 26),.bin .shr (.tmp 25) (.con (.int .u64 8)),none⟩,
  ⟨(some 27),.bin .and (.tmp 26) (.con (.int .u64 255)),none⟩,
  ⟨(some 28),.toInt .i64 (.tmp 27),none⟩,
  ⟨(some 29),.mov (.tmp 0),none⟩,
  ⟨(some 30),.idxAddr 1 (.tmp 29) (.con (.int .i64 1)),none⟩,
  ⟨(some 31),.load false 1 (.tmp 30),none⟩,
  ⟨(some 32),.bin .shr (.tmp 31) (.con (.int .u64 16)),none⟩,
  ⟨(some 33),.bin .and (.tmp 32) (.con (.int .u64 65535)),none⟩,
  ⟨(some 34),.toInt .i64 (.tmp 33),none⟩,
  ⟨(some 4),.mov (.tmp 22),none⟩,
  ⟨(some 5),.mov (.tmp 28),none⟩,
  ⟨(some 6),.mov (.tmp 34),none⟩])
 (.seq (.seq (.ops [⟨(some 35),.mov (.tmp 4),none⟩,
  ⟨(some 36),.call 177 [(.tmp 35)],none⟩,
  ⟨(some 37),.bin .eql (.tmp 36) (.con (.int .i64 0)),none⟩,
  ⟨(some 38),.mov (.tmp 37),none⟩,
  ⟨(some 39),.mov (.tmp 0),(some (38,false))⟩,
  ⟨(some 40),.lenSlice (.tmp 39),(some (38,false))⟩,
  ⟨(some 41),.mov (.tmp 4),(some (38,false))⟩,
  ⟨(some 42),.call 125 [(.tmp 41)],(some (38,false))⟩,
  ⟨(some 43),.bin .neq (.tmp 40) (.tmp 42),(some (38,false))⟩,
  ⟨(some 44),.pick (.tmp 38) (.con (.bool true)) (.tmp 43),none⟩,
  ⟨(some 45),.mov (.tmp 44),none⟩,
  ⟨(some 46),.mov (.tmp 6),(some (45,false))⟩,
  ⟨(some 47),.mov (.tmp 4),(some (45,false))⟩,
  ⟨(some 48),.call 177 [(.tmp 47)],(some (45,false))⟩,
  ⟨(some 49),.bin .gtr (.tmp 46) (.tmp 48),(some (45,false))⟩,
  ⟨(some 50),.pick (.tmp 45) (.con (.bool true)) (.tmp 49),none⟩])
 (.cond (.tmp 50)
 (.seq (.ops [⟨(some 51),.build [(.int .i64 0),(.int .u64 0),(.str []),.nilSlice,.nilSlice] [],none⟩,
  ⟨none,.store 5 (.tmp 2) (.tmp 51),none⟩,
  ⟨(some 3),.mov (.con (.bool false)),none⟩])
 .ret)
 .skip))
 (.seq (.ops [⟨(some 53),.mov (.tmp 0),none⟩,
  ⟨(some 54),.slc 1 (.tmp 53) (some (.con (.int .i64 2))) (some (.con (.int .i64 4))) none,none⟩,
  ⟨(some 55),.mov (.tmp 5),none⟩,
  ⟨(some 56),.call 280 [(.tmp 54),(.tmp 55)],none⟩,
  ⟨(some 52),.mov (.tmp 56),none⟩,
  ⟨(some 57),.extract (.tmp 52) 0,none⟩,
  ⟨(some 58),.extract (.tmp 52) 1,none⟩,
  ⟨(some 7),.mov (.tmp 57),none⟩,
  ⟨(some 8),.mov (.tmp 58),none⟩])
 (.seq (.ops [⟨(some 60),.mov (.tmp 0),none⟩,
  ⟨(some 61),.mov (.tmp 4),none⟩,
  ⟨(some 62),.mov (.tmp 6),none⟩,
  ⟨(some 63),.call 281 [(.tmp 60),(.tmp 61),(.tmp 62)],none⟩,
  ⟨(some 59),.mov (.tmp 63),none⟩,
  ⟨(some 64),.extract (.tmp 59) 0,none⟩,
  ⟨(some 65),.extract (.tmp 59) 1,none⟩,
  ⟨(some 9),.mov (.tmp 64),none⟩,
  ⟨(some 10),.mov (.tmp 65),none⟩])
 (.seq (.seq (.ops [⟨(some 66),.mov (.tmp 8),none⟩,
  ⟨(some 67),.bin .neq (.tmp 66) (.con (.int .i64 0)),none⟩,
  ⟨(some 68),.mov (.tmp 67),none⟩,
  ⟨(some 69),.mov (.tmp 10),(some (68,false))⟩,
  ⟨(some 70),.un .not (.tmp 69),(some (68,false))⟩,
  ⟨(some 71),.pick (.tmp 68) (.con (.bool true)) (.tmp 70),none⟩])
 (.cond (.tmp 71)
 (.seq (.ops [⟨(some 72),.build [(.int .i64 0),(.int .u64 0),(.str []),.nilSlice,.nilSlice] [],none⟩,
  ⟨none,.store 5 (.tmp 2) (.tmp 72),none⟩,
  ⟨(some 3),.mov (.con (.bool false)),none⟩])
 .ret)
 .skip))
 (.seq (.ops [⟨(some 73),.mov (.tmp 4),none⟩,
  ⟨(some 74),.mov (.tmp 0),none⟩,
  ⟨(some 75),.idxAddr 1 (.tmp 74) (.con (.int .i64 0)),none⟩,
  ⟨(some 76),.load false 1 (.tmp 75),none⟩,
  ⟨(some 77),.mov (.tmp 7),none⟩,
  ⟨(some 78),.mov (.tmp 9),none⟩,
  ⟨(some 79),.build [(.int .i64 0),(.int .u64 0),(.str []),.nilSlice,.nilSlice] [(0,1,(.tmp 73)),(1,1,(.tmp 76)),(2,1,(.tmp 77)),(3,1,(.tmp 78))],none⟩,
  ⟨(some 11),.new [(.int .i64 0),(.int .u64 0),(.str []),.nilSlice,.nilSlice],none⟩,
  ⟨none,.store 5 (.tmp 11) (.tmp 79),none⟩])
 (.seq (.seq (.ops [⟨(some 80),.mov (.tmp 9),none⟩,
  ⟨(some 81),.lenSlice (.tmp 80),none⟩,
  ⟨(some 82),.mov (.con (.int .i64 0)),none⟩])
 (.block 0 (.loop c263l0)))
 (.seq (.seq (.ops [⟨(some 101),.load true 5 (.tmp 11),none⟩,
  ⟨(some 102),.call 85 [(.tmp 101)],none⟩,
  ⟨(some 103),.mov (.tmp 0),none⟩,
  ⟨(some 104),.call 283 [(.tmp 102),(.tmp 103)],none⟩,
  ⟨(some 105),.un .not (.tmp 104),none⟩])
 (.cond (.tmp 105)
 (.seq (.ops [⟨(some 106),.build [(.int .i64 0),(.int .u64 0),(.str []),.nilSlice,.nilSlice] [],none⟩,
  ⟨none,.store 5 (.tmp 2) (.tmp 106),none⟩,
  ⟨(some 3),.mov (.con (.bool false)),none⟩])
 .ret)
 .skip))
 (.seq (.ops [⟨(some 107),.load true 5 (.tmp 11),none⟩,
  ⟨none,.store 5 (.tmp 2) (.tmp 107),none⟩,
  ⟨(some 3),.mov (.con (.bool true)),none⟩])
 .ret)))))))))))
def a263 : AFunc:=⟨1,c263,[.cell 2 true 5,.tmp 3]⟩
theorem k263 : cFunc Tryz.prog Tryz.f263=some a263:=by kernel_rfl
/- 265: tendril/word.Free -/
def c265 : ACode:=(.seq (.ops [⟨(some 2),.mov (.con (.bool false)),none⟩])
 (.seq (.ops [⟨(some 3),.mov (.tmp 0),none⟩,
  ⟨(some 4),.bin .and (.tmp 3) (.con (.int .u64 3)),none⟩,
  ⟨(some 5),.bin .eql (.tmp 4) (.con (.int .u64 0)),none⟩,
  ⟨(some 2),.mov (.tmp 5),none⟩])
 .ret))
def a265 : AFunc:=⟨1,c265,[.tmp 2]⟩
theorem k265 : cFunc Tryz.prog Tryz.f265=some a265:=by kernel_rfl
/- 266: (*tendril/scan.Scan).on -/
def c266l0 : ACode:=(.seq (.seq (.ops [⟨(some 10),.mov (.tmp 0),none⟩,
  ⟨(some 11),.nilChk (.tmp 10),none⟩,
  ⟨(some 12),.fieldAddr 12 (.tmp 11),none⟩,
  ⟨(some 13),.load false 1 (.tmp 12),none⟩,
  ⟨(some 14),.lenSlice (.tmp 13),none⟩,
  ⟨(some 15),.bin .gtr (.tmp 14) (.con (.int .i64 0)),none⟩])
 (.cond (.tmp 15)
 .skip
 (.exit 0)))
 (.block 1 (.seq (.ops [⟨(some 17),.mov (.tmp 0),none⟩,
  ⟨(some 18),.call 285 [(.tmp 17)],none⟩,
  ⟨(some 16),.mov (.tmp 18),none⟩,
  ⟨(some 19),.extract (.tmp 16) 0,none⟩,
  ⟨(some 20),.extract (.tmp 16) 1,none⟩,
  ⟨(some 21),.extract (.tmp 16) 2,none⟩,
  ⟨(some 2),.mov (.tmp 19),none⟩,
  ⟨(some 3),.mov (.tmp 20),none⟩,
  ⟨(some 4),.mov (.tmp 21),none⟩])
 (.seq (.seq (.ops [⟨(some 22),.mov (.tmp 4),none⟩,
  ⟨(some 23),.un .not (.tmp 22),none⟩])
 (.cond (.tmp 23)
 (.seq (.ops [⟨(some 24),.mov (.tmp 0),none⟩,
  ⟨(some 25),.mov (.tmp 0),none⟩,
  ⟨(some 26),.nilChk (.tmp 25),none⟩,
  ⟨(some 27),.fieldAddr 12 (.tmp 26),none⟩,
  ⟨(some 28),.load false 1 (.tmp 27),none⟩,
  ⟨(some 29),.mov (.tmp 0),none⟩,
  ⟨(some 30),.nilChk (.tmp 29),none⟩,
  ⟨(some 31),.fieldAddr 12 (.tmp 30),none⟩,
  ⟨(some 32),.load false 1 (.tmp 31),none⟩,
  ⟨(some 33),.lenSlice (.tmp 32),none⟩,
  ⟨(some 34),.bin .sub (.tmp 33) (.con (.int .i64 1)),none⟩,
  ⟨(some 35),.slc 7 (.tmp 28) none (some (.tmp 34)) none,none⟩,
  ⟨(some 36),.nilChk (.tmp 24),none⟩,
  ⟨(some 37),.fieldAddr 12 (.tmp 36),none⟩,
  ⟨none,.store 1 (.tmp 37) (.tmp 35),none⟩])
 (.exit 1))
 .skip))
 (.seq (.ops [⟨(some 38),.mov (.tmp 0),none⟩,
  ⟨(some 39),.mov (.tmp 3),none⟩,
  ⟨(some 40),.nilChk (.tmp 38),none⟩,
  ⟨(some 41),.fieldAddr 11 (.tmp 40),none⟩,
  ⟨none,.store 1 (.tmp 41) (.tmp 39),none⟩])
 (.seq (.ops [⟨(some 5),.mov (.con (.func (.func 242) [] [])),none⟩])
 (.seq (.seq (.ops [⟨(some 43),.mov (.tmp 2),none⟩,
  ⟨(some 44),.call 204 [(.tmp 43)],none⟩,
  ⟨(some 42),.mov (.tmp 44),none⟩,
  ⟨(some 45),.extract (.tmp 42) 0,none⟩,
  ⟨(some 46),.extract (.tmp 42) 1,none⟩,
  ⟨(some 47),.extract (.tmp 42) 2,none⟩,
  ⟨(some 48),.extract (.tmp 42) 3,none⟩,
  ⟨(some 6),.mov (.tmp 45),none⟩,
  ⟨(some 7),.mov (.tmp 46),none⟩,
  ⟨(some 8),.mov (.tmp 47),none⟩,
  ⟨(some 9),.mov (.tmp 48),none⟩])
 (.seq (.ops [⟨(some 49),.mov (.tmp 8),none⟩])
 (.cond (.tmp 49)
 (.ops [⟨(some 5),.mov (.con (.func (.func 286) [] [])),none⟩])
 .skip)))
 (.seq (.ops [⟨(some 50),.mov (.tmp 0),none⟩,
  ⟨(some 51),.mov (.tmp 2),none⟩,
  ⟨(some 52),.build [(.int .i64 0),(.int .i64 0),(.int .i64 0),(.int .i64 0),(.int .u64 0),.nilSlice] [(0,1,(.con (.int .i64 1))),(1,1,(.tmp 51))],none⟩,
  ⟨(some 53),.mov (.tmp 5),none⟩,
  ⟨(some 54),.call 102 [(.tmp 50),(.tmp 52),(.tmp 53)],none⟩])
 .ret))))))))
def c266 : ACode:=(.seq (.block 0 (.loop c266l0))
 (.ops [⟨(some 55),.mov (.tmp 0),none⟩,
  ⟨(some 56),.call 284 [(.tmp 55)],none⟩]))
def a266 : AFunc:=⟨1,c266,[]⟩
theorem k266 : cFunc Tryz.prog Tryz.f266=some a266:=by kernel_rfl
/- 245: unicode/utf8.decodeRuneInStringSlow -/
def c245 : ACode:=(.seq (.ops [⟨(some 2),.mov (.con (.int .i32 0)),none⟩,
  ⟨(some 3),.mov (.con (.int .i64 0)),none⟩])
 (.seq (.ops [⟨(some 13),.mov (.tmp 0),none⟩,
  ⟨(some 14),.lenStr (.tmp 13),none⟩,
  ⟨(some 4),.mov (.tmp 14),none⟩])
 (.seq (.seq (.ops [⟨(some 15),.mov (.tmp 4),none⟩,
  ⟨(some 16),.bin .lss (.tmp 15) (.con (.int .i64 1)),none⟩])
 (.cond (.tmp 16)
 (.seq (.ops [⟨(some 2),.mov (.con (.int .i32 65533)),none⟩,
  ⟨(some 3),.mov (.con (.int .i64 0)),none⟩])
 .ret)
 .skip))
 (.seq (.ops [⟨(some 17),.mov (.tmp 0),none⟩,
  ⟨(some 18),.idxStr (.tmp 17) (.con (.int .i64 0)),none⟩,
  ⟨(some 5),.mov (.tmp 18),none⟩])
 (.seq (.ops [⟨(some 19),.mov (.tmp 5),none⟩,
  ⟨none,.stuck,none⟩,
  ⟨(some 21),.load false 1 (.tmp 20),none⟩,
  ⟨(some 6),.mov (.tmp 21),none⟩])
 (.seq (.seq (.ops [⟨(some 22),.mov (.tmp 6),none⟩,
  ⟨(some 23),.bin .geq (.tmp 22) (.con (.int .u8 240)),none⟩])
 (.cond (.tmp 23)
 (.seq (.ops [⟨(some 24),.mov (.tmp 6),none⟩,
  ⟨(some 25),.toInt .i32 (.tmp 24),none⟩,
  ⟨(some 26),.bin .shl (.tmp 25) (.con (.int .u64 31)),none⟩,
  ⟨(some 27),.bin .shr (.tmp 26) (.con (.int .u64 31)),none⟩,
  ⟨(some 7),.mov (.tmp 27),none⟩])
 (.seq (.ops [⟨(some 28),.mov (.tmp 0),none⟩,
  ⟨(some 29),.idxStr (.tmp 28) (.con (.int .i64 0)),none⟩,
  ⟨(some 30),.toInt .i32 (.tmp 29),none⟩,
  ⟨(some 31),.mov (.tmp 7),none⟩,
  ⟨(some 32),.bin .andNot (.tmp 30) (.tmp 31),none⟩,
  ⟨(some 33),.mov (.tmp 7),none⟩,
  ⟨(some 34),.bin .and (.con (.int .i32 65533)) (.tmp 33),none⟩,
  ⟨(some 35),.bin .or (.tmp 32) (.tmp 34),none⟩,
  ⟨(some 2),.mov (.tmp 35),none⟩,
  ⟨(some 3),.mov (.con (.int .i64 1)),none⟩])
 .ret))
 .skip))
 (.seq (.ops [⟨(some 36),.mov (.tmp 6),none⟩,
  ⟨(some 37),.bin .and (.tmp 36) (.con (.int .u8 7)),none⟩,
  ⟨(some 38),.toInt .i64 (.tmp 37),none⟩,
  ⟨(some 8),.mov (.tmp 38),none⟩])
 (.seq (.ops [⟨(some 39),.mov (.tmp 6),none⟩,
  ⟨(some 40),.bin .shr (.tmp 39) (.con (.int .u64 4)),none⟩,
  ⟨none,.stuck,none⟩,
  ⟨(some 42),.load true 2 (.tmp 41),none⟩,
  ⟨(some 9),.new [(.int .u8 0),(.int .u8 0)],none⟩,
  ⟨none,.store 2 (.tmp 9) (.tmp 42),none⟩])
 (.seq (.seq (.ops [⟨(some 43),.mov (.tmp 4),none⟩,
  ⟨(some 44),.mov (.tmp 8),none⟩,
  ⟨(some 45),.bin .lss (.tmp 43) (.tmp 44),none⟩])
 (.cond (.tmp 45)
 (.seq (.ops [⟨(some 2),.mov (.con (.int .i32 65533)),none⟩,
  ⟨(some 3),.mov (.con (.int .i64 1)),none⟩])
 .ret)
 .skip))
 (.seq (.ops [⟨(some 46),.mov (.tmp 0),none⟩,
  ⟨(some 47),.idxStr (.tmp 46) (.con (.int .i64 1)),none⟩,
  ⟨(some 10),.mov (.tmp 47),none⟩])
 (.seq (.seq (.ops [⟨(some 48),.mov (.tmp 10),none⟩,
  ⟨(some 49),.fieldAddr 0 (.tmp 9),none⟩,
  ⟨(some 50),.load false 1 (.tmp 49),none⟩,
  ⟨(some 51),.bin .lss (.tmp 48) (.tmp 50),none⟩,
  ⟨(some 52),.mov (.tmp 51),none⟩,
  ⟨(some 53),.fieldAddr 1 (.tmp 9),(some (52,false))⟩,
  ⟨(some 54),.load false 1 (.tmp 53),(some (52,false))⟩,
  ⟨(some 55),.mov (.tmp 10),(some (52,false))⟩,
  ⟨(some 56),.bin .lss (.tmp 54) (.tmp 55),(some (52,false))⟩,
  ⟨(some 57),.pick (.tmp 52) (.con (.bool true)) (.tmp 56),none⟩])
 (.cond (.tmp 57)
 (.seq (.ops [⟨(some 2),.mov (.con (.int .i32 65533)),none⟩,
  ⟨(some 3),.mov (.con (.int .i64 1)),none⟩])
 .ret)
 .skip))
 (.seq (.seq (.ops [⟨(some 58),.mov (.tmp 8),none⟩,
  ⟨(some 59),.bin .leq (.tmp 58) (.con (.int .i64 2)),none⟩])
 (.cond (.tmp 59)
 (.seq (.ops [⟨(some 60),.mov (.tmp 5),none⟩,
  ⟨(some 61),.bin .and (.tmp 60) (.con (.int .u8 31)),none⟩,
  ⟨(some 62),.toInt .i32 (.tmp 61),none⟩,
  ⟨(some 63),.bin .shl (.tmp 62) (.con (.int .u64 6)),none⟩,
  ⟨(some 64),.mov (.tmp 10),none⟩,
  ⟨(some 65),.bin .and (.tmp 64) (.con (.int .u8 63)),none⟩,
  ⟨(some 66),.toInt .i32 (.tmp 65),none⟩,
  ⟨(some 67),.bin .or (.tmp 63) (.tmp 66),none⟩,
  ⟨(some 2),.mov (.tmp 67),none⟩,
  ⟨(some 3),.mov (.con (.int .i64 2)),none⟩])
 .ret)
 .skip))
 (.seq (.ops [⟨(some 68),.mov (.tmp 0),none⟩,
  ⟨(some 69),.idxStr (.tmp 68) (.con (.int .i64 2)),none⟩,
  ⟨(some 11),.mov (.tmp 69),none⟩])
 (.seq (.seq (.ops [⟨(some 70),.mov (.tmp 11),none⟩,
  ⟨(some 71),.bin .lss (.tmp 70) (.con (.int .u8 128)),none⟩,
  ⟨(some 72),.mov (.tmp 71),none⟩,
  ⟨(some 73),.mov (.tmp 11),(some (72,false))⟩,
  ⟨(some 74),.bin .lss (.con (.int .u8 191)) (.tmp 73),(some (72,false))⟩,
  ⟨(some 75),.pick (.tmp 72) (.con (.bool true)) (.tmp 74),none⟩])
 (.cond (.tmp 75)
 (.seq (.ops [⟨(some 2),.mov (.con (.int .i32 65533)),none⟩,
  ⟨(some 3),.mov (.con (.int .i64 1)),none⟩])
 .ret)
 .skip))
 (.seq (.seq (.ops [⟨(some 76),.mov (.tmp 8),none⟩,
  ⟨(some 77),.bin .leq (.tmp 76) (.con (.int .i64 3)),none⟩])
 (.cond (.tmp 77)
 (.seq (.ops [⟨(some 78),.mov (.tmp 5),none⟩,
  ⟨(some 79),.bin .and (.tmp 78) (.con (.int .u8 15)),none⟩,
  ⟨(some 80),.toInt .i32 (.tmp 79),none⟩,
  ⟨(some 81),.bin .shl (.tmp 80) (.con (.int .u64 12)),none⟩,
  ⟨(some 82),.mov (.tmp 10),none⟩,
  ⟨(some 83),.bin .and (.tmp 82) (.con (.int .u8 63)),none⟩,
  ⟨(some 84),.toInt .i32 (.tmp 83),none⟩,
  ⟨(some 85),.bin .shl (.tmp 84) (.con (.int .u64 6)),none⟩,
  ⟨(some 86),.bin .or (.tmp 81) (.tmp 85),none⟩,
  ⟨(some 87),.mov (.tmp 11),none⟩,
  ⟨(some 88),.bin .and (.tmp 87) (.con (.int .u8 63)),none⟩,
  ⟨(some 89),.toInt .i32 (.tmp 88),none⟩,
  ⟨(some 90),.bin .or (.tmp 86) (.tmp 89),none⟩,
  ⟨(some 2),.mov (.tmp 90),none⟩,
  ⟨(some 3),.mov (.con (.int .i64 3)),none⟩])
 .ret)
 .skip))
 (.seq (.ops [⟨(some 91),.mov (.tmp 0),none⟩,
  ⟨(some 92),.idxStr (.tmp 91) (.con (.int .i64 3)),none⟩,
  ⟨(some 12),.mov (.tmp 92),none⟩])
 (.seq (.seq (.ops [⟨(some 93),.mov (.tmp 12),none⟩,
  ⟨(some 94),.bin .lss (.tmp 93) (.con (.int .u8 128)),none⟩,
  ⟨(some 95),.mov (.tmp 94),none⟩,
  ⟨(some 96),.mov (.tmp 12),(some (95,false))⟩,
  ⟨(some 97),.bin .lss (.con (.int .u8 191)) (.tmp 96),(some (95,false))⟩,
  ⟨(some 98),.pick (.tmp 95) (.con (.bool true)) (.tmp 97),none⟩])
 (.cond (.tmp 98)
 (.seq (.ops [⟨(some 2),.mov (.con (.int .i32 65533)),none⟩,
  ⟨(some 3),.mov (.con (.int .i64 1)),none⟩])
 .ret)
 .skip))
 (.seq (.ops [⟨(some 99),.mov (.tmp 5),none⟩,
  ⟨(some 100),.bin .and (.tmp 99) (.con (.int .u8 7)),none⟩,
  ⟨(some 101),.toInt .i32 (.tmp 100),none⟩,
  ⟨(some 102),.bin .shl (.tmp 101) (.con (.int .u64 18)),none⟩,
  ⟨(some 103),.mov (.tmp 10),none⟩,
  ⟨(some 104),.bin .and (.tmp 103) (.con (.int .u8 63)),none⟩,
  ⟨(some 105),.toInt .i32 (.tmp 104),none⟩,
  ⟨(some 106),.bin .shl (.tmp 105) (.con (.int .u64 12)),none⟩,
  ⟨(some 107),.bin .or (.tmp 102) (.tmp 106),none⟩,
  ⟨(some 108),.mov (.tmp 11),none⟩,
  ⟨(some 109),.bin .and (.tmp 108) (.con (.int .u8 63)),none⟩,
  ⟨(some 110),.toInt .i32 (.tmp 109),none⟩,
  ⟨(some 111),.bin .shl (.tmp 110) (.con (.int .u64 6)),none⟩,
  ⟨(some 112),.bin .or (.tmp 107) (.tmp 111),none⟩,
  ⟨(some 113),.mov (.tmp 12),none⟩,
  ⟨(some 114),.bin .and (.tmp 113) (.con (.int .u8 63)),none⟩,
  ⟨(some 115),.toInt .i32 (.tmp 114),none⟩,
  ⟨(some 116),.bin .or (.tmp 112) (.tmp 115),none⟩,
  ⟨(some 2),.mov (.tmp 116),none⟩,
  ⟨(some 3),.mov (.con (.int .i64 4)),none⟩])
 .ret))))))))))))))))))
def a245 : AFunc:=⟨1,c245,[.tmp 2,.tmp 3]⟩
theorem k245 : cFunc Tryz.prog Tryz.f245=some a245:=by kernel_rfl
/- 246: internal/stringslite.Index -/
def c246l0 : ACode:=(.seq (.seq (.ops [⟨(some 57),.mov (.tmp 8),none⟩,
  ⟨(some 58),.mov (.tmp 9),none⟩,
  ⟨(some 59),.bin .lss (.tmp 57) (.tmp 58),none⟩])
 (.cond (.tmp 59)
 .skip
 (.exit 1)))
 (.block 2 (.seq (.seq (.ops [⟨(some 60),.mov (.tmp 0),none⟩,
  ⟨(some 61),.mov (.tmp 8),none⟩,
  ⟨(some 62),.idxStr (.tmp 60) (.tmp 61),none⟩,
  ⟨(some 63),.mov (.tmp 6),none⟩,
  ⟨(some 64),.bin .neq (.tmp 62) (.tmp 63),none⟩])
 (.cond (.tmp 64)
 (.seq (.ops [⟨(some 65),.mov (.tmp 0),none⟩,
  ⟨(some 66),.mov (.tmp 8),none⟩,
  ⟨(some 67),.bin .add (.tmp 66) (.con (.int .i64 1)),none⟩,
  ⟨(some 68),.mov (.tmp 9),none⟩,
  ⟨(some 69),.slcStr (.tmp 65) (some (.tmp 67)) (some (.tmp 68)),none⟩,
  ⟨(some 70),.mov (.tmp 6),none⟩,
  ⟨(some 71),.call 118 [(.tmp 69),(.tmp 70)],none⟩,
  ⟨(some 11),.mov (.tmp 71),none⟩])
 (.seq (.seq (.ops [⟨(some 72),.mov (.tmp 11),none⟩,
  ⟨(some 73),.bin .lss (.tmp 72) (.con (.int .i64 0)),none⟩])
 (.cond (.tmp 73)
 (.seq (.ops [⟨(some 4),.mov (.con (.int .i64 (-1))),none⟩])
 .ret)
 .skip))
 (.ops [⟨(some 74),.mov (.tmp 8),none⟩,
  ⟨(some 75),.mov (.tmp 11),none⟩,
  ⟨(some 76),.bin .add (.tmp 75) (.con (.int .i64 1)),none⟩,
  ⟨(some 77),.bin .add (.tmp 74) (.tmp 76),none⟩,
  ⟨(some 8),.mov (.tmp 77),none⟩])))
 .skip))
 (.seq (.seq (.ops [⟨(some 78),.mov (.tmp 0),none⟩,
  ⟨(some 79),.mov (.tmp 8),none⟩,
  ⟨(some 80),.bin .add (.tmp 79) (.con (.int .i64 1)),none⟩,
  ⟨(some 81),.idxStr (.tmp 78) (.tmp 80),none⟩,
  ⟨(some 82),.mov (.tmp 7),none⟩,
  ⟨(some 83),.bin .eql (.tmp 81) (.tmp 82),none⟩,
  ⟨(some 84),.mov (.tmp 83),none⟩,
  ⟨(some 85),.mov (.tmp 0),(some (84,true))⟩,
  ⟨(some 86),.mov (.tmp 8),(some (84,true))⟩,
  ⟨(some 87),.mov (.tmp 8),(some (84,true))⟩,
  ⟨(some 88),.mov (.tmp 5),(some (84,true))⟩,
  ⟨(some 89),.bin .add (.tmp 87) (.tmp 88),(some (84,true))⟩,
  ⟨(some 90),.slcStr (.tmp 85) (some (.tmp 86)) (some (.tmp 89)),(some (84,true))⟩,
  ⟨(some 91),.mov (.tmp 1),(some (84,true))⟩,
  ⟨(some 92),.bin .eql (.tmp 90) (.tmp 91),(some (84,true))⟩,
  ⟨(some 93),.pick (.tmp 84) (.tmp 92) (.con (.bool false)),none⟩])
 (.cond (.tmp 93)
 (.seq (.ops [⟨(some 94),.mov (.tmp 8),none⟩,
  ⟨(some 4),.mov (.tmp 94),none⟩])
 .ret)
 .skip))
 (.seq (.ops [⟨(some 95),.mov (.tmp 8),none⟩,
  ⟨(some 96),.bin .add (.tmp 95) (.con (.int .i64 1)),none⟩,
  ⟨(some 8),.mov (.tmp 96),none⟩])
 (.seq (.ops [⟨(some 97),.mov (.tmp 10),none⟩,
  ⟨(some 98),.bin .add (.tmp 97) (.con (.int .i64 1)),none⟩,
  ⟨(some 10),.mov (.tmp 98),none⟩])
 (.seq (.ops [⟨(some 99),.mov (.tmp 5),none⟩,
  ⟨none,.stuck,none⟩,
  ⟨(some 101),.bin .leq (.tmp 99) (.tmp 100),none⟩,
  ⟨(some 102),.mov (.tmp 101),none⟩,
  ⟨(some 103),.mov (.tmp 10),(some (102,true))⟩,
  ⟨(some 104),.mov (.tmp 8),(some (102,true))⟩,
  ⟨(some 105),.call 268 [(.tmp 104)],(some (102,true))⟩,
  ⟨(some 106),.bin .gtr (.tmp 103) (.tmp 105),(some (102,true))⟩,
  ⟨(some 107),.pick (.tmp 102) (.tmp 106) (.con (.bool false)),none⟩])
 (.cond (.tmp 107)
 (.seq (.ops [⟨(some 108),.mov (.tmp 0),none⟩,
  ⟨(some 109),.mov (.tmp 8),none⟩,
  ⟨(some 110),.slcStr (.tmp 108) (some (.tmp 109)) none,none⟩,
  ⟨(some 111),.mov (.tmp 1),none⟩,
  ⟨(some 112),.call 267 [(.tmp 110),(.tmp 111)],none⟩,
  ⟨(some 12),.mov (.tmp 112),none⟩])
 (.seq (.seq (.ops [⟨(some 113),.mov (.tmp 12),none⟩,
  ⟨(some 114),.bin .geq (.tmp 113) (.con (.int .i64 0)),none⟩])
 (.cond (.tmp 114)
 (.seq (.ops [⟨(some 115),.mov (.tmp 12),none⟩,
  ⟨(some 116),.mov (.tmp 8),none⟩,
  ⟨(some 117),.bin .add (.tmp 115) (.tmp 116),none⟩,
  ⟨(some 4),.mov (.tmp 117),none⟩])
 .ret)
 .skip))
 (.seq (.ops [⟨(some 4),.mov (.con (.int .i64 (-1))),none⟩])
 .ret)))
 (.seq (.ops [⟨(some 118),.mov (.tmp 5),none⟩,
  ⟨none,.stuck,none⟩,
  ⟨(some 120),.bin .gtr (.tmp 118) (.tmp 119),none⟩,
  ⟨(some 121),.mov (.tmp 120),none⟩,
  ⟨(some 122),.mov (.tmp 10),(some (121,true))⟩,
  ⟨(some 123),.mov (.tmp 8),(some (121,true))⟩,
  ⟨(some 124),.bin .shr (.tmp 123) (.con (.int .u64 4)),(some (121,true))⟩,
  ⟨(some 125),.bin .add (.con (.int .i64 4)) (.tmp 124),(some (121,true))⟩,
  ⟨(some 126),.bin .geq (.tmp 122) (.tmp 125),(some (121,true))⟩,
  ⟨(some 127),.pick (.tmp 121) (.tmp 126) (.con (.bool false)),none⟩,
  ⟨(some 128),.mov (.tmp 127),none⟩,
  ⟨(some 129),.mov (.tmp 8),(some (128,true))⟩,
  ⟨(some 130),.mov (.tmp 9),(some (128,true))⟩,
  ⟨(some 131),.bin .lss (.tmp 129) (.tmp 130),(some (128,true))⟩,
  ⟨(some 132),.pick (.tmp 128) (.tmp 131) (.con (.bool false)),none⟩])
 (.cond (.tmp 132)
 (.seq (.ops [⟨(some 133),.mov (.tmp 0),none⟩,
  ⟨(some 134),.mov (.tmp 8),none⟩,
  ⟨(some 135),.slcStr (.tmp 133) (some (.tmp 134)) none,none⟩,
  ⟨(some 136),.mov (.tmp 1),none⟩,
  ⟨(some 137),.call 269 [(.tmp 135),(.tmp 136)],none⟩,
  ⟨(some 13),.mov (.tmp 137),none⟩])
 (.seq (.seq (.ops [⟨(some 138),.mov (.tmp 13),none⟩,
  ⟨(some 139),.bin .lss (.tmp 138) (.con (.int .i64 0)),none⟩])
 (.cond (.tmp 139)
 (.seq (.ops [⟨(some 4),.mov (.con (.int .i64 (-1))),none⟩])
 .ret)
 .skip))
 (.seq (.ops [⟨(some 140),.mov (.tmp 8),none⟩,
  ⟨(some 141),.mov (.tmp 13),none⟩,
  ⟨(some 142),.bin .add (.tmp 140) (.tmp 141),none⟩,
  ⟨(some 4),.mov (.tmp 142),none⟩])
 .ret)))
 .skip))))))))))
def c246 : ACode:=(.seq (.ops [⟨(some 4),.mov (.con (.int .i64 0)),none⟩])
 (.seq (.ops [⟨(some 14),.mov (.tmp 1),none⟩,
  ⟨(some 15),.lenStr (.tmp 14),none⟩,
  ⟨(some 5),.mov (.tmp 15),none⟩])
 (.seq (.block 0 (.seq (.ops [⟨(some 17),.mov (.tmp 5),none⟩,
  ⟨(some 18),.bin .eql (.tmp 17) (.con (.int .i64 0)),none⟩,
  ⟨(some 19),.mov (.tmp 18),none⟩,
  ⟨(some 20),.mov (.tmp 1),(some (19,false))⟩,
  ⟨(some 21),.mov (.tmp 0),(some (19,false))⟩,
  ⟨(some 22),.bin .eql (.tmp 20) (.tmp 21),(some (19,false))⟩,
  ⟨(some 23),.pick (.tmp 19) (.con (.bool true)) (.tmp 22),none⟩,
  ⟨(some 16),.mov (.tmp 23),none⟩])
 (.cond (.tmp 16)
 (.seq (.ops [⟨(some 4),.mov (.con (.int .i64 0)),none⟩])
 .ret)
 (.seq (.ops [⟨(some 25),.mov (.tmp 5),none⟩,
  ⟨(some 26),.bin .eql (.tmp 25) (.con (.int .i64 1)),none⟩,
  ⟨(some 24),.mov (.tmp 26),none⟩])
 (.cond (.tmp 24)
 (.seq (.ops [⟨(some 27),.mov (.tmp 0),none⟩,
  ⟨(some 28),.mov (.tmp 1),none⟩,
  ⟨(some 29),.idxStr (.tmp 28) (.con (.int .i64 0)),none⟩,
  ⟨(some 30),.call 118 [(.tmp 27),(.tmp 29)],none⟩,
  ⟨(some 4),.mov (.tmp 30),none⟩])
 .ret)
 (.seq (.ops [⟨(some 32),.mov (.tmp 5),none⟩,
  ⟨(some 33),.mov (.tmp 0),none⟩,
  ⟨(some 34),.lenStr (.tmp 33),none⟩,
  ⟨(some 35),.bin .geq (.tmp 32) (.tmp 34),none⟩,
  ⟨(some 31),.mov (.tmp 35),none⟩])
 (.cond (.tmp 31)
 (.seq (.ops [⟨(some 4),.mov (.con (.int .i64 (-1))),none⟩])
 .ret)
 (.seq (.ops [⟨(some 37),.mov (.tmp 5),none⟩,
  ⟨none,.stuck,none⟩,
  ⟨(some 39),.bin .leq (.tmp 37) (.tmp 38),none⟩,
  ⟨(some 40),.mov (.tmp 39),none⟩,
  ⟨(some 41),.mov (.tmp 0),(some (40,true))⟩,
  ⟨(some 42),.lenStr (.tmp 41),(some (40,true))⟩,
  ⟨(some 43),.bin .leq (.tmp 42) (.con (.int .i64 64)),(some (40,true))⟩,
  ⟨(some 44),.pick (.tmp 40) (.tmp 43) (.con (.bool false)),none⟩,
  ⟨(some 36),.mov (.tmp 44),none⟩])
 (.cond (.tmp 36)
 (.seq (.ops [⟨(some 45),.mov (.tmp 0),none⟩,
  ⟨(some 46),.mov (.tmp 1),none⟩,
  ⟨(some 47),.call 267 [(.tmp 45),(.tmp 46)],none⟩,
  ⟨(some 4),.mov (.tmp 47),none⟩])
 .ret)
 .skip)))))))))
 (.seq (.ops [⟨(some 48),.mov (.tmp 1),none⟩,
  ⟨(some 49),.idxStr (.tmp 48) (.con (.int .i64 0)),none⟩,
  ⟨(some 6),.mov (.tmp 49),none⟩])
 (.seq (.ops [⟨(some 50),.mov (.tmp 1),none⟩,
  ⟨(some 51),.idxStr (.tmp 50) (.con (.int .i64 1)),none⟩,
  ⟨(some 7),.mov (.tmp 51),none⟩])
 (.seq (.ops [⟨(some 8),.mov (.con (.int .i64 0)),none⟩])
 (.seq (.ops [⟨(some 52),.mov (.tmp 0),none⟩,
  ⟨(some 53),.lenStr (.tmp 52),none⟩,
  ⟨(some 54),.mov (.tmp 5),none⟩,
  ⟨(some 55),.bin .sub (.tmp 53) (.tmp 54),none⟩,
  ⟨(some 56),.bin .add (.tmp 55) (.con (.int .i64 1)),none⟩,
  ⟨(some 9),.mov (.tmp 56),none⟩])
 (.seq (.ops [⟨(some 10),.mov (.con (.int .i64 0)),none⟩])
 (.seq (.block 1 (.loop c246l0))
 (.seq (.ops [⟨(some 4),.mov (.con (.int .i64 (-1))),none⟩])
 .ret))))))))))
def a246 : AFunc:=⟨2,c246,[.tmp 4]⟩
theorem k246 : cFunc Tryz.prog Tryz.f246=some a246:=by kernel_rfl
/- 270: slices.order2Ordered[string] -/
def c270 : ACode:=(.seq (.ops [⟨(some 8),.mov (.con (.int .i64 0)),none⟩,
  ⟨(some 9),.mov (.con (.int .i64 0)),none⟩])
 (.seq (.seq (.ops [⟨(some 10),.mov (.tmp 0),none⟩,
  ⟨(some 11),.mov (.tmp 2),none⟩,
  ⟨(some 12),.idxAddr 1 (.tmp 10) (.tmp 11),none⟩,
  ⟨(some 13),.load false 1 (.tmp 12),none⟩,
  ⟨(some 14),.mov (.tmp 0),none⟩,
  ⟨(some 15),.mov (.tmp 1),none⟩,
  ⟨(some 16),.idxAddr 1 (.tmp 14) (.tmp 15),none⟩,
  ⟨(some 17),.load false 1 (.tmp 16),none⟩,
  ⟨(some 18),.call 215 [(.tmp 13),(.tmp 17)],none⟩])
 (.cond (.tmp 18)
 (.seq (.ops [⟨(some 19),.mov (.tmp 3),none⟩,
  ⟨(some 20),.nilChk (.tmp 19),none⟩,
  ⟨(some 21),.load false 1 (.tmp 20),none⟩,
  ⟨(some 22),.bin .add (.tmp 21) (.con (.int .i64 1)),none⟩,
  ⟨(some 23),.nilChk (.tmp 19),none⟩,
  ⟨none,.store 1 (.tmp 23) (.tmp 22),none⟩])
 (.seq (.ops [⟨(some 24),.mov (.tmp 2),none⟩,
  ⟨(some 25),.mov (.tmp 1),none⟩,
  ⟨(some 8),.mov (.tmp 24),none⟩,
  ⟨(some 9),.mov (.tmp 25),none⟩])
 .ret))
 .skip))
 (.seq (.ops [⟨(some 26),.mov (.tmp 1),none⟩,
  ⟨(some 27),.mov (.tmp 2),none⟩,
  ⟨(some 8),.mov (.tmp 26),none⟩,
  ⟨(some 9),.mov (.tmp 27),none⟩])
 .ret)))
def a270 : AFunc:=⟨4,c270,[.tmp 8,.tmp 9]⟩
theorem k270 : cFunc Tryz.prog Tryz.f270=some a270:=by kernel_rfl
/- 271: (*tendril/drop.Drop).attempt -/
def c271 : ACode:=(.seq (.ops [⟨(some 2),.mov (.tmp 0),none⟩,
  ⟨(some 3),.mov (.tmp 0),none⟩,
  ⟨(some 4),.mov (.tmp 0),none⟩,
  ⟨(some 5),.mov (.tmp 0),none⟩,
  ⟨(some 6),.build [(.int .i64 0),(.bool false),(.int .i64 0),.nilSlice] [],none⟩,
  ⟨(some 7),.nilChk (.tmp 2),none⟩,
  ⟨(some 8),.fieldAddr 37 (.tmp 7),none⟩,
  ⟨none,.store 1 (.tmp 8) (.con .nilSlice),none⟩,
  ⟨(some 9),.nilChk (.tmp 3),none⟩,
  ⟨(some 10),.fieldAddr 36 (.tmp 9),none⟩,
  ⟨none,.store 1 (.tmp 10) (.con .nilSlice),none⟩,
  ⟨(some 11),.nilChk (.tmp 4),none⟩,
  ⟨(some 12),.fieldAddr 38 (.tmp 11),none⟩,
  ⟨none,.store 1 (.tmp 12) (.con .nilSlice),none⟩,
  ⟨(some 13),.nilChk (.tmp 5),none⟩,
  ⟨(some 14),.fieldAddr 41 (.tmp 13),none⟩,
  ⟨none,.store 4 (.tmp 14) (.tmp 6),none⟩])
 (.block 0 (.seq (.ops [⟨(some 19),.mov (.tmp 0),none⟩,
  ⟨(some 20),.nilChk (.tmp 19),none⟩,
  ⟨(some 21),.fieldAddr 5 (.tmp 20),none⟩,
  ⟨(some 22),.load false 1 (.tmp 21),none⟩,
  ⟨(some 18),.mov (.tmp 22),none⟩])
 (.cond (.tmp 18)
 (.ops [⟨(some 23),.mov (.tmp 0),none⟩,
  ⟨(some 24),.call 288 [(.tmp 23)],none⟩])
 (.seq (.ops [⟨(some 26),.mov (.tmp 0),none⟩,
  ⟨(some 27),.nilChk (.tmp 26),none⟩,
  ⟨(some 28),.fieldAddr 4 (.tmp 27),none⟩,
  ⟨(some 29),.load false 1 (.tmp 28),none⟩,
  ⟨(some 30),.mov (.tmp 0),none⟩,
  ⟨(some 31),.nilChk (.tmp 30),none⟩,
  ⟨(some 32),.fieldAddr 3 (.tmp 31),none⟩,
  ⟨(some 33),.load false 1 (.tmp 32),none⟩,
  ⟨(some 34),.bin .geq (.tmp 29) (.tmp 33),none⟩,
  ⟨(some 25),.mov (.tmp 34),none⟩])
 (.cond (.tmp 25)
 (.ops [⟨(some 35),.mov (.tmp 0),none⟩,
  ⟨(some 36),.build [(.int .i64 0),(.int .i64 0),(.int .i64 0),(.int .i64 0),(.int .u64 0),.nilSlice] [(0,1,(.con (.int .i64 14)))],none⟩,
  ⟨(some 37),.call 220 [(.tmp 35),(.tmp 36),(.con (.func (.func 289) [] []))],none⟩])
 (.ops [⟨(some 15),.mov (.tmp 0),none⟩,
  ⟨(some 16),.build [(.int .i64 0),(.int .i64 0),(.int .i64 0),(.int .i64 0),(.int .u64 0),.nilSlice] [(0,1,(.con (.int .i64 13)))],none⟩,
  ⟨(some 17),.call 220 [(.tmp 15),(.tmp 16),(.con (.func (.func 290) [] []))],none⟩])))))))
def a271 : AFunc:=⟨1,c271,[]⟩
theorem k271 : cFunc Tryz.prog Tryz.f271=some a271:=by kernel_rfl
end Go.Proofs.YtakgcpmemalmaaaGreatDoor

/- The abstract code of functions that the laws reach, as a program printed it; each is what the compiler makes of the given function. -/
import Derived.Test.YtakgcpmemalmaaaGreatDoorVmZ
import Derived.Test.YtakgcpmemalmaaaGreatDoorVmS
import Derived.Test.YtakgcpmemalmaaaGreatDoorRows
namespace Go.Proofs.YtakgcpmemalmaaaGreatDoor
open Go.Vm
/- 3: tendril/tendrillaw24.DocsRuns -/
def c3 : ACode:=(.seq (.ops [⟨(some 0),.mov (.con (.bool false)),none⟩])
 (.seq (.ops [⟨(some 15),.call 13 [],none⟩,
  ⟨(some 16),.call 12 [(.tmp 15)],none⟩,
  ⟨(some 14),.mov (.tmp 16),none⟩,
  ⟨(some 17),.extract (.tmp 14) 0,none⟩,
  ⟨(some 18),.extract (.tmp 14) 1,none⟩,
  ⟨(some 1),.mov (.tmp 17),none⟩,
  ⟨(some 2),.mov (.tmp 18),none⟩])
 (.seq (.seq (.ops [⟨(some 19),.mov (.tmp 1),none⟩,
  ⟨(some 20),.eqNil 0 false (.tmp 19) (.con .nilPtr),none⟩,
  ⟨(some 21),.mov (.tmp 20),none⟩,
  ⟨(some 22),.mov (.tmp 2),(some (21,false))⟩,
  ⟨(some 23),.bin .neq (.tmp 22) (.con (.int .i64 0)),(some (21,false))⟩,
  ⟨(some 24),.pick (.tmp 21) (.con (.bool true)) (.tmp 23),none⟩,
  ⟨(some 25),.mov (.tmp 24),none⟩,
  ⟨(some 26),.mov (.tmp 1),(some (25,false))⟩,
  ⟨(some 27),.call 14 [(.tmp 26)],(some (25,false))⟩,
  ⟨(some 28),.eqNil 0 false (.tmp 27) (.con .nilPtr),(some (25,false))⟩,
  ⟨(some 29),.pick (.tmp 25) (.con (.bool true)) (.tmp 28),none⟩,
  ⟨(some 30),.mov (.tmp 29),none⟩,
  ⟨(some 31),.mov (.tmp 1),(some (30,false))⟩,
  ⟨(some 32),.call 15 [(.tmp 31),(.con (.int .i64 3)),(.con (.str [116,111,32,98,101]))],(some (30,false))⟩,
  ⟨(some 33),.bin .neq (.tmp 32) (.con (.int .i64 0)),(some (30,false))⟩,
  ⟨(some 34),.pick (.tmp 30) (.con (.bool true)) (.tmp 33),none⟩,
  ⟨(some 35),.mov (.tmp 34),none⟩,
  ⟨(some 36),.mov (.tmp 1),(some (35,false))⟩,
  ⟨(some 37),.call 15 [(.tmp 36),(.con (.int .i64 5)),(.con (.str [111,114,32,110,111,116,32,116,111,32,98,101]))],(some (35,false))⟩,
  ⟨(some 38),.bin .neq (.tmp 37) (.con (.int .i64 0)),(some (35,false))⟩,
  ⟨(some 39),.pick (.tmp 35) (.con (.bool true)) (.tmp 38),none⟩])
 (.cond (.tmp 39)
 (.seq (.ops [⟨(some 0),.mov (.con (.bool false)),none⟩])
 .ret)
 .skip))
 (.seq (.ops [⟨(some 41),.mov (.tmp 1),none⟩,
  ⟨(some 42),.call 16 [(.tmp 41),(.con (.str [98,101]))],none⟩,
  ⟨(some 40),.mov (.tmp 42),none⟩,
  ⟨(some 43),.extract (.tmp 40) 0,none⟩,
  ⟨(some 44),.extract (.tmp 40) 1,none⟩,
  ⟨(some 3),.mov (.tmp 43),none⟩,
  ⟨(some 4),.mov (.tmp 44),none⟩])
 (.seq (.ops [⟨(some 46),.mov (.tmp 1),none⟩,
  ⟨(some 47),.call 17 [(.tmp 46),(.con (.str [116,111,32,33,110,111,116]))],none⟩,
  ⟨(some 45),.mov (.tmp 47),none⟩,
  ⟨(some 48),.extract (.tmp 45) 0,none⟩,
  ⟨(some 49),.extract (.tmp 45) 1,none⟩,
  ⟨(some 5),.mov (.tmp 48),none⟩,
  ⟨(some 6),.mov (.tmp 49),none⟩])
 (.seq (.ops [⟨(some 51),.mov (.tmp 1),none⟩,
  ⟨(some 52),.call 18 [(.tmp 51),(.con (.str [110])),(.con (.str [])),(.con (.int .i64 9))],none⟩,
  ⟨(some 50),.mov (.tmp 52),none⟩,
  ⟨(some 53),.extract (.tmp 50) 0,none⟩,
  ⟨(some 54),.extract (.tmp 50) 1,none⟩,
  ⟨(some 7),.mov (.tmp 53),none⟩,
  ⟨(some 8),.mov (.tmp 54),none⟩])
 (.seq (.ops [⟨(some 55),.mov (.tmp 1),none⟩,
  ⟨(some 56),.call 15 [(.tmp 55),(.con (.int .i64 3)),(.con (.str [120]))],none⟩,
  ⟨(some 9),.mov (.tmp 56),none⟩])
 (.seq (.ops [⟨(some 58),.mov (.tmp 1),none⟩,
  ⟨(some 59),.call 16 [(.tmp 58),(.con (.str []))],none⟩,
  ⟨(some 57),.mov (.tmp 59),none⟩,
  ⟨(some 60),.extract (.tmp 57) 0,none⟩,
  ⟨(some 61),.extract (.tmp 57) 1,none⟩,
  ⟨(some 10),.mov (.tmp 60),none⟩,
  ⟨(some 11),.mov (.tmp 61),none⟩])
 (.seq (.seq (.ops [⟨(some 62),.mov (.tmp 4),none⟩,
  ⟨(some 63),.bin .neq (.tmp 62) (.con (.int .i64 0)),none⟩,
  ⟨(some 64),.mov (.tmp 63),none⟩,
  ⟨(some 65),.mov (.tmp 6),(some (64,false))⟩,
  ⟨(some 66),.bin .neq (.tmp 65) (.con (.int .i64 0)),(some (64,false))⟩,
  ⟨(some 67),.pick (.tmp 64) (.con (.bool true)) (.tmp 66),none⟩,
  ⟨(some 68),.mov (.tmp 67),none⟩,
  ⟨(some 69),.mov (.tmp 8),(some (68,false))⟩,
  ⟨(some 70),.bin .neq (.tmp 69) (.con (.int .i64 0)),(some (68,false))⟩,
  ⟨(some 71),.pick (.tmp 68) (.con (.bool true)) (.tmp 70),none⟩,
  ⟨(some 72),.mov (.tmp 71),none⟩,
  ⟨(some 73),.mov (.tmp 9),(some (72,false))⟩,
  ⟨(some 74),.bin .neq (.tmp 73) (.con (.int .i64 9)),(some (72,false))⟩,
  ⟨(some 75),.pick (.tmp 72) (.con (.bool true)) (.tmp 74),none⟩,
  ⟨(some 76),.mov (.tmp 75),none⟩,
  ⟨(some 77),.mov (.tmp 11),(some (76,false))⟩,
  ⟨(some 78),.bin .neq (.tmp 77) (.con (.int .i64 6)),(some (76,false))⟩,
  ⟨(some 79),.pick (.tmp 76) (.con (.bool true)) (.tmp 78),none⟩,
  ⟨(some 80),.mov (.tmp 79),none⟩,
  ⟨(some 81),.mov (.tmp 1),(some (80,false))⟩,
  ⟨(some 82),.call 19 [(.tmp 81),(.con (.int .i64 3))],(some (80,false))⟩,
  ⟨(some 83),.bin .neq (.tmp 82) (.con (.int .i64 0)),(some (80,false))⟩,
  ⟨(some 84),.pick (.tmp 80) (.con (.bool true)) (.tmp 83),none⟩])
 (.cond (.tmp 84)
 (.seq (.ops [⟨(some 0),.mov (.con (.bool false)),none⟩])
 .ret)
 .skip))
 (.seq (.ops [⟨(some 86),.mov (.tmp 1),none⟩,
  ⟨(some 87),.call 16 [(.tmp 86),(.con (.str [98,101]))],none⟩,
  ⟨(some 85),.mov (.tmp 87),none⟩,
  ⟨(some 88),.extract (.tmp 85) 0,none⟩,
  ⟨(some 89),.extract (.tmp 85) 1,none⟩,
  ⟨(some 12),.mov (.tmp 88),none⟩,
  ⟨(some 13),.mov (.tmp 89),none⟩])
 (.seq (.ops [⟨(some 90),.mov (.tmp 3),none⟩,
  ⟨(some 91),.buildSlice 1 2 [(.int .i64 0),(.int .i64 0)] [(0,1,(.con (.int .i64 3))),(1,1,(.con (.int .i64 5)))],none⟩,
  ⟨(some 92),.call 20 [(.tmp 90),(.tmp 91)],none⟩,
  ⟨(some 93),.mov (.tmp 92),none⟩,
  ⟨(some 94),.mov (.tmp 5),(some (93,true))⟩,
  ⟨(some 95),.buildSlice 1 1 [(.int .i64 0)] [(0,1,(.con (.int .i64 3)))],(some (93,true))⟩,
  ⟨(some 96),.call 20 [(.tmp 94),(.tmp 95)],(some (93,true))⟩,
  ⟨(some 97),.pick (.tmp 93) (.tmp 96) (.con (.bool false)),none⟩,
  ⟨(some 98),.mov (.tmp 97),none⟩,
  ⟨(some 99),.mov (.tmp 7),(some (98,true))⟩,
  ⟨(some 100),.buildSlice 1 3 [(.str []),(.str []),(.str [])] [(0,1,(.con (.str [110,111,116]))),(1,1,(.con (.str [111,114]))),(2,1,(.con (.str [116,111])))],(some (98,true))⟩,
  ⟨(some 101),.call 21 [(.tmp 99),(.tmp 100)],(some (98,true))⟩,
  ⟨(some 102),.pick (.tmp 98) (.tmp 101) (.con (.bool false)),none⟩,
  ⟨(some 103),.mov (.tmp 102),none⟩,
  ⟨(some 104),.mov (.tmp 13),(some (103,true))⟩,
  ⟨(some 105),.bin .eql (.tmp 104) (.con (.int .i64 0)),(some (103,true))⟩,
  ⟨(some 106),.pick (.tmp 103) (.tmp 105) (.con (.bool false)),none⟩,
  ⟨(some 107),.mov (.tmp 106),none⟩,
  ⟨(some 108),.mov (.tmp 12),(some (107,true))⟩,
  ⟨(some 109),.buildSlice 1 1 [(.int .i64 0)] [(0,1,(.con (.int .i64 5)))],(some (107,true))⟩,
  ⟨(some 110),.call 20 [(.tmp 108),(.tmp 109)],(some (107,true))⟩,
  ⟨(some 111),.pick (.tmp 107) (.tmp 110) (.con (.bool false)),none⟩,
  ⟨(some 112),.mov (.tmp 111),none⟩,
  ⟨(some 113),.mov (.tmp 1),(some (112,true))⟩,
  ⟨(some 114),.call 19 [(.tmp 113),(.con (.int .i64 5))],(some (112,true))⟩,
  ⟨(some 115),.bin .eql (.tmp 114) (.con (.int .i64 0)),(some (112,true))⟩,
  ⟨(some 116),.pick (.tmp 112) (.tmp 115) (.con (.bool false)),none⟩,
  ⟨(some 117),.mov (.tmp 116),none⟩,
  ⟨(some 118),.mov (.tmp 1),(some (117,true))⟩,
  ⟨(some 119),.call 14 [(.tmp 118)],(some (117,true))⟩,
  ⟨(some 120),.call 22 [(.tmp 119)],(some (117,true))⟩,
  ⟨(some 121),.bin .eql (.tmp 120) (.con (.int .i64 1)),(some (117,true))⟩,
  ⟨(some 122),.pick (.tmp 117) (.tmp 121) (.con (.bool false)),none⟩,
  ⟨(some 0),.mov (.tmp 122),none⟩])
 .ret)))))))))))
def a3 : AFunc:=⟨0,c3,[.tmp 0]⟩
theorem k3 : cFunc Tryz.prog Tryz.f3=some a3:=by kernel_rfl
/- 9: tendril/tendrillaw24.DocsErrors -/
def c9l0 : ACode:=(.seq (.seq (.ops [⟨(some 44),.mov (.tmp 1),none⟩,
  ⟨(some 45),.lenStr (.tmp 44),none⟩,
  ⟨(some 46),.bin .leq (.tmp 45) (.con (.int .i64 512)),none⟩])
 (.cond (.tmp 46)
 .skip
 (.exit 0)))
 (.block 1 (.ops [⟨(some 47),.mov (.tmp 1),none⟩,
  ⟨(some 48),.bin .add (.tmp 47) (.con (.str [97,97,97,97,97,97,97,97,32])),none⟩,
  ⟨(some 1),.mov (.tmp 48),none⟩])))
def c9 : ACode:=(.seq (.ops [⟨(some 6),.mov (.con (.bool false)),none⟩])
 (.seq (.ops [⟨(some 29),.call 13 [],none⟩,
  ⟨(some 30),.call 12 [(.tmp 29)],none⟩,
  ⟨(some 28),.mov (.tmp 30),none⟩,
  ⟨(some 31),.extract (.tmp 28) 0,none⟩,
  ⟨(some 32),.extract (.tmp 28) 1,none⟩,
  ⟨(some 7),.mov (.tmp 31),none⟩,
  ⟨(some 8),.mov (.tmp 32),none⟩])
 (.seq (.seq (.ops [⟨(some 33),.mov (.tmp 7),none⟩,
  ⟨(some 34),.eqNil 0 false (.tmp 33) (.con .nilPtr),none⟩,
  ⟨(some 35),.mov (.tmp 34),none⟩,
  ⟨(some 36),.mov (.tmp 8),(some (35,false))⟩,
  ⟨(some 37),.bin .neq (.tmp 36) (.con (.int .i64 0)),(some (35,false))⟩,
  ⟨(some 38),.pick (.tmp 35) (.con (.bool true)) (.tmp 37),none⟩,
  ⟨(some 39),.mov (.tmp 38),none⟩,
  ⟨(some 40),.mov (.tmp 7),(some (39,false))⟩,
  ⟨(some 41),.call 15 [(.tmp 40),(.con (.int .i64 7)),(.con (.str [115,101,118,101,110,32,117,112]))],(some (39,false))⟩,
  ⟨(some 42),.bin .neq (.tmp 41) (.con (.int .i64 0)),(some (39,false))⟩,
  ⟨(some 43),.pick (.tmp 39) (.con (.bool true)) (.tmp 42),none⟩])
 (.cond (.tmp 43)
 (.seq (.ops [⟨(some 6),.mov (.con (.bool false)),none⟩])
 .ret)
 .skip))
 (.seq (.block 0 (.loop c9l0))
 (.seq (.ops [⟨(some 49),.mov (.tmp 0),none⟩,
  ⟨(some 50),.call 24 [(.tmp 49),(.con (.int .i64 0)),(.con (.int .i64 1099511627776))],none⟩,
  ⟨(some 51),.bin .sub (.con (.int .i64 (-1))) (.tmp 50),none⟩,
  ⟨(some 52),.mov (.tmp 0),none⟩,
  ⟨(some 53),.call 24 [(.tmp 52),(.con (.int .i64 0)),(.con (.int .i64 1099511627776))],none⟩,
  ⟨(some 54),.bin .add (.con (.int .i64 1073741825)) (.tmp 53),none⟩,
  ⟨(some 55),.buildSlice 1 2 [(.int .i64 0),(.int .i64 0)] [(0,1,(.tmp 51)),(1,1,(.tmp 54))],none⟩,
  ⟨(some 56),.mov (.tmp 2),none⟩,
  ⟨(some 57),.call 24 [(.tmp 56),(.con (.int .i64 0)),(.con (.int .i64 1))],none⟩,
  ⟨(some 58),.idxAddr 1 (.tmp 55) (.tmp 57),none⟩,
  ⟨(some 59),.load false 1 (.tmp 58),none⟩,
  ⟨(some 9),.mov (.tmp 59),none⟩])
 (.seq (.ops [⟨(some 60),.mov (.tmp 2),none⟩,
  ⟨(some 61),.call 24 [(.tmp 60),(.con (.int .i64 0)),(.con (.int .i64 1000))],none⟩,
  ⟨(some 62),.bin .add (.con (.int .i64 8)) (.tmp 61),none⟩,
  ⟨(some 10),.mov (.tmp 62),none⟩])
 (.seq (.ops [⟨(some 63),.mov (.tmp 7),none⟩,
  ⟨(some 64),.mov (.tmp 9),none⟩,
  ⟨(some 65),.call 15 [(.tmp 63),(.tmp 64),(.con (.str [120]))],none⟩,
  ⟨(some 66),.mov (.tmp 7),none⟩,
  ⟨(some 67),.mov (.tmp 10),none⟩,
  ⟨(some 68),.mov (.tmp 1),none⟩,
  ⟨(some 69),.call 15 [(.tmp 66),(.tmp 67),(.tmp 68)],none⟩,
  ⟨(some 70),.mov (.tmp 7),none⟩,
  ⟨(some 71),.call 15 [(.tmp 70),(.con (.int .i64 7)),(.con (.str [120]))],none⟩,
  ⟨(some 11),.mov (.tmp 65),none⟩,
  ⟨(some 12),.mov (.tmp 69),none⟩,
  ⟨(some 13),.mov (.tmp 71),none⟩])
 (.seq (.ops [⟨(some 72),.mov (.tmp 7),none⟩,
  ⟨(some 73),.mov (.tmp 9),none⟩,
  ⟨(some 74),.call 19 [(.tmp 72),(.tmp 73)],none⟩,
  ⟨(some 75),.mov (.tmp 7),none⟩,
  ⟨(some 76),.mov (.tmp 10),none⟩,
  ⟨(some 77),.call 19 [(.tmp 75),(.tmp 76)],none⟩,
  ⟨(some 78),.mov (.tmp 7),none⟩,
  ⟨(some 79),.mov (.tmp 10),none⟩,
  ⟨(some 80),.call 40 [(.tmp 78),(.tmp 79),(.con (.str [120]))],none⟩,
  ⟨(some 81),.mov (.tmp 7),none⟩,
  ⟨(some 82),.mov (.tmp 1),none⟩,
  ⟨(some 83),.call 40 [(.tmp 81),(.con (.int .i64 7)),(.tmp 82)],none⟩,
  ⟨(some 14),.mov (.tmp 74),none⟩,
  ⟨(some 15),.mov (.tmp 77),none⟩,
  ⟨(some 16),.mov (.tmp 80),none⟩,
  ⟨(some 17),.mov (.tmp 83),none⟩])
 (.seq (.ops [⟨(some 85),.mov (.tmp 7),none⟩,
  ⟨(some 86),.call 17 [(.tmp 85),(.con (.str [97,32,124]))],none⟩,
  ⟨(some 84),.mov (.tmp 86),none⟩,
  ⟨(some 87),.extract (.tmp 84) 0,none⟩,
  ⟨(some 88),.extract (.tmp 84) 1,none⟩,
  ⟨(some 18),.mov (.tmp 87),none⟩,
  ⟨(some 19),.mov (.tmp 88),none⟩])
 (.seq (.ops [⟨(some 90),.mov (.tmp 7),none⟩,
  ⟨(some 91),.call 18 [(.tmp 90),(.con (.str [])),(.con (.str [])),(.con (.int .i64 0))],none⟩,
  ⟨(some 89),.mov (.tmp 91),none⟩,
  ⟨(some 92),.extract (.tmp 89) 0,none⟩,
  ⟨(some 93),.extract (.tmp 89) 1,none⟩,
  ⟨(some 20),.mov (.tmp 92),none⟩,
  ⟨(some 21),.mov (.tmp 93),none⟩])
 (.seq (.ops [⟨(some 95),.mov (.tmp 7),none⟩,
  ⟨(some 96),.call 16 [(.tmp 95),(.con (.str [115,101,118,101,110,32,117,112,32,97,110,100,32,109,111,114,101]))],none⟩,
  ⟨(some 94),.mov (.tmp 96),none⟩,
  ⟨(some 97),.extract (.tmp 94) 0,none⟩,
  ⟨(some 98),.extract (.tmp 94) 1,none⟩,
  ⟨(some 22),.mov (.tmp 97),none⟩,
  ⟨(some 23),.mov (.tmp 98),none⟩])
 (.seq (.ops [⟨(some 100),.mov (.tmp 7),none⟩,
  ⟨(some 101),.call 30 [(.tmp 100),(.con (.int .i64 7))],none⟩,
  ⟨(some 99),.mov (.tmp 101),none⟩,
  ⟨(some 102),.extract (.tmp 99) 0,none⟩,
  ⟨(some 103),.extract (.tmp 99) 1,none⟩,
  ⟨(some 24),.mov (.tmp 102),none⟩,
  ⟨(some 25),.mov (.tmp 103),none⟩])
 (.seq (.ops [⟨(some 105),.mov (.tmp 7),none⟩,
  ⟨(some 106),.call 16 [(.tmp 105),(.con (.str [117,112]))],none⟩,
  ⟨(some 104),.mov (.tmp 106),none⟩,
  ⟨(some 107),.extract (.tmp 104) 0,none⟩,
  ⟨(some 108),.extract (.tmp 104) 1,none⟩,
  ⟨(some 26),.mov (.tmp 107),none⟩,
  ⟨(some 27),.mov (.tmp 108),none⟩])
 (.seq (.ops [⟨(some 109),.mov (.tmp 11),none⟩,
  ⟨(some 110),.bin .eql (.tmp 109) (.con (.int .i64 1)),none⟩,
  ⟨(some 111),.mov (.tmp 110),none⟩,
  ⟨(some 112),.mov (.tmp 12),(some (111,true))⟩,
  ⟨(some 113),.bin .eql (.tmp 112) (.con (.int .i64 11)),(some (111,true))⟩,
  ⟨(some 114),.pick (.tmp 111) (.tmp 113) (.con (.bool false)),none⟩,
  ⟨(some 115),.mov (.tmp 114),none⟩,
  ⟨(some 116),.mov (.tmp 13),(some (115,true))⟩,
  ⟨(some 117),.bin .eql (.tmp 116) (.con (.int .i64 9)),(some (115,true))⟩,
  ⟨(some 118),.pick (.tmp 115) (.tmp 117) (.con (.bool false)),none⟩,
  ⟨(some 119),.mov (.tmp 118),none⟩,
  ⟨(some 120),.mov (.tmp 14),(some (119,true))⟩,
  ⟨(some 121),.bin .eql (.tmp 120) (.con (.int .i64 10)),(some (119,true))⟩,
  ⟨(some 122),.pick (.tmp 119) (.tmp 121) (.con (.bool false)),none⟩,
  ⟨(some 123),.mov (.tmp 122),none⟩,
  ⟨(some 124),.mov (.tmp 15),(some (123,true))⟩,
  ⟨(some 125),.bin .eql (.tmp 124) (.con (.int .i64 10)),(some (123,true))⟩,
  ⟨(some 126),.pick (.tmp 123) (.tmp 125) (.con (.bool false)),none⟩,
  ⟨(some 127),.mov (.tmp 126),none⟩,
  ⟨(some 128),.mov (.tmp 16),(some (127,true))⟩,
  ⟨(some 129),.bin .eql (.tmp 128) (.con (.int .i64 10)),(some (127,true))⟩,
  ⟨(some 130),.pick (.tmp 127) (.tmp 129) (.con (.bool false)),none⟩,
  ⟨(some 131),.mov (.tmp 130),none⟩,
  ⟨(some 132),.mov (.tmp 17),(some (131,true))⟩,
  ⟨(some 133),.bin .eql (.tmp 132) (.con (.int .i64 11)),(some (131,true))⟩,
  ⟨(some 134),.pick (.tmp 131) (.tmp 133) (.con (.bool false)),none⟩,
  ⟨(some 135),.mov (.tmp 134),none⟩,
  ⟨(some 136),.mov (.tmp 19),(some (135,true))⟩,
  ⟨(some 137),.bin .eql (.tmp 136) (.con (.int .i64 7)),(some (135,true))⟩,
  ⟨(some 138),.pick (.tmp 135) (.tmp 137) (.con (.bool false)),none⟩,
  ⟨(some 139),.mov (.tmp 138),none⟩,
  ⟨(some 140),.mov (.tmp 21),(some (139,true))⟩,
  ⟨(some 141),.bin .eql (.tmp 140) (.con (.int .i64 1)),(some (139,true))⟩,
  ⟨(some 142),.pick (.tmp 139) (.tmp 141) (.con (.bool false)),none⟩,
  ⟨(some 143),.mov (.tmp 142),none⟩,
  ⟨(some 144),.mov (.tmp 23),(some (143,true))⟩,
  ⟨(some 145),.bin .eql (.tmp 144) (.con (.int .i64 6)),(some (143,true))⟩,
  ⟨(some 146),.pick (.tmp 143) (.tmp 145) (.con (.bool false)),none⟩,
  ⟨(some 147),.mov (.tmp 146),none⟩,
  ⟨(some 148),.mov (.tmp 25),(some (147,true))⟩,
  ⟨(some 149),.pick (.tmp 147) (.tmp 148) (.con (.bool false)),none⟩,
  ⟨(some 150),.mov (.tmp 149),none⟩,
  ⟨(some 151),.mov (.tmp 24),(some (150,true))⟩,
  ⟨(some 152),.bin .eql (.tmp 151) (.con (.str [115,101,118,101,110,32,117,112])),(some (150,true))⟩,
  ⟨(some 153),.pick (.tmp 150) (.tmp 152) (.con (.bool false)),none⟩,
  ⟨(some 154),.mov (.tmp 153),none⟩,
  ⟨(some 155),.mov (.tmp 27),(some (154,true))⟩,
  ⟨(some 156),.bin .eql (.tmp 155) (.con (.int .i64 0)),(some (154,true))⟩,
  ⟨(some 157),.pick (.tmp 154) (.tmp 156) (.con (.bool false)),none⟩,
  ⟨(some 158),.mov (.tmp 157),none⟩,
  ⟨(some 159),.mov (.tmp 26),(some (158,true))⟩,
  ⟨(some 160),.buildSlice 1 1 [(.int .i64 0)] [(0,1,(.con (.int .i64 7)))],(some (158,true))⟩,
  ⟨(some 161),.call 20 [(.tmp 159),(.tmp 160)],(some (158,true))⟩,
  ⟨(some 162),.pick (.tmp 158) (.tmp 161) (.con (.bool false)),none⟩,
  ⟨(some 163),.mov (.tmp 162),none⟩,
  ⟨(some 164),.mov (.tmp 7),(some (163,true))⟩,
  ⟨(some 165),.call 33 [(.tmp 164)],(some (163,true))⟩,
  ⟨(some 166),.lenSlice (.tmp 165),(some (163,true))⟩,
  ⟨(some 167),.bin .eql (.tmp 166) (.con (.int .i64 1)),(some (163,true))⟩,
  ⟨(some 168),.pick (.tmp 163) (.tmp 167) (.con (.bool false)),none⟩,
  ⟨(some 169),.mov (.tmp 168),none⟩,
  ⟨(some 170),.call 3 [],(some (169,true))⟩,
  ⟨(some 171),.pick (.tmp 169) (.tmp 170) (.con (.bool false)),none⟩,
  ⟨(some 6),.mov (.tmp 171),none⟩])
 .ret))))))))))))))
def a9 : AFunc:=⟨3,c9,[.tmp 6]⟩
theorem k9 : cFunc Tryz.prog Tryz.f9=some a9:=by kernel_rfl
/- 13: tendril/tendrillaw24.wide -/
def c13 : ACode:=(.seq (.ops [⟨(some 0),.new [(.int .i64 0),(.int .i64 0),(.int .i64 0),(.int .i64 0),(.int .i64 0),(.int .i64 0),(.int .i64 0),(.int .i64 0)],none⟩])
 (.seq (.ops [⟨(some 1),.build [(.int .i64 0),(.int .i64 0),(.int .i64 0),(.int .i64 0),(.int .i64 0)] [(0,1,(.con (.int .i64 300))),(1,1,(.con (.int .i64 220))),(2,1,(.con (.int .i64 120))),(3,1,(.con (.int .i64 60))),(4,1,(.con (.int .i64 2)))],none⟩,
  ⟨(some 2),.build [(.int .i64 0),(.int .i64 0),(.int .i64 0),(.int .i64 0),(.int .i64 0),(.int .i64 0),(.int .i64 0),(.int .i64 0)] [(0,5,(.tmp 1)),(5,1,(.con (.int .i64 1))),(6,1,(.con (.int .i64 32))),(7,1,(.con (.int .i64 2)))],none⟩,
  ⟨none,.store 8 (.tmp 0) (.tmp 2),none⟩])
 .ret))
def a13 : AFunc:=⟨0,c13,[.cell 0 true 8]⟩
theorem k13 : cFunc Tryz.prog Tryz.f13=some a13:=by kernel_rfl
/- 12: tendril/docs.New -/
def c12l0 : ACode:=(.seq (.ops [⟨(some 29),.bin .lss (.tmp 28) (.con (.int .i64 1024)),none⟩])
 (.seq (.cond (.tmp 29)
 .skip
 (.exit 0))
 (.seq (.block 1 (.seq (.ops [⟨(some 30),.mov (.tmp 28),none⟩,
  ⟨(some 7),.mov (.tmp 30),none⟩])
 (.ops [⟨(some 31),.mov (.tmp 6),none⟩,
  ⟨(some 32),.nilChk (.tmp 31),none⟩,
  ⟨(some 33),.fieldAddr 11 (.tmp 32),none⟩,
  ⟨(some 34),.load false 1 (.tmp 33),none⟩,
  ⟨(some 35),.mov (.tmp 7),none⟩,
  ⟨(some 36),.call 47 [(.tmp 34),(.tmp 35)],none⟩])))
 (.ops [⟨(some 37),.bin .add (.tmp 28) (.con (.int .i64 1)),none⟩,
  ⟨(some 28),.mov (.tmp 37),none⟩]))))
def c12 : ACode:=(.seq (.ops [⟨(some 1),.box (.tmp 0),none⟩,
  ⟨(some 2),.mov (.con .nilPtr),none⟩,
  ⟨(some 3),.mov (.con (.int .i64 0)),none⟩])
 (.seq (.ops [⟨(some 9),.load true 8 (.tmp 1),none⟩,
  ⟨(some 10),.call 45 [(.tmp 9)],none⟩,
  ⟨(some 8),.mov (.tmp 10),none⟩,
  ⟨(some 11),.extract (.tmp 8) 0,none⟩,
  ⟨(some 12),.extract (.tmp 8) 1,none⟩,
  ⟨(some 4),.mov (.tmp 11),none⟩,
  ⟨(some 5),.mov (.tmp 12),none⟩])
 (.seq (.seq (.ops [⟨(some 13),.mov (.tmp 5),none⟩,
  ⟨(some 14),.bin .neq (.tmp 13) (.con (.int .i64 0)),none⟩])
 (.cond (.tmp 14)
 (.seq (.ops [⟨(some 15),.mov (.tmp 5),none⟩,
  ⟨(some 2),.mov (.con .nilPtr),none⟩,
  ⟨(some 3),.mov (.tmp 15),none⟩])
 .ret)
 .skip))
 (.seq (.ops [⟨(some 16),.load true 8 (.tmp 1),none⟩,
  ⟨(some 17),.mov (.tmp 4),none⟩,
  ⟨(some 18),.mkMap,none⟩,
  ⟨(some 19),.build [(.int .i64 0),(.int .i64 0),(.int .i64 0),(.int .i64 0),(.int .i64 0),(.int .i64 0),(.int .i64 0),(.int .i64 0),.nilPtr,.nilSlice,.nilMap,.nilPtr] [(0,8,(.tmp 16)),(8,1,(.tmp 17)),(10,1,(.tmp 18))],none⟩,
  ⟨(some 20),.box (.tmp 19),none⟩,
  ⟨(some 6),.mov (.tmp 20),none⟩])
 (.seq (.ops [⟨(some 22),.mov (.tmp 6),none⟩,
  ⟨(some 23),.call 46 [(.con (.int .i64 1024))],none⟩,
  ⟨(some 21),.mov (.tmp 23),none⟩,
  ⟨(some 24),.extract (.tmp 21) 0,none⟩,
  ⟨(some 25),.extract (.tmp 21) 1,none⟩,
  ⟨(some 26),.nilChk (.tmp 22),none⟩,
  ⟨(some 27),.fieldAddr 11 (.tmp 26),none⟩,
  ⟨none,.store 1 (.tmp 27) (.tmp 24),none⟩])
 (.seq (.seq (.ops [⟨(some 28),.mov (.con (.int .i64 0)),none⟩])
 (.block 0 (.loop c12l0)))
 (.seq (.ops [⟨(some 38),.mov (.tmp 6),none⟩,
  ⟨(some 2),.mov (.tmp 38),none⟩,
  ⟨(some 3),.mov (.con (.int .i64 0)),none⟩])
 .ret)))))))
def a12 : AFunc:=⟨1,c12,[.tmp 2,.tmp 3]⟩
theorem k12 : cFunc Tryz.prog Tryz.f12=some a12:=by kernel_rfl
/- 14: (*tendril/docs.Index).Mem -/
def c14 : ACode:=(.seq (.ops [⟨(some 2),.mov (.con .nilPtr),none⟩])
 (.seq (.ops [⟨(some 3),.mov (.tmp 0),none⟩,
  ⟨(some 4),.nilChk (.tmp 3),none⟩,
  ⟨(some 5),.fieldAddr 8 (.tmp 4),none⟩,
  ⟨(some 6),.load false 1 (.tmp 5),none⟩,
  ⟨(some 2),.mov (.tmp 6),none⟩])
 .ret))
def a14 : AFunc:=⟨1,c14,[.tmp 2]⟩
theorem k14 : cFunc Tryz.prog Tryz.f14=some a14:=by kernel_rfl
/- 15: (*tendril/docs.Index).Add -/
def c15l0 : ACode:=(.seq (.ops [⟨(some 39),.bin .lss (.tmp 38) (.tmp 37),none⟩])
 (.seq (.cond (.tmp 39)
 .skip
 (.exit 1))
 (.seq (.block 2 (.seq (.ops [⟨(some 40),.idxAddr 1 (.tmp 36) (.tmp 38),none⟩,
  ⟨(some 41),.load false 1 (.tmp 40),none⟩,
  ⟨(some 12),.mov (.tmp 41),none⟩])
 (.ops [⟨(some 42),.mov (.tmp 0),none⟩,
  ⟨(some 43),.mov (.tmp 12),none⟩,
  ⟨(some 44),.mov (.tmp 1),none⟩,
  ⟨(some 45),.call 51 [(.tmp 42),(.tmp 43),(.tmp 44)],none⟩])))
 (.ops [⟨(some 46),.bin .add (.tmp 38) (.con (.int .i64 1)),none⟩,
  ⟨(some 38),.mov (.tmp 46),none⟩]))))
def c15 : ACode:=(.seq (.ops [⟨(some 6),.mov (.con (.int .i64 0)),none⟩])
 (.seq (.ops [⟨(some 14),.mov (.tmp 1),none⟩,
  ⟨(some 15),.mov (.tmp 2),none⟩,
  ⟨(some 16),.call 48 [(.tmp 14),(.tmp 15)],none⟩,
  ⟨(some 13),.mov (.tmp 16),none⟩,
  ⟨(some 17),.extract (.tmp 13) 0,none⟩,
  ⟨(some 18),.extract (.tmp 13) 1,none⟩,
  ⟨(some 7),.mov (.tmp 17),none⟩,
  ⟨(some 8),.mov (.tmp 18),none⟩])
 (.seq (.seq (.ops [⟨(some 19),.mov (.tmp 8),none⟩,
  ⟨(some 20),.bin .neq (.tmp 19) (.con (.int .i64 0)),none⟩])
 (.cond (.tmp 20)
 (.seq (.ops [⟨(some 21),.mov (.tmp 8),none⟩,
  ⟨(some 6),.mov (.tmp 21),none⟩])
 .ret)
 .skip))
 (.seq (.ops [⟨(some 23),.mov (.tmp 0),none⟩,
  ⟨(some 24),.mov (.tmp 1),none⟩,
  ⟨(some 25),.call 49 [(.tmp 23),(.tmp 24)],none⟩,
  ⟨(some 22),.mov (.tmp 25),none⟩,
  ⟨(some 26),.extract (.tmp 22) 0,none⟩,
  ⟨(some 27),.extract (.tmp 22) 1,none⟩,
  ⟨(some 9),.mov (.tmp 26),none⟩,
  ⟨(some 10),.mov (.tmp 27),none⟩])
 (.seq (.block 0 (.seq (.ops [⟨(some 29),.mov (.tmp 10),none⟩,
  ⟨(some 28),.mov (.tmp 29),none⟩])
 (.cond (.tmp 28)
 (.seq (.ops [⟨(some 6),.mov (.con (.int .i64 9)),none⟩])
 .ret)
 (.seq (.ops [⟨(some 31),.mov (.tmp 0),none⟩,
  ⟨(some 32),.mov (.tmp 7),none⟩,
  ⟨(some 33),.lenSlice (.tmp 32),none⟩,
  ⟨(some 34),.call 50 [(.tmp 31),(.tmp 33)],none⟩,
  ⟨(some 35),.un .not (.tmp 34),none⟩,
  ⟨(some 30),.mov (.tmp 35),none⟩])
 (.cond (.tmp 30)
 (.seq (.ops [⟨(some 6),.mov (.con (.int .i64 2)),none⟩])
 .ret)
 .skip)))))
 (.seq (.seq (.ops [⟨(some 36),.mov (.tmp 7),none⟩,
  ⟨(some 37),.lenSlice (.tmp 36),none⟩,
  ⟨(some 38),.mov (.con (.int .i64 0)),none⟩])
 (.block 1 (.loop c15l0)))
 (.seq (.ops [⟨(some 47),.mov (.tmp 0),none⟩,
  ⟨(some 48),.mov (.tmp 0),none⟩,
  ⟨(some 49),.nilChk (.tmp 48),none⟩,
  ⟨(some 50),.fieldAddr 9 (.tmp 49),none⟩,
  ⟨(some 51),.load false 1 (.tmp 50),none⟩,
  ⟨(some 52),.mov (.tmp 9),none⟩,
  ⟨(some 53),.mov (.tmp 1),none⟩,
  ⟨(some 54),.mov (.tmp 2),none⟩,
  ⟨(some 55),.build [(.int .i64 0),(.str [])] [(0,1,(.tmp 53)),(1,1,(.tmp 54))],none⟩,
  ⟨(some 56),.buildSlice 2 1 [(.int .i64 0),(.str [])] [(0,2,(.tmp 55))],none⟩,
  ⟨(some 57),.call 52 [(.tmp 51),(.tmp 52),(.tmp 56)],none⟩,
  ⟨(some 58),.nilChk (.tmp 47),none⟩,
  ⟨(some 59),.fieldAddr 9 (.tmp 58),none⟩,
  ⟨none,.store 1 (.tmp 59) (.tmp 57),none⟩])
 (.seq (.ops [⟨(some 6),.mov (.con (.int .i64 0)),none⟩])
 .ret))))))))
def a15 : AFunc:=⟨3,c15,[.tmp 6]⟩
theorem k15 : cFunc Tryz.prog Tryz.f15=some a15:=by kernel_rfl
/- 16: (*tendril/docs.Index).Get -/
def c16 : ACode:=(.seq (.ops [⟨(some 4),.mov (.con .nilSlice),none⟩,
  ⟨(some 5),.mov (.con (.int .i64 0)),none⟩])
 (.seq (.seq (.ops [⟨(some 6),.mov (.tmp 1),none⟩,
  ⟨(some 7),.call 42 [(.tmp 6)],none⟩,
  ⟨(some 8),.un .not (.tmp 7),none⟩])
 (.cond (.tmp 8)
 (.seq (.ops [⟨(some 4),.mov (.con .nilSlice),none⟩,
  ⟨(some 5),.mov (.con (.int .i64 6)),none⟩])
 .ret)
 .skip))
 (.seq (.ops [⟨(some 9),.mov (.tmp 0),none⟩,
  ⟨(some 10),.mov (.tmp 1),none⟩,
  ⟨(some 11),.call 53 [(.tmp 9),(.tmp 10)],none⟩,
  ⟨(some 4),.mov (.tmp 11),none⟩,
  ⟨(some 5),.mov (.con (.int .i64 0)),none⟩])
 .ret)))
def a16 : AFunc:=⟨2,c16,[.tmp 4,.tmp 5]⟩
theorem k16 : cFunc Tryz.prog Tryz.f16=some a16:=by kernel_rfl
/- 17: (*tendril/docs.Index).Query -/
def c17l0 : ACode:=(.seq (.ops [⟨(some 23),.bin .lss (.tmp 22) (.tmp 21),none⟩])
 (.seq (.cond (.tmp 23)
 .skip
 (.exit 0))
 (.seq (.block 1 (.seq (.ops [⟨(some 24),.idxAddr 1 (.tmp 20) (.tmp 22),none⟩,
  ⟨(some 25),.load false 1 (.tmp 24),none⟩,
  ⟨(some 10),.mov (.tmp 25),none⟩])
 (.ops [⟨(some 26),.mov (.tmp 8),none⟩,
  ⟨(some 27),.mov (.tmp 0),none⟩,
  ⟨(some 28),.mov (.tmp 10),none⟩,
  ⟨(some 29),.call 53 [(.tmp 27),(.tmp 28)],none⟩,
  ⟨(some 30),.buildSlice 1 1 [.nilSlice] [(0,1,(.tmp 29))],none⟩,
  ⟨(some 31),.call 26 [(.tmp 30)],none⟩,
  ⟨(some 32),.buildSlice 1 1 [.nilSlice] [(0,1,(.tmp 31))],none⟩,
  ⟨(some 33),.append 1 24 (.tmp 26) (.tmp 32),none⟩,
  ⟨(some 8),.mov (.tmp 33),none⟩])))
 (.ops [⟨(some 34),.bin .add (.tmp 22) (.con (.int .i64 1)),none⟩,
  ⟨(some 22),.mov (.tmp 34),none⟩]))))
def c17 : ACode:=(.seq (.ops [⟨(some 4),.mov (.con .nilSlice),none⟩,
  ⟨(some 5),.mov (.con (.int .i64 0)),none⟩])
 (.seq (.ops [⟨(some 12),.mov (.tmp 1),none⟩,
  ⟨(some 13),.call 54 [(.tmp 12)],none⟩,
  ⟨(some 11),.mov (.tmp 13),none⟩,
  ⟨(some 14),.extract (.tmp 11) 0,none⟩,
  ⟨(some 15),.extract (.tmp 11) 1,none⟩,
  ⟨(some 6),.mov (.tmp 14),none⟩,
  ⟨(some 7),.mov (.tmp 15),none⟩])
 (.seq (.seq (.ops [⟨(some 16),.mov (.tmp 7),none⟩,
  ⟨(some 17),.bin .neq (.tmp 16) (.con (.int .i64 0)),none⟩])
 (.cond (.tmp 17)
 (.seq (.ops [⟨(some 18),.mov (.tmp 7),none⟩,
  ⟨(some 4),.mov (.con .nilSlice),none⟩,
  ⟨(some 5),.mov (.tmp 18),none⟩])
 .ret)
 .skip))
 (.seq (.ops [⟨(some 8),.mov (.con .nilSlice),none⟩])
 (.seq (.seq (.ops [⟨(some 19),.mov (.tmp 6),none⟩,
  ⟨(some 20),.call 55 [(.tmp 19)],none⟩,
  ⟨(some 21),.lenSlice (.tmp 20),none⟩,
  ⟨(some 22),.mov (.con (.int .i64 0)),none⟩])
 (.block 0 (.loop c17l0)))
 (.seq (.ops [⟨(some 35),.mov (.tmp 6),none⟩,
  ⟨(some 36),.mov (.tmp 8),none⟩,
  ⟨(some 37),.mov (.tmp 0),none⟩,
  ⟨(some 38),.call 33 [(.tmp 37)],none⟩,
  ⟨(some 39),.call 56 [(.tmp 35),(.tmp 36),(.tmp 38)],none⟩,
  ⟨(some 4),.mov (.tmp 39),none⟩,
  ⟨(some 5),.mov (.con (.int .i64 0)),none⟩])
 .ret))))))
def a17 : AFunc:=⟨2,c17,[.tmp 4,.tmp 5]⟩
theorem k17 : cFunc Tryz.prog Tryz.f17=some a17:=by kernel_rfl
/- 18: (*tendril/docs.Index).Terms -/
def c18l0 : ACode:=(.seq (.ops [⟨(some 47),.bin .lss (.tmp 46) (.tmp 45),none⟩])
 (.seq (.cond (.tmp 47)
 .skip
 (.exit 0))
 (.seq (.block 1 (.seq (.ops [⟨(some 48),.idxAddr 2 (.tmp 44) (.tmp 46),none⟩,
  ⟨(some 49),.load true 2 (.tmp 48),none⟩,
  ⟨(some 16),.new [(.str []),(.int .i64 0)],none⟩,
  ⟨none,.store 2 (.tmp 16) (.tmp 49),none⟩])
 (.ops [⟨(some 50),.mov (.tmp 14),none⟩,
  ⟨(some 51),.fieldAddr 0 (.tmp 16),none⟩,
  ⟨(some 52),.load false 1 (.tmp 51),none⟩,
  ⟨(some 53),.buildSlice 1 1 [(.str [])] [(0,1,(.tmp 52))],none⟩,
  ⟨(some 54),.append 1 16 (.tmp 50) (.tmp 53),none⟩,
  ⟨(some 14),.mov (.tmp 54),none⟩])))
 (.ops [⟨(some 55),.bin .add (.tmp 46) (.con (.int .i64 1)),none⟩,
  ⟨(some 46),.mov (.tmp 55),none⟩]))))
def c18 : ACode:=(.seq (.ops [⟨(some 8),.mov (.con .nilSlice),none⟩,
  ⟨(some 9),.mov (.con (.int .i64 0)),none⟩])
 (.seq (.ops [⟨(some 18),.mov (.tmp 1),none⟩,
  ⟨(some 19),.mov (.tmp 2),none⟩,
  ⟨(some 20),.mov (.tmp 3),none⟩,
  ⟨(some 21),.build [(.int .i64 0),(.str []),(.str []),(.int .i64 0)] [(0,1,(.con (.int .i64 4))),(1,1,(.tmp 18)),(2,1,(.tmp 19)),(3,1,(.tmp 20))],none⟩,
  ⟨(some 22),.mov (.tmp 0),none⟩,
  ⟨(some 23),.nilChk (.tmp 22),none⟩,
  ⟨(some 24),.fieldAddr 8 (.tmp 23),none⟩,
  ⟨(some 25),.load false 1 (.tmp 24),none⟩,
  ⟨(some 26),.call 58 [(.tmp 25)],none⟩,
  ⟨(some 27),.call 57 [(.tmp 21),(.tmp 26)],none⟩,
  ⟨(some 17),.mov (.tmp 27),none⟩,
  ⟨(some 28),.extract (.tmp 17) 0,none⟩,
  ⟨(some 29),.extract (.tmp 17) 1,none⟩,
  ⟨(some 10),.mov (.tmp 28),none⟩,
  ⟨(some 11),.mov (.tmp 29),none⟩])
 (.seq (.seq (.ops [⟨(some 30),.mov (.tmp 11),none⟩,
  ⟨(some 31),.bin .neq (.tmp 30) (.con (.int .i64 0)),none⟩])
 (.cond (.tmp 31)
 (.seq (.ops [⟨(some 8),.mov (.con .nilSlice),none⟩,
  ⟨(some 9),.mov (.con (.int .i64 1)),none⟩])
 .ret)
 .skip))
 (.seq (.ops [⟨(some 32),.mov (.tmp 0),none⟩,
  ⟨(some 33),.mov (.tmp 10),none⟩,
  ⟨(some 34),.mkFunc (.func 60) [(.tmp 33)] [],none⟩,
  ⟨(some 35),.mov (.tmp 10),none⟩,
  ⟨(some 36),.mkFunc (.func 61) [(.tmp 35)] [],none⟩,
  ⟨(some 37),.call 59 [(.tmp 32),(.con (.int .i64 0)),(.tmp 34),(.tmp 36)],none⟩])
 (.seq (.ops [⟨(some 39),.mov (.tmp 10),none⟩,
  ⟨(some 40),.call 62 [(.tmp 39)],none⟩,
  ⟨(some 38),.mov (.tmp 40),none⟩,
  ⟨(some 41),.extract (.tmp 38) 0,none⟩,
  ⟨(some 42),.extract (.tmp 38) 1,none⟩,
  ⟨(some 12),.new [(.int .i64 0),(.bool false),(.int .i64 0),.nilSlice],none⟩,
  ⟨none,.store 4 (.tmp 12) (.tmp 41),none⟩,
  ⟨(some 13),.mov (.tmp 42),none⟩])
 (.seq (.ops [⟨(some 14),.mov (.con .nilSlice),none⟩])
 (.seq (.seq (.ops [⟨(some 43),.fieldAddr 3 (.tmp 12),none⟩,
  ⟨(some 44),.load false 1 (.tmp 43),none⟩,
  ⟨(some 45),.lenSlice (.tmp 44),none⟩,
  ⟨(some 46),.mov (.con (.int .i64 0)),none⟩])
 (.block 0 (.loop c18l0)))
 (.seq (.ops [⟨(some 56),.mov (.tmp 14),none⟩,
  ⟨(some 8),.mov (.tmp 56),none⟩,
  ⟨(some 9),.mov (.con (.int .i64 0)),none⟩])
 .ret))))))))
def a18 : AFunc:=⟨4,c18,[.tmp 8,.tmp 9]⟩
theorem k18 : cFunc Tryz.prog Tryz.f18=some a18:=by kernel_rfl
/- 19: (*tendril/docs.Index).Remove -/
def c19l0 : ACode:=(.seq (.ops [⟨(some 39),.bin .lss (.tmp 38) (.tmp 37),none⟩])
 (.seq (.cond (.tmp 39)
 .skip
 (.exit 0))
 (.seq (.block 1 (.seq (.ops [⟨(some 40),.idxAddr 1 (.tmp 36) (.tmp 38),none⟩,
  ⟨(some 41),.load false 1 (.tmp 40),none⟩,
  ⟨(some 10),.mov (.tmp 41),none⟩])
 (.ops [⟨(some 42),.mov (.tmp 0),none⟩,
  ⟨(some 43),.mov (.tmp 10),none⟩,
  ⟨(some 44),.mov (.tmp 1),none⟩,
  ⟨(some 45),.call 64 [(.tmp 42),(.tmp 43),(.tmp 44)],none⟩])))
 (.ops [⟨(some 46),.bin .add (.tmp 38) (.con (.int .i64 1)),none⟩,
  ⟨(some 38),.mov (.tmp 46),none⟩]))))
def c19 : ACode:=(.seq (.ops [⟨(some 4),.mov (.con (.int .i64 0)),none⟩])
 (.seq (.ops [⟨(some 12),.mov (.tmp 0),none⟩,
  ⟨(some 13),.mov (.tmp 1),none⟩,
  ⟨(some 14),.call 49 [(.tmp 12),(.tmp 13)],none⟩,
  ⟨(some 11),.mov (.tmp 14),none⟩,
  ⟨(some 15),.extract (.tmp 11) 0,none⟩,
  ⟨(some 16),.extract (.tmp 11) 1,none⟩,
  ⟨(some 5),.mov (.tmp 15),none⟩,
  ⟨(some 6),.mov (.tmp 16),none⟩])
 (.seq (.seq (.ops [⟨(some 17),.mov (.tmp 6),none⟩,
  ⟨(some 18),.un .not (.tmp 17),none⟩])
 (.cond (.tmp 18)
 (.seq (.ops [⟨(some 4),.mov (.con (.int .i64 10)),none⟩])
 .ret)
 .skip))
 (.seq (.ops [⟨(some 20),.mov (.tmp 0),none⟩,
  ⟨(some 21),.nilChk (.tmp 20),none⟩,
  ⟨(some 22),.fieldAddr 9 (.tmp 21),none⟩,
  ⟨(some 23),.load false 1 (.tmp 22),none⟩,
  ⟨(some 24),.mov (.tmp 5),none⟩,
  ⟨(some 25),.idxAddr 2 (.tmp 23) (.tmp 24),none⟩,
  ⟨(some 26),.fieldAddr 1 (.tmp 25),none⟩,
  ⟨(some 27),.load false 1 (.tmp 26),none⟩,
  ⟨(some 28),.call 63 [(.tmp 27)],none⟩,
  ⟨(some 19),.mov (.tmp 28),none⟩,
  ⟨(some 29),.extract (.tmp 19) 0,none⟩,
  ⟨(some 30),.extract (.tmp 19) 1,none⟩,
  ⟨(some 7),.mov (.tmp 29),none⟩,
  ⟨(some 8),.mov (.tmp 30),none⟩])
 (.seq (.seq (.ops [⟨(some 31),.mov (.tmp 0),none⟩,
  ⟨(some 32),.mov (.tmp 7),none⟩,
  ⟨(some 33),.lenSlice (.tmp 32),none⟩,
  ⟨(some 34),.call 50 [(.tmp 31),(.tmp 33)],none⟩,
  ⟨(some 35),.un .not (.tmp 34),none⟩])
 (.cond (.tmp 35)
 (.seq (.ops [⟨(some 4),.mov (.con (.int .i64 2)),none⟩])
 .ret)
 .skip))
 (.seq (.seq (.ops [⟨(some 36),.mov (.tmp 7),none⟩,
  ⟨(some 37),.lenSlice (.tmp 36),none⟩,
  ⟨(some 38),.mov (.con (.int .i64 0)),none⟩])
 (.block 0 (.loop c19l0)))
 (.seq (.ops [⟨(some 47),.mov (.tmp 0),none⟩,
  ⟨(some 48),.mov (.tmp 0),none⟩,
  ⟨(some 49),.nilChk (.tmp 48),none⟩,
  ⟨(some 50),.fieldAddr 9 (.tmp 49),none⟩,
  ⟨(some 51),.load false 1 (.tmp 50),none⟩,
  ⟨(some 52),.mov (.tmp 5),none⟩,
  ⟨(some 53),.mov (.tmp 5),none⟩,
  ⟨(some 54),.bin .add (.tmp 53) (.con (.int .i64 1)),none⟩,
  ⟨(some 55),.call 65 [(.tmp 51),(.tmp 52),(.tmp 54)],none⟩,
  ⟨(some 56),.nilChk (.tmp 47),none⟩,
  ⟨(some 57),.fieldAddr 9 (.tmp 56),none⟩,
  ⟨none,.store 1 (.tmp 57) (.tmp 55),none⟩])
 (.seq (.ops [⟨(some 4),.mov (.con (.int .i64 0)),none⟩])
 .ret))))))))
def a19 : AFunc:=⟨2,c19,[.tmp 4]⟩
theorem k19 : cFunc Tryz.prog Tryz.f19=some a19:=by kernel_rfl
/- 20: tendril/tendrilbook.Same[int] -/
def c20l0 : ACode:=(.seq (.seq (.ops [⟨(some 11),.mov (.tmp 5),none⟩,
  ⟨(some 12),.mov (.tmp 0),none⟩,
  ⟨(some 13),.lenSlice (.tmp 12),none⟩,
  ⟨(some 14),.bin .lss (.tmp 11) (.tmp 13),none⟩])
 (.cond (.tmp 14)
 .skip
 (.exit 0)))
 (.seq (.block 1 (.seq (.ops [⟨(some 17),.mov (.tmp 0),none⟩,
  ⟨(some 18),.mov (.tmp 5),none⟩,
  ⟨(some 19),.idxAddr 1 (.tmp 17) (.tmp 18),none⟩,
  ⟨(some 20),.load false 1 (.tmp 19),none⟩,
  ⟨(some 21),.mov (.tmp 1),none⟩,
  ⟨(some 22),.mov (.tmp 5),none⟩,
  ⟨(some 23),.idxAddr 1 (.tmp 21) (.tmp 22),none⟩,
  ⟨(some 24),.load false 1 (.tmp 23),none⟩,
  ⟨(some 25),.bin .neq (.tmp 20) (.tmp 24),none⟩])
 (.cond (.tmp 25)
 (.seq (.ops [⟨(some 4),.mov (.con (.bool false)),none⟩])
 .ret)
 .skip)))
 (.ops [⟨(some 15),.mov (.tmp 5),none⟩,
  ⟨(some 16),.bin .add (.tmp 15) (.con (.int .i64 1)),none⟩,
  ⟨(some 5),.mov (.tmp 16),none⟩])))
def c20 : ACode:=(.seq (.ops [⟨(some 4),.mov (.con (.bool false)),none⟩])
 (.seq (.seq (.ops [⟨(some 6),.mov (.tmp 0),none⟩,
  ⟨(some 7),.lenSlice (.tmp 6),none⟩,
  ⟨(some 8),.mov (.tmp 1),none⟩,
  ⟨(some 9),.lenSlice (.tmp 8),none⟩,
  ⟨(some 10),.bin .neq (.tmp 7) (.tmp 9),none⟩])
 (.cond (.tmp 10)
 (.seq (.ops [⟨(some 4),.mov (.con (.bool false)),none⟩])
 .ret)
 .skip))
 (.seq (.seq (.ops [⟨(some 5),.mov (.con (.int .i64 0)),none⟩])
 (.block 0 (.loop c20l0)))
 (.seq (.ops [⟨(some 4),.mov (.con (.bool true)),none⟩])
 .ret))))
def a20 : AFunc:=⟨2,c20,[.tmp 4]⟩
theorem k20 : cFunc Tryz.prog Tryz.f20=some a20:=by kernel_rfl
/- 21: tendril/tendrilbook.Same[string] -/
def c21l0 : ACode:=(.seq (.seq (.ops [⟨(some 11),.mov (.tmp 5),none⟩,
  ⟨(some 12),.mov (.tmp 0),none⟩,
  ⟨(some 13),.lenSlice (.tmp 12),none⟩,
  ⟨(some 14),.bin .lss (.tmp 11) (.tmp 13),none⟩])
 (.cond (.tmp 14)
 .skip
 (.exit 0)))
 (.seq (.block 1 (.seq (.ops [⟨(some 17),.mov (.tmp 0),none⟩,
  ⟨(some 18),.mov (.tmp 5),none⟩,
  ⟨(some 19),.idxAddr 1 (.tmp 17) (.tmp 18),none⟩,
  ⟨(some 20),.load false 1 (.tmp 19),none⟩,
  ⟨(some 21),.mov (.tmp 1),none⟩,
  ⟨(some 22),.mov (.tmp 5),none⟩,
  ⟨(some 23),.idxAddr 1 (.tmp 21) (.tmp 22),none⟩,
  ⟨(some 24),.load false 1 (.tmp 23),none⟩,
  ⟨(some 25),.bin .neq (.tmp 20) (.tmp 24),none⟩])
 (.cond (.tmp 25)
 (.seq (.ops [⟨(some 4),.mov (.con (.bool false)),none⟩])
 .ret)
 .skip)))
 (.ops [⟨(some 15),.mov (.tmp 5),none⟩,
  ⟨(some 16),.bin .add (.tmp 15) (.con (.int .i64 1)),none⟩,
  ⟨(some 5),.mov (.tmp 16),none⟩])))
def c21 : ACode:=(.seq (.ops [⟨(some 4),.mov (.con (.bool false)),none⟩])
 (.seq (.seq (.ops [⟨(some 6),.mov (.tmp 0),none⟩,
  ⟨(some 7),.lenSlice (.tmp 6),none⟩,
  ⟨(some 8),.mov (.tmp 1),none⟩,
  ⟨(some 9),.lenSlice (.tmp 8),none⟩,
  ⟨(some 10),.bin .neq (.tmp 7) (.tmp 9),none⟩])
 (.cond (.tmp 10)
 (.seq (.ops [⟨(some 4),.mov (.con (.bool false)),none⟩])
 .ret)
 .skip))
 (.seq (.seq (.ops [⟨(some 5),.mov (.con (.int .i64 0)),none⟩])
 (.block 0 (.loop c21l0)))
 (.seq (.ops [⟨(some 4),.mov (.con (.bool true)),none⟩])
 .ret))))
def a21 : AFunc:=⟨2,c21,[.tmp 4]⟩
theorem k21 : cFunc Tryz.prog Tryz.f21=some a21:=by kernel_rfl
/- 22: (*tendril/mem.Mem).Live -/
def c22 : ACode:=(.seq (.ops [⟨(some 2),.mov (.con (.int .i64 0)),none⟩])
 (.seq (.ops [⟨(some 3),.mov (.tmp 0),none⟩,
  ⟨(some 4),.nilChk (.tmp 3),none⟩,
  ⟨(some 5),.fieldAddr 0 (.tmp 4),none⟩,
  ⟨(some 6),.load false 1 (.tmp 5),none⟩,
  ⟨(some 7),.call 66 [(.tmp 6)],none⟩,
  ⟨(some 2),.mov (.tmp 7),none⟩])
 .ret))
def a22 : AFunc:=⟨1,c22,[.tmp 2]⟩
theorem k22 : cFunc Tryz.prog Tryz.f22=some a22:=by kernel_rfl
/- 24: tendril/tendrilbook.Within -/
def c24 : ACode:=(.seq (.ops [⟨(some 6),.mov (.con (.int .i64 0)),none⟩])
 (.seq (.ops [⟨(some 7),.mov (.tmp 0),none⟩,
  ⟨(some 8),.mov (.tmp 2),none⟩,
  ⟨(some 9),.mov (.tmp 1),none⟩,
  ⟨(some 10),.bin .sub (.tmp 8) (.tmp 9),none⟩,
  ⟨(some 11),.bin .add (.tmp 10) (.con (.int .i64 1)),none⟩,
  ⟨(some 12),.bin .rem (.tmp 7) (.tmp 11),none⟩,
  ⟨(some 0),.mov (.tmp 12),none⟩])
 (.seq (.seq (.ops [⟨(some 13),.mov (.tmp 0),none⟩,
  ⟨(some 14),.bin .lss (.tmp 13) (.con (.int .i64 0)),none⟩])
 (.cond (.tmp 14)
 (.ops [⟨(some 15),.mov (.tmp 0),none⟩,
  ⟨(some 16),.mov (.tmp 2),none⟩,
  ⟨(some 17),.bin .add (.tmp 15) (.tmp 16),none⟩,
  ⟨(some 18),.mov (.tmp 1),none⟩,
  ⟨(some 19),.bin .sub (.tmp 17) (.tmp 18),none⟩,
  ⟨(some 20),.bin .add (.tmp 19) (.con (.int .i64 1)),none⟩,
  ⟨(some 0),.mov (.tmp 20),none⟩])
 .skip))
 (.seq (.ops [⟨(some 21),.mov (.tmp 1),none⟩,
  ⟨(some 22),.mov (.tmp 0),none⟩,
  ⟨(some 23),.bin .add (.tmp 21) (.tmp 22),none⟩,
  ⟨(some 6),.mov (.tmp 23),none⟩])
 .ret))))
def a24 : AFunc:=⟨3,c24,[.tmp 6]⟩
theorem k24 : cFunc Tryz.prog Tryz.f24=some a24:=by kernel_rfl
/- 40: (*tendril/docs.Index).Update -/
def c40l0 : ACode:=(.seq (.ops [⟨(some 57),.bin .lss (.tmp 56) (.tmp 55),none⟩])
 (.seq (.cond (.tmp 57)
 .skip
 (.exit 0))
 (.seq (.block 1 (.seq (.ops [⟨(some 58),.idxAddr 1 (.tmp 54) (.tmp 56),none⟩,
  ⟨(some 59),.load false 1 (.tmp 58),none⟩,
  ⟨(some 14),.mov (.tmp 59),none⟩])
 (.seq (.ops [⟨(some 60),.mov (.tmp 7),none⟩,
  ⟨(some 61),.mov (.tmp 14),none⟩,
  ⟨(some 62),.call 77 [(.tmp 60),(.tmp 61)],none⟩,
  ⟨(some 63),.un .not (.tmp 62),none⟩])
 (.cond (.tmp 63)
 (.ops [⟨(some 64),.mov (.tmp 0),none⟩,
  ⟨(some 65),.mov (.tmp 14),none⟩,
  ⟨(some 66),.mov (.tmp 1),none⟩,
  ⟨(some 67),.call 64 [(.tmp 64),(.tmp 65),(.tmp 66)],none⟩])
 .skip))))
 (.ops [⟨(some 68),.bin .add (.tmp 56) (.con (.int .i64 1)),none⟩,
  ⟨(some 56),.mov (.tmp 68),none⟩]))))
def c40l1 : ACode:=(.seq (.ops [⟨(some 72),.bin .lss (.tmp 71) (.tmp 70),none⟩])
 (.seq (.cond (.tmp 72)
 .skip
 (.exit 2))
 (.seq (.block 3 (.seq (.ops [⟨(some 73),.idxAddr 1 (.tmp 69) (.tmp 71),none⟩,
  ⟨(some 74),.load false 1 (.tmp 73),none⟩,
  ⟨(some 16),.mov (.tmp 74),none⟩])
 (.seq (.ops [⟨(some 75),.mov (.tmp 11),none⟩,
  ⟨(some 76),.mov (.tmp 16),none⟩,
  ⟨(some 77),.call 77 [(.tmp 75),(.tmp 76)],none⟩,
  ⟨(some 78),.un .not (.tmp 77),none⟩])
 (.cond (.tmp 78)
 (.ops [⟨(some 79),.mov (.tmp 0),none⟩,
  ⟨(some 80),.mov (.tmp 16),none⟩,
  ⟨(some 81),.mov (.tmp 1),none⟩,
  ⟨(some 82),.call 51 [(.tmp 79),(.tmp 80),(.tmp 81)],none⟩])
 .skip))))
 (.ops [⟨(some 83),.bin .add (.tmp 71) (.con (.int .i64 1)),none⟩,
  ⟨(some 71),.mov (.tmp 83),none⟩]))))
def c40 : ACode:=(.seq (.ops [⟨(some 6),.mov (.con (.int .i64 0)),none⟩])
 (.seq (.ops [⟨(some 18),.mov (.tmp 1),none⟩,
  ⟨(some 19),.mov (.tmp 2),none⟩,
  ⟨(some 20),.call 48 [(.tmp 18),(.tmp 19)],none⟩,
  ⟨(some 17),.mov (.tmp 20),none⟩,
  ⟨(some 21),.extract (.tmp 17) 0,none⟩,
  ⟨(some 22),.extract (.tmp 17) 1,none⟩,
  ⟨(some 7),.mov (.tmp 21),none⟩,
  ⟨(some 8),.mov (.tmp 22),none⟩])
 (.seq (.seq (.ops [⟨(some 23),.mov (.tmp 8),none⟩,
  ⟨(some 24),.bin .neq (.tmp 23) (.con (.int .i64 0)),none⟩])
 (.cond (.tmp 24)
 (.seq (.ops [⟨(some 25),.mov (.tmp 8),none⟩,
  ⟨(some 6),.mov (.tmp 25),none⟩])
 .ret)
 .skip))
 (.seq (.ops [⟨(some 27),.mov (.tmp 0),none⟩,
  ⟨(some 28),.mov (.tmp 1),none⟩,
  ⟨(some 29),.call 49 [(.tmp 27),(.tmp 28)],none⟩,
  ⟨(some 26),.mov (.tmp 29),none⟩,
  ⟨(some 30),.extract (.tmp 26) 0,none⟩,
  ⟨(some 31),.extract (.tmp 26) 1,none⟩,
  ⟨(some 9),.mov (.tmp 30),none⟩,
  ⟨(some 10),.mov (.tmp 31),none⟩])
 (.seq (.seq (.ops [⟨(some 32),.mov (.tmp 10),none⟩,
  ⟨(some 33),.un .not (.tmp 32),none⟩])
 (.cond (.tmp 33)
 (.seq (.ops [⟨(some 6),.mov (.con (.int .i64 10)),none⟩])
 .ret)
 .skip))
 (.seq (.ops [⟨(some 35),.mov (.tmp 0),none⟩,
  ⟨(some 36),.nilChk (.tmp 35),none⟩,
  ⟨(some 37),.fieldAddr 9 (.tmp 36),none⟩,
  ⟨(some 38),.load false 1 (.tmp 37),none⟩,
  ⟨(some 39),.mov (.tmp 9),none⟩,
  ⟨(some 40),.idxAddr 2 (.tmp 38) (.tmp 39),none⟩,
  ⟨(some 41),.fieldAddr 1 (.tmp 40),none⟩,
  ⟨(some 42),.load false 1 (.tmp 41),none⟩,
  ⟨(some 43),.call 63 [(.tmp 42)],none⟩,
  ⟨(some 34),.mov (.tmp 43),none⟩,
  ⟨(some 44),.extract (.tmp 34) 0,none⟩,
  ⟨(some 45),.extract (.tmp 34) 1,none⟩,
  ⟨(some 11),.mov (.tmp 44),none⟩,
  ⟨(some 12),.mov (.tmp 45),none⟩])
 (.seq (.seq (.ops [⟨(some 46),.mov (.tmp 0),none⟩,
  ⟨(some 47),.mov (.tmp 11),none⟩,
  ⟨(some 48),.lenSlice (.tmp 47),none⟩,
  ⟨(some 49),.mov (.tmp 7),none⟩,
  ⟨(some 50),.lenSlice (.tmp 49),none⟩,
  ⟨(some 51),.bin .add (.tmp 48) (.tmp 50),none⟩,
  ⟨(some 52),.call 50 [(.tmp 46),(.tmp 51)],none⟩,
  ⟨(some 53),.un .not (.tmp 52),none⟩])
 (.cond (.tmp 53)
 (.seq (.ops [⟨(some 6),.mov (.con (.int .i64 2)),none⟩])
 .ret)
 .skip))
 (.seq (.seq (.ops [⟨(some 54),.mov (.tmp 11),none⟩,
  ⟨(some 55),.lenSlice (.tmp 54),none⟩,
  ⟨(some 56),.mov (.con (.int .i64 0)),none⟩])
 (.block 0 (.loop c40l0)))
 (.seq (.seq (.ops [⟨(some 69),.mov (.tmp 7),none⟩,
  ⟨(some 70),.lenSlice (.tmp 69),none⟩,
  ⟨(some 71),.mov (.con (.int .i64 0)),none⟩])
 (.block 2 (.loop c40l1)))
 (.seq (.ops [⟨(some 84),.mov (.tmp 0),none⟩,
  ⟨(some 85),.nilChk (.tmp 84),none⟩,
  ⟨(some 86),.fieldAddr 9 (.tmp 85),none⟩,
  ⟨(some 87),.load false 1 (.tmp 86),none⟩,
  ⟨(some 88),.mov (.tmp 9),none⟩,
  ⟨(some 89),.mov (.tmp 2),none⟩,
  ⟨(some 90),.idxAddr 2 (.tmp 87) (.tmp 88),none⟩,
  ⟨(some 91),.fieldAddr 1 (.tmp 90),none⟩,
  ⟨none,.store 1 (.tmp 91) (.tmp 89),none⟩])
 (.seq (.ops [⟨(some 6),.mov (.con (.int .i64 0)),none⟩])
 .ret)))))))))))
def a40 : AFunc:=⟨3,c40,[.tmp 6]⟩
theorem k40 : cFunc Tryz.prog Tryz.f40=some a40:=by kernel_rfl
/- 30: (*tendril/docs.Index).Doc -/
def c30 : ACode:=(.seq (.ops [⟨(some 4),.mov (.con (.str [])),none⟩,
  ⟨(some 5),.mov (.con (.bool false)),none⟩])
 (.seq (.ops [⟨(some 9),.mov (.tmp 0),none⟩,
  ⟨(some 10),.mov (.tmp 1),none⟩,
  ⟨(some 11),.call 49 [(.tmp 9),(.tmp 10)],none⟩,
  ⟨(some 8),.mov (.tmp 11),none⟩,
  ⟨(some 12),.extract (.tmp 8) 0,none⟩,
  ⟨(some 13),.extract (.tmp 8) 1,none⟩,
  ⟨(some 6),.mov (.tmp 12),none⟩,
  ⟨(some 7),.mov (.tmp 13),none⟩])
 (.seq (.seq (.ops [⟨(some 14),.mov (.tmp 7),none⟩,
  ⟨(some 15),.un .not (.tmp 14),none⟩])
 (.cond (.tmp 15)
 (.seq (.ops [⟨(some 4),.mov (.con (.str [])),none⟩,
  ⟨(some 5),.mov (.con (.bool false)),none⟩])
 .ret)
 .skip))
 (.seq (.ops [⟨(some 16),.mov (.tmp 0),none⟩,
  ⟨(some 17),.nilChk (.tmp 16),none⟩,
  ⟨(some 18),.fieldAddr 9 (.tmp 17),none⟩,
  ⟨(some 19),.load false 1 (.tmp 18),none⟩,
  ⟨(some 20),.mov (.tmp 6),none⟩,
  ⟨(some 21),.idxAddr 2 (.tmp 19) (.tmp 20),none⟩,
  ⟨(some 22),.fieldAddr 1 (.tmp 21),none⟩,
  ⟨(some 23),.load false 1 (.tmp 22),none⟩,
  ⟨(some 4),.mov (.tmp 23),none⟩,
  ⟨(some 5),.mov (.con (.bool true)),none⟩])
 .ret))))
def a30 : AFunc:=⟨2,c30,[.tmp 4,.tmp 5]⟩
theorem k30 : cFunc Tryz.prog Tryz.f30=some a30:=by kernel_rfl
/- 33: (*tendril/docs.Index).Ids -/
def c33l0 : ACode:=(.seq (.ops [⟨(some 12),.bin .lss (.tmp 11) (.tmp 10),none⟩])
 (.seq (.cond (.tmp 12)
 .skip
 (.exit 0))
 (.seq (.block 1 (.seq (.ops [⟨(some 13),.idxAddr 2 (.tmp 9) (.tmp 11),none⟩,
  ⟨(some 14),.load true 2 (.tmp 13),none⟩,
  ⟨(some 5),.new [(.int .i64 0),(.str [])],none⟩,
  ⟨none,.store 2 (.tmp 5) (.tmp 14),none⟩])
 (.ops [⟨(some 15),.mov (.tmp 3),none⟩,
  ⟨(some 16),.fieldAddr 0 (.tmp 5),none⟩,
  ⟨(some 17),.load false 1 (.tmp 16),none⟩,
  ⟨(some 18),.buildSlice 1 1 [(.int .i64 0)] [(0,1,(.tmp 17))],none⟩,
  ⟨(some 19),.append 1 8 (.tmp 15) (.tmp 18),none⟩,
  ⟨(some 3),.mov (.tmp 19),none⟩])))
 (.ops [⟨(some 20),.bin .add (.tmp 11) (.con (.int .i64 1)),none⟩,
  ⟨(some 11),.mov (.tmp 20),none⟩]))))
def c33 : ACode:=(.seq (.ops [⟨(some 2),.mov (.con .nilSlice),none⟩])
 (.seq (.ops [⟨(some 3),.mov (.con .nilSlice),none⟩])
 (.seq (.seq (.ops [⟨(some 6),.mov (.tmp 0),none⟩,
  ⟨(some 7),.nilChk (.tmp 6),none⟩,
  ⟨(some 8),.fieldAddr 9 (.tmp 7),none⟩,
  ⟨(some 9),.load false 1 (.tmp 8),none⟩,
  ⟨(some 10),.lenSlice (.tmp 9),none⟩,
  ⟨(some 11),.mov (.con (.int .i64 0)),none⟩])
 (.block 0 (.loop c33l0)))
 (.seq (.ops [⟨(some 21),.mov (.tmp 3),none⟩,
  ⟨(some 2),.mov (.tmp 21),none⟩])
 .ret))))
def a33 : AFunc:=⟨1,c33,[.tmp 2]⟩
theorem k33 : cFunc Tryz.prog Tryz.f33=some a33:=by kernel_rfl
/- 45: tendril/mem.New -/
def c45 : ACode:=(.seq (.ops [⟨(some 1),.box (.tmp 0),none⟩,
  ⟨(some 2),.mov (.con .nilPtr),none⟩,
  ⟨(some 3),.mov (.con (.int .i64 0)),none⟩])
 (.seq (.ops [⟨(some 9),.fieldAddr 0 (.tmp 1),none⟩,
  ⟨(some 10),.load true 5 (.tmp 9),none⟩,
  ⟨(some 11),.call 82 [(.tmp 10)],none⟩,
  ⟨(some 8),.mov (.tmp 11),none⟩,
  ⟨(some 12),.extract (.tmp 8) 0,none⟩,
  ⟨(some 13),.extract (.tmp 8) 1,none⟩,
  ⟨(some 4),.mov (.tmp 12),none⟩,
  ⟨(some 5),.mov (.tmp 13),none⟩])
 (.seq (.seq (.ops [⟨(some 14),.mov (.tmp 5),none⟩,
  ⟨(some 15),.bin .neq (.tmp 14) (.con (.int .i64 0)),none⟩])
 (.cond (.tmp 15)
 (.seq (.ops [⟨(some 2),.mov (.con .nilPtr),none⟩,
  ⟨(some 3),.mov (.con (.int .i64 1)),none⟩])
 .ret)
 .skip))
 (.seq (.ops [⟨(some 17),.fieldAddr 5 (.tmp 1),none⟩,
  ⟨(some 18),.load false 1 (.tmp 17),none⟩,
  ⟨(some 19),.fieldAddr 6 (.tmp 1),none⟩,
  ⟨(some 20),.load false 1 (.tmp 19),none⟩,
  ⟨(some 21),.call 83 [(.tmp 18),(.tmp 20)],none⟩,
  ⟨(some 16),.mov (.tmp 21),none⟩,
  ⟨(some 22),.extract (.tmp 16) 0,none⟩,
  ⟨(some 23),.extract (.tmp 16) 1,none⟩,
  ⟨(some 6),.mov (.tmp 22),none⟩,
  ⟨(some 5),.mov (.tmp 23),none⟩])
 (.seq (.seq (.ops [⟨(some 24),.mov (.tmp 5),none⟩,
  ⟨(some 25),.bin .neq (.tmp 24) (.con (.int .i64 0)),none⟩,
  ⟨(some 26),.mov (.tmp 25),none⟩,
  ⟨(some 27),.fieldAddr 7 (.tmp 1),(some (26,false))⟩,
  ⟨(some 28),.load false 1 (.tmp 27),(some (26,false))⟩,
  ⟨(some 29),.bin .lss (.tmp 28) (.con (.int .i64 1)),(some (26,false))⟩,
  ⟨(some 30),.pick (.tmp 26) (.con (.bool true)) (.tmp 29),none⟩,
  ⟨(some 31),.mov (.tmp 30),none⟩,
  ⟨(some 32),.fieldAddr 7 (.tmp 1),(some (31,false))⟩,
  ⟨(some 33),.load false 1 (.tmp 32),(some (31,false))⟩,
  ⟨(some 34),.bin .gtr (.tmp 33) (.con (.int .i64 100)),(some (31,false))⟩,
  ⟨(some 35),.pick (.tmp 31) (.con (.bool true)) (.tmp 34),none⟩])
 (.cond (.tmp 35)
 (.seq (.ops [⟨(some 2),.mov (.con .nilPtr),none⟩,
  ⟨(some 3),.mov (.con (.int .i64 1)),none⟩])
 .ret)
 .skip))
 (.seq (.ops [⟨(some 37),.mov (.tmp 4),none⟩,
  ⟨(some 38),.build [(.int .i64 0),(.int .u64 0),(.str []),.nilSlice,.nilSlice] [(0,1,(.con (.int .i64 4)))],none⟩,
  ⟨(some 39),.call 85 [(.tmp 38)],none⟩,
  ⟨(some 40),.call 84 [(.tmp 37),(.con (.int .i64 4)),(.tmp 39)],none⟩,
  ⟨(some 36),.mov (.tmp 40),none⟩,
  ⟨(some 41),.extract (.tmp 36) 0,none⟩,
  ⟨(some 42),.extract (.tmp 36) 1,none⟩,
  ⟨(some 7),.mov (.tmp 41),none⟩,
  ⟨(some 5),.mov (.tmp 42),none⟩])
 (.seq (.seq (.ops [⟨(some 43),.mov (.tmp 5),none⟩,
  ⟨(some 44),.bin .neq (.tmp 43) (.con (.int .i64 0)),none⟩])
 (.cond (.tmp 44)
 (.seq (.ops [⟨(some 2),.mov (.con .nilPtr),none⟩,
  ⟨(some 3),.mov (.con (.int .i64 1)),none⟩])
 .ret)
 .skip))
 (.seq (.ops [⟨(some 45),.mov (.tmp 4),none⟩,
  ⟨(some 46),.mov (.tmp 6),none⟩,
  ⟨(some 47),.fieldAddr 5 (.tmp 1),none⟩,
  ⟨(some 48),.load false 1 (.tmp 47),none⟩,
  ⟨(some 49),.mov (.tmp 7),none⟩,
  ⟨(some 50),.build [.nilPtr,.nilPtr,(.int .i64 0),(.int .i64 0),(.int .i64 0)] [(0,1,(.tmp 45)),(1,1,(.tmp 46)),(2,1,(.tmp 48)),(3,1,(.tmp 49)),(4,1,(.con (.int .i64 (-1))))],none⟩,
  ⟨(some 51),.box (.tmp 50),none⟩,
  ⟨(some 2),.mov (.tmp 51),none⟩,
  ⟨(some 3),.mov (.con (.int .i64 0)),none⟩])
 .ret))))))))
def a45 : AFunc:=⟨1,c45,[.tmp 2,.tmp 3]⟩
theorem k45 : cFunc Tryz.prog Tryz.f45=some a45:=by kernel_rfl
/- 46: tendril/pool.New -/
def c46 : ACode:=(.seq (.ops [⟨(some 2),.mov (.con .nilPtr),none⟩,
  ⟨(some 3),.mov (.con (.int .i64 0)),none⟩])
 (.seq (.seq (.ops [⟨(some 4),.mov (.tmp 0),none⟩,
  ⟨(some 5),.bin .lss (.tmp 4) (.con (.int .i64 0)),none⟩,
  ⟨(some 6),.mov (.tmp 5),none⟩,
  ⟨(some 7),.mov (.tmp 0),(some (6,false))⟩,
  ⟨(some 8),.bin .gtr (.tmp 7) (.con (.int .i64 65535)),(some (6,false))⟩,
  ⟨(some 9),.pick (.tmp 6) (.con (.bool true)) (.tmp 8),none⟩])
 (.cond (.tmp 9)
 (.seq (.ops [⟨(some 2),.mov (.con .nilPtr),none⟩,
  ⟨(some 3),.mov (.con (.int .i64 1)),none⟩])
 .ret)
 .skip))
 (.seq (.ops [⟨(some 10),.mov (.tmp 0),none⟩,
  ⟨(some 11),.mkMap,none⟩,
  ⟨(some 12),.build [(.int .i64 0),.nilSlice,.nilMap] [(0,1,(.tmp 10)),(2,1,(.tmp 11))],none⟩,
  ⟨(some 13),.box (.tmp 12),none⟩,
  ⟨(some 2),.mov (.tmp 13),none⟩,
  ⟨(some 3),.mov (.con (.int .i64 0)),none⟩])
 .ret)))
def a46 : AFunc:=⟨1,c46,[.tmp 2,.tmp 3]⟩
theorem k46 : cFunc Tryz.prog Tryz.f46=some a46:=by kernel_rfl
/- 47: (*tendril/pool.Pool).Put -/
def c47 : ACode:=(.seq (.ops [⟨(some 4),.mov (.con (.bool false)),none⟩])
 (.seq (.seq (.ops [⟨(some 5),.mov (.tmp 1),none⟩,
  ⟨(some 6),.bin .lss (.tmp 5) (.con (.int .i64 0)),none⟩,
  ⟨(some 7),.mov (.tmp 6),none⟩,
  ⟨(some 8),.mov (.tmp 1),(some (7,false))⟩,
  ⟨(some 9),.mov (.tmp 0),(some (7,false))⟩,
  ⟨(some 10),.nilChk (.tmp 9),(some (7,false))⟩,
  ⟨(some 11),.fieldAddr 0 (.tmp 10),(some (7,false))⟩,
  ⟨(some 12),.load false 1 (.tmp 11),(some (7,false))⟩,
  ⟨(some 13),.bin .geq (.tmp 8) (.tmp 12),(some (7,false))⟩,
  ⟨(some 14),.pick (.tmp 7) (.con (.bool true)) (.tmp 13),none⟩,
  ⟨(some 15),.mov (.tmp 14),none⟩,
  ⟨(some 16),.mov (.tmp 0),(some (15,false))⟩,
  ⟨(some 17),.mov (.tmp 1),(some (15,false))⟩,
  ⟨(some 18),.call 86 [(.tmp 16),(.tmp 17)],(some (15,false))⟩,
  ⟨(some 19),.pick (.tmp 15) (.con (.bool true)) (.tmp 18),none⟩])
 (.cond (.tmp 19)
 (.seq (.ops [⟨(some 4),.mov (.con (.bool false)),none⟩])
 .ret)
 .skip))
 (.seq (.ops [⟨(some 20),.mov (.tmp 0),none⟩,
  ⟨(some 21),.nilChk (.tmp 20),none⟩,
  ⟨(some 22),.fieldAddr 2 (.tmp 21),none⟩,
  ⟨(some 23),.load false 1 (.tmp 22),none⟩,
  ⟨(some 24),.mov (.tmp 1),none⟩,
  ⟨(some 25),.build [] [],none⟩,
  ⟨none,.mapUpd 0 (.tmp 23) (.tmp 24) (.tmp 25),none⟩])
 (.seq (.ops [⟨(some 26),.mov (.tmp 0),none⟩,
  ⟨(some 27),.nilChk (.tmp 26),none⟩,
  ⟨(some 28),.fieldAddr 1 (.tmp 27),none⟩,
  ⟨(some 29),.mkIface 151 (.tmp 28),none⟩,
  ⟨(some 30),.mov (.tmp 1),none⟩,
  ⟨(some 31),.mkIface 3 (.tmp 30),none⟩,
  ⟨(some 32),.call 87 [(.tmp 29),(.tmp 31)],none⟩])
 (.seq (.ops [⟨(some 4),.mov (.con (.bool true)),none⟩])
 .ret)))))
def a47 : AFunc:=⟨2,c47,[.tmp 4]⟩
theorem k47 : cFunc Tryz.prog Tryz.f47=some a47:=by kernel_rfl
/- 48: tendril/docs.words -/
def c48 : ACode:=(.seq (.ops [⟨(some 4),.mov (.con .nilSlice),none⟩,
  ⟨(some 5),.mov (.con (.int .i64 0)),none⟩])
 (.seq (.seq (.ops [⟨(some 6),.mov (.tmp 0),none⟩,
  ⟨(some 7),.bin .lss (.tmp 6) (.con (.int .i64 0)),none⟩,
  ⟨(some 8),.mov (.tmp 7),none⟩,
  ⟨(some 9),.mov (.tmp 0),(some (8,false))⟩,
  ⟨(some 10),.bin .gtr (.tmp 9) (.con (.int .i64 1073741824)),(some (8,false))⟩,
  ⟨(some 11),.pick (.tmp 8) (.con (.bool true)) (.tmp 10),none⟩])
 (.cond (.tmp 11)
 (.seq (.ops [⟨(some 4),.mov (.con .nilSlice),none⟩,
  ⟨(some 5),.mov (.con (.int .i64 1)),none⟩])
 .ret)
 .skip))
 (.seq (.ops [⟨(some 12),.mov (.tmp 1),none⟩,
  ⟨(some 13),.call 63 [(.tmp 12)],none⟩,
  ⟨(some 14),.extract (.tmp 13) 0,none⟩,
  ⟨(some 15),.extract (.tmp 13) 1,none⟩,
  ⟨(some 4),.mov (.tmp 14),none⟩,
  ⟨(some 5),.mov (.tmp 15),none⟩])
 .ret)))
def a48 : AFunc:=⟨2,c48,[.tmp 4,.tmp 5]⟩
theorem k48 : cFunc Tryz.prog Tryz.f48=some a48:=by kernel_rfl
/- 49: (*tendril/docs.Index).find -/
def c49 : ACode:=(.seq (.ops [⟨(some 4),.mov (.con (.int .i64 0)),none⟩,
  ⟨(some 5),.mov (.con (.bool false)),none⟩])
 (.seq (.ops [⟨(some 6),.mov (.tmp 0),none⟩,
  ⟨(some 7),.nilChk (.tmp 6),none⟩,
  ⟨(some 8),.fieldAddr 9 (.tmp 7),none⟩,
  ⟨(some 9),.load false 1 (.tmp 8),none⟩,
  ⟨(some 10),.mov (.tmp 1),none⟩,
  ⟨(some 11),.call 88 [(.tmp 9),(.tmp 10),(.con (.func (.func 89) [] []))],none⟩,
  ⟨(some 12),.extract (.tmp 11) 0,none⟩,
  ⟨(some 13),.extract (.tmp 11) 1,none⟩,
  ⟨(some 4),.mov (.tmp 12),none⟩,
  ⟨(some 5),.mov (.tmp 13),none⟩])
 .ret))
def a49 : AFunc:=⟨2,c49,[.tmp 4,.tmp 5]⟩
theorem k49 : cFunc Tryz.prog Tryz.f49=some a49:=by kernel_rfl
/- 50: (*tendril/docs.Index).room -/
def c50l0 : ACode:=(.seq (.ops [⟨(some 10),.bin .lss (.tmp 9) (.tmp 8),none⟩])
 (.seq (.cond (.tmp 10)
 .skip
 (.exit 0))
 (.seq (.block 1 (.seq (.ops [⟨(some 11),.idxAddr 1 (.tmp 7) (.tmp 9),none⟩,
  ⟨(some 12),.load false 1 (.tmp 11),none⟩,
  ⟨(some 6),.mov (.tmp 12),none⟩])
 (.seq (.ops [⟨(some 13),.mov (.tmp 0),none⟩,
  ⟨(some 14),.nilChk (.tmp 13),none⟩,
  ⟨(some 15),.fieldAddr 8 (.tmp 14),none⟩,
  ⟨(some 16),.load false 1 (.tmp 15),none⟩,
  ⟨(some 17),.mov (.tmp 6),none⟩,
  ⟨(some 18),.call 28 [(.tmp 16),(.tmp 17)],none⟩,
  ⟨(some 19),.mov (.tmp 1),none⟩,
  ⟨(some 20),.bin .add (.tmp 19) (.con (.int .i64 2)),none⟩,
  ⟨(some 21),.bin .lss (.tmp 18) (.tmp 20),none⟩])
 (.cond (.tmp 21)
 (.seq (.ops [⟨(some 4),.mov (.con (.bool false)),none⟩])
 .ret)
 .skip))))
 (.ops [⟨(some 22),.bin .add (.tmp 9) (.con (.int .i64 1)),none⟩,
  ⟨(some 9),.mov (.tmp 22),none⟩]))))
def c50 : ACode:=(.seq (.ops [⟨(some 4),.mov (.con (.bool false)),none⟩])
 (.seq (.seq (.ops [⟨(some 7),.buildSlice 1 4 [(.int .i64 0),(.int .i64 0),(.int .i64 0),(.int .i64 0)] [(0,1,(.con (.int .i64 0))),(1,1,(.con (.int .i64 1))),(2,1,(.con (.int .i64 2))),(3,1,(.con (.int .i64 3)))],none⟩,
  ⟨(some 8),.lenSlice (.tmp 7),none⟩,
  ⟨(some 9),.mov (.con (.int .i64 0)),none⟩])
 (.block 0 (.loop c50l0)))
 (.seq (.ops [⟨(some 4),.mov (.con (.bool true)),none⟩])
 .ret)))
def a50 : AFunc:=⟨2,c50,[.tmp 4]⟩
theorem k50 : cFunc Tryz.prog Tryz.f50=some a50:=by kernel_rfl
/- 51: (*tendril/docs.Index).add -/
def c51 : ACode:=(.seq (.ops [⟨(some 9),.mov (.tmp 0),none⟩,
  ⟨(some 10),.mov (.tmp 1),none⟩,
  ⟨(some 11),.call 90 [(.tmp 9),(.tmp 10)],none⟩,
  ⟨(some 8),.mov (.tmp 11),none⟩,
  ⟨(some 12),.extract (.tmp 8) 0,none⟩,
  ⟨(some 13),.extract (.tmp 8) 1,none⟩,
  ⟨(some 6),.mov (.tmp 12),none⟩,
  ⟨(some 7),.mov (.tmp 13),none⟩])
 (.seq (.seq (.ops [⟨(some 14),.mov (.tmp 7),none⟩,
  ⟨(some 15),.un .not (.tmp 14),none⟩])
 (.cond (.tmp 15)
 (.seq (.ops [⟨(some 17),.mov (.tmp 0),none⟩,
  ⟨(some 18),.nilChk (.tmp 17),none⟩,
  ⟨(some 19),.fieldAddr 11 (.tmp 18),none⟩,
  ⟨(some 20),.load false 1 (.tmp 19),none⟩,
  ⟨(some 21),.call 91 [(.tmp 20)],none⟩,
  ⟨(some 16),.mov (.tmp 21),none⟩,
  ⟨(some 22),.extract (.tmp 16) 0,none⟩,
  ⟨(some 23),.extract (.tmp 16) 1,none⟩,
  ⟨(some 6),.mov (.tmp 22),none⟩])
 (.ops [⟨(some 24),.mov (.tmp 0),none⟩,
  ⟨(some 25),.mov (.tmp 1),none⟩,
  ⟨(some 26),.mov (.tmp 6),none⟩,
  ⟨(some 27),.call 92 [(.tmp 24),(.tmp 25),(.tmp 26)],none⟩]))
 .skip))
 (.draw [.op ⟨(some 29),.mov (.tmp 0),none⟩,
  .op ⟨(some 30),.nilChk (.tmp 29),none⟩,
  .op ⟨(some 31),.fieldAddr 10 (.tmp 30),none⟩,
  .op ⟨(some 32),.load false 1 (.tmp 31),none⟩,
  .op ⟨(some 33),.mov (.tmp 6),none⟩,
  .op ⟨(some 34),.mov (.tmp 0),none⟩,
  .op ⟨(some 35),.nilChk (.tmp 34),none⟩,
  .op ⟨(some 36),.fieldAddr 10 (.tmp 35),none⟩,
  .op ⟨(some 37),.load false 1 (.tmp 36),none⟩,
  .op ⟨(some 38),.mov (.tmp 6),none⟩,
  .op ⟨(some 39),.lookup 0 (.agg [.nilSlice]) false (.tmp 37) (.tmp 38),none⟩,
  .op ⟨(some 40),.mov (.tmp 2),none⟩,
  .op ⟨(some 41),.call 93 [(.tmp 39),(.tmp 40)],none⟩,
  .op ⟨(some 28),.mov (.tmp 41),none⟩,
  .op ⟨(some 42),.extract (.tmp 28) 0,none⟩,
  .op ⟨(some 43),.extract (.tmp 28) 1,none⟩,
  .look ⟨(some 32),.load false 1 (.tmp 31),none⟩,
  .op ⟨none,.mapUpd 0 (.tmp 32) (.tmp 33) (.tmp 42),none⟩])))
def a51 : AFunc:=⟨3,c51,[]⟩
theorem k51 : cFunc Tryz.prog Tryz.f51=some a51:=by kernel_rfl
/- 52: slices.Insert[[]tendril/api.Doc,tendril/api.Doc] -/
def c52 : ACode:=(.seq (.ops [⟨(some 6),.mov (.con .nilSlice),none⟩])
 (.seq (.ops [⟨(some 10),.mov (.tmp 0),none⟩,
  ⟨(some 11),.mov (.tmp 1),none⟩,
  ⟨(some 12),.slc 2 (.tmp 10) (some (.tmp 11)) none none,none⟩])
 (.seq (.ops [⟨(some 13),.mov (.tmp 2),none⟩,
  ⟨(some 14),.lenSlice (.tmp 13),none⟩,
  ⟨(some 7),.mov (.tmp 14),none⟩])
 (.seq (.seq (.ops [⟨(some 15),.mov (.tmp 7),none⟩,
  ⟨(some 16),.bin .eql (.tmp 15) (.con (.int .i64 0)),none⟩])
 (.cond (.tmp 16)
 (.seq (.ops [⟨(some 17),.mov (.tmp 0),none⟩,
  ⟨(some 6),.mov (.tmp 17),none⟩])
 .ret)
 .skip))
 (.seq (.ops [⟨(some 18),.mov (.tmp 0),none⟩,
  ⟨(some 19),.lenSlice (.tmp 18),none⟩,
  ⟨(some 8),.mov (.tmp 19),none⟩])
 (.seq (.seq (.ops [⟨(some 20),.mov (.tmp 1),none⟩,
  ⟨(some 21),.mov (.tmp 8),none⟩,
  ⟨(some 22),.bin .eql (.tmp 20) (.tmp 21),none⟩])
 (.cond (.tmp 22)
 (.seq (.ops [⟨(some 23),.mov (.tmp 0),none⟩,
  ⟨(some 24),.mov (.tmp 2),none⟩,
  ⟨(some 25),.append 2 24 (.tmp 23) (.tmp 24),none⟩,
  ⟨(some 6),.mov (.tmp 25),none⟩])
 .ret)
 .skip))
 (.seq (.seq (.ops [⟨(some 26),.mov (.tmp 8),none⟩,
  ⟨(some 27),.mov (.tmp 7),none⟩,
  ⟨(some 28),.bin .add (.tmp 26) (.tmp 27),none⟩,
  ⟨(some 29),.mov (.tmp 0),none⟩,
  ⟨(some 30),.capSlice (.tmp 29),none⟩,
  ⟨(some 31),.bin .gtr (.tmp 28) (.tmp 30),none⟩])
 (.cond (.tmp 31)
 (.seq (.ops [⟨(some 32),.mov (.tmp 0),none⟩,
  ⟨(some 33),.mov (.tmp 1),none⟩,
  ⟨(some 34),.slc 2 (.tmp 32) none (some (.tmp 33)) none,none⟩,
  ⟨(some 35),.mov (.tmp 8),none⟩,
  ⟨(some 36),.mov (.tmp 7),none⟩,
  ⟨(some 37),.bin .add (.tmp 35) (.tmp 36),none⟩,
  ⟨(some 38),.mov (.tmp 1),none⟩,
  ⟨(some 39),.bin .sub (.tmp 37) (.tmp 38),none⟩,
  ⟨(some 40),.appendZ 2 24 [(.int .i64 0),(.str [])] (.tmp 34) (.tmp 39),none⟩,
  ⟨(some 9),.mov (.tmp 40),none⟩])
 (.seq (.ops [⟨(some 41),.mov (.tmp 9),none⟩,
  ⟨(some 42),.mov (.tmp 1),none⟩,
  ⟨(some 43),.slc 2 (.tmp 41) (some (.tmp 42)) none none,none⟩,
  ⟨(some 44),.mov (.tmp 2),none⟩,
  ⟨(some 45),.copy 2 (.tmp 43) (.tmp 44),none⟩])
 (.seq (.ops [⟨(some 46),.mov (.tmp 9),none⟩,
  ⟨(some 47),.mov (.tmp 1),none⟩,
  ⟨(some 48),.mov (.tmp 7),none⟩,
  ⟨(some 49),.bin .add (.tmp 47) (.tmp 48),none⟩,
  ⟨(some 50),.slc 2 (.tmp 46) (some (.tmp 49)) none none,none⟩,
  ⟨(some 51),.mov (.tmp 0),none⟩,
  ⟨(some 52),.mov (.tmp 1),none⟩,
  ⟨(some 53),.slc 2 (.tmp 51) (some (.tmp 52)) none none,none⟩,
  ⟨(some 54),.copy 2 (.tmp 50) (.tmp 53),none⟩])
 (.seq (.ops [⟨(some 55),.mov (.tmp 9),none⟩,
  ⟨(some 6),.mov (.tmp 55),none⟩])
 .ret))))
 .skip))
 (.seq (.ops [⟨(some 56),.mov (.tmp 0),none⟩,
  ⟨(some 57),.mov (.tmp 8),none⟩,
  ⟨(some 58),.mov (.tmp 7),none⟩,
  ⟨(some 59),.bin .add (.tmp 57) (.tmp 58),none⟩,
  ⟨(some 60),.slc 2 (.tmp 56) none (some (.tmp 59)) none,none⟩,
  ⟨(some 0),.mov (.tmp 60),none⟩])
 (.seq (.seq (.ops [⟨(some 61),.mov (.tmp 2),none⟩,
  ⟨(some 62),.mov (.tmp 0),none⟩,
  ⟨(some 63),.mov (.tmp 1),none⟩,
  ⟨(some 64),.mov (.tmp 7),none⟩,
  ⟨(some 65),.bin .add (.tmp 63) (.tmp 64),none⟩,
  ⟨(some 66),.slc 2 (.tmp 62) (some (.tmp 65)) none none,none⟩,
  ⟨(some 67),.call 94 [(.tmp 61),(.tmp 66)],none⟩,
  ⟨(some 68),.un .not (.tmp 67),none⟩])
 (.cond (.tmp 68)
 (.seq (.ops [⟨(some 69),.mov (.tmp 0),none⟩,
  ⟨(some 70),.mov (.tmp 1),none⟩,
  ⟨(some 71),.mov (.tmp 7),none⟩,
  ⟨(some 72),.bin .add (.tmp 70) (.tmp 71),none⟩,
  ⟨(some 73),.slc 2 (.tmp 69) (some (.tmp 72)) none none,none⟩,
  ⟨(some 74),.mov (.tmp 0),none⟩,
  ⟨(some 75),.mov (.tmp 1),none⟩,
  ⟨(some 76),.slc 2 (.tmp 74) (some (.tmp 75)) none none,none⟩,
  ⟨(some 77),.copy 2 (.tmp 73) (.tmp 76),none⟩])
 (.seq (.ops [⟨(some 78),.mov (.tmp 0),none⟩,
  ⟨(some 79),.mov (.tmp 1),none⟩,
  ⟨(some 80),.slc 2 (.tmp 78) (some (.tmp 79)) none none,none⟩,
  ⟨(some 81),.mov (.tmp 2),none⟩,
  ⟨(some 82),.copy 2 (.tmp 80) (.tmp 81),none⟩])
 (.seq (.ops [⟨(some 83),.mov (.tmp 0),none⟩,
  ⟨(some 6),.mov (.tmp 83),none⟩])
 .ret)))
 .skip))
 (.seq (.ops [⟨(some 84),.mov (.tmp 0),none⟩,
  ⟨(some 85),.mov (.tmp 8),none⟩,
  ⟨(some 86),.slc 2 (.tmp 84) (some (.tmp 85)) none none,none⟩,
  ⟨(some 87),.mov (.tmp 2),none⟩,
  ⟨(some 88),.copy 2 (.tmp 86) (.tmp 87),none⟩])
 (.seq (.ops [⟨(some 89),.mov (.tmp 0),none⟩,
  ⟨(some 90),.mov (.tmp 1),none⟩,
  ⟨(some 91),.slc 2 (.tmp 89) (some (.tmp 90)) none none,none⟩,
  ⟨(some 92),.mov (.tmp 7),none⟩,
  ⟨(some 93),.call 95 [(.tmp 91),(.tmp 92)],none⟩])
 (.seq (.ops [⟨(some 94),.mov (.tmp 0),none⟩,
  ⟨(some 6),.mov (.tmp 94),none⟩])
 .ret))))))))))))
def a52 : AFunc:=⟨3,c52,[.tmp 6]⟩
theorem k52 : cFunc Tryz.prog Tryz.f52=some a52:=by kernel_rfl
/- 42: tendril/term.Right -/
def c42 : ACode:=(.seq (.ops [⟨(some 2),.mov (.con (.bool false)),none⟩])
 (.seq (.ops [⟨(some 3),.mov (.tmp 0),none⟩,
  ⟨(some 4),.bin .neq (.tmp 3) (.con (.str [])),none⟩,
  ⟨(some 5),.mov (.tmp 4),none⟩,
  ⟨(some 6),.mov (.tmp 0),(some (5,true))⟩,
  ⟨(some 7),.lenStr (.tmp 6),(some (5,true))⟩,
  ⟨(some 8),.bin .leq (.tmp 7) (.con (.int .i64 12)),(some (5,true))⟩,
  ⟨(some 9),.pick (.tmp 5) (.tmp 8) (.con (.bool false)),none⟩,
  ⟨(some 10),.mov (.tmp 9),none⟩,
  ⟨(some 11),.mov (.tmp 0),(some (10,true))⟩,
  ⟨(some 12),.call 78 [(.tmp 11),(.con (.int .u8 0))],(some (10,true))⟩,
  ⟨(some 13),.bin .lss (.tmp 12) (.con (.int .i64 0)),(some (10,true))⟩,
  ⟨(some 14),.pick (.tmp 10) (.tmp 13) (.con (.bool false)),none⟩,
  ⟨(some 2),.mov (.tmp 14),none⟩])
 .ret))
def a42 : AFunc:=⟨1,c42,[.tmp 2]⟩
theorem k42 : cFunc Tryz.prog Tryz.f42=some a42:=by kernel_rfl
/- 53: (*tendril/docs.Index).ids -/
def c53 : ACode:=(.seq (.ops [⟨(some 4),.mov (.con .nilSlice),none⟩])
 (.seq (.ops [⟨(some 8),.mov (.tmp 0),none⟩,
  ⟨(some 9),.mov (.tmp 1),none⟩,
  ⟨(some 10),.call 90 [(.tmp 8),(.tmp 9)],none⟩,
  ⟨(some 7),.mov (.tmp 10),none⟩,
  ⟨(some 11),.extract (.tmp 7) 0,none⟩,
  ⟨(some 12),.extract (.tmp 7) 1,none⟩,
  ⟨(some 5),.mov (.tmp 11),none⟩,
  ⟨(some 6),.mov (.tmp 12),none⟩])
 (.seq (.seq (.ops [⟨(some 13),.mov (.tmp 6),none⟩,
  ⟨(some 14),.un .not (.tmp 13),none⟩])
 (.cond (.tmp 14)
 (.seq (.ops [⟨(some 4),.mov (.con .nilSlice),none⟩])
 .ret)
 .skip))
 (.seq (.ops [⟨(some 15),.mov (.tmp 0),none⟩,
  ⟨(some 16),.nilChk (.tmp 15),none⟩,
  ⟨(some 17),.fieldAddr 10 (.tmp 16),none⟩,
  ⟨(some 18),.load false 1 (.tmp 17),none⟩,
  ⟨(some 19),.mov (.tmp 5),none⟩,
  ⟨(some 20),.lookup 0 (.agg [.nilSlice]) false (.tmp 18) (.tmp 19),none⟩,
  ⟨(some 21),.call 96 [(.tmp 20)],none⟩,
  ⟨(some 4),.mov (.tmp 21),none⟩])
 .ret))))
def a53 : AFunc:=⟨2,c53,[.tmp 4]⟩
theorem k53 : cFunc Tryz.prog Tryz.f53=some a53:=by kernel_rfl
/- 54: tendril/query.Parse -/
def c54 : ACode:=(.seq (.ops [⟨(some 2),.mov (.con .nilSlice),none⟩,
  ⟨(some 3),.mov (.con (.int .i64 0)),none⟩])
 (.seq (.seq (.ops [⟨(some 7),.mov (.tmp 0),none⟩,
  ⟨(some 8),.lenStr (.tmp 7),none⟩,
  ⟨(some 9),.bin .gtr (.tmp 8) (.con (.int .i64 512)),none⟩])
 (.cond (.tmp 9)
 (.seq (.ops [⟨(some 2),.mov (.con .nilSlice),none⟩,
  ⟨(some 3),.mov (.con (.int .i64 11)),none⟩])
 .ret)
 .skip))
 (.seq (.ops [⟨(some 10),.mov (.tmp 0),none⟩,
  ⟨(some 11),.build [(.str []),(.int .i64 0),.nilSlice,(.int .i64 0)] [(0,1,(.tmp 10))],none⟩,
  ⟨(some 12),.box (.tmp 11),none⟩,
  ⟨(some 4),.mov (.tmp 12),none⟩])
 (.seq (.ops [⟨(some 13),.mov (.tmp 4),none⟩,
  ⟨(some 14),.call 97 [(.tmp 13)],none⟩])
 (.seq (.seq (.ops [⟨(some 16),.mov (.tmp 4),none⟩,
  ⟨(some 17),.call 98 [(.tmp 16)],none⟩,
  ⟨(some 15),.mov (.tmp 17),none⟩,
  ⟨(some 18),.extract (.tmp 15) 0,none⟩,
  ⟨(some 19),.extract (.tmp 15) 1,none⟩,
  ⟨(some 5),.mov (.tmp 18),none⟩,
  ⟨(some 6),.mov (.tmp 19),none⟩])
 (.seq (.ops [⟨(some 20),.mov (.tmp 6),none⟩])
 (.cond (.tmp 20)
 (.ops [⟨(some 21),.mov (.tmp 4),none⟩,
  ⟨(some 22),.call 99 [(.tmp 21),(.con (.int .i64 7))],none⟩])
 .skip)))
 (.seq (.seq (.ops [⟨(some 23),.mov (.tmp 4),none⟩,
  ⟨(some 24),.nilChk (.tmp 23),none⟩,
  ⟨(some 25),.fieldAddr 3 (.tmp 24),none⟩,
  ⟨(some 26),.load false 1 (.tmp 25),none⟩,
  ⟨(some 27),.bin .neq (.tmp 26) (.con (.int .i64 0)),none⟩])
 (.cond (.tmp 27)
 (.seq (.ops [⟨(some 28),.mov (.tmp 4),none⟩,
  ⟨(some 29),.nilChk (.tmp 28),none⟩,
  ⟨(some 30),.fieldAddr 3 (.tmp 29),none⟩,
  ⟨(some 31),.load false 1 (.tmp 30),none⟩,
  ⟨(some 2),.mov (.con .nilSlice),none⟩,
  ⟨(some 3),.mov (.tmp 31),none⟩])
 .ret)
 .skip))
 (.seq (.ops [⟨(some 32),.mov (.tmp 4),none⟩,
  ⟨(some 33),.nilChk (.tmp 32),none⟩,
  ⟨(some 34),.fieldAddr 2 (.tmp 33),none⟩,
  ⟨(some 35),.load false 1 (.tmp 34),none⟩,
  ⟨(some 2),.mov (.tmp 35),none⟩,
  ⟨(some 3),.mov (.con (.int .i64 0)),none⟩])
 .ret)))))))
def a54 : AFunc:=⟨1,c54,[.tmp 2,.tmp 3]⟩
theorem k54 : cFunc Tryz.prog Tryz.f54=some a54:=by kernel_rfl
/- 55: tendril/query.Terms -/
def c55l0 : ACode:=(.seq (.ops [⟨(some 9),.bin .lss (.tmp 8) (.tmp 7),none⟩])
 (.seq (.cond (.tmp 9)
 .skip
 (.exit 0))
 (.seq (.block 1 (.seq (.ops [⟨(some 10),.idxAddr 2 (.tmp 6) (.tmp 8),none⟩,
  ⟨(some 11),.load true 2 (.tmp 10),none⟩,
  ⟨(some 5),.new [(.int .i64 0),(.str [])],none⟩,
  ⟨none,.store 2 (.tmp 5) (.tmp 11),none⟩])
 (.seq (.ops [⟨(some 12),.fieldAddr 0 (.tmp 5),none⟩,
  ⟨(some 13),.load false 1 (.tmp 12),none⟩,
  ⟨(some 14),.bin .eql (.tmp 13) (.con (.int .i64 1)),none⟩])
 (.cond (.tmp 14)
 (.ops [⟨(some 15),.mov (.tmp 3),none⟩,
  ⟨(some 16),.fieldAddr 1 (.tmp 5),none⟩,
  ⟨(some 17),.load false 1 (.tmp 16),none⟩,
  ⟨(some 18),.buildSlice 1 1 [(.str [])] [(0,1,(.tmp 17))],none⟩,
  ⟨(some 19),.append 1 16 (.tmp 15) (.tmp 18),none⟩,
  ⟨(some 3),.mov (.tmp 19),none⟩])
 .skip))))
 (.ops [⟨(some 20),.bin .add (.tmp 8) (.con (.int .i64 1)),none⟩,
  ⟨(some 8),.mov (.tmp 20),none⟩]))))
def c55 : ACode:=(.seq (.ops [⟨(some 2),.mov (.con .nilSlice),none⟩])
 (.seq (.ops [⟨(some 3),.mov (.con .nilSlice),none⟩])
 (.seq (.seq (.ops [⟨(some 6),.mov (.tmp 0),none⟩,
  ⟨(some 7),.lenSlice (.tmp 6),none⟩,
  ⟨(some 8),.mov (.con (.int .i64 0)),none⟩])
 (.block 0 (.loop c55l0)))
 (.seq (.ops [⟨(some 21),.mov (.tmp 3),none⟩,
  ⟨(some 2),.mov (.tmp 21),none⟩])
 .ret))))
def a55 : AFunc:=⟨1,c55,[.tmp 2]⟩
theorem k55 : cFunc Tryz.prog Tryz.f55=some a55:=by kernel_rfl
/- 26: tendril/merge.Union -/
def c26l0 : ACode:=(.seq (.seq (.ops [⟨(some 7),.mov (.tmp 4),none⟩,
  ⟨(some 8),.nilChk (.tmp 7),none⟩,
  ⟨(some 9),.load false 1 (.tmp 8),none⟩,
  ⟨(some 10),.call 70 [(.tmp 9)],none⟩,
  ⟨(some 11),.bin .gtr (.tmp 10) (.con (.int .i64 0)),none⟩])
 (.cond (.tmp 11)
 .skip
 (.exit 0)))
 (.block 1 (.ops [⟨(some 12),.mov (.tmp 3),none⟩,
  ⟨(some 13),.mov (.tmp 4),none⟩,
  ⟨(some 14),.call 71 [(.tmp 13)],none⟩,
  ⟨(some 15),.buildSlice 1 1 [(.int .i64 0)] [(0,1,(.tmp 14))],none⟩,
  ⟨(some 16),.append 1 8 (.tmp 12) (.tmp 15),none⟩,
  ⟨(some 3),.mov (.tmp 16),none⟩])))
def c26 : ACode:=(.seq (.ops [⟨(some 2),.mov (.con .nilSlice),none⟩])
 (.seq (.ops [⟨(some 3),.mov (.con .nilSlice),none⟩])
 (.seq (.seq (.ops [⟨(some 5),.mov (.tmp 0),none⟩,
  ⟨(some 6),.call 69 [(.tmp 5)],none⟩,
  ⟨(some 4),.mov (.tmp 6),none⟩])
 (.block 0 (.loop c26l0)))
 (.seq (.ops [⟨(some 17),.mov (.tmp 3),none⟩,
  ⟨(some 2),.mov (.tmp 17),none⟩])
 .ret))))
def a26 : AFunc:=⟨1,c26,[.tmp 2]⟩
theorem k26 : cFunc Tryz.prog Tryz.f26=some a26:=by kernel_rfl
/- 56: tendril/query.Eval -/
def c56l0 : ACode:=(.seq (.ops [⟨(some 21),.bin .lss (.tmp 20) (.tmp 19),none⟩])
 (.seq (.cond (.tmp 21)
 .skip
 (.exit 0))
 (.seq (.block 1 (.seq (.ops [⟨(some 22),.idxAddr 2 (.tmp 18) (.tmp 20),none⟩,
  ⟨(some 23),.load true 2 (.tmp 22),none⟩,
  ⟨(some 10),.new [(.int .i64 0),(.str [])],none⟩,
  ⟨none,.store 2 (.tmp 10) (.tmp 23),none⟩])
 (.seq (.ops [⟨(some 24),.mov (.tmp 8),none⟩,
  ⟨(some 25),.lenSlice (.tmp 24),none⟩,
  ⟨(some 11),.mov (.tmp 25),none⟩])
 (.seq (.ops [⟨(some 26),.fieldAddr 0 (.tmp 10),none⟩,
  ⟨(some 27),.load false 1 (.tmp 26),none⟩])
 (.block 2 (.seq (.ops [⟨(some 29),.bin .eql (.tmp 27) (.con (.int .i64 1)),none⟩,
  ⟨(some 28),.mov (.tmp 29),none⟩])
 (.cond (.tmp 28)
 (.seq (.ops [⟨(some 12),.mov (.con .nilSlice),none⟩])
 (.seq (.seq (.ops [⟨(some 30),.mov (.tmp 1),none⟩,
  ⟨(some 31),.lenSlice (.tmp 30),none⟩,
  ⟨(some 32),.bin .gtr (.tmp 31) (.con (.int .i64 0)),none⟩])
 (.cond (.tmp 32)
 (.ops [⟨(some 33),.mov (.tmp 1),none⟩,
  ⟨(some 34),.idxAddr 1 (.tmp 33) (.con (.int .i64 0)),none⟩,
  ⟨(some 35),.load false 1 (.tmp 34),none⟩,
  ⟨(some 36),.mov (.tmp 1),none⟩,
  ⟨(some 37),.slc 1 (.tmp 36) (some (.con (.int .i64 1))) none none,none⟩,
  ⟨(some 12),.mov (.tmp 35),none⟩,
  ⟨(some 1),.mov (.tmp 37),none⟩])
 .skip))
 (.ops [⟨(some 38),.mov (.tmp 8),none⟩,
  ⟨(some 39),.mov (.tmp 7),none⟩,
  ⟨(some 40),.mov (.tmp 12),none⟩,
  ⟨(some 41),.call 101 [(.tmp 40)],none⟩,
  ⟨(some 42),.buildSlice 1 2 [.nilSlice,.nilSlice] [(0,1,(.tmp 39)),(1,1,(.tmp 41))],none⟩,
  ⟨(some 43),.call 25 [(.tmp 42)],none⟩,
  ⟨(some 44),.buildSlice 1 1 [.nilSlice] [(0,1,(.tmp 43))],none⟩,
  ⟨(some 45),.append 1 24 (.tmp 38) (.tmp 44),none⟩,
  ⟨(some 8),.mov (.tmp 45),none⟩])))
 (.seq (.ops [⟨(some 47),.bin .eql (.tmp 27) (.con (.int .i64 4)),none⟩,
  ⟨(some 46),.mov (.tmp 47),none⟩])
 (.cond (.tmp 46)
 (.ops [⟨(some 48),.mov (.tmp 8),none⟩,
  ⟨(some 49),.mov (.tmp 11),none⟩,
  ⟨(some 50),.bin .sub (.tmp 49) (.con (.int .i64 1)),none⟩,
  ⟨(some 51),.mov (.tmp 7),none⟩,
  ⟨(some 52),.mov (.tmp 8),none⟩,
  ⟨(some 53),.mov (.tmp 11),none⟩,
  ⟨(some 54),.bin .sub (.tmp 53) (.con (.int .i64 1)),none⟩,
  ⟨(some 55),.idxAddr 1 (.tmp 52) (.tmp 54),none⟩,
  ⟨(some 56),.load false 1 (.tmp 55),none⟩,
  ⟨(some 57),.call 27 [(.tmp 51),(.tmp 56)],none⟩,
  ⟨(some 58),.idxAddr 1 (.tmp 48) (.tmp 50),none⟩,
  ⟨none,.store 1 (.tmp 58) (.tmp 57),none⟩])
 (.seq (.ops [⟨(some 60),.bin .eql (.tmp 27) (.con (.int .i64 2)),none⟩,
  ⟨(some 59),.mov (.tmp 60),none⟩])
 (.cond (.tmp 59)
 (.draw [.op ⟨(some 61),.mov (.tmp 8),none⟩,
  .op ⟨(some 62),.mov (.tmp 11),none⟩,
  .op ⟨(some 63),.bin .sub (.tmp 62) (.con (.int .i64 2)),none⟩,
  .op ⟨(some 64),.slc 1 (.tmp 61) none (some (.tmp 63)) none,none⟩,
  .op ⟨(some 65),.mov (.tmp 8),none⟩,
  .op ⟨(some 66),.mov (.tmp 11),none⟩,
  .op ⟨(some 67),.bin .sub (.tmp 66) (.con (.int .i64 2)),none⟩,
  .op ⟨(some 68),.idxAddr 1 (.tmp 65) (.tmp 67),none⟩,
  .op ⟨(some 69),.load false 1 (.tmp 68),none⟩,
  .op ⟨(some 70),.mov (.tmp 8),none⟩,
  .op ⟨(some 71),.mov (.tmp 11),none⟩,
  .op ⟨(some 72),.bin .sub (.tmp 71) (.con (.int .i64 1)),none⟩,
  .op ⟨(some 73),.idxAddr 1 (.tmp 70) (.tmp 72),none⟩,
  .op ⟨(some 74),.load false 1 (.tmp 73),none⟩,
  .op ⟨(some 75),.buildSlice 1 2 [.nilSlice,.nilSlice] [(0,1,(.tmp 69)),(1,1,(.tmp 74))],none⟩,
  .look ⟨(some 69),.load false 1 (.tmp 68),none⟩,
  .look ⟨(some 74),.load false 1 (.tmp 73),none⟩,
  .look ⟨(some 75),.buildSlice 1 2 [.nilSlice,.nilSlice] [(0,1,(.tmp 69)),(1,1,(.tmp 74))],none⟩,
  .op ⟨(some 76),.call 25 [(.tmp 75)],none⟩,
  .op ⟨(some 77),.buildSlice 1 1 [.nilSlice] [(0,1,(.tmp 76))],none⟩,
  .look ⟨(some 77),.buildSlice 1 1 [.nilSlice] [(0,1,(.tmp 76))],none⟩,
  .op ⟨(some 78),.append 1 24 (.tmp 64) (.tmp 77),none⟩,
  .op ⟨(some 8),.mov (.tmp 78),none⟩])
 (.seq (.ops [⟨(some 80),.bin .eql (.tmp 27) (.con (.int .i64 3)),none⟩,
  ⟨(some 79),.mov (.tmp 80),none⟩])
 (.cond (.tmp 79)
 (.draw [.op ⟨(some 81),.mov (.tmp 8),none⟩,
  .op ⟨(some 82),.mov (.tmp 11),none⟩,
  .op ⟨(some 83),.bin .sub (.tmp 82) (.con (.int .i64 2)),none⟩,
  .op ⟨(some 84),.slc 1 (.tmp 81) none (some (.tmp 83)) none,none⟩,
  .op ⟨(some 85),.mov (.tmp 8),none⟩,
  .op ⟨(some 86),.mov (.tmp 11),none⟩,
  .op ⟨(some 87),.bin .sub (.tmp 86) (.con (.int .i64 2)),none⟩,
  .op ⟨(some 88),.idxAddr 1 (.tmp 85) (.tmp 87),none⟩,
  .op ⟨(some 89),.load false 1 (.tmp 88),none⟩,
  .op ⟨(some 90),.mov (.tmp 8),none⟩,
  .op ⟨(some 91),.mov (.tmp 11),none⟩,
  .op ⟨(some 92),.bin .sub (.tmp 91) (.con (.int .i64 1)),none⟩,
  .op ⟨(some 93),.idxAddr 1 (.tmp 90) (.tmp 92),none⟩,
  .op ⟨(some 94),.load false 1 (.tmp 93),none⟩,
  .op ⟨(some 95),.buildSlice 1 2 [.nilSlice,.nilSlice] [(0,1,(.tmp 89)),(1,1,(.tmp 94))],none⟩,
  .look ⟨(some 89),.load false 1 (.tmp 88),none⟩,
  .look ⟨(some 94),.load false 1 (.tmp 93),none⟩,
  .look ⟨(some 95),.buildSlice 1 2 [.nilSlice,.nilSlice] [(0,1,(.tmp 89)),(1,1,(.tmp 94))],none⟩,
  .op ⟨(some 96),.call 26 [(.tmp 95)],none⟩,
  .op ⟨(some 97),.buildSlice 1 1 [.nilSlice] [(0,1,(.tmp 96))],none⟩,
  .look ⟨(some 97),.buildSlice 1 1 [.nilSlice] [(0,1,(.tmp 96))],none⟩,
  .op ⟨(some 98),.append 1 24 (.tmp 84) (.tmp 97),none⟩,
  .op ⟨(some 8),.mov (.tmp 98),none⟩])
 .skip)))))))))))))
 (.ops [⟨(some 99),.bin .add (.tmp 20) (.con (.int .i64 1)),none⟩,
  ⟨(some 20),.mov (.tmp 99),none⟩]))))
def c56 : ACode:=(.seq (.ops [⟨(some 6),.mov (.con .nilSlice),none⟩])
 (.seq (.seq (.ops [⟨(some 13),.mov (.tmp 0),none⟩,
  ⟨(some 14),.call 100 [(.tmp 13)],none⟩,
  ⟨(some 15),.un .not (.tmp 14),none⟩])
 (.cond (.tmp 15)
 (.seq (.ops [⟨(some 6),.mov (.con .nilSlice),none⟩])
 .ret)
 .skip))
 (.seq (.ops [⟨(some 16),.mov (.tmp 2),none⟩,
  ⟨(some 17),.call 101 [(.tmp 16)],none⟩,
  ⟨(some 7),.mov (.tmp 17),none⟩])
 (.seq (.ops [⟨(some 8),.mov (.con .nilSlice),none⟩])
 (.seq (.seq (.ops [⟨(some 18),.mov (.tmp 0),none⟩,
  ⟨(some 19),.lenSlice (.tmp 18),none⟩,
  ⟨(some 20),.mov (.con (.int .i64 0)),none⟩])
 (.block 0 (.loop c56l0)))
 (.seq (.ops [⟨(some 100),.mov (.tmp 8),none⟩,
  ⟨(some 101),.idxAddr 1 (.tmp 100) (.con (.int .i64 0)),none⟩,
  ⟨(some 102),.load false 1 (.tmp 101),none⟩,
  ⟨(some 6),.mov (.tmp 102),none⟩])
 .ret))))))
def a56 : AFunc:=⟨3,c56,[.tmp 6]⟩
theorem k56 : cFunc Tryz.prog Tryz.f56=some a56:=by kernel_rfl
/- 58: (*tendril/mem.Mem).Root -/
def c58 : ACode:=(.seq (.ops [⟨(some 2),.mov (.con (.int .i64 0)),none⟩])
 (.seq (.ops [⟨(some 3),.mov (.tmp 0),none⟩,
  ⟨(some 4),.nilChk (.tmp 3),none⟩,
  ⟨(some 5),.fieldAddr 3 (.tmp 4),none⟩,
  ⟨(some 6),.load false 1 (.tmp 5),none⟩,
  ⟨(some 2),.mov (.tmp 6),none⟩])
 .ret))
def a58 : AFunc:=⟨1,c58,[.tmp 2]⟩
theorem k58 : cFunc Tryz.prog Tryz.f58=some a58:=by kernel_rfl
/- 57: tendril/scan.New -/
def c57 : ACode:=(.seq (.ops [⟨(some 2),.box (.tmp 0),none⟩,
  ⟨(some 4),.mov (.con .nilPtr),none⟩,
  ⟨(some 5),.mov (.con (.int .i64 0)),none⟩])
 (.seq (.seq (.ops [⟨(some 7),.fieldAddr 0 (.tmp 2),none⟩,
  ⟨(some 8),.load false 1 (.tmp 7),none⟩,
  ⟨(some 9),.bin .neq (.tmp 8) (.con (.int .i64 4)),none⟩,
  ⟨(some 10),.mov (.tmp 9),none⟩,
  ⟨(some 11),.fieldAddr 3 (.tmp 2),(some (10,false))⟩,
  ⟨(some 12),.load false 1 (.tmp 11),(some (10,false))⟩,
  ⟨(some 13),.bin .lss (.tmp 12) (.con (.int .i64 1)),(some (10,false))⟩,
  ⟨(some 14),.pick (.tmp 10) (.con (.bool true)) (.tmp 13),none⟩,
  ⟨(some 15),.mov (.tmp 14),none⟩,
  ⟨(some 16),.fieldAddr 3 (.tmp 2),(some (15,false))⟩,
  ⟨(some 17),.load false 1 (.tmp 16),(some (15,false))⟩,
  ⟨(some 18),.bin .gtr (.tmp 17) (.con (.int .i64 16)),(some (15,false))⟩,
  ⟨(some 19),.pick (.tmp 15) (.con (.bool true)) (.tmp 18),none⟩,
  ⟨(some 20),.mov (.tmp 19),none⟩,
  ⟨(some 21),.fieldAddr 1 (.tmp 2),(some (20,false))⟩,
  ⟨(some 22),.load false 1 (.tmp 21),(some (20,false))⟩,
  ⟨(some 23),.lenStr (.tmp 22),(some (20,false))⟩,
  ⟨(some 24),.bin .gtr (.tmp 23) (.con (.int .i64 13)),(some (20,false))⟩,
  ⟨(some 25),.pick (.tmp 20) (.con (.bool true)) (.tmp 24),none⟩,
  ⟨(some 26),.mov (.tmp 25),none⟩,
  ⟨(some 27),.fieldAddr 2 (.tmp 2),(some (26,false))⟩,
  ⟨(some 28),.load false 1 (.tmp 27),(some (26,false))⟩,
  ⟨(some 29),.lenStr (.tmp 28),(some (26,false))⟩,
  ⟨(some 30),.bin .gtr (.tmp 29) (.con (.int .i64 13)),(some (26,false))⟩,
  ⟨(some 31),.pick (.tmp 26) (.con (.bool true)) (.tmp 30),none⟩])
 (.cond (.tmp 31)
 (.seq (.ops [⟨(some 4),.mov (.con .nilPtr),none⟩,
  ⟨(some 5),.mov (.con (.int .i64 1)),none⟩])
 .ret)
 .skip))
 (.seq (.ops [⟨(some 32),.fieldAddr 1 (.tmp 2),none⟩,
  ⟨(some 33),.load false 1 (.tmp 32),none⟩,
  ⟨(some 34),.fieldAddr 2 (.tmp 2),none⟩,
  ⟨(some 35),.load false 1 (.tmp 34),none⟩,
  ⟨(some 36),.fieldAddr 3 (.tmp 2),none⟩,
  ⟨(some 37),.load false 1 (.tmp 36),none⟩,
  ⟨(some 38),.mov (.tmp 1),none⟩,
  ⟨(some 39),.build [(.str []),(.str []),(.int .i64 0),(.int .i64 0),(.int .i64 0),(.int .i64 0),(.int .i64 0),(.int .i64 0),(.int .u64 0),.nilSlice,.nilFunc,(.str []),.nilSlice,(.bool false),(.int .i64 0),(.bool false),(.int .i64 0),.nilSlice] [(0,1,(.tmp 33)),(1,1,(.tmp 35)),(2,1,(.tmp 37)),(3,1,(.tmp 38))],none⟩,
  ⟨(some 40),.box (.tmp 39),none⟩,
  ⟨(some 6),.mov (.tmp 40),none⟩])
 (.seq (.ops [⟨(some 41),.mov (.tmp 6),none⟩,
  ⟨(some 42),.build [(.int .i64 0),(.int .i64 0),(.int .i64 0),(.int .i64 0),(.int .u64 0),.nilSlice] [(0,1,(.con (.int .i64 7)))],none⟩,
  ⟨(some 43),.call 102 [(.tmp 41),(.tmp 42),(.con (.func (.func 103) [] []))],none⟩])
 (.seq (.ops [⟨(some 44),.mov (.tmp 6),none⟩,
  ⟨(some 4),.mov (.tmp 44),none⟩,
  ⟨(some 5),.mov (.con (.int .i64 0)),none⟩])
 .ret)))))
def a57 : AFunc:=⟨2,c57,[.tmp 4,.tmp 5]⟩
theorem k57 : cFunc Tryz.prog Tryz.f57=some a57:=by kernel_rfl
/- 60: (*tendril/scan.Scan).Next -/
def c60 : ACode:=(.seq (.ops [⟨(some 2),.new [(.int .i64 0),(.int .i64 0),(.int .i64 0),(.int .i64 0),(.int .u64 0),.nilSlice],none⟩,
  ⟨(some 3),.mov (.con (.bool false)),none⟩])
 (.seq (.seq (.ops [⟨(some 4),.mov (.tmp 0),none⟩,
  ⟨(some 5),.nilChk (.tmp 4),none⟩,
  ⟨(some 6),.fieldAddr 10 (.tmp 5),none⟩,
  ⟨(some 7),.load false 1 (.tmp 6),none⟩,
  ⟨(some 8),.eqNil 3 false (.tmp 7) (.con .nilFunc),none⟩])
 (.cond (.tmp 8)
 (.seq (.ops [⟨(some 9),.build [(.int .i64 0),(.int .i64 0),(.int .i64 0),(.int .i64 0),(.int .u64 0),.nilSlice] [],none⟩,
  ⟨none,.store 6 (.tmp 2) (.tmp 9),none⟩,
  ⟨(some 3),.mov (.con (.bool false)),none⟩])
 .ret)
 .skip))
 (.seq (.ops [⟨(some 10),.mov (.tmp 0),none⟩,
  ⟨(some 11),.nilChk (.tmp 10),none⟩,
  ⟨(some 12),.fieldAddr 4 (.tmp 11),none⟩,
  ⟨(some 13),.load true 6 (.tmp 12),none⟩,
  ⟨none,.store 6 (.tmp 2) (.tmp 13),none⟩,
  ⟨(some 3),.mov (.con (.bool true)),none⟩])
 .ret)))
def a60 : AFunc:=⟨1,c60,[.cell 2 true 6,.tmp 3]⟩
theorem k60 : cFunc Tryz.prog Tryz.f60=some a60:=by kernel_rfl
/- 61: (*tendril/scan.Scan).Got -/
def c61 : ACode:=(.seq (.ops [⟨(some 3),.box (.tmp 1),none⟩])
 (.seq (.ops [⟨(some 4),.mov (.tmp 0),none⟩,
  ⟨(some 5),.nilChk (.tmp 4),none⟩,
  ⟨(some 6),.fieldAddr 13 (.tmp 5),none⟩,
  ⟨none,.store 1 (.tmp 6) (.con (.bool false)),none⟩])
 (.seq (.ops [⟨(some 7),.mov (.tmp 0),none⟩,
  ⟨(some 8),.nilChk (.tmp 7),none⟩,
  ⟨(some 9),.fieldAddr 10 (.tmp 8),none⟩,
  ⟨(some 10),.load false 1 (.tmp 9),none⟩,
  ⟨(some 11),.eqNil 3 true (.tmp 10) (.con .nilFunc),none⟩])
 (.cond (.tmp 11)
 (.ops [⟨(some 12),.mov (.tmp 0),none⟩,
  ⟨(some 13),.nilChk (.tmp 12),none⟩,
  ⟨(some 14),.fieldAddr 10 (.tmp 13),none⟩,
  ⟨(some 15),.load false 1 (.tmp 14),none⟩,
  ⟨(some 16),.mov (.tmp 0),none⟩,
  ⟨(some 17),.load true 4 (.tmp 3),none⟩,
  ⟨(some 18),.callV (.tmp 15) [(.tmp 16),(.tmp 17)],none⟩])
 .skip))))
def a61 : AFunc:=⟨2,c61,[]⟩
theorem k61 : cFunc Tryz.prog Tryz.f61=some a61:=by kernel_rfl
/- 59: (*tendril/docs.Index).run -/
def c59l0 : ACode:=(.seq (.seq (.ops [⟨(some 15),.mov (.tmp 9),none⟩])
 (.cond (.tmp 15)
 .skip
 (.exit 0)))
 (.seq (.block 1 (.ops [⟨(some 21),.mov (.tmp 3),none⟩,
  ⟨(some 22),.mov (.tmp 0),none⟩,
  ⟨(some 23),.nilChk (.tmp 22),none⟩,
  ⟨(some 24),.fieldAddr 8 (.tmp 23),none⟩,
  ⟨(some 25),.load false 1 (.tmp 24),none⟩,
  ⟨(some 26),.mov (.tmp 1),none⟩,
  ⟨(some 27),.load true 6 (.tmp 8),none⟩,
  ⟨(some 28),.call 104 [(.tmp 25),(.tmp 26),(.tmp 27)],none⟩,
  ⟨(some 29),.callV (.tmp 21) [(.tmp 28)],none⟩]))
 (.seq (.seq (.ops [⟨(some 30),.load true 6 (.tmp 8),none⟩])
 (.ops [⟨(some 8),.new [(.int .i64 0),(.int .i64 0),(.int .i64 0),(.int .i64 0),(.int .u64 0),.nilSlice],none⟩,
  ⟨none,.store 6 (.tmp 8) (.tmp 30),none⟩]))
 (.ops [⟨(some 17),.mov (.tmp 2),none⟩,
  ⟨(some 18),.callV (.tmp 17) [],none⟩,
  ⟨(some 16),.mov (.tmp 18),none⟩,
  ⟨(some 19),.extract (.tmp 16) 0,none⟩,
  ⟨(some 20),.extract (.tmp 16) 1,none⟩,
  ⟨none,.store 6 (.tmp 8) (.tmp 19),none⟩,
  ⟨(some 9),.mov (.tmp 20),none⟩]))))
def c59 : ACode:=(.seq (.ops [⟨(some 11),.mov (.tmp 2),none⟩,
  ⟨(some 12),.callV (.tmp 11) [],none⟩,
  ⟨(some 10),.mov (.tmp 12),none⟩,
  ⟨(some 13),.extract (.tmp 10) 0,none⟩,
  ⟨(some 14),.extract (.tmp 10) 1,none⟩,
  ⟨(some 8),.new [(.int .i64 0),(.int .i64 0),(.int .i64 0),(.int .i64 0),(.int .u64 0),.nilSlice],none⟩,
  ⟨none,.store 6 (.tmp 8) (.tmp 13),none⟩,
  ⟨(some 9),.mov (.tmp 14),none⟩])
 (.block 0 (.loop c59l0)))
def a59 : AFunc:=⟨4,c59,[]⟩
theorem k59 : cFunc Tryz.prog Tryz.f59=some a59:=by kernel_rfl
/- 62: (*tendril/scan.Scan).Answer -/
def c62 : ACode:=(.seq (.ops [⟨(some 2),.new [(.int .i64 0),(.bool false),(.int .i64 0),.nilSlice],none⟩,
  ⟨(some 3),.mov (.con (.bool false)),none⟩])
 (.seq (.seq (.ops [⟨(some 5),.mov (.tmp 0),none⟩,
  ⟨(some 6),.nilChk (.tmp 5),none⟩,
  ⟨(some 7),.fieldAddr 10 (.tmp 6),none⟩,
  ⟨(some 8),.load false 1 (.tmp 7),none⟩,
  ⟨(some 9),.eqNil 3 true (.tmp 8) (.con .nilFunc),none⟩])
 (.cond (.tmp 9)
 (.seq (.ops [⟨(some 10),.build [(.int .i64 0),(.bool false),(.int .i64 0),.nilSlice] [],none⟩,
  ⟨none,.store 4 (.tmp 2) (.tmp 10),none⟩,
  ⟨(some 3),.mov (.con (.bool false)),none⟩])
 .ret)
 .skip))
 (.seq (.ops [⟨(some 11),.mov (.tmp 0),none⟩,
  ⟨(some 12),.nilChk (.tmp 11),none⟩,
  ⟨(some 13),.fieldAddr 14 (.tmp 12),none⟩,
  ⟨(some 14),.load true 4 (.tmp 13),none⟩,
  ⟨(some 4),.new [(.int .i64 0),(.bool false),(.int .i64 0),.nilSlice],none⟩,
  ⟨none,.store 4 (.tmp 4) (.tmp 14),none⟩])
 (.seq (.ops [⟨(some 15),.fieldAddr 3 (.tmp 4),none⟩,
  ⟨(some 16),.load false 1 (.tmp 15),none⟩,
  ⟨(some 17),.call 105 [(.tmp 16)],none⟩,
  ⟨(some 18),.fieldAddr 3 (.tmp 4),none⟩,
  ⟨none,.store 1 (.tmp 18) (.tmp 17),none⟩])
 (.seq (.ops [⟨(some 19),.load true 4 (.tmp 4),none⟩,
  ⟨none,.store 4 (.tmp 2) (.tmp 19),none⟩,
  ⟨(some 3),.mov (.con (.bool true)),none⟩])
 .ret)))))
def a62 : AFunc:=⟨1,c62,[.cell 2 true 4,.tmp 3]⟩
theorem k62 : cFunc Tryz.prog Tryz.f62=some a62:=by kernel_rfl
/- 63: tendril/token.Terms -/
def c63l0 : ACode:=(.seq (.ops [⟨(some 17),.bin .lss (.tmp 16) (.tmp 15),none⟩])
 (.seq (.cond (.tmp 17)
 .skip
 (.exit 0))
 (.seq (.block 1 (.seq (.ops [⟨(some 18),.mov (.tmp 16),none⟩,
  ⟨(some 19),.idxAddr 1 (.tmp 14) (.tmp 16),none⟩,
  ⟨(some 20),.load false 1 (.tmp 19),none⟩,
  ⟨(some 5),.mov (.tmp 18),none⟩,
  ⟨(some 6),.mov (.tmp 20),none⟩])
 (.ops [⟨(some 21),.mov (.tmp 4),none⟩,
  ⟨(some 22),.mov (.tmp 5),none⟩,
  ⟨(some 23),.mov (.tmp 6),none⟩,
  ⟨(some 24),.call 106 [(.tmp 23)],none⟩,
  ⟨(some 25),.idxAddr 1 (.tmp 21) (.tmp 22),none⟩,
  ⟨none,.store 1 (.tmp 25) (.tmp 24),none⟩])))
 (.ops [⟨(some 26),.bin .add (.tmp 16) (.con (.int .i64 1)),none⟩,
  ⟨(some 16),.mov (.tmp 26),none⟩]))))
def r63 : RCode:=(.seq (.base (.ops [⟨(some 2),.mov (.con .nilSlice),none⟩,
  ⟨(some 3),.mov (.con (.int .i64 0)),none⟩]))
 (.seq (.base (.seq (.ops [⟨(some 9),.mov (.tmp 0),none⟩,
  ⟨(some 10),.lenStr (.tmp 9),none⟩,
  ⟨(some 11),.bin .gtr (.tmp 10) (.con (.int .i64 512)),none⟩])
 (.cond (.tmp 11)
 (.seq (.ops [⟨(some 2),.mov (.con .nilSlice),none⟩,
  ⟨(some 3),.mov (.con (.int .i64 11)),none⟩])
 .ret)
 .skip)))
 (.seq (.base (.ops [⟨(some 12),.mov (.tmp 0),none⟩,
  ⟨(some 13),.toBytes (.tmp 12),none⟩,
  ⟨(some 4),.mov (.tmp 13),none⟩]))
 (.seq (.base (.seq (.ops [⟨(some 14),.mov (.tmp 4),none⟩,
  ⟨(some 15),.lenSlice (.tmp 14),none⟩,
  ⟨(some 16),.mov (.con (.int .i64 0)),none⟩])
 (.block 0 (.loop c63l0))))
 (.seq (.base (.ops [⟨(some 7),.new [.nilSlice],none⟩]))
 (.seq (.seq (.base (.ops [⟨(some 27),.mov (.tmp 4),none⟩,
  ⟨(some 28),.toStr (.tmp 27),none⟩,
  ⟨(some 29),.call 107 [(.tmp 28),(.con (.str [0]))],none⟩]))
 (.block 2 (.range (.tmp 29) [30]
 (.ops [⟨(some 8),.mov (.tmp 30),none⟩])
 (.block 3 (.seq (.ops [⟨(some 31),.mov (.tmp 8),none⟩,
  ⟨(some 32),.bin .neq (.tmp 31) (.con (.str [])),none⟩])
 (.cond (.tmp 32)
 (.draw [.op ⟨(some 33),.load false 1 (.tmp 7),none⟩,
  .op ⟨(some 34),.mov (.tmp 8),none⟩,
  .op ⟨(some 35),.mov (.tmp 8),none⟩,
  .op ⟨(some 36),.lenStr (.tmp 35),none⟩,
  .op ⟨(some 37),.mnx false [(.tmp 36),(.con (.int .i64 12))],none⟩,
  .op ⟨(some 38),.slcStr (.tmp 34) none (some (.tmp 37)),none⟩,
  .op ⟨(some 39),.buildSlice 1 1 [(.str [])] [(0,1,(.tmp 38))],none⟩,
  .look ⟨(some 33),.load false 1 (.tmp 7),none⟩,
  .look ⟨(some 39),.buildSlice 1 1 [(.str [])] [(0,1,(.tmp 38))],none⟩,
  .op ⟨(some 40),.append 1 16 (.tmp 33) (.tmp 39),none⟩,
  .op ⟨none,.store 1 (.tmp 7) (.tmp 40),none⟩])
 .skip))))))
 (.base (.seq (.ops [⟨(some 41),.load false 1 (.tmp 7),none⟩,
  ⟨(some 42),.call 108 [(.tmp 41)],none⟩])
 (.seq (.ops [⟨(some 43),.load false 1 (.tmp 7),none⟩,
  ⟨(some 44),.call 109 [(.tmp 43)],none⟩,
  ⟨(some 2),.mov (.tmp 44),none⟩,
  ⟨(some 3),.mov (.con (.int .i64 0)),none⟩])
 .ret)))))))))
def rf63 : RFunc:=⟨1,r63,[.tmp 2,.tmp 3]⟩
theorem kr63 : cRFunc Tryz.prog Tryz.f63=some rf63:=by kernel_rfl
/- 64: (*tendril/docs.Index).remove -/
def c64 : ACode:=(.seq (.ops [⟨(some 11),.mov (.tmp 0),none⟩,
  ⟨(some 12),.mov (.tmp 1),none⟩,
  ⟨(some 13),.call 90 [(.tmp 11),(.tmp 12)],none⟩,
  ⟨(some 10),.mov (.tmp 13),none⟩,
  ⟨(some 14),.extract (.tmp 10) 0,none⟩,
  ⟨(some 15),.extract (.tmp 10) 1,none⟩,
  ⟨(some 6),.mov (.tmp 14),none⟩,
  ⟨(some 7),.mov (.tmp 15),none⟩])
 (.seq (.seq (.ops [⟨(some 16),.mov (.tmp 7),none⟩,
  ⟨(some 17),.un .not (.tmp 16),none⟩])
 (.cond (.tmp 17)
 .ret
 .skip))
 (.seq (.ops [⟨(some 19),.mov (.tmp 0),none⟩,
  ⟨(some 20),.nilChk (.tmp 19),none⟩,
  ⟨(some 21),.fieldAddr 10 (.tmp 20),none⟩,
  ⟨(some 22),.load false 1 (.tmp 21),none⟩,
  ⟨(some 23),.mov (.tmp 6),none⟩,
  ⟨(some 24),.lookup 0 (.agg [.nilSlice]) false (.tmp 22) (.tmp 23),none⟩,
  ⟨(some 25),.mov (.tmp 2),none⟩,
  ⟨(some 26),.call 110 [(.tmp 24),(.tmp 25)],none⟩,
  ⟨(some 18),.mov (.tmp 26),none⟩,
  ⟨(some 27),.extract (.tmp 18) 0,none⟩,
  ⟨(some 28),.extract (.tmp 18) 1,none⟩,
  ⟨(some 8),.new [.nilSlice],none⟩,
  ⟨none,.store 1 (.tmp 8) (.tmp 27),none⟩,
  ⟨(some 9),.mov (.tmp 28),none⟩])
 (.seq (.ops [⟨(some 29),.mov (.tmp 0),none⟩,
  ⟨(some 30),.nilChk (.tmp 29),none⟩,
  ⟨(some 31),.fieldAddr 10 (.tmp 30),none⟩,
  ⟨(some 32),.load false 1 (.tmp 31),none⟩,
  ⟨(some 33),.mov (.tmp 6),none⟩,
  ⟨(some 34),.load true 1 (.tmp 8),none⟩,
  ⟨none,.mapUpd 0 (.tmp 32) (.tmp 33) (.tmp 34),none⟩])
 (.seq (.ops [⟨(some 35),.load true 1 (.tmp 8),none⟩,
  ⟨(some 36),.call 111 [(.tmp 35)],none⟩,
  ⟨(some 37),.bin .eql (.tmp 36) (.con (.int .i64 0)),none⟩])
 (.cond (.tmp 37)
 (.seq (.ops [⟨(some 38),.mov (.tmp 0),none⟩,
  ⟨(some 39),.mov (.tmp 1),none⟩,
  ⟨(some 40),.call 112 [(.tmp 38),(.tmp 39)],none⟩])
 (.seq (.ops [⟨(some 41),.mov (.tmp 0),none⟩,
  ⟨(some 42),.nilChk (.tmp 41),none⟩,
  ⟨(some 43),.fieldAddr 10 (.tmp 42),none⟩,
  ⟨(some 44),.load false 1 (.tmp 43),none⟩,
  ⟨(some 45),.mov (.tmp 6),none⟩,
  ⟨none,.del 0 (.tmp 44) (.tmp 45),none⟩])
 (.ops [⟨(some 46),.mov (.tmp 0),none⟩,
  ⟨(some 47),.nilChk (.tmp 46),none⟩,
  ⟨(some 48),.fieldAddr 11 (.tmp 47),none⟩,
  ⟨(some 49),.load false 1 (.tmp 48),none⟩,
  ⟨(some 50),.mov (.tmp 6),none⟩,
  ⟨(some 51),.call 47 [(.tmp 49),(.tmp 50)],none⟩])))
 .skip))))))
def a64 : AFunc:=⟨3,c64,[]⟩
theorem k64 : cFunc Tryz.prog Tryz.f64=some a64:=by kernel_rfl
/- 65: slices.Delete[[]tendril/api.Doc,tendril/api.Doc] -/
def c65 : ACode:=(.seq (.ops [⟨(some 6),.mov (.con .nilSlice),none⟩])
 (.seq (.ops [⟨(some 8),.mov (.tmp 0),none⟩,
  ⟨(some 9),.mov (.tmp 1),none⟩,
  ⟨(some 10),.mov (.tmp 2),none⟩,
  ⟨(some 11),.mov (.tmp 0),none⟩,
  ⟨(some 12),.lenSlice (.tmp 11),none⟩,
  ⟨(some 13),.slc 2 (.tmp 8) (some (.tmp 9)) (some (.tmp 10)) (some (.tmp 12)),none⟩])
 (.seq (.seq (.ops [⟨(some 14),.mov (.tmp 1),none⟩,
  ⟨(some 15),.mov (.tmp 2),none⟩,
  ⟨(some 16),.bin .eql (.tmp 14) (.tmp 15),none⟩])
 (.cond (.tmp 16)
 (.seq (.ops [⟨(some 17),.mov (.tmp 0),none⟩,
  ⟨(some 6),.mov (.tmp 17),none⟩])
 .ret)
 .skip))
 (.seq (.ops [⟨(some 18),.mov (.tmp 0),none⟩,
  ⟨(some 19),.lenSlice (.tmp 18),none⟩,
  ⟨(some 7),.mov (.tmp 19),none⟩])
 (.seq (.ops [⟨(some 20),.mov (.tmp 0),none⟩,
  ⟨(some 21),.mov (.tmp 1),none⟩,
  ⟨(some 22),.slc 2 (.tmp 20) none (some (.tmp 21)) none,none⟩,
  ⟨(some 23),.mov (.tmp 0),none⟩,
  ⟨(some 24),.mov (.tmp 2),none⟩,
  ⟨(some 25),.slc 2 (.tmp 23) (some (.tmp 24)) none none,none⟩,
  ⟨(some 26),.append 2 24 (.tmp 22) (.tmp 25),none⟩,
  ⟨(some 0),.mov (.tmp 26),none⟩])
 (.seq (.ops [⟨(some 27),.mov (.tmp 0),none⟩,
  ⟨(some 28),.mov (.tmp 0),none⟩,
  ⟨(some 29),.lenSlice (.tmp 28),none⟩,
  ⟨(some 30),.mov (.tmp 7),none⟩,
  ⟨(some 31),.slc 2 (.tmp 27) (some (.tmp 29)) (some (.tmp 30)) none,none⟩,
  ⟨none,.clear 2 [(.int .i64 0),(.str [])] (.tmp 31),none⟩])
 (.seq (.ops [⟨(some 32),.mov (.tmp 0),none⟩,
  ⟨(some 6),.mov (.tmp 32),none⟩])
 .ret)))))))
def a65 : AFunc:=⟨3,c65,[.tmp 6]⟩
theorem k65 : cFunc Tryz.prog Tryz.f65=some a65:=by kernel_rfl
/- 66: (*tendril/arena.Arena).Live -/
def c66l0 : ACode:=(.seq (.ops [⟨(some 11),.bin .lss (.tmp 10) (.con (.int .i64 5)),none⟩])
 (.seq (.cond (.tmp 11)
 .skip
 (.exit 0))
 (.seq (.block 1 (.seq (.ops [⟨(some 12),.mov (.tmp 10),none⟩,
  ⟨(some 4),.mov (.tmp 12),none⟩])
 (.ops [⟨(some 13),.mov (.tmp 3),none⟩,
  ⟨(some 14),.mov (.tmp 0),none⟩,
  ⟨(some 15),.mov (.tmp 4),none⟩,
  ⟨(some 16),.call 72 [(.tmp 14),(.tmp 15)],none⟩,
  ⟨(some 17),.bin .sub (.tmp 13) (.tmp 16),none⟩,
  ⟨(some 3),.mov (.tmp 17),none⟩])))
 (.ops [⟨(some 18),.bin .add (.tmp 10) (.con (.int .i64 1)),none⟩,
  ⟨(some 10),.mov (.tmp 18),none⟩]))))
def c66 : ACode:=(.seq (.ops [⟨(some 2),.mov (.con (.int .i64 0)),none⟩])
 (.seq (.ops [⟨(some 5),.mov (.tmp 0),none⟩,
  ⟨(some 6),.nilChk (.tmp 5),none⟩,
  ⟨(some 7),.fieldAddr 0 (.tmp 6),none⟩,
  ⟨(some 8),.load false 1 (.tmp 7),none⟩,
  ⟨(some 9),.lenSlice (.tmp 8),none⟩,
  ⟨(some 3),.mov (.tmp 9),none⟩])
 (.seq (.seq (.ops [⟨(some 10),.mov (.con (.int .i64 0)),none⟩])
 (.block 0 (.loop c66l0)))
 (.seq (.ops [⟨(some 19),.mov (.tmp 3),none⟩,
  ⟨(some 2),.mov (.tmp 19),none⟩])
 .ret))))
def a66 : AFunc:=⟨1,c66,[.tmp 2]⟩
theorem k66 : cFunc Tryz.prog Tryz.f66=some a66:=by kernel_rfl
/- 82: tendril/arena.New -/
def c82l0 : ACode:=(.seq (.ops [⟨(some 12),.bin .lss (.tmp 11) (.con (.int .i64 5)),none⟩])
 (.seq (.cond (.tmp 12)
 .skip
 (.exit 0))
 (.seq (.block 1 (.seq (.ops [⟨(some 13),.idxArr false 5 1 (.tmp 10) (.tmp 11),none⟩,
  ⟨(some 6),.mov (.tmp 13),none⟩])
 (.seq (.seq (.ops [⟨(some 14),.mov (.tmp 6),none⟩,
  ⟨(some 15),.bin .lss (.tmp 14) (.con (.int .i64 0)),none⟩,
  ⟨(some 16),.mov (.tmp 15),none⟩,
  ⟨(some 17),.mov (.tmp 6),(some (16,false))⟩,
  ⟨(some 18),.mov (.tmp 4),(some (16,false))⟩,
  ⟨(some 19),.bin .gtr (.tmp 17) (.tmp 18),(some (16,false))⟩,
  ⟨(some 20),.pick (.tmp 16) (.con (.bool true)) (.tmp 19),none⟩])
 (.cond (.tmp 20)
 (.seq (.ops [⟨(some 2),.mov (.con .nilPtr),none⟩,
  ⟨(some 3),.mov (.con (.int .i64 1)),none⟩])
 .ret)
 .skip))
 (.ops [⟨(some 21),.mov (.tmp 4),none⟩,
  ⟨(some 22),.mov (.tmp 6),none⟩,
  ⟨(some 23),.bin .sub (.tmp 21) (.tmp 22),none⟩,
  ⟨(some 4),.mov (.tmp 23),none⟩]))))
 (.ops [⟨(some 24),.bin .add (.tmp 11) (.con (.int .i64 1)),none⟩,
  ⟨(some 11),.mov (.tmp 24),none⟩]))))
def c82l1 : ACode:=(.seq (.ops [⟨(some 43),.bin .lss (.tmp 42) (.tmp 41),none⟩])
 (.seq (.cond (.tmp 43)
 .skip
 (.exit 4))
 (.seq (.block 5 (.seq (.ops [⟨(some 44),.mov (.tmp 7),none⟩,
  ⟨(some 45),.mov (.tmp 8),none⟩,
  ⟨(some 46),.nilChk (.tmp 44),none⟩,
  ⟨(some 47),.fieldAddr 1 (.tmp 46),none⟩,
  ⟨(some 48),.idxAddrArr 5 1 (.tmp 47) (.tmp 45),none⟩,
  ⟨(some 49),.load false 1 (.tmp 48),none⟩,
  ⟨(some 50),.mov (.tmp 7),none⟩,
  ⟨(some 51),.nilChk (.tmp 50),none⟩,
  ⟨(some 52),.fieldAddr 0 (.tmp 51),none⟩,
  ⟨(some 53),.load false 1 (.tmp 52),none⟩,
  ⟨(some 54),.lenSlice (.tmp 53),none⟩,
  ⟨(some 55),.call 47 [(.tmp 49),(.tmp 54)],none⟩])
 (.draw [.op ⟨(some 56),.mov (.tmp 7),none⟩,
  .op ⟨(some 57),.mov (.tmp 7),none⟩,
  .op ⟨(some 58),.nilChk (.tmp 57),none⟩,
  .op ⟨(some 59),.fieldAddr 0 (.tmp 58),none⟩,
  .op ⟨(some 60),.load false 1 (.tmp 59),none⟩,
  .op ⟨(some 61),.mov (.tmp 8),none⟩,
  .op ⟨(some 62),.mov (.tmp 8),none⟩,
  .op ⟨(some 63),.call 124 [(.tmp 62)],none⟩,
  .op ⟨(some 64),.build [(.int .i64 0),(.int .i64 0),(.bool false),.nilSlice] [(0,1,(.tmp 61)),(1,1,(.con (.int .i64 1))),(3,1,(.tmp 63))],none⟩,
  .op ⟨(some 65),.buildSlice 4 1 [(.int .i64 0),(.int .i64 0),(.bool false),.nilSlice] [(0,4,(.tmp 64))],none⟩,
  .look ⟨(some 60),.load false 1 (.tmp 59),none⟩,
  .look ⟨(some 65),.buildSlice 4 1 [(.int .i64 0),(.int .i64 0),(.bool false),.nilSlice] [(0,4,(.tmp 64))],none⟩,
  .op ⟨(some 66),.append 4 48 (.tmp 60) (.tmp 65),none⟩,
  .op ⟨(some 67),.nilChk (.tmp 56),none⟩,
  .op ⟨(some 68),.fieldAddr 0 (.tmp 67),none⟩,
  .op ⟨none,.store 1 (.tmp 68) (.tmp 66),none⟩])))
 (.ops [⟨(some 69),.bin .add (.tmp 42) (.con (.int .i64 1)),none⟩,
  ⟨(some 42),.mov (.tmp 69),none⟩]))))
def c82l2 : ACode:=(.seq (.ops [⟨(some 29),.bin .lss (.tmp 28) (.con (.int .i64 5)),none⟩])
 (.seq (.cond (.tmp 29)
 .skip
 (.exit 2))
 (.seq (.block 3 (.seq (.ops [⟨(some 30),.mov (.tmp 28),none⟩,
  ⟨(some 31),.idxArr false 5 1 (.tmp 27) (.tmp 28),none⟩,
  ⟨(some 8),.mov (.tmp 30),none⟩,
  ⟨(some 9),.mov (.tmp 31),none⟩])
 (.seq (.ops [⟨(some 33),.mov (.tmp 7),none⟩,
  ⟨(some 34),.mov (.tmp 8),none⟩,
  ⟨(some 38),.nilChk (.tmp 33),none⟩,
  ⟨(some 39),.fieldAddr 1 (.tmp 38),none⟩,
  ⟨(some 35),.call 46 [(.con (.int .i64 1024))],none⟩,
  ⟨(some 32),.mov (.tmp 35),none⟩,
  ⟨(some 36),.extract (.tmp 32) 0,none⟩,
  ⟨(some 37),.extract (.tmp 32) 1,none⟩,
  ⟨(some 40),.idxAddrArr 5 1 (.tmp 39) (.tmp 34),none⟩,
  ⟨none,.store 1 (.tmp 40) (.tmp 36),none⟩])
 (.seq (.ops [⟨(some 41),.mov (.tmp 9),none⟩,
  ⟨(some 42),.mov (.con (.int .i64 0)),none⟩])
 (.block 4 (.loop c82l1))))))
 (.ops [⟨(some 70),.bin .add (.tmp 28) (.con (.int .i64 1)),none⟩,
  ⟨(some 28),.mov (.tmp 70),none⟩]))))
def c82 : ACode:=(.seq (.ops [⟨(some 1),.box (.tmp 0),none⟩,
  ⟨(some 2),.mov (.con .nilPtr),none⟩,
  ⟨(some 3),.mov (.con (.int .i64 0)),none⟩])
 (.seq (.ops [⟨(some 4),.mov (.con (.int .i64 1024)),none⟩])
 (.seq (.seq (.ops [⟨(some 10),.load true 5 (.tmp 1),none⟩,
  ⟨(some 11),.mov (.con (.int .i64 0)),none⟩])
 (.block 0 (.loop c82l0)))
 (.seq (.ops [⟨(some 25),.build [.nilSlice,.nilPtr,.nilPtr,.nilPtr,.nilPtr,.nilPtr] [],none⟩,
  ⟨(some 26),.box (.tmp 25),none⟩,
  ⟨(some 7),.mov (.tmp 26),none⟩])
 (.seq (.seq (.ops [⟨(some 27),.load true 5 (.tmp 1),none⟩,
  ⟨(some 28),.mov (.con (.int .i64 0)),none⟩])
 (.block 2 (.loop c82l2)))
 (.seq (.ops [⟨(some 71),.mov (.tmp 7),none⟩,
  ⟨(some 2),.mov (.tmp 71),none⟩,
  ⟨(some 3),.mov (.con (.int .i64 0)),none⟩])
 .ret))))))
def a82 : AFunc:=⟨1,c82,[.tmp 2,.tmp 3]⟩
theorem k82 : cFunc Tryz.prog Tryz.f82=some a82:=by kernel_rfl
/- 83: tendril/epoch.New -/
def c83l0 : ACode:=(.seq (.ops [⟨(some 26),.bin .lss (.tmp 25) (.tmp 24),none⟩])
 (.seq (.cond (.tmp 26)
 .skip
 (.exit 0))
 (.seq (.block 1 (.ops [⟨(some 27),.mov (.tmp 6),none⟩,
  ⟨(some 28),.mov (.tmp 6),none⟩,
  ⟨(some 29),.nilChk (.tmp 28),none⟩,
  ⟨(some 30),.fieldAddr 2 (.tmp 29),none⟩,
  ⟨(some 31),.load false 1 (.tmp 30),none⟩,
  ⟨(some 32),.build [(.int .i64 0),.nilSlice] [(0,1,(.con (.int .i64 (-1))))],none⟩,
  ⟨(some 33),.buildSlice 2 1 [(.int .i64 0),.nilSlice] [(0,2,(.tmp 32))],none⟩,
  ⟨(some 34),.append 2 32 (.tmp 31) (.tmp 33),none⟩,
  ⟨(some 35),.nilChk (.tmp 27),none⟩,
  ⟨(some 36),.fieldAddr 2 (.tmp 35),none⟩,
  ⟨none,.store 1 (.tmp 36) (.tmp 34),none⟩]))
 (.ops [⟨(some 37),.bin .add (.tmp 25) (.con (.int .i64 1)),none⟩,
  ⟨(some 25),.mov (.tmp 37),none⟩]))))
def c83 : ACode:=(.seq (.ops [⟨(some 4),.mov (.con .nilPtr),none⟩,
  ⟨(some 5),.mov (.con (.int .i64 0)),none⟩])
 (.seq (.seq (.ops [⟨(some 7),.mov (.tmp 0),none⟩,
  ⟨(some 8),.bin .lss (.tmp 7) (.con (.int .i64 1)),none⟩,
  ⟨(some 9),.mov (.tmp 8),none⟩,
  ⟨(some 10),.mov (.tmp 0),(some (9,false))⟩,
  ⟨(some 11),.bin .gtr (.tmp 10) (.con (.int .i64 8)),(some (9,false))⟩,
  ⟨(some 12),.pick (.tmp 9) (.con (.bool true)) (.tmp 11),none⟩,
  ⟨(some 13),.mov (.tmp 12),none⟩,
  ⟨(some 14),.mov (.tmp 1),(some (13,false))⟩,
  ⟨(some 15),.bin .lss (.tmp 14) (.con (.int .i64 4)),(some (13,false))⟩,
  ⟨(some 16),.pick (.tmp 13) (.con (.bool true)) (.tmp 15),none⟩,
  ⟨(some 17),.mov (.tmp 16),none⟩,
  ⟨(some 18),.mov (.tmp 1),(some (17,false))⟩,
  ⟨(some 19),.bin .gtr (.tmp 18) (.con (.int .i64 64)),(some (17,false))⟩,
  ⟨(some 20),.pick (.tmp 17) (.con (.bool true)) (.tmp 19),none⟩])
 (.cond (.tmp 20)
 (.seq (.ops [⟨(some 4),.mov (.con .nilPtr),none⟩,
  ⟨(some 5),.mov (.con (.int .i64 1)),none⟩])
 .ret)
 .skip))
 (.seq (.ops [⟨(some 21),.mov (.tmp 1),none⟩,
  ⟨(some 22),.build [(.int .i64 0),(.int .i64 0),.nilSlice] [(1,1,(.tmp 21))],none⟩,
  ⟨(some 23),.box (.tmp 22),none⟩,
  ⟨(some 6),.mov (.tmp 23),none⟩])
 (.seq (.seq (.ops [⟨(some 24),.mov (.tmp 0),none⟩,
  ⟨(some 25),.mov (.con (.int .i64 0)),none⟩])
 (.block 0 (.loop c83l0)))
 (.seq (.ops [⟨(some 38),.mov (.tmp 6),none⟩,
  ⟨(some 4),.mov (.tmp 38),none⟩,
  ⟨(some 5),.mov (.con (.int .i64 0)),none⟩])
 .ret)))))
def a83 : AFunc:=⟨2,c83,[.tmp 4,.tmp 5]⟩
theorem k83 : cFunc Tryz.prog Tryz.f83=some a83:=by kernel_rfl
/- 85: tendril/node.Encode -/
def c85l0 : ACode:=(.seq (.ops [⟨(some 72),.bin .lss (.tmp 71) (.tmp 70),none⟩])
 (.seq (.cond (.tmp 72)
 .skip
 (.exit 1))
 (.seq (.block 2 (.seq (.ops [⟨(some 73),.mov (.tmp 71),none⟩,
  ⟨(some 74),.idxAddr 1 (.tmp 69) (.tmp 71),none⟩,
  ⟨(some 75),.load false 1 (.tmp 74),none⟩,
  ⟨(some 5),.mov (.tmp 73),none⟩,
  ⟨(some 6),.mov (.tmp 75),none⟩])
 (.seq (.ops [⟨(some 76),.mov (.tmp 4),none⟩,
  ⟨(some 77),.mov (.tmp 5),none⟩,
  ⟨(some 78),.bin .add (.tmp 76) (.tmp 77),none⟩,
  ⟨(some 7),.mov (.tmp 78),none⟩])
 (.seq (.seq (.ops [⟨(some 79),.fieldAddr 0 (.tmp 1),none⟩,
  ⟨(some 80),.load false 1 (.tmp 79),none⟩,
  ⟨(some 81),.bin .eql (.tmp 80) (.con (.int .i64 4)),none⟩])
 (.cond (.tmp 81)
 (.ops [⟨(some 82),.fieldAddr 3 (.tmp 1),none⟩,
  ⟨(some 83),.load false 1 (.tmp 82),none⟩,
  ⟨(some 84),.mov (.tmp 5),none⟩,
  ⟨(some 85),.idxAddr 1 (.tmp 83) (.tmp 84),none⟩,
  ⟨(some 86),.load false 1 (.tmp 85),none⟩,
  ⟨(some 87),.toInt .i64 (.tmp 86),none⟩,
  ⟨(some 88),.bin .add (.con (.int .i64 4)) (.tmp 87),none⟩,
  ⟨(some 7),.mov (.tmp 88),none⟩])
 .skip))
 (.ops [⟨(some 89),.mov (.tmp 3),none⟩,
  ⟨(some 90),.mov (.tmp 7),none⟩,
  ⟨(some 91),.mov (.tmp 6),none⟩,
  ⟨(some 92),.toInt .u64 (.tmp 91),none⟩,
  ⟨(some 93),.idxAddr 1 (.tmp 89) (.tmp 90),none⟩,
  ⟨none,.store 1 (.tmp 93) (.tmp 92),none⟩])))))
 (.ops [⟨(some 94),.bin .add (.tmp 71) (.con (.int .i64 1)),none⟩,
  ⟨(some 71),.mov (.tmp 94),none⟩]))))
def c85 : ACode:=(.seq (.ops [⟨(some 1),.box (.tmp 0),none⟩,
  ⟨(some 2),.mov (.con .nilSlice),none⟩])
 (.seq (.seq (.ops [⟨(some 8),.load true 5 (.tmp 1),none⟩,
  ⟨(some 9),.call 128 [(.tmp 8)],none⟩,
  ⟨(some 10),.un .not (.tmp 9),none⟩])
 (.cond (.tmp 10)
 (.seq (.ops [⟨(some 2),.mov (.con .nilSlice),none⟩])
 .ret)
 .skip))
 (.seq (.ops [⟨(some 11),.fieldAddr 0 (.tmp 1),none⟩,
  ⟨(some 12),.load false 1 (.tmp 11),none⟩,
  ⟨(some 13),.call 125 [(.tmp 12)],none⟩,
  ⟨(some 14),.mkSlice 1 8 [(.int .u64 0)] (.tmp 13) (.tmp 13),none⟩,
  ⟨(some 3),.mov (.tmp 14),none⟩])
 (.seq (.ops [⟨(some 15),.mov (.tmp 3),none⟩,
  ⟨(some 16),.fieldAddr 1 (.tmp 1),none⟩,
  ⟨(some 17),.load false 1 (.tmp 16),none⟩,
  ⟨(some 18),.idxAddr 1 (.tmp 15) (.con (.int .i64 0)),none⟩,
  ⟨none,.store 1 (.tmp 18) (.tmp 17),none⟩])
 (.seq (.ops [⟨(some 19),.mov (.tmp 3),none⟩,
  ⟨(some 20),.fieldAddr 0 (.tmp 1),none⟩,
  ⟨(some 21),.load false 1 (.tmp 20),none⟩,
  ⟨(some 22),.fieldAddr 2 (.tmp 1),none⟩,
  ⟨(some 23),.load false 1 (.tmp 22),none⟩,
  ⟨(some 24),.lenStr (.tmp 23),none⟩,
  ⟨(some 25),.bin .shl (.tmp 24) (.con (.int .u64 8)),none⟩,
  ⟨(some 26),.bin .or (.tmp 21) (.tmp 25),none⟩,
  ⟨(some 27),.fieldAddr 3 (.tmp 1),none⟩,
  ⟨(some 28),.load false 1 (.tmp 27),none⟩,
  ⟨(some 29),.lenSlice (.tmp 28),none⟩,
  ⟨(some 30),.bin .shl (.tmp 29) (.con (.int .u64 16)),none⟩,
  ⟨(some 31),.bin .or (.tmp 26) (.tmp 30),none⟩,
  ⟨(some 32),.toInt .u64 (.tmp 31),none⟩,
  ⟨(some 33),.idxAddr 1 (.tmp 19) (.con (.int .i64 1)),none⟩,
  ⟨none,.store 1 (.tmp 33) (.tmp 32),none⟩])
 (.seq (.ops [⟨(some 34),.mov (.tmp 3),none⟩,
  ⟨(some 35),.slc 1 (.tmp 34) (some (.con (.int .i64 2))) none none,none⟩,
  ⟨(some 36),.fieldAddr 2 (.tmp 1),none⟩,
  ⟨(some 37),.load false 1 (.tmp 36),none⟩,
  ⟨(some 38),.call 129 [(.tmp 37)],none⟩,
  ⟨(some 39),.copy 1 (.tmp 35) (.tmp 38),none⟩])
 (.seq (.ops [⟨(some 4),.mov (.con (.int .i64 4)),none⟩])
 (.seq (.seq (.ops [⟨(some 40),.fieldAddr 0 (.tmp 1),none⟩,
  ⟨(some 41),.load false 1 (.tmp 40),none⟩])
 (.block 0 (.seq (.ops [⟨(some 43),.bin .eql (.tmp 41) (.con (.int .i64 1)),none⟩,
  ⟨(some 42),.mov (.tmp 43),none⟩])
 (.cond (.tmp 42)
 (.seq (.ops [⟨(some 44),.mov (.tmp 3),none⟩,
  ⟨(some 45),.slc 1 (.tmp 44) (some (.con (.int .i64 4))) none none,none⟩,
  ⟨(some 46),.fieldAddr 3 (.tmp 1),none⟩,
  ⟨(some 47),.load false 1 (.tmp 46),none⟩,
  ⟨(some 48),.toStr (.tmp 47),none⟩,
  ⟨(some 49),.call 129 [(.tmp 48)],none⟩,
  ⟨(some 50),.copy 1 (.tmp 45) (.tmp 49),none⟩])
 (.ops [⟨(some 4),.mov (.con (.int .i64 5)),none⟩]))
 (.seq (.ops [⟨(some 52),.bin .eql (.tmp 41) (.con (.int .i64 2)),none⟩,
  ⟨(some 51),.mov (.tmp 52),none⟩])
 (.cond (.tmp 51)
 (.seq (.ops [⟨(some 53),.mov (.tmp 3),none⟩,
  ⟨(some 54),.slc 1 (.tmp 53) (some (.con (.int .i64 4))) none none,none⟩,
  ⟨(some 55),.fieldAddr 3 (.tmp 1),none⟩,
  ⟨(some 56),.load false 1 (.tmp 55),none⟩,
  ⟨(some 57),.toStr (.tmp 56),none⟩,
  ⟨(some 58),.call 129 [(.tmp 57)],none⟩,
  ⟨(some 59),.copy 1 (.tmp 54) (.tmp 58),none⟩])
 (.ops [⟨(some 4),.mov (.con (.int .i64 6)),none⟩]))
 (.seq (.ops [⟨(some 61),.bin .eql (.tmp 41) (.con (.int .i64 3)),none⟩,
  ⟨(some 60),.mov (.tmp 61),none⟩])
 (.cond (.tmp 60)
 (.seq (.ops [⟨(some 62),.mov (.tmp 3),none⟩,
  ⟨(some 63),.slc 1 (.tmp 62) (some (.con (.int .i64 4))) none none,none⟩,
  ⟨(some 64),.fieldAddr 3 (.tmp 1),none⟩,
  ⟨(some 65),.load false 1 (.tmp 64),none⟩,
  ⟨(some 66),.call 130 [(.tmp 65)],none⟩,
  ⟨(some 67),.copy 1 (.tmp 63) (.tmp 66),none⟩])
 (.ops [⟨(some 4),.mov (.con (.int .i64 36)),none⟩]))
 .skip))))))))
 (.seq (.seq (.ops [⟨(some 68),.fieldAddr 4 (.tmp 1),none⟩,
  ⟨(some 69),.load false 1 (.tmp 68),none⟩,
  ⟨(some 70),.lenSlice (.tmp 69),none⟩,
  ⟨(some 71),.mov (.con (.int .i64 0)),none⟩])
 (.block 1 (.loop c85l0)))
 (.seq (.ops [⟨(some 95),.mov (.tmp 3),none⟩,
  ⟨(some 2),.mov (.tmp 95),none⟩])
 .ret))))))))))
def a85 : AFunc:=⟨1,c85,[.tmp 2]⟩
theorem k85 : cFunc Tryz.prog Tryz.f85=some a85:=by kernel_rfl
/- 84: (*tendril/arena.Arena).Alloc -/
def c84 : ACode:=(.seq (.ops [⟨(some 6),.mov (.con (.int .i64 0)),none⟩,
  ⟨(some 7),.mov (.con (.int .i64 0)),none⟩])
 (.seq (.seq (.ops [⟨(some 11),.mov (.tmp 1),none⟩,
  ⟨(some 12),.bin .lss (.tmp 11) (.con (.int .i64 0)),none⟩,
  ⟨(some 13),.mov (.tmp 12),none⟩,
  ⟨(some 14),.mov (.tmp 1),(some (13,false))⟩,
  ⟨(some 15),.bin .geq (.tmp 14) (.con (.int .i64 5)),(some (13,false))⟩,
  ⟨(some 16),.pick (.tmp 13) (.con (.bool true)) (.tmp 15),none⟩,
  ⟨(some 17),.mov (.tmp 16),none⟩,
  ⟨(some 18),.mov (.tmp 2),(some (17,false))⟩,
  ⟨(some 19),.lenSlice (.tmp 18),(some (17,false))⟩,
  ⟨(some 20),.mov (.tmp 1),(some (17,false))⟩,
  ⟨(some 21),.call 125 [(.tmp 20)],(some (17,false))⟩,
  ⟨(some 22),.bin .gtr (.tmp 19) (.tmp 21),(some (17,false))⟩,
  ⟨(some 23),.pick (.tmp 17) (.con (.bool true)) (.tmp 22),none⟩])
 (.cond (.tmp 23)
 (.seq (.ops [⟨(some 6),.mov (.con (.int .i64 0)),none⟩,
  ⟨(some 7),.mov (.con (.int .i64 1)),none⟩])
 .ret)
 .skip))
 (.seq (.ops [⟨(some 25),.mov (.tmp 0),none⟩,
  ⟨(some 26),.mov (.tmp 1),none⟩,
  ⟨(some 27),.nilChk (.tmp 25),none⟩,
  ⟨(some 28),.fieldAddr 1 (.tmp 27),none⟩,
  ⟨(some 29),.idxAddrArr 5 1 (.tmp 28) (.tmp 26),none⟩,
  ⟨(some 30),.load false 1 (.tmp 29),none⟩,
  ⟨(some 31),.call 91 [(.tmp 30)],none⟩,
  ⟨(some 24),.mov (.tmp 31),none⟩,
  ⟨(some 32),.extract (.tmp 24) 0,none⟩,
  ⟨(some 33),.extract (.tmp 24) 1,none⟩,
  ⟨(some 8),.mov (.tmp 32),none⟩,
  ⟨(some 9),.mov (.tmp 33),none⟩])
 (.seq (.seq (.ops [⟨(some 34),.mov (.tmp 9),none⟩,
  ⟨(some 35),.un .not (.tmp 34),none⟩])
 (.cond (.tmp 35)
 (.seq (.ops [⟨(some 6),.mov (.con (.int .i64 0)),none⟩,
  ⟨(some 7),.mov (.con (.int .i64 2)),none⟩])
 .ret)
 .skip))
 (.seq (.ops [⟨(some 36),.mov (.tmp 0),none⟩,
  ⟨(some 37),.nilChk (.tmp 36),none⟩,
  ⟨(some 38),.fieldAddr 0 (.tmp 37),none⟩,
  ⟨(some 39),.load false 1 (.tmp 38),none⟩,
  ⟨(some 40),.mov (.tmp 8),none⟩,
  ⟨(some 41),.idxAddr 4 (.tmp 39) (.tmp 40),none⟩,
  ⟨(some 10),.mov (.tmp 41),none⟩])
 (.seq (.ops [⟨(some 42),.mov (.tmp 10),none⟩,
  ⟨(some 43),.nilChk (.tmp 42),none⟩,
  ⟨(some 44),.fieldAddr 2 (.tmp 43),none⟩,
  ⟨none,.store 1 (.tmp 44) (.con (.bool true)),none⟩])
 (.seq (.ops [⟨(some 45),.mov (.tmp 10),none⟩,
  ⟨(some 46),.mov (.tmp 2),none⟩,
  ⟨(some 47),.call 126 [(.tmp 45),(.tmp 46)],none⟩])
 (.seq (.ops [⟨(some 48),.mov (.tmp 8),none⟩,
  ⟨(some 49),.mov (.tmp 10),none⟩,
  ⟨(some 50),.nilChk (.tmp 49),none⟩,
  ⟨(some 51),.fieldAddr 1 (.tmp 50),none⟩,
  ⟨(some 52),.load false 1 (.tmp 51),none⟩,
  ⟨(some 53),.mov (.tmp 1),none⟩,
  ⟨(some 54),.bin .eql (.tmp 53) (.con (.int .i64 0)),none⟩,
  ⟨(some 55),.call 127 [(.tmp 48),(.tmp 52),(.tmp 54)],none⟩,
  ⟨(some 6),.mov (.tmp 55),none⟩,
  ⟨(some 7),.mov (.con (.int .i64 0)),none⟩])
 .ret))))))))
def a84 : AFunc:=⟨3,c84,[.tmp 6,.tmp 7]⟩
theorem k84 : cFunc Tryz.prog Tryz.f84=some a84:=by kernel_rfl
/- 86: (*tendril/pool.Pool).Has -/
def c86 : ACode:=(.seq (.ops [⟨(some 4),.mov (.con (.bool false)),none⟩])
 (.seq (.ops [⟨(some 8),.mov (.tmp 0),none⟩,
  ⟨(some 9),.nilChk (.tmp 8),none⟩,
  ⟨(some 10),.fieldAddr 2 (.tmp 9),none⟩,
  ⟨(some 11),.load false 1 (.tmp 10),none⟩,
  ⟨(some 12),.mov (.tmp 1),none⟩,
  ⟨(some 13),.lookup 0 (.agg []) true (.tmp 11) (.tmp 12),none⟩,
  ⟨(some 7),.mov (.tmp 13),none⟩,
  ⟨(some 14),.extract (.tmp 7) 0,none⟩,
  ⟨(some 15),.extract (.tmp 7) 1,none⟩,
  ⟨(some 5),.new [],none⟩,
  ⟨none,.store 0 (.tmp 5) (.tmp 14),none⟩,
  ⟨(some 6),.mov (.tmp 15),none⟩])
 (.seq (.ops [⟨(some 16),.mov (.tmp 6),none⟩,
  ⟨(some 4),.mov (.tmp 16),none⟩])
 .ret)))
def a86 : AFunc:=⟨2,c86,[.tmp 4]⟩
theorem k86 : cFunc Tryz.prog Tryz.f86=some a86:=by kernel_rfl
/- 87: container/heap.Push -/
def c87 : ACode:=(.seq (.ops [⟨(some 4),.mov (.tmp 0),none⟩,
  ⟨(some 5),.mov (.tmp 1),none⟩,
  ⟨(some 6),.callM [(122,435,.self),(151,441,.self)] (.tmp 4) [(.tmp 5)],none⟩])
 (.ops [⟨(some 7),.mov (.tmp 0),none⟩,
  ⟨(some 8),.mov (.tmp 0),none⟩,
  ⟨(some 9),.callM [(17,430,.self),(82,116,.self),(122,70,(.deref false 1)),(146,437,.self),(151,437,(.deref false 1)),(157,111,.self),(192,70,.self)] (.tmp 8) [],none⟩,
  ⟨(some 10),.bin .sub (.tmp 9) (.con (.int .i64 1)),none⟩,
  ⟨(some 11),.call 131 [(.tmp 7),(.tmp 10)],none⟩]))
def a87 : AFunc:=⟨2,c87,[]⟩
theorem k87 : cFunc Tryz.prog Tryz.f87=some a87:=by kernel_rfl
/- 88: slices.BinarySearchFunc[[]tendril/api.Doc,tendril/api.Doc,int] -/
def c88l0 : ACode:=(.seq (.seq (.ops [⟨(some 15),.mov (.tmp 9),none⟩,
  ⟨(some 16),.mov (.tmp 10),none⟩,
  ⟨(some 17),.bin .lss (.tmp 15) (.tmp 16),none⟩])
 (.cond (.tmp 17)
 .skip
 (.exit 0)))
 (.block 1 (.seq (.ops [⟨(some 18),.mov (.tmp 9),none⟩,
  ⟨(some 19),.mov (.tmp 10),none⟩,
  ⟨(some 20),.bin .add (.tmp 18) (.tmp 19),none⟩,
  ⟨(some 21),.toInt .u64 (.tmp 20),none⟩,
  ⟨(some 22),.bin .shr (.tmp 21) (.con (.int .u64 1)),none⟩,
  ⟨(some 23),.toInt .i64 (.tmp 22),none⟩,
  ⟨(some 11),.mov (.tmp 23),none⟩])
 (.seq (.ops [⟨(some 24),.mov (.tmp 2),none⟩,
  ⟨(some 25),.mov (.tmp 0),none⟩,
  ⟨(some 26),.mov (.tmp 11),none⟩,
  ⟨(some 27),.idxAddr 2 (.tmp 25) (.tmp 26),none⟩,
  ⟨(some 28),.load true 2 (.tmp 27),none⟩,
  ⟨(some 29),.mov (.tmp 1),none⟩,
  ⟨(some 30),.callV (.tmp 24) [(.tmp 28),(.tmp 29)],none⟩,
  ⟨(some 31),.bin .lss (.tmp 30) (.con (.int .i64 0)),none⟩])
 (.cond (.tmp 31)
 (.ops [⟨(some 32),.mov (.tmp 11),none⟩,
  ⟨(some 33),.bin .add (.tmp 32) (.con (.int .i64 1)),none⟩,
  ⟨(some 9),.mov (.tmp 33),none⟩])
 (.ops [⟨(some 34),.mov (.tmp 11),none⟩,
  ⟨(some 10),.mov (.tmp 34),none⟩]))))))
def c88 : ACode:=(.seq (.ops [⟨(some 6),.mov (.con (.int .i64 0)),none⟩,
  ⟨(some 7),.mov (.con (.bool false)),none⟩])
 (.seq (.ops [⟨(some 12),.mov (.tmp 0),none⟩,
  ⟨(some 13),.lenSlice (.tmp 12),none⟩,
  ⟨(some 8),.mov (.tmp 13),none⟩])
 (.seq (.ops [⟨(some 14),.mov (.tmp 8),none⟩,
  ⟨(some 9),.mov (.con (.int .i64 0)),none⟩,
  ⟨(some 10),.mov (.tmp 14),none⟩])
 (.seq (.block 0 (.loop c88l0))
 (.seq (.ops [⟨(some 35),.mov (.tmp 9),none⟩,
  ⟨(some 36),.mov (.tmp 9),none⟩,
  ⟨(some 37),.mov (.tmp 8),none⟩,
  ⟨(some 38),.bin .lss (.tmp 36) (.tmp 37),none⟩,
  ⟨(some 39),.mov (.tmp 38),none⟩,
  ⟨(some 40),.mov (.tmp 2),(some (39,true))⟩,
  ⟨(some 41),.mov (.tmp 0),(some (39,true))⟩,
  ⟨(some 42),.mov (.tmp 9),(some (39,true))⟩,
  ⟨(some 43),.idxAddr 2 (.tmp 41) (.tmp 42),(some (39,true))⟩,
  ⟨(some 44),.load true 2 (.tmp 43),(some (39,true))⟩,
  ⟨(some 45),.mov (.tmp 1),(some (39,true))⟩,
  ⟨(some 46),.callV (.tmp 40) [(.tmp 44),(.tmp 45)],(some (39,true))⟩,
  ⟨(some 47),.bin .eql (.tmp 46) (.con (.int .i64 0)),(some (39,true))⟩,
  ⟨(some 48),.pick (.tmp 39) (.tmp 47) (.con (.bool false)),none⟩,
  ⟨(some 6),.mov (.tmp 35),none⟩,
  ⟨(some 7),.mov (.tmp 48),none⟩])
 .ret)))))
def a88 : AFunc:=⟨3,c88,[.tmp 6,.tmp 7]⟩
theorem k88 : cFunc Tryz.prog Tryz.f88=some a88:=by kernel_rfl
/- 89: (*tendril/docs.Index).find$1 -/
def c89 : ACode:=(.seq (.ops [⟨(some 2),.box (.tmp 0),none⟩,
  ⟨(some 4),.mov (.con (.int .i64 0)),none⟩])
 (.seq (.ops [⟨(some 5),.fieldAddr 0 (.tmp 2),none⟩,
  ⟨(some 6),.load false 1 (.tmp 5),none⟩,
  ⟨(some 7),.mov (.tmp 1),none⟩,
  ⟨(some 8),.bin .sub (.tmp 6) (.tmp 7),none⟩,
  ⟨(some 4),.mov (.tmp 8),none⟩])
 .ret))
def a89 : AFunc:=⟨2,c89,[.tmp 4]⟩
theorem k89 : cFunc Tryz.prog Tryz.f89=some a89:=by kernel_rfl
/- 28: (*tendril/mem.Mem).Room -/
def c28 : ACode:=(.seq (.ops [⟨(some 4),.mov (.con (.int .i64 0)),none⟩])
 (.seq (.ops [⟨(some 5),.mov (.tmp 0),none⟩,
  ⟨(some 6),.nilChk (.tmp 5),none⟩,
  ⟨(some 7),.fieldAddr 0 (.tmp 6),none⟩,
  ⟨(some 8),.load false 1 (.tmp 7),none⟩,
  ⟨(some 9),.mov (.tmp 1),none⟩,
  ⟨(some 10),.call 72 [(.tmp 8),(.tmp 9)],none⟩,
  ⟨(some 4),.mov (.tmp 10),none⟩])
 .ret))
def a28 : AFunc:=⟨2,c28,[.tmp 4]⟩
theorem k28 : cFunc Tryz.prog Tryz.f28=some a28:=by kernel_rfl
/- 90: (*tendril/docs.Index).number -/
def c90 : ACode:=(.seq (.ops [⟨(some 4),.mov (.con (.int .i64 0)),none⟩,
  ⟨(some 5),.mov (.con (.bool false)),none⟩])
 (.seq (.ops [⟨(some 11),.mov (.tmp 1),none⟩,
  ⟨(some 12),.build [(.int .i64 0),(.str []),(.str []),(.int .i64 0)] [(0,1,(.con (.int .i64 1))),(1,1,(.tmp 11))],none⟩,
  ⟨(some 13),.mov (.tmp 0),none⟩,
  ⟨(some 14),.nilChk (.tmp 13),none⟩,
  ⟨(some 15),.fieldAddr 8 (.tmp 14),none⟩,
  ⟨(some 16),.load false 1 (.tmp 15),none⟩,
  ⟨(some 17),.call 58 [(.tmp 16)],none⟩,
  ⟨(some 18),.call 132 [(.tmp 12),(.tmp 17)],none⟩,
  ⟨(some 10),.mov (.tmp 18),none⟩,
  ⟨(some 19),.extract (.tmp 10) 0,none⟩,
  ⟨(some 20),.extract (.tmp 10) 1,none⟩,
  ⟨(some 6),.mov (.tmp 19),none⟩,
  ⟨(some 7),.mov (.tmp 20),none⟩])
 (.seq (.seq (.ops [⟨(some 21),.mov (.tmp 7),none⟩,
  ⟨(some 22),.bin .neq (.tmp 21) (.con (.int .i64 0)),none⟩])
 (.cond (.tmp 22)
 (.seq (.ops [⟨(some 4),.mov (.con (.int .i64 0)),none⟩,
  ⟨(some 5),.mov (.con (.bool false)),none⟩])
 .ret)
 .skip))
 (.seq (.ops [⟨(some 23),.mov (.tmp 0),none⟩,
  ⟨(some 24),.mov (.tmp 6),none⟩,
  ⟨(some 25),.mkFunc (.func 133) [(.tmp 24)] [],none⟩,
  ⟨(some 26),.mov (.tmp 6),none⟩,
  ⟨(some 27),.mkFunc (.func 134) [(.tmp 26)] [],none⟩,
  ⟨(some 28),.call 59 [(.tmp 23),(.con (.int .i64 0)),(.tmp 25),(.tmp 27)],none⟩])
 (.seq (.ops [⟨(some 30),.mov (.tmp 6),none⟩,
  ⟨(some 31),.call 135 [(.tmp 30)],none⟩,
  ⟨(some 29),.mov (.tmp 31),none⟩,
  ⟨(some 32),.extract (.tmp 29) 0,none⟩,
  ⟨(some 33),.extract (.tmp 29) 1,none⟩,
  ⟨(some 8),.new [(.int .i64 0),(.bool false),(.int .i64 0),.nilSlice],none⟩,
  ⟨none,.store 4 (.tmp 8) (.tmp 32),none⟩,
  ⟨(some 9),.mov (.tmp 33),none⟩])
 (.seq (.ops [⟨(some 34),.fieldAddr 2 (.tmp 8),none⟩,
  ⟨(some 35),.load false 1 (.tmp 34),none⟩,
  ⟨(some 36),.fieldAddr 1 (.tmp 8),none⟩,
  ⟨(some 37),.load false 1 (.tmp 36),none⟩,
  ⟨(some 4),.mov (.tmp 35),none⟩,
  ⟨(some 5),.mov (.tmp 37),none⟩])
 .ret))))))
def a90 : AFunc:=⟨2,c90,[.tmp 4,.tmp 5]⟩
theorem k90 : cFunc Tryz.prog Tryz.f90=some a90:=by kernel_rfl
/- 91: (*tendril/pool.Pool).Take -/
def c91 : ACode:=(.seq (.ops [⟨(some 2),.mov (.con (.int .i64 0)),none⟩,
  ⟨(some 3),.mov (.con (.bool false)),none⟩])
 (.seq (.seq (.ops [⟨(some 6),.mov (.tmp 0),none⟩,
  ⟨(some 7),.nilChk (.tmp 6),none⟩,
  ⟨(some 8),.fieldAddr 1 (.tmp 7),none⟩,
  ⟨(some 9),.load false 1 (.tmp 8),none⟩,
  ⟨(some 10),.lenSlice (.tmp 9),none⟩,
  ⟨(some 11),.bin .eql (.tmp 10) (.con (.int .i64 0)),none⟩])
 (.cond (.tmp 11)
 (.seq (.ops [⟨(some 2),.mov (.con (.int .i64 0)),none⟩,
  ⟨(some 3),.mov (.con (.bool false)),none⟩])
 .ret)
 .skip))
 (.seq (.ops [⟨(some 13),.mov (.tmp 0),none⟩,
  ⟨(some 14),.nilChk (.tmp 13),none⟩,
  ⟨(some 15),.fieldAddr 1 (.tmp 14),none⟩,
  ⟨(some 16),.mkIface 151 (.tmp 15),none⟩,
  ⟨(some 17),.call 136 [(.tmp 16)],none⟩,
  ⟨(some 18),.assertT 3 (.int .i64 0) true (.tmp 17),none⟩,
  ⟨(some 12),.mov (.tmp 18),none⟩,
  ⟨(some 19),.extract (.tmp 12) 0,none⟩,
  ⟨(some 20),.extract (.tmp 12) 1,none⟩,
  ⟨(some 4),.mov (.tmp 19),none⟩,
  ⟨(some 5),.mov (.tmp 20),none⟩])
 (.seq (.ops [⟨(some 21),.mov (.tmp 0),none⟩,
  ⟨(some 22),.nilChk (.tmp 21),none⟩,
  ⟨(some 23),.fieldAddr 2 (.tmp 22),none⟩,
  ⟨(some 24),.load false 1 (.tmp 23),none⟩,
  ⟨(some 25),.mov (.tmp 4),none⟩,
  ⟨none,.del 0 (.tmp 24) (.tmp 25),none⟩])
 (.seq (.ops [⟨(some 26),.mov (.tmp 4),none⟩,
  ⟨(some 2),.mov (.tmp 26),none⟩,
  ⟨(some 3),.mov (.con (.bool true)),none⟩])
 .ret)))))
def a91 : AFunc:=⟨1,c91,[.tmp 2,.tmp 3]⟩
theorem k91 : cFunc Tryz.prog Tryz.f91=some a91:=by kernel_rfl
/- 92: (*tendril/docs.Index).put -/
def c92 : ACode:=(.seq (.seq (.draw [.op ⟨(some 9),.mov (.tmp 1),none⟩,
  .op ⟨(some 10),.mov (.tmp 2),none⟩,
  .op ⟨(some 11),.build [(.int .i64 0),(.str []),(.str []),(.int .i64 0)] [(0,1,(.con (.int .i64 2))),(1,1,(.tmp 9)),(3,1,(.tmp 10))],none⟩,
  .op ⟨(some 12),.mov (.tmp 0),none⟩,
  .op ⟨(some 13),.nilChk (.tmp 12),none⟩,
  .op ⟨(some 14),.fieldAddr 8 (.tmp 13),none⟩,
  .op ⟨(some 15),.load false 1 (.tmp 14),none⟩,
  .op ⟨(some 17),.mov (.tmp 0),none⟩,
  .op ⟨(some 18),.nilChk (.tmp 17),none⟩,
  .op ⟨(some 19),.fieldAddr 0 (.tmp 18),none⟩,
  .op ⟨(some 20),.fieldAddr 7 (.tmp 19),none⟩,
  .op ⟨(some 21),.load false 1 (.tmp 20),none⟩,
  .op ⟨(some 16),.call 58 [(.tmp 15)],none⟩,
  .look ⟨(some 21),.load false 1 (.tmp 20),none⟩,
  .op ⟨(some 22),.call 137 [(.tmp 11),(.tmp 16),(.tmp 21)],none⟩,
  .op ⟨(some 8),.mov (.tmp 22),none⟩,
  .op ⟨(some 23),.extract (.tmp 8) 0,none⟩,
  .op ⟨(some 24),.extract (.tmp 8) 1,none⟩,
  .op ⟨(some 6),.mov (.tmp 23),none⟩,
  .op ⟨(some 7),.mov (.tmp 24),none⟩])
 (.seq (.ops [⟨(some 25),.mov (.tmp 7),none⟩,
  ⟨(some 26),.bin .eql (.tmp 25) (.con (.int .i64 0)),none⟩])
 (.cond (.tmp 26)
 (.ops [⟨(some 27),.mov (.tmp 0),none⟩,
  ⟨(some 28),.mov (.tmp 6),none⟩,
  ⟨(some 29),.mkFunc (.func 138) [(.tmp 28)] [],none⟩,
  ⟨(some 30),.mov (.tmp 6),none⟩,
  ⟨(some 31),.mkFunc (.func 139) [(.tmp 30)] [],none⟩,
  ⟨(some 32),.call 59 [(.tmp 27),(.con (.int .i64 0)),(.tmp 29),(.tmp 31)],none⟩])
 .skip)))
 (.ops [⟨(some 33),.mov (.tmp 0),none⟩,
  ⟨(some 34),.call 140 [(.tmp 33)],none⟩]))
def a92 : AFunc:=⟨3,c92,[]⟩
theorem k92 : cFunc Tryz.prog Tryz.f92=some a92:=by kernel_rfl
/- 93: (tendril/posting.List).Add -/
def c93 : ACode:=(.seq (.ops [⟨(some 2),.box (.tmp 0),none⟩,
  ⟨(some 4),.new [.nilSlice],none⟩,
  ⟨(some 5),.mov (.con (.bool false)),none⟩])
 (.seq (.ops [⟨(some 12),.load true 1 (.tmp 2),none⟩,
  ⟨(some 13),.mov (.tmp 1),none⟩,
  ⟨(some 14),.call 141 [(.tmp 12),(.tmp 13)],none⟩,
  ⟨(some 11),.mov (.tmp 14),none⟩,
  ⟨(some 15),.extract (.tmp 11) 0,none⟩,
  ⟨(some 16),.extract (.tmp 11) 1,none⟩,
  ⟨(some 17),.extract (.tmp 11) 2,none⟩,
  ⟨(some 6),.mov (.tmp 15),none⟩,
  ⟨(some 7),.mov (.tmp 16),none⟩,
  ⟨(some 8),.mov (.tmp 17),none⟩])
 (.seq (.block 0 (.seq (.ops [⟨(some 19),.mov (.tmp 1),none⟩,
  ⟨(some 20),.bin .lss (.tmp 19) (.con (.int .i64 0)),none⟩,
  ⟨(some 21),.mov (.tmp 20),none⟩,
  ⟨(some 22),.mov (.tmp 1),(some (21,false))⟩,
  ⟨(some 23),.bin .gtr (.tmp 22) (.con (.int .i64 1073741824)),(some (21,false))⟩,
  ⟨(some 24),.pick (.tmp 21) (.con (.bool true)) (.tmp 23),none⟩,
  ⟨(some 25),.mov (.tmp 24),none⟩,
  ⟨(some 26),.mov (.tmp 8),(some (25,false))⟩,
  ⟨(some 27),.pick (.tmp 25) (.con (.bool true)) (.tmp 26),none⟩,
  ⟨(some 18),.mov (.tmp 27),none⟩])
 (.cond (.tmp 18)
 (.seq (.ops [⟨(some 28),.load true 1 (.tmp 2),none⟩,
  ⟨none,.store 1 (.tmp 4) (.tmp 28),none⟩,
  ⟨(some 5),.mov (.con (.bool false)),none⟩])
 .ret)
 (.seq (.ops [⟨(some 30),.fieldAddr 0 (.tmp 2),none⟩,
  ⟨(some 31),.load false 1 (.tmp 30),none⟩,
  ⟨(some 32),.lenSlice (.tmp 31),none⟩,
  ⟨(some 33),.bin .eql (.tmp 32) (.con (.int .i64 0)),none⟩,
  ⟨(some 29),.mov (.tmp 33),none⟩])
 (.cond (.tmp 29)
 (.seq (.ops [⟨(some 34),.mov (.tmp 1),none⟩,
  ⟨(some 35),.buildSlice 1 1 [(.int .i64 0)] [(0,1,(.tmp 34))],none⟩,
  ⟨(some 36),.buildSlice 1 1 [.nilSlice] [(0,1,(.tmp 35))],none⟩,
  ⟨(some 37),.build [.nilSlice] [(0,1,(.tmp 36))],none⟩,
  ⟨none,.store 1 (.tmp 4) (.tmp 37),none⟩,
  ⟨(some 5),.mov (.con (.bool true)),none⟩])
 .ret)
 .skip)))))
 (.seq (.ops [⟨(some 38),.fieldAddr 0 (.tmp 2),none⟩,
  ⟨(some 39),.load false 1 (.tmp 38),none⟩,
  ⟨(some 40),.mov (.tmp 6),none⟩,
  ⟨(some 41),.idxAddr 1 (.tmp 39) (.tmp 40),none⟩,
  ⟨(some 42),.load false 1 (.tmp 41),none⟩,
  ⟨(some 43),.call 143 [(.tmp 42)],none⟩,
  ⟨(some 44),.mov (.tmp 7),none⟩,
  ⟨(some 45),.mov (.tmp 1),none⟩,
  ⟨(some 46),.buildSlice 1 1 [(.int .i64 0)] [(0,1,(.tmp 45))],none⟩,
  ⟨(some 47),.call 142 [(.tmp 43),(.tmp 44),(.tmp 46)],none⟩,
  ⟨(some 9),.mov (.tmp 47),none⟩])
 (.seq (.seq (.ops [⟨(some 48),.mov (.tmp 9),none⟩,
  ⟨(some 49),.lenSlice (.tmp 48),none⟩,
  ⟨(some 50),.bin .leq (.tmp 49) (.con (.int .i64 16)),none⟩])
 (.cond (.tmp 50)
 (.seq (.ops [⟨(some 51),.load true 1 (.tmp 2),none⟩,
  ⟨(some 52),.mov (.tmp 6),none⟩,
  ⟨(some 53),.mov (.tmp 6),none⟩,
  ⟨(some 54),.bin .add (.tmp 53) (.con (.int .i64 1)),none⟩,
  ⟨(some 55),.mov (.tmp 9),none⟩,
  ⟨(some 56),.buildSlice 1 1 [.nilSlice] [(0,1,(.tmp 55))],none⟩,
  ⟨(some 57),.call 144 [(.tmp 51),(.tmp 52),(.tmp 54),(.tmp 56)],none⟩,
  ⟨none,.store 1 (.tmp 4) (.tmp 57),none⟩,
  ⟨(some 5),.mov (.con (.bool true)),none⟩])
 .ret)
 .skip))
 (.seq (.ops [⟨(some 58),.mov (.tmp 9),none⟩,
  ⟨(some 59),.lenSlice (.tmp 58),none⟩,
  ⟨(some 60),.bin .add (.tmp 59) (.con (.int .i64 1)),none⟩,
  ⟨(some 61),.bin .quo (.tmp 60) (.con (.int .i64 2)),none⟩,
  ⟨(some 10),.mov (.tmp 61),none⟩])
 (.seq (.draw [.op ⟨(some 62),.load true 1 (.tmp 2),none⟩,
  .op ⟨(some 63),.mov (.tmp 6),none⟩,
  .op ⟨(some 64),.mov (.tmp 6),none⟩,
  .op ⟨(some 65),.bin .add (.tmp 64) (.con (.int .i64 1)),none⟩,
  .op ⟨(some 66),.mov (.tmp 9),none⟩,
  .op ⟨(some 67),.mov (.tmp 10),none⟩,
  .op ⟨(some 68),.slc 1 (.tmp 66) none (some (.tmp 67)) none,none⟩,
  .op ⟨(some 70),.mov (.tmp 9),none⟩,
  .op ⟨(some 71),.mov (.tmp 10),none⟩,
  .op ⟨(some 72),.slc 1 (.tmp 70) (some (.tmp 71)) none none,none⟩,
  .op ⟨(some 69),.call 143 [(.tmp 68)],none⟩,
  .look ⟨(some 62),.load true 1 (.tmp 2),none⟩,
  .op ⟨(some 73),.call 143 [(.tmp 72)],none⟩,
  .op ⟨(some 74),.buildSlice 1 2 [.nilSlice,.nilSlice] [(0,1,(.tmp 69)),(1,1,(.tmp 73))],none⟩,
  .look ⟨(some 62),.load true 1 (.tmp 2),none⟩,
  .look ⟨(some 74),.buildSlice 1 2 [.nilSlice,.nilSlice] [(0,1,(.tmp 69)),(1,1,(.tmp 73))],none⟩,
  .op ⟨(some 75),.call 144 [(.tmp 62),(.tmp 63),(.tmp 65),(.tmp 74)],none⟩,
  .op ⟨none,.store 1 (.tmp 4) (.tmp 75),none⟩,
  .op ⟨(some 5),.mov (.con (.bool true)),none⟩])
 .ret)))))))
def a93 : AFunc:=⟨2,c93,[.cell 4 true 1,.tmp 5]⟩
theorem k93 : cFunc Tryz.prog Tryz.f93=some a93:=by kernel_rfl
/- 78: strings.IndexByte -/
def c78 : ACode:=(.seq (.ops [⟨(some 4),.mov (.con (.int .i64 0)),none⟩])
 (.seq (.ops [⟨(some 5),.mov (.tmp 0),none⟩,
  ⟨(some 6),.mov (.tmp 1),none⟩,
  ⟨(some 7),.call 118 [(.tmp 5),(.tmp 6)],none⟩,
  ⟨(some 4),.mov (.tmp 7),none⟩])
 .ret))
def a78 : AFunc:=⟨2,c78,[.tmp 4]⟩
theorem k78 : cFunc Tryz.prog Tryz.f78=some a78:=by kernel_rfl
/- 96: (tendril/posting.List).Ids -/
def c96 : ACode:=(.seq (.ops [⟨(some 1),.box (.tmp 0),none⟩,
  ⟨(some 2),.mov (.con .nilSlice),none⟩])
 (.seq (.ops [⟨(some 3),.fieldAddr 0 (.tmp 1),none⟩,
  ⟨(some 4),.load false 1 (.tmp 3),none⟩,
  ⟨(some 5),.call 146 [(.tmp 4)],none⟩,
  ⟨(some 2),.mov (.tmp 5),none⟩])
 .ret))
def a96 : AFunc:=⟨1,c96,[.tmp 2]⟩
theorem k96 : cFunc Tryz.prog Tryz.f96=some a96:=by kernel_rfl
/- 97: (*tendril/query.reader).or -/
def c97l0 : ACode:=(.seq (.seq (.ops [⟨(some 4),.mov (.tmp 0),none⟩,
  ⟨(some 5),.nilChk (.tmp 4),none⟩,
  ⟨(some 6),.fieldAddr 3 (.tmp 5),none⟩,
  ⟨(some 7),.load false 1 (.tmp 6),none⟩,
  ⟨(some 8),.bin .eql (.tmp 7) (.con (.int .i64 0)),none⟩,
  ⟨(some 9),.mov (.tmp 8),none⟩,
  ⟨(some 10),.mov (.tmp 0),(some (9,true))⟩,
  ⟨(some 11),.call 148 [(.tmp 10),(.con (.int .u8 124))],(some (9,true))⟩,
  ⟨(some 12),.pick (.tmp 9) (.tmp 11) (.con (.bool false)),none⟩])
 (.cond (.tmp 12)
 .skip
 (.exit 0)))
 (.block 1 (.seq (.ops [⟨(some 13),.mov (.tmp 0),none⟩,
  ⟨(some 14),.call 147 [(.tmp 13)],none⟩])
 (.ops [⟨(some 15),.mov (.tmp 0),none⟩,
  ⟨(some 16),.call 149 [(.tmp 15),(.con (.int .i64 3)),(.con (.str []))],none⟩]))))
def c97 : ACode:=(.seq (.ops [⟨(some 2),.mov (.tmp 0),none⟩,
  ⟨(some 3),.call 147 [(.tmp 2)],none⟩])
 (.block 0 (.loop c97l0)))
def a97 : AFunc:=⟨1,c97,[]⟩
theorem k97 : cFunc Tryz.prog Tryz.f97=some a97:=by kernel_rfl
/- 98: (*tendril/query.reader).peek -/
def c98l0 : ACode:=(.seq (.seq (.ops [⟨(some 4),.mov (.tmp 0),none⟩,
  ⟨(some 5),.nilChk (.tmp 4),none⟩,
  ⟨(some 6),.fieldAddr 0 (.tmp 5),none⟩,
  ⟨(some 7),.load false 1 (.tmp 6),none⟩,
  ⟨(some 8),.bin .neq (.tmp 7) (.con (.str [])),none⟩,
  ⟨(some 9),.mov (.tmp 8),none⟩,
  ⟨(some 10),.mov (.tmp 0),(some (9,true))⟩,
  ⟨(some 11),.nilChk (.tmp 10),(some (9,true))⟩,
  ⟨(some 12),.fieldAddr 0 (.tmp 11),(some (9,true))⟩,
  ⟨(some 13),.load false 1 (.tmp 12),(some (9,true))⟩,
  ⟨(some 14),.idxStr (.tmp 13) (.con (.int .i64 0)),(some (9,true))⟩,
  ⟨(some 15),.bin .eql (.tmp 14) (.con (.int .u8 32)),(some (9,true))⟩,
  ⟨(some 16),.pick (.tmp 9) (.tmp 15) (.con (.bool false)),none⟩])
 (.cond (.tmp 16)
 .skip
 (.exit 0)))
 (.block 1 (.ops [⟨(some 17),.mov (.tmp 0),none⟩,
  ⟨(some 18),.mov (.tmp 0),none⟩,
  ⟨(some 19),.nilChk (.tmp 18),none⟩,
  ⟨(some 20),.fieldAddr 0 (.tmp 19),none⟩,
  ⟨(some 21),.load false 1 (.tmp 20),none⟩,
  ⟨(some 22),.slcStr (.tmp 21) (some (.con (.int .i64 1))) none,none⟩,
  ⟨(some 23),.nilChk (.tmp 17),none⟩,
  ⟨(some 24),.fieldAddr 0 (.tmp 23),none⟩,
  ⟨none,.store 1 (.tmp 24) (.tmp 22),none⟩])))
def c98 : ACode:=(.seq (.ops [⟨(some 2),.mov (.con (.int .u8 0)),none⟩,
  ⟨(some 3),.mov (.con (.bool false)),none⟩])
 (.seq (.block 0 (.loop c98l0))
 (.seq (.seq (.ops [⟨(some 25),.mov (.tmp 0),none⟩,
  ⟨(some 26),.nilChk (.tmp 25),none⟩,
  ⟨(some 27),.fieldAddr 0 (.tmp 26),none⟩,
  ⟨(some 28),.load false 1 (.tmp 27),none⟩,
  ⟨(some 29),.bin .eql (.tmp 28) (.con (.str [])),none⟩])
 (.cond (.tmp 29)
 (.seq (.ops [⟨(some 2),.mov (.con (.int .u8 0)),none⟩,
  ⟨(some 3),.mov (.con (.bool false)),none⟩])
 .ret)
 .skip))
 (.seq (.ops [⟨(some 30),.mov (.tmp 0),none⟩,
  ⟨(some 31),.nilChk (.tmp 30),none⟩,
  ⟨(some 32),.fieldAddr 0 (.tmp 31),none⟩,
  ⟨(some 33),.load false 1 (.tmp 32),none⟩,
  ⟨(some 34),.idxStr (.tmp 33) (.con (.int .i64 0)),none⟩,
  ⟨(some 2),.mov (.tmp 34),none⟩,
  ⟨(some 3),.mov (.con (.bool true)),none⟩])
 .ret))))
def a98 : AFunc:=⟨1,c98,[.tmp 2,.tmp 3]⟩
theorem k98 : cFunc Tryz.prog Tryz.f98=some a98:=by kernel_rfl
end Go.Proofs.YtakgcpmemalmaaaGreatDoor

/- Texts as words, words as texts; lists with room behind them: what the small functions of the program, its references and its book come to. -/
import Derived.Test.YtakgcpmemalmaaaGreatDoorVmZn
namespace Go.Vm
open Go.RowKit
set_option linter.unusedSimpArgs false
set_option linter.unusedVariables false
variable {T : Vm.Prog} {h : AH}
def cCount : ACode:=(.seq (.ops [⟨(some 2),.mov (.con (.int .i64 0)),none⟩])
 (.seq (.seq (.ops [⟨(some 3),.mov (.tmp 0),none⟩,
  ⟨(some 4),.bin .leq (.tmp 3) (.con (.int .i64 0)),none⟩])
 (.cond (.tmp 4)
 (.seq (.ops [⟨(some 2),.mov (.con (.int .i64 0)),none⟩])
 .ret)
 .skip))
 (.seq (.ops [⟨(some 5),.mov (.tmp 0),none⟩,
  ⟨(some 6),.bin .sub (.tmp 5) (.con (.int .i64 1)),none⟩,
  ⟨(some 7),.bin .quo (.tmp 6) (.con (.int .i64 8)),none⟩,
  ⟨(some 8),.bin .add (.tmp 7) (.con (.int .i64 1)),none⟩,
  ⟨(some 2),.mov (.tmp 8),none⟩])
 .ret)))
def aCount : AFunc:=⟨1,cCount,[.tmp 2]⟩
def cWordsl0 : ACode:=(.seq (.ops [⟨(some 12),.bin .lss (.tmp 11) (.tmp 10),none⟩])
 (.seq (.cond (.tmp 12)
 .skip
 (.exit 0))
 (.seq (.block 1 (.seq (.ops [⟨(some 13),.mov (.tmp 11),none⟩,
  ⟨(some 4),.mov (.tmp 13),none⟩])
 (.ops [⟨(some 14),.mov (.tmp 3),none⟩,
  ⟨(some 15),.mov (.tmp 4),none⟩,
  ⟨(some 16),.bin .quo (.tmp 15) (.con (.int .i64 8)),none⟩,
  ⟨(some 17),.idxAddr 1 (.tmp 14) (.tmp 16),none⟩,
  ⟨(some 18),.load false 1 (.tmp 17),none⟩,
  ⟨(some 19),.mov (.tmp 0),none⟩,
  ⟨(some 20),.mov (.tmp 4),none⟩,
  ⟨(some 21),.idxStr (.tmp 19) (.tmp 20),none⟩,
  ⟨(some 22),.toInt .u64 (.tmp 21),none⟩,
  ⟨(some 23),.mov (.tmp 4),none⟩,
  ⟨(some 24),.bin .rem (.tmp 23) (.con (.int .i64 8)),none⟩,
  ⟨(some 25),.bin .mul (.con (.int .i64 8)) (.tmp 24),none⟩,
  ⟨(some 26),.toInt .u64 (.tmp 25),none⟩,
  ⟨(some 27),.bin .shl (.tmp 22) (.tmp 26),none⟩,
  ⟨(some 28),.bin .or (.tmp 18) (.tmp 27),none⟩,
  ⟨(some 29),.idxAddr 1 (.tmp 14) (.tmp 16),none⟩,
  ⟨none,.store 1 (.tmp 29) (.tmp 28),none⟩])))
 (.ops [⟨(some 30),.bin .add (.tmp 11) (.con (.int .i64 1)),none⟩,
  ⟨(some 11),.mov (.tmp 30),none⟩]))))
def cWords (gc : Nat) : ACode:=(.seq (.ops [⟨(some 2),.mov (.con .nilSlice),none⟩])
 (.seq (.ops [⟨(some 5),.mov (.tmp 0),none⟩,
  ⟨(some 6),.lenStr (.tmp 5),none⟩,
  ⟨(some 7),.call gc [(.tmp 6)],none⟩,
  ⟨(some 8),.mkSlice 1 8 [(.int .u64 0)] (.tmp 7) (.tmp 7),none⟩,
  ⟨(some 3),.mov (.tmp 8),none⟩])
 (.seq (.seq (.ops [⟨(some 9),.mov (.tmp 0),none⟩,
  ⟨(some 10),.lenStr (.tmp 9),none⟩,
  ⟨(some 11),.mov (.con (.int .i64 0)),none⟩])
 (.block 0 (.loop cWordsl0)))
 (.seq (.ops [⟨(some 31),.mov (.tmp 3),none⟩,
  ⟨(some 2),.mov (.tmp 31),none⟩])
 .ret))))
def aWords (gc : Nat) : AFunc:=⟨1,cWords gc,[.tmp 2]⟩
def cRWordsl0 : ACode:=(.seq (.seq (.ops [⟨(some 10),.mov (.tmp 4),none⟩,
  ⟨(some 11),.mov (.tmp 0),none⟩,
  ⟨(some 12),.lenStr (.tmp 11),none⟩,
  ⟨(some 13),.bin .lss (.tmp 10) (.tmp 12),none⟩])
 (.cond (.tmp 13)
 .skip
 (.exit 0)))
 (.seq (.block 1 (.ops [⟨(some 16),.mov (.tmp 3),none⟩,
  ⟨(some 17),.mov (.tmp 4),none⟩,
  ⟨(some 18),.bin .quo (.tmp 17) (.con (.int .i64 8)),none⟩,
  ⟨(some 19),.mov (.tmp 3),none⟩,
  ⟨(some 20),.mov (.tmp 4),none⟩,
  ⟨(some 21),.bin .quo (.tmp 20) (.con (.int .i64 8)),none⟩,
  ⟨(some 22),.idxAddr 1 (.tmp 19) (.tmp 21),none⟩,
  ⟨(some 23),.load false 1 (.tmp 22),none⟩,
  ⟨(some 24),.mov (.tmp 0),none⟩,
  ⟨(some 25),.mov (.tmp 4),none⟩,
  ⟨(some 26),.idxStr (.tmp 24) (.tmp 25),none⟩,
  ⟨(some 27),.toInt .u64 (.tmp 26),none⟩,
  ⟨(some 28),.mov (.tmp 4),none⟩,
  ⟨(some 29),.bin .rem (.tmp 28) (.con (.int .i64 8)),none⟩,
  ⟨(some 30),.bin .mul (.con (.int .i64 8)) (.tmp 29),none⟩,
  ⟨(some 31),.bin .shl (.tmp 27) (.tmp 30),none⟩,
  ⟨(some 32),.bin .or (.tmp 23) (.tmp 31),none⟩,
  ⟨(some 33),.idxAddr 1 (.tmp 16) (.tmp 18),none⟩,
  ⟨none,.store 1 (.tmp 33) (.tmp 32),none⟩]))
 (.ops [⟨(some 14),.mov (.tmp 4),none⟩,
  ⟨(some 15),.bin .add (.tmp 14) (.con (.int .i64 1)),none⟩,
  ⟨(some 4),.mov (.tmp 15),none⟩])))
def cRWords : ACode:=(.seq (.ops [⟨(some 2),.mov (.con .nilSlice),none⟩])
 (.seq (.ops [⟨(some 5),.mov (.tmp 0),none⟩,
  ⟨(some 6),.lenStr (.tmp 5),none⟩,
  ⟨(some 7),.bin .add (.tmp 6) (.con (.int .i64 7)),none⟩,
  ⟨(some 8),.bin .quo (.tmp 7) (.con (.int .i64 8)),none⟩,
  ⟨(some 9),.mkSlice 1 8 [(.int .u64 0)] (.tmp 8) (.tmp 8),none⟩,
  ⟨(some 3),.mov (.tmp 9),none⟩])
 (.seq (.seq (.ops [⟨(some 4),.mov (.con (.int .i64 0)),none⟩])
 (.block 0 (.loop cRWordsl0)))
 (.seq (.ops [⟨(some 34),.mov (.tmp 3),none⟩,
  ⟨(some 2),.mov (.tmp 34),none⟩])
 .ret))))
def aRWords : AFunc:=⟨1,cRWords,[.tmp 2]⟩
def cBytesl0 : ACode:=(.seq (.ops [⟨(some 32),.bin .lss (.tmp 31) (.con (.int .i64 8)),none⟩])
 (.seq (.cond (.tmp 32)
 .skip
 (.exit 2))
 (.seq (.block 3 (.seq (.ops [⟨(some 33),.mov (.tmp 31),none⟩,
  ⟨(some 9),.mov (.tmp 33),none⟩])
 (.ops [⟨(some 34),.mov (.tmp 6),none⟩,
  ⟨(some 35),.mov (.tmp 8),none⟩,
  ⟨(some 36),.mov (.tmp 9),none⟩,
  ⟨(some 37),.bin .mul (.con (.int .i64 8)) (.tmp 36),none⟩,
  ⟨(some 38),.toInt .u64 (.tmp 37),none⟩,
  ⟨(some 39),.bin .shr (.tmp 35) (.tmp 38),none⟩,
  ⟨(some 40),.toInt .u8 (.tmp 39),none⟩,
  ⟨(some 41),.buildSlice 1 1 [(.int .u8 0)] [(0,1,(.tmp 40))],none⟩,
  ⟨(some 42),.append 1 1 (.tmp 34) (.tmp 41),none⟩,
  ⟨(some 6),.mov (.tmp 42),none⟩])))
 (.ops [⟨(some 43),.bin .add (.tmp 31) (.con (.int .i64 1)),none⟩,
  ⟨(some 31),.mov (.tmp 43),none⟩]))))
def cBytesl1 : ACode:=(.seq (.ops [⟨(some 28),.bin .lss (.tmp 27) (.tmp 26),none⟩])
 (.seq (.cond (.tmp 28)
 .skip
 (.exit 0))
 (.seq (.block 1 (.seq (.ops [⟨(some 29),.idxAddr 1 (.tmp 25) (.tmp 27),none⟩,
  ⟨(some 30),.load false 1 (.tmp 29),none⟩,
  ⟨(some 8),.mov (.tmp 30),none⟩])
 (.seq (.ops [⟨(some 31),.mov (.con (.int .i64 0)),none⟩])
 (.block 2 (.loop cBytesl0)))))
 (.ops [⟨(some 44),.bin .add (.tmp 27) (.con (.int .i64 1)),none⟩,
  ⟨(some 27),.mov (.tmp 44),none⟩]))))
def cBytesl2 : ACode:=(.seq (.ops [⟨(some 50),.bin .lss (.tmp 49) (.tmp 48),none⟩])
 (.seq (.cond (.tmp 50)
 .skip
 (.exit 4))
 (.seq (.block 5 (.seq (.ops [⟨(some 51),.idxAddr 1 (.tmp 47) (.tmp 49),none⟩,
  ⟨(some 52),.load false 1 (.tmp 51),none⟩,
  ⟨(some 11),.mov (.tmp 52),none⟩])
 (.seq (.ops [⟨(some 53),.mov (.tmp 11),none⟩,
  ⟨(some 54),.bin .neq (.tmp 53) (.con (.int .u8 0)),none⟩])
 (.cond (.tmp 54)
 (.seq (.ops [⟨(some 4),.mov (.con (.str [])),none⟩,
  ⟨(some 5),.mov (.con (.int .i64 5)),none⟩])
 .ret)
 .skip))))
 (.ops [⟨(some 55),.bin .add (.tmp 49) (.con (.int .i64 1)),none⟩,
  ⟨(some 49),.mov (.tmp 55),none⟩]))))
def cBytes : ACode:=(.seq (.ops [⟨(some 4),.mov (.con (.str [])),none⟩,
  ⟨(some 5),.mov (.con (.int .i64 0)),none⟩])
 (.seq (.seq (.ops [⟨(some 12),.mov (.tmp 1),none⟩,
  ⟨(some 13),.bin .lss (.tmp 12) (.con (.int .i64 0)),none⟩,
  ⟨(some 14),.mov (.tmp 13),none⟩,
  ⟨(some 15),.mov (.tmp 1),(some (14,false))⟩,
  ⟨(some 16),.mov (.tmp 0),(some (14,false))⟩,
  ⟨(some 17),.lenSlice (.tmp 16),(some (14,false))⟩,
  ⟨(some 18),.bin .mul (.con (.int .i64 8)) (.tmp 17),(some (14,false))⟩,
  ⟨(some 19),.bin .gtr (.tmp 15) (.tmp 18),(some (14,false))⟩,
  ⟨(some 20),.pick (.tmp 14) (.con (.bool true)) (.tmp 19),none⟩])
 (.cond (.tmp 20)
 (.seq (.ops [⟨(some 4),.mov (.con (.str [])),none⟩,
  ⟨(some 5),.mov (.con (.int .i64 1)),none⟩])
 .ret)
 .skip))
 (.seq (.ops [⟨(some 21),.mov (.tmp 0),none⟩,
  ⟨(some 22),.lenSlice (.tmp 21),none⟩,
  ⟨(some 23),.bin .mul (.con (.int .i64 8)) (.tmp 22),none⟩,
  ⟨(some 24),.mkSlice 1 1 [(.int .u8 0)] (.con (.int .i64 0)) (.tmp 23),none⟩,
  ⟨(some 6),.mov (.tmp 24),none⟩])
 (.seq (.seq (.ops [⟨(some 25),.mov (.tmp 0),none⟩,
  ⟨(some 26),.lenSlice (.tmp 25),none⟩,
  ⟨(some 27),.mov (.con (.int .i64 0)),none⟩])
 (.block 0 (.loop cBytesl1)))
 (.seq (.seq (.ops [⟨(some 45),.mov (.tmp 6),none⟩,
  ⟨(some 46),.mov (.tmp 1),none⟩,
  ⟨(some 47),.slc 1 (.tmp 45) (some (.tmp 46)) none none,none⟩,
  ⟨(some 48),.lenSlice (.tmp 47),none⟩,
  ⟨(some 49),.mov (.con (.int .i64 0)),none⟩])
 (.block 4 (.loop cBytesl2)))
 (.seq (.ops [⟨(some 56),.mov (.tmp 6),none⟩,
  ⟨(some 57),.mov (.tmp 1),none⟩,
  ⟨(some 58),.slc 1 (.tmp 56) none (some (.tmp 57)) none,none⟩,
  ⟨(some 59),.toStr (.tmp 58),none⟩,
  ⟨(some 4),.mov (.tmp 59),none⟩,
  ⟨(some 5),.mov (.con (.int .i64 0)),none⟩])
 .ret))))))
def aBytes : AFunc:=⟨2,cBytes,[.tmp 4,.tmp 5]⟩
def cRBytesl0 : ACode:=(.seq (.seq (.ops [⟨(some 20),.mov (.tmp 7),none⟩,
  ⟨(some 21),.mov (.tmp 1),none⟩,
  ⟨(some 22),.bin .lss (.tmp 20) (.tmp 21),none⟩])
 (.cond (.tmp 22)
 .skip
 (.exit 0)))
 (.seq (.block 1 (.ops [⟨(some 25),.mov (.tmp 6),none⟩,
  ⟨(some 26),.mov (.tmp 7),none⟩,
  ⟨(some 27),.mov (.tmp 0),none⟩,
  ⟨(some 28),.mov (.tmp 7),none⟩,
  ⟨(some 29),.bin .quo (.tmp 28) (.con (.int .i64 8)),none⟩,
  ⟨(some 30),.idxAddr 1 (.tmp 27) (.tmp 29),none⟩,
  ⟨(some 31),.load false 1 (.tmp 30),none⟩,
  ⟨(some 32),.mov (.tmp 7),none⟩,
  ⟨(some 33),.bin .rem (.tmp 32) (.con (.int .i64 8)),none⟩,
  ⟨(some 34),.bin .mul (.con (.int .i64 8)) (.tmp 33),none⟩,
  ⟨(some 35),.bin .shr (.tmp 31) (.tmp 34),none⟩,
  ⟨(some 36),.toInt .u8 (.tmp 35),none⟩,
  ⟨(some 37),.idxAddr 1 (.tmp 25) (.tmp 26),none⟩,
  ⟨none,.store 1 (.tmp 37) (.tmp 36),none⟩]))
 (.ops [⟨(some 23),.mov (.tmp 7),none⟩,
  ⟨(some 24),.bin .add (.tmp 23) (.con (.int .i64 1)),none⟩,
  ⟨(some 7),.mov (.tmp 24),none⟩])))
def cRBytesl1 : ACode:=(.seq (.seq (.ops [⟨(some 39),.mov (.tmp 8),none⟩,
  ⟨(some 40),.mov (.tmp 0),none⟩,
  ⟨(some 41),.lenSlice (.tmp 40),none⟩,
  ⟨(some 42),.bin .mul (.con (.int .i64 8)) (.tmp 41),none⟩,
  ⟨(some 43),.bin .lss (.tmp 39) (.tmp 42),none⟩])
 (.cond (.tmp 43)
 .skip
 (.exit 2)))
 (.seq (.block 3 (.seq (.ops [⟨(some 46),.mov (.tmp 0),none⟩,
  ⟨(some 47),.mov (.tmp 8),none⟩,
  ⟨(some 48),.bin .quo (.tmp 47) (.con (.int .i64 8)),none⟩,
  ⟨(some 49),.idxAddr 1 (.tmp 46) (.tmp 48),none⟩,
  ⟨(some 50),.load false 1 (.tmp 49),none⟩,
  ⟨(some 51),.mov (.tmp 8),none⟩,
  ⟨(some 52),.bin .rem (.tmp 51) (.con (.int .i64 8)),none⟩,
  ⟨(some 53),.bin .mul (.con (.int .i64 8)) (.tmp 52),none⟩,
  ⟨(some 54),.bin .shr (.tmp 50) (.tmp 53),none⟩,
  ⟨(some 55),.toInt .u8 (.tmp 54),none⟩,
  ⟨(some 56),.bin .neq (.tmp 55) (.con (.int .u8 0)),none⟩])
 (.cond (.tmp 56)
 (.seq (.ops [⟨(some 4),.mov (.con (.str [])),none⟩,
  ⟨(some 5),.mov (.con (.int .i64 5)),none⟩])
 .ret)
 .skip)))
 (.ops [⟨(some 44),.mov (.tmp 8),none⟩,
  ⟨(some 45),.bin .add (.tmp 44) (.con (.int .i64 1)),none⟩,
  ⟨(some 8),.mov (.tmp 45),none⟩])))
def cRBytes : ACode:=(.seq (.ops [⟨(some 4),.mov (.con (.str [])),none⟩,
  ⟨(some 5),.mov (.con (.int .i64 0)),none⟩])
 (.seq (.seq (.ops [⟨(some 9),.mov (.tmp 1),none⟩,
  ⟨(some 10),.bin .lss (.tmp 9) (.con (.int .i64 0)),none⟩,
  ⟨(some 11),.mov (.tmp 10),none⟩,
  ⟨(some 12),.mov (.tmp 1),(some (11,false))⟩,
  ⟨(some 13),.mov (.tmp 0),(some (11,false))⟩,
  ⟨(some 14),.lenSlice (.tmp 13),(some (11,false))⟩,
  ⟨(some 15),.bin .mul (.con (.int .i64 8)) (.tmp 14),(some (11,false))⟩,
  ⟨(some 16),.bin .gtr (.tmp 12) (.tmp 15),(some (11,false))⟩,
  ⟨(some 17),.pick (.tmp 11) (.con (.bool true)) (.tmp 16),none⟩])
 (.cond (.tmp 17)
 (.seq (.ops [⟨(some 4),.mov (.con (.str [])),none⟩,
  ⟨(some 5),.mov (.con (.int .i64 1)),none⟩])
 .ret)
 .skip))
 (.seq (.ops [⟨(some 18),.mov (.tmp 1),none⟩,
  ⟨(some 19),.mkSlice 1 1 [(.int .u8 0)] (.tmp 18) (.tmp 18),none⟩,
  ⟨(some 6),.mov (.tmp 19),none⟩])
 (.seq (.seq (.ops [⟨(some 7),.mov (.con (.int .i64 0)),none⟩])
 (.block 0 (.loop cRBytesl0)))
 (.seq (.seq (.ops [⟨(some 38),.mov (.tmp 1),none⟩,
  ⟨(some 8),.mov (.tmp 38),none⟩])
 (.block 2 (.loop cRBytesl1)))
 (.seq (.ops [⟨(some 57),.mov (.tmp 6),none⟩,
  ⟨(some 58),.toStr (.tmp 57),none⟩,
  ⟨(some 4),.mov (.tmp 58),none⟩,
  ⟨(some 5),.mov (.con (.int .i64 0)),none⟩])
 .ret))))))
def aRBytes : AFunc:=⟨2,cRBytes,[.tmp 4,.tmp 5]⟩
def cRoomyl0 : ACode:=(.seq (.seq (.ops [⟨(some 16),.mov (.tmp 6),none⟩,
  ⟨(some 17),.mov (.tmp 5),none⟩,
  ⟨(some 18),.lenSlice (.tmp 17),none⟩,
  ⟨(some 19),.bin .lss (.tmp 16) (.tmp 18),none⟩])
 (.cond (.tmp 19)
 .skip
 (.exit 0)))
 (.seq (.block 1 (.ops [⟨(some 22),.mov (.tmp 5),none⟩,
  ⟨(some 23),.mov (.tmp 6),none⟩,
  ⟨(some 24),.mov (.tmp 1),none⟩,
  ⟨(some 25),.idxAddr 1 (.tmp 22) (.tmp 23),none⟩,
  ⟨none,.store 1 (.tmp 25) (.tmp 24),none⟩]))
 (.ops [⟨(some 20),.mov (.tmp 6),none⟩,
  ⟨(some 21),.bin .add (.tmp 20) (.con (.int .i64 1)),none⟩,
  ⟨(some 6),.mov (.tmp 21),none⟩])))
def cRoomy (bytes : Nat) (z : AV) : ACode:=(.seq (.ops [⟨(some 4),.mov (.con .nilSlice),none⟩])
 (.seq (.ops [⟨(some 7),.mov (.tmp 0),none⟩,
  ⟨(some 8),.lenSlice (.tmp 7),none⟩,
  ⟨(some 9),.bin .add (.tmp 8) (.con (.int .i64 80)),none⟩,
  ⟨(some 10),.mkSlice 1 bytes [z] (.tmp 9) (.tmp 9),none⟩,
  ⟨(some 5),.mov (.tmp 10),none⟩])
 (.seq (.ops [⟨(some 11),.mov (.tmp 5),none⟩,
  ⟨(some 12),.mov (.tmp 0),none⟩,
  ⟨(some 13),.copy 1 (.tmp 11) (.tmp 12),none⟩])
 (.seq (.seq (.ops [⟨(some 14),.mov (.tmp 0),none⟩,
  ⟨(some 15),.lenSlice (.tmp 14),none⟩,
  ⟨(some 6),.mov (.tmp 15),none⟩])
 (.block 0 (.loop cRoomyl0)))
 (.seq (.ops [⟨(some 26),.mov (.tmp 5),none⟩,
  ⟨(some 4),.mov (.tmp 26),none⟩])
 .ret)))))
def aRoomy (bytes : Nat) (z : AV) : AFunc:=⟨2,cRoomy bytes z,[.tmp 4]⟩
def cIntactl0 : ACode:=(.seq (.seq (.ops [⟨(some 25),.mov (.tmp 7),none⟩,
  ⟨(some 26),.mov (.tmp 0),none⟩,
  ⟨(some 27),.lenSlice (.tmp 26),none⟩,
  ⟨(some 28),.bin .lss (.tmp 25) (.tmp 27),none⟩])
 (.cond (.tmp 28)
 .skip
 (.exit 0)))
 (.seq (.block 1 (.seq (.ops [⟨(some 31),.mov (.tmp 0),none⟩,
  ⟨(some 32),.mov (.tmp 7),none⟩,
  ⟨(some 33),.idxAddr 1 (.tmp 31) (.tmp 32),none⟩,
  ⟨(some 34),.load false 1 (.tmp 33),none⟩,
  ⟨(some 35),.mov (.tmp 2),none⟩,
  ⟨(some 36),.bin .neq (.tmp 34) (.tmp 35),none⟩])
 (.cond (.tmp 36)
 (.seq (.ops [⟨(some 6),.mov (.con (.bool false)),none⟩])
 .ret)
 .skip)))
 (.ops [⟨(some 29),.mov (.tmp 7),none⟩,
  ⟨(some 30),.bin .add (.tmp 29) (.con (.int .i64 1)),none⟩,
  ⟨(some 7),.mov (.tmp 30),none⟩])))
def cIntact (gs : Nat) : ACode:=(.seq (.ops [⟨(some 6),.mov (.con (.bool false)),none⟩])
 (.seq (.seq (.ops [⟨(some 8),.mov (.tmp 0),none⟩,
  ⟨(some 9),.lenSlice (.tmp 8),none⟩,
  ⟨(some 10),.mov (.tmp 1),none⟩,
  ⟨(some 11),.lenSlice (.tmp 10),none⟩,
  ⟨(some 12),.bin .add (.tmp 11) (.con (.int .i64 80)),none⟩,
  ⟨(some 13),.bin .neq (.tmp 9) (.tmp 12),none⟩,
  ⟨(some 14),.mov (.tmp 13),none⟩,
  ⟨(some 15),.mov (.tmp 0),(some (14,false))⟩,
  ⟨(some 16),.mov (.tmp 1),(some (14,false))⟩,
  ⟨(some 17),.lenSlice (.tmp 16),(some (14,false))⟩,
  ⟨(some 18),.slc 1 (.tmp 15) none (some (.tmp 17)) none,(some (14,false))⟩,
  ⟨(some 19),.mov (.tmp 1),(some (14,false))⟩,
  ⟨(some 20),.call gs [(.tmp 18),(.tmp 19)],(some (14,false))⟩,
  ⟨(some 21),.un .not (.tmp 20),(some (14,false))⟩,
  ⟨(some 22),.pick (.tmp 14) (.con (.bool true)) (.tmp 21),none⟩])
 (.cond (.tmp 22)
 (.seq (.ops [⟨(some 6),.mov (.con (.bool false)),none⟩])
 .ret)
 .skip))
 (.seq (.seq (.ops [⟨(some 23),.mov (.tmp 1),none⟩,
  ⟨(some 24),.lenSlice (.tmp 23),none⟩,
  ⟨(some 7),.mov (.tmp 24),none⟩])
 (.block 0 (.loop cIntactl0)))
 (.seq (.ops [⟨(some 6),.mov (.con (.bool true)),none⟩])
 .ret))))
def aIntact (gs : Nat) : AFunc:=⟨3,cIntact gs,[.tmp 6]⟩
def dig : List Nat→Nat
 | [] => 0
 | b :: r => b + 256 * dig r
def blk (bs : List Nat) (j : Nat) : List Nat:=(bs.drop (8 * j)).take 8
def wordsN (bs : List Nat) (n : Nat) : List Nat:=(List.range n).map fun j => dig (blk bs j)
def byteAt (ws : List Nat) (k : Nat) : Nat:=(ws[k / 8]?).getD 0 / 2 ^ (8 * (k % 8)) % 256
def strB (ws : List Nat) (n : Nat) : List UInt8:=(List.range n).map fun k => UInt8.ofNat (byteAt ws k)
def clearW (ws : List Nat) (n : Nat) : Prop:=∀ k,n≤k→k < 8 * ws.length→byteAt ws k=0
open Classical in
noncomputable def bytesR (ws : List Nat) (n : Int) : List UInt8×Int :=
 if n < 0∨n > 8 * ws.length then ([],1) else if clearW ws n.toNat then (strB ws n.toNat,0) else ([],5)
def nat8 (s : List UInt8) : List Nat:=s.map (·.toNat)
def cntN (n : Nat) : Nat:=(n + 7) / 8
def cntI (n : Int) : Int:=if n≤0 then 0 else (n - 1) / 8 + 1
def wcells (ws : List Nat) : List AV:=ws.map fun (n : Nat) => .int .u64 (n : Int)
theorem wcells_get {ws : List Nat} {i n : Nat} (h : ws[i]?=some n) : (wcells ws)[i]?=some (.int .u64 (n : Int)):=by simp [wcells,h]
theorem wcells_len (ws : List Nat) : (wcells ws).length=ws.length:=by simp [wcells]
def IsWords (h : AH) (s : List UInt8) (r : AV) (h' : AH) : Prop :=
 Ext h h'∧Low h'∧h'.next=h.next + 1∧r = .slice h.next 0 1 (cntN s.length) (cntN s.length) true∧h'.get h.next=some (.cells (wcells (wordsN (nat8 s) (cntN s.length))) true)
def bycells (ws : List Nat) (n : Nat) : List AV:=(List.range n).map fun k => .int .u8 (byteAt ws k : Nat)
theorem Sees.word {v : AV} {ws : List Nat} (s : Sees h v (wcells ws)) {i n : Nat} (hn : ws[i]?=some n) (k : IntKind) : ∃ a,idxAddrV 1 v (.int k (i : Int))=some a∧loadV h false 1 a=some (.int .u64 (n : Int)) :=
 s.at (wcells_get hn) k
theorem Sees.ext {h h' : AH} {v : AV} {xs : List AV} (s : Sees h v xs) (hx : Ext h h') (hw : ∀ o x,h.get o=some x→o < h.next) : Sees h' v xs:=by
 rcases s with ⟨rfl,rfl⟩ | ⟨o,off,cap,ex,l,rw,rfl,hg,hll,hc⟩
 ·exact .inl ⟨rfl,rfl⟩
 ·exact .inr ⟨o,off,cap,ex,l,rw,rfl,(hx.2 o (hw o _ hg)).trans hg,hll,hc⟩
def IsText (h : AH) (ws : List Nat) (n : Int) (r : AV) (h' : AH) : Prop :=
 Ext h h'∧Low h'∧r = .tuple [.str (bytesR ws n).1,.int .i64 (bytesR ws n).2]
theorem Ext.keep {a b : AH} (k : Ext a b) {c : AH} (hn : b.next≤c.next) (hg : ∀ o,o < a.next→c.get o=b.get o) : Ext a c :=
 ⟨Nat.le_trans k.1 hn,fun o ho => (hg o ho).trans (k.2 o ho)⟩
theorem Sees.elems {v : AV} {xs : List AV} (s : Sees h v xs) : h.elems 1 xs.length v=some xs:=by
 rcases s with ⟨rfl,rfl⟩ | ⟨o,off,cap,ex,l,rw,rfl,hg,hll,hc⟩
 ·simp [AH.elems]
 ·simp only [AH.elems,true_and,Nat.le_refl,if_true,load_of hg,Nat.mul_one]
  rw [if_pos hll]
  congr 1
  apply List.ext_getElem?
  intro i
  by_cases hi : i < xs.length
  ·rw [List.getElem?_take,if_pos hi,List.getElem?_drop,hc i _ (List.getElem?_eq_getElem hi),List.getElem?_eq_getElem hi]
  ·rw [List.getElem?_eq_none (by simp; omega),List.getElem?_eq_none (by omega)]
theorem wcells_flat (ws : List Nat) : (wcells ws).all AV.flat=true:=by
 simp only [wcells,List.all_eq_true,List.mem_map]
 rintro x ⟨n,_,rfl⟩; rfl
theorem Ext.quiet {h h' : AH} (k : Ext h h') : Quiet h h':=⟨k.1,fun o ho _ => k.2 o ho⟩
def IsRoomy (h : AH) (xs : List AV) (m : AV) (r : AV) (h' : AH) : Prop :=
 Ext h h'∧Low h'∧r = .slice h.next 0 1 (xs.length + 80) (xs.length + 80) true∧h.next < h'.next∧∃ l,h'.get h.next=some (.cells l true)∧l.length=xs.length + 80 ∧
  (∀ (j : Nat) (x : AV),xs[j]?=some x→l[j]?=some x)∧∀ (j : Nat),xs.length≤j→j < xs.length + 80→l[j]?=some m
end Go.Vm

/- The abstract code of functions that the laws reach, as a program printed it; each is what the compiler makes of the given function. -/
import Derived.Test.YtakgcpmemalmaaaGreatDoorVmZ
import Derived.Test.YtakgcpmemalmaaaGreatDoorVmS
import Derived.Test.YtakgcpmemalmaaaGreatDoorRows
namespace Go.Proofs.YtakgcpmemalmaaaGreatDoor
open Go.Vm
/- 99: (*tendril/query.reader).wrong -/
def c99 : ACode:=(.seq (.ops [⟨(some 4),.mov (.tmp 0),none⟩,
  ⟨(some 5),.nilChk (.tmp 4),none⟩,
  ⟨(some 6),.fieldAddr 3 (.tmp 5),none⟩,
  ⟨(some 7),.load false 1 (.tmp 6),none⟩,
  ⟨(some 8),.bin .eql (.tmp 7) (.con (.int .i64 0)),none⟩])
 (.cond (.tmp 8)
 (.ops [⟨(some 9),.mov (.tmp 0),none⟩,
  ⟨(some 10),.mov (.tmp 1),none⟩,
  ⟨(some 11),.nilChk (.tmp 9),none⟩,
  ⟨(some 12),.fieldAddr 3 (.tmp 11),none⟩,
  ⟨none,.store 1 (.tmp 12) (.tmp 10),none⟩])
 .skip))
def a99 : AFunc:=⟨2,c99,[]⟩
theorem k99 : cFunc Tryz.prog Tryz.f99=some a99:=by kernel_rfl
/- 69: tendril/merge.heads -/
def c69l0 : ACode:=(.seq (.ops [⟨(some 11),.bin .lss (.tmp 10) (.tmp 9),none⟩])
 (.seq (.cond (.tmp 11)
 .skip
 (.exit 0))
 (.seq (.block 1 (.seq (.ops [⟨(some 12),.idxAddr 1 (.tmp 8) (.tmp 10),none⟩,
  ⟨(some 13),.load false 1 (.tmp 12),none⟩,
  ⟨(some 5),.mov (.tmp 13),none⟩])
 (.seq (.ops [⟨(some 14),.mov (.tmp 5),none⟩,
  ⟨(some 15),.call 67 [(.tmp 14)],none⟩,
  ⟨(some 5),.mov (.tmp 15),none⟩])
 (.seq (.ops [⟨(some 16),.mov (.tmp 5),none⟩,
  ⟨(some 17),.lenSlice (.tmp 16),none⟩,
  ⟨(some 18),.bin .gtr (.tmp 17) (.con (.int .i64 0)),none⟩])
 (.cond (.tmp 18)
 (.ops [⟨(some 19),.mov (.tmp 3),none⟩,
  ⟨(some 20),.mkIface 122 (.tmp 19),none⟩,
  ⟨(some 21),.mov (.tmp 5),none⟩,
  ⟨(some 22),.mkIface 33 (.tmp 21),none⟩,
  ⟨(some 23),.call 87 [(.tmp 20),(.tmp 22)],none⟩])
 .skip)))))
 (.ops [⟨(some 24),.bin .add (.tmp 10) (.con (.int .i64 1)),none⟩,
  ⟨(some 10),.mov (.tmp 24),none⟩]))))
def c69 : ACode:=(.seq (.ops [⟨(some 2),.mov (.con .nilPtr),none⟩])
 (.seq (.ops [⟨(some 6),.buildSlice 1 0 [] [],none⟩,
  ⟨(some 7),.box (.tmp 6),none⟩,
  ⟨(some 3),.mov (.tmp 7),none⟩])
 (.seq (.seq (.ops [⟨(some 8),.mov (.tmp 0),none⟩,
  ⟨(some 9),.lenSlice (.tmp 8),none⟩,
  ⟨(some 10),.mov (.con (.int .i64 0)),none⟩])
 (.block 0 (.loop c69l0)))
 (.seq (.ops [⟨(some 25),.mov (.tmp 3),none⟩,
  ⟨(some 2),.mov (.tmp 25),none⟩])
 .ret))))
def a69 : AFunc:=⟨1,c69,[.tmp 2]⟩
theorem k69 : cFunc Tryz.prog Tryz.f69=some a69:=by kernel_rfl
/- 70: (tendril/merge.rows).Len -/
def c70 : ACode:=(.seq (.ops [⟨(some 2),.mov (.con (.int .i64 0)),none⟩])
 (.seq (.ops [⟨(some 3),.mov (.tmp 0),none⟩,
  ⟨(some 4),.lenSlice (.tmp 3),none⟩,
  ⟨(some 2),.mov (.tmp 4),none⟩])
 .ret))
def a70 : AFunc:=⟨1,c70,[.tmp 2]⟩
theorem k70 : cFunc Tryz.prog Tryz.f70=some a70:=by kernel_rfl
/- 71: (*tendril/merge.rows).next -/
def c71l0 : ACode:=(.seq (.seq (.ops [⟨(some 11),.mov (.tmp 0),none⟩,
  ⟨(some 12),.nilChk (.tmp 11),none⟩,
  ⟨(some 13),.load false 1 (.tmp 12),none⟩,
  ⟨(some 14),.call 70 [(.tmp 13)],none⟩,
  ⟨(some 15),.bin .gtr (.tmp 14) (.con (.int .i64 0)),none⟩,
  ⟨(some 16),.mov (.tmp 15),none⟩,
  ⟨(some 17),.mov (.tmp 0),(some (16,true))⟩,
  ⟨(some 18),.nilChk (.tmp 17),(some (16,true))⟩,
  ⟨(some 19),.load false 1 (.tmp 18),(some (16,true))⟩,
  ⟨(some 20),.idxAddr 1 (.tmp 19) (.con (.int .i64 0)),(some (16,true))⟩,
  ⟨(some 21),.load false 1 (.tmp 20),(some (16,true))⟩,
  ⟨(some 22),.idxAddr 1 (.tmp 21) (.con (.int .i64 0)),(some (16,true))⟩,
  ⟨(some 23),.load false 1 (.tmp 22),(some (16,true))⟩,
  ⟨(some 24),.mov (.tmp 3),(some (16,true))⟩,
  ⟨(some 25),.bin .eql (.tmp 23) (.tmp 24),(some (16,true))⟩,
  ⟨(some 26),.pick (.tmp 16) (.tmp 25) (.con (.bool false)),none⟩])
 (.cond (.tmp 26)
 .skip
 (.exit 0)))
 (.block 1 (.seq (.seq (.ops [⟨(some 27),.mov (.tmp 0),none⟩,
  ⟨(some 28),.nilChk (.tmp 27),none⟩,
  ⟨(some 29),.load false 1 (.tmp 28),none⟩,
  ⟨(some 30),.mov (.tmp 0),none⟩,
  ⟨(some 31),.nilChk (.tmp 30),none⟩,
  ⟨(some 32),.load false 1 (.tmp 31),none⟩,
  ⟨(some 33),.idxAddr 1 (.tmp 32) (.con (.int .i64 0)),none⟩,
  ⟨(some 34),.load false 1 (.tmp 33),none⟩,
  ⟨(some 35),.slc 1 (.tmp 34) (some (.con (.int .i64 1))) none none,none⟩,
  ⟨(some 36),.idxAddr 1 (.tmp 29) (.con (.int .i64 0)),none⟩,
  ⟨none,.store 1 (.tmp 36) (.tmp 35),none⟩])
 (.seq (.ops [⟨(some 37),.mov (.tmp 0),none⟩,
  ⟨(some 38),.nilChk (.tmp 37),none⟩,
  ⟨(some 39),.load false 1 (.tmp 38),none⟩,
  ⟨(some 40),.idxAddr 1 (.tmp 39) (.con (.int .i64 0)),none⟩,
  ⟨(some 41),.load false 1 (.tmp 40),none⟩,
  ⟨(some 42),.lenSlice (.tmp 41),none⟩,
  ⟨(some 43),.bin .eql (.tmp 42) (.con (.int .i64 0)),none⟩])
 (.cond (.tmp 43)
 (.seq (.ops [⟨(some 44),.mov (.tmp 0),none⟩,
  ⟨(some 45),.mkIface 122 (.tmp 44),none⟩,
  ⟨(some 46),.call 114 [(.tmp 45),(.con (.int .i64 0))],none⟩])
 (.exit 1))
 .skip)))
 (.ops [⟨(some 47),.mov (.tmp 0),none⟩,
  ⟨(some 48),.mkIface 122 (.tmp 47),none⟩,
  ⟨(some 49),.call 115 [(.tmp 48),(.con (.int .i64 0))],none⟩]))))
def c71 : ACode:=(.seq (.ops [⟨(some 2),.mov (.con (.int .i64 0)),none⟩])
 (.seq (.ops [⟨(some 4),.mov (.tmp 0),none⟩,
  ⟨(some 5),.nilChk (.tmp 4),none⟩,
  ⟨(some 6),.load false 1 (.tmp 5),none⟩,
  ⟨(some 7),.idxAddr 1 (.tmp 6) (.con (.int .i64 0)),none⟩,
  ⟨(some 8),.load false 1 (.tmp 7),none⟩,
  ⟨(some 9),.idxAddr 1 (.tmp 8) (.con (.int .i64 0)),none⟩,
  ⟨(some 10),.load false 1 (.tmp 9),none⟩,
  ⟨(some 3),.mov (.tmp 10),none⟩])
 (.seq (.block 0 (.loop c71l0))
 (.seq (.ops [⟨(some 50),.mov (.tmp 3),none⟩,
  ⟨(some 2),.mov (.tmp 50),none⟩])
 .ret))))
def a71 : AFunc:=⟨1,c71,[.tmp 2]⟩
theorem k71 : cFunc Tryz.prog Tryz.f71=some a71:=by kernel_rfl
/- 100: tendril/query.Right -/
def c100l0 : ACode:=(.seq (.ops [⟨(some 10),.bin .lss (.tmp 9) (.tmp 8),none⟩])
 (.seq (.cond (.tmp 10)
 .skip
 (.exit 0))
 (.seq (.block 1 (.seq (.ops [⟨(some 11),.idxAddr 2 (.tmp 7) (.tmp 9),none⟩,
  ⟨(some 12),.load true 2 (.tmp 11),none⟩,
  ⟨(some 5),.new [(.int .i64 0),(.str [])],none⟩,
  ⟨none,.store 2 (.tmp 5) (.tmp 12),none⟩])
 (.seq (.ops [⟨(some 13),.load true 2 (.tmp 5),none⟩,
  ⟨(some 14),.call 150 [(.tmp 13)],none⟩,
  ⟨(some 6),.mov (.tmp 14),none⟩])
 (.seq (.seq (.ops [⟨(some 15),.mov (.tmp 6),none⟩,
  ⟨(some 16),.bin .lss (.tmp 15) (.con (.int .i64 0)),none⟩,
  ⟨(some 17),.mov (.tmp 16),none⟩,
  ⟨(some 18),.mov (.tmp 3),(some (17,false))⟩,
  ⟨(some 19),.mov (.tmp 6),(some (17,false))⟩,
  ⟨(some 20),.bin .lss (.tmp 18) (.tmp 19),(some (17,false))⟩,
  ⟨(some 21),.pick (.tmp 17) (.con (.bool true)) (.tmp 20),none⟩])
 (.cond (.tmp 21)
 (.seq (.ops [⟨(some 2),.mov (.con (.bool false)),none⟩])
 .ret)
 .skip))
 (.ops [⟨(some 22),.mov (.tmp 3),none⟩,
  ⟨(some 23),.mov (.tmp 6),none⟩,
  ⟨(some 24),.bin .sub (.con (.int .i64 1)) (.tmp 23),none⟩,
  ⟨(some 25),.bin .add (.tmp 22) (.tmp 24),none⟩,
  ⟨(some 3),.mov (.tmp 25),none⟩])))))
 (.ops [⟨(some 26),.bin .add (.tmp 9) (.con (.int .i64 1)),none⟩,
  ⟨(some 9),.mov (.tmp 26),none⟩]))))
def c100 : ACode:=(.seq (.ops [⟨(some 2),.mov (.con (.bool false)),none⟩])
 (.seq (.ops [⟨(some 3),.mov (.con (.int .i64 0)),none⟩])
 (.seq (.seq (.ops [⟨(some 7),.mov (.tmp 0),none⟩,
  ⟨(some 8),.lenSlice (.tmp 7),none⟩,
  ⟨(some 9),.mov (.con (.int .i64 0)),none⟩])
 (.block 0 (.loop c100l0)))
 (.seq (.ops [⟨(some 27),.mov (.tmp 3),none⟩,
  ⟨(some 28),.bin .eql (.tmp 27) (.con (.int .i64 1)),none⟩,
  ⟨(some 29),.mov (.tmp 28),none⟩,
  ⟨(some 30),.mov (.tmp 0),(some (29,true))⟩,
  ⟨(some 31),.lenSlice (.tmp 30),(some (29,true))⟩,
  ⟨(some 32),.bin .leq (.tmp 31) (.con (.int .i64 64)),(some (29,true))⟩,
  ⟨(some 33),.pick (.tmp 29) (.tmp 32) (.con (.bool false)),none⟩,
  ⟨(some 2),.mov (.tmp 33),none⟩])
 .ret))))
def a100 : AFunc:=⟨1,c100,[.tmp 2]⟩
theorem k100 : cFunc Tryz.prog Tryz.f100=some a100:=by kernel_rfl
/- 101: tendril/query.set -/
def c101 : ACode:=(.seq (.ops [⟨(some 2),.mov (.con .nilSlice),none⟩])
 (.seq (.ops [⟨(some 4),.mov (.tmp 0),none⟩,
  ⟨(some 5),.call 143 [(.tmp 4)],none⟩,
  ⟨(some 3),.mov (.tmp 5),none⟩])
 (.seq (.ops [⟨(some 6),.mov (.tmp 3),none⟩,
  ⟨(some 7),.call 151 [(.tmp 6)],none⟩])
 (.seq (.ops [⟨(some 8),.mov (.tmp 3),none⟩,
  ⟨(some 9),.call 152 [(.tmp 8)],none⟩,
  ⟨(some 2),.mov (.tmp 9),none⟩])
 .ret))))
def a101 : AFunc:=⟨1,c101,[.tmp 2]⟩
theorem k101 : cFunc Tryz.prog Tryz.f101=some a101:=by kernel_rfl
/- 25: tendril/merge.Inter -/
def c25l0 : ACode:=(.seq (.ops [⟨(some 17),.bin .lss (.tmp 16) (.tmp 15),none⟩])
 (.seq (.cond (.tmp 17)
 .skip
 (.exit 0))
 (.seq (.block 1 (.seq (.ops [⟨(some 18),.idxAddr 1 (.tmp 14) (.tmp 16),none⟩,
  ⟨(some 19),.load false 1 (.tmp 18),none⟩,
  ⟨(some 5),.mov (.tmp 19),none⟩])
 (.ops [⟨(some 20),.mov (.tmp 3),none⟩,
  ⟨(some 21),.mov (.tmp 5),none⟩,
  ⟨(some 22),.call 67 [(.tmp 21)],none⟩,
  ⟨(some 23),.call 68 [(.tmp 20),(.tmp 22),(.con (.bool true))],none⟩,
  ⟨(some 3),.mov (.tmp 23),none⟩])))
 (.ops [⟨(some 24),.bin .add (.tmp 16) (.con (.int .i64 1)),none⟩,
  ⟨(some 16),.mov (.tmp 24),none⟩]))))
def c25 : ACode:=(.seq (.ops [⟨(some 2),.mov (.con .nilSlice),none⟩])
 (.seq (.seq (.ops [⟨(some 6),.mov (.tmp 0),none⟩,
  ⟨(some 7),.lenSlice (.tmp 6),none⟩,
  ⟨(some 8),.bin .eql (.tmp 7) (.con (.int .i64 0)),none⟩])
 (.cond (.tmp 8)
 (.seq (.ops [⟨(some 2),.mov (.con .nilSlice),none⟩])
 .ret)
 .skip))
 (.seq (.ops [⟨(some 9),.mov (.tmp 0),none⟩,
  ⟨(some 10),.idxAddr 1 (.tmp 9) (.con (.int .i64 0)),none⟩,
  ⟨(some 11),.load false 1 (.tmp 10),none⟩,
  ⟨(some 12),.call 67 [(.tmp 11)],none⟩,
  ⟨(some 3),.mov (.tmp 12),none⟩])
 (.seq (.seq (.ops [⟨(some 13),.mov (.tmp 0),none⟩,
  ⟨(some 14),.slc 1 (.tmp 13) (some (.con (.int .i64 1))) none none,none⟩,
  ⟨(some 15),.lenSlice (.tmp 14),none⟩,
  ⟨(some 16),.mov (.con (.int .i64 0)),none⟩])
 (.block 0 (.loop c25l0)))
 (.seq (.ops [⟨(some 25),.mov (.tmp 3),none⟩,
  ⟨(some 2),.mov (.tmp 25),none⟩])
 .ret)))))
def a25 : AFunc:=⟨1,c25,[.tmp 2]⟩
theorem k25 : cFunc Tryz.prog Tryz.f25=some a25:=by kernel_rfl
/- 27: tendril/merge.Minus -/
def c27 : ACode:=(.seq (.ops [⟨(some 4),.mov (.con .nilSlice),none⟩])
 (.seq (.ops [⟨(some 5),.mov (.tmp 0),none⟩,
  ⟨(some 6),.call 67 [(.tmp 5)],none⟩,
  ⟨(some 7),.mov (.tmp 1),none⟩,
  ⟨(some 8),.call 67 [(.tmp 7)],none⟩,
  ⟨(some 9),.call 68 [(.tmp 6),(.tmp 8),(.con (.bool false))],none⟩,
  ⟨(some 4),.mov (.tmp 9),none⟩])
 .ret))
def a27 : AFunc:=⟨2,c27,[.tmp 4]⟩
theorem k27 : cFunc Tryz.prog Tryz.f27=some a27:=by kernel_rfl
/- 102: (*tendril/scan.Scan).wants -/
def c102 : ACode:=(.seq (.ops [⟨(some 4),.box (.tmp 1),none⟩])
 (.ops [⟨(some 6),.mov (.tmp 0),none⟩,
  ⟨(some 7),.mov (.tmp 0),none⟩,
  ⟨(some 8),.load true 6 (.tmp 4),none⟩,
  ⟨(some 9),.mov (.tmp 2),none⟩,
  ⟨(some 10),.nilChk (.tmp 6),none⟩,
  ⟨(some 11),.fieldAddr 4 (.tmp 10),none⟩,
  ⟨none,.store 6 (.tmp 11) (.tmp 8),none⟩,
  ⟨(some 12),.nilChk (.tmp 7),none⟩,
  ⟨(some 13),.fieldAddr 10 (.tmp 12),none⟩,
  ⟨none,.store 1 (.tmp 13) (.tmp 9),none⟩]))
def a102 : AFunc:=⟨3,c102,[]⟩
theorem k102 : cFunc Tryz.prog Tryz.f102=some a102:=by kernel_rfl
/- 103: (*tendril/scan.Scan).atEpoch -/
def c103 : ACode:=(.seq (.ops [⟨(some 3),.box (.tmp 1),none⟩])
 (.ops [⟨(some 4),.mov (.tmp 0),none⟩,
  ⟨(some 5),.fieldAddr 1 (.tmp 3),none⟩,
  ⟨(some 6),.load false 1 (.tmp 5),none⟩,
  ⟨(some 7),.build [(.int .i64 0),(.int .i64 0),(.int .i64 0),(.int .i64 0),(.int .u64 0),.nilSlice] [(0,1,(.con (.int .i64 8))),(3,1,(.tmp 6))],none⟩,
  ⟨(some 8),.call 102 [(.tmp 4),(.tmp 7),(.con (.func (.func 153) [] []))],none⟩]))
def a103 : AFunc:=⟨2,c103,[]⟩
theorem k103 : cFunc Tryz.prog Tryz.f103=some a103:=by kernel_rfl
/- 104: (*tendril/mem.Mem).Do -/
def c104 : ACode:=(.seq (.ops [⟨(some 5),.box (.tmp 2),none⟩,
  ⟨(some 6),.new [(.int .i64 0),(.int .i64 0),(.bool false),.nilSlice],none⟩])
 (.seq (.seq (.ops [⟨(some 7),.mov (.tmp 1),none⟩,
  ⟨(some 8),.bin .lss (.tmp 7) (.con (.int .i64 0)),none⟩,
  ⟨(some 9),.mov (.tmp 8),none⟩,
  ⟨(some 10),.mov (.tmp 1),(some (9,false))⟩,
  ⟨(some 11),.mov (.tmp 0),(some (9,false))⟩,
  ⟨(some 12),.nilChk (.tmp 11),(some (9,false))⟩,
  ⟨(some 13),.fieldAddr 2 (.tmp 12),(some (9,false))⟩,
  ⟨(some 14),.load false 1 (.tmp 13),(some (9,false))⟩,
  ⟨(some 15),.bin .geq (.tmp 10) (.tmp 14),(some (9,false))⟩,
  ⟨(some 16),.pick (.tmp 9) (.con (.bool true)) (.tmp 15),none⟩])
 (.cond (.tmp 16)
 (.seq (.ops [⟨(some 17),.build [(.int .i64 0),(.int .i64 0),(.bool false),.nilSlice] [(0,1,(.con (.int .i64 1)))],none⟩,
  ⟨none,.store 4 (.tmp 6) (.tmp 17),none⟩])
 .ret)
 .skip))
 (.seq (.seq (.ops [⟨(some 18),.fieldAddr 0 (.tmp 5),none⟩,
  ⟨(some 19),.load false 1 (.tmp 18),none⟩])
 (.block 0 (.seq (.seq (.ops [⟨(some 21),.bin .eql (.tmp 19) (.con (.int .i64 1)),none⟩,
  ⟨(some 20),.mov (.tmp 21),none⟩])
 (.cond (.tmp 20)
 .skip
 (.seq (.ops [⟨(some 22),.bin .eql (.tmp 19) (.con (.int .i64 2)),none⟩,
  ⟨(some 20),.mov (.tmp 22),none⟩])
 (.cond (.tmp 20)
 .skip
 (.seq (.ops [⟨(some 23),.bin .eql (.tmp 19) (.con (.int .i64 3)),none⟩,
  ⟨(some 20),.mov (.tmp 23),none⟩])
 (.cond (.tmp 20)
 .skip
 (.seq (.ops [⟨(some 24),.bin .eql (.tmp 19) (.con (.int .i64 4)),none⟩,
  ⟨(some 20),.mov (.tmp 24),none⟩])
 (.cond (.tmp 20)
 .skip
 (.ops [⟨(some 25),.bin .eql (.tmp 19) (.con (.int .i64 5)),none⟩,
  ⟨(some 20),.mov (.tmp 25),none⟩])))))))))
 (.cond (.tmp 20)
 (.seq (.ops [⟨(some 26),.mov (.tmp 0),none⟩,
  ⟨(some 27),.load true 6 (.tmp 5),none⟩,
  ⟨(some 28),.call 154 [(.tmp 26),(.tmp 27)],none⟩,
  ⟨none,.store 4 (.tmp 6) (.tmp 28),none⟩])
 .ret)
 (.seq (.ops [⟨(some 30),.bin .eql (.tmp 19) (.con (.int .i64 6)),none⟩,
  ⟨(some 29),.mov (.tmp 30),none⟩])
 (.cond (.tmp 29)
 (.seq (.seq (.ops [⟨(some 31),.fieldAddr 1 (.tmp 5),none⟩,
  ⟨(some 32),.load false 1 (.tmp 31),none⟩,
  ⟨(some 33),.mov (.tmp 0),none⟩,
  ⟨(some 34),.nilChk (.tmp 33),none⟩,
  ⟨(some 35),.fieldAddr 3 (.tmp 34),none⟩,
  ⟨(some 36),.load false 1 (.tmp 35),none⟩,
  ⟨(some 37),.bin .eql (.tmp 32) (.tmp 36),none⟩])
 (.cond (.tmp 37)
 (.seq (.ops [⟨(some 38),.build [(.int .i64 0),(.int .i64 0),(.bool false),.nilSlice] [(0,1,(.con (.int .i64 1)))],none⟩,
  ⟨none,.store 4 (.tmp 6) (.tmp 38),none⟩])
 .ret)
 .skip))
 (.seq (.ops [⟨(some 39),.mov (.tmp 0),none⟩,
  ⟨(some 40),.nilChk (.tmp 39),none⟩,
  ⟨(some 41),.fieldAddr 1 (.tmp 40),none⟩,
  ⟨(some 42),.load false 1 (.tmp 41),none⟩,
  ⟨(some 43),.mov (.tmp 1),none⟩,
  ⟨(some 44),.fieldAddr 1 (.tmp 5),none⟩,
  ⟨(some 45),.load false 1 (.tmp 44),none⟩,
  ⟨(some 46),.call 155 [(.tmp 42),(.tmp 43),(.tmp 45)],none⟩,
  ⟨(some 47),.build [(.int .i64 0),(.int .i64 0),(.bool false),.nilSlice] [(0,1,(.tmp 46))],none⟩,
  ⟨none,.store 4 (.tmp 6) (.tmp 47),none⟩])
 .ret))
 (.seq (.ops [⟨(some 49),.bin .eql (.tmp 19) (.con (.int .i64 7)),none⟩,
  ⟨(some 48),.mov (.tmp 49),none⟩])
 (.cond (.tmp 48)
 (.seq (.ops [⟨(some 50),.mov (.tmp 0),none⟩,
  ⟨(some 51),.nilChk (.tmp 50),none⟩,
  ⟨(some 52),.fieldAddr 1 (.tmp 51),none⟩,
  ⟨(some 53),.load false 1 (.tmp 52),none⟩,
  ⟨(some 54),.call 156 [(.tmp 53)],none⟩,
  ⟨(some 55),.build [(.int .i64 0),(.int .i64 0),(.bool false),.nilSlice] [(1,1,(.tmp 54))],none⟩,
  ⟨none,.store 4 (.tmp 6) (.tmp 55),none⟩])
 .ret)
 (.seq (.ops [⟨(some 57),.bin .eql (.tmp 19) (.con (.int .i64 8)),none⟩,
  ⟨(some 56),.mov (.tmp 57),none⟩])
 (.cond (.tmp 56)
 (.seq (.ops [⟨(some 58),.mov (.tmp 0),none⟩,
  ⟨(some 59),.nilChk (.tmp 58),none⟩,
  ⟨(some 60),.fieldAddr 1 (.tmp 59),none⟩,
  ⟨(some 61),.load false 1 (.tmp 60),none⟩,
  ⟨(some 62),.mov (.tmp 1),none⟩,
  ⟨(some 63),.fieldAddr 3 (.tmp 5),none⟩,
  ⟨(some 64),.load false 1 (.tmp 63),none⟩,
  ⟨(some 65),.call 157 [(.tmp 61),(.tmp 62),(.tmp 64)],none⟩,
  ⟨(some 66),.build [(.int .i64 0),(.int .i64 0),(.bool false),.nilSlice] [(2,1,(.tmp 65))],none⟩,
  ⟨none,.store 4 (.tmp 6) (.tmp 66),none⟩])
 .ret)
 (.seq (.ops [⟨(some 68),.bin .eql (.tmp 19) (.con (.int .i64 9)),none⟩,
  ⟨(some 67),.mov (.tmp 68),none⟩])
 (.cond (.tmp 67)
 (.seq (.ops [⟨(some 69),.mov (.tmp 0),none⟩,
  ⟨(some 70),.nilChk (.tmp 69),none⟩,
  ⟨(some 71),.fieldAddr 1 (.tmp 70),none⟩,
  ⟨(some 72),.load false 1 (.tmp 71),none⟩,
  ⟨(some 73),.mov (.tmp 1),none⟩,
  ⟨(some 74),.call 158 [(.tmp 72),(.tmp 73)],none⟩,
  ⟨(some 75),.build [(.int .i64 0),(.int .i64 0),(.bool false),.nilSlice] [(2,1,(.tmp 74))],none⟩,
  ⟨none,.store 4 (.tmp 6) (.tmp 75),none⟩])
 .ret)
 (.seq (.ops [⟨(some 77),.bin .eql (.tmp 19) (.con (.int .i64 10)),none⟩,
  ⟨(some 76),.mov (.tmp 77),none⟩])
 (.cond (.tmp 76)
 (.seq (.ops [⟨(some 78),.mov (.tmp 0),none⟩,
  ⟨(some 79),.nilChk (.tmp 78),none⟩,
  ⟨(some 80),.fieldAddr 1 (.tmp 79),none⟩,
  ⟨(some 81),.load false 1 (.tmp 80),none⟩,
  ⟨(some 82),.fieldAddr 3 (.tmp 5),none⟩,
  ⟨(some 83),.load false 1 (.tmp 82),none⟩,
  ⟨(some 84),.call 159 [(.tmp 81),(.tmp 83)],none⟩,
  ⟨(some 85),.build [(.int .i64 0),(.int .i64 0),(.bool false),.nilSlice] [(1,1,(.tmp 84))],none⟩,
  ⟨none,.store 4 (.tmp 6) (.tmp 85),none⟩])
 .ret)
 (.seq (.ops [⟨(some 87),.bin .eql (.tmp 19) (.con (.int .i64 11)),none⟩,
  ⟨(some 86),.mov (.tmp 87),none⟩])
 (.cond (.tmp 86)
 (.seq (.ops [⟨(some 88),.mov (.tmp 0),none⟩,
  ⟨(some 89),.nilChk (.tmp 88),none⟩,
  ⟨(some 90),.fieldAddr 1 (.tmp 89),none⟩,
  ⟨(some 91),.load false 1 (.tmp 90),none⟩,
  ⟨(some 92),.fieldAddr 3 (.tmp 5),none⟩,
  ⟨(some 93),.load false 1 (.tmp 92),none⟩,
  ⟨(some 94),.call 160 [(.tmp 91),(.tmp 93)],none⟩,
  ⟨(some 95),.build [(.int .i64 0),(.int .i64 0),(.bool false),.nilSlice] [(2,1,(.tmp 94))],none⟩,
  ⟨none,.store 4 (.tmp 6) (.tmp 95),none⟩])
 .ret)
 (.seq (.ops [⟨(some 97),.bin .eql (.tmp 19) (.con (.int .i64 12)),none⟩,
  ⟨(some 96),.mov (.tmp 97),none⟩])
 (.cond (.tmp 96)
 (.seq (.ops [⟨(some 98),.mov (.tmp 0),none⟩,
  ⟨(some 99),.mov (.tmp 1),none⟩,
  ⟨(some 100),.call 161 [(.tmp 98),(.tmp 99)],none⟩,
  ⟨none,.store 4 (.tmp 6) (.tmp 100),none⟩])
 .ret)
 (.seq (.seq (.ops [⟨(some 102),.bin .eql (.tmp 19) (.con (.int .i64 13)),none⟩,
  ⟨(some 101),.mov (.tmp 102),none⟩])
 (.cond (.tmp 101)
 .skip
 (.seq (.ops [⟨(some 103),.bin .eql (.tmp 19) (.con (.int .i64 14)),none⟩,
  ⟨(some 101),.mov (.tmp 103),none⟩])
 (.cond (.tmp 101)
 .skip
 (.ops [⟨(some 104),.bin .eql (.tmp 19) (.con (.int .i64 15)),none⟩,
  ⟨(some 101),.mov (.tmp 104),none⟩])))))
 (.cond (.tmp 101)
 (.seq (.ops [⟨(some 105),.mov (.tmp 0),none⟩,
  ⟨(some 106),.mov (.tmp 1),none⟩,
  ⟨(some 107),.fieldAddr 0 (.tmp 5),none⟩,
  ⟨(some 108),.load false 1 (.tmp 107),none⟩,
  ⟨(some 109),.call 162 [(.tmp 105),(.tmp 106),(.tmp 108)],none⟩,
  ⟨none,.store 4 (.tmp 6) (.tmp 109),none⟩])
 .ret)
 .skip))))))))))))))))))))
 (.seq (.ops [⟨(some 110),.build [(.int .i64 0),(.int .i64 0),(.bool false),.nilSlice] [(0,1,(.con (.int .i64 1)))],none⟩,
  ⟨none,.store 4 (.tmp 6) (.tmp 110),none⟩])
 .ret))))
def a104 : AFunc:=⟨3,c104,[.cell 6 true 4]⟩
theorem k104 : cFunc Tryz.prog Tryz.f104=some a104:=by kernel_rfl
/- 105: slices.Clone[[]tendril/api.Entry,tendril/api.Entry] -/
def c105 : ACode:=(.seq (.ops [⟨(some 2),.mov (.con .nilSlice),none⟩])
 (.seq (.seq (.ops [⟨(some 3),.mov (.tmp 0),none⟩,
  ⟨(some 4),.eqNil 1 false (.tmp 3) (.con .nilSlice),none⟩])
 (.cond (.tmp 4)
 (.seq (.ops [⟨(some 2),.mov (.con .nilSlice),none⟩])
 .ret)
 .skip))
 (.seq (.ops [⟨(some 5),.buildSlice 2 0 [] [],none⟩,
  ⟨(some 6),.mov (.tmp 0),none⟩,
  ⟨(some 7),.append 2 24 (.tmp 5) (.tmp 6),none⟩,
  ⟨(some 2),.mov (.tmp 7),none⟩])
 .ret)))
def a105 : AFunc:=⟨1,c105,[.tmp 2]⟩
theorem k105 : cFunc Tryz.prog Tryz.f105=some a105:=by kernel_rfl
/- 106: tendril/token.Letter -/
def c106 : ACode:=(.seq (.ops [⟨(some 2),.mov (.con (.int .u8 0)),none⟩])
 (.seq (.block 0 (.seq (.ops [⟨(some 4),.mov (.tmp 0),none⟩,
  ⟨(some 5),.bin .geq (.tmp 4) (.con (.int .u8 97)),none⟩,
  ⟨(some 6),.mov (.tmp 5),none⟩,
  ⟨(some 7),.mov (.tmp 0),(some (6,true))⟩,
  ⟨(some 8),.bin .leq (.tmp 7) (.con (.int .u8 122)),(some (6,true))⟩,
  ⟨(some 9),.pick (.tmp 6) (.tmp 8) (.con (.bool false)),none⟩,
  ⟨(some 10),.mov (.tmp 9),none⟩,
  ⟨(some 11),.mov (.tmp 0),(some (10,false))⟩,
  ⟨(some 12),.bin .geq (.tmp 11) (.con (.int .u8 48)),(some (10,false))⟩,
  ⟨(some 13),.mov (.tmp 12),(some (10,false))⟩,
  ⟨(some 14),.mov (.tmp 0),(some (13,true))⟩,
  ⟨(some 15),.bin .leq (.tmp 14) (.con (.int .u8 57)),(some (13,true))⟩,
  ⟨(some 16),.pick (.tmp 13) (.tmp 15) (.con (.bool false)),(some (10,false))⟩,
  ⟨(some 17),.pick (.tmp 10) (.con (.bool true)) (.tmp 16),none⟩,
  ⟨(some 3),.mov (.tmp 17),none⟩])
 (.cond (.tmp 3)
 (.seq (.ops [⟨(some 18),.mov (.tmp 0),none⟩,
  ⟨(some 2),.mov (.tmp 18),none⟩])
 .ret)
 (.seq (.ops [⟨(some 20),.mov (.tmp 0),none⟩,
  ⟨(some 21),.bin .geq (.tmp 20) (.con (.int .u8 65)),none⟩,
  ⟨(some 22),.mov (.tmp 21),none⟩,
  ⟨(some 23),.mov (.tmp 0),(some (22,true))⟩,
  ⟨(some 24),.bin .leq (.tmp 23) (.con (.int .u8 90)),(some (22,true))⟩,
  ⟨(some 25),.pick (.tmp 22) (.tmp 24) (.con (.bool false)),none⟩,
  ⟨(some 19),.mov (.tmp 25),none⟩])
 (.cond (.tmp 19)
 (.seq (.ops [⟨(some 26),.mov (.tmp 0),none⟩,
  ⟨(some 27),.bin .sub (.tmp 26) (.con (.int .u8 65)),none⟩,
  ⟨(some 28),.bin .add (.tmp 27) (.con (.int .u8 97)),none⟩,
  ⟨(some 2),.mov (.tmp 28),none⟩])
 .ret)
 .skip)))))
 (.seq (.ops [⟨(some 2),.mov (.con (.int .u8 0)),none⟩])
 .ret)))
def a106 : AFunc:=⟨1,c106,[.tmp 2]⟩
theorem k106 : cFunc Tryz.prog Tryz.f106=some a106:=by kernel_rfl
/- 107: strings.SplitSeq -/
def c107 : ACode:=(.seq (.ops [⟨(some 4),.mov (.con .nilFunc),none⟩])
 (.seq (.ops [⟨(some 5),.mov (.tmp 0),none⟩,
  ⟨(some 6),.mov (.tmp 1),none⟩,
  ⟨(some 7),.call 163 [(.tmp 5),(.tmp 6),(.con (.int .i64 0))],none⟩,
  ⟨(some 4),.mov (.tmp 7),none⟩])
 .ret))
def a107 : AFunc:=⟨2,c107,[.tmp 4]⟩
theorem k107 : cFunc Tryz.prog Tryz.f107=some a107:=by kernel_rfl
/- 108: slices.Sort[[]string,string] -/
def c108 : ACode:=(.seq (.ops [⟨(some 3),.mov (.tmp 0),none⟩,
  ⟨(some 4),.lenSlice (.tmp 3),none⟩,
  ⟨(some 2),.mov (.tmp 4),none⟩])
 (.ops [⟨(some 5),.mov (.tmp 0),none⟩,
  ⟨(some 6),.mov (.tmp 2),none⟩,
  ⟨(some 7),.mov (.tmp 2),none⟩,
  ⟨(some 8),.toInt .u64 (.tmp 7),none⟩,
  ⟨(some 9),.call 165 [(.tmp 8)],none⟩,
  ⟨(some 10),.call 164 [(.tmp 5),(.con (.int .i64 0)),(.tmp 6),(.tmp 9)],none⟩]))
def a108 : AFunc:=⟨1,c108,[]⟩
theorem k108 : cFunc Tryz.prog Tryz.f108=some a108:=by kernel_rfl
/- 109: slices.Compact[[]string,string] -/
def c109l0 : ACode:=(.seq (.seq (.ops [⟨(some 29),.mov (.tmp 5),none⟩,
  ⟨(some 30),.mov (.tmp 4),none⟩,
  ⟨(some 31),.lenSlice (.tmp 30),none⟩,
  ⟨(some 32),.bin .lss (.tmp 29) (.tmp 31),none⟩])
 (.cond (.tmp 32)
 .skip
 (.exit 2)))
 (.seq (.block 3 (.seq (.ops [⟨(some 35),.mov (.tmp 4),none⟩,
  ⟨(some 36),.mov (.tmp 5),none⟩,
  ⟨(some 37),.idxAddr 1 (.tmp 35) (.tmp 36),none⟩,
  ⟨(some 38),.load false 1 (.tmp 37),none⟩,
  ⟨(some 39),.mov (.tmp 4),none⟩,
  ⟨(some 40),.mov (.tmp 5),none⟩,
  ⟨(some 41),.bin .sub (.tmp 40) (.con (.int .i64 1)),none⟩,
  ⟨(some 42),.idxAddr 1 (.tmp 39) (.tmp 41),none⟩,
  ⟨(some 43),.load false 1 (.tmp 42),none⟩,
  ⟨(some 44),.bin .neq (.tmp 38) (.tmp 43),none⟩])
 (.cond (.tmp 44)
 (.seq (.ops [⟨(some 45),.mov (.tmp 0),none⟩,
  ⟨(some 46),.mov (.tmp 3),none⟩,
  ⟨(some 47),.mov (.tmp 4),none⟩,
  ⟨(some 48),.mov (.tmp 5),none⟩,
  ⟨(some 49),.idxAddr 1 (.tmp 47) (.tmp 48),none⟩,
  ⟨(some 50),.load false 1 (.tmp 49),none⟩,
  ⟨(some 51),.idxAddr 1 (.tmp 45) (.tmp 46),none⟩,
  ⟨none,.store 1 (.tmp 51) (.tmp 50),none⟩])
 (.ops [⟨(some 52),.mov (.tmp 3),none⟩,
  ⟨(some 53),.bin .add (.tmp 52) (.con (.int .i64 1)),none⟩,
  ⟨(some 3),.mov (.tmp 53),none⟩]))
 .skip)))
 (.ops [⟨(some 33),.mov (.tmp 5),none⟩,
  ⟨(some 34),.bin .add (.tmp 33) (.con (.int .i64 1)),none⟩,
  ⟨(some 5),.mov (.tmp 34),none⟩])))
def c109l1 : ACode:=(.seq (.seq (.ops [⟨(some 10),.mov (.tmp 3),none⟩,
  ⟨(some 11),.mov (.tmp 0),none⟩,
  ⟨(some 12),.lenSlice (.tmp 11),none⟩,
  ⟨(some 13),.bin .lss (.tmp 10) (.tmp 12),none⟩])
 (.cond (.tmp 13)
 .skip
 (.exit 0)))
 (.seq (.block 1 (.seq (.ops [⟨(some 16),.mov (.tmp 0),none⟩,
  ⟨(some 17),.mov (.tmp 3),none⟩,
  ⟨(some 18),.idxAddr 1 (.tmp 16) (.tmp 17),none⟩,
  ⟨(some 19),.load false 1 (.tmp 18),none⟩,
  ⟨(some 20),.mov (.tmp 0),none⟩,
  ⟨(some 21),.mov (.tmp 3),none⟩,
  ⟨(some 22),.bin .sub (.tmp 21) (.con (.int .i64 1)),none⟩,
  ⟨(some 23),.idxAddr 1 (.tmp 20) (.tmp 22),none⟩,
  ⟨(some 24),.load false 1 (.tmp 23),none⟩,
  ⟨(some 25),.bin .eql (.tmp 19) (.tmp 24),none⟩])
 (.cond (.tmp 25)
 (.seq (.ops [⟨(some 26),.mov (.tmp 0),none⟩,
  ⟨(some 27),.mov (.tmp 3),none⟩,
  ⟨(some 28),.slc 1 (.tmp 26) (some (.tmp 27)) none none,none⟩,
  ⟨(some 4),.mov (.tmp 28),none⟩])
 (.seq (.seq (.ops [⟨(some 5),.mov (.con (.int .i64 1)),none⟩])
 (.block 2 (.loop c109l0)))
 (.seq (.ops [⟨(some 54),.mov (.tmp 0),none⟩,
  ⟨(some 55),.mov (.tmp 3),none⟩,
  ⟨(some 56),.slc 1 (.tmp 54) (some (.tmp 55)) none none,none⟩,
  ⟨none,.clear 1 [(.str [])] (.tmp 56),none⟩])
 (.seq (.ops [⟨(some 57),.mov (.tmp 0),none⟩,
  ⟨(some 58),.mov (.tmp 3),none⟩,
  ⟨(some 59),.slc 1 (.tmp 57) none (some (.tmp 58)) none,none⟩,
  ⟨(some 2),.mov (.tmp 59),none⟩])
 .ret))))
 .skip)))
 (.ops [⟨(some 14),.mov (.tmp 3),none⟩,
  ⟨(some 15),.bin .add (.tmp 14) (.con (.int .i64 1)),none⟩,
  ⟨(some 3),.mov (.tmp 15),none⟩])))
def c109 : ACode:=(.seq (.ops [⟨(some 2),.mov (.con .nilSlice),none⟩])
 (.seq (.seq (.ops [⟨(some 6),.mov (.tmp 0),none⟩,
  ⟨(some 7),.lenSlice (.tmp 6),none⟩,
  ⟨(some 8),.bin .lss (.tmp 7) (.con (.int .i64 2)),none⟩])
 (.cond (.tmp 8)
 (.seq (.ops [⟨(some 9),.mov (.tmp 0),none⟩,
  ⟨(some 2),.mov (.tmp 9),none⟩])
 .ret)
 .skip))
 (.seq (.seq (.ops [⟨(some 3),.mov (.con (.int .i64 1)),none⟩])
 (.block 0 (.loop c109l1)))
 (.seq (.ops [⟨(some 60),.mov (.tmp 0),none⟩,
  ⟨(some 2),.mov (.tmp 60),none⟩])
 .ret))))
def a109 : AFunc:=⟨1,c109,[.tmp 2]⟩
theorem k109 : cFunc Tryz.prog Tryz.f109=some a109:=by kernel_rfl
/- 110: (tendril/posting.List).Remove -/
def c110 : ACode:=(.seq (.ops [⟨(some 2),.box (.tmp 0),none⟩,
  ⟨(some 4),.new [.nilSlice],none⟩,
  ⟨(some 5),.mov (.con (.bool false)),none⟩])
 (.seq (.ops [⟨(some 12),.load true 1 (.tmp 2),none⟩,
  ⟨(some 13),.mov (.tmp 1),none⟩,
  ⟨(some 14),.call 141 [(.tmp 12),(.tmp 13)],none⟩,
  ⟨(some 11),.mov (.tmp 14),none⟩,
  ⟨(some 15),.extract (.tmp 11) 0,none⟩,
  ⟨(some 16),.extract (.tmp 11) 1,none⟩,
  ⟨(some 17),.extract (.tmp 11) 2,none⟩,
  ⟨(some 6),.mov (.tmp 15),none⟩,
  ⟨(some 7),.mov (.tmp 16),none⟩,
  ⟨(some 8),.mov (.tmp 17),none⟩])
 (.seq (.seq (.ops [⟨(some 18),.mov (.tmp 8),none⟩,
  ⟨(some 19),.un .not (.tmp 18),none⟩])
 (.cond (.tmp 19)
 (.seq (.ops [⟨(some 20),.load true 1 (.tmp 2),none⟩,
  ⟨none,.store 1 (.tmp 4) (.tmp 20),none⟩,
  ⟨(some 5),.mov (.con (.bool false)),none⟩])
 .ret)
 .skip))
 (.seq (.ops [⟨(some 21),.fieldAddr 0 (.tmp 2),none⟩,
  ⟨(some 22),.load false 1 (.tmp 21),none⟩,
  ⟨(some 23),.mov (.tmp 6),none⟩,
  ⟨(some 24),.idxAddr 1 (.tmp 22) (.tmp 23),none⟩,
  ⟨(some 25),.load false 1 (.tmp 24),none⟩,
  ⟨(some 26),.call 143 [(.tmp 25)],none⟩,
  ⟨(some 27),.mov (.tmp 7),none⟩,
  ⟨(some 28),.mov (.tmp 7),none⟩,
  ⟨(some 29),.bin .add (.tmp 28) (.con (.int .i64 1)),none⟩,
  ⟨(some 30),.call 166 [(.tmp 26),(.tmp 27),(.tmp 29)],none⟩,
  ⟨(some 9),.mov (.tmp 30),none⟩])
 (.seq (.ops [⟨(some 31),.fieldAddr 0 (.tmp 2),none⟩,
  ⟨(some 32),.load false 1 (.tmp 31),none⟩,
  ⟨(some 33),.lenSlice (.tmp 32),none⟩,
  ⟨(some 34),.bin .sub (.tmp 33) (.con (.int .i64 1)),none⟩,
  ⟨(some 10),.mov (.tmp 34),none⟩])
 (.seq (.block 0 (.seq (.ops [⟨(some 36),.mov (.tmp 9),none⟩,
  ⟨(some 37),.lenSlice (.tmp 36),none⟩,
  ⟨(some 38),.bin .eql (.tmp 37) (.con (.int .i64 0)),none⟩,
  ⟨(some 35),.mov (.tmp 38),none⟩])
 (.cond (.tmp 35)
 (.seq (.ops [⟨(some 39),.load true 1 (.tmp 2),none⟩,
  ⟨(some 40),.mov (.tmp 6),none⟩,
  ⟨(some 41),.mov (.tmp 6),none⟩,
  ⟨(some 42),.bin .add (.tmp 41) (.con (.int .i64 1)),none⟩,
  ⟨(some 43),.call 144 [(.tmp 39),(.tmp 40),(.tmp 42),(.con .nilSlice)],none⟩,
  ⟨none,.store 1 (.tmp 4) (.tmp 43),none⟩,
  ⟨(some 5),.mov (.con (.bool true)),none⟩])
 .ret)
 (.seq (.ops [⟨(some 45),.mov (.tmp 6),none⟩,
  ⟨(some 46),.mov (.tmp 10),none⟩,
  ⟨(some 47),.bin .lss (.tmp 45) (.tmp 46),none⟩,
  ⟨(some 48),.mov (.tmp 47),none⟩,
  ⟨(some 49),.mov (.tmp 9),(some (48,true))⟩,
  ⟨(some 50),.lenSlice (.tmp 49),(some (48,true))⟩,
  ⟨(some 51),.fieldAddr 0 (.tmp 2),(some (48,true))⟩,
  ⟨(some 52),.load false 1 (.tmp 51),(some (48,true))⟩,
  ⟨(some 53),.mov (.tmp 6),(some (48,true))⟩,
  ⟨(some 54),.bin .add (.tmp 53) (.con (.int .i64 1)),(some (48,true))⟩,
  ⟨(some 55),.idxAddr 1 (.tmp 52) (.tmp 54),(some (48,true))⟩,
  ⟨(some 56),.load false 1 (.tmp 55),(some (48,true))⟩,
  ⟨(some 57),.lenSlice (.tmp 56),(some (48,true))⟩,
  ⟨(some 58),.bin .add (.tmp 50) (.tmp 57),(some (48,true))⟩,
  ⟨(some 59),.bin .leq (.tmp 58) (.con (.int .i64 16)),(some (48,true))⟩,
  ⟨(some 60),.pick (.tmp 48) (.tmp 59) (.con (.bool false)),none⟩,
  ⟨(some 44),.mov (.tmp 60),none⟩])
 (.cond (.tmp 44)
 (.seq (.draw [.op ⟨(some 61),.load true 1 (.tmp 2),none⟩,
  .op ⟨(some 62),.mov (.tmp 6),none⟩,
  .op ⟨(some 63),.mov (.tmp 6),none⟩,
  .op ⟨(some 64),.bin .add (.tmp 63) (.con (.int .i64 2)),none⟩,
  .op ⟨(some 65),.mov (.tmp 9),none⟩,
  .op ⟨(some 66),.fieldAddr 0 (.tmp 2),none⟩,
  .op ⟨(some 67),.load false 1 (.tmp 66),none⟩,
  .op ⟨(some 68),.mov (.tmp 6),none⟩,
  .op ⟨(some 69),.bin .add (.tmp 68) (.con (.int .i64 1)),none⟩,
  .op ⟨(some 70),.idxAddr 1 (.tmp 67) (.tmp 69),none⟩,
  .op ⟨(some 71),.load false 1 (.tmp 70),none⟩,
  .op ⟨(some 72),.buildSlice 1 2 [.nilSlice,.nilSlice] [(0,1,(.tmp 65)),(1,1,(.tmp 71))],none⟩,
  .look ⟨(some 61),.load true 1 (.tmp 2),none⟩,
  .look ⟨(some 67),.load false 1 (.tmp 66),none⟩,
  .look ⟨(some 71),.load false 1 (.tmp 70),none⟩,
  .look ⟨(some 72),.buildSlice 1 2 [.nilSlice,.nilSlice] [(0,1,(.tmp 65)),(1,1,(.tmp 71))],none⟩,
  .op ⟨(some 73),.call 146 [(.tmp 72)],none⟩,
  .op ⟨(some 74),.buildSlice 1 1 [.nilSlice] [(0,1,(.tmp 73))],none⟩,
  .look ⟨(some 61),.load true 1 (.tmp 2),none⟩,
  .look ⟨(some 74),.buildSlice 1 1 [.nilSlice] [(0,1,(.tmp 73))],none⟩,
  .op ⟨(some 75),.call 144 [(.tmp 61),(.tmp 62),(.tmp 64),(.tmp 74)],none⟩,
  .op ⟨none,.store 1 (.tmp 4) (.tmp 75),none⟩,
  .op ⟨(some 5),.mov (.con (.bool true)),none⟩])
 .ret)
 (.seq (.ops [⟨(some 77),.mov (.tmp 6),none⟩,
  ⟨(some 78),.mov (.tmp 10),none⟩,
  ⟨(some 79),.bin .eql (.tmp 77) (.tmp 78),none⟩,
  ⟨(some 80),.mov (.tmp 79),none⟩,
  ⟨(some 81),.mov (.tmp 6),(some (80,true))⟩,
  ⟨(some 82),.bin .gtr (.tmp 81) (.con (.int .i64 0)),(some (80,true))⟩,
  ⟨(some 83),.pick (.tmp 80) (.tmp 82) (.con (.bool false)),none⟩,
  ⟨(some 84),.mov (.tmp 83),none⟩,
  ⟨(some 85),.mov (.tmp 9),(some (84,true))⟩,
  ⟨(some 86),.lenSlice (.tmp 85),(some (84,true))⟩,
  ⟨(some 87),.fieldAddr 0 (.tmp 2),(some (84,true))⟩,
  ⟨(some 88),.load false 1 (.tmp 87),(some (84,true))⟩,
  ⟨(some 89),.mov (.tmp 6),(some (84,true))⟩,
  ⟨(some 90),.bin .sub (.tmp 89) (.con (.int .i64 1)),(some (84,true))⟩,
  ⟨(some 91),.idxAddr 1 (.tmp 88) (.tmp 90),(some (84,true))⟩,
  ⟨(some 92),.load false 1 (.tmp 91),(some (84,true))⟩,
  ⟨(some 93),.lenSlice (.tmp 92),(some (84,true))⟩,
  ⟨(some 94),.bin .add (.tmp 86) (.tmp 93),(some (84,true))⟩,
  ⟨(some 95),.bin .leq (.tmp 94) (.con (.int .i64 16)),(some (84,true))⟩,
  ⟨(some 96),.pick (.tmp 84) (.tmp 95) (.con (.bool false)),none⟩,
  ⟨(some 76),.mov (.tmp 96),none⟩])
 (.cond (.tmp 76)
 (.seq (.draw [.op ⟨(some 97),.load true 1 (.tmp 2),none⟩,
  .op ⟨(some 98),.mov (.tmp 6),none⟩,
  .op ⟨(some 99),.bin .sub (.tmp 98) (.con (.int .i64 1)),none⟩,
  .op ⟨(some 100),.mov (.tmp 6),none⟩,
  .op ⟨(some 101),.bin .add (.tmp 100) (.con (.int .i64 1)),none⟩,
  .op ⟨(some 102),.fieldAddr 0 (.tmp 2),none⟩,
  .op ⟨(some 103),.load false 1 (.tmp 102),none⟩,
  .op ⟨(some 104),.mov (.tmp 6),none⟩,
  .op ⟨(some 105),.bin .sub (.tmp 104) (.con (.int .i64 1)),none⟩,
  .op ⟨(some 106),.idxAddr 1 (.tmp 103) (.tmp 105),none⟩,
  .op ⟨(some 107),.load false 1 (.tmp 106),none⟩,
  .op ⟨(some 108),.mov (.tmp 9),none⟩,
  .op ⟨(some 109),.buildSlice 1 2 [.nilSlice,.nilSlice] [(0,1,(.tmp 107)),(1,1,(.tmp 108))],none⟩,
  .look ⟨(some 97),.load true 1 (.tmp 2),none⟩,
  .look ⟨(some 103),.load false 1 (.tmp 102),none⟩,
  .look ⟨(some 107),.load false 1 (.tmp 106),none⟩,
  .look ⟨(some 109),.buildSlice 1 2 [.nilSlice,.nilSlice] [(0,1,(.tmp 107)),(1,1,(.tmp 108))],none⟩,
  .op ⟨(some 110),.call 146 [(.tmp 109)],none⟩,
  .op ⟨(some 111),.buildSlice 1 1 [.nilSlice] [(0,1,(.tmp 110))],none⟩,
  .look ⟨(some 97),.load true 1 (.tmp 2),none⟩,
  .look ⟨(some 111),.buildSlice 1 1 [.nilSlice] [(0,1,(.tmp 110))],none⟩,
  .op ⟨(some 112),.call 144 [(.tmp 97),(.tmp 99),(.tmp 101),(.tmp 111)],none⟩,
  .op ⟨none,.store 1 (.tmp 4) (.tmp 112),none⟩,
  .op ⟨(some 5),.mov (.con (.bool true)),none⟩])
 .ret)
 .skip)))))))
 (.seq (.ops [⟨(some 113),.load true 1 (.tmp 2),none⟩,
  ⟨(some 114),.mov (.tmp 6),none⟩,
  ⟨(some 115),.mov (.tmp 6),none⟩,
  ⟨(some 116),.bin .add (.tmp 115) (.con (.int .i64 1)),none⟩,
  ⟨(some 117),.mov (.tmp 9),none⟩,
  ⟨(some 118),.buildSlice 1 1 [.nilSlice] [(0,1,(.tmp 117))],none⟩,
  ⟨(some 119),.call 144 [(.tmp 113),(.tmp 114),(.tmp 116),(.tmp 118)],none⟩,
  ⟨none,.store 1 (.tmp 4) (.tmp 119),none⟩,
  ⟨(some 5),.mov (.con (.bool true)),none⟩])
 .ret)))))))
def a110 : AFunc:=⟨2,c110,[.cell 4 true 1,.tmp 5]⟩
theorem k110 : cFunc Tryz.prog Tryz.f110=some a110:=by kernel_rfl
/- 111: (tendril/posting.List).Len -/
def c111l0 : ACode:=(.seq (.ops [⟨(some 10),.bin .lss (.tmp 9) (.tmp 8),none⟩])
 (.seq (.cond (.tmp 10)
 .skip
 (.exit 0))
 (.seq (.block 1 (.seq (.ops [⟨(some 11),.idxAddr 1 (.tmp 7) (.tmp 9),none⟩,
  ⟨(some 12),.load false 1 (.tmp 11),none⟩,
  ⟨(some 5),.mov (.tmp 12),none⟩])
 (.ops [⟨(some 13),.mov (.tmp 3),none⟩,
  ⟨(some 14),.mov (.tmp 5),none⟩,
  ⟨(some 15),.lenSlice (.tmp 14),none⟩,
  ⟨(some 16),.bin .add (.tmp 13) (.tmp 15),none⟩,
  ⟨(some 3),.mov (.tmp 16),none⟩])))
 (.ops [⟨(some 17),.bin .add (.tmp 9) (.con (.int .i64 1)),none⟩,
  ⟨(some 9),.mov (.tmp 17),none⟩]))))
def c111 : ACode:=(.seq (.ops [⟨(some 1),.box (.tmp 0),none⟩,
  ⟨(some 2),.mov (.con (.int .i64 0)),none⟩])
 (.seq (.ops [⟨(some 3),.mov (.con (.int .i64 0)),none⟩])
 (.seq (.seq (.ops [⟨(some 6),.fieldAddr 0 (.tmp 1),none⟩,
  ⟨(some 7),.load false 1 (.tmp 6),none⟩,
  ⟨(some 8),.lenSlice (.tmp 7),none⟩,
  ⟨(some 9),.mov (.con (.int .i64 0)),none⟩])
 (.block 0 (.loop c111l0)))
 (.seq (.ops [⟨(some 18),.mov (.tmp 3),none⟩,
  ⟨(some 2),.mov (.tmp 18),none⟩])
 .ret))))
def a111 : AFunc:=⟨1,c111,[.tmp 2]⟩
theorem k111 : cFunc Tryz.prog Tryz.f111=some a111:=by kernel_rfl
/- 112: (*tendril/docs.Index).drop -/
def c112 : ACode:=(.seq (.seq (.draw [.op ⟨(some 7),.mov (.tmp 1),none⟩,
  .op ⟨(some 8),.build [(.int .i64 0),(.str []),(.str []),(.int .i64 0)] [(0,1,(.con (.int .i64 3))),(1,1,(.tmp 7))],none⟩,
  .op ⟨(some 9),.mov (.tmp 0),none⟩,
  .op ⟨(some 10),.nilChk (.tmp 9),none⟩,
  .op ⟨(some 11),.fieldAddr 8 (.tmp 10),none⟩,
  .op ⟨(some 12),.load false 1 (.tmp 11),none⟩,
  .op ⟨(some 14),.mov (.tmp 0),none⟩,
  .op ⟨(some 15),.nilChk (.tmp 14),none⟩,
  .op ⟨(some 16),.fieldAddr 0 (.tmp 15),none⟩,
  .op ⟨(some 17),.fieldAddr 7 (.tmp 16),none⟩,
  .op ⟨(some 18),.load false 1 (.tmp 17),none⟩,
  .op ⟨(some 13),.call 58 [(.tmp 12)],none⟩,
  .look ⟨(some 18),.load false 1 (.tmp 17),none⟩,
  .op ⟨(some 19),.call 167 [(.tmp 8),(.tmp 13),(.tmp 18)],none⟩,
  .op ⟨(some 6),.mov (.tmp 19),none⟩,
  .op ⟨(some 20),.extract (.tmp 6) 0,none⟩,
  .op ⟨(some 21),.extract (.tmp 6) 1,none⟩,
  .op ⟨(some 4),.mov (.tmp 20),none⟩,
  .op ⟨(some 5),.mov (.tmp 21),none⟩])
 (.seq (.ops [⟨(some 22),.mov (.tmp 5),none⟩,
  ⟨(some 23),.bin .eql (.tmp 22) (.con (.int .i64 0)),none⟩])
 (.cond (.tmp 23)
 (.ops [⟨(some 24),.mov (.tmp 0),none⟩,
  ⟨(some 25),.mov (.tmp 4),none⟩,
  ⟨(some 26),.mkFunc (.func 168) [(.tmp 25)] [],none⟩,
  ⟨(some 27),.mov (.tmp 4),none⟩,
  ⟨(some 28),.mkFunc (.func 169) [(.tmp 27)] [],none⟩,
  ⟨(some 29),.call 59 [(.tmp 24),(.con (.int .i64 0)),(.tmp 26),(.tmp 28)],none⟩])
 .skip)))
 (.ops [⟨(some 30),.mov (.tmp 0),none⟩,
  ⟨(some 31),.call 140 [(.tmp 30)],none⟩]))
def a112 : AFunc:=⟨2,c112,[]⟩
theorem k112 : cFunc Tryz.prog Tryz.f112=some a112:=by kernel_rfl
/- 72: (*tendril/arena.Arena).Room -/
def c72 : ACode:=(.seq (.ops [⟨(some 4),.mov (.con (.int .i64 0)),none⟩])
 (.seq (.seq (.ops [⟨(some 5),.mov (.tmp 1),none⟩,
  ⟨(some 6),.bin .lss (.tmp 5) (.con (.int .i64 0)),none⟩,
  ⟨(some 7),.mov (.tmp 6),none⟩,
  ⟨(some 8),.mov (.tmp 1),(some (7,false))⟩,
  ⟨(some 9),.bin .geq (.tmp 8) (.con (.int .i64 5)),(some (7,false))⟩,
  ⟨(some 10),.pick (.tmp 7) (.con (.bool true)) (.tmp 9),none⟩])
 (.cond (.tmp 10)
 (.seq (.ops [⟨(some 4),.mov (.con (.int .i64 0)),none⟩])
 .ret)
 .skip))
 (.seq (.ops [⟨(some 11),.mov (.tmp 0),none⟩,
  ⟨(some 12),.mov (.tmp 1),none⟩,
  ⟨(some 13),.nilChk (.tmp 11),none⟩,
  ⟨(some 14),.fieldAddr 1 (.tmp 13),none⟩,
  ⟨(some 15),.idxAddrArr 5 1 (.tmp 14) (.tmp 12),none⟩,
  ⟨(some 16),.load false 1 (.tmp 15),none⟩,
  ⟨(some 17),.call 116 [(.tmp 16)],none⟩,
  ⟨(some 4),.mov (.tmp 17),none⟩])
 .ret)))
def a72 : AFunc:=⟨2,c72,[.tmp 4]⟩
theorem k72 : cFunc Tryz.prog Tryz.f72=some a72:=by kernel_rfl
/- 124: tendril/arena.poison -/
def c124 : ACode:=(.seq (.ops [⟨(some 2),.mov (.con .nilSlice),none⟩])
 (.seq (.ops [⟨(some 3),.buildSlice 1 1 [(.int .u64 0)] [(0,1,(.con (.int .u64 16045690984833335023)))],none⟩,
  ⟨(some 4),.mov (.tmp 0),none⟩,
  ⟨(some 5),.call 125 [(.tmp 4)],none⟩,
  ⟨(some 6),.call 176 [(.tmp 3),(.tmp 5)],none⟩,
  ⟨(some 2),.mov (.tmp 6),none⟩])
 .ret))
def a124 : AFunc:=⟨1,c124,[.tmp 2]⟩
theorem k124 : cFunc Tryz.prog Tryz.f124=some a124:=by kernel_rfl
/- 128: tendril/node.Right -/
def c128l0 : ACode:=(.seq (.ops [⟨(some 48),.bin .lss (.tmp 47) (.tmp 46),none⟩])
 (.seq (.cond (.tmp 48)
 .skip
 (.exit 0))
 (.seq (.block 1 (.seq (.ops [⟨(some 49),.mov (.tmp 47),none⟩,
  ⟨(some 50),.idxAddr 1 (.tmp 45) (.tmp 47),none⟩,
  ⟨(some 51),.load false 1 (.tmp 50),none⟩,
  ⟨(some 3),.mov (.tmp 49),none⟩,
  ⟨(some 4),.mov (.tmp 51),none⟩])
 (.seq (.ops [⟨(some 52),.mov (.tmp 4),none⟩,
  ⟨(some 53),.call 179 [(.tmp 52)],none⟩,
  ⟨(some 54),.un .not (.tmp 53),none⟩,
  ⟨(some 55),.mov (.tmp 54),none⟩,
  ⟨(some 56),.mov (.tmp 3),(some (55,false))⟩,
  ⟨(some 57),.bin .gtr (.tmp 56) (.con (.int .i64 0)),(some (55,false))⟩,
  ⟨(some 58),.mov (.tmp 57),(some (55,false))⟩,
  ⟨(some 59),.fieldAddr 3 (.tmp 1),(some (58,true))⟩,
  ⟨(some 60),.load false 1 (.tmp 59),(some (58,true))⟩,
  ⟨(some 61),.mov (.tmp 3),(some (58,true))⟩,
  ⟨(some 62),.idxAddr 1 (.tmp 60) (.tmp 61),(some (58,true))⟩,
  ⟨(some 63),.load false 1 (.tmp 62),(some (58,true))⟩,
  ⟨(some 64),.fieldAddr 3 (.tmp 1),(some (58,true))⟩,
  ⟨(some 65),.load false 1 (.tmp 64),(some (58,true))⟩,
  ⟨(some 66),.mov (.tmp 3),(some (58,true))⟩,
  ⟨(some 67),.bin .sub (.tmp 66) (.con (.int .i64 1)),(some (58,true))⟩,
  ⟨(some 68),.idxAddr 1 (.tmp 65) (.tmp 67),(some (58,true))⟩,
  ⟨(some 69),.load false 1 (.tmp 68),(some (58,true))⟩,
  ⟨(some 70),.bin .leq (.tmp 63) (.tmp 69),(some (58,true))⟩,
  ⟨(some 71),.pick (.tmp 58) (.tmp 70) (.con (.bool false)),(some (55,false))⟩,
  ⟨(some 72),.pick (.tmp 55) (.con (.bool true)) (.tmp 71),none⟩])
 (.cond (.tmp 72)
 (.seq (.ops [⟨(some 2),.mov (.con (.bool false)),none⟩])
 .ret)
 .skip))))
 (.ops [⟨(some 73),.bin .add (.tmp 47) (.con (.int .i64 1)),none⟩,
  ⟨(some 47),.mov (.tmp 73),none⟩]))))
def c128 : ACode:=(.seq (.ops [⟨(some 1),.box (.tmp 0),none⟩,
  ⟨(some 2),.mov (.con (.bool false)),none⟩])
 (.seq (.seq (.draw [.op ⟨(some 5),.fieldAddr 0 (.tmp 1),none⟩,
  .op ⟨(some 6),.load false 1 (.tmp 5),none⟩,
  .op ⟨(some 7),.call 177 [(.tmp 6)],none⟩,
  .op ⟨(some 8),.bin .eql (.tmp 7) (.con (.int .i64 0)),none⟩,
  .op ⟨(some 9),.mov (.tmp 8),none⟩,
  .op ⟨(some 10),.fieldAddr 1 (.tmp 1),(some (9,false))⟩,
  .op ⟨(some 11),.load false 1 (.tmp 10),(some (9,false))⟩,
  .op ⟨(some 12),.call 178 [(.tmp 11)],(some (9,false))⟩,
  .op ⟨(some 13),.mov (.tmp 12),(some (9,false))⟩,
  .op ⟨(some 14),.fieldAddr 1 (.tmp 1),(some (13,true))⟩,
  .op ⟨(some 15),.load false 1 (.tmp 14),(some (13,true))⟩,
  .op ⟨(some 16),.bin .and (.tmp 15) (.con (.int .u64 1)),(some (13,true))⟩,
  .op ⟨(some 17),.bin .neq (.tmp 16) (.con (.int .u64 0)),(some (13,true))⟩,
  .op ⟨(some 18),.pick (.tmp 13) (.tmp 17) (.con (.bool false)),(some (9,false))⟩,
  .op ⟨(some 19),.pick (.tmp 9) (.con (.bool true)) (.tmp 18),none⟩,
  .op ⟨(some 20),.mov (.tmp 19),none⟩,
  .op ⟨(some 21),.fieldAddr 2 (.tmp 1),(some (20,false))⟩,
  .op ⟨(some 22),.load false 1 (.tmp 21),(some (20,false))⟩,
  .op ⟨(some 23),.lenStr (.tmp 22),(some (20,false))⟩,
  .op ⟨(some 24),.bin .gtr (.tmp 23) (.con (.int .i64 12)),(some (20,false))⟩,
  .op ⟨(some 25),.pick (.tmp 20) (.con (.bool true)) (.tmp 24),none⟩,
  .op ⟨(some 26),.mov (.tmp 25),none⟩,
  .op ⟨(some 27),.fieldAddr 3 (.tmp 1),(some (26,false))⟩,
  .op ⟨(some 28),.load false 1 (.tmp 27),(some (26,false))⟩,
  .op ⟨(some 29),.lenSlice (.tmp 28),(some (26,false))⟩,
  .op ⟨(some 30),.fieldAddr 4 (.tmp 1),(some (26,false))⟩,
  .op ⟨(some 31),.load false 1 (.tmp 30),(some (26,false))⟩,
  .op ⟨(some 32),.lenSlice (.tmp 31),(some (26,false))⟩,
  .op ⟨(some 33),.bin .neq (.tmp 29) (.tmp 32),(some (26,false))⟩,
  .op ⟨(some 34),.pick (.tmp 26) (.con (.bool true)) (.tmp 33),none⟩,
  .op ⟨(some 35),.mov (.tmp 34),none⟩,
  .op ⟨(some 36),.fieldAddr 3 (.tmp 1),(some (35,false))⟩,
  .op ⟨(some 37),.load false 1 (.tmp 36),(some (35,false))⟩,
  .op ⟨(some 38),.lenSlice (.tmp 37),(some (35,false))⟩,
  .op ⟨(some 39),.fieldAddr 0 (.tmp 1),(some (35,false))⟩,
  .op ⟨(some 40),.load false 1 (.tmp 39),(some (35,false))⟩,
  .op ⟨(some 41),.call 177 [(.tmp 40)],(some (35,false))⟩,
  .op ⟨(some 42),.bin .gtr (.tmp 38) (.tmp 41),(some (35,false))⟩,
  .op ⟨(some 43),.pick (.tmp 35) (.con (.bool true)) (.tmp 42),none⟩,
  .look ⟨(some 37),.load false 1 (.tmp 36),(some (35,false))⟩])
 (.cond (.tmp 43)
 (.seq (.ops [⟨(some 2),.mov (.con (.bool false)),none⟩])
 .ret)
 .skip))
 (.seq (.seq (.ops [⟨(some 44),.fieldAddr 4 (.tmp 1),none⟩,
  ⟨(some 45),.load false 1 (.tmp 44),none⟩,
  ⟨(some 46),.lenSlice (.tmp 45),none⟩,
  ⟨(some 47),.mov (.con (.int .i64 0)),none⟩])
 (.block 0 (.loop c128l0)))
 (.seq (.ops [⟨(some 2),.mov (.con (.bool true)),none⟩])
 .ret))))
def a128 : AFunc:=⟨1,c128,[.tmp 2]⟩
theorem k128 : cFunc Tryz.prog Tryz.f128=some a128:=by kernel_rfl
/- 125: tendril/arena.Size -/
def c125 : ACode:=(.seq (.ops [⟨(some 2),.mov (.con (.int .i64 0)),none⟩])
 (.seq (.seq (.ops [⟨(some 3),.mov (.tmp 0),none⟩])
 (.block 0 (.seq (.ops [⟨(some 5),.bin .eql (.tmp 3) (.con (.int .i64 0)),none⟩,
  ⟨(some 4),.mov (.tmp 5),none⟩])
 (.cond (.tmp 4)
 (.seq (.ops [⟨(some 2),.mov (.con (.int .i64 8)),none⟩])
 .ret)
 (.seq (.ops [⟨(some 7),.bin .eql (.tmp 3) (.con (.int .i64 1)),none⟩,
  ⟨(some 6),.mov (.tmp 7),none⟩])
 (.cond (.tmp 6)
 (.seq (.ops [⟨(some 2),.mov (.con (.int .i64 12)),none⟩])
 .ret)
 (.seq (.ops [⟨(some 9),.bin .eql (.tmp 3) (.con (.int .i64 2)),none⟩,
  ⟨(some 8),.mov (.tmp 9),none⟩])
 (.cond (.tmp 8)
 (.seq (.ops [⟨(some 2),.mov (.con (.int .i64 24)),none⟩])
 .ret)
 (.seq (.ops [⟨(some 11),.bin .eql (.tmp 3) (.con (.int .i64 3)),none⟩,
  ⟨(some 10),.mov (.tmp 11),none⟩])
 (.cond (.tmp 10)
 (.seq (.ops [⟨(some 2),.mov (.con (.int .i64 88)),none⟩])
 .ret)
 (.seq (.ops [⟨(some 13),.bin .eql (.tmp 3) (.con (.int .i64 4)),none⟩,
  ⟨(some 12),.mov (.tmp 13),none⟩])
 (.cond (.tmp 12)
 (.seq (.ops [⟨(some 2),.mov (.con (.int .i64 264)),none⟩])
 .ret)
 .skip))))))))))))
 (.seq (.ops [⟨(some 2),.mov (.con (.int .i64 0)),none⟩])
 .ret)))
def a125 : AFunc:=⟨1,c125,[.tmp 2]⟩
theorem k125 : cFunc Tryz.prog Tryz.f125=some a125:=by kernel_rfl
/- 129: tendril/pack.Words -/
def c129l0 : ACode:=(.seq (.ops [⟨(some 12),.bin .lss (.tmp 11) (.tmp 10),none⟩])
 (.seq (.cond (.tmp 12)
 .skip
 (.exit 0))
 (.seq (.block 1 (.seq (.ops [⟨(some 13),.mov (.tmp 11),none⟩,
  ⟨(some 4),.mov (.tmp 13),none⟩])
 (.ops [⟨(some 14),.mov (.tmp 3),none⟩,
  ⟨(some 15),.mov (.tmp 4),none⟩,
  ⟨(some 16),.bin .quo (.tmp 15) (.con (.int .i64 8)),none⟩,
  ⟨(some 17),.idxAddr 1 (.tmp 14) (.tmp 16),none⟩,
  ⟨(some 18),.load false 1 (.tmp 17),none⟩,
  ⟨(some 19),.mov (.tmp 0),none⟩,
  ⟨(some 20),.mov (.tmp 4),none⟩,
  ⟨(some 21),.idxStr (.tmp 19) (.tmp 20),none⟩,
  ⟨(some 22),.toInt .u64 (.tmp 21),none⟩,
  ⟨(some 23),.mov (.tmp 4),none⟩,
  ⟨(some 24),.bin .rem (.tmp 23) (.con (.int .i64 8)),none⟩,
  ⟨(some 25),.bin .mul (.con (.int .i64 8)) (.tmp 24),none⟩,
  ⟨(some 26),.toInt .u64 (.tmp 25),none⟩,
  ⟨(some 27),.bin .shl (.tmp 22) (.tmp 26),none⟩,
  ⟨(some 28),.bin .or (.tmp 18) (.tmp 27),none⟩,
  ⟨(some 29),.idxAddr 1 (.tmp 14) (.tmp 16),none⟩,
  ⟨none,.store 1 (.tmp 29) (.tmp 28),none⟩])))
 (.ops [⟨(some 30),.bin .add (.tmp 11) (.con (.int .i64 1)),none⟩,
  ⟨(some 11),.mov (.tmp 30),none⟩]))))
def c129 : ACode:=(.seq (.ops [⟨(some 2),.mov (.con .nilSlice),none⟩])
 (.seq (.ops [⟨(some 5),.mov (.tmp 0),none⟩,
  ⟨(some 6),.lenStr (.tmp 5),none⟩,
  ⟨(some 7),.call 180 [(.tmp 6)],none⟩,
  ⟨(some 8),.mkSlice 1 8 [(.int .u64 0)] (.tmp 7) (.tmp 7),none⟩,
  ⟨(some 3),.mov (.tmp 8),none⟩])
 (.seq (.seq (.ops [⟨(some 9),.mov (.tmp 0),none⟩,
  ⟨(some 10),.lenStr (.tmp 9),none⟩,
  ⟨(some 11),.mov (.con (.int .i64 0)),none⟩])
 (.block 0 (.loop c129l0)))
 (.seq (.ops [⟨(some 31),.mov (.tmp 3),none⟩,
  ⟨(some 2),.mov (.tmp 31),none⟩])
 .ret))))
def a129 : AFunc:=⟨1,c129,[.tmp 2]⟩
theorem k129 : cFunc Tryz.prog Tryz.f129=some a129:=by kernel_rfl
/- 126: (*tendril/arena.slot).fill -/
def c126 : ACode:=(.seq (.ops [⟨(some 4),.mov (.tmp 0),none⟩,
  ⟨(some 5),.mov (.tmp 0),none⟩,
  ⟨(some 6),.nilChk (.tmp 5),none⟩,
  ⟨(some 7),.fieldAddr 0 (.tmp 6),none⟩,
  ⟨(some 8),.load false 1 (.tmp 7),none⟩,
  ⟨(some 9),.call 125 [(.tmp 8)],none⟩,
  ⟨(some 10),.mkSlice 1 8 [(.int .u64 0)] (.tmp 9) (.tmp 9),none⟩,
  ⟨(some 11),.nilChk (.tmp 4),none⟩,
  ⟨(some 12),.fieldAddr 3 (.tmp 11),none⟩,
  ⟨none,.store 1 (.tmp 12) (.tmp 10),none⟩])
 (.ops [⟨(some 13),.mov (.tmp 0),none⟩,
  ⟨(some 14),.nilChk (.tmp 13),none⟩,
  ⟨(some 15),.fieldAddr 3 (.tmp 14),none⟩,
  ⟨(some 16),.load false 1 (.tmp 15),none⟩,
  ⟨(some 17),.mov (.tmp 1),none⟩,
  ⟨(some 18),.copy 1 (.tmp 16) (.tmp 17),none⟩]))
def a126 : AFunc:=⟨2,c126,[]⟩
theorem k126 : cFunc Tryz.prog Tryz.f126=some a126:=by kernel_rfl
/- 127: tendril/word.Ref -/
def c127 : ACode:=(.seq (.ops [⟨(some 6),.mov (.con (.int .i64 0)),none⟩])
 (.seq (.seq (.ops [⟨(some 8),.mov (.tmp 0),none⟩,
  ⟨(some 9),.bin .lss (.tmp 8) (.con (.int .i64 0)),none⟩,
  ⟨(some 10),.mov (.tmp 9),none⟩,
  ⟨(some 11),.mov (.tmp 0),(some (10,false))⟩,
  ⟨(some 12),.bin .geq (.tmp 11) (.con (.int .i64 1024)),(some (10,false))⟩,
  ⟨(some 13),.pick (.tmp 10) (.con (.bool true)) (.tmp 12),none⟩,
  ⟨(some 14),.mov (.tmp 13),none⟩,
  ⟨(some 15),.mov (.tmp 1),(some (14,false))⟩,
  ⟨(some 16),.bin .lss (.tmp 15) (.con (.int .i64 1)),(some (14,false))⟩,
  ⟨(some 17),.pick (.tmp 14) (.con (.bool true)) (.tmp 16),none⟩,
  ⟨(some 18),.mov (.tmp 17),none⟩,
  ⟨(some 19),.mov (.tmp 1),(some (18,false))⟩,
  ⟨(some 20),.bin .gtr (.tmp 19) (.con (.int .i64 1073741824)),(some (18,false))⟩,
  ⟨(some 21),.pick (.tmp 18) (.con (.bool true)) (.tmp 20),none⟩])
 (.cond (.tmp 21)
 (.seq (.ops [⟨(some 6),.mov (.con (.int .i64 0)),none⟩])
 .ret)
 .skip))
 (.seq (.ops [⟨(some 22),.mov (.tmp 1),none⟩,
  ⟨(some 23),.bin .shl (.tmp 22) (.con (.int .u64 16)),none⟩,
  ⟨(some 24),.mov (.tmp 0),none⟩,
  ⟨(some 25),.bin .or (.tmp 23) (.tmp 24),none⟩,
  ⟨(some 7),.mov (.tmp 25),none⟩])
 (.seq (.seq (.ops [⟨(some 26),.mov (.tmp 2),none⟩])
 (.cond (.tmp 26)
 (.ops [⟨(some 27),.mov (.tmp 7),none⟩,
  ⟨(some 28),.bin .or (.tmp 27) (.con (.int .i64 281474976710656)),none⟩,
  ⟨(some 7),.mov (.tmp 28),none⟩])
 .skip))
 (.seq (.ops [⟨(some 29),.mov (.tmp 7),none⟩,
  ⟨(some 6),.mov (.tmp 29),none⟩])
 .ret)))))
def a127 : AFunc:=⟨3,c127,[.tmp 6]⟩
theorem k127 : cFunc Tryz.prog Tryz.f127=some a127:=by kernel_rfl
/- 435: (*tendril/merge.rows).Push -/
def c435 : ACode:=(.draw [.op ⟨(some 4),.mov (.tmp 0),none⟩,
  .op ⟨(some 5),.mov (.tmp 0),none⟩,
  .op ⟨(some 6),.nilChk (.tmp 5),none⟩,
  .op ⟨(some 7),.load false 1 (.tmp 6),none⟩,
  .op ⟨(some 8),.mov (.tmp 1),none⟩,
  .op ⟨(some 9),.assertT 33 .nilSlice false (.tmp 8),none⟩,
  .op ⟨(some 10),.buildSlice 1 1 [.nilSlice] [(0,1,(.tmp 9))],none⟩,
  .look ⟨(some 7),.load false 1 (.tmp 6),none⟩,
  .look ⟨(some 10),.buildSlice 1 1 [.nilSlice] [(0,1,(.tmp 9))],none⟩,
  .op ⟨(some 11),.append 1 24 (.tmp 7) (.tmp 10),none⟩,
  .op ⟨(some 12),.nilChk (.tmp 4),none⟩,
  .op ⟨none,.store 1 (.tmp 12) (.tmp 11),none⟩])
def a435 : AFunc:=⟨2,c435,[]⟩
theorem k435 : cFunc Tryz.prog Tryz.f435=some a435:=by kernel_rfl
/- 441: (*tendril/pool.least).Push -/
def c441 : ACode:=(.draw [.op ⟨(some 4),.mov (.tmp 0),none⟩,
  .op ⟨(some 5),.mov (.tmp 0),none⟩,
  .op ⟨(some 6),.nilChk (.tmp 5),none⟩,
  .op ⟨(some 7),.load false 1 (.tmp 6),none⟩,
  .op ⟨(some 8),.mov (.tmp 1),none⟩,
  .op ⟨(some 9),.assertT 3 (.int .i64 0) false (.tmp 8),none⟩,
  .op ⟨(some 10),.buildSlice 1 1 [(.int .i64 0)] [(0,1,(.tmp 9))],none⟩,
  .look ⟨(some 7),.load false 1 (.tmp 6),none⟩,
  .look ⟨(some 10),.buildSlice 1 1 [(.int .i64 0)] [(0,1,(.tmp 9))],none⟩,
  .op ⟨(some 11),.append 1 8 (.tmp 7) (.tmp 10),none⟩,
  .op ⟨(some 12),.nilChk (.tmp 4),none⟩,
  .op ⟨none,.store 1 (.tmp 12) (.tmp 11),none⟩])
def a441 : AFunc:=⟨2,c441,[]⟩
theorem k441 : cFunc Tryz.prog Tryz.f441=some a441:=by kernel_rfl
/- 116: (*tendril/pool.Pool).Len -/
def c116 : ACode:=(.seq (.ops [⟨(some 2),.mov (.con (.int .i64 0)),none⟩])
 (.seq (.ops [⟨(some 3),.mov (.tmp 0),none⟩,
  ⟨(some 4),.nilChk (.tmp 3),none⟩,
  ⟨(some 5),.fieldAddr 1 (.tmp 4),none⟩,
  ⟨(some 6),.load false 1 (.tmp 5),none⟩,
  ⟨(some 7),.lenSlice (.tmp 6),none⟩,
  ⟨(some 2),.mov (.tmp 7),none⟩])
 .ret))
def a116 : AFunc:=⟨1,c116,[.tmp 2]⟩
theorem k116 : cFunc Tryz.prog Tryz.f116=some a116:=by kernel_rfl
/- 437: (tendril/pool.least).Len -/
def c437 : ACode:=(.seq (.ops [⟨(some 2),.mov (.con (.int .i64 0)),none⟩])
 (.seq (.ops [⟨(some 3),.mov (.tmp 0),none⟩,
  ⟨(some 4),.lenSlice (.tmp 3),none⟩,
  ⟨(some 2),.mov (.tmp 4),none⟩])
 .ret))
def a437 : AFunc:=⟨1,c437,[.tmp 2]⟩
theorem k437 : cFunc Tryz.prog Tryz.f437=some a437:=by kernel_rfl
/- 131: container/heap.up -/
def c131l0 : ACode:=(.block 1 (.seq (.ops [⟨(some 5),.mov (.tmp 1),none⟩,
  ⟨(some 6),.bin .sub (.tmp 5) (.con (.int .i64 1)),none⟩,
  ⟨(some 7),.bin .quo (.tmp 6) (.con (.int .i64 2)),none⟩,
  ⟨(some 4),.mov (.tmp 7),none⟩])
 (.seq (.seq (.ops [⟨(some 8),.mov (.tmp 4),none⟩,
  ⟨(some 9),.mov (.tmp 1),none⟩,
  ⟨(some 10),.bin .eql (.tmp 8) (.tmp 9),none⟩,
  ⟨(some 11),.mov (.tmp 10),none⟩,
  ⟨(some 12),.mov (.tmp 0),(some (11,false))⟩,
  ⟨(some 13),.mov (.tmp 1),(some (11,false))⟩,
  ⟨(some 14),.mov (.tmp 4),(some (11,false))⟩,
  ⟨(some 15),.callM [(122,433,(.deref false 1)),(146,438,.self),(151,438,(.deref false 1)),(192,433,.self)] (.tmp 12) [(.tmp 13),(.tmp 14)],(some (11,false))⟩,
  ⟨(some 16),.un .not (.tmp 15),(some (11,false))⟩,
  ⟨(some 17),.pick (.tmp 11) (.con (.bool true)) (.tmp 16),none⟩])
 (.cond (.tmp 17)
 (.exit 0)
 .skip))
 (.seq (.ops [⟨(some 18),.mov (.tmp 0),none⟩,
  ⟨(some 19),.mov (.tmp 4),none⟩,
  ⟨(some 20),.mov (.tmp 1),none⟩,
  ⟨(some 21),.callM [(116,201,.self),(122,436,(.deref false 1)),(146,439,.self),(151,439,(.deref false 1)),(192,436,.self)] (.tmp 18) [(.tmp 19),(.tmp 20)],none⟩])
 (.ops [⟨(some 22),.mov (.tmp 4),none⟩,
  ⟨(some 1),.mov (.tmp 22),none⟩])))))
def c131 : ACode:=(.block 0 (.loop c131l0))
def a131 : AFunc:=⟨2,c131,[]⟩
theorem k131 : cFunc Tryz.prog Tryz.f131=some a131:=by kernel_rfl
/- 132: tendril/get.New -/
def c132 : ACode:=(.seq (.ops [⟨(some 2),.box (.tmp 0),none⟩,
  ⟨(some 4),.mov (.con .nilPtr),none⟩,
  ⟨(some 5),.mov (.con (.int .i64 0)),none⟩])
 (.seq (.seq (.ops [⟨(some 7),.fieldAddr 0 (.tmp 2),none⟩,
  ⟨(some 8),.load false 1 (.tmp 7),none⟩,
  ⟨(some 9),.bin .neq (.tmp 8) (.con (.int .i64 1)),none⟩,
  ⟨(some 10),.mov (.tmp 9),none⟩,
  ⟨(some 11),.fieldAddr 1 (.tmp 2),(some (10,false))⟩,
  ⟨(some 12),.load false 1 (.tmp 11),(some (10,false))⟩,
  ⟨(some 13),.call 42 [(.tmp 12)],(some (10,false))⟩,
  ⟨(some 14),.un .not (.tmp 13),(some (10,false))⟩,
  ⟨(some 15),.pick (.tmp 10) (.con (.bool true)) (.tmp 14),none⟩,
  ⟨(some 16),.mov (.tmp 15),none⟩,
  ⟨(some 17),.fieldAddr 2 (.tmp 2),(some (16,false))⟩,
  ⟨(some 18),.load false 1 (.tmp 17),(some (16,false))⟩,
  ⟨(some 19),.bin .neq (.tmp 18) (.con (.str [])),(some (16,false))⟩,
  ⟨(some 20),.pick (.tmp 16) (.con (.bool true)) (.tmp 19),none⟩,
  ⟨(some 21),.mov (.tmp 20),none⟩,
  ⟨(some 22),.fieldAddr 3 (.tmp 2),(some (21,false))⟩,
  ⟨(some 23),.load false 1 (.tmp 22),(some (21,false))⟩,
  ⟨(some 24),.bin .neq (.tmp 23) (.con (.int .i64 0)),(some (21,false))⟩,
  ⟨(some 25),.pick (.tmp 21) (.con (.bool true)) (.tmp 24),none⟩])
 (.cond (.tmp 25)
 (.seq (.ops [⟨(some 4),.mov (.con .nilPtr),none⟩,
  ⟨(some 5),.mov (.con (.int .i64 1)),none⟩])
 .ret)
 .skip))
 (.seq (.ops [⟨(some 26),.fieldAddr 1 (.tmp 2),none⟩,
  ⟨(some 27),.load false 1 (.tmp 26),none⟩,
  ⟨(some 28),.call 181 [(.tmp 27)],none⟩,
  ⟨(some 29),.mov (.tmp 1),none⟩,
  ⟨(some 30),.build [(.str []),(.str []),(.int .i64 0),(.int .i64 0),(.int .i64 0),(.int .i64 0),(.int .i64 0),(.int .u64 0),.nilSlice,.nilFunc,(.int .i64 0),(.bool false),(.bool false),(.int .i64 0),(.bool false),(.int .i64 0),.nilSlice] [(0,1,(.tmp 28)),(2,1,(.tmp 29))],none⟩,
  ⟨(some 31),.box (.tmp 30),none⟩,
  ⟨(some 6),.mov (.tmp 31),none⟩])
 (.seq (.ops [⟨(some 32),.mov (.tmp 6),none⟩,
  ⟨(some 33),.build [(.int .i64 0),(.int .i64 0),(.int .i64 0),(.int .i64 0),(.int .u64 0),.nilSlice] [(0,1,(.con (.int .i64 7)))],none⟩,
  ⟨(some 34),.call 182 [(.tmp 32),(.tmp 33),(.con (.func (.func 183) [] []))],none⟩])
 (.seq (.ops [⟨(some 35),.mov (.tmp 6),none⟩,
  ⟨(some 4),.mov (.tmp 35),none⟩,
  ⟨(some 5),.mov (.con (.int .i64 0)),none⟩])
 .ret)))))
def a132 : AFunc:=⟨2,c132,[.tmp 4,.tmp 5]⟩
theorem k132 : cFunc Tryz.prog Tryz.f132=some a132:=by kernel_rfl
/- 133: (*tendril/get.Get).Next -/
def c133 : ACode:=(.seq (.ops [⟨(some 2),.new [(.int .i64 0),(.int .i64 0),(.int .i64 0),(.int .i64 0),(.int .u64 0),.nilSlice],none⟩,
  ⟨(some 3),.mov (.con (.bool false)),none⟩])
 (.seq (.seq (.ops [⟨(some 4),.mov (.tmp 0),none⟩,
  ⟨(some 5),.nilChk (.tmp 4),none⟩,
  ⟨(some 6),.fieldAddr 9 (.tmp 5),none⟩,
  ⟨(some 7),.load false 1 (.tmp 6),none⟩,
  ⟨(some 8),.eqNil 3 false (.tmp 7) (.con .nilFunc),none⟩])
 (.cond (.tmp 8)
 (.seq (.ops [⟨(some 9),.build [(.int .i64 0),(.int .i64 0),(.int .i64 0),(.int .i64 0),(.int .u64 0),.nilSlice] [],none⟩,
  ⟨none,.store 6 (.tmp 2) (.tmp 9),none⟩,
  ⟨(some 3),.mov (.con (.bool false)),none⟩])
 .ret)
 .skip))
 (.seq (.ops [⟨(some 10),.mov (.tmp 0),none⟩,
  ⟨(some 11),.nilChk (.tmp 10),none⟩,
  ⟨(some 12),.fieldAddr 3 (.tmp 11),none⟩,
  ⟨(some 13),.load true 6 (.tmp 12),none⟩,
  ⟨none,.store 6 (.tmp 2) (.tmp 13),none⟩,
  ⟨(some 3),.mov (.con (.bool true)),none⟩])
 .ret)))
def a133 : AFunc:=⟨1,c133,[.cell 2 true 6,.tmp 3]⟩
theorem k133 : cFunc Tryz.prog Tryz.f133=some a133:=by kernel_rfl
/- 134: (*tendril/get.Get).Got -/
def c134 : ACode:=(.seq (.ops [⟨(some 3),.box (.tmp 1),none⟩])
 (.seq (.ops [⟨(some 4),.mov (.tmp 0),none⟩,
  ⟨(some 5),.nilChk (.tmp 4),none⟩,
  ⟨(some 6),.fieldAddr 12 (.tmp 5),none⟩,
  ⟨none,.store 1 (.tmp 6) (.con (.bool false)),none⟩])
 (.seq (.ops [⟨(some 7),.mov (.tmp 0),none⟩,
  ⟨(some 8),.nilChk (.tmp 7),none⟩,
  ⟨(some 9),.fieldAddr 9 (.tmp 8),none⟩,
  ⟨(some 10),.load false 1 (.tmp 9),none⟩,
  ⟨(some 11),.eqNil 3 true (.tmp 10) (.con .nilFunc),none⟩])
 (.cond (.tmp 11)
 (.ops [⟨(some 12),.mov (.tmp 0),none⟩,
  ⟨(some 13),.nilChk (.tmp 12),none⟩,
  ⟨(some 14),.fieldAddr 9 (.tmp 13),none⟩,
  ⟨(some 15),.load false 1 (.tmp 14),none⟩,
  ⟨(some 16),.mov (.tmp 0),none⟩,
  ⟨(some 17),.load true 4 (.tmp 3),none⟩,
  ⟨(some 18),.callV (.tmp 15) [(.tmp 16),(.tmp 17)],none⟩])
 .skip))))
def a134 : AFunc:=⟨2,c134,[]⟩
theorem k134 : cFunc Tryz.prog Tryz.f134=some a134:=by kernel_rfl
/- 135: (*tendril/get.Get).Answer -/
def c135 : ACode:=(.seq (.ops [⟨(some 2),.new [(.int .i64 0),(.bool false),(.int .i64 0),.nilSlice],none⟩,
  ⟨(some 3),.mov (.con (.bool false)),none⟩])
 (.seq (.seq (.ops [⟨(some 4),.mov (.tmp 0),none⟩,
  ⟨(some 5),.nilChk (.tmp 4),none⟩,
  ⟨(some 6),.fieldAddr 9 (.tmp 5),none⟩,
  ⟨(some 7),.load false 1 (.tmp 6),none⟩,
  ⟨(some 8),.eqNil 3 true (.tmp 7) (.con .nilFunc),none⟩])
 (.cond (.tmp 8)
 (.seq (.ops [⟨(some 9),.build [(.int .i64 0),(.bool false),(.int .i64 0),.nilSlice] [],none⟩,
  ⟨none,.store 4 (.tmp 2) (.tmp 9),none⟩,
  ⟨(some 3),.mov (.con (.bool false)),none⟩])
 .ret)
 .skip))
 (.seq (.ops [⟨(some 10),.mov (.tmp 0),none⟩,
  ⟨(some 11),.nilChk (.tmp 10),none⟩,
  ⟨(some 12),.fieldAddr 13 (.tmp 11),none⟩,
  ⟨(some 13),.load true 4 (.tmp 12),none⟩,
  ⟨none,.store 4 (.tmp 2) (.tmp 13),none⟩,
  ⟨(some 3),.mov (.con (.bool true)),none⟩])
 .ret)))
def a135 : AFunc:=⟨1,c135,[.cell 2 true 4,.tmp 3]⟩
theorem k135 : cFunc Tryz.prog Tryz.f135=some a135:=by kernel_rfl
/- 136: container/heap.Pop -/
def c136 : ACode:=(.seq (.ops [⟨(some 2),.mov (.con .nilIface),none⟩])
 (.seq (.ops [⟨(some 4),.mov (.tmp 0),none⟩,
  ⟨(some 5),.callM [(17,430,.self),(82,116,.self),(122,70,(.deref false 1)),(146,437,.self),(151,437,(.deref false 1)),(157,111,.self),(192,70,.self)] (.tmp 4) [],none⟩,
  ⟨(some 6),.bin .sub (.tmp 5) (.con (.int .i64 1)),none⟩,
  ⟨(some 3),.mov (.tmp 6),none⟩])
 (.seq (.ops [⟨(some 7),.mov (.tmp 0),none⟩,
  ⟨(some 8),.mov (.tmp 3),none⟩,
  ⟨(some 9),.callM [(116,201,.self),(122,436,(.deref false 1)),(146,439,.self),(151,439,(.deref false 1)),(192,436,.self)] (.tmp 7) [(.con (.int .i64 0)),(.tmp 8)],none⟩])
 (.seq (.ops [⟨(some 10),.mov (.tmp 0),none⟩,
  ⟨(some 11),.mov (.tmp 3),none⟩,
  ⟨(some 12),.call 172 [(.tmp 10),(.con (.int .i64 0)),(.tmp 11)],none⟩])
 (.seq (.ops [⟨(some 13),.mov (.tmp 0),none⟩,
  ⟨(some 14),.callM [(122,434,.self),(151,440,.self)] (.tmp 13) [],none⟩,
  ⟨(some 2),.mov (.tmp 14),none⟩])
 .ret)))))
def a136 : AFunc:=⟨1,c136,[.tmp 2]⟩
theorem k136 : cFunc Tryz.prog Tryz.f136=some a136:=by kernel_rfl
/- 137: tendril/put.New -/
def c137 : ACode:=(.seq (.ops [⟨(some 3),.box (.tmp 0),none⟩,
  ⟨(some 6),.mov (.con .nilPtr),none⟩,
  ⟨(some 7),.mov (.con (.int .i64 0)),none⟩])
 (.seq (.seq (.ops [⟨(some 9),.fieldAddr 0 (.tmp 3),none⟩,
  ⟨(some 10),.load false 1 (.tmp 9),none⟩,
  ⟨(some 11),.bin .neq (.tmp 10) (.con (.int .i64 2)),none⟩,
  ⟨(some 12),.mov (.tmp 11),none⟩,
  ⟨(some 13),.fieldAddr 1 (.tmp 3),(some (12,false))⟩,
  ⟨(some 14),.load false 1 (.tmp 13),(some (12,false))⟩,
  ⟨(some 15),.call 42 [(.tmp 14)],(some (12,false))⟩,
  ⟨(some 16),.un .not (.tmp 15),(some (12,false))⟩,
  ⟨(some 17),.pick (.tmp 12) (.con (.bool true)) (.tmp 16),none⟩,
  ⟨(some 18),.mov (.tmp 17),none⟩,
  ⟨(some 19),.fieldAddr 3 (.tmp 3),(some (18,false))⟩,
  ⟨(some 20),.load false 1 (.tmp 19),(some (18,false))⟩,
  ⟨(some 21),.bin .lss (.tmp 20) (.con (.int .i64 0)),(some (18,false))⟩,
  ⟨(some 22),.pick (.tmp 18) (.con (.bool true)) (.tmp 21),none⟩,
  ⟨(some 23),.mov (.tmp 22),none⟩,
  ⟨(some 24),.fieldAddr 3 (.tmp 3),(some (23,false))⟩,
  ⟨(some 25),.load false 1 (.tmp 24),(some (23,false))⟩,
  ⟨(some 26),.bin .gtr (.tmp 25) (.con (.int .i64 1099511627776)),(some (23,false))⟩,
  ⟨(some 27),.pick (.tmp 23) (.con (.bool true)) (.tmp 26),none⟩,
  ⟨(some 28),.mov (.tmp 27),none⟩,
  ⟨(some 29),.fieldAddr 2 (.tmp 3),(some (28,false))⟩,
  ⟨(some 30),.load false 1 (.tmp 29),(some (28,false))⟩,
  ⟨(some 31),.bin .neq (.tmp 30) (.con (.str [])),(some (28,false))⟩,
  ⟨(some 32),.pick (.tmp 28) (.con (.bool true)) (.tmp 31),none⟩,
  ⟨(some 33),.mov (.tmp 32),none⟩,
  ⟨(some 34),.mov (.tmp 2),(some (33,false))⟩,
  ⟨(some 35),.bin .lss (.tmp 34) (.con (.int .i64 1)),(some (33,false))⟩,
  ⟨(some 36),.pick (.tmp 33) (.con (.bool true)) (.tmp 35),none⟩])
 (.cond (.tmp 36)
 (.seq (.ops [⟨(some 6),.mov (.con .nilPtr),none⟩,
  ⟨(some 7),.mov (.con (.int .i64 1)),none⟩])
 .ret)
 .skip))
 (.seq (.draw [.op ⟨(some 37),.fieldAddr 1 (.tmp 3),none⟩,
  .op ⟨(some 38),.load false 1 (.tmp 37),none⟩,
  .op ⟨(some 40),.fieldAddr 3 (.tmp 3),none⟩,
  .op ⟨(some 41),.load false 1 (.tmp 40),none⟩,
  .op ⟨(some 42),.mov (.tmp 1),none⟩,
  .op ⟨(some 43),.mov (.tmp 2),none⟩,
  .op ⟨(some 39),.call 181 [(.tmp 38)],none⟩,
  .op ⟨(some 44),.build [(.str []),(.str []),(.int .i64 0),(.int .i64 0),(.int .i64 0),(.int .i64 0),(.bool false),(.int .i64 0),(.int .i64 0),(.int .i64 0),(.int .i64 0),(.int .u64 0),.nilSlice,.nilFunc,.nilFunc,(.int .i64 0),(.int .i64 0),(.int .u64 0),(.str []),.nilSlice,.nilSlice,(.int .u8 0),(.int .i64 0),(.int .i64 0),(.int .u64 0),(.str []),.nilSlice,.nilSlice,(.int .u8 0),.nilSlice,.nilSlice,.nilSlice,(.bool false),(.bool false),(.int .i64 0),(.bool false),(.int .i64 0),.nilSlice] [(0,1,(.tmp 39)),(2,1,(.tmp 41)),(3,1,(.tmp 42)),(4,1,(.tmp 43))],none⟩,
  .op ⟨(some 45),.box (.tmp 44),none⟩,
  .op ⟨(some 8),.mov (.tmp 45),none⟩,
  .look ⟨(some 41),.load false 1 (.tmp 40),none⟩,
  .look ⟨(some 45),.box (.tmp 44),none⟩])
 (.seq (.ops [⟨(some 46),.mov (.tmp 8),none⟩,
  ⟨(some 47),.build [(.int .i64 0),(.int .i64 0),(.int .i64 0),(.int .i64 0),(.int .u64 0),.nilSlice] [(0,1,(.con (.int .i64 7)))],none⟩,
  ⟨(some 48),.call 184 [(.tmp 46),(.tmp 47),(.con (.func (.func 185) [] []))],none⟩])
 (.seq (.ops [⟨(some 49),.mov (.tmp 8),none⟩,
  ⟨(some 6),.mov (.tmp 49),none⟩,
  ⟨(some 7),.mov (.con (.int .i64 0)),none⟩])
 .ret)))))
def a137 : AFunc:=⟨3,c137,[.tmp 6,.tmp 7]⟩
theorem k137 : cFunc Tryz.prog Tryz.f137=some a137:=by kernel_rfl
/- 138: (*tendril/put.Put).Next -/
def c138 : ACode:=(.seq (.ops [⟨(some 2),.new [(.int .i64 0),(.int .i64 0),(.int .i64 0),(.int .i64 0),(.int .u64 0),.nilSlice],none⟩,
  ⟨(some 3),.mov (.con (.bool false)),none⟩])
 (.seq (.seq (.ops [⟨(some 5),.mov (.tmp 0),none⟩,
  ⟨(some 6),.nilChk (.tmp 5),none⟩,
  ⟨(some 7),.fieldAddr 13 (.tmp 6),none⟩,
  ⟨(some 8),.load false 1 (.tmp 7),none⟩,
  ⟨(some 9),.eqNil 3 false (.tmp 8) (.con .nilFunc),none⟩])
 (.cond (.tmp 9)
 (.seq (.ops [⟨(some 10),.build [(.int .i64 0),(.int .i64 0),(.int .i64 0),(.int .i64 0),(.int .u64 0),.nilSlice] [],none⟩,
  ⟨none,.store 6 (.tmp 2) (.tmp 10),none⟩,
  ⟨(some 3),.mov (.con (.bool false)),none⟩])
 .ret)
 .skip))
 (.seq (.ops [⟨(some 11),.mov (.tmp 0),none⟩,
  ⟨(some 12),.nilChk (.tmp 11),none⟩,
  ⟨(some 13),.fieldAddr 7 (.tmp 12),none⟩,
  ⟨(some 14),.load true 6 (.tmp 13),none⟩,
  ⟨(some 4),.new [(.int .i64 0),(.int .i64 0),(.int .i64 0),(.int .i64 0),(.int .u64 0),.nilSlice],none⟩,
  ⟨none,.store 6 (.tmp 4) (.tmp 14),none⟩])
 (.seq (.ops [⟨(some 15),.fieldAddr 5 (.tmp 4),none⟩,
  ⟨(some 16),.load false 1 (.tmp 15),none⟩,
  ⟨(some 17),.call 186 [(.tmp 16)],none⟩,
  ⟨(some 18),.fieldAddr 5 (.tmp 4),none⟩,
  ⟨none,.store 1 (.tmp 18) (.tmp 17),none⟩])
 (.seq (.ops [⟨(some 19),.load true 6 (.tmp 4),none⟩,
  ⟨none,.store 6 (.tmp 2) (.tmp 19),none⟩,
  ⟨(some 3),.mov (.con (.bool true)),none⟩])
 .ret)))))
def a138 : AFunc:=⟨1,c138,[.cell 2 true 6,.tmp 3]⟩
theorem k138 : cFunc Tryz.prog Tryz.f138=some a138:=by kernel_rfl
/- 139: (*tendril/put.Put).Got -/
def c139 : ACode:=(.seq (.ops [⟨(some 3),.box (.tmp 1),none⟩])
 (.seq (.ops [⟨(some 4),.mov (.tmp 0),none⟩,
  ⟨(some 5),.nilChk (.tmp 4),none⟩,
  ⟨(some 6),.fieldAddr 33 (.tmp 5),none⟩,
  ⟨none,.store 1 (.tmp 6) (.con (.bool false)),none⟩])
 (.seq (.ops [⟨(some 7),.mov (.tmp 0),none⟩,
  ⟨(some 8),.nilChk (.tmp 7),none⟩,
  ⟨(some 9),.fieldAddr 13 (.tmp 8),none⟩,
  ⟨(some 10),.load false 1 (.tmp 9),none⟩,
  ⟨(some 11),.eqNil 3 true (.tmp 10) (.con .nilFunc),none⟩])
 (.cond (.tmp 11)
 (.ops [⟨(some 12),.mov (.tmp 0),none⟩,
  ⟨(some 13),.nilChk (.tmp 12),none⟩,
  ⟨(some 14),.fieldAddr 13 (.tmp 13),none⟩,
  ⟨(some 15),.load false 1 (.tmp 14),none⟩,
  ⟨(some 16),.mov (.tmp 0),none⟩,
  ⟨(some 17),.load true 4 (.tmp 3),none⟩,
  ⟨(some 18),.callV (.tmp 15) [(.tmp 16),(.tmp 17)],none⟩])
 .skip))))
def a139 : AFunc:=⟨2,c139,[]⟩
theorem k139 : cFunc Tryz.prog Tryz.f139=some a139:=by kernel_rfl
/- 140: (*tendril/docs.Index).settle -/
def c140l0 : ACode:=(.seq (.ops [⟨(some 17),.bin .lss (.tmp 16) (.tmp 15),none⟩])
 (.seq (.cond (.tmp 17)
 .skip
 (.exit 2))
 (.seq (.block 3 (.seq (.ops [⟨(some 18),.mov (.tmp 16),none⟩,
  ⟨(some 2),.mov (.tmp 18),none⟩])
 (.seq (.ops [⟨(some 20),.build [(.int .i64 0),(.str []),(.str []),(.int .i64 0)] [(0,1,(.con (.int .i64 5)))],none⟩,
  ⟨(some 21),.mov (.tmp 0),none⟩,
  ⟨(some 22),.nilChk (.tmp 21),none⟩,
  ⟨(some 23),.fieldAddr 0 (.tmp 22),none⟩,
  ⟨(some 24),.fieldAddr 5 (.tmp 23),none⟩,
  ⟨(some 25),.load false 1 (.tmp 24),none⟩,
  ⟨(some 26),.call 187 [(.tmp 20),(.tmp 25)],none⟩,
  ⟨(some 19),.mov (.tmp 26),none⟩,
  ⟨(some 27),.extract (.tmp 19) 0,none⟩,
  ⟨(some 28),.extract (.tmp 19) 1,none⟩,
  ⟨(some 3),.mov (.tmp 27),none⟩,
  ⟨(some 4),.mov (.tmp 28),none⟩])
 (.seq (.ops [⟨(some 29),.mov (.tmp 4),none⟩,
  ⟨(some 30),.bin .eql (.tmp 29) (.con (.int .i64 0)),none⟩])
 (.cond (.tmp 30)
 (.ops [⟨(some 31),.mov (.tmp 0),none⟩,
  ⟨(some 32),.mov (.tmp 2),none⟩,
  ⟨(some 33),.mov (.tmp 3),none⟩,
  ⟨(some 34),.mkFunc (.func 188) [(.tmp 33)] [],none⟩,
  ⟨(some 35),.mov (.tmp 3),none⟩,
  ⟨(some 36),.mkFunc (.func 189) [(.tmp 35)] [],none⟩,
  ⟨(some 37),.call 59 [(.tmp 31),(.tmp 32),(.tmp 34),(.tmp 36)],none⟩])
 .skip)))))
 (.ops [⟨(some 38),.bin .add (.tmp 16) (.con (.int .i64 1)),none⟩,
  ⟨(some 16),.mov (.tmp 38),none⟩]))))
def c140l1 : ACode:=(.seq (.seq (.ops [⟨(some 5),.mov (.tmp 0),none⟩,
  ⟨(some 6),.nilChk (.tmp 5),none⟩,
  ⟨(some 7),.fieldAddr 8 (.tmp 6),none⟩,
  ⟨(some 8),.load false 1 (.tmp 7),none⟩,
  ⟨(some 9),.call 44 [(.tmp 8),(.con (.int .i64 0))],none⟩,
  ⟨(some 10),.bin .gtr (.tmp 9) (.con (.int .i64 0)),none⟩])
 (.cond (.tmp 10)
 .skip
 (.exit 0)))
 (.block 1 (.seq (.ops [⟨(some 11),.mov (.tmp 0),none⟩,
  ⟨(some 12),.nilChk (.tmp 11),none⟩,
  ⟨(some 13),.fieldAddr 0 (.tmp 12),none⟩,
  ⟨(some 14),.fieldAddr 5 (.tmp 13),none⟩,
  ⟨(some 15),.load false 1 (.tmp 14),none⟩,
  ⟨(some 16),.mov (.con (.int .i64 0)),none⟩])
 (.block 2 (.loop c140l0)))))
def c140 : ACode:=(.block 0 (.loop c140l1))
def a140 : AFunc:=⟨1,c140,[]⟩
theorem k140 : cFunc Tryz.prog Tryz.f140=some a140:=by kernel_rfl
/- 141: (tendril/posting.List).place -/
def c141 : ACode:=(.seq (.ops [⟨(some 2),.box (.tmp 0),none⟩,
  ⟨(some 4),.mov (.con (.int .i64 0)),none⟩,
  ⟨(some 5),.mov (.con (.int .i64 0)),none⟩,
  ⟨(some 6),.mov (.con (.bool false)),none⟩])
 (.seq (.seq (.ops [⟨(some 10),.fieldAddr 0 (.tmp 2),none⟩,
  ⟨(some 11),.load false 1 (.tmp 10),none⟩,
  ⟨(some 12),.lenSlice (.tmp 11),none⟩,
  ⟨(some 13),.bin .eql (.tmp 12) (.con (.int .i64 0)),none⟩])
 (.cond (.tmp 13)
 (.seq (.ops [⟨(some 4),.mov (.con (.int .i64 0)),none⟩,
  ⟨(some 5),.mov (.con (.int .i64 0)),none⟩,
  ⟨(some 6),.mov (.con (.bool false)),none⟩])
 .ret)
 .skip))
 (.seq (.ops [⟨(some 14),.load true 1 (.tmp 2),none⟩,
  ⟨(some 15),.mov (.tmp 1),none⟩,
  ⟨(some 16),.call 190 [(.tmp 14),(.tmp 15)],none⟩,
  ⟨(some 7),.mov (.tmp 16),none⟩])
 (.seq (.ops [⟨(some 18),.fieldAddr 0 (.tmp 2),none⟩,
  ⟨(some 19),.load false 1 (.tmp 18),none⟩,
  ⟨(some 20),.mov (.tmp 7),none⟩,
  ⟨(some 21),.idxAddr 1 (.tmp 19) (.tmp 20),none⟩,
  ⟨(some 22),.load false 1 (.tmp 21),none⟩,
  ⟨(some 23),.mov (.tmp 1),none⟩,
  ⟨(some 24),.call 113 [(.tmp 22),(.tmp 23)],none⟩,
  ⟨(some 17),.mov (.tmp 24),none⟩,
  ⟨(some 25),.extract (.tmp 17) 0,none⟩,
  ⟨(some 26),.extract (.tmp 17) 1,none⟩,
  ⟨(some 8),.mov (.tmp 25),none⟩,
  ⟨(some 9),.mov (.tmp 26),none⟩])
 (.seq (.ops [⟨(some 27),.mov (.tmp 7),none⟩,
  ⟨(some 28),.mov (.tmp 8),none⟩,
  ⟨(some 29),.mov (.tmp 9),none⟩,
  ⟨(some 4),.mov (.tmp 27),none⟩,
  ⟨(some 5),.mov (.tmp 28),none⟩,
  ⟨(some 6),.mov (.tmp 29),none⟩])
 .ret)))))
def a141 : AFunc:=⟨2,c141,[.tmp 4,.tmp 5,.tmp 6]⟩
theorem k141 : cFunc Tryz.prog Tryz.f141=some a141:=by kernel_rfl
/- 143: slices.Clone[[]int,int] -/
def c143 : ACode:=(.seq (.ops [⟨(some 2),.mov (.con .nilSlice),none⟩])
 (.seq (.seq (.ops [⟨(some 3),.mov (.tmp 0),none⟩,
  ⟨(some 4),.eqNil 1 false (.tmp 3) (.con .nilSlice),none⟩])
 (.cond (.tmp 4)
 (.seq (.ops [⟨(some 2),.mov (.con .nilSlice),none⟩])
 .ret)
 .skip))
 (.seq (.ops [⟨(some 5),.buildSlice 1 0 [] [],none⟩,
  ⟨(some 6),.mov (.tmp 0),none⟩,
  ⟨(some 7),.append 1 8 (.tmp 5) (.tmp 6),none⟩,
  ⟨(some 2),.mov (.tmp 7),none⟩])
 .ret)))
def a143 : AFunc:=⟨1,c143,[.tmp 2]⟩
theorem k143 : cFunc Tryz.prog Tryz.f143=some a143:=by kernel_rfl
/- 142: slices.Insert[[]int,int] -/
def c142 : ACode:=(.seq (.ops [⟨(some 6),.mov (.con .nilSlice),none⟩])
 (.seq (.ops [⟨(some 10),.mov (.tmp 0),none⟩,
  ⟨(some 11),.mov (.tmp 1),none⟩,
  ⟨(some 12),.slc 1 (.tmp 10) (some (.tmp 11)) none none,none⟩])
 (.seq (.ops [⟨(some 13),.mov (.tmp 2),none⟩,
  ⟨(some 14),.lenSlice (.tmp 13),none⟩,
  ⟨(some 7),.mov (.tmp 14),none⟩])
 (.seq (.seq (.ops [⟨(some 15),.mov (.tmp 7),none⟩,
  ⟨(some 16),.bin .eql (.tmp 15) (.con (.int .i64 0)),none⟩])
 (.cond (.tmp 16)
 (.seq (.ops [⟨(some 17),.mov (.tmp 0),none⟩,
  ⟨(some 6),.mov (.tmp 17),none⟩])
 .ret)
 .skip))
 (.seq (.ops [⟨(some 18),.mov (.tmp 0),none⟩,
  ⟨(some 19),.lenSlice (.tmp 18),none⟩,
  ⟨(some 8),.mov (.tmp 19),none⟩])
 (.seq (.seq (.ops [⟨(some 20),.mov (.tmp 1),none⟩,
  ⟨(some 21),.mov (.tmp 8),none⟩,
  ⟨(some 22),.bin .eql (.tmp 20) (.tmp 21),none⟩])
 (.cond (.tmp 22)
 (.seq (.ops [⟨(some 23),.mov (.tmp 0),none⟩,
  ⟨(some 24),.mov (.tmp 2),none⟩,
  ⟨(some 25),.append 1 8 (.tmp 23) (.tmp 24),none⟩,
  ⟨(some 6),.mov (.tmp 25),none⟩])
 .ret)
 .skip))
 (.seq (.seq (.ops [⟨(some 26),.mov (.tmp 8),none⟩,
  ⟨(some 27),.mov (.tmp 7),none⟩,
  ⟨(some 28),.bin .add (.tmp 26) (.tmp 27),none⟩,
  ⟨(some 29),.mov (.tmp 0),none⟩,
  ⟨(some 30),.capSlice (.tmp 29),none⟩,
  ⟨(some 31),.bin .gtr (.tmp 28) (.tmp 30),none⟩])
 (.cond (.tmp 31)
 (.seq (.ops [⟨(some 32),.mov (.tmp 0),none⟩,
  ⟨(some 33),.mov (.tmp 1),none⟩,
  ⟨(some 34),.slc 1 (.tmp 32) none (some (.tmp 33)) none,none⟩,
  ⟨(some 35),.mov (.tmp 8),none⟩,
  ⟨(some 36),.mov (.tmp 7),none⟩,
  ⟨(some 37),.bin .add (.tmp 35) (.tmp 36),none⟩,
  ⟨(some 38),.mov (.tmp 1),none⟩,
  ⟨(some 39),.bin .sub (.tmp 37) (.tmp 38),none⟩,
  ⟨(some 40),.appendZ 1 8 [(.int .i64 0)] (.tmp 34) (.tmp 39),none⟩,
  ⟨(some 9),.mov (.tmp 40),none⟩])
 (.seq (.ops [⟨(some 41),.mov (.tmp 9),none⟩,
  ⟨(some 42),.mov (.tmp 1),none⟩,
  ⟨(some 43),.slc 1 (.tmp 41) (some (.tmp 42)) none none,none⟩,
  ⟨(some 44),.mov (.tmp 2),none⟩,
  ⟨(some 45),.copy 1 (.tmp 43) (.tmp 44),none⟩])
 (.seq (.ops [⟨(some 46),.mov (.tmp 9),none⟩,
  ⟨(some 47),.mov (.tmp 1),none⟩,
  ⟨(some 48),.mov (.tmp 7),none⟩,
  ⟨(some 49),.bin .add (.tmp 47) (.tmp 48),none⟩,
  ⟨(some 50),.slc 1 (.tmp 46) (some (.tmp 49)) none none,none⟩,
  ⟨(some 51),.mov (.tmp 0),none⟩,
  ⟨(some 52),.mov (.tmp 1),none⟩,
  ⟨(some 53),.slc 1 (.tmp 51) (some (.tmp 52)) none none,none⟩,
  ⟨(some 54),.copy 1 (.tmp 50) (.tmp 53),none⟩])
 (.seq (.ops [⟨(some 55),.mov (.tmp 9),none⟩,
  ⟨(some 6),.mov (.tmp 55),none⟩])
 .ret))))
 .skip))
 (.seq (.ops [⟨(some 56),.mov (.tmp 0),none⟩,
  ⟨(some 57),.mov (.tmp 8),none⟩,
  ⟨(some 58),.mov (.tmp 7),none⟩,
  ⟨(some 59),.bin .add (.tmp 57) (.tmp 58),none⟩,
  ⟨(some 60),.slc 1 (.tmp 56) none (some (.tmp 59)) none,none⟩,
  ⟨(some 0),.mov (.tmp 60),none⟩])
 (.seq (.seq (.ops [⟨(some 61),.mov (.tmp 2),none⟩,
  ⟨(some 62),.mov (.tmp 0),none⟩,
  ⟨(some 63),.mov (.tmp 1),none⟩,
  ⟨(some 64),.mov (.tmp 7),none⟩,
  ⟨(some 65),.bin .add (.tmp 63) (.tmp 64),none⟩,
  ⟨(some 66),.slc 1 (.tmp 62) (some (.tmp 65)) none none,none⟩,
  ⟨(some 67),.call 191 [(.tmp 61),(.tmp 66)],none⟩,
  ⟨(some 68),.un .not (.tmp 67),none⟩])
 (.cond (.tmp 68)
 (.seq (.ops [⟨(some 69),.mov (.tmp 0),none⟩,
  ⟨(some 70),.mov (.tmp 1),none⟩,
  ⟨(some 71),.mov (.tmp 7),none⟩,
  ⟨(some 72),.bin .add (.tmp 70) (.tmp 71),none⟩,
  ⟨(some 73),.slc 1 (.tmp 69) (some (.tmp 72)) none none,none⟩,
  ⟨(some 74),.mov (.tmp 0),none⟩,
  ⟨(some 75),.mov (.tmp 1),none⟩,
  ⟨(some 76),.slc 1 (.tmp 74) (some (.tmp 75)) none none,none⟩,
  ⟨(some 77),.copy 1 (.tmp 73) (.tmp 76),none⟩])
 (.seq (.ops [⟨(some 78),.mov (.tmp 0),none⟩,
  ⟨(some 79),.mov (.tmp 1),none⟩,
  ⟨(some 80),.slc 1 (.tmp 78) (some (.tmp 79)) none none,none⟩,
  ⟨(some 81),.mov (.tmp 2),none⟩,
  ⟨(some 82),.copy 1 (.tmp 80) (.tmp 81),none⟩])
 (.seq (.ops [⟨(some 83),.mov (.tmp 0),none⟩,
  ⟨(some 6),.mov (.tmp 83),none⟩])
 .ret)))
 .skip))
 (.seq (.ops [⟨(some 84),.mov (.tmp 0),none⟩,
  ⟨(some 85),.mov (.tmp 8),none⟩,
  ⟨(some 86),.slc 1 (.tmp 84) (some (.tmp 85)) none none,none⟩,
  ⟨(some 87),.mov (.tmp 2),none⟩,
  ⟨(some 88),.copy 1 (.tmp 86) (.tmp 87),none⟩])
 (.seq (.ops [⟨(some 89),.mov (.tmp 0),none⟩,
  ⟨(some 90),.mov (.tmp 1),none⟩,
  ⟨(some 91),.slc 1 (.tmp 89) (some (.tmp 90)) none none,none⟩,
  ⟨(some 92),.mov (.tmp 7),none⟩,
  ⟨(some 93),.call 192 [(.tmp 91),(.tmp 92)],none⟩])
 (.seq (.ops [⟨(some 94),.mov (.tmp 0),none⟩,
  ⟨(some 6),.mov (.tmp 94),none⟩])
 .ret))))))))))))
def a142 : AFunc:=⟨3,c142,[.tmp 6]⟩
theorem k142 : cFunc Tryz.prog Tryz.f142=some a142:=by kernel_rfl
/- 144: (tendril/posting.List).with -/
def c144 : ACode:=(.seq (.ops [⟨(some 4),.box (.tmp 0),none⟩,
  ⟨(some 8),.new [.nilSlice],none⟩])
 (.seq (.draw [.op ⟨(some 9),.fieldAddr 0 (.tmp 4),none⟩,
  .op ⟨(some 10),.load false 1 (.tmp 9),none⟩,
  .op ⟨(some 11),.mov (.tmp 1),none⟩,
  .op ⟨(some 12),.slc 1 (.tmp 10) none (some (.tmp 11)) none,none⟩,
  .op ⟨(some 13),.mov (.tmp 3),none⟩,
  .op ⟨(some 14),.fieldAddr 0 (.tmp 4),none⟩,
  .op ⟨(some 15),.load false 1 (.tmp 14),none⟩,
  .op ⟨(some 16),.mov (.tmp 2),none⟩,
  .op ⟨(some 17),.slc 1 (.tmp 15) (some (.tmp 16)) none none,none⟩,
  .op ⟨(some 18),.buildSlice 1 3 [.nilSlice,.nilSlice,.nilSlice] [(0,1,(.tmp 12)),(1,1,(.tmp 13)),(2,1,(.tmp 17))],none⟩,
  .look ⟨(some 10),.load false 1 (.tmp 9),none⟩,
  .look ⟨(some 15),.load false 1 (.tmp 14),none⟩,
  .look ⟨(some 18),.buildSlice 1 3 [.nilSlice,.nilSlice,.nilSlice] [(0,1,(.tmp 12)),(1,1,(.tmp 13)),(2,1,(.tmp 17))],none⟩,
  .op ⟨(some 19),.call 193 [(.tmp 18)],none⟩,
  .op ⟨(some 20),.build [.nilSlice] [(0,1,(.tmp 19))],none⟩,
  .op ⟨none,.store 1 (.tmp 8) (.tmp 20),none⟩])
 .ret))
def a144 : AFunc:=⟨4,c144,[.cell 8 true 1]⟩
theorem k144 : cFunc Tryz.prog Tryz.f144=some a144:=by kernel_rfl
/- 118: internal/stringslite.IndexByte -/
def c118 : ACode:=(.seq (.ops [⟨(some 4),.mov (.con (.int .i64 0)),none⟩])
 (.seq (.ops [⟨(some 5),.mov (.tmp 0),none⟩,
  ⟨(some 6),.mov (.tmp 1),none⟩,
  ⟨(some 7),.call 173 [(.tmp 5),(.tmp 6)],none⟩,
  ⟨(some 4),.mov (.tmp 7),none⟩])
 .ret))
def a118 : AFunc:=⟨2,c118,[.tmp 4]⟩
theorem k118 : cFunc Tryz.prog Tryz.f118=some a118:=by kernel_rfl
/- 146: slices.Concat[[]int,int] -/
def c146l0 : ACode:=(.seq (.ops [⟨(some 12),.bin .lss (.tmp 11) (.tmp 10),none⟩])
 (.seq (.cond (.tmp 12)
 .skip
 (.exit 0))
 (.seq (.block 1 (.seq (.ops [⟨(some 13),.idxAddr 1 (.tmp 9) (.tmp 11),none⟩,
  ⟨(some 14),.load false 1 (.tmp 13),none⟩,
  ⟨(some 5),.mov (.tmp 14),none⟩])
 (.seq (.ops [⟨(some 15),.mov (.tmp 3),none⟩,
  ⟨(some 16),.mov (.tmp 5),none⟩,
  ⟨(some 17),.lenSlice (.tmp 16),none⟩,
  ⟨(some 18),.bin .add (.tmp 15) (.tmp 17),none⟩,
  ⟨(some 3),.mov (.tmp 18),none⟩])
 (.seq (.ops [⟨(some 19),.mov (.tmp 3),none⟩,
  ⟨(some 20),.bin .lss (.tmp 19) (.con (.int .i64 0)),none⟩])
 (.cond (.tmp 20)
 (.ops [⟨(some 21),.mkIface 9 (.con (.str [108,101,110,32,111,117,116,32,111,102,32,114,97,110,103,101])),none⟩,
  ⟨none,.stuck,none⟩])
 .skip)))))
 (.ops [⟨(some 22),.bin .add (.tmp 11) (.con (.int .i64 1)),none⟩,
  ⟨(some 11),.mov (.tmp 22),none⟩]))))
def c146l1 : ACode:=(.seq (.ops [⟨(some 28),.bin .lss (.tmp 27) (.tmp 26),none⟩])
 (.seq (.cond (.tmp 28)
 .skip
 (.exit 2))
 (.seq (.block 3 (.seq (.ops [⟨(some 29),.idxAddr 1 (.tmp 25) (.tmp 27),none⟩,
  ⟨(some 30),.load false 1 (.tmp 29),none⟩,
  ⟨(some 8),.mov (.tmp 30),none⟩])
 (.ops [⟨(some 31),.mov (.tmp 6),none⟩,
  ⟨(some 32),.mov (.tmp 8),none⟩,
  ⟨(some 33),.append 1 8 (.tmp 31) (.tmp 32),none⟩,
  ⟨(some 6),.mov (.tmp 33),none⟩])))
 (.ops [⟨(some 34),.bin .add (.tmp 27) (.con (.int .i64 1)),none⟩,
  ⟨(some 27),.mov (.tmp 34),none⟩]))))
def c146 : ACode:=(.seq (.ops [⟨(some 2),.mov (.con .nilSlice),none⟩])
 (.seq (.ops [⟨(some 3),.mov (.con (.int .i64 0)),none⟩])
 (.seq (.seq (.ops [⟨(some 9),.mov (.tmp 0),none⟩,
  ⟨(some 10),.lenSlice (.tmp 9),none⟩,
  ⟨(some 11),.mov (.con (.int .i64 0)),none⟩])
 (.block 0 (.loop c146l0)))
 (.seq (.ops [⟨(some 23),.mov (.tmp 3),none⟩,
  ⟨(some 24),.call 195 [(.con .nilSlice),(.tmp 23)],none⟩,
  ⟨(some 6),.mov (.tmp 24),none⟩])
 (.seq (.seq (.ops [⟨(some 25),.mov (.tmp 0),none⟩,
  ⟨(some 26),.lenSlice (.tmp 25),none⟩,
  ⟨(some 27),.mov (.con (.int .i64 0)),none⟩])
 (.block 2 (.loop c146l1)))
 (.seq (.ops [⟨(some 35),.mov (.tmp 6),none⟩,
  ⟨(some 2),.mov (.tmp 35),none⟩])
 .ret))))))
def a146 : AFunc:=⟨1,c146,[.tmp 2]⟩
theorem k146 : cFunc Tryz.prog Tryz.f146=some a146:=by kernel_rfl
/- 147: (*tendril/query.reader).and -/
def c147l0 : ACode:=(.seq (.seq (.ops [⟨(some 6),.mov (.tmp 0),none⟩,
  ⟨(some 7),.nilChk (.tmp 6),none⟩,
  ⟨(some 8),.fieldAddr 3 (.tmp 7),none⟩,
  ⟨(some 9),.load false 1 (.tmp 8),none⟩,
  ⟨(some 10),.bin .eql (.tmp 9) (.con (.int .i64 0)),none⟩])
 (.cond (.tmp 10)
 .skip
 (.exit 0)))
 (.block 1 (.seq (.ops [⟨(some 12),.mov (.tmp 0),none⟩,
  ⟨(some 13),.call 98 [(.tmp 12)],none⟩,
  ⟨(some 11),.mov (.tmp 13),none⟩,
  ⟨(some 14),.extract (.tmp 11) 0,none⟩,
  ⟨(some 15),.extract (.tmp 11) 1,none⟩,
  ⟨(some 2),.mov (.tmp 14),none⟩,
  ⟨(some 3),.mov (.tmp 15),none⟩])
 (.seq (.seq (.ops [⟨(some 16),.mov (.tmp 3),none⟩,
  ⟨(some 17),.un .not (.tmp 16),none⟩,
  ⟨(some 18),.mov (.tmp 17),none⟩,
  ⟨(some 19),.mov (.tmp 2),(some (18,false))⟩,
  ⟨(some 20),.bin .eql (.tmp 19) (.con (.int .u8 124)),(some (18,false))⟩,
  ⟨(some 21),.pick (.tmp 18) (.con (.bool true)) (.tmp 20),none⟩,
  ⟨(some 22),.mov (.tmp 21),none⟩,
  ⟨(some 23),.mov (.tmp 2),(some (22,false))⟩,
  ⟨(some 24),.bin .eql (.tmp 23) (.con (.int .u8 41)),(some (22,false))⟩,
  ⟨(some 25),.pick (.tmp 22) (.con (.bool true)) (.tmp 24),none⟩])
 (.cond (.tmp 25)
 .ret
 .skip))
 (.seq (.ops [⟨(some 26),.mov (.tmp 0),none⟩,
  ⟨(some 27),.call 148 [(.tmp 26),(.con (.int .u8 38))],none⟩])
 (.seq (.ops [⟨(some 28),.mov (.tmp 0),none⟩,
  ⟨(some 29),.call 196 [(.tmp 28)],none⟩])
 (.ops [⟨(some 30),.mov (.tmp 0),none⟩,
  ⟨(some 31),.call 149 [(.tmp 30),(.con (.int .i64 2)),(.con (.str []))],none⟩])))))))
def c147 : ACode:=(.seq (.ops [⟨(some 4),.mov (.tmp 0),none⟩,
  ⟨(some 5),.call 196 [(.tmp 4)],none⟩])
 (.block 0 (.loop c147l0)))
def a147 : AFunc:=⟨1,c147,[]⟩
theorem k147 : cFunc Tryz.prog Tryz.f147=some a147:=by kernel_rfl
/- 148: (*tendril/query.reader).take -/
def c148 : ACode:=(.seq (.ops [⟨(some 4),.mov (.con (.bool false)),none⟩])
 (.seq (.ops [⟨(some 8),.mov (.tmp 0),none⟩,
  ⟨(some 9),.call 98 [(.tmp 8)],none⟩,
  ⟨(some 7),.mov (.tmp 9),none⟩,
  ⟨(some 10),.extract (.tmp 7) 0,none⟩,
  ⟨(some 11),.extract (.tmp 7) 1,none⟩,
  ⟨(some 5),.mov (.tmp 10),none⟩,
  ⟨(some 6),.mov (.tmp 11),none⟩])
 (.seq (.seq (.ops [⟨(some 12),.mov (.tmp 6),none⟩,
  ⟨(some 13),.un .not (.tmp 12),none⟩,
  ⟨(some 14),.mov (.tmp 13),none⟩,
  ⟨(some 15),.mov (.tmp 5),(some (14,false))⟩,
  ⟨(some 16),.mov (.tmp 1),(some (14,false))⟩,
  ⟨(some 17),.bin .neq (.tmp 15) (.tmp 16),(some (14,false))⟩,
  ⟨(some 18),.pick (.tmp 14) (.con (.bool true)) (.tmp 17),none⟩])
 (.cond (.tmp 18)
 (.seq (.ops [⟨(some 4),.mov (.con (.bool false)),none⟩])
 .ret)
 .skip))
 (.seq (.ops [⟨(some 19),.mov (.tmp 0),none⟩,
  ⟨(some 20),.mov (.tmp 0),none⟩,
  ⟨(some 21),.nilChk (.tmp 20),none⟩,
  ⟨(some 22),.fieldAddr 0 (.tmp 21),none⟩,
  ⟨(some 23),.load false 1 (.tmp 22),none⟩,
  ⟨(some 24),.slcStr (.tmp 23) (some (.con (.int .i64 1))) none,none⟩,
  ⟨(some 25),.nilChk (.tmp 19),none⟩,
  ⟨(some 26),.fieldAddr 0 (.tmp 25),none⟩,
  ⟨none,.store 1 (.tmp 26) (.tmp 24),none⟩])
 (.seq (.ops [⟨(some 4),.mov (.con (.bool true)),none⟩])
 .ret)))))
def a148 : AFunc:=⟨2,c148,[.tmp 4]⟩
theorem k148 : cFunc Tryz.prog Tryz.f148=some a148:=by kernel_rfl
/- 149: (*tendril/query.reader).part -/
def c149 : ACode:=(.seq (.seq (.ops [⟨(some 6),.mov (.tmp 0),none⟩,
  ⟨(some 7),.nilChk (.tmp 6),none⟩,
  ⟨(some 8),.fieldAddr 2 (.tmp 7),none⟩,
  ⟨(some 9),.load false 1 (.tmp 8),none⟩,
  ⟨(some 10),.lenSlice (.tmp 9),none⟩,
  ⟨(some 11),.bin .geq (.tmp 10) (.con (.int .i64 64)),none⟩])
 (.cond (.tmp 11)
 (.ops [⟨(some 12),.mov (.tmp 0),none⟩,
  ⟨(some 13),.call 99 [(.tmp 12),(.con (.int .i64 11))],none⟩])
 .skip))
 (.seq (.ops [⟨(some 14),.mov (.tmp 0),none⟩,
  ⟨(some 15),.nilChk (.tmp 14),none⟩,
  ⟨(some 16),.fieldAddr 3 (.tmp 15),none⟩,
  ⟨(some 17),.load false 1 (.tmp 16),none⟩,
  ⟨(some 18),.bin .eql (.tmp 17) (.con (.int .i64 0)),none⟩])
 (.cond (.tmp 18)
 (.ops [⟨(some 19),.mov (.tmp 0),none⟩,
  ⟨(some 20),.mov (.tmp 0),none⟩,
  ⟨(some 21),.nilChk (.tmp 20),none⟩,
  ⟨(some 22),.fieldAddr 2 (.tmp 21),none⟩,
  ⟨(some 23),.load false 1 (.tmp 22),none⟩,
  ⟨(some 24),.mov (.tmp 1),none⟩,
  ⟨(some 25),.mov (.tmp 2),none⟩,
  ⟨(some 26),.build [(.int .i64 0),(.str [])] [(0,1,(.tmp 24)),(1,1,(.tmp 25))],none⟩,
  ⟨(some 27),.buildSlice 2 1 [(.int .i64 0),(.str [])] [(0,2,(.tmp 26))],none⟩,
  ⟨(some 28),.append 2 24 (.tmp 23) (.tmp 27),none⟩,
  ⟨(some 29),.nilChk (.tmp 19),none⟩,
  ⟨(some 30),.fieldAddr 2 (.tmp 29),none⟩,
  ⟨none,.store 1 (.tmp 30) (.tmp 28),none⟩])
 .skip)))
def a149 : AFunc:=⟨3,c149,[]⟩
theorem k149 : cFunc Tryz.prog Tryz.f149=some a149:=by kernel_rfl
/- 67: tendril/merge.rising -/
def c67l0 : ACode:=(.seq (.ops [⟨(some 9),.bin .lss (.tmp 8) (.tmp 7),none⟩])
 (.seq (.cond (.tmp 9)
 .skip
 (.exit 0))
 (.seq (.block 1 (.seq (.ops [⟨(some 10),.idxAddr 1 (.tmp 6) (.tmp 8),none⟩,
  ⟨(some 11),.load false 1 (.tmp 10),none⟩,
  ⟨(some 5),.mov (.tmp 11),none⟩])
 (.seq (.ops [⟨(some 12),.mov (.tmp 3),none⟩,
  ⟨(some 13),.lenSlice (.tmp 12),none⟩,
  ⟨(some 14),.bin .eql (.tmp 13) (.con (.int .i64 0)),none⟩,
  ⟨(some 15),.mov (.tmp 14),none⟩,
  ⟨(some 16),.mov (.tmp 5),(some (15,false))⟩,
  ⟨(some 17),.mov (.tmp 3),(some (15,false))⟩,
  ⟨(some 18),.mov (.tmp 3),(some (15,false))⟩,
  ⟨(some 19),.lenSlice (.tmp 18),(some (15,false))⟩,
  ⟨(some 20),.bin .sub (.tmp 19) (.con (.int .i64 1)),(some (15,false))⟩,
  ⟨(some 21),.idxAddr 1 (.tmp 17) (.tmp 20),(some (15,false))⟩,
  ⟨(some 22),.load false 1 (.tmp 21),(some (15,false))⟩,
  ⟨(some 23),.bin .gtr (.tmp 16) (.tmp 22),(some (15,false))⟩,
  ⟨(some 24),.pick (.tmp 15) (.con (.bool true)) (.tmp 23),none⟩])
 (.cond (.tmp 24)
 (.ops [⟨(some 25),.mov (.tmp 3),none⟩,
  ⟨(some 26),.mov (.tmp 5),none⟩,
  ⟨(some 27),.buildSlice 1 1 [(.int .i64 0)] [(0,1,(.tmp 26))],none⟩,
  ⟨(some 28),.append 1 8 (.tmp 25) (.tmp 27),none⟩,
  ⟨(some 3),.mov (.tmp 28),none⟩])
 .skip))))
 (.ops [⟨(some 29),.bin .add (.tmp 8) (.con (.int .i64 1)),none⟩,
  ⟨(some 8),.mov (.tmp 29),none⟩]))))
def c67 : ACode:=(.seq (.ops [⟨(some 2),.mov (.con .nilSlice),none⟩])
 (.seq (.ops [⟨(some 3),.mov (.con .nilSlice),none⟩])
 (.seq (.seq (.ops [⟨(some 6),.mov (.tmp 0),none⟩,
  ⟨(some 7),.lenSlice (.tmp 6),none⟩,
  ⟨(some 8),.mov (.con (.int .i64 0)),none⟩])
 (.block 0 (.loop c67l0)))
 (.seq (.ops [⟨(some 30),.mov (.tmp 3),none⟩,
  ⟨(some 2),.mov (.tmp 30),none⟩])
 .ret))))
def a67 : AFunc:=⟨1,c67,[.tmp 2]⟩
theorem k67 : cFunc Tryz.prog Tryz.f67=some a67:=by kernel_rfl
/- 114: container/heap.Remove -/
def c114 : ACode:=(.seq (.ops [⟨(some 4),.mov (.con .nilIface),none⟩])
 (.seq (.ops [⟨(some 6),.mov (.tmp 0),none⟩,
  ⟨(some 7),.callM [(17,430,.self),(82,116,.self),(122,70,(.deref false 1)),(146,437,.self),(151,437,(.deref false 1)),(157,111,.self),(192,70,.self)] (.tmp 6) [],none⟩,
  ⟨(some 8),.bin .sub (.tmp 7) (.con (.int .i64 1)),none⟩,
  ⟨(some 5),.mov (.tmp 8),none⟩])
 (.seq (.seq (.ops [⟨(some 9),.mov (.tmp 5),none⟩,
  ⟨(some 10),.mov (.tmp 1),none⟩,
  ⟨(some 11),.bin .neq (.tmp 9) (.tmp 10),none⟩])
 (.cond (.tmp 11)
 (.seq (.ops [⟨(some 12),.mov (.tmp 0),none⟩,
  ⟨(some 13),.mov (.tmp 1),none⟩,
  ⟨(some 14),.mov (.tmp 5),none⟩,
  ⟨(some 15),.callM [(116,201,.self),(122,436,(.deref false 1)),(146,439,.self),(151,439,(.deref false 1)),(192,436,.self)] (.tmp 12) [(.tmp 13),(.tmp 14)],none⟩])
 (.seq (.ops [⟨(some 16),.mov (.tmp 0),none⟩,
  ⟨(some 17),.mov (.tmp 1),none⟩,
  ⟨(some 18),.mov (.tmp 5),none⟩,
  ⟨(some 19),.call 172 [(.tmp 16),(.tmp 17),(.tmp 18)],none⟩,
  ⟨(some 20),.un .not (.tmp 19),none⟩])
 (.cond (.tmp 20)
 (.ops [⟨(some 21),.mov (.tmp 0),none⟩,
  ⟨(some 22),.mov (.tmp 1),none⟩,
  ⟨(some 23),.call 131 [(.tmp 21),(.tmp 22)],none⟩])
 .skip)))
 .skip))
 (.seq (.ops [⟨(some 24),.mov (.tmp 0),none⟩,
  ⟨(some 25),.callM [(122,434,.self),(151,440,.self)] (.tmp 24) [],none⟩,
  ⟨(some 4),.mov (.tmp 25),none⟩])
 .ret))))
def a114 : AFunc:=⟨2,c114,[.tmp 4]⟩
theorem k114 : cFunc Tryz.prog Tryz.f114=some a114:=by kernel_rfl
/- 115: container/heap.Fix -/
def c115 : ACode:=(.seq (.ops [⟨(some 4),.mov (.tmp 0),none⟩,
  ⟨(some 5),.mov (.tmp 1),none⟩,
  ⟨(some 6),.mov (.tmp 0),none⟩,
  ⟨(some 7),.callM [(17,430,.self),(82,116,.self),(122,70,(.deref false 1)),(146,437,.self),(151,437,(.deref false 1)),(157,111,.self),(192,70,.self)] (.tmp 6) [],none⟩,
  ⟨(some 8),.call 172 [(.tmp 4),(.tmp 5),(.tmp 7)],none⟩,
  ⟨(some 9),.un .not (.tmp 8),none⟩])
 (.cond (.tmp 9)
 (.ops [⟨(some 10),.mov (.tmp 0),none⟩,
  ⟨(some 11),.mov (.tmp 1),none⟩,
  ⟨(some 12),.call 131 [(.tmp 10),(.tmp 11)],none⟩])
 .skip))
def a115 : AFunc:=⟨2,c115,[]⟩
theorem k115 : cFunc Tryz.prog Tryz.f115=some a115:=by kernel_rfl
/- 150: tendril/query.takes -/
def c150 : ACode:=(.seq (.ops [⟨(some 1),.box (.tmp 0),none⟩,
  ⟨(some 2),.mov (.con (.int .i64 0)),none⟩])
 (.seq (.block 0 (.seq (.ops [⟨(some 4),.fieldAddr 0 (.tmp 1),none⟩,
  ⟨(some 5),.load false 1 (.tmp 4),none⟩,
  ⟨(some 6),.bin .eql (.tmp 5) (.con (.int .i64 1)),none⟩,
  ⟨(some 7),.mov (.tmp 6),none⟩,
  ⟨(some 8),.fieldAddr 1 (.tmp 1),(some (7,true))⟩,
  ⟨(some 9),.load false 1 (.tmp 8),(some (7,true))⟩,
  ⟨(some 10),.call 197 [(.tmp 9)],(some (7,true))⟩,
  ⟨(some 11),.pick (.tmp 7) (.tmp 10) (.con (.bool false)),none⟩,
  ⟨(some 3),.mov (.tmp 11),none⟩])
 (.cond (.tmp 3)
 (.seq (.ops [⟨(some 2),.mov (.con (.int .i64 0)),none⟩])
 .ret)
 (.seq (.ops [⟨(some 13),.fieldAddr 0 (.tmp 1),none⟩,
  ⟨(some 14),.load false 1 (.tmp 13),none⟩,
  ⟨(some 15),.bin .eql (.tmp 14) (.con (.int .i64 4)),none⟩,
  ⟨(some 16),.mov (.tmp 15),none⟩,
  ⟨(some 17),.fieldAddr 1 (.tmp 1),(some (16,true))⟩,
  ⟨(some 18),.load false 1 (.tmp 17),(some (16,true))⟩,
  ⟨(some 19),.bin .eql (.tmp 18) (.con (.str [])),(some (16,true))⟩,
  ⟨(some 20),.pick (.tmp 16) (.tmp 19) (.con (.bool false)),none⟩,
  ⟨(some 12),.mov (.tmp 20),none⟩])
 (.cond (.tmp 12)
 (.seq (.ops [⟨(some 2),.mov (.con (.int .i64 1)),none⟩])
 .ret)
 (.seq (.ops [⟨(some 22),.fieldAddr 0 (.tmp 1),none⟩,
  ⟨(some 23),.load false 1 (.tmp 22),none⟩,
  ⟨(some 24),.bin .eql (.tmp 23) (.con (.int .i64 2)),none⟩,
  ⟨(some 25),.mov (.tmp 24),none⟩,
  ⟨(some 26),.fieldAddr 0 (.tmp 1),(some (25,false))⟩,
  ⟨(some 27),.load false 1 (.tmp 26),(some (25,false))⟩,
  ⟨(some 28),.bin .eql (.tmp 27) (.con (.int .i64 3)),(some (25,false))⟩,
  ⟨(some 29),.pick (.tmp 25) (.con (.bool true)) (.tmp 28),none⟩,
  ⟨(some 30),.mov (.tmp 29),none⟩,
  ⟨(some 31),.fieldAddr 1 (.tmp 1),(some (30,true))⟩,
  ⟨(some 32),.load false 1 (.tmp 31),(some (30,true))⟩,
  ⟨(some 33),.bin .eql (.tmp 32) (.con (.str [])),(some (30,true))⟩,
  ⟨(some 34),.pick (.tmp 30) (.tmp 33) (.con (.bool false)),none⟩,
  ⟨(some 21),.mov (.tmp 34),none⟩])
 (.cond (.tmp 21)
 (.seq (.ops [⟨(some 2),.mov (.con (.int .i64 2)),none⟩])
 .ret)
 .skip)))))))
 (.seq (.ops [⟨(some 2),.mov (.con (.int .i64 (-1))),none⟩])
 .ret)))
def a150 : AFunc:=⟨1,c150,[.tmp 2]⟩
theorem k150 : cFunc Tryz.prog Tryz.f150=some a150:=by kernel_rfl
/- 151: slices.Sort[[]int,int] -/
def c151 : ACode:=(.seq (.ops [⟨(some 3),.mov (.tmp 0),none⟩,
  ⟨(some 4),.lenSlice (.tmp 3),none⟩,
  ⟨(some 2),.mov (.tmp 4),none⟩])
 (.ops [⟨(some 5),.mov (.tmp 0),none⟩,
  ⟨(some 6),.mov (.tmp 2),none⟩,
  ⟨(some 7),.mov (.tmp 2),none⟩,
  ⟨(some 8),.toInt .u64 (.tmp 7),none⟩,
  ⟨(some 9),.call 165 [(.tmp 8)],none⟩,
  ⟨(some 10),.call 198 [(.tmp 5),(.con (.int .i64 0)),(.tmp 6),(.tmp 9)],none⟩]))
def a151 : AFunc:=⟨1,c151,[]⟩
theorem k151 : cFunc Tryz.prog Tryz.f151=some a151:=by kernel_rfl
/- 152: slices.Compact[[]int,int] -/
def c152l0 : ACode:=(.seq (.seq (.ops [⟨(some 29),.mov (.tmp 5),none⟩,
  ⟨(some 30),.mov (.tmp 4),none⟩,
  ⟨(some 31),.lenSlice (.tmp 30),none⟩,
  ⟨(some 32),.bin .lss (.tmp 29) (.tmp 31),none⟩])
 (.cond (.tmp 32)
 .skip
 (.exit 2)))
 (.seq (.block 3 (.seq (.ops [⟨(some 35),.mov (.tmp 4),none⟩,
  ⟨(some 36),.mov (.tmp 5),none⟩,
  ⟨(some 37),.idxAddr 1 (.tmp 35) (.tmp 36),none⟩,
  ⟨(some 38),.load false 1 (.tmp 37),none⟩,
  ⟨(some 39),.mov (.tmp 4),none⟩,
  ⟨(some 40),.mov (.tmp 5),none⟩,
  ⟨(some 41),.bin .sub (.tmp 40) (.con (.int .i64 1)),none⟩,
  ⟨(some 42),.idxAddr 1 (.tmp 39) (.tmp 41),none⟩,
  ⟨(some 43),.load false 1 (.tmp 42),none⟩,
  ⟨(some 44),.bin .neq (.tmp 38) (.tmp 43),none⟩])
 (.cond (.tmp 44)
 (.seq (.ops [⟨(some 45),.mov (.tmp 0),none⟩,
  ⟨(some 46),.mov (.tmp 3),none⟩,
  ⟨(some 47),.mov (.tmp 4),none⟩,
  ⟨(some 48),.mov (.tmp 5),none⟩,
  ⟨(some 49),.idxAddr 1 (.tmp 47) (.tmp 48),none⟩,
  ⟨(some 50),.load false 1 (.tmp 49),none⟩,
  ⟨(some 51),.idxAddr 1 (.tmp 45) (.tmp 46),none⟩,
  ⟨none,.store 1 (.tmp 51) (.tmp 50),none⟩])
 (.ops [⟨(some 52),.mov (.tmp 3),none⟩,
  ⟨(some 53),.bin .add (.tmp 52) (.con (.int .i64 1)),none⟩,
  ⟨(some 3),.mov (.tmp 53),none⟩]))
 .skip)))
 (.ops [⟨(some 33),.mov (.tmp 5),none⟩,
  ⟨(some 34),.bin .add (.tmp 33) (.con (.int .i64 1)),none⟩,
  ⟨(some 5),.mov (.tmp 34),none⟩])))
def c152l1 : ACode:=(.seq (.seq (.ops [⟨(some 10),.mov (.tmp 3),none⟩,
  ⟨(some 11),.mov (.tmp 0),none⟩,
  ⟨(some 12),.lenSlice (.tmp 11),none⟩,
  ⟨(some 13),.bin .lss (.tmp 10) (.tmp 12),none⟩])
 (.cond (.tmp 13)
 .skip
 (.exit 0)))
 (.seq (.block 1 (.seq (.ops [⟨(some 16),.mov (.tmp 0),none⟩,
  ⟨(some 17),.mov (.tmp 3),none⟩,
  ⟨(some 18),.idxAddr 1 (.tmp 16) (.tmp 17),none⟩,
  ⟨(some 19),.load false 1 (.tmp 18),none⟩,
  ⟨(some 20),.mov (.tmp 0),none⟩,
  ⟨(some 21),.mov (.tmp 3),none⟩,
  ⟨(some 22),.bin .sub (.tmp 21) (.con (.int .i64 1)),none⟩,
  ⟨(some 23),.idxAddr 1 (.tmp 20) (.tmp 22),none⟩,
  ⟨(some 24),.load false 1 (.tmp 23),none⟩,
  ⟨(some 25),.bin .eql (.tmp 19) (.tmp 24),none⟩])
 (.cond (.tmp 25)
 (.seq (.ops [⟨(some 26),.mov (.tmp 0),none⟩,
  ⟨(some 27),.mov (.tmp 3),none⟩,
  ⟨(some 28),.slc 1 (.tmp 26) (some (.tmp 27)) none none,none⟩,
  ⟨(some 4),.mov (.tmp 28),none⟩])
 (.seq (.seq (.ops [⟨(some 5),.mov (.con (.int .i64 1)),none⟩])
 (.block 2 (.loop c152l0)))
 (.seq (.ops [⟨(some 54),.mov (.tmp 0),none⟩,
  ⟨(some 55),.mov (.tmp 3),none⟩,
  ⟨(some 56),.slc 1 (.tmp 54) (some (.tmp 55)) none none,none⟩,
  ⟨none,.clear 1 [(.int .i64 0)] (.tmp 56),none⟩])
 (.seq (.ops [⟨(some 57),.mov (.tmp 0),none⟩,
  ⟨(some 58),.mov (.tmp 3),none⟩,
  ⟨(some 59),.slc 1 (.tmp 57) none (some (.tmp 58)) none,none⟩,
  ⟨(some 2),.mov (.tmp 59),none⟩])
 .ret))))
 .skip)))
 (.ops [⟨(some 14),.mov (.tmp 3),none⟩,
  ⟨(some 15),.bin .add (.tmp 14) (.con (.int .i64 1)),none⟩,
  ⟨(some 3),.mov (.tmp 15),none⟩])))
def c152 : ACode:=(.seq (.ops [⟨(some 2),.mov (.con .nilSlice),none⟩])
 (.seq (.seq (.ops [⟨(some 6),.mov (.tmp 0),none⟩,
  ⟨(some 7),.lenSlice (.tmp 6),none⟩,
  ⟨(some 8),.bin .lss (.tmp 7) (.con (.int .i64 2)),none⟩])
 (.cond (.tmp 8)
 (.seq (.ops [⟨(some 9),.mov (.tmp 0),none⟩,
  ⟨(some 2),.mov (.tmp 9),none⟩])
 .ret)
 .skip))
 (.seq (.seq (.ops [⟨(some 3),.mov (.con (.int .i64 1)),none⟩])
 (.block 0 (.loop c152l1)))
 (.seq (.ops [⟨(some 60),.mov (.tmp 0),none⟩,
  ⟨(some 2),.mov (.tmp 60),none⟩])
 .ret))))
def a152 : AFunc:=⟨1,c152,[.tmp 2]⟩
theorem k152 : cFunc Tryz.prog Tryz.f152=some a152:=by kernel_rfl
/- 68: tendril/merge.both -/
def c68l0 : ACode:=(.seq (.ops [⟨(some 15),.bin .lss (.tmp 14) (.tmp 13),none⟩])
 (.seq (.cond (.tmp 15)
 .skip
 (.exit 0))
 (.seq (.block 1 (.seq (.ops [⟨(some 16),.idxAddr 1 (.tmp 12) (.tmp 14),none⟩,
  ⟨(some 17),.load false 1 (.tmp 16),none⟩,
  ⟨(some 9),.mov (.tmp 17),none⟩])
 (.seq (.ops [⟨(some 19),.mov (.tmp 1),none⟩,
  ⟨(some 20),.mov (.tmp 9),none⟩,
  ⟨(some 21),.call 113 [(.tmp 19),(.tmp 20)],none⟩,
  ⟨(some 18),.mov (.tmp 21),none⟩,
  ⟨(some 22),.extract (.tmp 18) 0,none⟩,
  ⟨(some 23),.extract (.tmp 18) 1,none⟩,
  ⟨(some 10),.mov (.tmp 22),none⟩,
  ⟨(some 11),.mov (.tmp 23),none⟩])
 (.seq (.ops [⟨(some 24),.mov (.tmp 11),none⟩,
  ⟨(some 25),.mov (.tmp 2),none⟩,
  ⟨(some 26),.eqB false (.tmp 24) (.tmp 25),none⟩])
 (.cond (.tmp 26)
 (.ops [⟨(some 27),.mov (.tmp 7),none⟩,
  ⟨(some 28),.mov (.tmp 9),none⟩,
  ⟨(some 29),.buildSlice 1 1 [(.int .i64 0)] [(0,1,(.tmp 28))],none⟩,
  ⟨(some 30),.append 1 8 (.tmp 27) (.tmp 29),none⟩,
  ⟨(some 7),.mov (.tmp 30),none⟩])
 .skip)))))
 (.ops [⟨(some 31),.bin .add (.tmp 14) (.con (.int .i64 1)),none⟩,
  ⟨(some 14),.mov (.tmp 31),none⟩]))))
def c68 : ACode:=(.seq (.ops [⟨(some 6),.mov (.con .nilSlice),none⟩])
 (.seq (.ops [⟨(some 7),.mov (.con .nilSlice),none⟩])
 (.seq (.seq (.ops [⟨(some 12),.mov (.tmp 0),none⟩,
  ⟨(some 13),.lenSlice (.tmp 12),none⟩,
  ⟨(some 14),.mov (.con (.int .i64 0)),none⟩])
 (.block 0 (.loop c68l0)))
 (.seq (.ops [⟨(some 32),.mov (.tmp 7),none⟩,
  ⟨(some 6),.mov (.tmp 32),none⟩])
 .ret))))
def a68 : AFunc:=⟨3,c68,[.tmp 6]⟩
theorem k68 : cFunc Tryz.prog Tryz.f68=some a68:=by kernel_rfl
/- 153: (*tendril/scan.Scan).atPin -/
def c153 : ACode:=(.seq (.ops [⟨(some 3),.box (.tmp 1),none⟩])
 (.ops [⟨(some 4),.mov (.tmp 0),none⟩,
  ⟨(some 5),.call 199 [(.tmp 4)],none⟩]))
def a153 : AFunc:=⟨2,c153,[]⟩
theorem k153 : cFunc Tryz.prog Tryz.f153=some a153:=by kernel_rfl
/- 154: (*tendril/mem.Mem).slots -/
def c154 : ACode:=(.seq (.ops [⟨(some 3),.box (.tmp 1),none⟩,
  ⟨(some 4),.new [(.int .i64 0),(.int .i64 0),(.bool false),.nilSlice],none⟩])
 (.seq (.ops [⟨(some 5),.new [(.int .i64 0),(.int .i64 0),(.bool false),.nilSlice],none⟩])
 (.seq (.seq (.ops [⟨(some 6),.fieldAddr 0 (.tmp 3),none⟩,
  ⟨(some 7),.load false 1 (.tmp 6),none⟩])
 (.block 0 (.seq (.ops [⟨(some 9),.bin .eql (.tmp 7) (.con (.int .i64 1)),none⟩,
  ⟨(some 8),.mov (.tmp 9),none⟩])
 (.cond (.tmp 8)
 (.ops [⟨(some 11),.mov (.tmp 0),none⟩,
  ⟨(some 12),.nilChk (.tmp 11),none⟩,
  ⟨(some 13),.fieldAddr 0 (.tmp 12),none⟩,
  ⟨(some 14),.load false 1 (.tmp 13),none⟩,
  ⟨(some 15),.fieldAddr 1 (.tmp 3),none⟩,
  ⟨(some 16),.load false 1 (.tmp 15),none⟩,
  ⟨(some 17),.call 200 [(.tmp 14),(.tmp 16)],none⟩,
  ⟨(some 10),.mov (.tmp 17),none⟩,
  ⟨(some 18),.extract (.tmp 10) 0,none⟩,
  ⟨(some 19),.extract (.tmp 10) 1,none⟩,
  ⟨(some 20),.fieldAddr 3 (.tmp 5),none⟩,
  ⟨none,.store 1 (.tmp 20) (.tmp 18),none⟩,
  ⟨(some 21),.fieldAddr 0 (.tmp 5),none⟩,
  ⟨none,.store 1 (.tmp 21) (.tmp 19),none⟩])
 (.seq (.ops [⟨(some 23),.bin .eql (.tmp 7) (.con (.int .i64 2)),none⟩,
  ⟨(some 22),.mov (.tmp 23),none⟩])
 (.cond (.tmp 22)
 (.ops [⟨(some 25),.mov (.tmp 0),none⟩,
  ⟨(some 26),.nilChk (.tmp 25),none⟩,
  ⟨(some 27),.fieldAddr 0 (.tmp 26),none⟩,
  ⟨(some 28),.load false 1 (.tmp 27),none⟩,
  ⟨(some 29),.fieldAddr 1 (.tmp 3),none⟩,
  ⟨(some 30),.load false 1 (.tmp 29),none⟩,
  ⟨(some 31),.fieldAddr 4 (.tmp 3),none⟩,
  ⟨(some 32),.load false 1 (.tmp 31),none⟩,
  ⟨(some 33),.fieldAddr 5 (.tmp 3),none⟩,
  ⟨(some 34),.load false 1 (.tmp 33),none⟩,
  ⟨(some 35),.call 201 [(.tmp 28),(.tmp 30),(.tmp 32),(.tmp 34)],none⟩,
  ⟨(some 24),.mov (.tmp 35),none⟩,
  ⟨(some 36),.extract (.tmp 24) 0,none⟩,
  ⟨(some 37),.extract (.tmp 24) 1,none⟩,
  ⟨(some 38),.fieldAddr 2 (.tmp 5),none⟩,
  ⟨none,.store 1 (.tmp 38) (.tmp 36),none⟩,
  ⟨(some 39),.fieldAddr 0 (.tmp 5),none⟩,
  ⟨none,.store 1 (.tmp 39) (.tmp 37),none⟩])
 (.seq (.ops [⟨(some 41),.bin .eql (.tmp 7) (.con (.int .i64 3)),none⟩,
  ⟨(some 40),.mov (.tmp 41),none⟩])
 (.cond (.tmp 40)
 (.ops [⟨(some 42),.mov (.tmp 0),none⟩,
  ⟨(some 43),.nilChk (.tmp 42),none⟩,
  ⟨(some 44),.fieldAddr 0 (.tmp 43),none⟩,
  ⟨(some 45),.load false 1 (.tmp 44),none⟩,
  ⟨(some 46),.fieldAddr 1 (.tmp 3),none⟩,
  ⟨(some 47),.load false 1 (.tmp 46),none⟩,
  ⟨(some 48),.fieldAddr 5 (.tmp 3),none⟩,
  ⟨(some 49),.load false 1 (.tmp 48),none⟩,
  ⟨(some 50),.call 202 [(.tmp 45),(.tmp 47),(.tmp 49)],none⟩,
  ⟨(some 51),.fieldAddr 0 (.tmp 5),none⟩,
  ⟨none,.store 1 (.tmp 51) (.tmp 50),none⟩])
 (.seq (.ops [⟨(some 53),.bin .eql (.tmp 7) (.con (.int .i64 4)),none⟩,
  ⟨(some 52),.mov (.tmp 53),none⟩])
 (.cond (.tmp 52)
 (.ops [⟨(some 55),.mov (.tmp 0),none⟩,
  ⟨(some 56),.nilChk (.tmp 55),none⟩,
  ⟨(some 57),.fieldAddr 0 (.tmp 56),none⟩,
  ⟨(some 58),.load false 1 (.tmp 57),none⟩,
  ⟨(some 59),.fieldAddr 2 (.tmp 3),none⟩,
  ⟨(some 60),.load false 1 (.tmp 59),none⟩,
  ⟨(some 61),.fieldAddr 5 (.tmp 3),none⟩,
  ⟨(some 62),.load false 1 (.tmp 61),none⟩,
  ⟨(some 63),.call 84 [(.tmp 58),(.tmp 60),(.tmp 62)],none⟩,
  ⟨(some 54),.mov (.tmp 63),none⟩,
  ⟨(some 64),.extract (.tmp 54) 0,none⟩,
  ⟨(some 65),.extract (.tmp 54) 1,none⟩,
  ⟨(some 66),.fieldAddr 1 (.tmp 5),none⟩,
  ⟨none,.store 1 (.tmp 66) (.tmp 64),none⟩,
  ⟨(some 67),.fieldAddr 0 (.tmp 5),none⟩,
  ⟨none,.store 1 (.tmp 67) (.tmp 65),none⟩])
 (.seq (.ops [⟨(some 69),.bin .eql (.tmp 7) (.con (.int .i64 5)),none⟩,
  ⟨(some 68),.mov (.tmp 69),none⟩])
 (.cond (.tmp 68)
 (.seq (.ops [⟨(some 70),.fieldAddr 1 (.tmp 3),none⟩,
  ⟨(some 71),.load false 1 (.tmp 70),none⟩,
  ⟨(some 72),.mov (.tmp 0),none⟩,
  ⟨(some 73),.nilChk (.tmp 72),none⟩,
  ⟨(some 74),.fieldAddr 3 (.tmp 73),none⟩,
  ⟨(some 75),.load false 1 (.tmp 74),none⟩,
  ⟨(some 76),.bin .eql (.tmp 71) (.tmp 75),none⟩])
 (.cond (.tmp 76)
 (.ops [⟨(some 77),.fieldAddr 0 (.tmp 5),none⟩,
  ⟨none,.store 1 (.tmp 77) (.con (.int .i64 1)),none⟩])
 (.ops [⟨(some 78),.mov (.tmp 0),none⟩,
  ⟨(some 79),.nilChk (.tmp 78),none⟩,
  ⟨(some 80),.fieldAddr 0 (.tmp 79),none⟩,
  ⟨(some 81),.load false 1 (.tmp 80),none⟩,
  ⟨(some 82),.fieldAddr 1 (.tmp 3),none⟩,
  ⟨(some 83),.load false 1 (.tmp 82),none⟩,
  ⟨(some 84),.call 203 [(.tmp 81),(.tmp 83)],none⟩,
  ⟨(some 85),.fieldAddr 0 (.tmp 5),none⟩,
  ⟨none,.store 1 (.tmp 85) (.tmp 84),none⟩])))
 .skip))))))))))))
 (.seq (.ops [⟨(some 86),.load true 4 (.tmp 5),none⟩,
  ⟨none,.store 4 (.tmp 4) (.tmp 86),none⟩])
 .ret))))
def a154 : AFunc:=⟨2,c154,[.cell 4 true 4]⟩
theorem k154 : cFunc Tryz.prog Tryz.f154=some a154:=by kernel_rfl
/- 155: (*tendril/epoch.Epochs).Retire -/
def c155 : ACode:=(.seq (.ops [⟨(some 6),.mov (.con (.int .i64 0)),none⟩])
 (.seq (.ops [⟨(some 12),.mov (.tmp 0),none⟩,
  ⟨(some 13),.mov (.tmp 1),none⟩,
  ⟨(some 14),.call 123 [(.tmp 12),(.tmp 13)],none⟩,
  ⟨(some 7),.mov (.tmp 14),none⟩])
 (.seq (.seq (.ops [⟨(some 16),.mov (.tmp 2),none⟩,
  ⟨(some 17),.call 204 [(.tmp 16)],none⟩,
  ⟨(some 15),.mov (.tmp 17),none⟩,
  ⟨(some 18),.extract (.tmp 15) 0,none⟩,
  ⟨(some 19),.extract (.tmp 15) 1,none⟩,
  ⟨(some 20),.extract (.tmp 15) 2,none⟩,
  ⟨(some 21),.extract (.tmp 15) 3,none⟩,
  ⟨(some 8),.mov (.tmp 18),none⟩,
  ⟨(some 9),.mov (.tmp 19),none⟩,
  ⟨(some 10),.mov (.tmp 20),none⟩,
  ⟨(some 11),.mov (.tmp 21),none⟩])
 (.seq (.ops [⟨(some 22),.mov (.tmp 7),none⟩,
  ⟨(some 23),.eqNil 0 false (.tmp 22) (.con .nilPtr),none⟩,
  ⟨(some 24),.mov (.tmp 23),none⟩,
  ⟨(some 25),.mov (.tmp 11),(some (24,false))⟩,
  ⟨(some 26),.un .not (.tmp 25),(some (24,false))⟩,
  ⟨(some 27),.pick (.tmp 24) (.con (.bool true)) (.tmp 26),none⟩])
 (.cond (.tmp 27)
 (.seq (.ops [⟨(some 6),.mov (.con (.int .i64 1)),none⟩])
 .ret)
 .skip)))
 (.seq (.seq (.ops [⟨(some 28),.mov (.tmp 7),none⟩,
  ⟨(some 29),.nilChk (.tmp 28),none⟩,
  ⟨(some 30),.fieldAddr 1 (.tmp 29),none⟩,
  ⟨(some 31),.load false 1 (.tmp 30),none⟩,
  ⟨(some 32),.lenSlice (.tmp 31),none⟩,
  ⟨(some 33),.mov (.tmp 0),none⟩,
  ⟨(some 34),.nilChk (.tmp 33),none⟩,
  ⟨(some 35),.fieldAddr 1 (.tmp 34),none⟩,
  ⟨(some 36),.load false 1 (.tmp 35),none⟩,
  ⟨(some 37),.bin .geq (.tmp 32) (.tmp 36),none⟩])
 (.cond (.tmp 37)
 (.seq (.ops [⟨(some 6),.mov (.con (.int .i64 2)),none⟩])
 .ret)
 .skip))
 (.seq (.draw [.op ⟨(some 38),.mov (.tmp 7),none⟩,
  .op ⟨(some 39),.mov (.tmp 7),none⟩,
  .op ⟨(some 40),.nilChk (.tmp 39),none⟩,
  .op ⟨(some 41),.fieldAddr 1 (.tmp 40),none⟩,
  .op ⟨(some 42),.load false 1 (.tmp 41),none⟩,
  .op ⟨(some 43),.mov (.tmp 2),none⟩,
  .op ⟨(some 44),.mov (.tmp 0),none⟩,
  .op ⟨(some 45),.nilChk (.tmp 44),none⟩,
  .op ⟨(some 46),.fieldAddr 0 (.tmp 45),none⟩,
  .op ⟨(some 47),.load false 1 (.tmp 46),none⟩,
  .op ⟨(some 48),.build [(.int .i64 0),(.int .i64 0)] [(0,1,(.tmp 43)),(1,1,(.tmp 47))],none⟩,
  .op ⟨(some 49),.buildSlice 2 1 [(.int .i64 0),(.int .i64 0)] [(0,2,(.tmp 48))],none⟩,
  .look ⟨(some 42),.load false 1 (.tmp 41),none⟩,
  .look ⟨(some 47),.load false 1 (.tmp 46),none⟩,
  .look ⟨(some 49),.buildSlice 2 1 [(.int .i64 0),(.int .i64 0)] [(0,2,(.tmp 48))],none⟩,
  .op ⟨(some 50),.append 2 16 (.tmp 42) (.tmp 49),none⟩,
  .op ⟨(some 51),.nilChk (.tmp 38),none⟩,
  .op ⟨(some 52),.fieldAddr 1 (.tmp 51),none⟩,
  .op ⟨none,.store 1 (.tmp 52) (.tmp 50),none⟩])
 (.seq (.ops [⟨(some 6),.mov (.con (.int .i64 0)),none⟩])
 .ret))))))
def a155 : AFunc:=⟨3,c155,[.tmp 6]⟩
theorem k155 : cFunc Tryz.prog Tryz.f155=some a155:=by kernel_rfl
/- 156: (*tendril/epoch.Epochs).Now -/
def c156 : ACode:=(.seq (.ops [⟨(some 2),.mov (.con (.int .i64 0)),none⟩])
 (.seq (.ops [⟨(some 3),.mov (.tmp 0),none⟩,
  ⟨(some 4),.nilChk (.tmp 3),none⟩,
  ⟨(some 5),.fieldAddr 0 (.tmp 4),none⟩,
  ⟨(some 6),.load false 1 (.tmp 5),none⟩,
  ⟨(some 2),.mov (.tmp 6),none⟩])
 .ret))
def a156 : AFunc:=⟨1,c156,[.tmp 2]⟩
theorem k156 : cFunc Tryz.prog Tryz.f156=some a156:=by kernel_rfl
/- 157: (*tendril/epoch.Epochs).Pin -/
def c157 : ACode:=(.seq (.ops [⟨(some 6),.mov (.con (.bool false)),none⟩])
 (.seq (.ops [⟨(some 8),.mov (.tmp 0),none⟩,
  ⟨(some 9),.mov (.tmp 1),none⟩,
  ⟨(some 10),.call 123 [(.tmp 8),(.tmp 9)],none⟩,
  ⟨(some 7),.mov (.tmp 10),none⟩])
 (.seq (.seq (.ops [⟨(some 11),.mov (.tmp 7),none⟩,
  ⟨(some 12),.eqNil 0 false (.tmp 11) (.con .nilPtr),none⟩,
  ⟨(some 13),.mov (.tmp 12),none⟩,
  ⟨(some 14),.mov (.tmp 2),(some (13,false))⟩,
  ⟨(some 15),.bin .lss (.tmp 14) (.con (.int .i64 0)),(some (13,false))⟩,
  ⟨(some 16),.pick (.tmp 13) (.con (.bool true)) (.tmp 15),none⟩,
  ⟨(some 17),.mov (.tmp 16),none⟩,
  ⟨(some 18),.mov (.tmp 2),(some (17,false))⟩,
  ⟨(some 19),.mov (.tmp 0),(some (17,false))⟩,
  ⟨(some 20),.nilChk (.tmp 19),(some (17,false))⟩,
  ⟨(some 21),.fieldAddr 0 (.tmp 20),(some (17,false))⟩,
  ⟨(some 22),.load false 1 (.tmp 21),(some (17,false))⟩,
  ⟨(some 23),.bin .gtr (.tmp 18) (.tmp 22),(some (17,false))⟩,
  ⟨(some 24),.pick (.tmp 17) (.con (.bool true)) (.tmp 23),none⟩])
 (.cond (.tmp 24)
 (.seq (.ops [⟨(some 6),.mov (.con (.bool false)),none⟩])
 .ret)
 .skip))
 (.seq (.ops [⟨(some 25),.mov (.tmp 7),none⟩,
  ⟨(some 26),.mov (.tmp 2),none⟩,
  ⟨(some 27),.nilChk (.tmp 25),none⟩,
  ⟨(some 28),.fieldAddr 0 (.tmp 27),none⟩,
  ⟨none,.store 1 (.tmp 28) (.tmp 26),none⟩])
 (.seq (.ops [⟨(some 6),.mov (.con (.bool true)),none⟩])
 .ret)))))
def a157 : AFunc:=⟨3,c157,[.tmp 6]⟩
theorem k157 : cFunc Tryz.prog Tryz.f157=some a157:=by kernel_rfl
/- 158: (*tendril/epoch.Epochs).Unpin -/
def c158 : ACode:=(.seq (.ops [⟨(some 4),.mov (.con (.bool false)),none⟩])
 (.seq (.ops [⟨(some 6),.mov (.tmp 0),none⟩,
  ⟨(some 7),.mov (.tmp 1),none⟩,
  ⟨(some 8),.call 123 [(.tmp 6),(.tmp 7)],none⟩,
  ⟨(some 5),.mov (.tmp 8),none⟩])
 (.seq (.seq (.ops [⟨(some 9),.mov (.tmp 5),none⟩,
  ⟨(some 10),.eqNil 0 false (.tmp 9) (.con .nilPtr),none⟩])
 (.cond (.tmp 10)
 (.seq (.ops [⟨(some 4),.mov (.con (.bool false)),none⟩])
 .ret)
 .skip))
 (.seq (.ops [⟨(some 11),.mov (.tmp 5),none⟩,
  ⟨(some 12),.nilChk (.tmp 11),none⟩,
  ⟨(some 13),.fieldAddr 0 (.tmp 12),none⟩,
  ⟨none,.store 1 (.tmp 13) (.con (.int .i64 (-1))),none⟩])
 (.seq (.ops [⟨(some 4),.mov (.con (.bool true)),none⟩])
 .ret)))))
def a158 : AFunc:=⟨2,c158,[.tmp 4]⟩
theorem k158 : cFunc Tryz.prog Tryz.f158=some a158:=by kernel_rfl
/- 159: (*tendril/epoch.Epochs).PinOf -/
def c159 : ACode:=(.seq (.ops [⟨(some 4),.mov (.con (.int .i64 0)),none⟩])
 (.seq (.ops [⟨(some 6),.mov (.tmp 0),none⟩,
  ⟨(some 7),.mov (.tmp 1),none⟩,
  ⟨(some 8),.call 123 [(.tmp 6),(.tmp 7)],none⟩,
  ⟨(some 5),.mov (.tmp 8),none⟩])
 (.seq (.seq (.ops [⟨(some 9),.mov (.tmp 5),none⟩,
  ⟨(some 10),.eqNil 0 false (.tmp 9) (.con .nilPtr),none⟩])
 (.cond (.tmp 10)
 (.seq (.ops [⟨(some 4),.mov (.con (.int .i64 (-1))),none⟩])
 .ret)
 .skip))
 (.seq (.ops [⟨(some 11),.mov (.tmp 5),none⟩,
  ⟨(some 12),.nilChk (.tmp 11),none⟩,
  ⟨(some 13),.fieldAddr 0 (.tmp 12),none⟩,
  ⟨(some 14),.load false 1 (.tmp 13),none⟩,
  ⟨(some 4),.mov (.tmp 14),none⟩])
 .ret))))
def a159 : AFunc:=⟨2,c159,[.tmp 4]⟩
theorem k159 : cFunc Tryz.prog Tryz.f159=some a159:=by kernel_rfl
/- 160: (*tendril/epoch.Epochs).Advance -/
def c160 : ACode:=(.seq (.ops [⟨(some 4),.mov (.con (.bool false)),none⟩])
 (.seq (.seq (.ops [⟨(some 5),.mov (.tmp 0),none⟩,
  ⟨(some 6),.nilChk (.tmp 5),none⟩,
  ⟨(some 7),.fieldAddr 0 (.tmp 6),none⟩,
  ⟨(some 8),.load false 1 (.tmp 7),none⟩,
  ⟨(some 9),.mov (.tmp 1),none⟩,
  ⟨(some 10),.bin .neq (.tmp 8) (.tmp 9),none⟩,
  ⟨(some 11),.mov (.tmp 10),none⟩,
  ⟨(some 12),.mov (.tmp 0),(some (11,false))⟩,
  ⟨(some 13),.nilChk (.tmp 12),(some (11,false))⟩,
  ⟨(some 14),.fieldAddr 0 (.tmp 13),(some (11,false))⟩,
  ⟨(some 15),.load false 1 (.tmp 14),(some (11,false))⟩,
  ⟨(some 16),.bin .geq (.tmp 15) (.con (.int .i64 1073741824)),(some (11,false))⟩,
  ⟨(some 17),.pick (.tmp 11) (.con (.bool true)) (.tmp 16),none⟩])
 (.cond (.tmp 17)
 (.seq (.ops [⟨(some 4),.mov (.con (.bool false)),none⟩])
 .ret)
 .skip))
 (.seq (.ops [⟨(some 18),.mov (.tmp 0),none⟩,
  ⟨(some 19),.nilChk (.tmp 18),none⟩,
  ⟨(some 20),.fieldAddr 0 (.tmp 19),none⟩,
  ⟨(some 21),.load false 1 (.tmp 20),none⟩,
  ⟨(some 22),.bin .add (.tmp 21) (.con (.int .i64 1)),none⟩,
  ⟨(some 23),.nilChk (.tmp 18),none⟩,
  ⟨(some 24),.fieldAddr 0 (.tmp 23),none⟩,
  ⟨none,.store 1 (.tmp 24) (.tmp 22),none⟩])
 (.seq (.ops [⟨(some 4),.mov (.con (.bool true)),none⟩])
 .ret))))
def a160 : AFunc:=⟨2,c160,[.tmp 4]⟩
theorem k160 : cFunc Tryz.prog Tryz.f160=some a160:=by kernel_rfl
/- 161: (*tendril/mem.Mem).collect -/
def c161 : ACode:=(.seq (.ops [⟨(some 4),.new [(.int .i64 0),(.int .i64 0),(.bool false),.nilSlice],none⟩])
 (.seq (.ops [⟨(some 9),.mov (.tmp 0),none⟩,
  ⟨(some 10),.nilChk (.tmp 9),none⟩,
  ⟨(some 11),.fieldAddr 1 (.tmp 10),none⟩,
  ⟨(some 12),.load false 1 (.tmp 11),none⟩,
  ⟨(some 13),.mov (.tmp 1),none⟩,
  ⟨(some 14),.call 205 [(.tmp 12),(.tmp 13)],none⟩,
  ⟨(some 8),.mov (.tmp 14),none⟩,
  ⟨(some 15),.extract (.tmp 8) 0,none⟩,
  ⟨(some 16),.extract (.tmp 8) 1,none⟩,
  ⟨(some 5),.mov (.tmp 15),none⟩,
  ⟨(some 6),.mov (.tmp 16),none⟩])
 (.seq (.seq (.ops [⟨(some 17),.mov (.tmp 6),none⟩,
  ⟨(some 18),.un .not (.tmp 17),none⟩])
 (.cond (.tmp 18)
 (.seq (.ops [⟨(some 19),.build [(.int .i64 0),(.int .i64 0),(.bool false),.nilSlice] [],none⟩,
  ⟨none,.store 4 (.tmp 4) (.tmp 19),none⟩])
 .ret)
 .skip))
 (.seq (.seq (.ops [⟨(some 20),.mov (.tmp 0),none⟩,
  ⟨(some 21),.nilChk (.tmp 20),none⟩,
  ⟨(some 22),.fieldAddr 0 (.tmp 21),none⟩,
  ⟨(some 23),.load false 1 (.tmp 22),none⟩,
  ⟨(some 24),.mov (.tmp 5),none⟩,
  ⟨(some 25),.call 203 [(.tmp 23),(.tmp 24)],none⟩,
  ⟨(some 7),.mov (.tmp 25),none⟩])
 (.seq (.ops [⟨(some 26),.mov (.tmp 7),none⟩,
  ⟨(some 27),.bin .neq (.tmp 26) (.con (.int .i64 0)),none⟩])
 (.cond (.tmp 27)
 (.seq (.ops [⟨(some 28),.mov (.tmp 7),none⟩,
  ⟨(some 29),.build [(.int .i64 0),(.int .i64 0),(.bool false),.nilSlice] [(0,1,(.tmp 28))],none⟩,
  ⟨none,.store 4 (.tmp 4) (.tmp 29),none⟩])
 .ret)
 .skip)))
 (.seq (.ops [⟨(some 30),.mov (.tmp 5),none⟩,
  ⟨(some 31),.build [(.int .i64 0),(.int .i64 0),(.bool false),.nilSlice] [(1,1,(.tmp 30)),(2,1,(.con (.bool true)))],none⟩,
  ⟨none,.store 4 (.tmp 4) (.tmp 31),none⟩])
 .ret)))))
def a161 : AFunc:=⟨2,c161,[.cell 4 true 4]⟩
theorem k161 : cFunc Tryz.prog Tryz.f161=some a161:=by kernel_rfl
/- 162: (*tendril/mem.Mem).turn -/
def c162 : ACode:=(.seq (.ops [⟨(some 6),.new [(.int .i64 0),(.int .i64 0),(.bool false),.nilSlice],none⟩])
 (.seq (.block 0 (.seq (.ops [⟨(some 8),.mov (.tmp 2),none⟩,
  ⟨(some 9),.bin .eql (.tmp 8) (.con (.int .i64 13)),none⟩,
  ⟨(some 7),.mov (.tmp 9),none⟩])
 (.cond (.tmp 7)
 (.seq (.ops [⟨(some 10),.mov (.tmp 0),none⟩,
  ⟨(some 11),.nilChk (.tmp 10),none⟩,
  ⟨(some 12),.fieldAddr 4 (.tmp 11),none⟩,
  ⟨(some 13),.load false 1 (.tmp 12),none⟩,
  ⟨(some 14),.build [(.int .i64 0),(.int .i64 0),(.bool false),.nilSlice] [(1,1,(.tmp 13))],none⟩,
  ⟨none,.store 4 (.tmp 6) (.tmp 14),none⟩])
 .ret)
 (.seq (.ops [⟨(some 16),.mov (.tmp 2),none⟩,
  ⟨(some 17),.bin .eql (.tmp 16) (.con (.int .i64 14)),none⟩,
  ⟨(some 18),.mov (.tmp 17),none⟩,
  ⟨(some 19),.mov (.tmp 0),(some (18,true))⟩,
  ⟨(some 20),.nilChk (.tmp 19),(some (18,true))⟩,
  ⟨(some 21),.fieldAddr 4 (.tmp 20),(some (18,true))⟩,
  ⟨(some 22),.load false 1 (.tmp 21),(some (18,true))⟩,
  ⟨(some 23),.bin .lss (.tmp 22) (.con (.int .i64 0)),(some (18,true))⟩,
  ⟨(some 24),.pick (.tmp 18) (.tmp 23) (.con (.bool false)),none⟩,
  ⟨(some 15),.mov (.tmp 24),none⟩])
 (.cond (.tmp 15)
 (.seq (.ops [⟨(some 25),.mov (.tmp 0),none⟩,
  ⟨(some 26),.mov (.tmp 1),none⟩,
  ⟨(some 27),.nilChk (.tmp 25),none⟩,
  ⟨(some 28),.fieldAddr 4 (.tmp 27),none⟩,
  ⟨none,.store 1 (.tmp 28) (.tmp 26),none⟩])
 (.seq (.ops [⟨(some 29),.build [(.int .i64 0),(.int .i64 0),(.bool false),.nilSlice] [(2,1,(.con (.bool true)))],none⟩,
  ⟨none,.store 4 (.tmp 6) (.tmp 29),none⟩])
 .ret))
 (.seq (.ops [⟨(some 31),.mov (.tmp 2),none⟩,
  ⟨(some 32),.bin .eql (.tmp 31) (.con (.int .i64 15)),none⟩,
  ⟨(some 33),.mov (.tmp 32),none⟩,
  ⟨(some 34),.mov (.tmp 0),(some (33,true))⟩,
  ⟨(some 35),.nilChk (.tmp 34),(some (33,true))⟩,
  ⟨(some 36),.fieldAddr 4 (.tmp 35),(some (33,true))⟩,
  ⟨(some 37),.load false 1 (.tmp 36),(some (33,true))⟩,
  ⟨(some 38),.mov (.tmp 1),(some (33,true))⟩,
  ⟨(some 39),.bin .eql (.tmp 37) (.tmp 38),(some (33,true))⟩,
  ⟨(some 40),.pick (.tmp 33) (.tmp 39) (.con (.bool false)),none⟩,
  ⟨(some 30),.mov (.tmp 40),none⟩])
 (.cond (.tmp 30)
 (.seq (.ops [⟨(some 41),.mov (.tmp 0),none⟩,
  ⟨(some 42),.nilChk (.tmp 41),none⟩,
  ⟨(some 43),.fieldAddr 4 (.tmp 42),none⟩,
  ⟨none,.store 1 (.tmp 43) (.con (.int .i64 (-1))),none⟩])
 (.seq (.ops [⟨(some 44),.build [(.int .i64 0),(.int .i64 0),(.bool false),.nilSlice] [(2,1,(.con (.bool true)))],none⟩,
  ⟨none,.store 4 (.tmp 6) (.tmp 44),none⟩])
 .ret))
 .skip)))))))
 (.seq (.ops [⟨(some 45),.build [(.int .i64 0),(.int .i64 0),(.bool false),.nilSlice] [],none⟩,
  ⟨none,.store 4 (.tmp 6) (.tmp 45),none⟩])
 .ret)))
def a162 : AFunc:=⟨3,c162,[.cell 6 true 4]⟩
theorem k162 : cFunc Tryz.prog Tryz.f162=some a162:=by kernel_rfl
/- 163: strings.splitSeq -/
def c163 : ACode:=(.seq (.ops [⟨(some 3),.box (.tmp 0),none⟩,
  ⟨(some 4),.box (.tmp 1),none⟩,
  ⟨(some 5),.box (.tmp 2),none⟩,
  ⟨(some 6),.mov (.con .nilFunc),none⟩])
 (.seq (.ops [⟨(some 7),.mkFunc (.func 206) [] [(.tmp 4),(.tmp 3),(.tmp 5)],none⟩,
  ⟨(some 6),.mov (.tmp 7),none⟩])
 .ret))
def a163 : AFunc:=⟨3,c163,[.tmp 6]⟩
theorem k163 : cFunc Tryz.prog Tryz.f163=some a163:=by kernel_rfl
/- 165: math/bits.Len -/
def c165 : ACode:=(.seq (.ops [⟨(some 2),.mov (.con (.int .i64 0)),none⟩])
 (.seq (.cond (.con (.bool false))
 (.seq (.ops [⟨(some 3),.mov (.tmp 0),none⟩,
  ⟨(some 4),.toInt .u32 (.tmp 3),none⟩,
  ⟨(some 5),.call 218 [(.tmp 4)],none⟩,
  ⟨(some 2),.mov (.tmp 5),none⟩])
 .ret)
 .skip)
 (.seq (.ops [⟨(some 6),.mov (.tmp 0),none⟩,
  ⟨(some 7),.call 219 [(.tmp 6)],none⟩,
  ⟨(some 2),.mov (.tmp 7),none⟩])
 .ret)))
def a165 : AFunc:=⟨1,c165,[.tmp 2]⟩
theorem k165 : cFunc Tryz.prog Tryz.f165=some a165:=by kernel_rfl
/- 164: slices.pdqsortOrdered[string] -/
def c164l0 : ACode:=(.block 1 (.seq (.ops [⟨(some 19),.mov (.tmp 2),none⟩,
  ⟨(some 20),.mov (.tmp 1),none⟩,
  ⟨(some 21),.bin .sub (.tmp 19) (.tmp 20),none⟩,
  ⟨(some 10),.mov (.tmp 21),none⟩])
 (.seq (.seq (.ops [⟨(some 22),.mov (.tmp 10),none⟩,
  ⟨(some 23),.bin .leq (.tmp 22) (.con (.int .i64 12)),none⟩])
 (.cond (.tmp 23)
 (.seq (.ops [⟨(some 24),.mov (.tmp 0),none⟩,
  ⟨(some 25),.mov (.tmp 1),none⟩,
  ⟨(some 26),.mov (.tmp 2),none⟩,
  ⟨(some 27),.call 209 [(.tmp 24),(.tmp 25),(.tmp 26)],none⟩])
 .ret)
 .skip))
 (.seq (.seq (.ops [⟨(some 28),.mov (.tmp 3),none⟩,
  ⟨(some 29),.bin .eql (.tmp 28) (.con (.int .i64 0)),none⟩])
 (.cond (.tmp 29)
 (.seq (.ops [⟨(some 30),.mov (.tmp 0),none⟩,
  ⟨(some 31),.mov (.tmp 1),none⟩,
  ⟨(some 32),.mov (.tmp 2),none⟩,
  ⟨(some 33),.call 210 [(.tmp 30),(.tmp 31),(.tmp 32)],none⟩])
 .ret)
 .skip))
 (.seq (.seq (.ops [⟨(some 34),.mov (.tmp 8),none⟩,
  ⟨(some 35),.un .not (.tmp 34),none⟩])
 (.cond (.tmp 35)
 (.seq (.ops [⟨(some 36),.mov (.tmp 0),none⟩,
  ⟨(some 37),.mov (.tmp 1),none⟩,
  ⟨(some 38),.mov (.tmp 2),none⟩,
  ⟨(some 39),.call 211 [(.tmp 36),(.tmp 37),(.tmp 38)],none⟩])
 (.ops [⟨(some 40),.mov (.tmp 3),none⟩,
  ⟨(some 41),.bin .sub (.tmp 40) (.con (.int .i64 1)),none⟩,
  ⟨(some 3),.mov (.tmp 41),none⟩]))
 .skip))
 (.seq (.ops [⟨(some 43),.mov (.tmp 0),none⟩,
  ⟨(some 44),.mov (.tmp 1),none⟩,
  ⟨(some 45),.mov (.tmp 2),none⟩,
  ⟨(some 46),.call 212 [(.tmp 43),(.tmp 44),(.tmp 45)],none⟩,
  ⟨(some 42),.mov (.tmp 46),none⟩,
  ⟨(some 47),.extract (.tmp 42) 0,none⟩,
  ⟨(some 48),.extract (.tmp 42) 1,none⟩,
  ⟨(some 11),.mov (.tmp 47),none⟩,
  ⟨(some 12),.mov (.tmp 48),none⟩])
 (.seq (.seq (.ops [⟨(some 49),.mov (.tmp 12),none⟩,
  ⟨(some 50),.bin .eql (.tmp 49) (.con (.int .i64 2)),none⟩])
 (.cond (.tmp 50)
 (.seq (.ops [⟨(some 51),.mov (.tmp 0),none⟩,
  ⟨(some 52),.mov (.tmp 1),none⟩,
  ⟨(some 53),.mov (.tmp 2),none⟩,
  ⟨(some 54),.call 213 [(.tmp 51),(.tmp 52),(.tmp 53)],none⟩])
 (.seq (.ops [⟨(some 55),.mov (.tmp 2),none⟩,
  ⟨(some 56),.bin .sub (.tmp 55) (.con (.int .i64 1)),none⟩,
  ⟨(some 57),.mov (.tmp 11),none⟩,
  ⟨(some 58),.mov (.tmp 1),none⟩,
  ⟨(some 59),.bin .sub (.tmp 57) (.tmp 58),none⟩,
  ⟨(some 60),.bin .sub (.tmp 56) (.tmp 59),none⟩,
  ⟨(some 11),.mov (.tmp 60),none⟩])
 (.ops [⟨(some 12),.mov (.con (.int .i64 1)),none⟩])))
 .skip))
 (.seq (.seq (.ops [⟨(some 61),.mov (.tmp 8),none⟩,
  ⟨(some 62),.mov (.tmp 61),none⟩,
  ⟨(some 63),.mov (.tmp 9),(some (62,true))⟩,
  ⟨(some 64),.pick (.tmp 62) (.tmp 63) (.con (.bool false)),none⟩,
  ⟨(some 65),.mov (.tmp 64),none⟩,
  ⟨(some 66),.mov (.tmp 12),(some (65,true))⟩,
  ⟨(some 67),.bin .eql (.tmp 66) (.con (.int .i64 1)),(some (65,true))⟩,
  ⟨(some 68),.pick (.tmp 65) (.tmp 67) (.con (.bool false)),none⟩])
 (.cond (.tmp 68)
 (.seq (.ops [⟨(some 69),.mov (.tmp 0),none⟩,
  ⟨(some 70),.mov (.tmp 1),none⟩,
  ⟨(some 71),.mov (.tmp 2),none⟩,
  ⟨(some 72),.call 214 [(.tmp 69),(.tmp 70),(.tmp 71)],none⟩])
 (.cond (.tmp 72)
 .ret
 .skip))
 .skip))
 (.seq (.seq (.ops [⟨(some 73),.mov (.tmp 1),none⟩,
  ⟨(some 74),.bin .gtr (.tmp 73) (.con (.int .i64 0)),none⟩,
  ⟨(some 75),.mov (.tmp 74),none⟩,
  ⟨(some 76),.mov (.tmp 0),(some (75,true))⟩,
  ⟨(some 77),.mov (.tmp 1),(some (75,true))⟩,
  ⟨(some 78),.bin .sub (.tmp 77) (.con (.int .i64 1)),(some (75,true))⟩,
  ⟨(some 79),.idxAddr 1 (.tmp 76) (.tmp 78),(some (75,true))⟩,
  ⟨(some 80),.load false 1 (.tmp 79),(some (75,true))⟩,
  ⟨(some 81),.mov (.tmp 0),(some (75,true))⟩,
  ⟨(some 82),.mov (.tmp 11),(some (75,true))⟩,
  ⟨(some 83),.idxAddr 1 (.tmp 81) (.tmp 82),(some (75,true))⟩,
  ⟨(some 84),.load false 1 (.tmp 83),(some (75,true))⟩,
  ⟨(some 85),.call 215 [(.tmp 80),(.tmp 84)],(some (75,true))⟩,
  ⟨(some 86),.un .not (.tmp 85),(some (75,true))⟩,
  ⟨(some 87),.pick (.tmp 75) (.tmp 86) (.con (.bool false)),none⟩])
 (.cond (.tmp 87)
 (.seq (.ops [⟨(some 88),.mov (.tmp 0),none⟩,
  ⟨(some 89),.mov (.tmp 1),none⟩,
  ⟨(some 90),.mov (.tmp 2),none⟩,
  ⟨(some 91),.mov (.tmp 11),none⟩,
  ⟨(some 92),.call 216 [(.tmp 88),(.tmp 89),(.tmp 90),(.tmp 91)],none⟩,
  ⟨(some 13),.mov (.tmp 92),none⟩])
 (.seq (.ops [⟨(some 93),.mov (.tmp 13),none⟩,
  ⟨(some 1),.mov (.tmp 93),none⟩])
 (.exit 1)))
 .skip))
 (.seq (.ops [⟨(some 95),.mov (.tmp 0),none⟩,
  ⟨(some 96),.mov (.tmp 1),none⟩,
  ⟨(some 97),.mov (.tmp 2),none⟩,
  ⟨(some 98),.mov (.tmp 11),none⟩,
  ⟨(some 99),.call 217 [(.tmp 95),(.tmp 96),(.tmp 97),(.tmp 98)],none⟩,
  ⟨(some 94),.mov (.tmp 99),none⟩,
  ⟨(some 100),.extract (.tmp 94) 0,none⟩,
  ⟨(some 101),.extract (.tmp 94) 1,none⟩,
  ⟨(some 14),.mov (.tmp 100),none⟩,
  ⟨(some 15),.mov (.tmp 101),none⟩])
 (.seq (.ops [⟨(some 102),.mov (.tmp 15),none⟩,
  ⟨(some 9),.mov (.tmp 102),none⟩])
 (.seq (.ops [⟨(some 103),.mov (.tmp 14),none⟩,
  ⟨(some 104),.mov (.tmp 1),none⟩,
  ⟨(some 105),.bin .sub (.tmp 103) (.tmp 104),none⟩,
  ⟨(some 106),.mov (.tmp 2),none⟩,
  ⟨(some 107),.mov (.tmp 14),none⟩,
  ⟨(some 108),.bin .sub (.tmp 106) (.tmp 107),none⟩,
  ⟨(some 16),.mov (.tmp 105),none⟩,
  ⟨(some 17),.mov (.tmp 108),none⟩])
 (.seq (.ops [⟨(some 109),.mov (.tmp 10),none⟩,
  ⟨(some 110),.bin .quo (.tmp 109) (.con (.int .i64 8)),none⟩,
  ⟨(some 18),.mov (.tmp 110),none⟩])
 (.seq (.ops [⟨(some 111),.mov (.tmp 16),none⟩,
  ⟨(some 112),.mov (.tmp 17),none⟩,
  ⟨(some 113),.bin .lss (.tmp 111) (.tmp 112),none⟩])
 (.cond (.tmp 113)
 (.seq (.ops [⟨(some 114),.mov (.tmp 16),none⟩,
  ⟨(some 115),.mov (.tmp 18),none⟩,
  ⟨(some 116),.bin .geq (.tmp 114) (.tmp 115),none⟩,
  ⟨(some 8),.mov (.tmp 116),none⟩])
 (.seq (.ops [⟨(some 117),.mov (.tmp 0),none⟩,
  ⟨(some 118),.mov (.tmp 1),none⟩,
  ⟨(some 119),.mov (.tmp 14),none⟩,
  ⟨(some 120),.mov (.tmp 3),none⟩,
  ⟨(some 121),.call 164 [(.tmp 117),(.tmp 118),(.tmp 119),(.tmp 120)],none⟩])
 (.ops [⟨(some 122),.mov (.tmp 14),none⟩,
  ⟨(some 123),.bin .add (.tmp 122) (.con (.int .i64 1)),none⟩,
  ⟨(some 1),.mov (.tmp 123),none⟩])))
 (.seq (.ops [⟨(some 124),.mov (.tmp 17),none⟩,
  ⟨(some 125),.mov (.tmp 18),none⟩,
  ⟨(some 126),.bin .geq (.tmp 124) (.tmp 125),none⟩,
  ⟨(some 8),.mov (.tmp 126),none⟩])
 (.seq (.ops [⟨(some 127),.mov (.tmp 0),none⟩,
  ⟨(some 128),.mov (.tmp 14),none⟩,
  ⟨(some 129),.bin .add (.tmp 128) (.con (.int .i64 1)),none⟩,
  ⟨(some 130),.mov (.tmp 2),none⟩,
  ⟨(some 131),.mov (.tmp 3),none⟩,
  ⟨(some 132),.call 164 [(.tmp 127),(.tmp 129),(.tmp 130),(.tmp 131)],none⟩])
 (.ops [⟨(some 133),.mov (.tmp 14),none⟩,
  ⟨(some 2),.mov (.tmp 133),none⟩]))))))))))))))))))
def c164 : ACode:=(.seq (.ops [⟨(some 8),.mov (.con (.bool true)),none⟩])
 (.seq (.ops [⟨(some 9),.mov (.con (.bool true)),none⟩])
 (.block 0 (.loop c164l0))))
def a164 : AFunc:=⟨4,c164,[]⟩
theorem k164 : cFunc Tryz.prog Tryz.f164=some a164:=by kernel_rfl
/- 166: slices.Delete[[]int,int] -/
def c166 : ACode:=(.seq (.ops [⟨(some 6),.mov (.con .nilSlice),none⟩])
 (.seq (.ops [⟨(some 8),.mov (.tmp 0),none⟩,
  ⟨(some 9),.mov (.tmp 1),none⟩,
  ⟨(some 10),.mov (.tmp 2),none⟩,
  ⟨(some 11),.mov (.tmp 0),none⟩,
  ⟨(some 12),.lenSlice (.tmp 11),none⟩,
  ⟨(some 13),.slc 1 (.tmp 8) (some (.tmp 9)) (some (.tmp 10)) (some (.tmp 12)),none⟩])
 (.seq (.seq (.ops [⟨(some 14),.mov (.tmp 1),none⟩,
  ⟨(some 15),.mov (.tmp 2),none⟩,
  ⟨(some 16),.bin .eql (.tmp 14) (.tmp 15),none⟩])
 (.cond (.tmp 16)
 (.seq (.ops [⟨(some 17),.mov (.tmp 0),none⟩,
  ⟨(some 6),.mov (.tmp 17),none⟩])
 .ret)
 .skip))
 (.seq (.ops [⟨(some 18),.mov (.tmp 0),none⟩,
  ⟨(some 19),.lenSlice (.tmp 18),none⟩,
  ⟨(some 7),.mov (.tmp 19),none⟩])
 (.seq (.ops [⟨(some 20),.mov (.tmp 0),none⟩,
  ⟨(some 21),.mov (.tmp 1),none⟩,
  ⟨(some 22),.slc 1 (.tmp 20) none (some (.tmp 21)) none,none⟩,
  ⟨(some 23),.mov (.tmp 0),none⟩,
  ⟨(some 24),.mov (.tmp 2),none⟩,
  ⟨(some 25),.slc 1 (.tmp 23) (some (.tmp 24)) none none,none⟩,
  ⟨(some 26),.append 1 8 (.tmp 22) (.tmp 25),none⟩,
  ⟨(some 0),.mov (.tmp 26),none⟩])
 (.seq (.ops [⟨(some 27),.mov (.tmp 0),none⟩,
  ⟨(some 28),.mov (.tmp 0),none⟩,
  ⟨(some 29),.lenSlice (.tmp 28),none⟩,
  ⟨(some 30),.mov (.tmp 7),none⟩,
  ⟨(some 31),.slc 1 (.tmp 27) (some (.tmp 29)) (some (.tmp 30)) none,none⟩,
  ⟨none,.clear 1 [(.int .i64 0)] (.tmp 31),none⟩])
 (.seq (.ops [⟨(some 32),.mov (.tmp 0),none⟩,
  ⟨(some 6),.mov (.tmp 32),none⟩])
 .ret)))))))
def a166 : AFunc:=⟨3,c166,[.tmp 6]⟩
theorem k166 : cFunc Tryz.prog Tryz.f166=some a166:=by kernel_rfl
/- 167: tendril/drop.New -/
def c167 : ACode:=(.seq (.ops [⟨(some 3),.box (.tmp 0),none⟩,
  ⟨(some 6),.mov (.con .nilPtr),none⟩,
  ⟨(some 7),.mov (.con (.int .i64 0)),none⟩])
 (.seq (.seq (.ops [⟨(some 9),.fieldAddr 0 (.tmp 3),none⟩,
  ⟨(some 10),.load false 1 (.tmp 9),none⟩,
  ⟨(some 11),.bin .neq (.tmp 10) (.con (.int .i64 3)),none⟩,
  ⟨(some 12),.mov (.tmp 11),none⟩,
  ⟨(some 13),.fieldAddr 1 (.tmp 3),(some (12,false))⟩,
  ⟨(some 14),.load false 1 (.tmp 13),(some (12,false))⟩,
  ⟨(some 15),.call 42 [(.tmp 14)],(some (12,false))⟩,
  ⟨(some 16),.un .not (.tmp 15),(some (12,false))⟩,
  ⟨(some 17),.pick (.tmp 12) (.con (.bool true)) (.tmp 16),none⟩,
  ⟨(some 18),.mov (.tmp 17),none⟩,
  ⟨(some 19),.fieldAddr 3 (.tmp 3),(some (18,false))⟩,
  ⟨(some 20),.load false 1 (.tmp 19),(some (18,false))⟩,
  ⟨(some 21),.bin .neq (.tmp 20) (.con (.int .i64 0)),(some (18,false))⟩,
  ⟨(some 22),.pick (.tmp 18) (.con (.bool true)) (.tmp 21),none⟩,
  ⟨(some 23),.mov (.tmp 22),none⟩,
  ⟨(some 24),.fieldAddr 2 (.tmp 3),(some (23,false))⟩,
  ⟨(some 25),.load false 1 (.tmp 24),(some (23,false))⟩,
  ⟨(some 26),.bin .neq (.tmp 25) (.con (.str [])),(some (23,false))⟩,
  ⟨(some 27),.pick (.tmp 23) (.con (.bool true)) (.tmp 26),none⟩,
  ⟨(some 28),.mov (.tmp 27),none⟩,
  ⟨(some 29),.mov (.tmp 2),(some (28,false))⟩,
  ⟨(some 30),.bin .lss (.tmp 29) (.con (.int .i64 1)),(some (28,false))⟩,
  ⟨(some 31),.pick (.tmp 28) (.con (.bool true)) (.tmp 30),none⟩])
 (.cond (.tmp 31)
 (.seq (.ops [⟨(some 6),.mov (.con .nilPtr),none⟩,
  ⟨(some 7),.mov (.con (.int .i64 1)),none⟩])
 .ret)
 .skip))
 (.seq (.ops [⟨(some 32),.fieldAddr 1 (.tmp 3),none⟩,
  ⟨(some 33),.load false 1 (.tmp 32),none⟩,
  ⟨(some 34),.call 181 [(.tmp 33)],none⟩,
  ⟨(some 35),.mov (.tmp 1),none⟩,
  ⟨(some 36),.mov (.tmp 2),none⟩,
  ⟨(some 37),.build [(.str []),(.str []),(.int .i64 0),(.int .i64 0),(.int .i64 0),(.bool false),(.int .i64 0),(.int .i64 0),(.int .i64 0),(.int .i64 0),(.int .u64 0),.nilSlice,.nilFunc,.nilFunc,(.int .i64 0),(.int .i64 0),(.int .u64 0),(.str []),.nilSlice,.nilSlice,(.int .u8 0),(.int .i64 0),(.int .i64 0),(.int .u64 0),(.str []),.nilSlice,.nilSlice,(.int .u8 0),(.int .i64 0),(.int .i64 0),(.int .u64 0),(.str []),.nilSlice,.nilSlice,(.int .u8 0),(.int .i64 0),.nilSlice,.nilSlice,.nilSlice,(.bool false),(.bool false),(.int .i64 0),(.bool false),(.int .i64 0),.nilSlice] [(0,1,(.tmp 34)),(2,1,(.tmp 35)),(3,1,(.tmp 36))],none⟩,
  ⟨(some 38),.box (.tmp 37),none⟩,
  ⟨(some 8),.mov (.tmp 38),none⟩])
 (.seq (.ops [⟨(some 39),.mov (.tmp 8),none⟩,
  ⟨(some 40),.build [(.int .i64 0),(.int .i64 0),(.int .i64 0),(.int .i64 0),(.int .u64 0),.nilSlice] [(0,1,(.con (.int .i64 7)))],none⟩,
  ⟨(some 41),.call 220 [(.tmp 39),(.tmp 40),(.con (.func (.func 221) [] []))],none⟩])
 (.seq (.ops [⟨(some 42),.mov (.tmp 8),none⟩,
  ⟨(some 6),.mov (.tmp 42),none⟩,
  ⟨(some 7),.mov (.con (.int .i64 0)),none⟩])
 .ret)))))
def a167 : AFunc:=⟨3,c167,[.tmp 6,.tmp 7]⟩
theorem k167 : cFunc Tryz.prog Tryz.f167=some a167:=by kernel_rfl
end Go.Proofs.YtakgcpmemalmaaaGreatDoor

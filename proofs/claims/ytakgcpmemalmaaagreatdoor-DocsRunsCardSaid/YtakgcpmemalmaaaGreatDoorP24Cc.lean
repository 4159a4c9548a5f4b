/- The abstract code of functions that the laws reach, as a program printed it; each is what the compiler makes of the given function. -/
import Derived.Test.YtakgcpmemalmaaaGreatDoorVmZ
import Derived.Test.YtakgcpmemalmaaaGreatDoorVmS
import Derived.Test.YtakgcpmemalmaaaGreatDoorRows
namespace Go.Proofs.YtakgcpmemalmaaaGreatDoor
open Go.Vm
/- 168: (*tendril/drop.Drop).Next -/
def c168 : ACode:=(.seq (.ops [⟨(some 2),.new [(.int .i64 0),(.int .i64 0),(.int .i64 0),(.int .i64 0),(.int .u64 0),.nilSlice],none⟩,
  ⟨(some 3),.mov (.con (.bool false)),none⟩])
 (.seq (.seq (.ops [⟨(some 5),.mov (.tmp 0),none⟩,
  ⟨(some 6),.nilChk (.tmp 5),none⟩,
  ⟨(some 7),.fieldAddr 12 (.tmp 6),none⟩,
  ⟨(some 8),.load false 1 (.tmp 7),none⟩,
  ⟨(some 9),.eqNil 3 false (.tmp 8) (.con .nilFunc),none⟩])
 (.cond (.tmp 9)
 (.seq (.ops [⟨(some 10),.build [(.int .i64 0),(.int .i64 0),(.int .i64 0),(.int .i64 0),(.int .u64 0),.nilSlice] [],none⟩,
  ⟨none,.store 6 (.tmp 2) (.tmp 10),none⟩,
  ⟨(some 3),.mov (.con (.bool false)),none⟩])
 .ret)
 .skip))
 (.seq (.ops [⟨(some 11),.mov (.tmp 0),none⟩,
  ⟨(some 12),.nilChk (.tmp 11),none⟩,
  ⟨(some 13),.fieldAddr 6 (.tmp 12),none⟩,
  ⟨(some 14),.load true 6 (.tmp 13),none⟩,
  ⟨(some 4),.new [(.int .i64 0),(.int .i64 0),(.int .i64 0),(.int .i64 0),(.int .u64 0),.nilSlice],none⟩,
  ⟨none,.store 6 (.tmp 4) (.tmp 14),none⟩])
 (.seq (.ops [⟨(some 15),.fieldAddr 5 (.tmp 4),none⟩,
  ⟨(some 16),.load false 1 (.tmp 15),none⟩,
  ⟨(some 17),.call 186 [(.tmp 16)],none⟩,
  ⟨(some 18),.fieldAddr 5 (.tmp 4),none⟩,
  ⟨none,.store 1 (.tmp 18) (.tmp 17),none⟩])
 (.seq (.ops [⟨(some 19),.load true 6 (.tmp 4),none⟩,
  ⟨none,.store 6 (.tmp 2) (.tmp 19),none⟩,
  ⟨(some 3),.mov (.con (.bool true)),none⟩])
 .ret)))))
def a168 : AFunc:=⟨1,c168,[.cell 2 true 6,.tmp 3]⟩
theorem k168 : cFunc Tryz.prog Tryz.f168=some a168:=by kernel_rfl
/- 169: (*tendril/drop.Drop).Got -/
def c169 : ACode:=(.seq (.ops [⟨(some 3),.box (.tmp 1),none⟩])
 (.seq (.ops [⟨(some 4),.mov (.tmp 0),none⟩,
  ⟨(some 5),.nilChk (.tmp 4),none⟩,
  ⟨(some 6),.fieldAddr 40 (.tmp 5),none⟩,
  ⟨none,.store 1 (.tmp 6) (.con (.bool false)),none⟩])
 (.seq (.ops [⟨(some 7),.mov (.tmp 0),none⟩,
  ⟨(some 8),.nilChk (.tmp 7),none⟩,
  ⟨(some 9),.fieldAddr 12 (.tmp 8),none⟩,
  ⟨(some 10),.load false 1 (.tmp 9),none⟩,
  ⟨(some 11),.eqNil 3 true (.tmp 10) (.con .nilFunc),none⟩])
 (.cond (.tmp 11)
 (.ops [⟨(some 12),.mov (.tmp 0),none⟩,
  ⟨(some 13),.nilChk (.tmp 12),none⟩,
  ⟨(some 14),.fieldAddr 12 (.tmp 13),none⟩,
  ⟨(some 15),.load false 1 (.tmp 14),none⟩,
  ⟨(some 16),.mov (.tmp 0),none⟩,
  ⟨(some 17),.load true 4 (.tmp 3),none⟩,
  ⟨(some 18),.callV (.tmp 15) [(.tmp 16),(.tmp 17)],none⟩])
 .skip))))
def a169 : AFunc:=⟨2,c169,[]⟩
theorem k169 : cFunc Tryz.prog Tryz.f169=some a169:=by kernel_rfl
/- 176: slices.Repeat[[]uint64,uint64] -/
def c176l0 : ACode:=(.seq (.seq (.ops [⟨(some 34),.mov (.tmp 8),none⟩,
  ⟨(some 35),.mov (.tmp 7),none⟩,
  ⟨(some 36),.lenSlice (.tmp 35),none⟩,
  ⟨(some 37),.bin .lss (.tmp 34) (.tmp 36),none⟩])
 (.cond (.tmp 37)
 .skip
 (.exit 0)))
 (.block 1 (.ops [⟨(some 38),.mov (.tmp 8),none⟩,
  ⟨(some 39),.mov (.tmp 7),none⟩,
  ⟨(some 40),.mov (.tmp 8),none⟩,
  ⟨(some 41),.slc 1 (.tmp 39) (some (.tmp 40)) none none,none⟩,
  ⟨(some 42),.mov (.tmp 7),none⟩,
  ⟨(some 43),.mov (.tmp 8),none⟩,
  ⟨(some 44),.slc 1 (.tmp 42) none (some (.tmp 43)) none,none⟩,
  ⟨(some 45),.copy 1 (.tmp 41) (.tmp 44),none⟩,
  ⟨(some 46),.bin .add (.tmp 38) (.tmp 45),none⟩,
  ⟨(some 8),.mov (.tmp 46),none⟩])))
def c176 : ACode:=(.seq (.ops [⟨(some 4),.mov (.con .nilSlice),none⟩])
 (.seq (.seq (.ops [⟨(some 9),.mov (.tmp 1),none⟩,
  ⟨(some 10),.bin .lss (.tmp 9) (.con (.int .i64 0)),none⟩])
 (.cond (.tmp 10)
 (.ops [⟨(some 11),.mkIface 9 (.con (.str [99,97,110,110,111,116,32,98,101,32,110,101,103,97,116,105,118,101])),none⟩,
  ⟨none,.stuck,none⟩])
 .skip))
 (.seq (.ops [⟨(some 13),.mov (.tmp 0),none⟩,
  ⟨(some 14),.lenSlice (.tmp 13),none⟩,
  ⟨(some 15),.toInt .u64 (.tmp 14),none⟩,
  ⟨(some 16),.mov (.tmp 1),none⟩,
  ⟨(some 17),.toInt .u64 (.tmp 16),none⟩,
  ⟨(some 18),.call 224 [(.tmp 15),(.tmp 17)],none⟩,
  ⟨(some 12),.mov (.tmp 18),none⟩,
  ⟨(some 19),.extract (.tmp 12) 0,none⟩,
  ⟨(some 20),.extract (.tmp 12) 1,none⟩,
  ⟨(some 5),.mov (.tmp 19),none⟩,
  ⟨(some 6),.mov (.tmp 20),none⟩])
 (.seq (.seq (.ops [⟨(some 21),.mov (.tmp 5),none⟩,
  ⟨(some 22),.bin .gtr (.tmp 21) (.con (.int .u64 0)),none⟩,
  ⟨(some 23),.mov (.tmp 22),none⟩,
  ⟨(some 24),.mov (.tmp 6),(some (23,false))⟩,
  ⟨(some 25),.bin .gtr (.tmp 24) (.con (.int .u64 9223372036854775807)),(some (23,false))⟩,
  ⟨(some 26),.pick (.tmp 23) (.con (.bool true)) (.tmp 25),none⟩])
 (.cond (.tmp 26)
 (.ops [⟨(some 27),.mkIface 9 (.con (.str [116,104,101,32,114,101,115,117,108,116,32,111,102,32,40,108,101,110,40,120,41,32,42,32,99,111,117,110,116,41,32,111,118,101,114,102,108,111,119,115])),none⟩,
  ⟨none,.stuck,none⟩])
 .skip))
 (.seq (.ops [⟨(some 28),.mov (.tmp 6),none⟩,
  ⟨(some 29),.toInt .i64 (.tmp 28),none⟩,
  ⟨(some 30),.mkSlice 1 8 [(.int .u64 0)] (.tmp 29) (.tmp 29),none⟩,
  ⟨(some 7),.mov (.tmp 30),none⟩])
 (.seq (.ops [⟨(some 31),.mov (.tmp 7),none⟩,
  ⟨(some 32),.mov (.tmp 0),none⟩,
  ⟨(some 33),.copy 1 (.tmp 31) (.tmp 32),none⟩,
  ⟨(some 8),.mov (.tmp 33),none⟩])
 (.seq (.block 0 (.loop c176l0))
 (.seq (.ops [⟨(some 47),.mov (.tmp 7),none⟩,
  ⟨(some 4),.mov (.tmp 47),none⟩])
 .ret))))))))
def a176 : AFunc:=⟨2,c176,[.tmp 4]⟩
theorem k176 : cFunc Tryz.prog Tryz.f176=some a176:=by kernel_rfl
/- 177: tendril/node.High -/
def c177 : ACode:=(.seq (.ops [⟨(some 2),.mov (.con (.int .i64 0)),none⟩])
 (.seq (.seq (.ops [⟨(some 3),.mov (.tmp 0),none⟩])
 (.block 0 (.seq (.ops [⟨(some 5),.bin .eql (.tmp 3) (.con (.int .i64 1)),none⟩,
  ⟨(some 4),.mov (.tmp 5),none⟩])
 (.cond (.tmp 4)
 (.seq (.ops [⟨(some 2),.mov (.con (.int .i64 4)),none⟩])
 .ret)
 (.seq (.ops [⟨(some 7),.bin .eql (.tmp 3) (.con (.int .i64 2)),none⟩,
  ⟨(some 6),.mov (.tmp 7),none⟩])
 (.cond (.tmp 6)
 (.seq (.ops [⟨(some 2),.mov (.con (.int .i64 16)),none⟩])
 .ret)
 (.seq (.ops [⟨(some 9),.bin .eql (.tmp 3) (.con (.int .i64 3)),none⟩,
  ⟨(some 8),.mov (.tmp 9),none⟩])
 (.cond (.tmp 8)
 (.seq (.ops [⟨(some 2),.mov (.con (.int .i64 48)),none⟩])
 .ret)
 (.seq (.ops [⟨(some 11),.bin .eql (.tmp 3) (.con (.int .i64 4)),none⟩,
  ⟨(some 10),.mov (.tmp 11),none⟩])
 (.cond (.tmp 10)
 (.seq (.ops [⟨(some 2),.mov (.con (.int .i64 256)),none⟩])
 .ret)
 .skip))))))))))
 (.seq (.ops [⟨(some 2),.mov (.con (.int .i64 0)),none⟩])
 .ret)))
def a177 : AFunc:=⟨1,c177,[.tmp 2]⟩
theorem k177 : cFunc Tryz.prog Tryz.f177=some a177:=by kernel_rfl
/- 178: tendril/word.Dead -/
def c178 : ACode:=(.seq (.ops [⟨(some 2),.mov (.con (.bool false)),none⟩])
 (.seq (.ops [⟨(some 3),.mov (.tmp 0),none⟩,
  ⟨(some 4),.bin .and (.tmp 3) (.con (.int .u64 2)),none⟩,
  ⟨(some 5),.bin .neq (.tmp 4) (.con (.int .u64 0)),none⟩,
  ⟨(some 2),.mov (.tmp 5),none⟩])
 .ret))
def a178 : AFunc:=⟨1,c178,[.tmp 2]⟩
theorem k178 : cFunc Tryz.prog Tryz.f178=some a178:=by kernel_rfl
/- 179: tendril/node.isRef -/
def c179 : ACode:=(.seq (.ops [⟨(some 2),.mov (.con (.bool false)),none⟩])
 (.seq (.ops [⟨(some 8),.mov (.tmp 0),none⟩,
  ⟨(some 9),.call 204 [(.tmp 8)],none⟩,
  ⟨(some 7),.mov (.tmp 9),none⟩,
  ⟨(some 10),.extract (.tmp 7) 0,none⟩,
  ⟨(some 11),.extract (.tmp 7) 1,none⟩,
  ⟨(some 12),.extract (.tmp 7) 2,none⟩,
  ⟨(some 13),.extract (.tmp 7) 3,none⟩,
  ⟨(some 3),.mov (.tmp 10),none⟩,
  ⟨(some 4),.mov (.tmp 11),none⟩,
  ⟨(some 5),.mov (.tmp 12),none⟩,
  ⟨(some 6),.mov (.tmp 13),none⟩])
 (.seq (.ops [⟨(some 14),.mov (.tmp 6),none⟩,
  ⟨(some 2),.mov (.tmp 14),none⟩])
 .ret)))
def a179 : AFunc:=⟨1,c179,[.tmp 2]⟩
theorem k179 : cFunc Tryz.prog Tryz.f179=some a179:=by kernel_rfl
/- 180: tendril/pack.Count -/
def c180 : ACode:=(.seq (.ops [⟨(some 2),.mov (.con (.int .i64 0)),none⟩])
 (.seq (.seq (.ops [⟨(some 3),.mov (.tmp 0),none⟩,
  ⟨(some 4),.bin .leq (.tmp 3) (.con (.int .i64 0)),none⟩])
 (.cond (.tmp 4)
 (.seq (.ops [⟨(some 2),.mov (.con (.int .i64 0)),none⟩])
 .ret)
 .skip))
 (.seq (.ops [⟨(some 5),.mov (.tmp 0),none⟩,
  ⟨(some 6),.bin .sub (.tmp 5) (.con (.int .i64 1)),none⟩,
  ⟨(some 7),.bin .quo (.tmp 6) (.con (.int .i64 8)),none⟩,
  ⟨(some 8),.bin .add (.tmp 7) (.con (.int .i64 1)),none⟩,
  ⟨(some 2),.mov (.tmp 8),none⟩])
 .ret)))
def a180 : AFunc:=⟨1,c180,[.tmp 2]⟩
theorem k180 : cFunc Tryz.prog Tryz.f180=some a180:=by kernel_rfl
/- 438: (tendril/pool.least).Less -/
def c438 : ACode:=(.seq (.ops [⟨(some 6),.mov (.con (.bool false)),none⟩])
 (.seq (.ops [⟨(some 7),.mov (.tmp 0),none⟩,
  ⟨(some 8),.mov (.tmp 1),none⟩,
  ⟨(some 9),.idxAddr 1 (.tmp 7) (.tmp 8),none⟩,
  ⟨(some 10),.load false 1 (.tmp 9),none⟩,
  ⟨(some 11),.mov (.tmp 0),none⟩,
  ⟨(some 12),.mov (.tmp 2),none⟩,
  ⟨(some 13),.idxAddr 1 (.tmp 11) (.tmp 12),none⟩,
  ⟨(some 14),.load false 1 (.tmp 13),none⟩,
  ⟨(some 15),.bin .lss (.tmp 10) (.tmp 14),none⟩,
  ⟨(some 6),.mov (.tmp 15),none⟩])
 .ret))
def a438 : AFunc:=⟨3,c438,[.tmp 6]⟩
theorem k438 : cFunc Tryz.prog Tryz.f438=some a438:=by kernel_rfl
/- 201: (*tendril/arena.Arena).Swap -/
def c201 : ACode:=(.seq (.ops [⟨(some 8),.mov (.con (.bool false)),none⟩,
  ⟨(some 9),.mov (.con (.int .i64 0)),none⟩])
 (.seq (.ops [⟨(some 13),.mov (.tmp 0),none⟩,
  ⟨(some 14),.mov (.tmp 1),none⟩,
  ⟨(some 15),.call 243 [(.tmp 13),(.tmp 14)],none⟩,
  ⟨(some 12),.mov (.tmp 15),none⟩,
  ⟨(some 16),.extract (.tmp 12) 0,none⟩,
  ⟨(some 17),.extract (.tmp 12) 1,none⟩,
  ⟨(some 10),.mov (.tmp 16),none⟩,
  ⟨(some 11),.mov (.tmp 17),none⟩])
 (.seq (.seq (.ops [⟨(some 18),.mov (.tmp 11),none⟩,
  ⟨(some 19),.bin .neq (.tmp 18) (.con (.int .i64 0)),none⟩])
 (.cond (.tmp 19)
 (.seq (.ops [⟨(some 20),.mov (.tmp 11),none⟩,
  ⟨(some 8),.mov (.con (.bool false)),none⟩,
  ⟨(some 9),.mov (.tmp 20),none⟩])
 .ret)
 .skip))
 (.seq (.seq (.ops [⟨(some 21),.mov (.tmp 3),none⟩,
  ⟨(some 22),.lenSlice (.tmp 21),none⟩,
  ⟨(some 23),.mov (.tmp 10),none⟩,
  ⟨(some 24),.nilChk (.tmp 23),none⟩,
  ⟨(some 25),.fieldAddr 3 (.tmp 24),none⟩,
  ⟨(some 26),.load false 1 (.tmp 25),none⟩,
  ⟨(some 27),.lenSlice (.tmp 26),none⟩,
  ⟨(some 28),.bin .gtr (.tmp 22) (.tmp 27),none⟩])
 (.cond (.tmp 28)
 (.seq (.ops [⟨(some 8),.mov (.con (.bool false)),none⟩,
  ⟨(some 9),.mov (.con (.int .i64 1)),none⟩])
 .ret)
 .skip))
 (.seq (.seq (.ops [⟨(some 29),.mov (.tmp 10),none⟩,
  ⟨(some 30),.nilChk (.tmp 29),none⟩,
  ⟨(some 31),.fieldAddr 3 (.tmp 30),none⟩,
  ⟨(some 32),.load false 1 (.tmp 31),none⟩,
  ⟨(some 33),.idxAddr 1 (.tmp 32) (.con (.int .i64 0)),none⟩,
  ⟨(some 34),.load false 1 (.tmp 33),none⟩,
  ⟨(some 35),.mov (.tmp 2),none⟩,
  ⟨(some 36),.bin .neq (.tmp 34) (.tmp 35),none⟩])
 (.cond (.tmp 36)
 (.seq (.ops [⟨(some 8),.mov (.con (.bool false)),none⟩,
  ⟨(some 9),.mov (.con (.int .i64 0)),none⟩])
 .ret)
 .skip))
 (.seq (.ops [⟨(some 37),.mov (.tmp 10),none⟩,
  ⟨(some 38),.mov (.tmp 3),none⟩,
  ⟨(some 39),.call 126 [(.tmp 37),(.tmp 38)],none⟩])
 (.seq (.ops [⟨(some 8),.mov (.con (.bool true)),none⟩,
  ⟨(some 9),.mov (.con (.int .i64 0)),none⟩])
 .ret)))))))
def a201 : AFunc:=⟨4,c201,[.tmp 8,.tmp 9]⟩
theorem k201 : cFunc Tryz.prog Tryz.f201=some a201:=by kernel_rfl
/- 439: (tendril/pool.least).Swap -/
def c439 : ACode:=(.ops [⟨(some 6),.mov (.tmp 0),none⟩,
  ⟨(some 7),.mov (.tmp 1),none⟩,
  ⟨(some 8),.mov (.tmp 0),none⟩,
  ⟨(some 9),.mov (.tmp 2),none⟩,
  ⟨(some 10),.mov (.tmp 0),none⟩,
  ⟨(some 11),.mov (.tmp 2),none⟩,
  ⟨(some 12),.idxAddr 1 (.tmp 10) (.tmp 11),none⟩,
  ⟨(some 13),.load false 1 (.tmp 12),none⟩,
  ⟨(some 14),.mov (.tmp 0),none⟩,
  ⟨(some 15),.mov (.tmp 1),none⟩,
  ⟨(some 16),.idxAddr 1 (.tmp 14) (.tmp 15),none⟩,
  ⟨(some 17),.load false 1 (.tmp 16),none⟩,
  ⟨(some 18),.idxAddr 1 (.tmp 6) (.tmp 7),none⟩,
  ⟨none,.store 1 (.tmp 18) (.tmp 13),none⟩,
  ⟨(some 19),.idxAddr 1 (.tmp 8) (.tmp 9),none⟩,
  ⟨none,.store 1 (.tmp 19) (.tmp 17),none⟩])
def a439 : AFunc:=⟨3,c439,[]⟩
theorem k439 : cFunc Tryz.prog Tryz.f439=some a439:=by kernel_rfl
/- 181: tendril/term.Key -/
def c181 : ACode:=(.seq (.ops [⟨(some 2),.mov (.con (.str [])),none⟩])
 (.seq (.seq (.ops [⟨(some 3),.mov (.tmp 0),none⟩,
  ⟨(some 4),.call 42 [(.tmp 3)],none⟩,
  ⟨(some 5),.un .not (.tmp 4),none⟩])
 (.cond (.tmp 5)
 (.seq (.ops [⟨(some 2),.mov (.con (.str [])),none⟩])
 .ret)
 .skip))
 (.seq (.ops [⟨(some 6),.mov (.tmp 0),none⟩,
  ⟨(some 7),.bin .add (.tmp 6) (.con (.str [0])),none⟩,
  ⟨(some 2),.mov (.tmp 7),none⟩])
 .ret)))
def a181 : AFunc:=⟨1,c181,[.tmp 2]⟩
theorem k181 : cFunc Tryz.prog Tryz.f181=some a181:=by kernel_rfl
/- 182: (*tendril/get.Get).wants -/
def c182 : ACode:=(.seq (.ops [⟨(some 4),.box (.tmp 1),none⟩])
 (.ops [⟨(some 6),.mov (.tmp 0),none⟩,
  ⟨(some 7),.mov (.tmp 0),none⟩,
  ⟨(some 8),.load true 6 (.tmp 4),none⟩,
  ⟨(some 9),.mov (.tmp 2),none⟩,
  ⟨(some 10),.nilChk (.tmp 6),none⟩,
  ⟨(some 11),.fieldAddr 3 (.tmp 10),none⟩,
  ⟨none,.store 6 (.tmp 11) (.tmp 8),none⟩,
  ⟨(some 12),.nilChk (.tmp 7),none⟩,
  ⟨(some 13),.fieldAddr 9 (.tmp 12),none⟩,
  ⟨none,.store 1 (.tmp 13) (.tmp 9),none⟩]))
def a182 : AFunc:=⟨3,c182,[]⟩
theorem k182 : cFunc Tryz.prog Tryz.f182=some a182:=by kernel_rfl
/- 183: (*tendril/get.Get).atEpoch -/
def c183 : ACode:=(.seq (.ops [⟨(some 3),.box (.tmp 1),none⟩])
 (.ops [⟨(some 4),.mov (.tmp 0),none⟩,
  ⟨(some 5),.fieldAddr 1 (.tmp 3),none⟩,
  ⟨(some 6),.load false 1 (.tmp 5),none⟩,
  ⟨(some 7),.build [(.int .i64 0),(.int .i64 0),(.int .i64 0),(.int .i64 0),(.int .u64 0),.nilSlice] [(0,1,(.con (.int .i64 8))),(3,1,(.tmp 6))],none⟩,
  ⟨(some 8),.call 182 [(.tmp 4),(.tmp 7),(.con (.func (.func 225) [] []))],none⟩]))
def a183 : AFunc:=⟨2,c183,[]⟩
theorem k183 : cFunc Tryz.prog Tryz.f183=some a183:=by kernel_rfl
/- 172: container/heap.down -/
def c172l0 : ACode:=(.block 1 (.seq (.ops [⟨(some 12),.mov (.tmp 7),none⟩,
  ⟨(some 13),.bin .mul (.con (.int .i64 2)) (.tmp 12),none⟩,
  ⟨(some 14),.bin .add (.tmp 13) (.con (.int .i64 1)),none⟩,
  ⟨(some 8),.mov (.tmp 14),none⟩])
 (.seq (.seq (.ops [⟨(some 15),.mov (.tmp 8),none⟩,
  ⟨(some 16),.mov (.tmp 2),none⟩,
  ⟨(some 17),.bin .geq (.tmp 15) (.tmp 16),none⟩,
  ⟨(some 18),.mov (.tmp 17),none⟩,
  ⟨(some 19),.mov (.tmp 8),(some (18,false))⟩,
  ⟨(some 20),.bin .lss (.tmp 19) (.con (.int .i64 0)),(some (18,false))⟩,
  ⟨(some 21),.pick (.tmp 18) (.con (.bool true)) (.tmp 20),none⟩])
 (.cond (.tmp 21)
 (.exit 0)
 .skip))
 (.seq (.ops [⟨(some 22),.mov (.tmp 8),none⟩,
  ⟨(some 9),.mov (.tmp 22),none⟩])
 (.seq (.seq (.ops [⟨(some 23),.mov (.tmp 8),none⟩,
  ⟨(some 24),.bin .add (.tmp 23) (.con (.int .i64 1)),none⟩,
  ⟨(some 10),.mov (.tmp 24),none⟩])
 (.seq (.ops [⟨(some 25),.mov (.tmp 10),none⟩,
  ⟨(some 26),.mov (.tmp 2),none⟩,
  ⟨(some 27),.bin .lss (.tmp 25) (.tmp 26),none⟩,
  ⟨(some 28),.mov (.tmp 27),none⟩,
  ⟨(some 29),.mov (.tmp 0),(some (28,true))⟩,
  ⟨(some 30),.mov (.tmp 10),(some (28,true))⟩,
  ⟨(some 31),.mov (.tmp 8),(some (28,true))⟩,
  ⟨(some 32),.callM [(122,433,(.deref false 1)),(146,438,.self),(151,438,(.deref false 1)),(192,433,.self)] (.tmp 29) [(.tmp 30),(.tmp 31)],(some (28,true))⟩,
  ⟨(some 33),.pick (.tmp 28) (.tmp 32) (.con (.bool false)),none⟩])
 (.cond (.tmp 33)
 (.ops [⟨(some 34),.mov (.tmp 10),none⟩,
  ⟨(some 9),.mov (.tmp 34),none⟩])
 .skip)))
 (.seq (.seq (.ops [⟨(some 35),.mov (.tmp 0),none⟩,
  ⟨(some 36),.mov (.tmp 9),none⟩,
  ⟨(some 37),.mov (.tmp 7),none⟩,
  ⟨(some 38),.callM [(122,433,(.deref false 1)),(146,438,.self),(151,438,(.deref false 1)),(192,433,.self)] (.tmp 35) [(.tmp 36),(.tmp 37)],none⟩,
  ⟨(some 39),.un .not (.tmp 38),none⟩])
 (.cond (.tmp 39)
 (.exit 0)
 .skip))
 (.seq (.ops [⟨(some 40),.mov (.tmp 0),none⟩,
  ⟨(some 41),.mov (.tmp 7),none⟩,
  ⟨(some 42),.mov (.tmp 9),none⟩,
  ⟨(some 43),.callM [(116,201,.self),(122,436,(.deref false 1)),(146,439,.self),(151,439,(.deref false 1)),(192,436,.self)] (.tmp 40) [(.tmp 41),(.tmp 42)],none⟩])
 (.ops [⟨(some 44),.mov (.tmp 9),none⟩,
  ⟨(some 7),.mov (.tmp 44),none⟩]))))))))
def c172 : ACode:=(.seq (.ops [⟨(some 6),.mov (.con (.bool false)),none⟩])
 (.seq (.ops [⟨(some 11),.mov (.tmp 1),none⟩,
  ⟨(some 7),.mov (.tmp 11),none⟩])
 (.seq (.block 0 (.loop c172l0))
 (.seq (.ops [⟨(some 45),.mov (.tmp 7),none⟩,
  ⟨(some 46),.mov (.tmp 1),none⟩,
  ⟨(some 47),.bin .gtr (.tmp 45) (.tmp 46),none⟩,
  ⟨(some 6),.mov (.tmp 47),none⟩])
 .ret))))
def a172 : AFunc:=⟨3,c172,[.tmp 6]⟩
theorem k172 : cFunc Tryz.prog Tryz.f172=some a172:=by kernel_rfl
/- 434: (*tendril/merge.rows).Pop -/
def c434 : ACode:=(.seq (.ops [⟨(some 2),.mov (.con .nilIface),none⟩])
 (.seq (.ops [⟨(some 5),.mov (.tmp 0),none⟩,
  ⟨(some 6),.nilChk (.tmp 5),none⟩,
  ⟨(some 7),.load false 1 (.tmp 6),none⟩,
  ⟨(some 8),.lenSlice (.tmp 7),none⟩,
  ⟨(some 9),.bin .sub (.tmp 8) (.con (.int .i64 1)),none⟩,
  ⟨(some 3),.mov (.tmp 9),none⟩])
 (.seq (.ops [⟨(some 10),.mov (.tmp 0),none⟩,
  ⟨(some 11),.nilChk (.tmp 10),none⟩,
  ⟨(some 12),.load false 1 (.tmp 11),none⟩,
  ⟨(some 13),.mov (.tmp 3),none⟩,
  ⟨(some 14),.idxAddr 1 (.tmp 12) (.tmp 13),none⟩,
  ⟨(some 15),.load false 1 (.tmp 14),none⟩,
  ⟨(some 4),.mov (.tmp 15),none⟩])
 (.seq (.ops [⟨(some 16),.mov (.tmp 0),none⟩,
  ⟨(some 17),.mov (.tmp 0),none⟩,
  ⟨(some 18),.nilChk (.tmp 17),none⟩,
  ⟨(some 19),.load false 1 (.tmp 18),none⟩,
  ⟨(some 20),.mov (.tmp 3),none⟩,
  ⟨(some 21),.slc 1 (.tmp 19) none (some (.tmp 20)) none,none⟩,
  ⟨(some 22),.nilChk (.tmp 16),none⟩,
  ⟨none,.store 1 (.tmp 22) (.tmp 21),none⟩])
 (.seq (.ops [⟨(some 23),.mov (.tmp 4),none⟩,
  ⟨(some 24),.mkIface 33 (.tmp 23),none⟩,
  ⟨(some 2),.mov (.tmp 24),none⟩])
 .ret)))))
def a434 : AFunc:=⟨1,c434,[.tmp 2]⟩
theorem k434 : cFunc Tryz.prog Tryz.f434=some a434:=by kernel_rfl
/- 440: (*tendril/pool.least).Pop -/
def c440 : ACode:=(.seq (.ops [⟨(some 2),.mov (.con .nilIface),none⟩])
 (.seq (.ops [⟨(some 5),.mov (.tmp 0),none⟩,
  ⟨(some 6),.nilChk (.tmp 5),none⟩,
  ⟨(some 7),.load false 1 (.tmp 6),none⟩,
  ⟨(some 8),.lenSlice (.tmp 7),none⟩,
  ⟨(some 9),.bin .sub (.tmp 8) (.con (.int .i64 1)),none⟩,
  ⟨(some 3),.mov (.tmp 9),none⟩])
 (.seq (.ops [⟨(some 10),.mov (.tmp 0),none⟩,
  ⟨(some 11),.nilChk (.tmp 10),none⟩,
  ⟨(some 12),.load false 1 (.tmp 11),none⟩,
  ⟨(some 13),.mov (.tmp 3),none⟩,
  ⟨(some 14),.idxAddr 1 (.tmp 12) (.tmp 13),none⟩,
  ⟨(some 15),.load false 1 (.tmp 14),none⟩,
  ⟨(some 4),.mov (.tmp 15),none⟩])
 (.seq (.ops [⟨(some 16),.mov (.tmp 0),none⟩,
  ⟨(some 17),.mov (.tmp 0),none⟩,
  ⟨(some 18),.nilChk (.tmp 17),none⟩,
  ⟨(some 19),.load false 1 (.tmp 18),none⟩,
  ⟨(some 20),.mov (.tmp 3),none⟩,
  ⟨(some 21),.slc 1 (.tmp 19) none (some (.tmp 20)) none,none⟩,
  ⟨(some 22),.nilChk (.tmp 16),none⟩,
  ⟨none,.store 1 (.tmp 22) (.tmp 21),none⟩])
 (.seq (.ops [⟨(some 23),.mov (.tmp 4),none⟩,
  ⟨(some 24),.mkIface 3 (.tmp 23),none⟩,
  ⟨(some 2),.mov (.tmp 24),none⟩])
 .ret)))))
def a440 : AFunc:=⟨1,c440,[.tmp 2]⟩
theorem k440 : cFunc Tryz.prog Tryz.f440=some a440:=by kernel_rfl
/- 184: (*tendril/put.Put).wants -/
def c184 : ACode:=(.seq (.ops [⟨(some 4),.box (.tmp 1),none⟩])
 (.ops [⟨(some 6),.mov (.tmp 0),none⟩,
  ⟨(some 7),.mov (.tmp 0),none⟩,
  ⟨(some 8),.load true 6 (.tmp 4),none⟩,
  ⟨(some 9),.mov (.tmp 2),none⟩,
  ⟨(some 10),.nilChk (.tmp 6),none⟩,
  ⟨(some 11),.fieldAddr 7 (.tmp 10),none⟩,
  ⟨none,.store 6 (.tmp 11) (.tmp 8),none⟩,
  ⟨(some 12),.nilChk (.tmp 7),none⟩,
  ⟨(some 13),.fieldAddr 13 (.tmp 12),none⟩,
  ⟨none,.store 1 (.tmp 13) (.tmp 9),none⟩]))
def a184 : AFunc:=⟨3,c184,[]⟩
theorem k184 : cFunc Tryz.prog Tryz.f184=some a184:=by kernel_rfl
/- 185: (*tendril/put.Put).atEpoch -/
def c185 : ACode:=(.seq (.ops [⟨(some 3),.box (.tmp 1),none⟩])
 (.ops [⟨(some 4),.mov (.tmp 0),none⟩,
  ⟨(some 5),.fieldAddr 1 (.tmp 3),none⟩,
  ⟨(some 6),.load false 1 (.tmp 5),none⟩,
  ⟨(some 7),.build [(.int .i64 0),(.int .i64 0),(.int .i64 0),(.int .i64 0),(.int .u64 0),.nilSlice] [(0,1,(.con (.int .i64 8))),(3,1,(.tmp 6))],none⟩,
  ⟨(some 8),.call 184 [(.tmp 4),(.tmp 7),(.con (.func (.func 226) [] []))],none⟩]))
def a185 : AFunc:=⟨2,c185,[]⟩
theorem k185 : cFunc Tryz.prog Tryz.f185=some a185:=by kernel_rfl
/- 186: slices.Clone[[]uint64,uint64] -/
def c186 : ACode:=(.seq (.ops [⟨(some 2),.mov (.con .nilSlice),none⟩])
 (.seq (.seq (.ops [⟨(some 3),.mov (.tmp 0),none⟩,
  ⟨(some 4),.eqNil 1 false (.tmp 3) (.con .nilSlice),none⟩])
 (.cond (.tmp 4)
 (.seq (.ops [⟨(some 2),.mov (.con .nilSlice),none⟩])
 .ret)
 .skip))
 (.seq (.ops [⟨(some 5),.buildSlice 1 0 [] [],none⟩,
  ⟨(some 6),.mov (.tmp 0),none⟩,
  ⟨(some 7),.append 1 8 (.tmp 5) (.tmp 6),none⟩,
  ⟨(some 2),.mov (.tmp 7),none⟩])
 .ret)))
def a186 : AFunc:=⟨1,c186,[.tmp 2]⟩
theorem k186 : cFunc Tryz.prog Tryz.f186=some a186:=by kernel_rfl
/- 44: (*tendril/mem.Mem).Limbo -/
def c44 : ACode:=(.seq (.ops [⟨(some 4),.mov (.con (.int .i64 0)),none⟩])
 (.seq (.ops [⟨(some 5),.mov (.tmp 0),none⟩,
  ⟨(some 6),.nilChk (.tmp 5),none⟩,
  ⟨(some 7),.fieldAddr 1 (.tmp 6),none⟩,
  ⟨(some 8),.load false 1 (.tmp 7),none⟩,
  ⟨(some 9),.mov (.tmp 1),none⟩,
  ⟨(some 10),.call 81 [(.tmp 8),(.tmp 9)],none⟩,
  ⟨(some 4),.mov (.tmp 10),none⟩])
 .ret))
def a44 : AFunc:=⟨2,c44,[.tmp 4]⟩
theorem k44 : cFunc Tryz.prog Tryz.f44=some a44:=by kernel_rfl
/- 187: tendril/tick.New -/
def c187 : ACode:=(.seq (.ops [⟨(some 2),.box (.tmp 0),none⟩,
  ⟨(some 4),.mov (.con .nilPtr),none⟩,
  ⟨(some 5),.mov (.con (.int .i64 0)),none⟩])
 (.seq (.seq (.ops [⟨(some 7),.load true 4 (.tmp 2),none⟩,
  ⟨(some 8),.build [(.int .i64 0),(.str []),(.str []),(.int .i64 0)] [(0,1,(.con (.int .i64 5)))],none⟩,
  ⟨(some 9),.eqAgg [0,1,1,0] true (.tmp 7) (.tmp 8),none⟩,
  ⟨(some 10),.mov (.tmp 9),none⟩,
  ⟨(some 11),.mov (.tmp 1),(some (10,false))⟩,
  ⟨(some 12),.bin .lss (.tmp 11) (.con (.int .i64 1)),(some (10,false))⟩,
  ⟨(some 13),.pick (.tmp 10) (.con (.bool true)) (.tmp 12),none⟩,
  ⟨(some 14),.mov (.tmp 13),none⟩,
  ⟨(some 15),.mov (.tmp 1),(some (14,false))⟩,
  ⟨(some 16),.bin .gtr (.tmp 15) (.con (.int .i64 8)),(some (14,false))⟩,
  ⟨(some 17),.pick (.tmp 14) (.con (.bool true)) (.tmp 16),none⟩])
 (.cond (.tmp 17)
 (.seq (.ops [⟨(some 4),.mov (.con .nilPtr),none⟩,
  ⟨(some 5),.mov (.con (.int .i64 1)),none⟩])
 .ret)
 .skip))
 (.seq (.ops [⟨(some 18),.mov (.tmp 1),none⟩,
  ⟨(some 19),.build [(.int .i64 0),(.int .i64 0),(.int .i64 0),(.int .i64 0),(.int .i64 0),(.int .u64 0),.nilSlice,.nilFunc,(.int .i64 0),(.bool false)] [(0,1,(.tmp 18))],none⟩,
  ⟨(some 20),.box (.tmp 19),none⟩,
  ⟨(some 6),.mov (.tmp 20),none⟩])
 (.seq (.ops [⟨(some 21),.mov (.tmp 6),none⟩,
  ⟨(some 22),.build [(.int .i64 0),(.int .i64 0),(.int .i64 0),(.int .i64 0),(.int .u64 0),.nilSlice] [(0,1,(.con (.int .i64 7)))],none⟩,
  ⟨(some 23),.call 227 [(.tmp 21),(.tmp 22),(.con (.func (.func 228) [] []))],none⟩])
 (.seq (.ops [⟨(some 24),.mov (.tmp 6),none⟩,
  ⟨(some 4),.mov (.tmp 24),none⟩,
  ⟨(some 5),.mov (.con (.int .i64 0)),none⟩])
 .ret)))))
def a187 : AFunc:=⟨2,c187,[.tmp 4,.tmp 5]⟩
theorem k187 : cFunc Tryz.prog Tryz.f187=some a187:=by kernel_rfl
/- 188: (*tendril/tick.Tick).Next -/
def c188 : ACode:=(.seq (.ops [⟨(some 2),.new [(.int .i64 0),(.int .i64 0),(.int .i64 0),(.int .i64 0),(.int .u64 0),.nilSlice],none⟩,
  ⟨(some 3),.mov (.con (.bool false)),none⟩])
 (.seq (.seq (.ops [⟨(some 4),.mov (.tmp 0),none⟩,
  ⟨(some 5),.nilChk (.tmp 4),none⟩,
  ⟨(some 6),.fieldAddr 7 (.tmp 5),none⟩,
  ⟨(some 7),.load false 1 (.tmp 6),none⟩,
  ⟨(some 8),.eqNil 3 false (.tmp 7) (.con .nilFunc),none⟩])
 (.cond (.tmp 8)
 (.seq (.ops [⟨(some 9),.build [(.int .i64 0),(.int .i64 0),(.int .i64 0),(.int .i64 0),(.int .u64 0),.nilSlice] [],none⟩,
  ⟨none,.store 6 (.tmp 2) (.tmp 9),none⟩,
  ⟨(some 3),.mov (.con (.bool false)),none⟩])
 .ret)
 .skip))
 (.seq (.ops [⟨(some 10),.mov (.tmp 0),none⟩,
  ⟨(some 11),.nilChk (.tmp 10),none⟩,
  ⟨(some 12),.fieldAddr 1 (.tmp 11),none⟩,
  ⟨(some 13),.load true 6 (.tmp 12),none⟩,
  ⟨none,.store 6 (.tmp 2) (.tmp 13),none⟩,
  ⟨(some 3),.mov (.con (.bool true)),none⟩])
 .ret)))
def a188 : AFunc:=⟨1,c188,[.cell 2 true 6,.tmp 3]⟩
theorem k188 : cFunc Tryz.prog Tryz.f188=some a188:=by kernel_rfl
/- 189: (*tendril/tick.Tick).Got -/
def c189 : ACode:=(.seq (.ops [⟨(some 3),.box (.tmp 1),none⟩])
 (.seq (.ops [⟨(some 4),.mov (.tmp 0),none⟩,
  ⟨(some 5),.nilChk (.tmp 4),none⟩,
  ⟨(some 6),.fieldAddr 9 (.tmp 5),none⟩,
  ⟨none,.store 1 (.tmp 6) (.con (.bool false)),none⟩])
 (.seq (.ops [⟨(some 7),.mov (.tmp 0),none⟩,
  ⟨(some 8),.nilChk (.tmp 7),none⟩,
  ⟨(some 9),.fieldAddr 7 (.tmp 8),none⟩,
  ⟨(some 10),.load false 1 (.tmp 9),none⟩,
  ⟨(some 11),.eqNil 3 true (.tmp 10) (.con .nilFunc),none⟩])
 (.cond (.tmp 11)
 (.ops [⟨(some 12),.mov (.tmp 0),none⟩,
  ⟨(some 13),.nilChk (.tmp 12),none⟩,
  ⟨(some 14),.fieldAddr 7 (.tmp 13),none⟩,
  ⟨(some 15),.load false 1 (.tmp 14),none⟩,
  ⟨(some 16),.mov (.tmp 0),none⟩,
  ⟨(some 17),.load true 4 (.tmp 3),none⟩,
  ⟨(some 18),.callV (.tmp 15) [(.tmp 16),(.tmp 17)],none⟩])
 .skip))))
def a189 : AFunc:=⟨2,c189,[]⟩
theorem k189 : cFunc Tryz.prog Tryz.f189=some a189:=by kernel_rfl
/- 190: (tendril/posting.List).block -/
def c190 : ACode:=(.seq (.ops [⟨(some 2),.box (.tmp 0),none⟩,
  ⟨(some 4),.mov (.con (.int .i64 0)),none⟩])
 (.seq (.ops [⟨(some 8),.fieldAddr 0 (.tmp 2),none⟩,
  ⟨(some 9),.load false 1 (.tmp 8),none⟩,
  ⟨(some 10),.mov (.tmp 1),none⟩,
  ⟨(some 11),.call 229 [(.tmp 9),(.tmp 10),(.con (.func (.func 230) [] []))],none⟩,
  ⟨(some 7),.mov (.tmp 11),none⟩,
  ⟨(some 12),.extract (.tmp 7) 0,none⟩,
  ⟨(some 13),.extract (.tmp 7) 1,none⟩,
  ⟨(some 5),.mov (.tmp 12),none⟩,
  ⟨(some 6),.mov (.tmp 13),none⟩])
 (.seq (.ops [⟨(some 14),.mov (.tmp 5),none⟩,
  ⟨(some 15),.bin .sub (.tmp 14) (.con (.int .i64 1)),none⟩,
  ⟨(some 16),.mnx true [(.tmp 15),(.con (.int .i64 0))],none⟩,
  ⟨(some 4),.mov (.tmp 16),none⟩])
 .ret)))
def a190 : AFunc:=⟨2,c190,[.tmp 4]⟩
theorem k190 : cFunc Tryz.prog Tryz.f190=some a190:=by kernel_rfl
/- 113: slices.BinarySearch[[]int,int] -/
def c113l0 : ACode:=(.seq (.seq (.ops [⟨(some 13),.mov (.tmp 7),none⟩,
  ⟨(some 14),.mov (.tmp 8),none⟩,
  ⟨(some 15),.bin .lss (.tmp 13) (.tmp 14),none⟩])
 (.cond (.tmp 15)
 .skip
 (.exit 0)))
 (.block 1 (.seq (.ops [⟨(some 16),.mov (.tmp 7),none⟩,
  ⟨(some 17),.mov (.tmp 8),none⟩,
  ⟨(some 18),.bin .add (.tmp 16) (.tmp 17),none⟩,
  ⟨(some 19),.toInt .u64 (.tmp 18),none⟩,
  ⟨(some 20),.bin .shr (.tmp 19) (.con (.int .u64 1)),none⟩,
  ⟨(some 21),.toInt .i64 (.tmp 20),none⟩,
  ⟨(some 9),.mov (.tmp 21),none⟩])
 (.seq (.ops [⟨(some 22),.mov (.tmp 0),none⟩,
  ⟨(some 23),.mov (.tmp 9),none⟩,
  ⟨(some 24),.idxAddr 1 (.tmp 22) (.tmp 23),none⟩,
  ⟨(some 25),.load false 1 (.tmp 24),none⟩,
  ⟨(some 26),.mov (.tmp 1),none⟩,
  ⟨(some 27),.call 170 [(.tmp 25),(.tmp 26)],none⟩])
 (.cond (.tmp 27)
 (.ops [⟨(some 28),.mov (.tmp 9),none⟩,
  ⟨(some 29),.bin .add (.tmp 28) (.con (.int .i64 1)),none⟩,
  ⟨(some 7),.mov (.tmp 29),none⟩])
 (.ops [⟨(some 30),.mov (.tmp 9),none⟩,
  ⟨(some 8),.mov (.tmp 30),none⟩]))))))
def c113 : ACode:=(.seq (.ops [⟨(some 4),.mov (.con (.int .i64 0)),none⟩,
  ⟨(some 5),.mov (.con (.bool false)),none⟩])
 (.seq (.ops [⟨(some 10),.mov (.tmp 0),none⟩,
  ⟨(some 11),.lenSlice (.tmp 10),none⟩,
  ⟨(some 6),.mov (.tmp 11),none⟩])
 (.seq (.ops [⟨(some 12),.mov (.tmp 6),none⟩,
  ⟨(some 7),.mov (.con (.int .i64 0)),none⟩,
  ⟨(some 8),.mov (.tmp 12),none⟩])
 (.seq (.block 0 (.loop c113l0))
 (.seq (.ops [⟨(some 31),.mov (.tmp 7),none⟩,
  ⟨(some 32),.mov (.tmp 7),none⟩,
  ⟨(some 33),.mov (.tmp 6),none⟩,
  ⟨(some 34),.bin .lss (.tmp 32) (.tmp 33),none⟩,
  ⟨(some 35),.mov (.tmp 34),none⟩,
  ⟨(some 36),.mov (.tmp 0),(some (35,true))⟩,
  ⟨(some 37),.mov (.tmp 7),(some (35,true))⟩,
  ⟨(some 38),.idxAddr 1 (.tmp 36) (.tmp 37),(some (35,true))⟩,
  ⟨(some 39),.load false 1 (.tmp 38),(some (35,true))⟩,
  ⟨(some 40),.mov (.tmp 1),(some (35,true))⟩,
  ⟨(some 41),.bin .eql (.tmp 39) (.tmp 40),(some (35,true))⟩,
  ⟨(some 42),.mov (.tmp 41),(some (35,true))⟩,
  ⟨(some 43),.mov (.tmp 0),(some (42,false))⟩,
  ⟨(some 44),.mov (.tmp 7),(some (42,false))⟩,
  ⟨(some 45),.idxAddr 1 (.tmp 43) (.tmp 44),(some (42,false))⟩,
  ⟨(some 46),.load false 1 (.tmp 45),(some (42,false))⟩,
  ⟨(some 47),.call 171 [(.tmp 46)],(some (42,false))⟩,
  ⟨(some 48),.mov (.tmp 47),(some (42,false))⟩,
  ⟨(some 49),.mov (.tmp 1),(some (48,true))⟩,
  ⟨(some 50),.call 171 [(.tmp 49)],(some (48,true))⟩,
  ⟨(some 51),.pick (.tmp 48) (.tmp 50) (.con (.bool false)),(some (42,false))⟩,
  ⟨(some 52),.pick (.tmp 42) (.con (.bool true)) (.tmp 51),(some (35,true))⟩,
  ⟨(some 53),.pick (.tmp 35) (.tmp 52) (.con (.bool false)),none⟩,
  ⟨(some 4),.mov (.tmp 31),none⟩,
  ⟨(some 5),.mov (.tmp 53),none⟩])
 .ret)))))
def a113 : AFunc:=⟨2,c113,[.tmp 4,.tmp 5]⟩
theorem k113 : cFunc Tryz.prog Tryz.f113=some a113:=by kernel_rfl
/- 193: slices.Concat[[][]int,[]int] -/
def c193l0 : ACode:=(.seq (.ops [⟨(some 12),.bin .lss (.tmp 11) (.tmp 10),none⟩])
 (.seq (.cond (.tmp 12)
 .skip
 (.exit 0))
 (.seq (.block 1 (.seq (.ops [⟨(some 13),.idxAddr 1 (.tmp 9) (.tmp 11),none⟩,
  ⟨(some 14),.load false 1 (.tmp 13),none⟩,
  ⟨(some 5),.mov (.tmp 14),none⟩])
 (.seq (.ops [⟨(some 15),.mov (.tmp 3),none⟩,
  ⟨(some 16),.mov (.tmp 5),none⟩,
  ⟨(some 17),.lenSlice (.tmp 16),none⟩,
  ⟨(some 18),.bin .add (.tmp 15) (.tmp 17),none⟩,
  ⟨(some 3),.mov (.tmp 18),none⟩])
 (.seq (.ops [⟨(some 19),.mov (.tmp 3),none⟩,
  ⟨(some 20),.bin .lss (.tmp 19) (.con (.int .i64 0)),none⟩])
 (.cond (.tmp 20)
 (.ops [⟨(some 21),.mkIface 9 (.con (.str [108,101,110,32,111,117,116,32,111,102,32,114,97,110,103,101])),none⟩,
  ⟨none,.stuck,none⟩])
 .skip)))))
 (.ops [⟨(some 22),.bin .add (.tmp 11) (.con (.int .i64 1)),none⟩,
  ⟨(some 11),.mov (.tmp 22),none⟩]))))
def c193l1 : ACode:=(.seq (.ops [⟨(some 28),.bin .lss (.tmp 27) (.tmp 26),none⟩])
 (.seq (.cond (.tmp 28)
 .skip
 (.exit 2))
 (.seq (.block 3 (.seq (.ops [⟨(some 29),.idxAddr 1 (.tmp 25) (.tmp 27),none⟩,
  ⟨(some 30),.load false 1 (.tmp 29),none⟩,
  ⟨(some 8),.mov (.tmp 30),none⟩])
 (.ops [⟨(some 31),.mov (.tmp 6),none⟩,
  ⟨(some 32),.mov (.tmp 8),none⟩,
  ⟨(some 33),.append 1 24 (.tmp 31) (.tmp 32),none⟩,
  ⟨(some 6),.mov (.tmp 33),none⟩])))
 (.ops [⟨(some 34),.bin .add (.tmp 27) (.con (.int .i64 1)),none⟩,
  ⟨(some 27),.mov (.tmp 34),none⟩]))))
def c193 : ACode:=(.seq (.ops [⟨(some 2),.mov (.con .nilSlice),none⟩])
 (.seq (.ops [⟨(some 3),.mov (.con (.int .i64 0)),none⟩])
 (.seq (.seq (.ops [⟨(some 9),.mov (.tmp 0),none⟩,
  ⟨(some 10),.lenSlice (.tmp 9),none⟩,
  ⟨(some 11),.mov (.con (.int .i64 0)),none⟩])
 (.block 0 (.loop c193l0)))
 (.seq (.ops [⟨(some 23),.mov (.tmp 3),none⟩,
  ⟨(some 24),.call 232 [(.con .nilSlice),(.tmp 23)],none⟩,
  ⟨(some 6),.mov (.tmp 24),none⟩])
 (.seq (.seq (.ops [⟨(some 25),.mov (.tmp 0),none⟩,
  ⟨(some 26),.lenSlice (.tmp 25),none⟩,
  ⟨(some 27),.mov (.con (.int .i64 0)),none⟩])
 (.block 2 (.loop c193l1)))
 (.seq (.ops [⟨(some 35),.mov (.tmp 6),none⟩,
  ⟨(some 2),.mov (.tmp 35),none⟩])
 .ret))))))
def a193 : AFunc:=⟨1,c193,[.tmp 2]⟩
theorem k193 : cFunc Tryz.prog Tryz.f193=some a193:=by kernel_rfl
/- 195: slices.Grow[[]int,int] -/
def c195 : ACode:=(.seq (.ops [⟨(some 4),.mov (.con .nilSlice),none⟩])
 (.seq (.seq (.ops [⟨(some 5),.mov (.tmp 1),none⟩,
  ⟨(some 6),.bin .lss (.tmp 5) (.con (.int .i64 0)),none⟩])
 (.cond (.tmp 6)
 (.ops [⟨(some 7),.mkIface 9 (.con (.str [99,97,110,110,111,116,32,98,101,32,110,101,103,97,116,105,118,101])),none⟩,
  ⟨none,.stuck,none⟩])
 .skip))
 (.seq (.seq (.ops [⟨(some 8),.mov (.tmp 1),none⟩,
  ⟨(some 9),.mov (.tmp 0),none⟩,
  ⟨(some 10),.capSlice (.tmp 9),none⟩,
  ⟨(some 11),.mov (.tmp 0),none⟩,
  ⟨(some 12),.lenSlice (.tmp 11),none⟩,
  ⟨(some 13),.bin .sub (.tmp 10) (.tmp 12),none⟩,
  ⟨(some 14),.bin .sub (.tmp 8) (.tmp 13),none⟩,
  ⟨(some 1),.mov (.tmp 14),none⟩])
 (.seq (.ops [⟨(some 15),.mov (.tmp 1),none⟩,
  ⟨(some 16),.bin .gtr (.tmp 15) (.con (.int .i64 0)),none⟩])
 (.cond (.tmp 16)
 (.ops [⟨(some 17),.mov (.tmp 0),none⟩,
  ⟨(some 18),.mov (.tmp 0),none⟩,
  ⟨(some 19),.capSlice (.tmp 18),none⟩,
  ⟨(some 20),.slc 1 (.tmp 17) none (some (.tmp 19)) none,none⟩,
  ⟨(some 21),.mov (.tmp 1),none⟩,
  ⟨(some 22),.appendZ 1 8 [(.int .i64 0)] (.tmp 20) (.tmp 21),none⟩,
  ⟨(some 23),.mov (.tmp 0),none⟩,
  ⟨(some 24),.lenSlice (.tmp 23),none⟩,
  ⟨(some 25),.slc 1 (.tmp 22) none (some (.tmp 24)) none,none⟩,
  ⟨(some 0),.mov (.tmp 25),none⟩])
 .skip)))
 (.seq (.ops [⟨(some 26),.mov (.tmp 0),none⟩,
  ⟨(some 4),.mov (.tmp 26),none⟩])
 .ret))))
def a195 : AFunc:=⟨2,c195,[.tmp 4]⟩
theorem k195 : cFunc Tryz.prog Tryz.f195=some a195:=by kernel_rfl
/- 196: (*tendril/query.reader).factor -/
def c196 : ACode:=(.seq (.ops [⟨(some 4),.mov (.tmp 0),none⟩,
  ⟨(some 5),.nilChk (.tmp 4),none⟩,
  ⟨(some 6),.fieldAddr 1 (.tmp 5),none⟩,
  ⟨(some 7),.load false 1 (.tmp 6),none⟩,
  ⟨(some 8),.bin .add (.tmp 7) (.con (.int .i64 1)),none⟩,
  ⟨(some 9),.nilChk (.tmp 4),none⟩,
  ⟨(some 10),.fieldAddr 1 (.tmp 9),none⟩,
  ⟨none,.store 1 (.tmp 10) (.tmp 8),none⟩])
 (.seq (.seq (.ops [⟨(some 11),.mov (.tmp 0),none⟩,
  ⟨(some 12),.nilChk (.tmp 11),none⟩,
  ⟨(some 13),.fieldAddr 1 (.tmp 12),none⟩,
  ⟨(some 14),.load false 1 (.tmp 13),none⟩,
  ⟨(some 15),.bin .gtr (.tmp 14) (.con (.int .i64 64)),none⟩])
 (.cond (.tmp 15)
 (.ops [⟨(some 16),.mov (.tmp 0),none⟩,
  ⟨(some 17),.call 99 [(.tmp 16),(.con (.int .i64 11))],none⟩])
 .skip))
 (.seq (.seq (.ops [⟨(some 18),.mov (.tmp 0),none⟩,
  ⟨(some 19),.nilChk (.tmp 18),none⟩,
  ⟨(some 20),.fieldAddr 3 (.tmp 19),none⟩,
  ⟨(some 21),.load false 1 (.tmp 20),none⟩,
  ⟨(some 22),.bin .neq (.tmp 21) (.con (.int .i64 0)),none⟩])
 (.cond (.tmp 22)
 .ret
 .skip))
 (.seq (.seq (.ops [⟨(some 24),.mov (.tmp 0),none⟩,
  ⟨(some 25),.call 98 [(.tmp 24)],none⟩,
  ⟨(some 23),.mov (.tmp 25),none⟩,
  ⟨(some 26),.extract (.tmp 23) 0,none⟩,
  ⟨(some 27),.extract (.tmp 23) 1,none⟩,
  ⟨(some 2),.mov (.tmp 26),none⟩,
  ⟨(some 3),.mov (.tmp 27),none⟩])
 (.block 0 (.seq (.ops [⟨(some 31),.mov (.tmp 0),none⟩,
  ⟨(some 32),.call 148 [(.tmp 31),(.con (.int .u8 33))],none⟩,
  ⟨(some 30),.mov (.tmp 32),none⟩])
 (.cond (.tmp 30)
 (.seq (.ops [⟨(some 33),.mov (.tmp 0),none⟩,
  ⟨(some 34),.call 196 [(.tmp 33)],none⟩])
 (.ops [⟨(some 35),.mov (.tmp 0),none⟩,
  ⟨(some 36),.call 149 [(.tmp 35),(.con (.int .i64 4)),(.con (.str []))],none⟩]))
 (.seq (.ops [⟨(some 38),.mov (.tmp 0),none⟩,
  ⟨(some 39),.call 148 [(.tmp 38),(.con (.int .u8 40))],none⟩,
  ⟨(some 37),.mov (.tmp 39),none⟩])
 (.cond (.tmp 37)
 (.seq (.ops [⟨(some 40),.mov (.tmp 0),none⟩,
  ⟨(some 41),.call 97 [(.tmp 40)],none⟩])
 (.seq (.ops [⟨(some 42),.mov (.tmp 0),none⟩,
  ⟨(some 43),.nilChk (.tmp 42),none⟩,
  ⟨(some 44),.fieldAddr 3 (.tmp 43),none⟩,
  ⟨(some 45),.load false 1 (.tmp 44),none⟩,
  ⟨(some 46),.bin .eql (.tmp 45) (.con (.int .i64 0)),none⟩,
  ⟨(some 47),.mov (.tmp 46),none⟩,
  ⟨(some 48),.mov (.tmp 0),(some (47,true))⟩,
  ⟨(some 49),.call 148 [(.tmp 48),(.con (.int .u8 41))],(some (47,true))⟩,
  ⟨(some 50),.un .not (.tmp 49),(some (47,true))⟩,
  ⟨(some 51),.pick (.tmp 47) (.tmp 50) (.con (.bool false)),none⟩])
 (.cond (.tmp 51)
 (.ops [⟨(some 52),.mov (.tmp 0),none⟩,
  ⟨(some 53),.call 99 [(.tmp 52),(.con (.int .i64 7))],none⟩])
 .skip)))
 (.seq (.ops [⟨(some 55),.mov (.tmp 2),none⟩,
  ⟨(some 56),.call 106 [(.tmp 55)],none⟩,
  ⟨(some 57),.bin .neq (.tmp 56) (.con (.int .u8 0)),none⟩,
  ⟨(some 54),.mov (.tmp 57),none⟩])
 (.cond (.tmp 54)
 (.ops [⟨(some 58),.mov (.tmp 0),none⟩,
  ⟨(some 59),.call 233 [(.tmp 58)],none⟩])
 (.ops [⟨(some 28),.mov (.tmp 0),none⟩,
  ⟨(some 29),.call 99 [(.tmp 28),(.con (.int .i64 7))],none⟩])))))))))
 (.ops [⟨(some 60),.mov (.tmp 0),none⟩,
  ⟨(some 61),.nilChk (.tmp 60),none⟩,
  ⟨(some 62),.fieldAddr 1 (.tmp 61),none⟩,
  ⟨(some 63),.load false 1 (.tmp 62),none⟩,
  ⟨(some 64),.bin .sub (.tmp 63) (.con (.int .i64 1)),none⟩,
  ⟨(some 65),.nilChk (.tmp 60),none⟩,
  ⟨(some 66),.fieldAddr 1 (.tmp 65),none⟩,
  ⟨none,.store 1 (.tmp 66) (.tmp 64),none⟩])))))
def a196 : AFunc:=⟨1,c196,[]⟩
theorem k196 : cFunc Tryz.prog Tryz.f196=some a196:=by kernel_rfl
/- 197: tendril/query.isTerm -/
def c197l0 : ACode:=(.seq (.ops [⟨(some 7),.bin .lss (.tmp 6) (.tmp 5),none⟩])
 (.seq (.cond (.tmp 7)
 .skip
 (.exit 0))
 (.seq (.block 1 (.seq (.ops [⟨(some 8),.mov (.tmp 6),none⟩,
  ⟨(some 3),.mov (.tmp 8),none⟩])
 (.seq (.ops [⟨(some 9),.mov (.tmp 0),none⟩,
  ⟨(some 10),.mov (.tmp 3),none⟩,
  ⟨(some 11),.idxStr (.tmp 9) (.tmp 10),none⟩,
  ⟨(some 13),.mov (.tmp 0),none⟩,
  ⟨(some 14),.mov (.tmp 3),none⟩,
  ⟨(some 15),.idxStr (.tmp 13) (.tmp 14),none⟩,
  ⟨(some 12),.call 106 [(.tmp 11)],none⟩,
  ⟨(some 16),.bin .neq (.tmp 12) (.tmp 15),none⟩,
  ⟨(some 17),.mov (.tmp 16),none⟩,
  ⟨(some 18),.mov (.tmp 0),(some (17,false))⟩,
  ⟨(some 19),.mov (.tmp 3),(some (17,false))⟩,
  ⟨(some 20),.idxStr (.tmp 18) (.tmp 19),(some (17,false))⟩,
  ⟨(some 21),.bin .eql (.tmp 20) (.con (.int .u8 0)),(some (17,false))⟩,
  ⟨(some 22),.pick (.tmp 17) (.con (.bool true)) (.tmp 21),none⟩])
 (.cond (.tmp 22)
 (.seq (.ops [⟨(some 2),.mov (.con (.bool false)),none⟩])
 .ret)
 .skip))))
 (.ops [⟨(some 23),.bin .add (.tmp 6) (.con (.int .i64 1)),none⟩,
  ⟨(some 6),.mov (.tmp 23),none⟩]))))
def c197 : ACode:=(.seq (.ops [⟨(some 2),.mov (.con (.bool false)),none⟩])
 (.seq (.seq (.ops [⟨(some 4),.mov (.tmp 0),none⟩,
  ⟨(some 5),.lenStr (.tmp 4),none⟩,
  ⟨(some 6),.mov (.con (.int .i64 0)),none⟩])
 (.block 0 (.loop c197l0)))
 (.seq (.ops [⟨(some 24),.mov (.tmp 0),none⟩,
  ⟨(some 25),.bin .neq (.tmp 24) (.con (.str [])),none⟩,
  ⟨(some 26),.mov (.tmp 25),none⟩,
  ⟨(some 27),.mov (.tmp 0),(some (26,true))⟩,
  ⟨(some 28),.lenStr (.tmp 27),(some (26,true))⟩,
  ⟨(some 29),.bin .leq (.tmp 28) (.con (.int .i64 12)),(some (26,true))⟩,
  ⟨(some 30),.pick (.tmp 26) (.tmp 29) (.con (.bool false)),none⟩,
  ⟨(some 2),.mov (.tmp 30),none⟩])
 .ret)))
def a197 : AFunc:=⟨1,c197,[.tmp 2]⟩
theorem k197 : cFunc Tryz.prog Tryz.f197=some a197:=by kernel_rfl
/- 198: slices.pdqsortOrdered[int] -/
def c198l0 : ACode:=(.block 1 (.seq (.ops [⟨(some 19),.mov (.tmp 2),none⟩,
  ⟨(some 20),.mov (.tmp 1),none⟩,
  ⟨(some 21),.bin .sub (.tmp 19) (.tmp 20),none⟩,
  ⟨(some 10),.mov (.tmp 21),none⟩])
 (.seq (.seq (.ops [⟨(some 22),.mov (.tmp 10),none⟩,
  ⟨(some 23),.bin .leq (.tmp 22) (.con (.int .i64 12)),none⟩])
 (.cond (.tmp 23)
 (.seq (.ops [⟨(some 24),.mov (.tmp 0),none⟩,
  ⟨(some 25),.mov (.tmp 1),none⟩,
  ⟨(some 26),.mov (.tmp 2),none⟩,
  ⟨(some 27),.call 234 [(.tmp 24),(.tmp 25),(.tmp 26)],none⟩])
 .ret)
 .skip))
 (.seq (.seq (.ops [⟨(some 28),.mov (.tmp 3),none⟩,
  ⟨(some 29),.bin .eql (.tmp 28) (.con (.int .i64 0)),none⟩])
 (.cond (.tmp 29)
 (.seq (.ops [⟨(some 30),.mov (.tmp 0),none⟩,
  ⟨(some 31),.mov (.tmp 1),none⟩,
  ⟨(some 32),.mov (.tmp 2),none⟩,
  ⟨(some 33),.call 235 [(.tmp 30),(.tmp 31),(.tmp 32)],none⟩])
 .ret)
 .skip))
 (.seq (.seq (.ops [⟨(some 34),.mov (.tmp 8),none⟩,
  ⟨(some 35),.un .not (.tmp 34),none⟩])
 (.cond (.tmp 35)
 (.seq (.ops [⟨(some 36),.mov (.tmp 0),none⟩,
  ⟨(some 37),.mov (.tmp 1),none⟩,
  ⟨(some 38),.mov (.tmp 2),none⟩,
  ⟨(some 39),.call 236 [(.tmp 36),(.tmp 37),(.tmp 38)],none⟩])
 (.ops [⟨(some 40),.mov (.tmp 3),none⟩,
  ⟨(some 41),.bin .sub (.tmp 40) (.con (.int .i64 1)),none⟩,
  ⟨(some 3),.mov (.tmp 41),none⟩]))
 .skip))
 (.seq (.ops [⟨(some 43),.mov (.tmp 0),none⟩,
  ⟨(some 44),.mov (.tmp 1),none⟩,
  ⟨(some 45),.mov (.tmp 2),none⟩,
  ⟨(some 46),.call 237 [(.tmp 43),(.tmp 44),(.tmp 45)],none⟩,
  ⟨(some 42),.mov (.tmp 46),none⟩,
  ⟨(some 47),.extract (.tmp 42) 0,none⟩,
  ⟨(some 48),.extract (.tmp 42) 1,none⟩,
  ⟨(some 11),.mov (.tmp 47),none⟩,
  ⟨(some 12),.mov (.tmp 48),none⟩])
 (.seq (.seq (.ops [⟨(some 49),.mov (.tmp 12),none⟩,
  ⟨(some 50),.bin .eql (.tmp 49) (.con (.int .i64 2)),none⟩])
 (.cond (.tmp 50)
 (.seq (.ops [⟨(some 51),.mov (.tmp 0),none⟩,
  ⟨(some 52),.mov (.tmp 1),none⟩,
  ⟨(some 53),.mov (.tmp 2),none⟩,
  ⟨(some 54),.call 238 [(.tmp 51),(.tmp 52),(.tmp 53)],none⟩])
 (.seq (.ops [⟨(some 55),.mov (.tmp 2),none⟩,
  ⟨(some 56),.bin .sub (.tmp 55) (.con (.int .i64 1)),none⟩,
  ⟨(some 57),.mov (.tmp 11),none⟩,
  ⟨(some 58),.mov (.tmp 1),none⟩,
  ⟨(some 59),.bin .sub (.tmp 57) (.tmp 58),none⟩,
  ⟨(some 60),.bin .sub (.tmp 56) (.tmp 59),none⟩,
  ⟨(some 11),.mov (.tmp 60),none⟩])
 (.ops [⟨(some 12),.mov (.con (.int .i64 1)),none⟩])))
 .skip))
 (.seq (.seq (.ops [⟨(some 61),.mov (.tmp 8),none⟩,
  ⟨(some 62),.mov (.tmp 61),none⟩,
  ⟨(some 63),.mov (.tmp 9),(some (62,true))⟩,
  ⟨(some 64),.pick (.tmp 62) (.tmp 63) (.con (.bool false)),none⟩,
  ⟨(some 65),.mov (.tmp 64),none⟩,
  ⟨(some 66),.mov (.tmp 12),(some (65,true))⟩,
  ⟨(some 67),.bin .eql (.tmp 66) (.con (.int .i64 1)),(some (65,true))⟩,
  ⟨(some 68),.pick (.tmp 65) (.tmp 67) (.con (.bool false)),none⟩])
 (.cond (.tmp 68)
 (.seq (.ops [⟨(some 69),.mov (.tmp 0),none⟩,
  ⟨(some 70),.mov (.tmp 1),none⟩,
  ⟨(some 71),.mov (.tmp 2),none⟩,
  ⟨(some 72),.call 239 [(.tmp 69),(.tmp 70),(.tmp 71)],none⟩])
 (.cond (.tmp 72)
 .ret
 .skip))
 .skip))
 (.seq (.seq (.ops [⟨(some 73),.mov (.tmp 1),none⟩,
  ⟨(some 74),.bin .gtr (.tmp 73) (.con (.int .i64 0)),none⟩,
  ⟨(some 75),.mov (.tmp 74),none⟩,
  ⟨(some 76),.mov (.tmp 0),(some (75,true))⟩,
  ⟨(some 77),.mov (.tmp 1),(some (75,true))⟩,
  ⟨(some 78),.bin .sub (.tmp 77) (.con (.int .i64 1)),(some (75,true))⟩,
  ⟨(some 79),.idxAddr 1 (.tmp 76) (.tmp 78),(some (75,true))⟩,
  ⟨(some 80),.load false 1 (.tmp 79),(some (75,true))⟩,
  ⟨(some 81),.mov (.tmp 0),(some (75,true))⟩,
  ⟨(some 82),.mov (.tmp 11),(some (75,true))⟩,
  ⟨(some 83),.idxAddr 1 (.tmp 81) (.tmp 82),(some (75,true))⟩,
  ⟨(some 84),.load false 1 (.tmp 83),(some (75,true))⟩,
  ⟨(some 85),.call 170 [(.tmp 80),(.tmp 84)],(some (75,true))⟩,
  ⟨(some 86),.un .not (.tmp 85),(some (75,true))⟩,
  ⟨(some 87),.pick (.tmp 75) (.tmp 86) (.con (.bool false)),none⟩])
 (.cond (.tmp 87)
 (.seq (.ops [⟨(some 88),.mov (.tmp 0),none⟩,
  ⟨(some 89),.mov (.tmp 1),none⟩,
  ⟨(some 90),.mov (.tmp 2),none⟩,
  ⟨(some 91),.mov (.tmp 11),none⟩,
  ⟨(some 92),.call 240 [(.tmp 88),(.tmp 89),(.tmp 90),(.tmp 91)],none⟩,
  ⟨(some 13),.mov (.tmp 92),none⟩])
 (.seq (.ops [⟨(some 93),.mov (.tmp 13),none⟩,
  ⟨(some 1),.mov (.tmp 93),none⟩])
 (.exit 1)))
 .skip))
 (.seq (.ops [⟨(some 95),.mov (.tmp 0),none⟩,
  ⟨(some 96),.mov (.tmp 1),none⟩,
  ⟨(some 97),.mov (.tmp 2),none⟩,
  ⟨(some 98),.mov (.tmp 11),none⟩,
  ⟨(some 99),.call 241 [(.tmp 95),(.tmp 96),(.tmp 97),(.tmp 98)],none⟩,
  ⟨(some 94),.mov (.tmp 99),none⟩,
  ⟨(some 100),.extract (.tmp 94) 0,none⟩,
  ⟨(some 101),.extract (.tmp 94) 1,none⟩,
  ⟨(some 14),.mov (.tmp 100),none⟩,
  ⟨(some 15),.mov (.tmp 101),none⟩])
 (.seq (.ops [⟨(some 102),.mov (.tmp 15),none⟩,
  ⟨(some 9),.mov (.tmp 102),none⟩])
 (.seq (.ops [⟨(some 103),.mov (.tmp 14),none⟩,
  ⟨(some 104),.mov (.tmp 1),none⟩,
  ⟨(some 105),.bin .sub (.tmp 103) (.tmp 104),none⟩,
  ⟨(some 106),.mov (.tmp 2),none⟩,
  ⟨(some 107),.mov (.tmp 14),none⟩,
  ⟨(some 108),.bin .sub (.tmp 106) (.tmp 107),none⟩,
  ⟨(some 16),.mov (.tmp 105),none⟩,
  ⟨(some 17),.mov (.tmp 108),none⟩])
 (.seq (.ops [⟨(some 109),.mov (.tmp 10),none⟩,
  ⟨(some 110),.bin .quo (.tmp 109) (.con (.int .i64 8)),none⟩,
  ⟨(some 18),.mov (.tmp 110),none⟩])
 (.seq (.ops [⟨(some 111),.mov (.tmp 16),none⟩,
  ⟨(some 112),.mov (.tmp 17),none⟩,
  ⟨(some 113),.bin .lss (.tmp 111) (.tmp 112),none⟩])
 (.cond (.tmp 113)
 (.seq (.ops [⟨(some 114),.mov (.tmp 16),none⟩,
  ⟨(some 115),.mov (.tmp 18),none⟩,
  ⟨(some 116),.bin .geq (.tmp 114) (.tmp 115),none⟩,
  ⟨(some 8),.mov (.tmp 116),none⟩])
 (.seq (.ops [⟨(some 117),.mov (.tmp 0),none⟩,
  ⟨(some 118),.mov (.tmp 1),none⟩,
  ⟨(some 119),.mov (.tmp 14),none⟩,
  ⟨(some 120),.mov (.tmp 3),none⟩,
  ⟨(some 121),.call 198 [(.tmp 117),(.tmp 118),(.tmp 119),(.tmp 120)],none⟩])
 (.ops [⟨(some 122),.mov (.tmp 14),none⟩,
  ⟨(some 123),.bin .add (.tmp 122) (.con (.int .i64 1)),none⟩,
  ⟨(some 1),.mov (.tmp 123),none⟩])))
 (.seq (.ops [⟨(some 124),.mov (.tmp 17),none⟩,
  ⟨(some 125),.mov (.tmp 18),none⟩,
  ⟨(some 126),.bin .geq (.tmp 124) (.tmp 125),none⟩,
  ⟨(some 8),.mov (.tmp 126),none⟩])
 (.seq (.ops [⟨(some 127),.mov (.tmp 0),none⟩,
  ⟨(some 128),.mov (.tmp 14),none⟩,
  ⟨(some 129),.bin .add (.tmp 128) (.con (.int .i64 1)),none⟩,
  ⟨(some 130),.mov (.tmp 2),none⟩,
  ⟨(some 131),.mov (.tmp 3),none⟩,
  ⟨(some 132),.call 198 [(.tmp 127),(.tmp 129),(.tmp 130),(.tmp 131)],none⟩])
 (.ops [⟨(some 133),.mov (.tmp 14),none⟩,
  ⟨(some 2),.mov (.tmp 133),none⟩]))))))))))))))))))
def c198 : ACode:=(.seq (.ops [⟨(some 8),.mov (.con (.bool true)),none⟩])
 (.seq (.ops [⟨(some 9),.mov (.con (.bool true)),none⟩])
 (.block 0 (.loop c198l0))))
def a198 : AFunc:=⟨4,c198,[]⟩
theorem k198 : cFunc Tryz.prog Tryz.f198=some a198:=by kernel_rfl
/- 199: (*tendril/scan.Scan).begin -/
def c199 : ACode:=(.seq (.ops [⟨(some 2),.mov (.tmp 0),none⟩,
  ⟨(some 3),.mov (.tmp 0),none⟩,
  ⟨(some 4),.nilChk (.tmp 2),none⟩,
  ⟨(some 5),.fieldAddr 12 (.tmp 4),none⟩,
  ⟨none,.store 1 (.tmp 5) (.con .nilSlice),none⟩,
  ⟨(some 6),.nilChk (.tmp 3),none⟩,
  ⟨(some 7),.fieldAddr 11 (.tmp 6),none⟩,
  ⟨none,.store 1 (.tmp 7) (.con (.str [])),none⟩])
 (.ops [⟨(some 8),.mov (.tmp 0),none⟩,
  ⟨(some 9),.mov (.tmp 0),none⟩,
  ⟨(some 10),.nilChk (.tmp 9),none⟩,
  ⟨(some 11),.fieldAddr 3 (.tmp 10),none⟩,
  ⟨(some 12),.load false 1 (.tmp 11),none⟩,
  ⟨(some 13),.build [(.int .i64 0),(.int .i64 0),(.int .i64 0),(.int .i64 0),(.int .u64 0),.nilSlice] [(0,1,(.con (.int .i64 1))),(1,1,(.tmp 12))],none⟩,
  ⟨(some 14),.call 102 [(.tmp 8),(.tmp 13),(.con (.func (.func 242) [] []))],none⟩]))
def a199 : AFunc:=⟨1,c199,[]⟩
theorem k199 : cFunc Tryz.prog Tryz.f199=some a199:=by kernel_rfl
/- 200: (*tendril/arena.Arena).Load -/
def c200 : ACode:=(.seq (.ops [⟨(some 4),.mov (.con .nilSlice),none⟩,
  ⟨(some 5),.mov (.con (.int .i64 0)),none⟩])
 (.seq (.ops [⟨(some 9),.mov (.tmp 0),none⟩,
  ⟨(some 10),.mov (.tmp 1),none⟩,
  ⟨(some 11),.call 243 [(.tmp 9),(.tmp 10)],none⟩,
  ⟨(some 8),.mov (.tmp 11),none⟩,
  ⟨(some 12),.extract (.tmp 8) 0,none⟩,
  ⟨(some 13),.extract (.tmp 8) 1,none⟩,
  ⟨(some 6),.mov (.tmp 12),none⟩,
  ⟨(some 7),.mov (.tmp 13),none⟩])
 (.seq (.seq (.ops [⟨(some 14),.mov (.tmp 7),none⟩,
  ⟨(some 15),.bin .neq (.tmp 14) (.con (.int .i64 0)),none⟩])
 (.cond (.tmp 15)
 (.seq (.ops [⟨(some 16),.mov (.tmp 7),none⟩,
  ⟨(some 4),.mov (.con .nilSlice),none⟩,
  ⟨(some 5),.mov (.tmp 16),none⟩])
 .ret)
 .skip))
 (.seq (.ops [⟨(some 17),.mov (.tmp 6),none⟩,
  ⟨(some 18),.nilChk (.tmp 17),none⟩,
  ⟨(some 19),.fieldAddr 3 (.tmp 18),none⟩,
  ⟨(some 20),.load false 1 (.tmp 19),none⟩,
  ⟨(some 21),.call 186 [(.tmp 20)],none⟩,
  ⟨(some 4),.mov (.tmp 21),none⟩,
  ⟨(some 5),.mov (.con (.int .i64 0)),none⟩])
 .ret))))
def a200 : AFunc:=⟨2,c200,[.tmp 4,.tmp 5]⟩
theorem k200 : cFunc Tryz.prog Tryz.f200=some a200:=by kernel_rfl
/- 203: (*tendril/arena.Arena).Free -/
def c203 : ACode:=(.seq (.ops [⟨(some 4),.mov (.con (.int .i64 0)),none⟩])
 (.seq (.ops [⟨(some 12),.mov (.tmp 0),none⟩,
  ⟨(some 13),.mov (.tmp 1),none⟩,
  ⟨(some 14),.call 243 [(.tmp 12),(.tmp 13)],none⟩,
  ⟨(some 11),.mov (.tmp 14),none⟩,
  ⟨(some 15),.extract (.tmp 11) 0,none⟩,
  ⟨(some 16),.extract (.tmp 11) 1,none⟩,
  ⟨(some 5),.mov (.tmp 15),none⟩,
  ⟨(some 6),.mov (.tmp 16),none⟩])
 (.seq (.seq (.ops [⟨(some 17),.mov (.tmp 6),none⟩,
  ⟨(some 18),.bin .neq (.tmp 17) (.con (.int .i64 0)),none⟩])
 (.cond (.tmp 18)
 (.seq (.ops [⟨(some 19),.mov (.tmp 6),none⟩,
  ⟨(some 4),.mov (.tmp 19),none⟩])
 .ret)
 .skip))
 (.seq (.ops [⟨(some 20),.mov (.tmp 5),none⟩,
  ⟨(some 21),.mov (.tmp 5),none⟩,
  ⟨(some 22),.nilChk (.tmp 21),none⟩,
  ⟨(some 23),.fieldAddr 0 (.tmp 22),none⟩,
  ⟨(some 24),.load false 1 (.tmp 23),none⟩,
  ⟨(some 25),.call 124 [(.tmp 24)],none⟩,
  ⟨(some 26),.nilChk (.tmp 20),none⟩,
  ⟨(some 27),.fieldAddr 3 (.tmp 26),none⟩,
  ⟨none,.store 1 (.tmp 27) (.tmp 25),none⟩])
 (.seq (.ops [⟨(some 28),.mov (.tmp 5),none⟩,
  ⟨(some 29),.nilChk (.tmp 28),none⟩,
  ⟨(some 30),.fieldAddr 1 (.tmp 29),none⟩,
  ⟨(some 31),.load false 1 (.tmp 30),none⟩,
  ⟨(some 32),.bin .add (.tmp 31) (.con (.int .i64 1)),none⟩,
  ⟨(some 33),.nilChk (.tmp 28),none⟩,
  ⟨(some 34),.fieldAddr 1 (.tmp 33),none⟩,
  ⟨none,.store 1 (.tmp 34) (.tmp 32),none⟩])
 (.seq (.ops [⟨(some 35),.mov (.tmp 5),none⟩,
  ⟨(some 36),.nilChk (.tmp 35),none⟩,
  ⟨(some 37),.fieldAddr 2 (.tmp 36),none⟩,
  ⟨none,.store 1 (.tmp 37) (.con (.bool false)),none⟩])
 (.seq (.seq (.ops [⟨(some 39),.mov (.tmp 1),none⟩,
  ⟨(some 40),.call 204 [(.tmp 39)],none⟩,
  ⟨(some 38),.mov (.tmp 40),none⟩,
  ⟨(some 41),.extract (.tmp 38) 0,none⟩,
  ⟨(some 42),.extract (.tmp 38) 1,none⟩,
  ⟨(some 43),.extract (.tmp 38) 2,none⟩,
  ⟨(some 44),.extract (.tmp 38) 3,none⟩,
  ⟨(some 7),.mov (.tmp 41),none⟩,
  ⟨(some 8),.mov (.tmp 42),none⟩,
  ⟨(some 9),.mov (.tmp 43),none⟩,
  ⟨(some 10),.mov (.tmp 44),none⟩])
 (.seq (.ops [⟨(some 45),.mov (.tmp 5),none⟩,
  ⟨(some 46),.nilChk (.tmp 45),none⟩,
  ⟨(some 47),.fieldAddr 1 (.tmp 46),none⟩,
  ⟨(some 48),.load false 1 (.tmp 47),none⟩,
  ⟨(some 49),.bin .leq (.tmp 48) (.con (.int .i64 1073741824)),none⟩])
 (.cond (.tmp 49)
 (.ops [⟨(some 50),.mov (.tmp 0),none⟩,
  ⟨(some 51),.mov (.tmp 5),none⟩,
  ⟨(some 52),.nilChk (.tmp 51),none⟩,
  ⟨(some 53),.fieldAddr 0 (.tmp 52),none⟩,
  ⟨(some 54),.load false 1 (.tmp 53),none⟩,
  ⟨(some 55),.nilChk (.tmp 50),none⟩,
  ⟨(some 56),.fieldAddr 1 (.tmp 55),none⟩,
  ⟨(some 57),.idxAddrArr 5 1 (.tmp 56) (.tmp 54),none⟩,
  ⟨(some 58),.load false 1 (.tmp 57),none⟩,
  ⟨(some 59),.mov (.tmp 7),none⟩,
  ⟨(some 60),.call 47 [(.tmp 58),(.tmp 59)],none⟩])
 .skip)))
 (.seq (.ops [⟨(some 4),.mov (.con (.int .i64 0)),none⟩])
 .ret))))))))
def a203 : AFunc:=⟨2,c203,[.tmp 4]⟩
theorem k203 : cFunc Tryz.prog Tryz.f203=some a203:=by kernel_rfl
/- 123: (*tendril/epoch.Epochs).of -/
def c123 : ACode:=(.seq (.ops [⟨(some 4),.mov (.con .nilPtr),none⟩])
 (.seq (.seq (.ops [⟨(some 5),.mov (.tmp 1),none⟩,
  ⟨(some 6),.bin .lss (.tmp 5) (.con (.int .i64 0)),none⟩,
  ⟨(some 7),.mov (.tmp 6),none⟩,
  ⟨(some 8),.mov (.tmp 1),(some (7,false))⟩,
  ⟨(some 9),.mov (.tmp 0),(some (7,false))⟩,
  ⟨(some 10),.nilChk (.tmp 9),(some (7,false))⟩,
  ⟨(some 11),.fieldAddr 2 (.tmp 10),(some (7,false))⟩,
  ⟨(some 12),.load false 1 (.tmp 11),(some (7,false))⟩,
  ⟨(some 13),.lenSlice (.tmp 12),(some (7,false))⟩,
  ⟨(some 14),.bin .geq (.tmp 8) (.tmp 13),(some (7,false))⟩,
  ⟨(some 15),.pick (.tmp 7) (.con (.bool true)) (.tmp 14),none⟩])
 (.cond (.tmp 15)
 (.seq (.ops [⟨(some 4),.mov (.con .nilPtr),none⟩])
 .ret)
 .skip))
 (.seq (.ops [⟨(some 16),.mov (.tmp 0),none⟩,
  ⟨(some 17),.nilChk (.tmp 16),none⟩,
  ⟨(some 18),.fieldAddr 2 (.tmp 17),none⟩,
  ⟨(some 19),.load false 1 (.tmp 18),none⟩,
  ⟨(some 20),.mov (.tmp 1),none⟩,
  ⟨(some 21),.idxAddr 2 (.tmp 19) (.tmp 20),none⟩,
  ⟨(some 4),.mov (.tmp 21),none⟩])
 .ret)))
def a123 : AFunc:=⟨2,c123,[.tmp 4]⟩
theorem k123 : cFunc Tryz.prog Tryz.f123=some a123:=by kernel_rfl
/- 204: tendril/word.Parts -/
def c204 : ACode:=(.seq (.ops [⟨(some 2),.mov (.con (.int .i64 0)),none⟩,
  ⟨(some 3),.mov (.con (.int .i64 0)),none⟩,
  ⟨(some 4),.mov (.con (.bool false)),none⟩,
  ⟨(some 5),.mov (.con (.bool false)),none⟩])
 (.seq (.ops [⟨(some 6),.mov (.tmp 0),none⟩,
  ⟨(some 7),.bin .and (.tmp 6) (.con (.int .i64 65535)),none⟩,
  ⟨(some 8),.mov (.tmp 0),none⟩,
  ⟨(some 9),.bin .shr (.tmp 8) (.con (.int .u64 16)),none⟩,
  ⟨(some 10),.bin .and (.tmp 9) (.con (.int .i64 4294967295)),none⟩,
  ⟨(some 11),.mov (.tmp 0),none⟩,
  ⟨(some 12),.bin .and (.tmp 11) (.con (.int .i64 281474976710656)),none⟩,
  ⟨(some 13),.bin .neq (.tmp 12) (.con (.int .i64 0)),none⟩,
  ⟨(some 2),.mov (.tmp 7),none⟩,
  ⟨(some 3),.mov (.tmp 10),none⟩,
  ⟨(some 4),.mov (.tmp 13),none⟩])
 (.seq (.seq (.ops [⟨(some 14),.mov (.tmp 0),none⟩,
  ⟨(some 15),.bin .eql (.tmp 14) (.con (.int .i64 0)),none⟩,
  ⟨(some 16),.mov (.tmp 15),none⟩,
  ⟨(some 17),.mov (.tmp 2),(some (16,false))⟩,
  ⟨(some 18),.mov (.tmp 3),(some (16,false))⟩,
  ⟨(some 19),.mov (.tmp 4),(some (16,false))⟩,
  ⟨(some 20),.call 127 [(.tmp 17),(.tmp 18),(.tmp 19)],(some (16,false))⟩,
  ⟨(some 21),.mov (.tmp 0),(some (16,false))⟩,
  ⟨(some 22),.bin .neq (.tmp 20) (.tmp 21),(some (16,false))⟩,
  ⟨(some 23),.pick (.tmp 16) (.con (.bool true)) (.tmp 22),none⟩])
 (.cond (.tmp 23)
 (.seq (.ops [⟨(some 2),.mov (.con (.int .i64 0)),none⟩,
  ⟨(some 3),.mov (.con (.int .i64 0)),none⟩,
  ⟨(some 4),.mov (.con (.bool false)),none⟩,
  ⟨(some 5),.mov (.con (.bool false)),none⟩])
 .ret)
 .skip))
 (.seq (.ops [⟨(some 24),.mov (.tmp 2),none⟩,
  ⟨(some 25),.mov (.tmp 3),none⟩,
  ⟨(some 26),.mov (.tmp 4),none⟩,
  ⟨(some 2),.mov (.tmp 24),none⟩,
  ⟨(some 3),.mov (.tmp 25),none⟩,
  ⟨(some 4),.mov (.tmp 26),none⟩,
  ⟨(some 5),.mov (.con (.bool true)),none⟩])
 .ret))))
def a204 : AFunc:=⟨1,c204,[.tmp 2,.tmp 3,.tmp 4,.tmp 5]⟩
theorem k204 : cFunc Tryz.prog Tryz.f204=some a204:=by kernel_rfl
/- 205: (*tendril/epoch.Epochs).Collect -/
def c205 : ACode:=(.seq (.ops [⟨(some 4),.mov (.con (.int .i64 0)),none⟩,
  ⟨(some 5),.mov (.con (.bool false)),none⟩])
 (.seq (.ops [⟨(some 8),.mov (.tmp 0),none⟩,
  ⟨(some 9),.mov (.tmp 1),none⟩,
  ⟨(some 10),.call 123 [(.tmp 8),(.tmp 9)],none⟩,
  ⟨(some 6),.mov (.tmp 10),none⟩])
 (.seq (.seq (.ops [⟨(some 11),.mov (.tmp 6),none⟩,
  ⟨(some 12),.eqNil 0 false (.tmp 11) (.con .nilPtr),none⟩,
  ⟨(some 13),.mov (.tmp 12),none⟩,
  ⟨(some 14),.mov (.tmp 6),(some (13,false))⟩,
  ⟨(some 15),.nilChk (.tmp 14),(some (13,false))⟩,
  ⟨(some 16),.fieldAddr 1 (.tmp 15),(some (13,false))⟩,
  ⟨(some 17),.load false 1 (.tmp 16),(some (13,false))⟩,
  ⟨(some 18),.lenSlice (.tmp 17),(some (13,false))⟩,
  ⟨(some 19),.bin .eql (.tmp 18) (.con (.int .i64 0)),(some (13,false))⟩,
  ⟨(some 20),.pick (.tmp 13) (.con (.bool true)) (.tmp 19),none⟩,
  ⟨(some 21),.mov (.tmp 20),none⟩,
  ⟨(some 22),.mov (.tmp 0),(some (21,false))⟩,
  ⟨(some 23),.nilChk (.tmp 22),(some (21,false))⟩,
  ⟨(some 24),.fieldAddr 0 (.tmp 23),(some (21,false))⟩,
  ⟨(some 25),.load false 1 (.tmp 24),(some (21,false))⟩,
  ⟨(some 26),.mov (.tmp 6),(some (21,false))⟩,
  ⟨(some 27),.nilChk (.tmp 26),(some (21,false))⟩,
  ⟨(some 28),.fieldAddr 1 (.tmp 27),(some (21,false))⟩,
  ⟨(some 29),.load false 1 (.tmp 28),(some (21,false))⟩,
  ⟨(some 30),.idxAddr 2 (.tmp 29) (.con (.int .i64 0)),(some (21,false))⟩,
  ⟨(some 31),.fieldAddr 1 (.tmp 30),(some (21,false))⟩,
  ⟨(some 32),.load false 1 (.tmp 31),(some (21,false))⟩,
  ⟨(some 33),.bin .sub (.tmp 25) (.tmp 32),(some (21,false))⟩,
  ⟨(some 34),.bin .lss (.tmp 33) (.con (.int .i64 2)),(some (21,false))⟩,
  ⟨(some 35),.pick (.tmp 21) (.con (.bool true)) (.tmp 34),none⟩])
 (.cond (.tmp 35)
 (.seq (.ops [⟨(some 4),.mov (.con (.int .i64 0)),none⟩,
  ⟨(some 5),.mov (.con (.bool false)),none⟩])
 .ret)
 .skip))
 (.seq (.ops [⟨(some 36),.mov (.tmp 6),none⟩,
  ⟨(some 37),.nilChk (.tmp 36),none⟩,
  ⟨(some 38),.fieldAddr 1 (.tmp 37),none⟩,
  ⟨(some 39),.load false 1 (.tmp 38),none⟩,
  ⟨(some 40),.idxAddr 2 (.tmp 39) (.con (.int .i64 0)),none⟩,
  ⟨(some 41),.fieldAddr 0 (.tmp 40),none⟩,
  ⟨(some 42),.load false 1 (.tmp 41),none⟩,
  ⟨(some 7),.mov (.tmp 42),none⟩])
 (.seq (.ops [⟨(some 43),.mov (.tmp 6),none⟩,
  ⟨(some 44),.mov (.tmp 6),none⟩,
  ⟨(some 45),.nilChk (.tmp 44),none⟩,
  ⟨(some 46),.fieldAddr 1 (.tmp 45),none⟩,
  ⟨(some 47),.load false 1 (.tmp 46),none⟩,
  ⟨(some 48),.slc 2 (.tmp 47) (some (.con (.int .i64 1))) none none,none⟩,
  ⟨(some 49),.call 244 [(.tmp 48)],none⟩,
  ⟨(some 50),.nilChk (.tmp 43),none⟩,
  ⟨(some 51),.fieldAddr 1 (.tmp 50),none⟩,
  ⟨none,.store 1 (.tmp 51) (.tmp 49),none⟩])
 (.seq (.ops [⟨(some 52),.mov (.tmp 7),none⟩,
  ⟨(some 4),.mov (.tmp 52),none⟩,
  ⟨(some 5),.mov (.con (.bool true)),none⟩])
 .ret))))))
def a205 : AFunc:=⟨2,c205,[.tmp 4,.tmp 5]⟩
theorem k205 : cFunc Tryz.prog Tryz.f205=some a205:=by kernel_rfl
/- 206: strings.splitSeq$1 -/
def c206l0 : ACode:=(.seq (.seq (.ops [⟨(some 12),.load false 1 (.tmp 2),none⟩,
  ⟨(some 13),.lenStr (.tmp 12),none⟩,
  ⟨(some 14),.bin .gtr (.tmp 13) (.con (.int .i64 0)),none⟩])
 (.cond (.tmp 14)
 .skip
 (.exit 0)))
 (.block 1 (.seq (.ops [⟨(some 16),.load false 1 (.tmp 2),none⟩,
  ⟨(some 17),.call 207 [(.tmp 16)],none⟩,
  ⟨(some 15),.mov (.tmp 17),none⟩,
  ⟨(some 18),.extract (.tmp 15) 0,none⟩,
  ⟨(some 19),.extract (.tmp 15) 1,none⟩,
  ⟨(some 5),.mov (.tmp 18),none⟩,
  ⟨(some 6),.mov (.tmp 19),none⟩])
 (.seq (.seq (.ops [⟨(some 20),.mov (.tmp 0),none⟩,
  ⟨(some 21),.load false 1 (.tmp 2),none⟩,
  ⟨(some 22),.mov (.tmp 6),none⟩,
  ⟨(some 23),.slcStr (.tmp 21) none (some (.tmp 22)),none⟩,
  ⟨(some 24),.callV (.tmp 20) [(.tmp 23)],none⟩,
  ⟨(some 25),.un .not (.tmp 24),none⟩])
 (.cond (.tmp 25)
 .ret
 .skip))
 (.ops [⟨(some 26),.load false 1 (.tmp 2),none⟩,
  ⟨(some 27),.mov (.tmp 6),none⟩,
  ⟨(some 28),.slcStr (.tmp 26) (some (.tmp 27)) none,none⟩,
  ⟨none,.store 1 (.tmp 2) (.tmp 28),none⟩])))))
def c206l1 : ACode:=(.block 3 (.seq (.ops [⟨(some 29),.load false 1 (.tmp 2),none⟩,
  ⟨(some 30),.load false 1 (.tmp 1),none⟩,
  ⟨(some 31),.call 208 [(.tmp 29),(.tmp 30)],none⟩,
  ⟨(some 7),.mov (.tmp 31),none⟩])
 (.seq (.seq (.ops [⟨(some 32),.mov (.tmp 7),none⟩,
  ⟨(some 33),.bin .lss (.tmp 32) (.con (.int .i64 0)),none⟩])
 (.cond (.tmp 33)
 (.exit 2)
 .skip))
 (.seq (.ops [⟨(some 34),.load false 1 (.tmp 2),none⟩,
  ⟨(some 35),.mov (.tmp 7),none⟩,
  ⟨(some 36),.load false 1 (.tmp 3),none⟩,
  ⟨(some 37),.bin .add (.tmp 35) (.tmp 36),none⟩,
  ⟨(some 38),.slcStr (.tmp 34) none (some (.tmp 37)),none⟩,
  ⟨(some 8),.mov (.tmp 38),none⟩])
 (.seq (.seq (.ops [⟨(some 39),.mov (.tmp 0),none⟩,
  ⟨(some 40),.mov (.tmp 8),none⟩,
  ⟨(some 41),.callV (.tmp 39) [(.tmp 40)],none⟩,
  ⟨(some 42),.un .not (.tmp 41),none⟩])
 (.cond (.tmp 42)
 .ret
 .skip))
 (.ops [⟨(some 43),.load false 1 (.tmp 2),none⟩,
  ⟨(some 44),.mov (.tmp 7),none⟩,
  ⟨(some 45),.load false 1 (.tmp 1),none⟩,
  ⟨(some 46),.lenStr (.tmp 45),none⟩,
  ⟨(some 47),.bin .add (.tmp 44) (.tmp 46),none⟩,
  ⟨(some 48),.slcStr (.tmp 43) (some (.tmp 47)) none,none⟩,
  ⟨none,.store 1 (.tmp 2) (.tmp 48),none⟩]))))))
def c206 : ACode:=(.seq (.seq (.ops [⟨(some 9),.load false 1 (.tmp 1),none⟩,
  ⟨(some 10),.lenStr (.tmp 9),none⟩,
  ⟨(some 11),.bin .eql (.tmp 10) (.con (.int .i64 0)),none⟩])
 (.cond (.tmp 11)
 (.seq (.block 0 (.loop c206l0))
 .ret)
 .skip))
 (.seq (.block 2 (.loop c206l1))
 (.ops [⟨(some 49),.mov (.tmp 0),none⟩,
  ⟨(some 50),.load false 1 (.tmp 2),none⟩,
  ⟨(some 51),.callV (.tmp 49) [(.tmp 50)],none⟩])))
def a206 : AFunc:=⟨4,c206,[]⟩
theorem k206 : cFunc Tryz.prog Tryz.f206=some a206:=by kernel_rfl
/- 219: math/bits.Len64 -/
def c219 : ACode:=(.seq (.ops [⟨(some 2),.mov (.con (.int .i64 0)),none⟩])
 (.seq (.seq (.ops [⟨(some 3),.mov (.tmp 0),none⟩,
  ⟨(some 4),.bin .geq (.tmp 3) (.con (.int .u64 4294967296)),none⟩])
 (.cond (.tmp 4)
 (.seq (.ops [⟨(some 5),.mov (.tmp 0),none⟩,
  ⟨(some 6),.bin .shr (.tmp 5) (.con (.int .u64 32)),none⟩,
  ⟨(some 0),.mov (.tmp 6),none⟩])
 (.ops [⟨(some 2),.mov (.con (.int .i64 32)),none⟩]))
 .skip))
 (.seq (.seq (.ops [⟨(some 7),.mov (.tmp 0),none⟩,
  ⟨(some 8),.bin .geq (.tmp 7) (.con (.int .u64 65536)),none⟩])
 (.cond (.tmp 8)
 (.seq (.ops [⟨(some 9),.mov (.tmp 0),none⟩,
  ⟨(some 10),.bin .shr (.tmp 9) (.con (.int .u64 16)),none⟩,
  ⟨(some 0),.mov (.tmp 10),none⟩])
 (.ops [⟨(some 11),.mov (.tmp 2),none⟩,
  ⟨(some 12),.bin .add (.tmp 11) (.con (.int .i64 16)),none⟩,
  ⟨(some 2),.mov (.tmp 12),none⟩]))
 .skip))
 (.seq (.seq (.ops [⟨(some 13),.mov (.tmp 0),none⟩,
  ⟨(some 14),.bin .geq (.tmp 13) (.con (.int .u64 256)),none⟩])
 (.cond (.tmp 14)
 (.seq (.ops [⟨(some 15),.mov (.tmp 0),none⟩,
  ⟨(some 16),.bin .shr (.tmp 15) (.con (.int .u64 8)),none⟩,
  ⟨(some 0),.mov (.tmp 16),none⟩])
 (.ops [⟨(some 17),.mov (.tmp 2),none⟩,
  ⟨(some 18),.bin .add (.tmp 17) (.con (.int .i64 8)),none⟩,
  ⟨(some 2),.mov (.tmp 18),none⟩]))
 .skip))
 (.seq (.ops [⟨(some 19),.mov (.tmp 2),none⟩,
  ⟨(some 20),.mov (.tmp 0),none⟩,
  ⟨(some 21),.toInt .u8 (.tmp 20),none⟩,
  ⟨(some 22),.idxStr (.con (.str [0,1,2,2,3,3,3,3,4,4,4,4,4,4,4,4,5,5,5,5,5,5,5,5,5,5,5,5,5,5,5,5,6,6,6,6,6,6,6,6,6,6,6,6,6,6,6,6,6,6,6,6,6,6,6,6,6,6,6,6,6,6,6,6,7,7,7,7,7,7,7,7,7,7,7,7,7,7,7,7,7,7,7,7,7,7,7,7,7,7,7,7,7,7,7,7,7,7,7,7,7,7,7,7,7,7,7,7,7,7,7,7,7,7,7,7,7,7,7,7,7,7,7,7,7,7,7,7,8,8,8,8,8,8,8,8,8,8,8,8,8,8,8,8,8,8,8,8,8,8,8,8,8,8,8,8,8,8,8,8,8,8,8,8,8,8,8,8,8,8,8,8,8,8,8,8,8,8,8,8,8,8,8,8,8,8,8,8,8,8,8,8,8,8,8,8,8,8,8,8,8,8,8,8,8,8,8,8,8,8,8,8,8,8,8,8,8,8,8,8,8,8,8,8,8,8,8,8,8,8,8,8,8,8,8,8,8,8,8,8,8,8,8,8,8,8,8,8,8,8,8,8,8,8,8,8])) (.tmp 21),none⟩,
  ⟨(some 23),.toInt .i64 (.tmp 22),none⟩,
  ⟨(some 24),.bin .add (.tmp 19) (.tmp 23),none⟩,
  ⟨(some 2),.mov (.tmp 24),none⟩])
 .ret)))))
def a219 : AFunc:=⟨1,c219,[.tmp 2]⟩
theorem k219 : cFunc Tryz.prog Tryz.f219=some a219:=by kernel_rfl
/- 209: slices.insertionSortOrdered[string] -/
def c209l0 : ACode:=(.seq (.seq (.ops [⟨(some 16),.mov (.tmp 7),none⟩,
  ⟨(some 17),.mov (.tmp 1),none⟩,
  ⟨(some 18),.bin .gtr (.tmp 16) (.tmp 17),none⟩,
  ⟨(some 19),.mov (.tmp 18),none⟩,
  ⟨(some 20),.mov (.tmp 0),(some (19,true))⟩,
  ⟨(some 21),.mov (.tmp 7),(some (19,true))⟩,
  ⟨(some 22),.idxAddr 1 (.tmp 20) (.tmp 21),(some (19,true))⟩,
  ⟨(some 23),.load false 1 (.tmp 22),(some (19,true))⟩,
  ⟨(some 24),.mov (.tmp 0),(some (19,true))⟩,
  ⟨(some 25),.mov (.tmp 7),(some (19,true))⟩,
  ⟨(some 26),.bin .sub (.tmp 25) (.con (.int .i64 1)),(some (19,true))⟩,
  ⟨(some 27),.idxAddr 1 (.tmp 24) (.tmp 26),(some (19,true))⟩,
  ⟨(some 28),.load false 1 (.tmp 27),(some (19,true))⟩,
  ⟨(some 29),.call 215 [(.tmp 23),(.tmp 28)],(some (19,true))⟩,
  ⟨(some 30),.pick (.tmp 19) (.tmp 29) (.con (.bool false)),none⟩])
 (.cond (.tmp 30)
 .skip
 (.exit 2)))
 (.seq (.block 3 (.ops [⟨(some 33),.mov (.tmp 0),none⟩,
  ⟨(some 34),.mov (.tmp 7),none⟩,
  ⟨(some 35),.mov (.tmp 0),none⟩,
  ⟨(some 36),.mov (.tmp 7),none⟩,
  ⟨(some 37),.bin .sub (.tmp 36) (.con (.int .i64 1)),none⟩,
  ⟨(some 38),.mov (.tmp 0),none⟩,
  ⟨(some 39),.mov (.tmp 7),none⟩,
  ⟨(some 40),.bin .sub (.tmp 39) (.con (.int .i64 1)),none⟩,
  ⟨(some 41),.idxAddr 1 (.tmp 38) (.tmp 40),none⟩,
  ⟨(some 42),.load false 1 (.tmp 41),none⟩,
  ⟨(some 43),.mov (.tmp 0),none⟩,
  ⟨(some 44),.mov (.tmp 7),none⟩,
  ⟨(some 45),.idxAddr 1 (.tmp 43) (.tmp 44),none⟩,
  ⟨(some 46),.load false 1 (.tmp 45),none⟩,
  ⟨(some 47),.idxAddr 1 (.tmp 33) (.tmp 34),none⟩,
  ⟨none,.store 1 (.tmp 47) (.tmp 42),none⟩,
  ⟨(some 48),.idxAddr 1 (.tmp 35) (.tmp 37),none⟩,
  ⟨none,.store 1 (.tmp 48) (.tmp 46),none⟩]))
 (.ops [⟨(some 31),.mov (.tmp 7),none⟩,
  ⟨(some 32),.bin .sub (.tmp 31) (.con (.int .i64 1)),none⟩,
  ⟨(some 7),.mov (.tmp 32),none⟩])))
def c209l1 : ACode:=(.seq (.seq (.ops [⟨(some 10),.mov (.tmp 6),none⟩,
  ⟨(some 11),.mov (.tmp 2),none⟩,
  ⟨(some 12),.bin .lss (.tmp 10) (.tmp 11),none⟩])
 (.cond (.tmp 12)
 .skip
 (.exit 0)))
 (.seq (.block 1 (.seq (.ops [⟨(some 15),.mov (.tmp 6),none⟩,
  ⟨(some 7),.mov (.tmp 15),none⟩])
 (.block 2 (.loop c209l0))))
 (.ops [⟨(some 13),.mov (.tmp 6),none⟩,
  ⟨(some 14),.bin .add (.tmp 13) (.con (.int .i64 1)),none⟩,
  ⟨(some 6),.mov (.tmp 14),none⟩])))
def c209 : ACode:=(.seq (.ops [⟨(some 8),.mov (.tmp 1),none⟩,
  ⟨(some 9),.bin .add (.tmp 8) (.con (.int .i64 1)),none⟩,
  ⟨(some 6),.mov (.tmp 9),none⟩])
 (.block 0 (.loop c209l1)))
def a209 : AFunc:=⟨3,c209,[]⟩
theorem k209 : cFunc Tryz.prog Tryz.f209=some a209:=by kernel_rfl
/- 215: cmp.Less[string] -/
def c215 : ACode:=(.seq (.ops [⟨(some 4),.mov (.con (.bool false)),none⟩])
 (.seq (.ops [⟨(some 5),.mov (.tmp 0),none⟩,
  ⟨(some 6),.call 252 [(.tmp 5)],none⟩,
  ⟨(some 7),.mov (.tmp 6),none⟩,
  ⟨(some 8),.mov (.tmp 1),(some (7,true))⟩,
  ⟨(some 9),.call 252 [(.tmp 8)],(some (7,true))⟩,
  ⟨(some 10),.un .not (.tmp 9),(some (7,true))⟩,
  ⟨(some 11),.pick (.tmp 7) (.tmp 10) (.con (.bool false)),none⟩,
  ⟨(some 12),.mov (.tmp 11),none⟩,
  ⟨(some 13),.mov (.tmp 0),(some (12,false))⟩,
  ⟨(some 14),.mov (.tmp 1),(some (12,false))⟩,
  ⟨(some 15),.bin .lss (.tmp 13) (.tmp 14),(some (12,false))⟩,
  ⟨(some 16),.pick (.tmp 12) (.con (.bool true)) (.tmp 15),none⟩,
  ⟨(some 4),.mov (.tmp 16),none⟩])
 .ret))
def a215 : AFunc:=⟨2,c215,[.tmp 4]⟩
theorem k215 : cFunc Tryz.prog Tryz.f215=some a215:=by kernel_rfl
/- 220: (*tendril/drop.Drop).wants -/
def c220 : ACode:=(.seq (.ops [⟨(some 4),.box (.tmp 1),none⟩])
 (.ops [⟨(some 6),.mov (.tmp 0),none⟩,
  ⟨(some 7),.mov (.tmp 0),none⟩,
  ⟨(some 8),.load true 6 (.tmp 4),none⟩,
  ⟨(some 9),.mov (.tmp 2),none⟩,
  ⟨(some 10),.nilChk (.tmp 6),none⟩,
  ⟨(some 11),.fieldAddr 6 (.tmp 10),none⟩,
  ⟨none,.store 6 (.tmp 11) (.tmp 8),none⟩,
  ⟨(some 12),.nilChk (.tmp 7),none⟩,
  ⟨(some 13),.fieldAddr 12 (.tmp 12),none⟩,
  ⟨none,.store 1 (.tmp 13) (.tmp 9),none⟩]))
def a220 : AFunc:=⟨3,c220,[]⟩
theorem k220 : cFunc Tryz.prog Tryz.f220=some a220:=by kernel_rfl
/- 221: (*tendril/drop.Drop).atEpoch -/
def c221 : ACode:=(.seq (.ops [⟨(some 3),.box (.tmp 1),none⟩])
 (.ops [⟨(some 4),.mov (.tmp 0),none⟩,
  ⟨(some 5),.fieldAddr 1 (.tmp 3),none⟩,
  ⟨(some 6),.load false 1 (.tmp 5),none⟩,
  ⟨(some 7),.build [(.int .i64 0),(.int .i64 0),(.int .i64 0),(.int .i64 0),(.int .u64 0),.nilSlice] [(0,1,(.con (.int .i64 8))),(3,1,(.tmp 6))],none⟩,
  ⟨(some 8),.call 220 [(.tmp 4),(.tmp 7),(.con (.func (.func 253) [] []))],none⟩]))
def a221 : AFunc:=⟨2,c221,[]⟩
theorem k221 : cFunc Tryz.prog Tryz.f221=some a221:=by kernel_rfl
/- 224: math/bits.Mul -/
def c224 : ACode:=(.seq (.ops [⟨(some 4),.mov (.con (.int .u64 0)),none⟩,
  ⟨(some 5),.mov (.con (.int .u64 0)),none⟩])
 (.seq (.cond (.con (.bool false))
 (.seq (.ops [⟨(some 11),.mov (.tmp 0),none⟩,
  ⟨(some 12),.toInt .u32 (.tmp 11),none⟩,
  ⟨(some 13),.mov (.tmp 1),none⟩,
  ⟨(some 14),.toInt .u32 (.tmp 13),none⟩,
  ⟨(some 15),.call 254 [(.tmp 12),(.tmp 14)],none⟩,
  ⟨(some 10),.mov (.tmp 15),none⟩,
  ⟨(some 16),.extract (.tmp 10) 0,none⟩,
  ⟨(some 17),.extract (.tmp 10) 1,none⟩,
  ⟨(some 6),.mov (.tmp 16),none⟩,
  ⟨(some 7),.mov (.tmp 17),none⟩])
 (.seq (.ops [⟨(some 18),.mov (.tmp 6),none⟩,
  ⟨(some 19),.toInt .u64 (.tmp 18),none⟩,
  ⟨(some 20),.mov (.tmp 7),none⟩,
  ⟨(some 21),.toInt .u64 (.tmp 20),none⟩,
  ⟨(some 4),.mov (.tmp 19),none⟩,
  ⟨(some 5),.mov (.tmp 21),none⟩])
 .ret))
 .skip)
 (.seq (.ops [⟨(some 23),.mov (.tmp 0),none⟩,
  ⟨(some 24),.mov (.tmp 1),none⟩,
  ⟨(some 25),.call 255 [(.tmp 23),(.tmp 24)],none⟩,
  ⟨(some 22),.mov (.tmp 25),none⟩,
  ⟨(some 26),.extract (.tmp 22) 0,none⟩,
  ⟨(some 27),.extract (.tmp 22) 1,none⟩,
  ⟨(some 8),.mov (.tmp 26),none⟩,
  ⟨(some 9),.mov (.tmp 27),none⟩])
 (.seq (.ops [⟨(some 28),.mov (.tmp 8),none⟩,
  ⟨(some 29),.mov (.tmp 9),none⟩,
  ⟨(some 4),.mov (.tmp 28),none⟩,
  ⟨(some 5),.mov (.tmp 29),none⟩])
 .ret))))
def a224 : AFunc:=⟨2,c224,[.tmp 4,.tmp 5]⟩
theorem k224 : cFunc Tryz.prog Tryz.f224=some a224:=by kernel_rfl
/- 243: (*tendril/arena.Arena).of -/
def c243 : ACode:=(.seq (.ops [⟨(some 4),.mov (.con .nilPtr),none⟩,
  ⟨(some 5),.mov (.con (.int .i64 0)),none⟩])
 (.seq (.ops [⟨(some 12),.mov (.tmp 1),none⟩,
  ⟨(some 13),.call 204 [(.tmp 12)],none⟩,
  ⟨(some 11),.mov (.tmp 13),none⟩,
  ⟨(some 14),.extract (.tmp 11) 0,none⟩,
  ⟨(some 15),.extract (.tmp 11) 1,none⟩,
  ⟨(some 16),.extract (.tmp 11) 2,none⟩,
  ⟨(some 17),.extract (.tmp 11) 3,none⟩,
  ⟨(some 6),.mov (.tmp 14),none⟩,
  ⟨(some 7),.mov (.tmp 15),none⟩,
  ⟨(some 8),.mov (.tmp 16),none⟩,
  ⟨(some 9),.mov (.tmp 17),none⟩])
 (.seq (.seq (.ops [⟨(some 18),.mov (.tmp 9),none⟩,
  ⟨(some 19),.un .not (.tmp 18),none⟩,
  ⟨(some 20),.mov (.tmp 19),none⟩,
  ⟨(some 21),.mov (.tmp 6),(some (20,false))⟩,
  ⟨(some 22),.mov (.tmp 0),(some (20,false))⟩,
  ⟨(some 23),.nilChk (.tmp 22),(some (20,false))⟩,
  ⟨(some 24),.fieldAddr 0 (.tmp 23),(some (20,false))⟩,
  ⟨(some 25),.load false 1 (.tmp 24),(some (20,false))⟩,
  ⟨(some 26),.lenSlice (.tmp 25),(some (20,false))⟩,
  ⟨(some 27),.bin .geq (.tmp 21) (.tmp 26),(some (20,false))⟩,
  ⟨(some 28),.pick (.tmp 20) (.con (.bool true)) (.tmp 27),none⟩,
  ⟨(some 29),.mov (.tmp 28),none⟩,
  ⟨(some 30),.mov (.tmp 8),(some (29,false))⟩,
  ⟨(some 31),.mov (.tmp 0),(some (29,false))⟩,
  ⟨(some 32),.nilChk (.tmp 31),(some (29,false))⟩,
  ⟨(some 33),.fieldAddr 0 (.tmp 32),(some (29,false))⟩,
  ⟨(some 34),.load false 1 (.tmp 33),(some (29,false))⟩,
  ⟨(some 35),.mov (.tmp 6),(some (29,false))⟩,
  ⟨(some 36),.idxAddr 4 (.tmp 34) (.tmp 35),(some (29,false))⟩,
  ⟨(some 37),.fieldAddr 0 (.tmp 36),(some (29,false))⟩,
  ⟨(some 38),.load false 1 (.tmp 37),(some (29,false))⟩,
  ⟨(some 39),.bin .eql (.tmp 38) (.con (.int .i64 0)),(some (29,false))⟩,
  ⟨(some 40),.eqB true (.tmp 30) (.tmp 39),(some (29,false))⟩,
  ⟨(some 41),.pick (.tmp 29) (.con (.bool true)) (.tmp 40),none⟩])
 (.cond (.tmp 41)
 (.seq (.ops [⟨(some 4),.mov (.con .nilPtr),none⟩,
  ⟨(some 5),.mov (.con (.int .i64 1)),none⟩])
 .ret)
 .skip))
 (.seq (.ops [⟨(some 42),.mov (.tmp 0),none⟩,
  ⟨(some 43),.nilChk (.tmp 42),none⟩,
  ⟨(some 44),.fieldAddr 0 (.tmp 43),none⟩,
  ⟨(some 45),.load false 1 (.tmp 44),none⟩,
  ⟨(some 46),.mov (.tmp 6),none⟩,
  ⟨(some 47),.idxAddr 4 (.tmp 45) (.tmp 46),none⟩,
  ⟨(some 10),.mov (.tmp 47),none⟩])
 (.seq (.seq (.ops [⟨(some 48),.mov (.tmp 10),none⟩,
  ⟨(some 49),.nilChk (.tmp 48),none⟩,
  ⟨(some 50),.fieldAddr 1 (.tmp 49),none⟩,
  ⟨(some 51),.load false 1 (.tmp 50),none⟩,
  ⟨(some 52),.mov (.tmp 7),none⟩,
  ⟨(some 53),.bin .neq (.tmp 51) (.tmp 52),none⟩])
 (.cond (.tmp 53)
 (.seq (.ops [⟨(some 4),.mov (.con .nilPtr),none⟩,
  ⟨(some 5),.mov (.con (.int .i64 4)),none⟩])
 .ret)
 .skip))
 (.seq (.seq (.ops [⟨(some 54),.mov (.tmp 10),none⟩,
  ⟨(some 55),.nilChk (.tmp 54),none⟩,
  ⟨(some 56),.fieldAddr 2 (.tmp 55),none⟩,
  ⟨(some 57),.load false 1 (.tmp 56),none⟩,
  ⟨(some 58),.un .not (.tmp 57),none⟩])
 (.cond (.tmp 58)
 (.seq (.ops [⟨(some 4),.mov (.con .nilPtr),none⟩,
  ⟨(some 5),.mov (.con (.int .i64 3)),none⟩])
 .ret)
 .skip))
 (.seq (.ops [⟨(some 59),.mov (.tmp 10),none⟩,
  ⟨(some 4),.mov (.tmp 59),none⟩,
  ⟨(some 5),.mov (.con (.int .i64 0)),none⟩])
 .ret)))))))
def a243 : AFunc:=⟨2,c243,[.tmp 4,.tmp 5]⟩
theorem k243 : cFunc Tryz.prog Tryz.f243=some a243:=by kernel_rfl
/- 225: (*tendril/get.Get).atPin -/
def c225 : ACode:=(.seq (.ops [⟨(some 3),.box (.tmp 1),none⟩])
 (.ops [⟨(some 4),.mov (.tmp 0),none⟩,
  ⟨(some 5),.call 256 [(.tmp 4)],none⟩]))
def a225 : AFunc:=⟨2,c225,[]⟩
theorem k225 : cFunc Tryz.prog Tryz.f225=some a225:=by kernel_rfl
/- 226: (*tendril/put.Put).atPin -/
def c226 : ACode:=(.seq (.ops [⟨(some 3),.box (.tmp 1),none⟩])
 (.ops [⟨(some 4),.mov (.tmp 0),none⟩,
  ⟨(some 5),.call 257 [(.tmp 4)],none⟩]))
def a226 : AFunc:=⟨2,c226,[]⟩
theorem k226 : cFunc Tryz.prog Tryz.f226=some a226:=by kernel_rfl
/- 81: (*tendril/epoch.Epochs).Limbo -/
def c81 : ACode:=(.seq (.ops [⟨(some 4),.mov (.con (.int .i64 0)),none⟩])
 (.seq (.ops [⟨(some 6),.mov (.tmp 0),none⟩,
  ⟨(some 7),.mov (.tmp 1),none⟩,
  ⟨(some 8),.call 123 [(.tmp 6),(.tmp 7)],none⟩,
  ⟨(some 5),.mov (.tmp 8),none⟩])
 (.seq (.seq (.ops [⟨(some 9),.mov (.tmp 5),none⟩,
  ⟨(some 10),.eqNil 0 false (.tmp 9) (.con .nilPtr),none⟩])
 (.cond (.tmp 10)
 (.seq (.ops [⟨(some 4),.mov (.con (.int .i64 0)),none⟩])
 .ret)
 .skip))
 (.seq (.ops [⟨(some 11),.mov (.tmp 5),none⟩,
  ⟨(some 12),.nilChk (.tmp 11),none⟩,
  ⟨(some 13),.fieldAddr 1 (.tmp 12),none⟩,
  ⟨(some 14),.load false 1 (.tmp 13),none⟩,
  ⟨(some 15),.lenSlice (.tmp 14),none⟩,
  ⟨(some 4),.mov (.tmp 15),none⟩])
 .ret))))
def a81 : AFunc:=⟨2,c81,[.tmp 4]⟩
theorem k81 : cFunc Tryz.prog Tryz.f81=some a81:=by kernel_rfl
/- 227: (*tendril/tick.Tick).wants -/
def c227 : ACode:=(.seq (.ops [⟨(some 4),.box (.tmp 1),none⟩])
 (.ops [⟨(some 6),.mov (.tmp 0),none⟩,
  ⟨(some 7),.mov (.tmp 0),none⟩,
  ⟨(some 8),.load true 6 (.tmp 4),none⟩,
  ⟨(some 9),.mov (.tmp 2),none⟩,
  ⟨(some 10),.nilChk (.tmp 6),none⟩,
  ⟨(some 11),.fieldAddr 1 (.tmp 10),none⟩,
  ⟨none,.store 6 (.tmp 11) (.tmp 8),none⟩,
  ⟨(some 12),.nilChk (.tmp 7),none⟩,
  ⟨(some 13),.fieldAddr 7 (.tmp 12),none⟩,
  ⟨none,.store 1 (.tmp 13) (.tmp 9),none⟩]))
def a227 : AFunc:=⟨3,c227,[]⟩
theorem k227 : cFunc Tryz.prog Tryz.f227=some a227:=by kernel_rfl
/- 228: (*tendril/tick.Tick).atEpoch -/
def c228 : ACode:=(.seq (.ops [⟨(some 3),.box (.tmp 1),none⟩])
 (.seq (.ops [⟨(some 4),.mov (.tmp 0),none⟩,
  ⟨(some 5),.fieldAddr 1 (.tmp 3),none⟩,
  ⟨(some 6),.load false 1 (.tmp 5),none⟩,
  ⟨(some 7),.nilChk (.tmp 4),none⟩,
  ⟨(some 8),.fieldAddr 8 (.tmp 7),none⟩,
  ⟨none,.store 1 (.tmp 8) (.tmp 6),none⟩])
 (.ops [⟨(some 9),.mov (.tmp 0),none⟩,
  ⟨(some 10),.build [(.int .i64 0),(.int .i64 0),(.int .i64 0),(.int .i64 0),(.int .u64 0),.nilSlice] [(0,1,(.con (.int .i64 10)))],none⟩,
  ⟨(some 11),.call 227 [(.tmp 9),(.tmp 10),(.con (.func (.func 258) [] []))],none⟩])))
def a228 : AFunc:=⟨2,c228,[]⟩
theorem k228 : cFunc Tryz.prog Tryz.f228=some a228:=by kernel_rfl
/- 229: slices.BinarySearchFunc[[][]int,[]int,int] -/
def c229l0 : ACode:=(.seq (.seq (.ops [⟨(some 15),.mov (.tmp 9),none⟩,
  ⟨(some 16),.mov (.tmp 10),none⟩,
  ⟨(some 17),.bin .lss (.tmp 15) (.tmp 16),none⟩])
 (.cond (.tmp 17)
 .skip
 (.exit 0)))
 (.block 1 (.seq (.ops [⟨(some 18),.mov (.tmp 9),none⟩,
  ⟨(some 19),.mov (.tmp 10),none⟩,
  ⟨(some 20),.bin .add (.tmp 18) (.tmp 19),none⟩,
  ⟨(some 21),.toInt .u64 (.tmp 20),none⟩,
  ⟨(some 22),.bin .shr (.tmp 21) (.con (.int .u64 1)),none⟩,
  ⟨(some 23),.toInt .i64 (.tmp 22),none⟩,
  ⟨(some 11),.mov (.tmp 23),none⟩])
 (.seq (.ops [⟨(some 24),.mov (.tmp 2),none⟩,
  ⟨(some 25),.mov (.tmp 0),none⟩,
  ⟨(some 26),.mov (.tmp 11),none⟩,
  ⟨(some 27),.idxAddr 1 (.tmp 25) (.tmp 26),none⟩,
  ⟨(some 28),.load false 1 (.tmp 27),none⟩,
  ⟨(some 29),.mov (.tmp 1),none⟩,
  ⟨(some 30),.callV (.tmp 24) [(.tmp 28),(.tmp 29)],none⟩,
  ⟨(some 31),.bin .lss (.tmp 30) (.con (.int .i64 0)),none⟩])
 (.cond (.tmp 31)
 (.ops [⟨(some 32),.mov (.tmp 11),none⟩,
  ⟨(some 33),.bin .add (.tmp 32) (.con (.int .i64 1)),none⟩,
  ⟨(some 9),.mov (.tmp 33),none⟩])
 (.ops [⟨(some 34),.mov (.tmp 11),none⟩,
  ⟨(some 10),.mov (.tmp 34),none⟩]))))))
def c229 : ACode:=(.seq (.ops [⟨(some 6),.mov (.con (.int .i64 0)),none⟩,
  ⟨(some 7),.mov (.con (.bool false)),none⟩])
 (.seq (.ops [⟨(some 12),.mov (.tmp 0),none⟩,
  ⟨(some 13),.lenSlice (.tmp 12),none⟩,
  ⟨(some 8),.mov (.tmp 13),none⟩])
 (.seq (.ops [⟨(some 14),.mov (.tmp 8),none⟩,
  ⟨(some 9),.mov (.con (.int .i64 0)),none⟩,
  ⟨(some 10),.mov (.tmp 14),none⟩])
 (.seq (.block 0 (.loop c229l0))
 (.seq (.ops [⟨(some 35),.mov (.tmp 9),none⟩,
  ⟨(some 36),.mov (.tmp 9),none⟩,
  ⟨(some 37),.mov (.tmp 8),none⟩,
  ⟨(some 38),.bin .lss (.tmp 36) (.tmp 37),none⟩,
  ⟨(some 39),.mov (.tmp 38),none⟩,
  ⟨(some 40),.mov (.tmp 2),(some (39,true))⟩,
  ⟨(some 41),.mov (.tmp 0),(some (39,true))⟩,
  ⟨(some 42),.mov (.tmp 9),(some (39,true))⟩,
  ⟨(some 43),.idxAddr 1 (.tmp 41) (.tmp 42),(some (39,true))⟩,
  ⟨(some 44),.load false 1 (.tmp 43),(some (39,true))⟩,
  ⟨(some 45),.mov (.tmp 1),(some (39,true))⟩,
  ⟨(some 46),.callV (.tmp 40) [(.tmp 44),(.tmp 45)],(some (39,true))⟩,
  ⟨(some 47),.bin .eql (.tmp 46) (.con (.int .i64 0)),(some (39,true))⟩,
  ⟨(some 48),.pick (.tmp 39) (.tmp 47) (.con (.bool false)),none⟩,
  ⟨(some 6),.mov (.tmp 35),none⟩,
  ⟨(some 7),.mov (.tmp 48),none⟩])
 .ret)))))
def a229 : AFunc:=⟨3,c229,[.tmp 6,.tmp 7]⟩
theorem k229 : cFunc Tryz.prog Tryz.f229=some a229:=by kernel_rfl
/- 230: (tendril/posting.List).block$1 -/
def c230 : ACode:=(.seq (.ops [⟨(some 4),.mov (.con (.int .i64 0)),none⟩])
 (.seq (.seq (.ops [⟨(some 5),.mov (.tmp 0),none⟩,
  ⟨(some 6),.idxAddr 1 (.tmp 5) (.con (.int .i64 0)),none⟩,
  ⟨(some 7),.load false 1 (.tmp 6),none⟩,
  ⟨(some 8),.mov (.tmp 1),none⟩,
  ⟨(some 9),.bin .leq (.tmp 7) (.tmp 8),none⟩])
 (.cond (.tmp 9)
 (.seq (.ops [⟨(some 4),.mov (.con (.int .i64 (-1))),none⟩])
 .ret)
 .skip))
 (.seq (.ops [⟨(some 4),.mov (.con (.int .i64 1)),none⟩])
 .ret)))
def a230 : AFunc:=⟨2,c230,[.tmp 4]⟩
theorem k230 : cFunc Tryz.prog Tryz.f230=some a230:=by kernel_rfl
/- 170: cmp.Less[int] -/
def c170 : ACode:=(.seq (.ops [⟨(some 4),.mov (.con (.bool false)),none⟩])
 (.seq (.ops [⟨(some 5),.mov (.tmp 0),none⟩,
  ⟨(some 6),.call 222 [(.tmp 5)],none⟩,
  ⟨(some 7),.mov (.tmp 6),none⟩,
  ⟨(some 8),.mov (.tmp 1),(some (7,true))⟩,
  ⟨(some 9),.call 222 [(.tmp 8)],(some (7,true))⟩,
  ⟨(some 10),.un .not (.tmp 9),(some (7,true))⟩,
  ⟨(some 11),.pick (.tmp 7) (.tmp 10) (.con (.bool false)),none⟩,
  ⟨(some 12),.mov (.tmp 11),none⟩,
  ⟨(some 13),.mov (.tmp 0),(some (12,false))⟩,
  ⟨(some 14),.mov (.tmp 1),(some (12,false))⟩,
  ⟨(some 15),.bin .lss (.tmp 13) (.tmp 14),(some (12,false))⟩,
  ⟨(some 16),.pick (.tmp 12) (.con (.bool true)) (.tmp 15),none⟩,
  ⟨(some 4),.mov (.tmp 16),none⟩])
 .ret))
def a170 : AFunc:=⟨2,c170,[.tmp 4]⟩
theorem k170 : cFunc Tryz.prog Tryz.f170=some a170:=by kernel_rfl
/- 171: slices.isNaN[int] -/
def c171 : ACode:=(.seq (.ops [⟨(some 2),.mov (.con (.bool false)),none⟩])
 (.seq (.ops [⟨(some 3),.mov (.tmp 0),none⟩,
  ⟨(some 4),.mov (.tmp 0),none⟩,
  ⟨(some 5),.bin .neq (.tmp 3) (.tmp 4),none⟩,
  ⟨(some 2),.mov (.tmp 5),none⟩])
 .ret))
def a171 : AFunc:=⟨1,c171,[.tmp 2]⟩
theorem k171 : cFunc Tryz.prog Tryz.f171=some a171:=by kernel_rfl
/- 232: slices.Grow[[][]int,[]int] -/
def c232 : ACode:=(.seq (.ops [⟨(some 4),.mov (.con .nilSlice),none⟩])
 (.seq (.seq (.ops [⟨(some 5),.mov (.tmp 1),none⟩,
  ⟨(some 6),.bin .lss (.tmp 5) (.con (.int .i64 0)),none⟩])
 (.cond (.tmp 6)
 (.ops [⟨(some 7),.mkIface 9 (.con (.str [99,97,110,110,111,116,32,98,101,32,110,101,103,97,116,105,118,101])),none⟩,
  ⟨none,.stuck,none⟩])
 .skip))
 (.seq (.seq (.ops [⟨(some 8),.mov (.tmp 1),none⟩,
  ⟨(some 9),.mov (.tmp 0),none⟩,
  ⟨(some 10),.capSlice (.tmp 9),none⟩,
  ⟨(some 11),.mov (.tmp 0),none⟩,
  ⟨(some 12),.lenSlice (.tmp 11),none⟩,
  ⟨(some 13),.bin .sub (.tmp 10) (.tmp 12),none⟩,
  ⟨(some 14),.bin .sub (.tmp 8) (.tmp 13),none⟩,
  ⟨(some 1),.mov (.tmp 14),none⟩])
 (.seq (.ops [⟨(some 15),.mov (.tmp 1),none⟩,
  ⟨(some 16),.bin .gtr (.tmp 15) (.con (.int .i64 0)),none⟩])
 (.cond (.tmp 16)
 (.ops [⟨(some 17),.mov (.tmp 0),none⟩,
  ⟨(some 18),.mov (.tmp 0),none⟩,
  ⟨(some 19),.capSlice (.tmp 18),none⟩,
  ⟨(some 20),.slc 1 (.tmp 17) none (some (.tmp 19)) none,none⟩,
  ⟨(some 21),.mov (.tmp 1),none⟩,
  ⟨(some 22),.appendZ 1 24 [.nilSlice] (.tmp 20) (.tmp 21),none⟩,
  ⟨(some 23),.mov (.tmp 0),none⟩,
  ⟨(some 24),.lenSlice (.tmp 23),none⟩,
  ⟨(some 25),.slc 1 (.tmp 22) none (some (.tmp 24)) none,none⟩,
  ⟨(some 0),.mov (.tmp 25),none⟩])
 .skip)))
 (.seq (.ops [⟨(some 26),.mov (.tmp 0),none⟩,
  ⟨(some 4),.mov (.tmp 26),none⟩])
 .ret))))
def a232 : AFunc:=⟨2,c232,[.tmp 4]⟩
theorem k232 : cFunc Tryz.prog Tryz.f232=some a232:=by kernel_rfl
/- 233: (*tendril/query.reader).word -/
def c233l0 : ACode:=(.seq (.seq (.ops [⟨(some 3),.mov (.tmp 0),none⟩,
  ⟨(some 4),.nilChk (.tmp 3),none⟩,
  ⟨(some 5),.fieldAddr 0 (.tmp 4),none⟩,
  ⟨(some 6),.load false 1 (.tmp 5),none⟩,
  ⟨(some 7),.bin .neq (.tmp 6) (.con (.str [])),none⟩,
  ⟨(some 8),.mov (.tmp 7),none⟩,
  ⟨(some 9),.mov (.tmp 0),(some (8,true))⟩,
  ⟨(some 10),.nilChk (.tmp 9),(some (8,true))⟩,
  ⟨(some 11),.fieldAddr 0 (.tmp 10),(some (8,true))⟩,
  ⟨(some 12),.load false 1 (.tmp 11),(some (8,true))⟩,
  ⟨(some 13),.idxStr (.tmp 12) (.con (.int .i64 0)),(some (8,true))⟩,
  ⟨(some 14),.call 106 [(.tmp 13)],(some (8,true))⟩,
  ⟨(some 15),.bin .neq (.tmp 14) (.con (.int .u8 0)),(some (8,true))⟩,
  ⟨(some 16),.pick (.tmp 8) (.tmp 15) (.con (.bool false)),none⟩])
 (.cond (.tmp 16)
 .skip
 (.exit 0)))
 (.block 1 (.seq (.ops [⟨(some 17),.mov (.tmp 2),none⟩,
  ⟨(some 18),.mov (.tmp 0),none⟩,
  ⟨(some 19),.nilChk (.tmp 18),none⟩,
  ⟨(some 20),.fieldAddr 0 (.tmp 19),none⟩,
  ⟨(some 21),.load false 1 (.tmp 20),none⟩,
  ⟨(some 22),.idxStr (.tmp 21) (.con (.int .i64 0)),none⟩,
  ⟨(some 23),.call 106 [(.tmp 22)],none⟩,
  ⟨(some 24),.buildSlice 1 1 [(.int .u8 0)] [(0,1,(.tmp 23))],none⟩,
  ⟨(some 25),.append 1 1 (.tmp 17) (.tmp 24),none⟩,
  ⟨(some 2),.mov (.tmp 25),none⟩])
 (.ops [⟨(some 26),.mov (.tmp 0),none⟩,
  ⟨(some 27),.mov (.tmp 0),none⟩,
  ⟨(some 28),.nilChk (.tmp 27),none⟩,
  ⟨(some 29),.fieldAddr 0 (.tmp 28),none⟩,
  ⟨(some 30),.load false 1 (.tmp 29),none⟩,
  ⟨(some 31),.slcStr (.tmp 30) (some (.con (.int .i64 1))) none,none⟩,
  ⟨(some 32),.nilChk (.tmp 26),none⟩,
  ⟨(some 33),.fieldAddr 0 (.tmp 32),none⟩,
  ⟨none,.store 1 (.tmp 33) (.tmp 31),none⟩]))))
def c233 : ACode:=(.seq (.ops [⟨(some 2),.mov (.con .nilSlice),none⟩])
 (.seq (.block 0 (.loop c233l0))
 (.seq (.seq (.ops [⟨(some 34),.mov (.tmp 2),none⟩,
  ⟨(some 35),.lenSlice (.tmp 34),none⟩,
  ⟨(some 36),.bin .gtr (.tmp 35) (.con (.int .i64 12)),none⟩])
 (.cond (.tmp 36)
 (.ops [⟨(some 37),.mov (.tmp 0),none⟩,
  ⟨(some 38),.call 99 [(.tmp 37),(.con (.int .i64 6))],none⟩])
 .skip))
 (.ops [⟨(some 39),.mov (.tmp 0),none⟩,
  ⟨(some 40),.mov (.tmp 2),none⟩,
  ⟨(some 41),.toStr (.tmp 40),none⟩,
  ⟨(some 42),.call 149 [(.tmp 39),(.con (.int .i64 1)),(.tmp 41)],none⟩]))))
def a233 : AFunc:=⟨1,c233,[]⟩
theorem k233 : cFunc Tryz.prog Tryz.f233=some a233:=by kernel_rfl
/- 234: slices.insertionSortOrdered[int] -/
def c234l0 : ACode:=(.seq (.seq (.ops [⟨(some 16),.mov (.tmp 7),none⟩,
  ⟨(some 17),.mov (.tmp 1),none⟩,
  ⟨(some 18),.bin .gtr (.tmp 16) (.tmp 17),none⟩,
  ⟨(some 19),.mov (.tmp 18),none⟩,
  ⟨(some 20),.mov (.tmp 0),(some (19,true))⟩,
  ⟨(some 21),.mov (.tmp 7),(some (19,true))⟩,
  ⟨(some 22),.idxAddr 1 (.tmp 20) (.tmp 21),(some (19,true))⟩,
  ⟨(some 23),.load false 1 (.tmp 22),(some (19,true))⟩,
  ⟨(some 24),.mov (.tmp 0),(some (19,true))⟩,
  ⟨(some 25),.mov (.tmp 7),(some (19,true))⟩,
  ⟨(some 26),.bin .sub (.tmp 25) (.con (.int .i64 1)),(some (19,true))⟩,
  ⟨(some 27),.idxAddr 1 (.tmp 24) (.tmp 26),(some (19,true))⟩,
  ⟨(some 28),.load false 1 (.tmp 27),(some (19,true))⟩,
  ⟨(some 29),.call 170 [(.tmp 23),(.tmp 28)],(some (19,true))⟩,
  ⟨(some 30),.pick (.tmp 19) (.tmp 29) (.con (.bool false)),none⟩])
 (.cond (.tmp 30)
 .skip
 (.exit 2)))
 (.seq (.block 3 (.ops [⟨(some 33),.mov (.tmp 0),none⟩,
  ⟨(some 34),.mov (.tmp 7),none⟩,
  ⟨(some 35),.mov (.tmp 0),none⟩,
  ⟨(some 36),.mov (.tmp 7),none⟩,
  ⟨(some 37),.bin .sub (.tmp 36) (.con (.int .i64 1)),none⟩,
  ⟨(some 38),.mov (.tmp 0),none⟩,
  ⟨(some 39),.mov (.tmp 7),none⟩,
  ⟨(some 40),.bin .sub (.tmp 39) (.con (.int .i64 1)),none⟩,
  ⟨(some 41),.idxAddr 1 (.tmp 38) (.tmp 40),none⟩,
  ⟨(some 42),.load false 1 (.tmp 41),none⟩,
  ⟨(some 43),.mov (.tmp 0),none⟩,
  ⟨(some 44),.mov (.tmp 7),none⟩,
  ⟨(some 45),.idxAddr 1 (.tmp 43) (.tmp 44),none⟩,
  ⟨(some 46),.load false 1 (.tmp 45),none⟩,
  ⟨(some 47),.idxAddr 1 (.tmp 33) (.tmp 34),none⟩,
  ⟨none,.store 1 (.tmp 47) (.tmp 42),none⟩,
  ⟨(some 48),.idxAddr 1 (.tmp 35) (.tmp 37),none⟩,
  ⟨none,.store 1 (.tmp 48) (.tmp 46),none⟩]))
 (.ops [⟨(some 31),.mov (.tmp 7),none⟩,
  ⟨(some 32),.bin .sub (.tmp 31) (.con (.int .i64 1)),none⟩,
  ⟨(some 7),.mov (.tmp 32),none⟩])))
def c234l1 : ACode:=(.seq (.seq (.ops [⟨(some 10),.mov (.tmp 6),none⟩,
  ⟨(some 11),.mov (.tmp 2),none⟩,
  ⟨(some 12),.bin .lss (.tmp 10) (.tmp 11),none⟩])
 (.cond (.tmp 12)
 .skip
 (.exit 0)))
 (.seq (.block 1 (.seq (.ops [⟨(some 15),.mov (.tmp 6),none⟩,
  ⟨(some 7),.mov (.tmp 15),none⟩])
 (.block 2 (.loop c234l0))))
 (.ops [⟨(some 13),.mov (.tmp 6),none⟩,
  ⟨(some 14),.bin .add (.tmp 13) (.con (.int .i64 1)),none⟩,
  ⟨(some 6),.mov (.tmp 14),none⟩])))
def c234 : ACode:=(.seq (.ops [⟨(some 8),.mov (.tmp 1),none⟩,
  ⟨(some 9),.bin .add (.tmp 8) (.con (.int .i64 1)),none⟩,
  ⟨(some 6),.mov (.tmp 9),none⟩])
 (.block 0 (.loop c234l1)))
def a234 : AFunc:=⟨3,c234,[]⟩
theorem k234 : cFunc Tryz.prog Tryz.f234=some a234:=by kernel_rfl
/- 242: (*tendril/scan.Scan).atNode -/
def c242 : ACode:=(.seq (.ops [⟨(some 3),.box (.tmp 1),none⟩])
 (.seq (.ops [⟨(some 7),.fieldAddr 3 (.tmp 3),none⟩,
  ⟨(some 8),.load false 1 (.tmp 7),none⟩,
  ⟨(some 9),.call 263 [(.tmp 8)],none⟩,
  ⟨(some 6),.mov (.tmp 9),none⟩,
  ⟨(some 10),.extract (.tmp 6) 0,none⟩,
  ⟨(some 11),.extract (.tmp 6) 1,none⟩,
  ⟨(some 4),.new [(.int .i64 0),(.int .u64 0),(.str []),.nilSlice,.nilSlice],none⟩,
  ⟨none,.store 5 (.tmp 4) (.tmp 10),none⟩,
  ⟨(some 5),.mov (.tmp 11),none⟩])
 (.block 0 (.seq (.ops [⟨(some 13),.fieldAddr 0 (.tmp 3),none⟩,
  ⟨(some 14),.load false 1 (.tmp 13),none⟩,
  ⟨(some 15),.bin .neq (.tmp 14) (.con (.int .i64 0)),none⟩,
  ⟨(some 12),.mov (.tmp 15),none⟩])
 (.cond (.tmp 12)
 (.ops [⟨(some 16),.mov (.tmp 0),none⟩,
  ⟨(some 17),.fieldAddr 0 (.tmp 3),none⟩,
  ⟨(some 18),.load false 1 (.tmp 17),none⟩,
  ⟨(some 19),.call 264 [(.tmp 16),(.tmp 18)],none⟩])
 (.seq (.ops [⟨(some 21),.mov (.tmp 5),none⟩,
  ⟨(some 22),.un .not (.tmp 21),none⟩,
  ⟨(some 20),.mov (.tmp 22),none⟩])
 (.cond (.tmp 20)
 (.ops [⟨(some 23),.mov (.tmp 0),none⟩,
  ⟨(some 24),.call 264 [(.tmp 23),(.con (.int .i64 5))],none⟩])
 (.seq (.ops [⟨(some 26),.fieldAddr 1 (.tmp 4),none⟩,
  ⟨(some 27),.load false 1 (.tmp 26),none⟩,
  ⟨(some 28),.call 178 [(.tmp 27)],none⟩,
  ⟨(some 25),.mov (.tmp 28),none⟩])
 (.cond (.tmp 25)
 (.ops [⟨(some 29),.mov (.tmp 0),none⟩,
  ⟨(some 30),.call 199 [(.tmp 29)],none⟩])
 (.seq (.ops [⟨(some 32),.fieldAddr 1 (.tmp 4),none⟩,
  ⟨(some 33),.load false 1 (.tmp 32),none⟩,
  ⟨(some 34),.call 265 [(.tmp 33)],none⟩,
  ⟨(some 31),.mov (.tmp 34),none⟩])
 (.cond (.tmp 31)
 (.seq (.draw [.op ⟨(some 35),.mov (.tmp 0),none⟩,
  .op ⟨(some 36),.mov (.tmp 0),none⟩,
  .op ⟨(some 37),.nilChk (.tmp 36),none⟩,
  .op ⟨(some 38),.fieldAddr 12 (.tmp 37),none⟩,
  .op ⟨(some 39),.load false 1 (.tmp 38),none⟩,
  .op ⟨(some 40),.load true 5 (.tmp 4),none⟩,
  .op ⟨(some 41),.mov (.tmp 0),none⟩,
  .op ⟨(some 42),.nilChk (.tmp 41),none⟩,
  .op ⟨(some 43),.fieldAddr 11 (.tmp 42),none⟩,
  .op ⟨(some 44),.load false 1 (.tmp 43),none⟩,
  .op ⟨(some 45),.fieldAddr 2 (.tmp 4),none⟩,
  .op ⟨(some 46),.load false 1 (.tmp 45),none⟩,
  .op ⟨(some 47),.bin .add (.tmp 44) (.tmp 46),none⟩,
  .op ⟨(some 48),.build [(.int .i64 0),(.int .u64 0),(.str []),.nilSlice,.nilSlice,(.str []),(.int .i64 0)] [(0,5,(.tmp 40)),(5,1,(.tmp 47))],none⟩,
  .op ⟨(some 49),.buildSlice 7 1 [(.int .i64 0),(.int .u64 0),(.str []),.nilSlice,.nilSlice,(.str []),(.int .i64 0)] [(0,7,(.tmp 48))],none⟩,
  .look ⟨(some 39),.load false 1 (.tmp 38),none⟩,
  .look ⟨(some 40),.load true 5 (.tmp 4),none⟩,
  .look ⟨(some 44),.load false 1 (.tmp 43),none⟩,
  .look ⟨(some 46),.load false 1 (.tmp 45),none⟩,
  .look ⟨(some 49),.buildSlice 7 1 [(.int .i64 0),(.int .u64 0),(.str []),.nilSlice,.nilSlice,(.str []),(.int .i64 0)] [(0,7,(.tmp 48))],none⟩,
  .op ⟨(some 50),.append 7 104 (.tmp 39) (.tmp 49),none⟩,
  .op ⟨(some 51),.nilChk (.tmp 35),none⟩,
  .op ⟨(some 52),.fieldAddr 12 (.tmp 51),none⟩,
  .op ⟨none,.store 1 (.tmp 52) (.tmp 50),none⟩])
 (.ops [⟨(some 53),.mov (.tmp 0),none⟩,
  ⟨(some 54),.call 266 [(.tmp 53)],none⟩]))
 .skip)))))))))))
def a242 : AFunc:=⟨2,c242,[]⟩
theorem k242 : cFunc Tryz.prog Tryz.f242=some a242:=by kernel_rfl
/- 244: slices.Clone[[]tendril/epoch.retired,tendril/epoch.retired] -/
def c244 : ACode:=(.seq (.ops [⟨(some 2),.mov (.con .nilSlice),none⟩])
 (.seq (.seq (.ops [⟨(some 3),.mov (.tmp 0),none⟩,
  ⟨(some 4),.eqNil 1 false (.tmp 3) (.con .nilSlice),none⟩])
 (.cond (.tmp 4)
 (.seq (.ops [⟨(some 2),.mov (.con .nilSlice),none⟩])
 .ret)
 .skip))
 (.seq (.ops [⟨(some 5),.buildSlice 2 0 [] [],none⟩,
  ⟨(some 6),.mov (.tmp 0),none⟩,
  ⟨(some 7),.append 2 16 (.tmp 5) (.tmp 6),none⟩,
  ⟨(some 2),.mov (.tmp 7),none⟩])
 .ret)))
def a244 : AFunc:=⟨1,c244,[.tmp 2]⟩
theorem k244 : cFunc Tryz.prog Tryz.f244=some a244:=by kernel_rfl
/- 208: strings.Index -/
def c208 : ACode:=(.seq (.ops [⟨(some 4),.mov (.con (.int .i64 0)),none⟩])
 (.seq (.ops [⟨(some 5),.mov (.tmp 0),none⟩,
  ⟨(some 6),.mov (.tmp 1),none⟩,
  ⟨(some 7),.call 246 [(.tmp 5),(.tmp 6)],none⟩,
  ⟨(some 4),.mov (.tmp 7),none⟩])
 .ret))
def a208 : AFunc:=⟨2,c208,[.tmp 4]⟩
theorem k208 : cFunc Tryz.prog Tryz.f208=some a208:=by kernel_rfl
/- 252: cmp.isNaN[string] -/
def c252 : ACode:=(.seq (.ops [⟨(some 2),.mov (.con (.bool false)),none⟩])
 (.seq (.ops [⟨(some 3),.mov (.tmp 0),none⟩,
  ⟨(some 4),.mov (.tmp 0),none⟩,
  ⟨(some 5),.bin .neq (.tmp 3) (.tmp 4),none⟩,
  ⟨(some 2),.mov (.tmp 5),none⟩])
 .ret))
def a252 : AFunc:=⟨1,c252,[.tmp 2]⟩
theorem k252 : cFunc Tryz.prog Tryz.f252=some a252:=by kernel_rfl
/- 253: (*tendril/drop.Drop).atPin -/
def c253 : ACode:=(.seq (.ops [⟨(some 3),.box (.tmp 1),none⟩])
 (.ops [⟨(some 4),.mov (.tmp 0),none⟩,
  ⟨(some 5),.call 271 [(.tmp 4)],none⟩]))
def a253 : AFunc:=⟨2,c253,[]⟩
theorem k253 : cFunc Tryz.prog Tryz.f253=some a253:=by kernel_rfl
/- 255: math/bits.Mul64 -/
def c255 : ACode:=(.seq (.ops [⟨(some 4),.mov (.con (.int .u64 0)),none⟩,
  ⟨(some 5),.mov (.con (.int .u64 0)),none⟩])
 (.seq (.ops [⟨(some 14),.mov (.tmp 0),none⟩,
  ⟨(some 15),.bin .and (.tmp 14) (.con (.int .u64 4294967295)),none⟩,
  ⟨(some 6),.mov (.tmp 15),none⟩])
 (.seq (.ops [⟨(some 16),.mov (.tmp 0),none⟩,
  ⟨(some 17),.bin .shr (.tmp 16) (.con (.int .u64 32)),none⟩,
  ⟨(some 7),.mov (.tmp 17),none⟩])
 (.seq (.ops [⟨(some 18),.mov (.tmp 1),none⟩,
  ⟨(some 19),.bin .and (.tmp 18) (.con (.int .u64 4294967295)),none⟩,
  ⟨(some 8),.mov (.tmp 19),none⟩])
 (.seq (.ops [⟨(some 20),.mov (.tmp 1),none⟩,
  ⟨(some 21),.bin .shr (.tmp 20) (.con (.int .u64 32)),none⟩,
  ⟨(some 9),.mov (.tmp 21),none⟩])
 (.seq (.ops [⟨(some 22),.mov (.tmp 6),none⟩,
  ⟨(some 23),.mov (.tmp 8),none⟩,
  ⟨(some 24),.bin .mul (.tmp 22) (.tmp 23),none⟩,
  ⟨(some 10),.mov (.tmp 24),none⟩])
 (.seq (.ops [⟨(some 25),.mov (.tmp 7),none⟩,
  ⟨(some 26),.mov (.tmp 8),none⟩,
  ⟨(some 27),.bin .mul (.tmp 25) (.tmp 26),none⟩,
  ⟨(some 28),.mov (.tmp 10),none⟩,
  ⟨(some 29),.bin .shr (.tmp 28) (.con (.int .u64 32)),none⟩,
  ⟨(some 30),.bin .add (.tmp 27) (.tmp 29),none⟩,
  ⟨(some 11),.mov (.tmp 30),none⟩])
 (.seq (.ops [⟨(some 31),.mov (.tmp 11),none⟩,
  ⟨(some 32),.bin .and (.tmp 31) (.con (.int .u64 4294967295)),none⟩,
  ⟨(some 12),.mov (.tmp 32),none⟩])
 (.seq (.ops [⟨(some 33),.mov (.tmp 11),none⟩,
  ⟨(some 34),.bin .shr (.tmp 33) (.con (.int .u64 32)),none⟩,
  ⟨(some 13),.mov (.tmp 34),none⟩])
 (.seq (.ops [⟨(some 35),.mov (.tmp 12),none⟩,
  ⟨(some 36),.mov (.tmp 6),none⟩,
  ⟨(some 37),.mov (.tmp 9),none⟩,
  ⟨(some 38),.bin .mul (.tmp 36) (.tmp 37),none⟩,
  ⟨(some 39),.bin .add (.tmp 35) (.tmp 38),none⟩,
  ⟨(some 12),.mov (.tmp 39),none⟩])
 (.seq (.ops [⟨(some 40),.mov (.tmp 7),none⟩,
  ⟨(some 41),.mov (.tmp 9),none⟩,
  ⟨(some 42),.bin .mul (.tmp 40) (.tmp 41),none⟩,
  ⟨(some 43),.mov (.tmp 13),none⟩,
  ⟨(some 44),.bin .add (.tmp 42) (.tmp 43),none⟩,
  ⟨(some 45),.mov (.tmp 12),none⟩,
  ⟨(some 46),.bin .shr (.tmp 45) (.con (.int .u64 32)),none⟩,
  ⟨(some 47),.bin .add (.tmp 44) (.tmp 46),none⟩,
  ⟨(some 4),.mov (.tmp 47),none⟩])
 (.seq (.ops [⟨(some 48),.mov (.tmp 0),none⟩,
  ⟨(some 49),.mov (.tmp 1),none⟩,
  ⟨(some 50),.bin .mul (.tmp 48) (.tmp 49),none⟩,
  ⟨(some 5),.mov (.tmp 50),none⟩])
 .ret))))))))))))
def a255 : AFunc:=⟨2,c255,[.tmp 4,.tmp 5]⟩
theorem k255 : cFunc Tryz.prog Tryz.f255=some a255:=by kernel_rfl
/- 256: (*tendril/get.Get).begin -/
def c256 : ACode:=(.seq (.ops [⟨(some 2),.mov (.tmp 0),none⟩,
  ⟨(some 3),.mov (.tmp 0),none⟩,
  ⟨(some 4),.nilChk (.tmp 3),none⟩,
  ⟨(some 5),.fieldAddr 0 (.tmp 4),none⟩,
  ⟨(some 6),.load false 1 (.tmp 5),none⟩,
  ⟨(some 7),.nilChk (.tmp 2),none⟩,
  ⟨(some 8),.fieldAddr 1 (.tmp 7),none⟩,
  ⟨none,.store 1 (.tmp 8) (.tmp 6),none⟩])
 (.ops [⟨(some 9),.mov (.tmp 0),none⟩,
  ⟨(some 10),.mov (.tmp 0),none⟩,
  ⟨(some 11),.nilChk (.tmp 10),none⟩,
  ⟨(some 12),.fieldAddr 2 (.tmp 11),none⟩,
  ⟨(some 13),.load false 1 (.tmp 12),none⟩,
  ⟨(some 14),.call 272 [(.tmp 9),(.tmp 13),(.con (.func (.func 273) [] []))],none⟩]))
def a256 : AFunc:=⟨1,c256,[]⟩
theorem k256 : cFunc Tryz.prog Tryz.f256=some a256:=by kernel_rfl
/- 257: (*tendril/put.Put).attempt -/
def c257 : ACode:=(.seq (.ops [⟨(some 2),.mov (.tmp 0),none⟩,
  ⟨(some 3),.mov (.tmp 0),none⟩,
  ⟨(some 4),.mov (.tmp 0),none⟩,
  ⟨(some 5),.mov (.tmp 0),none⟩,
  ⟨(some 6),.build [(.int .i64 0),(.bool false),(.int .i64 0),.nilSlice] [],none⟩,
  ⟨(some 7),.nilChk (.tmp 2),none⟩,
  ⟨(some 8),.fieldAddr 30 (.tmp 7),none⟩,
  ⟨none,.store 1 (.tmp 8) (.con .nilSlice),none⟩,
  ⟨(some 9),.nilChk (.tmp 3),none⟩,
  ⟨(some 10),.fieldAddr 29 (.tmp 9),none⟩,
  ⟨none,.store 1 (.tmp 10) (.con .nilSlice),none⟩,
  ⟨(some 11),.nilChk (.tmp 4),none⟩,
  ⟨(some 12),.fieldAddr 31 (.tmp 11),none⟩,
  ⟨none,.store 1 (.tmp 12) (.con .nilSlice),none⟩,
  ⟨(some 13),.nilChk (.tmp 5),none⟩,
  ⟨(some 14),.fieldAddr 34 (.tmp 13),none⟩,
  ⟨none,.store 4 (.tmp 14) (.tmp 6),none⟩])
 (.block 0 (.seq (.ops [⟨(some 19),.mov (.tmp 0),none⟩,
  ⟨(some 20),.nilChk (.tmp 19),none⟩,
  ⟨(some 21),.fieldAddr 6 (.tmp 20),none⟩,
  ⟨(some 22),.load false 1 (.tmp 21),none⟩,
  ⟨(some 18),.mov (.tmp 22),none⟩])
 (.cond (.tmp 18)
 (.ops [⟨(some 23),.mov (.tmp 0),none⟩,
  ⟨(some 24),.call 274 [(.tmp 23)],none⟩])
 (.seq (.ops [⟨(some 26),.mov (.tmp 0),none⟩,
  ⟨(some 27),.nilChk (.tmp 26),none⟩,
  ⟨(some 28),.fieldAddr 5 (.tmp 27),none⟩,
  ⟨(some 29),.load false 1 (.tmp 28),none⟩,
  ⟨(some 30),.mov (.tmp 0),none⟩,
  ⟨(some 31),.nilChk (.tmp 30),none⟩,
  ⟨(some 32),.fieldAddr 4 (.tmp 31),none⟩,
  ⟨(some 33),.load false 1 (.tmp 32),none⟩,
  ⟨(some 34),.bin .geq (.tmp 29) (.tmp 33),none⟩,
  ⟨(some 25),.mov (.tmp 34),none⟩])
 (.cond (.tmp 25)
 (.ops [⟨(some 35),.mov (.tmp 0),none⟩,
  ⟨(some 36),.build [(.int .i64 0),(.int .i64 0),(.int .i64 0),(.int .i64 0),(.int .u64 0),.nilSlice] [(0,1,(.con (.int .i64 14)))],none⟩,
  ⟨(some 37),.call 184 [(.tmp 35),(.tmp 36),(.con (.func (.func 275) [] []))],none⟩])
 (.ops [⟨(some 15),.mov (.tmp 0),none⟩,
  ⟨(some 16),.build [(.int .i64 0),(.int .i64 0),(.int .i64 0),(.int .i64 0),(.int .u64 0),.nilSlice] [(0,1,(.con (.int .i64 13)))],none⟩,
  ⟨(some 17),.call 184 [(.tmp 15),(.tmp 16),(.con (.func (.func 276) [] []))],none⟩])))))))
def a257 : AFunc:=⟨1,c257,[]⟩
theorem k257 : cFunc Tryz.prog Tryz.f257=some a257:=by kernel_rfl
/- 258: (*tendril/tick.Tick).atPin -/
def c258 : ACode:=(.seq (.ops [⟨(some 3),.box (.tmp 1),none⟩])
 (.seq (.ops [⟨(some 5),.mov (.tmp 0),none⟩,
  ⟨(some 6),.nilChk (.tmp 5),none⟩,
  ⟨(some 7),.fieldAddr 1 (.tmp 6),none⟩,
  ⟨(some 8),.fieldAddr 3 (.tmp 7),none⟩,
  ⟨(some 9),.load false 1 (.tmp 8),none⟩,
  ⟨(some 10),.bin .add (.tmp 9) (.con (.int .i64 1)),none⟩,
  ⟨(some 4),.mov (.tmp 10),none⟩])
 (.block 0 (.seq (.ops [⟨(some 19),.fieldAddr 1 (.tmp 3),none⟩,
  ⟨(some 20),.load false 1 (.tmp 19),none⟩,
  ⟨(some 21),.bin .geq (.tmp 20) (.con (.int .i64 0)),none⟩,
  ⟨(some 22),.mov (.tmp 21),none⟩,
  ⟨(some 23),.fieldAddr 1 (.tmp 3),(some (22,true))⟩,
  ⟨(some 24),.load false 1 (.tmp 23),(some (22,true))⟩,
  ⟨(some 25),.mov (.tmp 0),(some (22,true))⟩,
  ⟨(some 26),.nilChk (.tmp 25),(some (22,true))⟩,
  ⟨(some 27),.fieldAddr 8 (.tmp 26),(some (22,true))⟩,
  ⟨(some 28),.load false 1 (.tmp 27),(some (22,true))⟩,
  ⟨(some 29),.bin .neq (.tmp 24) (.tmp 28),(some (22,true))⟩,
  ⟨(some 30),.pick (.tmp 22) (.tmp 29) (.con (.bool false)),none⟩,
  ⟨(some 18),.mov (.tmp 30),none⟩])
 (.cond (.tmp 18)
 (.ops [⟨(some 31),.mov (.tmp 0),none⟩,
  ⟨(some 32),.call 277 [(.tmp 31)],none⟩])
 (.seq (.ops [⟨(some 34),.mov (.tmp 4),none⟩,
  ⟨(some 35),.mov (.tmp 0),none⟩,
  ⟨(some 36),.nilChk (.tmp 35),none⟩,
  ⟨(some 37),.fieldAddr 0 (.tmp 36),none⟩,
  ⟨(some 38),.load false 1 (.tmp 37),none⟩,
  ⟨(some 39),.bin .lss (.tmp 34) (.tmp 38),none⟩,
  ⟨(some 33),.mov (.tmp 39),none⟩])
 (.cond (.tmp 33)
 (.ops [⟨(some 40),.mov (.tmp 0),none⟩,
  ⟨(some 41),.mov (.tmp 4),none⟩,
  ⟨(some 42),.build [(.int .i64 0),(.int .i64 0),(.int .i64 0),(.int .i64 0),(.int .u64 0),.nilSlice] [(0,1,(.con (.int .i64 10))),(3,1,(.tmp 41))],none⟩,
  ⟨(some 43),.call 227 [(.tmp 40),(.tmp 42),(.con (.func (.func 258) [] []))],none⟩])
 (.ops [⟨(some 11),.mov (.tmp 0),none⟩,
  ⟨(some 12),.mov (.tmp 0),none⟩,
  ⟨(some 13),.nilChk (.tmp 12),none⟩,
  ⟨(some 14),.fieldAddr 8 (.tmp 13),none⟩,
  ⟨(some 15),.load false 1 (.tmp 14),none⟩,
  ⟨(some 16),.build [(.int .i64 0),(.int .i64 0),(.int .i64 0),(.int .i64 0),(.int .u64 0),.nilSlice] [(0,1,(.con (.int .i64 11))),(3,1,(.tmp 15))],none⟩,
  ⟨(some 17),.call 227 [(.tmp 11),(.tmp 16),(.con (.func (.func 278) [] []))],none⟩]))))))))
def a258 : AFunc:=⟨2,c258,[]⟩
theorem k258 : cFunc Tryz.prog Tryz.f258=some a258:=by kernel_rfl
/- 222: cmp.isNaN[int] -/
def c222 : ACode:=(.seq (.ops [⟨(some 2),.mov (.con (.bool false)),none⟩])
 (.seq (.ops [⟨(some 3),.mov (.tmp 0),none⟩,
  ⟨(some 4),.mov (.tmp 0),none⟩,
  ⟨(some 5),.bin .neq (.tmp 3) (.tmp 4),none⟩,
  ⟨(some 2),.mov (.tmp 5),none⟩])
 .ret))
def a222 : AFunc:=⟨1,c222,[.tmp 2]⟩
theorem k222 : cFunc Tryz.prog Tryz.f222=some a222:=by kernel_rfl
/- 263: tendril/node.Decode -/
def c263l0 : ACode:=(.seq (.ops [⟨(some 83),.bin .lss (.tmp 82) (.tmp 81),none⟩])
 (.seq (.cond (.tmp 83)
 .skip
 (.exit 0))
 (.seq (.block 1 (.seq (.ops [⟨(some 84),.mov (.tmp 82),none⟩,
  ⟨(some 85),.idxAddr 1 (.tmp 80) (.tmp 82),none⟩,
  ⟨(some 86),.load false 1 (.tmp 85),none⟩,
  ⟨(some 12),.mov (.tmp 84),none⟩,
  ⟨(some 13),.mov (.tmp 86),none⟩])
 (.draw [.op ⟨(some 87),.fieldAddr 4 (.tmp 11),none⟩,
  .op ⟨(some 88),.load false 1 (.tmp 87),none⟩,
  .op ⟨(some 89),.mov (.tmp 0),none⟩,
  .op ⟨(some 90),.mov (.tmp 4),none⟩,
  .op ⟨(some 91),.mov (.tmp 12),none⟩,
  .op ⟨(some 92),.mov (.tmp 13),none⟩,
  .op ⟨(some 93),.call 282 [(.tmp 90),(.tmp 91),(.tmp 92)],none⟩,
  .op ⟨(some 94),.idxAddr 1 (.tmp 89) (.tmp 93),none⟩,
  .op ⟨(some 95),.load false 1 (.tmp 94),none⟩,
  .op ⟨(some 96),.toInt .i64 (.tmp 95),none⟩,
  .op ⟨(some 97),.buildSlice 1 1 [(.int .i64 0)] [(0,1,(.tmp 96))],none⟩,
  .look ⟨(some 88),.load false 1 (.tmp 87),none⟩,
  .look ⟨(some 95),.load false 1 (.tmp 94),none⟩,
  .look ⟨(some 97),.buildSlice 1 1 [(.int .i64 0)] [(0,1,(.tmp 96))],none⟩,
  .op ⟨(some 98),.append 1 8 (.tmp 88) (.tmp 97),none⟩,
  .op ⟨(some 99),.fieldAddr 4 (.tmp 11),none⟩,
  .op ⟨none,.store 1 (.tmp 99) (.tmp 98),none⟩])))
 (.ops [⟨(some 100),.bin .add (.tmp 82) (.con (.int .i64 1)),none⟩,
  ⟨(some 82),.mov (.tmp 100),none⟩]))))
def c263 : ACode:=(.seq (.ops [⟨(some 2),.new [(.int .i64 0),(.int .u64 0),(.str []),.nilSlice,.nilSlice],none⟩,
  ⟨(some 3),.mov (.con (.bool false)),none⟩])
 (.seq (.seq (.ops [⟨(some 14),.mov (.tmp 0),none⟩,
  ⟨(some 15),.lenSlice (.tmp 14),none⟩,
  ⟨(some 16),.bin .lss (.tmp 15) (.con (.int .i64 4)),none⟩])
 (.cond (.tmp 16)
 (.seq (.ops [⟨(some 17),.build [(.int .i64 0),(.int .u64 0),(.str []),.nilSlice,.nilSlice] [],none⟩,
  ⟨none,.store 5 (.tmp 2) (.tmp 17),none⟩,
  ⟨(some 3),.mov (.con (.bool false)),none⟩])
 .ret)
 .skip))
 (.seq (.ops [⟨(some 18),.mov (.tmp 0),none⟩,
  ⟨(some 19),.idxAddr 1 (.tmp 18) (.con (.int .i64 1)),none⟩,
  ⟨(some 20),.load false 1 (.tmp 19),none⟩,
  ⟨(some 21),.bin .and (.tmp 20) (.con (.int .u64 255)),none⟩,
  ⟨(some 22),.toInt .i64 (.tmp 21),none⟩,
  ⟨(some 23),.mov (.tmp 0),none⟩,
  ⟨(some 24),.idxAddr 1 (.tmp 23) (.con (.int .i64 1)),none⟩,
  ⟨(some 25),.load false 1 (.tmp 24),none⟩,
  ⟨(some 26),.bin .shr (.tmp 25) (.con (.int .u64 8)),none⟩,
  ⟨(some 27),.bin .and (.tmp 26) (.con (.int .u64 255)),none⟩,
  ⟨(some 28),.toInt .i64 (.tmp 27),none⟩,
  ⟨(some 29),.mov (.tmp 0),none⟩,
  ⟨(some 30),.idxAddr 1 (.tmp 29) (.con (.int .i64 1)),none⟩,
  ⟨(some 31),.load false 1 (.tmp 30),none⟩,
  ⟨(some 32),.bin .shr (.tmp 31) (.con (.int .u64 16)),none⟩,
  ⟨(some 33),.bin .and (.tmp 32) (.con (.int .u64 65535)),none⟩,
  ⟨(some 34),.toInt .i64 (.tmp 33),none⟩,
  ⟨(some 4),.mov (.tmp 22),none⟩,
  ⟨(some 5),.mov (.tmp 28),none⟩,
  ⟨(some 6),.mov (.tmp 34),none⟩])
 (.seq (.seq (.ops [⟨(some 35),.mov (.tmp 4),none⟩,
  ⟨(some 36),.call 177 [(.tmp 35)],none⟩,
  ⟨(some 37),.bin .eql (.tmp 36) (.con (.int .i64 0)),none⟩,
  ⟨(some 38),.mov (.tmp 37),none⟩,
  ⟨(some 39),.mov (.tmp 0),(some (38,false))⟩,
  ⟨(some 40),.lenSlice (.tmp 39),(some (38,false))⟩,
  ⟨(some 41),.mov (.tmp 4),(some (38,false))⟩,
  ⟨(some 42),.call 125 [(.tmp 41)],(some (38,false))⟩,
  ⟨(some 43),.bin .neq (.tmp 40) (.tmp 42),(some (38,false))⟩,
  ⟨(some 44),.pick (.tmp 38) (.con (.bool true)) (.tmp 43),none⟩,
  ⟨(some 45),.mov (.tmp 44),none⟩,
  ⟨(some 46),.mov (.tmp 6),(some (45,false))⟩,
  ⟨(some 47),.mov (.tmp 4),(some (45,false))⟩,
  ⟨(some 48),.call 177 [(.tmp 47)],(some (45,false))⟩,
  ⟨(some 49),.bin .gtr (.tmp 46) (.tmp 48),(some (45,false))⟩,
  ⟨(some 50),.pick (.tmp 45) (.con (.bool true)) (.tmp 49),none⟩])
 (.cond (.tmp 50)
 (.seq (.ops [⟨(some 51),.build [(.int .i64 0),(.int .u64 0),(.str []),.nilSlice,.nilSlice] [],none⟩,
  ⟨none,.store 5 (.tmp 2) (.tmp 51),none⟩,
  ⟨(some 3),.mov (.con (.bool false)),none⟩])
 .ret)
 .skip))
 (.seq (.ops [⟨(some 53),.mov (.tmp 0),none⟩,
  ⟨(some 54),.slc 1 (.tmp 53) (some (.con (.int .i64 2))) (some (.con (.int .i64 4))) none,none⟩,
  ⟨(some 55),.mov (.tmp 5),none⟩,
  ⟨(some 56),.call 280 [(.tmp 54),(.tmp 55)],none⟩,
  ⟨(some 52),.mov (.tmp 56),none⟩,
  ⟨(some 57),.extract (.tmp 52) 0,none⟩,
  ⟨(some 58),.extract (.tmp 52) 1,none⟩,
  ⟨(some 7),.mov (.tmp 57),none⟩,
  ⟨(some 8),.mov (.tmp 58),none⟩])
 (.seq (.ops [⟨(some 60),.mov (.tmp 0),none⟩,
  ⟨(some 61),.mov (.tmp 4),none⟩,
  ⟨(some 62),.mov (.tmp 6),none⟩,
  ⟨(some 63),.call 281 [(.tmp 60),(.tmp 61),(.tmp 62)],none⟩,
  ⟨(some 59),.mov (.tmp 63),none⟩,
  ⟨(some 64),.extract (.tmp 59) 0,none⟩,
  ⟨(some 65),.extract (.tmp 59) 1,none⟩,
  ⟨(some 9),.mov (.tmp 64),none⟩,
  ⟨(some 10),.mov (.tmp 65),none⟩])
 (.seq (.seq (.ops [⟨(some 66),.mov (.tmp 8),none⟩,
  ⟨(some 67),.bin .neq (.tmp 66) (.con (.int .i64 0)),none⟩,
  ⟨(some 68),.mov (.tmp 67),none⟩,
  ⟨(some 69),.mov (.tmp 10),(some (68,false))⟩,
  ⟨(some 70),.un .not (.tmp 69),(some (68,false))⟩,
  ⟨(some 71),.pick (.tmp 68) (.con (.bool true)) (.tmp 70),none⟩])
 (.cond (.tmp 71)
 (.seq (.ops [⟨(some 72),.build [(.int .i64 0),(.int .u64 0),(.str []),.nilSlice,.nilSlice] [],none⟩,
  ⟨none,.store 5 (.tmp 2) (.tmp 72),none⟩,
  ⟨(some 3),.mov (.con (.bool false)),none⟩])
 .ret)
 .skip))
 (.seq (.ops [⟨(some 73),.mov (.tmp 4),none⟩,
  ⟨(some 74),.mov (.tmp 0),none⟩,
  ⟨(some 75),.idxAddr 1 (.tmp 74) (.con (.int .i64 0)),none⟩,
  ⟨(some 76),.load false 1 (.tmp 75),none⟩,
  ⟨(some 77),.mov (.tmp 7),none⟩,
  ⟨(some 78),.mov (.tmp 9),none⟩,
  ⟨(some 79),.build [(.int .i64 0),(.int .u64 0),(.str []),.nilSlice,.nilSlice] [(0,1,(.tmp 73)),(1,1,(.tmp 76)),(2,1,(.tmp 77)),(3,1,(.tmp 78))],none⟩,
  ⟨(some 11),.new [(.int .i64 0),(.int .u64 0),(.str []),.nilSlice,.nilSlice],none⟩,
  ⟨none,.store 5 (.tmp 11) (.tmp 79),none⟩])
 (.seq (.seq (.ops [⟨(some 80),.mov (.tmp 9),none⟩,
  ⟨(some 81),.lenSlice (.tmp 80),none⟩,
  ⟨(some 82),.mov (.con (.int .i64 0)),none⟩])
 (.block 0 (.loop c263l0)))
 (.seq (.seq (.ops [⟨(some 101),.load true 5 (.tmp 11),none⟩,
  ⟨(some 102),.call 85 [(.tmp 101)],none⟩,
  ⟨(some 103),.mov (.tmp 0),none⟩,
  ⟨(some 104),.call 283 [(.tmp 102),(.tmp 103)],none⟩,
  ⟨(some 105),.un .not (.tmp 104),none⟩])
 (.cond (.tmp 105)
 (.seq (.ops [⟨(some 106),.build [(.int .i64 0),(.int .u64 0),(.str []),.nilSlice,.nilSlice] [],none⟩,
  ⟨none,.store 5 (.tmp 2) (.tmp 106),none⟩,
  ⟨(some 3),.mov (.con (.bool false)),none⟩])
 .ret)
 .skip))
 (.seq (.ops [⟨(some 107),.load true 5 (.tmp 11),none⟩,
  ⟨none,.store 5 (.tmp 2) (.tmp 107),none⟩,
  ⟨(some 3),.mov (.con (.bool true)),none⟩])
 .ret)))))))))))
def a263 : AFunc:=⟨1,c263,[.cell 2 true 5,.tmp 3]⟩
theorem k263 : cFunc Tryz.prog Tryz.f263=some a263:=by kernel_rfl
/- 265: tendril/word.Free -/
def c265 : ACode:=(.seq (.ops [⟨(some 2),.mov (.con (.bool false)),none⟩])
 (.seq (.ops [⟨(some 3),.mov (.tmp 0),none⟩,
  ⟨(some 4),.bin .and (.tmp 3) (.con (.int .u64 3)),none⟩,
  ⟨(some 5),.bin .eql (.tmp 4) (.con (.int .u64 0)),none⟩,
  ⟨(some 2),.mov (.tmp 5),none⟩])
 .ret))
def a265 : AFunc:=⟨1,c265,[.tmp 2]⟩
theorem k265 : cFunc Tryz.prog Tryz.f265=some a265:=by kernel_rfl
/- 266: (*tendril/scan.Scan).on -/
def c266l0 : ACode:=(.seq (.seq (.ops [⟨(some 10),.mov (.tmp 0),none⟩,
  ⟨(some 11),.nilChk (.tmp 10),none⟩,
  ⟨(some 12),.fieldAddr 12 (.tmp 11),none⟩,
  ⟨(some 13),.load false 1 (.tmp 12),none⟩,
  ⟨(some 14),.lenSlice (.tmp 13),none⟩,
  ⟨(some 15),.bin .gtr (.tmp 14) (.con (.int .i64 0)),none⟩])
 (.cond (.tmp 15)
 .skip
 (.exit 0)))
 (.block 1 (.seq (.ops [⟨(some 17),.mov (.tmp 0),none⟩,
  ⟨(some 18),.call 285 [(.tmp 17)],none⟩,
  ⟨(some 16),.mov (.tmp 18),none⟩,
  ⟨(some 19),.extract (.tmp 16) 0,none⟩,
  ⟨(some 20),.extract (.tmp 16) 1,none⟩,
  ⟨(some 21),.extract (.tmp 16) 2,none⟩,
  ⟨(some 2),.mov (.tmp 19),none⟩,
  ⟨(some 3),.mov (.tmp 20),none⟩,
  ⟨(some 4),.mov (.tmp 21),none⟩])
 (.seq (.seq (.ops [⟨(some 22),.mov (.tmp 4),none⟩,
  ⟨(some 23),.un .not (.tmp 22),none⟩])
 (.cond (.tmp 23)
 (.seq (.ops [⟨(some 24),.mov (.tmp 0),none⟩,
  ⟨(some 25),.mov (.tmp 0),none⟩,
  ⟨(some 26),.nilChk (.tmp 25),none⟩,
  ⟨(some 27),.fieldAddr 12 (.tmp 26),none⟩,
  ⟨(some 28),.load false 1 (.tmp 27),none⟩,
  ⟨(some 29),.mov (.tmp 0),none⟩,
  ⟨(some 30),.nilChk (.tmp 29),none⟩,
  ⟨(some 31),.fieldAddr 12 (.tmp 30),none⟩,
  ⟨(some 32),.load false 1 (.tmp 31),none⟩,
  ⟨(some 33),.lenSlice (.tmp 32),none⟩,
  ⟨(some 34),.bin .sub (.tmp 33) (.con (.int .i64 1)),none⟩,
  ⟨(some 35),.slc 7 (.tmp 28) none (some (.tmp 34)) none,none⟩,
  ⟨(some 36),.nilChk (.tmp 24),none⟩,
  ⟨(some 37),.fieldAddr 12 (.tmp 36),none⟩,
  ⟨none,.store 1 (.tmp 37) (.tmp 35),none⟩])
 (.exit 1))
 .skip))
 (.seq (.ops [⟨(some 38),.mov (.tmp 0),none⟩,
  ⟨(some 39),.mov (.tmp 3),none⟩,
  ⟨(some 40),.nilChk (.tmp 38),none⟩,
  ⟨(some 41),.fieldAddr 11 (.tmp 40),none⟩,
  ⟨none,.store 1 (.tmp 41) (.tmp 39),none⟩])
 (.seq (.ops [⟨(some 5),.mov (.con (.func (.func 242) [] [])),none⟩])
 (.seq (.seq (.ops [⟨(some 43),.mov (.tmp 2),none⟩,
  ⟨(some 44),.call 204 [(.tmp 43)],none⟩,
  ⟨(some 42),.mov (.tmp 44),none⟩,
  ⟨(some 45),.extract (.tmp 42) 0,none⟩,
  ⟨(some 46),.extract (.tmp 42) 1,none⟩,
  ⟨(some 47),.extract (.tmp 42) 2,none⟩,
  ⟨(some 48),.extract (.tmp 42) 3,none⟩,
  ⟨(some 6),.mov (.tmp 45),none⟩,
  ⟨(some 7),.mov (.tmp 46),none⟩,
  ⟨(some 8),.mov (.tmp 47),none⟩,
  ⟨(some 9),.mov (.tmp 48),none⟩])
 (.seq (.ops [⟨(some 49),.mov (.tmp 8),none⟩])
 (.cond (.tmp 49)
 (.ops [⟨(some 5),.mov (.con (.func (.func 286) [] [])),none⟩])
 .skip)))
 (.seq (.ops [⟨(some 50),.mov (.tmp 0),none⟩,
  ⟨(some 51),.mov (.tmp 2),none⟩,
  ⟨(some 52),.build [(.int .i64 0),(.int .i64 0),(.int .i64 0),(.int .i64 0),(.int .u64 0),.nilSlice] [(0,1,(.con (.int .i64 1))),(1,1,(.tmp 51))],none⟩,
  ⟨(some 53),.mov (.tmp 5),none⟩,
  ⟨(some 54),.call 102 [(.tmp 50),(.tmp 52),(.tmp 53)],none⟩])
 .ret))))))))
def c266 : ACode:=(.seq (.block 0 (.loop c266l0))
 (.ops [⟨(some 55),.mov (.tmp 0),none⟩,
  ⟨(some 56),.call 284 [(.tmp 55)],none⟩]))
def a266 : AFunc:=⟨1,c266,[]⟩
theorem k266 : cFunc Tryz.prog Tryz.f266=some a266:=by kernel_rfl
/- 246: internal/stringslite.Index -/
def c246l0 : ACode:=(.seq (.seq (.ops [⟨(some 57),.mov (.tmp 8),none⟩,
  ⟨(some 58),.mov (.tmp 9),none⟩,
  ⟨(some 59),.bin .lss (.tmp 57) (.tmp 58),none⟩])
 (.cond (.tmp 59)
 .skip
 (.exit 1)))
 (.block 2 (.seq (.seq (.ops [⟨(some 60),.mov (.tmp 0),none⟩,
  ⟨(some 61),.mov (.tmp 8),none⟩,
  ⟨(some 62),.idxStr (.tmp 60) (.tmp 61),none⟩,
  ⟨(some 63),.mov (.tmp 6),none⟩,
  ⟨(some 64),.bin .neq (.tmp 62) (.tmp 63),none⟩])
 (.cond (.tmp 64)
 (.seq (.ops [⟨(some 65),.mov (.tmp 0),none⟩,
  ⟨(some 66),.mov (.tmp 8),none⟩,
  ⟨(some 67),.bin .add (.tmp 66) (.con (.int .i64 1)),none⟩,
  ⟨(some 68),.mov (.tmp 9),none⟩,
  ⟨(some 69),.slcStr (.tmp 65) (some (.tmp 67)) (some (.tmp 68)),none⟩,
  ⟨(some 70),.mov (.tmp 6),none⟩,
  ⟨(some 71),.call 118 [(.tmp 69),(.tmp 70)],none⟩,
  ⟨(some 11),.mov (.tmp 71),none⟩])
 (.seq (.seq (.ops [⟨(some 72),.mov (.tmp 11),none⟩,
  ⟨(some 73),.bin .lss (.tmp 72) (.con (.int .i64 0)),none⟩])
 (.cond (.tmp 73)
 (.seq (.ops [⟨(some 4),.mov (.con (.int .i64 (-1))),none⟩])
 .ret)
 .skip))
 (.ops [⟨(some 74),.mov (.tmp 8),none⟩,
  ⟨(some 75),.mov (.tmp 11),none⟩,
  ⟨(some 76),.bin .add (.tmp 75) (.con (.int .i64 1)),none⟩,
  ⟨(some 77),.bin .add (.tmp 74) (.tmp 76),none⟩,
  ⟨(some 8),.mov (.tmp 77),none⟩])))
 .skip))
 (.seq (.seq (.ops [⟨(some 78),.mov (.tmp 0),none⟩,
  ⟨(some 79),.mov (.tmp 8),none⟩,
  ⟨(some 80),.bin .add (.tmp 79) (.con (.int .i64 1)),none⟩,
  ⟨(some 81),.idxStr (.tmp 78) (.tmp 80),none⟩,
  ⟨(some 82),.mov (.tmp 7),none⟩,
  ⟨(some 83),.bin .eql (.tmp 81) (.tmp 82),none⟩,
  ⟨(some 84),.mov (.tmp 83),none⟩,
  ⟨(some 85),.mov (.tmp 0),(some (84,true))⟩,
  ⟨(some 86),.mov (.tmp 8),(some (84,true))⟩,
  ⟨(some 87),.mov (.tmp 8),(some (84,true))⟩,
  ⟨(some 88),.mov (.tmp 5),(some (84,true))⟩,
  ⟨(some 89),.bin .add (.tmp 87) (.tmp 88),(some (84,true))⟩,
  ⟨(some 90),.slcStr (.tmp 85) (some (.tmp 86)) (some (.tmp 89)),(some (84,true))⟩,
  ⟨(some 91),.mov (.tmp 1),(some (84,true))⟩,
  ⟨(some 92),.bin .eql (.tmp 90) (.tmp 91),(some (84,true))⟩,
  ⟨(some 93),.pick (.tmp 84) (.tmp 92) (.con (.bool false)),none⟩])
 (.cond (.tmp 93)
 (.seq (.ops [⟨(some 94),.mov (.tmp 8),none⟩,
  ⟨(some 4),.mov (.tmp 94),none⟩])
 .ret)
 .skip))
 (.seq (.ops [⟨(some 95),.mov (.tmp 8),none⟩,
  ⟨(some 96),.bin .add (.tmp 95) (.con (.int .i64 1)),none⟩,
  ⟨(some 8),.mov (.tmp 96),none⟩])
 (.seq (.ops [⟨(some 97),.mov (.tmp 10),none⟩,
  ⟨(some 98),.bin .add (.tmp 97) (.con (.int .i64 1)),none⟩,
  ⟨(some 10),.mov (.tmp 98),none⟩])
 (.seq (.ops [⟨(some 99),.mov (.tmp 5),none⟩,
  ⟨none,.stuck,none⟩,
  ⟨(some 101),.bin .leq (.tmp 99) (.tmp 100),none⟩,
  ⟨(some 102),.mov (.tmp 101),none⟩,
  ⟨(some 103),.mov (.tmp 10),(some (102,true))⟩,
  ⟨(some 104),.mov (.tmp 8),(some (102,true))⟩,
  ⟨(some 105),.call 268 [(.tmp 104)],(some (102,true))⟩,
  ⟨(some 106),.bin .gtr (.tmp 103) (.tmp 105),(some (102,true))⟩,
  ⟨(some 107),.pick (.tmp 102) (.tmp 106) (.con (.bool false)),none⟩])
 (.cond (.tmp 107)
 (.seq (.ops [⟨(some 108),.mov (.tmp 0),none⟩,
  ⟨(some 109),.mov (.tmp 8),none⟩,
  ⟨(some 110),.slcStr (.tmp 108) (some (.tmp 109)) none,none⟩,
  ⟨(some 111),.mov (.tmp 1),none⟩,
  ⟨(some 112),.call 267 [(.tmp 110),(.tmp 111)],none⟩,
  ⟨(some 12),.mov (.tmp 112),none⟩])
 (.seq (.seq (.ops [⟨(some 113),.mov (.tmp 12),none⟩,
  ⟨(some 114),.bin .geq (.tmp 113) (.con (.int .i64 0)),none⟩])
 (.cond (.tmp 114)
 (.seq (.ops [⟨(some 115),.mov (.tmp 12),none⟩,
  ⟨(some 116),.mov (.tmp 8),none⟩,
  ⟨(some 117),.bin .add (.tmp 115) (.tmp 116),none⟩,
  ⟨(some 4),.mov (.tmp 117),none⟩])
 .ret)
 .skip))
 (.seq (.ops [⟨(some 4),.mov (.con (.int .i64 (-1))),none⟩])
 .ret)))
 (.seq (.ops [⟨(some 118),.mov (.tmp 5),none⟩,
  ⟨none,.stuck,none⟩,
  ⟨(some 120),.bin .gtr (.tmp 118) (.tmp 119),none⟩,
  ⟨(some 121),.mov (.tmp 120),none⟩,
  ⟨(some 122),.mov (.tmp 10),(some (121,true))⟩,
  ⟨(some 123),.mov (.tmp 8),(some (121,true))⟩,
  ⟨(some 124),.bin .shr (.tmp 123) (.con (.int .u64 4)),(some (121,true))⟩,
  ⟨(some 125),.bin .add (.con (.int .i64 4)) (.tmp 124),(some (121,true))⟩,
  ⟨(some 126),.bin .geq (.tmp 122) (.tmp 125),(some (121,true))⟩,
  ⟨(some 127),.pick (.tmp 121) (.tmp 126) (.con (.bool false)),none⟩,
  ⟨(some 128),.mov (.tmp 127),none⟩,
  ⟨(some 129),.mov (.tmp 8),(some (128,true))⟩,
  ⟨(some 130),.mov (.tmp 9),(some (128,true))⟩,
  ⟨(some 131),.bin .lss (.tmp 129) (.tmp 130),(some (128,true))⟩,
  ⟨(some 132),.pick (.tmp 128) (.tmp 131) (.con (.bool false)),none⟩])
 (.cond (.tmp 132)
 (.seq (.ops [⟨(some 133),.mov (.tmp 0),none⟩,
  ⟨(some 134),.mov (.tmp 8),none⟩,
  ⟨(some 135),.slcStr (.tmp 133) (some (.tmp 134)) none,none⟩,
  ⟨(some 136),.mov (.tmp 1),none⟩,
  ⟨(some 137),.call 269 [(.tmp 135),(.tmp 136)],none⟩,
  ⟨(some 13),.mov (.tmp 137),none⟩])
 (.seq (.seq (.ops [⟨(some 138),.mov (.tmp 13),none⟩,
  ⟨(some 139),.bin .lss (.tmp 138) (.con (.int .i64 0)),none⟩])
 (.cond (.tmp 139)
 (.seq (.ops [⟨(some 4),.mov (.con (.int .i64 (-1))),none⟩])
 .ret)
 .skip))
 (.seq (.ops [⟨(some 140),.mov (.tmp 8),none⟩,
  ⟨(some 141),.mov (.tmp 13),none⟩,
  ⟨(some 142),.bin .add (.tmp 140) (.tmp 141),none⟩,
  ⟨(some 4),.mov (.tmp 142),none⟩])
 .ret)))
 .skip))))))))))
def c246 : ACode:=(.seq (.ops [⟨(some 4),.mov (.con (.int .i64 0)),none⟩])
 (.seq (.ops [⟨(some 14),.mov (.tmp 1),none⟩,
  ⟨(some 15),.lenStr (.tmp 14),none⟩,
  ⟨(some 5),.mov (.tmp 15),none⟩])
 (.seq (.block 0 (.seq (.ops [⟨(some 17),.mov (.tmp 5),none⟩,
  ⟨(some 18),.bin .eql (.tmp 17) (.con (.int .i64 0)),none⟩,
  ⟨(some 19),.mov (.tmp 18),none⟩,
  ⟨(some 20),.mov (.tmp 1),(some (19,false))⟩,
  ⟨(some 21),.mov (.tmp 0),(some (19,false))⟩,
  ⟨(some 22),.bin .eql (.tmp 20) (.tmp 21),(some (19,false))⟩,
  ⟨(some 23),.pick (.tmp 19) (.con (.bool true)) (.tmp 22),none⟩,
  ⟨(some 16),.mov (.tmp 23),none⟩])
 (.cond (.tmp 16)
 (.seq (.ops [⟨(some 4),.mov (.con (.int .i64 0)),none⟩])
 .ret)
 (.seq (.ops [⟨(some 25),.mov (.tmp 5),none⟩,
  ⟨(some 26),.bin .eql (.tmp 25) (.con (.int .i64 1)),none⟩,
  ⟨(some 24),.mov (.tmp 26),none⟩])
 (.cond (.tmp 24)
 (.seq (.ops [⟨(some 27),.mov (.tmp 0),none⟩,
  ⟨(some 28),.mov (.tmp 1),none⟩,
  ⟨(some 29),.idxStr (.tmp 28) (.con (.int .i64 0)),none⟩,
  ⟨(some 30),.call 118 [(.tmp 27),(.tmp 29)],none⟩,
  ⟨(some 4),.mov (.tmp 30),none⟩])
 .ret)
 (.seq (.ops [⟨(some 32),.mov (.tmp 5),none⟩,
  ⟨(some 33),.mov (.tmp 0),none⟩,
  ⟨(some 34),.lenStr (.tmp 33),none⟩,
  ⟨(some 35),.bin .geq (.tmp 32) (.tmp 34),none⟩,
  ⟨(some 31),.mov (.tmp 35),none⟩])
 (.cond (.tmp 31)
 (.seq (.ops [⟨(some 4),.mov (.con (.int .i64 (-1))),none⟩])
 .ret)
 (.seq (.ops [⟨(some 37),.mov (.tmp 5),none⟩,
  ⟨none,.stuck,none⟩,
  ⟨(some 39),.bin .leq (.tmp 37) (.tmp 38),none⟩,
  ⟨(some 40),.mov (.tmp 39),none⟩,
  ⟨(some 41),.mov (.tmp 0),(some (40,true))⟩,
  ⟨(some 42),.lenStr (.tmp 41),(some (40,true))⟩,
  ⟨(some 43),.bin .leq (.tmp 42) (.con (.int .i64 64)),(some (40,true))⟩,
  ⟨(some 44),.pick (.tmp 40) (.tmp 43) (.con (.bool false)),none⟩,
  ⟨(some 36),.mov (.tmp 44),none⟩])
 (.cond (.tmp 36)
 (.seq (.ops [⟨(some 45),.mov (.tmp 0),none⟩,
  ⟨(some 46),.mov (.tmp 1),none⟩,
  ⟨(some 47),.call 267 [(.tmp 45),(.tmp 46)],none⟩,
  ⟨(some 4),.mov (.tmp 47),none⟩])
 .ret)
 .skip)))))))))
 (.seq (.ops [⟨(some 48),.mov (.tmp 1),none⟩,
  ⟨(some 49),.idxStr (.tmp 48) (.con (.int .i64 0)),none⟩,
  ⟨(some 6),.mov (.tmp 49),none⟩])
 (.seq (.ops [⟨(some 50),.mov (.tmp 1),none⟩,
  ⟨(some 51),.idxStr (.tmp 50) (.con (.int .i64 1)),none⟩,
  ⟨(some 7),.mov (.tmp 51),none⟩])
 (.seq (.ops [⟨(some 8),.mov (.con (.int .i64 0)),none⟩])
 (.seq (.ops [⟨(some 52),.mov (.tmp 0),none⟩,
  ⟨(some 53),.lenStr (.tmp 52),none⟩,
  ⟨(some 54),.mov (.tmp 5),none⟩,
  ⟨(some 55),.bin .sub (.tmp 53) (.tmp 54),none⟩,
  ⟨(some 56),.bin .add (.tmp 55) (.con (.int .i64 1)),none⟩,
  ⟨(some 9),.mov (.tmp 56),none⟩])
 (.seq (.ops [⟨(some 10),.mov (.con (.int .i64 0)),none⟩])
 (.seq (.block 1 (.loop c246l0))
 (.seq (.ops [⟨(some 4),.mov (.con (.int .i64 (-1))),none⟩])
 .ret))))))))))
def a246 : AFunc:=⟨2,c246,[.tmp 4]⟩
theorem k246 : cFunc Tryz.prog Tryz.f246=some a246:=by kernel_rfl
/- 271: (*tendril/drop.Drop).attempt -/
def c271 : ACode:=(.seq (.ops [⟨(some 2),.mov (.tmp 0),none⟩,
  ⟨(some 3),.mov (.tmp 0),none⟩,
  ⟨(some 4),.mov (.tmp 0),none⟩,
  ⟨(some 5),.mov (.tmp 0),none⟩,
  ⟨(some 6),.build [(.int .i64 0),(.bool false),(.int .i64 0),.nilSlice] [],none⟩,
  ⟨(some 7),.nilChk (.tmp 2),none⟩,
  ⟨(some 8),.fieldAddr 37 (.tmp 7),none⟩,
  ⟨none,.store 1 (.tmp 8) (.con .nilSlice),none⟩,
  ⟨(some 9),.nilChk (.tmp 3),none⟩,
  ⟨(some 10),.fieldAddr 36 (.tmp 9),none⟩,
  ⟨none,.store 1 (.tmp 10) (.con .nilSlice),none⟩,
  ⟨(some 11),.nilChk (.tmp 4),none⟩,
  ⟨(some 12),.fieldAddr 38 (.tmp 11),none⟩,
  ⟨none,.store 1 (.tmp 12) (.con .nilSlice),none⟩,
  ⟨(some 13),.nilChk (.tmp 5),none⟩,
  ⟨(some 14),.fieldAddr 41 (.tmp 13),none⟩,
  ⟨none,.store 4 (.tmp 14) (.tmp 6),none⟩])
 (.block 0 (.seq (.ops [⟨(some 19),.mov (.tmp 0),none⟩,
  ⟨(some 20),.nilChk (.tmp 19),none⟩,
  ⟨(some 21),.fieldAddr 5 (.tmp 20),none⟩,
  ⟨(some 22),.load false 1 (.tmp 21),none⟩,
  ⟨(some 18),.mov (.tmp 22),none⟩])
 (.cond (.tmp 18)
 (.ops [⟨(some 23),.mov (.tmp 0),none⟩,
  ⟨(some 24),.call 288 [(.tmp 23)],none⟩])
 (.seq (.ops [⟨(some 26),.mov (.tmp 0),none⟩,
  ⟨(some 27),.nilChk (.tmp 26),none⟩,
  ⟨(some 28),.fieldAddr 4 (.tmp 27),none⟩,
  ⟨(some 29),.load false 1 (.tmp 28),none⟩,
  ⟨(some 30),.mov (.tmp 0),none⟩,
  ⟨(some 31),.nilChk (.tmp 30),none⟩,
  ⟨(some 32),.fieldAddr 3 (.tmp 31),none⟩,
  ⟨(some 33),.load false 1 (.tmp 32),none⟩,
  ⟨(some 34),.bin .geq (.tmp 29) (.tmp 33),none⟩,
  ⟨(some 25),.mov (.tmp 34),none⟩])
 (.cond (.tmp 25)
 (.ops [⟨(some 35),.mov (.tmp 0),none⟩,
  ⟨(some 36),.build [(.int .i64 0),(.int .i64 0),(.int .i64 0),(.int .i64 0),(.int .u64 0),.nilSlice] [(0,1,(.con (.int .i64 14)))],none⟩,
  ⟨(some 37),.call 220 [(.tmp 35),(.tmp 36),(.con (.func (.func 289) [] []))],none⟩])
 (.ops [⟨(some 15),.mov (.tmp 0),none⟩,
  ⟨(some 16),.build [(.int .i64 0),(.int .i64 0),(.int .i64 0),(.int .i64 0),(.int .u64 0),.nilSlice] [(0,1,(.con (.int .i64 13)))],none⟩,
  ⟨(some 17),.call 220 [(.tmp 15),(.tmp 16),(.con (.func (.func 290) [] []))],none⟩])))))))
def a271 : AFunc:=⟨1,c271,[]⟩
theorem k271 : cFunc Tryz.prog Tryz.f271=some a271:=by kernel_rfl
/- 272: (*tendril/get.Get).load -/
def c272 : ACode:=(.seq (.ops [⟨(some 6),.mov (.tmp 0),none⟩,
  ⟨(some 7),.mov (.tmp 1),none⟩,
  ⟨(some 8),.nilChk (.tmp 6),none⟩,
  ⟨(some 9),.fieldAddr 10 (.tmp 8),none⟩,
  ⟨none,.store 1 (.tmp 9) (.tmp 7),none⟩])
 (.ops [⟨(some 10),.mov (.tmp 0),none⟩,
  ⟨(some 11),.mov (.tmp 1),none⟩,
  ⟨(some 12),.build [(.int .i64 0),(.int .i64 0),(.int .i64 0),(.int .i64 0),(.int .u64 0),.nilSlice] [(0,1,(.con (.int .i64 1))),(1,1,(.tmp 11))],none⟩,
  ⟨(some 13),.mov (.tmp 2),none⟩,
  ⟨(some 14),.call 182 [(.tmp 10),(.tmp 12),(.tmp 13)],none⟩]))
def a272 : AFunc:=⟨3,c272,[]⟩
theorem k272 : cFunc Tryz.prog Tryz.f272=some a272:=by kernel_rfl
/- 273: (*tendril/get.Get).atNode -/
def c273 : ACode:=(.seq (.ops [⟨(some 3),.box (.tmp 1),none⟩])
 (.seq (.ops [⟨(some 7),.fieldAddr 3 (.tmp 3),none⟩,
  ⟨(some 8),.load false 1 (.tmp 7),none⟩,
  ⟨(some 9),.call 263 [(.tmp 8)],none⟩,
  ⟨(some 6),.mov (.tmp 9),none⟩,
  ⟨(some 10),.extract (.tmp 6) 0,none⟩,
  ⟨(some 11),.extract (.tmp 6) 1,none⟩,
  ⟨(some 4),.new [(.int .i64 0),(.int .u64 0),(.str []),.nilSlice,.nilSlice],none⟩,
  ⟨none,.store 5 (.tmp 4) (.tmp 10),none⟩,
  ⟨(some 5),.mov (.tmp 11),none⟩])
 (.block 0 (.seq (.ops [⟨(some 13),.fieldAddr 0 (.tmp 3),none⟩,
  ⟨(some 14),.load false 1 (.tmp 13),none⟩,
  ⟨(some 15),.bin .neq (.tmp 14) (.con (.int .i64 0)),none⟩,
  ⟨(some 12),.mov (.tmp 15),none⟩])
 (.cond (.tmp 12)
 (.ops [⟨(some 16),.mov (.tmp 0),none⟩,
  ⟨(some 17),.fieldAddr 0 (.tmp 3),none⟩,
  ⟨(some 18),.load false 1 (.tmp 17),none⟩,
  ⟨(some 19),.call 291 [(.tmp 16),(.tmp 18)],none⟩])
 (.seq (.ops [⟨(some 21),.mov (.tmp 5),none⟩,
  ⟨(some 22),.un .not (.tmp 21),none⟩,
  ⟨(some 20),.mov (.tmp 22),none⟩])
 (.cond (.tmp 20)
 (.ops [⟨(some 23),.mov (.tmp 0),none⟩,
  ⟨(some 24),.call 291 [(.tmp 23),(.con (.int .i64 5))],none⟩])
 (.seq (.ops [⟨(some 26),.fieldAddr 1 (.tmp 4),none⟩,
  ⟨(some 27),.load false 1 (.tmp 26),none⟩,
  ⟨(some 28),.call 178 [(.tmp 27)],none⟩,
  ⟨(some 25),.mov (.tmp 28),none⟩])
 (.cond (.tmp 25)
 (.ops [⟨(some 29),.mov (.tmp 0),none⟩,
  ⟨(some 30),.call 256 [(.tmp 29)],none⟩])
 (.seq (.ops [⟨(some 32),.fieldAddr 1 (.tmp 4),none⟩,
  ⟨(some 33),.load false 1 (.tmp 32),none⟩,
  ⟨(some 34),.call 265 [(.tmp 33)],none⟩,
  ⟨(some 31),.mov (.tmp 34),none⟩])
 (.cond (.tmp 31)
 (.ops [⟨(some 35),.mov (.tmp 0),none⟩,
  ⟨(some 36),.load true 5 (.tmp 4),none⟩,
  ⟨(some 37),.call 292 [(.tmp 35),(.tmp 36)],none⟩])
 .skip)))))))))))
def a273 : AFunc:=⟨2,c273,[]⟩
theorem k273 : cFunc Tryz.prog Tryz.f273=some a273:=by kernel_rfl
/- 274: (*tendril/put.Put).down -/
def c274 : ACode:=(.seq (.ops [⟨(some 2),.mov (.tmp 0),none⟩,
  ⟨(some 3),.mov (.tmp 0),none⟩,
  ⟨(some 4),.mov (.tmp 0),none⟩,
  ⟨(some 5),.nilChk (.tmp 4),none⟩,
  ⟨(some 6),.fieldAddr 0 (.tmp 5),none⟩,
  ⟨(some 7),.load false 1 (.tmp 6),none⟩,
  ⟨(some 8),.build [(.int .i64 0),(.int .i64 0),(.int .u64 0),(.str []),.nilSlice,.nilSlice,(.int .u8 0)] [],none⟩,
  ⟨(some 9),.nilChk (.tmp 2),none⟩,
  ⟨(some 10),.fieldAddr 1 (.tmp 9),none⟩,
  ⟨none,.store 1 (.tmp 10) (.tmp 7),none⟩,
  ⟨(some 11),.nilChk (.tmp 3),none⟩,
  ⟨(some 12),.fieldAddr 15 (.tmp 11),none⟩,
  ⟨none,.store 7 (.tmp 12) (.tmp 8),none⟩])
 (.ops [⟨(some 13),.mov (.tmp 0),none⟩,
  ⟨(some 14),.mov (.tmp 0),none⟩,
  ⟨(some 15),.nilChk (.tmp 14),none⟩,
  ⟨(some 16),.fieldAddr 3 (.tmp 15),none⟩,
  ⟨(some 17),.load false 1 (.tmp 16),none⟩,
  ⟨(some 18),.call 293 [(.tmp 13),(.tmp 17)],none⟩]))
def a274 : AFunc:=⟨1,c274,[]⟩
theorem k274 : cFunc Tryz.prog Tryz.f274=some a274:=by kernel_rfl
/- 276: (*tendril/put.Put).atTurn -/
def c276 : ACode:=(.seq (.ops [⟨(some 3),.box (.tmp 1),none⟩])
 (.seq (.ops [⟨(some 4),.fieldAddr 1 (.tmp 3),none⟩,
  ⟨(some 5),.load false 1 (.tmp 4),none⟩,
  ⟨(some 6),.bin .lss (.tmp 5) (.con (.int .i64 0)),none⟩])
 (.cond (.tmp 6)
 (.ops [⟨(some 7),.mov (.tmp 0),none⟩,
  ⟨(some 8),.call 274 [(.tmp 7)],none⟩])
 .skip)))
def a276 : AFunc:=⟨2,c276,[]⟩
theorem k276 : cFunc Tryz.prog Tryz.f276=some a276:=by kernel_rfl
/- 277: (*tendril/tick.Tick).collect -/
def c277 : ACode:=(.ops [⟨(some 2),.mov (.tmp 0),none⟩,
  ⟨(some 3),.build [(.int .i64 0),(.int .i64 0),(.int .i64 0),(.int .i64 0),(.int .u64 0),.nilSlice] [(0,1,(.con (.int .i64 12)))],none⟩,
  ⟨(some 4),.call 227 [(.tmp 2),(.tmp 3),(.con (.func (.func 294) [] []))],none⟩])
def a277 : AFunc:=⟨1,c277,[]⟩
theorem k277 : cFunc Tryz.prog Tryz.f277=some a277:=by kernel_rfl
end Go.Proofs.YtakgcpmemalmaaaGreatDoor

/- Calls of DocsErrors that have nothing drawn in them, as they were run. -/
import Derived.Test.YtakgcpmemalmaaaGreatDoorP24S
namespace Go.Proofs.YtakgcpmemalmaaaGreatDoor
open Go.Vm
open Go.RowKit
set_option linter.unusedSimpArgs false
set_option linter.unusedVariables false
set_option maxRecDepth 100000
def hA40 : AH:=AH.upd hB2 39 [(27,.marked [(.int .u8 115),(.int .u8 101),(.int .u8 118),(.int .u8 101),(.int .u8 110),(.int .u8 0),(.int .u8 117),(.int .u8 112)]),
 (28,.cells [(.slice 37 0 1 2 2 false)] true),
 (29,.cells [(.str [117,112])] true),
 (30,.cells [(.str [0])] true),
 (31,.cells [(I 0)] true),
 (32,.dead),
 (33,.dead),
 (34,.cells [(.str [115,101,118,101,110])] true),
 (35,.dead),
 (36,.cells [(.str [117,112])] true),
 (37,.cells [(.str [115,101,118,101,110]),(.str [117,112])] true),
 (38,.cells [(I 0),(I 1),(I 2),(I 3)] true)]
def hB40 : AH:=AH.upd hA40 43 [(2,.cells (edL 0 slots0 [(2,(.bool true)),(3,(.slice 39 0 1 8 8 true)),(2802,(.bool true)),(2803,(.slice 40 0 1 264 264 true))]) true),
 (3,.cells [(I 1024),(.slice 5 0 1 299 300 false),(.map 4)] true),
 (4,.map (setOf (ints 1 299))),
 (5,.cells (edL 0 (ints 0 300) [(0,(I 1)),(1,(I 3)),(3,(I 7)),(7,(I 15)),(15,(I 31)),(31,(I 63)),(63,(I 127)),(127,(I 255)),(255,(I 299)),(299,(I 0))]) true),
 (22,.map [((I 0),(.agg [(.slice 42 0 1 1 1 true)]))]),
 (24,.map (setOf (ints 1 1023))),
 (25,.cells [(I 1024),(.slice 26 0 1 1023 1024 false),(.map 24)] true),
 (26,.cells (edL 0 (ints 0 1024) [(0,(I 1)),(1,(I 3)),(3,(I 7)),(7,(I 15)),(15,(I 31)),(31,(I 63)),(63,(I 127)),(127,(I 255)),(255,(I 511)),(511,(I 1023)),(1023,(I 0))]) true),
 (39,.cells ([(U 0),(U 1536),(U 474148660595)] ++ List.replicate 5 (U 0)) true),
 (40,.cells ([(U 4),(U 65540)] ++ List.replicate 117 (U 0) ++ [(U 281474976776192)] ++ List.replicate 144 (U 0)) true),
 (41,.cells [(I 7)] true),
 (42,.cells [(.slice 41 0 1 1 1 true)] true)]
def lit40 : Vm.Lit:=⟨[(.ptr 23 0),(.str [115,101,118,101,110]),(I 7)],hA40,(.tuple []),hB40⟩
def src40 : List Nat:=[196,225,242,243]
def hB41 : AH:=AH.upd hB40 47 [(2,.cells (edL 0 slots0 [(2,(.bool true)),(3,(.slice 39 0 1 8 8 true)),(6,(.bool true)),(7,(.slice 43 0 1 8 8 true)),(2802,(.bool true)),(2803,(.slice 44 0 1 264 264 true))]) true),
 (3,.cells [(I 1024),(.slice 5 0 1 298 300 false),(.map 4)] true),
 (4,.map (setOf (ints 2 298))),
 (5,.cells (edL 0 (ints 0 300) [(0,(I 2)),(1,(I 3)),(2,(I 5)),(3,(I 7)),(5,(I 11)),(7,(I 15)),(11,(I 23)),(15,(I 31)),(23,(I 47)),(31,(I 63)),(47,(I 95)),(63,(I 127)),(95,(I 191)),(127,(I 255)),(191,(I 298)),(255,(I 299)),(298,(I 1)),(299,(I 0))]) true),
 (22,.map [((I 0),(.agg [(.slice 42 0 1 1 1 true)])),((I 1),(.agg [(.slice 46 0 1 1 1 true)]))]),
 (24,.map (setOf (ints 2 1022))),
 (25,.cells [(I 1024),(.slice 26 0 1 1022 1024 false),(.map 24)] true),
 (26,.cells (edL 0 (ints 0 1024) [(0,(I 2)),(1,(I 3)),(2,(I 5)),(3,(I 7)),(5,(I 11)),(7,(I 15)),(11,(I 23)),(15,(I 31)),(23,(I 47)),(31,(I 63)),(47,(I 95)),(63,(I 127)),(95,(I 191)),(127,(I 255)),(191,(I 383)),(255,(I 511)),(383,(I 767)),(511,(I 1023)),(767,(I 1022)),(1022,(I 1)),(1023,(I 0))]) true),
 (43,.cells [(U 0),(U 768),(U 28789),(U 0),(U 1),(U 0),(U 0),(U 0)] true),
 (44,.cells ([(U 8),(U 131076)] ++ List.replicate 117 (U 0) ++ [(U 281474976776192),(U 0),(U 281474976776193)] ++ List.replicate 142 (U 0)) true),
 (45,.cells [(I 7)] true),
 (46,.cells [(.slice 45 0 1 1 1 true)] true)]
def lit41 : Vm.Lit:=⟨[(.ptr 23 0),(.str [117,112]),(I 7)],hB40,(.tuple []),hB41⟩
def src41 : List Nat:=[208,241,258,259]
def hB42 : AH:=AH.upd hB2 35 [(2,.cells (edL 0 slots0 [(2,(.bool true)),(3,(.slice 27 0 1 8 8 true)),(6,(.bool true)),(7,(.slice 30 0 1 8 8 true)),(2802,(.bool true)),(2803,(.slice 31 0 1 264 264 true))]) true),
 (3,.cells [(I 1024),(.slice 5 0 1 298 300 false),(.map 4)] true),
 (4,.map (setOf (ints 2 298))),
 (5,.cells (edL 0 (ints 0 300) [(0,(I 2)),(1,(I 3)),(2,(I 5)),(3,(I 7)),(5,(I 11)),(7,(I 15)),(11,(I 23)),(15,(I 31)),(23,(I 47)),(31,(I 63)),(47,(I 95)),(63,(I 127)),(95,(I 191)),(127,(I 255)),(191,(I 298)),(255,(I 299)),(298,(I 1)),(299,(I 0))]) true),
 (22,.map [((I 0),(.agg [(.slice 29 0 1 1 1 true)])),((I 1),(.agg [(.slice 33 0 1 1 1 true)]))]),
 (23,.cells [(I 300),(I 220),(I 120),(I 60),(I 2),(I 1),(I 32),(I 2),(.ptr 21 0),(.slice 34 0 2 1 1 false),(.map 22),(.ptr 25 0)] true),
 (24,.map (setOf (ints 2 1022))),
 (25,.cells [(I 1024),(.slice 26 0 1 1022 1024 false),(.map 24)] true),
 (26,.cells (edL 0 (ints 0 1024) [(0,(I 2)),(1,(I 3)),(2,(I 5)),(3,(I 7)),(5,(I 11)),(7,(I 15)),(11,(I 23)),(15,(I 31)),(23,(I 47)),(31,(I 63)),(47,(I 95)),(63,(I 127)),(95,(I 191)),(127,(I 255)),(191,(I 383)),(255,(I 511)),(383,(I 767)),(511,(I 1023)),(767,(I 1022)),(1022,(I 1)),(1023,(I 0))]) true),
 (27,.cells ([(U 0),(U 1536),(U 474148660595)] ++ List.replicate 5 (U 0)) true),
 (28,.cells [(I 7)] true),
 (29,.cells [(.slice 28 0 1 1 1 true)] true),
 (30,.cells [(U 0),(U 768),(U 28789),(U 0),(U 1),(U 0),(U 0),(U 0)] true),
 (31,.cells ([(U 8),(U 131076)] ++ List.replicate 117 (U 0) ++ [(U 281474976776192),(U 0),(U 281474976776193)] ++ List.replicate 142 (U 0)) true),
 (32,.cells [(I 7)] true),
 (33,.cells [(.slice 32 0 1 1 1 true)] true),
 (34,.cells [(I 7),(.str [115,101,118,101,110,32,117,112])] true)]
def lit42 : Vm.Lit:=⟨[(.ptr 23 0),(I 7),(.str [115,101,118,101,110,32,117,112])],hB2,(I 0),hB42⟩
def src42 : List Nat:=[39,41,42,43,44,45,46,48]
def hB43 : AH:=AH.upd hB42 36 [(35,.dead)]
def lit45 : Vm.Lit:=⟨[(.ptr 23 0),(I 7),(.str [120])],hB43,(I 9),hB43⟩
def lit50 : Vm.Lit:=⟨[(.ptr 23 0),(.str [97,32,124])],hB43,(.tuple [.nilSlice,(I 7)]),hB43⟩
def lit51 : Vm.Lit:=⟨[(.ptr 23 0),(.str []),(.str []),(I 0)],hB43,(.tuple [.nilSlice,(I 1)]),hB43⟩
def lit52 : Vm.Lit:=⟨[(.ptr 23 0),(.str [115,101,118,101,110,32,117,112,32,97,110,100,32,109,111,114,101])],hB43,(.tuple [.nilSlice,(I 6)]),hB43⟩
def lit53 : Vm.Lit:=⟨[(.ptr 23 0),(I 7)],hB43,(.tuple [(.str [115,101,118,101,110,32,117,112]),(.bool true)]),hB43⟩
def hB54 : AH:=AH.upd hB43 37 [(36,.cells [(I 7)] true)]
def lit54 : Vm.Lit:=⟨[(.ptr 23 0),(.str [117,112])],hB43,(.tuple [(.slice 36 0 1 1 1 false),(I 0)]),hB54⟩
def src54 : List Nat:=[149]
def hA55 : AH:=AH.upd hB54 38 [(37,.cells [(I 7)] true)]
def lit55 : Vm.Lit:=⟨[(.slice 36 0 1 1 1 false),(.slice 37 0 1 1 1 true)],hA55,(.bool true),hA55⟩
def hB56 : AH:=AH.upd hA55 39 [(38,.cells [(I 7)] true)]
def lit56 : Vm.Lit:=⟨[(.ptr 23 0)],hA55,(.slice 38 0 1 1 1 false),hB56⟩
def src56 : List Nat:=[40]
theorem sim40 : CSim Tryz.prog 51 lit40.args lit40.h lit40.r lit40.h':=Lit.gc_ok T4_ok (k:=100000) (l:=src40) rfl (by kernel_rfl)
theorem sim41 : CSim Tryz.prog 51 lit41.args lit41.h lit41.r lit41.h':=Lit.gc_ok T4_ok (k:=100000) (l:=src41) rfl (by kernel_rfl)
def T7 : Vm.Prog:=withEnv T4 51 (litFind [lit40,lit41])
theorem T7_ok : TabOk Tryz.prog T7:=lits_sim T4_ok fun l hl => by
 simp only [List.mem_cons,List.not_mem_nil,or_false] at hl
 rcases hl with rfl | rfl
 ·exact sim40
 ·exact sim41
theorem sim42 : CSim Tryz.prog 15 lit42.args lit42.h lit42.r lit42.h':=Lit.gc_ok T7_ok (k:=100000) (l:=src42) rfl (by kernel_rfl)
theorem sim45 : CSim Tryz.prog 15 lit45.args lit45.h lit45.r lit45.h':=Lit.gc_ok T4_ok (k:=100000) (l:=[]) rfl (by kernel_rfl)
theorem sim50 : CSim Tryz.prog 17 lit50.args lit50.h lit50.r lit50.h':=Lit.gc_ok T4_ok (k:=100000) (l:=[]) rfl (by kernel_rfl)
theorem sim51 : CSim Tryz.prog 18 lit51.args lit51.h lit51.r lit51.h':=Lit.gc_ok T4_ok (k:=100000) (l:=[]) rfl (by kernel_rfl)
theorem sim52 : CSim Tryz.prog 16 lit52.args lit52.h lit52.r lit52.h':=Lit.gc_ok T4_ok (k:=100000) (l:=[]) rfl (by kernel_rfl)
theorem sim53 : CSim Tryz.prog 30 lit53.args lit53.h lit53.r lit53.h':=Lit.gc_ok T4_ok (k:=100000) (l:=[]) rfl (by kernel_rfl)
theorem sim54 : CSim Tryz.prog 16 lit54.args lit54.h lit54.r lit54.h':=Lit.gc_ok T4_ok (k:=100000) (l:=src54) rfl (by kernel_rfl)
theorem sim55 : CSim Tryz.prog 20 lit55.args lit55.h lit55.r lit55.h':=Lit.gc_ok T4_ok (k:=100000) (l:=[]) rfl (by kernel_rfl)
theorem sim56 : CSim Tryz.prog 33 lit56.args lit56.h lit56.r lit56.h':=Lit.gc_ok T4_ok (k:=100000) (l:=src56) rfl (by kernel_rfl)
end Go.Proofs.YtakgcpmemalmaaaGreatDoor

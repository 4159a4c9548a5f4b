/- Calls of chapter 24's run: their heaps, printed by a program. -/
import Derived.Test.YtakgcpmemalmaaaGreatDoorP24S
namespace Go.Proofs.YtakgcpmemalmaaaGreatDoor
open Go.Vm
open Go.RowKit
set_option linter.unusedSimpArgs false
set_option linter.unusedVariables false
set_option maxRecDepth 100000
def hA3 : AH:=AH.upd hB2 39 [(27,.marked [(.int .u8 116),(.int .u8 111),(.int .u8 0),(.int .u8 98),(.int .u8 101)]),
 (28,.cells [(.slice 37 0 1 2 2 false)] true),
 (29,.cells [(.str [98,101])] true),
 (30,.cells [(.str [0])] true),
 (31,.cells [(I 0)] true),
 (32,.dead),
 (33,.dead),
 (34,.cells [(.str [116,111])] true),
 (35,.dead),
 (36,.cells [(.str [98,101])] true),
 (37,.cells [(.str [98,101]),(.str [116,111])] true),
 (38,.cells [(I 0),(I 1),(I 2),(I 3)] true)]
def hB3 : AH:=AH.upd hA3 43 [(2,.cells (edL 0 slots0 [(2,(.bool true)),(3,(.slice 39 0 1 8 8 true)),(2802,(.bool true)),(2803,(.slice 40 0 1 264 264 true))]) true),
 (3,.cells [(I 1024),(.slice 5 0 1 299 300 false),(.map 4)] true),
 (4,.map (setOf (ints 1 299))),
 (5,.cells (edL 0 (ints 0 300) [(0,(I 1)),(1,(I 3)),(3,(I 7)),(7,(I 15)),(15,(I 31)),(31,(I 63)),(63,(I 127)),(127,(I 255)),(255,(I 299)),(299,(I 0))]) true),
 (22,.map [((I 0),(.agg [(.slice 42 0 1 1 1 true)]))]),
 (24,.map (setOf (ints 1 1023))),
 (25,.cells [(I 1024),(.slice 26 0 1 1023 1024 false),(.map 24)] true),
 (26,.cells (edL 0 (ints 0 1024) [(0,(I 1)),(1,(I 3)),(3,(I 7)),(7,(I 15)),(15,(I 31)),(31,(I 63)),(63,(I 127)),(127,(I 255)),(255,(I 511)),(511,(I 1023)),(1023,(I 0))]) true),
 (39,.cells ([(U 0),(U 768),(U 25954)] ++ List.replicate 5 (U 0)) true),
 (40,.cells ([(U 4),(U 65540)] ++ List.replicate 100 (U 0) ++ [(U 281474976776192)] ++ List.replicate 161 (U 0)) true),
 (41,.cells [(I 3)] true),
 (42,.cells [(.slice 41 0 1 1 1 true)] true)]
def lit3 : Vm.Lit:=⟨[(.ptr 23 0),(.str [98,101]),(I 3)],hA3,(.tuple []),hB3⟩
def src3 : List Nat:=[196,225,242,243]
def hB4 : AH:=AH.upd hB3 47 [(2,.cells (edL 0 slots0 [(2,(.bool true)),(3,(.slice 39 0 1 8 8 true)),(6,(.bool true)),(7,(.slice 43 0 1 8 8 true)),(2802,(.bool true)),(2803,(.slice 44 0 1 264 264 true))]) true),
 (3,.cells [(I 1024),(.slice 5 0 1 298 300 false),(.map 4)] true),
 (4,.map (setOf (ints 2 298))),
 (5,.cells (edL 0 (ints 0 300) [(0,(I 2)),(1,(I 3)),(2,(I 5)),(3,(I 7)),(5,(I 11)),(7,(I 15)),(11,(I 23)),(15,(I 31)),(23,(I 47)),(31,(I 63)),(47,(I 95)),(63,(I 127)),(95,(I 191)),(127,(I 255)),(191,(I 298)),(255,(I 299)),(298,(I 1)),(299,(I 0))]) true),
 (22,.map [((I 0),(.agg [(.slice 42 0 1 1 1 true)])),((I 1),(.agg [(.slice 46 0 1 1 1 true)]))]),
 (24,.map (setOf (ints 2 1022))),
 (25,.cells [(I 1024),(.slice 26 0 1 1022 1024 false),(.map 24)] true),
 (26,.cells (edL 0 (ints 0 1024) [(0,(I 2)),(1,(I 3)),(2,(I 5)),(3,(I 7)),(5,(I 11)),(7,(I 15)),(11,(I 23)),(15,(I 31)),(23,(I 47)),(31,(I 63)),(47,(I 95)),(63,(I 127)),(95,(I 191)),(127,(I 255)),(191,(I 383)),(255,(I 511)),(383,(I 767)),(511,(I 1023)),(767,(I 1022)),(1022,(I 1)),(1023,(I 0))]) true),
 (43,.cells [(U 0),(U 768),(U 28532),(U 0),(U 1),(U 0),(U 0),(U 0)] true),
 (44,.cells ([(U 8),(U 131076)] ++ List.replicate 100 (U 0) ++ [(U 281474976776192)] ++ List.replicate 17 (U 0) ++ [(U 281474976776193)] ++ List.replicate 143 (U 0)) true),
 (45,.cells [(I 3)] true),
 (46,.cells [(.slice 45 0 1 1 1 true)] true)]
def lit4 : Vm.Lit:=⟨[(.ptr 23 0),(.str [116,111]),(I 3)],hB3,(.tuple []),hB4⟩
def src4 : List Nat:=[208,241,258,259]
def hB5 : AH:=AH.upd hB2 35 [(2,.cells (edL 0 slots0 [(2,(.bool true)),(3,(.slice 27 0 1 8 8 true)),(6,(.bool true)),(7,(.slice 30 0 1 8 8 true)),(2802,(.bool true)),(2803,(.slice 31 0 1 264 264 true))]) true),
 (3,.cells [(I 1024),(.slice 5 0 1 298 300 false),(.map 4)] true),
 (4,.map (setOf (ints 2 298))),
 (5,.cells (edL 0 (ints 0 300) [(0,(I 2)),(1,(I 3)),(2,(I 5)),(3,(I 7)),(5,(I 11)),(7,(I 15)),(11,(I 23)),(15,(I 31)),(23,(I 47)),(31,(I 63)),(47,(I 95)),(63,(I 127)),(95,(I 191)),(127,(I 255)),(191,(I 298)),(255,(I 299)),(298,(I 1)),(299,(I 0))]) true),
 (22,.map [((I 0),(.agg [(.slice 29 0 1 1 1 true)])),((I 1),(.agg [(.slice 33 0 1 1 1 true)]))]),
 (23,.cells [(I 300),(I 220),(I 120),(I 60),(I 2),(I 1),(I 32),(I 2),(.ptr 21 0),(.slice 34 0 2 1 1 false),(.map 22),(.ptr 25 0)] true),
 (24,.map (setOf (ints 2 1022))),
 (25,.cells [(I 1024),(.slice 26 0 1 1022 1024 false),(.map 24)] true),
 (26,.cells (edL 0 (ints 0 1024) [(0,(I 2)),(1,(I 3)),(2,(I 5)),(3,(I 7)),(5,(I 11)),(7,(I 15)),(11,(I 23)),(15,(I 31)),(23,(I 47)),(31,(I 63)),(47,(I 95)),(63,(I 127)),(95,(I 191)),(127,(I 255)),(191,(I 383)),(255,(I 511)),(383,(I 767)),(511,(I 1023)),(767,(I 1022)),(1022,(I 1)),(1023,(I 0))]) true),
 (27,.cells ([(U 0),(U 768),(U 25954)] ++ List.replicate 5 (U 0)) true),
 (28,.cells [(I 3)] true),
 (29,.cells [(.slice 28 0 1 1 1 true)] true),
 (30,.cells [(U 0),(U 768),(U 28532),(U 0),(U 1),(U 0),(U 0),(U 0)] true),
 (31,.cells ([(U 8),(U 131076)] ++ List.replicate 100 (U 0) ++ [(U 281474976776192)] ++ List.replicate 17 (U 0) ++ [(U 281474976776193)] ++ List.replicate 143 (U 0)) true),
 (32,.cells [(I 3)] true),
 (33,.cells [(.slice 32 0 1 1 1 true)] true),
 (34,.cells [(I 3),(.str [116,111,32,98,101])] true)]
def lit5 : Vm.Lit:=⟨[(.ptr 23 0),(I 3),(.str [116,111,32,98,101])],hB2,(I 0),hB5⟩
def src5 : List Nat:=[39,41,42,43,44,45,46,48]
def hA6 : AH:=AH.upd hB5 52 [(35,.marked [(.int .u8 111),(.int .u8 114),(.int .u8 0),(.int .u8 110),(.int .u8 111),(.int .u8 116),(.int .u8 0),(.int .u8 116),(.int .u8 111),(.int .u8 0),(.int .u8 98),(.int .u8 101)]),
 (36,.cells [(.slice 49 0 1 4 4 false)] true),
 (37,.cells [(.str [98,101])] true),
 (38,.cells [(.str [0])] true),
 (39,.cells [(I 0)] true),
 (40,.dead),
 (41,.dead),
 (42,.cells [(.str [111,114])] true),
 (43,.dead),
 (44,.cells [(.str [110,111,116])] true),
 (45,.dead),
 (46,.cells [(.str [116,111])] true),
 (47,.dead),
 (48,.cells [(.str [98,101])] true),
 (49,.cells [(.str [98,101]),(.str [110,111,116]),(.str [111,114]),(.str [116,111])] true),
 (50,.cells [(I 3),(.str [116,111,32,98,101])] true),
 (51,.cells [(I 0),(I 1),(I 2),(I 3)] true)]
def hB6 : AH:=AH.upd hA6 54 [(22,.map [((I 0),(.agg [(.slice 53 0 1 1 1 false)])),((I 1),(.agg [(.slice 33 0 1 1 1 true)]))]),
 (52,.cells [(I 3),(I 5)] true),
 (53,.cells [(.slice 52 0 1 2 2 false)] true)]
def lit6 : Vm.Lit:=⟨[(.ptr 23 0),(.str [98,101]),(I 5)],hA6,(.tuple []),hB6⟩
def src6 : List Nat:=[171,176]
def hB7 : AH:=AH.upd hB6 58 [(2,.cells (edL 0 slots0 [(2,(.bool true)),(3,(.slice 27 0 1 8 8 true)),(6,(.bool true)),(7,(.slice 30 0 1 8 8 true)),(10,(.bool true)),(11,(.slice 54 0 1 8 8 true)),(2802,(.bool true)),(2803,(.slice 55 0 1 264 264 true))]) true),
 (3,.cells [(I 1024),(.slice 5 0 1 297 300 false),(.map 4)] true),
 (4,.map (setOf (ints 3 297))),
 (5,.cells (edL 0 (ints 0 300) [(0,(I 3)),(1,(I 4)),(2,(I 5)),(3,(I 7)),(4,(I 9)),(5,(I 11)),(7,(I 15)),(9,(I 19)),(11,(I 23)),(15,(I 31)),(19,(I 39)),(23,(I 47)),(31,(I 63)),(39,(I 79)),(47,(I 95)),(63,(I 127)),(79,(I 159)),(95,(I 191)),(127,(I 255)),(159,(I 297)),(191,(I 298)),(255,(I 299)),(297,(I 2)),(298,(I 1)),(299,(I 0))]) true),
 (22,.map [((I 0),(.agg [(.slice 53 0 1 1 1 false)])),((I 1),(.agg [(.slice 33 0 1 1 1 true)])),((I 2),(.agg [(.slice 57 0 1 1 1 true)]))]),
 (24,.map (setOf (ints 3 1021))),
 (25,.cells [(I 1024),(.slice 26 0 1 1021 1024 false),(.map 24)] true),
 (26,.cells (edL 0 (ints 0 1024) [(0,(I 3)),(1,(I 4)),(2,(I 5)),(3,(I 7)),(4,(I 9)),(5,(I 11)),(7,(I 15)),(9,(I 19)),(11,(I 23)),(15,(I 31)),(19,(I 39)),(23,(I 47)),(31,(I 63)),(39,(I 79)),(47,(I 95)),(63,(I 127)),(79,(I 159)),(95,(I 191)),(127,(I 255)),(159,(I 319)),(191,(I 383)),(255,(I 511)),(319,(I 639)),(383,(I 767)),(511,(I 1023)),(639,(I 1021)),(767,(I 1022)),(1021,(I 2)),(1022,(I 1)),(1023,(I 0))]) true),
 (54,.cells [(U 0),(U 1024),(U 7630702),(U 0),(U 2),(U 0),(U 0),(U 0)] true),
 (55,.cells ([(U 12),(U 196612)] ++ List.replicate 100 (U 0) ++ [(U 281474976776192)] ++ List.replicate 11 (U 0) ++ [(U 281474976776194)] ++ List.replicate 5 (U 0) ++ [(U 281474976776193)] ++ List.replicate 143 (U 0)) true),
 (56,.cells [(I 5)] true),
 (57,.cells [(.slice 56 0 1 1 1 true)] true)]
def lit7 : Vm.Lit:=⟨[(.ptr 23 0),(.str [110,111,116]),(I 5)],hB6,(.tuple []),hB7⟩
def src7 : List Nat:=[227,260,277,278]
def hB8 : AH:=AH.upd hB7 62 [(2,.cells (edL 0 slots0 [(2,(.bool true)),(3,(.slice 27 0 1 8 8 true)),(6,(.bool true)),(7,(.slice 30 0 1 8 8 true)),(10,(.bool true)),(11,(.slice 54 0 1 8 8 true)),(14,(.bool true)),(15,(.slice 58 0 1 8 8 true)),(2802,(.bool true)),(2803,(.slice 59 0 1 264 264 true))]) true),
 (3,.cells [(I 1024),(.slice 5 0 1 296 300 false),(.map 4)] true),
 (4,.map (setOf (ints 4 296))),
 (5,.cells (edL 0 (ints 0 300) [(0,(I 4)),(1,(I 7)),(2,(I 5)),(3,(I 8)),(4,(I 9)),(5,(I 11)),(7,(I 15)),(8,(I 17)),(9,(I 19)),(11,(I 23)),(15,(I 31)),(17,(I 35)),(19,(I 39)),(23,(I 47)),(31,(I 63)),(35,(I 71)),(39,(I 79)),(47,(I 95)),(63,(I 127)),(71,(I 143)),(79,(I 159)),(95,(I 191)),(127,(I 255)),(143,(I 287)),(159,(I 297)),(191,(I 298)),(255,(I 299)),(287,(I 296)),(296,(I 3)),(297,(I 2)),(298,(I 1)),(299,(I 0))]) true),
 (22,.map [((I 0),(.agg [(.slice 53 0 1 1 1 false)])),((I 1),(.agg [(.slice 33 0 1 1 1 true)])),((I 2),(.agg [(.slice 57 0 1 1 1 true)])),((I 3),(.agg [(.slice 61 0 1 1 1 true)]))]),
 (24,.map (setOf (ints 4 1020))),
 (25,.cells [(I 1024),(.slice 26 0 1 1020 1024 false),(.map 24)] true),
 (26,.cells (edL 0 (ints 0 1024) [(0,(I 4)),(1,(I 7)),(2,(I 5)),(3,(I 8)),(4,(I 9)),(5,(I 11)),(7,(I 15)),(8,(I 17)),(9,(I 19)),(11,(I 23)),(15,(I 31)),(17,(I 35)),(19,(I 39)),(23,(I 47)),(31,(I 63)),(35,(I 71)),(39,(I 79)),(47,(I 95)),(63,(I 127)),(71,(I 143)),(79,(I 159)),(95,(I 191)),(127,(I 255)),(143,(I 287)),(159,(I 319)),(191,(I 383)),(255,(I 511)),(287,(I 575)),(319,(I 639)),(383,(I 767)),(511,(I 1023)),(575,(I 1020)),(639,(I 1021)),(767,(I 1022)),(1020,(I 3)),(1021,(I 2)),(1022,(I 1)),(1023,(I 0))]) true),
 (58,.cells [(U 0),(U 768),(U 29295),(U 0),(U 3),(U 0),(U 0),(U 0)] true),
 (59,.cells ([(U 16),(U 262148)] ++ List.replicate 100 (U 0) ++ [(U 281474976776192)] ++ List.replicate 11 (U 0) ++ [(U 281474976776194),(U 281474976776195)] ++ List.replicate 4 (U 0) ++ [(U 281474976776193)] ++ List.replicate 143 (U 0)) true),
 (60,.cells [(I 5)] true),
 (61,.cells [(.slice 60 0 1 1 1 true)] true)]
def lit8 : Vm.Lit:=⟨[(.ptr 23 0),(.str [111,114]),(I 5)],hB7,(.tuple []),hB8⟩
def src8 : List Nat:=[239,272,289,290]
def hB9 : AH:=AH.upd hB8 64 [(22,.map [((I 0),(.agg [(.slice 53 0 1 1 1 false)])),((I 1),(.agg [(.slice 63 0 1 1 1 false)])),((I 2),(.agg [(.slice 57 0 1 1 1 true)])),((I 3),(.agg [(.slice 61 0 1 1 1 true)]))]),
 (62,.cells [(I 3),(I 5)] true),
 (63,.cells [(.slice 62 0 1 2 2 false)] true)]
def lit9 : Vm.Lit:=⟨[(.ptr 23 0),(.str [116,111]),(I 5)],hB8,(.tuple []),hB9⟩
def src9 : List Nat:=[189,194]
def hB10 : AH:=AH.upd hB5 47 [(2,.cells (edL 0 slots0 [(2,(.bool true)),(3,(.slice 27 0 1 8 8 true)),(6,(.bool true)),(7,(.slice 30 0 1 8 8 true)),(10,(.bool true)),(11,(.slice 37 0 1 8 8 true)),(14,(.bool true)),(15,(.slice 40 0 1 8 8 true)),(2802,(.bool true)),(2803,(.slice 41 0 1 264 264 true))]) true),
 (3,.cells [(I 1024),(.slice 5 0 1 296 300 false),(.map 4)] true),
 (4,.map (setOf (ints 4 296))),
 (5,.cells (edL 0 (ints 0 300) [(0,(I 4)),(1,(I 7)),(2,(I 5)),(3,(I 8)),(4,(I 9)),(5,(I 11)),(7,(I 15)),(8,(I 17)),(9,(I 19)),(11,(I 23)),(15,(I 31)),(17,(I 35)),(19,(I 39)),(23,(I 47)),(31,(I 63)),(35,(I 71)),(39,(I 79)),(47,(I 95)),(63,(I 127)),(71,(I 143)),(79,(I 159)),(95,(I 191)),(127,(I 255)),(143,(I 287)),(159,(I 297)),(191,(I 298)),(255,(I 299)),(287,(I 296)),(296,(I 3)),(297,(I 2)),(298,(I 1)),(299,(I 0))]) true),
 (22,.map [((I 0),(.agg [(.slice 36 0 1 1 1 false)])),((I 1),(.agg [(.slice 45 0 1 1 1 false)])),((I 2),(.agg [(.slice 39 0 1 1 1 true)])),((I 3),(.agg [(.slice 43 0 1 1 1 true)]))]),
 (23,.cells [(I 300),(I 220),(I 120),(I 60),(I 2),(I 1),(I 32),(I 2),(.ptr 21 0),(.slice 46 0 2 2 2 false),(.map 22),(.ptr 25 0)] true),
 (24,.map (setOf (ints 4 1020))),
 (25,.cells [(I 1024),(.slice 26 0 1 1020 1024 false),(.map 24)] true),
 (26,.cells (edL 0 (ints 0 1024) [(0,(I 4)),(1,(I 7)),(2,(I 5)),(3,(I 8)),(4,(I 9)),(5,(I 11)),(7,(I 15)),(8,(I 17)),(9,(I 19)),(11,(I 23)),(15,(I 31)),(17,(I 35)),(19,(I 39)),(23,(I 47)),(31,(I 63)),(35,(I 71)),(39,(I 79)),(47,(I 95)),(63,(I 127)),(71,(I 143)),(79,(I 159)),(95,(I 191)),(127,(I 255)),(143,(I 287)),(159,(I 319)),(191,(I 383)),(255,(I 511)),(287,(I 575)),(319,(I 639)),(383,(I 767)),(511,(I 1023)),(575,(I 1020)),(639,(I 1021)),(767,(I 1022)),(1020,(I 3)),(1021,(I 2)),(1022,(I 1)),(1023,(I 0))]) true),
 (34,.dead),
 (35,.cells [(I 3),(I 5)] true),
 (36,.cells [(.slice 35 0 1 2 2 false)] true),
 (37,.cells [(U 0),(U 1024),(U 7630702),(U 0),(U 2),(U 0),(U 0),(U 0)] true),
 (38,.cells [(I 5)] true),
 (39,.cells [(.slice 38 0 1 1 1 true)] true),
 (40,.cells [(U 0),(U 768),(U 29295),(U 0),(U 3),(U 0),(U 0),(U 0)] true),
 (41,.cells ([(U 16),(U 262148)] ++ List.replicate 100 (U 0) ++ [(U 281474976776192)] ++ List.replicate 11 (U 0) ++ [(U 281474976776194),(U 281474976776195)] ++ List.replicate 4 (U 0) ++ [(U 281474976776193)] ++ List.replicate 143 (U 0)) true),
 (42,.cells [(I 5)] true),
 (43,.cells [(.slice 42 0 1 1 1 true)] true),
 (44,.cells [(I 3),(I 5)] true),
 (45,.cells [(.slice 44 0 1 2 2 false)] true),
 (46,.cells [(I 3),(.str [116,111,32,98,101]),(I 5),(.str [111,114,32,110,111,116,32,116,111,32,98,101])] true)]
def lit10 : Vm.Lit:=⟨[(.ptr 23 0),(I 5),(.str [111,114,32,110,111,116,32,116,111,32,98,101])],hB5,(I 0),hB10⟩
def src10 : List Nat:=[52,53,54,56,57,58,59,60,61,62,63,65]
def hB11 : AH:=AH.upd hB10 48 [(47,.cells [(I 3),(I 5)] true)]
def lit11 : Vm.Lit:=⟨[(.ptr 23 0),(.str [98,101])],hB10,(.slice 47 0 1 2 2 false),hB11⟩
def src11 : List Nat:=[168]
def hB12 : AH:=AH.upd hB11 48 []
def lit12 : Vm.Lit:=⟨[(.ptr 23 0),(.str [98,101])],hB10,(.tuple [(.slice 47 0 1 2 2 false),(I 0)]),hB12⟩
def src12 : List Nat:=[47]
def hA13 : AH:=AH.upd hB11 75 [(48,.cells [(.str []),(I 0),(.slice 66 0 2 4 4 false),(I 0)] true),
 (49,.cells [(.int .u8 116)] true),
 (50,.dead),
 (51,.cells [(.int .u8 111)] true),
 (52,.cells [(.int .u8 116),(.int .u8 111)] true),
 (53,.cells [(I 1),(.str [116,111])] true),
 (54,.dead),
 (55,.cells [(.int .u8 110)] true),
 (56,.dead),
 (57,.cells [(.int .u8 111)] true),
 (58,.dead),
 (59,.cells [(.int .u8 116)] true),
 (60,.cells [(.int .u8 110),(.int .u8 111),(.int .u8 116)] true),
 (61,.cells [(I 1),(.str [110,111,116])] true),
 (62,.dead),
 (63,.cells [(I 4),(.str [])] true),
 (64,.dead),
 (65,.cells [(I 2),(.str [])] true),
 (66,.cells [(I 1),(.str [116,111]),(I 1),(.str [110,111,116]),(I 4),(.str []),(I 2),(.str [])] true),
 (67,.cells [(I 1),(.str [116,111])] true),
 (68,.cells [(.str [116,111])] true),
 (69,.dead),
 (70,.cells [(I 1),(.str [110,111,116])] true),
 (71,.cells [(.str [110,111,116])] true),
 (72,.cells [(.str [116,111]),(.str [110,111,116])] true),
 (73,.cells [(I 4),(.str [])] true),
 (74,.cells [(I 2),(.str [])] true)]
def hB13 : AH:=AH.upd hA13 76 [(75,.cells [(I 3),(I 5)] true)]
def lit13 : Vm.Lit:=⟨[(.ptr 23 0),(.str [116,111])],hA13,(.slice 75 0 1 2 2 false),hB13⟩
def src13 : List Nat:=[196]
def hA14 : AH:=AH.upd hB13 91 [(76,.cells [(.slice 75 0 1 2 2 false)] true),
 (77,.cells [] true),
 (78,.cells [(.slice 84 0 1 0 1 false)] true),
 (79,.cells [(I 3)] true),
 (80,.dead),
 (81,.cells [(I 5)] true),
 (82,.cells [(I 3),(I 5)] true),
 (83,.cells [(.slice 82 0 1 2 2 false)] true),
 (84,.cells [(.slice 82 2 1 0 0 false)] true),
 (85,.cells [(I 3)] true),
 (86,.dead),
 (87,.cells [(I 5)] true),
 (88,.cells [(I 3),(I 5)] true),
 (89,.cells [(.slice 88 0 1 2 2 false)] true),
 (90,.cells [(.slice 88 0 1 2 2 false)] true)]
def hB14 : AH:=AH.upd hA14 92 [(91,.cells [(I 5)] true)]
def lit14 : Vm.Lit:=⟨[(.ptr 23 0),(.str [110,111,116])],hA14,(.slice 91 0 1 1 1 false),hB14⟩
def src14 : List Nat:=[212]
def hB15 : AH:=AH.upd hB11 49 [(48,.cells [(I 3)] true)]
def lit15 : Vm.Lit:=⟨[(.ptr 23 0),(.str [116,111,32,33,110,111,116])],hB11,(.tuple [(.slice 48 0 1 1 1 false),(I 0)]),hB15⟩
def src15 : List Nat:=[169]
def hB16 : AH:=AH.upd hB15 50 [(49,.cells [(.str [110,111,116]),(.str [111,114]),(.str [116,111])] true)]
def lit16 : Vm.Lit:=⟨[(.ptr 23 0),(.str [110]),(.str []),(I 9)],hB15,(.tuple [(.slice 49 0 1 3 3 false),(I 0)]),hB16⟩
def src16 : List Nat:=[256]
def hB17 : AH:=AH.upd hB16 50 []
def lit17 : Vm.Lit:=⟨[(.ptr 23 0),(I 3),(.str [120])],hB16,(I 9),hB17⟩
def src17 : List Nat:=[]
def hB18 : AH:=AH.upd hB16 50 []
def lit18 : Vm.Lit:=⟨[(.ptr 23 0),(.str [])],hB16,(.tuple [.nilSlice,(I 6)]),hB18⟩
def src18 : List Nat:=[]
def hA19 : AH:=AH.upd hB16 65 [(50,.cells [(I 5),(.str [111,114,32,110,111,116,32,116,111,32,98,101])] true),
 (51,.cells [(I 3),(.str [116,111,32,98,101])] true),
 (52,.cells [(I 3),(.str [116,111,32,98,101])] true),
 (53,.marked [(.int .u8 116),(.int .u8 111),(.int .u8 0),(.int .u8 98),(.int .u8 101)]),
 (54,.cells [(.slice 63 0 1 2 2 false)] true),
 (55,.cells [(.str [98,101])] true),
 (56,.cells [(.str [0])] true),
 (57,.cells [(I 0)] true),
 (58,.dead),
 (59,.dead),
 (60,.cells [(.str [116,111])] true),
 (61,.dead),
 (62,.cells [(.str [98,101])] true),
 (63,.cells [(.str [98,101]),(.str [116,111])] true),
 (64,.cells [(I 0),(I 1),(I 2),(I 3)] true)]
def hB19 : AH:=AH.upd hA19 67 [(22,.map [((I 0),(.agg [(.slice 66 0 1 1 1 false)])),((I 1),(.agg [(.slice 45 0 1 1 1 false)])),((I 2),(.agg [(.slice 39 0 1 1 1 true)])),((I 3),(.agg [(.slice 43 0 1 1 1 true)]))]),
 (65,.cells [(I 5),(I 0)] true),
 (66,.cells [(.slice 65 0 1 1 2 false)] true)]
def lit19 : Vm.Lit:=⟨[(.ptr 23 0),(.str [98,101]),(I 3)],hA19,(.tuple []),hB19⟩
def src19 : List Nat:=[190,195]
def hB20 : AH:=AH.upd hB19 69 [(22,.map [((I 0),(.agg [(.slice 66 0 1 1 1 false)])),((I 1),(.agg [(.slice 68 0 1 1 1 false)])),((I 2),(.agg [(.slice 39 0 1 1 1 true)])),((I 3),(.agg [(.slice 43 0 1 1 1 true)]))]),
 (67,.cells [(I 5),(I 0)] true),
 (68,.cells [(.slice 67 0 1 1 2 false)] true)]
def lit20 : Vm.Lit:=⟨[(.ptr 23 0),(.str [116,111]),(I 3)],hB19,(.tuple []),hB20⟩
def src20 : List Nat:=[192,197]
def hB21 : AH:=AH.upd hB16 54 [(22,.map [((I 0),(.agg [(.slice 51 0 1 1 1 false)])),((I 1),(.agg [(.slice 53 0 1 1 1 false)])),((I 2),(.agg [(.slice 39 0 1 1 1 true)])),((I 3),(.agg [(.slice 43 0 1 1 1 true)]))]),
 (23,.cells [(I 300),(I 220),(I 120),(I 60),(I 2),(I 1),(I 32),(I 2),(.ptr 21 0),(.slice 46 0 2 1 2 false),(.map 22),(.ptr 25 0)] true),
 (46,.cells [(I 5),(.str [111,114,32,110,111,116,32,116,111,32,98,101]),(I 0),(.str [])] true),
 (50,.cells [(I 5),(I 0)] true),
 (51,.cells [(.slice 50 0 1 1 2 false)] true),
 (52,.cells [(I 5),(I 0)] true),
 (53,.cells [(.slice 52 0 1 1 2 false)] true)]
def lit21 : Vm.Lit:=⟨[(.ptr 23 0),(I 3)],hB16,(I 0),hB21⟩
def src21 : List Nat:=[65,66,67,68]
def hB22 : AH:=AH.upd hB21 55 [(54,.cells [(I 5)] true)]
def lit22 : Vm.Lit:=⟨[(.ptr 23 0),(.str [98,101])],hB21,(.slice 54 0 1 1 1 false),hB22⟩
def src22 : List Nat:=[175]
def hB23 : AH:=AH.upd hB22 55 []
def lit23 : Vm.Lit:=⟨[(.ptr 23 0),(.str [98,101])],hB21,(.tuple [(.slice 54 0 1 1 1 false),(I 0)]),hB23⟩
def src23 : List Nat:=[54]
def hA24 : AH:=AH.upd hB22 77 [(55,.cells [(I 3),(I 5)] true),
 (56,.cells [(I 3)] true),
 (57,.cells [(.str [110,111,116]),(.str [111,114]),(.str [116,111])] true),
 (58,.cells [(I 5)] true),
 (59,.cells [(I 5),(.str [111,114,32,110,111,116,32,116,111,32,98,101])] true),
 (60,.cells [(I 5),(.str [111,114,32,110,111,116,32,116,111,32,98,101])] true),
 (61,.marked [(.int .u8 111),(.int .u8 114),(.int .u8 0),(.int .u8 110),(.int .u8 111),(.int .u8 116),(.int .u8 0),(.int .u8 116),(.int .u8 111),(.int .u8 0),(.int .u8 98),(.int .u8 101)]),
 (62,.cells [(.slice 75 0 1 4 4 false)] true),
 (63,.cells [(.str [98,101])] true),
 (64,.cells [(.str [0])] true),
 (65,.cells [(I 0)] true),
 (66,.dead),
 (67,.dead),
 (68,.cells [(.str [111,114])] true),
 (69,.dead),
 (70,.cells [(.str [110,111,116])] true),
 (71,.dead),
 (72,.cells [(.str [116,111])] true),
 (73,.dead),
 (74,.cells [(.str [98,101])] true),
 (75,.cells [(.str [98,101]),(.str [110,111,116]),(.str [111,114]),(.str [116,111])] true),
 (76,.cells [(I 0),(I 1),(I 2),(I 3)] true)]
def hB24 : AH:=AH.upd hA24 80 [(2,.cells (edL 0 slots0 [(1,(I 2)),(3,(.slice 79 0 1 8 8 true)),(6,(.bool true)),(7,(.slice 30 0 1 8 8 true)),(10,(.bool true)),(11,(.slice 37 0 1 8 8 true)),(14,(.bool true)),(15,(.slice 40 0 1 8 8 true)),(2802,(.bool true)),(2803,(.slice 77 0 1 264 264 true))]) true),
 (3,.cells [(I 1024),(.slice 5 0 1 297 300 false),(.map 4)] true),
 (4,.map (setOf (edL 0 (ints 4 297) [(296,(I 0))]))),
 (5,.cells (edL 0 (ints 0 300) [(1,(I 4)),(2,(I 5)),(3,(I 7)),(4,(I 9)),(5,(I 11)),(7,(I 15)),(9,(I 19)),(11,(I 23)),(15,(I 31)),(19,(I 39)),(23,(I 47)),(31,(I 63)),(35,(I 71)),(36,(I 35)),(39,(I 79)),(47,(I 95)),(63,(I 127)),(71,(I 143)),(73,(I 36)),(79,(I 159)),(95,(I 191)),(127,(I 255)),(143,(I 287)),(147,(I 73)),(159,(I 297)),(191,(I 298)),(255,(I 299)),(287,(I 296)),(296,(I 147)),(297,(I 2)),(298,(I 1)),(299,(I 0))]) true),
 (18,.cells [(I 2),(I 32),(.slice 19 0 2 1 1 false)] true),
 (19,.cells [(I (-1)),(.slice 78 0 2 0 0 true)] true),
 (22,.map [((I 1),(.agg [(.slice 53 0 1 1 1 false)])),((I 2),(.agg [(.slice 39 0 1 1 1 true)])),((I 3),(.agg [(.slice 43 0 1 1 1 true)]))]),
 (24,.map (setOf (edL 0 (ints 4 1021) [(1020,(I 0))]))),
 (25,.cells [(I 1024),(.slice 26 0 1 1021 1024 false),(.map 24)] true),
 (26,.cells (edL 0 (ints 0 1024) [(1,(I 7)),(2,(I 4)),(3,(I 8)),(4,(I 9)),(5,(I 11)),(6,(I 5)),(7,(I 15)),(8,(I 17)),(9,(I 19)),(11,(I 23)),(14,(I 6)),(15,(I 31)),(17,(I 35)),(19,(I 39)),(23,(I 47)),(30,(I 14)),(31,(I 63)),(35,(I 71)),(39,(I 79)),(47,(I 95)),(62,(I 30)),(63,(I 127)),(71,(I 143)),(79,(I 159)),(95,(I 191)),(126,(I 62)),(127,(I 255)),(143,(I 287)),(159,(I 319)),(191,(I 383)),(254,(I 126)),(255,(I 511)),(287,(I 575)),(319,(I 639)),(383,(I 767)),(509,(I 254)),(511,(I 1023)),(575,(I 1020)),(639,(I 1021)),(767,(I 1022)),(1020,(I 509)),(1021,(I 2)),(1022,(I 1)),(1023,(I 0))]) true),
 (77,.cells ([(U 20),(U 196612)] ++ List.replicate 112 (U 0) ++ [(U 281474976776194),(U 281474976776195)] ++ List.replicate 4 (U 0) ++ [(U 281474976776193)] ++ List.replicate 143 (U 0)) true),
 (78,.cells [] true),
 (79,.cells (List.replicate 8 (U 16045690984833335023)) true)]
def lit24 : Vm.Lit:=⟨[(.ptr 23 0),(.str [98,101]),(I 5)],hA24,(.tuple []),hB24⟩
def src24 : List Nat:=[359,446,448]
def hB25 : AH:=AH.upd hB24 83 [(2,.cells (edL 0 slots0 [(1,(I 2)),(3,(.slice 79 0 1 8 8 true)),(6,(.bool true)),(7,(.slice 30 0 1 8 8 true)),(9,(I 2)),(11,(.slice 82 0 1 8 8 true)),(14,(.bool true)),(15,(.slice 40 0 1 8 8 true)),(2802,(.bool true)),(2803,(.slice 80 0 1 264 264 true))]) true),
 (3,.cells [(I 1024),(.slice 5 0 1 298 300 false),(.map 4)] true),
 (4,.map (setOf (edL 0 (ints 4 298) [(296,(I 0)),(297,(I 2))]))),
 (5,.cells (edL 0 (ints 0 300) [(1,(I 2)),(2,(I 5)),(3,(I 4)),(4,(I 9)),(5,(I 11)),(7,(I 15)),(8,(I 7)),(9,(I 19)),(11,(I 23)),(15,(I 31)),(17,(I 8)),(19,(I 39)),(23,(I 47)),(31,(I 63)),(35,(I 71)),(36,(I 17)),(39,(I 79)),(47,(I 95)),(63,(I 127)),(71,(I 143)),(73,(I 35)),(79,(I 159)),(95,(I 191)),(127,(I 255)),(143,(I 287)),(147,(I 73)),(148,(I 36)),(159,(I 297)),(191,(I 298)),(255,(I 299)),(287,(I 296)),(296,(I 147)),(297,(I 148)),(298,(I 1)),(299,(I 0))]) true),
 (18,.cells [(I 4),(I 32),(.slice 19 0 2 1 1 false)] true),
 (19,.cells [(I (-1)),(.slice 81 0 2 0 0 true)] true),
 (22,.map [((I 1),(.agg [(.slice 53 0 1 1 1 false)])),((I 3),(.agg [(.slice 43 0 1 1 1 true)]))]),
 (24,.map (setOf (edL 0 (ints 4 1022) [(1020,(I 0)),(1021,(I 2))]))),
 (25,.cells [(I 1024),(.slice 26 0 1 1022 1024 false),(.map 24)] true),
 (26,.cells (edL 0 (ints 0 1024) [(1,(I 7)),(3,(I 8)),(4,(I 9)),(5,(I 11)),(6,(I 4)),(7,(I 15)),(8,(I 17)),(9,(I 19)),(11,(I 23)),(14,(I 5)),(15,(I 31)),(17,(I 35)),(19,(I 39)),(23,(I 47)),(30,(I 6)),(31,(I 63)),(35,(I 71)),(39,(I 79)),(47,(I 95)),(62,(I 14)),(63,(I 127)),(71,(I 143)),(79,(I 159)),(95,(I 191)),(126,(I 30)),(127,(I 255)),(143,(I 287)),(159,(I 319)),(191,(I 383)),(254,(I 62)),(255,(I 511)),(287,(I 575)),(319,(I 639)),(383,(I 767)),(509,(I 254)),(510,(I 126)),(511,(I 1023)),(575,(I 1020)),(639,(I 1021)),(767,(I 1022)),(1020,(I 509)),(1021,(I 510)),(1022,(I 1)),(1023,(I 0))]) true),
 (80,.cells ([(U 24),(U 131076)] ++ List.replicate 113 (U 0) ++ [(U 281474976776195)] ++ List.replicate 4 (U 0) ++ [(U 281474976776193)] ++ List.replicate 143 (U 0)) true),
 (81,.cells [] true),
 (82,.cells (List.replicate 8 (U 16045690984833335023)) true)]
def lit25 : Vm.Lit:=⟨[(.ptr 23 0),(.str [110,111,116]),(I 5)],hB24,(.tuple []),hB25⟩
def src25 : List Nat:=[354,441,443]
def hB26 : AH:=AH.upd hB25 86 [(2,.cells (edL 0 slots0 [(1,(I 2)),(3,(.slice 79 0 1 8 8 true)),(6,(.bool true)),(7,(.slice 30 0 1 8 8 true)),(9,(I 2)),(11,(.slice 82 0 1 8 8 true)),(13,(I 2)),(15,(.slice 85 0 1 8 8 true)),(2802,(.bool true)),(2803,(.slice 83 0 1 264 264 true))]) true),
 (3,.cells [(I 1024),(.slice 5 0 1 299 300 false),(.map 4)] true),
 (4,.map (setOf (edL 0 (ints 4 299) [(296,(I 0)),(297,(I 2)),(298,(I 3))]))),
 (5,.cells (edL 0 (ints 0 300) [(1,(I 2)),(2,(I 5)),(4,(I 9)),(5,(I 11)),(7,(I 15)),(8,(I 4)),(9,(I 19)),(11,(I 23)),(15,(I 31)),(17,(I 7)),(19,(I 39)),(23,(I 47)),(31,(I 63)),(35,(I 71)),(36,(I 8)),(39,(I 79)),(47,(I 95)),(63,(I 127)),(71,(I 143)),(73,(I 17)),(79,(I 159)),(95,(I 191)),(127,(I 255)),(143,(I 287)),(147,(I 73)),(148,(I 35)),(159,(I 297)),(191,(I 298)),(255,(I 299)),(287,(I 296)),(296,(I 147)),(297,(I 148)),(298,(I 36)),(299,(I 0))]) true),
 (18,.cells [(I 6),(I 32),(.slice 19 0 2 1 1 false)] true),
 (19,.cells [(I (-1)),(.slice 84 0 2 0 0 true)] true),
 (22,.map [((I 1),(.agg [(.slice 53 0 1 1 1 false)]))]),
 (24,.map (setOf (edL 0 (ints 4 1023) [(1020,(I 0)),(1021,(I 2)),(1022,(I 3))]))),
 (25,.cells [(I 1024),(.slice 26 0 1 1023 1024 false),(.map 24)] true),
 (26,.cells (edL 0 (ints 0 1024) [(1,(I 7)),(3,(I 8)),(4,(I 9)),(5,(I 11)),(6,(I 3)),(7,(I 15)),(8,(I 17)),(9,(I 19)),(11,(I 23)),(14,(I 4)),(15,(I 31)),(17,(I 35)),(19,(I 39)),(23,(I 47)),(30,(I 5)),(31,(I 63)),(35,(I 71)),(39,(I 79)),(47,(I 95)),(62,(I 6)),(63,(I 127)),(71,(I 143)),(79,(I 159)),(95,(I 191)),(126,(I 14)),(127,(I 255)),(143,(I 287)),(159,(I 319)),(191,(I 383)),(254,(I 30)),(255,(I 511)),(287,(I 575)),(319,(I 639)),(383,(I 767)),(509,(I 254)),(510,(I 62)),(511,(I 1023)),(575,(I 1020)),(639,(I 1021)),(767,(I 1022)),(1020,(I 509)),(1021,(I 510)),(1022,(I 126)),(1023,(I 0))]) true),
 (83,.cells ([(U 28),(U 65540)] ++ List.replicate 118 (U 0) ++ [(U 281474976776193)] ++ List.replicate 143 (U 0)) true),
 (84,.cells [] true),
 (85,.cells (List.replicate 8 (U 16045690984833335023)) true)]
def lit26 : Vm.Lit:=⟨[(.ptr 23 0),(.str [111,114]),(I 5)],hB25,(.tuple []),hB26⟩
def src26 : List Nat:=[349,436,438]
def hB27 : AH:=AH.upd hB26 89 [(2,.cells (edL 0 slots0 [(1,(I 2)),(3,(.slice 79 0 1 8 8 true)),(5,(I 2)),(7,(.slice 88 0 1 8 8 true)),(9,(I 2)),(11,(.slice 82 0 1 8 8 true)),(13,(I 2)),(15,(.slice 85 0 1 8 8 true)),(2802,(.bool true)),(2803,(.slice 86 0 1 264 264 true))]) true),
 (3,.cells [(I 1024),(.slice 5 0 1 300 300 false),(.map 4)] true),
 (4,.map (setOf (edL 0 (ints 4 300) [(296,(I 0)),(297,(I 2)),(298,(I 3)),(299,(I 1))]))),
 (5,.cells (edL 0 (ints 0 300) [(2,(I 5)),(3,(I 2)),(4,(I 9)),(5,(I 11)),(7,(I 15)),(8,(I 3)),(9,(I 19)),(11,(I 23)),(15,(I 31)),(17,(I 4)),(19,(I 39)),(23,(I 47)),(31,(I 63)),(35,(I 71)),(36,(I 7)),(39,(I 79)),(47,(I 95)),(63,(I 127)),(71,(I 143)),(73,(I 17)),(74,(I 8)),(79,(I 159)),(95,(I 191)),(127,(I 255)),(143,(I 287)),(147,(I 73)),(148,(I 35)),(149,(I 74)),(159,(I 297)),(191,(I 298)),(255,(I 299)),(287,(I 296)),(296,(I 147)),(297,(I 148)),(298,(I 36)),(299,(I 149))]) true),
 (18,.cells [(I 8),(I 32),(.slice 19 0 2 1 1 false)] true),
 (19,.cells [(I (-1)),(.slice 87 0 2 0 0 true)] true),
 (22,.map []),
 (24,.map (setOf (edL 0 (ints 4 1024) [(1020,(I 0)),(1021,(I 2)),(1022,(I 3)),(1023,(I 1))]))),
 (25,.cells [(I 1024),(.slice 26 0 1 1024 1024 false),(.map 24)] true),
 (26,.cells (edL 0 (ints 0 1024) [(3,(I 7)),(4,(I 9)),(5,(I 11)),(6,(I 3)),(7,(I 8)),(8,(I 17)),(9,(I 19)),(11,(I 23)),(14,(I 4)),(17,(I 35)),(19,(I 39)),(23,(I 47)),(30,(I 5)),(35,(I 71)),(39,(I 79)),(47,(I 95)),(62,(I 6)),(71,(I 143)),(79,(I 159)),(95,(I 191)),(126,(I 14)),(143,(I 287)),(159,(I 319)),(191,(I 383)),(254,(I 30)),(287,(I 575)),(319,(I 639)),(383,(I 767)),(509,(I 254)),(510,(I 62)),(575,(I 1020)),(639,(I 1021)),(767,(I 1022)),(1020,(I 509)),(1021,(I 510)),(1022,(I 126))]) true),
 (86,.cells ([(U 32),(U 4)] ++ List.replicate 262 (U 0)) true),
 (87,.cells [] true),
 (88,.cells (List.replicate 8 (U 16045690984833335023)) true)]
def lit27 : Vm.Lit:=⟨[(.ptr 23 0),(.str [116,111]),(I 5)],hB26,(.tuple []),hB27⟩
def src27 : List Nat:=[342,429,431]
def hA28 : AH:=AH.upd hB22 59 [(55,.cells [(I 3),(I 5)] true),
 (56,.cells [(I 3)] true),
 (57,.cells [(.str [110,111,116]),(.str [111,114]),(.str [116,111])] true),
 (58,.cells [(I 5)] true)]
def hB28 : AH:=AH.upd hA28 65 [(2,.cells (edL 0 slots0 [(1,(I 2)),(3,(.slice 59 0 1 8 8 true)),(5,(I 2)),(7,(.slice 64 0 1 8 8 true)),(9,(I 2)),(11,(.slice 60 0 1 8 8 true)),(13,(I 2)),(15,(.slice 61 0 1 8 8 true)),(2802,(.bool true)),(2803,(.slice 62 0 1 264 264 true))]) true),
 (3,.cells [(I 1024),(.slice 5 0 1 300 300 false),(.map 4)] true),
 (4,.map (setOf (edL 0 (ints 4 300) [(296,(I 0)),(297,(I 2)),(298,(I 3)),(299,(I 1))]))),
 (5,.cells (edL 0 (ints 0 300) [(2,(I 5)),(3,(I 2)),(4,(I 9)),(5,(I 11)),(7,(I 15)),(8,(I 3)),(9,(I 19)),(11,(I 23)),(15,(I 31)),(17,(I 4)),(19,(I 39)),(23,(I 47)),(31,(I 63)),(35,(I 71)),(36,(I 7)),(39,(I 79)),(47,(I 95)),(63,(I 127)),(71,(I 143)),(73,(I 17)),(74,(I 8)),(79,(I 159)),(95,(I 191)),(127,(I 255)),(143,(I 287)),(147,(I 73)),(148,(I 35)),(149,(I 74)),(159,(I 297)),(191,(I 298)),(255,(I 299)),(287,(I 296)),(296,(I 147)),(297,(I 148)),(298,(I 36)),(299,(I 149))]) true),
 (18,.cells [(I 8),(I 32),(.slice 19 0 2 1 1 false)] true),
 (19,.cells [(I (-1)),(.slice 63 0 2 0 0 true)] true),
 (22,.map []),
 (23,.cells [(I 300),(I 220),(I 120),(I 60),(I 2),(I 1),(I 32),(I 2),(.ptr 21 0),(.slice 46 0 2 0 2 false),(.map 22),(.ptr 25 0)] true),
 (24,.map (setOf (edL 0 (ints 4 1024) [(1020,(I 0)),(1021,(I 2)),(1022,(I 3)),(1023,(I 1))]))),
 (25,.cells [(I 1024),(.slice 26 0 1 1024 1024 false),(.map 24)] true),
 (26,.cells (edL 0 (ints 0 1024) [(3,(I 7)),(4,(I 9)),(5,(I 11)),(6,(I 3)),(7,(I 8)),(8,(I 17)),(9,(I 19)),(11,(I 23)),(14,(I 4)),(17,(I 35)),(19,(I 39)),(23,(I 47)),(30,(I 5)),(35,(I 71)),(39,(I 79)),(47,(I 95)),(62,(I 6)),(71,(I 143)),(79,(I 159)),(95,(I 191)),(126,(I 14)),(143,(I 287)),(159,(I 319)),(191,(I 383)),(254,(I 30)),(287,(I 575)),(319,(I 639)),(383,(I 767)),(509,(I 254)),(510,(I 62)),(575,(I 1020)),(639,(I 1021)),(767,(I 1022)),(1020,(I 509)),(1021,(I 510)),(1022,(I 126))]) true),
 (46,.cells [(I 0),(.str []),(I 0),(.str [])] true),
 (59,.cells (List.replicate 8 (U 16045690984833335023)) true),
 (60,.cells (List.replicate 8 (U 16045690984833335023)) true),
 (61,.cells (List.replicate 8 (U 16045690984833335023)) true),
 (62,.cells ([(U 32),(U 4)] ++ List.replicate 262 (U 0)) true),
 (63,.cells [] true),
 (64,.cells (List.replicate 8 (U 16045690984833335023)) true)]
def lit28 : Vm.Lit:=⟨[(.ptr 23 0),(I 5)],hA28,(I 0),hB28⟩
def src28 : List Nat:=[79,82,85,86,87,88]
end Go.Proofs.YtakgcpmemalmaaaGreatDoor

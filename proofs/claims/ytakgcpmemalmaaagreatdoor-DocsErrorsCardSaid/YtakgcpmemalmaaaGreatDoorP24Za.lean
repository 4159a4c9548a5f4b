/- DocsErrors: its run. -/
import Derived.Test.YtakgcpmemalmaaaGreatDoorP24Z
namespace Go.Proofs.YtakgcpmemalmaaaGreatDoor
open Go.Vm
open Go.Vm.AOpd renaming val → vA
open Nat renaming reduceEqDiff → vB,reduceAdd → vC,reduceBEq → vD
open Go.RowKit
set_option linter.unusedSimpArgs false
set_option linter.unusedVariables false
set_option maxRecDepth 100000
theorem str_add {a b : Txt} (hl : a.length + b.length≤9223372036854775807) : binV .add (.str a) (.str b)=some (.str (a ++ b)):=by
 simp [binV,strBin,hl]
theorem two_fill {b0 b1 : Int} : fillV [AV.int .i64 0,.int .i64 0] [(0,1,.int .i64 b0),(1,1,.int .i64 b1)]=some [.int .i64 b0,.int .i64 b1]:=by simp [fillV,AV.isDef,setMany,AV.cells]
theorem one_fill : fillV [AV.int .i64 0] [(0,1,.int .i64 7)]=some [.int .i64 7]:=by simp [fillV,AV.isDef,setMany,AV.cells]
theorem pick_bad {b0 b1 m : Int} (h0 : Bad b0) (h1 : Bad b1) (hm : 0≤m) (hm1 : m≤1) : ∃ p bad,idxAddrV 1 (.slice 35 0 1 2 2 true) (.int .i64 m)=some p∧loadV (hS b0 b1) false 1 p=some (.int .i64 bad)∧Bad bad:=by
 have g : (hS b0 b1).get 35=some (.cells [.int .i64 b0,.int .i64 b1] true):=get_new_same (h:=hB42)
 have : m=0∨m=1:=by omega
 rcases this with rfl | rfl
 ·exact ⟨.ptr 35 0,b0,rfl,load_at g rfl,h0⟩
 ·exact ⟨.ptr 35 1,b1,rfl,load_at g rfl,h1⟩
set_option maxHeartbeats 1000000 in
theorem errors_run {id other : Int} {s : Txt} (hs : s.length≤9223372036854775807) : Gives Te 9 [.int .i64 id,.str s,.int .i64 other] AH.empty fun r _ => r = .bool true:=by
 refine gives_func rfl (show Te.func 9=some a9 from rfl) rfl ?_
 simp only [a9,c9,vms,vmc,vA,vB,reduceCtorEq,vC,vD]
 refine Gives.bind (g13.mono ?_)
 rintro _ _ ⟨rfl,rfl⟩
 simp only [vms,vmc,vA,vB,reduceCtorEq,vC,vD]
 refine Gives.bind (g12.mono ?_)
 rintro _ _ ⟨rfl,rfl⟩
 have en : eqNilV 0 (.ptr 23 0) .nilPtr=some false:=rfl
 have z0 : ((0 : Int) != 0)=false:=rfl
 simp only [vms,vmc,vA,vB,reduceCtorEq,vC,vD,en,z0]
 refine Gives.bind (g15a.mono ?_)
 rintro _ _ ⟨rfl,rfl⟩
 simp only [vms,vmc,vA,vB,reduceCtorEq,vC,vD,z0]
 refine wpc_loop (fun m f h' => ∃ x : Txt,m=513 - x.length∧x.length≤9223372036854775807∧h'=hB42∧f.at 0 = .int .i64 id∧f.at 1 = .str x∧f.at 2 = .int .i64 other∧f.at 7 = .ptr 23 0) ?_ (513 - s.length) _ _ ⟨s,rfl,hs,rfl,?_⟩
 ·rintro m f h' ⟨x,rfl,hx,rfl,f0,f1,f2,f7⟩
  by_cases hle : (x.length : Int)≤512
  ·have ba : binV .add (.str x) (.str [97,97,97,97,97,97,97,97,32])=some (.str (x ++ [97,97,97,97,97,97,97,97,32])):=str_add (by simp; omega)
   simp only [c9l0,vms,vmc,vA,vB,reduceCtorEq,vC,vD,f0,f1,f2,f7,decide_eq_true hle,ba]
   exact ⟨513 - (x ++ [97,97,97,97,97,97,97,97,32]).length,by simp; omega,_,rfl,by simp; omega,by trivial,by trivial,by trivial,by trivial,by trivial⟩
  ·have hlong : 512 < x.length:=by omega
   simp only [c9l0,vms,vmc,vA,vB,reduceCtorEq,vC,vD,f0,f1,f2,f7,decide_eq_false hle]
   refine Gives.bind ((g24 (by decide) (by decide)).mono ?_)
   rintro _ _ ⟨m0,rfl,l0,u0,rfl⟩
   have w0 : IntKind.i64.wrap (-1 - m0) = -1 - m0:=by rw [wrap_i64 (by omega) (by omega)]
   simp only [vms,vmc,vA,vB,reduceCtorEq,vC,vD,f0,f1,f2,f7,w0]
   refine Gives.bind ((g24 (by decide) (by decide)).mono ?_)
   rintro _ _ ⟨m1,rfl,l1,u1,rfl⟩
   have w1 : IntKind.i64.wrap (1073741825 + m1)=1073741825 + m1:=by rw [wrap_i64 (by omega) (by omega)]
   have nx : hB42.next=35:=rfl
   simp only [vms,vmc,vA,vB,reduceCtorEq,vC,vD,f0,f1,f2,f7,w1,two_fill,nx]
   refine Gives.bind ((g24 (by decide) (by decide)).mono ?_)
   rintro _ _ ⟨m2,rfl,l2,u2,rfl⟩
   obtain ⟨p,bad,hi,hl,hb⟩:=pick_bad (b0 := -1 - m0) (b1:=1073741825 + m1) (m:=m2) ⟨by omega,by omega,by omega⟩ ⟨by omega,by omega,by omega⟩ l2 u2
   have hl : loadV (hB42.new (.cells [.int .i64 (-1 - m0),.int .i64 (1073741825 + m1)] true)) false 1 p=some (.int .i64 bad):=hl
   simp only [vms,vmc,vA,vB,reduceCtorEq,vC,vD,f0,f1,f2,f7,hi,hl]
   refine Gives.bind ((g24 (by decide) (by decide)).mono ?_)
   rintro _ _ ⟨m3,rfl,l3,u3,rfl⟩
   have w3 : IntKind.i64.wrap (8 + m3)=8 + m3:=by rw [wrap_i64 (by omega) (by omega)]
   simp only [vms,vmc,vA,vB,reduceCtorEq,vC,vD,f0,f1,f2,f7,w3]
   refine Gives.bind ((g15b hb).mono ?_)
   rintro _ _ ⟨rfl,rfl⟩
   simp only [vms,vmc,vA,vB,reduceCtorEq,vC,vD,f0,f1,f2,f7]
   refine Gives.bind ((g15c (by omega) (by omega) hlong).mono ?_)
   rintro _ _ ⟨rfl,rfl⟩
   simp only [vms,vmc,vA,vB,reduceCtorEq,vC,vD,f0,f1,f2,f7]
   refine Gives.bind (g15d.mono ?_)
   rintro _ _ ⟨rfl,rfl⟩
   simp only [vms,vmc,vA,vB,reduceCtorEq,vC,vD,f0,f1,f2,f7]
   have hb7 : bad≠7:=by have:=hb.1; omega
   refine Gives.bind ((g19 hb7 hb.2.1 hb.2.2).mono ?_)
   rintro _ _ ⟨rfl,rfl⟩
   simp only [vms,vmc,vA,vB,reduceCtorEq,vC,vD,f0,f1,f2,f7]
   refine Gives.bind ((g19 (id:=8 + m3) (by omega) (by omega) (by omega)).mono ?_)
   rintro _ _ ⟨rfl,rfl⟩
   simp only [vms,vmc,vA,vB,reduceCtorEq,vC,vD,f0,f1,f2,f7]
   refine Gives.bind ((g40a (id:=8 + m3) (by omega) (by omega)).mono ?_)
   rintro _ _ ⟨rfl,rfl⟩
   simp only [vms,vmc,vA,vB,reduceCtorEq,vC,vD,f0,f1,f2,f7]
   refine Gives.bind ((g40b hlong).mono ?_)
   rintro _ _ ⟨rfl,rfl⟩
   simp only [vms,vmc,vA,vB,reduceCtorEq,vC,vD,f0,f1,f2,f7]
   refine Gives.bind (g17.mono ?_)
   rintro _ _ ⟨rfl,rfl⟩
   simp only [vms,vmc,vA,vB,reduceCtorEq,vC,vD,f0,f1,f2,f7]
   refine Gives.bind (g18.mono ?_)
   rintro _ _ ⟨rfl,rfl⟩
   simp only [vms,vmc,vA,vB,reduceCtorEq,vC,vD,f0,f1,f2,f7]
   refine Gives.bind (g16a.mono ?_)
   rintro _ _ ⟨rfl,rfl⟩
   simp only [vms,vmc,vA,vB,reduceCtorEq,vC,vD,f0,f1,f2,f7]
   refine Gives.bind (g30.mono ?_)
   rintro _ _ ⟨rfl,rfl⟩
   simp only [vms,vmc,vA,vB,reduceCtorEq,vC,vD,f0,f1,f2,f7]
   refine Gives.bind (g16b.mono ?_)
   rintro _ _ ⟨rfl,rfl⟩
   have q1 : ((1 : Int) == 1)=true:=rfl
   have q11 : ((11 : Int) == 11)=true:=rfl
   have q9 : ((9 : Int) == 9)=true:=rfl
   have q10 : ((10 : Int) == 10)=true:=rfl
   have q7 : ((7 : Int) == 7)=true:=rfl
   have q6 : ((6 : Int) == 6)=true:=rfl
   have q0 : ((0 : Int) == 0)=true:=rfl
   have qs : binV .eql (.str [115,101,118,101,110,32,117,112]) (.str [115,101,118,101,110,32,117,112])=some (.bool true):=rfl
   have nx54 : hB54.next=37:=rfl
   simp only [vms,vmc,vA,vB,reduceCtorEq,vC,vD,f0,f1,f2,f7,q1,q11,q9,q10,q7,q6,q0,qs,one_fill,nx54]
   refine Gives.bind (g20.mono ?_)
   rintro _ _ ⟨rfl,rfl⟩
   simp only [vms,vmc,vA,vB,reduceCtorEq,vC,vD,f0,f1,f2,f7]
   refine Gives.bind (g33.mono ?_)
   rintro _ _ ⟨rfl,rfl⟩
   have ln : lenOfV (.slice 38 0 1 1 1 false)=some 1:=rfl
   have q1' : (((1 : Nat) : Int) == 1)=true:=rfl
   simp only [vms,vmc,vA,vB,reduceCtorEq,vC,vD,f0,f1,f2,f7,ln,q1,q1']
   refine Gives.bind (g3.mono ?_)
   rintro _ _ ⟨rfl,rfl⟩
   simp only [vms,vmc,vA,vB,reduceCtorEq,vC,vD]
 ·simp only [vms,vmc,vA,vB,reduceCtorEq,vC,vD]
  simp
end Go.Proofs.YtakgcpmemalmaaaGreatDoor

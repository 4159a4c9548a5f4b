/- Plays of both memories: what is kept; plain facts. -/
import Derived.Test.YtagcnjhpdopkiaaD9Do
import Derived.Test.YtagcnjhpdopkiaaVmZt
import Derived.Test.YtagcnjhpdopkiaaVmZn
import Derived.Test.YtagcnjhpdopkiaaVmZj
import Derived.Test.YtagcnjhpdopkiaaVmZx
namespace Go.Proofs.Ytagcnjhpdopkiaa
open Go.Vm
open Go.Vm.AOpd renaming val → vA
open Nat renaming reduceEqDiff → vB,reduceAdd → vC,reduceBEq → vD
set_option linter.unusedSimpArgs false
set_option linter.unusedVariables false
set_option maxRecDepth 20000
variable {T : Vm.Prog} {h h0 h' : AH} {m w : Nat} {Fm Fw Fm' Fw' : Nat→Prop} {M M' W W' : MemP} {vr : AV} {R : List Int}
theorem fillI (n : Int) : fillV [AV.int .i64 0] [(0,1,.int .i64 n)]=some [.int .i64 n]:=by simp [fillV,AV.isDef,AV.cells,setMany]
structure PlayM (h0 h : AH) (m w : Nat) (Fm Fw : Nat→Prop) (M W : MemP) (vr : AV) (R : List Int) : Prop where
 lo : Low h
 qt : Quiet h0 h
 rm : MemR m M Fm h
 rw : MemD w W Fw h
 fa : ∀ o,Fm o→h0.next≤o
 fw : ∀ o,Fw o→h0.next≤o
 dis : ∀ o,Fm o→¬ Fw o
 rr : Row1 h vr (lcells R)
 rf : ∀ o∈objs vr,h0.next≤o∧¬ Fm o∧¬ Fw o
theorem row1_same {v : AV} {xs : List AV} (r : Row1 h v xs) (hk : ∀ o∈objs v,h'.get o=h.get o) : Row1 h' v xs:=RowS.keep r hk
theorem row1_low {v : AV} {xs : List AV} (r : Row1 h v xs) (hl : Low h) : ∀ o∈objs v,o < h.next:=RowS.low r hl
theorem PlayM.step (p : PlayM h0 h m w Fm Fw M W vr R) (hn : h.next≤h'.next) (lo : Low h') (hk : ∀ o,o < h.next→(o < h0.next∨Fm o∨Fw o∨o∈objs vr)→h'.get o=h.get o) : PlayM h0 h' m w Fm Fw M W vr R where
 lo:=lo
 qt:=⟨Nat.le_trans p.qt.1 hn,fun o ho hf => (hk o (Nat.lt_of_lt_of_le ho p.qt.1) (.inl ho)).trans (p.qt.2 o ho hf)⟩
 rm:=(p.rm.res p.lo).loc h' hn fun o ho => hk o ((p.rm.res p.lo).low o ho) (.inr (.inl ho))
 rw:=(p.rw.res p.lo).loc h' hn fun o ho => hk o ((p.rw.res p.lo).low o ho) (.inr (.inr (.inl ho)))
 fa:=p.fa
 fw:=p.fw
 dis:=p.dis
 rr:=row1_same p.rr fun o ho => hk o (row1_low p.rr p.lo o ho) (.inr (.inr (.inr ho)))
 rf:=p.rf
theorem PlayM.quiet (p : PlayM h0 h m w Fm Fw M W vr R) (q : Quiet h h') (lo : Low h') : PlayM h0 h' m w Fm Fw M W vr R :=
 p.step q.1 lo fun o ho _ => q.2 o ho id
def Own (h0 : AH) (Fm Fw : Nat→Prop) (vr : AV) (o : Nat) : Prop:=h0.next≤o∧¬ Fm o∧¬ Fw o∧o∉objs vr
theorem PlayM.fresh (p : PlayM h0 h m w Fm Fw M W vr R) {o : Nat} (ho : h.next≤o) : Own h0 Fm Fw vr o :=
 ⟨Nat.le_trans p.qt.1 ho,fun e => by have:=(p.rm.res p.lo).low o e; omega,fun e => by have:=(p.rw.res p.lo).low o e; omega,fun e => by have:=row1_low p.rr p.lo o e; omega⟩
theorem PlayM.upd (p : PlayM h0 h m w Fm Fw M W vr R) {o : Nat} (u : Upd h h' o) (lo : Low h') (own : Own h0 Fm Fw vr o) : PlayM h0 h' m w Fm Fw M W vr R :=
 p.step (by rw [u.1]; exact Nat.le_refl _) lo fun q _ hq => u.2 q fun e => by
  subst e
  rcases hq with h1 | h1 | h1 | h1
  ·have:=own.1; omega
  ·exact own.2.1 h1
  ·exact own.2.2.1 h1
  ·exact own.2.2.2 h1
theorem PlayM.acta (p : PlayM h0 h m w Fm Fw M W vr R) (t : Acts h Fm h' Fm') (rm : MemR m M' Fm' h') : PlayM h0 h' m w Fm' Fw M' W vr R:=by
 have hn:=p.qt.1
 have hwl:=(p.rw.res p.lo).low
 have hrl:=row1_low p.rr p.lo
 refine ⟨t.low,⟨Nat.le_trans hn t.mods.1,fun o ho hf => (t.mods.2 o (by omega) (fun e => by have:=p.fa o e; omega)).trans (p.qt.2 o ho hf)⟩,rm,(p.rw.res p.lo).loc h' t.mods.1 (fun o ho => t.mods.2 o (hwl o ho) (fun e => p.dis o e ho)),?_,p.fw,?_,row1_same p.rr (fun o ho => t.mods.2 o (hrl o ho) (p.rf o ho).2.1),?_⟩
 ·intro o ho
  rcases t.grow o ho with h1 | h1
  ·exact p.fa o h1
  ·omega
 ·intro o ho e
  rcases t.grow o ho with h1 | h1
  ·exact p.dis o h1 e
  ·have:=hwl o e; omega
 ·intro o ho
  refine ⟨(p.rf o ho).1,fun e => ?_,(p.rf o ho).2.2⟩
  rcases t.grow o e with h1 | h1
  ·exact (p.rf o ho).2.1 h1
  ·have:=hrl o ho; omega
theorem PlayM.actw (p : PlayM h0 h m w Fm Fw M W vr R) (t : Acts h Fw h' Fw') (rw : MemD w W' Fw' h') : PlayM h0 h' m w Fm Fw' M W' vr R:=by
 have hn:=p.qt.1
 have hal:=(p.rm.res p.lo).low
 have hrl:=row1_low p.rr p.lo
 refine ⟨t.low,⟨Nat.le_trans hn t.mods.1,fun o ho hf => (t.mods.2 o (by omega) (fun e => by have:=p.fw o e; omega)).trans (p.qt.2 o ho hf)⟩,(p.rm.res p.lo).loc h' t.mods.1 (fun o ho => t.mods.2 o (hal o ho) (p.dis o ho)),rw,p.fa,?_,?_,row1_same p.rr (fun o ho => t.mods.2 o (hrl o ho) (p.rf o ho).2.2),?_⟩
 ·intro o ho
  rcases t.grow o ho with h1 | h1
  ·exact p.fw o h1
  ·omega
 ·intro o ho e
  rcases t.grow o e with h1 | h1
  ·exact p.dis o ho h1
  ·have:=hal o ho; omega
 ·intro o ho
  refine ⟨(p.rf o ho).1,(p.rf o ho).2.1,fun e => ?_⟩
  rcases t.grow o e with h1 | h1
  ·exact (p.rf o ho).2.2 h1
  ·have:=hrl o ho; omega
theorem Own.acta {vr : AV} {o : Nat} (own : Own h0 Fm Fw vr o) (t : Acts h Fm h' Fm') (ho : o < h.next) : Own h0 Fm' Fw vr o :=
 ⟨own.1,fun e => (t.grow o e).elim own.2.1 (by omega),own.2.2⟩
theorem Own.actw {vr : AV} {o : Nat} (own : Own h0 Fm Fw vr o) (t : Acts h Fw h' Fw') (ho : o < h.next) : Own h0 Fm Fw' vr o :=
 ⟨own.1,own.2.1,fun e => (t.grow o e).elim own.2.2.1 (by omega),own.2.2.2⟩
structure InW (h0 : AH) (v : AV) (ws : List Nat) : Prop where
 src : Src h0 v ws
 low : ∀ o∈objs v,o < h0.next
 short : ws.length < 1000000
theorem PlayM.srca (p : PlayM h0 h m w Fm Fw M W vr R) {v : AV} {ws : List Nat} (i : InW h0 v ws) : SrcB h Fm v ws :=
 ⟨i.src.keep fun o ho => p.qt.2 o (i.low o ho) id,fun o ho => ⟨fun e => by have:=p.fa o e; have:=i.low o ho; omega,Nat.lt_of_lt_of_le (i.low o ho) p.qt.1⟩,i.short⟩
theorem PlayM.srcw (p : PlayM h0 h m w Fm Fw M W vr R) {v : AV} {ws : List Nat} (i : InW h0 v ws) : SrcB h Fw v ws :=
 ⟨i.src.keep fun o ho => p.qt.2 o (i.low o ho) id,fun o ho => ⟨fun e => by have:=p.fw o e; have:=i.low o ho; omega,Nat.lt_of_lt_of_le (i.low o ho) p.qt.1⟩,i.short⟩
theorem PlayM.refs (p : PlayM h0 h m w Fm Fw M W vr R) {vr' : AV} {R' : List Int} (md : Mods h h' (fun o => o∈objs vr)) (lo : Low h') (r : Row1 h' vr' (lcells R')) (ho : ∀ o∈objs vr',o∈objs vr∨h.next≤o) : PlayM h0 h' m w Fm Fw M W vr' R':=by
 have hn:=p.qt.1
 have hal:=(p.rm.res p.lo).low
 have hwl:=(p.rw.res p.lo).low
 refine ⟨lo,⟨Nat.le_trans hn md.1,fun o h1 hf => (md.2 o (by omega) (fun e => by have:=(p.rf o e).1; omega)).trans (p.qt.2 o h1 hf)⟩,(p.rm.res p.lo).loc h' md.1 (fun o h1 => md.2 o (hal o h1) (fun e => (p.rf o e).2.1 h1)),(p.rw.res p.lo).loc h' md.1 (fun o h1 => md.2 o (hwl o h1) (fun e => (p.rf o e).2.2 h1)),p.fa,p.fw,p.dis,r,?_⟩
 intro o h1
 rcases ho o h1 with h2 | h2
 ·exact p.rf o h2
 ·exact ⟨by omega,fun e => by have:=hal o e; omega,fun e => by have:=hwl o e; omega⟩
theorem Copy.sees {v : AV} {ws : List Nat} (c : Copy h v ws) : Sees h v ((ws.map Int.ofNat).map (.int .u64)):=by
 obtain ⟨o,rfl,hg⟩:=c
 refine .inr ⟨o,0,ws.length,false,wcells ws,some true,by simp,hg,by rw [wcells_len]; simp,fun i x hx => ?_⟩
 rw [Nat.zero_add]
 rw [List.map_map] at hx
 exact hx
theorem src_beq {v : AV} {ws : List Nat} (s : Src h v ws) : AV.beq v v=true:=by
 rcases s with ⟨rfl,_⟩ | ⟨o,off,cap,ex,l,rw,rfl,_⟩ <;> simp [AV.beq]
def OneSet (st st' : List SlotP) : Prop:=st'=st∨∃ n x y,st[n]?=some x∧st'=st.set n y∧y.gen≤x.gen + 1
theorem allocI_one {st : List SlotP} {c : Int} {ws : List Nat} : OneSet st (allocI st c ws).2.2:=by
 unfold allocI
 split
 ·unfold allocP
  split
  ·exact .inl rfl
  ·split
   ·exact .inl rfl
   ·rename_i n _ _ x hx
    exact .inr ⟨n,x,_,hx,rfl,Nat.le_succ _⟩
 ·exact .inl rfl
theorem freeP_one {st : List SlotP} {ref : Int} : OneSet st (freeP st ref).2:=by
 unfold freeP
 split
 ·exact .inl rfl
 ·split
  ·exact .inl rfl
  ·rename_i n _ _ x hx
   exact .inr ⟨n,x,_,hx,rfl,Nat.le_refl _⟩
theorem storeP_one {st : List SlotP} {ref : Int} {ws : List Nat} : OneSet st (storeP st ref ws).2:=by
 unfold storeP
 split
 ·exact .inl rfl
 ·split
  ·exact .inl rfl
  ·rename_i n _ _ x hx
   split
   ·exact .inl rfl
   ·exact .inr ⟨n,x,_,hx,rfl,Nat.le_succ _⟩
theorem swapP_one {st : List SlotP} {ref was : Int} {ws : List Nat} : OneSet st (swapP st ref was ws).2.2:=by
 unfold swapP
 split
 ·exact .inl rfl
 ·split
  ·exact .inl rfl
  ·rename_i n _ _ x hx
   split
   ·exact .inl rfl
   ·split
    ·exact .inl rfl
    ·exact .inr ⟨n,x,_,hx,rfl,Nat.le_succ _⟩
theorem OneSet.gens {st st' : List SlotP} (o : OneSet st st') {g : Nat} (hg : ∀ x∈st,x.gen≤g) : ∀ x∈st',x.gen≤g + 1:=by
 rcases o with rfl | ⟨n,x,y,hx,rfl,hy⟩
 ·intro x hx; have:=hg x hx; omega
 ·intro z hz
  rcases List.mem_or_eq_of_mem_set hz with h1 | rfl
  ·have:=hg z h1; omega
  ·have:=hg x (List.mem_of_getElem? hx); omega
theorem slotsP_one {root : Int} {st : List SlotP} {a : AccP} : OneSet st (slotsP root st a).2:=by
 unfold slotsP
 split
 ·exact .inl rfl
 ·split
  ·exact swapP_one
  ·split
   ·exact storeP_one
   ·split
    ·exact allocI_one
    ·split
     ·split
      ·exact .inl rfl
      ·exact freeP_one
     ·exact .inl rfl
theorem doP_one {M : MemP} {c : Int} {a : AccP} : OneSet M.ar (doP M c a).2.ar:=by
 unfold doP
 split
 ·exact .inl rfl
 ·split
  ·exact slotsP_one
  ·split
   ·split
    ·exact .inl rfl
    ·exact .inl rfl
   ·split
    ·exact .inl rfl
    ·split
     ·exact .inl rfl
     ·split
      ·exact .inl rfl
      ·split
       ·exact .inl rfl
       ·split
        ·exact .inl rfl
        ·split
         ·unfold collectP
          split
          ·exact .inl rfl
          ·split
           ·exact freeP_one
           ·exact freeP_one
         ·split
          ·unfold turnP
           split
           ·exact .inl rfl
           ·split
            ·exact .inl rfl
            ·split
             ·exact .inl rfl
             ·exact .inl rfl
          ·exact .inl rfl
theorem loadP_len {st : List SlotP} (inv : InvP st) {ref : Int} : (loadP st ref).2.length≤264:=by
 unfold loadP
 split
 ·simp
 ·split
  ·simp
  ·rename_i n _ _ x hx
   have h5:=inv.each n x hx
   have:=sizeN_le x.cls
   have:=h5.2.2.2.2
   simp only; omega
theorem doP_len {M : MemP} {c : Int} {a : AccP} (inv : InvP M.ar) : (doP M c a).1.ws.length≤264:=by
 have z : ([] : List Nat).length≤264:=by simp
 unfold doP
 split
 ·exact z
 ·split
  ·unfold slotsP
   split
   ·exact loadP_len inv
   ·split
    ·exact z
    ·split
     ·exact z
     ·split
      ·exact z
      ·split
       ·split
        ·exact z
        ·exact z
       ·exact z
  ·split
   ·split
    ·exact z
    ·exact z
   ·split
    ·exact z
    ·split
     ·exact z
     ·split
      ·exact z
      ·split
       ·exact z
       ·split
        ·exact z
        ·split
         ·unfold collectP
          split
          ·exact z
          ·split
           ·exact z
           ·exact z
         ·split
          ·unfold turnP
           split
           ·exact z
           ·split
            ·exact z
            ·split
             ·exact z
             ·exact z
          ·exact z
theorem MemD.inv {M : MemP} {F : Nat→Prop} (r : MemD m M F h) : InvP M.ar:=by
 obtain ⟨a,e,Fa,Fe,K,hF⟩:=r
 obtain ⟨sv,S,Q,A,_,inv,_⟩:=K.ar
 exact inv
def QCell (h : AH) (p : Nat) (acc : AccP) (v : AV) : Prop:=h.get p=some (.cells (acc.cells v) true)
structure FrP (f : Fr) (lv : AV) (m w : Nat) (vr : AV) (i : Nat) : Prop where
 f2 : f.at 2=lv
 f7 : f.at 7 = .ptr m 0
 f9 : f.at 9 = .ptr w 0
 f11 : f.at 11=vr
 f12 : f.at 12 = .int .i64 (i : Nat)
structure AskP where
 client : Int
 n : Int
 fits : Bool
 acc : AccP
def AskP.cells (a : AskP) (v : AV) : List AV:=[.int .i64 a.client,.int .i64 a.n,.bool a.fits] ++ a.acc.cells v
structure AskAt (h0 : AH) (lv : AV) (i : Nat) (a : AskP) (v : AV) (o off : Nat) : Prop where
 idx : idxAddrV 9 lv (.int .i64 (i : Int))=some (.ptr o off)
 c : ∀ h,Quiet h0 h→loadV h false 1 (.ptr o off)=some (.int .i64 a.client)
 n : ∀ h,Quiet h0 h→loadV h false 1 (.ptr o (off + 1))=some (.int .i64 a.n)
 fits : ∀ h,Quiet h0 h→loadV h false 1 (.ptr o (off + 2))=some (.bool a.fits)
 acc : ∀ h,Quiet h0 h→loadV h true 6 (.ptr o (off + 3))=some (.agg (a.acc.cells v))
theorem load_part {o i n : Nat} {l xs : List AV} {r : Option Bool} (hg : h.get o=some (AObj.of l r)) (hx : xs.length=n) (hin : i + n≤l.length) (hall : ∀ (j : Nat) (y : AV),xs[j]?=some y→l[i + j]?=some y) : loadV h true n (.ptr o i)=some (.agg xs):=by
 have e : (l.drop i).take n=xs:=by
  apply List.ext_getElem?
  intro j
  by_cases hj : j < n
  ·rw [List.getElem?_take,if_pos hj,List.getElem?_drop,List.getElem?_eq_getElem (by omega : j < xs.length)]
   exact hall j _ (List.getElem?_eq_getElem (by omega))
  ·rw [List.getElem?_eq_none (by rw [List.length_take]; omega),List.getElem?_eq_none (by omega)]
 simp only [loadV,load_of hg,if_true]
 rw [if_pos hin,e]; rfl
theorem ask_at {lv v : AV} {asks : List (List AV)} {i : Nat} {a : AskP} (hl0 : Low h0) (sa : SeesS h0 9 lv asks) (hx : asks[i]?=some (a.cells v)) : ∃ o off,AskAt h0 lv i a v o off:=by
 have hi:=(List.getElem?_eq_some_iff.1 hx).1
 rcases sa with ⟨rfl,rfl⟩ | ⟨o,off,cap,ex,l,rw',rfl,hg,e1,e2⟩
 ·simp at hx
 ·obtain ⟨_,e3⟩:=e2 i _ hx
  have e4 : (i + 1) * 9≤asks.length * 9:=Nat.mul_le_mul_right 9 hi
  have hol : o < h0.next:=by
   cases rw' with
   | none => exact hl0 _ _ hg
   | some b => exact hl0 _ _ hg
  have hq : ∀ h,Quiet h0 h→h.get o=some (AObj.of l rw'):=fun h q => (q.2 o hol id).trans hg
  refine ⟨o,off + i * 9,by simp [idxAddrV,hi],fun h q => ?_,fun h q => ?_,fun h q => ?_,fun h q => ?_⟩
  ·exact load_atO (hq h q) (e3 0 _ rfl)
  ·exact load_atO (hq h q) (e3 1 _ rfl)
  ·exact load_atO (hq h q) (e3 2 _ rfl)
  ·refine load_part (hq h q) rfl (by omega) fun j y hy => ?_
   have h9 : (a.cells v)[3 + j]?=some y:=by
    unfold AskP.cells
    rw [List.getElem?_append_right (by simp)]
    simpa using hy
   have:=e3 (3 + j) y h9
   rwa [show off + i * 9 + 3 + j=off + i * 9 + (3 + j) by omega]
end Go.Proofs.Ytagcnjhpdopkiaa
/- Plays of both memories: what a round asks; both answers. -/
namespace Go.Proofs.Ytagcnjhpdopkiaa
open Go.Vm
open Go.Vm.AOpd renaming val → vA
open Nat renaming reduceEqDiff → vB,reduceAdd → vC,reduceBEq → vD
set_option linter.unusedSimpArgs false
set_option linter.unusedVariables false
set_option maxRecDepth 20000
variable {T : Vm.Prog} {h h0 h' : AH} {m w : Nat} {Fm Fw Fm' Fw' : Nat→Prop} {M M' W W' : MemP} {vr : AV} {R : List Int}
def c9q : ACode:=sqT c9l1
def c9n : ACode:=srT (srT c9l1)
def c9b : ACode:=match c9l1 with
 | .seq _ (.seq (.block _ b) _) => b
 | c => c
def c9p1 : ACode:=sqT c9b
def c9p2 : ACode:=sqT (srT c9b)
def c9p3 : ACode:=sqT (srT (srT c9b))
def c9p4 : ACode:=sqT (srT (srT (srT c9b)))
def c9p5 : ACode:=sqT (srT (srT (srT (srT c9b))))
def c9p6 : ACode:=sqT (srT (srT (srT (srT (srT c9b)))))
def c9p7 : ACode:=sqT (srT (srT (srT (srT (srT (srT c9b))))))
def c9p8 : ACode:=sqT (srT (srT (srT (srT (srT (srT (srT c9b)))))))
def c9t : ACode:=srT (srT (srT (srT (srT (srT (srT (srT c9b)))))))
theorem c9l1_parts : c9l1 = .seq c9q (.seq (.block 1 (.seq c9p1 (.seq c9p2 (.seq c9p3 (.seq c9p4 (.seq c9p5 (.seq c9p6 (.seq c9p7 (.seq c9p8 c9t))))))))) c9n):=rfl
structure InA (h0 : AH) (v : AV) (ws : List Nat) : Prop where
 src : Src h0 v ws
 low : ∀ o∈objs v,o < h0.next
 cap : capOk v
 len : (ws.length : Int) < 9223372036854775808
theorem src_cells {v : AV} {ws : List Nat} (s : Src h v ws) : v.cells=[v]∧v.flat=true:=by
 rcases s with ⟨rfl,_⟩ | ⟨o,off,cap,ex,l,rw,rfl,_⟩ <;> exact ⟨rfl,rfl⟩
theorem InA.cut {v : AV} {ws : List Nat} (i : InA h0 v ws) (h1 : 270 < ws.length) : ∃ v',slcV 1 v none (some (.int .i64 270)) none=some v'∧InW h0 v' (ws.take 270):=by
 rcases i.src with ⟨rfl,rfl⟩ | ⟨o,off,cap,ex,l,rw,rfl,hg,e1,e2⟩
 ·simp at h1
 ·have hc : ws.length≤cap:=i.cap
  refine ⟨.slice o off 1 270 cap ex,slcE_to (n:=270) (by omega),.inr ⟨o,off,cap,ex,l,rw,by rw [List.length_take]; congr 1; omega,hg,by rw [List.length_take]; omega,?_⟩,i.low,by rw [List.length_take]; omega⟩
  rw [List.length_take,show min 270 ws.length=270 by omega]
  have : (l.drop off).take 270=((l.drop off).take ws.length).take 270:=by rw [List.take_take]; congr 1; omega
  rw [this,e2]; simp [wcells,List.map_take]
theorem pick2 (k : Fits T) {i : Nat} {lv v : AV} {p : Nat} {acc : AccP} {F : Fr} (P : PlayM h0 h m w Fm Fw M W vr R) (q : QCell h p acc v) (own : Own h0 Fm Fw vr p) (iw : InA h0 v acc.ws) (fp : FrP F lv m w vr i) (f13 : F.at 13 = .ptr p 0) {Q : AExit→Fr→AH→Prop}
  (hq : ∀ f' h' v' ws',PlayM h0 h' m w Fm Fw M W vr R→QCell h' p { acc with ws:=ws' } v'→InW h0 v' ws'→FrP f' lv m w vr i→f'.at 13 = .ptr p 0→Q .normal f' h') : Wp (code T c9p2 F h) Q:=by
 obtain ⟨f2,f7,f9,f11,f12⟩:=fp
 have hp : p < h.next:=P.lo _ _ q
 have fa : ∀ j,fieldAddrV j (.ptr p 0)=some (.ptr p (0 + j)):=fun j => rfl
 have q5 : loadV h false 1 (.ptr p 5)=some v:=load_at q rfl
 simp only [c9p2,c9b,c9l1,sqT,srT,vms,vmc,vA,vB,reduceCtorEq,vC,vD,f13,fa,Nat.zero_add,q5,iw.src.len]
 by_cases hgt : 270 < acc.ws.length
 ·have d : decide (((acc.ws.length : Nat) : Int) > 270)=true:=by rw [decide_eq_true_eq]; omega
  obtain ⟨v',hs,iw'⟩:=iw.cut hgt
  obtain ⟨e1,e2⟩:=src_cells iw'.src
  have hst:=store_at (i:=5) q (by simp [AccP.cells]) e1 e2
  have u : Upd h (h.set p (.cells ((acc.cells v).set 5 v') true)) p:=(Upd.refl h p).set _
  simp only [d,vms,vmc,vA,vB,reduceCtorEq,vC,vD,f13,fa,Nat.zero_add,q5,hs,hst]
  refine hq _ _ v' (acc.ws.take 270) (P.upd u (P.lo.set hp _) own) get_set_same iw' ⟨?_,?_,?_,?_,?_⟩ ?_
  all_goals simp only [vms,vmc,vA,vB,reduceCtorEq,vC,vD,f2,f7,f9,f11,f12,f13]
 ·have d : decide (((acc.ws.length : Nat) : Int) > 270)=false:=by rw [decide_eq_false_iff_not]; omega
  simp only [d,vms,vmc,vA,vB,reduceCtorEq,vC,vD]
  refine hq _ h v acc.ws P q ⟨iw.src,iw.low,by omega⟩ ⟨?_,?_,?_,?_,?_⟩ ?_
  all_goals simp only [vms,vmc,vA,vB,reduceCtorEq,vC,vD,f2,f7,f9,f11,f12,f13]
theorem pick3 (k : Fits T) {i : Nat} {lv v v0 : AV} {p o off : Nat} {a : AskP} {acc : AccP} {F : Fr} (P : PlayM h0 h m w Fm Fw M W vr R) (A : AskAt h0 lv i a v0 o off) (q : QCell h p acc v) (own : Own h0 Fm Fw vr p) (fp : FrP F lv m w vr i) (f13 : F.at 13 = .ptr p 0) (hR : R.length≤1000) (hR0 : 0 < R.length) {Q : AExit→Fr→AH→Prop}
  (hq : ∀ f' h' ref',PlayM h0 h' m w Fm Fw M W vr R→QCell h' p { acc with ref:=ref' } v→FrP f' lv m w vr i→f'.at 13 = .ptr p 0→Q .normal f' h') : Wp (code T c9p3 F h) Q:=by
 obtain ⟨f2,f7,f9,f11,f12⟩:=fp
 have hp : p < h.next:=P.lo _ _ q
 have fa : ∀ j,fieldAddrV j (.ptr p 0)=some (.ptr p (0 + j)):=fun j => rfl
 have fo : ∀ j,fieldAddrV j (.ptr o off)=some (.ptr o (off + j)):=fun j => rfl
 have ln : lenOfV vr=some R.length:=by rw [P.rr.sees.len]; simp [lcells]
 have an:=A.n h P.qt
 simp only [c9p3,c9b,c9l1,sqT,srT,vms,vmc,vA,vB,reduceCtorEq,vC,vD,f2,f12,A.idx,fo,an,f11,ln]
 by_cases hn : a.n ≥ 0
 ·have d1 : decide (a.n ≥ 0)=true:=by simpa using hn
  obtain ⟨j,hj⟩ : ∃ j : Nat,a.n=j:=⟨a.n.toNat,by omega⟩
  have hm : j % R.length < R.length:=Nat.mod_lt _ hR0
  obtain ⟨y,hy⟩ : ∃ y,R[j % R.length]?=some y:=⟨_,List.getElem?_eq_getElem hm⟩
  obtain ⟨pa,hi1,hld⟩:=P.rr.sees.at (i:=j % R.length) (x := .int .i64 y) (by simp [lcells,hy]) .i64
  have er : binV .rem (.int .i64 a.n) (.int .i64 (R.length : Int))=some (.int .i64 ((j % R.length : Nat) : Int)):=by
   rw [hj,bin_rem (by omega)]; rfl
  have hst:=store_at (i:=1) (v:=AV.int .i64 y) q (by simp [AccP.cells]) rfl rfl
  have u : Upd h (h.set p (.cells ((acc.cells v).set 1 (.int .i64 y)) true)) p:=(Upd.refl h p).set _
  simp only [d1,vms,vmc,vA,vB,reduceCtorEq,vC,vD,f2,f12,f13,A.idx,fo,fa,Nat.zero_add,an,f11,ln,er,hi1,hld,hst]
  refine hq _ _ y (P.upd u (P.lo.set hp _) own) get_set_same ⟨?_,?_,?_,?_,?_⟩ ?_
  all_goals simp only [vms,vmc,vA,vB,reduceCtorEq,vC,vD,f2,f7,f9,f11,f12,f13]
 ·have d1 : decide (a.n ≥ 0)=false:=by simpa using hn
  simp only [d1,vms,vmc,vA,vB,reduceCtorEq,vC,vD]
  refine hq _ h acc.ref P q ⟨?_,?_,?_,?_,?_⟩ ?_
  all_goals simp only [vms,vmc,vA,vB,reduceCtorEq,vC,vD,f2,f7,f9,f11,f12,f13]
theorem pick4 (k : Fits T) {i : Nat} {lv v v0 : AV} {p o off : Nat} {a : AskP} {acc : AccP} {F : Fr} (P : PlayM h0 h m w Fm Fw M W vr R) (A : AskAt h0 lv i a v0 o off) (q : QCell h p acc v) (own : Own h0 Fm Fw vr p) (fp : FrP F lv m w vr i) (f13 : F.at 13 = .ptr p 0) {Q : AExit→Fr→AH→Prop}
  (hq : ∀ f' h' was',PlayM h0 h' m w Fm Fw M W vr R→QCell h' p { acc with was:=was' } v→FrP f' lv m w vr i→f'.at 13 = .ptr p 0→Q .normal f' h') : Wp (code T c9p4 F h) Q:=by
 obtain ⟨f2,f7,f9,f11,f12⟩:=fp
 have hp : p < h.next:=P.lo _ _ q
 have fa : ∀ j,fieldAddrV j (.ptr p 0)=some (.ptr p (0 + j)):=fun j => rfl
 have fo : ∀ j,fieldAddrV j (.ptr o off)=some (.ptr o (off + j)):=fun j => rfl
 have nw : nilChkV (.ptr w 0)=some (.ptr w 0):=rfl
 have fw : ∀ j,fieldAddrV j (.ptr w 0)=some (.ptr w (0 + j)):=fun j => rfl
 obtain ⟨ar,ae,Fa,Fe,K,hF⟩:=P.rw
 have w0 : loadV h false 1 (.ptr w 0)=some (.ptr ar 0):=load_at K.obj rfl
 have q1 : loadV h false 1 (.ptr p 1)=some (.int .i64 acc.ref):=load_at q rfl
 simp only [c9p4,c9b,c9l1,sqT,srT,vms,vmc,vA,vB,reduceCtorEq,vC,vD,f9,f13,nw,fw,fa,Nat.zero_add,w0,q1]
 refine Gives.bind ((ref_load k K.ar P.lo acc.ref).mono ?_)
 rintro _ h1 ⟨qt1,lo1,v1,rfl,hv1⟩
 have P1:=P.quiet qt1 lo1
 have e1 : h1.get p=h.get p:=qt1.2 p hp id
 have q' : QCell h1 p acc v:=e1.trans q
 have af:=A.fits h1 P1.qt
 simp only [vms,vmc,vA,vB,reduceCtorEq,vC,vD,f2,f12,A.idx,fo,af]
 cases hfits : a.fits
 ·simp only [vms,vmc,vA,vB,reduceCtorEq,vC,vD]
  refine hq _ h1 acc.was P1 q' ⟨?_,?_,?_,?_,?_⟩ ?_
  all_goals simp only [vms,vmc,vA,vB,reduceCtorEq,vC,vD,f2,f7,f9,f11,f12,f13]
 ·rcases hv1 with ⟨rfl,_,hne,rfl⟩ | ⟨hz,h8,⟨o',rfl,hg⟩,ho⟩
  ·have d : ((((loadP W.ar acc.ref).1 : Nat) : Int) == 0)=false:=by rw [beq_eq_false_iff_ne]; omega
   simp only [d,vms,vmc,vA,vB,reduceCtorEq,vC,vD]
   refine hq _ _ acc.was P1 q' ⟨?_,?_,?_,?_,?_⟩ ?_
   all_goals simp only [vms,vmc,vA,vB,reduceCtorEq,vC,vD,f2,f7,f9,f11,f12,f13]
  ·have d : ((((loadP W.ar acc.ref).1 : Nat) : Int) == 0)=true:=by rw [hz]; rfl
   obtain ⟨x0,hx0⟩ : ∃ x0,(loadP W.ar acc.ref).2[0]?=some x0:=⟨_,List.getElem?_eq_getElem (by omega)⟩
   have hidx : idxAddrV 1 (.slice o' 0 1 (loadP W.ar acc.ref).2.length (loadP W.ar acc.ref).2.length false) (.int .i64 0)=some (.ptr o' 0):=by
    show (if 1=1∧(0 : Int)≤0∧(0 : Int).toNat < (loadP W.ar acc.ref).2.length then some (AV.ptr o' (0 + (0 : Int).toNat * 1)) else none)=_
    rw [if_pos ⟨rfl,Int.le_refl _,by show 0 < (loadP W.ar acc.ref).2.length; omega⟩]; rfl
   have hld : loadV h1 false 1 (.ptr o' 0)=some (.int .u64 (x0 : Int)):=load_at hg (by simp [wcells,hx0])
   have hst:=store_at (i:=4) (v:=AV.int .u64 (x0 : Int)) q' (by simp [AccP.cells]) rfl rfl
   have u : Upd h1 (h1.set p (.cells ((acc.cells v).set 4 (.int .u64 (x0 : Int))) true)) p:=(Upd.refl h1 p).set _
   simp only [d,vms,vmc,vA,vB,reduceCtorEq,vC,vD,f13,fa,Nat.zero_add,hidx,hld,hst]
   refine hq _ _ x0 (P1.upd u (lo1.set (lo1 _ _ q') _) own) get_set_same ⟨?_,?_,?_,?_,?_⟩ ?_
   all_goals simp only [vms,vmc,vA,vB,reduceCtorEq,vC,vD,f2,f7,f9,f11,f12,f13]
end Go.Proofs.Ytagcnjhpdopkiaa
/- Plays of both memories: both answers. -/
namespace Go.Proofs.Ytagcnjhpdopkiaa
open Go.Vm
open Go.Vm.AOpd renaming val → vA
open Nat renaming reduceEqDiff → vB,reduceAdd → vC,reduceBEq → vD
set_option linter.unusedSimpArgs false
set_option linter.unusedVariables false
set_option maxRecDepth 20000
variable {T : Vm.Prog} {h h0 h' : AH} {m w : Nat} {Fm Fw Fm' Fw' : Nat→Prop} {M M' W W' : MemP} {vr : AV} {R : List Int}
def RCell (h : AH) (G : Nat→Prop) (r : Nat) (rp : ResP) : Prop:=∃ wv,h.get r=some (.cells [.int .i64 (rp.err : Int),.int .i64 rp.n,.bool rp.ok,wv] true)∧((wv = .nilSlice∧rp.ws=[])∨(Copy h wv rp.ws∧∀ o∈objs wv,¬ G o))
theorem acc_beq {v : AV} {acc : AccP} (hv : AV.beq v v=true) : AV.beq (.agg (acc.cells v)) (.agg (acc.cells v))=true:=by
 simp [AccP.cells,AV.beq,AV.beqs,hv]
theorem res_flat {wv : AV} {ws : List Nat} {a b c : AV} (ha : a.flat=true) (hb : b.flat=true) (hc : c.flat=true) (hw : (wv = .nilSlice∧ws=[])∨Copy h wv ws) : [a,b,c,wv].all AV.flat=true:=by
 rcases hw with ⟨rfl,_⟩ | ⟨o,rfl,_⟩ <;> (simp only [List.all_cons,List.all_nil,ha,hb,hc] <;> rfl)
theorem play5 (k : Fits T) {i : Nat} {lv v v0 : AV} {p o off : Nat} {a : AskP} {acc : AccP} {F : Fr} (P : PlayM h0 h m w Fm Fw M W vr R) (A : AskAt h0 lv i a v0 o off) (q : QCell h p acc v) (own : Own h0 Fm Fw vr p) (iw : InW h0 v acc.ws) (fp : FrP F lv m w vr i) (f13 : F.at 13 = .ptr p 0) {Q : AExit→Fr→AH→Prop}
  (hq : ∀ f' h' Fm' r,PlayM h0 h' m w Fm' Fw (doP M a.client acc).2 W vr R→QCell h' p acc v→Own h0 Fm' Fw vr p→RCell h' Fw r (doP M a.client acc).1→Own h0 Fm' Fw vr r→FrP f' lv m w vr i→f'.at 13 = .ptr p 0→f'.at 16 = .ptr r 0→Q .normal f' h') : Wp (code T c9p5 F h) Q:=by
 obtain ⟨f2,f7,f9,f11,f12⟩:=fp
 have hp : p < h.next:=P.lo _ _ q
 have fo : ∀ j,fieldAddrV j (.ptr o off)=some (.ptr o (off + j)):=fun j => rfl
 have hc6 : ∀ v,(acc.cells v).length=6:=fun v => rfl
 have ac:=A.c h P.qt
 simp only [c9p5,c9b,c9l1,sqT,srT,vms,vmc,vA,vB,reduceCtorEq,vC,vD,f2,f7,f12,f13,A.idx,fo,Nat.add_zero,ac,load_all q (hc6 v)]
 have q1 : Quiet h (h.new (.cells [.int .i64 0,.int .i64 0,.bool false,.nilSlice] true)):=(Quiet.refl h).new _
 have P1:=P.quiet q1 (P.lo.new _)
 have g1 : (h.new (.cells [.int .i64 0,.int .i64 0,.bool false,.nilSlice] true)).get h.next=some (.cells [.int .i64 0,.int .i64 0,.bool false,.nilSlice] true):=get_new_same
 have n1 : (h.new (.cells [.int .i64 0,.int .i64 0,.bool false,.nilSlice] true)).next=h.next + 1:=next_new
 have qc1 : QCell (h.new (.cells [.int .i64 0,.int .i64 0,.bool false,.nilSlice] true)) p acc v:=(q1.2 p hp id).trans q
 have own1:=P.fresh (Nat.le_refl h.next)
 generalize (h.new (.cells [.int .i64 0,.int .i64 0,.bool false,.nilSlice] true))=h1 at *
 have ac1:=A.c h1 P1.qt
 have vb:=acc_beq (acc:=acc) (src_beq iw.src)
 rw [items_look (look_load (v := .int .i64 a.client) (by simp only [vms,vmc,vA,vB,reduceCtorEq,vC,vD]; exact ac1) (by simp only [vms,vmc,vA,vB,reduceCtorEq,vC,vD]) (by simp [AV.beq]))]
 rw [items_look (look_load (v := .agg (acc.cells v)) (by simp only [vms,vmc,vA,vB,reduceCtorEq,vC,vD,f13]; exact load_all qc1 (hc6 v)) (by simp only [vms,vmc,vA,vB,reduceCtorEq,vC,vD]) vb)]
 rw [items_look (look_new (q:=h.next) (by simp only [vms,vmc,vA,vB,reduceCtorEq,vC,vD]) g1 (by simp [AV.beqs,AV.beq]))]
 simp only [vms,vmc,vA,vB,reduceCtorEq,vC,vD]
 refine Gives.bind ((do_ok k P1.rm P1.lo a.client acc (P1.srca iw)).mono ?_)
 rintro _ h2 ⟨⟨wv,rfl,hw⟩,Fm2,rm2,act⟩
 have P2:=P1.acta act rm2
 have hN : h.next < h1.next:=by omega
 have g2 : h2.get h.next=some (.cells [.int .i64 0,.int .i64 0,.bool false,.nilSlice] true):=act.get g1 hN own1.2.1
 have own2:=own1.acta act hN
 have ownp2:=own.acta act (by omega)
 have qc2 : QCell h2 p acc v:=act.get qc1 (by omega) own.2.1
 simp only [vms,vmc,vA,vB,reduceCtorEq,vC,vD]
 rw [items_look (look_new (q:=h.next) (by simp only [vms,vmc,vA,vB,reduceCtorEq,vC,vD]) g2 (by simp [AV.beqs,AV.beq]))]
 obtain ⟨s1,_⟩:=put_res (w0 := .int .i64 ((doP M a.client acc).1.err : Int)) (w1 := .int .i64 (doP M a.client acc).1.n) (w2 := .bool (doP M a.client acc).1.ok) (w3:=wv) g2 res4 (res_flat rfl rfl rfl (hw.imp id fun h => h.1))
 simp only [vms,vmc,vA,vB,reduceCtorEq,vC,vD,s1]
 have u : Upd h2 (h2.set h.next (.cells [.int .i64 ((doP M a.client acc).1.err : Int),.int .i64 (doP M a.client acc).1.n,.bool (doP M a.client acc).1.ok,wv] true)) h.next:=(Upd.refl _ _).set _
 have P3:=P2.upd u (P2.lo.set (P2.lo _ _ g2) _) own2
 have hwl:=(P1.rw.res P1.lo).low
 refine hq _ _ Fm2 h.next P3 ((u.2 p (by omega)).trans qc2) ownp2 ⟨wv,get_set_same,?_⟩ own2 ⟨?_,?_,?_,?_,?_⟩ ?_ ?_
 ·rcases hw with hw | ⟨⟨o',rfl,hg⟩,ho⟩
  ·exact .inl hw
  ·have ho':=ho o' (by simp [objs])
   refine .inr ⟨⟨o',rfl,(u.2 o' (by omega)).trans hg⟩,fun z hz e => ?_⟩
   have:=ho z hz
   have:=hwl z e
   omega
 all_goals simp only [vms,vmc,vA,vB,reduceCtorEq,vC,vD,f2,f7,f9,f11,f12,f13]
theorem play6 (k : Fits T) {i : Nat} {lv v v0 : AV} {p o off r1 : Nat} {a : AskP} {acc : AccP} {rp : ResP} {F : Fr} (P : PlayM h0 h m w Fm Fw M W vr R) (A : AskAt h0 lv i a v0 o off) (q : QCell h p acc v) (own : Own h0 Fm Fw vr p) (rc : RCell h Fw r1 rp) (ownr : Own h0 Fm Fw vr r1) (iw : InW h0 v acc.ws) (fp : FrP F lv m w vr i) (f13 : F.at 13 = .ptr p 0) (f16 : F.at 16 = .ptr r1 0) {Q : AExit→Fr→AH→Prop}
  (hq : ∀ f' h' Fw' r,PlayM h0 h' m w Fm Fw' M (doP W a.client acc).2 vr R→QCell h' p acc v→Own h0 Fm Fw' vr p→RCell h' (fun _ => False) r1 rp→RCell h' (fun _ => False) r (doP W a.client acc).1→FrP f' lv m w vr i→f'.at 13 = .ptr p 0→f'.at 16 = .ptr r1 0→f'.at 17 = .ptr r 0→Q .normal f' h') : Wp (code T c9p6 F h) Q:=by
 obtain ⟨f2,f7,f9,f11,f12⟩:=fp
 have hp : p < h.next:=P.lo _ _ q
 have fo : ∀ j,fieldAddrV j (.ptr o off)=some (.ptr o (off + j)):=fun j => rfl
 have hc6 : ∀ v,(acc.cells v).length=6:=fun v => rfl
 have ac:=A.c h P.qt
 simp only [c9p6,c9b,c9l1,sqT,srT,vms,vmc,vA,vB,reduceCtorEq,vC,vD,f2,f9,f12,f13,A.idx,fo,Nat.add_zero,ac,load_all q (hc6 v)]
 have q1 : Quiet h (h.new (.cells [.int .i64 0,.int .i64 0,.bool false,.nilSlice] true)):=(Quiet.refl h).new _
 have P1:=P.quiet q1 (P.lo.new _)
 have g1 : (h.new (.cells [.int .i64 0,.int .i64 0,.bool false,.nilSlice] true)).get h.next=some (.cells [.int .i64 0,.int .i64 0,.bool false,.nilSlice] true):=get_new_same
 have n1 : (h.new (.cells [.int .i64 0,.int .i64 0,.bool false,.nilSlice] true)).next=h.next + 1:=next_new
 have qc1 : QCell (h.new (.cells [.int .i64 0,.int .i64 0,.bool false,.nilSlice] true)) p acc v:=(q1.2 p hp id).trans q
 have own1:=P.fresh (Nat.le_refl h.next)
 generalize (h.new (.cells [.int .i64 0,.int .i64 0,.bool false,.nilSlice] true))=h1 at *
 have ac1:=A.c h1 P1.qt
 have vb:=acc_beq (acc:=acc) (src_beq iw.src)
 rw [items_look (look_load (v := .int .i64 a.client) (by simp only [vms,vmc,vA,vB,reduceCtorEq,vC,vD]; exact ac1) (by simp only [vms,vmc,vA,vB,reduceCtorEq,vC,vD]) (by simp [AV.beq]))]
 rw [items_look (look_load (v := .agg (acc.cells v)) (by simp only [vms,vmc,vA,vB,reduceCtorEq,vC,vD,f13]; exact load_all qc1 (hc6 v)) (by simp only [vms,vmc,vA,vB,reduceCtorEq,vC,vD]) vb)]
 rw [items_look (look_new (q:=h.next) (by simp only [vms,vmc,vA,vB,reduceCtorEq,vC,vD]) g1 (by simp [AV.beqs,AV.beq]))]
 simp only [vms,vmc,vA,vB,reduceCtorEq,vC,vD]
 refine Gives.bind ((ref_do k P1.rw P1.lo a.client acc (P1.srcw iw)).mono ?_)
 rintro _ h2 ⟨⟨wv,rfl,hw⟩,Fw2,rw2,act⟩
 have P2:=P1.actw act rw2
 have hN : h.next < h1.next:=by omega
 have g2 : h2.get h.next=some (.cells [.int .i64 0,.int .i64 0,.bool false,.nilSlice] true):=act.get g1 hN own1.2.2.1
 have own2:=own1.actw act hN
 have ownp2:=own.actw act (by omega)
 have qc2 : QCell h2 p acc v:=act.get qc1 (by omega) own.2.2.1
 simp only [vms,vmc,vA,vB,reduceCtorEq,vC,vD]
 rw [items_look (look_new (q:=h.next) (by simp only [vms,vmc,vA,vB,reduceCtorEq,vC,vD]) g2 (by simp [AV.beqs,AV.beq]))]
 obtain ⟨s1,_⟩:=put_res (w0 := .int .i64 ((doP W a.client acc).1.err : Int)) (w1 := .int .i64 (doP W a.client acc).1.n) (w2 := .bool (doP W a.client acc).1.ok) (w3:=wv) g2 res4 (res_flat rfl rfl rfl (hw.imp id fun h => h.1))
 simp only [vms,vmc,vA,vB,reduceCtorEq,vC,vD,s1]
 have u : Upd h2 (h2.set h.next (.cells [.int .i64 ((doP W a.client acc).1.err : Int),.int .i64 (doP W a.client acc).1.n,.bool (doP W a.client acc).1.ok,wv] true)) h.next:=(Upd.refl _ _).set _
 have P3:=P2.upd u (P2.lo.set (P2.lo _ _ g2) _) own2
 obtain ⟨wv1,gr1,hw1⟩:=rc
 have hr1 : r1 < h.next:=P.lo _ _ gr1
 refine hq _ _ Fw2 h.next P3 ((u.2 p (by omega)).trans qc2) ownp2 ⟨wv1,?_,?_⟩ ⟨wv,get_set_same,?_⟩ ⟨?_,?_,?_,?_,?_⟩ ?_ ?_ ?_
 ·exact (u.2 r1 (by omega)).trans (act.get ((q1.2 r1 hr1 id).trans gr1) (by omega) ownr.2.2.1)
 ·rcases hw1 with hw1 | ⟨⟨o',rfl,hg⟩,ho⟩
  ·exact .inl hw1
  ·have ho':=ho o' (by simp [objs])
   have hol : o' < h.next:=P.lo _ _ hg
   exact .inr ⟨⟨o',rfl,(u.2 o' (by omega)).trans (act.get ((q1.2 o' hol id).trans hg) (by omega) ho')⟩,fun _ _ h => h⟩
 ·rcases hw with hw | ⟨⟨o',rfl,hg⟩,ho⟩
  ·exact .inl hw
  ·have ho':=ho o' (by simp [objs])
   exact .inr ⟨⟨o',rfl,(u.2 o' (by omega)).trans hg⟩,fun _ _ h => h⟩
 all_goals simp only [vms,vmc,vA,vB,reduceCtorEq,vC,vD,f2,f7,f9,f11,f12,f13,f16]
theorem res_sees {wv : AV} {ws : List Nat} {G : Nat→Prop} (hw : (wv = .nilSlice∧ws=[])∨(Copy h wv ws∧∀ o∈objs wv,¬ G o)) : Sees h wv ((ws.map Int.ofNat).map (.int .u64)):=by
 rcases hw with ⟨rfl,rfl⟩ | ⟨c,_⟩
 ·exact .inl ⟨rfl,rfl⟩
 ·exact c.sees
theorem play7 (k : Fits T) {r1 r2 : Nat} {rp : ResP} {F : Fr} (rc1 : RCell h (fun _ => False) r1 rp) (rc2 : RCell h (fun _ => False) r2 rp) (hlen : rp.ws.length≤264) (f16 : F.at 16 = .ptr r1 0) (f17 : F.at 17 = .ptr r2 0) {Q : AExit→Fr→AH→Prop}
  (hq : ∀ f',(∀ t,t < 20→f'.at t=F.at t)→Q .normal f' h) : Wp (code T c9p7 F h) Q:=by
 obtain ⟨wv1,g1,hw1⟩:=rc1
 obtain ⟨wv2,g2,hw2⟩:=rc2
 have fa : ∀ o j,fieldAddrV j (.ptr o 0)=some (.ptr o (0 + j)):=fun o j => rfl
 have hb : ∀ b : Bool,eqBV true (.bool b) (.bool b)=some (.bool false):=fun b => by cases b <;> rfl
 have hi : ∀ x : Int,(x != x)=false:=fun x => by simp
 simp only [c9p7,c9b,c9l1,sqT,srT,vms,vmc,vA,vB,reduceCtorEq,vC,vD,f16,f17,fa,Nat.zero_add,load_at g1 (i:=0) rfl,load_at g1 (i:=1) rfl,load_at g1 (i:=2) rfl,load_at g1 (i:=3) rfl,load_at g2 (i:=0) rfl,load_at g2 (i:=1) rfl,load_at g2 (i:=2) rfl,load_at g2 (i:=3) rfl,hi,hb]
 refine Gives.bind ((sameG_ok (g:=23) (k.env _ (by decide)) (k.at rfl) (res_sees hw1) (res_sees hw2) (by simp; omega) (by simp; omega)).mono ?_)
 rintro _ _ ⟨rfl,rfl⟩
 rename_i h
 simp only [vms,vmc,vA,vB,reduceCtorEq,vC,vD,beq_self_eq_true,decide_true,Bool.not_true]
 refine hq _ fun t ht => ?_
 simp only [Fr.at_put]
 repeat rw [if_neg (by omega)]
theorem play8 (k : Fits T) {i : Nat} {lv v : AV} {p r2 : Nat} {acc : AccP} {rp : ResP} {F : Fr} (P : PlayM h0 h m w Fm Fw M W vr R) (q : QCell h p acc v) (own : Own h0 Fm Fw vr p) (rc : RCell h (fun _ => False) r2 rp) (fp : FrP F lv m w vr i) (f13 : F.at 13 = .ptr p 0) (f17 : F.at 17 = .ptr r2 0) (hR : R.length≤1000) {Q : AExit→Fr→AH→Prop}
  (hq : ∀ f' h' vr' R',PlayM h0 h' m w Fm Fw M W vr' R'→QCell h' p acc v→R.length≤R'.length→R'.length≤R.length + 1→FrP f' lv m w vr' i→f'.at 13 = .ptr p 0→Q .normal f' h') : Wp (code T c9p8 F h) Q:=by
 obtain ⟨f2,f7,f9,f11,f12⟩:=fp
 have hp : p < h.next:=P.lo _ _ q
 obtain ⟨wv2,g2,hw2⟩:=rc
 have fa : ∀ o j,fieldAddrV j (.ptr o 0)=some (.ptr o (0 + j)):=fun o j => rfl
 have q0 : loadV h false 1 (.ptr p 0)=some (.int .i64 acc.kind):=load_at q rfl
 have r0 : loadV h false 1 (.ptr r2 0)=some (.int .i64 (rp.err : Int)):=load_at g2 rfl
 have r1 : loadV h false 1 (.ptr r2 1)=some (.int .i64 rp.n):=load_at g2 rfl
 simp only [c9p8,c9b,c9l1,sqT,srT,vms,vmc,vA,vB,reduceCtorEq,vC,vD,f13,f17,fa,Nat.zero_add,q0]
 cases h4 : (acc.kind == 4)
 ·simp only [vms,vmc,vA,vB,reduceCtorEq,vC,vD]
  refine hq _ h vr R P q (Nat.le_refl _) (by omega) ⟨?_,?_,?_,?_,?_⟩ ?_
  all_goals simp only [vms,vmc,vA,vB,reduceCtorEq,vC,vD,f2,f7,f9,f11,f12,f13]
 ·simp only [vms,vmc,vA,vB,reduceCtorEq,vC,vD,r0]
  cases hz : (((rp.err : Nat) : Int) == 0)
  ·simp only [vms,vmc,vA,vB,reduceCtorEq,vC,vD]
   refine hq _ h vr R P q (Nat.le_refl _) (by omega) ⟨?_,?_,?_,?_,?_⟩ ?_
   all_goals simp only [vms,vmc,vA,vB,reduceCtorEq,vC,vD,f2,f7,f9,f11,f12,f13]
  ·obtain ⟨v3,h3,ha3,r3,o3,m3,lo3⟩:=row_app (bytes:=8) (x := .int .i64 rp.n) P.lo P.rr (by decide) (by decide) (by simp [lcells]; omega) rfl
   have P3:=P.refs (R':=R ++ [rp.n]) m3 lo3 (by simpa [lcells] using r3) o3
   simp only [vms,vmc,vA,vB,reduceCtorEq,vC,vD,f17,fa,Nat.zero_add,r1,f11,fillI,ha3]
   refine hq _ h3 v3 _ P3 ((m3.2 p hp own.2.2.2).trans q) (by simp) (by simp) ⟨?_,?_,?_,?_,?_⟩ ?_
   all_goals simp only [vms,vmc,vA,vB,reduceCtorEq,vC,vD,f2,f7,f9,f11,f12,f13]
end Go.Proofs.Ytagcnjhpdopkiaa
/- Plays of both memories: what is counted; the law. -/
namespace Go.Proofs.Ytagcnjhpdopkiaa
open Go.Vm
open Go.Vm.AOpd renaming val → vA
open Nat renaming reduceEqDiff → vB,reduceAdd → vC,reduceBEq → vD
set_option linter.unusedSimpArgs false
set_option linter.unusedVariables false
set_option maxRecDepth 20000
variable {T : Vm.Prog} {h h0 h' : AH} {m w : Nat} {Fm Fw Fm' Fw' : Nat→Prop} {M M' W W' : MemP} {vr : AV} {R : List Int}
theorem slots_agg {v : AV} {S : List Slot} (r : SlotsV h v S) {i : Nat} {s : Slot} (hs : S[i]?=some s) : ∃ so,idxAddrV 4 v (.int .i64 (i : Int))=some (.ptr so (i * 4))∧loadV h true 4 (.ptr so (i * 4))=some (.agg s.cells):=by
 rcases r with ⟨rfl,rfl⟩ | ⟨so,cap,l,rfl,hg,h1,h2,h3⟩
 ·simp at hs
 ·have hi:=(List.getElem?_eq_some_iff.1 hs).1
  exact ⟨so,by simp [idxAddrV,hi],load_part (r:=some true) hg rfl (by omega) (h3 i s hs)⟩
theorem store_slot {s : Slot} {ws : List Nat} (hw : Words h s.wv ws) {p : Nat} {g : AH} (hg : g.get p=some (.cells [.int .i64 0,.int .i64 0,.bool false,.nilSlice] true)) : storeV g 4 (.ptr p 0) (.agg s.cells)=some (g.set p (.cells s.cells true)):=by
 refine store_all hg rfl rfl ?_
 obtain ⟨o,e,_⟩:=hw
 simp [Slot.cells,e,AV.flat]
theorem live_loop (k : Fits T) {F : Fr} {sv : AV} {ao : Nat} {S : List Slot} {Qs : List RP} (A : RAr h ao sv S Qs) (lo : Low h) (f18 : F.at 18 = .int .i64 0) (f180 : F.at 180=sv) (f181 : F.at 181 = .int .i64 (S.length : Nat)) (f182 : F.at 182 = .int .i64 0) {Q : AExit→Fr→AH→Prop}
  (hq : ∀ f' h',Only h h' []→Low h'→(∀ t,t < 18→f'.at t=F.at t)→f'.at 18 = .int .i64 (S.countP (·.live) : Nat)→Q (.exit 2) f' h') : Wp (code T (.loop c9l0) F h) Q:=by
 have hsm:=A.small
 refine wpc_loop (fun m f h' => ∃ i,m=S.length - i∧i≤S.length∧Only h h' []∧Low h'∧(∀ t,t < 18→f.at t=F.at t)∧f.at 18 = .int .i64 ((S.take i).countP (·.live) : Nat)∧f.at 180=sv∧f.at 181 = .int .i64 (S.length : Nat)∧f.at 182 = .int .i64 (i : Nat)) ?_ S.length F h
  ⟨0,rfl,by omega,Only.refl _ _,lo,fun _ _ => rfl,by simpa using f18,f180,f181,f182⟩
 rintro m f h' ⟨i,rfl,hi,on,lo',hf,g29,g239,g240,g241⟩
 simp only [c9l0,vms,vmc,vA,vB,reduceCtorEq,vC,vD,g240,g241]
 by_cases hlt : i < S.length
 ·have hd : decide ((i : Int) < (S.length : Int))=true:=by rw [decide_eq_true_eq]; omega
  obtain ⟨s,hs⟩ : ∃ s,S[i]?=some s:=⟨_,List.getElem?_eq_getElem hlt⟩
  have A':=A.grow lo on
  obtain ⟨so,hi1,hld⟩:=slots_agg A'.slots hs
  have hst:=store_slot (A'.words s (List.mem_of_getElem? hs)) (get_new_same (h:=h') (x := .cells [.int .i64 0,.int .i64 0,.bool false,.nilSlice] true))
  have hlv : loadV ((h'.new (.cells [.int .i64 0,.int .i64 0,.bool false,.nilSlice] true)).set h'.next (.cells s.cells true)) false 1 (.ptr h'.next 2)=some (.bool s.live):=load_at get_set_same rfl
  have on2 : Only h ((h'.new (.cells [.int .i64 0,.int .i64 0,.bool false,.nilSlice] true)).set h'.next (.cells s.cells true)) []:=(on.new _).set (.inr on.1) _
  have lo2 : Low ((h'.new (.cells [.int .i64 0,.int .i64 0,.bool false,.nilSlice] true)).set h'.next (.cells s.cells true)):=(lo'.new _).set (by rw [next_new]; omega) _
  have hcount : (S.take (i + 1)).countP (·.live)=(S.take i).countP (·.live) + if s.live=true then 1 else 0:=by
   rw [List.take_add_one,hs,List.countP_append]; simp [List.countP_cons]
  have hle : (S.take i).countP (·.live)≤i:=by
   refine Nat.le_trans List.countP_le_length ?_
   rw [List.length_take]; omega
  have w2 : IntKind.i64.wrap ((i : Int) + 1)=((i + 1 : Nat) : Int):=by rw [wrap_i64 (by omega) (by omega)]; rfl
  have w3 : IntKind.i64.wrap (((S.take i).countP (·.live) : Nat) + 1)=(((S.take i).countP (·.live) + 1 : Nat) : Int):=by rw [wrap_i64 (by omega) (by omega)]; rfl
  simp only [hd,vms,vmc,vA,vB,reduceCtorEq,vC,vD,g239,g241,hi1,hld,hst,show fieldAddrV 2 (.ptr h'.next 0)=some (.ptr h'.next 2) from rfl,hlv]
  cases hl : s.live
  ·rw [hl,if_neg (by simp)] at hcount
   simp only [vms,vmc,vA,vB,reduceCtorEq,vC,vD,g241,w2]
   refine ⟨S.length - (i + 1),by omega,i + 1,rfl,by omega,on2,lo2,fun t ht => ?_,by rw [hcount]; exact g29,by first | trivial | exact g239,by first | trivial | exact g240,rfl⟩
   try simp only [Fr.at_put]
   repeat rw [if_neg (by omega)]
   exact hf t ht
  ·rw [hl,if_pos rfl] at hcount
   simp only [vms,vmc,vA,vB,reduceCtorEq,vC,vD,g29,g241,w2,w3]
   refine ⟨S.length - (i + 1),by omega,i + 1,rfl,by omega,on2,lo2,fun t ht => ?_,by rw [hcount],by first | trivial | exact g239,by first | trivial | exact g240,rfl⟩
   try simp only [Fr.at_put]
   repeat rw [if_neg (by omega)]
   exact hf t ht
 ·have hd : decide ((i : Int) < (S.length : Int))=false:=by rw [decide_eq_false_iff_not]; omega
  have : i=S.length:=by omega
  subst this
  simp only [hd,vms,vmc,vA,vB,reduceCtorEq,vC,vD]
  rw [List.take_length] at g29
  refine hq _ h' on lo' (fun t ht => ?_) ?_
  ·simp only [Fr.at_put]
   rw [if_neg (by omega)]
   exact hf t ht
  ·simp only [vms,vmc,vA,vB,reduceCtorEq,vC,vD]; exact g29
theorem pure_live (S : List Slot) : (S.map Slot.pure).countP (·.live)=S.countP (·.live):=by
 rw [List.countP_map]; rfl
theorem roomd_ok (k : Fits T) {F : Nat→Prop} (P : MemD w W F h) (c : Int) : Gives T 26 [.ptr w 0,.int .i64 c] h fun r h' => r = .int .i64 ((if 0≤c∧c < 5 then roomP W.ar c.toNat else 0 : Nat) : Int)∧h'=h:=by
 refine gives_func (k.env _ (by decide)) (k.at (fn:=a26) rfl) rfl ?_
 by_cases h1 : c < 0
 ·have d1 : decide (c < 0)=true:=by simpa using h1
  rw [if_neg (by omega)]
  simp only [a26,c26,vms,vmc,vA,vB,reduceCtorEq,vC,vD,d1]
  exact ⟨rfl,trivial⟩
 have d1 : decide (c < 0)=false:=by simpa using h1
 by_cases h2 : c ≥ 5
 ·have d2 : decide (c ≥ 5)=true:=by simpa using h2
  rw [if_neg (by omega)]
  simp only [a26,c26,vms,vmc,vA,vB,reduceCtorEq,vC,vD,d1,d2]
  exact ⟨rfl,trivial⟩
 have d2 : decide (c ≥ 5)=false:=by simpa using h2
 obtain ⟨n,rfl⟩ : ∃ n : Nat,c=n:=⟨c.toNat,by omega⟩
 have hc5 : n < 5:=by omega
 obtain ⟨a,e,Fa,Fe,K,hF⟩:=P
 obtain ⟨sv,S,Qs,A,hS,inv,hfr,hFa⟩:=K.ar
 obtain ⟨q,hqq⟩ : ∃ q,Qs[n]?=some q:=⟨_,List.getElem?_eq_getElem (by rw [A.five]; omega)⟩
 have hlen : lenOfV q.v=some (roomP W.ar n):=by
  have:=(A.lists q (List.mem_of_getElem? hqq)).len
  rw [this,lcells,List.length_map,(hfr n q hqq).1,freeL_len]
 have hlv:=(A.list_load hqq).2
 have fb : fieldAddrV 1 (.ptr a (1 + n * 2))=some (.ptr a (1 + n * 2 + 1)):=rfl
 rw [if_pos ⟨by omega,by omega⟩,Int.toNat_natCast]
 simp only [a26,c26,vms,vmc,vA,vB,reduceCtorEq,vC,vD,d1,d2,show nilChkV (.ptr w 0)=some (.ptr w 0) from rfl,show fieldAddrV 0 (.ptr w 0)=some (.ptr w 0) from rfl,load_at K.obj (i:=0) rfl,show nilChkV (.ptr a 0)=some (.ptr a 0) from rfl,show fieldAddrV 1 (.ptr a 0)=some (.ptr a 1) from rfl,idxRow_two hc5,fb,hlv,hlen]
 exact ⟨trivial,trivial⟩
def c9t9 : ACode:=sqT c9t
def c9t10 : ACode:=sqT (srT c9t)
def c9t11 : ACode:=sqT (srT (srT c9t))
def c9t12 : ACode:=sqT (srT (srT (srT c9t)))
def c9u : ACode:=srT (srT (srT (srT c9t)))
theorem c9t_parts : c9t = .seq c9t9 (.seq c9t10 (.seq c9t11 (.seq c9t12 c9u))):=rfl
theorem plays_tail (k : Fits T) {i : Nat} {lv v v0 : AV} {p o off : Nat} {a : AskP} {acc : AccP} {F : Fr} (P : PlayM h0 h m w Fm Fw M M vr R) (A : AskAt h0 lv i a v0 o off) (q : QCell h p acc v) (fp : FrP F lv m w vr i) (f13 : F.at 13 = .ptr p 0) (hg : ∀ x∈M.ar,x.gen≤1073741824) {Q : AExit→Fr→AH→Prop}
  (hq : ∀ f' h',PlayM h0 h' m w Fm Fw M M vr R→FrP f' lv m w vr i→Q .normal f' h') : Wp (code T c9t F h) Q:=by
 obtain ⟨f2,f7,f9,f11,f12⟩:=fp
 have hp : p < h.next:=P.lo _ _ q
 obtain ⟨ar,ae,Fa,Fe,K,hF⟩:=P.rw
 obtain ⟨sv,S,Qs,A1,hS,inv,hfr,hFa⟩:=K.ar
 have fo : ∀ j,fieldAddrV j (.ptr o off)=some (.ptr o (off + j)):=fun j => rfl
 have nw : nilChkV (.ptr w 0)=some (.ptr w 0):=rfl
 have na : nilChkV (.ptr ar 0)=some (.ptr ar 0):=rfl
 have ne : nilChkV (.ptr ae 0)=some (.ptr ae 0):=rfl
 have fw : ∀ j,fieldAddrV j (.ptr w 0)=some (.ptr w (0 + j)):=fun j => rfl
 have fa : ∀ j,fieldAddrV j (.ptr ar 0)=some (.ptr ar (0 + j)):=fun j => rfl
 have fe : ∀ j,fieldAddrV j (.ptr ae 0)=some (.ptr ae (0 + j)):=fun j => rfl
 have fp' : ∀ j,fieldAddrV j (.ptr p 0)=some (.ptr p (0 + j)):=fun j => rfl
 rw [c9t_parts]
 simp only [c9t9,c9t10,c9t,c9b,c9l1,sqT,srT,vms,vmc,vA,vB,reduceCtorEq,vC,vD,f9,nw,fw,na,fa,Nat.zero_add,load_at K.obj (i:=0) rfl,A1.sv_load,A1.slots.len]
 refine live_loop k A1 P.lo (by simp only [vms,vmc,vA,vB,reduceCtorEq,vC,vD]) (by simp only [vms,vmc,vA,vB,reduceCtorEq,vC,vD]) (by simp only [vms,vmc,vA,vB,reduceCtorEq,vC,vD]) (by simp only [vms,vmc,vA,vB,reduceCtorEq,vC,vD]) ?_
 intro F1 h1 on1 lo1 ft1 e18
 have P1:=P.quiet on1.quiet lo1
 have g2 : F1.at 2=lv:=by rw [ft1 2 (by omega)]; simp only [vms,vmc,vA,vB,reduceCtorEq,vC,vD,f2]
 have g7 : F1.at 7 = .ptr m 0:=by rw [ft1 7 (by omega)]; simp only [vms,vmc,vA,vB,reduceCtorEq,vC,vD,f7]
 have g9 : F1.at 9 = .ptr w 0:=by rw [ft1 9 (by omega)]; simp only [vms,vmc,vA,vB,reduceCtorEq,vC,vD,f9]
 have g11 : F1.at 11=vr:=by rw [ft1 11 (by omega)]; simp only [vms,vmc,vA,vB,reduceCtorEq,vC,vD,f11]
 have g12 : F1.at 12 = .int .i64 (i : Nat):=by rw [ft1 12 (by omega)]; simp only [vms,vmc,vA,vB,reduceCtorEq,vC,vD,f12]
 have g13 : F1.at 13 = .ptr p 0:=by rw [ft1 13 (by omega)]; simp only [vms,vmc,vA,vB,reduceCtorEq,vC,vD,f13]
 have hlc : liveP M.ar=(S.countP (·.live) : Nat):=by
  rw [live_count (fun x hx => ?_),← hS,pure_live]
  obtain ⟨n,hn⟩:=List.getElem?_of_mem hx
  exact ⟨(inv.each n x hn).1,hg x hx⟩
 have K1 : MemDK h1 w ar ae Fa Fe M:=K.quiet P.lo on1.quiet
 have q1 : QCell h1 p acc v:=(on1.quiet.2 p hp id).trans q
 have w0:=load_at K1.obj (i:=0) rfl
 have w1:=load_at K1.obj (i:=1) rfl
 have w3:=load_at K1.obj (i:=3) rfl
 obtain ⟨pv,rv,KK,E,hE⟩:=K1.ep
 have ac:=A.c h1 P1.qt
 have q2 : loadV h1 false 1 (.ptr p 2)=some (.int .i64 acc.cls):=load_at q1 rfl
 have ntest : ∀ x : Int,(x != x)=false:=fun x => by simp
 -- behind the limbo's length
 have last : ∀ F2 : Fr,(∀ t,t < 19→F2.at t=F1.at t)→F2.at 21 = .int .i64 ((limboE M.ep a.client : Nat) : Int)→Wp (code T c9u F2 h1) Q:=by
  intro F2 ft2 e21
  have g2' : F2.at 2=lv:=(ft2 2 (by omega)).trans g2
  have g7' : F2.at 7 = .ptr m 0:=(ft2 7 (by omega)).trans g7
  have g9' : F2.at 9 = .ptr w 0:=(ft2 9 (by omega)).trans g9
  have g11' : F2.at 11=vr:=(ft2 11 (by omega)).trans g11
  have g12' : F2.at 12 = .int .i64 (i : Nat):=(ft2 12 (by omega)).trans g12
  have g13' : F2.at 13 = .ptr p 0:=(ft2 13 (by omega)).trans g13
  have g18' : F2.at 18 = .int .i64 (liveP M.ar):=by rw [ft2 18 (by omega),e18,hlc]
  simp only [c9u,c9t,c9b,c9l1,sqT,srT,vms,vmc,vA,vB,reduceCtorEq,vC,vD,items_test,g7',g18']
  refine Gives.bind ((mem_live k P1.rm).mono ?_)
  rintro _ _ ⟨rfl,rfl⟩
  rename_i h1
  simp only [vms,vmc,vA,vB,reduceCtorEq,vC,vD,items_test,ntest,g7',g2',g12',e21,A.idx,fo,Nat.add_zero,ac]
  refine Gives.bind ((mem_limbo k P1.rm a.client).mono ?_)
  rintro _ _ ⟨rfl,rfl⟩
  rename_i h1
  simp only [vms,vmc,vA,vB,reduceCtorEq,vC,vD,items_test,ntest,g7',g9',nw,fw,ne,fe,Nat.zero_add,w1,E.now_load]
  refine Gives.bind ((mem_now k P1.rm).mono ?_)
  rintro _ _ ⟨rfl,rfl⟩
  rename_i h1
  simp only [vms,vmc,vA,vB,reduceCtorEq,vC,vD,items_test,ntest,g7',g9',nw,fw,Nat.zero_add,w3]
  rw [items_look (look_want (by simp only [vms,vmc,vA,vB,reduceCtorEq,vC,vD]) (look_load (v := .ptr ae 0) (by simp only [vms,vmc,vA,vB,reduceCtorEq,vC,vD,nw,fw,Nat.zero_add]; exact w1) (by simp only [vms,vmc,vA,vB,reduceCtorEq,vC,vD]) (by simp [AV.beq])))]
  rw [items_look (look_want (by simp only [vms,vmc,vA,vB,reduceCtorEq,vC,vD]) (look_load (v := .int .i64 M.ep.now) (by simp only [vms,vmc,vA,vB,reduceCtorEq,vC,vD,ne,fe,Nat.zero_add]; exact E.now_load) (by simp only [vms,vmc,vA,vB,reduceCtorEq,vC,vD]) (by simp [AV.beq])))]
  simp only [vms,vmc,vA,vB,reduceCtorEq,vC,vD,items_test]
  refine Gives.bind ((mem_root k P1.rm).mono ?_)
  rintro _ _ ⟨rfl,rfl⟩
  rename_i h1
  simp only [vms,vmc,vA,vB,reduceCtorEq,vC,vD,items_test,ntest,g7',g9',g13',fp',Nat.zero_add,q2]
  rw [items_look (look_want (by simp only [vms,vmc,vA,vB,reduceCtorEq,vC,vD]) (look_load (v := .int .i64 M.root) (by simp only [vms,vmc,vA,vB,reduceCtorEq,vC,vD,nw,fw,Nat.zero_add]; exact w3) (by simp only [vms,vmc,vA,vB,reduceCtorEq,vC,vD]) (by simp [AV.beq])))]
  simp only [vms,vmc,vA,vB,reduceCtorEq,vC,vD,items_test]
  refine Gives.bind ((mem_room k P1.rm acc.cls).mono ?_)
  rintro _ _ ⟨rfl,rfl⟩
  rename_i h1
  simp only [vms,vmc,vA,vB,reduceCtorEq,vC,vD,items_test]
  rw [items_look (look_want (by simp only [vms,vmc,vA,vB,reduceCtorEq,vC,vD]) (look_load (v := .int .i64 acc.cls) (by simp only [vms,vmc,vA,vB,reduceCtorEq,vC,vD,g13',fp',Nat.zero_add]; exact q2) (by simp only [vms,vmc,vA,vB,reduceCtorEq,vC,vD]) (by simp [AV.beq])))]
  simp only [vms,vmc,vA,vB,reduceCtorEq,vC,vD,items_test]
  refine Gives.bind ((roomd_ok k P1.rw acc.cls).mono ?_)
  rintro _ _ ⟨rfl,rfl⟩
  rename_i h1
  simp only [vms,vmc,vA,vB,reduceCtorEq,vC,vD,items_test,ntest]
  refine hq _ h1 P1 ⟨?_,?_,?_,?_,?_⟩
  all_goals simp only [vms,vmc,vA,vB,reduceCtorEq,vC,vD,g2',g7',g9',g11',g12']
 simp only [c9t11,c9t12,c9t,c9b,c9l1,sqT,srT,vms,vmc,vA,vB,reduceCtorEq,vC,vD,g9,g2,g12,nw,fw,Nat.zero_add,w1,A.idx,fo,Nat.add_zero,ac]
 refine Gives.bind ((client_ok k E a.client).mono ?_)
 rintro _ _ ⟨rfl,hcl⟩
 rename_i h1
 rcases hcl with ⟨n,hn,hlt,rfl⟩ | ⟨hno,rfl⟩
 ·obtain ⟨pp,hpp,hc⟩:=E.cls_at hlt
  obtain ⟨lo,hlo,hix,hld⟩:=E.row_at hpp
  have hlen : lenOfV pp.2=some pp.1.limbo.length:=by
   rw [(E.limbos pp (List.mem_of_getElem? hpp)).len]; simp [limC]
  have hli : limboE M.ep a.client=pp.1.limbo.length:=by rw [hn]; simp only [limboE,cl_nat,hc]
  rw [← hn] at hix
  simp only [vms,vmc,vA,vB,reduceCtorEq,vC,vD,g9,g2,g12,nw,fw,ne,fe,Nat.zero_add,w1,A.idx,fo,Nat.add_zero,ac,E.lv_load,hix,hld,hlen]
  refine last _ (fun t ht => ?_) ?_
  ·simp only [Fr.at_put]
   repeat rw [if_neg (by omega)]
  ·simp only [vms,vmc,vA,vB,reduceCtorEq,vC,vD,hli]
 ·have hli : limboE M.ep a.client=0:=by simp only [limboE,cl_out hno]
  simp only [vms,vmc,vA,vB,reduceCtorEq,vC,vD]
  refine last _ (fun t ht => ?_) ?_
  ·simp only [Fr.at_put]
   repeat rw [if_neg (by omega)]
  ·simp only [vms,vmc,vA,vB,reduceCtorEq,vC,vD,hli]
   rfl
end Go.Proofs.Ytagcnjhpdopkiaa
/- Plays of both memories: the law. -/
namespace Go.Proofs.Ytagcnjhpdopkiaa
open Go.Vm
open Go.Vm.AOpd renaming val → vA
open Nat renaming reduceEqDiff → vB,reduceAdd → vC,reduceBEq → vD
set_option linter.unusedSimpArgs false
set_option linter.unusedVariables false
set_option maxRecDepth 20000
variable {T : Vm.Prog} {h h0 h' : AH} {m w : Nat} {Fm Fw Fm' Fw' : Nat→Prop} {M M' W W' : MemP} {vr : AV} {R : List Int}
def AskIn (h0 : AH) (x : List AV) : Prop:=∃ (a : AskP) (v : AV),x=a.cells v∧InA h0 v a.acc.ws
theorem plays_loop (k : Fits T) {lv : AV} {asks : List (List AV)} (hl0 : Low h0) (sa : SeesS h0 9 lv asks) (hla : (asks.length : Int) < 9223372036854775808) (ax : ∀ x∈asks,AskIn h0 x) {F : Fr} (P : PlayM h0 h m w Fm Fw M M vr R) (fp : FrP F lv m w vr 0) (hR : R.length=1) (hg : ∀ x∈M.ar,x.gen≤1) {Q : AExit→Fr→AH→Prop}
  (hq : ∀ f' h',Q (.exit 0) f' h') : Wp (code T (.loop c9l1) F h) Q:=by
 refine wpc_loop (fun n f h' => ∃ i Fm Fw M vr R,n=80 - i∧i≤80∧PlayM h0 h' m w Fm Fw M M vr R∧0 < R.length∧R.length≤i + 1∧(∀ x∈M.ar,x.gen≤i + 1)∧FrP f lv m w vr i) ?_ 80 F h ⟨0,Fm,Fw,M,vr,R,rfl,by omega,P,by omega,by omega,hg,fp⟩
 rintro n f h ⟨i,Fm,Fw,M,vr,R,rfl,hi,P,hR0,hR,hg,fp⟩
 obtain ⟨f2,f7,f9,f11,f12⟩:=fp
 rw [c9l1_parts]
 have lla : lenOfV lv=some asks.length:=sa.len
 by_cases h1 : i < asks.length
 ·have d1 : decide ((i : Int) < (asks.length : Int))=true:=by rw [decide_eq_true_eq]; omega
  by_cases h2 : i < 80
  ·have d2 : decide ((i : Int) < 80)=true:=by rw [decide_eq_true_eq]; omega
   obtain ⟨x,hx⟩ : ∃ x,asks[i]?=some x:=⟨_,List.getElem?_eq_getElem h1⟩
   obtain ⟨a,v,rfl,iw⟩:=ax x (List.mem_of_getElem? hx)
   obtain ⟨o,off,A⟩:=ask_at hl0 sa hx
   have fo : ∀ j,fieldAddrV j (.ptr o off)=some (.ptr o (off + j)):=fun j => rfl
   have aa:=A.acc h P.qt
   obtain ⟨c1,c2⟩:=src_cells iw.src
   have hst:=store_all (get_new_same (h:=h) (x := .cells [.int .i64 0,.int .i64 0,.int .i64 0,.int .i64 0,.int .u64 0,.nilSlice] true)) (n:=6) (l':=a.acc.cells v) rfl rfl (by simp [AccP.cells,AV.flat] at c2 ⊢; exact c2)
   have own:=P.fresh (Nat.le_refl h.next)
   have Pn:=P.quiet ((Quiet.refl h).new (.cells [.int .i64 0,.int .i64 0,.int .i64 0,.int .i64 0,.int .u64 0,.nilSlice] true)) (P.lo.new _)
   have Pq:=Pn.upd (h':=(h.new (.cells [.int .i64 0,.int .i64 0,.int .i64 0,.int .i64 0,.int .u64 0,.nilSlice] true)).set h.next (.cells (a.acc.cells v) true)) ((Upd.refl _ _).set _) (Pn.lo.set (by rw [next_new]; omega) _) own
   simp only [c9q,c9p1,c9b,c9l1,sqT,srT,vms,vmc,vA,vB,reduceCtorEq,vC,vD,f2,f12,lla,d1,d2,A.idx,fo,aa,hst]
   refine pick2 (i:=i) (lv:=lv) k Pq get_set_same own iw ⟨?_,?_,?_,?_,?_⟩ ?_ ?_
   rotate_right
   ·intro F2 h2 v2 ws2 P2 q2 iw2 fp2 e2
    simp only [vms,vmc,vA,vB,reduceCtorEq,vC,vD]
    refine pick3 k P2 A q2 own fp2 e2 (by omega) hR0 ?_
    intro F3 h3 ref3 P3 q3 fp3 e3
    simp only [vms,vmc,vA,vB,reduceCtorEq,vC,vD]
    refine pick4 k P3 A q3 own fp3 e3 ?_
    intro F4 h4 was4 P4 q4 fp4 e4
    simp only [vms,vmc,vA,vB,reduceCtorEq,vC,vD]
    generalize hacc : ({ { { a.acc with ws:=ws2 } with ref:=ref3 } with was:=was4 } : AccP)=acc at q4
    have hws : acc.ws=ws2:=by rw [← hacc]
    rw [← hws] at iw2
    refine play5 k P4 A q4 own iw2 fp4 e4 ?_
    intro F5 h5 Fm5 r5 P5 q5 own5 rc5 ownr5 fp5 e5 e5r
    simp only [vms,vmc,vA,vB,reduceCtorEq,vC,vD]
    refine play6 k P5 A q5 own5 rc5 ownr5 iw2 fp5 e5 e5r ?_
    intro F6 h6 Fw6 r6 P6 q6 own6 rc61 rc62 fp6 e6 e6r e6s
    simp only [vms,vmc,vA,vB,reduceCtorEq,vC,vD]
    refine play7 k rc61 rc62 (doP_len P.rw.inv) e6r e6s ?_
    intro F7 ft7
    have fp7 : FrP F7 lv m w vr i:=⟨(ft7 2 (by omega)).trans fp6.f2,(ft7 7 (by omega)).trans fp6.f7,(ft7 9 (by omega)).trans fp6.f9,(ft7 11 (by omega)).trans fp6.f11,(ft7 12 (by omega)).trans fp6.f12⟩
    have e7 : F7.at 13 = .ptr h.next 0:=(ft7 13 (by omega)).trans e6
    have e7s : F7.at 17 = .ptr r6 0:=(ft7 17 (by omega)).trans e6s
    simp only [vms,vmc,vA,vB,reduceCtorEq,vC,vD]
    refine play8 k P6 q6 own6 rc62 fp7 e7 e7s (by omega) ?_
    intro F8 h8 vr8 R8 P8 q8 hR8 hR8' fp8 e8
    have hg8:=(doP_one (M:=M) (c:=a.client) (a:=acc)).gens hg
    simp only [vms,vmc,vA,vB,reduceCtorEq,vC,vD]
    refine plays_tail k P8 A q8 fp8 e8 (fun x hx => by have:=hg8 x hx; omega) ?_
    intro F9 h9 P9 fp9
    have w1 : IntKind.i64.wrap ((i : Int) + 1)=((i + 1 : Nat) : Int):=by rw [wrap_i64 (by omega) (by omega)]; rfl
    simp only [c9n,c9l1,srT,vms,vmc,vA,vB,reduceCtorEq,vC,vD,fp9.f12,w1]
    refine ⟨80 - (i + 1),by omega,i + 1,Fm5,Fw6,_,vr8,R8,rfl,by omega,P9,by omega,by omega,hg8,⟨?_,?_,?_,?_,?_⟩⟩
    all_goals simp only [vms,vmc,vA,vB,reduceCtorEq,vC,vD,fp9.f2,fp9.f7,fp9.f9,fp9.f11]
   all_goals simp only [vms,vmc,vA,vB,reduceCtorEq,vC,vD,f2,f7,f9,f11,f12]
  ·have d2 : decide ((i : Int) < 80)=false:=by rw [decide_eq_false_iff_not]; omega
   simp only [c9q,c9l1,sqT,vms,vmc,vA,vB,reduceCtorEq,vC,vD,f2,f12,lla,d1,d2]
   exact hq _ _
 ·have d1 : decide ((i : Int) < (asks.length : Int))=false:=by rw [decide_eq_false_iff_not]; omega
  simp only [c9q,c9l1,sqT,vms,vmc,vA,vB,reduceCtorEq,vC,vD,f2,f12,lla,d1]
  exact hq _ _
def c9r : ACode:=srT (srT c9)
theorem startM_gens {ns : List Nat} {n : Nat} {lb : Int} : ∀ x∈(startM ns n lb).ar,x.gen≤1:=by
 have h0 : ∀ x∈newSt ns,x.gen=1:=by
  intro x hx
  simp only [newSt,newP,List.mem_map] at hx
  obtain ⟨c,_,rfl⟩:=hx
  rfl
 have h1 : ∀ x∈(allocI (newSt ns) 4 rootW).2.2,x.gen=1:=by
  unfold allocI
  split
  ·unfold allocP
   split
   ·exact h0
   ·split
    ·exact h0
    ·rename_i j _ _ x hx
     intro y hy
     rcases List.mem_or_eq_of_mem_set hy with h2 | rfl
     ·exact h0 y h2
     ·exact h0 x (List.mem_of_getElem? hx)
  ·exact h0
 intro x hx
 have:=h1 x hx
 omega
theorem plays_good (k : Fits T) {lv : AV} {asks : List (List AV)} {p : Nat} {zs : List Int} {cl lb tr : Int} (hl0 : Low h0) (sa : SeesS h0 9 lv asks) (hla : (asks.length : Int) < 9223372036854775808) (ax : ∀ x∈asks,AskIn h0 x) (z5 : zs.length=5) (hok : okC zs cl lb tr) (lo : Low h) (qt : Quiet h0 h) (hg : h.get p=some (.cells (cfgC zs cl lb tr) true)) {F : Fr} (f2 : F.at 2=lv) (f3 : F.at 3 = .ptr p 0) {Q : AExit→Fr→AH→Prop}
  (hq : ∀ f' h',f'.at 6 = .bool true→Q .ret f' h') : Wp (code T c9r F h) Q:=by
 obtain ⟨hz,hc,ht,h4⟩:=hok
 obtain ⟨ns,hzn,n5,hsum⟩:=okZ_ints z5 hz
 obtain ⟨n,rfl⟩ : ∃ n : Nat,cl=n:=⟨cl.toNat,by omega⟩
 obtain ⟨z4,hz4⟩ : ∃ z,zs[4]?=some z:=⟨_,List.getElem?_eq_getElem (by omega)⟩
 obtain ⟨f,rfl,hf⟩:=okZ_slot hzn hz4
 have f1:=h4 _ hz4
 have hl8 : (cfgC zs (n : Int) lb tr).length=8:=by simp [cfgC,izs_len,z5]
 simp only [c9r,c9,srT,vms,vmc,vA,vB,reduceCtorEq,vC,vD,f3,load_all hg hl8]
 refine Gives.bind ((mem_newG k lo z5 hzn n5 hsum (by omega) (by omega) hc.2.2.1 hc.2.2.2 ht.1 ht.2 hf (by omega)).mono ?_)
 rintro _ h1 ⟨m,Fm,rfl,rm,q1,hFm,lo1⟩
 have hg1 : h1.get p=some (.cells (cfgC zs (n : Int) lb tr) true):=(q1.2 p (lo _ _ hg) id).trans hg
 simp only [vms,vmc,vA,vB,reduceCtorEq,vC,vD,f3,load_all hg1 hl8]
 refine Gives.bind ((memd_newG k lo1 z5 hzn n5 hsum (by omega) (by omega) hc.2.2.1 hc.2.2.2 ht.1 ht.2 hf (by omega)).mono ?_)
 rintro _ h2 ⟨w,Fw,rfl,rw2,q2,hFw,lo2⟩
 have hal:=(rm.res lo1).low
 have rw2':=rw2
 obtain ⟨ar,ae,Fa,Fe,K,hF⟩:=rw2'
 have w3 : loadV h2 false 1 (.ptr w 3)=some (.int .i64 (startM ns n lb).root):=load_at K.obj rfl
 have qn : Quiet h2 (h2.new (.cells [.int .i64 (startM ns n lb).root] true)):=(Quiet.refl h2).new _
 have P : PlayM h0 (h2.new (.cells [.int .i64 (startM ns n lb).root] true)) m w Fm Fw (startM ns n lb) (startM ns n lb) (.slice h2.next 0 1 1 1 true) [(startM ns n lb).root]:=by
  have hwl:=(rw2.res lo2).low
  have hml : ∀ o,Fm o→o < h2.next:=fun o ho => by have:=hal o ho; have:=q2.1; omega
  refine ⟨lo2.new _,((qt.trans q1).trans q2).trans qn,(((rm.res lo1).quiet q2).quiet qn).holds,((rw2.res lo2).quiet qn).holds,fun o ho => Nat.le_trans qt.1 (hFm o ho),fun o ho => Nat.le_trans qt.1 (Nat.le_trans q1.1 (hFw o ho)),fun o h1 h2 => by have:=hal o h1; have:=hFw o h2; omega,?_,fun o ho => ?_⟩
  ·refine .inr ⟨h2.next,1,true,_,rfl,get_new_same,rfl,Nat.le_refl _,?_⟩
   intro j x hx
   cases j with
   | zero =>
    simp [lcells] at hx; subst hx
    exact ⟨rfl,fun t y hy => by simpa using hy⟩
   | succ j => simp [lcells] at hx
  ·simp [objs] at ho; subst ho
   have:=qt.1; have:=q1.1; have:=q2.1
   exact ⟨by omega,fun e => by have:=hml _ e; omega,fun e => by have:=hwl _ e; omega⟩
 simp only [vms,vmc,vA,vB,reduceCtorEq,vC,vD,show eqNilV 0 (.ptr m 0) .nilPtr=some false from rfl,show eqNilV 0 (.ptr w 0) .nilPtr=some false from rfl,show eqBV true (.bool false) (.bool false)=some (.bool false) from rfl,show ((0 : Int) != 0)=false from rfl,show nilChkV (.ptr w 0)=some (.ptr w 0) from rfl,show fieldAddrV 3 (.ptr w 0)=some (.ptr w 3) from rfl,w3,fillI]
 refine plays_loop k hl0 sa hla ax P ⟨?_,?_,?_,?_,?_⟩ rfl startM_gens ?_
 rotate_right
 ·intro F3 h3
  simp only [vms,vmc,vA,vB,reduceCtorEq,vC,vD]
  refine Gives.bind ((k.yes _).mono ?_)
  rintro _ _ ⟨rfl,rfl⟩
  simp only [vms,vmc,vA,vB,reduceCtorEq,vC,vD]
  exact hq _ _ (by simp only [vms,vmc,vA,vB,reduceCtorEq,vC,vD])
 all_goals (simp only [vms,vmc,vA,vB,reduceCtorEq,vC,vD,f2] <;> rfl)
theorem plays_bad (k : Fits T) {p : Nat} {zs : List Int} {cl lb tr : Int} (z5 : zs.length=5) (hbad : ¬ okC zs cl lb tr) (lo : Low h) (hg : h.get p=some (.cells (cfgC zs cl lb tr) true)) {F : Fr} (f3 : F.at 3 = .ptr p 0) {Q : AExit→Fr→AH→Prop}
  (hq : ∀ f' h',f'.at 6 = .bool true→Q .ret f' h') : Wp (code T c9r F h) Q:=by
 have hl8 : (cfgC zs cl lb tr).length=8:=by simp [cfgC,izs_len,z5]
 simp only [c9r,c9,srT,vms,vmc,vA,vB,reduceCtorEq,vC,vD,f3,load_all hg hl8]
 refine Gives.bind ((mem_new_no k lo z5 hbad).mono ?_)
 rintro _ h1 ⟨rfl,q1,lo1⟩
 have hg1 : h1.get p=some (.cells (cfgC zs cl lb tr) true):=(q1.2 p (lo _ _ hg) id).trans hg
 simp only [vms,vmc,vA,vB,reduceCtorEq,vC,vD,f3,load_all hg1 hl8]
 refine Gives.bind ((memd_new_no k lo1 z5 hbad).mono ?_)
 rintro _ h2 ⟨rfl,q2,lo2⟩
 simp only [vms,vmc,vA,vB,reduceCtorEq,vC,vD,show eqNilV 0 .nilPtr .nilPtr=some true from rfl,show eqBV true (.bool true) (.bool true)=some (.bool false) from rfl,show ((1 : Int) != 1)=false from rfl]
 refine Gives.bind ((k.yes _).mono ?_)
 rintro _ _ ⟨rfl,rfl⟩
 simp only [vms,vmc,vA,vB,reduceCtorEq,vC,vD]
 exact hq _ _ (by simp only [vms,vmc,vA,vB,reduceCtorEq,vC,vD])
theorem c9_parts : c9 = .seq (.ops [⟨(some 3),.box (.tmp 0),none⟩,⟨(some 6),.mov (.con (.bool false)),none⟩]) (.seq (.seq (.ops [⟨(some 22),.mov (.tmp 1),none⟩,⟨(some 23),.un .not (.tmp 22),none⟩])
  (.cond (.tmp 23) (.ops [⟨(some 24),.load true 8 (.tmp 3),none⟩,⟨(some 25),.call 15 [(.tmp 24)],none⟩,⟨none,.store 8 (.tmp 3) (.tmp 25),none⟩]) .skip)) c9r):=rfl
theorem eight {z : List Int} (h8 : z.length=8) : ∃ zs cl lb tr,izs z=cfgC zs cl lb tr∧zs.length=5:=by
 match z,h8 with
 | [a,b,c,d,e,f,g,i],_ => exact ⟨[a,b,c,d,e],f,g,i,rfl,rfl⟩
theorem plays_run (k : Fits T) {lv : AV} {asks : List (List AV)} {z : List Int} {raw : Bool} (hl : Low h) (sa : SeesS h 9 lv asks) (hla : (asks.length : Int) < 9223372036854775808) (ax : ∀ x∈asks,AskIn h x) (h8 : z.length=8) :
  Gives T 9 [.agg (izs z),.bool raw,lv] h fun r _ => r = .bool true:=by
 refine gives_func (k.env _ (by decide)) (k.at (fn:=a9) rfl) rfl ?_
 have hz8 : (izs z).length=8:=by rw [izs_len,h8]
 have lo1:=hl.new (.cells (izs z) true)
 have q1 : Quiet h (h.new (.cells (izs z) true)):=(Quiet.refl h).new _
 have g1 : (h.new (.cells (izs z) true)).get h.next=some (.cells (izs z) true):=get_new_same
 have nx1 : (h.new (.cells (izs z) true)).next=h.next + 1:=next_new
 simp only [a9,c9_parts,vms,vmc,vA,vB,reduceCtorEq,vC,vD,box_agg]
 generalize h.new (.cells (izs z) true)=h1 at lo1 q1 g1 nx1
 have both : ∀ {h3 : AH} {y : List Int} {F : Fr},y.length=8→Low h3→Quiet h h3→h3.get h.next=some (.cells (izs y) true)→F.at 2=lv→F.at 3 = .ptr h.next 0→∀ {Q : AExit→Fr→AH→Prop},(∀ f' h',f'.at 6 = .bool true→Q .ret f' h')→Wp (code T c9r F h3) Q:=by
  intro h3 y F y8 lo3 q3 g3 f2 f3 Q hq
  obtain ⟨zs,cl,lb,tr,e,z5⟩:=eight y8
  rw [e] at g3
  by_cases hok : okC zs cl lb tr
  ·exact plays_good k (h0:=h) (p:=h.next) hl sa hla ax z5 hok lo3 q3 g3 f2 f3 hq
  ·exact plays_bad k (p:=h.next) z5 hok lo3 g3 f3 hq
 cases raw
 ·simp only [vms,vmc,vA,vB,reduceCtorEq,vC,vD,load_all g1 hz8]
  refine Gives.bind ((config_ok k lo1 h8).mono ?_)
  rintro _ h2 ⟨c,rfl,hc,hc4,q2,lo2⟩
  obtain ⟨a,b,d,e,f,hs,_⟩:=hc.slots
  have g2 : h2.get h.next=some (.cells (izs z) true):=(q2.2 _ (by omega) id).trans g1
  have ec : c.v = .agg (izs ([(a : Int),b,d,e,f] ++ [(c.clients : Int),c.limbo,c.tries])):=by
   unfold CfgP.v
   rw [hs]; rfl
  have hfl:=izs_flat ([(a : Int),b,d,e,f] ++ [(c.clients : Int),c.limbo,c.tries])
  have hst:=store_all g2 hz8 (l':=izs ([(a : Int),b,d,e,f] ++ [(c.clients : Int),c.limbo,c.tries])) rfl hfl
  simp only [vms,vmc,vA,vB,reduceCtorEq,vC,vD,ec,hst]
  refine both (y:=[(a : Int),b,d,e,f] ++ [(c.clients : Int),c.limbo,c.tries]) rfl (lo2.set (lo2 _ _ g2) _) ((q1.trans q2).set (Nat.le_refl _) _) get_set_same (by simp only [vms,vmc,vA,vB,reduceCtorEq,vC,vD]) (by simp only [vms,vmc,vA,vB,reduceCtorEq,vC,vD]) ?_
  intro f' h' e
  simp only [vms,vmc,vA,vB,reduceCtorEq,vC,vD,e]
 ·simp only [vms,vmc,vA,vB,reduceCtorEq,vC,vD]
  refine both h8 lo1 q1 g1 (by simp only [vms,vmc,vA,vB,reduceCtorEq,vC,vD]) (by simp only [vms,vmc,vA,vB,reduceCtorEq,vC,vD]) ?_
  intro f' h' e
  simp only [vms,vmc,vA,vB,reduceCtorEq,vC,vD,e]
theorem u64_nat {x : Int} (w : (Lit.int .u64 x).wf=true) : ∃ n : Nat,x=n∧n < 18446744073709551616:=by
 have h : 0≤x∧x≤18446744073709551615:=by simpa [Lit.wf,IntKind.min,IntKind.max,IntKind.signed,IntKind.bits] using w
 exact ⟨x.toNat,by omega,by omega⟩
theorem nats_of : ∀ {xs : List Int},(∀ x∈xs,(Lit.int .u64 x).wf=true)→∃ ws : List Nat,xs.map (AV.int .u64)=wcells ws∧ws.length=xs.length
 | [],_ => ⟨[],rfl,rfl⟩
 | x :: xs,hx => by
  obtain ⟨ws,e,hl⟩:=nats_of (xs:=xs) fun y hy => hx y (by simp [hy])
  obtain ⟨n,rfl,_⟩:=u64_nat (hx x (by simp))
  exact ⟨n :: ws,by rw [List.map_cons,e]; rfl,by simp [hl]⟩
theorem words_in {P : Program} {t e : TypeId} {v : AV} (hl : Low h) (ht : P.underlying t=some (.slice e)) (he : P.underlying e=some (.int .u64)) (h1 : P.cellsOf e=1) (c : Came P h t [v]) : ∃ ws,InA h v ws:=by
 have cv : CameV P h t v:=⟨[v],c,by unfold avOf; rw [ht]; rfl⟩
 obtain ⟨xs,s,hlen,hw,hob⟩:=came_intRow ht he h1 cv
 obtain ⟨ws,e1,e2⟩:=nats_of hw
 rw [e1] at s
 have hmax:=maxLen_eq
 refine ⟨ws,?_,fun o ho => ?_,Came.capOk ht c,by omega⟩
 ·rcases s with ⟨rfl,h0⟩ | ⟨o,off,cap,ex,l,r,rfl,hg,h2,h3⟩
  ·refine .inl ⟨rfl,?_⟩
   cases ws with
   | nil => rfl
   | cons w ws => simp [wcells] at h0
  ·obtain ⟨l',hg'⟩:=hob o (by simp [objs])
   rw [hg'] at hg
   have hr : l'=l:=by
    cases r with
    | none => simp [AObj.of] at hg
    | some b => simp [AObj.of] at hg; exact hg.1
   subst hr
   rw [wcells_len] at h2
   refine .inr ⟨o,off,cap,ex,l',false,by rw [wcells_len],hg',h2,?_⟩
   apply List.ext_getElem?
   intro i
   by_cases hi : i < ws.length
   ·rw [List.getElem?_take,if_pos hi,List.getElem?_drop,List.getElem?_eq_getElem (l:=wcells ws) (by rw [wcells_len]; exact hi)]
    exact h3 i _ (List.getElem?_eq_getElem (by rw [wcells_len]; exact hi))
   ·rw [List.getElem?_eq_none (by rw [List.length_take]; omega),List.getElem?_eq_none (by rw [wcells_len]; omega)]
 ·obtain ⟨l,hg⟩:=hob o ho
  exact hl _ _ hg
theorem askIn_of {P : Program} {e : TypeId} {cs : List AV} (hl : Low h) (he : P.underlying e=some (.int .u64)) (h1 : P.cellsOf e=1) (c : CellsAre P h [.int .i64,.int .i64,.bool,.int .i64,.int .i64,.int .i64,.int .i64,.int .u64,.slice e] cs) : AskIn h cs:=by
 obtain ⟨b1,r1,rfl,⟨cl,rfl,_⟩,c1⟩:=c.cons_inv
 obtain ⟨b2,r2,rfl,⟨n,rfl,_⟩,c2⟩:=c1.cons_inv
 obtain ⟨b3,r3,rfl,⟨fits,rfl⟩,c3⟩:=c2.cons_inv
 obtain ⟨b4,r4,rfl,⟨kd,rfl,_⟩,c4⟩:=c3.cons_inv
 obtain ⟨b5,r5,rfl,⟨ref,rfl,_⟩,c5⟩:=c4.cons_inv
 obtain ⟨b6,r6,rfl,⟨cls,rfl,_⟩,c6⟩:=c5.cons_inv
 obtain ⟨b7,r7,rfl,⟨an,rfl,_⟩,c7⟩:=c6.cons_inv
 obtain ⟨b8,r8,rfl,⟨was,rfl,_⟩,c8⟩:=c7.cons_inv
 obtain ⟨b9,r9,rfl,⟨t,ht,cw⟩,c9⟩:=c8.cons_inv
 cases c9.nil_inv
 obtain ⟨ws,iw⟩:=words_in hl ht he h1 cw
 exact ⟨⟨cl,n,fits,⟨kd,ref,cls,an,was,ws⟩⟩,b9,rfl,iw⟩
end Go.Proofs.Ytagcnjhpdopkiaa

/- Stand-ins out of contracts: a function whose answer was shown stands by a plain function. slices.Equal of integers. -/
import Derived.Test.YtakgcpmemalmaaaGreatDoorVmZza
import Derived.Test.YtakgcpmemalmaaaGreatDoorVmZn
namespace Go.Vm
set_option linter.unusedSimpArgs false
set_option linter.unusedVariables false
set_option maxRecDepth 100000
theorem gives_env {P : Program} {T : Prog} (hT : TabOk P T) {g : Nat} (he : T.env g=none) {e : List AV→AH→Option (AV×AH)} (H : ∀ args h r h',e args h=some (r,h')→Gives T g args h fun x y => x=r∧y=h') : ∀ args h r h',e args h=some (r,h')→CSim P g args h r h':=by
 intro args h r h' hr
 obtain ⟨x,y,hrun,rfl,rfl⟩:=H args h r h' hr
 exact .inl (run_body hT he hrun)
def cEqWl0 : ACode:=(.seq (.ops [⟨(some 14),.bin .lss (.tmp 13) (.tmp 12),none⟩])
 (.seq (.cond (.tmp 14)
 .skip
 (.exit 0))
 (.seq (.block 1 (.seq (.ops [⟨(some 15),.mov (.tmp 13),none⟩,
  ⟨(some 5),.mov (.tmp 15),none⟩])
 (.seq (.ops [⟨(some 16),.mov (.tmp 0),none⟩,
  ⟨(some 17),.mov (.tmp 5),none⟩,
  ⟨(some 18),.idxAddr 1 (.tmp 16) (.tmp 17),none⟩,
  ⟨(some 19),.load false 1 (.tmp 18),none⟩,
  ⟨(some 20),.mov (.tmp 1),none⟩,
  ⟨(some 21),.mov (.tmp 5),none⟩,
  ⟨(some 22),.idxAddr 1 (.tmp 20) (.tmp 21),none⟩,
  ⟨(some 23),.load false 1 (.tmp 22),none⟩,
  ⟨(some 24),.bin .neq (.tmp 19) (.tmp 23),none⟩])
 (.cond (.tmp 24)
 (.seq (.ops [⟨(some 4),.mov (.con (.bool false)),none⟩])
 .ret)
 .skip))))
 (.ops [⟨(some 25),.bin .add (.tmp 13) (.con (.int .i64 1)),none⟩,
  ⟨(some 13),.mov (.tmp 25),none⟩]))))
def cEqW : ACode:=(.seq (.ops [⟨(some 4),.mov (.con (.bool false)),none⟩])
 (.seq (.seq (.ops [⟨(some 6),.mov (.tmp 0),none⟩,
  ⟨(some 7),.lenSlice (.tmp 6),none⟩,
  ⟨(some 8),.mov (.tmp 1),none⟩,
  ⟨(some 9),.lenSlice (.tmp 8),none⟩,
  ⟨(some 10),.bin .neq (.tmp 7) (.tmp 9),none⟩])
 (.cond (.tmp 10)
 (.seq (.ops [⟨(some 4),.mov (.con (.bool false)),none⟩])
 .ret)
 .skip))
 (.seq (.seq (.ops [⟨(some 11),.mov (.tmp 0),none⟩,
  ⟨(some 12),.lenSlice (.tmp 11),none⟩,
  ⟨(some 13),.mov (.con (.int .i64 0)),none⟩])
 (.block 0 (.loop cEqWl0)))
 (.seq (.ops [⟨(some 4),.mov (.con (.bool true)),none⟩])
 .ret))))
def aEqW : AFunc:=⟨2,cEqW,[.tmp 4]⟩
section
variable {T : Prog} {h : AH}
theorem eqG_ok {g : Nat} {k : IntKind} (he : T.env g=none) (hf : T.func g=some aEqW) {va vb : AV} {xs ys : List Int} (hx : Sees h va (xs.map (.int k))) (hy : Sees h vb (ys.map (.int k))) (hl : xs.length < 1000000) (hl' : ys.length < 1000000) :
  Gives T g [va,vb] h fun r h' => r = .bool (decide (xs=ys))∧h'=h:=by
 refine gives_func he hf rfl ?_
 have lx : lenOfV va=some xs.length:=by rw [hx.len,List.length_map]
 have ly : lenOfV vb=some ys.length:=by rw [hy.len,List.length_map]
 by_cases hlen : xs.length=ys.length
 ·have d0 : ((xs.length : Int) != (ys.length : Int))=false:=by rw [bne_eq_false_iff_eq]; omega
  simp only [aEqW,cEqW,vms,vmc,AOpd.val,Nat.reduceEqDiff,reduceCtorEq,Nat.reduceAdd,Nat.reduceBEq,lx,ly,d0]
  refine wpc_loop (fun m f h' => ∃ i,m=xs.length - i∧i≤xs.length∧h'=h∧f.at 0=va∧f.at 1=vb∧f.at 12 = .int .i64 (xs.length : Nat)∧f.at 13 = .int .i64 (i : Nat)∧∀ j,j < i→xs[j]?=ys[j]?) ?_ xs.length _ _ ⟨0,by simp,by simp,rfl,?_⟩
  ·rintro m f h' ⟨i,rfl,hi,rfl,h0,h1,h12,h13,hpre⟩
   by_cases hlt : i < xs.length
   ·have d1 : decide ((i : Int) < (xs.length : Int))=true:=by rw [decide_eq_true_eq]; omega
    obtain ⟨x,hxi⟩ : ∃ x,xs[i]?=some x:=⟨_,List.getElem?_eq_getElem hlt⟩
    obtain ⟨y,hyi⟩ : ∃ y,ys[i]?=some y:=⟨_,List.getElem?_eq_getElem (by omega)⟩
    obtain ⟨p,hp1,hp2⟩:=hx.at (i:=i) (x := .int k x) (by simp [hxi]) .i64
    obtain ⟨q,hq1,hq2⟩:=hy.at (i:=i) (x := .int k y) (by simp [hyi]) .i64
    have w1 : IntKind.i64.wrap ((i : Int) + 1)=((i + 1 : Nat) : Int):=by rw [wrap_i64 (by omega) (by omega)]; omega
    by_cases he : x=y
    ·have b1 : (x != y)=false:=by rw [bne_eq_false_iff_eq]; exact he
     simp only [cEqWl0,vms,vmc,AOpd.val,Nat.reduceEqDiff,reduceCtorEq,Nat.reduceAdd,Nat.reduceBEq,h0,h1,h12,h13,d1,hp1,hp2,hq1,hq2,b1,w1]
     refine ⟨xs.length - (i + 1),by omega,i + 1,rfl,by omega,trivial,trivial,trivial,trivial,rfl,fun j hj => ?_⟩
     by_cases hji : j=i
     ·subst hji; rw [hxi,hyi,he]
     ·exact hpre j (by omega)
    ·have b1 : (x != y)=true:=by simpa using he
     have hne : xs≠ys:=fun e => by subst e; rw [hxi] at hyi; cases hyi; exact he rfl
     simp only [cEqWl0,vms,vmc,AOpd.val,Nat.reduceEqDiff,reduceCtorEq,Nat.reduceAdd,Nat.reduceBEq,h0,h1,h12,h13,d1,hp1,hp2,hq1,hq2,b1]
     simp [hne]
   ·have d1 : decide ((i : Int) < (xs.length : Int))=false:=by rw [decide_eq_false_iff_not]; omega
    have heq : xs=ys:=by
     apply List.ext_getElem?
     intro j
     by_cases hj : j < i
     ·exact hpre j hj
     ·rw [List.getElem?_eq_none (by omega),List.getElem?_eq_none (by omega)]
    simp only [cEqWl0,vms,vmc,AOpd.val,Nat.reduceEqDiff,reduceCtorEq,Nat.reduceAdd,Nat.reduceBEq,h12,h13,d1]
    simp [heq]
  ·simp only [vms,vmc,AOpd.val,Nat.reduceEqDiff,reduceCtorEq,Nat.reduceAdd,Nat.reduceBEq]
   exact ⟨trivial,trivial,trivial,rfl,fun j hj => by omega⟩
 ·have d0 : ((xs.length : Int) != (ys.length : Int))=true:=by simp; omega
  have hne : xs≠ys:=fun e => hlen (by rw [e])
  simp only [aEqW,cEqW,vms,vmc,AOpd.val,Nat.reduceEqDiff,reduceCtorEq,Nat.reduceAdd,Nat.reduceBEq,lx,ly,d0]
  simp [hne]
end
def decK (k : IntKind) : AV→Option Int
 | .int k' n => if k'=k then some n else none
 | _ => none
theorem decK_inv {k : IntKind} {x : AV} {n : Int} (h : decK k x=some n) : x = .int k n:=by
 cases x <;> simp [decK] at h
 obtain ⟨rfl,rfl⟩:=h
 rfl
theorem mapM_decK {k : IntKind} : ∀ {l : List AV} {zs : List Int},l.mapM (decK k)=some zs→l=zs.map (.int k)
 | [],zs,h => by cases h; rfl
 | x :: l,zs,h => by
  rw [List.mapM_cons] at h
  cases hx : decK k x with
  | none => simp [hx] at h
  | some a =>
   cases hl : l.mapM (decK k) with
   | none => simp [hx,hl] at h
   | some r =>
    simp [hx,hl] at h
    subst h
    rw [decK_inv hx,mapM_decK hl]; rfl
def rowK (k : IntKind) (h : AH) : AV→Option (List Int)
 | .nilSlice => some []
 | .slice o off 1 len _ _ => match h.get o with
  | some (.cells l _) => if off + len≤l.length∧len < 1000000 then ((l.drop off).take len).mapM (decK k) else none
  | _ => none
 | _ => none
theorem rowK_inv {k : IntKind} {h : AH} {v : AV} {zs : List Int} (e : rowK k h v=some zs) : Sees h v (zs.map (.int k))∧zs.length < 1000000:=by
 unfold rowK at e
 split at e
 ·cases e; exact ⟨.inl ⟨rfl,rfl⟩,by decide⟩
 ·rename_i o off len cap ex
  split at e
  ·rename_i l b hg
   split at e
   ·rename_i hc
    have h1:=mapM_decK e
    have h2 : zs.length=len:=by
     have:=congrArg List.length h1
     simp at this; omega
    refine ⟨.inr ⟨o,off,cap,ex,l,some b,by rw [List.length_map,h2],hg,by rw [List.length_map]; omega,fun i x hx => ?_⟩,by omega⟩
    have hi : i < len:=by
     have:=(List.getElem?_eq_some_iff.1 hx).1
     rw [List.length_map] at this; omega
    rw [← h1,List.getElem?_take,if_pos hi,List.getElem?_drop] at hx
    exact hx
   ·cases e
  ·cases e
 ·cases e
def eqV (k : IntKind) : List AV→AH→Option (AV×AH)
 | [va,vb],h => match rowK k h va,rowK k h vb with
  | some xs,some ys => some (.bool (decide (xs=ys)),h)
  | _,_ => none
 | _,_ => none
theorem eqV_ok {P : Program} {T : Prog} (hT : TabOk P T) {g : Nat} (he : T.env g=none) (hf : T.func g=some aEqW) (k : IntKind) : ∀ args h r h',eqV k args h=some (r,h')→CSim P g args h r h' :=
 gives_env hT he fun args h r h' e => by
  unfold eqV at e
  split at e
  ·rename_i va vb
   split at e
   ·rename_i xs ys hx hy
    cases e
    obtain ⟨sx,lx⟩:=rowK_inv hx
    obtain ⟨sy,ly⟩:=rowK_inv hy
    exact eqG_ok he hf sx sy lx ly
   ·cases e
  ·cases e
end Go.Vm

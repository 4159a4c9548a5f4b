/- append, copy, clear. -/
import Derived.Test.YtakgcpmemalmaaaGreatDoorVmE
namespace Go.Vm
open Go.RowKit
set_option linter.unusedSimpArgs false
set_option linter.unusedVariables false
section
variable {P : Program} {o : Oper}
theorem grown_cells {π : Pin} {N : Keep π} {μ : Inj} {w : World} (hN : Fits N.keep w) {lo ln : List AV} {uo un : List Value} (h1 : VRels μ lo uo) (h2 : VRels μ ln un) (z : Array Value) (k : Nat) {size : Nat} (hs : uo.length + un.length + k * z.size=size) {e : TypeId}
  (id : Nat) (w' : World) (hid : μ id=none) (hw : w'.heap[w.heap.size]?=some (.cells (uo.toArray ++ un.toArray ++ Builtin.zeroCells z k) e (0,0))) :
  ORel (Inj.add μ id (w.heap.size,0,size)) N w' (.cells (lo ++ ln) true) w.heap.size 0 size:=by
 refine cells_new_more (us:=uo ++ un) hN (h1.append h2) ?_ ?_ ?_ ?_ id w' hid hw
 ·intro i u hu
  have hi : i < (uo ++ un).length:=by
   rcases Nat.lt_or_ge i (uo ++ un).length with h' | h'
   ·exact h'
   ·rw [List.getElem?_eq_none h'] at hu; cases hu
  have e1 : (uo.toArray ++ un.toArray ++ Builtin.zeroCells z k).toList=(uo ++ un) ++ (Builtin.zeroCells z k).toList:=by simp
  rw [← Array.getElem?_toList,e1,List.getElem?_append_left hi]
  exact hu
 ·simp [zeroCells_size]; omega
 ·simp; omega
 ·rfl
theorem appendV_sound {elem : TypeId} {inf : TypeInfo} {z : Value} {zeros : Bool} {π : Pin} {N : Keep π} {w₀ : World} {μ : Inj} {h h' : AH} {w : World} (r : R N w₀ μ h w) {s v : AV} {base : Option Addr} {sLen sCap n : Nat} {x : Value} {appended : Sem (Array Value)} {new : List AV} {us : List Value}
  (hi : P.info? elem=some inf) (hz : inf.zero=some z) (hzs : z.cells.size=inf.size) (hs : VRel μ s (.slice base sLen sCap)) (hv : appendV inf.size inf.bytes s new n h=some (v,h')) (hnew : VRels μ new us) (hlen : new.length=n * inf.size)
  (hrun : ∀ d,appended.run P { w with drawn:=d } = .ok us.toArray { w with drawn:=d }) :
  ∃ μ' w' v',Inj.Ext h.next h'.next μ μ'∧R N w₀ μ' h' w'∧VRel μ' v v'∧(appendTail elem inf.size zeros base sLen sCap n (.slice base sLen sCap) x appended).run P w = .ok v' w':=by
 have hrun0 : appended.run P w = .ok us.toArray w:=hrun w.drawn
 have hul : us.length=n * inf.size:=by rw [← hnew.1,hlen]
 have hnone : μ h.next=none:=by
  cases hm : μ h.next with
  | none => rfl
  | some y => have:=r.dom _ _ hm; omega
 have grow : ∀ {need : Nat} {old : List AV} {uo : List Value} {g : AH},need=sLen + n→¬ need≤sCap→Builtin.nextslicecap need sCap * inf.bytes≤2 ^ 48→¬ ((need : Int) > IntKind.i64.max∧(zeros=true∨inf.bytes=0)) →
   R N w₀ μ g w→g.next=h.next→VRels μ old uo→uo.length=sLen * inf.size→(∀ d,(Builtin.firstCells inf.size sLen (.slice base sLen sCap)).run P { w with drawn:=d } = .ok uo.toArray { w with drawn:=d }) →
   ∃ μ' w' v',Inj.Ext h.next (h.next + 1) μ μ'∧R N w₀ μ' (g.new (.cells (old ++ new) true)) w'∧VRel μ' (.slice h.next 0 inf.size need need false) v'∧(appendTail elem inf.size zeros base sLen sCap n (.slice base sLen sCap) x appended).run P w = .ok v' w':=by
  intro need old uo g hneed hlt h1 h2 rg hgn hold huol hfo
  subst hneed
  obtain ⟨newCap,hge,hr⟩:=appendTail_grow (P:=P) (w:=w) (x:=x) hi hz hzs hlt h1 h2 hfo hrun
  have hsize : uo.length + us.length + (newCap - (sLen + n)) * z.cells.size=newCap * inf.size:=by
   rw [huol,hul,hzs,← Nat.add_mul,← Nat.add_mul]; congr 1; omega
  obtain ⟨hle,hR⟩:=rg.alloc (x := .cells (old ++ new) true) (size:=newCap * inf.size) (fun w' hw' => grown_cells rg.fresh hold hnew z.cells (newCap - (sLen + n)) hsize g.next w' (hgn ▸ hnone) hw')
  rw [hgn] at hle hR
  refine ⟨_,_,_,.new _ hnone,hR.drawn (w.drawn + 1),.slice (Inj.add_self _ _ _) hge (by simp; exact hge) (by omega) (.inl rfl),hr⟩
 unfold appendV at hv
 split at hv
 ·have e:=hs.nilSlice_inv
  cases e
  split at hv
  ·rename_i hn0
   subst hn0
   cases hv
   have hus : us=[]:=by cases us <;> simp_all
   subst hus
   refine ⟨μ,w,.slice none 0 0,.refl (Nat.le_refl _),r,.nilSlice,?_⟩
   unfold appendTail
   simp only [Nat.add_zero,Nat.le_refl,if_true,Sem.run_bind,hrun0,Result.andThen_ok,Sem.run_pure]
  ·rename_i hn0
   split at hv
   ·rename_i hroom
    cases hv
    obtain ⟨a1,a2,a3⟩:=room_le (cap':=0) hroom (by simp) (by omega)
    have hg2 : ¬ ((n : Int) > IntKind.i64.max∧(zeros=true∨inf.bytes=0)):=by
     rw [IntKind.max_i64]; omega
    obtain ⟨μ',w',v',q1,q2,q3,q4⟩:=grow (need:=n) (old:=[]) (uo:=[]) (g:=h) (by omega) (by omega) a1 hg2 r rfl .nil (by simp) (fun d => by simp [Builtin.firstCells])
    exact ⟨μ',w',v',q1,q2,q3,q4⟩
   ·cases hv
 ·rename_i p off z' len cap ex
  split at hv
  ·rename_i hz'
   subst hz'
   rcases hs.slice_inv with ⟨b,base',size,boff,cap',hm,hb,hlc,hcc,hsz,ha⟩ | ⟨rfl,rfl,rfl,xa,hb⟩
   case inr =>
    cases hb
    split at hv
    ·rename_i hfit
     have hn0 : n=0:=by omega
     subst hn0
     rw [if_pos (by simp)] at hv
     cases hv
     have hus : us=[]:=List.eq_nil_of_length_eq_zero (by rw [hul]; simp)
     subst hus
     refine ⟨μ,w,.slice (some xa) 0 0,.refl (Nat.le_refl _),r,.empt,?_⟩
     unfold appendTail
     rw [if_pos (by omega)]
     simp only [Sem.run_bind,hrun0,Result.andThen_ok,storeCells,Sem.run_pure]
    ·rename_i hfit
     split at hv
     ·rename_i hroom
      split at hv
      ·rename_i old hload
       rw [if_pos rfl] at hv
       cases hv
       obtain ⟨lc,_,⟨hg,_⟩,hn',rfl⟩:=load_inv hload
       have hgz : 0 + n≤9223372036854775807→¬ (((0 + n : Nat) : Int) > IntKind.i64.max∧(zeros=true∨inf.bytes=0)):=by
        intro a3
        rw [IntKind.max_i64]; omega
       obtain ⟨a1,a2,a3⟩:=room_le (cap':=0) hroom (by simp) (by omega)
       exact grow (need:=0 + n) (g:=h) (uo:=[]) rfl (by omega) a1 (hgz a3) r rfl (by simp; exact .nil) (by simp) (fun d => by simp [Builtin.firstCells,loadCells,loadCellsFrom])
      ·cases hv
     ·cases hv
   cases hb
   have hcap : cap≤sCap:=by cases ex <;> simp at hcc <;> omega
   split at hv
   ·rename_i hfit
    have hin : sLen + n≤sCap:=by omega
    split at hv
    ·rename_i h0
     cases hv
     have hus : us=[]:=by cases us <;> simp_all
     subst hus
     refine ⟨μ,w,.slice (some ⟨b,boff,none⟩) (sLen + n) sCap,.refl (Nat.le_refl _),r,.slice hm hin hcc hsz ?_,?_⟩
     ·rcases ha with ha | ⟨ha1,ha2⟩
      ·exact .inl ha
      ·exact .inr ⟨by omega,ha2⟩
     ·unfold appendTail
      rw [if_pos hin]
      simp only [Sem.run_bind,hrun0,Result.andThen_ok,storeCells,Sem.run_pure]
    ·rename_i h0
     cases hst : h.store p (off + sLen * inf.size) new with
     | none => simp [hst] at hv
     | some h1 =>
      simp [hst] at hv
      obtain ⟨rfl,rfl⟩:=hv
      have hboff : boff=base' + off:=by
       rcases ha with ha | ⟨ha1,ha2⟩
       ·exact ha
       ·exfalso; apply h0; have : n=0:=by omega
        rw [this]; simp
      subst hboff
      obtain ⟨w',hsr,hR⟩:=r.store (P:=P) hst hm hnew
      refine ⟨μ,w',.slice (some ⟨b,base' + off,none⟩) (sLen + n) sCap,.refl (Nat.le_of_eq (AH.next_store hst).symm),hR,.slice hm hin hcc hsz (.inl rfl),?_⟩
      unfold appendTail
      rw [if_pos hin]
      rw [show base' + (off + sLen * inf.size)=base' + off + sLen * inf.size by omega] at hsr
      simp only [Sem.run_bind,hrun0,Result.andThen_ok,addr_add,hsr,Sem.run_pure]
   ·rename_i hfit
    split at hv
    ·rename_i hroom
     split at hv
     ·rename_i old hload
      have hel : h.elems inf.size sLen (.slice p off inf.size sLen cap ex)=some old:=by simp [AH.elems,hload]
      obtain ⟨uo,hfo,holdr,holdl⟩:=elems_run (P:=P) r hel hs
      have hfo' : ∀ d,(Builtin.firstCells inf.size sLen (.slice (some ⟨b,boff,none⟩) sLen sCap)).run P { w with drawn:=d } = .ok uo.toArray { w with drawn:=d }:=by
       intro d
       obtain ⟨uo',hfo2,holdr2,_⟩:=elems_run (P:=P) (r.drawn d) hel hs
       have : uo'=uo:=by
        rcases ha with ha | ⟨ha1,ha2⟩
        ·subst ha
         obtain ⟨lc,_,⟨hg,hx'⟩,hn',_⟩:=load_inv hload
         obtain ⟨C,el,fz,hbk,hC,hlen',_⟩:=(r.obj p b base' size _ hm hg).row hx'
         have e1:=run_loadCells_row (P:=P) (w:=w) (off:=base' + off) (n:=sLen * inf.size) hbk (by omega)
         have e2:=run_loadCells_row (P:=P) (w:={ w with drawn:=d }) (off:=base' + off) (n:=sLen * inf.size) hbk (by omega)
         simp only [Builtin.firstCells] at hfo hfo2
         rw [e1] at hfo
         rw [e2] at hfo2
         simp at hfo hfo2
         rw [← hfo,← hfo2]
        ·have e1:=holdr.1
         have e2:=holdr2.1
         rw [holdl,ha1,Nat.zero_mul] at e1 e2
         rw [List.eq_nil_of_length_eq_zero e1.symm,List.eq_nil_of_length_eq_zero e2.symm]
       rw [← this]; exact hfo2
      have huol : uo.length=sLen * inf.size:=by rw [← holdr.1,holdl]
      have hgz : sLen + n≤9223372036854775807→¬ (((sLen + n : Nat) : Int) > IntKind.i64.max∧(zeros=true∨inf.bytes=0)):=by
       intro a3
       rw [IntKind.max_i64]; omega
      split at hv
      ·rename_i hex
       cases hv
       rw [if_pos hex] at hcc
       obtain ⟨a1,a2,a3⟩:=room_le (cap':=sCap) hroom (by rw [if_pos hex]; exact hcc) (by omega)
       exact grow (need:=sLen + n) (g:=h) rfl (by omega) a1 (hgz a3) r rfl holdr huol hfo'
      ·rename_i hex
       split at hv
       ·rename_i hrw
        cases hv
        simp only [Bool.and_eq_true] at hrw
        obtain ⟨hrw,hflat⟩:=hrw
        obtain ⟨l,hg⟩:=isRw_iff.1 hrw
        by_cases hin : sLen + n≤sCap
        ·have hboff : boff=base' + off:=by
          rcases ha with ha | ⟨ha1,ha2⟩
          ·exact ha
          ·exfalso; omega
         subst hboff
         obtain ⟨C,e,fz,hbk,hC,hlen',hrel,h5⟩:=r.obj p b base' size _ hm hg
         simp at h5
         have hone : ∀ v∈us,v.oneCell'=true:=by
          intro v hmem
          obtain ⟨k,hk,rfl⟩:=List.mem_iff_getElem.1 hmem
          have hk' : k < new.length:=by have:=hnew.1; omega
          exact (hnew.2 k _ _ (List.getElem?_eq_getElem hk') (List.getElem?_eq_getElem hk)).oneCell (by rw [List.all_eq_true] at hflat; exact hflat _ (List.getElem_mem hk'))
         have hmul : (sLen + n) * inf.size≤sCap * inf.size:=Nat.mul_le_mul_right _ hin
         rw [Nat.add_mul] at hmul
         have hst:=run_storeCells_row (P:=P) b (base' + off + sLen * inf.size) e fz us 0 C w hbk (fun k h1 h2 => by have:=h5.2; omega) (by omega) hone
         simp only [Nat.add_zero] at hst
         have hold : uo=(C.toList.drop (base' + off)).take (sLen * inf.size):=by
          have e1:=run_loadCells_row (P:=P) (w:=w) (off:=base' + off) (n:=sLen * inf.size) hbk (by omega)
          simp only [Builtin.firstCells] at hfo
          rw [e1] at hfo
          simp at hfo
          exact hfo.symm
         have hCl : C.toList.length=size:=by simpa using hC
         obtain ⟨hle,hR⟩:=r.rename (boff:=base' + off) (l':=old ++ new) hm hg hbk (by omega) (C':=(C.toList.take (base' + off + sLen * inf.size) ++ us ++ C.toList.drop (base' + off + sLen * inf.size + us.length)).toArray) (by simp; omega) (by simp [hlen,holdl]; omega) (by
          intro i u v hu hv
          rw [List.getElem?_toArray] at hv
          by_cases hi : i < old.length
          ·rw [List.getElem?_append_left hi] at hu
           rw [List.append_assoc,List.getElem?_append_left (by simp; omega),List.getElem?_take,if_pos (by omega)] at hv
           refine holdr.2 i u v hu ?_
           rw [hold,List.getElem?_take,if_pos (by omega),List.getElem?_drop]
           exact hv
          ·rw [List.getElem?_append_right (by omega)] at hu
           have hi2 : i - old.length < new.length:=by
            rcases Nat.lt_or_ge (i - old.length) new.length with h' | h'
            ·exact h'
            ·rw [List.getElem?_eq_none h'] at hu; cases hu
           have hnl:=hnew.1
           rw [List.append_assoc,List.getElem?_append_right (by simp; omega),List.getElem?_append_left (by simp; omega)] at hv
           refine hnew.2 _ u v hu ?_
           rw [← hv]
           congr 1
           simp
           omega)
         refine ⟨_,_,.slice (some ⟨b,base' + off,none⟩) (sLen + n) sCap,.new _ hnone,hR,.slice (Inj.add_self _ _ _) hin (by simp; exact hin) hsz (.inl rfl),?_⟩
         unfold appendTail
         rw [if_pos hin]
         simp only [Sem.run_bind,hrun0,Result.andThen_ok,addr_add,hst,Sem.run_pure]
        ·obtain ⟨a1,a2,a3⟩:=room_le (cap':=sCap) hroom hcc (by omega)
         exact grow (need:=sLen + n) (g:=h.set p .dead) rfl hin a1 (hgz a3) (r.kill p) rfl holdr huol hfo'
       ·cases hv
     ·cases hv
    ·cases hv
  ·cases hv
 ·cases hv
def isIntD : TypeDesc→Bool
 | .int _ => true
 | _ => false
theorem append_is {t u ty e : TypeId} {inf : TypeInfo} {d : TypeDesc} {base : Option Addr} {sLen sCap n : Nat} {x : Value} {w : World} (ht : P.underlying t=some (.slice e)) (hu : P.underlying u=some d) (hd : isIntD d=false)
  (hi : P.info? e=some inf) (hx : ∀ w,(Builtin.lenOf x).run P w = .ok n w) :
  (Builtin.append_ #[t,u] ty #[.slice base sLen sCap,x]).run P w=(appendTail e inf.size false base sLen sCap n (.slice base sLen sCap) x (Builtin.firstCells inf.size n x)).run P w:=by
 have hti : ∀ w,(typeInfo e).run P w = .ok inf w:=fun w => by simp [typeInfo,hi]
 simp only [Builtin.append_,List.getElem?_toArray,List.getElem?_cons_zero,List.getElem?_cons_succ]
 simp only [Sem.run_bind,run_underlying ht,Result.andThen_ok,run_sizeOf' hi,run_underlying hu,Sem.run_pure]
 cases d <;> first | cases hd | skip
 all_goals
  simp only [Bool.false_eq_true,if_false,Sem.run_bind,hx,Result.andThen_ok,Bool.not_false,if_true,false_or,hti]
  unfold appendTail
  by_cases hle : sLen + n≤sCap
  ·rw [if_pos hle,if_pos hle]
   rfl
  ·rw [if_neg hle,if_neg hle]
   simp only [Sem.run_bind,hti,Result.andThen_ok,Bool.false_eq_true,false_or,if_false]
end
end Go.Vm
/- append,copy,clear as operations. -/
namespace Go.Vm
open Go.RowKit
set_option linter.unusedSimpArgs false
set_option linter.unusedVariables false
section
variable {P : Program} {o : Oper}
theorem elems_run_all {π : Pin} {N : Keep π} {w₀ : World} {μ : Inj} {h : AH} {w : World} (r : R N w₀ μ h w) {sz n : Nat} {v : AV} {v' : Value} {l : List AV} (he : h.elems sz n v=some l) (hv : VRel μ v v') :
  ∃ us : List Value,(∀ d,(Builtin.firstCells sz n v').run P { w with drawn:=d } = .ok us.toArray { w with drawn:=d })∧VRels μ l us∧l.length=n * sz:=by
 obtain ⟨us,hrun,hrel,hlen⟩:=elems_run (P:=P) r he hv
 refine ⟨us,fun d => ?_,hrel,hlen⟩
 unfold AH.elems at he
 split at he
 ·rename_i p off z len cap ex
  split at he
  ·rename_i hc
   obtain ⟨rfl,hn⟩:=hc
   rcases hv.slice_inv with ⟨b,base,size,boff,cap',hm,hb,hlc,hcc,hs,ha⟩ | ⟨rfl,rfl,rfl,xa,hb⟩
   case inr =>
    have hn0 : n=0:=by omega
    subst hn0
    have hus : us=[]:=List.eq_nil_of_length_eq_zero (by rw [← hrel.1,hlen]; simp)
    subst hus
    rw [hb]
    simp [Builtin.firstCells,loadCells,loadCellsFrom]
   rw [hb] at hrun ⊢
   rcases ha with ha | ⟨hl0,hc0⟩
   ·subst ha
    obtain ⟨lc,_,⟨hg,hx'⟩,hn',_⟩:=load_inv he
    obtain ⟨C,el,fz,hbk,hC,hlen',_⟩:=(r.obj p b base size _ hm hg).row hx'
    have e1:=run_loadCells_row (P:=P) (w:=w) (off:=base + off) (n:=n * z) hbk (by omega)
    have e2:=run_loadCells_row (P:=P) (w:={ w with drawn:=d }) (off:=base + off) (n:=n * z) hbk (by omega)
    simp only [Builtin.firstCells] at hrun ⊢
    rw [e1] at hrun
    rw [e2]
    simp at hrun ⊢
    exact hrun
   ·have hn0 : n=0:=by omega
    subst hn0
    have hus : us=[]:=List.eq_nil_of_length_eq_zero (by rw [← hrel.1,hlen]; simp)
    subst hus
    simp [Builtin.firstCells,loadCells,loadCellsFrom]
  ·cases he
 ·split at he
  ·rename_i hn
   cases he
   subst hn
   rw [hv.nilSlice_inv]
   have hus : us=[]:=List.eq_nil_of_length_eq_zero (by rw [← hrel.1]; rfl)
   subst hus
   simp [Builtin.firstCells]
  ·cases he
 ·cases he
theorem lenOfV_inv {μ : Inj} {v : AV} {v' : Value} {n : Nat} (h : lenOfV v=some n) (hv : VRel μ v v') : ∃ a c,v' = .slice a n c:=by
 unfold lenOfV at h
 split at h
 ·cases h
  obtain ⟨ax,cap',hb,_⟩:=hv.slice_len
  exact ⟨_,_,hb⟩
 ·cases h
  exact ⟨_,_,hv.nilSlice_inv⟩
 ·cases h
theorem appendV_inv {μ : Inj} {sz bytes n : Nat} {s v : AV} {s' : Value} {new : List AV} {h h' : AH} (he : appendV sz bytes s new n h=some (v,h')) (hs : VRel μ s s') : ∃ a l c,s' = .slice a l c:=by
 unfold appendV at he
 split at he
 ·exact ⟨_,_,_,hs.nilSlice_inv⟩
 ·obtain ⟨ax,cap',hb,_⟩:=hs.slice_len
  exact ⟨_,_,_,hb⟩
 ·cases he
theorem ok_append {t u e : TypeId} {d : TypeDesc} {inf : TypeInfo} {z : Value} {x y : Operand} {x' y' : AOpd} (ho : o.op = .call { callee := .builtin .append,args:=#[x,y],argTypes:=#[t,u] }) (hx : cOpd x=some x') (hy : cOpd y=some y')
  (ht : P.underlying t=some (.slice e)) (hu : P.underlying u=some d) (hd : isIntD d=false) (hi : P.info? e=some inf) (hz : inf.zero=some z) (hzs : z.cells.size=inf.size) : OpOk P o (.append inf.size inf.bytes x' y'):=by
 intro π N w₀ μ h w f a res r hr he
 simp only [AOp.eval,Option.bind_eq_some_iff,Option.map_eq_some_iff] at he
 obtain ⟨n,hn,new,hnew,⟨v,h'⟩,hap,rfl⟩:=he
 have hxr:=cOpd_rel hx hr
 have hyr:=cOpd_rel hy hr
 obtain ⟨base,sLen,sCap,hs⟩:=appendV_inv hap hxr
 obtain ⟨a2,c2,hyv⟩:=lenOfV_inv hn hyr
 obtain ⟨us,hall,hrel,hlen⟩:=elems_run_all (P:=P) r hnew hyr
 rw [hs] at hxr
 obtain ⟨μ',w',v',q1,q2,q3,q4⟩:=appendV_sound (P:=P) (zeros:=false) (x:=a.eval y) (appended:=Builtin.firstCells inf.size n (a.eval y)) r hi hz hzs hxr hap hrel hlen hall
 refine ⟨μ',w',v',q1,q2,q3,.inl ?_⟩
 obtain ⟨consts,hc⟩:=run_builtin (P:=P) ho a w
 rw [hc]
 have hl : ∀ w,(Builtin.lenOf (a.eval y)).run P w = .ok n w:=fun w => by rw [hyv]; rfl
 have:=append_is (ty:=o.type) (base:=base) (sLen:=sLen) (sCap:=sCap) (w:=w) ht hu hd hi hl
 simp [builtin,hs,this,q4]
theorem run_firstCells_str (size k : Nat) (s : ByteArray) (w : World) : (Builtin.firstCells size k (.string s)).run P w = .ok (((s.data.toList.take k).map fun b => Value.int .u8 b.toNat).toArray) w:=by
 have e:=data_extract s 0 k
 simp only [Builtin.firstCells,Sem.run_pure]
 congr 1
 apply Array.ext'
 simp
theorem bytesOf_rel (μ : Inj) (l : List UInt8) : VRels μ (bytesOf l) (l.map fun b => Value.int .u8 b.toNat):=by
 induction l with
 | nil => exact .nil
 | cons b l ih => exact .cons (.int _ _) ih
theorem bytesOf_length (l : List UInt8) : (bytesOf l).length=l.length:=by simp [bytesOf]
theorem ok_appendStr {t u e : TypeId} {inf : TypeInfo} {z : Value} {x y : Operand} {x' y' : AOpd} (ho : o.op = .call { callee := .builtin .append,args:=#[x,y],argTypes:=#[t,u] }) (hx : cOpd x=some x') (hy : cOpd y=some y')
  (ht : P.underlying t=some (.slice e)) (hu : P.underlying u=some .string) (hi : P.info? e=some inf) (hz : inf.zero=some z) (hzs : z.cells.size=inf.size) (h1 : inf.size=1) (h2 : inf.bytes=1) : OpOk P o (.appendStr x' y'):=by
 intro π N w₀ μ h w f a res r hr he
 simp only [AOp.eval] at he
 split at he
 ·rename_i tx hv
  simp only [Option.map_eq_some_iff] at he
  obtain ⟨⟨v,h'⟩,hap,rfl⟩:=he
  have hxr:=cOpd_rel hx hr
  have hyr:=cOpd_rel hy hr
  rw [hv] at hyr
  obtain ⟨b,hb,rfl⟩:=hyr.str_inv
  obtain ⟨base,sLen,sCap,hs⟩:=appendV_inv hap hxr
  rw [hs] at hxr
  have hsz : b.data.toList.length=b.size:=rfl
  have hall : ∀ d,(Builtin.firstCells inf.size b.size (a.eval y)).run P { w with drawn:=d } = .ok (b.data.toList.map fun b => Value.int .u8 b.toNat).toArray { w with drawn:=d }:=fun d => by
   rw [hb,run_firstCells_str,List.take_of_length_le (by omega)]
  have hap2 : appendV inf.size inf.bytes (x'.val f) (bytesOf b.data.toList) b.size h=some (v,h'):=by rw [h1,h2]; exact hap
  obtain ⟨μ',w',v',q1,q2,q3,q4⟩:=appendV_sound (P:=P) (zeros:=false) (x:=a.eval y) (appended:=Builtin.firstCells inf.size b.size (a.eval y)) r hi hz hzs hxr hap2 (bytesOf_rel μ _) (by rw [bytesOf_length,h1]; omega) hall
  refine ⟨μ',w',v',q1,q2,q3,.inl ?_⟩
  obtain ⟨consts,hc⟩:=run_builtin (P:=P) ho a w
  rw [hc]
  have hl : ∀ w,(Builtin.lenOf (a.eval y)).run P w = .ok b.size w:=fun w => by rw [hb]; rfl
  have:=append_is (ty:=o.type) (base:=base) (sLen:=sLen) (sCap:=sCap) (w:=w) ht hu rfl hi hl
  simp [builtin,hs,this,q4]
 ·cases he
theorem append_is_zeros {t u ty e : TypeId} {inf : TypeInfo} {z : Value} {k : IntKind} {base : Option Addr} {sLen sCap n : Nat} {kx : IntKind} {w : World} (ht : P.underlying t = some (.slice e)) (hu : P.underlying u = some (.int k))
    (hi : P.info? e = some inf) (hn : n ≤ 9223372036854775807) (hb : n * inf.bytes ≤ 281474976710656) :
    (Builtin.append_ #[t, u] ty #[.slice base sLen sCap, .int kx n]).run P w = (appendTail e inf.size true base sLen sCap n (.slice base sLen sCap) (.int kx n)
      (if n * inf.size = 0 then pure #[] else do pure (Builtin.zeroCells (← zeroValue e).cells n))).run P w := by
  have hti : ∀ w, (typeInfo e).run P w = .ok inf w := fun w => by simp [typeInfo, hi]
  have hw : IntKind.i64.wrap (n : Int) = n := wrap_i64 (by omega) (by omega)
  have e48 : (2 : Int) ^ 48 = 281474976710656 := by decide
  simp only [Builtin.append_, List.getElem?_toArray, List.getElem?_cons_zero, List.getElem?_cons_succ]
  simp only [Sem.run_bind, run_underlying ht, Result.andThen_ok, run_sizeOf' hi, run_underlying hu, Sem.run_pure, if_true, asInt, asIntOf, hw]
  rw [if_neg (by omega)]
  simp only [Sem.run_bind, hti, Result.andThen_ok]
  rw [if_neg (by rw [e48, ← Int.natCast_mul]; omega)]
  simp only [Sem.run_bind, Sem.run_pure, Result.andThen_ok, Int.toNat_natCast, Bool.not_true, Bool.false_eq_true, if_false]
  unfold appendTail
  by_cases hle : sLen + n ≤ sCap
  · rw [if_pos hle, if_pos hle]
    rfl
  · rw [if_neg hle, if_neg hle]
    simp only [Sem.run_bind, hti, Result.andThen_ok, Bool.false_eq_true, false_or, if_false, true_or, if_true]
theorem ok_appendZ {t u e : TypeId} {k : IntKind} {inf : TypeInfo} {z : Value} {zl : List AV} {x y : Operand} {x' y' : AOpd} (ho : o.op = .call { callee := .builtin .append, args := #[x, y], argTypes := #[t, u] }) (hx : cOpd x = some x') (hy : cOpd y = some y')
    (ht : P.underlying t = some (.slice e)) (hu : P.underlying u = some (.int k)) (hi : P.info? e = some inf) (hz : inf.zero = some z) (hzs : z.cells.size = inf.size) (hzl : cLeaves z.cells.toList = some zl) : OpOk P o (.appendZ inf.size inf.bytes zl x' y') := by
  intro π N w₀ μ h w f a res r hr he
  simp only [AOp.eval, Option.bind_eq_some_iff] at he
  obtain ⟨n, hn, he⟩ := he
  split at he
  · rename_i hc2
    obtain ⟨hn63, hb⟩ := hc2
    simp only [Option.map_eq_some_iff] at he
    obtain ⟨⟨v, h'⟩, hap, rfl⟩ := he
    have hxr := cOpd_rel hx hr
    have hyr := cOpd_rel hy hr
    obtain ⟨kx, hkx⟩ := natOf_inv hn
    rw [hkx] at hyr
    have hyv := hyr.int_inv
    obtain ⟨base, sLen, sCap, hs⟩ := appendV_inv hap hxr
    rw [hs] at hxr
    have hzr : ∀ w, (zeroValue e).run P w = .ok z w := fun w => by simp [zeroValue, typeInfo, hi, hz]
    have hzlen : zl.length = inf.size := by have := (cLeaves_rel hzl μ).1; simp at this; omega
    have hrel : VRels μ (rep zl n) (Builtin.zeroCells z.cells n).toList := rep_rel (cLeaves_rel hzl μ) n _ rfl
    have hall : ∀ d, ((if n * inf.size = 0 then pure #[] else do pure (Builtin.zeroCells (← zeroValue e).cells n)) : Sem (Array Value)).run P { w with drawn := d } = .ok (Builtin.zeroCells z.cells n).toList.toArray { w with drawn := d } := by
      intro d
      by_cases h0 : n * inf.size = 0
      · rw [if_pos h0]
        have : Builtin.zeroCells z.cells n = #[] := Array.eq_empty_of_size_eq_zero (by rw [zeroCells_size, hzs, h0])
        rw [this]; rfl
      · rw [if_neg h0]
        simp [hzr]
    obtain ⟨μ', w', v', q1, q2, q3, q4⟩ := appendV_sound (P := P) (zeros := true) (x := .int kx n) r hi hz hzs hxr hap hrel (by rw [rep_length, hzlen]) hall
    refine ⟨μ', w', v', q1, q2, q3, .inl ?_⟩
    obtain ⟨consts, hc⟩ := run_builtin (P := P) ho a w
    rw [hc]
    have := append_is_zeros (ty := o.type) (base := base) (sLen := sLen) (sCap := sCap) (kx := kx) (w := w) ht hu hi hn63 hb (z := z)
    have ea : (#[x, y] : Array Operand).map a.eval = #[.slice base sLen sCap, .int kx n] := by simp [hs, hyv]
    rw [ea]
    simp only [builtin, Sem.run_bind]
    rw [this, q4]
    rfl
  · cases he
theorem ok_copy {t u e : TypeId} {inf : TypeInfo} {x y : Operand} {x' y' : AOpd} {ts : Array TypeId} (ho : o.op = .call { callee := .builtin .copy, args := #[x, y], argTypes := ts }) (hts : ts[0]? = some t) (hx : cOpd x = some x') (hy : cOpd y = some y')
    (ht : P.underlying t = some (.slice e)) (hi : P.info? e = some inf) : OpOk P o (.copy inf.size x' y') := by
  intro π N w₀ μ h w f a res r hr he
  simp only [AOp.eval, Option.bind_eq_some_iff] at he
  obtain ⟨nd, hnd, ns, hns, l, hl, he⟩ := he
  have hxr := cOpd_rel hx hr
  have hyr := cOpd_rel hy hr
  obtain ⟨bx, cx, hxv⟩ := lenOfV_inv hnd hxr
  obtain ⟨by', cy, hyv⟩ := lenOfV_inv hns hyr
  obtain ⟨us, hfirst, hrel, hlen⟩ := elems_run (P := P) r hl hyr
  obtain ⟨consts, hc⟩ := run_builtin (P := P) ho a w
  have ea : (#[x, y] : Array Operand).map a.eval = #[a.eval x, a.eval y] := by simp
  have hrun : (Builtin.copy_ ts o.type #[a.eval x, a.eval y]).run P w = (do if let some b := bx then storeCells b us
                                                                            pure (goInt (min ns nd : Nat)) : Sem Value).run P w := by
    have hfirst' : (Builtin.firstCells inf.size (Nat.min ns nd) (.slice by' ns cy)).run P w = .ok us.toArray w := by rw [← hyv]; exact hfirst
    simp only [Builtin.copy_, List.getElem?_toArray, List.getElem?_cons_zero, List.getElem?_cons_succ, hts]
    rw [hxv, hyv]
    simp only [Sem.run_bind, run_underlying ht, Result.andThen_ok, Builtin.lenOf, Sem.run_pure, run_sizeOf' hi, hfirst']
    rfl
  split at he
  · rename_i p off z len cap ex hv
    split at he
    · rename_i hz
      subst hz
      rw [hv] at hxr
      rcases hxr.slice_inv with ⟨b, base, size, boff, cap', hm, hb, hlc, hcc, hs, ha⟩ | ⟨rfl, rfl, rfl, xa, hb⟩
      case inr =>
        rw [hxv] at hb
        cases hb
        have hl0 : l = [] := List.eq_nil_of_length_eq_zero (by rw [hlen]; simp)
        subst hl0
        rw [if_pos (by rfl)] at he
        cases he
        have hus : us = [] := List.eq_nil_of_length_eq_zero (by rw [← hrel.1]; rfl)
        subst hus
        refine ⟨μ, w, _, .refl (Nat.le_refl _), r, .int _ _, .inl ?_⟩
        rw [hc, ea]
        simp only [builtin, Sem.run_bind]
        rw [hrun]
        simp [storeCells, goInt]
      rw [hxv] at hb
      cases hb
      split at he
      · rename_i hemp
        cases he
        have hus : us = [] := by
          have : l = [] := by simpa using hemp
          subst this
          exact List.eq_nil_of_length_eq_zero (by rw [← hrel.1]; rfl)
        subst hus
        refine ⟨μ, w, _, .refl (Nat.le_refl _), r, .int _ _, .inl ?_⟩
        rw [hc, ea]
        simp only [builtin, Sem.run_bind]
        rw [hrun]
        simp [storeCells, goInt]
      · rename_i hne
        cases hst : h.store p off l with
        | none => simp [hst] at he
        | some h1 =>
          simp [hst] at he
          subst he
          have hboff : boff = base + off := by
            rcases ha with ha | ⟨ha1, ha2⟩
            · exact ha
            · exfalso
              apply hne
              have hnd0 : nd = 0 := by rw [hv] at hnd; simp [lenOfV] at hnd; omega
              have : l.length = 0 := by rw [hlen, hnd0]; simp
              rw [List.eq_nil_of_length_eq_zero this]; rfl
          subst hboff
          obtain ⟨w', hsr, hR⟩ := r.store (P := P) hst hm hrel
          refine ⟨μ, w', _, .refl (Nat.le_of_eq (AH.next_store hst).symm), hR, .int _ _, .inl ?_⟩
          rw [hc, ea]
          simp only [builtin, Sem.run_bind]
          rw [hrun]
          simp [hsr, goInt]
    · cases he
  · rename_i hns'
    cases he
    have hnil : x'.val f = .nilSlice := by
      unfold lenOfV at hnd
      split at hnd
      · rename_i h1; exact absurd h1 (hns' _ _ _ _ _ _)
      · assumption
      · cases hnd
    rw [hnil] at hxr hnd
    have := hxr.nilSlice_inv
    rw [hxv] at this
    cases this
    refine ⟨μ, w, _, .refl (Nat.le_refl _), r, .int _ _, .inl ?_⟩
    rw [hc, ea]
    simp only [builtin, Sem.run_bind]
    rw [hrun]
    simp [goInt]
theorem ok_copyStr {t e : TypeId} {inf : TypeInfo} {x y : Operand} {x' y' : AOpd} {ts : Array TypeId} (ho : o.op = .call { callee := .builtin .copy, args := #[x, y], argTypes := ts }) (hts : ts[0]? = some t) (hx : cOpd x = some x') (hy : cOpd y = some y')
    (ht : P.underlying t = some (.slice e)) (hi : P.info? e = some inf) (h1 : inf.size = 1) : OpOk P o (.copyStr x' y') := by
  intro π N w₀ μ h w f a res r hr he
  simp only [AOp.eval] at he
  have hxr := cOpd_rel hx hr
  have hyr := cOpd_rel hy hr
  obtain ⟨consts, hc⟩ := run_builtin (P := P) ho a w
  have ea : (#[x, y] : Array Operand).map a.eval = #[a.eval x, a.eval y] := by simp
  have hrun : ∀ (bx : Option Addr) (nd cx : Nat) (s : ByteArray), (Builtin.copy_ ts o.type #[.slice bx nd cx, .string s]).run P w = (do if let some b := bx then storeCells b ((s.data.toList.take (min s.size nd)).map fun b => Value.int .u8 b.toNat)
                                                                                                                                        pure (goInt (min s.size nd : Nat)) : Sem Value).run P w := by
    intro bx nd cx s
    have hf := run_firstCells_str (P := P) inf.size (Nat.min s.size nd) s w
    simp only [Builtin.copy_, List.getElem?_toArray, List.getElem?_cons_zero, List.getElem?_cons_succ, hts]
    simp only [Sem.run_bind, run_underlying ht, Result.andThen_ok, Builtin.lenOf, Sem.run_pure, run_sizeOf' hi, hf]
    rfl
  split at he
  · rename_i p off z nd cap ex tx hv hw
    split at he
    · rename_i hz
      subst hz
      rw [hv] at hxr
      rw [hw] at hyr
      rcases hxr.slice_inv with ⟨b, base, size, boff, cap', hm, hb, hlc, hcc, hs, ha⟩ | ⟨rfl, rfl, rfl, xa, hb⟩
      case inr =>
        obtain ⟨s, hsv, rfl⟩ := hyr.str_inv
        rw [if_pos (by simp)] at he
        cases he
        refine ⟨μ, w, _, .refl (Nat.le_refl _), r, .int _ _, .inl ?_⟩
        rw [hc, ea, hb, hsv]
        simp only [builtin, Sem.run_bind]
        rw [hrun]
        simp [storeCells, goInt]
      obtain ⟨s, hsv, rfl⟩ := hyr.str_inv
      have hsz : s.data.toList.length = s.size := rfl
      rw [hsz] at he
      split at he
      · rename_i h0
        cases he
        refine ⟨μ, w, _, .refl (Nat.le_refl _), r, .int _ _, .inl ?_⟩
        rw [hc, ea, hb, hsv]
        simp only [builtin, Sem.run_bind]
        rw [hrun, h0]
        simp [storeCells, goInt]
      · rename_i h0
        cases hst : h.store p off (bytesOf (s.data.toList.take (min s.size nd))) with
        | none => simp [hst] at he
        | some h2 =>
          simp [hst] at he
          subst he
          have hboff : boff = base + off := by
            rcases ha with ha | ⟨ha1, ha2⟩
            · exact ha
            · exfalso; apply h0; rw [ha1]; simp
          subst hboff
          obtain ⟨w', hsr, hR⟩ := r.store (P := P) hst hm (bytesOf_rel μ _)
          refine ⟨μ, w', _, .refl (Nat.le_of_eq (AH.next_store hst).symm), hR, .int _ _, .inl ?_⟩
          rw [hc, ea, hb, hsv]
          simp only [builtin, Sem.run_bind]
          rw [hrun]
          simp only [Sem.run_bind, hsr, Result.andThen_ok, Sem.run_pure, goInt]
    · cases he
  · rename_i tx hv hw
    cases he
    rw [hv] at hxr
    rw [hw] at hyr
    obtain ⟨s, hsv, rfl⟩ := hyr.str_inv
    refine ⟨μ, w, _, .refl (Nat.le_refl _), r, .int _ _, .inl ?_⟩
    rw [hc, ea, hxr.nilSlice_inv, hsv]
    simp only [builtin, Sem.run_bind]
    rw [hrun]
    simp [goInt]
  · cases he
theorem ok_clear {t e : TypeId} {inf : TypeInfo} {z : Value} {zl : List AV} {x : Operand} {x' : AOpd} {ts : Array TypeId} (ho : o.op = .call { callee := .builtin .clear,args:=#[x],argTypes:=ts }) (hts : ts[0]?=some t) (hx : cOpd x=some x')
  (ht : P.underlying t=some (.slice e)) (hi : P.info? e=some inf) (hz : inf.zero=some z) (hzs : z.cells.size=inf.size) (hzl : cLeaves z.cells.toList=some zl) : OpOk P o (.clear inf.size zl x'):=by
 intro π N w₀ μ h w f a res r hr he
 have hzr : ∀ w,(zeroValue e).run P w = .ok z w:=fun w => by simp [zeroValue,typeInfo,hi,hz]
 have hxr:=cOpd_rel hx hr
 obtain ⟨consts,hc⟩:=run_builtin (P:=P) ho a w
 have ea : (#[x] : Array Operand).map a.eval=#[a.eval x]:=by simp
 simp only [AOp.eval] at he
 split at he
 ·rename_i hv
  cases he
  rw [hv] at hxr
  refine ⟨μ,w,.tuple #[],.refl (Nat.le_refl _),r,.none_undef,.inl ?_⟩
  rw [hc,ea,hxr.nilSlice_inv]
  simp [builtin,Builtin.clear_,hts,run_underlying ht]
 ·rename_i p off z' len cap ex hv
  split at he
  ·rename_i hz'
   subst hz'
   rw [hv] at hxr
   rcases hxr.slice_inv with ⟨b,base,size,boff,cap',hm,hb,hlc,hcc,hs,ha⟩ | ⟨rfl,rfl,rfl,xa,hb⟩
   case inr =>
    rw [if_pos (.inl rfl)] at he
    cases he
    refine ⟨μ,w,.tuple #[],.refl (Nat.le_refl _),r,.none_undef,.inl ?_⟩
    rw [hc,ea,hb]
    simp [builtin,Builtin.clear_,hts,run_underlying ht]
   split at he
   ·rename_i h0
    cases he
    refine ⟨μ,w,.tuple #[],.refl (Nat.le_refl _),r,.none_undef,.inl ?_⟩
    rw [hc,ea,hb]
    rcases h0 with h0 | h0
    ·subst h0
     simp [builtin,Builtin.clear_,hts,run_underlying ht]
    ·subst h0
     have hz0 : z.cells.size=0:=by have:=(cLeaves_rel hzl μ).1; simp at this; simp [this]
     have he0 : ∀ n,(Builtin.zeroCells z.cells n).toList=[]:=fun n => List.eq_nil_of_length_eq_zero (by rw [Array.length_toList,zeroCells_size,hz0]; simp)
     cases len with
     | zero => simp [builtin,Builtin.clear_,hts,run_underlying ht]
     | succ n => simp [builtin,Builtin.clear_,hts,run_underlying ht,hzr,he0,storeCells]
   ·rename_i h0
    cases hst : h.store p off (rep zl len) with
    | none => simp [hst] at he
    | some h2 =>
     simp [hst] at he
     subst he
     have hlen : len≠0:=fun e => h0 (.inl e)
     have hboff : boff=base + off:=by
      rcases ha with ha | ⟨ha1,ha2⟩
      ·exact ha
      ·exact absurd ha1 hlen
     subst hboff
     have hrel : VRels μ (rep zl len) (Builtin.zeroCells z.cells len).toList:=rep_rel (cLeaves_rel hzl μ) len _ rfl
     obtain ⟨w',hsr,hR⟩:=r.store (P:=P) hst hm hrel
     refine ⟨μ,w',.tuple #[],.refl (Nat.le_of_eq (AH.next_store hst).symm),hR,.none_undef,.inl ?_⟩
     rw [hc,ea,hb]
     cases len with
     | zero => exact absurd rfl hlen
     | succ n => simp [builtin,Builtin.clear_,hts,run_underlying ht,hzr,hsr]
  ·cases he
 ·cases he
theorem ok_mark {t e : TypeId} {x : Operand} {x' : AOpd} (ho : o.op = .convert t t x) (hx : cOpd x=some x') (ht : P.underlying t=some (.slice e)) (he' : P.underlying e=some (.int .u8)) : OpOk P o (.mark x'):=by
 intro π N w₀ μ h w f a res r hr he
 simp only [AOp.eval] at he
 split at he
 ·rename_i p off z len cap ex hv
  by_cases hcap0 : cap=0
  ·rw [if_pos hcap0] at he; cases he
  rw [if_neg hcap0] at he
  split at he
  ·rename_i l hg
   cases he
   have hxr:=cOpd_rel hx hr
   rw [hv] at hxr
   have hxr':=hxr
   obtain ⟨b,base,size,boff,cap',hm,hb,hlc,hcc,hs,ha⟩:=hxr.slice_inv.resolve_right (fun hh => hcap0 hh.2.1)
   obtain ⟨C,el,fz,hbk,hC,hlen,hrel,h5⟩:=r.obj p b base size _ hm hg
   simp at h5
   have hrun : (markStringish ⟨b,boff,none⟩).run P w = .ok () (w.freeze ⟨b,C.size,none⟩ 1):=by
    simp only [markStringish,Sem.run_bind,run_shape,Result.andThen_ok,World.shape?,hbk,run_freeze]
   have hfr : (w.freeze ⟨b,C.size,none⟩ 1).heap[b]?=some (.cells C el (if fz.1 == fz.2 then (C.size,C.size + 1) else (min fz.1 C.size,max fz.2 (C.size + 1)))):=by
    unfold World.freeze
    rw [if_neg (by decide)]
    simp only [Array.getElem?_modify,if_true,hbk,Option.map_some]
   have hoth : ∀ k,k≠b→(w.freeze ⟨b,C.size,none⟩ 1).heap[k]?=w.heap[k]?:=by
    intro k hk
    unfold World.freeze
    rw [if_neg (by decide)]
    simp only [Array.getElem?_modify]
    rw [if_neg (Ne.symm hk)]
   refine ⟨μ,w.freeze ⟨b,C.size,none⟩ 1,a.eval x,.refl (Nat.le_of_eq (AH.next_set _ _ _).symm),r.mark hm hg hbk ?_ hfr hoth ?_ ?_ ?_ ?_,hxr',.inl ?_⟩
   ·subst hC
    split
    ·exact .inr (Nat.le_refl _)
    ·rename_i hne
     exact absurd (by simpa using h5.2) hne
   ·unfold World.freeze; rw [if_neg (by decide)]; simp
   ·unfold World.freeze; rw [if_neg (by decide)]
   ·unfold World.freeze; rw [if_neg (by decide)]
   ·unfold World.freeze; rw [if_neg (by decide)]
   ·refine run_value2 (s:=convert t t (a.eval x)) ?_ (by simp only [execOp,ho])
    rw [hb]
    simp only [convert,Sem.run_bind,run_underlying ht,run_underlying he',Result.andThen_ok,beq_self_eq_true,hrun,Sem.run_pure]
  ·cases he
 ·cases he
end
end Go.Vm
/- Calls as operations. -/
namespace Go.Vm
open Go.RowKit
set_option linter.unusedSimpArgs false
set_option linter.unusedVariables false
section
variable {P : Program} {o : Oper}
def CallOk (P : Program) (g : Nat) : Prop:=∃ fn,P.funcs[g]?=some fn∧(fn.name == "runtime.NumGoroutine")=false∧fn.body.isSome=true
def ResOk' {π : Pin} (P : Program) (o : Oper) (a : Act) (N : Keep π) (w₀ : World) (μ : Inj) (h : AH) (w : World) : ARes→Prop
 | .val v h' => ∃ μ' w' v',Inj.Ext h.next h'.next μ μ'∧R N w₀ μ' h' w'∧VRel μ' v v' ∧
   ((execOp a.eval o).run P w = .ok (.value v') w'∨((execOp a.eval o).run P w = .ok .skip w'∧v'=Go.undef))
 | .call g args => ∃ args',(((execOp a.eval o).run P w=(callFunc g args').run P w∧g < YB)∨∃ q l,g=YB + q∧μ q=some (l,0,0)∧(execOp a.eval o).run P w=(Instr.yield l args').run P w)∧VRels μ args args'.toList
def OpOk' (P : Program) (o : Oper) (x : AOp) : Prop :=
 ∀ ⦃π : Pin⦄ (N : Keep π) (w₀ : World) (μ : Inj) (h : AH) (w : World) (f : Fr) (a : Act) (res : ARes),R N w₀ μ h w→ORels μ f a→x.eval f h=some res→ResOk' P o a N w₀ μ h w res
theorem OpOk.ok' {x : AOp} (h : OpOk P o x) : OpOk' P o x:=by
 intro π N w₀ μ g w f a res r hr he
 have:=h N w₀ μ g w f a res r hr he
 cases res with
 | val v h' => exact this
 | call g args => exact this.elim
theorem run_callFunc {g : Nat} (hg : CallOk P g) (args : Array Value) (w : World) : (callFunc g args).run P w = .ok (.enter g args) w:=by
 obtain ⟨fn,h1,h2,h3⟩:=hg
 have h4 : fn.body.isNone=false:=by cases hb : fn.body <;> simp_all
 simp only [callFunc,Sem.run_bind,run_program,Result.andThen_ok,h1,h2,Bool.false_eq_true,if_false,h4]
 rfl
theorem ok_call {g : Nat} {args : Array Operand} {ts : Array TypeId} {xs : List AOpd} (hs : fnLow (.func g)=true) (ho : o.op = .call { callee := .value (.func g),args:=args,argTypes:=ts }) (hx : cOpds args.toList=some xs) : OpOk' P o (.call g xs):=by
 intro π N w₀ μ h w f a res r hr he
 cases he
 have hxr:=cOpds_rel hx hr
 refine ⟨args.map a.eval,.inl ⟨?_,by simpa [fnLow] using hs⟩,by simpa using hxr⟩
 simp only [execOp,ho,resolve,Act.eval,Deferred.ofValue,Sem.run_bind,Sem.run_pure,Result.andThen_ok,invoke]
 have e : (#[] ++ args.map a.eval ++ #[] : Array Value)=args.map a.eval:=by simp
 rw [e]
theorem VRel.func_inv {μ : Inj} {fn : Fn} {p c : List AV} {v : Value} (h : VRel μ (.func fn p c) v) : (fnLow fn=true∧∃ p' c',v = .func fn p' c'∧VRels μ p p'.toList∧VRels μ c c'.toList)∨∃ q l,fn = .func (YB + q)∧p=[]∧c=[]∧μ q=some (l,0,0)∧v = .func (.yield l) #[] #[]:=by
 cases h with
 | yield h => exact .inr ⟨_,_,rfl,rfl,rfl,h,rfl⟩
 | func _ hs h1 h2 h3 h4 => refine .inl ⟨hs,?_⟩; exact ⟨_,_,rfl,⟨by simpa using h1,fun i x y hx hy => h2 i x y hx (by simpa using hy)⟩,⟨by simpa using h3,fun i x y hx hy => h4 i x y hx (by simpa using hy)⟩⟩
theorem ok_callV {x : Operand} {x' : AOpd} {args : Array Operand} {ts : Array TypeId} {xs : List AOpd} (ho : o.op = .call { callee := .value x,args:=args,argTypes:=ts }) (hx' : cOpd x=some x') (hx : cOpds args.toList=some xs) : OpOk' P o (.callV x' xs):=by
 intro π N w₀ μ h w f a res r hr he
 simp only [AOp.eval] at he
 split at he
 ·rename_i g first caps hv
  cases he
  have hxr:=cOpds_rel hx hr
  have hfr:=cOpd_rel hx' hr
  rw [hv] at hfr
  rcases hfr.func_inv with ⟨hs,p',c',hval,h1,h2⟩ | ⟨q,l,hg,rfl,rfl,hq,hval⟩
  case inr =>
   cases hg
   refine ⟨args.map a.eval,.inr ⟨q,l,rfl,hq,?_⟩,by simpa using hxr⟩
   simp only [execOp,ho,resolve,hval,Deferred.ofValue,Sem.run_bind,Sem.run_pure,Result.andThen_ok,invoke]
   have e : (#[] ++ args.map a.eval : Array Value)=args.map a.eval:=by simp
   rw [e]
  refine ⟨p' ++ args.map a.eval ++ c',.inl ⟨?_,by simpa [fnLow] using hs⟩,?_⟩
  ·simp only [execOp,ho,resolve,hval,Deferred.ofValue,Sem.run_bind,Sem.run_pure,Result.andThen_ok,invoke]
  ·have e : (p' ++ args.map a.eval ++ c').toList=p'.toList ++ args.toList.map a.eval ++ c'.toList:=by simp
   rw [e]
   exact (h1.append hxr).append h2
 ·cases he
def mRow (P : Program) (name : String) (t : Nat) : Option (Nat×Recv) :=
 match P.info? t with
 | some i =>
  match i.methods.find? (·.name == name) with
  | some m =>
   match m.path.toList,m.func with
   | [],some (g,true) => match P.underlying t with
    | some (.pointer _) => some (g,.self)
    | _ => none
   | [],some (g,false) => match P.underlying t with
    | some (.pointer e) => match aggOf P e,P.info? e with
     | some b,some j => some (g,.deref b j.size)
     | _,_ => none
    | some _ => some (g,.self)
    | none => none
   | _,_ => none
  | none => none
 | none => none
def mTable (P : Program) (name : String) : List (Nat×Nat×Recv):=(List.range P.types.size).filterMap fun t => (mRow P name t).map fun r => (t,r.1,r.2)
theorem mTable_find {name : String} {t g u : Nat} {rv : Recv} (h : (mTable P name).find? (fun r => r.1 == t)=some (u,g,rv)) : u=t∧mRow P name t=some (g,rv):=by
 have h1:=List.find?_some h
 have h2:=List.mem_of_find?_eq_some h
 simp at h1
 subst h1
 refine ⟨rfl,?_⟩
 unfold mTable at h2
 rw [List.mem_filterMap] at h2
 obtain ⟨a,_,ha⟩:=h2
 cases hr : mRow P name a with
 | none => simp [hr] at ha
 | some r =>
  simp [hr] at ha
  obtain ⟨rfl,rfl,rfl⟩:=ha
  exact hr
theorem run_ssa (ts : Array TypeId) (ty : TypeId) (a : Addr) (n m : String) (w : World) : (Builtin.ssaWrapNilChk_ ts ty #[.pointer (some a),strVal n,strVal m]).run P w = .ok (.pointer (some a)) w:=rfl
theorem run_method {name : String} {t g : Nat} {rv : Recv} (hm : mRow P name t=some (g,rv)) (v : Value) (w : World) :
  (match rv with
   | .self => (method (P.types.size + Made.depth) t v name).run P w = .ok (g,v) w
   | .deref b n => ∃ e j,aggOf P e=some b∧P.info? e=some j∧j.size=n∧∀ a,v = .pointer (some a)→(method (P.types.size + Made.depth) t v name).run P w=((loadVar e a).run P w).andThen fun u w' => .ok (g,u) w'):=by
 have hfuel : P.types.size + Made.depth=(P.types.size + 99) + 1:=rfl
 unfold mRow at hm
 split at hm
 ·rename_i i hi
  split at hm
  ·rename_i m hfind
   have hti : ∀ w,(typeInfo t).run P w = .ok i w:=fun w => by simp [typeInfo,hi]
   split at hm
   ·rename_i g' hpath hfunc
    split at hm
    ·rename_i e hu
     cases hm
     simp only
     rw [hfuel]
     unfold method
     simp only [Sem.run_bind,hti,Result.andThen_ok,hfind,hpath,follow,Sem.run_pure,hfunc]
     simp only [receiverAt,Sem.run_bind,run_underlying hu,Result.andThen_ok,Place.get,Sem.run_pure]
    ·cases hm
   ·rename_i g' hpath hfunc
    split at hm
    ·rename_i e hu
     split at hm
     ·rename_i b j hag hj
      cases hm
      refine ⟨e,j,hag,hj,rfl,?_⟩
      intro a hv
      subst hv
      rw [hfuel]
      unfold method
      simp only [Sem.run_bind,hti,Result.andThen_ok,hfind,hpath,follow,Sem.run_pure,hfunc]
      have hpe : m.path.isEmpty=true:=by
       have : m.path.toList=[]:=hpath
       simpa using this
      simp only [receiverAt,Sem.run_bind,run_underlying hu,Result.andThen_ok,Place.get,Sem.run_pure,hpe,if_true,run_ssa,asAddr]
     ·cases hm
    ·rename_i d hnp hu
     cases hm
     simp only
     rw [hfuel]
     unfold method
     simp only [Sem.run_bind,hti,Result.andThen_ok,hfind,hpath,follow,Sem.run_pure,hfunc]
     simp only [receiverAt,Sem.run_bind,run_underlying hu,Result.andThen_ok]
     cases d <;> first | exact absurd rfl (hnp _) | rfl
    ·cases hm
   ·cases hm
  ·cases hm
 ·cases hm
theorem ok_callM {name : String} {x : Operand} {x' : AOpd} {args : Array Operand} {ts : Array TypeId} {xs : List AOpd} (hs : (mTable P name).all (fun r => fnLow (.func r.2.1))=true) (ho : o.op = .call { callee := .invoke x name,args:=args,argTypes:=ts }) (hx' : cOpd x=some x') (hx : cOpds args.toList=some xs) :
  OpOk' P o (.callM (mTable P name) x' xs):=by
 intro π N w₀ μ h w f a res r hr he
 simp only [AOp.eval] at he
 have hxr:=cOpds_rel hx hr
 have hfr:=cOpd_rel hx' hr
 split at he
 ·rename_i t v hv
  rw [hv] at hfr
  obtain ⟨v',hval,hvr⟩:=hfr.iface_inv
  have hrun : ∀ {g : Nat} {u : Value},(method (P.types.size + Made.depth) t v' name).run P w = .ok (g,u) w→(execOp a.eval o).run P w=(callFunc g (#[u] ++ args.map a.eval)).run P w:=by
   intro g u hm
   have e : (#[Value.iface t v'] ++ args.map a.eval : Array Value)[0]?=some (.iface t v'):=by rw [Array.getElem?_append_left (by simp)]; rfl
   have e2 : (#[Value.iface t v'] ++ args.map a.eval : Array Value).extract 1 (#[Value.iface t v'] ++ args.map a.eval : Array Value).size=args.map a.eval:=by
    apply Array.ext'
    simp [List.take_of_length_le]
   simp only [execOp,ho,resolve,hval,Sem.run_bind,Sem.run_pure,Result.andThen_ok,invoke,e,e2,callMethod,run_program,hm]
  split at he
  ·rename_i u g hfind
   cases he
   obtain ⟨_,hrow⟩:=mTable_find hfind
   have:=run_method (P:=P) hrow v' w
   exact ⟨_,.inl ⟨hrun this,by simpa [fnLow] using List.all_eq_true.1 hs _ (List.mem_of_find?_eq_some hfind)⟩,by simpa using VRels.cons hvr hxr⟩
  ·rename_i u g b n hfind
   obtain ⟨_,hrow⟩:=mTable_find hfind
   have:=run_method (P:=P) hrow v' w
   obtain ⟨e,j,hag,hj,rfl,hm⟩:=this
   split at he
   ·rename_i p off
    obtain ⟨bl,base,size,hmu,hb⟩:=hvr.ptr_inv
    have hm':=hm _ hb
    cases b
    ·simp only [Bool.false_eq_true,if_false] at he
     split at he
     ·rename_i u0 hl
      cases he
      obtain ⟨us,hload,hrel,hlen,hcell⟩:=r.load (P:=P) hl hmu
      obtain ⟨u1,rfl⟩:=one_of_length hlen
      have hc:=hcell 0 u1 rfl
      simp only [Nat.add_zero] at hc
      have hlv : (loadVar e ⟨bl,base + off,none⟩).run P w = .ok u1 w:=by simp [loadVar,run_isAgg' hag,hc]
      rw [hlv] at hm'
      exact ⟨_,.inl ⟨hrun hm',by simpa [fnLow] using List.all_eq_true.1 hs _ (List.mem_of_find?_eq_some hfind)⟩,by simpa using VRels.cons hrel.head hxr⟩
     ·cases he
    ·simp only [if_true] at he
     cases hl : h.load p off j.size with
     | none => simp [hl] at he
     | some l =>
      simp [hl] at he
      subst he
      obtain ⟨us,hload,hrel,hlen,hcell⟩:=r.load (P:=P) hl hmu
      have hlv : (loadVar e ⟨bl,base + off,none⟩).run P w = .ok (.agg us.toArray) w:=by simp [loadVar,run_isAgg' hag,run_sizeOf' hj,hload]
      rw [hlv] at hm'
      exact ⟨_,.inl ⟨hrun hm',by simpa [fnLow] using List.all_eq_true.1 hs _ (List.mem_of_find?_eq_some hfind)⟩,by simpa using VRels.cons (VRel.agg_iff.2 ⟨us.toArray,rfl,hrel⟩) hxr⟩
   ·cases he
  ·cases he
 ·cases he
end
end Go.Vm

/- Slices, new objects, loads. -/
import Derived.Test.YtakgcpmemalmaaaGreatDoorVmD
import Derived.Laws.BytesString
import Derived.Laws.Append
namespace Go.Vm
open Go.RowKit
set_option linter.unusedSimpArgs false
set_option linter.unusedVariables false
section
variable {P : Program} {o : Oper}
def PRel (μ : Inj) : Option AV→Option Value→Prop
 | none,none => True
 | some x,some y => VRel μ x y
 | _,_ => False
theorem cOpt_rel {x : Option Operand} {y : Option AOpd} (hx : cOpt x=some y) {μ : Inj} {f : Fr} {a : Act} (ho : ORels μ f a) : PRel μ (y.map (·.val f)) (x.map a.eval):=by
 unfold cOpt at hx
 split at hx
 ·cases hx; trivial
 ·rename_i x
  cases hc : cOpd x with
  | none => simp [hc] at hx
  | some c => simp [hc] at hx; subst hx; exact cOpd_rel hc ho
theorem sliceBound_run {μ : Inj} {x : AV} {v : Value} (hx : VRel μ x v) {n y y' : Nat} (hn : (natOf x).filter (·≤y)=some n) (hy : y≤y') (code : BoundsCode) (w : World) : (Instr.sliceBound v y' code).run P w = .ok n w∧n≤y:=by
 cases hk : natOf x with
 | none => simp [hk] at hn
 | some m =>
  simp [hk,Option.filter] at hn
  obtain ⟨hle,rfl⟩:=hn
  obtain ⟨k,rfl⟩:=natOf_inv hk
  rw [hx.int_inv]
  refine ⟨?_,hle⟩
  simp only [Instr.sliceBound,asIntOf,Sem.run_bind,Sem.run_pure,Result.andThen_ok,Sem.run_ite]
  rw [if_pos (by omega)]
  simp
theorem bounds_run {μ : Inj} {len cap cap' l e m : Nat} {lo hi mx : Option AV} {lo' hi' mx' : Option Value} (h : bounds len cap lo hi mx=some (l,e,m)) (hlo : PRel μ lo lo') (hhi : PRel μ hi hi') (hmx : PRel μ mx mx') (hc : cap≤cap') (b : Bool) (w : World) :
  ∃ m',(Instr.sliceBounds b len cap' lo' hi' mx').run P w = .ok (l,e,m') w∧l≤e∧(e≤m∨(e=len∧mx=none))∧m≤cap∧m≤m'∧m'≤cap'∧(mx=none→m=cap∧m'=cap')∧(mx≠none→m'=m):=by
 unfold bounds at h
 simp only [Option.bind_eq_some_iff,Option.map_eq_some_iff] at h
 obtain ⟨m0,hm,e0,he,l0,hl,hr⟩:=h
 simp only [Prod.mk.injEq] at hr
 obtain ⟨rfl,rfl,rfl⟩:=hr
 cases mx with
 | none =>
  have hmx' : mx'=none:=by cases mx' <;> simp_all [PRel]
  subst hmx'
  simp [boundM] at hm
  subst hm
  refine ⟨cap',?_⟩
  cases hi with
  | none =>
   have hhi' : hi'=none:=by cases hi' <;> simp_all [PRel]
   subst hhi'
   simp [boundH] at he
   subst he
   cases lo with
   | none =>
    have hlo' : lo'=none:=by cases lo' <;> simp_all [PRel]
    subst hlo'
    simp [boundL] at hl
    subst hl
    exact ⟨by simp [Instr.sliceBounds],Nat.zero_le _,.inr ⟨rfl,rfl⟩,Nat.le_refl _,hc,Nat.le_refl _,fun _ => ⟨rfl,rfl⟩,fun hne => absurd rfl hne⟩
   | some x =>
    cases lo' with
    | none => exact hlo.elim
    | some y =>
     simp only [boundL] at hl
     obtain ⟨h1,h2⟩:=sliceBound_run (P:=P) hlo hl (Nat.le_refl _) .sliceB w
     exact ⟨by simp [Instr.sliceBounds,h1],h2,.inr ⟨rfl,rfl⟩,Nat.le_refl _,hc,Nat.le_refl _,fun _ => ⟨rfl,rfl⟩,fun hne => absurd rfl hne⟩
  | some x =>
   cases hi' with
   | none => exact hhi.elim
   | some y =>
    simp only [boundH] at he
    obtain ⟨h1,h2⟩:=sliceBound_run (P:=P) hhi he hc (if b then .sliceAcap else .sliceAlen) w
    cases lo with
    | none =>
     have hlo' : lo'=none:=by cases lo' <;> simp_all [PRel]
     subst hlo'
     simp [boundL] at hl
     subst hl
     exact ⟨by simp [Instr.sliceBounds,h1],Nat.zero_le _,.inl h2,Nat.le_refl _,hc,Nat.le_refl _,fun _ => ⟨rfl,rfl⟩,fun hne => absurd rfl hne⟩
    | some x =>
     cases lo' with
     | none => exact hlo.elim
     | some z =>
      simp only [boundL] at hl
      obtain ⟨h3,h4⟩:=sliceBound_run (P:=P) hlo hl (Nat.le_refl _) .sliceB w
      exact ⟨by simp [Instr.sliceBounds,h1,h3],h4,.inl h2,Nat.le_refl _,hc,Nat.le_refl _,fun _ => ⟨rfl,rfl⟩,fun hne => absurd rfl hne⟩
 | some v =>
  cases mx' with
  | none => exact hmx.elim
  | some v' =>
   simp only [boundM] at hm
   obtain ⟨h1,h2⟩:=sliceBound_run (P:=P) hmx hm hc (if b then .slice3Acap else .slice3Alen) w
   refine ⟨m0,?_⟩
   cases hi with
   | none => simp [boundH] at he
   | some x =>
    cases hi' with
    | none => exact hhi.elim
    | some y =>
     simp only [boundH] at he
     obtain ⟨h3,h4⟩:=sliceBound_run (P:=P) hhi he (Nat.le_refl _) .slice3B w
     cases lo with
     | none =>
      have hlo' : lo'=none:=by cases lo' <;> simp_all [PRel]
      subst hlo'
      simp [boundL] at hl
      subst hl
      exact ⟨by simp [Instr.sliceBounds,h1,h3],Nat.zero_le _,.inl h4,h2,Nat.le_refl _,by omega,(fun hn => by cases hn),fun _ => rfl⟩
     | some x =>
      cases lo' with
      | none => exact hlo.elim
      | some z =>
       simp only [boundL] at hl
       obtain ⟨h5,h6⟩:=sliceBound_run (P:=P) hlo hl (Nat.le_refl _) .slice3C w
       exact ⟨by simp [Instr.sliceBounds,h1,h3,h5],h6,.inl h4,h2,Nat.le_refl _,by omega,(fun hn => by cases hn),fun _ => rfl⟩
theorem ok_slc {t e : TypeId} {x : Operand} {lo hi mx : Option Operand} {x' : AOpd} {lo' hi' mx' : Option AOpd} {inf : TypeInfo} (ho : o.op = .slice t x lo hi mx) (hx : cOpd x=some x') (h1 : cOpt lo=some lo') (h2 : cOpt hi=some hi') (h3 : cOpt mx=some mx')
  (ht : P.underlying t=some (.slice e)) (hinf : P.info? e=some inf) : PureOk P o (.slc inf.size x' lo' hi' mx'):=by
 intro f h res he
 simp only [AOp.eval] at he
 split at he
 ·rename_i hv
  cases hb : bounds 0 0 (lo'.map (·.val f)) (hi'.map (·.val f)) (mx'.map (·.val f)) with
  | none => simp [hb] at he
  | some r =>
   obtain ⟨l,e',m⟩:=r
   simp [hb] at he
   subst he
   refine ⟨_,rfl,fun h₂ => by simp [AOp.eval,hv,hb],fun μ a w hr => ⟨_,.nilSlice,run_value (s:=Instr.sliceAt t (a.eval x) (lo.map a.eval) (hi.map a.eval) (mx.map a.eval)) ?_ (by simp only [execOp,ho])⟩⟩
   have hxr:=cOpd_rel hx hr
   rw [hv] at hxr
   obtain ⟨m',hrun,p1,p2,p3,p4,p5,_⟩:=bounds_run (P:=P) hb (cOpt_rel h1 hr) (cOpt_rel h2 hr) (cOpt_rel h3 hr) (Nat.le_refl 0) true w
   have hl0 : l=0:=by rcases p2 with p2 | p2 <;> omega
   have he0 : e'=0:=by rcases p2 with p2 | p2 <;> omega
   have hm0 : m'=0:=by omega
   subst hl0 he0 hm0
   rw [hxr.nilSlice_inv]
   simp [Instr.sliceAt,Instr.slice,run_underlying ht,hrun,run_sizeOf' hinf]
 ·rename_i p off z len cap ex hv
  split at he
  ·rename_i hz
   subst hz
   cases hb : bounds len cap (lo'.map (·.val f)) (hi'.map (·.val f)) (mx'.map (·.val f)) with
   | none => simp [hb] at he
   | some r =>
    obtain ⟨l,e',m⟩:=r
    simp [hb] at he
    subst he
    refine ⟨_,rfl,fun h₂ => by simp [AOp.eval,hv,hb],fun μ a w hr => ?_⟩
    have hxr:=cOpd_rel hx hr
    rw [hv] at hxr
    rcases hxr.slice_inv with ⟨b,base,size,boff,cap',hm,hbv,hlc,hcc,hs,ha⟩ | ⟨rfl,rfl,rfl,xa,hbv⟩
    case inr =>
     obtain ⟨m',hrun,p1,p2,p3,p4,p5,p6,p7⟩:=bounds_run (P:=P) hb (cOpt_rel h1 hr) (cOpt_rel h2 hr) (cOpt_rel h3 hr) (Nat.le_refl 0) true w
     have hm0 : m=0:=by omega
     have he0 : e'=0:=by rcases p2 with p2 | p2 <;> omega
     have hl0 : l=0:=by omega
     have hm'0 : m'=0:=by omega
     subst hm0 he0 hl0 hm'0
     refine ⟨.slice (some xa) 0 0,.empt,run_value (s:=Instr.sliceAt t (a.eval x) (lo.map a.eval) (hi.map a.eval) (mx.map a.eval)) ?_ (by simp only [execOp,ho])⟩
     rw [hbv]
     simp [Instr.sliceAt,Instr.slice,run_underlying ht,hrun,run_sizeOf' hinf]
    have hcap : cap≤cap':=by cases ex <;> simp at hcc <;> omega
    obtain ⟨m',hrun,p1,p2,p3,p4,p5,p6,p7⟩:=bounds_run (P:=P) hb (cOpt_rel h1 hr) (cOpt_rel h2 hr) (cOpt_rel h3 hr) hcap true w
    have hem : e'≤m':=by
     rcases p2 with p2 | ⟨p2,p2'⟩
     ·omega
     ·have:=(p6 p2').2; omega
    have hexact : (ex || mx'.isSome)=true→m'=m:=by
     intro hex
     cases hmx : mx' with
     | none =>
      simp [hmx] at hex
      subst hex
      simp at hcc
      have:=p6 (by simp [hmx])
      omega
     | some v => exact p7 (by simp [hmx])
    refine ⟨.slice (if m'=l then some ⟨b,boff,none⟩ else some ⟨b,boff + l * inf.size,none⟩) (e' - l) (m' - l),?_,run_value (s:=Instr.sliceAt t (a.eval x) (lo.map a.eval) (hi.map a.eval) (mx.map a.eval)) ?_ (by simp only [execOp,ho])⟩
    ·have hsize : boff + l * inf.size + (m' - l) * inf.size≤size:=by
      have e1 : l * inf.size + (m' - l) * inf.size=m' * inf.size:=by rw [← Nat.add_mul]; congr 1; omega
      have e2 : m' * inf.size≤cap' * inf.size:=Nat.mul_le_mul_right _ p5
      omega
     have hc2 : if (ex || mx'.isSome)=true then m' - l=m - l else m - l≤m' - l:=by
      split
      ·rename_i hex; rw [hexact hex]
      ·omega
     by_cases hml : m'=l
     ·rw [if_pos hml]
      exact .slice hm (by omega) hc2 (by rw [hml]; simp; rw [hml] at hsize; simp at hsize; omega) (.inr ⟨by omega,by omega⟩)
     ·rw [if_neg hml]
      have hboff : boff=base + off:=by rcases ha with ha | ha <;> omega
      refine .slice hm (by omega) hc2 hsize (.inl ?_)
      rw [if_neg (by
       intro hcond
       have hcond2 : (ex || mx'.isSome)=true∧m=l:=by simpa using hcond
       have:=hexact hcond2.1
       omega)]
      omega
    ·rw [hbv]
     simp only [Instr.sliceAt,Instr.slice,Sem.run_bind,run_underlying ht,Result.andThen_ok,hrun,run_sizeOf' hinf,Sem.run_pure]
     by_cases hml : m'=l
     ·simp [hml]
     ·simp [hml,addr_add]
  ·cases he
 ·cases he
theorem data_extract (s : ByteArray) (l e : Nat) : (s.extract l e).data.toList=(s.data.toList.drop l).take (e - l):=by
 simp [ByteArray.data_extract,List.extract_eq_take_drop]
theorem ok_slcStr {t : TypeId} {x : Operand} {lo hi : Option Operand} {x' : AOpd} {lo' hi' : Option AOpd} (ho : o.op = .slice t x lo hi none) (hx : cOpd x=some x') (h1 : cOpt lo=some lo') (h2 : cOpt hi=some hi')
  (ht : P.underlying t=some .string) : PureOk P o (.slcStr x' lo' hi'):=by
 intro f h res he
 simp only [AOp.eval] at he
 split at he
 ·rename_i s hv
  cases hb : bounds s.length s.length (lo'.map (·.val f)) (hi'.map (·.val f)) none with
  | none => simp [hb] at he
  | some r =>
   obtain ⟨l,e',m⟩:=r
   simp [hb] at he
   subst he
   refine ⟨_,rfl,fun h₂ => by simp [AOp.eval,hv,hb],fun μ a w hr => ?_⟩
   have hxr:=cOpd_rel hx hr
   rw [hv] at hxr
   obtain ⟨bs,hbs,rfl⟩:=hxr.str_inv
   obtain ⟨m',hrun,p1,p2,p3,p4,p5,_⟩:=bounds_run (P:=P) hb (cOpt_rel h1 hr) (cOpt_rel h2 hr) (mx':=none) trivial (Nat.le_refl _) false w
   refine ⟨.string (bs.extract l e'),?_,run_value (s:=Instr.sliceAt t (a.eval x) (lo.map a.eval) (hi.map a.eval) none) ?_ (by simp only [execOp,ho,Option.map_none])⟩
   ·rw [← data_extract]; exact .str _
   ·have hsz : bs.data.toList.length=bs.size:=rfl
    rw [hsz] at hrun
    rw [hbs]
    simp [Instr.sliceAt,Instr.slice,run_underlying ht,hrun]
 ·cases he
theorem ok_slcArr {t e : TypeId} {n : Nat} {x : Operand} {lo hi mx : Option Operand} {x' : AOpd} {lo' hi' mx' : Option AOpd} {inf : TypeInfo} (ho : o.op = .slice t x lo hi mx) (hx : cOpd x=some x') (h1 : cOpt lo=some lo') (h2 : cOpt hi=some hi') (h3 : cOpt mx=some mx')
  (ht : P.underlying t=some (.array n e)) (hinf : P.info? e=some inf) : LookOk P o (.slcArr n inf.size x' lo' hi' mx'):=by
 intro f h res he
 simp only [AOp.eval] at he
 split at he
 ·rename_i p off hv
  split at he
  ·rename_i hload
   cases hb : bounds n n (lo'.map (·.val f)) (hi'.map (·.val f)) (mx'.map (·.val f)) with
   | none => simp [hb] at he
   | some r =>
    obtain ⟨l,e',m⟩:=r
    simp [hb] at he
    subst he
    refine ⟨_,rfl,fun N w₀ μ a w r hr => ?_⟩
    have hxr:=cOpd_rel hx hr
    rw [hv] at hxr
    obtain ⟨b,base,size,hm,hbv⟩:=hxr.ptr_inv
    obtain ⟨vs,hvs⟩:=Option.isSome_iff_exists.1 hload
    obtain ⟨lc,_,⟨hg,hx'⟩,hn,_⟩:=load_inv hvs
    obtain ⟨C,el,fz,hbk,hC,hlen,_⟩:=(r.obj p b base size _ hm hg).row hx'
    obtain ⟨m',hrun,p1,p2,p3,p4,p5,p6,p7⟩:=bounds_run (P:=P) hb (cOpt_rel h1 hr) (cOpt_rel h2 hr) (cOpt_rel h3 hr) (Nat.le_refl n) false w
    have hmm : m'=m:=by
     cases hmx : mx' with
     | none => have:=p6 (by simp [hmx]); omega
     | some v => exact p7 (by simp [hmx])
    subst hmm
    have hem : e'≤m':=by
     rcases p2 with p2 | ⟨p2,p2'⟩
     ·omega
     ·have:=(p6 p2').2; omega
    refine ⟨.slice (some (if m'=l then ⟨b,base + off,none⟩ else ⟨b,base + off + l * inf.size,none⟩)) (e' - l) (m' - l),?_,run_value (s:=Instr.sliceAt t (a.eval x) (lo.map a.eval) (hi.map a.eval) (mx.map a.eval)) ?_ (by simp only [execOp,ho])⟩
    ·have hsize : base + off + l * inf.size + (m' - l) * inf.size≤size:=by
      have e1 : l * inf.size + (m' - l) * inf.size=m' * inf.size:=by rw [← Nat.add_mul]; congr 1; omega
      have e2 : m' * inf.size≤n * inf.size:=Nat.mul_le_mul_right _ p5
      omega
     by_cases hml : m'=l
     ·rw [if_pos hml,if_pos hml]
      exact .slice hm (by omega) (by simp) (by rw [hml]; simp; rw [hml] at hsize; simp at hsize; omega) (.inl rfl)
     ·rw [if_neg hml,if_neg hml]
      exact .slice hm (by omega) (by simp) hsize (.inl (by omega))
    ·rw [hbv]
     simp only [Instr.sliceAt,Sem.run_bind,run_underlying ht,Result.andThen_ok,hrun,run_sizeOf' hinf,Sem.run_pure,Instr.sureAddr]
     by_cases hml : m'=l
     ·simp [hml]
     ·simp [hml,addr_add]
  ·cases he
 ·cases he
theorem foldSet_rel {μ : Inj} (off : Nat) : ∀ (us : List Value) (vs : List AV) (k : Nat) (l : List AV) (C : Array Value),VRels μ vs us→VRels μ l C.toList →
  VRels μ (setMany l (off + k) vs) ((us.zipIdx k).foldl (fun cs (p : Value×Nat) => cs.setIfInBounds (off + p.2) p.1) C).toList
 | [],vs,k,l,C,hv,hl => by
  have : vs=[]:=by have:=hv.1; cases vs <;> simp_all
  subst this
  exact hl
 | u :: us,vs,k,l,C,hv,hl => by
  cases vs with
  | nil => have:=hv.1; simp at this
  | cons v vs =>
   simp only [setMany,List.zipIdx_cons,List.foldl_cons]
   have:=foldSet_rel off us vs (k + 1) (l.set (off + k) v) (C.setIfInBounds (off + k) u) hv.tail (by rw [Array.toList_setIfInBounds]; exact hl.set _ hv.head)
   exact this
theorem isDef_ne {v : AV} (h : v.isDef=true) : v ≠ .undef:=by intro e; subst e; cases h
theorem fill_rel {μ : Inj} {place : Nat→Option (Nat×Nat)} : ∀ (ps : List (Nat×Nat×AV)) (qs : List (Nat×Value)) (l : List AV) (C : Array Value) (r : List AV),ps.length=qs.length →
  (∀ (i : Nat) (p : Nat×Nat×AV) (q : Nat×Value),ps[i]?=some p→qs[i]?=some q→place q.1=some (p.1,p.2.1)∧VRel μ p.2.2 q.2)→VRels μ l C.toList→fillV l ps=some r →
  ∃ C',Instr.fill place C qs=some C'∧VRels μ r C'.toList
 | [],qs,l,C,r,hlen,hps,hl,hf => by
  have : qs=[]:=by cases qs <;> simp_all
  subst this
  simp only [fillV,Option.some.injEq] at hf
  subst hf
  exact ⟨C,rfl,hl⟩
 | (off,n,v) :: ps,qs,l,C,r,hlen,hps,hl,hf => by
  cases qs with
  | nil => simp at hlen
  | cons q qs =>
   obtain ⟨i,u⟩:=q
   obtain ⟨hp,hvr⟩:=hps 0 _ _ rfl rfl
   simp only at hp hvr
   simp only [fillV] at hf
   split at hf
   ·rename_i hc
    obtain ⟨hd,hn,hle⟩:=hc
    have hcells:=hvr.cells (isDef_ne hd)
    have hul : u.cells.size=n:=by have:=hcells.1; simp at this; omega
    have hCl : C.size=l.length:=by have:=hl.1; simp at this; omega
    simp only [Instr.fill,hp]
    rw [if_neg (by simp; omega)]
    have hrel:=foldSet_rel (μ:=μ) off u.cells.toList v.cells 0 l C hcells hl
    have e : (u.cells.zipIdx.foldl (fun cs (p : Value×Nat) => cs.setIfInBounds (off + p.2) p.1) C)=((u.cells.toList.zipIdx 0).foldl (fun cs (p : Value×Nat) => cs.setIfInBounds (off + p.2) p.1) C):=by
     rw [← Array.foldl_toList,Array.toList_zipIdx]
    simp only [Nat.add_zero] at hrel
    rw [← e] at hrel
    exact fill_rel ps qs _ _ r (by simpa using hlen) (fun j p q hp hq => hps (j + 1) p q hp hq) hrel hf
   ·cases hf
end
end Go.Vm
/- New objects,loads and stores,maps. -/
namespace Go.Vm
open Go.RowKit
set_option linter.unusedSimpArgs false
set_option linter.unusedVariables false
section
variable {P : Program} {o : Oper}
theorem cells_new {π : Pin} {N : Keep π} {μ : Inj} {w : World} (hN : Fits N.keep w) {l : List AV} {C : Array Value} (hr : VRels μ l C.toList) {size : Nat} (hs : C.size=size) {e : TypeId} {fz : Nat×Nat} (hfz : fz.1=fz.2)
  (id : Nat) (w' : World) (hid : μ id=none) (hw : w'.heap[w.heap.size]?=some (.cells C e fz)) : ORel (Inj.add μ id (w.heap.size,0,size)) N w' (.cells l true) w.heap.size 0 size:=by
 have hl : l.length=size:=by have:=hr.1; simp at this; omega
 refine ⟨C,e,fz,hw,hs,by omega,fun i u v hu hv => ?_,by rw [if_pos rfl]; exact ⟨hN.new,hfz⟩⟩
 rw [Nat.zero_add] at hv
 exact (hr.2 i u v hu (by simpa using hv)).mono (Inj.le_add _ hid)
theorem cells_new_more {π : Pin} {N : Keep π} {μ : Inj} {w : World} (hN : Fits N.keep w) {l : List AV} {C : Array Value} {us : List Value} (hr : VRels μ l us) (hC : ∀ (i : Nat) (u : Value),us[i]?=some u→C[i]?=some u) {size : Nat} (hs : C.size=size) (hlen : us.length≤size)
  {e : TypeId} {fz : Nat×Nat} (hfz : fz.1=fz.2)
  (id : Nat) (w' : World) (hid : μ id=none) (hw : w'.heap[w.heap.size]?=some (.cells C e fz)) : ORel (Inj.add μ id (w.heap.size,0,size)) N w' (.cells l true) w.heap.size 0 size:=by
 have hl:=hr.1
 refine ⟨C,e,fz,hw,hs,by omega,fun i u v hu hv => ?_,by rw [if_pos rfl]; exact ⟨hN.new,hfz⟩⟩
 rw [Nat.zero_add] at hv
 obtain ⟨y,hy,hyr⟩:=hr.get hu
 rw [hC i y hy] at hv
 cases hv
 exact hyr.mono (Inj.le_add _ hid)
theorem marked_new_more {π : Pin} {N : Keep π} {μ : Inj} {w : World} (hN : Fits N.keep w) {l : List AV} {C : Array Value} {us : List Value} (hr : VRels μ l us) (hC : ∀ (i : Nat) (u : Value),us[i]?=some u→C[i]?=some u) {size : Nat} (hs : C.size=size) (hlen : us.length≤size)
  {e : TypeId} {fz : Nat×Nat} (hfz : fz.1=fz.2∨size≤fz.1)
  (id : Nat) (w' : World) (hid : μ id=none) (hw : w'.heap[w.heap.size]?=some (.cells C e fz)) : ORel (Inj.add μ id (w.heap.size,0,size)) N w' (.marked l) w.heap.size 0 size:=by
 have hl:=hr.1
 refine ⟨C,e,fz,hw,hs,by omega,fun i u v hu hv => ?_,⟨hN.new,hfz⟩⟩
 rw [Nat.zero_add] at hv
 obtain ⟨y,hy,hyr⟩:=hr.get hu
 rw [hC i y hy] at hv
 cases hv
 exact hyr.mono (Inj.le_add _ hid)
theorem ok_new {e : TypeId} {inf : TypeInfo} {z : Value} {l : List AV} (ho : o.op = .alloc e) (hi : P.info? e=some inf) (hz : inf.zero=some z) (hl : cLeaves z.cells.toList=some l) : MakeOk P o (.new l):=by
 intro f h res he
 cases he
 refine ⟨fun id => .ptr id 0,.cells l true,rfl,fun _ => rfl,fun _ => rfl,fun N μ a w hN hr => ⟨.cells z.cells e (0,0),z.cells.size,w.drawn,.pointer (some ⟨w.heap.size,0,none⟩),?_,fun id hid => ?_,?_⟩⟩
 ·simp [execOp,ho,Instr.alloc,zeroValue,typeInfo,hi,hz,newVar,newRow]
 ·exact .ptr (off:=0) (Inj.add_self _ _ _)
 ·exact cells_new hN (cLeaves_rel hl μ) rfl rfl
theorem ok_box {e : TypeId} {x : Operand} {x' : AOpd} (ho : o.op = .box e x) (hx : cOpd x=some x') : MakeOk P o (.box x'):=by
 intro f h res he
 simp only [AOp.eval] at he
 split at he
 ·rename_i hd
  cases he
  refine ⟨fun id => .ptr id 0,.cells (x'.val f).cells true,rfl,fun _ => rfl,fun h₂ => by simp [AOp.eval,hd],fun N μ a w hN hr => ⟨.cells (a.eval x).cells e (0,0),(a.eval x).cells.size,w.drawn,.pointer (some ⟨w.heap.size,0,none⟩),?_,fun id hid => ?_,?_⟩⟩
  ·simp [execOp,ho,Instr.box,newVar,newRow]
  ·exact .ptr (off:=0) (Inj.add_self _ _ _)
  ·exact cells_new hN ((cOpd_rel hx hr).cells (isDef_ne hd)) rfl rfl
 ·cases he
def cParts (place : Nat→Option (Nat×Nat)) : List (Nat×Operand)→Option (List (Nat×Nat×AOpd))
 | [] => some []
 | (i,x) :: r => match place i,cOpd x,cParts place r with
  | some (off,n),some y,some l => some ((off,n,y) :: l)
  | _,_,_ => none
theorem cParts_rel {place : Nat→Option (Nat×Nat)} : ∀ {ps : List (Nat×Operand)} {qs : List (Nat×Nat×AOpd)},cParts place ps=some qs→∀ {μ : Inj} {f : Fr} {a : Act},ORels μ f a →
  (qs.map fun p => (p.1,p.2.1,p.2.2.val f)).length=(ps.map fun p => (p.1,a.eval p.2)).length ∧
  ∀ (i : Nat) (p : Nat×Nat×AV) (q : Nat×Value),(qs.map fun p => (p.1,p.2.1,p.2.2.val f))[i]?=some p→(ps.map fun p => (p.1,a.eval p.2))[i]?=some q→place q.1=some (p.1,p.2.1)∧VRel μ p.2.2 q.2
 | [],qs,hq,μ,f,a,hr => by cases hq; exact ⟨rfl,by simp⟩
 | (i,x) :: r,qs,hq,μ,f,a,hr => by
  simp only [cParts] at hq
  split at hq
  ·rename_i off n y l hp hx hl
   cases hq
   obtain ⟨h1,h2⟩:=cParts_rel hl hr
   refine ⟨by simpa using h1,fun j p q hp' hq' => ?_⟩
   cases j with
   | zero => simp at hp' hq'; subst hp' hq'; exact ⟨hp,cOpd_rel hx hr⟩
   | succ j => simp at hp' hq'; exact h2 j p q (by simpa using hp') (by simpa using hq')
  ·cases hq
def structPlaces (P : Program) (fs : Array Field) : Option (List (Nat×Nat)):=fs.toList.mapM fun f => (P.info? f.type).map fun i => (f.offset,i.size)
theorem ok_build {t : TypeId} {parts : Array (Nat×Operand)} {qs : List (Nat×Nat×AOpd)} {inf : TypeInfo} {z : Value} {l : List AV} {place : Nat→Option (Nat×Nat)} (ho : o.op = .build t parts)
  (hi : P.info? t=some inf) (hz : inf.zero=some z) (hl : cLeaves z.cells.toList=some l) (hp : cParts place parts.toList=some qs)
  (hpl : (∃ fs places,P.underlying t=some (.struct fs)∧structPlaces P fs=some places∧place=fun i => places[i]?)∨(∃ n e ie,P.underlying t=some (.array n e)∧P.info? e=some ie∧place=fun i => some (i * ie.size,ie.size))) :
  PureOk P o (.build l qs):=by
 intro f h res he
 simp only [AOp.eval] at he
 cases hf : fillV l (qs.map fun p => (p.1,p.2.1,p.2.2.val f)) with
 | none => simp [hf] at he
 | some r =>
  simp [hf] at he
  subst he
  refine ⟨_,rfl,fun h₂ => by simp [AOp.eval,hf],fun μ a w hr => ?_⟩
  obtain ⟨h1,h2⟩:=cParts_rel hp hr
  obtain ⟨C',hC,hrel⟩:=fill_rel _ _ _ _ _ h1 h2 (cLeaves_rel hl μ) hf
  refine ⟨.agg C',VRel.agg_iff.2 ⟨_,rfl,hrel⟩,run_value (s:=Instr.build t (parts.map fun (i,x) => (i,a.eval x))) ?_ (by simp only [execOp,ho])⟩
  refine run_build w t _ _ ?_
  have e : (parts.map fun (i,x) => (i,a.eval x)).toList=parts.toList.map fun p => (p.1,a.eval p.2):=by simp
  rw [e]
  unfold Program.built
  rcases hpl with ⟨fs,places,hu,hpp,rfl⟩ | ⟨n,e',ie,hu,hie,rfl⟩
  ·unfold structPlaces at hpp
   simp only [hi,hu,hz,hpp]
   simpa using hC
  ·simp only [hi,hu,hz,hie]
   exact hC
theorem ok_buildSlice {t e : TypeId} {len : Nat} {parts : Array (Nat×Operand)} {qs : List (Nat×Nat×AOpd)} {inf : TypeInfo} {zc : Array Value} {l : List AV} (ho : o.op = .buildSlice t len parts)
  (ht : P.underlying t=some (.slice e)) (hi : P.info? e=some inf) (hz : len * inf.size=0∧zc=#[]∨len * inf.size≠0∧inf.zero.map Value.cells=some zc) (hle : len * inf.size≤2 ^ 24)
  (hl : cLeaves ((Array.range (len * inf.size)).map (zc[· % zc.size]!)).toList=some l) (hp : cParts (fun i => some (i * inf.size,inf.size)) parts.toList=some qs) :
  MakeOk P o (.buildSlice inf.size len l qs):=by
 intro f h res he
 simp only [AOp.eval] at he
 cases hf : fillV l (qs.map fun p => (p.1,p.2.1,p.2.2.val f)) with
 | none => simp [hf] at he
 | some r =>
  simp [hf] at he
  subst he
  refine ⟨fun id => .slice id 0 inf.size len len true,.cells r true,rfl,fun _ => rfl,fun h₂ => by simp [AOp.eval,hf],fun N μ a w hN hr => ?_⟩
  obtain ⟨h1,h2⟩:=cParts_rel hp hr
  obtain ⟨C',hC,hrel⟩:=fill_rel (place:=fun i => some (i * inf.size,inf.size)) _ _ _ _ _ h1 h2 (cLeaves_rel hl μ) hf
  have hlenr : ∀ (ps : List (Nat×Nat×AV)) (l r : List AV),fillV l ps=some r→r.length=l.length:=by
   intro ps
   induction ps with
   | nil => intro l r hf; simp only [fillV,Option.some.injEq] at hf; subst hf; rfl
   | cons p ps ih =>
    intro l r hf
    obtain ⟨off,n,v⟩:=p
    simp only [fillV] at hf
    split at hf
    ·rename_i hc
     have:=ih _ _ hf
     have hset : ∀ (vs l : List AV) (i : Nat),(setMany l i vs).length=l.length:=by
      intro vs
      induction vs with
      | nil => intro l i; rfl
      | cons v vs ih2 => intro l i; simp only [setMany]; rw [ih2]; simp
     rw [this,hset]
    ·cases hf
  have hCs : C'.size=len * inf.size:=by
   have e1:=hrel.1
   have e2:=hlenr _ _ _ hf
   have e3:=(cLeaves_rel hl (fun _ => none)).1
   simp at e1 e3
   omega
  refine ⟨.cells C' e (0,0),C'.size,w.drawn,.slice (some ⟨w.heap.size,0,none⟩) len len,?_,fun id hid => ?_,?_⟩
  ·refine run_value2 (s:=Instr.buildSlice t len (parts.map fun (i,x) => (i,a.eval x))) ?_ (by simp only [execOp,ho])
   have e1 : (parts.map fun (i,x) => (i,a.eval x)).toList=parts.toList.map fun p => (p.1,a.eval p.2):=by simp
   unfold Instr.buildSlice
   rcases hz with ⟨h0,rfl⟩ | ⟨h0,hzz⟩
   ·simp only [Sem.run_bind,run_underlying ht,Result.andThen_ok,run_sizeOf' hi,Sem.run_ite,if_neg (show ¬ len * inf.size > 2 ^ 24 by omega),if_pos h0,Sem.run_pure,e1,hC,newRow,run_newObj]
   ·cases hzv : inf.zero with
    | none => simp [hzv] at hzz
    | some z =>
     simp [hzv] at hzz
     subst hzz
     have hzr : ∀ w,(zeroValue e).run P w = .ok z w:=fun w => by simp [zeroValue,typeInfo,hi,hzv]
     simp only [Sem.run_bind,run_underlying ht,Result.andThen_ok,run_sizeOf' hi,Sem.run_ite,if_neg (show ¬ len * inf.size > 2 ^ 24 by omega),if_neg h0,Sem.run_pure,hzr,e1,hC,newRow,run_newObj]
  ·exact .slice (Inj.add_self _ _ _) (Nat.le_refl _) (by simp) (by rw [hCs]; omega) (.inl rfl)
  ·exact cells_new hN hrel rfl rfl
end
end Go.Vm
/- More new objects,loads and stores,maps. -/
namespace Go.Vm
open Go.RowKit
set_option linter.unusedSimpArgs false
set_option linter.unusedVariables false
section
variable {P : Program} {o : Oper}
theorem rep_length (z : List AV) : ∀ n,(rep z n).length=n * z.length
 | 0 => by simp [rep]
 | n + 1 => by simp [rep,rep_length z n,Nat.add_mul]; omega
theorem rep_get (z : List AV) : ∀ (n i : Nat),i < n * z.length→(rep z n)[i]?=z[i % z.length]?
 | 0,i,h => by simp at h
 | n + 1,i,h => by
  rw [Nat.add_mul] at h
  simp only [rep]
  by_cases hi : i < z.length
  ·rw [List.getElem?_append_left hi,Nat.mod_eq_of_lt hi]
  ·rw [List.getElem?_append_right (by omega),rep_get z n _ (by omega),Nat.mod_eq_sub_mod (by omega : i ≥ z.length)]
theorem rep_rel {μ : Inj} {z : List AV} {zc : Array Value} (hz : VRels μ z zc.toList) (n m : Nat) (hm : m=n * zc.size) : VRels μ (rep z n) ((Array.range m).map (zc[· % zc.size]!)).toList:=by
 have hl : z.length=zc.size:=by simpa using hz.1
 refine ⟨by simp [rep_length,hl,hm],fun i x y hx hy => ?_⟩
 have hi : i < n * z.length:=by
  rcases Nat.lt_or_ge i (n * z.length) with h | h
  ·exact h
  ·rw [List.getElem?_eq_none (by rw [rep_length]; exact h)] at hx; cases hx
 rw [rep_get z n i hi] at hx
 simp only [Array.toList_map,List.getElem?_map,Array.toList_range] at hy
 rw [List.getElem?_range (by rw [hm,← hl]; exact hi)] at hy
 simp only [Option.map_some,Option.some.injEq] at hy
 have hpos : 0 < zc.size:=by
  rcases Nat.eq_zero_or_pos zc.size with h0 | h0
  ·rw [hl,h0] at hi; simp at hi
  ·exact h0
 have hlt : i % zc.size < zc.size:=Nat.mod_lt _ hpos
 rw [getElem!_pos zc _ hlt] at hy
 subst hy
 exact hz.2 _ _ _ hx (by rw [hl]; simp [hlt])
theorem ok_mkSlice {t e : TypeId} {x y : Operand} {x' y' : AOpd} {inf : TypeInfo} {z : Value} {l : List AV} (ho : o.op = .makeSlice t x y) (hx : cOpd x=some x') (hy : cOpd y=some y') (ht : P.underlying t=some (.slice e))
  (hi : P.info? e=some inf) (hz : inf.zero=some z) (hzs : z.cells.size=inf.size) (hl : cLeaves z.cells.toList=some l) : MakeOk P o (.mkSlice inf.size inf.bytes l x' y'):=by
 intro f h res he
 simp only [AOp.eval] at he
 split at he
 ·rename_i n c hn hc
  split at he
  ·rename_i hcond
   obtain ⟨hnc,hc63,hbytes⟩:=hcond
   cases he
   refine ⟨fun id => .slice id 0 inf.size n c true,.cells (rep l c) true,rfl,fun _ => rfl,fun h₂ => by simp only [AOp.eval,hn,hc]; rw [if_pos ⟨hnc,hc63,hbytes⟩],fun N μ a w hN hr => ?_⟩
   have hxr:=cOpd_rel hx hr
   have hyr:=cOpd_rel hy hr
   obtain ⟨k1,hk1⟩:=natOf_inv hn
   obtain ⟨k2,hk2⟩:=natOf_inv hc
   rw [hk1] at hxr
   rw [hk2] at hyr
   have hrel:=rep_rel (cLeaves_rel hl μ) c (c * inf.size) (by rw [hzs])
   refine ⟨.cells ((Array.range (c * inf.size)).map (z.cells[· % z.cells.size]!)) e (0,0),c * inf.size,w.drawn,.slice (some ⟨w.heap.size,0,none⟩) n c,?_,fun id hid => ?_,?_⟩
   ·refine run_value2 (s:=Instr.makeSlice t (a.eval x) (a.eval y)) ?_ (by simp only [execOp,ho])
    rw [hxr.int_inv,hyr.int_inv]
    have hwn : IntKind.i64.wrap (n : Int)=n:=wrap_i64 (by omega) (by omega)
    have hwc : IntKind.i64.wrap (c : Int)=c:=wrap_i64 (by omega) (by omega)
    have hzr : ∀ w,(zeroValue e).run P w = .ok z w:=fun w => by simp [zeroValue,typeInfo,hi,hz]
    have hti : ∀ w,(typeInfo e).run P w = .ok inf w:=fun w => by simp [typeInfo,hi]
    have hb2 : ¬ ((inf.bytes : Int) * (c : Int) > 2 ^ 48):=by
     have e48 : (2 : Int) ^ 48=281474976710656:=by decide
     rw [← Int.natCast_mul,e48]
     omega
    have hcond : ¬ ((decide ((c : Int) < 0) || decide ((inf.bytes : Int) * (c : Int) > 2 ^ 48) || decide ((n : Int) < 0) || decide ((n : Int) > (c : Int)))=true):=by
     simp only [Bool.or_eq_true,decide_eq_true_eq]; omega
    unfold Instr.makeSlice
    simp only [Sem.run_bind,run_underlying ht,Result.andThen_ok,asInt,asIntOf,Sem.run_pure,hti,hwn,hwc]
    rw [if_neg hcond]
    simp only [Sem.run_bind,Sem.run_pure,Result.andThen_ok,run_askRoom,run_sizeOf' hi,Int.toNat_natCast,newRow,run_newObj,Sem.run_ite]
    by_cases h0 : c * inf.size=0
    ·rw [if_pos h0]
     simp only [Sem.run_bind,Sem.run_pure,Result.andThen_ok,run_newObj,h0,Array.range_zero',Array.map_empty]
    ·rw [if_neg h0]
     simp only [Sem.run_bind,Sem.run_pure,Result.andThen_ok,run_newObj,hzr]
   ·exact .slice (Inj.add_self _ _ _) hnc (by simp) (by omega) (.inl rfl)
   ·exact cells_new hN hrel (by simp) rfl
  ·cases he
 ·cases he
theorem ok_toBytes {s t e : TypeId} {x : Operand} {x' : AOpd} {d : TypeDesc} (ho : o.op = .convert s t x) (hx : cOpd x=some x') (hs : P.underlying s=some d) (ht : P.underlying t=some (.slice e)) (he' : P.underlying e=some (.int .u8)) :
  MakeOk P o (.toBytes x'):=by
 intro f h res he
 simp only [AOp.eval] at he
 split at he
 ·rename_i l hv
  split at he
  ·rename_i hlen
   cases he
   refine ⟨fun id => .slice id 0 1 l.length l.length false,.marked (bytesOf l),rfl,fun _ => rfl,fun h₂ => by simp only [AOp.eval,hv]; rw [if_pos hlen],fun N μ a w hN hr => ?_⟩
   have hxr:=cOpd_rel hx hr
   rw [hv] at hxr
   obtain ⟨b,hb,rfl⟩:=hxr.str_inv
   have hsz : b.data.toList.length=b.size:=rfl
   generalize hcap : (Question.appendCap b.size 0 e).cut (w.tape w.drawn (.appendCap b.size 0 e))=cap
   have hge : b.size≤cap:=by rw [← hcap]; simp only [Question.cut]; omega
   let elems : Array Value:=b.data.map fun b => .int .u8 b.toNat
   have hes : elems.size=b.size:=by simp [elems]
   refine ⟨.cells (elems ++ Array.replicate (cap - b.size) (.int .u8 0)) e (cap,cap + 1),cap,w.drawn + 1,.slice (some ⟨w.heap.size,0,none⟩) b.size cap,?_,fun id hid => ?_,?_⟩
   ·refine run_value2 (s:=convert s t (a.eval x)) ?_ (by simp only [execOp,ho])
    rw [hb]
    have hfr : ∀ (C : Array Value) (hC : C.size=cap),(markStringish ⟨w.heap.size,0,none⟩).run P { w with heap:=w.heap.push (.cells C e (0,0)),drawn:=w.drawn + 1 } = .ok () { w with heap:=w.heap.push (.cells C e (cap,cap + 1)),drawn:=w.drawn + 1 }:=by
     intro C hC
     simp only [markStringish,Sem.run_bind,run_shape,Result.andThen_ok,World.shape?]
     simp only [Array.getElem?_push_size,run_freeze,hC,World.freeze]
     rw [if_neg (by decide)]
     congr 2
     apply Array.ext
     ·simp
     ·intro i h1 h2
      rw [Array.getElem_modify]
      split
      ·rename_i hi
       subst hi
       simp
      ·rename_i hi
       simp at h1
       simp only [Array.getElem_push]
       rw [dif_pos (by omega),dif_pos (by omega)]
    simp only [convert,Sem.run_bind,run_underlying hs,run_underlying ht,run_underlying he',Result.andThen_ok]
    have hst : (Conv.stringToBytes e b).run P w = .ok (.slice (some ⟨w.heap.size,0,none⟩) b.size cap) { w with heap:=w.heap.push (.cells (elems ++ Array.replicate (cap - b.size) (.int .u8 0)) e (cap,cap + 1)),drawn:=w.drawn + 1 }:=by
     simp only [Conv.stringToBytes,Sem.run_bind,run_choose,Question.forced,Result.andThen_ok,Bool.false_eq_true,if_false,hcap,newRow,run_newObj,Sem.run_pure]
     rw [hfr _ (by simp [hes]; omega)]
     rfl
    cases d <;> exact hst
   ·exact .slice (Inj.add_self _ _ _) (by omega) (by simp; omega) (by omega) (.inl rfl)
   ·refine marked_new_more (us:=elems.toList) hN ?_ ?_ ?_ ?_ ?_
    ·refine ⟨by simp [bytesOf,elems],fun i u v hu hv => ?_⟩
     simp only [bytesOf,elems,List.getElem?_map,Array.toList_map] at hu hv
     cases hbi : b.data.toList[i]? with
     | none => simp [hbi] at hu
     | some y => simp [hbi] at hu hv; subst hu hv; exact .int _ _
    ·intro i u hu
     have hi : i < elems.size:=by
      rcases Nat.lt_or_ge i elems.toList.length with h' | h'
      ·simpa using h'
      ·rw [List.getElem?_eq_none h'] at hu; cases hu
     rw [Array.getElem?_append_left hi]
     simpa using hu
    ·simp [hes]; omega
    ·simp [hes]; omega
    ·exact .inr (Nat.le_refl _)
  ·cases he
 ·cases he
theorem ok_mkMap {t : TypeId} {r : Option Operand} (ho : o.op = .makeMap t r) (hr' : r=none) : MakeOk P o .mkMap:=by
 intro f h res he
 cases he
 subst hr'
 refine ⟨fun id => .map id,.map [],rfl,fun _ => rfl,fun _ => rfl,fun N μ a w hN hr => ⟨.map #[] 0,0,w.drawn,.map (some w.heap.size),?_,fun id hid => .map (Inj.add_self _ _ _),fun id w' hid hw => ⟨rfl,hN.new,#[],0,hw,rfl,by simp⟩⟩⟩
 simp [execOp,ho,Instr.makeMap]
end
end Go.Vm
/- Loads and stores,maps. -/
namespace Go.Vm
open Go.RowKit
set_option linter.unusedSimpArgs false
set_option linter.unusedVariables false
section
variable {P : Program} {o : Oper}
theorem one_of_length {α : Type} {l : List α} (h : l.length=1) : ∃ x,l=[x]:=by
 match l,h with
 | [x],_ => exact ⟨x,rfl⟩
theorem ok_load {t : TypeId} {x : Operand} {x' : AOpd} {b : Bool} {inf : TypeInfo} (ho : o.op = .load t x) (hx : cOpd x=some x') (ha : aggOf P t=some b) (hi : P.info? t=some inf) : LookOk P o (.load b inf.size x'):=by
 intro f h res he
 simp only [AOp.eval] at he
 split at he
 ·rename_i p off hv
  cases b
  ·simp only [Bool.false_eq_true,if_false] at he
   split at he
   ·rename_i v hl
    cases he
    refine ⟨v,rfl,fun N w₀ μ a w r hr => ?_⟩
    have hxr:=cOpd_rel hx hr
    rw [hv] at hxr
    obtain ⟨bl,base,size,hm,hb⟩:=hxr.ptr_inv
    obtain ⟨us,hrun,hrel,hlen,hcell⟩:=r.load (P:=P) hl hm
    obtain ⟨u,rfl⟩:=one_of_length hlen
    refine ⟨u,hrel.head,run_value (s:=Instr.loadAt t (a.eval x)) ?_ (by simp only [execOp,ho])⟩
    have hc:=hcell 0 u rfl
    simp only [Nat.add_zero] at hc
    rw [hb]
    simp [Instr.loadAt,Instr.sureAddr,loadVar,run_isAgg' ha,hc]
   ·cases he
  ·simp only [if_true] at he
   cases hl : h.load p off inf.size with
   | none => simp [hl] at he
   | some l =>
    simp [hl] at he
    subst he
    refine ⟨_,rfl,fun N w₀ μ a w r hr => ?_⟩
    have hxr:=cOpd_rel hx hr
    rw [hv] at hxr
    obtain ⟨bl,base,size,hm,hb⟩:=hxr.ptr_inv
    obtain ⟨us,hrun,hrel,hlen,hcell⟩:=r.load (P:=P) hl hm
    refine ⟨.agg us.toArray,VRel.agg_iff.2 ⟨_,rfl,hrel⟩,run_value (s:=Instr.loadAt t (a.eval x)) ?_ (by simp only [execOp,ho])⟩
    rw [hb]
    simp [Instr.loadAt,Instr.sureAddr,loadVar,run_isAgg' ha,run_sizeOf' hi,hrun]
 ·cases he
theorem elems_run {π : Pin} {N : Keep π} {w₀ : World} {μ : Inj} {h : AH} {w : World} (r : R N w₀ μ h w) {sz n : Nat} {v : AV} {v' : Value} {l : List AV} (he : h.elems sz n v=some l) (hv : VRel μ v v') :
  ∃ us : List Value,(Builtin.firstCells sz n v').run P w = .ok us.toArray w∧VRels μ l us∧l.length=n * sz:=by
 unfold AH.elems at he
 split at he
 ·rename_i p off z len cap ex
  split at he
  ·rename_i hc
   obtain ⟨rfl,hn⟩:=hc
   rcases hv.slice_inv with ⟨b,base,size,boff,cap',hm,hb,hlc,hcc,hs,ha⟩ | ⟨rfl,rfl,rfl,xa,hb⟩
   case inr =>
    have hn0 : n=0:=by omega
    subst hn0
    obtain ⟨lc,_,⟨hg,_⟩,hn',rfl⟩:=load_inv he
    rw [hb]
    exact ⟨[],by simp [Builtin.firstCells,loadCells,loadCellsFrom],by simp; exact .nil,by simp⟩
   rw [hb]
   rcases ha with ha | ⟨hl0,hc0⟩
   ·subst ha
    obtain ⟨us,hrun,hrel,hlen,_⟩:=r.load (P:=P) he hm
    exact ⟨us,by simp only [Builtin.firstCells]; exact hrun,hrel,by rw [hrel.1,hlen]⟩
   ·subst hl0
    have hn0 : n=0:=by omega
    subst hn0
    obtain ⟨lc,_,⟨hg,_⟩,hn',rfl⟩:=load_inv he
    exact ⟨[],by simp [Builtin.firstCells,loadCells,loadCellsFrom],by simp; exact .nil,by simp⟩
  ·cases he
 ·split at he
  ·rename_i hn
   cases he
   subst hn
   rw [hv.nilSlice_inv]
   exact ⟨[],by simp [Builtin.firstCells],.nil,by simp⟩
  ·cases he
 ·cases he
theorem strOf_inv : ∀ {l : List AV} {s : List UInt8},strOf l=some s→∃ ns : List Int,l=ns.map (AV.int .u8)∧s=ns.map fun n => UInt8.ofNat n.toNat
 | [],s,h => by cases h; exact ⟨[],rfl,rfl⟩
 | v :: r,s,h => by
  unfold strOf at h
  split at h
  ·rename_i e; cases e
  ·rename_i n r' e
   cases e
   cases hr : strOf r with
   | none => simp [hr] at h
   | some s' =>
    simp [hr] at h
    subst h
    obtain ⟨ns,rfl,rfl⟩:=strOf_inv hr
    exact ⟨n :: ns,rfl,rfl⟩
  ·cases h
theorem foldl_push (ns : List Int) : ∀ b : ByteArray,(ns.foldl (fun r n => r.push (UInt8.ofNat n.toNat)) b).data.toList=b.data.toList ++ ns.map fun n => UInt8.ofNat n.toNat:=by
 induction ns with
 | nil => simp
 | cons n ns ih => intro b; simp only [List.foldl_cons,ih]; simp [ByteArray.push]
theorem VRels.ints_inv {μ : Inj} {k : IntKind} : ∀ {ns : List Int} {us : List Value},VRels μ (ns.map (AV.int k)) us→us=ns.map (Value.int k)
 | [],us,h => by have:=h.1; cases us <;> simp_all
 | n :: ns,us,h => by
  cases us with
  | nil => have:=h.1; simp at this
  | cons u us => rw [List.map_cons] at h; rw [h.head.int_inv,VRels.ints_inv h.tail]; rfl
theorem ok_toStr {s t e : TypeId} {x : Operand} {x' : AOpd} (ho : o.op = .convert s t x) (hx : cOpd x=some x') (hs : P.underlying s=some (.slice e)) (he' : P.underlying e=some (.int .u8)) (ht : P.underlying t=some .string) : LookOk P o (.toStr x'):=by
 intro f h res he
 simp only [AOp.eval] at he
 split at he
 ·rename_i hv
  cases he
  refine ⟨_,rfl,fun N w₀ μ a w r hr => ?_⟩
  have hxr:=cOpd_rel hx hr
  rw [hv] at hxr
  refine ⟨.string .empty,(.str ByteArray.empty : VRel μ (.str ByteArray.empty.data.toList) _),run_value (s:=convert s t (a.eval x)) ?_ (by simp only [execOp,ho])⟩
  rw [hxr.nilSlice_inv,run_convert_bytes_string w s t e none 0 0 hs he' ht]
  simp [Conv.bytesToString]
 ·rename_i p off z len cap ex hv
  split at he
  ·rename_i hz
   subst hz
   simp only [Option.bind_eq_some_iff,Option.map_eq_some_iff] at he
   obtain ⟨l,hl,st,hst,rfl⟩:=he
   refine ⟨_,rfl,fun N w₀ μ a w r hr => ?_⟩
   have hxr:=cOpd_rel hx hr
   rw [hv] at hxr
   have hel : h.elems 1 len (.slice p off 1 len cap ex)=some l:=by simp [AH.elems,hl]
   obtain ⟨us,hrun,hrel,hlen⟩:=elems_run (P:=P) r hel hxr
   obtain ⟨ns,rfl,rfl⟩:=strOf_inv hst
   have hus:=hrel.ints_inv
   subst hus
   obtain ⟨ad,cap',hb⟩ : ∃ ad cap',a.eval x = .slice (some ad) len cap':=by
    rcases hxr.slice_inv with ⟨b,base,size,boff,cap',hm,hb,_⟩ | ⟨rfl,rfl,rfl,xa,hb⟩
    ·exact ⟨_,_,hb⟩
    ·exact ⟨_,_,hb⟩
   rw [hb] at hrun
   simp only [Builtin.firstCells,Nat.mul_one] at hrun
   have h2:=run_bytesToString w ad len cap' ns hrun
   have e2:=foldl_push ns ByteArray.empty
   simp at e2
   refine ⟨.string (ns.foldl (fun r n => r.push (UInt8.ofNat n.toNat)) ByteArray.empty),?_,run_value (s:=convert s t (a.eval x)) ?_ (by simp only [execOp,ho])⟩
   ·rw [← e2]; exact .str _
   ·rw [hb,run_convert_bytes_string w s t e _ len cap' hs he' ht]
    exact h2
  ·cases he
 ·cases he
theorem ok_store {t : TypeId} {x y : Operand} {x' y' : AOpd} {inf : TypeInfo} (ho : o.op = .store t x y) (hx : cOpd x=some x') (hy : cOpd y=some y') (hi : P.info? t=some inf) : OpOk P o (.store inf.size x' y'):=by
 intro π N w₀ μ h w f a res r hr he
 simp only [AOp.eval] at he
 split at he
 ·rename_i p off hv
  split at he
  ·rename_i hn
   cases hs : h.store p off (y'.val f).cells with
   | none => simp [hs] at he
   | some h' =>
    simp [hs] at he
    subst he
    have hxr:=cOpd_rel hx hr
    have hyr:=cOpd_rel hy hr
    rw [hv] at hxr
    obtain ⟨bl,base,size,hm,hb⟩:=hxr.ptr_inv
    have hd : y'.val f ≠ .undef:=by
     intro e
     rw [e] at hs
     obtain ⟨l,_,_,_,_,hfl,_⟩:=store_inv hs
     have:=hfl .undef (by simp [AV.cells])
     cases this
    have hcells:=hyr.cells hd
    obtain ⟨w',hrun,hR⟩:=r.store (P:=P) hs hm hcells
    refine ⟨μ,w',Go.undef,.refl (Nat.le_of_eq (AH.next_store hs).symm),hR,.none_undef,.inr ⟨run_unit (s:=Instr.storeAt t (a.eval x) (a.eval y)) ?_ (by simp only [execOp,ho]),rfl⟩⟩
    rw [hb]
    have hsz : (a.eval y).cells.size=inf.size:=by have:=hcells.1; simp at this; omega
    simp [Instr.storeAt,Instr.sureAddr,storeVar,run_sizeOf' hi,hsz,hrun]
  ·cases he
 ·cases he
def keyKind (d : TypeDesc) : Option Nat :=
 match d with
 | .int _ => some 0
 | .string => some 1
 | .bool => some 2
 | _ => none
theorem keyEq_run {d : TypeDesc} {kk : Nat} (hk : keyKind d=some kk) {μ : Inj} {x y : AV} {u v : Value} (hx : VRel μ x u) (hy : VRel μ y v) {b : Bool} (hb : keyEq kk x y=some b) : Instr.sameNow d u v=some b:=by
 unfold keyEq at hb
 split at hb
 ·unfold keyKind at hk
  split at hk <;> cases hk
  rw [hx.int_inv,hy.int_inv]
  simp only [Instr.sameNow]
  exact hb
 ·unfold keyKind at hk
  split at hk <;> cases hk
  obtain ⟨s,rfl,rfl⟩:=hx.str_inv
  obtain ⟨s',rfl,rfl⟩:=hy.str_inv
  simp only [Instr.sameNow]
  rw [← hb]
  congr 1
  have hbe : ∀ a b : ByteArray,(a == b)=(a.data == b.data):=fun a b => by cases a; cases b; rfl
  rw [hbe]
  by_cases e : s.data=s'.data
  ·rw [e]; simp
  ·have h1 : (s.data == s'.data)=false:=by simpa using e
   have h2 : (s.data.toList == s'.data.toList)=false:=by simpa using e
   rw [h1,h2]
 ·unfold keyKind at hk
  split at hk <;> cases hk
  rw [hx.bool_inv,hy.bool_inv]
  simp only [Instr.sameNow]
  exact hb
 ·cases hb
def ERels (μ : Inj) (es : List (AV×AV)) (ces : List MapEntry) : Prop:=es.length=ces.length∧∀ (i : Nat) (p : AV×AV) (q : MapEntry),es[i]?=some p→ces[i]?=some q→VRel μ p.1 q.key∧VRel μ p.2 q.val
theorem ERels.tail {μ : Inj} {p : AV×AV} {q : MapEntry} {es : List (AV×AV)} {ces : List MapEntry} (h : ERels μ (p :: es) (q :: ces)) : ERels μ es ces :=
 ⟨by have:=h.1; simp at this; exact this,fun i a b ha hb => h.2 (i + 1) a b ha hb⟩
theorem findV_run {d : TypeDesc} {kk : Nat} (hk : keyKind d=some kk) {μ : Inj} {x : AV} {u : Value} (hx : VRel μ x u) : ∀ {es : List (AV×AV)} {ces : List MapEntry} {i : Nat} {r : Option (Nat×AV)},ERels μ es ces→findV kk x es i=some r →
  ∃ r',Instr.findNow d u ces i=some r'∧(match r,r' with
   | none,none => True
   | some (j,v),some (j',v') => j=j'∧VRel μ v v'∧i≤j∧∃ e q,es[j - i]?=some (e,v)∧ces[j - i]?=some q∧q.val=v'∧keyEq kk x e=some true
   | _,_ => False)
 | [],ces,i,r,hr,hf => by
  simp only [findV,Option.some.injEq] at hf
  subst hf
  have : ces=[]:=by have:=hr.1; cases ces <;> simp_all
  subst this
  exact ⟨none,rfl,trivial⟩
 | (e,v) :: es,ces,i,r,hr,hf => by
  cases ces with
  | nil => have:=hr.1; simp at this
  | cons q ces =>
   obtain ⟨h1,h2⟩:=hr.2 0 _ _ rfl rfl
   simp only at h1 h2
   simp only [findV] at hf
   simp only [Instr.findNow]
   cases hb : keyEq kk x e with
   | none => simp [hb] at hf
   | some b =>
    rw [keyEq_run hk hx h1 hb]
    rw [hb] at hf
    cases b
    ·simp only at hf ⊢
     obtain ⟨r',hr1,hr2⟩:=findV_run hk hx hr.tail hf
     refine ⟨r',hr1,?_⟩
     cases r with
     | none => cases r' with
      | none => trivial
      | some jv' => exact hr2.elim
     | some jv =>
      obtain ⟨j,v2⟩:=jv
      cases r' with
      | none => exact hr2
      | some jv' =>
       obtain ⟨j',v'⟩:=jv'
       obtain ⟨q1,q2,q3,e2,q4,q5,q6,q7,q8⟩:=hr2
       refine ⟨q1,q2,by omega,e2,q4,?_,?_,q7,q8⟩
       ·rw [show j - i=(j - (i + 1)) + 1 by omega]; simpa using q5
       ·rw [show j - i=(j - (i + 1)) + 1 by omega]; simpa using q6
    ·simp only [Option.some.injEq] at hf ⊢
     subst hf
     exact ⟨_,rfl,rfl,h2,Nat.le_refl _,e,q,by simp,by simp,rfl,hb⟩
theorem findKey_run {kt : TypeId} {d : TypeDesc} (hu : P.underlying kt=some d) {u : Value} {ces : List MapEntry} {r : Option (Nat×Value)} (hf : Instr.findNow d u ces 0=some r) (w : World) : (Instr.findKey kt u ces).run P w = .ok r w:=by
 simp only [Instr.findKey,Sem.run_bind,run_underlying hu,Result.andThen_ok,hf]
 rfl
theorem checkKey_run {kt : TypeId} {d : TypeDesc} {kk : Nat} (hu : P.underlying kt=some d) (hk : keyKind d=some kk) (b : Bool) (u : Value) (w : World) : (Instr.checkKey b 10000 kt u).run P w = .ok () w:=by
 have : ∀ n,(Instr.checkKey b (n + 1) kt u).run P w = .ok () w:=by
  intro n
  unfold Instr.checkKey
  simp only [Sem.run_bind,run_underlying hu,Result.andThen_ok]
  unfold keyKind at hk
  split at hk <;> cases hk <;> rfl
 exact this 9999
theorem VRel.map_inv {μ : Inj} {p : Nat} {v : Value} (h : VRel μ (.map p) v) : ∃ b size,μ p=some (b,0,size)∧v = .map (some b):=by cases h; exact ⟨_,_,‹_›,rfl⟩
theorem run_getMap {w : World} {b : Nat} {es : Array MapEntry} {clock : Nat} (h : w.heap[b]?=some (.map es clock)) : (getObj b).run P w = .ok (.map es clock) w:=by
 simp [getObj,Sem.run,h]
theorem run_setMap {w : World} {b : Nat} {es : Array MapEntry} {clock : Nat} (h : w.heap[b]?=some (.map es clock)) (x : Obj) : (setObj b x).run P w = .ok () { w with heap:=w.heap.setIfInBounds b x }:=by
 simp [setObj,Sem.run,h]
theorem R.map {π : Pin} {N : Keep π} {w₀ : World} {μ : Inj} {h : AH} {w : World} (r : R N w₀ μ h w) {p b base size : Nat} {es : List (AV×AV)} (hp : μ p=some (b,base,size)) (hg : h.get p=some (.map es)) :
  ∃ ces clock,w.heap[b]?=some (.map ces clock)∧ERels μ es ces.toList:=by
 obtain ⟨_,_,ces,clock,hb,hl,hrel⟩:=r.obj p b base size _ hp hg
 exact ⟨ces,clock,hb,by simpa using hl,fun i x y hx hy => hrel i x y hx (by simpa using hy)⟩
theorem ok_lenMap {t k e : TypeId} {x : Operand} {x' : AOpd} (ho : o.op = .call { callee := .builtin .len,args:=#[x],argTypes:=#[t] }) (hx : cOpd x=some x') (ht : P.underlying t=some (.map k e)) : LookOk P o (.lenMap x'):=by
 intro f h res he
 simp only [AOp.eval] at he
 split at he
 ·rename_i hv
  cases he
  refine ⟨_,rfl,fun N w₀ μ a w r hr => ⟨_,.int _ _,?_⟩⟩
  have hxr:=cOpd_rel hx hr
  rw [hv] at hxr
  obtain ⟨consts,hc⟩:=run_builtin (P:=P) ho a w
  rw [hc]
  simp [builtin,Builtin.len_,run_underlying ht,hxr.nilMap_inv,goInt]
 ·rename_i p hv
  split at he
  ·rename_i es hg
   cases he
   refine ⟨_,rfl,fun N w₀ μ a w r hr => ?_⟩
   have hxr:=cOpd_rel hx hr
   rw [hv] at hxr
   obtain ⟨b,size,hm,hb⟩:=hxr.map_inv
   obtain ⟨ces,clock,hbk,hrel⟩:=r.map hm hg
   refine ⟨_,.int _ _,?_⟩
   obtain ⟨consts,hc⟩:=run_builtin (P:=P) ho a w
   rw [hc]
   have hl:=hrel.1
   simp at hl
   simp [builtin,Builtin.len_,run_underlying ht,hb,run_getMap hbk,goInt,hl]
  ·cases he
 ·cases he
theorem ok_lookup {t kt e : TypeId} {d : TypeDesc} {kk : Nat} {commaOk : Bool} {x y : Operand} {x' y' : AOpd} {inf : TypeInfo} {z : Value} {z' : AV} (ho : o.op = .lookup t x y commaOk) (hx : cOpd x=some x') (hy : cOpd y=some y')
  (ht : P.underlying t=some (.map kt e)) (hu : P.underlying kt=some d) (hk : keyKind d=some kk) (hi : P.info? e=some inf) (hz : inf.zero=some z) (hz' : cVal z=some z') : LookOk P o (.lookup kk z' commaOk x' y'):=by
 intro f h res he
 have hzr : ∀ w,(zeroValue e).run P w = .ok z w:=fun w => by simp [zeroValue,typeInfo,hi,hz]
 simp only [AOp.eval] at he
 split at he
 ·rename_i hv
  cases he
  refine ⟨_,rfl,fun N w₀ μ a w r hr => ?_⟩
  have hxr:=cOpd_rel hx hr
  rw [hv] at hxr
  refine ⟨if commaOk then .tuple #[z,.bool false] else z,?_,run_value (s:=Instr.lookup t (a.eval x) (a.eval y) commaOk) ?_ (by simp only [execOp,ho])⟩
  ·cases commaOk
   ·exact cVal_rel hz' μ
   ·exact pair_rel (cVal_rel hz' μ) false
  ·rw [hxr.nilMap_inv]
   have hf : (Instr.findKey kt (a.eval y) (#[] : Array MapEntry).toList).run P w = .ok none w:=findKey_run hu (by simp [Instr.findNow]) w
   unfold Instr.lookup
   simp only [Sem.run_bind,run_underlying ht,Result.andThen_ok,Sem.run_pure,checkKey_run hu hk,hf,hzr]
 ·rename_i p hv
  split at he
  ·rename_i es hg
   cases hf : findV kk (y'.val f) es 0 with
   | none => simp [hf] at he
   | some r0 =>
    simp [hf] at he
    have hres : ∃ v,res = .val v h:=by
     subst he
     cases r0 with
     | none => exact ⟨_,rfl⟩
     | some jv => exact ⟨_,rfl⟩
    obtain ⟨v,hresv⟩:=hres
    refine ⟨v,hresv,fun N w₀ μ a w r hr => ?_⟩
    have hxr:=cOpd_rel hx hr
    have hyr:=cOpd_rel hy hr
    rw [hv] at hxr
    obtain ⟨b,size,hm,hb⟩:=hxr.map_inv
    obtain ⟨ces,clock,hbk,hrel⟩:=r.map hm hg
    obtain ⟨r',hr1,hr2⟩:=findV_run hk hyr hrel hf
    have hfk:=findKey_run (P:=P) hu hr1 w
    cases r0 with
    | none =>
     cases r' with
     | some jv => exact hr2.elim
     | none =>
      simp only at he
      rw [hresv] at he
      cases he
      refine ⟨if commaOk then .tuple #[z,.bool false] else z,?_,run_value (s:=Instr.lookup t (a.eval x) (a.eval y) commaOk) ?_ (by simp only [execOp,ho])⟩
      ·cases commaOk
       ·exact cVal_rel hz' μ
       ·exact pair_rel (cVal_rel hz' μ) false
      ·rw [hb]
       unfold Instr.lookup
       simp only [Sem.run_bind,run_underlying ht,Result.andThen_ok,Sem.run_pure,run_getMap hbk,checkKey_run hu hk,hfk,hzr]
    | some jv =>
     obtain ⟨j,v2⟩:=jv
     cases r' with
     | none => exact hr2.elim
     | some jv' =>
      obtain ⟨j',v'⟩:=jv'
      obtain ⟨_,hvr,_⟩:=hr2
      simp only at he
      rw [hresv] at he
      cases he
      refine ⟨if commaOk then .tuple #[v',.bool true] else v',?_,run_value (s:=Instr.lookup t (a.eval x) (a.eval y) commaOk) ?_ (by simp only [execOp,ho])⟩
      ·cases commaOk
       ·exact hvr
       ·exact pair_rel hvr true
      ·rw [hb]
       unfold Instr.lookup
       simp only [Sem.run_bind,run_underlying ht,Result.andThen_ok,Sem.run_pure,run_getMap hbk,checkKey_run hu hk,hfk,hzr]
  ·cases he
 ·cases he
end
end Go.Vm
/- Map writes,append,copy,clear. -/
namespace Go.Vm
open Go.RowKit
set_option linter.unusedSimpArgs false
set_option linter.unusedVariables false
section
variable {P : Program} {o : Oper}
theorem sameBits_key {kk : Nat} {μ : Inj} {x e : AV} {u v : Value} (hx : VRel μ x u) (he : VRel μ e v) (hb : keyEq kk x e=some true) (n : Nat) : Instr.sameBits n v u=true:=by
 unfold keyEq at hb
 split at hb
 ·split at hb
  ·rename_i hk
   subst hk
   simp at hb
   subst hb
   rw [hx.int_inv,he.int_inv]
   cases n <;> simp [Instr.sameBits]
  ·cases hb
 ·obtain ⟨s,rfl,rfl⟩:=hx.str_inv
  obtain ⟨s',rfl,rfl⟩:=he.str_inv
  have hbe : ∀ a b : ByteArray,(a == b)=(a.data == b.data):=fun a b => by cases a; cases b; rfl
  simp at hb
  cases n <;> simp [Instr.sameBits,hbe,hb]
 ·simp at hb
  subst hb
  rw [hx.bool_inv,he.bool_inv]
  cases n <;> simp [Instr.sameBits]
 ·cases hb
theorem ok_mapUpd {t kt e : TypeId} {d : TypeDesc} {kk : Nat} {x y z : Operand} {x' y' z' : AOpd} (ho : o.op = .mapUpdate t x y z ∨ o.op = .insert t x y z) (hx : cOpd x = some x') (hy : cOpd y = some y') (hz : cOpd z = some z')
    (ht : P.underlying t = some (.map kt e)) (hu : P.underlying kt = some d) (hk : keyKind d = some kk) : OpOk P o (.mapUpd kk x' y' z') := by
  intro π N w₀ μ h w f a res r hr he
  simp only [AOp.eval] at he
  split at he
  · rename_i p hv
    split at he
    · rename_i es hg
      have hxr := cOpd_rel hx hr
      have hyr := cOpd_rel hy hr
      have hzr := cOpd_rel hz hr
      rw [hv] at hxr
      obtain ⟨b, size, hm, hb⟩ := hxr.map_inv
      obtain ⟨ces, clock, hbk, hrel⟩ := r.map hm hg
      have hl : es.length = ces.size := by simpa using hrel.1
      cases hf : findV kk (y'.val f) es 0 with
      | none => simp [hf] at he
      | some r0 =>
        obtain ⟨r', hr1, hr2⟩ := findV_run hk hyr hrel hf
        have hfk := findKey_run (P := P) hu hr1 w
        have hex : ∀ (s : Sem Unit), s = Instr.mapUpdate t (a.eval x) (a.eval y) (a.eval z) → execOp a.eval o = (do s; pure .skip) := by
          intro s hs
          subst hs
          rcases ho with ho | ho <;> simp only [execOp, ho]
        cases r0 with
        | none =>
          cases r' with
          | some jv => exact hr2.elim
          | none =>
            simp [hf] at he
            subst he
            refine ⟨μ, _, Go.undef, .refl (Nat.le_refl _), r.setMap (es' := es ++ [(y'.val f, z'.val f)]) (ces' := ces.push { key := a.eval y, val := a.eval z, born := clock }) (clock' := clock + 1) hm hg (by simp [hl]) ?_, .none_undef, .inr ⟨run_unit ?_ (hex _ rfl), rfl⟩⟩
            · intro i p' q hp hq
              rw [Array.getElem?_push] at hq
              by_cases hi : i = ces.size
              · subst hi
                rw [if_pos rfl] at hq
                rw [← hl, List.getElem?_append_right (Nat.le_refl _)] at hp
                simp at hp hq
                subst hp hq
                exact ⟨hyr, hzr⟩
              · rw [if_neg hi] at hq
                have : i < es.length := by
                  rcases Nat.lt_or_ge i es.length with h' | h'
                  · exact h'
                  · have : (es ++ [(y'.val f, z'.val f)])[i]? = none := List.getElem?_eq_none (by simp; omega)
                    rw [this] at hp; cases hp
                rw [List.getElem?_append_left this] at hp
                exact hrel.2 i p' q hp (by simpa using hq)
            · rw [hb]
              unfold Instr.mapUpdate
              simp only [Sem.run_bind, run_underlying ht, Result.andThen_ok, run_getMap hbk, checkKey_run hu hk, hfk, run_setMap hbk]
        | some jv =>
          obtain ⟨j, v2⟩ := jv
          cases r' with
          | none => exact hr2.elim
          | some jv' =>
            obtain ⟨j', v'⟩ := jv'
            obtain ⟨rfl, hvr, _, e2, q, h5, h6, h7, h8⟩ := hr2
            simp only [Nat.sub_zero] at h5 h6
            simp [hf] at he
            subst he
            have hq : ces[j]? = some q := by simpa using h6
            have hkey := (hrel.2 j _ _ h5 h6).1
            have hsame := sameBits_key hyr hkey h8 10000
            have hjl : j < ces.size := (Array.getElem?_eq_some_iff.1 hq).1
            refine ⟨μ, _, Go.undef, .refl (Nat.le_refl _), r.setMap (es' := es.set j (y'.val f, z'.val f)) (ces' := ces.modify j fun e => { e with key := a.eval y, val := a.eval z }) (clock' := clock) hm hg (by simp [hl]) ?_, .none_undef, .inr ⟨run_unit ?_ (hex _ rfl), rfl⟩⟩
            · intro i p' q' hp hq'
              rw [Array.getElem?_modify] at hq'
              rw [List.getElem?_set] at hp
              by_cases hi : j = i
              · subst hi
                rw [if_pos rfl] at hq'
                rw [if_pos rfl, if_pos (by omega)] at hp
                rw [hq] at hq'
                simp at hp hq'
                subst hp hq'
                exact ⟨hyr, hzr⟩
              · rw [if_neg hi] at hq' hp
                exact hrel.2 i p' q' hp (by simpa using hq')
            · rw [hb]
              have hks : ∀ w, (Instr.keyThatStays q.key (a.eval y)).run P w = .ok (a.eval y) w := fun w => by simp [Instr.keyThatStays, hsame]
              unfold Instr.mapUpdate
              simp only [Sem.run_bind, run_underlying ht, Result.andThen_ok, run_getMap hbk, checkKey_run hu hk, hfk, hq, Option.map_some, Option.getD_some, hks, run_setMap hbk]
    · cases he
  · cases he
theorem ok_del {t kt e : TypeId} {d : TypeDesc} {kk : Nat} {x y : Operand} {x' y' : AOpd} {ts : Array TypeId} (ho : o.op = .call { callee := .builtin .delete,args:=#[x,y],argTypes:=ts }) (hts : ts[0]?=some t) (hx : cOpd x=some x') (hy : cOpd y=some y')
  (ht : P.underlying t=some (.map kt e)) (hu : P.underlying kt=some d) (hk : keyKind d=some kk) : OpOk P o (.del kk x' y'):=by
 intro π N w₀ μ h w f a res r hr he
 simp only [AOp.eval] at he
 split at he
 ·rename_i p hv
  split at he
  ·rename_i es hg
   have hxr:=cOpd_rel hx hr
   have hyr:=cOpd_rel hy hr
   rw [hv] at hxr
   obtain ⟨b,size,hm,hb⟩:=hxr.map_inv
   obtain ⟨ces,clock,hbk,hrel⟩:=r.map hm hg
   have hl : es.length=ces.size:=by simpa using hrel.1
   obtain ⟨consts,hc⟩:=run_builtin (P:=P) ho a w
   cases hf : findV kk (y'.val f) es 0 with
   | none => simp [hf] at he
   | some r0 =>
    obtain ⟨r',hr1,hr2⟩:=findV_run hk hyr hrel hf
    have hfk:=findKey_run (P:=P) hu hr1 w
    cases r0 with
    | none =>
     cases r' with
     | some jv => exact hr2.elim
     | none =>
      simp [hf] at he
      subst he
      have hR:=r.setMap (es':=es) (ces':=ces) (clock':=clock) hm hg hl (fun i p q hp hq => hrel.2 i p q hp (by simpa using hq))
      have hself : { w with heap:=w.heap.setIfInBounds b (.map ces clock) }=w:=by
       have hlt : b < w.heap.size:=(Array.getElem?_eq_some_iff.1 hbk).1
       have hv2 : w.heap[b] = .map ces clock:=(Array.getElem?_eq_some_iff.1 hbk).2
       have : w.heap.setIfInBounds b (.map ces clock)=w.heap:=by
        apply Array.ext
        ·simp
        ·intro i h1 h2
         rw [Array.getElem_setIfInBounds]
         split
         ·rename_i e; subst e; exact hv2.symm
         ·rfl
       rw [this]
      refine ⟨μ,w,.tuple #[],.refl (Nat.le_refl _),r,.none_undef,.inl ?_⟩
      rw [hc]
      simp [builtin,Builtin.delete_,hts,hb,run_underlying ht,run_getMap hbk,checkKey_run hu hk,hfk,run_setMap hbk,hself]
    | some jv =>
     obtain ⟨j,v2⟩:=jv
     cases r' with
     | none => exact hr2.elim
     | some jv' =>
      obtain ⟨j',v'⟩:=jv'
      obtain ⟨rfl,hvr,_,e2,q,h5,h6,h7,h8⟩:=hr2
      simp only [Nat.sub_zero] at h5 h6
      simp [hf] at he
      subst he
      have hq : ces[j]?=some q:=by simpa using h6
      have hjl : j < ces.size:=(Array.getElem?_eq_some_iff.1 hq).1
      refine ⟨μ,_,.tuple #[],.refl (Nat.le_refl _),r.setMap (es':=es.eraseIdx j) (ces':=ces.eraseIdxIfInBounds j) (clock':=clock) hm hg ?_ ?_,.none_undef,.inl ?_⟩
      ·rw [List.length_eraseIdx_of_lt (by omega)]
       simp [Array.eraseIdxIfInBounds,hjl,hl]
      ·intro i p' q' hp hq'
       have : (ces.eraseIdxIfInBounds j).toList=ces.toList.eraseIdx j:=by
        simp [Array.eraseIdxIfInBounds,hjl]
       have hq2 : (ces.toList.eraseIdx j)[i]?=some q':=by rw [← this,Array.getElem?_toList]; exact hq'
       rw [List.getElem?_eraseIdx] at hp hq2
       split at hp
       ·rw [if_pos ‹_›] at hq2; exact hrel.2 i p' q' hp hq2
       ·rw [if_neg ‹_›] at hq2; exact hrel.2 (i + 1) p' q' hp hq2
      ·rw [hc]
       simp [builtin,Builtin.delete_,hts,hb,run_underlying ht,run_getMap hbk,checkKey_run hu hk,hfk,run_setMap hbk]
  ·cases he
 ·cases he
def appendTail (elem : TypeId) (size : Nat) (zeros : Bool) (base : Option Addr) (sLen sCap n : Nat) (s x : Value) (appended : Sem (Array Value)) : Sem Value := do
  let need := sLen + n
  if need ≤ sCap then
    let new ← appended
    if let some a := base then storeCells (a.add (sLen * size)) new.toList
    pure (.slice base need sCap)
  else
    if (need : Int) > IntKind.i64.max ∧ (zeros ∨ (← typeInfo elem).bytes = 0) then runtimePanic (.error "growslice: len out of range")
    if Builtin.nextslicecap need sCap * (← typeInfo elem).bytes > 2 ^ 48 then (if zeros then runtimePanic (.error "growslice: len out of range") else do
      if !(← Builtin.mayShare size sLen n base x) then mark .noRoom
      unsupported (.resourceLimit "append: a slice or a string whose bytes no memory bears"))
    let newCap ← choose (.appendCap need sCap elem)
    askRoom (newCap * (← typeInfo elem).bytes)
    let old ← Builtin.firstCells size sLen s
    let new ← appended
    let rest := Builtin.zeroCells (← zeroValue elem).cells (newCap - need)
    pure (.slice (some (← newRow elem (old ++ new ++ rest))) need newCap)
theorem nextslicecap_le {need old : Nat} (h : old < need) : Builtin.nextslicecap need old≤2 * need + 1024:=by
 unfold Builtin.nextslicecap
 split
 ·omega
 ·split
  ·omega
  ·rw [growBy_four]
   repeat' split
   all_goals omega
theorem room_le {need bytes cap cap' : Nat} {ex : Bool} (h : roomOk need bytes cap ex=true) (hc : if ex then cap'=cap else cap≤cap') (hlt : cap' < need) :
  Builtin.nextslicecap need cap' * bytes≤2 ^ 48∧¬ ((need : Int) > IntKind.i64.max∧((false=true)∨bytes=0))∧need≤9223372036854775807:=by
 have e48 : (2 : Nat) ^ 48=281474976710656:=by decide
 unfold roomOk at h
 simp only [Bool.or_eq_true,Bool.and_eq_true,decide_eq_true_eq] at h
 rw [e48,IntKind.max_i64]
 rcases h with ⟨⟨h1,h2⟩,h3⟩ | ⟨⟨⟨⟨h1,h2⟩,h3⟩,h4⟩,h5⟩
 ·refine ⟨?_,by omega,by omega⟩
  have hn:=nextslicecap_le hlt
  have : Builtin.nextslicecap need cap' * bytes≤(2 * need + 1024) * bytes:=Nat.mul_le_mul_right _ hn
  rw [Nat.add_mul,Nat.mul_assoc] at this
  omega
 ·rw [h1,if_pos rfl] at hc
  refine ⟨?_,by omega,h4⟩
  have : Builtin.nextslicecap need cap'=need:=by unfold Builtin.nextslicecap; rw [if_pos (by omega)]
  rw [this]
  exact h3
theorem zeroCells_size (z : Array Value) (n : Nat) : (Builtin.zeroCells z n).size=n * z.size:=by simp [Builtin.zeroCells]
theorem appendTail_grow {w : World} {elem : TypeId} {inf : TypeInfo} {z : Value} {zeros : Bool} {base : Option Addr} {sLen sCap n : Nat} {s x : Value} {appended : Sem (Array Value)} {old new : Array Value}
  (hi : P.info? elem=some inf) (hz : inf.zero=some z) (hzs : z.cells.size=inf.size) (hlt : ¬ sLen + n≤sCap) (h1 : Builtin.nextslicecap (sLen + n) sCap * inf.bytes≤2 ^ 48)
  (h2 : ¬ (((sLen + n : Nat) : Int) > IntKind.i64.max∧(zeros=true∨inf.bytes=0))) (ho : ∀ d,(Builtin.firstCells inf.size sLen s).run P { w with drawn:=d } = .ok old { w with drawn:=d })
  (hn : ∀ d,appended.run P { w with drawn:=d } = .ok new { w with drawn:=d }) :
  ∃ newCap,sLen + n≤newCap∧(appendTail elem inf.size zeros base sLen sCap n s x appended).run P w =
   .ok (.slice (some ⟨w.heap.size,0,none⟩) (sLen + n) newCap) { w with heap:=w.heap.push (.cells (old ++ new ++ Builtin.zeroCells z.cells (newCap - (sLen + n))) elem (0,0)),drawn:=w.drawn + 1 }:=by
 generalize hcap : (Question.appendCap (sLen + n) sCap elem).cut (w.tape w.drawn (.appendCap (sLen + n) sCap elem))=cap
 have hge : sLen + n≤cap:=by rw [← hcap]; simp only [Question.cut]; omega
 refine ⟨cap,hge,?_⟩
 have hzr : ∀ w,(zeroValue elem).run P w = .ok z w:=fun w => by simp [zeroValue,typeInfo,hi,hz]
 have hti : ∀ w,(typeInfo elem).run P w = .ok inf w:=fun w => by simp [typeInfo,hi]
 unfold appendTail
 rw [if_neg hlt]
 simp only [Sem.run_bind,hti,Result.andThen_ok]
 rw [if_neg h2]
 simp only [Sem.run_bind,hti,Result.andThen_ok]
 rw [if_neg (by omega)]
 simp only [Sem.run_bind,hti,Result.andThen_ok]
 simp only [Sem.run_bind,run_choose,Question.forced,Bool.false_eq_true,if_false,Result.andThen_ok,hcap,run_askRoom,ho,hn,hzr,newRow,run_newObj,Sem.run_pure]
end
end Go.Vm

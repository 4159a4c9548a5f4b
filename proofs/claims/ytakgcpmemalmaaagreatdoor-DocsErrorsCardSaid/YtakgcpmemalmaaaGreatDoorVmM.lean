/- Compiling operations. -/
import Derived.Test.YtakgcpmemalmaaaGreatDoorVmJ
import Derived.Laws.StructEq
import Derived.OrdersIn
import Derived.RangeFuncIn
import Derived.RangeFuncRecord
import Derived.RangeFuncSeq
namespace Go.Vm
open Go.RowKit
set_option linter.unusedSimpArgs false
set_option linter.unusedVariables false
section
variable {P : Program} {o : Oper}
def flatFields (P : Program) : List Field→Nat→Option (List Nat)
 | [],_ => some []
 | f :: r,i =>
  if f.offset=i∧(f.name == "_")=false then
   match P.underlying f.type with
   | some d => match keyKind d,flatFields P r (i + 1) with
    | some k,some l => some (k :: l)
    | _,_ => none
   | none => none
  else none
theorem equal_key {t : TypeId} {d : TypeDesc} {k : Nat} (hu : P.underlying t=some d) (hk : keyKind d=some k) {μ : Inj} {x y : AV} {u v : Value} (hx : VRel μ x u) (hy : VRel μ y v) {b : Bool} (hb : keyEq k x y=some b) (n : Nat) (w : World) :
  (Op.equalIn (n + 1) t u v).run P w = .ok b w:=by
 have hs:=keyEq_run hk hx hy hb
 unfold Op.equalIn
 simp only [Sem.run_bind,run_underlying hu,Result.andThen_ok]
 unfold Instr.sameNow at hs
 split at hs
 ·split at hs
  ·rename_i e; subst e; simp at hs; simp [hs]
  ·cases hs
 ·simp at hs; simp [hs]
 ·simp at hs; simp [hs]
 ·cases hs
theorem eqFields_run {μ : Inj} {xs ys : Array Value} {l m : List AV} (hl : VRels μ l xs.toList) (hm : VRels μ m ys.toList) (n : Nat) (w : World) : ∀ (fs : List Field) (i : Nat) (ks : List Nat) (b : Bool),flatFields P fs i=some ks→leavesEq ks (l.drop i) (m.drop i)=some b →
  (Op.eqFields (n + 1) xs ys fs).run P w = .ok b w
 | [],i,ks,b,hf,hb => by
  cases hf
  have : b=true:=by
   revert hb
   cases l.drop i <;> cases m.drop i <;> simp [leavesEq] <;> exact fun h => h.symm
  subst this
  simp [Op.eqFields]
 | f :: fs,i,ks,b,hf,hb => by
  simp only [flatFields] at hf
  split at hf
  ·rename_i hc
   split at hf
   ·rename_i d hu
    split at hf
    ·rename_i k ks' hk hr
     cases hf
     cases hli : l.drop i with
     | nil => rw [hli] at hb; simp [leavesEq] at hb
     | cons x l' =>
      cases hmi : m.drop i with
      | nil => rw [hli,hmi] at hb; simp [leavesEq] at hb
      | cons y m' =>
       rw [hli,hmi] at hb
       simp only [leavesEq] at hb
       split at hb
       ·rename_i b1 b2 h1 h2
        cases hb
        have hx : l[i]?=some x:=by rw [← List.head?_drop,hli]; rfl
        have hy : m[i]?=some y:=by rw [← List.head?_drop,hmi]; rfl
        have hl' : l.drop (i + 1)=l':=by rw [← List.tail_drop,hli]; rfl
        have hm' : m.drop (i + 1)=m':=by rw [← List.tail_drop,hmi]; rfl
        obtain ⟨u,hu1,hu2⟩:=hl.get hx
        obtain ⟨v,hv1,hv2⟩:=hm.get hy
        have hag : aggOf P f.type=some false:=by
         unfold aggOf
         rw [hu]
         unfold keyKind at hk
         split at hk <;> first | rfl | cases hk
        have p1 : (part f.type xs f.offset).run P w = .ok u w:=by
         have : xs[f.offset]?=some u:=by rw [hc.1]; simpa using hu1
         simp [part,run_isAgg' hag,this]
        have p2 : (part f.type ys f.offset).run P w = .ok v w:=by
         have : ys[f.offset]?=some v:=by rw [hc.1]; simpa using hv1
         simp [part,run_isAgg' hag,this]
        have ih:=eqFields_run hl hm n w fs (i + 1) ks' b2 hr (by rw [hl',hm']; exact h2)
        have hn' : f.name≠"_":=by simpa using hc.2
        rw [Op.eqFields]
        simp only [if_pos hn',Sem.run_bind,p1,p2,Result.andThen_ok,equal_key hu hk hu2 hv2 h1 n w]
        cases b1
        ·simp
        ·simpa using ih
       ·cases hb
    ·cases hf
   ·cases hf
  ·cases hf
theorem ok_eqAgg {neg : Bool} {t : TypeId} {x y : Operand} {u : TypeId} {x' y' : AOpd} {fs : Array Field} {ks : List Nat} (ho : o.op = .binOp (if neg then .neq else .eql) t x y u) (hx : cOpd x = some x') (hy : cOpd y = some y')
    (ht : P.underlying t = some (.struct fs)) (hs : P.stoodInHeld t = false) (hg : P.eqGuardType P.depth t = false) (hf : flatFields P fs.toList 0 = some ks) : PureOk P o (.eqAgg ks neg x' y') := by
  intro f h res he
  simp only [AOp.eval] at he
  split at he
  · rename_i l m hl hm
    cases hb : leavesEq ks l m with
    | none => simp [hb] at he
    | some b =>
      simp [hb] at he
      subst he
      refine ⟨_, rfl, fun h₂ => by simp [AOp.eval, hl, hm, hb], fun μ a w hr => ?_⟩
      have hxr := cOpd_rel hx hr
      have hyr := cOpd_rel hy hr
      rw [hl] at hxr
      rw [hm] at hyr
      obtain ⟨xs, hxs, hxrel⟩ := VRel.agg_iff.1 hxr
      obtain ⟨ys, hys, hyrel⟩ := VRel.agg_iff.1 hyr
      refine ⟨_, .bool _, run_value (s := do eqGuard (if neg then .neq else .eql) t x y (a.eval x) (a.eval y); binOp (if neg then .neq else .eql) t (a.eval x) (a.eval y)) ?_ (by simp only [execOp, ho])⟩
      rw [hxs, hys]
      have hfo : P.fieldsOf t = fs := by simp [Program.fieldsOf, ht]
      have heq : (Op.equal t (.agg xs) (.agg ys)).run P w = .ok b w := by
        show (Op.equalIn (9998 + 1 + 1) t (.agg xs) (.agg ys)).run P w = .ok b w
        rw [run_equalIn_struct w (9998 + 1) t xs ys (by rw [hfo]; exact ht) hs, hfo]
        exact eqFields_run hxrel hyrel 9998 w fs.toList 0 ks b hf (by simpa using hb)
      have hgr : (eqGuard (if neg then .neq else .eql) t x y (.agg xs) (.agg ys)).run P w = .ok () w := by
        cases neg <;> simp [eqGuard, hg]
      rw [Sem.run_bind, hgr, Result.andThen_ok]
      exact binOp_eq_run (by simp) (by simp) (by simp) (by simp) heq
  · cases he
def isConstO : Operand→Bool
 | .const _ => true
 | _ => false
def eqOp : BinOp→Option Bool
 | .eql => some false
 | .neq => some true
 | _ => none
def cBin (P : Program) (op : BinOp) (t : TypeId) (x y : Operand) : Option AOp :=
 match cOpd x,cOpd y,P.underlying t with
 | some a,some b,some d =>
  match d with
  | .int _ | .string => some (.bin op a b)
  | .bool => (eqOp op).map fun neg => .eqB neg a b
  | .struct fs => match eqOp op,flatFields P fs.toList 0 with
   | some neg,some ks => if P.stoodInHeld t=false∧P.eqGuardType P.depth t=false then some (.eqAgg ks neg a b) else none
   | _,_ => none
  | d => match eqOp op,nilKind d with
   | some neg,some k => if k=4→(isConstO x || isConstO y)=true then some (.eqNil k neg a b) else none
   | _,_ => none
 | _,_,_ => none
def cConv (P : Program) (s t : TypeId) (x : Operand) : Option AOp :=
 match cOpd x,P.underlying s,P.underlying t with
 | some a,some ds,some dt =>
  match dt,ds with
  | .int k,_ => some (.toInt k a)
  | .string,.string => some (.asStr a)
  | .string,.slice e => match P.underlying e with
   | some (.int .u8) => some (.toStr a)
   | _ => none
  | .slice e,.slice _ => match P.underlying e with
   | some (.int .u8) => if s=t then some (.mark a) else none
   | _ => none
  | .slice e,_ => match P.underlying e with
   | some (.int .u8) => some (.toBytes a)
   | _ => none
  | _,_ => none
 | _,_,_ => none
def cSlice (P : Program) (t : TypeId) (x : Operand) (lo hi mx : Option Operand) : Option AOp :=
 match cOpd x,cOpt lo,cOpt hi,cOpt mx with
 | some a,some l,some h,some m =>
  match P.underlying t with
  | some .string => if mx.isNone then some (.slcStr a l h) else none
  | some (.slice e) => (P.info? e).map fun i => .slc i.size a l h m
  | some (.array n e) => (P.info? e).map fun i => .slcArr n i.size a l h m
  | _ => none
 | _,_,_,_ => none
def cZero (P : Program) (e : TypeId) : Option (TypeInfo×List AV) :=
 match P.info? e with
 | some i => match i.zero with
  | some z => match cLeaves z.cells.toList with
   | some l => if z.cells.size=i.size then some (i,l) else none
   | none => none
  | none => none
 | none => none
def cBuiltin (P : Program) (b : Builtin) (args : Array Operand) (ts : Array TypeId) : Option AOp :=
 match b,args.toList,ts.toList with
 | .len,[x],[t] => match cOpd x,P.underlying t with
  | some a,some .string => some (.lenStr a)
  | some a,some (.slice _) => some (.lenSlice a)
  | some a,some (.map _ _) => some (.lenMap a)
  | _,some (.array n _) => some (.lenC n)
  | _,some (.pointer arr) => match P.underlying arr with
   | some (.array n _) => some (.lenC n)
   | _ => none
  | _,_ => none
 | .cap,[x],[t] => match cOpd x,P.underlying t with
  | some a,some (.slice _) => some (.capSlice a)
  | _,_ => none
 | .append,[x,y],[t,u] => match cOpd x,cOpd y,P.underlying t,P.underlying u with
  | some a,some c,some (.slice e),some d => match cZero P e with
   | some (i,l) => match d with
    | .int _ => some (.appendZ i.size i.bytes l a c)
    | .string => if i.size=1∧i.bytes=1 then some (.appendStr a c) else none
    | _ => some (.append i.size i.bytes a c)
   | none => none
  | _,_,_,_ => none
 | .copy,[x,y],t :: u :: _ => match cOpd x,cOpd y,P.underlying t,P.underlying u with
  | some a,some c,some (.slice e),some .string => match P.info? e with
   | some i => if i.size=1 then some (.copyStr a c) else none
   | none => none
  | some a,some c,some (.slice e),some _ => (P.info? e).map fun i => .copy i.size a c
  | _,_,_,_ => none
 | .clear,[x],t :: _ => match cOpd x,P.underlying t with
  | some a,some (.slice e) => (cZero P e).map fun p => .clear p.1.size p.2 a
  | _,_ => none
 | .delete,[x,y],t :: _ => match cOpd x,cOpd y,P.underlying t with
  | some a,some c,some (.map k _) => match P.underlying k with
   | some d => (keyKind d).map fun kk => .del kk a c
   | none => none
  | _,_,_ => none
 | .min,l,_ => (cOpds l).map (.mnx false)
 | .max,l,_ => (cOpds l).map (.mnx true)
 | _,_,_ => none
def cCall (P : Program) (c : Call) : Option AOp :=
 match c.callee with
 | .builtin b => cBuiltin P b c.args c.argTypes
 | .value (.func g) => if fnLow (.func g) then (cOpds c.args.toList).map (.call g) else none
 | .value x => match cOpd x,cOpds c.args.toList with
  | some a,some l => some (.callV a l)
  | _,_ => none
 | .invoke x name => match cOpd x,cOpds c.args.toList with
  | some a,some l => if (mTable P name).all (fun r => fnLow (.func r.2.1)) then some (.callM (mTable P name) a l) else none
  | _,_ => none
def cOp (P : Program) : Op→Option AOp
 | .move x | .assign x => (cOpd x).map .mov
 | .pick c a b => match cOpd c,cOpd a,cOpd b with
  | some c,some a,some b => some (.pick c a b)
  | _,_,_ => none
 | .alloc e => (cZero P e).map fun p => .new p.2
 | .box _ x => (cOpd x).map .box
 | .build t parts => match cZero P t,P.underlying t with
  | some (_,l),some (.struct fs) => (structPlaces P fs).bind fun pl => (cParts (fun i => pl[i]?) parts.toList).map (.build l)
  | some (_,l),some (.array _ e) => (P.info? e).bind fun i => (cParts (fun k => some (k * i.size,i.size)) parts.toList).map (.build l)
  | _,_ => none
 | .buildSlice t len parts => match P.underlying t with
  | some (.slice e) => match P.info? e with
   | some i => if len * i.size≤16777216 then
     (if len * i.size=0 then some #[] else i.zero.map Value.cells).bind fun zc =>
      (cLeaves ((Array.range (len * i.size)).map (zc[· % zc.size]!)).toList).bind fun l => (cParts (fun k => some (k * i.size,i.size)) parts.toList).map (.buildSlice i.size len l)
    else none
   | none => none
  | _ => none
 | .load t a => match cOpd a,aggOf P t,P.info? t with
  | some a,some b,some i => some (.load b i.size a)
  | _,_,_ => none
 | .store t a v => match cOpd a,cOpd v,P.info? t with
  | some a,some v,some i => some (.store i.size a v)
  | _,_,_ => none
 | .nilCheck x => (cOpd x).map .nilChk
 | .binOp op t x y _ => cBin P op t x y
 | .unOp op _ x => (cOpd x).map (.un op)
 | .convert s t x => cConv P s t x
 | .makeInterface t x => match cOpd x,P.underlying t with
  | some a,some d => if notIface d=true then some (.mkIface t a) else none
  | _,_ => none
 | .makeFunc fn first caps => match cOpds first.toList,cOpds caps.toList with
  | some a,some b => if fnLow fn then some (.mkFunc fn a b) else none
  | _,_ => none
 | .makeMap _ none => some .mkMap
 | .makeSlice t l c => match cOpd l,cOpd c,P.underlying t with
  | some l,some c,some (.slice e) => (cZero P e).map fun p => .mkSlice p.1.size p.1.bytes p.2 l c
  | _,_,_ => none
 | .slice t x lo hi mx => cSlice P t x lo hi mx
 | .fieldAddr t x i => match cOpd x,P.underlying t with
  | some a,some (.struct fs) => match fs[i]? with
   | some fd => match P.info? fd.type with
    | some inf => if inf.size≠0 then some (.fieldAddr fd.offset a) else none
    | none => none
   | none => none
  | _,_ => none
 | .field t x i => match cOpd x,P.underlying t with
  | some a,some (.struct fs) => match fs[i]? with
   | some fd => match aggOf P fd.type,P.info? fd.type with
    | some b,some inf => some (.field b fd.offset inf.size a)
    | _,_ => none
   | none => none
  | _,_ => none
 | .indexAddr t x y => match cOpd x,cOpd y,P.underlying t with
  | some a,some b,some (.slice e) => (P.info? e).map fun i => .idxAddr i.size a b
  | some a,some b,some (.array n e) => (P.info? e).map fun i => .idxAddrArr n i.size a b
  | _,_,_ => none
 | .index t x y => match cOpd x,cOpd y,P.underlying t with
  | some a,some b,some .string => some (.idxStr a b)
  | some a,some b,some (.array n e) => match aggOf P e,P.info? e with
   | some g,some i => some (.idxArr g n i.size a b)
   | _,_ => none
  | _,_,_ => none
 | .lookup t x y ok => match cOpd x,cOpd y,P.underlying t with
  | some a,some b,some (.map k e) => match P.underlying k,P.info? e with
   | some d,some i => match keyKind d,i.zero with
    | some kk,some z => (cVal z).map fun z' => .lookup kk z' ok a b
    | _,_ => none
   | _,_ => none
  | _,_,_ => none
 | .mapUpdate t m k v | .insert t m k v => match cOpd m,cOpd k,cOpd v,P.underlying t with
  | some a,some b,some c,some (.map k _) => match P.underlying k with
   | some d => (keyKind d).map fun kk => .mapUpd kk a b c
   | none => none
  | _,_,_,_ => none
 | .typeAssert x _ t ok => match cOpd x,P.underlying t,P.info? t with
  | some a,some d,some i => if notIface d=true then
    match i.zero with
    | some z => (cVal z).map fun z' => .assertT t z' ok a
    | none => none
   else none
  | _,_,_ => none
 | .extract x i => (cOpd x).map (.extract · i)
 | .call c => cCall P c
 | _ => none
def ClsOk (P : Program) (o : Oper) (x : AOp) : Prop :=
 match x.cls with
 | 0 => PureOk P o x
 | 1 => LookOk P o x
 | 2 => MakeOk P o x
 | _ => OpOk' P o x
theorem ClsOk.ok {x : AOp} (h : ClsOk P o x) : OpOk' P o x:=by
 unfold ClsOk at h
 split at h
 ·exact h.ok.ok'
 ·exact h.ok.ok'
 ·exact h.ok.ok'
 ·exact h
theorem cZero_inv {e : TypeId} {i : TypeInfo} {l : List AV} (h : cZero P e=some (i,l)) : P.info? e=some i∧∃ z,i.zero=some z∧cLeaves z.cells.toList=some l∧z.cells.size=i.size:=by
 unfold cZero at h
 split at h
 ·rename_i i' hi
  split at h
  ·rename_i z hz
   split at h
   ·rename_i l' hl
    split at h
    ·cases h; exact ⟨hi,z,hz,hl,‹_›⟩
    ·cases h
   ·cases h
  ·cases h
 ·cases h
theorem eqOp_inv {op : BinOp} {neg : Bool} (h : eqOp op=some neg) : op=if neg then .neq else .eql:=by
 cases op <;> simp [eqOp] at h <;> subst h <;> rfl
theorem isConstO_inv {x : Operand} (h : isConstO x=true) : ∃ c,x = .const c:=by
 cases x <;> simp [isConstO] at h
 exact ⟨_,rfl⟩
theorem isInt_of {d : TypeDesc} (h : ∀ k,d ≠ .int k) : isIntD d=false:=by
 cases d <;> first | rfl | exact absurd rfl (h _)
theorem cBin_ok {op : BinOp} {t u : TypeId} {x y : Operand} {z : AOp} (ho : o.op = .binOp op t x y u) (h : cBin P op t x y=some z) : ClsOk P o z:=by
 unfold cBin at h
 split at h
 ·rename_i a b d hx hy ht
  split at h
  ·cases h; exact ok_bin ho hx hy
  ·cases h; exact ok_bin ho hx hy
  ·cases he : eqOp op with
   | none => simp [he] at h
   | some neg => simp [he] at h; subst h; exact ok_eqB (eqOp_inv he ▸ ho) hx hy ht
  ·rename_i fs
   split at h
   ·rename_i neg ks he hf
    split at h
    ·rename_i hc; cases h; exact ok_eqAgg (eqOp_inv he ▸ ho) hx hy ht hc.1 hc.2 hf
    ·cases h
   ·cases h
  ·split at h
   ·rename_i neg k he hk
    split at h
    ·rename_i hc
     cases h
     refine ok_eqNil (eqOp_inv he ▸ ho) hx hy ht hk (fun h4 => ?_)
     have:=hc h4
     simp only [Bool.or_eq_true] at this
     rcases this with h1 | h1
     ·exact .inl (isConstO_inv h1)
     ·exact .inr (isConstO_inv h1)
    ·cases h
   ·cases h
 ·cases h
theorem cConv_ok {s t : TypeId} {x : Operand} {z : AOp} (ho : o.op = .convert s t x) (h : cConv P s t x=some z) : ClsOk P o z:=by
 unfold cConv at h
 split at h
 ·rename_i a ds dt hx hs ht
  split at h
  ·cases h; exact ok_toInt ho hx hs ht
  ·cases h; exact ok_asStr ho hx hs ht
  ·split at h
   ·cases h; exact ok_toStr ho hx hs ‹_› ht
   ·cases h
  ·split at h
   ·split at h
    ·rename_i hst; subst hst; cases h; exact (ok_mark ho hx ht ‹_›).ok'
    ·cases h
   ·cases h
  ·split at h
   ·cases h; exact ok_toBytes ho hx hs ht ‹_›
   ·cases h
  ·cases h
 ·cases h
theorem cSlice_ok {t : TypeId} {x : Operand} {lo hi mx : Option Operand} {z : AOp} (ho : o.op = .slice t x lo hi mx) (h : cSlice P t x lo hi mx=some z) : ClsOk P o z:=by
 unfold cSlice at h
 split at h
 ·rename_i a l hh m hx h1 h2 h3
  split at h
  ·rename_i ht
   split at h
   ·rename_i hn
    cases h
    have : mx=none:=by cases mx <;> simp_all
    subst this
    exact ok_slcStr ho hx h1 h2 ht
   ·cases h
  ·rename_i e ht
   cases hi : P.info? e with
   | none => simp [hi] at h
   | some i => simp [hi] at h; subst h; exact ok_slc ho hx h1 h2 h3 ht hi
  ·rename_i n e ht
   cases hi : P.info? e with
   | none => simp [hi] at h
   | some i => simp [hi] at h; subst h; exact ok_slcArr ho hx h1 h2 h3 ht hi
  ·cases h
 ·cases h
theorem arr_of_toList {α : Type} {a : Array α} {l : List α} (h : a.toList=l) : a=l.toArray:=by rw [← h]
theorem cBuiltin_ok {b : Builtin} {args : Array Operand} {ts : Array TypeId} {z : AOp} (ho : o.op = .call { callee := .builtin b,args:=args,argTypes:=ts }) (h : cBuiltin P b args ts=some z) : ClsOk P o z:=by
 unfold cBuiltin at h
 split at h
 ·rename_i x t ha hts
  rw [arr_of_toList ha,arr_of_toList hts] at ho
  split at h
  ·cases h; exact ok_lenStr ho ‹_› ‹_›
  ·cases h; exact ok_lenSlice ho ‹_› ‹_›
  ·cases h; exact ok_lenMap ho ‹_› ‹_›
  ·cases h; exact ok_lenC ho (.inl ‹_›)
  ·split at h
   ·cases h; exact ok_lenC ho (.inr ⟨_,‹_›,‹_›⟩)
   ·cases h
  ·cases h
 ·rename_i x t ha hts
  rw [arr_of_toList ha,arr_of_toList hts] at ho
  split at h
  ·cases h; exact ok_capSlice ho ‹_› ‹_›
  ·cases h
 ·rename_i x y t u ha hts
  rw [arr_of_toList ha,arr_of_toList hts] at ho
  split at h
  ·rename_i a c e d hx hy ht hu
   split at h
   ·rename_i i l hz
    obtain ⟨hi,zv,hzz,hzl,hzs⟩:=cZero_inv hz
    split at h
    ·cases h; exact (ok_appendZ ho hx hy ht hu hi hzz hzs hzl).ok'
    ·split at h
     ·rename_i hc; cases h; exact (ok_appendStr ho hx hy ht hu hi hzz hzs hc.1 hc.2).ok'
     ·cases h
    ·rename_i hn1 hn2
     cases h
     exact (ok_append ho hx hy ht hu (isInt_of hn1) hi hzz hzs).ok'
   ·cases h
  ·cases h
 ·rename_i x y t u r ha hts
  rw [arr_of_toList ha] at ho
  have hts0 : ts[0]?=some t:=by rw [← Array.getElem?_toList,hts]; rfl
  split at h
  ·rename_i a c e hx hy ht hu
   split at h
   ·rename_i i hi
    split at h
    ·cases h; exact (ok_copyStr ho hts0 hx hy ht hi ‹_›).ok'
    ·cases h
   ·cases h
  ·rename_i a c e d hns hx hy ht hu
   cases hi : P.info? e with
   | none => simp [hi] at h
   | some i => simp [hi] at h; subst h; exact (ok_copy (u:=u) ho hts0 hx hy ht hi).ok'
  ·cases h
 ·rename_i x t r ha hts
  rw [arr_of_toList ha] at ho
  have hts0 : ts[0]?=some t:=by rw [← Array.getElem?_toList,hts]; rfl
  split at h
  ·rename_i a e hx ht
   cases hz : cZero P e with
   | none => simp [hz] at h
   | some p =>
    obtain ⟨i,l⟩:=p
    simp [hz] at h
    subst h
    obtain ⟨hi,zv,hzz,hzl,hzs⟩:=cZero_inv hz
    exact (ok_clear ho hts0 hx ht hi hzz hzs hzl).ok'
  ·cases h
 ·rename_i x y t r ha hts
  rw [arr_of_toList ha] at ho
  have hts0 : ts[0]?=some t:=by rw [← Array.getElem?_toList,hts]; rfl
  split at h
  ·rename_i a c k e hx hy ht
   split at h
   ·rename_i d hu
    cases hk : keyKind d with
    | none => simp [hk] at h
    | some kk => simp [hk] at h; subst h; exact (ok_del ho hts0 hx hy ht hu hk).ok'
   ·cases h
  ·cases h
 ·cases hx : cOpds args.toList with
  | none => simp [hx] at h
  | some l => simp [hx] at h; subst h; exact ok_mnx (isMax:=false) ho hx
 ·cases hx : cOpds args.toList with
  | none => simp [hx] at h
  | some l => simp [hx] at h; subst h; exact ok_mnx (isMax:=true) ho hx
 ·cases h
theorem cCall_ok {c : Call} {z : AOp} (ho : o.op = .call c) (h : cCall P c=some z) : ClsOk P o z:=by
 obtain ⟨callee,args,ts⟩:=c
 unfold cCall at h
 simp only at h
 split at h
 ·exact cBuiltin_ok ho h
 ·cases hx : cOpds args.toList with
  | none => simp [hx] at h
  | some l =>
   split at h
   ·rename_i hs; simp [hx] at h; subst h; exact ok_call hs ho hx
   ·cases h
 ·split at h
  ·cases h; exact ok_callV ho ‹_› ‹_›
  ·cases h
 ·split at h
  ·split at h
   ·rename_i hs; cases h; exact ok_callM hs ho ‹_› ‹_›
   ·cases h
  ·cases h
theorem cOp_ok {z : AOp} (h : cOp P o.op=some z) : ClsOk P o z:=by
 cases hop : o.op <;> rw [hop] at h <;> simp only [cOp] at h
 case move x => cases hx : cOpd x <;> simp [hx] at h; subst h; exact ok_mov (.inl hop) hx
 case assign x => cases hx : cOpd x <;> simp [hx] at h; subst h; exact ok_mov (.inr hop) hx
 case pick c a b =>
  split at h
  ·cases h; exact ok_pick hop ‹_› ‹_› ‹_›
  ·cases h
 case alloc e =>
  cases hz : cZero P e with
  | none => simp [hz] at h
  | some p =>
   obtain ⟨i,l⟩:=p
   simp [hz] at h
   subst h
   obtain ⟨hi,zv,hzz,hzl,hzs⟩:=cZero_inv hz
   exact ok_new hop hi hzz hzl
 case box e x => cases hx : cOpd x <;> simp [hx] at h; subst h; exact ok_box hop hx
 case build t parts =>
  split at h
  ·rename_i i l fs hz ht
   obtain ⟨hi,zv,hzz,hzl,hzs⟩:=cZero_inv hz
   cases hp : structPlaces P fs with
   | none => simp [hp] at h
   | some pl =>
    simp only [hp,Option.bind_some] at h
    cases hq : cParts (fun i => pl[i]?) parts.toList with
    | none => simp [hq] at h
    | some qs => simp [hq] at h; subst h; exact ok_build hop hi hzz hzl hq (.inl ⟨fs,pl,ht,hp,rfl⟩)
  ·rename_i i l n e hz ht
   obtain ⟨hi,zv,hzz,hzl,hzs⟩:=cZero_inv hz
   cases hie : P.info? e with
   | none => simp [hie] at h
   | some ie =>
    simp only [hie,Option.bind_some] at h
    cases hq : cParts (fun k => some (k * ie.size,ie.size)) parts.toList with
    | none => simp [hq] at h
    | some qs => simp [hq] at h; subst h; exact ok_build hop hi hzz hzl hq (.inr ⟨n,e,ie,ht,hie,rfl⟩)
  ·cases h
 case buildSlice t len parts =>
  split at h
  ·rename_i e ht
   split at h
   ·rename_i i hi
    split at h
    ·rename_i hle
     cases hzc : (if len * i.size=0 then some #[] else i.zero.map Value.cells) with
     | none => simp [hzc] at h
     | some zc =>
      simp only [hzc,Option.bind_some] at h
      cases hl : cLeaves ((Array.range (len * i.size)).map (zc[· % zc.size]!)).toList with
      | none => simp only [hl,Option.bind_none] at h; cases h
      | some l =>
       simp only [hl,Option.bind_some] at h
       cases hq : cParts (fun k => some (k * i.size,i.size)) parts.toList with
       | none => simp [hq] at h
       | some qs =>
        simp [hq] at h
        subst h
        refine ok_buildSlice hop ht hi ?_ (by omega) hl hq
        split at hzc
        ·cases hzc; exact .inl ⟨‹_›,rfl⟩
        ·exact .inr ⟨‹_›,hzc⟩
    ·cases h
   ·cases h
  ·cases h
 case load t a =>
  split at h
  ·cases h; exact ok_load hop ‹_› ‹_› ‹_›
  ·cases h
 case store t a v =>
  split at h
  ·cases h; exact (ok_store hop ‹_› ‹_› ‹_›).ok'
  ·cases h
 case nilCheck x => cases hx : cOpd x <;> simp [hx] at h; subst h; exact ok_nilChk hop hx
 case binOp op t x y u => exact cBin_ok hop h
 case unOp op t x => cases hx : cOpd x <;> simp [hx] at h; subst h; exact ok_un hop hx
 case convert s t x => exact cConv_ok hop h
 case makeInterface t x =>
  split at h
  ·split at h
   ·cases h; exact ok_mkIface hop ‹_› ‹_› ‹_›
   ·cases h
  ·cases h
 case makeFunc fn first caps =>
  split at h
  ·split at h
   ·cases h; exact ok_mkFunc ‹_› hop ‹_› ‹_›
   ·cases h
  ·cases h
 case makeMap t r =>
  cases r with
  | none => simp only at h; cases h; exact ok_mkMap hop rfl
  | some r => simp at h
 case makeSlice t l c =>
  split at h
  ·rename_i l' c' e hl hc ht
   cases hz : cZero P e with
   | none => simp [hz] at h
   | some p =>
    obtain ⟨i,zl⟩:=p
    simp [hz] at h
    subst h
    obtain ⟨hi,zv,hzz,hzl,hzs⟩:=cZero_inv hz
    exact ok_mkSlice hop hl hc ht hi hzz hzs hzl
  ·cases h
 case slice t x lo hi mx => exact cSlice_ok hop h
 case fieldAddr t x i =>
  split at h
  ·split at h
   ·split at h
    ·split at h
     ·cases h; exact ok_fieldAddr hop ‹_› ‹_› ‹_› ‹_› ‹_›
     ·cases h
    ·cases h
   ·cases h
  ·cases h
 case field t x i =>
  split at h
  ·split at h
   ·split at h
    ·cases h; exact ok_field hop ‹_› ‹_› ‹_› ‹_› ‹_›
    ·cases h
   ·cases h
  ·cases h
 case indexAddr t x y =>
  split at h
  ·rename_i a b e hx hy ht
   cases hi : P.info? e with
   | none => simp [hi] at h
   | some i => simp [hi] at h; subst h; exact ok_idxAddr hop hx hy ht hi
  ·rename_i a b n e hx hy ht
   cases hi : P.info? e with
   | none => simp [hi] at h
   | some i => simp [hi] at h; subst h; exact ok_idxAddrArr hop hx hy ht hi
  ·cases h
 case index t x y =>
  split at h
  ·cases h; exact ok_idxStr hop ‹_› ‹_› ‹_›
  ·split at h
   ·cases h; exact ok_idxArr hop ‹_› ‹_› ‹_› ‹_› ‹_›
   ·cases h
  ·cases h
 case lookup t x y ok =>
  split at h
  ·split at h
   ·split at h
    ·obtain ⟨z',hz',rfl⟩:=Option.map_eq_some_iff.1 h
     exact ok_lookup hop ‹_› ‹_› ‹_› ‹_› ‹_› ‹_› ‹_› hz'
    ·cases h
   ·cases h
  ·cases h
 case mapUpdate t m k v =>
  split at h
  ·rename_i a b c kt e hm hk hv ht
   split at h
   ·rename_i d hu
    cases hkk : keyKind d with
    | none => simp [hkk] at h
    | some kk => simp [hkk] at h; subst h; exact (ok_mapUpd (.inl hop) hm hk hv ht hu hkk).ok'
   ·cases h
  ·cases h
 case insert t m k v =>
  split at h
  ·rename_i a b c kt e hm hk hv ht
   split at h
   ·rename_i d hu
    cases hkk : keyKind d with
    | none => simp [hkk] at h
    | some kk => simp [hkk] at h; subst h; exact (ok_mapUpd (.inr hop) hm hk hv ht hu hkk).ok'
   ·cases h
  ·cases h
 case typeAssert x u t ok =>
  split at h
  ·split at h
   ·split at h
    ·obtain ⟨z',hz',rfl⟩:=Option.map_eq_some_iff.1 h
     exact ok_assertT hop ‹_› ‹_› ‹_› ‹_› ‹_› hz'
    ·cases h
   ·cases h
  ·cases h
 case extract x i => cases hx : cOpd x <;> simp [hx] at h; subst h; exact ok_extract hop hx
 case call c => exact cCall_ok hop h
 all_goals cases h
end
end Go.Vm
/- Regions in the text's order,code,calls: the machine is sound (but for drawn regions: VmO). -/
namespace Go.Vm
open Go.RowKit
set_option linter.unusedSimpArgs false
set_option linter.unusedVariables false
structure FRel (D : List Deferred) (n : Nat) (μ : Inj) (f : Fr) (a : Act) : Prop where
 defers : a.defers=D
 size : a.tmps.size=n
 vals : ORels μ f a
theorem FRel.mono {D : List Deferred} {n : Nat} {μ ν : Inj} (hle : Inj.le μ ν) {f : Fr} {a : Act} (h : FRel D n μ f a) : FRel D n ν f a:=⟨h.defers,h.size,fun t => (h.vals t).mono hle⟩
theorem FRel.put {D : List Deferred} {n : Nat} {μ : Inj} {f : Fr} {a : Act} (h : FRel D n μ f a) {d : Option Nat} (hd : ∀ i,d=some i→i < n) {v : AV} {v' : Value} (hv : VRel μ v v') : FRel D n μ (f.put d v) (a.put d v'):=by
 cases d with
 | none => exact h
 | some i =>
  have hi:=hd i rfl
  refine ⟨h.defers,by simp [Act.put,h.size],fun t => ?_⟩
  rw [Fr.at_put]
  have:=h.vals t
  simp only [Act.eval,Act.put] at this ⊢
  by_cases e : i=t
  ·subst e
   rw [if_pos rfl]
   simp only [Array.getD_eq_getD_getElem?,Array.getElem?_setIfInBounds_self,h.size,hi,if_true,Option.getD_some]
   exact hv
  ·rw [if_neg e]
   simp only [Array.getD_eq_getD_getElem?] at this ⊢
   rw [Array.getElem?_setIfInBounds_ne e]
   exact this
theorem FRel.get {D : List Deferred} {n : Nat} {μ : Inj} {f : Fr} {a : Act} (h : FRel D n μ f a) {t : Nat} (ht : t < n) : ∃ v,a.tmps[t]?=some v∧VRel μ (f.at t) v:=by
 have hlt : t < a.tmps.size:=by rw [h.size]; exact ht
 refine ⟨a.tmps[t],Array.getElem?_eq_getElem hlt,?_⟩
 have:=h.vals t
 simp only [Act.eval,Array.getD_eq_getD_getElem?,Array.getElem?_eq_getElem hlt,Option.getD_some] at this
 exact this
def ASimAt (π : Pin) (P : Program) (g : Nat) (args : List AV) (h : AH) (r : AV) (h' : AH) : Prop :=
 ∀ (N : Keep π) (w₀ : World) (μ : Inj) (w : World) (vargs : Array Value),R N w₀ μ h w→VRels μ args vargs.toList →
  Calls P g vargs w fun e w' => ∃ μ' v',e = .returned v'∧Inj.Ext h.next h'.next μ μ'∧R N w₀ μ' h' w'∧VRel μ' r v'
def ASim (P : Program) (g : Nat) (args : List AV) (h : AH) (r : AV) (h' : AH) : Prop:=∀ ⦃π : Pin⦄,ASimAt π P g args h r h'
def XSim (P : Program) (g : Nat) (args : List AV) (h : AH) (r : AV) (h' : AH) : Prop :=
 ∀ ⦃π : Pin⦄ (N : Keep π) (w₀ : World) (μ : Inj) (w : World) (vargs : Array Value),R N w₀ μ h w→VRels μ args vargs.toList →
  ∃ μ' w' v',Inj.Ext h.next h'.next μ μ'∧R N w₀ μ' h' w'∧VRel μ' r v'∧(callFunc g vargs).run P w = .ok (.value v') w'
def CSimAt (π : Pin) (P : Program) (g : Nat) (args : List AV) (h : AH) (r : AV) (h' : AH) : Prop:=(CallOk P g∧ASimAt π P g args h r h')∨XSim P g args h r h'
def CSim (P : Program) (g : Nat) (args : List AV) (h : AH) (r : AV) (h' : AH) : Prop:=(CallOk P g∧ASim P g args h r h')∨XSim P g args h r h'
theorem CSim.at {P : Program} {g : Nat} {args : List AV} {h : AH} {r : AV} {h' : AH} (c : CSim P g args h r h') (π : Pin) : CSimAt π P g args h r h':=c.imp (fun x => ⟨x.1,fun N => x.2 N⟩) id
def YSim (π : Pin) (P : Program) (q : Nat) (args : List AV) (h : AH) (r : AV) (h' : AH) : Prop :=
 ∀ (N : Keep π) (w₀ : World) (μ : Inj) (w : World) (vargs : Array Value) (l : Nat),R N w₀ μ h w→VRels μ args vargs.toList→μ q=some (l,0,0) →
  YieldAt Fence.wide 0 P l vargs w fun e w' => ∃ μ' v',e = .returned v'∧Inj.Ext h.next h'.next μ μ'∧R N w₀ μ' h' w'∧VRel μ' r v'
def HOk (π : Pin) (P : Program) (call : Handler) : Prop :=
 (∀ (g : Nat) (args : List AV) (h : AH) (r : AV) (h' : AH),g < YB→call g args h=some (r,h')→CSimAt π P g args h r h') ∧
 ∀ (q : Nat) (args : List AV) (h : AH) (r : AV) (h' : AH),call (YB + q) args h=some (r,h')→YSim π P q args h r h'
def rnd (ρ : Option Nat) : Fence:={ Fence.wide with round:=ρ }
theorem callsIn_rnd {ρ : Option Nat} {n : Nat} {P : Program} {f : FuncId} {args : Array Value} {w : World} {R : Ending→World→Prop} (h : Calls P f args w R) : CallsIn (rnd ρ) n P f args w R:=(callsIn_wide (n:=n)).2 h
theorem roundIn_rnd {ρ : Option Nat} {n m : Nat} {P : Program} {l : Nat} {f : FuncId} {tmps : Array Value} {assign body : Code} {w : World} {R : Ending→World→Prop} (h : RoundIn Fence.wide m P l f tmps assign body w R) : RoundIn (rnd ρ) n P l f tmps assign body w R :=
 ⟨trivial,fun c cs _ => h.2 c cs (room_wide _)⟩
theorem no_depth {ρ : Option Nat} {n : Nat} : (rnd ρ).depth.isSome=true→1≤n:=fun h => by cases h
section
variable {P : Program} {D : List Deferred}
def cGuard (n : Nat) (ops : Array Oper) : Option (Nat×Bool)→Option (Option (Nat×Bool))
 | none => some none
 | some (j,want) => match (ops[j]?).bind (·.dst) with
  | some t => if t < n then some (some (t,want)) else none
  | none => none
def dstOk (n : Nat) : Option Nat→Bool
 | none => true
 | some i => decide (i < n)
def cOper (P : Program) (n : Nat) (ops : Array Oper) (o : Oper) : AOper :=
 match cGuard n ops o.guard,cOp P o.op with
 | some g,some x => if dstOk n o.dst then ⟨o.dst,x,g⟩ else ⟨none,.stuck,none⟩
 | _,_ => ⟨none,.stuck,none⟩
theorem cOper_inv {n : Nat} {ops : Array Oper} {o : Oper} {call : Handler} {f : Fr} {h : AH} {res : Fr×AH} (hr : (cOper P n ops o).run call f h=some res) :
  ∃ g x,cGuard n ops o.guard=some g∧cOp P o.op=some x∧(∀ i,o.dst=some i→i < n)∧cOper P n ops o=⟨o.dst,x,g⟩:=by
 unfold cOper at hr ⊢
 split at hr
 ·rename_i g x hg hx
  split at hr
  ·rename_i hd
   refine ⟨g,x,hg,hx,fun i hi => ?_,by simp [hd]⟩
   rw [hi] at hd
   simpa [dstOk] using hd
  ·cases hr
 ·cases hr
theorem wanted_rel {n : Nat} {ops : Array Oper} {o : Oper} {g : Option (Nat×Bool)} (hg : cGuard n ops o.guard=some g) {μ : Inj} {f : Fr} {a : Act} (hf : FRel D n μ f a) {b : Bool} (hb : wantedV f g=some b) :
  Region.wanted o (yielded ops a.tmps)=b:=by
 unfold Region.wanted
 cases hgo : o.guard with
 | none =>
  rw [hgo] at hg
  cases hg
  simp [wantedV] at hb
  exact hb.symm
 | some jw =>
  obtain ⟨j,want⟩:=jw
  rw [hgo] at hg
  simp only [cGuard] at hg
  split at hg
  ·rename_i t ht
   split at hg
   ·rename_i hlt
    cases hg
    obtain ⟨v,hv,hvr⟩:=hf.get hlt
    have hy : yielded ops a.tmps j=match v with | .bool b => some b | _ => none:=by
     unfold yielded
     rw [ht]
     simp only [Option.bind_some,hv]
     cases v <;> rfl
    simp only [wantedV] at hb
    split at hb
    ·rename_i b' hfb
     cases hb
     rw [hfb] at hvr
     have:=hvr.bool_inv
     subst this
     simp only [hy]
     cases b' <;> cases want <;> rfl
    ·rename_i l hfb
     cases hb
     rw [hfb] at hvr
     obtain ⟨l',hl',_⟩:=VRel.tuple_iff.1 hvr
     subst hl'
     simp only [hy]
     rfl
    ·cases hb
   ·cases hg
  ·cases hg
theorem oper_wp {ρ : Option Nat} {π : Pin} {call : Handler} (hcall : HOk π P call) {n : Nat} {ops : Array Oper} {o : Oper} {f f' : Fr} {h h' : AH} (hr : (cOper P n ops o).run call f h=some (f',h')) {N : Keep π} {w₀ : World} {μ : Inj} {a : Act} {w : World}
  (hf : FRel D n μ f a) (hR : R N w₀ μ h w) {K : Act→World→Prop} {Q : Exit→Act→World→Prop} (hK : ∀ μ' a' w',Inj.Ext h.next h'.next μ μ'→FRel D n μ' f' a'→R N w₀ μ' h' w'→K a' w') :
  (if Region.wanted o (yielded ops a.tmps) then o.wpIn (rnd ρ) 0 P a w K Q else (∀ f,o.about P w a.eval=some f→(rnd ρ).fn f)∧K (a.put o.dst undef) w):=by
 obtain ⟨g,x,hg,hx,hd,he⟩:=cOper_inv hr
 rw [he] at hr
 unfold AOper.run at hr
 simp only at hr
 cases hb : wantedV f g with
 | none => simp [hb] at hr
 | some b =>
  rw [wanted_rel hg hf hb]
  cases b
  ·simp only [hb,Option.some.injEq,Prod.mk.injEq] at hr
   obtain ⟨rfl,rfl⟩:=hr
   simp only [Bool.false_eq_true,if_false]
   exact ⟨fun _ _ => trivial,hK μ _ w (.refl (Nat.le_refl _)) (hf.put hd .none_undef) hR⟩
  ·simp only [if_true]
   refine ⟨fun _ _ => trivial,?_⟩
   have hnd : ∀ c,o.op ≠ .defer c:=fun c hc => by rw [hc] at hx; cases hx
   rw [Oper.semAt_eq _ _ _ hnd]
   simp only [hb] at hr
   cases hev : x.eval f h with
   | none => simp [hev] at hr
   | some res =>
    have hok:=(cOp_ok hx).ok N w₀ μ h w f a res hR hf.vals hev
    cases res with
    | val v h2 =>
     simp only [hev,Option.some.injEq,Prod.mk.injEq] at hr
     obtain ⟨rfl,rfl⟩:=hr
     obtain ⟨μ',w',v',hle,hR',hv,hrun⟩:=hok
     rcases hrun with hrun | ⟨hrun,rfl⟩
     ·rw [hrun,Oper.uponIn_value]
      exact hK μ' _ w' hle ((hf.mono hle.le).put hd hv) hR'
     ·rw [hrun,Oper.uponIn_skip]
      exact hK μ' _ w' hle ((hf.mono hle.le).put hd hv) hR'
    | call g2 args =>
     simp only [hev] at hr
     cases hc : call g2 args h with
     | none => simp [hc] at hr
     | some p =>
      obtain ⟨r,h2⟩:=p
      simp only [hc,Option.map_some,Option.some.injEq,Prod.mk.injEq] at hr
      obtain ⟨rfl,rfl⟩:=hr
      obtain ⟨args',hrun,hargs⟩:=hok
      rcases hrun with ⟨hrun,hlow⟩ | ⟨q,l,rfl,hq,hrun⟩
      case inr =>
       obtain ⟨fn,tmps,assign,body,hy,hround⟩:=hcall.2 _ _ _ _ _ hc N w₀ μ w args' l hR hargs hq
       rw [hrun,hy,Oper.uponIn_round]
       refine ⟨no_depth,roundIn_rnd (hround.mono ?_)⟩
       rintro e w' ⟨μ',v',rfl,hle,hR',hv⟩
       exact hK μ' _ w' hle ((hf.mono hle.le).put hd hv) hR'
      rcases hcall.1 _ _ _ _ _ hlow hc with ⟨hco,hsim⟩ | hsim
      ·rw [hrun,run_callFunc hco,Oper.uponIn_enter]
       refine ⟨no_depth,callsIn_rnd ((hsim N w₀ μ w args' hR hargs).mono ?_)⟩
       rintro e w' ⟨μ',v',rfl,hle,hR',hv⟩
       exact hK μ' _ w' hle ((hf.mono hle.le).put hd hv) hR'
      ·obtain ⟨μ',w',v',hle,hR',hv,hx⟩:=hsim N w₀ μ w args' hR hargs
       rw [hrun,hx,Oper.uponIn_value]
       exact hK μ' _ w' hle ((hf.mono hle.le).put hd hv) hR'
theorem ops_wp {ρ : Option Nat} {π : Pin} {call : Handler} (hcall : HOk π P call) {n : Nat} {ops : Array Oper} {N : Keep π} {w₀ : World} {Q : Exit→Act→World→Prop} : ∀ (k i : Nat) (f f' : Fr) (h h' : AH) (μ : Inj) (a : Act) (w : World),i + k=ops.size →
  runOps call ((ops.toList.drop i).map (cOper P n ops)) f h=some (f',h')→FRel D n μ f a→R N w₀ μ h w→(∀ μ' a' w',Inj.Ext h.next h'.next μ μ'→FRel D n μ' f' a'→R N w₀ μ' h' w'→Q .normal a' w') →
  wpOpsIn (rnd ρ) 0 P ops Q (List.range' i k) a w
 | 0,i,f,f',h,h',μ,a,w,hik,hr,hf,hR,hQ => by
  rw [List.drop_eq_nil_of_le (by simp; omega)] at hr
  cases hr
  exact hQ μ a w (.refl (Nat.le_refl _)) hf hR
 | k + 1,i,f,f',h,h',μ,a,w,hik,hr,hf,hR,hQ => by
  have hi : i < ops.toList.length:=by simp; omega
  obtain ⟨oi,hoi'⟩ : ∃ oi,ops.toList[i]=oi:=⟨_,rfl⟩
  rw [List.drop_eq_getElem_cons hi,List.map_cons,hoi'] at hr
  have hoi : ops[i]?=some oi:=by rw [← Array.getElem?_toList,← hoi']; exact List.getElem?_eq_getElem hi
  rw [List.range'_succ]
  simp only [wpOpsIn,hoi]
  simp only [runOps] at hr
  cases h1 : (cOper P n ops oi).run call f h with
  | none => simp [h1] at hr
  | some p =>
   obtain ⟨f1,h1'⟩:=p
   simp only [h1] at hr
   exact oper_wp hcall h1 hf hR fun μ' a' w' hle hf' hR' => ops_wp hcall k (i + 1) f1 f' h1' h' μ' a' w' (by omega) hr hf' hR' fun μ2 a2 w2 hle2 => hQ μ2 a2 w2 (hle.trans hle2)
end
end Go.Vm
/- What an operation reads: nothing else matters to it. -/
namespace Go.Vm
open Go.RowKit
set_option linter.unusedSimpArgs false
set_option linter.unusedVariables false
def AOpd.reads : AOpd→List Nat
 | .tmp t => [t]
 | .con _ => []
def optReads : Option AOpd→List Nat
 | some x => x.reads
 | none => []
def listReads : List AOpd→List Nat
 | [] => []
 | x :: r => x.reads ++ listReads r
def partReads : List (Nat×Nat×AOpd)→List Nat
 | [] => []
 | x :: r => x.2.2.reads ++ partReads r
def AOp.reads : AOp→List Nat
 | .mov x => x.reads
 | .pick c a b => c.reads ++ a.reads ++ b.reads
 | .new _ => []
 | .box x => x.reads
 | .build _ parts => partReads parts
 | .buildSlice _ _ _ parts => partReads parts
 | .load _ _ a => a.reads
 | .store _ a v => a.reads ++ v.reads
 | .nilChk x => x.reads
 | .bin _ x y => x.reads ++ y.reads
 | .eqB _ x y => x.reads ++ y.reads
 | .eqNil _ _ x y => x.reads ++ y.reads
 | .eqAgg _ _ x y => x.reads ++ y.reads
 | .un _ x => x.reads
 | .toInt _ x => x.reads
 | .asStr x => x.reads
 | .toBytes x => x.reads
 | .toStr x => x.reads
 | .mkIface _ x => x.reads
 | .mkFunc _ first caps => listReads first ++ listReads caps
 | .mkMap => []
 | .mkSlice _ _ _ l c => l.reads ++ c.reads
 | .slc _ x lo hi mx => x.reads ++ optReads lo ++ optReads hi ++ optReads mx
 | .slcStr x lo hi => x.reads ++ optReads lo ++ optReads hi
 | .slcArr _ _ x lo hi mx => x.reads ++ optReads lo ++ optReads hi ++ optReads mx
 | .fieldAddr _ x => x.reads
 | .field _ _ _ x => x.reads
 | .idxAddr _ x i => x.reads ++ i.reads
 | .idxAddrArr _ _ x i => x.reads ++ i.reads
 | .idxStr x i => x.reads ++ i.reads
 | .idxArr _ _ _ x i => x.reads ++ i.reads
 | .lookup _ _ _ m k => m.reads ++ k.reads
 | .mapUpd _ m k v => m.reads ++ k.reads ++ v.reads
 | .del _ m k => m.reads ++ k.reads
 | .lenStr x => x.reads
 | .lenSlice x => x.reads
 | .lenMap x => x.reads
 | .lenC _ => []
 | .capSlice x => x.reads
 | .mnx _ xs => listReads xs
 | .append _ _ s x => s.reads ++ x.reads
 | .appendStr s x => s.reads ++ x.reads
 | .appendZ _ _ _ s n => s.reads ++ n.reads
 | .copy _ d s => d.reads ++ s.reads
 | .copyStr d s => d.reads ++ s.reads
 | .clear _ _ x => x.reads
 | .mark x => x.reads
 | .extract x _ => x.reads
 | .assertT _ _ _ x => x.reads
 | .call _ args => listReads args
 | .callV x args => x.reads ++ listReads args
 | .callM _ recv args => recv.reads ++ listReads args
 | .stuck => []
variable {f g : Fr} {h : AH}
theorem val_congr {x : AOpd} (hr : ∀ t∈x.reads,f.at t=g.at t) : x.val f=x.val g:=by
 cases x
 ·exact hr _ (by simp [AOpd.reads])
 ·rfl
theorem opt_congr {x : Option AOpd} (hr : ∀ t∈optReads x,f.at t=g.at t) : x.map (·.val f)=x.map (·.val g):=by
 cases x
 ·rfl
 ·simp only [Option.map_some,val_congr (x:=_) hr]
theorem list_congr : ∀ {x : List AOpd},(∀ t∈listReads x,f.at t=g.at t)→x.map (·.val f)=x.map (·.val g)
 | [],_ => rfl
 | x :: r,hr => by
  simp only [List.map_cons]
  rw [val_congr (x:=x) fun t ht => hr t (by simp [listReads,ht]),list_congr (x:=r) fun t ht => hr t (by simp [listReads,ht])]
theorem part_congr : ∀ {x : List (Nat×Nat×AOpd)},(∀ t∈partReads x,f.at t=g.at t)→(x.map fun p => (p.1,p.2.1,p.2.2.val f))=x.map fun p => (p.1,p.2.1,p.2.2.val g)
 | [],_ => rfl
 | x :: r,hr => by
  simp only [List.map_cons]
  rw [val_congr (x:=x.2.2) fun t ht => hr t (by simp [partReads,ht]),part_congr (x:=r) fun t ht => hr t (by simp [partReads,ht])]
theorem AOp.eval_congr (x : AOp) (hr : ∀ t∈x.reads,f.at t=g.at t) : x.eval f h=x.eval g h:=by
 cases x
 case mov x =>
  have e0:=val_congr (x:=x) fun t ht => hr t (by simp [AOp.reads,ht])
  simp only [AOp.eval,e0]
 case pick c a b =>
  have e0:=val_congr (x:=c) fun t ht => hr t (by simp [AOp.reads,ht])
  have e1:=val_congr (x:=a) fun t ht => hr t (by simp [AOp.reads,ht])
  have e2:=val_congr (x:=b) fun t ht => hr t (by simp [AOp.reads,ht])
  simp only [AOp.eval,e0,e1,e2]
 case new zero =>
  rfl
 case box x =>
  have e0:=val_congr (x:=x) fun t ht => hr t (by simp [AOp.reads,ht])
  simp only [AOp.eval,e0]
 case build zero parts =>
  have e0:=part_congr (x:=parts) fun t ht => hr t (by simp [AOp.reads,ht])
  simp only [AOp.eval,e0]
 case buildSlice sz len zero parts =>
  have e0:=part_congr (x:=parts) fun t ht => hr t (by simp [AOp.reads,ht])
  simp only [AOp.eval,e0]
 case load agg n a =>
  have e0:=val_congr (x:=a) fun t ht => hr t (by simp [AOp.reads,ht])
  simp only [AOp.eval,e0]
 case store n a v =>
  have e0:=val_congr (x:=a) fun t ht => hr t (by simp [AOp.reads,ht])
  have e1:=val_congr (x:=v) fun t ht => hr t (by simp [AOp.reads,ht])
  simp only [AOp.eval,e0,e1]
 case nilChk x =>
  have e0:=val_congr (x:=x) fun t ht => hr t (by simp [AOp.reads,ht])
  simp only [AOp.eval,e0]
 case bin op x y =>
  have e0:=val_congr (x:=x) fun t ht => hr t (by simp [AOp.reads,ht])
  have e1:=val_congr (x:=y) fun t ht => hr t (by simp [AOp.reads,ht])
  simp only [AOp.eval,e0,e1]
 case eqB neg x y =>
  have e0:=val_congr (x:=x) fun t ht => hr t (by simp [AOp.reads,ht])
  have e1:=val_congr (x:=y) fun t ht => hr t (by simp [AOp.reads,ht])
  simp only [AOp.eval,e0,e1]
 case eqNil kind neg x y =>
  have e0:=val_congr (x:=x) fun t ht => hr t (by simp [AOp.reads,ht])
  have e1:=val_congr (x:=y) fun t ht => hr t (by simp [AOp.reads,ht])
  simp only [AOp.eval,e0,e1]
 case eqAgg ks neg x y =>
  have e0:=val_congr (x:=x) fun t ht => hr t (by simp [AOp.reads,ht])
  have e1:=val_congr (x:=y) fun t ht => hr t (by simp [AOp.reads,ht])
  simp only [AOp.eval,e0,e1]
 case un op x =>
  have e0:=val_congr (x:=x) fun t ht => hr t (by simp [AOp.reads,ht])
  simp only [AOp.eval,e0]
 case toInt k x =>
  have e0:=val_congr (x:=x) fun t ht => hr t (by simp [AOp.reads,ht])
  simp only [AOp.eval,e0]
 case asStr x =>
  have e0:=val_congr (x:=x) fun t ht => hr t (by simp [AOp.reads,ht])
  simp only [AOp.eval,e0]
 case toBytes x =>
  have e0:=val_congr (x:=x) fun t ht => hr t (by simp [AOp.reads,ht])
  simp only [AOp.eval,e0]
 case toStr x =>
  have e0:=val_congr (x:=x) fun t ht => hr t (by simp [AOp.reads,ht])
  simp only [AOp.eval,e0]
 case mkIface t x =>
  have e0:=val_congr (x:=x) fun t ht => hr t (by simp [AOp.reads,ht])
  simp only [AOp.eval,e0]
 case mkFunc fn first caps =>
  have e0:=list_congr (x:=first) fun t ht => hr t (by simp [AOp.reads,ht])
  have e1:=list_congr (x:=caps) fun t ht => hr t (by simp [AOp.reads,ht])
  simp only [AOp.eval,e0,e1]
 case mkMap =>
  rfl
 case mkSlice sz bytes zero l c =>
  have e0:=val_congr (x:=l) fun t ht => hr t (by simp [AOp.reads,ht])
  have e1:=val_congr (x:=c) fun t ht => hr t (by simp [AOp.reads,ht])
  simp only [AOp.eval,e0,e1]
 case slc sz x lo hi mx =>
  have e0:=val_congr (x:=x) fun t ht => hr t (by simp [AOp.reads,ht])
  have e1:=opt_congr (x:=lo) fun t ht => hr t (by simp [AOp.reads,ht])
  have e2:=opt_congr (x:=hi) fun t ht => hr t (by simp [AOp.reads,ht])
  have e3:=opt_congr (x:=mx) fun t ht => hr t (by simp [AOp.reads,ht])
  simp only [AOp.eval,e0,e1,e2,e3]
 case slcStr x lo hi =>
  have e0:=val_congr (x:=x) fun t ht => hr t (by simp [AOp.reads,ht])
  have e1:=opt_congr (x:=lo) fun t ht => hr t (by simp [AOp.reads,ht])
  have e2:=opt_congr (x:=hi) fun t ht => hr t (by simp [AOp.reads,ht])
  simp only [AOp.eval,e0,e1,e2]
 case slcArr n sz x lo hi mx =>
  have e0:=val_congr (x:=x) fun t ht => hr t (by simp [AOp.reads,ht])
  have e1:=opt_congr (x:=lo) fun t ht => hr t (by simp [AOp.reads,ht])
  have e2:=opt_congr (x:=hi) fun t ht => hr t (by simp [AOp.reads,ht])
  have e3:=opt_congr (x:=mx) fun t ht => hr t (by simp [AOp.reads,ht])
  simp only [AOp.eval,e0,e1,e2,e3]
 case fieldAddr off x =>
  have e0:=val_congr (x:=x) fun t ht => hr t (by simp [AOp.reads,ht])
  simp only [AOp.eval,e0]
 case field agg off n x =>
  have e0:=val_congr (x:=x) fun t ht => hr t (by simp [AOp.reads,ht])
  simp only [AOp.eval,e0]
 case idxAddr sz x i =>
  have e0:=val_congr (x:=x) fun t ht => hr t (by simp [AOp.reads,ht])
  have e1:=val_congr (x:=i) fun t ht => hr t (by simp [AOp.reads,ht])
  simp only [AOp.eval,e0,e1]
 case idxAddrArr n sz x i =>
  have e0:=val_congr (x:=x) fun t ht => hr t (by simp [AOp.reads,ht])
  have e1:=val_congr (x:=i) fun t ht => hr t (by simp [AOp.reads,ht])
  simp only [AOp.eval,e0,e1]
 case idxStr x i =>
  have e0:=val_congr (x:=x) fun t ht => hr t (by simp [AOp.reads,ht])
  have e1:=val_congr (x:=i) fun t ht => hr t (by simp [AOp.reads,ht])
  simp only [AOp.eval,e0,e1]
 case idxArr agg n sz x i =>
  have e0:=val_congr (x:=x) fun t ht => hr t (by simp [AOp.reads,ht])
  have e1:=val_congr (x:=i) fun t ht => hr t (by simp [AOp.reads,ht])
  simp only [AOp.eval,e0,e1]
 case lookup kk zero commaOk m k =>
  have e0:=val_congr (x:=m) fun t ht => hr t (by simp [AOp.reads,ht])
  have e1:=val_congr (x:=k) fun t ht => hr t (by simp [AOp.reads,ht])
  simp only [AOp.eval,e0,e1]
 case mapUpd kk m k v =>
  have e0:=val_congr (x:=m) fun t ht => hr t (by simp [AOp.reads,ht])
  have e1:=val_congr (x:=k) fun t ht => hr t (by simp [AOp.reads,ht])
  have e2:=val_congr (x:=v) fun t ht => hr t (by simp [AOp.reads,ht])
  simp only [AOp.eval,e0,e1,e2]
 case del kk m k =>
  have e0:=val_congr (x:=m) fun t ht => hr t (by simp [AOp.reads,ht])
  have e1:=val_congr (x:=k) fun t ht => hr t (by simp [AOp.reads,ht])
  simp only [AOp.eval,e0,e1]
 case lenStr x =>
  have e0:=val_congr (x:=x) fun t ht => hr t (by simp [AOp.reads,ht])
  simp only [AOp.eval,e0]
 case lenSlice x =>
  have e0:=val_congr (x:=x) fun t ht => hr t (by simp [AOp.reads,ht])
  simp only [AOp.eval,e0]
 case lenMap x =>
  have e0:=val_congr (x:=x) fun t ht => hr t (by simp [AOp.reads,ht])
  simp only [AOp.eval,e0]
 case lenC n =>
  rfl
 case capSlice x =>
  have e0:=val_congr (x:=x) fun t ht => hr t (by simp [AOp.reads,ht])
  simp only [AOp.eval,e0]
 case mnx isMax xs =>
  have e0:=list_congr (x:=xs) fun t ht => hr t (by simp [AOp.reads,ht])
  simp only [AOp.eval,e0]
 case append sz bytes s x =>
  have e0:=val_congr (x:=s) fun t ht => hr t (by simp [AOp.reads,ht])
  have e1:=val_congr (x:=x) fun t ht => hr t (by simp [AOp.reads,ht])
  simp only [AOp.eval,e0,e1]
 case appendStr s x =>
  have e0:=val_congr (x:=s) fun t ht => hr t (by simp [AOp.reads,ht])
  have e1:=val_congr (x:=x) fun t ht => hr t (by simp [AOp.reads,ht])
  simp only [AOp.eval,e0,e1]
 case appendZ sz bytes zero s n =>
  have e0:=val_congr (x:=s) fun t ht => hr t (by simp [AOp.reads,ht])
  have e1:=val_congr (x:=n) fun t ht => hr t (by simp [AOp.reads,ht])
  simp only [AOp.eval,e0,e1]
 case copy sz d s =>
  have e0:=val_congr (x:=d) fun t ht => hr t (by simp [AOp.reads,ht])
  have e1:=val_congr (x:=s) fun t ht => hr t (by simp [AOp.reads,ht])
  simp only [AOp.eval,e0,e1]
 case copyStr d s =>
  have e0:=val_congr (x:=d) fun t ht => hr t (by simp [AOp.reads,ht])
  have e1:=val_congr (x:=s) fun t ht => hr t (by simp [AOp.reads,ht])
  simp only [AOp.eval,e0,e1]
 case clear sz zero x =>
  have e0:=val_congr (x:=x) fun t ht => hr t (by simp [AOp.reads,ht])
  simp only [AOp.eval,e0]
 case mark x =>
  have e0:=val_congr (x:=x) fun t ht => hr t (by simp [AOp.reads,ht])
  simp only [AOp.eval,e0]
 case extract x i =>
  have e0:=val_congr (x:=x) fun t ht => hr t (by simp [AOp.reads,ht])
  simp only [AOp.eval,e0]
 case assertT t zero commaOk x =>
  have e0:=val_congr (x:=x) fun t ht => hr t (by simp [AOp.reads,ht])
  simp only [AOp.eval,e0]
 case call f args =>
  have e0:=list_congr (x:=args) fun t ht => hr t (by simp [AOp.reads,ht])
  simp only [AOp.eval,e0]
 case callV x args =>
  have e0:=val_congr (x:=x) fun t ht => hr t (by simp [AOp.reads,ht])
  have e1:=list_congr (x:=args) fun t ht => hr t (by simp [AOp.reads,ht])
  simp only [AOp.eval,e0,e1]
 case callM table recv args =>
  have e0:=val_congr (x:=recv) fun t ht => hr t (by simp [AOp.reads,ht])
  have e1:=list_congr (x:=args) fun t ht => hr t (by simp [AOp.reads,ht])
  simp only [AOp.eval,e0,e1]
 case stuck =>
  rfl
def AOper.reads (o : AOper) : List Nat:=o.op.reads ++ (match o.guard with | some (t,_) => [t] | none => [])
theorem wantedV_congr {gd : Option (Nat×Bool)} (hr : ∀ t w,gd=some (t,w)→f.at t=g.at t) : wantedV f gd=wantedV g gd:=by
 cases gd with
 | none => rfl
 | some p => obtain ⟨t,w⟩:=p; simp only [wantedV,hr t w rfl]
theorem AOper.wanted_congr {o : AOper} (hr : ∀ t∈o.reads,f.at t=g.at t) : wantedV f o.guard=wantedV g o.guard :=
 wantedV_congr fun t w hg => hr t (by simp [AOper.reads,hg])
theorem AOper.eval_congr {o : AOper} (hr : ∀ t∈o.reads,f.at t=g.at t) : o.op.eval f h=o.op.eval g h :=
 AOp.eval_congr _ fun t ht => hr t (by simp [AOper.reads,ht])
theorem AOper.run_congr {call : Handler} {o : AOper} {f' : Fr} {h' : AH} (hr : ∀ t∈o.reads,f.at t=g.at t) (hrun : o.run call f h=some (f',h')) :
  ∃ v,f'=f.put o.dst v∧o.run call g h=some (g.put o.dst v,h'):=by
 unfold AOper.run at *
 rw [← AOper.wanted_congr hr,← AOper.eval_congr hr]
 cases hw : wantedV f o.guard with
 | none => simp [hw] at hrun
 | some b =>
  cases b
  ·simp only [hw,Option.some.injEq,Prod.mk.injEq] at hrun ⊢
   exact ⟨_,hrun.1.symm,rfl,hrun.2⟩
  ·simp only [hw] at hrun ⊢
   cases he : o.op.eval f h with
   | none => simp [he] at hrun
   | some res =>
    cases res with
    | val v h2 =>
     simp only [he,Option.some.injEq,Prod.mk.injEq] at hrun ⊢
     exact ⟨_,hrun.1.symm,rfl,hrun.2⟩
    | call g2 args =>
     simp only [he] at hrun ⊢
     cases hc : call g2 args h with
     | none => simp [hc] at hrun
     | some p =>
      simp only [hc,Option.map_some,Option.some.injEq,Prod.mk.injEq] at hrun ⊢
      exact ⟨_,hrun.1.symm,rfl,hrun.2⟩
def maskOf (acc : List Nat) (o : Oper) : Nat:=o.after.toList.foldl (fun s e => if Region.binds .any e then (s ||| 1 <<< e.on) ||| acc.getD e.on 0 else s) 0
def masksGo : List Oper→List Nat→List Nat
 | [],acc => acc
 | o :: r,acc => masksGo r (acc ++ [maskOf acc o])
def masks (ops : Array Oper) : List Nat:=masksGo ops.toList []
def has (M : List Nat) (i j : Nat) : Bool:=(M.getD i 0).testBit j
def Closed (ops : Array Oper) (L : Nat→Prop) : Prop:=∀ i o,ops[i]?=some o→L i→∀ e∈o.after,Region.binds .any e=true→L e.on
def Ready (ops : Array Oper) (L : Nat→Prop) (i : Nat) : Prop:=∃ o,ops[i]?=some o∧∀ e∈o.after,Region.binds .any e=true→L e.on
theorem testBit_one_shl (i j : Nat) : (1 <<< i).testBit j=decide (i=j):=by
 rw [Nat.one_shiftLeft,Nat.testBit_two_pow]
theorem maskOf_spec {L : Nat→Prop} {acc : List Nat} {o : Oper} (ha : ∀ k j,L k→(acc.getD k 0).testBit j=true→L j) (hd : ∀ e∈o.after,Region.binds .any e=true→L e.on) {j : Nat} (hj : (maskOf acc o).testBit j=true) : L j:=by
 have key : ∀ (es : List Edge) (s : Nat),(∀ e∈es,Region.binds .any e=true→L e.on)→(∀ j,s.testBit j=true→L j)→∀ j,(es.foldl (fun s e => if Region.binds .any e then (s ||| 1 <<< e.on) ||| acc.getD e.on 0 else s) s).testBit j=true→L j:=by
  intro es
  induction es with
  | nil => intro s _ hs j hj; exact hs j hj
  | cons e es ih =>
   intro s he hs j hj
   simp only [List.foldl_cons] at hj
   refine ih _ (fun e' h' => he e' (List.mem_cons_of_mem _ h')) ?_ j hj
   intro k hk
   by_cases hb : Region.binds .any e=true
   ·rw [if_pos hb,Nat.testBit_or,Nat.testBit_or,testBit_one_shl] at hk
    have hl:=he e (List.mem_cons_self ..) hb
    simp only [Bool.or_eq_true,decide_eq_true_eq] at hk
    rcases hk with (hk | hk) | hk
    ·exact hs k hk
    ·exact hk ▸ hl
    ·exact ha _ _ hl hk
   ·rw [if_neg hb] at hk; exact hs k hk
 exact key _ 0 (fun e he => hd e (by simpa using he)) (fun j hj => by simp at hj) j hj
theorem masks_spec {ops : Array Oper} {L : Nat→Prop} (hc : Closed ops L) {i j : Nat} (hr : Ready ops L i) (hj : has (masks ops) i j=true) : L j:=by
 have key : ∀ (l : List Oper) (acc : List Nat),(∀ k,acc.length≤k→ops[k]?=l[k - acc.length]?)→(∀ k j,k < acc.length→Ready ops L k→(acc.getD k 0).testBit j=true→L j) →
   ∀ k j,Ready ops L k→((masksGo l acc).getD k 0).testBit j=true→L j:=by
  intro l
  induction l with
  | nil =>
   intro acc hl ha k j hk hj
   rcases Nat.lt_or_ge k acc.length with h | h
   ·exact ha k j h hk hj
   ·obtain ⟨o,ho,_⟩:=hk
    rw [hl k h] at ho
    simp at ho
  | cons o r ih =>
   intro acc hl ha
   refine ih (acc ++ [maskOf acc o]) ?_ ?_
   ·intro k hk
    simp only [List.length_append,List.length_cons,List.length_nil,Nat.zero_add] at hk ⊢
    rw [hl k (by omega),show k - acc.length=(k - (acc.length + 1)) + 1 by omega,List.getElem?_cons_succ]
   ·intro k j hk hrk hj
    simp only [List.length_append,List.length_cons,List.length_nil,Nat.zero_add] at hk
    rcases Nat.lt_or_ge k acc.length with h | h
    ·refine ha k j h hrk ?_
     rw [List.getD_eq_getElem?_getD,List.getElem?_append_left h] at hj
     rw [List.getD_eq_getElem?_getD]; exact hj
    ·have hk' : k=acc.length:=by omega
     subst hk'
     rw [List.getD_eq_getElem?_getD,List.getElem?_append_right (Nat.le_refl _)] at hj
     simp at hj
     obtain ⟨o',ho',hd⟩:=hrk
     rw [hl _ (Nat.le_refl _)] at ho'
     simp at ho'
     subst ho'
     refine maskOf_spec ?_ hd hj
     intro k2 j2 hk2 hj2
     rcases Nat.lt_or_ge k2 acc.length with h2 | h2
     ·obtain ⟨o2,ho2⟩ : ∃ o2,ops[k2]?=some o2:=by
       have hlt : k2 < ops.size:=by
        have h3 : acc.length < ops.size:=by
         rcases Nat.lt_or_ge acc.length ops.size with h' | h'
         ·exact h'
         ·have:=hl _ (Nat.le_refl acc.length); rw [Array.getElem?_eq_none h'] at this; simp at this
        omega
       exact ⟨_,Array.getElem?_eq_getElem hlt⟩
      exact ha k2 j2 h2 ⟨o2,ho2,fun e he hb => hc k2 o2 ho2 hk2 e he hb⟩ hj2
     ·rw [List.getD_eq_getElem?_getD,List.getElem?_eq_none h2] at hj2
      simp at hj2
 refine key ops.toList [] (fun k _ => by simp) (fun k j hk => by simp at hk) i j hr hj
theorem masks_closed {ops : Array Oper} {L : Nat→Prop} (hc : Closed ops L) {i j : Nat} (hi : i < ops.size) (hl : L i) (hj : has (masks ops) i j=true) : L j :=
 masks_spec hc ⟨ops[i],Array.getElem?_eq_getElem hi,hc i _ (Array.getElem?_eq_getElem hi) hl⟩ hj
end Go.Vm

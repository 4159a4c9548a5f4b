/- Compiling operations. -/
import Derived.Test.YtpabmkicdcilpaaVmL
import Derived.Laws.StructEq
namespace Go.Vm
open Go.RowKit
set_option linter.unusedSimpArgs false
set_option linter.unusedVariables false
section
variable {P : Program} {o : Oper}

/-! ### structs of plain fields -/
def flatFields (P : Program) : List Field → Nat → Option (List Nat)
  | [], _ => some []
  | f :: r, i =>
    if f.offset = i ∧ (f.name == "_") = false then
      match P.underlying f.type with
      | some d => match keyKind d, flatFields P r (i + 1) with
        | some k, some l => some (k :: l)
        | _, _ => none
      | none => none
    else none
theorem equal_key {t : TypeId} {d : TypeDesc} {k : Nat} (hu : P.underlying t = some d) (hk : keyKind d = some k) {μ : Inj} {x y : AV} {u v : Value} (hx : VRel μ x u) (hy : VRel μ y v) {b : Bool} (hb : keyEq k x y = some b) (n : Nat) (w : World) :
    (Op.equalIn (n + 1) t u v).run P w = .ok b w := by
  have hs := keyEq_run hk hx hy hb
  unfold Op.equalIn
  simp only [Sem.run_bind, run_underlying hu, Result.andThen_ok]
  unfold Instr.sameNow at hs
  split at hs
  · split at hs
    · rename_i e; subst e; simp at hs; simp [hs]
    · cases hs
  · simp at hs; simp [hs]
  · simp at hs; simp [hs]
  · cases hs
theorem eqFields_run {μ : Inj} {xs ys : Array Value} {l m : List AV} (hl : VRels μ l xs.toList) (hm : VRels μ m ys.toList) (n : Nat) (w : World) : ∀ (fs : List Field) (i : Nat) (ks : List Nat) (b : Bool), flatFields P fs i = some ks → leavesEq ks (l.drop i) (m.drop i) = some b →
    (Op.eqFields (n + 1) xs ys fs).run P w = .ok b w
  | [], i, ks, b, hf, hb => by
    cases hf
    have : b = true := by
      revert hb
      cases l.drop i <;> cases m.drop i <;> simp [leavesEq] <;> exact fun h => h.symm
    subst this
    simp [Op.eqFields]
  | f :: fs, i, ks, b, hf, hb => by
    simp only [flatFields] at hf
    split at hf
    · rename_i hc
      split at hf
      · rename_i d hu
        split at hf
        · rename_i k ks' hk hr
          cases hf
          cases hli : l.drop i with
          | nil => rw [hli] at hb; simp [leavesEq] at hb
          | cons x l' =>
            cases hmi : m.drop i with
            | nil => rw [hli, hmi] at hb; simp [leavesEq] at hb
            | cons y m' =>
              rw [hli, hmi] at hb
              simp only [leavesEq] at hb
              split at hb
              · rename_i b1 b2 h1 h2
                cases hb
                have hx : l[i]? = some x := by rw [← List.head?_drop, hli]; rfl
                have hy : m[i]? = some y := by rw [← List.head?_drop, hmi]; rfl
                have hl' : l.drop (i + 1) = l' := by rw [← List.tail_drop, hli]; rfl
                have hm' : m.drop (i + 1) = m' := by rw [← List.tail_drop, hmi]; rfl
                obtain ⟨u, hu1, hu2⟩ := hl.get hx
                obtain ⟨v, hv1, hv2⟩ := hm.get hy
                have hag : aggOf P f.type = some false := by
                  unfold aggOf
                  rw [hu]
                  unfold keyKind at hk
                  split at hk <;> first | rfl | cases hk
                have p1 : (part f.type xs f.offset).run P w = .ok u w := by
                  have : xs[f.offset]? = some u := by rw [hc.1]; simpa using hu1
                  simp [part, run_isAgg' hag, this]
                have p2 : (part f.type ys f.offset).run P w = .ok v w := by
                  have : ys[f.offset]? = some v := by rw [hc.1]; simpa using hv1
                  simp [part, run_isAgg' hag, this]
                have ih := eqFields_run hl hm n w fs (i + 1) ks' b2 hr (by rw [hl', hm']; exact h2)
                have hn' : f.name ≠ "_" := by simpa using hc.2
                rw [Op.eqFields]
                simp only [if_pos hn', Sem.run_bind, p1, p2, Result.andThen_ok, equal_key hu hk hu2 hv2 h1 n w]
                cases b1
                · simp
                · simpa using ih
              · cases hb
        · cases hf
      · cases hf
    · cases hf
theorem ok_eqAgg {neg : Bool} {t : TypeId} {x y : Operand} {u : TypeId} {x' y' : AOpd} {fs : Array Field} {ks : List Nat} (ho : o.op = .binOp (if neg then .neq else .eql) t x y u) (hx : cOpd x = some x') (hy : cOpd y = some y')
    (ht : P.underlying t = some (.struct fs)) (hs : P.stoodInHeld t = false) (hg : P.eqGuardType P.depth t = false) (hf : flatFields P fs.toList 0 = some ks) : PureOk P o (.eqAgg ks neg x' y') := by
  intro f h res he
  simp only [AOp.eval] at he
  split at he
  · rename_i l m hl hm
    cases hb : leavesEq ks l m with
    | none => simp [hb] at he
    | some b =>
      simp [hb] at he
      subst he
      refine ⟨_, rfl, fun h₂ => by simp [AOp.eval, hl, hm, hb], fun μ a w hr => ?_⟩
      have hxr := cOpd_rel hx hr
      have hyr := cOpd_rel hy hr
      rw [hl] at hxr
      rw [hm] at hyr
      obtain ⟨xs, hxs, hxrel⟩ := VRel.agg_iff.1 hxr
      obtain ⟨ys, hys, hyrel⟩ := VRel.agg_iff.1 hyr
      refine ⟨_, .bool _, run_value (s := do eqGuard (if neg then .neq else .eql) t x y (a.eval x) (a.eval y); binOp (if neg then .neq else .eql) t (a.eval x) (a.eval y)) ?_ (by simp only [execOp, ho])⟩
      rw [hxs, hys]
      have hfo : P.fieldsOf t = fs := by simp [Program.fieldsOf, ht]
      have heq : (Op.equal t (.agg xs) (.agg ys)).run P w = .ok b w := by
        show (Op.equalIn (9998 + 1 + 1) t (.agg xs) (.agg ys)).run P w = .ok b w
        rw [run_equalIn_struct w (9998 + 1) t xs ys (by rw [hfo]; exact ht) hs, hfo]
        exact eqFields_run hxrel hyrel 9998 w fs.toList 0 ks b hf (by simpa using hb)
      have hgr : (eqGuard (if neg then .neq else .eql) t x y (.agg xs) (.agg ys)).run P w = .ok () w := by
        cases neg <;> simp [eqGuard, hg]
      rw [Sem.run_bind, hgr, Result.andThen_ok]
      exact binOp_eq_run (by simp) (by simp) (by simp) (by simp) heq
  · cases he

/-! ### the compiler of operations -/
def isConstO : Operand → Bool
  | .const _ => true
  | _ => false
def eqOp : BinOp → Option Bool
  | .eql => some false
  | .neq => some true
  | _ => none
def cBin (P : Program) (op : BinOp) (t : TypeId) (x y : Operand) : Option AOp :=
  match cOpd x, cOpd y, P.underlying t with
  | some a, some b, some d =>
    match d with
    | .int _ | .string => some (.bin op a b)
    | .bool => (eqOp op).map fun neg => .eqB neg a b
    | .struct fs => match eqOp op, flatFields P fs.toList 0 with
      | some neg, some ks => if P.stoodInHeld t = false ∧ P.eqGuardType P.depth t = false then some (.eqAgg ks neg a b) else none
      | _, _ => none
    | d => match eqOp op, nilKind d with
      | some neg, some k => if k = 4 → (isConstO x || isConstO y) = true then some (.eqNil k neg a b) else none
      | _, _ => none
  | _, _, _ => none
def cConv (P : Program) (s t : TypeId) (x : Operand) : Option AOp :=
  match cOpd x, P.underlying s, P.underlying t with
  | some a, some ds, some dt =>
    match dt, ds with
    | .int k, _ => some (.toInt k a)
    | .string, .string => some (.asStr a)
    | .string, .slice e => match P.underlying e with
      | some (.int .u8) => some (.toStr a)
      | _ => none
    | .slice e, .slice _ => match P.underlying e with
      | some (.int .u8) => if s = t then some (.mark a) else none
      | _ => none
    | .slice e, _ => match P.underlying e with
      | some (.int .u8) => some (.toBytes a)
      | _ => none
    | _, _ => none
  | _, _, _ => none
def cSlice (P : Program) (t : TypeId) (x : Operand) (lo hi mx : Option Operand) : Option AOp :=
  match cOpd x, cOpt lo, cOpt hi, cOpt mx with
  | some a, some l, some h, some m =>
    match P.underlying t with
    | some .string => if mx.isNone then some (.slcStr a l h) else none
    | some (.slice e) => (P.info? e).map fun i => .slc i.size a l h m
    | some (.array n e) => (P.info? e).map fun i => .slcArr n i.size a l h m
    | _ => none
  | _, _, _, _ => none
/-- A type's size, bytes, zero cells. -/
def cZero (P : Program) (e : TypeId) : Option (TypeInfo × List AV) :=
  match P.info? e with
  | some i => match i.zero with
    | some z => match cLeaves z.cells.toList with
      | some l => if z.cells.size = i.size then some (i, l) else none
      | none => none
    | none => none
  | none => none
def cBuiltin (P : Program) (b : Builtin) (args : Array Operand) (ts : Array TypeId) : Option AOp :=
  match b, args.toList, ts.toList with
  | .len, [x], [t] => match cOpd x, P.underlying t with
    | some a, some .string => some (.lenStr a)
    | some a, some (.slice _) => some (.lenSlice a)
    | some a, some (.map _ _) => some (.lenMap a)
    | _, some (.array n _) => some (.lenC n)
    | _, some (.pointer arr) => match P.underlying arr with
      | some (.array n _) => some (.lenC n)
      | _ => none
    | _, _ => none
  | .cap, [x], [t] => match cOpd x, P.underlying t with
    | some a, some (.slice _) => some (.capSlice a)
    | _, _ => none
  | .append, [x, y], [t, u] => match cOpd x, cOpd y, P.underlying t, P.underlying u with
    | some a, some c, some (.slice e), some d => match cZero P e with
      | some (i, l) => match d with
        | .int _ => some (.appendZ i.size i.bytes l a c)
        | .string => if i.size = 1 ∧ i.bytes = 1 then some (.appendStr a c) else none
        | _ => some (.append i.size i.bytes a c)
      | none => none
    | _, _, _, _ => none
  | .copy, [x, y], t :: u :: _ => match cOpd x, cOpd y, P.underlying t, P.underlying u with
    | some a, some c, some (.slice e), some .string => match P.info? e with
      | some i => if i.size = 1 then some (.copyStr a c) else none
      | none => none
    | some a, some c, some (.slice e), some _ => (P.info? e).map fun i => .copy i.size a c
    | _, _, _, _ => none
  | .clear, [x], t :: _ => match cOpd x, P.underlying t with
    | some a, some (.slice e) => (cZero P e).map fun p => .clear p.1.size p.2 a
    | _, _ => none
  | .delete, [x, y], t :: _ => match cOpd x, cOpd y, P.underlying t with
    | some a, some c, some (.map k _) => match P.underlying k with
      | some d => (keyKind d).map fun kk => .del kk a c
      | none => none
    | _, _, _ => none
  | .min, l, _ => (cOpds l).map (.mnx false)
  | .max, l, _ => (cOpds l).map (.mnx true)
  | _, _, _ => none
def cCall (P : Program) (c : Call) : Option AOp :=
  match c.callee with
  | .builtin b => cBuiltin P b c.args c.argTypes
  | .value (.func g) => (cOpds c.args.toList).map (.call g)
  | .value x => match cOpd x, cOpds c.args.toList with
    | some a, some l => some (.callV a l)
    | _, _ => none
  | .invoke x name => match cOpd x, cOpds c.args.toList with
    | some a, some l => some (.callM (mTable P name) a l)
    | _, _ => none
def cOp (P : Program) : Op → Option AOp
  | .move x | .assign x => (cOpd x).map .mov
  | .pick c a b => match cOpd c, cOpd a, cOpd b with
    | some c, some a, some b => some (.pick c a b)
    | _, _, _ => none
  | .alloc e => (cZero P e).map fun p => .new p.2
  | .box _ x => (cOpd x).map .box
  | .build t parts => match cZero P t, P.underlying t with
    | some (_, l), some (.struct fs) => (structPlaces P fs).bind fun pl => (cParts (fun i => pl[i]?) parts.toList).map (.build l)
    | some (_, l), some (.array _ e) => (P.info? e).bind fun i => (cParts (fun k => some (k * i.size, i.size)) parts.toList).map (.build l)
    | _, _ => none
  | .buildSlice t len parts => match P.underlying t with
    | some (.slice e) => match P.info? e with
      | some i => if len * i.size ≤ 16777216 then
          (if len * i.size = 0 then some #[] else i.zero.map Value.cells).bind fun zc =>
            (cLeaves ((Array.range (len * i.size)).map (zc[· % zc.size]!)).toList).bind fun l => (cParts (fun k => some (k * i.size, i.size)) parts.toList).map (.buildSlice i.size len l)
        else none
      | none => none
    | _ => none
  | .load t a => match cOpd a, aggOf P t, P.info? t with
    | some a, some b, some i => some (.load b i.size a)
    | _, _, _ => none
  | .store t a v => match cOpd a, cOpd v, P.info? t with
    | some a, some v, some i => some (.store i.size a v)
    | _, _, _ => none
  | .nilCheck x => (cOpd x).map .nilChk
  | .binOp op t x y _ => cBin P op t x y
  | .unOp op _ x => (cOpd x).map (.un op)
  | .convert s t x => cConv P s t x
  | .makeInterface t x => match cOpd x, P.underlying t with
    | some a, some d => if notIface d = true then some (.mkIface t a) else none
    | _, _ => none
  | .makeFunc fn first caps => match cOpds first.toList, cOpds caps.toList with
    | some a, some b => some (.mkFunc fn a b)
    | _, _ => none
  | .makeMap _ none => some .mkMap
  | .makeSlice t l c => match cOpd l, cOpd c, P.underlying t with
    | some l, some c, some (.slice e) => (cZero P e).map fun p => .mkSlice p.1.size p.1.bytes p.2 l c
    | _, _, _ => none
  | .slice t x lo hi mx => cSlice P t x lo hi mx
  | .fieldAddr t x i => match cOpd x, P.underlying t with
    | some a, some (.struct fs) => match fs[i]? with
      | some fd => match P.info? fd.type with
        | some inf => if inf.size ≠ 0 then some (.fieldAddr fd.offset a) else none
        | none => none
      | none => none
    | _, _ => none
  | .field t x i => match cOpd x, P.underlying t with
    | some a, some (.struct fs) => match fs[i]? with
      | some fd => match aggOf P fd.type, P.info? fd.type with
        | some b, some inf => some (.field b fd.offset inf.size a)
        | _, _ => none
      | none => none
    | _, _ => none
  | .indexAddr t x y => match cOpd x, cOpd y, P.underlying t with
    | some a, some b, some (.slice e) => (P.info? e).map fun i => .idxAddr i.size a b
    | some a, some b, some (.array n e) => (P.info? e).map fun i => .idxAddrArr n i.size a b
    | _, _, _ => none
  | .index t x y => match cOpd x, cOpd y, P.underlying t with
    | some a, some b, some .string => some (.idxStr a b)
    | some a, some b, some (.array n e) => match aggOf P e, P.info? e with
      | some g, some i => some (.idxArr g n i.size a b)
      | _, _ => none
    | _, _, _ => none
  | .lookup t x y ok => match cOpd x, cOpd y, P.underlying t with
    | some a, some b, some (.map k e) => match P.underlying k, P.info? e with
      | some d, some i => match keyKind d, i.zero with
        | some kk, some z => (cVal z).map fun z' => .lookup kk z' ok a b
        | _, _ => none
      | _, _ => none
    | _, _, _ => none
  | .mapUpdate t m k v | .insert t m k v => match cOpd m, cOpd k, cOpd v, P.underlying t with
    | some a, some b, some c, some (.map k _) => match P.underlying k with
      | some d => (keyKind d).map fun kk => .mapUpd kk a b c
      | none => none
    | _, _, _, _ => none
  | .typeAssert x _ t ok => match cOpd x, P.underlying t, P.info? t with
    | some a, some d, some i => if notIface d = true then
        match i.zero with
        | some z => (cVal z).map fun z' => .assertT t z' ok a
        | none => none
      else none
    | _, _, _ => none
  | .extract x i => (cOpd x).map (.extract · i)
  | .call c => cCall P c
  | _ => none

/-- What is known of a compiled operation, by its class. -/
def ClsOk (P : Program) (o : Oper) (x : AOp) : Prop :=
  match x.cls with
  | 0 => PureOk P o x
  | 1 => LookOk P o x
  | 2 => MakeOk P o x
  | _ => OpOk' P o x
theorem ClsOk.ok {x : AOp} (h : ClsOk P o x) : OpOk' P o x := by
  unfold ClsOk at h
  split at h
  · exact h.ok.ok'
  · exact h.ok.ok'
  · exact h.ok.ok'
  · exact h
theorem cZero_inv {e : TypeId} {i : TypeInfo} {l : List AV} (h : cZero P e = some (i, l)) : P.info? e = some i ∧ ∃ z, i.zero = some z ∧ cLeaves z.cells.toList = some l ∧ z.cells.size = i.size := by
  unfold cZero at h
  split at h
  · rename_i i' hi
    split at h
    · rename_i z hz
      split at h
      · rename_i l' hl
        split at h
        · cases h; exact ⟨hi, z, hz, hl, ‹_›⟩
        · cases h
      · cases h
    · cases h
  · cases h

theorem eqOp_inv {op : BinOp} {neg : Bool} (h : eqOp op = some neg) : op = if neg then .neq else .eql := by
  cases op <;> simp [eqOp] at h <;> subst h <;> rfl
theorem isConstO_inv {x : Operand} (h : isConstO x = true) : ∃ c, x = .const c := by
  cases x <;> simp [isConstO] at h
  exact ⟨_, rfl⟩
theorem isInt_of {d : TypeDesc} (h : ∀ k, d ≠ .int k) : isIntD d = false := by
  cases d <;> first | rfl | exact absurd rfl (h _)
theorem cBin_ok {op : BinOp} {t u : TypeId} {x y : Operand} {z : AOp} (ho : o.op = .binOp op t x y u) (h : cBin P op t x y = some z) : ClsOk P o z := by
  unfold cBin at h
  split at h
  · rename_i a b d hx hy ht
    split at h
    · cases h; exact ok_bin ho hx hy
    · cases h; exact ok_bin ho hx hy
    · cases he : eqOp op with
      | none => simp [he] at h
      | some neg => simp [he] at h; subst h; exact ok_eqB (eqOp_inv he ▸ ho) hx hy ht
    · rename_i fs
      split at h
      · rename_i neg ks he hf
        split at h
        · rename_i hc; cases h; exact ok_eqAgg (eqOp_inv he ▸ ho) hx hy ht hc.1 hc.2 hf
        · cases h
      · cases h
    · split at h
      · rename_i neg k he hk
        split at h
        · rename_i hc
          cases h
          refine ok_eqNil (eqOp_inv he ▸ ho) hx hy ht hk (fun h4 => ?_)
          have := hc h4
          simp only [Bool.or_eq_true] at this
          rcases this with h1 | h1
          · exact .inl (isConstO_inv h1)
          · exact .inr (isConstO_inv h1)
        · cases h
      · cases h
  · cases h
theorem cConv_ok {s t : TypeId} {x : Operand} {z : AOp} (ho : o.op = .convert s t x) (h : cConv P s t x = some z) : ClsOk P o z := by
  unfold cConv at h
  split at h
  · rename_i a ds dt hx hs ht
    split at h
    · cases h; exact ok_toInt ho hx hs ht
    · cases h; exact ok_asStr ho hx hs ht
    · split at h
      · cases h; exact ok_toStr ho hx hs ‹_› ht
      · cases h
    · split at h
      · split at h
        · rename_i hst; subst hst; cases h; exact (ok_mark ho hx ht ‹_›).ok'
        · cases h
      · cases h
    · split at h
      · cases h; exact ok_toBytes ho hx hs ht ‹_›
      · cases h
    · cases h
  · cases h
theorem cSlice_ok {t : TypeId} {x : Operand} {lo hi mx : Option Operand} {z : AOp} (ho : o.op = .slice t x lo hi mx) (h : cSlice P t x lo hi mx = some z) : ClsOk P o z := by
  unfold cSlice at h
  split at h
  · rename_i a l hh m hx h1 h2 h3
    split at h
    · rename_i ht
      split at h
      · rename_i hn
        cases h
        have : mx = none := by cases mx <;> simp_all
        subst this
        exact ok_slcStr ho hx h1 h2 ht
      · cases h
    · rename_i e ht
      cases hi : P.info? e with
      | none => simp [hi] at h
      | some i => simp [hi] at h; subst h; exact ok_slc ho hx h1 h2 h3 ht hi
    · rename_i n e ht
      cases hi : P.info? e with
      | none => simp [hi] at h
      | some i => simp [hi] at h; subst h; exact ok_slcArr ho hx h1 h2 h3 ht hi
    · cases h
  · cases h
theorem arr_of_toList {α : Type} {a : Array α} {l : List α} (h : a.toList = l) : a = l.toArray := by rw [← h]
theorem cBuiltin_ok {b : Builtin} {args : Array Operand} {ts : Array TypeId} {z : AOp} (ho : o.op = .call { callee := .builtin b, args := args, argTypes := ts }) (h : cBuiltin P b args ts = some z) : ClsOk P o z := by
  unfold cBuiltin at h
  split at h
  · rename_i x t ha hts
    rw [arr_of_toList ha, arr_of_toList hts] at ho
    split at h
    · cases h; exact ok_lenStr ho ‹_› ‹_›
    · cases h; exact ok_lenSlice ho ‹_› ‹_›
    · cases h; exact ok_lenMap ho ‹_› ‹_›
    · cases h; exact ok_lenC ho (.inl ‹_›)
    · split at h
      · cases h; exact ok_lenC ho (.inr ⟨_, ‹_›, ‹_›⟩)
      · cases h
    · cases h
  · rename_i x t ha hts
    rw [arr_of_toList ha, arr_of_toList hts] at ho
    split at h
    · cases h; exact ok_capSlice ho ‹_› ‹_›
    · cases h
  · rename_i x y t u ha hts
    rw [arr_of_toList ha, arr_of_toList hts] at ho
    split at h
    · rename_i a c e d hx hy ht hu
      split at h
      · rename_i i l hz
        obtain ⟨hi, zv, hzz, hzl, hzs⟩ := cZero_inv hz
        split at h
        · cases h; exact (ok_appendZ ho hx hy ht hu hi hzz hzs hzl).ok'
        · split at h
          · rename_i hc; cases h; exact (ok_appendStr ho hx hy ht hu hi hzz hzs hc.1 hc.2).ok'
          · cases h
        · rename_i hn1 hn2
          cases h
          exact (ok_append ho hx hy ht hu (isInt_of hn1) hi hzz hzs).ok'
      · cases h
    · cases h
  · rename_i x y t u r ha hts
    rw [arr_of_toList ha] at ho
    have hts0 : ts[0]? = some t := by rw [← Array.getElem?_toList, hts]; rfl
    split at h
    · rename_i a c e hx hy ht hu
      split at h
      · rename_i i hi
        split at h
        · cases h; exact (ok_copyStr ho hts0 hx hy ht hi ‹_›).ok'
        · cases h
      · cases h
    · rename_i a c e d hns hx hy ht hu
      cases hi : P.info? e with
      | none => simp [hi] at h
      | some i => simp [hi] at h; subst h; exact (ok_copy (u := u) ho hts0 hx hy ht hi).ok'
    · cases h
  · rename_i x t r ha hts
    rw [arr_of_toList ha] at ho
    have hts0 : ts[0]? = some t := by rw [← Array.getElem?_toList, hts]; rfl
    split at h
    · rename_i a e hx ht
      cases hz : cZero P e with
      | none => simp [hz] at h
      | some p =>
        obtain ⟨i, l⟩ := p
        simp [hz] at h
        subst h
        obtain ⟨hi, zv, hzz, hzl, hzs⟩ := cZero_inv hz
        exact (ok_clear ho hts0 hx ht hi hzz hzs hzl).ok'
    · cases h
  · rename_i x y t r ha hts
    rw [arr_of_toList ha] at ho
    have hts0 : ts[0]? = some t := by rw [← Array.getElem?_toList, hts]; rfl
    split at h
    · rename_i a c k e hx hy ht
      split at h
      · rename_i d hu
        cases hk : keyKind d with
        | none => simp [hk] at h
        | some kk => simp [hk] at h; subst h; exact (ok_del ho hts0 hx hy ht hu hk).ok'
      · cases h
    · cases h
  · cases hx : cOpds args.toList with
    | none => simp [hx] at h
    | some l => simp [hx] at h; subst h; exact ok_mnx (isMax := false) ho hx
  · cases hx : cOpds args.toList with
    | none => simp [hx] at h
    | some l => simp [hx] at h; subst h; exact ok_mnx (isMax := true) ho hx
  · cases h
theorem cCall_ok {c : Call} {z : AOp} (ho : o.op = .call c) (h : cCall P c = some z) : ClsOk P o z := by
  obtain ⟨callee, args, ts⟩ := c
  unfold cCall at h
  simp only at h
  split at h
  · exact cBuiltin_ok ho h
  · cases hx : cOpds args.toList with
    | none => simp [hx] at h
    | some l => simp [hx] at h; subst h; exact ok_call ho hx
  · split at h
    · cases h; exact ok_callV ho ‹_› ‹_›
    · cases h
  · split at h
    · cases h; exact ok_callM ho ‹_› ‹_›
    · cases h
theorem cOp_ok {z : AOp} (h : cOp P o.op = some z) : ClsOk P o z := by
  cases hop : o.op <;> rw [hop] at h <;> simp only [cOp] at h
  case move x => cases hx : cOpd x <;> simp [hx] at h; subst h; exact ok_mov (.inl hop) hx
  case assign x => cases hx : cOpd x <;> simp [hx] at h; subst h; exact ok_mov (.inr hop) hx
  case pick c a b =>
    split at h
    · cases h; exact ok_pick hop ‹_› ‹_› ‹_›
    · cases h
  case alloc e =>
    cases hz : cZero P e with
    | none => simp [hz] at h
    | some p =>
      obtain ⟨i, l⟩ := p
      simp [hz] at h
      subst h
      obtain ⟨hi, zv, hzz, hzl, hzs⟩ := cZero_inv hz
      exact ok_new hop hi hzz hzl
  case box e x => cases hx : cOpd x <;> simp [hx] at h; subst h; exact ok_box hop hx
  case build t parts =>
    split at h
    · rename_i i l fs hz ht
      obtain ⟨hi, zv, hzz, hzl, hzs⟩ := cZero_inv hz
      cases hp : structPlaces P fs with
      | none => simp [hp] at h
      | some pl =>
        simp only [hp, Option.bind_some] at h
        cases hq : cParts (fun i => pl[i]?) parts.toList with
        | none => simp [hq] at h
        | some qs => simp [hq] at h; subst h; exact ok_build hop hi hzz hzl hq (.inl ⟨fs, pl, ht, hp, rfl⟩)
    · rename_i i l n e hz ht
      obtain ⟨hi, zv, hzz, hzl, hzs⟩ := cZero_inv hz
      cases hie : P.info? e with
      | none => simp [hie] at h
      | some ie =>
        simp only [hie, Option.bind_some] at h
        cases hq : cParts (fun k => some (k * ie.size, ie.size)) parts.toList with
        | none => simp [hq] at h
        | some qs => simp [hq] at h; subst h; exact ok_build hop hi hzz hzl hq (.inr ⟨n, e, ie, ht, hie, rfl⟩)
    · cases h
  case buildSlice t len parts =>
    split at h
    · rename_i e ht
      split at h
      · rename_i i hi
        split at h
        · rename_i hle
          cases hzc : (if len * i.size = 0 then some #[] else i.zero.map Value.cells) with
          | none => simp [hzc] at h
          | some zc =>
            simp only [hzc, Option.bind_some] at h
            cases hl : cLeaves ((Array.range (len * i.size)).map (zc[· % zc.size]!)).toList with
            | none => simp only [hl, Option.bind_none] at h; cases h
            | some l =>
              simp only [hl, Option.bind_some] at h
              cases hq : cParts (fun k => some (k * i.size, i.size)) parts.toList with
              | none => simp [hq] at h
              | some qs =>
                simp [hq] at h
                subst h
                refine ok_buildSlice hop ht hi ?_ (by omega) hl hq
                split at hzc
                · cases hzc; exact .inl ⟨‹_›, rfl⟩
                · exact .inr ⟨‹_›, hzc⟩
        · cases h
      · cases h
    · cases h
  case load t a =>
    split at h
    · cases h; exact ok_load hop ‹_› ‹_› ‹_›
    · cases h
  case store t a v =>
    split at h
    · cases h; exact (ok_store hop ‹_› ‹_› ‹_›).ok'
    · cases h
  case nilCheck x => cases hx : cOpd x <;> simp [hx] at h; subst h; exact ok_nilChk hop hx
  case binOp op t x y u => exact cBin_ok hop h
  case unOp op t x => cases hx : cOpd x <;> simp [hx] at h; subst h; exact ok_un hop hx
  case convert s t x => exact cConv_ok hop h
  case makeInterface t x =>
    split at h
    · split at h
      · cases h; exact ok_mkIface hop ‹_› ‹_› ‹_›
      · cases h
    · cases h
  case makeFunc fn first caps =>
    split at h
    · cases h; exact ok_mkFunc hop ‹_› ‹_›
    · cases h
  case makeMap t r =>
    cases r with
    | none => simp only at h; cases h; exact ok_mkMap hop rfl
    | some r => simp at h
  case makeSlice t l c =>
    split at h
    · rename_i l' c' e hl hc ht
      cases hz : cZero P e with
      | none => simp [hz] at h
      | some p =>
        obtain ⟨i, zl⟩ := p
        simp [hz] at h
        subst h
        obtain ⟨hi, zv, hzz, hzl, hzs⟩ := cZero_inv hz
        exact ok_mkSlice hop hl hc ht hi hzz hzs hzl
    · cases h
  case slice t x lo hi mx => exact cSlice_ok hop h
  case fieldAddr t x i =>
    split at h
    · split at h
      · split at h
        · split at h
          · cases h; exact ok_fieldAddr hop ‹_› ‹_› ‹_› ‹_› ‹_›
          · cases h
        · cases h
      · cases h
    · cases h
  case field t x i =>
    split at h
    · split at h
      · split at h
        · cases h; exact ok_field hop ‹_› ‹_› ‹_› ‹_› ‹_›
        · cases h
      · cases h
    · cases h
  case indexAddr t x y =>
    split at h
    · rename_i a b e hx hy ht
      cases hi : P.info? e with
      | none => simp [hi] at h
      | some i => simp [hi] at h; subst h; exact ok_idxAddr hop hx hy ht hi
    · rename_i a b n e hx hy ht
      cases hi : P.info? e with
      | none => simp [hi] at h
      | some i => simp [hi] at h; subst h; exact ok_idxAddrArr hop hx hy ht hi
    · cases h
  case index t x y =>
    split at h
    · cases h; exact ok_idxStr hop ‹_› ‹_› ‹_›
    · split at h
      · cases h; exact ok_idxArr hop ‹_› ‹_› ‹_› ‹_› ‹_›
      · cases h
    · cases h
  case lookup t x y ok =>
    split at h
    · split at h
      · split at h
        · obtain ⟨z', hz', rfl⟩ := Option.map_eq_some_iff.1 h
          exact ok_lookup hop ‹_› ‹_› ‹_› ‹_› ‹_› ‹_› ‹_› hz'
        · cases h
      · cases h
    · cases h
  case mapUpdate t m k v =>
    split at h
    · rename_i a b c kt e hm hk hv ht
      split at h
      · rename_i d hu
        cases hkk : keyKind d with
        | none => simp [hkk] at h
        | some kk => simp [hkk] at h; subst h; exact (ok_mapUpd (.inl hop) hm hk hv ht hu hkk).ok'
      · cases h
    · cases h
  case insert t m k v =>
    split at h
    · rename_i a b c kt e hm hk hv ht
      split at h
      · rename_i d hu
        cases hkk : keyKind d with
        | none => simp [hkk] at h
        | some kk => simp [hkk] at h; subst h; exact (ok_mapUpd (.inr hop) hm hk hv ht hu hkk).ok'
      · cases h
    · cases h
  case typeAssert x u t ok =>
    split at h
    · split at h
      · split at h
        · obtain ⟨z', hz', rfl⟩ := Option.map_eq_some_iff.1 h
          exact ok_assertT hop ‹_› ‹_› ‹_› ‹_› ‹_› hz'
        · cases h
      · cases h
    · cases h
  case extract x i => cases hx : cOpd x <;> simp [hx] at h; subst h; exact ok_extract hop hx
  case call c => exact cCall_ok hop h
  all_goals cases h
end
end Go.Vm

/- Calls as operations. -/
import Derived.Test.YtpabmkicdcilpaaVmK
namespace Go.Vm
open Go.RowKit
set_option linter.unusedSimpArgs false
set_option linter.unusedVariables false
section
variable {P : Program} {o : Oper}

/-- A function with a body. -/
def CallOk (P : Program) (g : Nat) : Prop := ∃ fn, P.funcs[g]? = some fn ∧ (fn.name == "runtime.NumGoroutine") = false ∧ fn.body.isSome = true
/-- What a call comes to. -/
def ResOk' (P : Program) (o : Oper) (a : Act) (N : Nat) (w₀ : World) (μ : Inj) (h : AH) (w : World) : ARes → Prop
  | .val v h' => ∃ μ' w' v', Inj.Ext h.next h'.next μ μ' ∧ R N w₀ μ' h' w' ∧ VRel μ' v v' ∧
      ((execOp a.eval o).run P w = .ok (.value v') w' ∨ ((execOp a.eval o).run P w = .ok .skip w' ∧ v' = Go.undef))
  | .call g args => ∃ args', (execOp a.eval o).run P w = (callFunc g args').run P w ∧ VRels μ args args'.toList
def OpOk' (P : Program) (o : Oper) (x : AOp) : Prop :=
  ∀ (N : Nat) (w₀ : World) (μ : Inj) (h : AH) (w : World) (f : Fr) (a : Act) (res : ARes), R N w₀ μ h w → ORels μ f a → x.eval f h = some res → ResOk' P o a N w₀ μ h w res
theorem OpOk.ok' {x : AOp} (h : OpOk P o x) : OpOk' P o x := by
  intro N w₀ μ g w f a res r hr he
  have := h N w₀ μ g w f a res r hr he
  cases res with
  | val v h' => exact this
  | call g args => exact this

theorem run_callFunc {g : Nat} (hg : CallOk P g) (args : Array Value) (w : World) : (callFunc g args).run P w = .ok (.enter g args) w := by
  obtain ⟨fn, h1, h2, h3⟩ := hg
  have h4 : fn.body.isNone = false := by cases hb : fn.body <;> simp_all
  simp only [callFunc, Sem.run_bind, run_program, Result.andThen_ok, h1, h2, Bool.false_eq_true, if_false, h4]
  rfl
theorem ok_call {g : Nat} {args : Array Operand} {ts : Array TypeId} {xs : List AOpd} (ho : o.op = .call { callee := .value (.func g), args := args, argTypes := ts }) (hx : cOpds args.toList = some xs) : OpOk' P o (.call g xs) := by
  intro N w₀ μ h w f a res r hr he
  cases he
  have hxr := cOpds_rel hx hr
  refine ⟨args.map a.eval, ?_, by simpa using hxr⟩
  simp only [execOp, ho, resolve, Act.eval, Deferred.ofValue, Sem.run_bind, Sem.run_pure, Result.andThen_ok, invoke]
  have e : (#[] ++ args.map a.eval ++ #[] : Array Value) = args.map a.eval := by simp
  rw [e]
theorem VRel.func_inv {μ : Inj} {fn : Fn} {p c : List AV} {v : Value} (h : VRel μ (.func fn p c) v) : ∃ p' c', v = .func fn p' c' ∧ VRels μ p p'.toList ∧ VRels μ c c'.toList := by
  cases h with
  | func _ h1 h2 h3 h4 => exact ⟨_, _, rfl, ⟨by simpa using h1, fun i x y hx hy => h2 i x y hx (by simpa using hy)⟩, ⟨by simpa using h3, fun i x y hx hy => h4 i x y hx (by simpa using hy)⟩⟩
theorem ok_callV {x : Operand} {x' : AOpd} {args : Array Operand} {ts : Array TypeId} {xs : List AOpd} (ho : o.op = .call { callee := .value x, args := args, argTypes := ts }) (hx' : cOpd x = some x') (hx : cOpds args.toList = some xs) : OpOk' P o (.callV x' xs) := by
  intro N w₀ μ h w f a res r hr he
  simp only [AOp.eval] at he
  split at he
  · rename_i g first caps hv
    cases he
    have hxr := cOpds_rel hx hr
    have hfr := cOpd_rel hx' hr
    rw [hv] at hfr
    obtain ⟨p', c', hval, h1, h2⟩ := hfr.func_inv
    refine ⟨p' ++ args.map a.eval ++ c', ?_, ?_⟩
    · simp only [execOp, ho, resolve, hval, Deferred.ofValue, Sem.run_bind, Sem.run_pure, Result.andThen_ok, invoke]
    · have e : (p' ++ args.map a.eval ++ c').toList = p'.toList ++ args.toList.map a.eval ++ c'.toList := by simp
      rw [e]
      exact (h1.append hxr).append h2
  · cases he

/-! ### methods of interface values -/
def mRow (P : Program) (name : String) (t : Nat) : Option (Nat × Recv) :=
  match P.info? t with
  | some i =>
    match i.methods.find? (·.name == name) with
    | some m =>
      match m.path.toList, m.func with
      | [], some (g, true) => match P.underlying t with
        | some (.pointer _) => some (g, .self)
        | _ => none
      | [], some (g, false) => match P.underlying t with
        | some (.pointer e) => match aggOf P e, P.info? e with
          | some b, some j => some (g, .deref b j.size)
          | _, _ => none
        | some _ => some (g, .self)
        | none => none
      | _, _ => none
    | none => none
  | none => none
def mTable (P : Program) (name : String) : List (Nat × Nat × Recv) := (List.range P.types.size).filterMap fun t => (mRow P name t).map fun r => (t, r.1, r.2)
theorem mTable_find {name : String} {t g u : Nat} {rv : Recv} (h : (mTable P name).find? (fun r => r.1 == t) = some (u, g, rv)) : u = t ∧ mRow P name t = some (g, rv) := by
  have h1 := List.find?_some h
  have h2 := List.mem_of_find?_eq_some h
  simp at h1
  subst h1
  refine ⟨rfl, ?_⟩
  unfold mTable at h2
  rw [List.mem_filterMap] at h2
  obtain ⟨a, _, ha⟩ := h2
  cases hr : mRow P name a with
  | none => simp [hr] at ha
  | some r =>
    simp [hr] at ha
    obtain ⟨rfl, rfl, rfl⟩ := ha
    exact hr
theorem run_ssa (ts : Array TypeId) (ty : TypeId) (a : Addr) (n m : String) (w : World) : (Builtin.ssaWrapNilChk_ ts ty #[.pointer (some a), strVal n, strVal m]).run P w = .ok (.pointer (some a)) w := rfl
theorem run_method {name : String} {t g : Nat} {rv : Recv} (hm : mRow P name t = some (g, rv)) (v : Value) (w : World) :
    (match rv with
      | .self => (method (P.types.size + Made.depth) t v name).run P w = .ok (g, v) w
      | .deref b n => ∃ e j, aggOf P e = some b ∧ P.info? e = some j ∧ j.size = n ∧ ∀ a, v = .pointer (some a) → (method (P.types.size + Made.depth) t v name).run P w = ((loadVar e a).run P w).andThen fun u w' => .ok (g, u) w') := by
  have hfuel : P.types.size + Made.depth = (P.types.size + 99) + 1 := rfl
  unfold mRow at hm
  split at hm
  · rename_i i hi
    split at hm
    · rename_i m hfind
      have hti : ∀ w, (typeInfo t).run P w = .ok i w := fun w => by simp [typeInfo, hi]
      split at hm
      · rename_i g' hpath hfunc
        split at hm
        · rename_i e hu
          cases hm
          simp only
          rw [hfuel]
          unfold method
          simp only [Sem.run_bind, hti, Result.andThen_ok, hfind, hpath, follow, Sem.run_pure, hfunc]
          simp only [receiverAt, Sem.run_bind, run_underlying hu, Result.andThen_ok, Place.get, Sem.run_pure]
        · cases hm
      · rename_i g' hpath hfunc
        split at hm
        · rename_i e hu
          split at hm
          · rename_i b j hag hj
            cases hm
            refine ⟨e, j, hag, hj, rfl, ?_⟩
            intro a hv
            subst hv
            rw [hfuel]
            unfold method
            simp only [Sem.run_bind, hti, Result.andThen_ok, hfind, hpath, follow, Sem.run_pure, hfunc]
            have hpe : m.path.isEmpty = true := by
              have : m.path.toList = [] := hpath
              simpa using this
            simp only [receiverAt, Sem.run_bind, run_underlying hu, Result.andThen_ok, Place.get, Sem.run_pure, hpe, if_true, run_ssa, asAddr]
          · cases hm
        · rename_i d hnp hu
          cases hm
          simp only
          rw [hfuel]
          unfold method
          simp only [Sem.run_bind, hti, Result.andThen_ok, hfind, hpath, follow, Sem.run_pure, hfunc]
          simp only [receiverAt, Sem.run_bind, run_underlying hu, Result.andThen_ok]
          cases d <;> first | exact absurd rfl (hnp _) | rfl
        · cases hm
      · cases hm
    · cases hm
  · cases hm
theorem ok_callM {name : String} {x : Operand} {x' : AOpd} {args : Array Operand} {ts : Array TypeId} {xs : List AOpd} (ho : o.op = .call { callee := .invoke x name, args := args, argTypes := ts }) (hx' : cOpd x = some x') (hx : cOpds args.toList = some xs) :
    OpOk' P o (.callM (mTable P name) x' xs) := by
  intro N w₀ μ h w f a res r hr he
  simp only [AOp.eval] at he
  have hxr := cOpds_rel hx hr
  have hfr := cOpd_rel hx' hr
  split at he
  · rename_i t v hv
    rw [hv] at hfr
    obtain ⟨v', hval, hvr⟩ := hfr.iface_inv
    have hrun : ∀ {g : Nat} {u : Value}, (method (P.types.size + Made.depth) t v' name).run P w = .ok (g, u) w → (execOp a.eval o).run P w = (callFunc g (#[u] ++ args.map a.eval)).run P w := by
      intro g u hm
      have e : (#[Value.iface t v'] ++ args.map a.eval : Array Value)[0]? = some (.iface t v') := by rw [Array.getElem?_append_left (by simp)]; rfl
      have e2 : (#[Value.iface t v'] ++ args.map a.eval : Array Value).extract 1 (#[Value.iface t v'] ++ args.map a.eval : Array Value).size = args.map a.eval := by
        apply Array.ext'
        simp [List.take_of_length_le]
      simp only [execOp, ho, resolve, hval, Sem.run_bind, Sem.run_pure, Result.andThen_ok, invoke, e, e2, callMethod, run_program, hm]
    split at he
    · rename_i u g hfind
      cases he
      obtain ⟨_, hrow⟩ := mTable_find hfind
      have := run_method (P := P) hrow v' w
      exact ⟨_, hrun this, by simpa using VRels.cons hvr hxr⟩
    · rename_i u g b n hfind
      obtain ⟨_, hrow⟩ := mTable_find hfind
      have := run_method (P := P) hrow v' w
      obtain ⟨e, j, hag, hj, rfl, hm⟩ := this
      split at he
      · rename_i p off
        obtain ⟨bl, base, size, hmu, hb⟩ := hvr.ptr_inv
        have hm' := hm _ hb
        cases b
        · simp only [Bool.false_eq_true, if_false] at he
          split at he
          · rename_i u0 hl
            cases he
            obtain ⟨us, hload, hrel, hlen, hcell⟩ := r.load (P := P) hl hmu
            obtain ⟨u1, rfl⟩ := one_of_length hlen
            have hc := hcell 0 u1 rfl
            simp only [Nat.add_zero] at hc
            have hlv : (loadVar e ⟨bl, base + off, none⟩).run P w = .ok u1 w := by simp [loadVar, run_isAgg' hag, hc]
            rw [hlv] at hm'
            exact ⟨_, hrun hm', by simpa using VRels.cons hrel.head hxr⟩
          · cases he
        · simp only [if_true] at he
          cases hl : h.load p off j.size with
          | none => simp [hl] at he
          | some l =>
            simp [hl] at he
            subst he
            obtain ⟨us, hload, hrel, hlen, hcell⟩ := r.load (P := P) hl hmu
            have hlv : (loadVar e ⟨bl, base + off, none⟩).run P w = .ok (.agg us.toArray) w := by simp [loadVar, run_isAgg' hag, run_sizeOf' hj, hload]
            rw [hlv] at hm'
            exact ⟨_, hrun hm', by simpa using VRels.cons (VRel.agg_iff.2 ⟨us.toArray, rfl, hrel⟩) hxr⟩
      · cases he
    · cases he
  · cases he
end
end Go.Vm

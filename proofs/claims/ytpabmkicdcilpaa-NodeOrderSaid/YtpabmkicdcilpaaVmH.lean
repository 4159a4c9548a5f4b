/- Loads and stores, maps. -/
import Derived.Test.YtpabmkicdcilpaaVmG
namespace Go.Vm
open Go.RowKit
set_option linter.unusedSimpArgs false
set_option linter.unusedVariables false
section
variable {P : Program} {o : Oper}

theorem one_of_length {α : Type} {l : List α} (h : l.length = 1) : ∃ x, l = [x] := by
  match l, h with
  | [x], _ => exact ⟨x, rfl⟩

/-! ### loads -/
theorem ok_load {t : TypeId} {x : Operand} {x' : AOpd} {b : Bool} {inf : TypeInfo} (ho : o.op = .load t x) (hx : cOpd x = some x') (ha : aggOf P t = some b) (hi : P.info? t = some inf) : LookOk P o (.load b inf.size x') := by
  intro f h res he
  simp only [AOp.eval] at he
  split at he
  · rename_i p off hv
    cases b
    · simp only [Bool.false_eq_true, if_false] at he
      split at he
      · rename_i v hl
        cases he
        refine ⟨v, rfl, fun N w₀ μ a w r hr => ?_⟩
        have hxr := cOpd_rel hx hr
        rw [hv] at hxr
        obtain ⟨bl, base, size, hm, hb⟩ := hxr.ptr_inv
        obtain ⟨us, hrun, hrel, hlen, hcell⟩ := r.load (P := P) hl hm
        obtain ⟨u, rfl⟩ := one_of_length hlen
        refine ⟨u, hrel.head, run_value (s := Instr.loadAt t (a.eval x)) ?_ (by simp only [execOp, ho])⟩
        have hc := hcell 0 u rfl
        simp only [Nat.add_zero] at hc
        rw [hb]
        simp [Instr.loadAt, Instr.sureAddr, loadVar, run_isAgg' ha, hc]
      · cases he
    · simp only [if_true] at he
      cases hl : h.load p off inf.size with
      | none => simp [hl] at he
      | some l =>
        simp [hl] at he
        subst he
        refine ⟨_, rfl, fun N w₀ μ a w r hr => ?_⟩
        have hxr := cOpd_rel hx hr
        rw [hv] at hxr
        obtain ⟨bl, base, size, hm, hb⟩ := hxr.ptr_inv
        obtain ⟨us, hrun, hrel, hlen, hcell⟩ := r.load (P := P) hl hm
        refine ⟨.agg us.toArray, VRel.agg_iff.2 ⟨_, rfl, hrel⟩, run_value (s := Instr.loadAt t (a.eval x)) ?_ (by simp only [execOp, ho])⟩
        rw [hb]
        simp [Instr.loadAt, Instr.sureAddr, loadVar, run_isAgg' ha, run_sizeOf' hi, hrun]
  · cases he
/-- The cells of a slice's first elements. -/
theorem elems_run {N : Nat} {w₀ : World} {μ : Inj} {h : AH} {w : World} (r : R N w₀ μ h w) {sz n : Nat} {v : AV} {v' : Value} {l : List AV} (he : h.elems sz n v = some l) (hv : VRel μ v v') :
    ∃ us : List Value, (Builtin.firstCells sz n v').run P w = .ok us.toArray w ∧ VRels μ l us ∧ l.length = n * sz := by
  unfold AH.elems at he
  split at he
  · rename_i p off z len cap ex
    split at he
    · rename_i hc
      obtain ⟨rfl, hn⟩ := hc
      obtain ⟨b, base, size, boff, cap', hm, hb, hlc, hcc, hs, ha⟩ := hv.slice_inv
      rw [hb]
      rcases ha with ha | ⟨hl0, hc0⟩
      · subst ha
        obtain ⟨us, hrun, hrel, hlen, _⟩ := r.load (P := P) he hm
        exact ⟨us, by simp only [Builtin.firstCells]; exact hrun, hrel, by rw [hrel.1, hlen]⟩
      · subst hl0
        have hn0 : n = 0 := by omega
        subst hn0
        obtain ⟨lc, _, ⟨hg, _⟩, hn', rfl⟩ := load_inv he
        exact ⟨[], by simp [Builtin.firstCells, loadCells, loadCellsFrom], by simp; exact .nil, by simp⟩
    · cases he
  · split at he
    · rename_i hn
      cases he
      subst hn
      rw [hv.nilSlice_inv]
      exact ⟨[], by simp [Builtin.firstCells], .nil, by simp⟩
    · cases he
  · cases he
theorem strOf_inv : ∀ {l : List AV} {s : List UInt8}, strOf l = some s → ∃ ns : List Int, l = ns.map (AV.int .u8) ∧ s = ns.map fun n => UInt8.ofNat n.toNat
  | [], s, h => by cases h; exact ⟨[], rfl, rfl⟩
  | v :: r, s, h => by
    unfold strOf at h
    split at h
    · rename_i e; cases e
    · rename_i n r' e
      cases e
      cases hr : strOf r with
      | none => simp [hr] at h
      | some s' =>
        simp [hr] at h
        subst h
        obtain ⟨ns, rfl, rfl⟩ := strOf_inv hr
        exact ⟨n :: ns, rfl, rfl⟩
    · cases h
theorem foldl_push (ns : List Int) : ∀ b : ByteArray, (ns.foldl (fun r n => r.push (UInt8.ofNat n.toNat)) b).data.toList = b.data.toList ++ ns.map fun n => UInt8.ofNat n.toNat := by
  induction ns with
  | nil => simp
  | cons n ns ih => intro b; simp only [List.foldl_cons, ih]; simp [ByteArray.push]
theorem VRels.ints_inv {μ : Inj} {k : IntKind} : ∀ {ns : List Int} {us : List Value}, VRels μ (ns.map (AV.int k)) us → us = ns.map (Value.int k)
  | [], us, h => by have := h.1; cases us <;> simp_all
  | n :: ns, us, h => by
    cases us with
    | nil => have := h.1; simp at this
    | cons u us => rw [List.map_cons] at h; rw [h.head.int_inv, VRels.ints_inv h.tail]; rfl
theorem ok_toStr {s t e : TypeId} {x : Operand} {x' : AOpd} (ho : o.op = .convert s t x) (hx : cOpd x = some x') (hs : P.underlying s = some (.slice e)) (he' : P.underlying e = some (.int .u8)) (ht : P.underlying t = some .string) : LookOk P o (.toStr x') := by
  intro f h res he
  simp only [AOp.eval] at he
  split at he
  · rename_i hv
    cases he
    refine ⟨_, rfl, fun N w₀ μ a w r hr => ?_⟩
    have hxr := cOpd_rel hx hr
    rw [hv] at hxr
    refine ⟨.string .empty, (.str ByteArray.empty : VRel μ (.str ByteArray.empty.data.toList) _), run_value (s := convert s t (a.eval x)) ?_ (by simp only [execOp, ho])⟩
    rw [hxr.nilSlice_inv, run_convert_bytes_string w s t e none 0 0 hs he' ht]
    simp [Conv.bytesToString]
  · rename_i p off z len cap ex hv
    split at he
    · rename_i hz
      subst hz
      simp only [Option.bind_eq_some_iff, Option.map_eq_some_iff] at he
      obtain ⟨l, hl, st, hst, rfl⟩ := he
      refine ⟨_, rfl, fun N w₀ μ a w r hr => ?_⟩
      have hxr := cOpd_rel hx hr
      rw [hv] at hxr
      have hel : h.elems 1 len (.slice p off 1 len cap ex) = some l := by simp [AH.elems, hl]
      obtain ⟨us, hrun, hrel, hlen⟩ := elems_run (P := P) r hel hxr
      obtain ⟨ns, rfl, rfl⟩ := strOf_inv hst
      have hus := hrel.ints_inv
      subst hus
      obtain ⟨b, base, size, boff, cap', hm, hb, _⟩ := hxr.slice_inv
      rw [hb] at hrun
      simp only [Builtin.firstCells, Nat.mul_one] at hrun
      have h2 := run_bytesToString w ⟨b, boff, none⟩ len cap' ns hrun
      have e2 := foldl_push ns ByteArray.empty
      simp at e2
      refine ⟨.string (ns.foldl (fun r n => r.push (UInt8.ofNat n.toNat)) ByteArray.empty), ?_, run_value (s := convert s t (a.eval x)) ?_ (by simp only [execOp, ho])⟩
      · rw [← e2]; exact .str _
      · rw [hb, run_convert_bytes_string w s t e _ len cap' hs he' ht]
        exact h2
    · cases he
  · cases he

/-! ### stores -/
theorem ok_store {t : TypeId} {x y : Operand} {x' y' : AOpd} {inf : TypeInfo} (ho : o.op = .store t x y) (hx : cOpd x = some x') (hy : cOpd y = some y') (hi : P.info? t = some inf) : OpOk P o (.store inf.size x' y') := by
  intro N w₀ μ h w f a res r hr he
  simp only [AOp.eval] at he
  split at he
  · rename_i p off hv
    split at he
    · rename_i hn
      cases hs : h.store p off (y'.val f).cells with
      | none => simp [hs] at he
      | some h' =>
        simp [hs] at he
        subst he
        have hxr := cOpd_rel hx hr
        have hyr := cOpd_rel hy hr
        rw [hv] at hxr
        obtain ⟨bl, base, size, hm, hb⟩ := hxr.ptr_inv
        have hd : y'.val f ≠ .undef := by
          intro e
          rw [e] at hs
          obtain ⟨l, _, _, _, _, hfl, _⟩ := store_inv hs
          have := hfl .undef (by simp [AV.cells])
          cases this
        have hcells := hyr.cells hd
        obtain ⟨w', hrun, hR⟩ := r.store (P := P) hs hm hcells
        refine ⟨μ, w', Go.undef, .refl (Nat.le_of_eq (AH.next_store hs).symm), hR, .none_undef, .inr ⟨run_unit (s := Instr.storeAt t (a.eval x) (a.eval y)) ?_ (by simp only [execOp, ho]), rfl⟩⟩
        rw [hb]
        have hsz : (a.eval y).cells.size = inf.size := by have := hcells.1; simp at this; omega
        simp [Instr.storeAt, Instr.sureAddr, storeVar, run_sizeOf' hi, hsz, hrun]
    · cases he
  · cases he

/-! ### maps -/
def keyKind (d : TypeDesc) : Option Nat :=
  match d with
  | .int _ => some 0
  | .string => some 1
  | .bool => some 2
  | _ => none
theorem keyEq_run {d : TypeDesc} {kk : Nat} (hk : keyKind d = some kk) {μ : Inj} {x y : AV} {u v : Value} (hx : VRel μ x u) (hy : VRel μ y v) {b : Bool} (hb : keyEq kk x y = some b) : Instr.sameNow d u v = some b := by
  unfold keyEq at hb
  split at hb
  · unfold keyKind at hk
    split at hk <;> cases hk
    rw [hx.int_inv, hy.int_inv]
    simp only [Instr.sameNow]
    exact hb
  · unfold keyKind at hk
    split at hk <;> cases hk
    obtain ⟨s, rfl, rfl⟩ := hx.str_inv
    obtain ⟨s', rfl, rfl⟩ := hy.str_inv
    simp only [Instr.sameNow]
    rw [← hb]
    congr 1
    have hbe : ∀ a b : ByteArray, (a == b) = (a.data == b.data) := fun a b => by cases a; cases b; rfl
    rw [hbe]
    by_cases e : s.data = s'.data
    · rw [e]; simp
    · have h1 : (s.data == s'.data) = false := by simpa using e
      have h2 : (s.data.toList == s'.data.toList) = false := by simpa using e
      rw [h1, h2]
  · unfold keyKind at hk
    split at hk <;> cases hk
    rw [hx.bool_inv, hy.bool_inv]
    simp only [Instr.sameNow]
    exact hb
  · cases hb
/-- Entries, pairwise. -/
def ERels (μ : Inj) (es : List (AV × AV)) (ces : List MapEntry) : Prop := es.length = ces.length ∧ ∀ (i : Nat) (p : AV × AV) (q : MapEntry), es[i]? = some p → ces[i]? = some q → VRel μ p.1 q.key ∧ VRel μ p.2 q.val
theorem ERels.tail {μ : Inj} {p : AV × AV} {q : MapEntry} {es : List (AV × AV)} {ces : List MapEntry} (h : ERels μ (p :: es) (q :: ces)) : ERels μ es ces :=
  ⟨by have := h.1; simp at this; exact this, fun i a b ha hb => h.2 (i + 1) a b ha hb⟩
theorem findV_run {d : TypeDesc} {kk : Nat} (hk : keyKind d = some kk) {μ : Inj} {x : AV} {u : Value} (hx : VRel μ x u) : ∀ {es : List (AV × AV)} {ces : List MapEntry} {i : Nat} {r : Option (Nat × AV)}, ERels μ es ces → findV kk x es i = some r →
    ∃ r', Instr.findNow d u ces i = some r' ∧ (match r, r' with
      | none, none => True
      | some (j, v), some (j', v') => j = j' ∧ VRel μ v v' ∧ i ≤ j ∧ ∃ e q, es[j - i]? = some (e, v) ∧ ces[j - i]? = some q ∧ q.val = v' ∧ keyEq kk x e = some true
      | _, _ => False)
  | [], ces, i, r, hr, hf => by
    simp only [findV, Option.some.injEq] at hf
    subst hf
    have : ces = [] := by have := hr.1; cases ces <;> simp_all
    subst this
    exact ⟨none, rfl, trivial⟩
  | (e, v) :: es, ces, i, r, hr, hf => by
    cases ces with
    | nil => have := hr.1; simp at this
    | cons q ces =>
      obtain ⟨h1, h2⟩ := hr.2 0 _ _ rfl rfl
      simp only at h1 h2
      simp only [findV] at hf
      simp only [Instr.findNow]
      cases hb : keyEq kk x e with
      | none => simp [hb] at hf
      | some b =>
        rw [keyEq_run hk hx h1 hb]
        rw [hb] at hf
        cases b
        · simp only at hf ⊢
          obtain ⟨r', hr1, hr2⟩ := findV_run hk hx hr.tail hf
          refine ⟨r', hr1, ?_⟩
          cases r with
          | none => cases r' with
            | none => trivial
            | some jv' => exact hr2.elim
          | some jv =>
            obtain ⟨j, v2⟩ := jv
            cases r' with
            | none => exact hr2
            | some jv' =>
              obtain ⟨j', v'⟩ := jv'
              obtain ⟨q1, q2, q3, e2, q4, q5, q6, q7, q8⟩ := hr2
              refine ⟨q1, q2, by omega, e2, q4, ?_, ?_, q7, q8⟩
              · rw [show j - i = (j - (i + 1)) + 1 by omega]; simpa using q5
              · rw [show j - i = (j - (i + 1)) + 1 by omega]; simpa using q6
        · simp only [Option.some.injEq] at hf ⊢
          subst hf
          exact ⟨_, rfl, rfl, h2, Nat.le_refl _, e, q, by simp, by simp, rfl, hb⟩
theorem findKey_run {kt : TypeId} {d : TypeDesc} (hu : P.underlying kt = some d) {u : Value} {ces : List MapEntry} {r : Option (Nat × Value)} (hf : Instr.findNow d u ces 0 = some r) (w : World) : (Instr.findKey kt u ces).run P w = .ok r w := by
  simp only [Instr.findKey, Sem.run_bind, run_underlying hu, Result.andThen_ok, hf]
  rfl
theorem checkKey_run {kt : TypeId} {d : TypeDesc} {kk : Nat} (hu : P.underlying kt = some d) (hk : keyKind d = some kk) (b : Bool) (u : Value) (w : World) : (Instr.checkKey b 10000 kt u).run P w = .ok () w := by
  have : ∀ n, (Instr.checkKey b (n + 1) kt u).run P w = .ok () w := by
    intro n
    unfold Instr.checkKey
    simp only [Sem.run_bind, run_underlying hu, Result.andThen_ok]
    unfold keyKind at hk
    split at hk <;> cases hk <;> rfl
  exact this 9999
theorem VRel.map_inv {μ : Inj} {p : Nat} {v : Value} (h : VRel μ (.map p) v) : ∃ b size, μ p = some (b, 0, size) ∧ v = .map (some b) := by cases h; exact ⟨_, _, ‹_›, rfl⟩
theorem run_getMap {w : World} {b : Nat} {es : Array MapEntry} {clock : Nat} (h : w.heap[b]? = some (.map es clock)) : (getObj b).run P w = .ok (.map es clock) w := by
  simp [getObj, Sem.run, h]
theorem run_setMap {w : World} {b : Nat} {es : Array MapEntry} {clock : Nat} (h : w.heap[b]? = some (.map es clock)) (x : Obj) : (setObj b x).run P w = .ok () { w with heap := w.heap.setIfInBounds b x } := by
  simp [setObj, Sem.run, h]
theorem R.map {N : Nat} {w₀ : World} {μ : Inj} {h : AH} {w : World} (r : R N w₀ μ h w) {p b base size : Nat} {es : List (AV × AV)} (hp : μ p = some (b, base, size)) (hg : h.get p = some (.map es)) :
    ∃ ces clock, w.heap[b]? = some (.map ces clock) ∧ ERels μ es ces.toList := by
  obtain ⟨_, _, ces, clock, hb, hl, hrel⟩ := r.obj p b base size _ hp hg
  exact ⟨ces, clock, hb, by simpa using hl, fun i x y hx hy => hrel i x y hx (by simpa using hy)⟩

theorem ok_lenMap {t k e : TypeId} {x : Operand} {x' : AOpd} (ho : o.op = .call { callee := .builtin .len, args := #[x], argTypes := #[t] }) (hx : cOpd x = some x') (ht : P.underlying t = some (.map k e)) : LookOk P o (.lenMap x') := by
  intro f h res he
  simp only [AOp.eval] at he
  split at he
  · rename_i hv
    cases he
    refine ⟨_, rfl, fun N w₀ μ a w r hr => ⟨_, .int _ _, ?_⟩⟩
    have hxr := cOpd_rel hx hr
    rw [hv] at hxr
    obtain ⟨consts, hc⟩ := run_builtin (P := P) ho a w
    rw [hc]
    simp [builtin, Builtin.len_, run_underlying ht, hxr.nilMap_inv, goInt]
  · rename_i p hv
    split at he
    · rename_i es hg
      cases he
      refine ⟨_, rfl, fun N w₀ μ a w r hr => ?_⟩
      have hxr := cOpd_rel hx hr
      rw [hv] at hxr
      obtain ⟨b, size, hm, hb⟩ := hxr.map_inv
      obtain ⟨ces, clock, hbk, hrel⟩ := r.map hm hg
      refine ⟨_, .int _ _, ?_⟩
      obtain ⟨consts, hc⟩ := run_builtin (P := P) ho a w
      rw [hc]
      have hl := hrel.1
      simp at hl
      simp [builtin, Builtin.len_, run_underlying ht, hb, run_getMap hbk, goInt, hl]
    · cases he
  · cases he
theorem ok_lookup {t kt e : TypeId} {d : TypeDesc} {kk : Nat} {commaOk : Bool} {x y : Operand} {x' y' : AOpd} {inf : TypeInfo} {z : Value} {z' : AV} (ho : o.op = .lookup t x y commaOk) (hx : cOpd x = some x') (hy : cOpd y = some y')
    (ht : P.underlying t = some (.map kt e)) (hu : P.underlying kt = some d) (hk : keyKind d = some kk) (hi : P.info? e = some inf) (hz : inf.zero = some z) (hz' : cVal z = some z') : LookOk P o (.lookup kk z' commaOk x' y') := by
  intro f h res he
  have hzr : ∀ w, (zeroValue e).run P w = .ok z w := fun w => by simp [zeroValue, typeInfo, hi, hz]
  simp only [AOp.eval] at he
  split at he
  · rename_i hv
    cases he
    refine ⟨_, rfl, fun N w₀ μ a w r hr => ?_⟩
    have hxr := cOpd_rel hx hr
    rw [hv] at hxr
    refine ⟨if commaOk then .tuple #[z, .bool false] else z, ?_, run_value (s := Instr.lookup t (a.eval x) (a.eval y) commaOk) ?_ (by simp only [execOp, ho])⟩
    · cases commaOk
      · exact cVal_rel hz' μ
      · exact pair_rel (cVal_rel hz' μ) false
    · rw [hxr.nilMap_inv]
      have hf : (Instr.findKey kt (a.eval y) (#[] : Array MapEntry).toList).run P w = .ok none w := findKey_run hu (by simp [Instr.findNow]) w
      unfold Instr.lookup
      simp only [Sem.run_bind, run_underlying ht, Result.andThen_ok, Sem.run_pure, checkKey_run hu hk, hf, hzr]
  · rename_i p hv
    split at he
    · rename_i es hg
      cases hf : findV kk (y'.val f) es 0 with
      | none => simp [hf] at he
      | some r0 =>
        simp [hf] at he
        have hres : ∃ v, res = .val v h := by
          subst he
          cases r0 with
          | none => exact ⟨_, rfl⟩
          | some jv => exact ⟨_, rfl⟩
        obtain ⟨v, hresv⟩ := hres
        refine ⟨v, hresv, fun N w₀ μ a w r hr => ?_⟩
        have hxr := cOpd_rel hx hr
        have hyr := cOpd_rel hy hr
        rw [hv] at hxr
        obtain ⟨b, size, hm, hb⟩ := hxr.map_inv
        obtain ⟨ces, clock, hbk, hrel⟩ := r.map hm hg
        obtain ⟨r', hr1, hr2⟩ := findV_run hk hyr hrel hf
        have hfk := findKey_run (P := P) hu hr1 w
        cases r0 with
        | none =>
          cases r' with
          | some jv => exact hr2.elim
          | none =>
            simp only at he
            rw [hresv] at he
            cases he
            refine ⟨if commaOk then .tuple #[z, .bool false] else z, ?_, run_value (s := Instr.lookup t (a.eval x) (a.eval y) commaOk) ?_ (by simp only [execOp, ho])⟩
            · cases commaOk
              · exact cVal_rel hz' μ
              · exact pair_rel (cVal_rel hz' μ) false
            · rw [hb]
              unfold Instr.lookup
              simp only [Sem.run_bind, run_underlying ht, Result.andThen_ok, Sem.run_pure, run_getMap hbk, checkKey_run hu hk, hfk, hzr]
        | some jv =>
          obtain ⟨j, v2⟩ := jv
          cases r' with
          | none => exact hr2.elim
          | some jv' =>
            obtain ⟨j', v'⟩ := jv'
            obtain ⟨_, hvr, _⟩ := hr2
            simp only at he
            rw [hresv] at he
            cases he
            refine ⟨if commaOk then .tuple #[v', .bool true] else v', ?_, run_value (s := Instr.lookup t (a.eval x) (a.eval y) commaOk) ?_ (by simp only [execOp, ho])⟩
            · cases commaOk
              · exact hvr
              · exact pair_rel hvr true
            · rw [hb]
              unfold Instr.lookup
              simp only [Sem.run_bind, run_underlying ht, Result.andThen_ok, Sem.run_pure, run_getMap hbk, checkKey_run hu hk, hfk, hzr]
    · cases he
  · cases he
end
end Go.Vm

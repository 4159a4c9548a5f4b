/- Slices, new objects, loads. -/
import Derived.Test.YtpabmkicdcilpaaVmD
import Derived.Laws.BytesString
namespace Go.Vm
open Go.RowKit
set_option linter.unusedSimpArgs false
set_option linter.unusedVariables false
section
variable {P : Program} {o : Oper}

/-! ### slice expressions -/
def PRel (μ : Inj) : Option AV → Option Value → Prop
  | none, none => True
  | some x, some y => VRel μ x y
  | _, _ => False
theorem cOpt_rel {x : Option Operand} {y : Option AOpd} (hx : cOpt x = some y) {μ : Inj} {f : Fr} {a : Act} (ho : ORels μ f a) : PRel μ (y.map (·.val f)) (x.map a.eval) := by
  unfold cOpt at hx
  split at hx
  · cases hx; trivial
  · rename_i x
    cases hc : cOpd x with
    | none => simp [hc] at hx
    | some c => simp [hc] at hx; subst hx; exact cOpd_rel hc ho
theorem cOpt_isSome {x : Option Operand} {y : Option AOpd} (hx : cOpt x = some y) : y.isSome = x.isSome := by
  unfold cOpt at hx
  split at hx
  · cases hx; rfl
  · rename_i x
    cases hc : cOpd x with
    | none => simp [hc] at hx
    | some c => simp [hc] at hx; subst hx; rfl
theorem sliceBound_run {μ : Inj} {x : AV} {v : Value} (hx : VRel μ x v) {n y y' : Nat} (hn : (natOf x).filter (· ≤ y) = some n) (hy : y ≤ y') (code : BoundsCode) (w : World) : (Instr.sliceBound v y' code).run P w = .ok n w ∧ n ≤ y := by
  cases hk : natOf x with
  | none => simp [hk] at hn
  | some m =>
    simp [hk, Option.filter] at hn
    obtain ⟨hle, rfl⟩ := hn
    obtain ⟨k, rfl⟩ := natOf_inv hk
    rw [hx.int_inv]
    refine ⟨?_, hle⟩
    simp only [Instr.sliceBound, asIntOf, Sem.run_bind, Sem.run_pure, Result.andThen_ok, Sem.run_ite]
    rw [if_pos (by omega)]
    simp
theorem bounds_run {μ : Inj} {len cap cap' l e m : Nat} {lo hi mx : Option AV} {lo' hi' mx' : Option Value} (h : bounds len cap lo hi mx = some (l, e, m)) (hlo : PRel μ lo lo') (hhi : PRel μ hi hi') (hmx : PRel μ mx mx') (hc : cap ≤ cap') (b : Bool) (w : World) :
    ∃ m', (Instr.sliceBounds b len cap' lo' hi' mx').run P w = .ok (l, e, m') w ∧ l ≤ e ∧ (e ≤ m ∨ (e = len ∧ mx = none)) ∧ m ≤ cap ∧ m ≤ m' ∧ m' ≤ cap' ∧ (mx = none → m = cap ∧ m' = cap') ∧ (mx ≠ none → m' = m) := by
  unfold bounds at h
  simp only [Option.bind_eq_some_iff, Option.map_eq_some_iff] at h
  obtain ⟨m0, hm, e0, he, l0, hl, hr⟩ := h
  simp only [Prod.mk.injEq] at hr
  obtain ⟨rfl, rfl, rfl⟩ := hr
  cases mx with
  | none =>
    have hmx' : mx' = none := by cases mx' <;> simp_all [PRel]
    subst hmx'
    simp [boundM] at hm
    subst hm
    refine ⟨cap', ?_⟩
    cases hi with
    | none =>
      have hhi' : hi' = none := by cases hi' <;> simp_all [PRel]
      subst hhi'
      simp [boundH] at he
      subst he
      cases lo with
      | none =>
        have hlo' : lo' = none := by cases lo' <;> simp_all [PRel]
        subst hlo'
        simp [boundL] at hl
        subst hl
        exact ⟨by simp [Instr.sliceBounds], Nat.zero_le _, .inr ⟨rfl, rfl⟩, Nat.le_refl _, hc, Nat.le_refl _, fun _ => ⟨rfl, rfl⟩, fun hne => absurd rfl hne⟩
      | some x =>
        cases lo' with
        | none => exact hlo.elim
        | some y =>
          simp only [boundL] at hl
          obtain ⟨h1, h2⟩ := sliceBound_run (P := P) hlo hl (Nat.le_refl _) .sliceB w
          exact ⟨by simp [Instr.sliceBounds, h1], h2, .inr ⟨rfl, rfl⟩, Nat.le_refl _, hc, Nat.le_refl _, fun _ => ⟨rfl, rfl⟩, fun hne => absurd rfl hne⟩
    | some x =>
      cases hi' with
      | none => exact hhi.elim
      | some y =>
        simp only [boundH] at he
        obtain ⟨h1, h2⟩ := sliceBound_run (P := P) hhi he hc (if b then .sliceAcap else .sliceAlen) w
        cases lo with
        | none =>
          have hlo' : lo' = none := by cases lo' <;> simp_all [PRel]
          subst hlo'
          simp [boundL] at hl
          subst hl
          exact ⟨by simp [Instr.sliceBounds, h1], Nat.zero_le _, .inl h2, Nat.le_refl _, hc, Nat.le_refl _, fun _ => ⟨rfl, rfl⟩, fun hne => absurd rfl hne⟩
        | some x =>
          cases lo' with
          | none => exact hlo.elim
          | some z =>
            simp only [boundL] at hl
            obtain ⟨h3, h4⟩ := sliceBound_run (P := P) hlo hl (Nat.le_refl _) .sliceB w
            exact ⟨by simp [Instr.sliceBounds, h1, h3], h4, .inl h2, Nat.le_refl _, hc, Nat.le_refl _, fun _ => ⟨rfl, rfl⟩, fun hne => absurd rfl hne⟩
  | some v =>
    cases mx' with
    | none => exact hmx.elim
    | some v' =>
      simp only [boundM] at hm
      obtain ⟨h1, h2⟩ := sliceBound_run (P := P) hmx hm hc (if b then .slice3Acap else .slice3Alen) w
      refine ⟨m0, ?_⟩
      cases hi with
      | none => simp [boundH] at he
      | some x =>
        cases hi' with
        | none => exact hhi.elim
        | some y =>
          simp only [boundH] at he
          obtain ⟨h3, h4⟩ := sliceBound_run (P := P) hhi he (Nat.le_refl _) .slice3B w
          cases lo with
          | none =>
            have hlo' : lo' = none := by cases lo' <;> simp_all [PRel]
            subst hlo'
            simp [boundL] at hl
            subst hl
            exact ⟨by simp [Instr.sliceBounds, h1, h3], Nat.zero_le _, .inl h4, h2, Nat.le_refl _, by omega, (fun hn => by cases hn), fun _ => rfl⟩
          | some x =>
            cases lo' with
            | none => exact hlo.elim
            | some z =>
              simp only [boundL] at hl
              obtain ⟨h5, h6⟩ := sliceBound_run (P := P) hlo hl (Nat.le_refl _) .slice3C w
              exact ⟨by simp [Instr.sliceBounds, h1, h3, h5], h6, .inl h4, h2, Nat.le_refl _, by omega, (fun hn => by cases hn), fun _ => rfl⟩

theorem ok_slc {t e : TypeId} {x : Operand} {lo hi mx : Option Operand} {x' : AOpd} {lo' hi' mx' : Option AOpd} {inf : TypeInfo} (ho : o.op = .slice t x lo hi mx) (hx : cOpd x = some x') (h1 : cOpt lo = some lo') (h2 : cOpt hi = some hi') (h3 : cOpt mx = some mx')
    (ht : P.underlying t = some (.slice e)) (hinf : P.info? e = some inf) : PureOk P o (.slc inf.size x' lo' hi' mx') := by
  intro f h res he
  simp only [AOp.eval] at he
  split at he
  · rename_i hv
    cases hb : bounds 0 0 (lo'.map (·.val f)) (hi'.map (·.val f)) (mx'.map (·.val f)) with
    | none => simp [hb] at he
    | some r =>
      obtain ⟨l, e', m⟩ := r
      simp [hb] at he
      subst he
      refine ⟨_, rfl, fun h₂ => by simp [AOp.eval, hv, hb], fun μ a w hr => ⟨_, .nilSlice, run_value (s := Instr.sliceAt t (a.eval x) (lo.map a.eval) (hi.map a.eval) (mx.map a.eval)) ?_ (by simp only [execOp, ho])⟩⟩
      have hxr := cOpd_rel hx hr
      rw [hv] at hxr
      obtain ⟨m', hrun, p1, p2, p3, p4, p5, _⟩ := bounds_run (P := P) hb (cOpt_rel h1 hr) (cOpt_rel h2 hr) (cOpt_rel h3 hr) (Nat.le_refl 0) true w
      have hl0 : l = 0 := by rcases p2 with p2 | p2 <;> omega
      have he0 : e' = 0 := by rcases p2 with p2 | p2 <;> omega
      have hm0 : m' = 0 := by omega
      subst hl0 he0 hm0
      rw [hxr.nilSlice_inv]
      simp [Instr.sliceAt, Instr.slice, run_underlying ht, hrun, run_sizeOf' hinf]
  · rename_i p off z len cap ex hv
    split at he
    · rename_i hz
      subst hz
      cases hb : bounds len cap (lo'.map (·.val f)) (hi'.map (·.val f)) (mx'.map (·.val f)) with
      | none => simp [hb] at he
      | some r =>
        obtain ⟨l, e', m⟩ := r
        simp [hb] at he
        subst he
        refine ⟨_, rfl, fun h₂ => by simp [AOp.eval, hv, hb], fun μ a w hr => ?_⟩
        have hxr := cOpd_rel hx hr
        rw [hv] at hxr
        obtain ⟨b, base, size, boff, cap', hm, hbv, hlc, hcc, hs, ha⟩ := hxr.slice_inv
        have hcap : cap ≤ cap' := by cases ex <;> simp at hcc <;> omega
        obtain ⟨m', hrun, p1, p2, p3, p4, p5, p6, p7⟩ := bounds_run (P := P) hb (cOpt_rel h1 hr) (cOpt_rel h2 hr) (cOpt_rel h3 hr) hcap true w
        have hem : e' ≤ m' := by
          rcases p2 with p2 | ⟨p2, p2'⟩
          · omega
          · have := (p6 p2').2; omega
        have hexact : (ex || mx'.isSome) = true → m' = m := by
          intro hex
          cases hmx : mx' with
          | none =>
            simp [hmx] at hex
            subst hex
            simp at hcc
            have := p6 (by simp [hmx])
            omega
          | some v => exact p7 (by simp [hmx])
        refine ⟨.slice (if m' = l then some ⟨b, boff, none⟩ else some ⟨b, boff + l * inf.size, none⟩) (e' - l) (m' - l), ?_, run_value (s := Instr.sliceAt t (a.eval x) (lo.map a.eval) (hi.map a.eval) (mx.map a.eval)) ?_ (by simp only [execOp, ho])⟩
        · have hsize : boff + l * inf.size + (m' - l) * inf.size ≤ size := by
            have e1 : l * inf.size + (m' - l) * inf.size = m' * inf.size := by rw [← Nat.add_mul]; congr 1; omega
            have e2 : m' * inf.size ≤ cap' * inf.size := Nat.mul_le_mul_right _ p5
            omega
          have hc2 : if (ex || mx'.isSome) = true then m' - l = m - l else m - l ≤ m' - l := by
            split
            · rename_i hex; rw [hexact hex]
            · omega
          by_cases hml : m' = l
          · rw [if_pos hml]
            exact .slice hm (by omega) hc2 (by rw [hml]; simp; rw [hml] at hsize; simp at hsize; omega) (.inr ⟨by omega, by omega⟩)
          · rw [if_neg hml]
            have hboff : boff = base + off := by rcases ha with ha | ha <;> omega
            refine .slice hm (by omega) hc2 hsize (.inl ?_)
            rw [if_neg (by
              intro hcond
              have hcond2 : (ex || mx'.isSome) = true ∧ m = l := by simpa using hcond
              have := hexact hcond2.1
              omega)]
            omega
        · rw [hbv]
          simp only [Instr.sliceAt, Instr.slice, Sem.run_bind, run_underlying ht, Result.andThen_ok, hrun, run_sizeOf' hinf, Sem.run_pure]
          by_cases hml : m' = l
          · simp [hml]
          · simp [hml, addr_add]
    · cases he
  · cases he

theorem data_extract (s : ByteArray) (l e : Nat) : (s.extract l e).data.toList = (s.data.toList.drop l).take (e - l) := by
  simp [ByteArray.data_extract, List.extract_eq_take_drop]
theorem ok_slcStr {t : TypeId} {x : Operand} {lo hi : Option Operand} {x' : AOpd} {lo' hi' : Option AOpd} (ho : o.op = .slice t x lo hi none) (hx : cOpd x = some x') (h1 : cOpt lo = some lo') (h2 : cOpt hi = some hi')
    (ht : P.underlying t = some .string) : PureOk P o (.slcStr x' lo' hi') := by
  intro f h res he
  simp only [AOp.eval] at he
  split at he
  · rename_i s hv
    cases hb : bounds s.length s.length (lo'.map (·.val f)) (hi'.map (·.val f)) none with
    | none => simp [hb] at he
    | some r =>
      obtain ⟨l, e', m⟩ := r
      simp [hb] at he
      subst he
      refine ⟨_, rfl, fun h₂ => by simp [AOp.eval, hv, hb], fun μ a w hr => ?_⟩
      have hxr := cOpd_rel hx hr
      rw [hv] at hxr
      obtain ⟨bs, hbs, rfl⟩ := hxr.str_inv
      obtain ⟨m', hrun, p1, p2, p3, p4, p5, _⟩ := bounds_run (P := P) hb (cOpt_rel h1 hr) (cOpt_rel h2 hr) (mx' := none) trivial (Nat.le_refl _) false w
      refine ⟨.string (bs.extract l e'), ?_, run_value (s := Instr.sliceAt t (a.eval x) (lo.map a.eval) (hi.map a.eval) none) ?_ (by simp only [execOp, ho, Option.map_none])⟩
      · rw [← data_extract]; exact .str _
      · have hsz : bs.data.toList.length = bs.size := rfl
        rw [hsz] at hrun
        rw [hbs]
        simp [Instr.sliceAt, Instr.slice, run_underlying ht, hrun]
  · cases he
theorem ok_slcArr {t e : TypeId} {n : Nat} {x : Operand} {lo hi mx : Option Operand} {x' : AOpd} {lo' hi' mx' : Option AOpd} {inf : TypeInfo} (ho : o.op = .slice t x lo hi mx) (hx : cOpd x = some x') (h1 : cOpt lo = some lo') (h2 : cOpt hi = some hi') (h3 : cOpt mx = some mx')
    (ht : P.underlying t = some (.array n e)) (hinf : P.info? e = some inf) : LookOk P o (.slcArr n inf.size x' lo' hi' mx') := by
  intro f h res he
  simp only [AOp.eval] at he
  split at he
  · rename_i p off hv
    split at he
    · rename_i hload
      cases hb : bounds n n (lo'.map (·.val f)) (hi'.map (·.val f)) (mx'.map (·.val f)) with
      | none => simp [hb] at he
      | some r =>
        obtain ⟨l, e', m⟩ := r
        simp [hb] at he
        subst he
        refine ⟨_, rfl, fun N w₀ μ a w r hr => ?_⟩
        have hxr := cOpd_rel hx hr
        rw [hv] at hxr
        obtain ⟨b, base, size, hm, hbv⟩ := hxr.ptr_inv
        obtain ⟨vs, hvs⟩ := Option.isSome_iff_exists.1 hload
        obtain ⟨lc, _, ⟨hg, hx'⟩, hn, _⟩ := load_inv hvs
        obtain ⟨C, el, fz, hbk, hC, hlen, _⟩ := (r.obj p b base size _ hm hg).row hx'
        obtain ⟨m', hrun, p1, p2, p3, p4, p5, p6, p7⟩ := bounds_run (P := P) hb (cOpt_rel h1 hr) (cOpt_rel h2 hr) (cOpt_rel h3 hr) (Nat.le_refl n) false w
        have hmm : m' = m := by
          cases hmx : mx' with
          | none => have := p6 (by simp [hmx]); omega
          | some v => exact p7 (by simp [hmx])
        subst hmm
        have hem : e' ≤ m' := by
          rcases p2 with p2 | ⟨p2, p2'⟩
          · omega
          · have := (p6 p2').2; omega
        refine ⟨.slice (some (if m' = l then ⟨b, base + off, none⟩ else ⟨b, base + off + l * inf.size, none⟩)) (e' - l) (m' - l), ?_, run_value (s := Instr.sliceAt t (a.eval x) (lo.map a.eval) (hi.map a.eval) (mx.map a.eval)) ?_ (by simp only [execOp, ho])⟩
        · have hsize : base + off + l * inf.size + (m' - l) * inf.size ≤ size := by
            have e1 : l * inf.size + (m' - l) * inf.size = m' * inf.size := by rw [← Nat.add_mul]; congr 1; omega
            have e2 : m' * inf.size ≤ n * inf.size := Nat.mul_le_mul_right _ p5
            omega
          by_cases hml : m' = l
          · rw [if_pos hml, if_pos hml]
            exact .slice hm (by omega) (by simp) (by rw [hml]; simp; rw [hml] at hsize; simp at hsize; omega) (.inl rfl)
          · rw [if_neg hml, if_neg hml]
            exact .slice hm (by omega) (by simp) hsize (.inl (by omega))
        · rw [hbv]
          simp only [Instr.sliceAt, Sem.run_bind, run_underlying ht, Result.andThen_ok, hrun, run_sizeOf' hinf, Sem.run_pure, Instr.sureAddr]
          by_cases hml : m' = l
          · simp [hml]
          · simp [hml, addr_add]
    · cases he
  · cases he

/-! ### aggregates -/
theorem foldSet_rel {μ : Inj} (off : Nat) : ∀ (us : List Value) (vs : List AV) (k : Nat) (l : List AV) (C : Array Value), VRels μ vs us → VRels μ l C.toList →
    VRels μ (setMany l (off + k) vs) ((us.zipIdx k).foldl (fun cs (p : Value × Nat) => cs.setIfInBounds (off + p.2) p.1) C).toList
  | [], vs, k, l, C, hv, hl => by
    have : vs = [] := by have := hv.1; cases vs <;> simp_all
    subst this
    exact hl
  | u :: us, vs, k, l, C, hv, hl => by
    cases vs with
    | nil => have := hv.1; simp at this
    | cons v vs =>
      simp only [setMany, List.zipIdx_cons, List.foldl_cons]
      have := foldSet_rel off us vs (k + 1) (l.set (off + k) v) (C.setIfInBounds (off + k) u) hv.tail (by rw [Array.toList_setIfInBounds]; exact hl.set _ hv.head)
      exact this
theorem isDef_ne {v : AV} (h : v.isDef = true) : v ≠ .undef := by intro e; subst e; cases h
theorem fill_rel {μ : Inj} {place : Nat → Option (Nat × Nat)} : ∀ (ps : List (Nat × Nat × AV)) (qs : List (Nat × Value)) (l : List AV) (C : Array Value) (r : List AV), ps.length = qs.length →
    (∀ (i : Nat) (p : Nat × Nat × AV) (q : Nat × Value), ps[i]? = some p → qs[i]? = some q → place q.1 = some (p.1, p.2.1) ∧ VRel μ p.2.2 q.2) → VRels μ l C.toList → fillV l ps = some r →
    ∃ C', Instr.fill place C qs = some C' ∧ VRels μ r C'.toList
  | [], qs, l, C, r, hlen, hps, hl, hf => by
    have : qs = [] := by cases qs <;> simp_all
    subst this
    simp only [fillV, Option.some.injEq] at hf
    subst hf
    exact ⟨C, rfl, hl⟩
  | (off, n, v) :: ps, qs, l, C, r, hlen, hps, hl, hf => by
    cases qs with
    | nil => simp at hlen
    | cons q qs =>
      obtain ⟨i, u⟩ := q
      obtain ⟨hp, hvr⟩ := hps 0 _ _ rfl rfl
      simp only at hp hvr
      simp only [fillV] at hf
      split at hf
      · rename_i hc
        obtain ⟨hd, hn, hle⟩ := hc
        have hcells := hvr.cells (isDef_ne hd)
        have hul : u.cells.size = n := by have := hcells.1; simp at this; omega
        have hCl : C.size = l.length := by have := hl.1; simp at this; omega
        simp only [Instr.fill, hp]
        rw [if_neg (by simp; omega)]
        have hrel := foldSet_rel (μ := μ) off u.cells.toList v.cells 0 l C hcells hl
        have e : (u.cells.zipIdx.foldl (fun cs (p : Value × Nat) => cs.setIfInBounds (off + p.2) p.1) C) = ((u.cells.toList.zipIdx 0).foldl (fun cs (p : Value × Nat) => cs.setIfInBounds (off + p.2) p.1) C) := by
          rw [← Array.foldl_toList, Array.toList_zipIdx]
        simp only [Nat.add_zero] at hrel
        rw [← e] at hrel
        exact fill_rel ps qs _ _ r (by simpa using hlen) (fun j p q hp hq => hps (j + 1) p q hp hq) hrel hf
      · cases hf
end
end Go.Vm

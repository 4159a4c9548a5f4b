/- append, copy, clear as operations. -/
import Derived.Test.YtpabmkicdcilpaaVmJ
namespace Go.Vm
open Go.RowKit
set_option linter.unusedSimpArgs false
set_option linter.unusedVariables false
section
variable {P : Program} {o : Oper}

theorem elems_run_all {N : Nat} {w₀ : World} {μ : Inj} {h : AH} {w : World} (r : R N w₀ μ h w) {sz n : Nat} {v : AV} {v' : Value} {l : List AV} (he : h.elems sz n v = some l) (hv : VRel μ v v') :
    ∃ us : List Value, (∀ d, (Builtin.firstCells sz n v').run P { w with drawn := d } = .ok us.toArray { w with drawn := d }) ∧ VRels μ l us ∧ l.length = n * sz := by
  obtain ⟨us, hrun, hrel, hlen⟩ := elems_run (P := P) r he hv
  refine ⟨us, fun d => ?_, hrel, hlen⟩
  unfold AH.elems at he
  split at he
  · rename_i p off z len cap ex
    split at he
    · rename_i hc
      obtain ⟨rfl, hn⟩ := hc
      obtain ⟨b, base, size, boff, cap', hm, hb, hlc, hcc, hs, ha⟩ := hv.slice_inv
      rw [hb] at hrun ⊢
      rcases ha with ha | ⟨hl0, hc0⟩
      · subst ha
        obtain ⟨lc, _, ⟨hg, hx'⟩, hn', _⟩ := load_inv he
        obtain ⟨C, el, fz, hbk, hC, hlen', _⟩ := (r.obj p b base size _ hm hg).row hx'
        have e1 := run_loadCells_row (P := P) (w := w) (off := base + off) (n := n * z) hbk (by omega)
        have e2 := run_loadCells_row (P := P) (w := { w with drawn := d }) (off := base + off) (n := n * z) hbk (by omega)
        simp only [Builtin.firstCells] at hrun ⊢
        rw [e1] at hrun
        rw [e2]
        simp at hrun ⊢
        exact hrun
      · have hn0 : n = 0 := by omega
        subst hn0
        have hus : us = [] := List.eq_nil_of_length_eq_zero (by rw [← hrel.1, hlen]; simp)
        subst hus
        simp [Builtin.firstCells, loadCells, loadCellsFrom]
    · cases he
  · split at he
    · rename_i hn
      cases he
      subst hn
      rw [hv.nilSlice_inv]
      have hus : us = [] := List.eq_nil_of_length_eq_zero (by rw [← hrel.1]; rfl)
      subst hus
      simp [Builtin.firstCells]
    · cases he
  · cases he
theorem lenOfV_inv {μ : Inj} {v : AV} {v' : Value} {n : Nat} (h : lenOfV v = some n) (hv : VRel μ v v') : ∃ a c, v' = .slice a n c := by
  unfold lenOfV at h
  split at h
  · cases h
    obtain ⟨b, base, size, boff, cap', _, hb, _⟩ := hv.slice_inv
    exact ⟨_, _, hb⟩
  · cases h
    exact ⟨_, _, hv.nilSlice_inv⟩
  · cases h
theorem appendV_inv {μ : Inj} {sz bytes n : Nat} {s v : AV} {s' : Value} {new : List AV} {h h' : AH} (he : appendV sz bytes s new n h = some (v, h')) (hs : VRel μ s s') : ∃ a l c, s' = .slice a l c := by
  unfold appendV at he
  split at he
  · exact ⟨_, _, _, hs.nilSlice_inv⟩
  · obtain ⟨b, base, size, boff, cap', _, hb, _⟩ := hs.slice_inv
    exact ⟨_, _, _, hb⟩
  · cases he
theorem ok_append {t u e : TypeId} {d : TypeDesc} {inf : TypeInfo} {z : Value} {x y : Operand} {x' y' : AOpd} (ho : o.op = .call { callee := .builtin .append, args := #[x, y], argTypes := #[t, u] }) (hx : cOpd x = some x') (hy : cOpd y = some y')
    (ht : P.underlying t = some (.slice e)) (hu : P.underlying u = some d) (hd : isIntD d = false) (hi : P.info? e = some inf) (hz : inf.zero = some z) (hzs : z.cells.size = inf.size) : OpOk P o (.append inf.size inf.bytes x' y') := by
  intro N w₀ μ h w f a res r hr he
  simp only [AOp.eval, Option.bind_eq_some_iff, Option.map_eq_some_iff] at he
  obtain ⟨n, hn, new, hnew, ⟨v, h'⟩, hap, rfl⟩ := he
  have hxr := cOpd_rel hx hr
  have hyr := cOpd_rel hy hr
  obtain ⟨base, sLen, sCap, hs⟩ := appendV_inv hap hxr
  obtain ⟨a2, c2, hyv⟩ := lenOfV_inv hn hyr
  obtain ⟨us, hall, hrel, hlen⟩ := elems_run_all (P := P) r hnew hyr
  rw [hs] at hxr
  obtain ⟨μ', w', v', q1, q2, q3, q4⟩ := appendV_sound (P := P) (zeros := false) (x := a.eval y) (appended := Builtin.firstCells inf.size n (a.eval y)) r hi hz hzs hxr hap hrel hlen hall
  refine ⟨μ', w', v', q1, q2, q3, .inl ?_⟩
  obtain ⟨consts, hc⟩ := run_builtin (P := P) ho a w
  rw [hc]
  have hl : ∀ w, (Builtin.lenOf (a.eval y)).run P w = .ok n w := fun w => by rw [hyv]; rfl
  have := append_is (ty := o.type) (base := base) (sLen := sLen) (sCap := sCap) (w := w) ht hu hd hi hl
  simp [builtin, hs, this, q4]
theorem run_firstCells_str (size k : Nat) (s : ByteArray) (w : World) : (Builtin.firstCells size k (.string s)).run P w = .ok (((s.data.toList.take k).map fun b => Value.int .u8 b.toNat).toArray) w := by
  have e := data_extract s 0 k
  simp only [Builtin.firstCells, Sem.run_pure]
  congr 1
  apply Array.ext'
  simp
theorem bytesOf_rel (μ : Inj) (l : List UInt8) : VRels μ (bytesOf l) (l.map fun b => Value.int .u8 b.toNat) := by
  induction l with
  | nil => exact .nil
  | cons b l ih => exact .cons (.int _ _) ih
theorem bytesOf_length (l : List UInt8) : (bytesOf l).length = l.length := by simp [bytesOf]
theorem ok_appendStr {t u e : TypeId} {inf : TypeInfo} {z : Value} {x y : Operand} {x' y' : AOpd} (ho : o.op = .call { callee := .builtin .append, args := #[x, y], argTypes := #[t, u] }) (hx : cOpd x = some x') (hy : cOpd y = some y')
    (ht : P.underlying t = some (.slice e)) (hu : P.underlying u = some .string) (hi : P.info? e = some inf) (hz : inf.zero = some z) (hzs : z.cells.size = inf.size) (h1 : inf.size = 1) (h2 : inf.bytes = 1) : OpOk P o (.appendStr x' y') := by
  intro N w₀ μ h w f a res r hr he
  simp only [AOp.eval] at he
  split at he
  · rename_i tx hv
    simp only [Option.map_eq_some_iff] at he
    obtain ⟨⟨v, h'⟩, hap, rfl⟩ := he
    have hxr := cOpd_rel hx hr
    have hyr := cOpd_rel hy hr
    rw [hv] at hyr
    obtain ⟨b, hb, rfl⟩ := hyr.str_inv
    obtain ⟨base, sLen, sCap, hs⟩ := appendV_inv hap hxr
    rw [hs] at hxr
    have hsz : b.data.toList.length = b.size := rfl
    have hall : ∀ d, (Builtin.firstCells inf.size b.size (a.eval y)).run P { w with drawn := d } = .ok (b.data.toList.map fun b => Value.int .u8 b.toNat).toArray { w with drawn := d } := fun d => by
      rw [hb, run_firstCells_str, List.take_of_length_le (by omega)]
    have hap2 : appendV inf.size inf.bytes (x'.val f) (bytesOf b.data.toList) b.size h = some (v, h') := by rw [h1, h2]; exact hap
    obtain ⟨μ', w', v', q1, q2, q3, q4⟩ := appendV_sound (P := P) (zeros := false) (x := a.eval y) (appended := Builtin.firstCells inf.size b.size (a.eval y)) r hi hz hzs hxr hap2 (bytesOf_rel μ _) (by rw [bytesOf_length, h1]; omega) hall
    refine ⟨μ', w', v', q1, q2, q3, .inl ?_⟩
    obtain ⟨consts, hc⟩ := run_builtin (P := P) ho a w
    rw [hc]
    have hl : ∀ w, (Builtin.lenOf (a.eval y)).run P w = .ok b.size w := fun w => by rw [hb]; rfl
    have := append_is (ty := o.type) (base := base) (sLen := sLen) (sCap := sCap) (w := w) ht hu rfl hi hl
    simp [builtin, hs, this, q4]
  · cases he

/-! ### append of a make -/
theorem append_is_zeros {t u ty e : TypeId} {inf : TypeInfo} {z : Value} {k : IntKind} {base : Option Addr} {sLen sCap n : Nat} {kx : IntKind} {w : World} (ht : P.underlying t = some (.slice e)) (hu : P.underlying u = some (.int k))
    (hi : P.info? e = some inf) (hn : n ≤ 9223372036854775807) (hb : n * inf.bytes ≤ 281474976710656) :
    (Builtin.append_ #[t, u] ty #[.slice base sLen sCap, .int kx n]).run P w = (appendTail e inf.size true base sLen sCap n (.slice base sLen sCap) (.int kx n)
      (if n * inf.size = 0 then pure #[] else do pure (Builtin.zeroCells (← zeroValue e).cells n))).run P w := by
  have hti : ∀ w, (typeInfo e).run P w = .ok inf w := fun w => by simp [typeInfo, hi]
  have hw : IntKind.i64.wrap (n : Int) = n := wrap_i64 (by omega) (by omega)
  have e48 : (2 : Int) ^ 48 = 281474976710656 := by decide
  simp only [Builtin.append_, List.getElem?_toArray, List.getElem?_cons_zero, List.getElem?_cons_succ]
  simp only [Sem.run_bind, run_underlying ht, Result.andThen_ok, run_sizeOf' hi, run_underlying hu, Sem.run_pure, if_true, asInt, asIntOf, hw]
  rw [if_neg (by omega)]
  simp only [Sem.run_bind, hti, Result.andThen_ok]
  rw [if_neg (by rw [e48, ← Int.natCast_mul]; omega)]
  simp only [Sem.run_bind, Sem.run_pure, Result.andThen_ok, Int.toNat_natCast, Bool.not_true, Bool.false_eq_true, if_false]
  unfold appendTail
  by_cases hle : sLen + n ≤ sCap
  · rw [if_pos hle, if_pos hle]
    rfl
  · rw [if_neg hle, if_neg hle]
    simp only [Sem.run_bind, hti, Result.andThen_ok, Bool.false_eq_true, false_or, if_false, true_or, if_true]
theorem ok_appendZ {t u e : TypeId} {k : IntKind} {inf : TypeInfo} {z : Value} {zl : List AV} {x y : Operand} {x' y' : AOpd} (ho : o.op = .call { callee := .builtin .append, args := #[x, y], argTypes := #[t, u] }) (hx : cOpd x = some x') (hy : cOpd y = some y')
    (ht : P.underlying t = some (.slice e)) (hu : P.underlying u = some (.int k)) (hi : P.info? e = some inf) (hz : inf.zero = some z) (hzs : z.cells.size = inf.size) (hzl : cLeaves z.cells.toList = some zl) : OpOk P o (.appendZ inf.size inf.bytes zl x' y') := by
  intro N w₀ μ h w f a res r hr he
  simp only [AOp.eval, Option.bind_eq_some_iff] at he
  obtain ⟨n, hn, he⟩ := he
  split at he
  · rename_i hc2
    obtain ⟨hn63, hb⟩ := hc2
    simp only [Option.map_eq_some_iff] at he
    obtain ⟨⟨v, h'⟩, hap, rfl⟩ := he
    have hxr := cOpd_rel hx hr
    have hyr := cOpd_rel hy hr
    obtain ⟨kx, hkx⟩ := natOf_inv hn
    rw [hkx] at hyr
    have hyv := hyr.int_inv
    obtain ⟨base, sLen, sCap, hs⟩ := appendV_inv hap hxr
    rw [hs] at hxr
    have hzr : ∀ w, (zeroValue e).run P w = .ok z w := fun w => by simp [zeroValue, typeInfo, hi, hz]
    have hzlen : zl.length = inf.size := by have := (cLeaves_rel hzl μ).1; simp at this; omega
    have hrel : VRels μ (rep zl n) (Builtin.zeroCells z.cells n).toList := rep_rel (cLeaves_rel hzl μ) n _ rfl
    have hall : ∀ d, ((if n * inf.size = 0 then pure #[] else do pure (Builtin.zeroCells (← zeroValue e).cells n)) : Sem (Array Value)).run P { w with drawn := d } = .ok (Builtin.zeroCells z.cells n).toList.toArray { w with drawn := d } := by
      intro d
      by_cases h0 : n * inf.size = 0
      · rw [if_pos h0]
        have : Builtin.zeroCells z.cells n = #[] := Array.eq_empty_of_size_eq_zero (by rw [zeroCells_size, hzs, h0])
        rw [this]; rfl
      · rw [if_neg h0]
        simp [hzr]
    obtain ⟨μ', w', v', q1, q2, q3, q4⟩ := appendV_sound (P := P) (zeros := true) (x := .int kx n) r hi hz hzs hxr hap hrel (by rw [rep_length, hzlen]) hall
    refine ⟨μ', w', v', q1, q2, q3, .inl ?_⟩
    obtain ⟨consts, hc⟩ := run_builtin (P := P) ho a w
    rw [hc]
    have := append_is_zeros (ty := o.type) (base := base) (sLen := sLen) (sCap := sCap) (kx := kx) (w := w) ht hu hi hn63 hb (z := z)
    have ea : (#[x, y] : Array Operand).map a.eval = #[.slice base sLen sCap, .int kx n] := by simp [hs, hyv]
    rw [ea]
    simp only [builtin, Sem.run_bind]
    rw [this, q4]
    rfl
  · cases he

/-! ### copy, clear -/
theorem ok_copy {t u e : TypeId} {inf : TypeInfo} {x y : Operand} {x' y' : AOpd} {ts : Array TypeId} (ho : o.op = .call { callee := .builtin .copy, args := #[x, y], argTypes := ts }) (hts : ts[0]? = some t) (hx : cOpd x = some x') (hy : cOpd y = some y')
    (ht : P.underlying t = some (.slice e)) (hi : P.info? e = some inf) : OpOk P o (.copy inf.size x' y') := by
  intro N w₀ μ h w f a res r hr he
  simp only [AOp.eval, Option.bind_eq_some_iff] at he
  obtain ⟨nd, hnd, ns, hns, l, hl, he⟩ := he
  have hxr := cOpd_rel hx hr
  have hyr := cOpd_rel hy hr
  obtain ⟨bx, cx, hxv⟩ := lenOfV_inv hnd hxr
  obtain ⟨by', cy, hyv⟩ := lenOfV_inv hns hyr
  obtain ⟨us, hfirst, hrel, hlen⟩ := elems_run (P := P) r hl hyr
  obtain ⟨consts, hc⟩ := run_builtin (P := P) ho a w
  have ea : (#[x, y] : Array Operand).map a.eval = #[a.eval x, a.eval y] := by simp
  have hrun : (Builtin.copy_ ts o.type #[a.eval x, a.eval y]).run P w = (do if let some b := bx then storeCells b us
                                                                            pure (goInt (min ns nd : Nat)) : Sem Value).run P w := by
    have hfirst' : (Builtin.firstCells inf.size (Nat.min ns nd) (.slice by' ns cy)).run P w = .ok us.toArray w := by rw [← hyv]; exact hfirst
    simp only [Builtin.copy_, List.getElem?_toArray, List.getElem?_cons_zero, List.getElem?_cons_succ, hts]
    rw [hxv, hyv]
    simp only [Sem.run_bind, run_underlying ht, Result.andThen_ok, Builtin.lenOf, Sem.run_pure, run_sizeOf' hi, hfirst']
    rfl
  split at he
  · rename_i p off z len cap ex hv
    split at he
    · rename_i hz
      subst hz
      rw [hv] at hxr
      obtain ⟨b, base, size, boff, cap', hm, hb, hlc, hcc, hs, ha⟩ := hxr.slice_inv
      rw [hxv] at hb
      cases hb
      split at he
      · rename_i hemp
        cases he
        have hus : us = [] := by
          have : l = [] := by simpa using hemp
          subst this
          exact List.eq_nil_of_length_eq_zero (by rw [← hrel.1]; rfl)
        subst hus
        refine ⟨μ, w, _, .refl (Nat.le_refl _), r, .int _ _, .inl ?_⟩
        rw [hc, ea]
        simp only [builtin, Sem.run_bind]
        rw [hrun]
        simp [storeCells, goInt]
      · rename_i hne
        cases hst : h.store p off l with
        | none => simp [hst] at he
        | some h1 =>
          simp [hst] at he
          subst he
          have hboff : boff = base + off := by
            rcases ha with ha | ⟨ha1, ha2⟩
            · exact ha
            · exfalso
              apply hne
              have hnd0 : nd = 0 := by rw [hv] at hnd; simp [lenOfV] at hnd; omega
              have : l.length = 0 := by rw [hlen, hnd0]; simp
              rw [List.eq_nil_of_length_eq_zero this]; rfl
          subst hboff
          obtain ⟨w', hsr, hR⟩ := r.store (P := P) hst hm hrel
          refine ⟨μ, w', _, .refl (Nat.le_of_eq (AH.next_store hst).symm), hR, .int _ _, .inl ?_⟩
          rw [hc, ea]
          simp only [builtin, Sem.run_bind]
          rw [hrun]
          simp [hsr, goInt]
    · cases he
  · rename_i hns'
    cases he
    have hnil : x'.val f = .nilSlice := by
      unfold lenOfV at hnd
      split at hnd
      · rename_i h1; exact absurd h1 (hns' _ _ _ _ _ _)
      · assumption
      · cases hnd
    rw [hnil] at hxr hnd
    have := hxr.nilSlice_inv
    rw [hxv] at this
    cases this
    refine ⟨μ, w, _, .refl (Nat.le_refl _), r, .int _ _, .inl ?_⟩
    rw [hc, ea]
    simp only [builtin, Sem.run_bind]
    rw [hrun]
    simp [goInt]
theorem ok_copyStr {t e : TypeId} {inf : TypeInfo} {x y : Operand} {x' y' : AOpd} {ts : Array TypeId} (ho : o.op = .call { callee := .builtin .copy, args := #[x, y], argTypes := ts }) (hts : ts[0]? = some t) (hx : cOpd x = some x') (hy : cOpd y = some y')
    (ht : P.underlying t = some (.slice e)) (hi : P.info? e = some inf) (h1 : inf.size = 1) : OpOk P o (.copyStr x' y') := by
  intro N w₀ μ h w f a res r hr he
  simp only [AOp.eval] at he
  have hxr := cOpd_rel hx hr
  have hyr := cOpd_rel hy hr
  obtain ⟨consts, hc⟩ := run_builtin (P := P) ho a w
  have ea : (#[x, y] : Array Operand).map a.eval = #[a.eval x, a.eval y] := by simp
  have hrun : ∀ (bx : Option Addr) (nd cx : Nat) (s : ByteArray), (Builtin.copy_ ts o.type #[.slice bx nd cx, .string s]).run P w = (do if let some b := bx then storeCells b ((s.data.toList.take (min s.size nd)).map fun b => Value.int .u8 b.toNat)
                                                                                                                                        pure (goInt (min s.size nd : Nat)) : Sem Value).run P w := by
    intro bx nd cx s
    have hf := run_firstCells_str (P := P) inf.size (Nat.min s.size nd) s w
    simp only [Builtin.copy_, List.getElem?_toArray, List.getElem?_cons_zero, List.getElem?_cons_succ, hts]
    simp only [Sem.run_bind, run_underlying ht, Result.andThen_ok, Builtin.lenOf, Sem.run_pure, run_sizeOf' hi, hf]
    rfl
  split at he
  · rename_i p off z nd cap ex tx hv hw
    split at he
    · rename_i hz
      subst hz
      rw [hv] at hxr
      rw [hw] at hyr
      obtain ⟨b, base, size, boff, cap', hm, hb, hlc, hcc, hs, ha⟩ := hxr.slice_inv
      obtain ⟨s, hsv, rfl⟩ := hyr.str_inv
      have hsz : s.data.toList.length = s.size := rfl
      rw [hsz] at he
      split at he
      · rename_i h0
        cases he
        refine ⟨μ, w, _, .refl (Nat.le_refl _), r, .int _ _, .inl ?_⟩
        rw [hc, ea, hb, hsv]
        simp only [builtin, Sem.run_bind]
        rw [hrun, h0]
        simp [storeCells, goInt]
      · rename_i h0
        cases hst : h.store p off (bytesOf (s.data.toList.take (min s.size nd))) with
        | none => simp [hst] at he
        | some h2 =>
          simp [hst] at he
          subst he
          have hboff : boff = base + off := by
            rcases ha with ha | ⟨ha1, ha2⟩
            · exact ha
            · exfalso; apply h0; rw [ha1]; simp
          subst hboff
          obtain ⟨w', hsr, hR⟩ := r.store (P := P) hst hm (bytesOf_rel μ _)
          refine ⟨μ, w', _, .refl (Nat.le_of_eq (AH.next_store hst).symm), hR, .int _ _, .inl ?_⟩
          rw [hc, ea, hb, hsv]
          simp only [builtin, Sem.run_bind]
          rw [hrun]
          simp only [Sem.run_bind, hsr, Result.andThen_ok, Sem.run_pure, goInt]
    · cases he
  · rename_i tx hv hw
    cases he
    rw [hv] at hxr
    rw [hw] at hyr
    obtain ⟨s, hsv, rfl⟩ := hyr.str_inv
    refine ⟨μ, w, _, .refl (Nat.le_refl _), r, .int _ _, .inl ?_⟩
    rw [hc, ea, hxr.nilSlice_inv, hsv]
    simp only [builtin, Sem.run_bind]
    rw [hrun]
    simp [goInt]
  · cases he
theorem ok_clear {t e : TypeId} {inf : TypeInfo} {z : Value} {zl : List AV} {x : Operand} {x' : AOpd} {ts : Array TypeId} (ho : o.op = .call { callee := .builtin .clear, args := #[x], argTypes := ts }) (hts : ts[0]? = some t) (hx : cOpd x = some x')
    (ht : P.underlying t = some (.slice e)) (hi : P.info? e = some inf) (hz : inf.zero = some z) (hzs : z.cells.size = inf.size) (hzl : cLeaves z.cells.toList = some zl) : OpOk P o (.clear inf.size zl x') := by
  intro N w₀ μ h w f a res r hr he
  have hzr : ∀ w, (zeroValue e).run P w = .ok z w := fun w => by simp [zeroValue, typeInfo, hi, hz]
  have hxr := cOpd_rel hx hr
  obtain ⟨consts, hc⟩ := run_builtin (P := P) ho a w
  have ea : (#[x] : Array Operand).map a.eval = #[a.eval x] := by simp
  simp only [AOp.eval] at he
  split at he
  · rename_i hv
    cases he
    rw [hv] at hxr
    refine ⟨μ, w, .tuple #[], .refl (Nat.le_refl _), r, .none_undef, .inl ?_⟩
    rw [hc, ea, hxr.nilSlice_inv]
    simp [builtin, Builtin.clear_, hts, run_underlying ht]
  · rename_i p off z' len cap ex hv
    split at he
    · rename_i hz'
      subst hz'
      rw [hv] at hxr
      obtain ⟨b, base, size, boff, cap', hm, hb, hlc, hcc, hs, ha⟩ := hxr.slice_inv
      split at he
      · rename_i h0
        cases he
        refine ⟨μ, w, .tuple #[], .refl (Nat.le_refl _), r, .none_undef, .inl ?_⟩
        rw [hc, ea, hb]
        rcases h0 with h0 | h0
        · subst h0
          simp [builtin, Builtin.clear_, hts, run_underlying ht]
        · subst h0
          have hz0 : z.cells.size = 0 := by have := (cLeaves_rel hzl μ).1; simp at this; simp [this]
          have he0 : ∀ n, (Builtin.zeroCells z.cells n).toList = [] := fun n => List.eq_nil_of_length_eq_zero (by rw [Array.length_toList, zeroCells_size, hz0]; simp)
          cases len with
          | zero => simp [builtin, Builtin.clear_, hts, run_underlying ht]
          | succ n => simp [builtin, Builtin.clear_, hts, run_underlying ht, hzr, he0, storeCells]
      · rename_i h0
        cases hst : h.store p off (rep zl len) with
        | none => simp [hst] at he
        | some h2 =>
          simp [hst] at he
          subst he
          have hlen : len ≠ 0 := fun e => h0 (.inl e)
          have hboff : boff = base + off := by
            rcases ha with ha | ⟨ha1, ha2⟩
            · exact ha
            · exact absurd ha1 hlen
          subst hboff
          have hrel : VRels μ (rep zl len) (Builtin.zeroCells z.cells len).toList := rep_rel (cLeaves_rel hzl μ) len _ rfl
          obtain ⟨w', hsr, hR⟩ := r.store (P := P) hst hm hrel
          refine ⟨μ, w', .tuple #[], .refl (Nat.le_of_eq (AH.next_store hst).symm), hR, .none_undef, .inl ?_⟩
          rw [hc, ea, hb]
          cases len with
          | zero => exact absurd rfl hlen
          | succ n => simp [builtin, Builtin.clear_, hts, run_underlying ht, hzr, hsr]
    · cases he
  · cases he

/-! ### a row of bytes that a string constant filled -/
theorem ok_mark {t e : TypeId} {x : Operand} {x' : AOpd} (ho : o.op = .convert t t x) (hx : cOpd x = some x') (ht : P.underlying t = some (.slice e)) (he' : P.underlying e = some (.int .u8)) : OpOk P o (.mark x') := by
  intro N w₀ μ h w f a res r hr he
  simp only [AOp.eval] at he
  split at he
  · rename_i p off z len cap ex hv
    split at he
    · rename_i l hg
      cases he
      have hxr := cOpd_rel hx hr
      rw [hv] at hxr
      have hxr' := hxr
      obtain ⟨b, base, size, boff, cap', hm, hb, hlc, hcc, hs, ha⟩ := hxr.slice_inv
      obtain ⟨C, el, fz, hbk, hC, hlen, hrel, h5⟩ := r.obj p b base size _ hm hg
      simp at h5
      have hrun : (markStringish ⟨b, boff, none⟩).run P w = .ok () (w.freeze ⟨b, C.size, none⟩ 1) := by
        simp only [markStringish, Sem.run_bind, run_shape, Result.andThen_ok, World.shape?, hbk, run_freeze]
      have hfr : (w.freeze ⟨b, C.size, none⟩ 1).heap[b]? = some (.cells C el (if fz.1 == fz.2 then (C.size, C.size + 1) else (min fz.1 C.size, max fz.2 (C.size + 1)))) := by
        unfold World.freeze
        rw [if_neg (by decide)]
        simp only [Array.getElem?_modify, if_true, hbk, Option.map_some]
      have hoth : ∀ k, k ≠ b → (w.freeze ⟨b, C.size, none⟩ 1).heap[k]? = w.heap[k]? := by
        intro k hk
        unfold World.freeze
        rw [if_neg (by decide)]
        simp only [Array.getElem?_modify]
        rw [if_neg (Ne.symm hk)]
      refine ⟨μ, w.freeze ⟨b, C.size, none⟩ 1, a.eval x, .refl (Nat.le_of_eq (AH.next_set _ _ _).symm), r.mark hm hg hbk ?_ hfr hoth ?_ ?_ ?_ ?_, hxr', .inl ?_⟩
      · subst hC
        split
        · exact .inr (Nat.le_refl _)
        · rename_i hne
          exact absurd (by simpa using h5.2) hne
      · unfold World.freeze; rw [if_neg (by decide)]; simp
      · unfold World.freeze; rw [if_neg (by decide)]
      · unfold World.freeze; rw [if_neg (by decide)]
      · unfold World.freeze; rw [if_neg (by decide)]
      · refine run_value2 (s := convert t t (a.eval x)) ?_ (by simp only [execOp, ho])
        rw [hb]
        simp only [convert, Sem.run_bind, run_underlying ht, run_underlying he', Result.andThen_ok, beq_self_eq_true, hrun, Sem.run_pure]
    · cases he
  · cases he
end
end Go.Vm

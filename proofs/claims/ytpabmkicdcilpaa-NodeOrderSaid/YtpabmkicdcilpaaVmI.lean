/- Map writes, append, copy, clear. -/
import Derived.Test.YtpabmkicdcilpaaVmH
import Derived.Laws.Append
namespace Go.Vm
open Go.RowKit
set_option linter.unusedSimpArgs false
set_option linter.unusedVariables false
section
variable {P : Program} {o : Oper}

theorem sameBits_key {kk : Nat} {μ : Inj} {x e : AV} {u v : Value} (hx : VRel μ x u) (he : VRel μ e v) (hb : keyEq kk x e = some true) (n : Nat) : Instr.sameBits n v u = true := by
  unfold keyEq at hb
  split at hb
  · split at hb
    · rename_i hk
      subst hk
      simp at hb
      subst hb
      rw [hx.int_inv, he.int_inv]
      cases n <;> simp [Instr.sameBits]
    · cases hb
  · obtain ⟨s, rfl, rfl⟩ := hx.str_inv
    obtain ⟨s', rfl, rfl⟩ := he.str_inv
    have hbe : ∀ a b : ByteArray, (a == b) = (a.data == b.data) := fun a b => by cases a; cases b; rfl
    simp at hb
    cases n <;> simp [Instr.sameBits, hbe, hb]
  · simp at hb
    subst hb
    rw [hx.bool_inv, he.bool_inv]
    cases n <;> simp [Instr.sameBits]
  · cases hb

theorem ok_mapUpd {t kt e : TypeId} {d : TypeDesc} {kk : Nat} {x y z : Operand} {x' y' z' : AOpd} (ho : o.op = .mapUpdate t x y z ∨ o.op = .insert t x y z) (hx : cOpd x = some x') (hy : cOpd y = some y') (hz : cOpd z = some z')
    (ht : P.underlying t = some (.map kt e)) (hu : P.underlying kt = some d) (hk : keyKind d = some kk) : OpOk P o (.mapUpd kk x' y' z') := by
  intro N w₀ μ h w f a res r hr he
  simp only [AOp.eval] at he
  split at he
  · rename_i p hv
    split at he
    · rename_i es hg
      have hxr := cOpd_rel hx hr
      have hyr := cOpd_rel hy hr
      have hzr := cOpd_rel hz hr
      rw [hv] at hxr
      obtain ⟨b, size, hm, hb⟩ := hxr.map_inv
      obtain ⟨ces, clock, hbk, hrel⟩ := r.map hm hg
      have hl : es.length = ces.size := by simpa using hrel.1
      cases hf : findV kk (y'.val f) es 0 with
      | none => simp [hf] at he
      | some r0 =>
        obtain ⟨r', hr1, hr2⟩ := findV_run hk hyr hrel hf
        have hfk := findKey_run (P := P) hu hr1 w
        have hex : ∀ (s : Sem Unit), s = Instr.mapUpdate t (a.eval x) (a.eval y) (a.eval z) → execOp a.eval o = (do s; pure .skip) := by
          intro s hs
          subst hs
          rcases ho with ho | ho <;> simp only [execOp, ho]
        cases r0 with
        | none =>
          cases r' with
          | some jv => exact hr2.elim
          | none =>
            simp [hf] at he
            subst he
            refine ⟨μ, _, Go.undef, .refl (Nat.le_refl _), r.setMap (es' := es ++ [(y'.val f, z'.val f)]) (ces' := ces.push { key := a.eval y, val := a.eval z, born := clock }) (clock' := clock + 1) hm hg (by simp [hl]) ?_, .none_undef, .inr ⟨run_unit ?_ (hex _ rfl), rfl⟩⟩
            · intro i p' q hp hq
              rw [Array.getElem?_push] at hq
              by_cases hi : i = ces.size
              · subst hi
                rw [if_pos rfl] at hq
                rw [← hl, List.getElem?_append_right (Nat.le_refl _)] at hp
                simp at hp hq
                subst hp hq
                exact ⟨hyr, hzr⟩
              · rw [if_neg hi] at hq
                have : i < es.length := by
                  rcases Nat.lt_or_ge i es.length with h' | h'
                  · exact h'
                  · have : (es ++ [(y'.val f, z'.val f)])[i]? = none := List.getElem?_eq_none (by simp; omega)
                    rw [this] at hp; cases hp
                rw [List.getElem?_append_left this] at hp
                exact hrel.2 i p' q hp (by simpa using hq)
            · rw [hb]
              unfold Instr.mapUpdate
              simp only [Sem.run_bind, run_underlying ht, Result.andThen_ok, run_getMap hbk, checkKey_run hu hk, hfk, run_setMap hbk]
        | some jv =>
          obtain ⟨j, v2⟩ := jv
          cases r' with
          | none => exact hr2.elim
          | some jv' =>
            obtain ⟨j', v'⟩ := jv'
            obtain ⟨rfl, hvr, _, e2, q, h5, h6, h7, h8⟩ := hr2
            simp only [Nat.sub_zero] at h5 h6
            simp [hf] at he
            subst he
            have hq : ces[j]? = some q := by simpa using h6
            have hkey := (hrel.2 j _ _ h5 h6).1
            have hsame := sameBits_key hyr hkey h8 10000
            have hjl : j < ces.size := (Array.getElem?_eq_some_iff.1 hq).1
            refine ⟨μ, _, Go.undef, .refl (Nat.le_refl _), r.setMap (es' := es.set j (y'.val f, z'.val f)) (ces' := ces.modify j fun e => { e with key := a.eval y, val := a.eval z }) (clock' := clock) hm hg (by simp [hl]) ?_, .none_undef, .inr ⟨run_unit ?_ (hex _ rfl), rfl⟩⟩
            · intro i p' q' hp hq'
              rw [Array.getElem?_modify] at hq'
              rw [List.getElem?_set] at hp
              by_cases hi : j = i
              · subst hi
                rw [if_pos rfl] at hq'
                rw [if_pos rfl, if_pos (by omega)] at hp
                rw [hq] at hq'
                simp at hp hq'
                subst hp hq'
                exact ⟨hyr, hzr⟩
              · rw [if_neg hi] at hq' hp
                exact hrel.2 i p' q' hp (by simpa using hq')
            · rw [hb]
              have hks : ∀ w, (Instr.keyThatStays q.key (a.eval y)).run P w = .ok (a.eval y) w := fun w => by simp [Instr.keyThatStays, hsame]
              unfold Instr.mapUpdate
              simp only [Sem.run_bind, run_underlying ht, Result.andThen_ok, run_getMap hbk, checkKey_run hu hk, hfk, hq, Option.map_some, Option.getD_some, hks, run_setMap hbk]
    · cases he
  · cases he
theorem ok_del {t kt e : TypeId} {d : TypeDesc} {kk : Nat} {x y : Operand} {x' y' : AOpd} {ts : Array TypeId} (ho : o.op = .call { callee := .builtin .delete, args := #[x, y], argTypes := ts }) (hts : ts[0]? = some t) (hx : cOpd x = some x') (hy : cOpd y = some y')
    (ht : P.underlying t = some (.map kt e)) (hu : P.underlying kt = some d) (hk : keyKind d = some kk) : OpOk P o (.del kk x' y') := by
  intro N w₀ μ h w f a res r hr he
  simp only [AOp.eval] at he
  split at he
  · rename_i p hv
    split at he
    · rename_i es hg
      have hxr := cOpd_rel hx hr
      have hyr := cOpd_rel hy hr
      rw [hv] at hxr
      obtain ⟨b, size, hm, hb⟩ := hxr.map_inv
      obtain ⟨ces, clock, hbk, hrel⟩ := r.map hm hg
      have hl : es.length = ces.size := by simpa using hrel.1
      obtain ⟨consts, hc⟩ := run_builtin (P := P) ho a w
      cases hf : findV kk (y'.val f) es 0 with
      | none => simp [hf] at he
      | some r0 =>
        obtain ⟨r', hr1, hr2⟩ := findV_run hk hyr hrel hf
        have hfk := findKey_run (P := P) hu hr1 w
        cases r0 with
        | none =>
          cases r' with
          | some jv => exact hr2.elim
          | none =>
            simp [hf] at he
            subst he
            have hR := r.setMap (es' := es) (ces' := ces) (clock' := clock) hm hg hl (fun i p q hp hq => hrel.2 i p q hp (by simpa using hq))
            have hself : { w with heap := w.heap.setIfInBounds b (.map ces clock) } = w := by
              have hlt : b < w.heap.size := (Array.getElem?_eq_some_iff.1 hbk).1
              have hv2 : w.heap[b] = .map ces clock := (Array.getElem?_eq_some_iff.1 hbk).2
              have : w.heap.setIfInBounds b (.map ces clock) = w.heap := by
                apply Array.ext
                · simp
                · intro i h1 h2
                  rw [Array.getElem_setIfInBounds]
                  split
                  · rename_i e; subst e; exact hv2.symm
                  · rfl
              rw [this]
            refine ⟨μ, w, .tuple #[], .refl (Nat.le_refl _), r, .none_undef, .inl ?_⟩
            rw [hc]
            simp [builtin, Builtin.delete_, hts, hb, run_underlying ht, run_getMap hbk, checkKey_run hu hk, hfk, run_setMap hbk, hself]
        | some jv =>
          obtain ⟨j, v2⟩ := jv
          cases r' with
          | none => exact hr2.elim
          | some jv' =>
            obtain ⟨j', v'⟩ := jv'
            obtain ⟨rfl, hvr, _, e2, q, h5, h6, h7, h8⟩ := hr2
            simp only [Nat.sub_zero] at h5 h6
            simp [hf] at he
            subst he
            have hq : ces[j]? = some q := by simpa using h6
            have hjl : j < ces.size := (Array.getElem?_eq_some_iff.1 hq).1
            refine ⟨μ, _, .tuple #[], .refl (Nat.le_refl _), r.setMap (es' := es.eraseIdx j) (ces' := ces.eraseIdxIfInBounds j) (clock' := clock) hm hg ?_ ?_, .none_undef, .inl ?_⟩
            · rw [List.length_eraseIdx_of_lt (by omega)]
              simp [Array.eraseIdxIfInBounds, hjl, hl]
            · intro i p' q' hp hq'
              have : (ces.eraseIdxIfInBounds j).toList = ces.toList.eraseIdx j := by
                simp [Array.eraseIdxIfInBounds, hjl]
              have hq2 : (ces.toList.eraseIdx j)[i]? = some q' := by rw [← this, Array.getElem?_toList]; exact hq'
              rw [List.getElem?_eraseIdx] at hp hq2
              split at hp
              · rw [if_pos ‹_›] at hq2; exact hrel.2 i p' q' hp hq2
              · rw [if_neg ‹_›] at hq2; exact hrel.2 (i + 1) p' q' hp hq2
            · rw [hc]
              simp [builtin, Builtin.delete_, hts, hb, run_underlying ht, run_getMap hbk, checkKey_run hu hk, hfk, run_setMap hbk]
    · cases he
  · cases he

/-! ### append -/
def appendTail (elem : TypeId) (size : Nat) (zeros : Bool) (base : Option Addr) (sLen sCap n : Nat) (s x : Value) (appended : Sem (Array Value)) : Sem Value := do
  let need := sLen + n
  if need ≤ sCap then
    let new ← appended
    if let some a := base then storeCells (a.add (sLen * size)) new.toList
    pure (.slice base need sCap)
  else
    if (need : Int) > IntKind.i64.max ∧ (zeros ∨ (← typeInfo elem).bytes = 0) then runtimePanic (.error "growslice: len out of range")
    if Builtin.nextslicecap need sCap * (← typeInfo elem).bytes > 2 ^ 48 then (if zeros then runtimePanic (.error "growslice: len out of range") else do
      if !(← Builtin.mayShare size sLen n base x) then mark .noRoom
      unsupported (.resourceLimit "append: a slice or a string whose bytes no memory bears"))
    let newCap ← choose (.appendCap need sCap elem)
    askRoom (newCap * (← typeInfo elem).bytes)
    let old ← Builtin.firstCells size sLen s
    let new ← appended
    let rest := Builtin.zeroCells (← zeroValue elem).cells (newCap - need)
    pure (.slice (some (← newRow elem (old ++ new ++ rest))) need newCap)
theorem nextslicecap_le {need old : Nat} (h : old < need) : Builtin.nextslicecap need old ≤ 2 * need + 1024 := by
  unfold Builtin.nextslicecap
  split
  · omega
  · split
    · omega
    · rw [growBy_four]
      repeat' split
      all_goals omega
theorem room_le {need bytes cap cap' : Nat} {ex : Bool} (h : roomOk need bytes cap ex = true) (hc : if ex then cap' = cap else cap ≤ cap') (hlt : cap' < need) :
    Builtin.nextslicecap need cap' * bytes ≤ 2 ^ 48 ∧ ¬ ((need : Int) > IntKind.i64.max ∧ ((false = true) ∨ bytes = 0)) ∧ need ≤ 9223372036854775807 := by
  have e48 : (2 : Nat) ^ 48 = 281474976710656 := by decide
  unfold roomOk at h
  simp only [Bool.or_eq_true, Bool.and_eq_true, decide_eq_true_eq] at h
  rw [e48, IntKind.max_i64]
  rcases h with ⟨⟨h1, h2⟩, h3⟩ | ⟨⟨⟨⟨h1, h2⟩, h3⟩, h4⟩, h5⟩
  · refine ⟨?_, by omega, by omega⟩
    have hn := nextslicecap_le hlt
    have : Builtin.nextslicecap need cap' * bytes ≤ (2 * need + 1024) * bytes := Nat.mul_le_mul_right _ hn
    rw [Nat.add_mul, Nat.mul_assoc] at this
    omega
  · rw [h1, if_pos rfl] at hc
    refine ⟨?_, by omega, h4⟩
    have : Builtin.nextslicecap need cap' = need := by unfold Builtin.nextslicecap; rw [if_pos (by omega)]
    rw [this]
    exact h3
theorem zeroCells_size (z : Array Value) (n : Nat) : (Builtin.zeroCells z n).size = n * z.size := by simp [Builtin.zeroCells]
/-- Growing: a new row. -/
theorem appendTail_grow {w : World} {elem : TypeId} {inf : TypeInfo} {z : Value} {zeros : Bool} {base : Option Addr} {sLen sCap n : Nat} {s x : Value} {appended : Sem (Array Value)} {old new : Array Value}
    (hi : P.info? elem = some inf) (hz : inf.zero = some z) (hzs : z.cells.size = inf.size) (hlt : ¬ sLen + n ≤ sCap) (h1 : Builtin.nextslicecap (sLen + n) sCap * inf.bytes ≤ 2 ^ 48)
    (h2 : ¬ (((sLen + n : Nat) : Int) > IntKind.i64.max ∧ (zeros = true ∨ inf.bytes = 0))) (ho : ∀ d, (Builtin.firstCells inf.size sLen s).run P { w with drawn := d } = .ok old { w with drawn := d })
    (hn : ∀ d, appended.run P { w with drawn := d } = .ok new { w with drawn := d }) :
    ∃ newCap, sLen + n ≤ newCap ∧ (appendTail elem inf.size zeros base sLen sCap n s x appended).run P w =
      .ok (.slice (some ⟨w.heap.size, 0, none⟩) (sLen + n) newCap) { w with heap := w.heap.push (.cells (old ++ new ++ Builtin.zeroCells z.cells (newCap - (sLen + n))) elem (0, 0)), drawn := w.drawn + 1 } := by
  generalize hcap : (Question.appendCap (sLen + n) sCap elem).cut (w.tape w.drawn (.appendCap (sLen + n) sCap elem)) = cap
  have hge : sLen + n ≤ cap := by rw [← hcap]; simp only [Question.cut]; omega
  refine ⟨cap, hge, ?_⟩
  have hzr : ∀ w, (zeroValue elem).run P w = .ok z w := fun w => by simp [zeroValue, typeInfo, hi, hz]
  have hti : ∀ w, (typeInfo elem).run P w = .ok inf w := fun w => by simp [typeInfo, hi]
  unfold appendTail
  rw [if_neg hlt]
  simp only [Sem.run_bind, hti, Result.andThen_ok]
  rw [if_neg h2]
  simp only [Sem.run_bind, hti, Result.andThen_ok]
  rw [if_neg (by omega)]
  simp only [Sem.run_bind, hti, Result.andThen_ok]
  simp only [Sem.run_bind, run_choose, Question.forced, Bool.false_eq_true, if_false, Result.andThen_ok, hcap, run_askRoom, ho, hn, hzr, newRow, run_newObj, Sem.run_pure]
end
end Go.Vm

/- append, copy, clear. -/
import Derived.Test.YtpabmkicdcilpaaVmI
namespace Go.Vm
open Go.RowKit
set_option linter.unusedSimpArgs false
set_option linter.unusedVariables false
section
variable {P : Program} {o : Oper}

theorem grown_cells {N : Nat} {μ : Inj} {w : World} (hN : N ≤ w.heap.size) {lo ln : List AV} {uo un : List Value} (h1 : VRels μ lo uo) (h2 : VRels μ ln un) (z : Array Value) (k : Nat) {size : Nat} (hs : uo.length + un.length + k * z.size = size) {e : TypeId}
    (id : Nat) (w' : World) (hid : μ id = none) (hw : w'.heap[w.heap.size]? = some (.cells (uo.toArray ++ un.toArray ++ Builtin.zeroCells z k) e (0, 0))) :
    ORel (Inj.add μ id (w.heap.size, 0, size)) N w' (.cells (lo ++ ln) true) w.heap.size 0 size := by
  refine cells_new_more (us := uo ++ un) hN (h1.append h2) ?_ ?_ ?_ ?_ id w' hid hw
  · intro i u hu
    have hi : i < (uo ++ un).length := by
      rcases Nat.lt_or_ge i (uo ++ un).length with h' | h'
      · exact h'
      · rw [List.getElem?_eq_none h'] at hu; cases hu
    have e1 : (uo.toArray ++ un.toArray ++ Builtin.zeroCells z k).toList = (uo ++ un) ++ (Builtin.zeroCells z k).toList := by simp
    rw [← Array.getElem?_toList, e1, List.getElem?_append_left hi]
    exact hu
  · simp [zeroCells_size]; omega
  · simp; omega
  · rfl

theorem appendV_sound {elem : TypeId} {inf : TypeInfo} {z : Value} {zeros : Bool} {N : Nat} {w₀ : World} {μ : Inj} {h h' : AH} {w : World} (r : R N w₀ μ h w) {s v : AV} {base : Option Addr} {sLen sCap n : Nat} {x : Value} {appended : Sem (Array Value)} {new : List AV} {us : List Value}
    (hi : P.info? elem = some inf) (hz : inf.zero = some z) (hzs : z.cells.size = inf.size) (hs : VRel μ s (.slice base sLen sCap)) (hv : appendV inf.size inf.bytes s new n h = some (v, h')) (hnew : VRels μ new us) (hlen : new.length = n * inf.size)
    (hrun : ∀ d, appended.run P { w with drawn := d } = .ok us.toArray { w with drawn := d }) :
    ∃ μ' w' v', Inj.Ext h.next h'.next μ μ' ∧ R N w₀ μ' h' w' ∧ VRel μ' v v' ∧ (appendTail elem inf.size zeros base sLen sCap n (.slice base sLen sCap) x appended).run P w = .ok v' w' := by
  have hrun0 : appended.run P w = .ok us.toArray w := hrun w.drawn
  have hul : us.length = n * inf.size := by rw [← hnew.1, hlen]
  have hnone : μ h.next = none := by
    cases hm : μ h.next with
    | none => rfl
    | some y => have := r.dom _ _ hm; omega
  have grow : ∀ {need : Nat} {old : List AV} {uo : List Value} {g : AH}, need = sLen + n → ¬ need ≤ sCap → Builtin.nextslicecap need sCap * inf.bytes ≤ 2 ^ 48 → ¬ ((need : Int) > IntKind.i64.max ∧ (zeros = true ∨ inf.bytes = 0)) →
      R N w₀ μ g w → g.next = h.next → VRels μ old uo → uo.length = sLen * inf.size → (∀ d, (Builtin.firstCells inf.size sLen (.slice base sLen sCap)).run P { w with drawn := d } = .ok uo.toArray { w with drawn := d }) →
      ∃ μ' w' v', Inj.Ext h.next (h.next + 1) μ μ' ∧ R N w₀ μ' (g.new (.cells (old ++ new) true)) w' ∧ VRel μ' (.slice h.next 0 inf.size need need false) v' ∧ (appendTail elem inf.size zeros base sLen sCap n (.slice base sLen sCap) x appended).run P w = .ok v' w' := by
    intro need old uo g hneed hlt h1 h2 rg hgn hold huol hfo
    subst hneed
    obtain ⟨newCap, hge, hr⟩ := appendTail_grow (P := P) (w := w) (x := x) hi hz hzs hlt h1 h2 hfo hrun
    have hsize : uo.length + us.length + (newCap - (sLen + n)) * z.cells.size = newCap * inf.size := by
      rw [huol, hul, hzs, ← Nat.add_mul, ← Nat.add_mul]; congr 1; omega
    obtain ⟨hle, hR⟩ := rg.alloc (x := .cells (old ++ new) true) (size := newCap * inf.size) (fun w' hw' => grown_cells rg.fresh hold hnew z.cells (newCap - (sLen + n)) hsize g.next w' (hgn ▸ hnone) hw')
    rw [hgn] at hle hR
    refine ⟨_, _, _, .new _ hnone, hR.drawn (w.drawn + 1), .slice (Inj.add_self _ _ _) hge (by simp; exact hge) (by omega) (.inl rfl), hr⟩
  unfold appendV at hv
  split at hv
  · have e := hs.nilSlice_inv
    cases e
    split at hv
    · rename_i hn0
      subst hn0
      cases hv
      have hus : us = [] := by cases us <;> simp_all
      subst hus
      refine ⟨μ, w, .slice none 0 0, .refl (Nat.le_refl _), r, .nilSlice, ?_⟩
      unfold appendTail
      simp only [Nat.add_zero, Nat.le_refl, if_true, Sem.run_bind, hrun0, Result.andThen_ok, Sem.run_pure]
    · rename_i hn0
      split at hv
      · rename_i hroom
        cases hv
        obtain ⟨a1, a2, a3⟩ := room_le (cap' := 0) hroom (by simp) (by omega)
        have hg2 : ¬ ((n : Int) > IntKind.i64.max ∧ (zeros = true ∨ inf.bytes = 0)) := by
          rw [IntKind.max_i64]; omega
        obtain ⟨μ', w', v', q1, q2, q3, q4⟩ := grow (need := n) (old := []) (uo := []) (g := h) (by omega) (by omega) a1 hg2 r rfl .nil (by simp) (fun d => by simp [Builtin.firstCells])
        exact ⟨μ', w', v', q1, q2, q3, q4⟩
      · cases hv
  · rename_i p off z' len cap ex
    split at hv
    · rename_i hz'
      subst hz'
      obtain ⟨b, base', size, boff, cap', hm, hb, hlc, hcc, hsz, ha⟩ := hs.slice_inv
      cases hb
      have hcap : cap ≤ sCap := by cases ex <;> simp at hcc <;> omega
      split at hv
      · rename_i hfit
        have hin : sLen + n ≤ sCap := by omega
        split at hv
        · rename_i h0
          cases hv
          have hus : us = [] := by cases us <;> simp_all
          subst hus
          refine ⟨μ, w, .slice (some ⟨b, boff, none⟩) (sLen + n) sCap, .refl (Nat.le_refl _), r, .slice hm hin hcc hsz ?_, ?_⟩
          · rcases ha with ha | ⟨ha1, ha2⟩
            · exact .inl ha
            · exact .inr ⟨by omega, ha2⟩
          · unfold appendTail
            rw [if_pos hin]
            simp only [Sem.run_bind, hrun0, Result.andThen_ok, storeCells, Sem.run_pure]
        · rename_i h0
          cases hst : h.store p (off + sLen * inf.size) new with
          | none => simp [hst] at hv
          | some h1 =>
            simp [hst] at hv
            obtain ⟨rfl, rfl⟩ := hv
            have hboff : boff = base' + off := by
              rcases ha with ha | ⟨ha1, ha2⟩
              · exact ha
              · exfalso; apply h0; have : n = 0 := by omega
                rw [this]; simp
            subst hboff
            obtain ⟨w', hsr, hR⟩ := r.store (P := P) hst hm hnew
            refine ⟨μ, w', .slice (some ⟨b, base' + off, none⟩) (sLen + n) sCap, .refl (Nat.le_of_eq (AH.next_store hst).symm), hR, .slice hm hin hcc hsz (.inl rfl), ?_⟩
            unfold appendTail
            rw [if_pos hin]
            rw [show base' + (off + sLen * inf.size) = base' + off + sLen * inf.size by omega] at hsr
            simp only [Sem.run_bind, hrun0, Result.andThen_ok, addr_add, hsr, Sem.run_pure]
      · rename_i hfit
        split at hv
        · rename_i hroom
          split at hv
          · rename_i old hload
            have hel : h.elems inf.size sLen (.slice p off inf.size sLen cap ex) = some old := by simp [AH.elems, hload]
            obtain ⟨uo, hfo, holdr, holdl⟩ := elems_run (P := P) r hel hs
            have hfo' : ∀ d, (Builtin.firstCells inf.size sLen (.slice (some ⟨b, boff, none⟩) sLen sCap)).run P { w with drawn := d } = .ok uo.toArray { w with drawn := d } := by
              intro d
              obtain ⟨uo', hfo2, holdr2, _⟩ := elems_run (P := P) (r.drawn d) hel hs
              have : uo' = uo := by
                rcases ha with ha | ⟨ha1, ha2⟩
                · subst ha
                  obtain ⟨lc, _, ⟨hg, hx'⟩, hn', _⟩ := load_inv hload
                  obtain ⟨C, el, fz, hbk, hC, hlen', _⟩ := (r.obj p b base' size _ hm hg).row hx'
                  have e1 := run_loadCells_row (P := P) (w := w) (off := base' + off) (n := sLen * inf.size) hbk (by omega)
                  have e2 := run_loadCells_row (P := P) (w := { w with drawn := d }) (off := base' + off) (n := sLen * inf.size) hbk (by omega)
                  simp only [Builtin.firstCells] at hfo hfo2
                  rw [e1] at hfo
                  rw [e2] at hfo2
                  simp at hfo hfo2
                  rw [← hfo, ← hfo2]
                · have e1 := holdr.1
                  have e2 := holdr2.1
                  rw [holdl, ha1, Nat.zero_mul] at e1 e2
                  rw [List.eq_nil_of_length_eq_zero e1.symm, List.eq_nil_of_length_eq_zero e2.symm]
              rw [← this]; exact hfo2
            have huol : uo.length = sLen * inf.size := by rw [← holdr.1, holdl]
            have hgz : sLen + n ≤ 9223372036854775807 → ¬ (((sLen + n : Nat) : Int) > IntKind.i64.max ∧ (zeros = true ∨ inf.bytes = 0)) := by
              intro a3
              rw [IntKind.max_i64]; omega
            split at hv
            · rename_i hex
              cases hv
              rw [if_pos hex] at hcc
              obtain ⟨a1, a2, a3⟩ := room_le (cap' := sCap) hroom (by rw [if_pos hex]; exact hcc) (by omega)
              exact grow (need := sLen + n) (g := h) rfl (by omega) a1 (hgz a3) r rfl holdr huol hfo'
            · rename_i hex
              split at hv
              · rename_i hrw
                cases hv
                simp only [Bool.and_eq_true] at hrw
                obtain ⟨hrw, hflat⟩ := hrw
                obtain ⟨l, hg⟩ := isRw_iff.1 hrw
                by_cases hin : sLen + n ≤ sCap
                · have hboff : boff = base' + off := by
                    rcases ha with ha | ⟨ha1, ha2⟩
                    · exact ha
                    · exfalso; omega
                  subst hboff
                  obtain ⟨C, e, fz, hbk, hC, hlen', hrel, h5⟩ := r.obj p b base' size _ hm hg
                  simp at h5
                  have hone : ∀ v ∈ us, v.oneCell' = true := by
                    intro v hmem
                    obtain ⟨k, hk, rfl⟩ := List.mem_iff_getElem.1 hmem
                    have hk' : k < new.length := by have := hnew.1; omega
                    exact (hnew.2 k _ _ (List.getElem?_eq_getElem hk') (List.getElem?_eq_getElem hk)).oneCell (by rw [List.all_eq_true] at hflat; exact hflat _ (List.getElem_mem hk'))
                  have hmul : (sLen + n) * inf.size ≤ sCap * inf.size := Nat.mul_le_mul_right _ hin
                  rw [Nat.add_mul] at hmul
                  have hst := run_storeCells_row (P := P) b (base' + off + sLen * inf.size) e fz us 0 C w hbk (fun k h1 h2 => by have := h5.2; omega) (by omega) hone
                  simp only [Nat.add_zero] at hst
                  have hold : uo = (C.toList.drop (base' + off)).take (sLen * inf.size) := by
                    have e1 := run_loadCells_row (P := P) (w := w) (off := base' + off) (n := sLen * inf.size) hbk (by omega)
                    simp only [Builtin.firstCells] at hfo
                    rw [e1] at hfo
                    simp at hfo
                    exact hfo.symm
                  have hCl : C.toList.length = size := by simpa using hC
                  obtain ⟨hle, hR⟩ := r.rename (boff := base' + off) (l' := old ++ new) hm hg hbk (by omega) (C' := (C.toList.take (base' + off + sLen * inf.size) ++ us ++ C.toList.drop (base' + off + sLen * inf.size + us.length)).toArray) (by simp; omega) (by simp [hlen, holdl]; omega) (by
                    intro i u v hu hv
                    rw [List.getElem?_toArray] at hv
                    by_cases hi : i < old.length
                    · rw [List.getElem?_append_left hi] at hu
                      rw [List.append_assoc, List.getElem?_append_left (by simp; omega), List.getElem?_take, if_pos (by omega)] at hv
                      refine holdr.2 i u v hu ?_
                      rw [hold, List.getElem?_take, if_pos (by omega), List.getElem?_drop]
                      exact hv
                    · rw [List.getElem?_append_right (by omega)] at hu
                      have hi2 : i - old.length < new.length := by
                        rcases Nat.lt_or_ge (i - old.length) new.length with h' | h'
                        · exact h'
                        · rw [List.getElem?_eq_none h'] at hu; cases hu
                      have hnl := hnew.1
                      rw [List.append_assoc, List.getElem?_append_right (by simp; omega), List.getElem?_append_left (by simp; omega)] at hv
                      refine hnew.2 _ u v hu ?_
                      rw [← hv]
                      congr 1
                      simp
                      omega)
                  refine ⟨_, _, .slice (some ⟨b, base' + off, none⟩) (sLen + n) sCap, .new _ hnone, hR, .slice (Inj.add_self _ _ _) hin (by simp; exact hin) hsz (.inl rfl), ?_⟩
                  unfold appendTail
                  rw [if_pos hin]
                  simp only [Sem.run_bind, hrun0, Result.andThen_ok, addr_add, hst, Sem.run_pure]
                · obtain ⟨a1, a2, a3⟩ := room_le (cap' := sCap) hroom hcc (by omega)
                  exact grow (need := sLen + n) (g := h.set p .dead) rfl hin a1 (hgz a3) (r.kill p) rfl holdr huol hfo'
              · cases hv
          · cases hv
        · cases hv
    · cases hv
  · cases hv

def isIntD : TypeDesc → Bool
  | .int _ => true
  | _ => false
theorem append_is {t u ty e : TypeId} {inf : TypeInfo} {d : TypeDesc} {base : Option Addr} {sLen sCap n : Nat} {x : Value} {w : World} (ht : P.underlying t = some (.slice e)) (hu : P.underlying u = some d) (hd : isIntD d = false)
    (hi : P.info? e = some inf) (hx : ∀ w, (Builtin.lenOf x).run P w = .ok n w) :
    (Builtin.append_ #[t, u] ty #[.slice base sLen sCap, x]).run P w = (appendTail e inf.size false base sLen sCap n (.slice base sLen sCap) x (Builtin.firstCells inf.size n x)).run P w := by
  have hti : ∀ w, (typeInfo e).run P w = .ok inf w := fun w => by simp [typeInfo, hi]
  simp only [Builtin.append_, List.getElem?_toArray, List.getElem?_cons_zero, List.getElem?_cons_succ]
  simp only [Sem.run_bind, run_underlying ht, Result.andThen_ok, run_sizeOf' hi, run_underlying hu, Sem.run_pure]
  cases d <;> first | cases hd | skip
  all_goals
    simp only [Bool.false_eq_true, if_false, Sem.run_bind, hx, Result.andThen_ok, Bool.not_false, if_true, false_or, hti]
    unfold appendTail
    by_cases hle : sLen + n ≤ sCap
    · rw [if_pos hle, if_pos hle]
      rfl
    · rw [if_neg hle, if_neg hle]
      simp only [Sem.run_bind, hti, Result.andThen_ok, Bool.false_eq_true, false_or, if_false]
end
end Go.Vm

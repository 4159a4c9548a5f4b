/- Arenas: slots are filled, stored, swapped, loaded. -/
import Derived.Test.YtejjkienklaghaaP4C
namespace Go.Proofs.Ytejjkienklaghaa
open Go.Vm
set_option linter.unusedSimpArgs false
set_option linter.unusedVariables false
variable {T : Vm.Prog} {h : AH}
theorem Words.keep {h' : AH} {v : AV} {ws : List Nat} (w : Words h v ws) (hk : ∀ o ∈ objs v, h'.get o = h.get o) : Words h' v ws := by
  obtain ⟨o, rfl, hg⟩ := w
  exact ⟨o, rfl, (hk o (by simp [objs])).trans hg⟩
theorem SlotsV.keep {h' : AH} {v : AV} {S : List Slot} (r : SlotsV h v S) (hk : ∀ o ∈ objs v, h'.get o = h.get o) : SlotsV h' v S := by
  rcases r with ⟨rfl, rfl⟩ | ⟨so, cap, l, rfl, hg, h1⟩
  · exact .inl ⟨rfl, rfl⟩
  · exact .inr ⟨so, cap, l, rfl, (hk so (by simp [objs])).trans hg, h1⟩
theorem Arena.keep {h' : AH} {a : Nat} {sv : AV} {S : List Slot} {Q : List PR} (A : Arena h a sv S Q) (h1 : h'.get a = h.get a) (h2 : ∀ o ∈ objs sv, h'.get o = h.get o) (h3 : ∀ q ∈ Q, ∀ o ∈ q.foot, h'.get o = h.get o) (h4 : ∀ s ∈ S, ∀ o ∈ objs s.wv, h'.get o = h.get o) : Arena h' a sv S Q where
  obj := h1.trans A.obj
  five := A.five
  slots := A.slots.keep h2
  words := fun s hs => (A.words s hs).keep (h4 s hs)
  own := A.own
  pools := fun q hq => (A.pools q hq).keep (h3 q hq)
  aside := A.aside
  apart := A.apart
  kinds := A.kinds
  small := A.small
theorem Arena.low {a : Nat} {sv : AV} {S : List Slot} {Q : List PR} (A : Arena h a sv S Q) (hl : Low h) : a < h.next ∧ (∀ o ∈ objs sv, o < h.next) ∧ (∀ q ∈ Q, ∀ o ∈ q.foot, o < h.next) ∧ ∀ s ∈ S, ∀ o ∈ objs s.wv, o < h.next := by
  refine ⟨hl _ _ A.obj, ?_, fun q hq => (A.pools q hq).low hl, ?_⟩
  · intro o ho
    rcases A.slots with ⟨rfl, _⟩ | ⟨so, cap, l, rfl, hg, _⟩
    · simp [objs] at ho
    · simp [objs] at ho; subst ho; exact hl _ _ hg
  · intro s hs o ho
    obtain ⟨w, hw, hg⟩ := A.words s hs
    rw [hw] at ho
    simp [objs] at ho; subst ho; exact hl _ _ hg
/-- Only new objects. -/
theorem Arena.grow {h' : AH} {a : Nat} {sv : AV} {S : List Slot} {Q : List PR} (A : Arena h a sv S Q) (hl : Low h) (on : Only h h' []) : Arena h' a sv S Q := by
  obtain ⟨l1, l2, l3, l4⟩ := A.low hl
  exact A.keep (on.2 a l1 (by simp)) (fun o ho => on.2 o (l2 o ho) (by simp)) (fun q hq o ho => on.2 o (l3 q hq o ho) (by simp)) (fun s hs o ho => on.2 o (l4 s hs o ho) (by simp))
theorem Arena.same {h' : AH} {a : Nat} {sv : AV} {S : List Slot} {Q : List PR} (A : Arena h a sv S Q) (hg : ∀ o, h'.get o = h.get o) : Arena h' a sv S Q :=
  A.keep (hg _) (fun o _ => hg o) (fun _ _ o _ => hg o) (fun _ _ o _ => hg o)
/-- One cell of a slot. -/
theorem Arena.setCell {a : Nat} {sv : AV} {S : List Slot} {Q : List PR} (A : Arena h a sv S Q) {n j : Nat} {x y : Slot} {v : AV} {so : Nat} (hx : S[n]? = some x) (hso : objs sv = [so]) (hj : j < 4) (hv : v.cells = [v]) (hf : v.flat = true) (hc : y.cells = x.cells.set j v)
    (hw : Words h y.wv y.ws) (ho : ∀ o ∈ objs y.wv, o ≠ a ∧ o ∉ objs sv ∧ ∀ q ∈ Q, o ∉ q.foot) (hk : y.cls < 5 ∧ y.gen < 9223372036854775807 ∧ y.ws.length = sizeN y.cls) :
    ∃ h', storeV h 1 (.ptr so (n * 4 + j)) v = some h' ∧ Upd h h' so ∧ Arena h' a sv (S.set n y) Q := by
  have hn := (List.getElem?_eq_some_iff.1 hx).1
  rcases A.slots with ⟨rfl, rfl⟩ | ⟨so', cap, l, rfl, hg, h1, h2, h3⟩
  · simp at hx
  · simp only [objs, List.cons.injEq, and_true] at hso
    subst hso
    refine ⟨_, store_at hg (by omega) hv hf, (Upd.refl h _).set _, ?_⟩
    have hne : ∀ o, o ≠ so' → (h.set so' (.cells (l.set (n * 4 + j) v) true)).get o = h.get o := fun o e => by rw [AH.get_set, if_neg (Ne.symm e)]
    have hmem : ∀ s ∈ S.set n y, s ∈ S ∨ s = y := by
      intro s hs
      rcases List.mem_or_eq_of_mem_set hs with h4 | h4
      · exact .inl h4
      · exact .inr h4
    refine ⟨?_, A.five, ?_, ?_, ?_, ?_, A.aside, A.apart, ?_, by simpa using A.small⟩
    · rw [hne a (fun e => A.aside.1 (by simp [objs, e]))]; exact A.obj
    · refine .inr ⟨so', cap, _, by simp, get_set_same, by simp [h1], by simpa using h2, ?_⟩
      intro i s hs m z hz
      rw [List.getElem?_set] at hs
      have hm4 : m < 4 := (List.getElem?_eq_some_iff.1 hz).1
      by_cases e : n = i
      · subst e
        rw [if_pos rfl, if_pos hn] at hs
        cases hs
        rw [hc, List.getElem?_set] at hz
        rw [List.getElem?_set]
        by_cases e2 : j = m
        · subst e2
          rw [if_pos rfl] at hz
          rw [if_pos rfl, if_pos (by omega)]
          split at hz
          · exact hz
          · cases hz
        · rw [if_neg e2] at hz
          rw [if_neg (by omega)]
          exact h3 n x hx m z hz
      · rw [if_neg e] at hs
        rw [List.getElem?_set, if_neg (by omega)]
        exact h3 i s hs m z hz
    · intro s hs
      rcases hmem s hs with h4 | rfl
      · exact (A.words s h4).keep fun o h5 => hne o fun e => (A.own s h4 o h5).2.1 (by simp [objs, e])
      · exact hw.keep fun o h5 => hne o fun e => (ho o h5).2.1 (by simp [objs, e])
    · intro s hs o h5
      rcases hmem s hs with h4 | rfl
      · exact A.own s h4 o h5
      · exact ho o h5
    · intro q hq
      exact (A.pools q hq).keep fun o h5 => hne o fun e => (A.aside.2 q hq).2 o (by simp [objs, e]) h5
    · intro s hs
      rcases hmem s hs with h4 | rfl
      · exact A.kinds s h4
      · exact hk
/-- Words that are handed in. -/
def Src (h : AH) (v : AV) (ws : List Nat) : Prop := (v = .nilSlice ∧ ws = []) ∨ ∃ o off cap ex l rw, v = .slice o off 1 ws.length cap ex ∧ h.get o = some (.cells l rw) ∧ off + ws.length ≤ l.length ∧ (l.drop off).take ws.length = wcells ws
theorem Src.len {v : AV} {ws : List Nat} (s : Src h v ws) : lenOfV v = some ws.length := by
  rcases s with ⟨rfl, rfl⟩ | ⟨o, off, cap, ex, l, rw, rfl, _⟩ <;> rfl
theorem Src.keep {h' : AH} {v : AV} {ws : List Nat} (s : Src h v ws) (hk : ∀ o ∈ objs v, h'.get o = h.get o) : Src h' v ws := by
  rcases s with ⟨rfl, rfl⟩ | ⟨o, off, cap, ex, l, rw, rfl, hg, h1⟩
  · exact .inl ⟨rfl, rfl⟩
  · exact .inr ⟨o, off, cap, ex, l, rw, rfl, (hk o (by simp [objs])).trans hg, h1⟩
theorem Src.elems {v : AV} {ws : List Nat} (s : Src h v ws) : h.elems 1 ws.length v = some (wcells ws) := by
  rcases s with ⟨rfl, rfl⟩ | ⟨o, off, cap, ex, l, rw, rfl, hg, h1, h2⟩
  · rfl
  · simp only [AH.elems, true_and, Nat.le_refl, if_true, AH.load, hg, Nat.mul_one]
    rw [if_pos h1, h2]
theorem Words.src {v : AV} {ws : List Nat} (w : Words h v ws) : Src h v ws := by
  obtain ⟨o, rfl, hg⟩ := w
  exact .inr ⟨o, 0, ws.length, true, wcells ws, true, rfl, hg, by rw [wcells_len]; omega, by rw [List.drop_zero, List.take_of_length_le (by rw [wcells_len]; omega)]⟩
/-- Words, noughts behind them. -/
def padW (ws : List Nat) (n : Nat) : List Nat := ws ++ List.replicate (n - ws.length) 0
theorem padW_len {ws : List Nat} {n : Nat} (h : ws.length ≤ n) : (padW ws n).length = n := by simp [padW]; omega
theorem pad_cells {ws : List Nat} {n : Nat} (h : ws.length ≤ n) : setMany (List.replicate n (AV.int .u64 0)) 0 (wcells ws) = wcells (padW ws n) := by
  obtain ⟨s1, s2⟩ := setMany_get (List.replicate n (AV.int .u64 0)) (wcells ws) 0
  obtain ⟨_, s4, s5⟩ := s2 (by rw [wcells_len]; simp; omega)
  have hp : wcells (padW ws n) = wcells ws ++ List.replicate (n - ws.length) (AV.int .u64 0) := by simp [wcells, padW]
  apply List.ext_getElem?
  intro i
  by_cases hi : i < ws.length
  · have := s4 i (AV.int .u64 ((ws[i]'hi : Nat) : Int)) (by simp [wcells, hi])
    rw [Nat.zero_add] at this
    rw [this, hp, List.getElem?_append_left (by rw [wcells_len]; exact hi)]
    simp [wcells, hi]
  · rw [s5 i (by rw [wcells_len]; omega), hp, List.getElem?_append_right (by rw [wcells_len]; omega), wcells_len, List.getElem?_replicate, List.getElem?_replicate]
    by_cases hn : i < n
    · rw [if_pos hn, if_pos (by omega)]
    · rw [if_neg hn, if_neg (by omega)]
theorem fill_ok (k : Fits T) {a : Nat} {sv : AV} {S : List Slot} {Q : List PR} (A : Arena h a sv S Q) (hl : Low h) {n : Nat} {x : Slot} {v : AV} {ws : List Nat} (hx : S[n]? = some x) (sr : Src h v ws) (hne : ∀ o ∈ objs v, o ∉ objs sv) (hlt : ∀ o ∈ objs v, o < h.next) (hw : ws.length ≤ sizeN x.cls) :
    Gives T 33 [slotPtr sv n, v] h fun _ h' => ∃ w, Arena h' a sv (S.set n { x with ws := padW ws (sizeN x.cls), wv := w }) Q ∧ (∀ o ∈ objs w, h.next ≤ o) ∧ Only h h' (objs sv) ∧ Low h' := by
  refine gives_func (k.env _ (by decide)) (k.at (fn := a33) rfl) rfl ?_
  obtain ⟨so, ho, hi, l0, l1, l2, l3⟩ := A.slots.at hx
  have hsp : slotPtr sv n = .ptr so (n * 4) := by
    rcases A.slots with ⟨rfl, _⟩ | ⟨so', cap, l, rfl, _⟩
    · simp [objs] at ho
    · simp only [objs, List.cons.injEq, and_true] at ho; subst ho; rfl
  have fb : ∀ j, fieldAddrV j (.ptr so (n * 4)) = some (.ptr so (n * 4 + j)) := fun j => rfl
  have nb : nilChkV (.ptr so (n * 4)) = some (.ptr so (n * 4)) := rfl
  obtain ⟨k1, k2, k3⟩ := A.kinds x (List.mem_of_getElem? hx)
  have hN := sizeN_le x.cls
  have hsol : so < h.next := (A.low hl).2.1 so (by rw [ho]; simp)
  simp only [a33, c33, wpc_first, wpc_ops, wpc_skip, wpc_exit, wpc_ret, wpc_block, wpc_test, ops_next, ops_nil, ops_test, step_mov, step_bin, step_un, step_pick, step_eqB, step_eqNil, step_toInt, step_lenStr, step_lenSlice, step_extract, step_fieldAddr, step_field, step_nilChk, step_idxAddr, step_idxStr, step_load, step_store, step_slc, step_slcStr, step_mkSlice, step_toStr, step_append, step_copy, step_buildSlice, step_build, step_new, step_call, Option.bind_some, Option.map_some, AOpd.val, Fr.at_put, at_ofArgs, Wo_some, Then_normal, Then_exit, Then_ret, InBlock_normal, InBlock_ret, InBlock_exit, Ends_ret, Ends_normal, res_nil, res_tmp, tuple_one, tuple_two, some_one, CondC_true, bin_add, bin_sub, bin_mul, bin_eql, bin_neq, bin_lss, bin_leq, bin_gtr, bin_geq, bin_str_eql, bin_str_neq, un_not, toInt_int, lenStr_str, pick_bool, List.getElem?_cons_zero, List.getElem?_cons_succ, Option.getD_some, Option.getD_none, List.map_cons, List.map_nil, Option.map_none, List.length_map, Nat.reduceEqDiff, if_true, if_false, reduceCtorEq, Nat.reduceAdd, Nat.reduceBEq, guardB_tt, guardB_ff, guardB_tf, guardB_ft, guardB_none, pick_t, pick_f, beq_self_eq_true, bne_self_eq_false, decide_true, decide_false, Bool.not_true, Bool.not_false, put_none, len_slice, len_nil, rest_mk, ThenC_normal, ThenC_exit, ThenC_ret, CondC_false, CondC_both, extract_0, extract_1, extract_2, step_callM, callMV_iface, meth_self, meth_deref, find_cons, bif_true, bif_false, step_mkIface, step_mkMap, step_assertT, assert_same, assert_same_ok, step_lookup, step_mapUpd, step_del, step_idxArr, step_idxAddrArr, items_nil, items_next, restI_mk, wpc_draw, step_box, step_eqAgg, hsp, nb, fb, Nat.add_zero, l0]
  refine Gives.bind ((size_ok k k1).mono ?_)
  rintro _ _ ⟨rfl, rfl⟩
  rename_i h
  generalize hNe : sizeN x.cls = N at hN hw k3
  -- the heap behind the make, and with the words in it
  have on1 : Only h (h.new (.cells (List.replicate N (AV.int .u64 0)) true)) [] := (Only.refl h []).new _
  have A1 := A.grow hl on1
  have lo1 := hl.new (.cells (List.replicate N (AV.int .u64 0)) true)
  obtain ⟨lw1, lw2, lw3, lw4⟩ := A.low hl
  have ownW : ∀ o ∈ objs (AV.slice h.next 0 1 N N true), o ≠ a ∧ o ∉ objs sv ∧ ∀ q ∈ Q, o ∉ q.foot := by
    intro o hoo
    simp [objs] at hoo; subst hoo
    exact ⟨by omega, fun e => by have := lw2 _ e; omega, fun q hq e => by have := lw3 q hq _ e; omega⟩
  have wz : Words (h.new (.cells (List.replicate N (AV.int .u64 0)) true)) (.slice h.next 0 1 N N true) (List.replicate N 0) := ⟨h.next, by simp, by rw [get_new_same]; simp [wcells]⟩
  obtain ⟨h2, st2, u2, A2⟩ := A1.setCell (j := 3) (y := { x with ws := List.replicate N 0, wv := .slice h.next 0 1 N N true }) (v := .slice h.next 0 1 N N true) hx ho (by decide) rfl rfl rfl wz ownW ⟨k1, k2, by simp [hNe]⟩
  have hW2 : h2.get h.next = some (.cells (List.replicate N (AV.int .u64 0)) true) := (u2.2 h.next (by omega)).trans get_new_same
  have lo2 : Low h2 := lo1.upd u2 (by rw [next_new]; omega)
  have l32 : loadV h2 false 1 (.ptr so (n * 4 + 3)) = some (.slice h.next 0 1 N N true) := by
    have hn := (List.getElem?_eq_some_iff.1 hx).1
    obtain ⟨so', ho', _, _, _, _, l33⟩ := A2.slots.at (i := n) (s := { x with ws := List.replicate N 0, wv := .slice h.next 0 1 N N true }) (by rw [List.getElem?_set, if_pos rfl, if_pos hn])
    rw [ho] at ho'
    simp only [List.cons.injEq, and_true] at ho'
    subst ho'; exact l33
  have sr2 : Src h2 v ws := sr.keep fun o hoo => by
    rw [u2.2 o (fun e => hne o hoo (by rw [ho, e]; simp)), AH.get_new, if_neg (by have := hlt o hoo; omega)]
  simp only [wpc_first, wpc_ops, wpc_skip, wpc_exit, wpc_ret, wpc_block, wpc_test, ops_next, ops_nil, ops_test, step_mov, step_bin, step_un, step_pick, step_eqB, step_eqNil, step_toInt, step_lenStr, step_lenSlice, step_extract, step_fieldAddr, step_field, step_nilChk, step_idxAddr, step_idxStr, step_load, step_store, step_slc, step_slcStr, step_mkSlice, step_toStr, step_append, step_copy, step_buildSlice, step_build, step_new, step_call, Option.bind_some, Option.map_some, AOpd.val, Fr.at_put, at_ofArgs, Wo_some, Then_normal, Then_exit, Then_ret, InBlock_normal, InBlock_ret, InBlock_exit, Ends_ret, Ends_normal, res_nil, res_tmp, tuple_one, tuple_two, some_one, CondC_true, bin_add, bin_sub, bin_mul, bin_eql, bin_neq, bin_lss, bin_leq, bin_gtr, bin_geq, bin_str_eql, bin_str_neq, un_not, toInt_int, lenStr_str, pick_bool, List.getElem?_cons_zero, List.getElem?_cons_succ, Option.getD_some, Option.getD_none, List.map_cons, List.map_nil, Option.map_none, List.length_map, Nat.reduceEqDiff, if_true, if_false, reduceCtorEq, Nat.reduceAdd, Nat.reduceBEq, guardB_tt, guardB_ff, guardB_tf, guardB_ft, guardB_none, pick_t, pick_f, beq_self_eq_true, bne_self_eq_false, decide_true, decide_false, Bool.not_true, Bool.not_false, put_none, len_slice, len_nil, rest_mk, ThenC_normal, ThenC_exit, ThenC_ret, CondC_false, CondC_both, extract_0, extract_1, extract_2, step_callM, callMV_iface, meth_self, meth_deref, find_cons, bif_true, bif_false, step_mkIface, step_mkMap, step_assertT, assert_same, assert_same_ok, step_lookup, step_mapUpd, step_del, step_idxArr, step_idxAddrArr, items_nil, items_next, restI_mk, wpc_draw, step_box, step_eqAgg, nb, fb, mkSlice_nat (h := h) (sz := 1) (bytes := 8) (zero := [.int .u64 0]) (k := .i64) (k' := .i64) (Nat.le_refl N) (by omega) (by omega), rep_one, st2, l32]
  have fin : ∀ h3, (∀ o, o ≠ h.next → h3.get o = h2.get o) → h3.next = h2.next → h3.get h.next = some (.cells (wcells (padW ws N)) true) → ∃ w, Arena h3 a sv (S.set n { x with ws := padW ws N, wv := w }) Q ∧ (∀ o ∈ objs w, h.next ≤ o) ∧ Only h h3 (objs sv) ∧ Low h3 := by
    intro h3 e1 e2 e3
    refine ⟨.slice h.next 0 1 N N true, ?_, fun o hoo => by simp [objs] at hoo; omega, ?_, ?_⟩
    · have hn := (List.getElem?_eq_some_iff.1 hx).1
      -- as if the words had been there first
      have B1 : Arena ((h.new (.cells (List.replicate N (AV.int .u64 0)) true)).set h.next (.cells (wcells (padW ws N)) true)) a sv S Q := A1.keep (by rw [AH.get_set, if_neg (by omega)]) (fun o hoo => by rw [AH.get_set, if_neg (by have := lw2 o hoo; omega)]) (fun q hq o hoo => by rw [AH.get_set, if_neg (by have := lw3 q hq o hoo; omega)]) (fun s hs o hoo => by rw [AH.get_set, if_neg (by have := lw4 s hs o hoo; omega)])
      have wz' : Words ((h.new (.cells (List.replicate N (AV.int .u64 0)) true)).set h.next (.cells (wcells (padW ws N)) true)) (.slice h.next 0 1 N N true) (padW ws N) := ⟨h.next, by rw [padW_len hw], get_set_same⟩
      obtain ⟨h4, st4, u4, B2⟩ := B1.setCell (j := 3) (y := { x with ws := padW ws N, wv := .slice h.next 0 1 N N true }) (v := .slice h.next 0 1 N N true) hx ho (by decide) rfl rfl rfl wz' ownW ⟨k1, k2, by rw [padW_len hw, hNe]⟩
      refine B2.same fun o => ?_
      by_cases ew : o = h.next
      · subst ew
        rw [e3, u4.2 _ (by omega), get_set_same]
      · rw [e1 o ew]
        by_cases es : o = so
        · subst es
          -- both stores came to the same row
          rcases A.slots with ⟨rfl, _⟩ | ⟨so', cap, l, rfl, hg, hll, _, _⟩
          · simp [objs] at ho
          · simp only [objs, List.cons.injEq, and_true] at ho
            subst ho
            have hcn : n * 4 + 3 < l.length := by
              have := A.slots.len
              rcases A.slots with ⟨h9, _⟩ | ⟨s9, c9, l9, h9, hg9, h91, h92, _⟩
              · cases h9
              · cases h9
                rw [hg] at hg9
                cases hg9
                omega
            have g1 : (h.new (.cells (List.replicate N (AV.int .u64 0)) true)).get so' = some (.cells l true) := by rw [AH.get_new, if_neg (by omega)]; exact hg
            have g2 : ((h.new (.cells (List.replicate N (AV.int .u64 0)) true)).set h.next (.cells (wcells (padW ws N)) true)).get so' = some (.cells l true) := by rw [AH.get_set, if_neg (by omega)]; exact g1
            rw [store_at g1 hcn rfl rfl] at st2
            rw [store_at g2 hcn rfl rfl] at st4
            cases st2; cases st4
            rw [get_set_same, get_set_same]
        · rw [u2.2 o es, u4.2 o es, AH.get_set, if_neg (Ne.symm ew)]
    · refine ⟨by rw [e2, u2.1, next_new]; omega, fun q hq hF => ?_⟩
      rw [e1 q (by omega), u2.2 q (fun e => hF (by rw [ho, e]; simp)), AH.get_new, if_neg (by omega)]
    · intro o y hy
      rw [e2]
      by_cases ew : o = h.next
      · subst ew; rw [u2.1, next_new]; omega
      · rw [e1 o ew] at hy; exact lo2 o y hy
  have hcp : copyV 1 h2 (.slice h.next 0 1 N N true) v = some (.int .i64 (ws.length : Nat), if ws.length = 0 then h2 else h2.set h.next (.cells (wcells (padW ws N)) true)) := by
    simp only [copyV, sr2.len, len_slice, Option.bind_some, Nat.min_eq_left hw, sr2.elems, if_true]
    cases ws with
    | nil => rfl
    | cons w0 ws0 =>
      rw [if_neg (by simp [wcells]), if_neg (by simp)]
      simp only [AH.store, hW2, wcells_flat]
      rw [if_pos ⟨by rw [wcells_len]; simpa using hw, trivial⟩, pad_cells hw]
      rfl
  simp only [hcp, wpc_first, wpc_ops, wpc_skip, wpc_exit, wpc_ret, wpc_block, wpc_test, ops_next, ops_nil, ops_test, step_mov, step_bin, step_un, step_pick, step_eqB, step_eqNil, step_toInt, step_lenStr, step_lenSlice, step_extract, step_fieldAddr, step_field, step_nilChk, step_idxAddr, step_idxStr, step_load, step_store, step_slc, step_slcStr, step_mkSlice, step_toStr, step_append, step_copy, step_buildSlice, step_build, step_new, step_call, Option.bind_some, Option.map_some, AOpd.val, Fr.at_put, at_ofArgs, Wo_some, Then_normal, Then_exit, Then_ret, InBlock_normal, InBlock_ret, InBlock_exit, Ends_ret, Ends_normal, res_nil, res_tmp, tuple_one, tuple_two, some_one, CondC_true, bin_add, bin_sub, bin_mul, bin_eql, bin_neq, bin_lss, bin_leq, bin_gtr, bin_geq, bin_str_eql, bin_str_neq, un_not, toInt_int, lenStr_str, pick_bool, List.getElem?_cons_zero, List.getElem?_cons_succ, Option.getD_some, Option.getD_none, List.map_cons, List.map_nil, Option.map_none, List.length_map, Nat.reduceEqDiff, if_true, if_false, reduceCtorEq, Nat.reduceAdd, Nat.reduceBEq, guardB_tt, guardB_ff, guardB_tf, guardB_ft, guardB_none, pick_t, pick_f, beq_self_eq_true, bne_self_eq_false, decide_true, decide_false, Bool.not_true, Bool.not_false, put_none, len_slice, len_nil, rest_mk, ThenC_normal, ThenC_exit, ThenC_ret, CondC_false, CondC_both, extract_0, extract_1, extract_2, step_callM, callMV_iface, meth_self, meth_deref, find_cons, bif_true, bif_false, step_mkIface, step_mkMap, step_assertT, assert_same, assert_same_ok, step_lookup, step_mapUpd, step_del, step_idxArr, step_idxAddrArr, items_nil, items_next, restI_mk, wpc_draw, step_box, step_eqAgg]
  split
  · rename_i e0
    have hnil : ws = [] := List.eq_nil_of_length_eq_zero e0
    subst hnil
    exact fin _ (fun _ _ => rfl) rfl (by rw [hW2]; simp [padW, wcells])
  · exact fin _ (fun o e => by rw [AH.get_set, if_neg (Ne.symm e)]) rfl get_set_same
end Go.Proofs.Ytejjkienklaghaa

/- Pools of numbers that are free: putting and taking. -/
import Derived.Test.YtejjkienklaghaaP4Q
namespace Go.Proofs.Ytejjkienklaghaa
open Go.Vm
set_option linter.unusedSimpArgs false
set_option linter.unusedVariables false
variable {T : Vm.Prog} {h : AH}
theorem slc_to0 {o len cap n : Nat} {ex : Bool} (hn : n ≤ cap) : slcV 1 (.slice o 0 1 len cap ex) none (some (.int .i64 (n : Int))) none = some (.slice o 0 1 n cap ex) := by
  simp [slcV, bounds, boundM, boundH, boundL, natOf, hn, Option.filter]
theorem Arr.take {o cap : Nat} {L : List Int} (a : Arr h o cap L) (n : Nat) : Arr h o cap (L.take n) := by
  obtain ⟨l, hg, h1, h2, h3⟩ := a
  refine ⟨l, hg, h1, by simp; omega, fun i x hx => h3 i x ?_⟩
  rw [List.getElem?_take] at hx
  split at hx
  · exact hx
  · cases hx
theorem cells_of {l : List AV} {L : List Int} (h2 : L.length ≤ l.length) (h3 : ∀ (i : Nat) (x : Int), L[i]? = some x → l[i]? = some (AV.int .i64 x)) : l.take L.length = L.map (.int .i64) := by
  apply List.ext_getElem?
  intro i
  rw [List.getElem?_take, List.getElem?_map]
  by_cases hi : i < L.length
  · rw [if_pos hi, h3 i _ (List.getElem?_eq_getElem hi), List.getElem?_eq_getElem hi]; rfl
  · rw [if_neg hi, List.getElem?_eq_none (by omega)]; rfl
/-- One number behind a row. -/
theorem append_one {v : AV} {L : List Int} {x : Int} {o2 : Nat} (hlow : Low h) (r : RowV h v L) (hs : L.length < 1000000) (h2 : h.get o2 = some (.cells [.int .i64 x] true)) (hne : ∀ o ∈ objs v, o ≠ o2) :
    ∃ v' h', appV 1 8 h v (.slice o2 0 1 1 1 true) = some (v', h') ∧ RowV h' v' (L ++ [x]) ∧ (∀ o ∈ objs v', o ∈ objs v ∨ h.next ≤ o) ∧ (∀ o ∈ objs v', o < h'.next) ∧ Only h h' (objs v) ∧ Low h' := by
  have hel : h.elems 1 1 (.slice o2 0 1 1 1 true) = some [.int .i64 x] := by
    simp [AH.elems, AH.load, h2]
  rcases r with ⟨rfl, rfl⟩ | ⟨o, cap, rfl, l, hg, h1, h3, h4⟩
  · refine ⟨.slice h.next 0 1 1 1 false, h.new (.cells [.int .i64 x] true), ?_, ?_, ?_, ?_, Only.new (Only.refl h _) _, hlow.new _⟩
    · simp only [appV, len_slice, Option.bind_some, hel, appendV]
      rfl
    · refine .inr ⟨h.next, 1, rfl, [.int .i64 x], get_new_same, rfl, by simp, ?_⟩
      intro i y hy
      cases i with
      | zero => simp at hy; subst hy; rfl
      | succ i => simp at hy
    · intro o ho; simp [objs] at ho; subst ho; exact .inr (Nat.le_refl _)
    · intro o ho; simp [objs] at ho; subst ho; rw [next_new]; omega
  · have ho2 : o ≠ o2 := hne o (by simp [objs])
    have hlt : o < h.next := hlow o _ hg
    by_cases hc : L.length + 1 ≤ cap
    · obtain ⟨hst⟩ : storeV h 1 (.ptr o L.length) (.int .i64 x) = some (h.set o (.cells (l.set L.length (.int .i64 x)) true)) ∧ True := ⟨store_int hg (by omega), trivial⟩
      have hst' : h.store o (0 + L.length * 1) [.int .i64 x] = some (h.set o (.cells (l.set L.length (.int .i64 x)) true)) := by
        have : storeV h 1 (.ptr o L.length) (.int .i64 x) = h.store o L.length [.int .i64 x] := rfl
        rw [← hst, this, Nat.zero_add, Nat.mul_one]
      refine ⟨.slice o 0 1 (L.length + 1) cap false, h.set o (.cells (l.set L.length (.int .i64 x)) true), ?_, ?_, ?_, ?_, (Only.refl h _).set (.inl (by simp [objs])) _, hlow.set hlt _⟩
      · simp only [appV, len_slice, Option.bind_some, hel, appendV, if_true]
        rw [if_pos hc, if_neg (by omega), hst']
        rfl
      · refine .inr ⟨o, cap, by simp, _, get_set_same, by simp [h1], by simp; omega, ?_⟩
        intro i y hy
        rw [List.getElem?_set]
        by_cases e : L.length = i
        · subst e
          rw [List.getElem?_append_right (Nat.le_refl _)] at hy
          simp at hy; subst hy
          rw [if_pos rfl, if_pos (by omega)]
        · rw [if_neg e]
          have : i < L.length := by
            have := (List.getElem?_eq_some_iff.1 hy).1
            simp at this; omega
          rw [List.getElem?_append_left this] at hy
          exact h4 i y hy
      · intro q hq; simp [objs] at hq; subst hq; exact .inl (by simp [objs])
      · intro q hq; simp [objs] at hq; subst hq; rw [next_set]; exact hlt
    · have hroom : roomOk (L.length + 1) 8 cap false = true := by
        simp [roomOk]; omega
      have hload : h.load o 0 (L.length * 1) = some (L.map (.int .i64)) := by
        simp only [AH.load, hg, Nat.mul_one, List.drop_zero]
        rw [if_pos (by omega), cells_of (by omega) h4]
      have hrw : h.isRw o = true := by simp [AH.isRw, hg]
      refine ⟨.slice h.next 0 1 (L.length + 1) (L.length + 1) false, (h.set o .dead).new (.cells (L.map (.int .i64) ++ [.int .i64 x]) true), ?_, ?_, ?_, ?_, ((Only.refl h _).set (.inl (by simp [objs])) _).new _, (hlow.set hlt _).new _⟩
      · simp only [appV, len_slice, Option.bind_some, hel, appendV, if_true]
        rw [if_neg hc, if_pos hroom, hload]
        simp [hrw, AV.flat, next_set]
      · refine .inr ⟨h.next, L.length + 1, by simp, L.map (.int .i64) ++ [.int .i64 x], ?_, by simp, by simp, ?_⟩
        · have := get_new_same (h := h.set o .dead) (x := .cells (L.map (.int .i64) ++ [.int .i64 x]) true)
          rw [next_set] at this; exact this
        · intro i y hy
          have : L.map (AV.int .i64) ++ [.int .i64 x] = (L ++ [x]).map (.int .i64) := by simp
          rw [this, List.getElem?_map, hy]; rfl
      · intro q hq; simp [objs] at hq; subst hq; exact .inr (Nat.le_refl _)
      · intro q hq; simp [objs] at hq; subst hq; rw [next_new, next_set]; omega
theorem beq_row {v : AV} {L : List Int} (r : RowV h v L) : AV.beq v v = true := by
  rcases r with ⟨rfl, rfl⟩ | ⟨o, cap, rfl, _⟩ <;> simp [AV.beq]
/-- What pushing comes to: the row is one longer. -/
def Pushed (h : AH) (p : Nat) (a c : AV) (v : AV) (L : List Int) (x : Int) (h' : AH) : Prop :=
  ∃ v', h'.get p = some (.cells [a, v', c] true) ∧ RowV h' v' (L ++ [x]) ∧ (∀ o ∈ objs v', o ∈ objs v ∨ h.next ≤ o) ∧ (∀ o ∈ objs v', o < h'.next) ∧ Only h h' (p :: objs v) ∧ Low h'
theorem store_cell1 {p : Nat} {a v c v' : AV} (hg : h.get p = some (.cells [a, v, c] true)) (hc : v'.cells = [v']) (hf : v'.flat = true) : storeV h 1 (.ptr p 1) v' = some (h.set p (.cells [a, v', c] true)) := store_at hg (by simp) hc hf
theorem row_cell {v : AV} {L : List Int} (r : RowV h v L) : v.cells = [v] ∧ v.flat = true := by
  rcases r with ⟨rfl, rfl⟩ | ⟨o, cap, rfl, _⟩ <;> exact ⟨rfl, rfl⟩
theorem push_ok (k : Fits T) {p : Nat} {a c v : AV} {L : List Int} {x : Int} (hlow : Low h) (hg : h.get p = some (.cells [a, v, c] true)) (r : RowV h v L) (hs : L.length < 1000000) (hne : ∀ o ∈ objs v, o ≠ p) :
    Gives T 74 [.ptr p 1, .iface 3 (.int .i64 x)] h fun _ h' => Pushed h p a c v L x h' := by
  refine gives_func (k.env _ (by decide)) (k.at (fn := a74) rfl) rfl ?_
  have hpl : p < h.next := hlow p _ hg
  have hol : ∀ o ∈ objs v, o < h.next := by
    intro o ho
    rcases r with ⟨rfl, rfl⟩ | ⟨q, cap, rfl, l, hq, _⟩
    · simp [objs] at ho
    · simp [objs] at ho; subst ho; exact hlow _ _ hq
  have hbuild : fillV [AV.int .i64 0] [(0, 1, AV.int .i64 x)] = some [.int .i64 x] := by simp [fillV, AV.isDef, AV.cells, setMany]
  have r1 : RowV (h.new (.cells [.int .i64 x] true)) v L := r.keep fun o ho => by rw [AH.get_new, if_neg (by have := hol o ho; omega)]
  have hg1 : (h.new (.cells [.int .i64 x] true)).get p = some (.cells [a, v, c] true) := by rw [AH.get_new, if_neg (by omega)]; exact hg
  obtain ⟨v', h', happ, r', hobj, hob2, honly, hlow'⟩ := append_one (hlow.new (.cells [.int .i64 x] true)) r1 hs get_new_same (fun o ho => by have := hol o ho; omega)
  have hp' : h'.get p = some (.cells [a, v, c] true) := (honly.2 p (by rw [next_new]; omega) (fun hm => hne p hm rfl)).trans hg1
  obtain ⟨hc', hf'⟩ := row_cell r'
  have hpv' : ∀ o ∈ objs v', o ≠ p := by
    intro o ho e
    subst e
    rcases hobj o ho with h1 | h1
    · exact hne o h1 rfl
    · rw [next_new] at h1; omega
  simp only [a74, c74, wpc_first, wpc_ops, wpc_skip, wpc_exit, wpc_ret, wpc_block, wpc_test, ops_next, ops_nil, ops_test, step_mov, step_bin, step_un, step_pick, step_eqB, step_eqNil, step_toInt, step_lenStr, step_lenSlice, step_extract, step_fieldAddr, step_field, step_nilChk, step_idxAddr, step_idxStr, step_load, step_store, step_slc, step_slcStr, step_mkSlice, step_toStr, step_append, step_copy, step_buildSlice, step_build, step_new, step_call, Option.bind_some, Option.map_some, AOpd.val, Fr.at_put, at_ofArgs, Wo_some, Then_normal, Then_exit, Then_ret, InBlock_normal, InBlock_ret, InBlock_exit, Ends_ret, Ends_normal, res_nil, res_tmp, tuple_one, tuple_two, some_one, CondC_true, bin_add, bin_sub, bin_mul, bin_eql, bin_neq, bin_lss, bin_leq, bin_gtr, bin_geq, bin_str_eql, bin_str_neq, un_not, toInt_int, lenStr_str, pick_bool, List.getElem?_cons_zero, List.getElem?_cons_succ, Option.getD_some, Option.getD_none, List.map_cons, List.map_nil, Option.map_none, List.length_map, Nat.reduceEqDiff, if_true, if_false, reduceCtorEq, Nat.reduceAdd, Nat.reduceBEq, guardB_tt, guardB_ff, guardB_tf, guardB_ft, guardB_none, pick_t, pick_f, beq_self_eq_true, bne_self_eq_false, decide_true, decide_false, Bool.not_true, Bool.not_false, put_none, len_slice, len_nil, rest_mk, ThenC_normal, ThenC_exit, ThenC_ret, CondC_false, CondC_both, extract_0, extract_1, extract_2, step_callM, callMV_iface, meth_self, meth_deref, find_cons, bif_true, bif_false, step_mkIface, step_mkMap, step_assertT, assert_same, assert_same_ok, step_lookup, step_mapUpd, step_del, step_idxArr, step_idxAddrArr, items_nil, items_next, restI_mk, wpc_draw, step_box, step_eqAgg, show nilChkV (.ptr p 1) = some (.ptr p 1) from rfl, load_at hg (show [a, v, c][1]? = some v from rfl), hbuild]
  rw [items_look (look_load (v := v) (by simp only [wpc_first, wpc_ops, wpc_skip, wpc_exit, wpc_ret, wpc_block, wpc_test, ops_next, ops_nil, ops_test, step_mov, step_bin, step_un, step_pick, step_eqB, step_eqNil, step_toInt, step_lenStr, step_lenSlice, step_extract, step_fieldAddr, step_field, step_nilChk, step_idxAddr, step_idxStr, step_load, step_store, step_slc, step_slcStr, step_mkSlice, step_toStr, step_append, step_copy, step_buildSlice, step_build, step_new, step_call, Option.bind_some, Option.map_some, AOpd.val, Fr.at_put, at_ofArgs, Wo_some, Then_normal, Then_exit, Then_ret, InBlock_normal, InBlock_ret, InBlock_exit, Ends_ret, Ends_normal, res_nil, res_tmp, tuple_one, tuple_two, some_one, CondC_true, bin_add, bin_sub, bin_mul, bin_eql, bin_neq, bin_lss, bin_leq, bin_gtr, bin_geq, bin_str_eql, bin_str_neq, un_not, toInt_int, lenStr_str, pick_bool, List.getElem?_cons_zero, List.getElem?_cons_succ, Option.getD_some, Option.getD_none, List.map_cons, List.map_nil, Option.map_none, List.length_map, Nat.reduceEqDiff, if_true, if_false, reduceCtorEq, Nat.reduceAdd, Nat.reduceBEq, guardB_tt, guardB_ff, guardB_tf, guardB_ft, guardB_none, pick_t, pick_f, beq_self_eq_true, bne_self_eq_false, decide_true, decide_false, Bool.not_true, Bool.not_false, put_none, len_slice, len_nil, rest_mk, ThenC_normal, ThenC_exit, ThenC_ret, CondC_false, CondC_both, extract_0, extract_1, extract_2, step_callM, callMV_iface, meth_self, meth_deref, find_cons, bif_true, bif_false, step_mkIface, step_mkMap, step_assertT, assert_same, assert_same_ok, step_lookup, step_mapUpd, step_del, step_idxArr, step_idxAddrArr, items_nil, items_next, restI_mk, wpc_draw, step_box, step_eqAgg]; exact load_at hg1 rfl) (by simp only [wpc_first, wpc_ops, wpc_skip, wpc_exit, wpc_ret, wpc_block, wpc_test, ops_next, ops_nil, ops_test, step_mov, step_bin, step_un, step_pick, step_eqB, step_eqNil, step_toInt, step_lenStr, step_lenSlice, step_extract, step_fieldAddr, step_field, step_nilChk, step_idxAddr, step_idxStr, step_load, step_store, step_slc, step_slcStr, step_mkSlice, step_toStr, step_append, step_copy, step_buildSlice, step_build, step_new, step_call, Option.bind_some, Option.map_some, AOpd.val, Fr.at_put, at_ofArgs, Wo_some, Then_normal, Then_exit, Then_ret, InBlock_normal, InBlock_ret, InBlock_exit, Ends_ret, Ends_normal, res_nil, res_tmp, tuple_one, tuple_two, some_one, CondC_true, bin_add, bin_sub, bin_mul, bin_eql, bin_neq, bin_lss, bin_leq, bin_gtr, bin_geq, bin_str_eql, bin_str_neq, un_not, toInt_int, lenStr_str, pick_bool, List.getElem?_cons_zero, List.getElem?_cons_succ, Option.getD_some, Option.getD_none, List.map_cons, List.map_nil, Option.map_none, List.length_map, Nat.reduceEqDiff, if_true, if_false, reduceCtorEq, Nat.reduceAdd, Nat.reduceBEq, guardB_tt, guardB_ff, guardB_tf, guardB_ft, guardB_none, pick_t, pick_f, beq_self_eq_true, bne_self_eq_false, decide_true, decide_false, Bool.not_true, Bool.not_false, put_none, len_slice, len_nil, rest_mk, ThenC_normal, ThenC_exit, ThenC_ret, CondC_false, CondC_both, extract_0, extract_1, extract_2, step_callM, callMV_iface, meth_self, meth_deref, find_cons, bif_true, bif_false, step_mkIface, step_mkMap, step_assertT, assert_same, assert_same_ok, step_lookup, step_mapUpd, step_del, step_idxArr, step_idxAddrArr, items_nil, items_next, restI_mk, wpc_draw, step_box, step_eqAgg]) (beq_row r))]
  rw [items_look (look_build (l := [.int .i64 x]) (q := h.next) (by simp only [wpc_first, wpc_ops, wpc_skip, wpc_exit, wpc_ret, wpc_block, wpc_test, ops_next, ops_nil, ops_test, step_mov, step_bin, step_un, step_pick, step_eqB, step_eqNil, step_toInt, step_lenStr, step_lenSlice, step_extract, step_fieldAddr, step_field, step_nilChk, step_idxAddr, step_idxStr, step_load, step_store, step_slc, step_slcStr, step_mkSlice, step_toStr, step_append, step_copy, step_buildSlice, step_build, step_new, step_call, Option.bind_some, Option.map_some, AOpd.val, Fr.at_put, at_ofArgs, Wo_some, Then_normal, Then_exit, Then_ret, InBlock_normal, InBlock_ret, InBlock_exit, Ends_ret, Ends_normal, res_nil, res_tmp, tuple_one, tuple_two, some_one, CondC_true, bin_add, bin_sub, bin_mul, bin_eql, bin_neq, bin_lss, bin_leq, bin_gtr, bin_geq, bin_str_eql, bin_str_neq, un_not, toInt_int, lenStr_str, pick_bool, List.getElem?_cons_zero, List.getElem?_cons_succ, Option.getD_some, Option.getD_none, List.map_cons, List.map_nil, Option.map_none, List.length_map, Nat.reduceEqDiff, if_true, if_false, reduceCtorEq, Nat.reduceAdd, Nat.reduceBEq, guardB_tt, guardB_ff, guardB_tf, guardB_ft, guardB_none, pick_t, pick_f, beq_self_eq_true, bne_self_eq_false, decide_true, decide_false, Bool.not_true, Bool.not_false, put_none, len_slice, len_nil, rest_mk, ThenC_normal, ThenC_exit, ThenC_ret, CondC_false, CondC_both, extract_0, extract_1, extract_2, step_callM, callMV_iface, meth_self, meth_deref, find_cons, bif_true, bif_false, step_mkIface, step_mkMap, step_assertT, assert_same, assert_same_ok, step_lookup, step_mapUpd, step_del, step_idxArr, step_idxAddrArr, items_nil, items_next, restI_mk, wpc_draw, step_box, step_eqAgg]; exact hbuild) (by simp only [wpc_first, wpc_ops, wpc_skip, wpc_exit, wpc_ret, wpc_block, wpc_test, ops_next, ops_nil, ops_test, step_mov, step_bin, step_un, step_pick, step_eqB, step_eqNil, step_toInt, step_lenStr, step_lenSlice, step_extract, step_fieldAddr, step_field, step_nilChk, step_idxAddr, step_idxStr, step_load, step_store, step_slc, step_slcStr, step_mkSlice, step_toStr, step_append, step_copy, step_buildSlice, step_build, step_new, step_call, Option.bind_some, Option.map_some, AOpd.val, Fr.at_put, at_ofArgs, Wo_some, Then_normal, Then_exit, Then_ret, InBlock_normal, InBlock_ret, InBlock_exit, Ends_ret, Ends_normal, res_nil, res_tmp, tuple_one, tuple_two, some_one, CondC_true, bin_add, bin_sub, bin_mul, bin_eql, bin_neq, bin_lss, bin_leq, bin_gtr, bin_geq, bin_str_eql, bin_str_neq, un_not, toInt_int, lenStr_str, pick_bool, List.getElem?_cons_zero, List.getElem?_cons_succ, Option.getD_some, Option.getD_none, List.map_cons, List.map_nil, Option.map_none, List.length_map, Nat.reduceEqDiff, if_true, if_false, reduceCtorEq, Nat.reduceAdd, Nat.reduceBEq, guardB_tt, guardB_ff, guardB_tf, guardB_ft, guardB_none, pick_t, pick_f, beq_self_eq_true, bne_self_eq_false, decide_true, decide_false, Bool.not_true, Bool.not_false, put_none, len_slice, len_nil, rest_mk, ThenC_normal, ThenC_exit, ThenC_ret, CondC_false, CondC_both, extract_0, extract_1, extract_2, step_callM, callMV_iface, meth_self, meth_deref, find_cons, bif_true, bif_false, step_mkIface, step_mkMap, step_assertT, assert_same, assert_same_ok, step_lookup, step_mapUpd, step_del, step_idxArr, step_idxAddrArr, items_nil, items_next, restI_mk, wpc_draw, step_box, step_eqAgg]; rfl) get_new_same (by unfold AV.beqs AV.beq AV.beqs; simp))]
  simp only [wpc_first, wpc_ops, wpc_skip, wpc_exit, wpc_ret, wpc_block, wpc_test, ops_next, ops_nil, ops_test, step_mov, step_bin, step_un, step_pick, step_eqB, step_eqNil, step_toInt, step_lenStr, step_lenSlice, step_extract, step_fieldAddr, step_field, step_nilChk, step_idxAddr, step_idxStr, step_load, step_store, step_slc, step_slcStr, step_mkSlice, step_toStr, step_append, step_copy, step_buildSlice, step_build, step_new, step_call, Option.bind_some, Option.map_some, AOpd.val, Fr.at_put, at_ofArgs, Wo_some, Then_normal, Then_exit, Then_ret, InBlock_normal, InBlock_ret, InBlock_exit, Ends_ret, Ends_normal, res_nil, res_tmp, tuple_one, tuple_two, some_one, CondC_true, bin_add, bin_sub, bin_mul, bin_eql, bin_neq, bin_lss, bin_leq, bin_gtr, bin_geq, bin_str_eql, bin_str_neq, un_not, toInt_int, lenStr_str, pick_bool, List.getElem?_cons_zero, List.getElem?_cons_succ, Option.getD_some, Option.getD_none, List.map_cons, List.map_nil, Option.map_none, List.length_map, Nat.reduceEqDiff, if_true, if_false, reduceCtorEq, Nat.reduceAdd, Nat.reduceBEq, guardB_tt, guardB_ff, guardB_tf, guardB_ft, guardB_none, pick_t, pick_f, beq_self_eq_true, bne_self_eq_false, decide_true, decide_false, Bool.not_true, Bool.not_false, put_none, len_slice, len_nil, rest_mk, ThenC_normal, ThenC_exit, ThenC_ret, CondC_false, CondC_both, extract_0, extract_1, extract_2, step_callM, callMV_iface, meth_self, meth_deref, find_cons, bif_true, bif_false, step_mkIface, step_mkMap, step_assertT, assert_same, assert_same_ok, step_lookup, step_mapUpd, step_del, step_idxArr, step_idxAddrArr, items_nil, items_next, restI_mk, wpc_draw, step_box, step_eqAgg, happ, show nilChkV (.ptr p 1) = some (.ptr p 1) from rfl, store_cell1 hp' hc' hf']
  refine ⟨v', get_set_same, r'.keep (fun o ho => by rw [AH.get_set, if_neg (fun e => hpv' o ho e.symm)]), ?_, fun o ho => by rw [next_set]; exact hob2 o ho, ?_, hlow'.set (hlow' p _ hp') _⟩
  · intro o ho
    rcases hobj o ho with h1 | h1
    · exact .inl h1
    · right; rw [next_new] at h1; omega
  · refine Only.set (Only.trans (Only.new (Only.refl h (p :: objs v)) _) honly (fun o ho => .inl (by simp [ho]))) (.inl (by simp)) _
theorem hpush_ok (k : Fits T) {p : Nat} {a c v : AV} {L : List Int} {x : Int} (hlow : Low h) (hg : h.get p = some (.cells [a, v, c] true)) (r : RowV h v L) (hp : HP L) (hs : L.length < 100000) (hne : ∀ o ∈ objs v, o ≠ p) :
    Gives T 45 [.iface 101 (.ptr p 1), .iface 3 (.int .i64 x)] h fun _ h' => ∃ L' v', h'.get p = some (.cells [a, v', c] true) ∧ RowV h' v' L' ∧ HP L' ∧ L'.Perm (x :: L) ∧ (∀ o ∈ objs v', o ∈ objs v ∨ h.next ≤ o) ∧ (∀ o ∈ objs v', o ≠ p) ∧ Only h h' (p :: objs v) ∧ Low h' := by
  refine gives_func (k.env _ (by decide)) (k.at (fn := a45) rfl) rfl ?_
  simp only [a45, c45, wpc_first, wpc_ops, wpc_skip, wpc_exit, wpc_ret, wpc_block, wpc_test, ops_next, ops_nil, ops_test, step_mov, step_bin, step_un, step_pick, step_eqB, step_eqNil, step_toInt, step_lenStr, step_lenSlice, step_extract, step_fieldAddr, step_field, step_nilChk, step_idxAddr, step_idxStr, step_load, step_store, step_slc, step_slcStr, step_mkSlice, step_toStr, step_append, step_copy, step_buildSlice, step_build, step_new, step_call, Option.bind_some, Option.map_some, AOpd.val, Fr.at_put, at_ofArgs, Wo_some, Then_normal, Then_exit, Then_ret, InBlock_normal, InBlock_ret, InBlock_exit, Ends_ret, Ends_normal, res_nil, res_tmp, tuple_one, tuple_two, some_one, CondC_true, bin_add, bin_sub, bin_mul, bin_eql, bin_neq, bin_lss, bin_leq, bin_gtr, bin_geq, bin_str_eql, bin_str_neq, un_not, toInt_int, lenStr_str, pick_bool, List.getElem?_cons_zero, List.getElem?_cons_succ, Option.getD_some, Option.getD_none, List.map_cons, List.map_nil, Option.map_none, List.length_map, Nat.reduceEqDiff, if_true, if_false, reduceCtorEq, Nat.reduceAdd, Nat.reduceBEq, guardB_tt, guardB_ff, guardB_tf, guardB_ft, guardB_none, pick_t, pick_f, beq_self_eq_true, bne_self_eq_false, decide_true, decide_false, Bool.not_true, Bool.not_false, put_none, len_slice, len_nil, rest_mk, ThenC_normal, ThenC_exit, ThenC_ret, CondC_false, CondC_both, extract_0, extract_1, extract_2, step_callM, callMV_iface, meth_self, meth_deref, find_cons, bif_true, bif_false, step_mkIface, step_mkMap, step_assertT, assert_same, assert_same_ok, step_lookup, step_mapUpd, step_del, step_idxArr, step_idxAddrArr, items_nil, items_next, restI_mk, wpc_draw, step_box, step_eqAgg]
  refine Gives.bind ((push_ok k (x := x) hlow hg r (by omega) hne).mono ?_)
  rintro _ h1 ⟨v', g1, r1, ho1, ho2, on1, low1⟩
  have hpl : p < h.next := hlow p _ hg
  have hne1 : ∀ o ∈ objs v', o ≠ p := by
    intro o ho e
    subst e
    rcases ho1 o ho with h1 | h1
    · exact hne o h1 rfl
    · omega
  have hl : lenOfV v' = some (L.length + 1) := by rw [r1.len]; simp
  simp only [wpc_first, wpc_ops, wpc_skip, wpc_exit, wpc_ret, wpc_block, wpc_test, ops_next, ops_nil, ops_test, step_mov, step_bin, step_un, step_pick, step_eqB, step_eqNil, step_toInt, step_lenStr, step_lenSlice, step_extract, step_fieldAddr, step_field, step_nilChk, step_idxAddr, step_idxStr, step_load, step_store, step_slc, step_slcStr, step_mkSlice, step_toStr, step_append, step_copy, step_buildSlice, step_build, step_new, step_call, Option.bind_some, Option.map_some, AOpd.val, Fr.at_put, at_ofArgs, Wo_some, Then_normal, Then_exit, Then_ret, InBlock_normal, InBlock_ret, InBlock_exit, Ends_ret, Ends_normal, res_nil, res_tmp, tuple_one, tuple_two, some_one, CondC_true, bin_add, bin_sub, bin_mul, bin_eql, bin_neq, bin_lss, bin_leq, bin_gtr, bin_geq, bin_str_eql, bin_str_neq, un_not, toInt_int, lenStr_str, pick_bool, List.getElem?_cons_zero, List.getElem?_cons_succ, Option.getD_some, Option.getD_none, List.map_cons, List.map_nil, Option.map_none, List.length_map, Nat.reduceEqDiff, if_true, if_false, reduceCtorEq, Nat.reduceAdd, Nat.reduceBEq, guardB_tt, guardB_ff, guardB_tf, guardB_ft, guardB_none, pick_t, pick_f, beq_self_eq_true, bne_self_eq_false, decide_true, decide_false, Bool.not_true, Bool.not_false, put_none, len_slice, len_nil, rest_mk, ThenC_normal, ThenC_exit, ThenC_ret, CondC_false, CondC_both, extract_0, extract_1, extract_2, step_callM, callMV_iface, meth_self, meth_deref, find_cons, bif_true, bif_false, step_mkIface, step_mkMap, step_assertT, assert_same, assert_same_ok, step_lookup, step_mapUpd, step_del, step_idxArr, step_idxAddrArr, items_nil, items_next, restI_mk, wpc_draw, step_box, step_eqAgg, load_at g1 (show [a, v', c][1]? = some v' from rfl)]
  refine Gives.bind ((len_ok (k.env _ (by decide)) (k.at rfl) hl).mono ?_)
  rintro _ _ ⟨rfl, rfl⟩
  rename_i h1
  have e1 : IntKind.i64.wrap (((L.length + 1 : Nat) : Int) - 1) = ((L.length : Nat) : Int) := by rw [wrap_i64 (by omega) (by omega)]; omega
  simp only [wpc_first, wpc_ops, wpc_skip, wpc_exit, wpc_ret, wpc_block, wpc_test, ops_next, ops_nil, ops_test, step_mov, step_bin, step_un, step_pick, step_eqB, step_eqNil, step_toInt, step_lenStr, step_lenSlice, step_extract, step_fieldAddr, step_field, step_nilChk, step_idxAddr, step_idxStr, step_load, step_store, step_slc, step_slcStr, step_mkSlice, step_toStr, step_append, step_copy, step_buildSlice, step_build, step_new, step_call, Option.bind_some, Option.map_some, AOpd.val, Fr.at_put, at_ofArgs, Wo_some, Then_normal, Then_exit, Then_ret, InBlock_normal, InBlock_ret, InBlock_exit, Ends_ret, Ends_normal, res_nil, res_tmp, tuple_one, tuple_two, some_one, CondC_true, bin_add, bin_sub, bin_mul, bin_eql, bin_neq, bin_lss, bin_leq, bin_gtr, bin_geq, bin_str_eql, bin_str_neq, un_not, toInt_int, lenStr_str, pick_bool, List.getElem?_cons_zero, List.getElem?_cons_succ, Option.getD_some, Option.getD_none, List.map_cons, List.map_nil, Option.map_none, List.length_map, Nat.reduceEqDiff, if_true, if_false, reduceCtorEq, Nat.reduceAdd, Nat.reduceBEq, guardB_tt, guardB_ff, guardB_tf, guardB_ft, guardB_none, pick_t, pick_f, beq_self_eq_true, bne_self_eq_false, decide_true, decide_false, Bool.not_true, Bool.not_false, put_none, len_slice, len_nil, rest_mk, ThenC_normal, ThenC_exit, ThenC_ret, CondC_false, CondC_both, extract_0, extract_1, extract_2, step_callM, callMV_iface, meth_self, meth_deref, find_cons, bif_true, bif_false, step_mkIface, step_mkMap, step_assertT, assert_same, assert_same_ok, step_lookup, step_mapUpd, step_del, step_idxArr, step_idxAddrArr, items_nil, items_next, restI_mk, wpc_draw, step_box, step_eqAgg, e1]
  rcases r1 with ⟨rfl, hnil⟩ | ⟨o, cap, rfl, arr⟩
  · simp at hnil
  · refine Gives.bind ((up_ok k ⟨a, c, g1⟩ (fun e => hne1 o (by simp [objs]) e.symm) arr rfl (by simp; omega) (show L.length < (L ++ [x]).length by simp) (hp.push x)).mono ?_)
    rintro _ h2 ⟨L', u, a2, hp2, perm2⟩
    simp only [wpc_first, wpc_ops, wpc_skip, wpc_exit, wpc_ret, wpc_block, wpc_test, ops_next, ops_nil, ops_test, step_mov, step_bin, step_un, step_pick, step_eqB, step_eqNil, step_toInt, step_lenStr, step_lenSlice, step_extract, step_fieldAddr, step_field, step_nilChk, step_idxAddr, step_idxStr, step_load, step_store, step_slc, step_slcStr, step_mkSlice, step_toStr, step_append, step_copy, step_buildSlice, step_build, step_new, step_call, Option.bind_some, Option.map_some, AOpd.val, Fr.at_put, at_ofArgs, Wo_some, Then_normal, Then_exit, Then_ret, InBlock_normal, InBlock_ret, InBlock_exit, Ends_ret, Ends_normal, res_nil, res_tmp, tuple_one, tuple_two, some_one, CondC_true, bin_add, bin_sub, bin_mul, bin_eql, bin_neq, bin_lss, bin_leq, bin_gtr, bin_geq, bin_str_eql, bin_str_neq, un_not, toInt_int, lenStr_str, pick_bool, List.getElem?_cons_zero, List.getElem?_cons_succ, Option.getD_some, Option.getD_none, List.map_cons, List.map_nil, Option.map_none, List.length_map, Nat.reduceEqDiff, if_true, if_false, reduceCtorEq, Nat.reduceAdd, Nat.reduceBEq, guardB_tt, guardB_ff, guardB_tf, guardB_ft, guardB_none, pick_t, pick_f, beq_self_eq_true, bne_self_eq_false, decide_true, decide_false, Bool.not_true, Bool.not_false, put_none, len_slice, len_nil, rest_mk, ThenC_normal, ThenC_exit, ThenC_ret, CondC_false, CondC_both, extract_0, extract_1, extract_2, step_callM, callMV_iface, meth_self, meth_deref, find_cons, bif_true, bif_false, step_mkIface, step_mkMap, step_assertT, assert_same, assert_same_ok, step_lookup, step_mapUpd, step_del, step_idxArr, step_idxAddrArr, items_nil, items_next, restI_mk, wpc_draw, step_box, step_eqAgg]
    have hlen : L'.length = (L ++ [x]).length := perm2.length_eq
    refine ⟨L', _, (u.2 p (fun e => hne1 o (by simp [objs]) e.symm)).trans g1, .inr ⟨o, cap, by rw [hlen], a2⟩, hp2, perm2.trans (List.perm_append_singleton x L), ho1, hne1, ?_, low1.upd u (ho2 o (by simp [objs]))⟩
    refine Only.trans on1 (u.only (F := [o]) (.inl (by simp))) ?_
    intro q hq
    simp at hq; subst hq
    rcases ho1 q (by simp [objs]) with h3 | h3
    · exact .inl (by simp [h3])
    · exact .inr h3
end Go.Proofs.Ytejjkienklaghaa

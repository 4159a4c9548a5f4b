/- Arenas: New. -/
import Derived.Test.YtejjkienklaghaaP4G
namespace Go.Proofs.Ytejjkienklaghaa
open Go.Vm
set_option linter.unusedSimpArgs false
set_option linter.unusedVariables false
variable {T : Vm.Prog} {h : AH}
/-- All slots are free, and their numbers are in the pools of their classes. -/
def AllFree (S : List Slot) (Q : List PR) : Prop :=
  (∀ (n : Nat) (x : Slot), S[n]? = some x → x.gen = 1 ∧ x.live = false ∧ x.ws = List.replicate (sizeN x.cls) poisonN ∧ ∃ q, Q[x.cls]? = some q ∧ ((n : Nat) : Int) ∈ q.L) ∧
  ∀ (c : Nat) (q : PR), Q[c]? = some q → ∀ y ∈ q.L, ∃ (n : Nat) (x : Slot), y = n ∧ S[n]? = some x ∧ x.cls = c
def pre (ns : List Nat) (c : Nat) : Nat := (ns.take c).sum
theorem pre_succ {ns : List Nat} {c n : Nat} (h : ns[c]? = some n) : pre ns (c + 1) = pre ns c + n := by
  unfold pre; rw [List.take_add_one, h]; simp
theorem pre_le (ns : List Nat) (c : Nat) : pre ns c ≤ ns.sum := by
  unfold pre
  conv => rhs; rw [← List.take_append_drop c ns, List.sum_append]
  omega
def ints (ns : List Nat) : List AV := ns.map fun (n : Nat) => .int .i64 (n : Int)
theorem idxArr_ints {ns : List Nat} {c n : Nat} (h5 : ns.length = 5) (h : ns[c]? = some n) : idxArrV false 5 1 (.agg (ints ns)) (.int .i64 (c : Int)) = some (.int .i64 (n : Int)) := by
  have hc := (List.getElem?_eq_some_iff.1 h).1
  show (if (0 : Int) ≤ (c : Int) ∧ (c : Int).toNat < 5 then partV false (ints ns) ((c : Int).toNat * 1) 1 else none) = _
  rw [if_pos ⟨by omega, by show c < 5; omega⟩]
  show (ints ns)[c * 1]? = _
  rw [Nat.mul_one]; simp [ints, h]
/-- What the slots and pools of a new arena are, as far as it was made. -/
structure Made (ns : List Nat) (c i : Nat) (S : List Slot) (Q : List PR) : Prop where
  len : S.length = pre ns c + i
  free : AllFree S Q
  room : ∀ (j : Nat) (q : PR) (n : Nat), Q[j]? = some q → ns[j]? = some n → j < c → q.L.length = n
theorem slot_agg {c o n : Nat} {w : AV} (hw : w = .slice o 0 1 n n true) : fillV [AV.int .i64 0, .int .i64 0, .bool false, .nilSlice] [(0, 1, .int .i64 (c : Int)), (1, 1, .int .i64 1), (3, 1, w)] = some [.int .i64 (c : Int), .int .i64 1, .bool false, w] := by
  subst hw
  simp [fillV, AV.isDef, setMany, AV.cells]
theorem slot_row {l : List AV} (h : l.length = 4) : fillV [AV.int .i64 0, .int .i64 0, .bool false, .nilSlice] [(0, 4, .agg l)] = some l := by
  match l, h with
  | [a, b, c, d], _ => simp [fillV, AV.isDef, AV.cells, setMany]
def c9i : ACode := match c9l1 with
  | .seq _ (.seq _ (.seq r _)) => r
  | c => c
theorem inner_step (k : Fits T) {ns : List Nat} {a c i n : Nat} {sv : AV} {S : List Slot} {Q : List PR} {q : PR} (A : Arena h a sv S Q) (hl : Low h) (h5 : ns.length = 5) (hsum : ns.sum ≤ 1024) (hc : ns[c]? = some n) (hi : i < n) (M : Made ns c i S Q) (hQ : Q.length = c + 1) (hq : Q[c]? = some q) (hqi : q.L.length = i)
    {f : Fr} (f7 : f.at 7 = .ptr a 0) (f8 : f.at 8 = .int .i64 (c : Int)) {K : AExit → Fr → AH → Prop}
    (hK : ∀ (f' : Fr) h' sv' S' Q' q', (∀ t, t < 43 → f'.at t = f.at t) → Arena h' a sv' S' Q' → Low h' → Only h h' (a :: (objs sv ++ q.foot)) → Made ns c (i + 1) S' Q' → Q'.length = c + 1 → Q'[c]? = some q' → q'.L.length = i + 1 → (∀ o ∈ objs sv', o ∈ objs sv ∨ h.next ≤ o) → (∀ o ∈ q'.foot, o ∈ q.foot ∨ h.next ≤ o) → K .normal f' h') :
    Wp (code T c9i f h) K := by
  have hc5 : c < 5 := by rw [← h5]; exact (List.getElem?_eq_some_iff.1 hc).1
  have hlen : S.length < 1024 := by
    have := pre_succ hc; have := pre_le ns (c + 1); have := M.len; omega
  have nb : nilChkV (.ptr a 0) = some (.ptr a 0) := rfl
  have fa0 : fieldAddrV 0 (.ptr a 0) = some (.ptr a 0) := rfl
  have fa1 : fieldAddrV 1 (.ptr a 0) = some (.ptr a 1) := rfl
  simp only [c9i, c9l1, wpc_first, wpc_ops, wpc_skip, wpc_exit, wpc_ret, wpc_block, wpc_test, ops_next, ops_nil, ops_test, step_mov, step_bin, step_un, step_pick, step_eqB, step_eqNil, step_toInt, step_lenStr, step_lenSlice, step_extract, step_fieldAddr, step_field, step_nilChk, step_idxAddr, step_idxStr, step_load, step_store, step_slc, step_slcStr, step_mkSlice, step_toStr, step_append, step_copy, step_buildSlice, step_build, step_new, step_call, Option.bind_some, Option.map_some, AOpd.val, Fr.at_put, at_ofArgs, Wo_some, Then_normal, Then_exit, Then_ret, InBlock_normal, InBlock_ret, InBlock_exit, Ends_ret, Ends_normal, res_nil, res_tmp, tuple_one, tuple_two, some_one, CondC_true, bin_add, bin_sub, bin_mul, bin_eql, bin_neq, bin_lss, bin_leq, bin_gtr, bin_geq, bin_str_eql, bin_str_neq, un_not, toInt_int, lenStr_str, pick_bool, List.getElem?_cons_zero, List.getElem?_cons_succ, Option.getD_some, Option.getD_none, List.map_cons, List.map_nil, Option.map_none, List.length_map, Nat.reduceEqDiff, if_true, if_false, reduceCtorEq, Nat.reduceAdd, Nat.reduceBEq, guardB_tt, guardB_ff, guardB_tf, guardB_ft, guardB_none, pick_t, pick_f, beq_self_eq_true, bne_self_eq_false, decide_true, decide_false, Bool.not_true, Bool.not_false, put_none, len_slice, len_nil, rest_mk, ThenC_normal, ThenC_exit, ThenC_ret, CondC_false, CondC_both, extract_0, extract_1, extract_2, step_callM, callMV_iface, meth_self, meth_deref, find_cons, bif_true, bif_false, step_mkIface, step_mkMap, step_assertT, assert_same, assert_same_ok, step_lookup, step_mapUpd, step_del, step_idxArr, step_idxAddrArr, items_nil, items_next, restI_mk, wpc_draw, step_box, step_eqAgg, f7, f8, nb, fa0, fa1, idxRow_nat hc5, A.pool_load hq, A.sv_load, A.slots.len]
  have hP := A.pools q (List.mem_of_getElem? hq)
  refine Gives.bind ((put_ok k (n := ((S.length : Nat) : Int)) hP hl (by have := hP.count; omega)).mono ?_)
  rintro _ h1 (⟨hbad, _⟩ | ⟨hgood, rfl, L', hperm, hto⟩)
  · exfalso
    rcases hbad with h6 | h6 | h6
    · omega
    · omega
    · obtain ⟨m, x, e, hx, _⟩ := M.free.2 c q hq _ h6
      have := (List.getElem?_eq_some_iff.1 hx).1
      omega
  obtain ⟨q', ⟨rp, rm, rL, rf⟩, A1, on1, lo1⟩ := A.pool hl hq hto
  simp only [wpc_first, wpc_ops, wpc_skip, wpc_exit, wpc_ret, wpc_block, wpc_test, ops_next, ops_nil, ops_test, step_mov, step_bin, step_un, step_pick, step_eqB, step_eqNil, step_toInt, step_lenStr, step_lenSlice, step_extract, step_fieldAddr, step_field, step_nilChk, step_idxAddr, step_idxStr, step_load, step_store, step_slc, step_slcStr, step_mkSlice, step_toStr, step_append, step_copy, step_buildSlice, step_build, step_new, step_call, Option.bind_some, Option.map_some, AOpd.val, Fr.at_put, at_ofArgs, Wo_some, Then_normal, Then_exit, Then_ret, InBlock_normal, InBlock_ret, InBlock_exit, Ends_ret, Ends_normal, res_nil, res_tmp, tuple_one, tuple_two, some_one, CondC_true, bin_add, bin_sub, bin_mul, bin_eql, bin_neq, bin_lss, bin_leq, bin_gtr, bin_geq, bin_str_eql, bin_str_neq, un_not, toInt_int, lenStr_str, pick_bool, List.getElem?_cons_zero, List.getElem?_cons_succ, Option.getD_some, Option.getD_none, List.map_cons, List.map_nil, Option.map_none, List.length_map, Nat.reduceEqDiff, if_true, if_false, reduceCtorEq, Nat.reduceAdd, Nat.reduceBEq, guardB_tt, guardB_ff, guardB_tf, guardB_ft, guardB_none, pick_t, pick_f, beq_self_eq_true, bne_self_eq_false, decide_true, decide_false, Bool.not_true, Bool.not_false, put_none, len_slice, len_nil, rest_mk, ThenC_normal, ThenC_exit, ThenC_ret, CondC_false, CondC_both, extract_0, extract_1, extract_2, step_callM, callMV_iface, meth_self, meth_deref, find_cons, bif_true, bif_false, step_mkIface, step_mkMap, step_assertT, assert_same, assert_same_ok, step_lookup, step_mapUpd, step_del, step_idxArr, step_idxAddrArr, items_nil, items_next, restI_mk, wpc_draw, step_box, step_eqAgg, f7, f8, nb, fa0, A1.sv_load]
  refine Gives.bind ((poison_ok k hc5 lo1).mono ?_)
  rintro w h2 ⟨hw, hwf, on2, lo2⟩
  have A2 := A1.grow lo1 on2
  obtain ⟨wo, hwe, hwg⟩ := hw
  have hwd : w.isDef = true ∧ w.cells = [w] := by rw [hwe]; exact ⟨rfl, rfl⟩
  have x4 : ([AV.int .i64 (c : Int), .int .i64 1, .bool false, w] : List AV).length = 4 := rfl
  have on3 : Only h2 (h2.new (.cells [.int .i64 (c : Int), .int .i64 1, .bool false, w] true)) [] := (Only.refl h2 []).new _
  have lo3 := lo2.new (.cells [.int .i64 (c : Int), .int .i64 1, .bool false, w] true)
  have A3 := A2.grow lo2 on3
  obtain ⟨l1, l2, l3, l4⟩ := A1.low lo1
  have hwl : wo < h2.next := lo2 _ _ hwg
  have hw3 : Words (h2.new (.cells [.int .i64 (c : Int), .int .i64 1, .bool false, w] true)) w (List.replicate (sizeN c) poisonN) := ⟨wo, hwe, by rw [AH.get_new, if_neg (by omega)]; exact hwg⟩
  have hwown : ∀ o ∈ objs w, o ≠ a ∧ o ∉ objs sv ∧ ∀ r ∈ Q.set c q', o ∉ r.foot := by
    intro o ho
    have := hwf o ho
    exact ⟨by omega, fun e => by have := l2 o e; omega, fun r hr e => by have := l3 r hr o e; omega⟩
  obtain ⟨sv', h4, h5', happ, hst, A5, on5, lo5, hob⟩ := A3.addSlot lo3 (x := ⟨c, 1, false, List.replicate (sizeN c) poisonN, w⟩) (o2 := h2.next) hlen get_new_same (fun o ho => by have := l2 o ho; have := on2.1; omega) hw3 hwown ⟨hc5, by show 1 < _; omega, by simp⟩
  simp only [wpc_first, wpc_ops, wpc_skip, wpc_exit, wpc_ret, wpc_block, wpc_test, ops_next, ops_nil, ops_test, step_mov, step_bin, step_un, step_pick, step_eqB, step_eqNil, step_toInt, step_lenStr, step_lenSlice, step_extract, step_fieldAddr, step_field, step_nilChk, step_idxAddr, step_idxStr, step_load, step_store, step_slc, step_slcStr, step_mkSlice, step_toStr, step_append, step_copy, step_buildSlice, step_build, step_new, step_call, Option.bind_some, Option.map_some, AOpd.val, Fr.at_put, at_ofArgs, Wo_some, Then_normal, Then_exit, Then_ret, InBlock_normal, InBlock_ret, InBlock_exit, Ends_ret, Ends_normal, res_nil, res_tmp, tuple_one, tuple_two, some_one, CondC_true, bin_add, bin_sub, bin_mul, bin_eql, bin_neq, bin_lss, bin_leq, bin_gtr, bin_geq, bin_str_eql, bin_str_neq, un_not, toInt_int, lenStr_str, pick_bool, List.getElem?_cons_zero, List.getElem?_cons_succ, Option.getD_some, Option.getD_none, List.map_cons, List.map_nil, Option.map_none, List.length_map, Nat.reduceEqDiff, if_true, if_false, reduceCtorEq, Nat.reduceAdd, Nat.reduceBEq, guardB_tt, guardB_ff, guardB_tf, guardB_ft, guardB_none, pick_t, pick_f, beq_self_eq_true, bne_self_eq_false, decide_true, decide_false, Bool.not_true, Bool.not_false, put_none, len_slice, len_nil, rest_mk, ThenC_normal, ThenC_exit, ThenC_ret, CondC_false, CondC_both, extract_0, extract_1, extract_2, step_callM, callMV_iface, meth_self, meth_deref, find_cons, bif_true, bif_false, step_mkIface, step_mkMap, step_assertT, assert_same, assert_same_ok, step_lookup, step_mapUpd, step_del, step_idxArr, step_idxAddrArr, items_nil, items_next, restI_mk, wpc_draw, step_box, step_eqAgg, f7, f8, slot_agg hwe, slot_row x4]
  rw [items_look (look_load (v := sv) (by simp only [wpc_first, wpc_ops, wpc_skip, wpc_exit, wpc_ret, wpc_block, wpc_test, ops_next, ops_nil, ops_test, step_mov, step_bin, step_un, step_pick, step_eqB, step_eqNil, step_toInt, step_lenStr, step_lenSlice, step_extract, step_fieldAddr, step_field, step_nilChk, step_idxAddr, step_idxStr, step_load, step_store, step_slc, step_slcStr, step_mkSlice, step_toStr, step_append, step_copy, step_buildSlice, step_build, step_new, step_call, Option.bind_some, Option.map_some, AOpd.val, Fr.at_put, at_ofArgs, Wo_some, Then_normal, Then_exit, Then_ret, InBlock_normal, InBlock_ret, InBlock_exit, Ends_ret, Ends_normal, res_nil, res_tmp, tuple_one, tuple_two, some_one, CondC_true, bin_add, bin_sub, bin_mul, bin_eql, bin_neq, bin_lss, bin_leq, bin_gtr, bin_geq, bin_str_eql, bin_str_neq, un_not, toInt_int, lenStr_str, pick_bool, List.getElem?_cons_zero, List.getElem?_cons_succ, Option.getD_some, Option.getD_none, List.map_cons, List.map_nil, Option.map_none, List.length_map, Nat.reduceEqDiff, if_true, if_false, reduceCtorEq, Nat.reduceAdd, Nat.reduceBEq, guardB_tt, guardB_ff, guardB_tf, guardB_ft, guardB_none, pick_t, pick_f, beq_self_eq_true, bne_self_eq_false, decide_true, decide_false, Bool.not_true, Bool.not_false, put_none, len_slice, len_nil, rest_mk, ThenC_normal, ThenC_exit, ThenC_ret, CondC_false, CondC_both, extract_0, extract_1, extract_2, step_callM, callMV_iface, meth_self, meth_deref, find_cons, bif_true, bif_false, step_mkIface, step_mkMap, step_assertT, assert_same, assert_same_ok, step_lookup, step_mapUpd, step_del, step_idxArr, step_idxAddrArr, items_nil, items_next, restI_mk, wpc_draw, step_box, step_eqAgg, fa0]; exact A3.sv_load) (by simp only [wpc_first, wpc_ops, wpc_skip, wpc_exit, wpc_ret, wpc_block, wpc_test, ops_next, ops_nil, ops_test, step_mov, step_bin, step_un, step_pick, step_eqB, step_eqNil, step_toInt, step_lenStr, step_lenSlice, step_extract, step_fieldAddr, step_field, step_nilChk, step_idxAddr, step_idxStr, step_load, step_store, step_slc, step_slcStr, step_mkSlice, step_toStr, step_append, step_copy, step_buildSlice, step_build, step_new, step_call, Option.bind_some, Option.map_some, AOpd.val, Fr.at_put, at_ofArgs, Wo_some, Then_normal, Then_exit, Then_ret, InBlock_normal, InBlock_ret, InBlock_exit, Ends_ret, Ends_normal, res_nil, res_tmp, tuple_one, tuple_two, some_one, CondC_true, bin_add, bin_sub, bin_mul, bin_eql, bin_neq, bin_lss, bin_leq, bin_gtr, bin_geq, bin_str_eql, bin_str_neq, un_not, toInt_int, lenStr_str, pick_bool, List.getElem?_cons_zero, List.getElem?_cons_succ, Option.getD_some, Option.getD_none, List.map_cons, List.map_nil, Option.map_none, List.length_map, Nat.reduceEqDiff, if_true, if_false, reduceCtorEq, Nat.reduceAdd, Nat.reduceBEq, guardB_tt, guardB_ff, guardB_tf, guardB_ft, guardB_none, pick_t, pick_f, beq_self_eq_true, bne_self_eq_false, decide_true, decide_false, Bool.not_true, Bool.not_false, put_none, len_slice, len_nil, rest_mk, ThenC_normal, ThenC_exit, ThenC_ret, CondC_false, CondC_both, extract_0, extract_1, extract_2, step_callM, callMV_iface, meth_self, meth_deref, find_cons, bif_true, bif_false, step_mkIface, step_mkMap, step_assertT, assert_same, assert_same_ok, step_lookup, step_mapUpd, step_del, step_idxArr, step_idxAddrArr, items_nil, items_next, restI_mk, wpc_draw, step_box, step_eqAgg]) (by
    rcases A3.slots with ⟨e, _⟩ | ⟨so, cap, l, e, _⟩
    · rw [e]; rfl
    · rw [e]; unfold AV.beq; simp))]
  rw [items_look (look_build (l := [.int .i64 (c : Int), .int .i64 1, .bool false, w]) (q := h2.next) (by simp only [wpc_first, wpc_ops, wpc_skip, wpc_exit, wpc_ret, wpc_block, wpc_test, ops_next, ops_nil, ops_test, step_mov, step_bin, step_un, step_pick, step_eqB, step_eqNil, step_toInt, step_lenStr, step_lenSlice, step_extract, step_fieldAddr, step_field, step_nilChk, step_idxAddr, step_idxStr, step_load, step_store, step_slc, step_slcStr, step_mkSlice, step_toStr, step_append, step_copy, step_buildSlice, step_build, step_new, step_call, Option.bind_some, Option.map_some, AOpd.val, Fr.at_put, at_ofArgs, Wo_some, Then_normal, Then_exit, Then_ret, InBlock_normal, InBlock_ret, InBlock_exit, Ends_ret, Ends_normal, res_nil, res_tmp, tuple_one, tuple_two, some_one, CondC_true, bin_add, bin_sub, bin_mul, bin_eql, bin_neq, bin_lss, bin_leq, bin_gtr, bin_geq, bin_str_eql, bin_str_neq, un_not, toInt_int, lenStr_str, pick_bool, List.getElem?_cons_zero, List.getElem?_cons_succ, Option.getD_some, Option.getD_none, List.map_cons, List.map_nil, Option.map_none, List.length_map, Nat.reduceEqDiff, if_true, if_false, reduceCtorEq, Nat.reduceAdd, Nat.reduceBEq, guardB_tt, guardB_ff, guardB_tf, guardB_ft, guardB_none, pick_t, pick_f, beq_self_eq_true, bne_self_eq_false, decide_true, decide_false, Bool.not_true, Bool.not_false, put_none, len_slice, len_nil, rest_mk, ThenC_normal, ThenC_exit, ThenC_ret, CondC_false, CondC_both, extract_0, extract_1, extract_2, step_callM, callMV_iface, meth_self, meth_deref, find_cons, bif_true, bif_false, step_mkIface, step_mkMap, step_assertT, assert_same, assert_same_ok, step_lookup, step_mapUpd, step_del, step_idxArr, step_idxAddrArr, items_nil, items_next, restI_mk, wpc_draw, step_box, step_eqAgg]; exact slot_row x4) (by simp only [wpc_first, wpc_ops, wpc_skip, wpc_exit, wpc_ret, wpc_block, wpc_test, ops_next, ops_nil, ops_test, step_mov, step_bin, step_un, step_pick, step_eqB, step_eqNil, step_toInt, step_lenStr, step_lenSlice, step_extract, step_fieldAddr, step_field, step_nilChk, step_idxAddr, step_idxStr, step_load, step_store, step_slc, step_slcStr, step_mkSlice, step_toStr, step_append, step_copy, step_buildSlice, step_build, step_new, step_call, Option.bind_some, Option.map_some, AOpd.val, Fr.at_put, at_ofArgs, Wo_some, Then_normal, Then_exit, Then_ret, InBlock_normal, InBlock_ret, InBlock_exit, Ends_ret, Ends_normal, res_nil, res_tmp, tuple_one, tuple_two, some_one, CondC_true, bin_add, bin_sub, bin_mul, bin_eql, bin_neq, bin_lss, bin_leq, bin_gtr, bin_geq, bin_str_eql, bin_str_neq, un_not, toInt_int, lenStr_str, pick_bool, List.getElem?_cons_zero, List.getElem?_cons_succ, Option.getD_some, Option.getD_none, List.map_cons, List.map_nil, Option.map_none, List.length_map, Nat.reduceEqDiff, if_true, if_false, reduceCtorEq, Nat.reduceAdd, Nat.reduceBEq, guardB_tt, guardB_ff, guardB_tf, guardB_ft, guardB_none, pick_t, pick_f, beq_self_eq_true, bne_self_eq_false, decide_true, decide_false, Bool.not_true, Bool.not_false, put_none, len_slice, len_nil, rest_mk, ThenC_normal, ThenC_exit, ThenC_ret, CondC_false, CondC_both, extract_0, extract_1, extract_2, step_callM, callMV_iface, meth_self, meth_deref, find_cons, bif_true, bif_false, step_mkIface, step_mkMap, step_assertT, assert_same, assert_same_ok, step_lookup, step_mapUpd, step_del, step_idxArr, step_idxAddrArr, items_nil, items_next, restI_mk, wpc_draw, step_box, step_eqAgg]; rfl) get_new_same (slot_beqs (x := ⟨c, 1, false, List.replicate (sizeN c) poisonN, w⟩) hw3))]
  simp only [wpc_first, wpc_ops, wpc_skip, wpc_exit, wpc_ret, wpc_block, wpc_test, ops_next, ops_nil, ops_test, step_mov, step_bin, step_un, step_pick, step_eqB, step_eqNil, step_toInt, step_lenStr, step_lenSlice, step_extract, step_fieldAddr, step_field, step_nilChk, step_idxAddr, step_idxStr, step_load, step_store, step_slc, step_slcStr, step_mkSlice, step_toStr, step_append, step_copy, step_buildSlice, step_build, step_new, step_call, Option.bind_some, Option.map_some, AOpd.val, Fr.at_put, at_ofArgs, Wo_some, Then_normal, Then_exit, Then_ret, InBlock_normal, InBlock_ret, InBlock_exit, Ends_ret, Ends_normal, res_nil, res_tmp, tuple_one, tuple_two, some_one, CondC_true, bin_add, bin_sub, bin_mul, bin_eql, bin_neq, bin_lss, bin_leq, bin_gtr, bin_geq, bin_str_eql, bin_str_neq, un_not, toInt_int, lenStr_str, pick_bool, List.getElem?_cons_zero, List.getElem?_cons_succ, Option.getD_some, Option.getD_none, List.map_cons, List.map_nil, Option.map_none, List.length_map, Nat.reduceEqDiff, if_true, if_false, reduceCtorEq, Nat.reduceAdd, Nat.reduceBEq, guardB_tt, guardB_ff, guardB_tf, guardB_ft, guardB_none, pick_t, pick_f, beq_self_eq_true, bne_self_eq_false, decide_true, decide_false, Bool.not_true, Bool.not_false, put_none, len_slice, len_nil, rest_mk, ThenC_normal, ThenC_exit, ThenC_ret, CondC_false, CondC_both, extract_0, extract_1, extract_2, step_callM, callMV_iface, meth_self, meth_deref, find_cons, bif_true, bif_false, step_mkIface, step_mkMap, step_assertT, assert_same, assert_same_ok, step_lookup, step_mapUpd, step_del, step_idxArr, step_idxAddrArr, items_nil, items_next, restI_mk, wpc_draw, step_box, step_eqAgg, f7, nb, fa0, happ, hst]
  have hcl : c < Q.length := by omega
  have hq' : (Q.set c q')[c]? = some q' := by rw [List.getElem?_set, if_pos rfl, if_pos hcl]
  refine hK _ _ sv' (S ++ [⟨c, 1, false, List.replicate (sizeN c) poisonN, w⟩]) (Q.set c q') q' ?_ A5 lo5 ?_ ?_ (by simpa using hQ) hq' ?_ ?_ rf
  · intro t ht
    simp only [Fr.at_put, put_none]
    repeat rw [if_neg (by omega)]
  · refine ⟨by have := on1.1; have := on2.1; have := on3.1; have := on5.1; omega, fun o ho hF => ?_⟩
    simp only [List.mem_cons, List.mem_append, not_or] at hF
    rw [on5.2 o (by have := on1.1; have := on2.1; have := on3.1; omega) (by simp only [List.mem_cons, not_or]; exact ⟨hF.1, hF.2.1⟩), on3.2 o (by have := on1.1; have := on2.1; omega) (by simp), on2.2 o (by have := on1.1; omega) (by simp), on1.2 o ho hF.2.2]
  · have hset : ∀ (j : Nat), j ≠ c → (Q.set c q')[j]? = Q[j]? := fun j e => by rw [List.getElem?_set, if_neg (Ne.symm e)]
    refine ⟨by rw [List.length_append, M.len]; simp; omega, ⟨fun m x hx => ?_, fun j r hr y hy => ?_⟩, fun j r m hr hm hj => ?_⟩
    · by_cases e : m = S.length
      · subst e
        rw [List.getElem?_append_right (Nat.le_refl _)] at hx
        simp at hx; subst hx
        exact ⟨rfl, rfl, rfl, q', hq', by rw [rL]; exact hperm.mem_iff.2 (by simp)⟩
      · have hm : m < S.length := by
          have := (List.getElem?_eq_some_iff.1 hx).1
          simp at this; omega
        rw [List.getElem?_append_left hm] at hx
        obtain ⟨g1, g2, g3, r, g4, g5⟩ := M.free.1 m x hx
        refine ⟨g1, g2, g3, ?_⟩
        by_cases e2 : x.cls = c
        · rw [e2] at g4
          rw [hq] at g4; cases g4
          exact ⟨q', by rw [e2]; exact hq', by rw [rL]; exact hperm.mem_iff.2 (by simp [g5])⟩
        · exact ⟨r, by rw [hset _ e2]; exact g4, g5⟩
    · by_cases e : j = c
      · subst e
        rw [hq'] at hr; cases hr
        rw [rL] at hy
        rcases List.mem_cons.1 (hperm.mem_iff.1 hy) with rfl | h6
        · exact ⟨S.length, ⟨j, 1, false, List.replicate (sizeN j) poisonN, w⟩, rfl, by rw [List.getElem?_append_right (Nat.le_refl _)]; simp, rfl⟩
        · obtain ⟨m, x, g1, g2, g3⟩ := M.free.2 j q hq y h6
          exact ⟨m, x, g1, by rw [List.getElem?_append_left (List.getElem?_eq_some_iff.1 g2).1]; exact g2, g3⟩
      · rw [hset j e] at hr
        obtain ⟨m, x, g1, g2, g3⟩ := M.free.2 j r hr y hy
        exact ⟨m, x, g1, by rw [List.getElem?_append_left (List.getElem?_eq_some_iff.1 g2).1]; exact g2, g3⟩
    · rw [hset j (by omega)] at hr
      exact M.room j r m hr hm hj
  · rw [rL, hperm.length_eq, List.length_cons, hqi]
  · intro o ho
    rcases hob o ho with h6 | h6
    · exact .inl h6
    · right
      have := on1.1; have := on2.1; have := on3.1; omega
end Go.Proofs.Ytejjkienklaghaa

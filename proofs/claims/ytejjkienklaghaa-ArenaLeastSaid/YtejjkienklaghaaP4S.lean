/- Pools of numbers that are free: Put, Take, New. -/
import Derived.Test.YtejjkienklaghaaP4R
namespace Go.Proofs.Ytejjkienklaghaa
open Go.Vm
set_option linter.unusedSimpArgs false
set_option linter.unusedVariables false
variable {T : Vm.Prog} {h : AH}
/-- What became of a pool. -/
def PoolTo (h : AH) (p : Nat) (most : Int) (v : AV) (mo : Nat) (L' : List Int) (h' : AH) : Prop :=
  ∃ v', Pool h' p most L' v' mo ∧ (∀ o ∈ objs v', o ∈ objs v ∨ h.next ≤ o) ∧ Only h h' (foot p v mo) ∧ Low h'
theorem Pool.low {p : Nat} {most : Int} {L : List Int} {v : AV} {mo : Nat} (k : Pool h p most L v mo) (hl : Low h) : ∀ o ∈ foot p v mo, o < h.next := by
  intro o ho
  simp only [foot, List.mem_cons] at ho
  rcases ho with rfl | rfl | ho
  · exact hl _ _ k.obj
  · obtain ⟨K, h1, _⟩ := k.keys; exact hl _ _ h1
  · rcases k.row with ⟨rfl, _⟩ | ⟨q, cap, rfl, l, hq, _⟩
    · simp [objs] at ho
    · simp [objs] at ho; subst ho; exact hl _ _ hq
theorem Pool.stays {h' : AH} {p : Nat} {most : Int} {L : List Int} {v : AV} {mo : Nat} (k : Pool h p most L v mo) (hl : Low h) (hx : Only h h' []) (hl' : Low h') : PoolTo h p most v mo L h' :=
  ⟨v, k.keep (fun o ho => hx.2 o (k.low hl o ho) (by simp)), fun o ho => .inl ho, ⟨hx.1, fun q hq _ => hx.2 q hq (by simp)⟩, hl'⟩
theorem put_ok (k : Fits T) {p : Nat} {most : Int} {L : List Int} {v : AV} {mo : Nat} {n : Int} (hp : Pool h p most L v mo) (hl : Low h) (hs : L.length < 100000) :
    Gives T 30 [.ptr p 0, .int .i64 n] h fun r h' => (((n < 0 ∨ n ≥ most ∨ n ∈ L) ∧ r = .bool false ∧ PoolTo h p most v mo L h') ∨ (¬ (n < 0 ∨ n ≥ most ∨ n ∈ L) ∧ r = .bool true ∧ ∃ L', L'.Perm (n :: L) ∧ PoolTo h p most v mo L' h')) := by
  refine gives_func (k.env _ (by decide)) (k.at (fn := a30) rfl) rfl ?_
  have hmost : loadV h false 1 (.ptr p 0) = some (.int .i64 most) := load_at hp.obj rfl
  have nil0 : nilChkV (.ptr p 0) = some (.ptr p 0) := rfl
  have fa0 : fieldAddrV 0 (.ptr p 0) = some (.ptr p 0) := rfl
  have fa1 : fieldAddrV 1 (.ptr p 0) = some (.ptr p 1) := rfl
  have fa2 : fieldAddrV 2 (.ptr p 0) = some (.ptr p 2) := rfl
  simp only [a30, c30, wpc_first, wpc_ops, wpc_skip, wpc_exit, wpc_ret, wpc_block, wpc_test, ops_next, ops_nil, ops_test, step_mov, step_bin, step_un, step_pick, step_eqB, step_eqNil, step_toInt, step_lenStr, step_lenSlice, step_extract, step_fieldAddr, step_field, step_nilChk, step_idxAddr, step_idxStr, step_load, step_store, step_slc, step_slcStr, step_mkSlice, step_toStr, step_append, step_copy, step_buildSlice, step_build, step_new, step_call, Option.bind_some, Option.map_some, AOpd.val, Fr.at_put, at_ofArgs, Wo_some, Then_normal, Then_exit, Then_ret, InBlock_normal, InBlock_ret, InBlock_exit, Ends_ret, Ends_normal, res_nil, res_tmp, tuple_one, tuple_two, some_one, CondC_true, bin_add, bin_sub, bin_mul, bin_eql, bin_neq, bin_lss, bin_leq, bin_gtr, bin_geq, bin_str_eql, bin_str_neq, un_not, toInt_int, lenStr_str, pick_bool, List.getElem?_cons_zero, List.getElem?_cons_succ, Option.getD_some, Option.getD_none, List.map_cons, List.map_nil, Option.map_none, List.length_map, Nat.reduceEqDiff, if_true, if_false, reduceCtorEq, Nat.reduceAdd, Nat.reduceBEq, guardB_tt, guardB_ff, guardB_tf, guardB_ft, guardB_none, pick_t, pick_f, beq_self_eq_true, bne_self_eq_false, decide_true, decide_false, Bool.not_true, Bool.not_false, put_none, len_slice, len_nil, rest_mk, ThenC_normal, ThenC_exit, ThenC_ret, CondC_false, CondC_both, extract_0, extract_1, extract_2, step_callM, callMV_iface, meth_self, meth_deref, find_cons, bif_true, bif_false, step_mkIface, step_mkMap, step_assertT, assert_same, assert_same_ok, step_lookup, step_mapUpd, step_del, step_idxArr, step_idxAddrArr, items_nil, items_next, restI_mk, wpc_draw, step_box, step_eqAgg]
  by_cases h1 : n < 0
  · have d1 : decide (n < 0) = true := by simpa using h1
    simp only [d1, wpc_first, wpc_ops, wpc_skip, wpc_exit, wpc_ret, wpc_block, wpc_test, ops_next, ops_nil, ops_test, step_mov, step_bin, step_un, step_pick, step_eqB, step_eqNil, step_toInt, step_lenStr, step_lenSlice, step_extract, step_fieldAddr, step_field, step_nilChk, step_idxAddr, step_idxStr, step_load, step_store, step_slc, step_slcStr, step_mkSlice, step_toStr, step_append, step_copy, step_buildSlice, step_build, step_new, step_call, Option.bind_some, Option.map_some, AOpd.val, Fr.at_put, at_ofArgs, Wo_some, Then_normal, Then_exit, Then_ret, InBlock_normal, InBlock_ret, InBlock_exit, Ends_ret, Ends_normal, res_nil, res_tmp, tuple_one, tuple_two, some_one, CondC_true, bin_add, bin_sub, bin_mul, bin_eql, bin_neq, bin_lss, bin_leq, bin_gtr, bin_geq, bin_str_eql, bin_str_neq, un_not, toInt_int, lenStr_str, pick_bool, List.getElem?_cons_zero, List.getElem?_cons_succ, Option.getD_some, Option.getD_none, List.map_cons, List.map_nil, Option.map_none, List.length_map, Nat.reduceEqDiff, if_true, if_false, reduceCtorEq, Nat.reduceAdd, Nat.reduceBEq, guardB_tt, guardB_ff, guardB_tf, guardB_ft, guardB_none, pick_t, pick_f, beq_self_eq_true, bne_self_eq_false, decide_true, decide_false, Bool.not_true, Bool.not_false, put_none, len_slice, len_nil, rest_mk, ThenC_normal, ThenC_exit, ThenC_ret, CondC_false, CondC_both, extract_0, extract_1, extract_2, step_callM, callMV_iface, meth_self, meth_deref, find_cons, bif_true, bif_false, step_mkIface, step_mkMap, step_assertT, assert_same, assert_same_ok, step_lookup, step_mapUpd, step_del, step_idxArr, step_idxAddrArr, items_nil, items_next, restI_mk, wpc_draw, step_box, step_eqAgg]
    exact .inl ⟨.inl h1, trivial, hp.stays hl (Only.refl h []) hl⟩
  have d1 : decide (n < 0) = false := by simpa using h1
  by_cases h2 : n ≥ most
  · have d2 : decide (n ≥ most) = true := by simpa using h2
    simp only [d1, wpc_first, wpc_ops, wpc_skip, wpc_exit, wpc_ret, wpc_block, wpc_test, ops_next, ops_nil, ops_test, step_mov, step_bin, step_un, step_pick, step_eqB, step_eqNil, step_toInt, step_lenStr, step_lenSlice, step_extract, step_fieldAddr, step_field, step_nilChk, step_idxAddr, step_idxStr, step_load, step_store, step_slc, step_slcStr, step_mkSlice, step_toStr, step_append, step_copy, step_buildSlice, step_build, step_new, step_call, Option.bind_some, Option.map_some, AOpd.val, Fr.at_put, at_ofArgs, Wo_some, Then_normal, Then_exit, Then_ret, InBlock_normal, InBlock_ret, InBlock_exit, Ends_ret, Ends_normal, res_nil, res_tmp, tuple_one, tuple_two, some_one, CondC_true, bin_add, bin_sub, bin_mul, bin_eql, bin_neq, bin_lss, bin_leq, bin_gtr, bin_geq, bin_str_eql, bin_str_neq, un_not, toInt_int, lenStr_str, pick_bool, List.getElem?_cons_zero, List.getElem?_cons_succ, Option.getD_some, Option.getD_none, List.map_cons, List.map_nil, Option.map_none, List.length_map, Nat.reduceEqDiff, if_true, if_false, reduceCtorEq, Nat.reduceAdd, Nat.reduceBEq, guardB_tt, guardB_ff, guardB_tf, guardB_ft, guardB_none, pick_t, pick_f, beq_self_eq_true, bne_self_eq_false, decide_true, decide_false, Bool.not_true, Bool.not_false, put_none, len_slice, len_nil, rest_mk, ThenC_normal, ThenC_exit, ThenC_ret, CondC_false, CondC_both, extract_0, extract_1, extract_2, step_callM, callMV_iface, meth_self, meth_deref, find_cons, bif_true, bif_false, step_mkIface, step_mkMap, step_assertT, assert_same, assert_same_ok, step_lookup, step_mapUpd, step_del, step_idxArr, step_idxAddrArr, items_nil, items_next, restI_mk, wpc_draw, step_box, step_eqAgg, nil0, fa0, hmost, d2]
    exact .inl ⟨.inr (.inl h2), trivial, hp.stays hl (Only.refl h []) hl⟩
  have d2 : decide (n ≥ most) = false := by simpa using h2
  simp only [d1, wpc_first, wpc_ops, wpc_skip, wpc_exit, wpc_ret, wpc_block, wpc_test, ops_next, ops_nil, ops_test, step_mov, step_bin, step_un, step_pick, step_eqB, step_eqNil, step_toInt, step_lenStr, step_lenSlice, step_extract, step_fieldAddr, step_field, step_nilChk, step_idxAddr, step_idxStr, step_load, step_store, step_slc, step_slcStr, step_mkSlice, step_toStr, step_append, step_copy, step_buildSlice, step_build, step_new, step_call, Option.bind_some, Option.map_some, AOpd.val, Fr.at_put, at_ofArgs, Wo_some, Then_normal, Then_exit, Then_ret, InBlock_normal, InBlock_ret, InBlock_exit, Ends_ret, Ends_normal, res_nil, res_tmp, tuple_one, tuple_two, some_one, CondC_true, bin_add, bin_sub, bin_mul, bin_eql, bin_neq, bin_lss, bin_leq, bin_gtr, bin_geq, bin_str_eql, bin_str_neq, un_not, toInt_int, lenStr_str, pick_bool, List.getElem?_cons_zero, List.getElem?_cons_succ, Option.getD_some, Option.getD_none, List.map_cons, List.map_nil, Option.map_none, List.length_map, Nat.reduceEqDiff, if_true, if_false, reduceCtorEq, Nat.reduceAdd, Nat.reduceBEq, guardB_tt, guardB_ff, guardB_tf, guardB_ft, guardB_none, pick_t, pick_f, beq_self_eq_true, bne_self_eq_false, decide_true, decide_false, Bool.not_true, Bool.not_false, put_none, len_slice, len_nil, rest_mk, ThenC_normal, ThenC_exit, ThenC_ret, CondC_false, CondC_both, extract_0, extract_1, extract_2, step_callM, callMV_iface, meth_self, meth_deref, find_cons, bif_true, bif_false, step_mkIface, step_mkMap, step_assertT, assert_same, assert_same_ok, step_lookup, step_mapUpd, step_del, step_idxArr, step_idxAddrArr, items_nil, items_next, restI_mk, wpc_draw, step_box, step_eqAgg, nil0, fa0, hmost, d2]
  refine Gives.bind ((has_ok (k.env _ (by decide)) (k.at rfl) (n := n) hp).mono ?_)
  rintro _ hA ⟨rfl, x, hx⟩
  have onA : Only h hA [] := by
    rcases hx with rfl | rfl
    · exact Only.new (Only.refl h _) _
    · exact Only.set (Only.new (Only.refl h _) _) (.inr (Nat.le_refl _)) _
  have lowA : Low hA := by
    rcases hx with rfl | rfl
    · exact hl.new _
    · exact (hl.new _).set (by rw [next_new]; omega) _
  have hpA : Pool hA p most L v mo := hp.keep fun o ho => onA.2 o (hp.low hl o ho) (by simp)
  by_cases h3 : n ∈ L
  · have d3 : decide (n ∈ L) = true := by simpa using h3
    simp only [d3, wpc_first, wpc_ops, wpc_skip, wpc_exit, wpc_ret, wpc_block, wpc_test, ops_next, ops_nil, ops_test, step_mov, step_bin, step_un, step_pick, step_eqB, step_eqNil, step_toInt, step_lenStr, step_lenSlice, step_extract, step_fieldAddr, step_field, step_nilChk, step_idxAddr, step_idxStr, step_load, step_store, step_slc, step_slcStr, step_mkSlice, step_toStr, step_append, step_copy, step_buildSlice, step_build, step_new, step_call, Option.bind_some, Option.map_some, AOpd.val, Fr.at_put, at_ofArgs, Wo_some, Then_normal, Then_exit, Then_ret, InBlock_normal, InBlock_ret, InBlock_exit, Ends_ret, Ends_normal, res_nil, res_tmp, tuple_one, tuple_two, some_one, CondC_true, bin_add, bin_sub, bin_mul, bin_eql, bin_neq, bin_lss, bin_leq, bin_gtr, bin_geq, bin_str_eql, bin_str_neq, un_not, toInt_int, lenStr_str, pick_bool, List.getElem?_cons_zero, List.getElem?_cons_succ, Option.getD_some, Option.getD_none, List.map_cons, List.map_nil, Option.map_none, List.length_map, Nat.reduceEqDiff, if_true, if_false, reduceCtorEq, Nat.reduceAdd, Nat.reduceBEq, guardB_tt, guardB_ff, guardB_tf, guardB_ft, guardB_none, pick_t, pick_f, beq_self_eq_true, bne_self_eq_false, decide_true, decide_false, Bool.not_true, Bool.not_false, put_none, len_slice, len_nil, rest_mk, ThenC_normal, ThenC_exit, ThenC_ret, CondC_false, CondC_both, extract_0, extract_1, extract_2, step_callM, callMV_iface, meth_self, meth_deref, find_cons, bif_true, bif_false, step_mkIface, step_mkMap, step_assertT, assert_same, assert_same_ok, step_lookup, step_mapUpd, step_del, step_idxArr, step_idxAddrArr, items_nil, items_next, restI_mk, wpc_draw, step_box, step_eqAgg]
    exact .inl ⟨.inr (.inr h3), trivial, hp.stays hl onA lowA⟩
  have d3 : decide (n ∈ L) = false := by simpa using h3
  obtain ⟨K, hK, hperm⟩ := hpA.keys
  have hmap : loadV hA false 1 (.ptr p 2) = some (.map mo) := load_at hpA.obj rfl
  have hupd : mapUpdV hA 0 (.map mo) (.int .i64 n) (.agg []) = some (hA.set mo (.map (keysM (K ++ [n])))) := by
    simp only [mapUpdV, hK]
    rw [find_out K 0 (fun e => h3 (hperm.mem_iff.1 e))]
    simp [keysM]
  have hfill : fillV [] [] = some [] := rfl
  simp only [d3, wpc_first, wpc_ops, wpc_skip, wpc_exit, wpc_ret, wpc_block, wpc_test, ops_next, ops_nil, ops_test, step_mov, step_bin, step_un, step_pick, step_eqB, step_eqNil, step_toInt, step_lenStr, step_lenSlice, step_extract, step_fieldAddr, step_field, step_nilChk, step_idxAddr, step_idxStr, step_load, step_store, step_slc, step_slcStr, step_mkSlice, step_toStr, step_append, step_copy, step_buildSlice, step_build, step_new, step_call, Option.bind_some, Option.map_some, AOpd.val, Fr.at_put, at_ofArgs, Wo_some, Then_normal, Then_exit, Then_ret, InBlock_normal, InBlock_ret, InBlock_exit, Ends_ret, Ends_normal, res_nil, res_tmp, tuple_one, tuple_two, some_one, CondC_true, bin_add, bin_sub, bin_mul, bin_eql, bin_neq, bin_lss, bin_leq, bin_gtr, bin_geq, bin_str_eql, bin_str_neq, un_not, toInt_int, lenStr_str, pick_bool, List.getElem?_cons_zero, List.getElem?_cons_succ, Option.getD_some, Option.getD_none, List.map_cons, List.map_nil, Option.map_none, List.length_map, Nat.reduceEqDiff, if_true, if_false, reduceCtorEq, Nat.reduceAdd, Nat.reduceBEq, guardB_tt, guardB_ff, guardB_tf, guardB_ft, guardB_none, pick_t, pick_f, beq_self_eq_true, bne_self_eq_false, decide_true, decide_false, Bool.not_true, Bool.not_false, put_none, len_slice, len_nil, rest_mk, ThenC_normal, ThenC_exit, ThenC_ret, CondC_false, CondC_both, extract_0, extract_1, extract_2, step_callM, callMV_iface, meth_self, meth_deref, find_cons, bif_true, bif_false, step_mkIface, step_mkMap, step_assertT, assert_same, assert_same_ok, step_lookup, step_mapUpd, step_del, step_idxArr, step_idxAddrArr, items_nil, items_next, restI_mk, wpc_draw, step_box, step_eqAgg, nil0, fa1, fa2, hmap, hfill, hupd]
  have onB : Only h (hA.set mo (.map (keysM (K ++ [n])))) (foot p v mo) := Only.set ⟨onA.1, fun q hq _ => onA.2 q hq (by simp)⟩ (.inl (by simp [foot])) _
  have molt : mo < hA.next := lowA _ _ hK
  have lowB : Low (hA.set mo (.map (keysM (K ++ [n])))) := lowA.set molt _
  have hgB : (hA.set mo (.map (keysM (K ++ [n])))).get p = some (.cells [.int .i64 most, v, .map mo] true) := by rw [AH.get_set, if_neg (Ne.symm hpA.ne)]; exact hpA.obj
  have rB : RowV (hA.set mo (.map (keysM (K ++ [n])))) v L := hpA.row.keep fun o ho => by rw [AH.get_set, if_neg (Ne.symm (hpA.apart o ho).2)]
  refine Gives.bind ((hpush_ok k (x := n) lowB hgB rB hp.hp hs (fun o ho => (hp.apart o ho).1)).mono ?_)
  rintro _ hC ⟨L', v', gC, rC, hpC, permC, hoC, hneC, onC, lowC⟩
  simp only [wpc_first, wpc_ops, wpc_skip, wpc_exit, wpc_ret, wpc_block, wpc_test, ops_next, ops_nil, ops_test, step_mov, step_bin, step_un, step_pick, step_eqB, step_eqNil, step_toInt, step_lenStr, step_lenSlice, step_extract, step_fieldAddr, step_field, step_nilChk, step_idxAddr, step_idxStr, step_load, step_store, step_slc, step_slcStr, step_mkSlice, step_toStr, step_append, step_copy, step_buildSlice, step_build, step_new, step_call, Option.bind_some, Option.map_some, AOpd.val, Fr.at_put, at_ofArgs, Wo_some, Then_normal, Then_exit, Then_ret, InBlock_normal, InBlock_ret, InBlock_exit, Ends_ret, Ends_normal, res_nil, res_tmp, tuple_one, tuple_two, some_one, CondC_true, bin_add, bin_sub, bin_mul, bin_eql, bin_neq, bin_lss, bin_leq, bin_gtr, bin_geq, bin_str_eql, bin_str_neq, un_not, toInt_int, lenStr_str, pick_bool, List.getElem?_cons_zero, List.getElem?_cons_succ, Option.getD_some, Option.getD_none, List.map_cons, List.map_nil, Option.map_none, List.length_map, Nat.reduceEqDiff, if_true, if_false, reduceCtorEq, Nat.reduceAdd, Nat.reduceBEq, guardB_tt, guardB_ff, guardB_tf, guardB_ft, guardB_none, pick_t, pick_f, beq_self_eq_true, bne_self_eq_false, decide_true, decide_false, Bool.not_true, Bool.not_false, put_none, len_slice, len_nil, rest_mk, ThenC_normal, ThenC_exit, ThenC_ret, CondC_false, CondC_both, extract_0, extract_1, extract_2, step_callM, callMV_iface, meth_self, meth_deref, find_cons, bif_true, bif_false, step_mkIface, step_mkMap, step_assertT, assert_same, assert_same_ok, step_lookup, step_mapUpd, step_del, step_idxArr, step_idxAddrArr, items_nil, items_next, restI_mk, wpc_draw, step_box, step_eqAgg]
  have hmoC : hC.get mo = some (.map (keysM (K ++ [n]))) := by
    rw [onC.2 mo (by rw [next_set]; exact molt) (by
      simp only [List.mem_cons, not_or]
      exact ⟨Ne.symm hpA.ne, fun ho => (hp.apart mo ho).2 rfl⟩), get_set_same]
  have hvC : ∀ o ∈ objs v', o ≠ mo := by
    intro o ho e
    subst e
    rcases hoC o ho with h4 | h4
    · exact (hp.apart o h4).2 rfl
    · rw [next_set] at h4; omega
  refine .inr ⟨by simp [h1, h2, h3], trivial, L', permC, v', ⟨gC, ⟨_, hmoC, ?_⟩, rC, hpC, ?_, hp.ne, fun o ho => ⟨hneC o ho, hvC o ho⟩, ?_⟩, ?_, ?_, lowC⟩
  · exact (List.perm_append_singleton n K).trans ((hperm.cons n).trans permC.symm)
  · exact permC.nodup_iff.2 (List.nodup_cons.2 ⟨h3, hp.nodup⟩)
  · intro y hy
    rcases List.mem_cons.1 (permC.mem_iff.1 hy) with rfl | h4
    · omega
    · exact hp.range y h4
  · intro o ho
    rcases hoC o ho with h4 | h4
    · exact .inl h4
    · right; rw [next_set] at h4; have := onA.1; omega
  · refine onB.trans onC ?_
    intro o ho
    simp only [List.mem_cons] at ho
    left
    simp only [foot, List.mem_cons]
    rcases ho with rfl | ho
    · exact .inl rfl
    · exact .inr (.inr ho)
/-- The last one is cut off. -/
theorem pop_ok (k : Fits T) {p o cap m : Nat} {a c : AV} {L : List Int} (hg : h.get p = some (.cells [a, .slice o 0 1 (m + 1) cap false, c] true)) (arr : Arr h o cap L) (hm : L.length = m + 1) (hs : m < 1000000) (hne : p ≠ o) :
    Gives T 73 [.ptr p 1] h fun r h' => r = .iface 3 (.int .i64 (at0 L m)) ∧ h' = h.set p (.cells [a, .slice o 0 1 m cap false, c] true) := by
  refine gives_func (k.env _ (by decide)) (k.at (fn := a73) rfl) rfl ?_
  have hmc : m ≤ cap := by obtain ⟨l, _, _, h3, _⟩ := arr; omega
  have e1 : IntKind.i64.wrap (((m + 1 : Nat) : Int) - 1) = ((m : Nat) : Int) := by rw [wrap_i64 (by omega) (by omega)]; omega
  have hst : storeV h 1 (.ptr p 1) (.slice o 0 1 m cap false) = some (h.set p (.cells [a, .slice o 0 1 m cap false, c] true)) := store_cell1 hg rfl rfl
  simp only [a73, c73, wpc_first, wpc_ops, wpc_skip, wpc_exit, wpc_ret, wpc_block, wpc_test, ops_next, ops_nil, ops_test, step_mov, step_bin, step_un, step_pick, step_eqB, step_eqNil, step_toInt, step_lenStr, step_lenSlice, step_extract, step_fieldAddr, step_field, step_nilChk, step_idxAddr, step_idxStr, step_load, step_store, step_slc, step_slcStr, step_mkSlice, step_toStr, step_append, step_copy, step_buildSlice, step_build, step_new, step_call, Option.bind_some, Option.map_some, AOpd.val, Fr.at_put, at_ofArgs, Wo_some, Then_normal, Then_exit, Then_ret, InBlock_normal, InBlock_ret, InBlock_exit, Ends_ret, Ends_normal, res_nil, res_tmp, tuple_one, tuple_two, some_one, CondC_true, bin_add, bin_sub, bin_mul, bin_eql, bin_neq, bin_lss, bin_leq, bin_gtr, bin_geq, bin_str_eql, bin_str_neq, un_not, toInt_int, lenStr_str, pick_bool, List.getElem?_cons_zero, List.getElem?_cons_succ, Option.getD_some, Option.getD_none, List.map_cons, List.map_nil, Option.map_none, List.length_map, Nat.reduceEqDiff, if_true, if_false, reduceCtorEq, Nat.reduceAdd, Nat.reduceBEq, guardB_tt, guardB_ff, guardB_tf, guardB_ft, guardB_none, pick_t, pick_f, beq_self_eq_true, bne_self_eq_false, decide_true, decide_false, Bool.not_true, Bool.not_false, put_none, len_slice, len_nil, rest_mk, ThenC_normal, ThenC_exit, ThenC_ret, CondC_false, CondC_both, extract_0, extract_1, extract_2, step_callM, callMV_iface, meth_self, meth_deref, find_cons, bif_true, bif_false, step_mkIface, step_mkMap, step_assertT, assert_same, assert_same_ok, step_lookup, step_mapUpd, step_del, step_idxArr, step_idxAddrArr, items_nil, items_next, restI_mk, wpc_draw, step_box, step_eqAgg, show nilChkV (.ptr p 1) = some (.ptr p 1) from rfl, load_at hg (show [a, AV.slice o 0 1 (m + 1) cap false, c][1]? = some (.slice o 0 1 (m + 1) cap false) from rfl), e1, idx_nat (show m < m + 1 by omega), Nat.zero_add, arr.load (show m < L.length by omega), slc_to0 hmc, hst]
  exact ⟨trivial, trivial⟩
theorem hpop_ok (k : Fits T) {p o cap m : Nat} {a c : AV} {L : List Int} (hlow : Low h) (hg : h.get p = some (.cells [a, .slice o 0 1 (m + 1) cap false, c] true)) (arr : Arr h o cap L) (hm : L.length = m + 1) (hs : m < 100000) (hne : p ≠ o) (hp : HP L) :
    Gives T 47 [.iface 101 (.ptr p 1)] h fun r h' => r = .iface 3 (.int .i64 (at0 L 0)) ∧ ∃ L', h'.get p = some (.cells [a, .slice o 0 1 m cap false, c] true) ∧ Arr h' o cap L' ∧ L'.length = m ∧ HP L' ∧ (at0 L 0 :: L').Perm L ∧ h'.next = h.next ∧ (∀ q, q ≠ p → q ≠ o → h'.get q = h.get q) ∧ Low h' := by
  refine gives_func (k.env _ (by decide)) (k.at (fn := a47) rfl) rfl ?_
  have hv : loadV h false 1 (.ptr p 1) = some (.slice o 0 1 (m + 1) cap false) := load_at hg rfl
  have hol : o < h.next := by obtain ⟨l, hq, _⟩ := arr; exact hlow _ _ hq
  have hpl : p < h.next := hlow _ _ hg
  have e1 : IntKind.i64.wrap (((m + 1 : Nat) : Int) - 1) = ((m : Nat) : Int) := by rw [wrap_i64 (by omega) (by omega)]; omega
  simp only [a47, c47, wpc_first, wpc_ops, wpc_skip, wpc_exit, wpc_ret, wpc_block, wpc_test, ops_next, ops_nil, ops_test, step_mov, step_bin, step_un, step_pick, step_eqB, step_eqNil, step_toInt, step_lenStr, step_lenSlice, step_extract, step_fieldAddr, step_field, step_nilChk, step_idxAddr, step_idxStr, step_load, step_store, step_slc, step_slcStr, step_mkSlice, step_toStr, step_append, step_copy, step_buildSlice, step_build, step_new, step_call, Option.bind_some, Option.map_some, AOpd.val, Fr.at_put, at_ofArgs, Wo_some, Then_normal, Then_exit, Then_ret, InBlock_normal, InBlock_ret, InBlock_exit, Ends_ret, Ends_normal, res_nil, res_tmp, tuple_one, tuple_two, some_one, CondC_true, bin_add, bin_sub, bin_mul, bin_eql, bin_neq, bin_lss, bin_leq, bin_gtr, bin_geq, bin_str_eql, bin_str_neq, un_not, toInt_int, lenStr_str, pick_bool, List.getElem?_cons_zero, List.getElem?_cons_succ, Option.getD_some, Option.getD_none, List.map_cons, List.map_nil, Option.map_none, List.length_map, Nat.reduceEqDiff, if_true, if_false, reduceCtorEq, Nat.reduceAdd, Nat.reduceBEq, guardB_tt, guardB_ff, guardB_tf, guardB_ft, guardB_none, pick_t, pick_f, beq_self_eq_true, bne_self_eq_false, decide_true, decide_false, Bool.not_true, Bool.not_false, put_none, len_slice, len_nil, rest_mk, ThenC_normal, ThenC_exit, ThenC_ret, CondC_false, CondC_both, extract_0, extract_1, extract_2, step_callM, callMV_iface, meth_self, meth_deref, find_cons, bif_true, bif_false, step_mkIface, step_mkMap, step_assertT, assert_same, assert_same_ok, step_lookup, step_mapUpd, step_del, step_idxArr, step_idxAddrArr, items_nil, items_next, restI_mk, wpc_draw, step_box, step_eqAgg, hv]
  refine Gives.bind ((len_ok (k.env _ (by decide)) (k.at rfl) (show lenOfV (.slice o 0 1 (m + 1) cap false) = some (m + 1) from rfl)).mono ?_)
  rintro _ _ ⟨rfl, rfl⟩
  rename_i h
  simp only [wpc_first, wpc_ops, wpc_skip, wpc_exit, wpc_ret, wpc_block, wpc_test, ops_next, ops_nil, ops_test, step_mov, step_bin, step_un, step_pick, step_eqB, step_eqNil, step_toInt, step_lenStr, step_lenSlice, step_extract, step_fieldAddr, step_field, step_nilChk, step_idxAddr, step_idxStr, step_load, step_store, step_slc, step_slcStr, step_mkSlice, step_toStr, step_append, step_copy, step_buildSlice, step_build, step_new, step_call, Option.bind_some, Option.map_some, AOpd.val, Fr.at_put, at_ofArgs, Wo_some, Then_normal, Then_exit, Then_ret, InBlock_normal, InBlock_ret, InBlock_exit, Ends_ret, Ends_normal, res_nil, res_tmp, tuple_one, tuple_two, some_one, CondC_true, bin_add, bin_sub, bin_mul, bin_eql, bin_neq, bin_lss, bin_leq, bin_gtr, bin_geq, bin_str_eql, bin_str_neq, un_not, toInt_int, lenStr_str, pick_bool, List.getElem?_cons_zero, List.getElem?_cons_succ, Option.getD_some, Option.getD_none, List.map_cons, List.map_nil, Option.map_none, List.length_map, Nat.reduceEqDiff, if_true, if_false, reduceCtorEq, Nat.reduceAdd, Nat.reduceBEq, guardB_tt, guardB_ff, guardB_tf, guardB_ft, guardB_none, pick_t, pick_f, beq_self_eq_true, bne_self_eq_false, decide_true, decide_false, Bool.not_true, Bool.not_false, put_none, len_slice, len_nil, rest_mk, ThenC_normal, ThenC_exit, ThenC_ret, CondC_false, CondC_both, extract_0, extract_1, extract_2, step_callM, callMV_iface, meth_self, meth_deref, find_cons, bif_true, bif_false, step_mkIface, step_mkMap, step_assertT, assert_same, assert_same_ok, step_lookup, step_mapUpd, step_del, step_idxArr, step_idxAddrArr, items_nil, items_next, restI_mk, wpc_draw, step_box, step_eqAgg, e1, hv]
  refine Gives.bind ((swap_ok (k.env _ (by decide)) (k.at rfl) arr hm.symm (show 0 < m + 1 by omega) (show m < m + 1 by omega)).mono ?_)
  rintro _ h1 ⟨u1, a1⟩
  have hg1 : h1.get p = some (.cells [a, .slice o 0 1 (m + 1) cap false, c] true) := (u1.2 p hne).trans hg
  simp only [wpc_first, wpc_ops, wpc_skip, wpc_exit, wpc_ret, wpc_block, wpc_test, ops_next, ops_nil, ops_test, step_mov, step_bin, step_un, step_pick, step_eqB, step_eqNil, step_toInt, step_lenStr, step_lenSlice, step_extract, step_fieldAddr, step_field, step_nilChk, step_idxAddr, step_idxStr, step_load, step_store, step_slc, step_slcStr, step_mkSlice, step_toStr, step_append, step_copy, step_buildSlice, step_build, step_new, step_call, Option.bind_some, Option.map_some, AOpd.val, Fr.at_put, at_ofArgs, Wo_some, Then_normal, Then_exit, Then_ret, InBlock_normal, InBlock_ret, InBlock_exit, Ends_ret, Ends_normal, res_nil, res_tmp, tuple_one, tuple_two, some_one, CondC_true, bin_add, bin_sub, bin_mul, bin_eql, bin_neq, bin_lss, bin_leq, bin_gtr, bin_geq, bin_str_eql, bin_str_neq, un_not, toInt_int, lenStr_str, pick_bool, List.getElem?_cons_zero, List.getElem?_cons_succ, Option.getD_some, Option.getD_none, List.map_cons, List.map_nil, Option.map_none, List.length_map, Nat.reduceEqDiff, if_true, if_false, reduceCtorEq, Nat.reduceAdd, Nat.reduceBEq, guardB_tt, guardB_ff, guardB_tf, guardB_ft, guardB_none, pick_t, pick_f, beq_self_eq_true, bne_self_eq_false, decide_true, decide_false, Bool.not_true, Bool.not_false, put_none, len_slice, len_nil, rest_mk, ThenC_normal, ThenC_exit, ThenC_ret, CondC_false, CondC_both, extract_0, extract_1, extract_2, step_callM, callMV_iface, meth_self, meth_deref, find_cons, bif_true, bif_false, step_mkIface, step_mkMap, step_assertT, assert_same, assert_same_ok, step_lookup, step_mapUpd, step_del, step_idxArr, step_idxAddrArr, items_nil, items_next, restI_mk, wpc_draw, step_box, step_eqAgg]
  refine Gives.bind ((down_ok k (n := m + 1) ⟨a, c, hg1⟩ hne a1 (by rw [swp_len]; exact hm.symm) (by omega) (show m ≤ m + 1 by omega) (hp.toTop hm)).mono ?_)
  rintro _ h2 ⟨L2, u2, a2, hl2, hp2, perm2, hout2⟩
  have hg2 : h2.get p = some (.cells [a, .slice o 0 1 (m + 1) cap false, c] true) := (u2.2 p hne).trans hg1
  simp only [wpc_first, wpc_ops, wpc_skip, wpc_exit, wpc_ret, wpc_block, wpc_test, ops_next, ops_nil, ops_test, step_mov, step_bin, step_un, step_pick, step_eqB, step_eqNil, step_toInt, step_lenStr, step_lenSlice, step_extract, step_fieldAddr, step_field, step_nilChk, step_idxAddr, step_idxStr, step_load, step_store, step_slc, step_slcStr, step_mkSlice, step_toStr, step_append, step_copy, step_buildSlice, step_build, step_new, step_call, Option.bind_some, Option.map_some, AOpd.val, Fr.at_put, at_ofArgs, Wo_some, Then_normal, Then_exit, Then_ret, InBlock_normal, InBlock_ret, InBlock_exit, Ends_ret, Ends_normal, res_nil, res_tmp, tuple_one, tuple_two, some_one, CondC_true, bin_add, bin_sub, bin_mul, bin_eql, bin_neq, bin_lss, bin_leq, bin_gtr, bin_geq, bin_str_eql, bin_str_neq, un_not, toInt_int, lenStr_str, pick_bool, List.getElem?_cons_zero, List.getElem?_cons_succ, Option.getD_some, Option.getD_none, List.map_cons, List.map_nil, Option.map_none, List.length_map, Nat.reduceEqDiff, if_true, if_false, reduceCtorEq, Nat.reduceAdd, Nat.reduceBEq, guardB_tt, guardB_ff, guardB_tf, guardB_ft, guardB_none, pick_t, pick_f, beq_self_eq_true, bne_self_eq_false, decide_true, decide_false, Bool.not_true, Bool.not_false, put_none, len_slice, len_nil, rest_mk, ThenC_normal, ThenC_exit, ThenC_ret, CondC_false, CondC_both, extract_0, extract_1, extract_2, step_callM, callMV_iface, meth_self, meth_deref, find_cons, bif_true, bif_false, step_mkIface, step_mkMap, step_assertT, assert_same, assert_same_ok, step_lookup, step_mapUpd, step_del, step_idxArr, step_idxAddrArr, items_nil, items_next, restI_mk, wpc_draw, step_box, step_eqAgg]
  refine Gives.bind ((pop_ok k hg2 a2 hl2 (by omega) hne).mono ?_)
  rintro _ _ ⟨rfl, rfl⟩
  have hx : at0 L2 m = at0 L 0 := by
    rw [hout2 m (Nat.le_refl _), swp_get (by omega) (by omega), if_pos rfl]
  have u := u1.trans u2
  simp only [wpc_first, wpc_ops, wpc_skip, wpc_exit, wpc_ret, wpc_block, wpc_test, ops_next, ops_nil, ops_test, step_mov, step_bin, step_un, step_pick, step_eqB, step_eqNil, step_toInt, step_lenStr, step_lenSlice, step_extract, step_fieldAddr, step_field, step_nilChk, step_idxAddr, step_idxStr, step_load, step_store, step_slc, step_slcStr, step_mkSlice, step_toStr, step_append, step_copy, step_buildSlice, step_build, step_new, step_call, Option.bind_some, Option.map_some, AOpd.val, Fr.at_put, at_ofArgs, Wo_some, Then_normal, Then_exit, Then_ret, InBlock_normal, InBlock_ret, InBlock_exit, Ends_ret, Ends_normal, res_nil, res_tmp, tuple_one, tuple_two, some_one, CondC_true, bin_add, bin_sub, bin_mul, bin_eql, bin_neq, bin_lss, bin_leq, bin_gtr, bin_geq, bin_str_eql, bin_str_neq, un_not, toInt_int, lenStr_str, pick_bool, List.getElem?_cons_zero, List.getElem?_cons_succ, Option.getD_some, Option.getD_none, List.map_cons, List.map_nil, Option.map_none, List.length_map, Nat.reduceEqDiff, if_true, if_false, reduceCtorEq, Nat.reduceAdd, Nat.reduceBEq, guardB_tt, guardB_ff, guardB_tf, guardB_ft, guardB_none, pick_t, pick_f, beq_self_eq_true, bne_self_eq_false, decide_true, decide_false, Bool.not_true, Bool.not_false, put_none, len_slice, len_nil, rest_mk, ThenC_normal, ThenC_exit, ThenC_ret, CondC_false, CondC_both, extract_0, extract_1, extract_2, step_callM, callMV_iface, meth_self, meth_deref, find_cons, bif_true, bif_false, step_mkIface, step_mkMap, step_assertT, assert_same, assert_same_ok, step_lookup, step_mapUpd, step_del, step_idxArr, step_idxAddrArr, items_nil, items_next, restI_mk, wpc_draw, step_box, step_eqAgg, hx]
  refine ⟨trivial, L2.take m, get_set_same, ?_, by simp; omega, hp2, ?_, by rw [next_set]; exact u.1, ?_, (hlow.upd u hol).set (by rw [u.1]; exact hpl) _⟩
  · obtain ⟨l, hq, h3⟩ := a2.take m
    exact ⟨l, by rw [AH.get_set, if_neg hne]; exact hq, h3⟩
  · have h5 : L2 = L2.take m ++ [at0 L2 m] := by
      have h7 : L2.take (m + 1) = L2.take m ++ [at0 L2 m] := by
        rw [List.take_add_one, at0_some (show m < L2.length by omega)]; rfl
      rw [List.take_of_length_le (by omega)] at h7
      exact h7
    rw [← hx]
    refine List.Perm.trans ?_ (perm2.trans (swp_perm (by omega) (by omega)))
    conv => rhs; rw [h5]
    exact (List.perm_append_singleton _ _).symm
  · intro q h6 h7
    rw [AH.get_set, if_neg (Ne.symm h6)]
    exact u.2 q h7
theorem map_erase {α β : Type} (f : α → β) : ∀ (l : List α) (j : Nat), (l.map f).eraseIdx j = (l.eraseIdx j).map f
  | [], _ => rfl
  | a :: l, 0 => rfl
  | a :: l, j + 1 => by simp [map_erase f l j]
theorem take_ok (k : Fits T) {p : Nat} {most : Int} {L : List Int} {v : AV} {mo : Nat} (hp : Pool h p most L v mo) (hl : Low h) (hs : L.length < 100000) :
    Gives T 32 [.ptr p 0] h fun r h' => (L = [] ∧ r = .tuple [.int .i64 0, .bool false] ∧ PoolTo h p most v mo L h') ∨ (∃ x L', r = .tuple [.int .i64 x, .bool true] ∧ (x :: L').Perm L ∧ (∀ y ∈ L, x ≤ y) ∧ PoolTo h p most v mo L' h') := by
  refine gives_func (k.env _ (by decide)) (k.at (fn := a32) rfl) rfl ?_
  have nil0 : nilChkV (.ptr p 0) = some (.ptr p 0) := rfl
  have fa1 : fieldAddrV 1 (.ptr p 0) = some (.ptr p 1) := rfl
  have fa2 : fieldAddrV 2 (.ptr p 0) = some (.ptr p 2) := rfl
  simp only [a32, c32, wpc_first, wpc_ops, wpc_skip, wpc_exit, wpc_ret, wpc_block, wpc_test, ops_next, ops_nil, ops_test, step_mov, step_bin, step_un, step_pick, step_eqB, step_eqNil, step_toInt, step_lenStr, step_lenSlice, step_extract, step_fieldAddr, step_field, step_nilChk, step_idxAddr, step_idxStr, step_load, step_store, step_slc, step_slcStr, step_mkSlice, step_toStr, step_append, step_copy, step_buildSlice, step_build, step_new, step_call, Option.bind_some, Option.map_some, AOpd.val, Fr.at_put, at_ofArgs, Wo_some, Then_normal, Then_exit, Then_ret, InBlock_normal, InBlock_ret, InBlock_exit, Ends_ret, Ends_normal, res_nil, res_tmp, tuple_one, tuple_two, some_one, CondC_true, bin_add, bin_sub, bin_mul, bin_eql, bin_neq, bin_lss, bin_leq, bin_gtr, bin_geq, bin_str_eql, bin_str_neq, un_not, toInt_int, lenStr_str, pick_bool, List.getElem?_cons_zero, List.getElem?_cons_succ, Option.getD_some, Option.getD_none, List.map_cons, List.map_nil, Option.map_none, List.length_map, Nat.reduceEqDiff, if_true, if_false, reduceCtorEq, Nat.reduceAdd, Nat.reduceBEq, guardB_tt, guardB_ff, guardB_tf, guardB_ft, guardB_none, pick_t, pick_f, beq_self_eq_true, bne_self_eq_false, decide_true, decide_false, Bool.not_true, Bool.not_false, put_none, len_slice, len_nil, rest_mk, ThenC_normal, ThenC_exit, ThenC_ret, CondC_false, CondC_both, extract_0, extract_1, extract_2, step_callM, callMV_iface, meth_self, meth_deref, find_cons, bif_true, bif_false, step_mkIface, step_mkMap, step_assertT, assert_same, assert_same_ok, step_lookup, step_mapUpd, step_del, step_idxArr, step_idxAddrArr, items_nil, items_next, restI_mk, wpc_draw, step_box, step_eqAgg, nil0, fa1, hp.named.load, hp.row.len]
  by_cases he : L = []
  · subst he
    have d : (((([] : List Int).length : Nat) : Int) == 0) = true := rfl
    simp only [d, wpc_first, wpc_ops, wpc_skip, wpc_exit, wpc_ret, wpc_block, wpc_test, ops_next, ops_nil, ops_test, step_mov, step_bin, step_un, step_pick, step_eqB, step_eqNil, step_toInt, step_lenStr, step_lenSlice, step_extract, step_fieldAddr, step_field, step_nilChk, step_idxAddr, step_idxStr, step_load, step_store, step_slc, step_slcStr, step_mkSlice, step_toStr, step_append, step_copy, step_buildSlice, step_build, step_new, step_call, Option.bind_some, Option.map_some, AOpd.val, Fr.at_put, at_ofArgs, Wo_some, Then_normal, Then_exit, Then_ret, InBlock_normal, InBlock_ret, InBlock_exit, Ends_ret, Ends_normal, res_nil, res_tmp, tuple_one, tuple_two, some_one, CondC_true, bin_add, bin_sub, bin_mul, bin_eql, bin_neq, bin_lss, bin_leq, bin_gtr, bin_geq, bin_str_eql, bin_str_neq, un_not, toInt_int, lenStr_str, pick_bool, List.getElem?_cons_zero, List.getElem?_cons_succ, Option.getD_some, Option.getD_none, List.map_cons, List.map_nil, Option.map_none, List.length_map, Nat.reduceEqDiff, if_true, if_false, reduceCtorEq, Nat.reduceAdd, Nat.reduceBEq, guardB_tt, guardB_ff, guardB_tf, guardB_ft, guardB_none, pick_t, pick_f, beq_self_eq_true, bne_self_eq_false, decide_true, decide_false, Bool.not_true, Bool.not_false, put_none, len_slice, len_nil, rest_mk, ThenC_normal, ThenC_exit, ThenC_ret, CondC_false, CondC_both, extract_0, extract_1, extract_2, step_callM, callMV_iface, meth_self, meth_deref, find_cons, bif_true, bif_false, step_mkIface, step_mkMap, step_assertT, assert_same, assert_same_ok, step_lookup, step_mapUpd, step_del, step_idxArr, step_idxAddrArr, items_nil, items_next, restI_mk, wpc_draw, step_box, step_eqAgg]
    exact .inl ⟨trivial, trivial, hp.stays hl (Only.refl h []) hl⟩
  · have d : (((L.length : Nat) : Int) == 0) = false := by
      rw [beq_eq_false_iff_ne]
      have : L.length ≠ 0 := fun e => he (List.eq_nil_of_length_eq_zero e)
      omega
    simp only [d, wpc_first, wpc_ops, wpc_skip, wpc_exit, wpc_ret, wpc_block, wpc_test, ops_next, ops_nil, ops_test, step_mov, step_bin, step_un, step_pick, step_eqB, step_eqNil, step_toInt, step_lenStr, step_lenSlice, step_extract, step_fieldAddr, step_field, step_nilChk, step_idxAddr, step_idxStr, step_load, step_store, step_slc, step_slcStr, step_mkSlice, step_toStr, step_append, step_copy, step_buildSlice, step_build, step_new, step_call, Option.bind_some, Option.map_some, AOpd.val, Fr.at_put, at_ofArgs, Wo_some, Then_normal, Then_exit, Then_ret, InBlock_normal, InBlock_ret, InBlock_exit, Ends_ret, Ends_normal, res_nil, res_tmp, tuple_one, tuple_two, some_one, CondC_true, bin_add, bin_sub, bin_mul, bin_eql, bin_neq, bin_lss, bin_leq, bin_gtr, bin_geq, bin_str_eql, bin_str_neq, un_not, toInt_int, lenStr_str, pick_bool, List.getElem?_cons_zero, List.getElem?_cons_succ, Option.getD_some, Option.getD_none, List.map_cons, List.map_nil, Option.map_none, List.length_map, Nat.reduceEqDiff, if_true, if_false, reduceCtorEq, Nat.reduceAdd, Nat.reduceBEq, guardB_tt, guardB_ff, guardB_tf, guardB_ft, guardB_none, pick_t, pick_f, beq_self_eq_true, bne_self_eq_false, decide_true, decide_false, Bool.not_true, Bool.not_false, put_none, len_slice, len_nil, rest_mk, ThenC_normal, ThenC_exit, ThenC_ret, CondC_false, CondC_both, extract_0, extract_1, extract_2, step_callM, callMV_iface, meth_self, meth_deref, find_cons, bif_true, bif_false, step_mkIface, step_mkMap, step_assertT, assert_same, assert_same_ok, step_lookup, step_mapUpd, step_del, step_idxArr, step_idxAddrArr, items_nil, items_next, restI_mk, wpc_draw, step_box, step_eqAgg, nil0, fa1]
    rcases hp.row with ⟨rfl, hnil⟩ | ⟨o, cap, rfl, arr⟩
    · exact absurd hnil he
    · obtain ⟨m, hm⟩ : ∃ m, L.length = m + 1 := ⟨L.length - 1, by have : L.length ≠ 0 := fun e => he (List.eq_nil_of_length_eq_zero e); omega⟩
      have hg := hp.obj
      rw [hm] at hg
      have hne : p ≠ o := fun e => (hp.apart o (by simp [objs])).1 e.symm
      have hmo : mo ≠ o := fun e => (hp.apart o (by simp [objs])).2 e.symm
      refine Gives.bind ((hpop_ok k hl hg arr hm (by omega) hne hp.hp).mono ?_)
      rintro _ h1 ⟨rfl, L', g1, a1, hl1, hp1, perm1, n1, oth1, low1⟩
      obtain ⟨K, hK, hperm⟩ := hp.keys
      have hK1 : h1.get mo = some (.map (keysM K)) := (oth1 mo (Ne.symm hp.ne) hmo).trans hK
      have hmem : at0 L 0 ∈ K := hperm.mem_iff.2 (perm1.mem_iff.1 (by simp))
      obtain ⟨j, hj1, hj2, hj3⟩ := find_in K 0 hmem
      have hdel : delV h1 0 (.map mo) (.int .i64 (at0 L 0)) = some (h1.set mo (.map (keysM (K.eraseIdx j)))) := by
        simp only [delV, hK1, hj1, Option.map_some, Nat.zero_add]
        rw [keysM, map_erase]; rfl
      have hmap : loadV h1 false 1 (.ptr p 2) = some (.map mo) := load_at g1 rfl
      simp only [wpc_first, wpc_ops, wpc_skip, wpc_exit, wpc_ret, wpc_block, wpc_test, ops_next, ops_nil, ops_test, step_mov, step_bin, step_un, step_pick, step_eqB, step_eqNil, step_toInt, step_lenStr, step_lenSlice, step_extract, step_fieldAddr, step_field, step_nilChk, step_idxAddr, step_idxStr, step_load, step_store, step_slc, step_slcStr, step_mkSlice, step_toStr, step_append, step_copy, step_buildSlice, step_build, step_new, step_call, Option.bind_some, Option.map_some, AOpd.val, Fr.at_put, at_ofArgs, Wo_some, Then_normal, Then_exit, Then_ret, InBlock_normal, InBlock_ret, InBlock_exit, Ends_ret, Ends_normal, res_nil, res_tmp, tuple_one, tuple_two, some_one, CondC_true, bin_add, bin_sub, bin_mul, bin_eql, bin_neq, bin_lss, bin_leq, bin_gtr, bin_geq, bin_str_eql, bin_str_neq, un_not, toInt_int, lenStr_str, pick_bool, List.getElem?_cons_zero, List.getElem?_cons_succ, Option.getD_some, Option.getD_none, List.map_cons, List.map_nil, Option.map_none, List.length_map, Nat.reduceEqDiff, if_true, if_false, reduceCtorEq, Nat.reduceAdd, Nat.reduceBEq, guardB_tt, guardB_ff, guardB_tf, guardB_ft, guardB_none, pick_t, pick_f, beq_self_eq_true, bne_self_eq_false, decide_true, decide_false, Bool.not_true, Bool.not_false, put_none, len_slice, len_nil, rest_mk, ThenC_normal, ThenC_exit, ThenC_ret, CondC_false, CondC_both, extract_0, extract_1, extract_2, step_callM, callMV_iface, meth_self, meth_deref, find_cons, bif_true, bif_false, step_mkIface, step_mkMap, step_assertT, assert_same, assert_same_ok, step_lookup, step_mapUpd, step_del, step_idxArr, step_idxAddrArr, items_nil, items_next, restI_mk, wpc_draw, step_box, step_eqAgg, nil0, fa2, hmap, hdel]
      refine .inr ⟨at0 L 0, L', rfl, perm1, ?_, .slice o 0 1 m cap false, ⟨?_, ⟨_, get_set_same, ?_⟩, .inr ⟨o, cap, by rw [hl1], ?_⟩, hp1, ?_, hp.ne, ?_, fun y hy => hp.range y (perm1.mem_iff.1 (List.mem_cons_of_mem _ hy))⟩, fun q hq => .inl hq, ?_, low1.set (low1 _ _ hK1) _⟩
      · intro y hy
        obtain ⟨i, hi⟩ := List.getElem?_of_mem hy
        have hil := (List.getElem?_eq_some_iff.1 hi).1
        have := hp.hp.root i hil
        rw [at0_of hi] at this; exact this
      · rw [AH.get_set, if_neg (Ne.symm hp.ne)]; exact g1
      · exact (List.Perm.cons_inv ((erase_perm hj3).trans (hperm.trans perm1.symm)))
      · obtain ⟨l, hq, h3⟩ := a1
        exact ⟨l, by rw [AH.get_set, if_neg hmo]; exact hq, h3⟩
      · exact (List.nodup_cons.1 (perm1.nodup_iff.2 hp.nodup)).2
      · intro q hq; simp [objs] at hq; subst hq; exact ⟨Ne.symm hne, Ne.symm hmo⟩
      · refine ⟨by rw [next_set, n1]; exact Nat.le_refl _, fun q hq hF => ?_⟩
        simp only [foot, objs, List.mem_cons, not_or] at hF
        rw [AH.get_set, if_neg (Ne.symm hF.2.1)]
        exact oth1 q hF.1 hF.2.2.1
theorem pnew_ok (k : Fits T) {most : Int} (hl : Low h) (h1 : 0 ≤ most) (h2 : most ≤ 65535) :
    Gives T 29 [.int .i64 most] h fun r h' => r = .tuple [.ptr (h.next + 1) 0, .int .i64 0] ∧ Pool h' (h.next + 1) most [] .nilSlice h.next ∧ Only h h' [] ∧ Low h' ∧ h'.next = h.next + 2 := by
  refine gives_func (k.env _ (by decide)) (k.at (fn := a29) rfl) rfl ?_
  have d1 : decide (most < 0) = false := by simpa using h1
  have d2 : decide (most > 65535) = false := by simpa using h2
  have hfill : fillV [AV.int .i64 0, .nilSlice, .nilMap] [(0, 1, .int .i64 most), (2, 1, .map h.next)] = some [.int .i64 most, .nilSlice, .map h.next] := by simp [fillV, AV.isDef, AV.cells, setMany]
  simp only [a29, c29, wpc_first, wpc_ops, wpc_skip, wpc_exit, wpc_ret, wpc_block, wpc_test, ops_next, ops_nil, ops_test, step_mov, step_bin, step_un, step_pick, step_eqB, step_eqNil, step_toInt, step_lenStr, step_lenSlice, step_extract, step_fieldAddr, step_field, step_nilChk, step_idxAddr, step_idxStr, step_load, step_store, step_slc, step_slcStr, step_mkSlice, step_toStr, step_append, step_copy, step_buildSlice, step_build, step_new, step_call, Option.bind_some, Option.map_some, AOpd.val, Fr.at_put, at_ofArgs, Wo_some, Then_normal, Then_exit, Then_ret, InBlock_normal, InBlock_ret, InBlock_exit, Ends_ret, Ends_normal, res_nil, res_tmp, tuple_one, tuple_two, some_one, CondC_true, bin_add, bin_sub, bin_mul, bin_eql, bin_neq, bin_lss, bin_leq, bin_gtr, bin_geq, bin_str_eql, bin_str_neq, un_not, toInt_int, lenStr_str, pick_bool, List.getElem?_cons_zero, List.getElem?_cons_succ, Option.getD_some, Option.getD_none, List.map_cons, List.map_nil, Option.map_none, List.length_map, Nat.reduceEqDiff, if_true, if_false, reduceCtorEq, Nat.reduceAdd, Nat.reduceBEq, guardB_tt, guardB_ff, guardB_tf, guardB_ft, guardB_none, pick_t, pick_f, beq_self_eq_true, bne_self_eq_false, decide_true, decide_false, Bool.not_true, Bool.not_false, put_none, len_slice, len_nil, rest_mk, ThenC_normal, ThenC_exit, ThenC_ret, CondC_false, CondC_both, extract_0, extract_1, extract_2, step_callM, callMV_iface, meth_self, meth_deref, find_cons, bif_true, bif_false, step_mkIface, step_mkMap, step_assertT, assert_same, assert_same_ok, step_lookup, step_mapUpd, step_del, step_idxArr, step_idxAddrArr, items_nil, items_next, restI_mk, wpc_draw, step_box, step_eqAgg, d1, d2, hfill, box_agg, next_new]
  refine ⟨trivial, ⟨?_, ⟨[], ?_, List.Perm.refl _⟩, .inl ⟨rfl, rfl⟩, fun i _ h => by simp at h, List.nodup_nil, by omega, fun o ho => (by simp [objs] at ho), fun y hy => (by simp at hy)⟩, ((Only.refl h []).new _).new _, (hl.new _).new _, trivial⟩
  · have := get_new_same (h := h.new (.map [])) (x := .cells [.int .i64 most, .nilSlice, .map h.next] true)
    rw [next_new] at this; exact this
  · rw [AH.get_new, if_neg (by rw [next_new]; omega), get_new_same]; rfl
end Go.Proofs.Ytejjkienklaghaa

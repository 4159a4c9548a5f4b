/- Arenas: Free. -/
import Derived.Test.YtejjkienklaghaaP4O
namespace Go.Proofs.Ytejjkienklaghaa
open Go.Vm
set_option linter.unusedSimpArgs false
set_option linter.unusedVariables false
variable {T : Vm.Prog} {h : AH}
/-- A slot was given back. -/
def Freed (h : AH) (a : Nat) (sv : AV) (S : List Slot) (Q : List PR) (n : Nat) (x : Slot) (q : PR) (h' : AH) : Prop :=
  ∃ w q', Arena h' a sv (S.set n ⟨x.cls, x.gen + 1, false, List.replicate (sizeN x.cls) poisonN, w⟩) (Q.set x.cls q') ∧ (∀ o ∈ objs w, h.next ≤ o) ∧
    (if x.gen + 1 ≤ 1073741824 then ∃ L', L'.Perm (((n : Nat) : Int) :: q.L) ∧ Repooled h Q x.cls q L' q' else q' = q) ∧ Only h h' (objs sv ++ q.foot) ∧ Low h'
theorem afree_ok (k : Fits T) {a : Nat} {sv : AV} {S : List Slot} {Q : List PR} (A : Arena h a sv S Q) (hl : Low h) (ref : Int) (hQ : Q.length = 5) (hnot : ∀ (n : Nat) (x : Slot) (q : PR), S[n]? = some x → x.live = true → Q[x.cls]? = some q → ((n : Nat) : Int) ∉ q.L) :
    Gives T 12 [.ptr a 0, .int .i64 ref] h fun r h' => (∃ e, OfIs S ref (.error e) ∧ r = .int .i64 (e : Int) ∧ h' = h) ∨
      (∃ n x q, OfIs S ref (.ok n) ∧ S[n]? = some x ∧ Q[x.cls]? = some q ∧ r = .int .i64 0 ∧ Freed h a sv S Q n x q h') := by
  refine gives_func (k.env _ (by decide)) (k.at (fn := a12) rfl) rfl ?_
  simp only [a12, c12, wpc_first, wpc_ops, wpc_skip, wpc_exit, wpc_ret, wpc_block, wpc_test, ops_next, ops_nil, ops_test, step_mov, step_bin, step_un, step_pick, step_eqB, step_eqNil, step_toInt, step_lenStr, step_lenSlice, step_extract, step_fieldAddr, step_field, step_nilChk, step_idxAddr, step_idxStr, step_load, step_store, step_slc, step_slcStr, step_mkSlice, step_toStr, step_append, step_copy, step_buildSlice, step_build, step_new, step_call, Option.bind_some, Option.map_some, AOpd.val, Fr.at_put, at_ofArgs, Wo_some, Then_normal, Then_exit, Then_ret, InBlock_normal, InBlock_ret, InBlock_exit, Ends_ret, Ends_normal, res_nil, res_tmp, tuple_one, tuple_two, some_one, CondC_true, bin_add, bin_sub, bin_mul, bin_eql, bin_neq, bin_lss, bin_leq, bin_gtr, bin_geq, bin_str_eql, bin_str_neq, un_not, toInt_int, lenStr_str, pick_bool, List.getElem?_cons_zero, List.getElem?_cons_succ, Option.getD_some, Option.getD_none, List.map_cons, List.map_nil, Option.map_none, List.length_map, Nat.reduceEqDiff, if_true, if_false, reduceCtorEq, Nat.reduceAdd, Nat.reduceBEq, guardB_tt, guardB_ff, guardB_tf, guardB_ft, guardB_none, pick_t, pick_f, beq_self_eq_true, bne_self_eq_false, decide_true, decide_false, Bool.not_true, Bool.not_false, put_none, len_slice, len_nil, rest_mk, ThenC_normal, ThenC_exit, ThenC_ret, CondC_false, CondC_both, extract_0, extract_1, extract_2, step_callM, callMV_iface, meth_self, meth_deref, find_cons, bif_true, bif_false, step_mkIface, step_mkMap, step_assertT, assert_same, assert_same_ok, step_lookup, step_mapUpd, step_del, step_idxArr, step_idxAddrArr, items_nil, items_next, restI_mk, wpc_draw, step_box, step_eqAgg]
  refine Gives.bind ((of_ok k A ref).mono ?_)
  rintro _ _ ⟨rfl, res, hres, rfl⟩
  rename_i h
  cases res with
  | error e =>
    have he := hres.err
    have d : (((e : Nat) : Int) != 0) = true := by simp; omega
    simp only [ofV, wpc_first, wpc_ops, wpc_skip, wpc_exit, wpc_ret, wpc_block, wpc_test, ops_next, ops_nil, ops_test, step_mov, step_bin, step_un, step_pick, step_eqB, step_eqNil, step_toInt, step_lenStr, step_lenSlice, step_extract, step_fieldAddr, step_field, step_nilChk, step_idxAddr, step_idxStr, step_load, step_store, step_slc, step_slcStr, step_mkSlice, step_toStr, step_append, step_copy, step_buildSlice, step_build, step_new, step_call, Option.bind_some, Option.map_some, AOpd.val, Fr.at_put, at_ofArgs, Wo_some, Then_normal, Then_exit, Then_ret, InBlock_normal, InBlock_ret, InBlock_exit, Ends_ret, Ends_normal, res_nil, res_tmp, tuple_one, tuple_two, some_one, CondC_true, bin_add, bin_sub, bin_mul, bin_eql, bin_neq, bin_lss, bin_leq, bin_gtr, bin_geq, bin_str_eql, bin_str_neq, un_not, toInt_int, lenStr_str, pick_bool, List.getElem?_cons_zero, List.getElem?_cons_succ, Option.getD_some, Option.getD_none, List.map_cons, List.map_nil, Option.map_none, List.length_map, Nat.reduceEqDiff, if_true, if_false, reduceCtorEq, Nat.reduceAdd, Nat.reduceBEq, guardB_tt, guardB_ff, guardB_tf, guardB_ft, guardB_none, pick_t, pick_f, beq_self_eq_true, bne_self_eq_false, decide_true, decide_false, Bool.not_true, Bool.not_false, put_none, len_slice, len_nil, rest_mk, ThenC_normal, ThenC_exit, ThenC_ret, CondC_false, CondC_both, extract_0, extract_1, extract_2, step_callM, callMV_iface, meth_self, meth_deref, find_cons, bif_true, bif_false, step_mkIface, step_mkMap, step_assertT, assert_same, assert_same_ok, step_lookup, step_mapUpd, step_del, step_idxArr, step_idxAddrArr, items_nil, items_next, restI_mk, wpc_draw, step_box, step_eqAgg, d]
    exact .inl ⟨e, hres, rfl, trivial⟩
  | ok n =>
    obtain ⟨x, hx, hlive, hv, href⟩ := hres.slot
    obtain ⟨so, ho, hsp, l0, l1, l2, l3⟩ := slotPtr_at A hx
    obtain ⟨k1, k2, k3⟩ := A.kinds x (List.mem_of_getElem? hx)
    obtain ⟨q, hq⟩ : ∃ q, Q[x.cls]? = some q := ⟨_, List.getElem?_eq_getElem (by omega)⟩
    have hn := (List.getElem?_eq_some_iff.1 hx).1
    have hqn := hnot n x q hx hlive hq
    have nb : nilChkV (.ptr so (n * 4)) = some (.ptr so (n * 4)) := rfl
    have fb : ∀ j, fieldAddrV j (.ptr so (n * 4)) = some (.ptr so (n * 4 + j)) := fun j => rfl
    have nba : nilChkV (.ptr a 0) = some (.ptr a 0) := rfl
    have fba : fieldAddrV 1 (.ptr a 0) = some (.ptr a 1) := rfl
    have hsol : so < h.next := (A.low hl).2.1 so (by rw [ho]; simp)
    simp only [ofV, wpc_first, wpc_ops, wpc_skip, wpc_exit, wpc_ret, wpc_block, wpc_test, ops_next, ops_nil, ops_test, step_mov, step_bin, step_un, step_pick, step_eqB, step_eqNil, step_toInt, step_lenStr, step_lenSlice, step_extract, step_fieldAddr, step_field, step_nilChk, step_idxAddr, step_idxStr, step_load, step_store, step_slc, step_slcStr, step_mkSlice, step_toStr, step_append, step_copy, step_buildSlice, step_build, step_new, step_call, Option.bind_some, Option.map_some, AOpd.val, Fr.at_put, at_ofArgs, Wo_some, Then_normal, Then_exit, Then_ret, InBlock_normal, InBlock_ret, InBlock_exit, Ends_ret, Ends_normal, res_nil, res_tmp, tuple_one, tuple_two, some_one, CondC_true, bin_add, bin_sub, bin_mul, bin_eql, bin_neq, bin_lss, bin_leq, bin_gtr, bin_geq, bin_str_eql, bin_str_neq, un_not, toInt_int, lenStr_str, pick_bool, List.getElem?_cons_zero, List.getElem?_cons_succ, Option.getD_some, Option.getD_none, List.map_cons, List.map_nil, Option.map_none, List.length_map, Nat.reduceEqDiff, if_true, if_false, reduceCtorEq, Nat.reduceAdd, Nat.reduceBEq, guardB_tt, guardB_ff, guardB_tf, guardB_ft, guardB_none, pick_t, pick_f, beq_self_eq_true, bne_self_eq_false, decide_true, decide_false, Bool.not_true, Bool.not_false, put_none, len_slice, len_nil, rest_mk, ThenC_normal, ThenC_exit, ThenC_ret, CondC_false, CondC_both, extract_0, extract_1, extract_2, step_callM, callMV_iface, meth_self, meth_deref, find_cons, bif_true, bif_false, step_mkIface, step_mkMap, step_assertT, assert_same, assert_same_ok, step_lookup, step_mapUpd, step_del, step_idxArr, step_idxAddrArr, items_nil, items_next, restI_mk, wpc_draw, step_box, step_eqAgg, show ((0 : Int) != 0) = false from rfl, hsp, nb, fb, Nat.add_zero, l0]
    refine Gives.bind ((poison_ok k k1 hl).mono ?_)
    rintro w h1 ⟨hw, hwf, on1, lo1⟩
    have A1 := A.grow hl on1
    obtain ⟨m1, m2, m3, m4⟩ := A.low hl
    have hwd : w.cells = [w] ∧ w.flat = true := by obtain ⟨o, e, _⟩ := hw; rw [e]; exact ⟨rfl, rfl⟩
    have hwown : ∀ o ∈ objs w, o ≠ a ∧ o ∉ objs sv ∧ ∀ q ∈ Q, o ∉ q.foot := by
      intro o hoo
      have := hwf o hoo
      exact ⟨by omega, fun e => by have := m2 _ e; omega, fun q hq e => by have := m3 q hq _ e; omega⟩
    obtain ⟨h2, st2, u2, A2⟩ := A1.setCell (j := 3) (y := ⟨x.cls, x.gen, x.live, List.replicate (sizeN x.cls) poisonN, w⟩) (v := w) hx ho (by decide) hwd.1 hwd.2 rfl hw hwown ⟨k1, k2, by simp⟩
    have lo2 := lo1.upd u2 (by have := on1.1; omega)
    have hx2 : (S.set n ⟨x.cls, x.gen, x.live, List.replicate (sizeN x.cls) poisonN, w⟩)[n]? = some ⟨x.cls, x.gen, x.live, List.replicate (sizeN x.cls) poisonN, w⟩ := by rw [List.getElem?_set, if_pos rfl, if_pos hn]
    obtain ⟨so2, ho2, _, _, g2, _, _⟩ := A2.slots.at hx2
    have e2 : so2 = so := by rw [ho] at ho2; simp only [List.cons.injEq, and_true] at ho2; exact ho2.symm
    rw [e2] at g2
    have w1 : IntKind.i64.wrap ((x.gen : Int) + 1) = ((x.gen + 1 : Nat) : Int) := by
      have := hv.2.2
      rw [wrap_i64 (by omega) (by omega)]; rfl
    have hw2 : Words h2 w (List.replicate (sizeN x.cls) poisonN) := A2.words _ (List.mem_of_getElem? hx2)
    obtain ⟨h3, st3, u3, A3⟩ := A2.setCell (j := 1) (y := ⟨x.cls, x.gen + 1, x.live, List.replicate (sizeN x.cls) poisonN, w⟩) (v := .int .i64 ((x.gen + 1 : Nat) : Int)) hx2 ho (by decide) rfl rfl rfl hw2 hwown ⟨k1, by have := hv.2.2; show x.gen + 1 < _; omega, by simp⟩
    rw [List.set_set] at A3
    have hx3 : (S.set n ⟨x.cls, x.gen + 1, x.live, List.replicate (sizeN x.cls) poisonN, w⟩)[n]? = some ⟨x.cls, x.gen + 1, x.live, List.replicate (sizeN x.cls) poisonN, w⟩ := by rw [List.getElem?_set, if_pos rfl, if_pos hn]
    have hw3 : Words h3 w (List.replicate (sizeN x.cls) poisonN) := A3.words _ (List.mem_of_getElem? hx3)
    obtain ⟨h4, st4, u4, A4⟩ := A3.setCell (j := 2) (y := ⟨x.cls, x.gen + 1, false, List.replicate (sizeN x.cls) poisonN, w⟩) (v := .bool false) hx3 ho (by decide) rfl rfl rfl hw3 hwown ⟨k1, by have := hv.2.2; show x.gen + 1 < _; omega, by simp⟩
    rw [List.set_set] at A4
    have hx4 : (S.set n ⟨x.cls, x.gen + 1, false, List.replicate (sizeN x.cls) poisonN, w⟩)[n]? = some ⟨x.cls, x.gen + 1, false, List.replicate (sizeN x.cls) poisonN, w⟩ := by rw [List.getElem?_set, if_pos rfl, if_pos hn]
    have u := (u2.trans u3).trans u4
    have lo4 : Low h4 := lo1.upd u (by have := on1.1; omega)
    have on4 : Only h h4 (objs sv) := ⟨by rw [u.1]; exact on1.1, fun o h5 hF => by
      rw [u.2 o (fun e => hF (by rw [ho, e]; simp)), on1.2 o h5 (by simp)]⟩
    obtain ⟨so4, ho4, _, c4, g4, _, _⟩ := A4.slots.at hx4
    have e4 : so4 = so := by rw [ho] at ho4; simp only [List.cons.injEq, and_true] at ho4; exact ho4.symm
    rw [e4] at g4 c4
    have hex : ∀ {a b c d : AV}, extractV 3 (.tuple [a, b, c, d]) = some d := rfl
    simp only [wpc_first, wpc_ops, wpc_skip, wpc_exit, wpc_ret, wpc_block, wpc_test, ops_next, ops_nil, ops_test, step_mov, step_bin, step_un, step_pick, step_eqB, step_eqNil, step_toInt, step_lenStr, step_lenSlice, step_extract, step_fieldAddr, step_field, step_nilChk, step_idxAddr, step_idxStr, step_load, step_store, step_slc, step_slcStr, step_mkSlice, step_toStr, step_append, step_copy, step_buildSlice, step_build, step_new, step_call, Option.bind_some, Option.map_some, AOpd.val, Fr.at_put, at_ofArgs, Wo_some, Then_normal, Then_exit, Then_ret, InBlock_normal, InBlock_ret, InBlock_exit, Ends_ret, Ends_normal, res_nil, res_tmp, tuple_one, tuple_two, some_one, CondC_true, bin_add, bin_sub, bin_mul, bin_eql, bin_neq, bin_lss, bin_leq, bin_gtr, bin_geq, bin_str_eql, bin_str_neq, un_not, toInt_int, lenStr_str, pick_bool, List.getElem?_cons_zero, List.getElem?_cons_succ, Option.getD_some, Option.getD_none, List.map_cons, List.map_nil, Option.map_none, List.length_map, Nat.reduceEqDiff, if_true, if_false, reduceCtorEq, Nat.reduceAdd, Nat.reduceBEq, guardB_tt, guardB_ff, guardB_tf, guardB_ft, guardB_none, pick_t, pick_f, beq_self_eq_true, bne_self_eq_false, decide_true, decide_false, Bool.not_true, Bool.not_false, put_none, len_slice, len_nil, rest_mk, ThenC_normal, ThenC_exit, ThenC_ret, CondC_false, CondC_both, extract_0, extract_1, extract_2, step_callM, callMV_iface, meth_self, meth_deref, find_cons, bif_true, bif_false, step_mkIface, step_mkMap, step_assertT, assert_same, assert_same_ok, step_lookup, step_mapUpd, step_del, step_idxArr, step_idxAddrArr, items_nil, items_next, restI_mk, wpc_draw, step_box, step_eqAgg, nb, fb, st2, g2, w1, st3, st4]
    refine Gives.bind ((parts_ok k ref).mono ?_)
    rintro _ _ ⟨rfl, ⟨s, g, l, hv', hr', rfl⟩ | ⟨hno, _⟩⟩
    rotate_left
    · exact absurd href (hno _ _ _ hv)
    rename_i h4
    obtain ⟨rfl, rfl, rfl⟩ := refN_inj hv hv' (Int.ofNat.inj (href.symm.trans hr'))
    have hset : Q.set x.cls q = Q := by
      apply List.ext_getElem?
      intro i
      rw [List.getElem?_set]
      by_cases e : x.cls = i
      · subst e; rw [if_pos rfl, if_pos (by omega), hq]
      · rw [if_neg e]
    by_cases hg : x.gen + 1 ≤ 1073741824
    · have d : decide (((x.gen + 1 : Nat) : Int) ≤ 1073741824) = true := by rw [decide_eq_true_eq]; omega
      have hpl := A4.pool_load hq
      simp only [wpc_first, wpc_ops, wpc_skip, wpc_exit, wpc_ret, wpc_block, wpc_test, ops_next, ops_nil, ops_test, step_mov, step_bin, step_un, step_pick, step_eqB, step_eqNil, step_toInt, step_lenStr, step_lenSlice, step_extract, step_fieldAddr, step_field, step_nilChk, step_idxAddr, step_idxStr, step_load, step_store, step_slc, step_slcStr, step_mkSlice, step_toStr, step_append, step_copy, step_buildSlice, step_build, step_new, step_call, Option.bind_some, Option.map_some, AOpd.val, Fr.at_put, at_ofArgs, Wo_some, Then_normal, Then_exit, Then_ret, InBlock_normal, InBlock_ret, InBlock_exit, Ends_ret, Ends_normal, res_nil, res_tmp, tuple_one, tuple_two, some_one, CondC_true, bin_add, bin_sub, bin_mul, bin_eql, bin_neq, bin_lss, bin_leq, bin_gtr, bin_geq, bin_str_eql, bin_str_neq, un_not, toInt_int, lenStr_str, pick_bool, List.getElem?_cons_zero, List.getElem?_cons_succ, Option.getD_some, Option.getD_none, List.map_cons, List.map_nil, Option.map_none, List.length_map, Nat.reduceEqDiff, if_true, if_false, reduceCtorEq, Nat.reduceAdd, Nat.reduceBEq, guardB_tt, guardB_ff, guardB_tf, guardB_ft, guardB_none, pick_t, pick_f, beq_self_eq_true, bne_self_eq_false, decide_true, decide_false, Bool.not_true, Bool.not_false, put_none, len_slice, len_nil, rest_mk, ThenC_normal, ThenC_exit, ThenC_ret, CondC_false, CondC_both, extract_0, extract_1, extract_2, step_callM, callMV_iface, meth_self, meth_deref, find_cons, bif_true, bif_false, step_mkIface, step_mkMap, step_assertT, assert_same, assert_same_ok, step_lookup, step_mapUpd, step_del, step_idxArr, step_idxAddrArr, items_nil, items_next, restI_mk, wpc_draw, step_box, step_eqAgg, hex, nb, fb, g4, d, nba, fba, Nat.add_zero, c4, idxRow_nat k1, hpl]
      have hP := A4.pools q (List.mem_of_getElem? hq)
      refine Gives.bind ((put_ok k (n := ((n : Nat) : Int)) hP lo4 (by have := hP.count; omega)).mono ?_)
      rintro _ h5 (⟨hbad, _⟩ | ⟨_, rfl, L', hperm, hto⟩)
      · exfalso
        have := hv.1
        rcases hbad with h6 | h6 | h6
        · omega
        · omega
        · exact hqn h6
      obtain ⟨q', hrep, A5, on5, lo5⟩ := A4.pool lo4 hq hto
      simp only [wpc_first, wpc_ops, wpc_skip, wpc_exit, wpc_ret, wpc_block, wpc_test, ops_next, ops_nil, ops_test, step_mov, step_bin, step_un, step_pick, step_eqB, step_eqNil, step_toInt, step_lenStr, step_lenSlice, step_extract, step_fieldAddr, step_field, step_nilChk, step_idxAddr, step_idxStr, step_load, step_store, step_slc, step_slcStr, step_mkSlice, step_toStr, step_append, step_copy, step_buildSlice, step_build, step_new, step_call, Option.bind_some, Option.map_some, AOpd.val, Fr.at_put, at_ofArgs, Wo_some, Then_normal, Then_exit, Then_ret, InBlock_normal, InBlock_ret, InBlock_exit, Ends_ret, Ends_normal, res_nil, res_tmp, tuple_one, tuple_two, some_one, CondC_true, bin_add, bin_sub, bin_mul, bin_eql, bin_neq, bin_lss, bin_leq, bin_gtr, bin_geq, bin_str_eql, bin_str_neq, un_not, toInt_int, lenStr_str, pick_bool, List.getElem?_cons_zero, List.getElem?_cons_succ, Option.getD_some, Option.getD_none, List.map_cons, List.map_nil, Option.map_none, List.length_map, Nat.reduceEqDiff, if_true, if_false, reduceCtorEq, Nat.reduceAdd, Nat.reduceBEq, guardB_tt, guardB_ff, guardB_tf, guardB_ft, guardB_none, pick_t, pick_f, beq_self_eq_true, bne_self_eq_false, decide_true, decide_false, Bool.not_true, Bool.not_false, put_none, len_slice, len_nil, rest_mk, ThenC_normal, ThenC_exit, ThenC_ret, CondC_false, CondC_both, extract_0, extract_1, extract_2, step_callM, callMV_iface, meth_self, meth_deref, find_cons, bif_true, bif_false, step_mkIface, step_mkMap, step_assertT, assert_same, assert_same_ok, step_lookup, step_mapUpd, step_del, step_idxArr, step_idxAddrArr, items_nil, items_next, restI_mk, wpc_draw, step_box, step_eqAgg]
      refine .inr ⟨n, x, q, hres, hx, hq, trivial, w, q', A5, fun o h6 => by have := hwf o h6; omega, ?_, ?_, lo5⟩
      · rw [if_pos hg]
        exact ⟨L', hperm, hrep.1, hrep.2.1, hrep.2.2.1, fun o h6 => by
          rcases hrep.2.2.2 o h6 with h7 | h7
          · exact .inl h7
          · right; have := on4.1; omega⟩
      · refine ⟨Nat.le_trans on4.1 on5.1, fun o h6 hF => ?_⟩
        simp only [List.mem_append, not_or] at hF
        rw [on5.2 o (by have := on4.1; omega) hF.2, on4.2 o h6 hF.1]
    · have d : decide (((x.gen + 1 : Nat) : Int) ≤ 1073741824) = false := by rw [decide_eq_false_iff_not]; omega
      simp only [wpc_first, wpc_ops, wpc_skip, wpc_exit, wpc_ret, wpc_block, wpc_test, ops_next, ops_nil, ops_test, step_mov, step_bin, step_un, step_pick, step_eqB, step_eqNil, step_toInt, step_lenStr, step_lenSlice, step_extract, step_fieldAddr, step_field, step_nilChk, step_idxAddr, step_idxStr, step_load, step_store, step_slc, step_slcStr, step_mkSlice, step_toStr, step_append, step_copy, step_buildSlice, step_build, step_new, step_call, Option.bind_some, Option.map_some, AOpd.val, Fr.at_put, at_ofArgs, Wo_some, Then_normal, Then_exit, Then_ret, InBlock_normal, InBlock_ret, InBlock_exit, Ends_ret, Ends_normal, res_nil, res_tmp, tuple_one, tuple_two, some_one, CondC_true, bin_add, bin_sub, bin_mul, bin_eql, bin_neq, bin_lss, bin_leq, bin_gtr, bin_geq, bin_str_eql, bin_str_neq, un_not, toInt_int, lenStr_str, pick_bool, List.getElem?_cons_zero, List.getElem?_cons_succ, Option.getD_some, Option.getD_none, List.map_cons, List.map_nil, Option.map_none, List.length_map, Nat.reduceEqDiff, if_true, if_false, reduceCtorEq, Nat.reduceAdd, Nat.reduceBEq, guardB_tt, guardB_ff, guardB_tf, guardB_ft, guardB_none, pick_t, pick_f, beq_self_eq_true, bne_self_eq_false, decide_true, decide_false, Bool.not_true, Bool.not_false, put_none, len_slice, len_nil, rest_mk, ThenC_normal, ThenC_exit, ThenC_ret, CondC_false, CondC_both, extract_0, extract_1, extract_2, step_callM, callMV_iface, meth_self, meth_deref, find_cons, bif_true, bif_false, step_mkIface, step_mkMap, step_assertT, assert_same, assert_same_ok, step_lookup, step_mapUpd, step_del, step_idxArr, step_idxAddrArr, items_nil, items_next, restI_mk, wpc_draw, step_box, step_eqAgg, hex, nb, fb, g4, d]
      refine .inr ⟨n, x, q, hres, hx, hq, trivial, w, q, by rw [hset]; exact A4, fun o h6 => by have := hwf o h6; omega, by rw [if_neg hg], ⟨on4.1, fun o h6 hF => on4.2 o h6 fun h7 => hF (by simp [h7])⟩, lo4⟩
end Go.Proofs.Ytejjkienklaghaa

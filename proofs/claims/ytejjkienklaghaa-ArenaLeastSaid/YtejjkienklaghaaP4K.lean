/- The law ArenaNew on the machine. -/
import Derived.Test.YtejjkienklaghaaP4I
namespace Go.Proofs.Ytejjkienklaghaa
open Go.Vm
set_option linter.unusedSimpArgs false
set_option linter.unusedVariables false
variable {T : Vm.Prog} {h : AH}
noncomputable def outN (S : List Slot) (s g : Nat) (l : Bool) : Except Nat Nat := match S[s]? with
  | none => .error 1
  | some x => if l ≠ (x.cls == 0) then .error 1 else if x.gen ≠ g then .error 4 else if x.live = false then .error 3 else .ok s
theorem OfIs.dec {S : List Slot} {ref : Int} {r : Except Nat Nat} (o : OfIs S ref r) : (∃ s g l, Valid s g ∧ ref = (refN s g l : Nat) ∧ r = outN S s g l) ∨ ((∀ s g l, Valid s g → ref ≠ (refN s g l : Nat)) ∧ r = .error 1) := by
  cases o with
  | none h => exact .inr ⟨h, rfl⟩
  | far s g l hv hr hs => exact .inl ⟨s, g, l, hv, hr, by simp [outN, List.getElem?_eq_none hs]⟩
  | odd s g l x hv hr hx hl => exact .inl ⟨s, g, l, hv, hr, by simp only [outN, hx]; rw [if_pos hl]⟩
  | gone s g x hv hr hx hg => exact .inl ⟨s, g, _, hv, hr, by simp only [outN, hx]; rw [if_neg (by simp), if_pos hg]⟩
  | free s g x hv hr hx hg hl => exact .inl ⟨s, g, _, hv, hr, by simp only [outN, hx]; rw [if_neg (by simp), if_neg (by simp [hg]), if_pos hl]⟩
  | good s x hv hr hx hl => exact .inl ⟨s, x.gen, _, hv, hr, by simp only [outN, hx]; rw [if_neg (by simp), if_neg (by simp), if_neg (by simp [hl])]⟩
theorem OfIs.unique {S : List Slot} {ref : Int} {r r' : Except Nat Nat} (o : OfIs S ref r) (o' : OfIs S ref r') : r = r' := by
  rcases o.dec with ⟨s, g, l, hv, hr, rfl⟩ | ⟨hn, rfl⟩
  · rcases o'.dec with ⟨s', g', l', hv', hr', rfl⟩ | ⟨hn', rfl⟩
    · obtain ⟨rfl, rfl, rfl⟩ := refN_inj hv hv' (Int.ofNat.inj (hr.symm.trans hr'))
      rfl
    · exact absurd hr (hn' _ _ _ hv)
  · rcases o'.dec with ⟨s', g', l', hv', hr', rfl⟩ | ⟨hn', rfl⟩
    · exact absurd hr' (hn _ _ _ hv')
    · rfl
theorem free_err (k : Fits T) {a : Nat} {sv : AV} {S : List Slot} {Q : List PR} (A : Arena h a sv S Q) {ref : Int} {e : Nat} (he : OfIs S ref (.error e)) :
    Gives T 12 [.ptr a 0, .int .i64 ref] h fun r h' => r = .int .i64 (e : Int) ∧ h' = h := by
  refine gives_func (k.env _ (by decide)) (k.at (fn := a12) rfl) rfl ?_
  simp only [a12, c12, wpc_first, wpc_ops, wpc_skip, wpc_exit, wpc_ret, wpc_block, wpc_test, ops_next, ops_nil, ops_test, step_mov, step_bin, step_un, step_pick, step_eqB, step_eqNil, step_toInt, step_lenStr, step_lenSlice, step_extract, step_fieldAddr, step_field, step_nilChk, step_idxAddr, step_idxStr, step_load, step_store, step_slc, step_slcStr, step_mkSlice, step_toStr, step_append, step_copy, step_buildSlice, step_build, step_new, step_call, Option.bind_some, Option.map_some, AOpd.val, Fr.at_put, at_ofArgs, Wo_some, Then_normal, Then_exit, Then_ret, InBlock_normal, InBlock_ret, InBlock_exit, Ends_ret, Ends_normal, res_nil, res_tmp, tuple_one, tuple_two, some_one, CondC_true, bin_add, bin_sub, bin_mul, bin_eql, bin_neq, bin_lss, bin_leq, bin_gtr, bin_geq, bin_str_eql, bin_str_neq, un_not, toInt_int, lenStr_str, pick_bool, List.getElem?_cons_zero, List.getElem?_cons_succ, Option.getD_some, Option.getD_none, List.map_cons, List.map_nil, Option.map_none, List.length_map, Nat.reduceEqDiff, if_true, if_false, reduceCtorEq, Nat.reduceAdd, Nat.reduceBEq, guardB_tt, guardB_ff, guardB_tf, guardB_ft, guardB_none, pick_t, pick_f, beq_self_eq_true, bne_self_eq_false, decide_true, decide_false, Bool.not_true, Bool.not_false, put_none, len_slice, len_nil, rest_mk, ThenC_normal, ThenC_exit, ThenC_ret, CondC_false, CondC_both, extract_0, extract_1, extract_2, step_callM, callMV_iface, meth_self, meth_deref, find_cons, bif_true, bif_false, step_mkIface, step_mkMap, step_assertT, assert_same, assert_same_ok, step_lookup, step_mapUpd, step_del, step_idxArr, step_idxAddrArr, items_nil, items_next, restI_mk, wpc_draw, step_box, step_eqAgg]
  refine Gives.bind ((of_ok k A ref).mono ?_)
  rintro _ _ ⟨rfl, res, hres, rfl⟩
  have hr := hres.unique he
  subst hr
  have he' := hres.err
  have d : (((e : Nat) : Int) != 0) = true := by simp; omega
  simp only [ofV, wpc_first, wpc_ops, wpc_skip, wpc_exit, wpc_ret, wpc_block, wpc_test, ops_next, ops_nil, ops_test, step_mov, step_bin, step_un, step_pick, step_eqB, step_eqNil, step_toInt, step_lenStr, step_lenSlice, step_extract, step_fieldAddr, step_field, step_nilChk, step_idxAddr, step_idxStr, step_load, step_store, step_slc, step_slcStr, step_mkSlice, step_toStr, step_append, step_copy, step_buildSlice, step_build, step_new, step_call, Option.bind_some, Option.map_some, AOpd.val, Fr.at_put, at_ofArgs, Wo_some, Then_normal, Then_exit, Then_ret, InBlock_normal, InBlock_ret, InBlock_exit, Ends_ret, Ends_normal, res_nil, res_tmp, tuple_one, tuple_two, some_one, CondC_true, bin_add, bin_sub, bin_mul, bin_eql, bin_neq, bin_lss, bin_leq, bin_gtr, bin_geq, bin_str_eql, bin_str_neq, un_not, toInt_int, lenStr_str, pick_bool, List.getElem?_cons_zero, List.getElem?_cons_succ, Option.getD_some, Option.getD_none, List.map_cons, List.map_nil, Option.map_none, List.length_map, Nat.reduceEqDiff, if_true, if_false, reduceCtorEq, Nat.reduceAdd, Nat.reduceBEq, guardB_tt, guardB_ff, guardB_tf, guardB_ft, guardB_none, pick_t, pick_f, beq_self_eq_true, bne_self_eq_false, decide_true, decide_false, Bool.not_true, Bool.not_false, put_none, len_slice, len_nil, rest_mk, ThenC_normal, ThenC_exit, ThenC_ret, CondC_false, CondC_both, extract_0, extract_1, extract_2, step_callM, callMV_iface, meth_self, meth_deref, find_cons, bif_true, bif_false, step_mkIface, step_mkMap, step_assertT, assert_same, assert_same_ok, step_lookup, step_mapUpd, step_del, step_idxArr, step_idxAddrArr, items_nil, items_next, restI_mk, wpc_draw, step_box, step_eqAgg, d]
  exact ⟨trivial, trivial⟩
theorem res_cell {f : Fr} {h : AH} {t n : Nat} {r : List AResult} : resultsV f h (.cell t true n :: r) = (loadV h true n (f.at t)).bind fun v => (resultsV f h r).map (v :: ·) := by
  simp only [resultsV, AResult.val]
  generalize f.at t = p
  cases p <;> rfl
theorem store_all {h : AH} {o n : Nat} {l l' : List AV} (hg : h.get o = some (.cells l true)) (h1 : l.length = n) (h2 : l'.length = n) (hf : l'.all AV.flat = true) : storeV h n (.ptr o 0) (.agg l') = some (h.set o (.cells l' true)) := by
  have hm : setMany l 0 l' = l' := by
    obtain ⟨s1, s2⟩ := setMany_get l l' 0
    obtain ⟨_, s4, _⟩ := s2 (by omega)
    apply List.ext_getElem?
    intro i
    by_cases hi : i < l'.length
    · have := s4 i _ (List.getElem?_eq_getElem hi)
      rw [Nat.zero_add] at this
      rw [this, List.getElem?_eq_getElem hi]
    · rw [List.getElem?_eq_none (by omega), List.getElem?_eq_none (by omega)]
  show (if l'.length = n then h.store o 0 l' else none) = _
  rw [if_pos h2]
  simp only [AH.store, hg]
  rw [if_pos ⟨by omega, hf⟩, hm]
def izs (l : List Int) : List AV := l.map (.int .i64)
theorem izs_flat (l : List Int) : (izs l).all AV.flat = true := by
  simp only [izs, List.all_eq_true, List.mem_map]
  rintro x ⟨n, _, rfl⟩; rfl
theorem counts_ok (k : Fits T) (hl : Low h) {l : List Int} (h5 : l.length = 5) : Gives T 19 [.agg (izs l)] h fun r h' => ∃ ns : List Nat, r = .agg (ints ns) ∧ ns.length = 5 ∧ (∀ n ∈ ns, n ≤ 5) ∧ Only h h' [] ∧ Low h' := by
  refine gives_func (k.env _ (by decide)) (k.at (fn := a19) rfl) rfl ?_
  have hz : (izs l).length = 5 := by simp [izs, h5]
  simp only [a19, c19, wpc_first, wpc_ops, wpc_skip, wpc_exit, wpc_ret, wpc_block, wpc_test, ops_next, ops_nil, ops_test, step_mov, step_bin, step_un, step_pick, step_eqB, step_eqNil, step_toInt, step_lenStr, step_lenSlice, step_extract, step_fieldAddr, step_field, step_nilChk, step_idxAddr, step_idxStr, step_load, step_store, step_slc, step_slcStr, step_mkSlice, step_toStr, step_append, step_copy, step_buildSlice, step_build, step_new, step_call, Option.bind_some, Option.map_some, AOpd.val, Fr.at_put, at_ofArgs, Wo_some, Then_normal, Then_exit, Then_ret, InBlock_normal, InBlock_ret, InBlock_exit, Ends_ret, Ends_normal, res_nil, res_tmp, tuple_one, tuple_two, some_one, CondC_true, bin_add, bin_sub, bin_mul, bin_eql, bin_neq, bin_lss, bin_leq, bin_gtr, bin_geq, bin_str_eql, bin_str_neq, un_not, toInt_int, lenStr_str, pick_bool, List.getElem?_cons_zero, List.getElem?_cons_succ, Option.getD_some, Option.getD_none, List.map_cons, List.map_nil, Option.map_none, List.length_map, Nat.reduceEqDiff, if_true, if_false, reduceCtorEq, Nat.reduceAdd, Nat.reduceBEq, guardB_tt, guardB_ff, guardB_tf, guardB_ft, guardB_none, pick_t, pick_f, beq_self_eq_true, bne_self_eq_false, decide_true, decide_false, Bool.not_true, Bool.not_false, put_none, len_slice, len_nil, rest_mk, ThenC_normal, ThenC_exit, ThenC_ret, CondC_false, CondC_both, extract_0, extract_1, extract_2, step_callM, callMV_iface, meth_self, meth_deref, find_cons, bif_true, bif_false, step_mkIface, step_mkMap, step_assertT, assert_same, assert_same_ok, step_lookup, step_mapUpd, step_del, step_idxArr, step_idxAddrArr, items_nil, items_next, restI_mk, wpc_draw, step_box, step_eqAgg, box_agg, next_new]
  refine wpc_loop (fun m f h' => ∃ i z, m = 5 - i ∧ i ≤ 5 ∧ Only h h' [] ∧ Low h' ∧ z.length = 5 ∧ h'.get h.next = some (.cells (izs z) true) ∧ (∀ (j : Nat) (x : Int), j < i → z[j]? = some x → 0 ≤ x ∧ x ≤ 5) ∧ (∃ old, h'.get (h.next + 1) = some (.cells old true) ∧ old.length = 5) ∧ f.at 1 = .ptr h.next 0 ∧ f.at 2 = .ptr (h.next + 1) 0 ∧ f.at 4 = .int .i64 (i : Nat)) ?_ 5 _ _
    ⟨0, l, rfl, by omega, ((Only.refl h []).new _).new _, (hl.new _).new _, h5, ?_, fun j x hj => absurd hj (by omega), ⟨[.int .i64 0, .int .i64 0, .int .i64 0, .int .i64 0, .int .i64 0], ?_, rfl⟩, ?_⟩
  · rintro m f h' ⟨i, z, rfl, hi, on, lo, hz5, hg, hpre, ⟨old, hg2, ho5⟩, f1, f2, f4⟩
    simp only [c19l0, wpc_first, wpc_ops, wpc_skip, wpc_exit, wpc_ret, wpc_block, wpc_test, ops_next, ops_nil, ops_test, step_mov, step_bin, step_un, step_pick, step_eqB, step_eqNil, step_toInt, step_lenStr, step_lenSlice, step_extract, step_fieldAddr, step_field, step_nilChk, step_idxAddr, step_idxStr, step_load, step_store, step_slc, step_slcStr, step_mkSlice, step_toStr, step_append, step_copy, step_buildSlice, step_build, step_new, step_call, Option.bind_some, Option.map_some, AOpd.val, Fr.at_put, at_ofArgs, Wo_some, Then_normal, Then_exit, Then_ret, InBlock_normal, InBlock_ret, InBlock_exit, Ends_ret, Ends_normal, res_nil, res_tmp, tuple_one, tuple_two, some_one, CondC_true, bin_add, bin_sub, bin_mul, bin_eql, bin_neq, bin_lss, bin_leq, bin_gtr, bin_geq, bin_str_eql, bin_str_neq, un_not, toInt_int, lenStr_str, pick_bool, List.getElem?_cons_zero, List.getElem?_cons_succ, Option.getD_some, Option.getD_none, List.map_cons, List.map_nil, Option.map_none, List.length_map, Nat.reduceEqDiff, if_true, if_false, reduceCtorEq, Nat.reduceAdd, Nat.reduceBEq, guardB_tt, guardB_ff, guardB_tf, guardB_ft, guardB_none, pick_t, pick_f, beq_self_eq_true, bne_self_eq_false, decide_true, decide_false, Bool.not_true, Bool.not_false, put_none, len_slice, len_nil, rest_mk, ThenC_normal, ThenC_exit, ThenC_ret, CondC_false, CondC_both, extract_0, extract_1, extract_2, step_callM, callMV_iface, meth_self, meth_deref, find_cons, bif_true, bif_false, step_mkIface, step_mkMap, step_assertT, assert_same, assert_same_ok, step_lookup, step_mapUpd, step_del, step_idxArr, step_idxAddrArr, items_nil, items_next, restI_mk, wpc_draw, step_box, step_eqAgg, f1, f2, f4]
    by_cases hlt : i < 5
    · have hd : decide ((i : Int) < 5) = true := by rw [decide_eq_true_eq]; omega
      obtain ⟨x, hx⟩ : ∃ x, z[i]? = some x := ⟨_, List.getElem?_eq_getElem (by omega)⟩
      have hld : loadV h' false 1 (.ptr h.next i) = some (.int .i64 x) := load_at hg (by simp [izs, hx])
      simp only [hd, wpc_first, wpc_ops, wpc_skip, wpc_exit, wpc_ret, wpc_block, wpc_test, ops_next, ops_nil, ops_test, step_mov, step_bin, step_un, step_pick, step_eqB, step_eqNil, step_toInt, step_lenStr, step_lenSlice, step_extract, step_fieldAddr, step_field, step_nilChk, step_idxAddr, step_idxStr, step_load, step_store, step_slc, step_slcStr, step_mkSlice, step_toStr, step_append, step_copy, step_buildSlice, step_build, step_new, step_call, Option.bind_some, Option.map_some, AOpd.val, Fr.at_put, at_ofArgs, Wo_some, Then_normal, Then_exit, Then_ret, InBlock_normal, InBlock_ret, InBlock_exit, Ends_ret, Ends_normal, res_nil, res_tmp, tuple_one, tuple_two, some_one, CondC_true, bin_add, bin_sub, bin_mul, bin_eql, bin_neq, bin_lss, bin_leq, bin_gtr, bin_geq, bin_str_eql, bin_str_neq, un_not, toInt_int, lenStr_str, pick_bool, List.getElem?_cons_zero, List.getElem?_cons_succ, Option.getD_some, Option.getD_none, List.map_cons, List.map_nil, Option.map_none, List.length_map, Nat.reduceEqDiff, if_true, if_false, reduceCtorEq, Nat.reduceAdd, Nat.reduceBEq, guardB_tt, guardB_ff, guardB_tf, guardB_ft, guardB_none, pick_t, pick_f, beq_self_eq_true, bne_self_eq_false, decide_true, decide_false, Bool.not_true, Bool.not_false, put_none, len_slice, len_nil, rest_mk, ThenC_normal, ThenC_exit, ThenC_ret, CondC_false, CondC_both, extract_0, extract_1, extract_2, step_callM, callMV_iface, meth_self, meth_deref, find_cons, bif_true, bif_false, step_mkIface, step_mkMap, step_assertT, assert_same, assert_same_ok, step_lookup, step_mapUpd, step_del, step_idxArr, step_idxAddrArr, items_nil, items_next, restI_mk, wpc_draw, step_box, step_eqAgg, f1, f2, f4, idxRow_nat hlt, Nat.zero_add, hld]
      refine Gives.bind ((within_ok (g := 14) (k.env _ (by decide)) (k.at rfl) (show (0 : Int) ≤ 5 by decide) (by decide) (by decide)).mono ?_)
      rintro _ _ ⟨y, rfl, hy1, hy2, rfl⟩
      rename_i h'
      have w2 : IntKind.i64.wrap ((i : Int) + 1) = ((i + 1 : Nat) : Int) := by rw [wrap_i64 (by omega) (by omega)]; rfl
      simp only [wpc_first, wpc_ops, wpc_skip, wpc_exit, wpc_ret, wpc_block, wpc_test, ops_next, ops_nil, ops_test, step_mov, step_bin, step_un, step_pick, step_eqB, step_eqNil, step_toInt, step_lenStr, step_lenSlice, step_extract, step_fieldAddr, step_field, step_nilChk, step_idxAddr, step_idxStr, step_load, step_store, step_slc, step_slcStr, step_mkSlice, step_toStr, step_append, step_copy, step_buildSlice, step_build, step_new, step_call, Option.bind_some, Option.map_some, AOpd.val, Fr.at_put, at_ofArgs, Wo_some, Then_normal, Then_exit, Then_ret, InBlock_normal, InBlock_ret, InBlock_exit, Ends_ret, Ends_normal, res_nil, res_tmp, tuple_one, tuple_two, some_one, CondC_true, bin_add, bin_sub, bin_mul, bin_eql, bin_neq, bin_lss, bin_leq, bin_gtr, bin_geq, bin_str_eql, bin_str_neq, un_not, toInt_int, lenStr_str, pick_bool, List.getElem?_cons_zero, List.getElem?_cons_succ, Option.getD_some, Option.getD_none, List.map_cons, List.map_nil, Option.map_none, List.length_map, Nat.reduceEqDiff, if_true, if_false, reduceCtorEq, Nat.reduceAdd, Nat.reduceBEq, guardB_tt, guardB_ff, guardB_tf, guardB_ft, guardB_none, pick_t, pick_f, beq_self_eq_true, bne_self_eq_false, decide_true, decide_false, Bool.not_true, Bool.not_false, put_none, len_slice, len_nil, rest_mk, ThenC_normal, ThenC_exit, ThenC_ret, CondC_false, CondC_both, extract_0, extract_1, extract_2, step_callM, callMV_iface, meth_self, meth_deref, find_cons, bif_true, bif_false, step_mkIface, step_mkMap, step_assertT, assert_same, assert_same_ok, step_lookup, step_mapUpd, step_del, step_idxArr, step_idxAddrArr, items_nil, items_next, restI_mk, wpc_draw, step_box, step_eqAgg, f1, f2, f4, idxRow_nat hlt, Nat.zero_add, store_int hg (show i < (izs z).length by simp [izs]; omega), w2]
      refine ⟨5 - (i + 1), by omega, i + 1, z.set i y, rfl, by omega, on.set (.inr (Nat.le_refl _)) _, lo.set (lo _ _ hg) _, by simpa using hz5, by rw [get_set_same]; simp [izs, List.map_set], ?_, ⟨old, by rw [AH.get_set, if_neg (by omega)]; exact hg2, ho5⟩, trivial, trivial, rfl⟩
      intro j w hj hw
      rw [List.getElem?_set] at hw
      by_cases e : i = j
      · subst e
        rw [if_pos rfl, if_pos (by omega)] at hw
        cases hw; exact ⟨hy1, hy2⟩
      · rw [if_neg e] at hw
        exact hpre j w (by omega) hw
    · have hd : decide ((i : Int) < 5) = false := by rw [decide_eq_false_iff_not]; omega
      have : i = 5 := by omega
      subst this
      have hl5 : (izs z).length = 5 := by simp [izs, hz5]
      simp only [hd, wpc_first, wpc_ops, wpc_skip, wpc_exit, wpc_ret, wpc_block, wpc_test, ops_next, ops_nil, ops_test, step_mov, step_bin, step_un, step_pick, step_eqB, step_eqNil, step_toInt, step_lenStr, step_lenSlice, step_extract, step_fieldAddr, step_field, step_nilChk, step_idxAddr, step_idxStr, step_load, step_store, step_slc, step_slcStr, step_mkSlice, step_toStr, step_append, step_copy, step_buildSlice, step_build, step_new, step_call, Option.bind_some, Option.map_some, AOpd.val, Fr.at_put, at_ofArgs, Wo_some, Then_normal, Then_exit, Then_ret, InBlock_normal, InBlock_ret, InBlock_exit, Ends_ret, Ends_normal, res_nil, res_tmp, tuple_one, tuple_two, some_one, CondC_true, bin_add, bin_sub, bin_mul, bin_eql, bin_neq, bin_lss, bin_leq, bin_gtr, bin_geq, bin_str_eql, bin_str_neq, un_not, toInt_int, lenStr_str, pick_bool, List.getElem?_cons_zero, List.getElem?_cons_succ, Option.getD_some, Option.getD_none, List.map_cons, List.map_nil, Option.map_none, List.length_map, Nat.reduceEqDiff, if_true, if_false, reduceCtorEq, Nat.reduceAdd, Nat.reduceBEq, guardB_tt, guardB_ff, guardB_tf, guardB_ft, guardB_none, pick_t, pick_f, beq_self_eq_true, bne_self_eq_false, decide_true, decide_false, Bool.not_true, Bool.not_false, put_none, len_slice, len_nil, rest_mk, ThenC_normal, ThenC_exit, ThenC_ret, CondC_false, CondC_both, extract_0, extract_1, extract_2, step_callM, callMV_iface, meth_self, meth_deref, find_cons, bif_true, bif_false, step_mkIface, step_mkMap, step_assertT, assert_same, assert_same_ok, step_lookup, step_mapUpd, step_del, step_idxArr, step_idxAddrArr, items_nil, items_next, restI_mk, wpc_draw, step_box, step_eqAgg, f1, f2, load_all hg hl5, store_all hg2 ho5 hl5 (izs_flat z)]
      have hfin : resultsV (((f.put (some 5) (.bool false)).put (some 14) (.agg (izs z)))) (h'.set (h.next + 1) (.cells (izs z) true)) [.cell 2 true 5] = some [.agg (izs z)] := by
        rw [res_cell]
        simp only [wpc_first, wpc_ops, wpc_skip, wpc_exit, wpc_ret, wpc_block, wpc_test, ops_next, ops_nil, ops_test, step_mov, step_bin, step_un, step_pick, step_eqB, step_eqNil, step_toInt, step_lenStr, step_lenSlice, step_extract, step_fieldAddr, step_field, step_nilChk, step_idxAddr, step_idxStr, step_load, step_store, step_slc, step_slcStr, step_mkSlice, step_toStr, step_append, step_copy, step_buildSlice, step_build, step_new, step_call, Option.bind_some, Option.map_some, AOpd.val, Fr.at_put, at_ofArgs, Wo_some, Then_normal, Then_exit, Then_ret, InBlock_normal, InBlock_ret, InBlock_exit, Ends_ret, Ends_normal, res_nil, res_tmp, tuple_one, tuple_two, some_one, CondC_true, bin_add, bin_sub, bin_mul, bin_eql, bin_neq, bin_lss, bin_leq, bin_gtr, bin_geq, bin_str_eql, bin_str_neq, un_not, toInt_int, lenStr_str, pick_bool, List.getElem?_cons_zero, List.getElem?_cons_succ, Option.getD_some, Option.getD_none, List.map_cons, List.map_nil, Option.map_none, List.length_map, Nat.reduceEqDiff, if_true, if_false, reduceCtorEq, Nat.reduceAdd, Nat.reduceBEq, guardB_tt, guardB_ff, guardB_tf, guardB_ft, guardB_none, pick_t, pick_f, beq_self_eq_true, bne_self_eq_false, decide_true, decide_false, Bool.not_true, Bool.not_false, put_none, len_slice, len_nil, rest_mk, ThenC_normal, ThenC_exit, ThenC_ret, CondC_false, CondC_both, extract_0, extract_1, extract_2, step_callM, callMV_iface, meth_self, meth_deref, find_cons, bif_true, bif_false, step_mkIface, step_mkMap, step_assertT, assert_same, assert_same_ok, step_lookup, step_mapUpd, step_del, step_idxArr, step_idxAddrArr, items_nil, items_next, restI_mk, wpc_draw, step_box, step_eqAgg, f2, load_all get_set_same hl5]
      refine ⟨_, hfin, z.map Int.toNat, ?_, by simpa using hz5, ?_, on.set (.inr (by omega)) _, lo.set (lo _ _ hg2) _⟩
      · show AV.agg (izs z) = _
        congr 1
        apply List.ext_getElem?
        intro j
        simp only [izs, ints, List.getElem?_map]
        cases hj : z[j]? with
        | none => rfl
        | some w =>
          have hj5 : j < 5 := by have := (List.getElem?_eq_some_iff.1 hj).1; omega
          have := hpre j w hj5 hj
          simp only [Option.map_some]
          rw [Int.toNat_of_nonneg this.1]
      · intro n hn
        obtain ⟨j, hj⟩ := List.getElem?_of_mem hn
        simp only [List.getElem?_map, Option.map_eq_some_iff] at hj
        obtain ⟨w, hw, rfl⟩ := hj
        have hj5 : j < 5 := by have := (List.getElem?_eq_some_iff.1 hw).1; omega
        have := hpre j w hj5 hw
        omega
  · rw [AH.get_new, if_neg (by rw [next_new]; omega), get_new_same]
  · have := get_new_same (h := h.new (.cells (izs l) true)) (x := .cells [.int .i64 0, .int .i64 0, .int .i64 0, .int .i64 0, .int .i64 0] true)
    rw [next_new] at this; exact this
  · simp only [wpc_first, wpc_ops, wpc_skip, wpc_exit, wpc_ret, wpc_block, wpc_test, ops_next, ops_nil, ops_test, step_mov, step_bin, step_un, step_pick, step_eqB, step_eqNil, step_toInt, step_lenStr, step_lenSlice, step_extract, step_fieldAddr, step_field, step_nilChk, step_idxAddr, step_idxStr, step_load, step_store, step_slc, step_slcStr, step_mkSlice, step_toStr, step_append, step_copy, step_buildSlice, step_build, step_new, step_call, Option.bind_some, Option.map_some, AOpd.val, Fr.at_put, at_ofArgs, Wo_some, Then_normal, Then_exit, Then_ret, InBlock_normal, InBlock_ret, InBlock_exit, Ends_ret, Ends_normal, res_nil, res_tmp, tuple_one, tuple_two, some_one, CondC_true, bin_add, bin_sub, bin_mul, bin_eql, bin_neq, bin_lss, bin_leq, bin_gtr, bin_geq, bin_str_eql, bin_str_neq, un_not, toInt_int, lenStr_str, pick_bool, List.getElem?_cons_zero, List.getElem?_cons_succ, Option.getD_some, Option.getD_none, List.map_cons, List.map_nil, Option.map_none, List.length_map, Nat.reduceEqDiff, if_true, if_false, reduceCtorEq, Nat.reduceAdd, Nat.reduceBEq, guardB_tt, guardB_ff, guardB_tf, guardB_ft, guardB_none, pick_t, pick_f, beq_self_eq_true, bne_self_eq_false, decide_true, decide_false, Bool.not_true, Bool.not_false, put_none, len_slice, len_nil, rest_mk, ThenC_normal, ThenC_exit, ThenC_ret, CondC_false, CondC_both, extract_0, extract_1, extract_2, step_callM, callMV_iface, meth_self, meth_deref, find_cons, bif_true, bif_false, step_mkIface, step_mkMap, step_assertT, assert_same, assert_same_ok, step_lookup, step_mapUpd, step_del, step_idxArr, step_idxAddrArr, items_nil, items_next, restI_mk, wpc_draw, step_box, step_eqAgg]
    exact ⟨trivial, trivial, rfl⟩
end Go.Proofs.Ytejjkienklaghaa

/- The law ArenaFills on the machine. -/
import Derived.Test.YtejjkienklaghaaP4U
namespace Go.Proofs.Ytejjkienklaghaa
open Go.Vm
set_option linter.unusedSimpArgs false
set_option linter.unusedVariables false
variable {T : Vm.Prog} {h : AH}
theorem u64_nonneg (x : Int) : 0 ≤ IntKind.u64.wrap x := by
  unfold IntKind.wrap
  simp only [IntKind.bits, IntKind.signed, Bool.false_and, Bool.false_eq_true, if_false]
  exact Int.emod_nonneg _ (by decide)
def wv (v : Int) (j : Nat) : Nat := (IntKind.u64.wrap (v + (j : Int))).toNat
theorem wv_cast (v : Int) (j : Nat) : ((wv v j : Nat) : Int) = IntKind.u64.wrap (v + (j : Int)) := Int.toNat_of_nonneg (u64_nonneg _)
def wvs (v : Int) (k : Nat) : List Nat := (List.range k).map (wv v)
theorem wvs_len (v : Int) (k : Nat) : (wvs v k).length = k := by simp [wvs]
theorem one_sum {c : Nat} (hc : c < 5) : ([0, 0, 0, 0, 0].set c 1 : List Nat).length = 5 ∧ ([0, 0, 0, 0, 0].set c 1 : List Nat).sum = 1 ∧ ([0, 0, 0, 0, 0].set c 1 : List Nat)[c]? = some 1 := by
  have : c = 0 ∨ c = 1 ∨ c = 2 ∨ c = 3 ∨ c = 4 := by omega
  rcases this with rfl | rfl | rfl | rfl | rfl <;> decide
theorem sees_copy {v : AV} {ws : List Nat} (w : Copy h v ws) : Sees h v ((ws.map fun n : Nat => (n : Int)).map (.int .u64)) := by
  obtain ⟨o, rfl, hg⟩ := w
  refine .inr ⟨o, 0, ws.length, false, wcells ws, true, by simp, hg, by simp [wcells], fun i x hx => ?_⟩
  rw [Nat.zero_add]
  simpa [wcells] using hx
theorem Copy.keep {h' : AH} {v : AV} {ws : List Nat} (w : Copy h v ws) (hk : ∀ o ∈ objs v, h'.get o = h.get o) : Copy h' v ws := by
  obtain ⟨o, rfl, hg⟩ := w
  exact ⟨o, rfl, (hk o (by simp [objs])).trans hg⟩
theorem Copy.low {v : AV} {ws : List Nat} (w : Copy h v ws) (hl : Low h) : ∀ o ∈ objs v, o < h.next := by
  obtain ⟨o, rfl, hg⟩ := w
  intro p hp
  simp [objs] at hp; subst hp
  exact hl _ _ hg
theorem copy_idx {v : AV} {ws : List Nat} (w : Copy h v ws) {i x : Nat} (hx : ws[i]? = some x) : ∃ p, idxAddrV 1 v (.int .i64 (i : Int)) = some p ∧ loadV h false 1 p = some (.int .u64 (x : Int)) := by
  obtain ⟨o, rfl, hg⟩ := w
  have hi := (List.getElem?_eq_some_iff.1 hx).1
  refine ⟨.ptr o (0 + i), idx_nat hi, ?_⟩
  rw [Nat.zero_add]
  exact load_at hg (by simp [wcells, hx])
theorem copy_len {v : AV} {ws : List Nat} (w : Copy h v ws) : lenOfV v = some ws.length := by
  obtain ⟨o, rfl, hg⟩ := w; rfl
theorem pad_get {ws : List Nat} {n i : Nat} (hw : ws.length ≤ n) (hi : i < n) : (padW ws n)[i]? = some (if i < ws.length then (ws[i]?).getD 0 else 0) := by
  unfold padW
  by_cases h1 : i < ws.length
  · rw [List.getElem?_append_left h1, if_pos h1, List.getElem?_eq_getElem h1]; rfl
  · rw [List.getElem?_append_right (by omega), if_neg h1, List.getElem?_replicate, if_pos (by omega)]
def c8b : ACode := match c8 with
  | .seq _ (.seq _ (.seq _ (.seq _ (.seq _ (.seq _ (.seq _ (.seq _ (.seq _ (.seq _ (.seq _ r)))))))))) => r
  | c => c
def c8c : ACode := match c8b with
  | .seq _ (.seq _ (.seq _ (.seq _ r))) => r
  | c => c
/-- The end of the law: more is refused. -/
theorem fills_end (k : Fits T) {c : Nat} (hc5 : c < 5) {a n : Nat} {sv : AV} {S : List Slot} {Q : List PR} {q : PR} {x : Slot} {lv : AV} (A : Arena h a sv S Q) (hl : Low h) (hQ : Q.length = 5) (hS : S.length = 1) (hsum : sumL Q = 0) (hq : Q[c]? = some q) (hq0 : q.L.length = 0) (hx : S[n]? = some x) (hcls : x.cls = c) (hlive : x.live = true) (hv : Valid n x.gen)
    (hcp : Copy h lv x.ws) {f : Fr} (f7 : f.at 7 = .int .i64 (c : Nat)) (f9 : f.at 9 = .ptr a 0) (f11 : f.at 11 = .int .i64 (sizeN c : Nat)) (f15 : f.at 15 = .int .i64 (refN n x.gen (c == 0) : Nat)) (f17 : f.at 17 = lv) :
    Wp (code T c8c f h) (Vm.Ends [.tmp 6] fun r _ => r = .bool true) := by
  have hN := sizeN_le c
  have hk := A.kinds x (List.mem_of_getElem? hx)
  have hw8 := A.wlen hx
  have hgood : OfIs S ((refN n x.gen (c == 0) : Nat) : Int) (.ok n) := .good n x hv (by rw [hcls]) hx hlive
  have w1 : IntKind.i64.wrap (((sizeN c : Nat) : Int) + 1) = ((sizeN c + 1 : Nat) : Int) := by rw [wrap_i64 (by omega) (by omega)]; rfl
  obtain ⟨w0, hw0⟩ : ∃ w0, x.ws[0]? = some w0 := ⟨_, List.getElem?_eq_getElem (by omega)⟩
  obtain ⟨p0, hp0, hl0⟩ := copy_idx hcp hw0
  have hp0' : idxAddrV 1 lv (.int .i64 0) = some p0 := hp0
  have hlow := hcp.low hl
  simp only [c8c, c8b, c8, wpc_first, wpc_ops, wpc_skip, wpc_exit, wpc_ret, wpc_block, wpc_test, ops_next, ops_nil, ops_test, step_mov, step_bin, step_un, step_pick, step_eqB, step_eqNil, step_toInt, step_lenStr, step_lenSlice, step_extract, step_fieldAddr, step_field, step_nilChk, step_idxAddr, step_idxStr, step_load, step_store, step_slc, step_slcStr, step_mkSlice, step_toStr, step_append, step_copy, step_buildSlice, step_build, step_new, step_call, Option.bind_some, Option.map_some, AOpd.val, Fr.at_put, at_ofArgs, Wo_some, Then_normal, Then_exit, Then_ret, InBlock_normal, InBlock_ret, InBlock_exit, Ends_ret, Ends_normal, res_nil, res_tmp, tuple_one, tuple_two, some_one, CondC_true, bin_add, bin_sub, bin_mul, bin_eql, bin_neq, bin_lss, bin_leq, bin_gtr, bin_geq, bin_str_eql, bin_str_neq, un_not, toInt_int, lenStr_str, pick_bool, List.getElem?_cons_zero, List.getElem?_cons_succ, Option.getD_some, Option.getD_none, List.map_cons, List.map_nil, Option.map_none, List.length_map, Nat.reduceEqDiff, if_true, if_false, reduceCtorEq, Nat.reduceAdd, Nat.reduceBEq, guardB_tt, guardB_ff, guardB_tf, guardB_ft, guardB_none, pick_t, pick_f, beq_self_eq_true, bne_self_eq_false, decide_true, decide_false, Bool.not_true, Bool.not_false, put_none, len_slice, len_nil, rest_mk, ThenC_normal, ThenC_exit, ThenC_ret, CondC_false, CondC_both, extract_0, extract_1, extract_2, step_callM, callMV_iface, meth_self, meth_deref, find_cons, bif_true, bif_false, step_mkIface, step_mkMap, step_assertT, assert_same, assert_same_ok, step_lookup, step_mapUpd, step_del, step_idxArr, step_idxAddrArr, items_nil, items_next, restI_mk, wpc_draw, step_box, step_eqAgg, f7, f9, f11, f15, f17, w1, mkSlice_nat (h := h) (sz := 1) (bytes := 8) (zero := [.int .u64 0]) (k := .i64) (k' := .i64) (Nat.le_refl (sizeN c + 1)) (by omega) (by omega), rep_one]
  have on1 : Only h (h.new (.cells (List.replicate (sizeN c + 1) (AV.int .u64 0)) true)) [] := (Only.refl h []).new _
  have lo1 := hl.new (.cells (List.replicate (sizeN c + 1) (AV.int .u64 0)) true)
  have A1 := A.grow hl on1
  have hcp1 := hcp.keep fun o ho => on1.2 o (hlow o ho) (by simp)
  have hl1 : loadV (h.new (.cells (List.replicate (sizeN c + 1) (AV.int .u64 0)) true)) false 1 p0 = some (.int .u64 (w0 : Int)) := by
    obtain ⟨p', h1, h2⟩ := copy_idx hcp1 hw0
    have : p' = p0 := by have := h1.symm.trans hp0; cases this; rfl
    subst this; exact h2
  have sr : Src (h.new (.cells (List.replicate (sizeN c + 1) (AV.int .u64 0)) true)) (.slice h.next 0 1 (sizeN c + 1) (sizeN c + 1) true) (List.replicate (sizeN c + 1) 0) := by
    refine .inr ⟨h.next, 0, sizeN c + 1, true, _, true, by simp, get_new_same, by simp, ?_⟩
    rw [List.drop_zero, List.take_of_length_le (by simp)]; simp [wcells]
  obtain ⟨l1, l2, l3, l4⟩ := A.low hl
  have hne : ∀ o ∈ objs (AV.slice h.next 0 1 (sizeN c + 1) (sizeN c + 1) true), o ∉ objs sv := by
    intro o ho e
    simp [objs] at ho; subst ho
    have := l2 _ e; omega
  have hlt : ∀ o ∈ objs (AV.slice h.next 0 1 (sizeN c + 1) (sizeN c + 1) true), o < (h.new (.cells (List.replicate (sizeN c + 1) (AV.int .u64 0)) true)).next := by
    intro o ho
    simp [objs] at ho; subst ho
    rw [next_new]; omega
  generalize (h.new (.cells (List.replicate (sizeN c + 1) (AV.int .u64 0)) true)) = h1 at on1 lo1 A1 hcp1 hl1 sr hlt
  simp only [hp0', hl1, wpc_first, wpc_ops, wpc_skip, wpc_exit, wpc_ret, wpc_block, wpc_test, ops_next, ops_nil, ops_test, step_mov, step_bin, step_un, step_pick, step_eqB, step_eqNil, step_toInt, step_lenStr, step_lenSlice, step_extract, step_fieldAddr, step_field, step_nilChk, step_idxAddr, step_idxStr, step_load, step_store, step_slc, step_slcStr, step_mkSlice, step_toStr, step_append, step_copy, step_buildSlice, step_build, step_new, step_call, Option.bind_some, Option.map_some, AOpd.val, Fr.at_put, at_ofArgs, Wo_some, Then_normal, Then_exit, Then_ret, InBlock_normal, InBlock_ret, InBlock_exit, Ends_ret, Ends_normal, res_nil, res_tmp, tuple_one, tuple_two, some_one, CondC_true, bin_add, bin_sub, bin_mul, bin_eql, bin_neq, bin_lss, bin_leq, bin_gtr, bin_geq, bin_str_eql, bin_str_neq, un_not, toInt_int, lenStr_str, pick_bool, List.getElem?_cons_zero, List.getElem?_cons_succ, Option.getD_some, Option.getD_none, List.map_cons, List.map_nil, Option.map_none, List.length_map, Nat.reduceEqDiff, if_true, if_false, reduceCtorEq, Nat.reduceAdd, Nat.reduceBEq, guardB_tt, guardB_ff, guardB_tf, guardB_ft, guardB_none, pick_t, pick_f, beq_self_eq_true, bne_self_eq_false, decide_true, decide_false, Bool.not_true, Bool.not_false, put_none, len_slice, len_nil, rest_mk, ThenC_normal, ThenC_exit, ThenC_ret, CondC_false, CondC_both, extract_0, extract_1, extract_2, step_callM, callMV_iface, meth_self, meth_deref, find_cons, bif_true, bif_false, step_mkIface, step_mkMap, step_assertT, assert_same, assert_same_ok, step_lookup, step_mapUpd, step_del, step_idxArr, step_idxAddrArr, items_nil, items_next, restI_mk, wpc_draw, step_box, step_eqAgg]
  refine Gives.bind ((aswap_ok k A1 lo1 ((refN n x.gen (c == 0) : Nat) : Int) (was := (w0 : Int)) sr hne hlt (by simp; omega)).mono ?_)
  rintro _ _ (⟨e, he, _⟩ | ⟨n', x', hok, hx', hres⟩)
  · have := he.unique hgood; cases this
  have hn' := hok.unique hgood
  cases hn'
  rw [hx] at hx'; cases hx'
  rcases hres with ⟨_, rfl, rfl⟩ | ⟨hle, _⟩ | ⟨hle, _⟩
  rotate_left
  · rw [hcls] at hle; simp at hle; omega
  · rw [hcls] at hle; simp at hle; omega
  rename_i h1
  simp only [wpc_first, wpc_ops, wpc_skip, wpc_exit, wpc_ret, wpc_block, wpc_test, ops_next, ops_nil, ops_test, step_mov, step_bin, step_un, step_pick, step_eqB, step_eqNil, step_toInt, step_lenStr, step_lenSlice, step_extract, step_fieldAddr, step_field, step_nilChk, step_idxAddr, step_idxStr, step_load, step_store, step_slc, step_slcStr, step_mkSlice, step_toStr, step_append, step_copy, step_buildSlice, step_build, step_new, step_call, Option.bind_some, Option.map_some, AOpd.val, Fr.at_put, at_ofArgs, Wo_some, Then_normal, Then_exit, Then_ret, InBlock_normal, InBlock_ret, InBlock_exit, Ends_ret, Ends_normal, res_nil, res_tmp, tuple_one, tuple_two, some_one, CondC_true, bin_add, bin_sub, bin_mul, bin_eql, bin_neq, bin_lss, bin_leq, bin_gtr, bin_geq, bin_str_eql, bin_str_neq, un_not, toInt_int, lenStr_str, pick_bool, List.getElem?_cons_zero, List.getElem?_cons_succ, Option.getD_some, Option.getD_none, List.map_cons, List.map_nil, Option.map_none, List.length_map, Nat.reduceEqDiff, if_true, if_false, reduceCtorEq, Nat.reduceAdd, Nat.reduceBEq, guardB_tt, guardB_ff, guardB_tf, guardB_ft, guardB_none, pick_t, pick_f, beq_self_eq_true, bne_self_eq_false, decide_true, decide_false, Bool.not_true, Bool.not_false, put_none, len_slice, len_nil, rest_mk, ThenC_normal, ThenC_exit, ThenC_ret, CondC_false, CondC_both, extract_0, extract_1, extract_2, step_callM, callMV_iface, meth_self, meth_deref, find_cons, bif_true, bif_false, step_mkIface, step_mkMap, step_assertT, assert_same, assert_same_ok, step_lookup, step_mapUpd, step_del, step_idxArr, step_idxAddrArr, items_nil, items_next, restI_mk, wpc_draw, step_box, step_eqAgg, f7, f9, f11, f15, f17]
  refine Gives.bind ((aload_ok k A1 lo1 ((refN n x.gen (c == 0) : Nat) : Int)).mono ?_)
  rintro _ h2 (⟨e, he, _⟩ | ⟨n', x', mv, hok, hx', rfl, hcm, hfm, on2, lo2⟩)
  · have := he.unique hgood; cases this
  have hn' := hok.unique hgood
  cases hn'
  rw [hx] at hx'; cases hx'
  have A2 := A1.grow lo1 on2
  have hcp2 := hcp1.keep fun o ho => on2.2 o (hcp1.low lo1 o ho) (by simp)
  have sr2 := sr.keep (h' := h2) fun o ho => on2.2 o (hlt o ho) (by simp)
  simp only [wpc_first, wpc_ops, wpc_skip, wpc_exit, wpc_ret, wpc_block, wpc_test, ops_next, ops_nil, ops_test, step_mov, step_bin, step_un, step_pick, step_eqB, step_eqNil, step_toInt, step_lenStr, step_lenSlice, step_extract, step_fieldAddr, step_field, step_nilChk, step_idxAddr, step_idxStr, step_load, step_store, step_slc, step_slcStr, step_mkSlice, step_toStr, step_append, step_copy, step_buildSlice, step_build, step_new, step_call, Option.bind_some, Option.map_some, AOpd.val, Fr.at_put, at_ofArgs, Wo_some, Then_normal, Then_exit, Then_ret, InBlock_normal, InBlock_ret, InBlock_exit, Ends_ret, Ends_normal, res_nil, res_tmp, tuple_one, tuple_two, some_one, CondC_true, bin_add, bin_sub, bin_mul, bin_eql, bin_neq, bin_lss, bin_leq, bin_gtr, bin_geq, bin_str_eql, bin_str_neq, un_not, toInt_int, lenStr_str, pick_bool, List.getElem?_cons_zero, List.getElem?_cons_succ, Option.getD_some, Option.getD_none, List.map_cons, List.map_nil, Option.map_none, List.length_map, Nat.reduceEqDiff, if_true, if_false, reduceCtorEq, Nat.reduceAdd, Nat.reduceBEq, guardB_tt, guardB_ff, guardB_tf, guardB_ft, guardB_none, pick_t, pick_f, beq_self_eq_true, bne_self_eq_false, decide_true, decide_false, Bool.not_true, Bool.not_false, put_none, len_slice, len_nil, rest_mk, ThenC_normal, ThenC_exit, ThenC_ret, CondC_false, CondC_both, extract_0, extract_1, extract_2, step_callM, callMV_iface, meth_self, meth_deref, find_cons, bif_true, bif_false, step_mkIface, step_mkMap, step_assertT, assert_same, assert_same_ok, step_lookup, step_mapUpd, step_del, step_idxArr, step_idxAddrArr, items_nil, items_next, restI_mk, wpc_draw, step_box, step_eqAgg, f7, f9, f11, f15, f17]
  refine Gives.bind ((astore_ok k A2 lo2 ((refN n x.gen (c == 0) : Nat) : Int) sr2 hne (fun o ho => by have := hlt o ho; have := on2.1; omega) (by simp; omega)).mono ?_)
  rintro _ _ (⟨e, he, _⟩ | ⟨n', x', hok, hx', hres⟩)
  · have := he.unique hgood; cases this
  have hn' := hok.unique hgood
  cases hn'
  rw [hx] at hx'; cases hx'
  rcases hres with ⟨_, rfl, rfl⟩ | ⟨hle, _⟩
  rotate_left
  · rw [hcls] at hle; simp at hle; omega
  rename_i h2
  simp only [wpc_first, wpc_ops, wpc_skip, wpc_exit, wpc_ret, wpc_block, wpc_test, ops_next, ops_nil, ops_test, step_mov, step_bin, step_un, step_pick, step_eqB, step_eqNil, step_toInt, step_lenStr, step_lenSlice, step_extract, step_fieldAddr, step_field, step_nilChk, step_idxAddr, step_idxStr, step_load, step_store, step_slc, step_slcStr, step_mkSlice, step_toStr, step_append, step_copy, step_buildSlice, step_build, step_new, step_call, Option.bind_some, Option.map_some, AOpd.val, Fr.at_put, at_ofArgs, Wo_some, Then_normal, Then_exit, Then_ret, InBlock_normal, InBlock_ret, InBlock_exit, Ends_ret, Ends_normal, res_nil, res_tmp, tuple_one, tuple_two, some_one, CondC_true, bin_add, bin_sub, bin_mul, bin_eql, bin_neq, bin_lss, bin_leq, bin_gtr, bin_geq, bin_str_eql, bin_str_neq, un_not, toInt_int, lenStr_str, pick_bool, List.getElem?_cons_zero, List.getElem?_cons_succ, Option.getD_some, Option.getD_none, List.map_cons, List.map_nil, Option.map_none, List.length_map, Nat.reduceEqDiff, if_true, if_false, reduceCtorEq, Nat.reduceAdd, Nat.reduceBEq, guardB_tt, guardB_ff, guardB_tf, guardB_ft, guardB_none, pick_t, pick_f, beq_self_eq_true, bne_self_eq_false, decide_true, decide_false, Bool.not_true, Bool.not_false, put_none, len_slice, len_nil, rest_mk, ThenC_normal, ThenC_exit, ThenC_ret, CondC_false, CondC_both, extract_0, extract_1, extract_2, step_callM, callMV_iface, meth_self, meth_deref, find_cons, bif_true, bif_false, step_mkIface, step_mkMap, step_assertT, assert_same, assert_same_ok, step_lookup, step_mapUpd, step_del, step_idxArr, step_idxAddrArr, items_nil, items_next, restI_mk, wpc_draw, step_box, step_eqAgg, f7, f9, f11, f15, f17]
  have hsame := same_u64 (T := T) (k.env _ (by decide)) (k.at rfl) (sees_copy hcm) (sees_copy hcp2) (by simp; omega) (by simp; omega)
  refine Gives.bind (hsame.mono ?_)
  rintro _ _ ⟨rfl, rfl⟩
  rename_i h2
  simp only [wpc_first, wpc_ops, wpc_skip, wpc_exit, wpc_ret, wpc_block, wpc_test, ops_next, ops_nil, ops_test, step_mov, step_bin, step_un, step_pick, step_eqB, step_eqNil, step_toInt, step_lenStr, step_lenSlice, step_extract, step_fieldAddr, step_field, step_nilChk, step_idxAddr, step_idxStr, step_load, step_store, step_slc, step_slcStr, step_mkSlice, step_toStr, step_append, step_copy, step_buildSlice, step_build, step_new, step_call, Option.bind_some, Option.map_some, AOpd.val, Fr.at_put, at_ofArgs, Wo_some, Then_normal, Then_exit, Then_ret, InBlock_normal, InBlock_ret, InBlock_exit, Ends_ret, Ends_normal, res_nil, res_tmp, tuple_one, tuple_two, some_one, CondC_true, bin_add, bin_sub, bin_mul, bin_eql, bin_neq, bin_lss, bin_leq, bin_gtr, bin_geq, bin_str_eql, bin_str_neq, un_not, toInt_int, lenStr_str, pick_bool, List.getElem?_cons_zero, List.getElem?_cons_succ, Option.getD_some, Option.getD_none, List.map_cons, List.map_nil, Option.map_none, List.length_map, Nat.reduceEqDiff, if_true, if_false, reduceCtorEq, Nat.reduceAdd, Nat.reduceBEq, guardB_tt, guardB_ff, guardB_tf, guardB_ft, guardB_none, pick_t, pick_f, beq_self_eq_true, bne_self_eq_false, decide_true, decide_false, Bool.not_true, Bool.not_false, put_none, len_slice, len_nil, rest_mk, ThenC_normal, ThenC_exit, ThenC_ret, CondC_false, CondC_both, extract_0, extract_1, extract_2, step_callM, callMV_iface, meth_self, meth_deref, find_cons, bif_true, bif_false, step_mkIface, step_mkMap, step_assertT, assert_same, assert_same_ok, step_lookup, step_mapUpd, step_del, step_idxArr, step_idxAddrArr, items_nil, items_next, restI_mk, wpc_draw, step_box, step_eqAgg, f7, f9, f11, f15, f17]
  refine Gives.bind ((room_ok k A2 hq).mono ?_)
  rintro _ _ ⟨rfl, rfl⟩
  rename_i h2
  simp only [wpc_first, wpc_ops, wpc_skip, wpc_exit, wpc_ret, wpc_block, wpc_test, ops_next, ops_nil, ops_test, step_mov, step_bin, step_un, step_pick, step_eqB, step_eqNil, step_toInt, step_lenStr, step_lenSlice, step_extract, step_fieldAddr, step_field, step_nilChk, step_idxAddr, step_idxStr, step_load, step_store, step_slc, step_slcStr, step_mkSlice, step_toStr, step_append, step_copy, step_buildSlice, step_build, step_new, step_call, Option.bind_some, Option.map_some, AOpd.val, Fr.at_put, at_ofArgs, Wo_some, Then_normal, Then_exit, Then_ret, InBlock_normal, InBlock_ret, InBlock_exit, Ends_ret, Ends_normal, res_nil, res_tmp, tuple_one, tuple_two, some_one, CondC_true, bin_add, bin_sub, bin_mul, bin_eql, bin_neq, bin_lss, bin_leq, bin_gtr, bin_geq, bin_str_eql, bin_str_neq, un_not, toInt_int, lenStr_str, pick_bool, List.getElem?_cons_zero, List.getElem?_cons_succ, Option.getD_some, Option.getD_none, List.map_cons, List.map_nil, Option.map_none, List.length_map, Nat.reduceEqDiff, if_true, if_false, reduceCtorEq, Nat.reduceAdd, Nat.reduceBEq, guardB_tt, guardB_ff, guardB_tf, guardB_ft, guardB_none, pick_t, pick_f, beq_self_eq_true, bne_self_eq_false, decide_true, decide_false, Bool.not_true, Bool.not_false, put_none, len_slice, len_nil, rest_mk, ThenC_normal, ThenC_exit, ThenC_ret, CondC_false, CondC_both, extract_0, extract_1, extract_2, step_callM, callMV_iface, meth_self, meth_deref, find_cons, bif_true, bif_false, step_mkIface, step_mkMap, step_assertT, assert_same, assert_same_ok, step_lookup, step_mapUpd, step_del, step_idxArr, step_idxAddrArr, items_nil, items_next, restI_mk, wpc_draw, step_box, step_eqAgg, f7, f9, f11, f15, f17, hq0, show (((0 : Nat) : Int) == 0) = true from rfl]
  refine Gives.bind ((live_ok k A2 hQ).mono ?_)
  rintro _ _ ⟨rfl, rfl⟩
  rename_i h2
  have hlv : (((S.length : Nat) : Int) - ((sumL Q : Nat) : Int) == 1) = true := by rw [hS, hsum]; rfl
  simp only [wpc_first, wpc_ops, wpc_skip, wpc_exit, wpc_ret, wpc_block, wpc_test, ops_next, ops_nil, ops_test, step_mov, step_bin, step_un, step_pick, step_eqB, step_eqNil, step_toInt, step_lenStr, step_lenSlice, step_extract, step_fieldAddr, step_field, step_nilChk, step_idxAddr, step_idxStr, step_load, step_store, step_slc, step_slcStr, step_mkSlice, step_toStr, step_append, step_copy, step_buildSlice, step_build, step_new, step_call, Option.bind_some, Option.map_some, AOpd.val, Fr.at_put, at_ofArgs, Wo_some, Then_normal, Then_exit, Then_ret, InBlock_normal, InBlock_ret, InBlock_exit, Ends_ret, Ends_normal, res_nil, res_tmp, tuple_one, tuple_two, some_one, CondC_true, bin_add, bin_sub, bin_mul, bin_eql, bin_neq, bin_lss, bin_leq, bin_gtr, bin_geq, bin_str_eql, bin_str_neq, un_not, toInt_int, lenStr_str, pick_bool, List.getElem?_cons_zero, List.getElem?_cons_succ, Option.getD_some, Option.getD_none, List.map_cons, List.map_nil, Option.map_none, List.length_map, Nat.reduceEqDiff, if_true, if_false, reduceCtorEq, Nat.reduceAdd, Nat.reduceBEq, guardB_tt, guardB_ff, guardB_tf, guardB_ft, guardB_none, pick_t, pick_f, beq_self_eq_true, bne_self_eq_false, decide_true, decide_false, Bool.not_true, Bool.not_false, put_none, len_slice, len_nil, rest_mk, ThenC_normal, ThenC_exit, ThenC_ret, CondC_false, CondC_both, extract_0, extract_1, extract_2, step_callM, callMV_iface, meth_self, meth_deref, find_cons, bif_true, bif_false, step_mkIface, step_mkMap, step_assertT, assert_same, assert_same_ok, step_lookup, step_mapUpd, step_del, step_idxArr, step_idxAddrArr, items_nil, items_next, restI_mk, wpc_draw, step_box, step_eqAgg, hlv]
  refine Gives.bind ((k.yes _).mono ?_)
  rintro _ _ ⟨rfl, rfl⟩
  simp only [wpc_first, wpc_ops, wpc_skip, wpc_exit, wpc_ret, wpc_block, wpc_test, ops_next, ops_nil, ops_test, step_mov, step_bin, step_un, step_pick, step_eqB, step_eqNil, step_toInt, step_lenStr, step_lenSlice, step_extract, step_fieldAddr, step_field, step_nilChk, step_idxAddr, step_idxStr, step_load, step_store, step_slc, step_slcStr, step_mkSlice, step_toStr, step_append, step_copy, step_buildSlice, step_build, step_new, step_call, Option.bind_some, Option.map_some, AOpd.val, Fr.at_put, at_ofArgs, Wo_some, Then_normal, Then_exit, Then_ret, InBlock_normal, InBlock_ret, InBlock_exit, Ends_ret, Ends_normal, res_nil, res_tmp, tuple_one, tuple_two, some_one, CondC_true, bin_add, bin_sub, bin_mul, bin_eql, bin_neq, bin_lss, bin_leq, bin_gtr, bin_geq, bin_str_eql, bin_str_neq, un_not, toInt_int, lenStr_str, pick_bool, List.getElem?_cons_zero, List.getElem?_cons_succ, Option.getD_some, Option.getD_none, List.map_cons, List.map_nil, Option.map_none, List.length_map, Nat.reduceEqDiff, if_true, if_false, reduceCtorEq, Nat.reduceAdd, Nat.reduceBEq, guardB_tt, guardB_ff, guardB_tf, guardB_ft, guardB_none, pick_t, pick_f, beq_self_eq_true, bne_self_eq_false, decide_true, decide_false, Bool.not_true, Bool.not_false, put_none, len_slice, len_nil, rest_mk, ThenC_normal, ThenC_exit, ThenC_ret, CondC_false, CondC_both, extract_0, extract_1, extract_2, step_callM, callMV_iface, meth_self, meth_deref, find_cons, bif_true, bif_false, step_mkIface, step_mkMap, step_assertT, assert_same, assert_same_ok, step_lookup, step_mapUpd, step_del, step_idxArr, step_idxAddrArr, items_nil, items_next, restI_mk, wpc_draw, step_box, step_eqAgg]
end Go.Proofs.Ytejjkienklaghaa

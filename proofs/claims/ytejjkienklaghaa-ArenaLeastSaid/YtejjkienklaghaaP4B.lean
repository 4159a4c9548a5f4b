/- Arenas: words of slots: poison, fill, copies. -/
import Derived.Test.YtejjkienklaghaaP4A
namespace Go.Proofs.Ytejjkienklaghaa
open Go.Vm
set_option linter.unusedSimpArgs false
set_option linter.unusedVariables false
set_option maxRecDepth 100000
variable {T : Vm.Prog} {h : AH}
def poisonN : Nat := 16045690984833335023
def wcells (ws : List Nat) : List AV := ws.map fun (n : Nat) => .int .u64 (n : Int)
theorem wcells_len (ws : List Nat) : (wcells ws).length = ws.length := by simp [wcells]
theorem wcells_flat (ws : List Nat) : (wcells ws).all AV.flat = true := by
  simp only [wcells, List.all_eq_true, List.mem_map]
  rintro x ⟨n, _, rfl⟩; rfl
/-- Words in an object of their own. -/
def Words (h : AH) (v : AV) (ws : List Nat) : Prop := ∃ o, v = .slice o 0 1 ws.length ws.length true ∧ h.get o = some (.cells (wcells ws) true)
theorem mul8 (h : AH) : arunY table 3 100 50 [.int .u64 1, .int .u64 8] h = some (.tuple [.int .u64 0, .int .u64 8], h) := by kernel_rfl
theorem mul12 (h : AH) : arunY table 3 100 50 [.int .u64 1, .int .u64 12] h = some (.tuple [.int .u64 0, .int .u64 12], h) := by kernel_rfl
theorem mul24 (h : AH) : arunY table 3 100 50 [.int .u64 1, .int .u64 24] h = some (.tuple [.int .u64 0, .int .u64 24], h) := by kernel_rfl
theorem mul88 (h : AH) : arunY table 3 100 50 [.int .u64 1, .int .u64 88] h = some (.tuple [.int .u64 0, .int .u64 88], h) := by kernel_rfl
theorem mul264 (h : AH) : arunY table 3 100 50 [.int .u64 1, .int .u64 264] h = some (.tuple [.int .u64 0, .int .u64 264], h) := by kernel_rfl
theorem mul_ok (k : Fits T) {c : Nat} (hc : c < 5) : Gives T 50 [.int .u64 1, .int .u64 (sizeN c : Nat)] h fun r h' => r = .tuple [.int .u64 0, .int .u64 (sizeN c : Nat)] ∧ h' = h := by
  have : c = 0 ∨ c = 1 ∨ c = 2 ∨ c = 3 ∨ c = 4 := by omega
  rcases this with rfl | rfl | rfl | rfl | rfl
  · exact ⟨_, _, k.runs _ _ _ _ _ (mul8 h), rfl, rfl⟩
  · exact ⟨_, _, k.runs _ _ _ _ _ (mul12 h), rfl, rfl⟩
  · exact ⟨_, _, k.runs _ _ _ _ _ (mul24 h), rfl, rfl⟩
  · exact ⟨_, _, k.runs _ _ _ _ _ (mul88 h), rfl, rfl⟩
  · exact ⟨_, _, k.runs _ _ _ _ _ (mul264 h), rfl, rfl⟩
theorem rep_one (v : AV) (n : Nat) : rep [v] n = List.replicate n v := by
  induction n with
  | zero => rfl
  | succ n ih => simp only [rep, ih, List.replicate_succ]; rfl
theorem mkSlice_nat {h : AH} {sz bytes l c : Nat} {zero : List AV} {k k' : IntKind} (h1 : l ≤ c) (h2 : c ≤ 9223372036854775807) (h3 : bytes * c ≤ 281474976710656) :
    mkSliceV h sz bytes zero (.int k (l : Int)) (.int k' (c : Int)) = some (.slice h.next 0 sz l c true, h.new (.cells (rep zero c) true)) := by
  unfold mkSliceV
  rw [natOf_cast, natOf_cast]
  simp only
  rw [if_pos ⟨h1, h2, h3⟩]
theorem wrap_u64 {n : Nat} (h : n < 18446744073709551616) : IntKind.u64.wrap (n : Int) = (n : Int) := wrap_nat_le (show n ≤ 18446744073709551615 by omega)
theorem setMany_get (l : List AV) : ∀ (xs : List AV) (i : Nat), (setMany l i xs).length = l.length ∧ (i + xs.length ≤ l.length → (∀ j, j < i → (setMany l i xs)[j]? = l[j]?) ∧ (∀ j x, xs[j]? = some x → (setMany l i xs)[i + j]? = some x) ∧ ∀ j, i + xs.length ≤ j → (setMany l i xs)[j]? = l[j]?) := by
  intro xs
  induction xs generalizing l with
  | nil => intro i; exact ⟨rfl, fun _ => ⟨fun _ _ => rfl, fun j x h => (by cases h), fun _ _ => rfl⟩⟩
  | cons a xs ih =>
    intro i
    obtain ⟨h1, h2⟩ := ih (l.set i a) (i + 1)
    refine ⟨by rw [setMany, h1]; simp, fun hl => ?_⟩
    simp only [List.length_cons] at hl
    obtain ⟨h3, h4, h5⟩ := h2 (by simp; omega)
    refine ⟨fun j hj => ?_, fun j x hx => ?_, fun j hj => ?_⟩
    · rw [setMany, h3 j (by omega), List.getElem?_set, if_neg (by omega)]
    · cases j with
      | zero =>
        simp only [List.getElem?_cons_zero, Option.some.injEq] at hx
        subst hx
        rw [setMany, show i + 0 = i from rfl, h3 i (by omega), List.getElem?_set, if_pos rfl, if_pos (by omega)]
      | succ j =>
        rw [setMany, show i + (j + 1) = i + 1 + j by omega]
        exact h4 j x (by simpa using hx)
    · simp only [List.length_cons] at hj
      rw [setMany, h5 j (by omega), List.getElem?_set, if_neg (by omega)]
theorem slc_from {o len cap n : Nat} {ex : Bool} (hn : n ≤ len) (hc : n < cap) : slcV 1 (.slice o 0 1 len cap ex) (some (.int .i64 (n : Int))) none none =
    some (.slice o n 1 (len - n) (cap - n) ex) := by
  have : ¬ cap = n := by omega
  simp [slcV, bounds, boundM, boundH, boundL, natOf, hn, show n ≤ cap by omega, Option.filter, this]
/-- A new row of one word, so many times. -/
theorem repeat_ok (k : Fits T) {c o : Nat} {x : Nat} (hc : c < 5) (hl : Low h) (hg : h.get o = some (.cells [.int .u64 (x : Int)] true)) :
    Gives T 46 [.slice o 0 1 1 1 true, .int .i64 (sizeN c : Nat)] h fun r h' => r = .slice h.next 0 1 (sizeN c) (sizeN c) true ∧ h'.get h.next = some (.cells (wcells (List.replicate (sizeN c) x)) true) ∧ Only h h' [] ∧ Low h' ∧ h'.next = h.next + 1 := by
  refine gives_func (k.env _ (by decide)) (k.at (fn := a46) rfl) rfl ?_
  have hN := sizeN_le c
  have hN1 : 8 ≤ sizeN c := by
    have : c = 0 ∨ c = 1 ∨ c = 2 ∨ c = 3 ∨ c = 4 := by omega
    rcases this with rfl | rfl | rfl | rfl | rfl <;> decide
  have hol : o < h.next := hl _ _ hg
  generalize hNe : sizeN c = N at hN hN1
  have d0 : decide ((N : Int) < 0) = false := by rw [decide_eq_false_iff_not]; omega
  have w1 : IntKind.u64.wrap ((1 : Nat) : Int) = 1 := by decide
  have w2 : IntKind.u64.wrap (N : Int) = (N : Int) := wrap_u64 (by omega)
  simp only [a46, c46, wpc_first, wpc_ops, wpc_skip, wpc_exit, wpc_ret, wpc_block, wpc_test, ops_next, ops_nil, ops_test, step_mov, step_bin, step_un, step_pick, step_eqB, step_eqNil, step_toInt, step_lenStr, step_lenSlice, step_extract, step_fieldAddr, step_field, step_nilChk, step_idxAddr, step_idxStr, step_load, step_store, step_slc, step_slcStr, step_mkSlice, step_toStr, step_append, step_copy, step_buildSlice, step_build, step_new, step_call, Option.bind_some, Option.map_some, AOpd.val, Fr.at_put, at_ofArgs, Wo_some, Then_normal, Then_exit, Then_ret, InBlock_normal, InBlock_ret, InBlock_exit, Ends_ret, Ends_normal, res_nil, res_tmp, tuple_one, tuple_two, some_one, CondC_true, bin_add, bin_sub, bin_mul, bin_eql, bin_neq, bin_lss, bin_leq, bin_gtr, bin_geq, bin_str_eql, bin_str_neq, un_not, toInt_int, lenStr_str, pick_bool, List.getElem?_cons_zero, List.getElem?_cons_succ, Option.getD_some, Option.getD_none, List.map_cons, List.map_nil, Option.map_none, List.length_map, Nat.reduceEqDiff, if_true, if_false, reduceCtorEq, Nat.reduceAdd, Nat.reduceBEq, guardB_tt, guardB_ff, guardB_tf, guardB_ft, guardB_none, pick_t, pick_f, beq_self_eq_true, bne_self_eq_false, decide_true, decide_false, Bool.not_true, Bool.not_false, put_none, len_slice, len_nil, rest_mk, ThenC_normal, ThenC_exit, ThenC_ret, CondC_false, CondC_both, extract_0, extract_1, extract_2, step_callM, callMV_iface, meth_self, meth_deref, find_cons, bif_true, bif_false, step_mkIface, step_mkMap, step_assertT, assert_same, assert_same_ok, step_lookup, step_mapUpd, step_del, step_idxArr, step_idxAddrArr, items_nil, items_next, restI_mk, wpc_draw, step_box, step_eqAgg, d0, w1, w2]
  have hm := mul_ok (h := h) k hc
  rw [hNe] at hm
  refine Gives.bind (hm.mono ?_)
  rintro _ _ ⟨rfl, rfl⟩
  rename_i h
  have d1 : decide ((0 : Int) > 0) = false := by decide
  have d2 : decide ((N : Int) > 9223372036854775807) = false := by rw [decide_eq_false_iff_not]; omega
  have w3 : IntKind.i64.wrap (N : Int) = (N : Int) := wrap_i64n (by omega)
  have hg1 : (h.new (.cells (List.replicate N (AV.int .u64 0)) true)).get o = some (.cells [.int .u64 (x : Int)] true) := by rw [AH.get_new, if_neg (by omega)]; exact hg
  have hcp : copyV 1 (h.new (.cells (List.replicate N (AV.int .u64 0)) true)) (.slice h.next 0 1 N N true) (.slice o 0 1 1 1 true) = some (.int .i64 (1 : Nat), (h.new (.cells (List.replicate N (AV.int .u64 0)) true)).set h.next (.cells (setMany (List.replicate N (AV.int .u64 0)) 0 [.int .u64 (x : Int)]) true)) := by
    simp only [copyV, len_slice, Option.bind_some, Nat.min_eq_left (show 1 ≤ N by omega), AH.elems, AH.load, hg1]
    simp only [true_and, Nat.le_refl, if_true, List.length_cons, List.length_nil, Nat.zero_add, Nat.mul_one, List.drop_zero, List.take_succ_cons, List.take_zero, Option.bind_some, List.isEmpty_cons, Bool.false_eq_true, if_false, AH.store, get_new_same]
    rw [if_pos ⟨by simp; omega, rfl⟩]; rfl
  simp only [wpc_first, wpc_ops, wpc_skip, wpc_exit, wpc_ret, wpc_block, wpc_test, ops_next, ops_nil, ops_test, step_mov, step_bin, step_un, step_pick, step_eqB, step_eqNil, step_toInt, step_lenStr, step_lenSlice, step_extract, step_fieldAddr, step_field, step_nilChk, step_idxAddr, step_idxStr, step_load, step_store, step_slc, step_slcStr, step_mkSlice, step_toStr, step_append, step_copy, step_buildSlice, step_build, step_new, step_call, Option.bind_some, Option.map_some, AOpd.val, Fr.at_put, at_ofArgs, Wo_some, Then_normal, Then_exit, Then_ret, InBlock_normal, InBlock_ret, InBlock_exit, Ends_ret, Ends_normal, res_nil, res_tmp, tuple_one, tuple_two, some_one, CondC_true, bin_add, bin_sub, bin_mul, bin_eql, bin_neq, bin_lss, bin_leq, bin_gtr, bin_geq, bin_str_eql, bin_str_neq, un_not, toInt_int, lenStr_str, pick_bool, List.getElem?_cons_zero, List.getElem?_cons_succ, Option.getD_some, Option.getD_none, List.map_cons, List.map_nil, Option.map_none, List.length_map, Nat.reduceEqDiff, if_true, if_false, reduceCtorEq, Nat.reduceAdd, Nat.reduceBEq, guardB_tt, guardB_ff, guardB_tf, guardB_ft, guardB_none, pick_t, pick_f, beq_self_eq_true, bne_self_eq_false, decide_true, decide_false, Bool.not_true, Bool.not_false, put_none, len_slice, len_nil, rest_mk, ThenC_normal, ThenC_exit, ThenC_ret, CondC_false, CondC_both, extract_0, extract_1, extract_2, step_callM, callMV_iface, meth_self, meth_deref, find_cons, bif_true, bif_false, step_mkIface, step_mkMap, step_assertT, assert_same, assert_same_ok, step_lookup, step_mapUpd, step_del, step_idxArr, step_idxAddrArr, items_nil, items_next, restI_mk, wpc_draw, step_box, step_eqAgg, d1, d2, w3, mkSlice_nat (h := h) (sz := 1) (bytes := 8) (zero := [.int .u64 0]) (k := .i64) (k' := .i64) (Nat.le_refl N) (by omega) (by omega), rep_one, hcp]
  refine wpc_loop (fun q f h' => ∃ n, q = N - n ∧ 1 ≤ n ∧ n ≤ N ∧ Only h h' [] ∧ Low h' ∧ h'.next = h.next + 1 ∧ f.at 7 = .slice h.next 0 1 N N true ∧ f.at 8 = .int .i64 (n : Nat) ∧ ∃ l, h'.get h.next = some (.cells l true) ∧ l.length = N ∧ ∀ j, j < n → l[j]? = some (AV.int .u64 (x : Int))) ?_ (N - 1) _ _ ⟨1, rfl, Nat.le_refl _, by omega, ((Only.refl h []).new _).set (.inr (Nat.le_refl _)) _, (hl.new _).set (by rw [next_new]; omega) _, rfl, ?_⟩
  · rintro q f h' ⟨n, rfl, h1, h2, on, low, nx, h7, h8, l, hg, hll, hpre⟩
    simp only [c46l0, wpc_first, wpc_ops, wpc_skip, wpc_exit, wpc_ret, wpc_block, wpc_test, ops_next, ops_nil, ops_test, step_mov, step_bin, step_un, step_pick, step_eqB, step_eqNil, step_toInt, step_lenStr, step_lenSlice, step_extract, step_fieldAddr, step_field, step_nilChk, step_idxAddr, step_idxStr, step_load, step_store, step_slc, step_slcStr, step_mkSlice, step_toStr, step_append, step_copy, step_buildSlice, step_build, step_new, step_call, Option.bind_some, Option.map_some, AOpd.val, Fr.at_put, at_ofArgs, Wo_some, Then_normal, Then_exit, Then_ret, InBlock_normal, InBlock_ret, InBlock_exit, Ends_ret, Ends_normal, res_nil, res_tmp, tuple_one, tuple_two, some_one, CondC_true, bin_add, bin_sub, bin_mul, bin_eql, bin_neq, bin_lss, bin_leq, bin_gtr, bin_geq, bin_str_eql, bin_str_neq, un_not, toInt_int, lenStr_str, pick_bool, List.getElem?_cons_zero, List.getElem?_cons_succ, Option.getD_some, Option.getD_none, List.map_cons, List.map_nil, Option.map_none, List.length_map, Nat.reduceEqDiff, if_true, if_false, reduceCtorEq, Nat.reduceAdd, Nat.reduceBEq, guardB_tt, guardB_ff, guardB_tf, guardB_ft, guardB_none, pick_t, pick_f, beq_self_eq_true, bne_self_eq_false, decide_true, decide_false, Bool.not_true, Bool.not_false, put_none, len_slice, len_nil, rest_mk, ThenC_normal, ThenC_exit, ThenC_ret, CondC_false, CondC_both, extract_0, extract_1, extract_2, step_callM, callMV_iface, meth_self, meth_deref, find_cons, bif_true, bif_false, step_mkIface, step_mkMap, step_assertT, assert_same, assert_same_ok, step_lookup, step_mapUpd, step_del, step_idxArr, step_idxAddrArr, items_nil, items_next, restI_mk, wpc_draw, step_box, step_eqAgg, h7, h8]
    by_cases hlt : n < N
    · have hd : decide ((n : Int) < (N : Int)) = true := by rw [decide_eq_true_eq]; omega
      obtain ⟨m, hm⟩ : ∃ m, min n (N - n) = m := ⟨_, rfl⟩
      have hm1 : 1 ≤ m ∧ m ≤ n ∧ n + m ≤ N := by omega
      have htk : l.take m = List.replicate m (AV.int .u64 (x : Int)) := by
        apply List.ext_getElem?
        intro j
        rw [List.getElem?_take]
        by_cases hj : j < m
        · rw [if_pos hj, hpre j (by omega)]; simp [hj]
        · rw [if_neg hj, List.getElem?_eq_none (by simp; omega)]
      have hcp2 : copyV 1 h' (.slice h.next n 1 (N - n) (N - n) true) (.slice h.next 0 1 n N true) = some (.int .i64 (m : Nat), h'.set h.next (.cells (setMany l n (List.replicate m (AV.int .u64 (x : Int)))) true)) := by
        simp only [copyV, len_slice, Option.bind_some, hm, AH.elems, AH.load, hg]
        simp only [true_and, if_true, Nat.zero_add, Nat.mul_one, List.drop_zero, htk, hm1.2.1]
        rw [if_pos (by omega)]
        have he : (List.replicate m (AV.int .u64 (x : Int))).isEmpty = false := by
          obtain ⟨m', rfl⟩ : ∃ m', m = m' + 1 := ⟨m - 1, by omega⟩
          rfl
        simp only [Option.bind_some, he, Bool.false_eq_true, if_false, AH.store, hg]
        rw [if_pos ⟨by simp; omega, by simp [AV.flat]⟩]; rfl
      have w4 : IntKind.i64.wrap ((n : Int) + (m : Int)) = ((n + m : Nat) : Int) := by rw [wrap_i64 (by omega) (by omega)]; omega
      simp only [hd, wpc_first, wpc_ops, wpc_skip, wpc_exit, wpc_ret, wpc_block, wpc_test, ops_next, ops_nil, ops_test, step_mov, step_bin, step_un, step_pick, step_eqB, step_eqNil, step_toInt, step_lenStr, step_lenSlice, step_extract, step_fieldAddr, step_field, step_nilChk, step_idxAddr, step_idxStr, step_load, step_store, step_slc, step_slcStr, step_mkSlice, step_toStr, step_append, step_copy, step_buildSlice, step_build, step_new, step_call, Option.bind_some, Option.map_some, AOpd.val, Fr.at_put, at_ofArgs, Wo_some, Then_normal, Then_exit, Then_ret, InBlock_normal, InBlock_ret, InBlock_exit, Ends_ret, Ends_normal, res_nil, res_tmp, tuple_one, tuple_two, some_one, CondC_true, bin_add, bin_sub, bin_mul, bin_eql, bin_neq, bin_lss, bin_leq, bin_gtr, bin_geq, bin_str_eql, bin_str_neq, un_not, toInt_int, lenStr_str, pick_bool, List.getElem?_cons_zero, List.getElem?_cons_succ, Option.getD_some, Option.getD_none, List.map_cons, List.map_nil, Option.map_none, List.length_map, Nat.reduceEqDiff, if_true, if_false, reduceCtorEq, Nat.reduceAdd, Nat.reduceBEq, guardB_tt, guardB_ff, guardB_tf, guardB_ft, guardB_none, pick_t, pick_f, beq_self_eq_true, bne_self_eq_false, decide_true, decide_false, Bool.not_true, Bool.not_false, put_none, len_slice, len_nil, rest_mk, ThenC_normal, ThenC_exit, ThenC_ret, CondC_false, CondC_both, extract_0, extract_1, extract_2, step_callM, callMV_iface, meth_self, meth_deref, find_cons, bif_true, bif_false, step_mkIface, step_mkMap, step_assertT, assert_same, assert_same_ok, step_lookup, step_mapUpd, step_del, step_idxArr, step_idxAddrArr, items_nil, items_next, restI_mk, wpc_draw, step_box, step_eqAgg, h7, h8, slc_from (show n ≤ N by omega) hlt, slc_to0 (show n ≤ N by omega), hcp2, w4]
      obtain ⟨s1, s2⟩ := setMany_get l (List.replicate m (AV.int .u64 (x : Int))) n
      obtain ⟨s3, s4, _⟩ := s2 (by simp; omega)
      refine ⟨N - (n + m), by omega, n + m, rfl, by omega, by omega, on.set (.inr (Nat.le_refl _)) _, low.set (by omega) _, nx, trivial, rfl, _, get_set_same, by rw [s1]; exact hll, ?_⟩
      intro j hj
      by_cases hjn : j < n
      · rw [s3 j hjn]; exact hpre j hjn
      · have := s4 (j - n) (AV.int .u64 (x : Int)) (show (List.replicate m (AV.int .u64 (x : Int)))[j - n]? = some (AV.int .u64 (x : Int)) by rw [List.getElem?_replicate, if_pos (by omega)])
        rw [show n + (j - n) = j by omega] at this; exact this
    · have hd : decide ((n : Int) < (N : Int)) = false := by rw [decide_eq_false_iff_not]; omega
      have : n = N := by omega
      subst this
      simp only [hd, wpc_first, wpc_ops, wpc_skip, wpc_exit, wpc_ret, wpc_block, wpc_test, ops_next, ops_nil, ops_test, step_mov, step_bin, step_un, step_pick, step_eqB, step_eqNil, step_toInt, step_lenStr, step_lenSlice, step_extract, step_fieldAddr, step_field, step_nilChk, step_idxAddr, step_idxStr, step_load, step_store, step_slc, step_slcStr, step_mkSlice, step_toStr, step_append, step_copy, step_buildSlice, step_build, step_new, step_call, Option.bind_some, Option.map_some, AOpd.val, Fr.at_put, at_ofArgs, Wo_some, Then_normal, Then_exit, Then_ret, InBlock_normal, InBlock_ret, InBlock_exit, Ends_ret, Ends_normal, res_nil, res_tmp, tuple_one, tuple_two, some_one, CondC_true, bin_add, bin_sub, bin_mul, bin_eql, bin_neq, bin_lss, bin_leq, bin_gtr, bin_geq, bin_str_eql, bin_str_neq, un_not, toInt_int, lenStr_str, pick_bool, List.getElem?_cons_zero, List.getElem?_cons_succ, Option.getD_some, Option.getD_none, List.map_cons, List.map_nil, Option.map_none, List.length_map, Nat.reduceEqDiff, if_true, if_false, reduceCtorEq, Nat.reduceAdd, Nat.reduceBEq, guardB_tt, guardB_ff, guardB_tf, guardB_ft, guardB_none, pick_t, pick_f, beq_self_eq_true, bne_self_eq_false, decide_true, decide_false, Bool.not_true, Bool.not_false, put_none, len_slice, len_nil, rest_mk, ThenC_normal, ThenC_exit, ThenC_ret, CondC_false, CondC_both, extract_0, extract_1, extract_2, step_callM, callMV_iface, meth_self, meth_deref, find_cons, bif_true, bif_false, step_mkIface, step_mkMap, step_assertT, assert_same, assert_same_ok, step_lookup, step_mapUpd, step_del, step_idxArr, step_idxAddrArr, items_nil, items_next, restI_mk, wpc_draw, step_box, step_eqAgg, h7]
      refine ⟨trivial, ?_, on, low, nx⟩
      have hl2 : l = wcells (List.replicate n x) := by
        apply List.ext_getElem?
        intro j
        by_cases hj : j < n
        · rw [hpre j hj]; simp [wcells, hj]
        · rw [List.getElem?_eq_none (by omega), List.getElem?_eq_none (by rw [wcells_len]; simp; omega)]
      rw [hg, hl2]
  · simp only [wpc_first, wpc_ops, wpc_skip, wpc_exit, wpc_ret, wpc_block, wpc_test, ops_next, ops_nil, ops_test, step_mov, step_bin, step_un, step_pick, step_eqB, step_eqNil, step_toInt, step_lenStr, step_lenSlice, step_extract, step_fieldAddr, step_field, step_nilChk, step_idxAddr, step_idxStr, step_load, step_store, step_slc, step_slcStr, step_mkSlice, step_toStr, step_append, step_copy, step_buildSlice, step_build, step_new, step_call, Option.bind_some, Option.map_some, AOpd.val, Fr.at_put, at_ofArgs, Wo_some, Then_normal, Then_exit, Then_ret, InBlock_normal, InBlock_ret, InBlock_exit, Ends_ret, Ends_normal, res_nil, res_tmp, tuple_one, tuple_two, some_one, CondC_true, bin_add, bin_sub, bin_mul, bin_eql, bin_neq, bin_lss, bin_leq, bin_gtr, bin_geq, bin_str_eql, bin_str_neq, un_not, toInt_int, lenStr_str, pick_bool, List.getElem?_cons_zero, List.getElem?_cons_succ, Option.getD_some, Option.getD_none, List.map_cons, List.map_nil, Option.map_none, List.length_map, Nat.reduceEqDiff, if_true, if_false, reduceCtorEq, Nat.reduceAdd, Nat.reduceBEq, guardB_tt, guardB_ff, guardB_tf, guardB_ft, guardB_none, pick_t, pick_f, beq_self_eq_true, bne_self_eq_false, decide_true, decide_false, Bool.not_true, Bool.not_false, put_none, len_slice, len_nil, rest_mk, ThenC_normal, ThenC_exit, ThenC_ret, CondC_false, CondC_both, extract_0, extract_1, extract_2, step_callM, callMV_iface, meth_self, meth_deref, find_cons, bif_true, bif_false, step_mkIface, step_mkMap, step_assertT, assert_same, assert_same_ok, step_lookup, step_mapUpd, step_del, step_idxArr, step_idxAddrArr, items_nil, items_next, restI_mk, wpc_draw, step_box, step_eqAgg]
    obtain ⟨s1, s2⟩ := setMany_get (List.replicate N (AV.int .u64 0)) [.int .u64 (x : Int)] 0
    obtain ⟨s3, s4, _⟩ := s2 (by simp; omega)
    refine ⟨trivial, trivial, _, get_set_same, by rw [s1]; simp, ?_⟩
    intro j hj
    have : j = 0 := by omega
    subst this
    exact s4 0 _ rfl
theorem poison_ok (k : Fits T) {c : Nat} (hc : c < 5) (hl : Low h) :
    Gives T 31 [.int .i64 (c : Int)] h fun r h' => Words h' r (List.replicate (sizeN c) poisonN) ∧ (∀ o ∈ objs r, h.next ≤ o) ∧ Only h h' [] ∧ Low h' := by
  refine gives_func (k.env _ (by decide)) (k.at (fn := a31) rfl) rfl ?_
  have hb : fillV [AV.int .u64 0] [(0, 1, AV.int .u64 16045690984833335023)] = some [.int .u64 16045690984833335023] := by simp [fillV, AV.isDef, AV.cells, setMany]
  simp only [a31, c31, wpc_first, wpc_ops, wpc_skip, wpc_exit, wpc_ret, wpc_block, wpc_test, ops_next, ops_nil, ops_test, step_mov, step_bin, step_un, step_pick, step_eqB, step_eqNil, step_toInt, step_lenStr, step_lenSlice, step_extract, step_fieldAddr, step_field, step_nilChk, step_idxAddr, step_idxStr, step_load, step_store, step_slc, step_slcStr, step_mkSlice, step_toStr, step_append, step_copy, step_buildSlice, step_build, step_new, step_call, Option.bind_some, Option.map_some, AOpd.val, Fr.at_put, at_ofArgs, Wo_some, Then_normal, Then_exit, Then_ret, InBlock_normal, InBlock_ret, InBlock_exit, Ends_ret, Ends_normal, res_nil, res_tmp, tuple_one, tuple_two, some_one, CondC_true, bin_add, bin_sub, bin_mul, bin_eql, bin_neq, bin_lss, bin_leq, bin_gtr, bin_geq, bin_str_eql, bin_str_neq, un_not, toInt_int, lenStr_str, pick_bool, List.getElem?_cons_zero, List.getElem?_cons_succ, Option.getD_some, Option.getD_none, List.map_cons, List.map_nil, Option.map_none, List.length_map, Nat.reduceEqDiff, if_true, if_false, reduceCtorEq, Nat.reduceAdd, Nat.reduceBEq, guardB_tt, guardB_ff, guardB_tf, guardB_ft, guardB_none, pick_t, pick_f, beq_self_eq_true, bne_self_eq_false, decide_true, decide_false, Bool.not_true, Bool.not_false, put_none, len_slice, len_nil, rest_mk, ThenC_normal, ThenC_exit, ThenC_ret, CondC_false, CondC_both, extract_0, extract_1, extract_2, step_callM, callMV_iface, meth_self, meth_deref, find_cons, bif_true, bif_false, step_mkIface, step_mkMap, step_assertT, assert_same, assert_same_ok, step_lookup, step_mapUpd, step_del, step_idxArr, step_idxAddrArr, items_nil, items_next, restI_mk, wpc_draw, step_box, step_eqAgg, hb]
  refine Gives.bind ((size_ok k hc).mono ?_)
  rintro _ _ ⟨rfl, rfl⟩
  simp only [wpc_first, wpc_ops, wpc_skip, wpc_exit, wpc_ret, wpc_block, wpc_test, ops_next, ops_nil, ops_test, step_mov, step_bin, step_un, step_pick, step_eqB, step_eqNil, step_toInt, step_lenStr, step_lenSlice, step_extract, step_fieldAddr, step_field, step_nilChk, step_idxAddr, step_idxStr, step_load, step_store, step_slc, step_slcStr, step_mkSlice, step_toStr, step_append, step_copy, step_buildSlice, step_build, step_new, step_call, Option.bind_some, Option.map_some, AOpd.val, Fr.at_put, at_ofArgs, Wo_some, Then_normal, Then_exit, Then_ret, InBlock_normal, InBlock_ret, InBlock_exit, Ends_ret, Ends_normal, res_nil, res_tmp, tuple_one, tuple_two, some_one, CondC_true, bin_add, bin_sub, bin_mul, bin_eql, bin_neq, bin_lss, bin_leq, bin_gtr, bin_geq, bin_str_eql, bin_str_neq, un_not, toInt_int, lenStr_str, pick_bool, List.getElem?_cons_zero, List.getElem?_cons_succ, Option.getD_some, Option.getD_none, List.map_cons, List.map_nil, Option.map_none, List.length_map, Nat.reduceEqDiff, if_true, if_false, reduceCtorEq, Nat.reduceAdd, Nat.reduceBEq, guardB_tt, guardB_ff, guardB_tf, guardB_ft, guardB_none, pick_t, pick_f, beq_self_eq_true, bne_self_eq_false, decide_true, decide_false, Bool.not_true, Bool.not_false, put_none, len_slice, len_nil, rest_mk, ThenC_normal, ThenC_exit, ThenC_ret, CondC_false, CondC_both, extract_0, extract_1, extract_2, step_callM, callMV_iface, meth_self, meth_deref, find_cons, bif_true, bif_false, step_mkIface, step_mkMap, step_assertT, assert_same, assert_same_ok, step_lookup, step_mapUpd, step_del, step_idxArr, step_idxAddrArr, items_nil, items_next, restI_mk, wpc_draw, step_box, step_eqAgg]
  refine Gives.bind ((repeat_ok (x := poisonN) k hc (hl.new _) get_new_same).mono ?_)
  rintro _ h2 ⟨rfl, g2, on2, low2, nx2⟩
  simp only [wpc_first, wpc_ops, wpc_skip, wpc_exit, wpc_ret, wpc_block, wpc_test, ops_next, ops_nil, ops_test, step_mov, step_bin, step_un, step_pick, step_eqB, step_eqNil, step_toInt, step_lenStr, step_lenSlice, step_extract, step_fieldAddr, step_field, step_nilChk, step_idxAddr, step_idxStr, step_load, step_store, step_slc, step_slcStr, step_mkSlice, step_toStr, step_append, step_copy, step_buildSlice, step_build, step_new, step_call, Option.bind_some, Option.map_some, AOpd.val, Fr.at_put, at_ofArgs, Wo_some, Then_normal, Then_exit, Then_ret, InBlock_normal, InBlock_ret, InBlock_exit, Ends_ret, Ends_normal, res_nil, res_tmp, tuple_one, tuple_two, some_one, CondC_true, bin_add, bin_sub, bin_mul, bin_eql, bin_neq, bin_lss, bin_leq, bin_gtr, bin_geq, bin_str_eql, bin_str_neq, un_not, toInt_int, lenStr_str, pick_bool, List.getElem?_cons_zero, List.getElem?_cons_succ, Option.getD_some, Option.getD_none, List.map_cons, List.map_nil, Option.map_none, List.length_map, Nat.reduceEqDiff, if_true, if_false, reduceCtorEq, Nat.reduceAdd, Nat.reduceBEq, guardB_tt, guardB_ff, guardB_tf, guardB_ft, guardB_none, pick_t, pick_f, beq_self_eq_true, bne_self_eq_false, decide_true, decide_false, Bool.not_true, Bool.not_false, put_none, len_slice, len_nil, rest_mk, ThenC_normal, ThenC_exit, ThenC_ret, CondC_false, CondC_both, extract_0, extract_1, extract_2, step_callM, callMV_iface, meth_self, meth_deref, find_cons, bif_true, bif_false, step_mkIface, step_mkMap, step_assertT, assert_same, assert_same_ok, step_lookup, step_mapUpd, step_del, step_idxArr, step_idxAddrArr, items_nil, items_next, restI_mk, wpc_draw, step_box, step_eqAgg]
  refine ⟨⟨_, by simp, g2⟩, ?_, ?_, low2⟩
  · intro o ho; simp [objs] at ho; subst ho; rw [next_new]; omega
  · exact ((Only.refl h []).new _).trans on2 (fun o ho => by simp at ho)
end Go.Proofs.Ytejjkienklaghaa

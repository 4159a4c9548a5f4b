/- The functions that the laws of chapter 2 reach: lists with room behind them, and whether two are the same. -/
import Derived.Test.YtcnghmfmokmnpaaP2E
namespace Go.Proofs.Ytcnghmfmokmnpaa
open Go.Vm
set_option linter.unusedSimpArgs false
set_option linter.unusedVariables false
variable {T : Vm.Prog} {h : AH}
theorem Sees.elems {v : AV} {xs : List AV} (s : Sees h v xs) : h.elems 1 xs.length v = some xs := by
  rcases s with ⟨rfl, rfl⟩ | ⟨o, off, cap, ex, l, rw, rfl, hg, hll, hc⟩
  · simp [AH.elems]
  · simp only [AH.elems, true_and, Nat.le_refl, if_true, AH.load, hg, Nat.mul_one]
    rw [if_pos hll]
    congr 1
    apply List.ext_getElem?
    intro i
    by_cases hi : i < xs.length
    · rw [List.getElem?_take, if_pos hi, List.getElem?_drop, hc i _ (List.getElem?_eq_getElem hi), List.getElem?_eq_getElem hi]
    · rw [List.getElem?_eq_none (by simp; omega), List.getElem?_eq_none (by omega)]
theorem cells_int (ws : List Nat) : cells ws = (ws.map fun n : Nat => (n : Int)).map (.int .u64) := by simp [cells]
theorem nat_int_inj {a b : List Nat} : (a.map fun n : Nat => (n : Int)) = b.map (fun n : Nat => (n : Int)) ↔ a = b :=
  List.map_inj_right fun x y h => Int.ofNat.inj h
theorem same_words (he : T.env 10 = none) (hf : T.func 10 = some a10) {va vb : AV} {ws us : List Nat} (hx : Sees h va (cells ws)) (hy : Sees h vb (cells us)) (hl : ws.length < 1000000) (hl' : us.length < 1000000) :
    Gives T 10 [va, vb] h fun r h' => r = .bool (decide (ws = us)) ∧ h' = h := by
  rw [cells_int] at hx hy
  refine (same_u64 he hf hx hy (by simp; omega) (by simp; omega)).mono ?_
  rintro r h' ⟨rfl, rfl⟩
  refine ⟨?_, rfl⟩
  congr 1
  rw [decide_eq_decide]
  exact nat_int_inj
theorem cells_flat (ws : List Nat) : (cells ws).all AV.flat = true := by
  simp only [cells, List.all_eq_true, List.mem_map]
  rintro x ⟨n, _, rfl⟩; rfl
theorem setMany_get (l : List AV) : ∀ (xs : List AV) (i : Nat), (setMany l i xs).length = l.length ∧ (i + xs.length ≤ l.length → (∀ j, j < i → (setMany l i xs)[j]? = l[j]?) ∧ ∀ j x, xs[j]? = some x → (setMany l i xs)[i + j]? = some x) := by
  intro xs
  induction xs generalizing l with
  | nil => intro i; exact ⟨rfl, fun _ => ⟨fun _ _ => rfl, fun j x h => by cases h⟩⟩
  | cons a xs ih =>
    intro i
    obtain ⟨h1, h2⟩ := ih (l.set i a) (i + 1)
    refine ⟨by rw [setMany, h1]; simp, fun hl => ?_⟩
    simp only [List.length_cons] at hl
    obtain ⟨h3, h4⟩ := h2 (by simp; omega)
    refine ⟨fun j hj => ?_, fun j x hx => ?_⟩
    · rw [setMany, h3 j (by omega), List.getElem?_set, if_neg (by omega)]
    · cases j with
      | zero =>
        simp only [List.getElem?_cons_zero, Option.some.injEq] at hx
        subst hx
        rw [setMany, show i + 0 = i from rfl, h3 i (by omega), List.getElem?_set, if_pos rfl, if_pos (by omega)]
      | succ j =>
        rw [setMany, show i + (j + 1) = i + 1 + j by omega]
        exact h4 j x (by simpa using hx)
/-- A list, and 80 marks behind it. -/
def IsRoomy (h : AH) (ws : List Nat) (m : Int) (r : AV) (h' : AH) : Prop :=
  Ext h h' ∧ Low h' ∧ r = .slice h.next 0 1 (ws.length + 80) (ws.length + 80) true ∧ h.next < h'.next ∧ ∃ l, h'.get h.next = some (.cells l true) ∧ l.length = ws.length + 80 ∧
    (∀ (j x : Nat), ws[j]? = some x → l[j]? = some (AV.int .u64 (x : Int))) ∧ ∀ (j : Nat), ws.length ≤ j → j < ws.length + 80 → l[j]? = some (AV.int .u64 m)
theorem roomy_ok (he : T.env 12 = none) (hf : T.func 12 = some a12) {v : AV} {ws : List Nat} {m : Int} (hw : Low h) (s : Sees h v (cells ws)) (hl : ws.length < 1000000) :
    Gives T 12 [v, .int .u64 m] h (IsRoomy h ws m) := by
  refine gives_func he hf rfl ?_
  have e80 : IntKind.i64.wrap ((ws.length : Int) + 80) = ((ws.length + 80 : Nat) : Int) := by rw [wrap_i64 (by omega) (by omega)]; rfl
  have hmk := mkSlice_nat (h := h) (sz := 1) (bytes := 8) (zero := [.int .u64 0]) (k := .i64) (k' := .i64) (Nat.le_refl (ws.length + 80)) (by omega) (by omega)
  have s1 : Sees (h.new (.cells (rep [AV.int .u64 0] (ws.length + 80)) true)) v (cells ws) := s.ext (Ext.new _ _) hw
  have hel := s1.elems
  rw [cells_len] at hel
  -- the copy
  obtain ⟨l1, hcp, hl1, hl1a⟩ : ∃ l1, copyV 1 (h.new (.cells (rep [AV.int .u64 0] (ws.length + 80)) true)) (.slice h.next 0 1 (ws.length + 80) (ws.length + 80) true) v = some (.int .i64 (ws.length : Nat), (if ws.length = 0 then h.new (.cells (rep [AV.int .u64 0] (ws.length + 80)) true) else (h.new (.cells (rep [AV.int .u64 0] (ws.length + 80)) true)).set h.next (.cells l1 true))) ∧
      l1.length = ws.length + 80 ∧ ∀ (j x : Nat), ws[j]? = some x → l1[j]? = some (AV.int .u64 (x : Int)) := by
    refine ⟨setMany (rep [AV.int .u64 0] (ws.length + 80)) 0 (cells ws), ?_, by rw [(setMany_get _ _ _).1, rep_one]; simp, ?_⟩
    · simp only [copyV, sees_words s1, len_slice, Option.bind_some, Nat.min_eq_left (show ws.length ≤ ws.length + 80 by omega), hel, if_true]
      by_cases e0 : ws.length = 0
      · have : ws = [] := List.eq_nil_of_length_eq_zero e0
        subst this
        rfl
      · have hne : (cells ws).isEmpty = false := by
          cases ws with
          | nil => exact absurd rfl e0
          | cons a r => rfl
        simp only [hne, Bool.false_eq_true, if_false, if_neg e0, AH.store, get_new_same, cells_flat]
        rw [if_pos ⟨by rw [cells_len, rep_one]; simp, trivial⟩]
        rfl
    · intro j x hx
      have := (((setMany_get (rep [AV.int .u64 0] (ws.length + 80)) (cells ws) 0).2 (by rw [cells_len, rep_one]; simp)).2 j _ (cells_get hx))
      simpa using this
  simp only [a12, c12, wpc_first, wpc_ops, wpc_skip, wpc_exit, wpc_ret, wpc_block, wpc_test, ops_next, ops_nil, ops_test, step_mov, step_bin, step_un, step_pick, step_eqB, step_eqNil, step_toInt, step_lenStr, step_lenSlice, step_extract, step_fieldAddr, step_field, step_nilChk, step_idxAddr, step_idxStr, step_load, step_store, step_slc, step_slcStr, step_mkSlice, step_toStr, step_append, step_copy, step_buildSlice, step_build, step_new, step_call, Option.bind_some, Option.map_some, AOpd.val, Fr.at_put, at_ofArgs, Wo_some, Then_normal, Then_exit, Then_ret, InBlock_normal, InBlock_ret, InBlock_exit, Ends_ret, Ends_normal, res_nil, res_tmp, tuple_one, tuple_two, some_one, CondC_true, bin_add, bin_sub, bin_mul, bin_eql, bin_neq, bin_lss, bin_leq, bin_gtr, bin_geq, bin_str_eql, bin_str_neq, un_not, toInt_int, lenStr_str, pick_bool, List.getElem?_cons_zero, List.getElem?_cons_succ, Option.getD_some, Option.getD_none, List.map_cons, List.map_nil, Option.map_none, List.length_map, Nat.reduceEqDiff, if_true, if_false, reduceCtorEq, Nat.reduceAdd, Nat.reduceBEq, guardB_tt, guardB_ff, guardB_tf, guardB_ft, guardB_none, pick_t, pick_f, beq_self_eq_true, bne_self_eq_false, decide_true, decide_false, Bool.not_true, Bool.not_false, put_none, len_slice, len_nil, rest_mk, ThenC_normal, ThenC_exit, ThenC_ret, CondC_false, CondC_both, extract_0, extract_1, extract_2, sees_words s, e80, hmk, hcp, sees_words s1]
  -- the marks
  have hstart : ∃ l, (if ws.length = 0 then h.new (.cells (rep [AV.int .u64 0] (ws.length + 80)) true) else (h.new (.cells (rep [AV.int .u64 0] (ws.length + 80)) true)).set h.next (.cells l1 true)).get h.next = some (.cells l true) ∧ l.length = ws.length + 80 ∧ (∀ (j x : Nat), ws[j]? = some x → l[j]? = some (AV.int .u64 (x : Int))) := by
    by_cases e0 : ws.length = 0
    · rw [if_pos e0]
      refine ⟨_, get_new_same, by rw [rep_one]; simp, fun j x hx => ?_⟩
      rw [List.eq_nil_of_length_eq_zero e0] at hx; cases hx
    · rw [if_neg e0]
      exact ⟨l1, get_set_same, hl1, hl1a⟩
  have hE : Ext h (if ws.length = 0 then h.new (.cells (rep [AV.int .u64 0] (ws.length + 80)) true) else (h.new (.cells (rep [AV.int .u64 0] (ws.length + 80)) true)).set h.next (.cells l1 true)) := by
    split
    · exact Ext.new _ _
    · exact (Ext.new _ _).set (Nat.le_refl _) _
  have hL : Low (if ws.length = 0 then h.new (.cells (rep [AV.int .u64 0] (ws.length + 80)) true) else (h.new (.cells (rep [AV.int .u64 0] (ws.length + 80)) true)).set h.next (.cells l1 true)) := by
    split
    · exact hw.new _
    · exact (hw.new _).set (by rw [next_new]; omega) _
  have hN : h.next < (if ws.length = 0 then h.new (.cells (rep [AV.int .u64 0] (ws.length + 80)) true) else (h.new (.cells (rep [AV.int .u64 0] (ws.length + 80)) true)).set h.next (.cells l1 true)).next := by
    split
    · rw [next_new]; omega
    · rw [next_set, next_new]; omega
  have hslen : ∀ h', Ext h h' → lenOfV v = some ws.length := fun h' _ => sees_words s
  generalize (if ws.length = 0 then h.new (.cells (rep [AV.int .u64 0] (ws.length + 80)) true) else (h.new (.cells (rep [AV.int .u64 0] (ws.length + 80)) true)).set h.next (.cells l1 true)) = hh at hstart hE hL hN
  obtain ⟨l, hg, hll, hla⟩ := hstart
  refine wpc_loop (fun k f h' => ∃ i, k = ws.length + 80 - i ∧ ws.length ≤ i ∧ i ≤ ws.length + 80 ∧ Ext h h' ∧ Low h' ∧ h.next < h'.next ∧ f.at 1 = .int .u64 m ∧ f.at 5 = .slice h.next 0 1 (ws.length + 80) (ws.length + 80) true ∧ f.at 6 = .int .i64 (i : Nat) ∧
      ∃ l, h'.get h.next = some (.cells l true) ∧ l.length = ws.length + 80 ∧ (∀ (j x : Nat), ws[j]? = some x → l[j]? = some (AV.int .u64 (x : Int))) ∧ ∀ (j : Nat), ws.length ≤ j → j < i → l[j]? = some (AV.int .u64 m)) ?_ 80 _ _ ⟨ws.length, by omega, Nat.le_refl _, by omega, hE, hL, hN, ?_⟩
  · rintro k f h' ⟨i, rfl, hi1, hi2, hx, hlow, hb, h1, h5, h6, l, hg, hll, hla, hpre⟩
    simp only [c12l0, wpc_first, wpc_ops, wpc_skip, wpc_exit, wpc_ret, wpc_block, wpc_test, ops_next, ops_nil, ops_test, step_mov, step_bin, step_un, step_pick, step_eqB, step_eqNil, step_toInt, step_lenStr, step_lenSlice, step_extract, step_fieldAddr, step_field, step_nilChk, step_idxAddr, step_idxStr, step_load, step_store, step_slc, step_slcStr, step_mkSlice, step_toStr, step_append, step_copy, step_buildSlice, step_build, step_new, step_call, Option.bind_some, Option.map_some, AOpd.val, Fr.at_put, at_ofArgs, Wo_some, Then_normal, Then_exit, Then_ret, InBlock_normal, InBlock_ret, InBlock_exit, Ends_ret, Ends_normal, res_nil, res_tmp, tuple_one, tuple_two, some_one, CondC_true, bin_add, bin_sub, bin_mul, bin_eql, bin_neq, bin_lss, bin_leq, bin_gtr, bin_geq, bin_str_eql, bin_str_neq, un_not, toInt_int, lenStr_str, pick_bool, List.getElem?_cons_zero, List.getElem?_cons_succ, Option.getD_some, Option.getD_none, List.map_cons, List.map_nil, Option.map_none, List.length_map, Nat.reduceEqDiff, if_true, if_false, reduceCtorEq, Nat.reduceAdd, Nat.reduceBEq, guardB_tt, guardB_ff, guardB_tf, guardB_ft, guardB_none, pick_t, pick_f, beq_self_eq_true, bne_self_eq_false, decide_true, decide_false, Bool.not_true, Bool.not_false, put_none, len_slice, len_nil, rest_mk, ThenC_normal, ThenC_exit, ThenC_ret, CondC_false, CondC_both, extract_0, extract_1, extract_2, h1, h5, h6]
    by_cases hlt : i < ws.length + 80
    · have hd : decide ((i : Int) < ((ws.length + 80 : Nat) : Int)) = true := by simp; omega
      simp only [hd, wpc_first, wpc_ops, wpc_skip, wpc_exit, wpc_ret, wpc_block, wpc_test, ops_next, ops_nil, ops_test, step_mov, step_bin, step_un, step_pick, step_eqB, step_eqNil, step_toInt, step_lenStr, step_lenSlice, step_extract, step_fieldAddr, step_field, step_nilChk, step_idxAddr, step_idxStr, step_load, step_store, step_slc, step_slcStr, step_mkSlice, step_toStr, step_append, step_copy, step_buildSlice, step_build, step_new, step_call, Option.bind_some, Option.map_some, AOpd.val, Fr.at_put, at_ofArgs, Wo_some, Then_normal, Then_exit, Then_ret, InBlock_normal, InBlock_ret, InBlock_exit, Ends_ret, Ends_normal, res_nil, res_tmp, tuple_one, tuple_two, some_one, CondC_true, bin_add, bin_sub, bin_mul, bin_eql, bin_neq, bin_lss, bin_leq, bin_gtr, bin_geq, bin_str_eql, bin_str_neq, un_not, toInt_int, lenStr_str, pick_bool, List.getElem?_cons_zero, List.getElem?_cons_succ, Option.getD_some, Option.getD_none, List.map_cons, List.map_nil, Option.map_none, List.length_map, Nat.reduceEqDiff, if_true, if_false, reduceCtorEq, Nat.reduceAdd, Nat.reduceBEq, guardB_tt, guardB_ff, guardB_tf, guardB_ft, guardB_none, pick_t, pick_f, beq_self_eq_true, bne_self_eq_false, decide_true, decide_false, Bool.not_true, Bool.not_false, put_none, len_slice, len_nil, rest_mk, ThenC_normal, ThenC_exit, ThenC_ret, CondC_false, CondC_both, extract_0, extract_1, extract_2, h1, h5, h6, idx_nat hlt, Nat.zero_add, store_int hg (show i < l.length by omega)]
      have hw' : IntKind.i64.wrap ((i : Int) + 1) = ((i + 1 : Nat) : Int) := by rw [wrap_i64 (by omega) (by omega)]; rfl
      refine ⟨ws.length + 80 - (i + 1), by omega, i + 1, rfl, by omega, by omega, hx.set (Nat.le_refl _) _, hlow.set hb _, hb, ?_⟩
      simp only [hw']
      refine ⟨trivial, trivial, trivial, _, get_set_same, by simp [hll], ?_, ?_⟩
      · intro j x hj
        have : j < ws.length := by
          rcases Nat.lt_or_ge j ws.length with h' | h'
          · exact h'
          · rw [List.getElem?_eq_none h'] at hj; cases hj
        rw [List.getElem?_set, if_neg (by omega)]
        exact hla j x hj
      · intro j hj1 hj2
        rw [List.getElem?_set]
        by_cases e : i = j
        · subst e; rw [if_pos rfl, if_pos (by omega)]
        · rw [if_neg e]; exact hpre j hj1 (by omega)
    · have hd : decide ((i : Int) < ((ws.length + 80 : Nat) : Int)) = false := by simp; omega
      simp only [hd, wpc_first, wpc_ops, wpc_skip, wpc_exit, wpc_ret, wpc_block, wpc_test, ops_next, ops_nil, ops_test, step_mov, step_bin, step_un, step_pick, step_eqB, step_eqNil, step_toInt, step_lenStr, step_lenSlice, step_extract, step_fieldAddr, step_field, step_nilChk, step_idxAddr, step_idxStr, step_load, step_store, step_slc, step_slcStr, step_mkSlice, step_toStr, step_append, step_copy, step_buildSlice, step_build, step_new, step_call, Option.bind_some, Option.map_some, AOpd.val, Fr.at_put, at_ofArgs, Wo_some, Then_normal, Then_exit, Then_ret, InBlock_normal, InBlock_ret, InBlock_exit, Ends_ret, Ends_normal, res_nil, res_tmp, tuple_one, tuple_two, some_one, CondC_true, bin_add, bin_sub, bin_mul, bin_eql, bin_neq, bin_lss, bin_leq, bin_gtr, bin_geq, bin_str_eql, bin_str_neq, un_not, toInt_int, lenStr_str, pick_bool, List.getElem?_cons_zero, List.getElem?_cons_succ, Option.getD_some, Option.getD_none, List.map_cons, List.map_nil, Option.map_none, List.length_map, Nat.reduceEqDiff, if_true, if_false, reduceCtorEq, Nat.reduceAdd, Nat.reduceBEq, guardB_tt, guardB_ff, guardB_tf, guardB_ft, guardB_none, pick_t, pick_f, beq_self_eq_true, bne_self_eq_false, decide_true, decide_false, Bool.not_true, Bool.not_false, put_none, len_slice, len_nil, rest_mk, ThenC_normal, ThenC_exit, ThenC_ret, CondC_false, CondC_both, extract_0, extract_1, extract_2, h5]
      exact ⟨hx, hlow, rfl, hb, l, hg, hll, hla, fun j h1 h2 => hpre j h1 (by omega)⟩
  · simp only [wpc_first, wpc_ops, wpc_skip, wpc_exit, wpc_ret, wpc_block, wpc_test, ops_next, ops_nil, ops_test, step_mov, step_bin, step_un, step_pick, step_eqB, step_eqNil, step_toInt, step_lenStr, step_lenSlice, step_extract, step_fieldAddr, step_field, step_nilChk, step_idxAddr, step_idxStr, step_load, step_store, step_slc, step_slcStr, step_mkSlice, step_toStr, step_append, step_copy, step_buildSlice, step_build, step_new, step_call, Option.bind_some, Option.map_some, AOpd.val, Fr.at_put, at_ofArgs, Wo_some, Then_normal, Then_exit, Then_ret, InBlock_normal, InBlock_ret, InBlock_exit, Ends_ret, Ends_normal, res_nil, res_tmp, tuple_one, tuple_two, some_one, CondC_true, bin_add, bin_sub, bin_mul, bin_eql, bin_neq, bin_lss, bin_leq, bin_gtr, bin_geq, bin_str_eql, bin_str_neq, un_not, toInt_int, lenStr_str, pick_bool, List.getElem?_cons_zero, List.getElem?_cons_succ, Option.getD_some, Option.getD_none, List.map_cons, List.map_nil, Option.map_none, List.length_map, Nat.reduceEqDiff, if_true, if_false, reduceCtorEq, Nat.reduceAdd, Nat.reduceBEq, guardB_tt, guardB_ff, guardB_tf, guardB_ft, guardB_none, pick_t, pick_f, beq_self_eq_true, bne_self_eq_false, decide_true, decide_false, Bool.not_true, Bool.not_false, put_none, len_slice, len_nil, rest_mk, ThenC_normal, ThenC_exit, ThenC_ret, CondC_false, CondC_both, extract_0, extract_1, extract_2]
    exact ⟨trivial, trivial, trivial, l, hg, hll, hla, fun j h1 h2 => absurd h2 (by omega)⟩
/-- Is it as it was? -/
theorem intact_ok (he : T.env 15 = none) (hf : T.func 15 = some a15) (he' : T.env 10 = none) (hf' : T.func 10 = some a10) {v : AV} {ws : List Nat} {m : Int} {o : Nat} {l : List AV} (s : Sees h v (cells ws)) (hl : ws.length < 1000000)
    (hg : h.get o = some (.cells l true)) (hll : l.length = ws.length + 80) (hla : ∀ (j x : Nat), ws[j]? = some x → l[j]? = some (AV.int .u64 (x : Int))) (hma : ∀ (j : Nat), ws.length ≤ j → j < ws.length + 80 → l[j]? = some (AV.int .u64 m)) :
    Gives T 15 [.slice o 0 1 (ws.length + 80) (ws.length + 80) true, v, .int .u64 m] h fun r h' => r = .bool true ∧ h' = h := by
  refine gives_func he hf rfl ?_
  have e80 : IntKind.i64.wrap ((ws.length : Int) + 80) = ((ws.length + 80 : Nat) : Int) := by rw [wrap_i64 (by omega) (by omega)]; rfl
  have hst := slc_to0 (o := o) (len := ws.length + 80) (cap := ws.length + 80) (ex := true) (show ws.length ≤ ws.length + 80 by omega)
  have s2 : Sees h (.slice o 0 1 ws.length (ws.length + 80) true) (cells ws) := by
    refine .inr ⟨o, 0, ws.length + 80, true, l, true, by rw [cells_len], hg, by rw [cells_len]; omega, fun i x hx => ?_⟩
    simp only [cells, List.getElem?_map, Option.map_eq_some_iff] at hx
    obtain ⟨y, hy, rfl⟩ := hx
    rw [Nat.zero_add]; exact hla i y hy
  simp only [a15, c15, wpc_first, wpc_ops, wpc_skip, wpc_exit, wpc_ret, wpc_block, wpc_test, ops_next, ops_nil, ops_test, step_mov, step_bin, step_un, step_pick, step_eqB, step_eqNil, step_toInt, step_lenStr, step_lenSlice, step_extract, step_fieldAddr, step_field, step_nilChk, step_idxAddr, step_idxStr, step_load, step_store, step_slc, step_slcStr, step_mkSlice, step_toStr, step_append, step_copy, step_buildSlice, step_build, step_new, step_call, Option.bind_some, Option.map_some, AOpd.val, Fr.at_put, at_ofArgs, Wo_some, Then_normal, Then_exit, Then_ret, InBlock_normal, InBlock_ret, InBlock_exit, Ends_ret, Ends_normal, res_nil, res_tmp, tuple_one, tuple_two, some_one, CondC_true, bin_add, bin_sub, bin_mul, bin_eql, bin_neq, bin_lss, bin_leq, bin_gtr, bin_geq, bin_str_eql, bin_str_neq, un_not, toInt_int, lenStr_str, pick_bool, List.getElem?_cons_zero, List.getElem?_cons_succ, Option.getD_some, Option.getD_none, List.map_cons, List.map_nil, Option.map_none, List.length_map, Nat.reduceEqDiff, if_true, if_false, reduceCtorEq, Nat.reduceAdd, Nat.reduceBEq, guardB_tt, guardB_ff, guardB_tf, guardB_ft, guardB_none, pick_t, pick_f, beq_self_eq_true, bne_self_eq_false, decide_true, decide_false, Bool.not_true, Bool.not_false, put_none, len_slice, len_nil, rest_mk, ThenC_normal, ThenC_exit, ThenC_ret, CondC_false, CondC_both, extract_0, extract_1, extract_2, sees_words s, e80, hst]
  refine Gives.bind ((same_words he' hf' s2 s hl hl).mono ?_)
  rintro _ _ ⟨rfl, rfl⟩
  rename_i h
  simp only [wpc_first, wpc_ops, wpc_skip, wpc_exit, wpc_ret, wpc_block, wpc_test, ops_next, ops_nil, ops_test, step_mov, step_bin, step_un, step_pick, step_eqB, step_eqNil, step_toInt, step_lenStr, step_lenSlice, step_extract, step_fieldAddr, step_field, step_nilChk, step_idxAddr, step_idxStr, step_load, step_store, step_slc, step_slcStr, step_mkSlice, step_toStr, step_append, step_copy, step_buildSlice, step_build, step_new, step_call, Option.bind_some, Option.map_some, AOpd.val, Fr.at_put, at_ofArgs, Wo_some, Then_normal, Then_exit, Then_ret, InBlock_normal, InBlock_ret, InBlock_exit, Ends_ret, Ends_normal, res_nil, res_tmp, tuple_one, tuple_two, some_one, CondC_true, bin_add, bin_sub, bin_mul, bin_eql, bin_neq, bin_lss, bin_leq, bin_gtr, bin_geq, bin_str_eql, bin_str_neq, un_not, toInt_int, lenStr_str, pick_bool, List.getElem?_cons_zero, List.getElem?_cons_succ, Option.getD_some, Option.getD_none, List.map_cons, List.map_nil, Option.map_none, List.length_map, Nat.reduceEqDiff, if_true, if_false, reduceCtorEq, Nat.reduceAdd, Nat.reduceBEq, guardB_tt, guardB_ff, guardB_tf, guardB_ft, guardB_none, pick_t, pick_f, beq_self_eq_true, bne_self_eq_false, decide_true, decide_false, Bool.not_true, Bool.not_false, put_none, len_slice, len_nil, rest_mk, ThenC_normal, ThenC_exit, ThenC_ret, CondC_false, CondC_both, extract_0, extract_1, extract_2, sees_words s]
  refine wpc_loop (fun k f h' => ∃ i, k = ws.length + 80 - i ∧ ws.length ≤ i ∧ i ≤ ws.length + 80 ∧ h' = h ∧ f.at 0 = .slice o 0 1 (ws.length + 80) (ws.length + 80) true ∧ f.at 2 = .int .u64 m ∧ f.at 7 = .int .i64 (i : Nat)) ?_ 80 _ _ ⟨ws.length, by omega, Nat.le_refl _, by omega, rfl, ?_⟩
  · rintro k f h' ⟨i, rfl, hi1, hi2, rfl, h0, h2, h7⟩
    simp only [c15l0, wpc_first, wpc_ops, wpc_skip, wpc_exit, wpc_ret, wpc_block, wpc_test, ops_next, ops_nil, ops_test, step_mov, step_bin, step_un, step_pick, step_eqB, step_eqNil, step_toInt, step_lenStr, step_lenSlice, step_extract, step_fieldAddr, step_field, step_nilChk, step_idxAddr, step_idxStr, step_load, step_store, step_slc, step_slcStr, step_mkSlice, step_toStr, step_append, step_copy, step_buildSlice, step_build, step_new, step_call, Option.bind_some, Option.map_some, AOpd.val, Fr.at_put, at_ofArgs, Wo_some, Then_normal, Then_exit, Then_ret, InBlock_normal, InBlock_ret, InBlock_exit, Ends_ret, Ends_normal, res_nil, res_tmp, tuple_one, tuple_two, some_one, CondC_true, bin_add, bin_sub, bin_mul, bin_eql, bin_neq, bin_lss, bin_leq, bin_gtr, bin_geq, bin_str_eql, bin_str_neq, un_not, toInt_int, lenStr_str, pick_bool, List.getElem?_cons_zero, List.getElem?_cons_succ, Option.getD_some, Option.getD_none, List.map_cons, List.map_nil, Option.map_none, List.length_map, Nat.reduceEqDiff, if_true, if_false, reduceCtorEq, Nat.reduceAdd, Nat.reduceBEq, guardB_tt, guardB_ff, guardB_tf, guardB_ft, guardB_none, pick_t, pick_f, beq_self_eq_true, bne_self_eq_false, decide_true, decide_false, Bool.not_true, Bool.not_false, put_none, len_slice, len_nil, rest_mk, ThenC_normal, ThenC_exit, ThenC_ret, CondC_false, CondC_both, extract_0, extract_1, extract_2, h0, h2, h7]
    by_cases hlt : i < ws.length + 80
    · have hd : decide ((i : Int) < ((ws.length + 80 : Nat) : Int)) = true := by simp; omega
      have hw' : IntKind.i64.wrap ((i : Int) + 1) = ((i + 1 : Nat) : Int) := by rw [wrap_i64 (by omega) (by omega)]; rfl
      simp only [hd, wpc_first, wpc_ops, wpc_skip, wpc_exit, wpc_ret, wpc_block, wpc_test, ops_next, ops_nil, ops_test, step_mov, step_bin, step_un, step_pick, step_eqB, step_eqNil, step_toInt, step_lenStr, step_lenSlice, step_extract, step_fieldAddr, step_field, step_nilChk, step_idxAddr, step_idxStr, step_load, step_store, step_slc, step_slcStr, step_mkSlice, step_toStr, step_append, step_copy, step_buildSlice, step_build, step_new, step_call, Option.bind_some, Option.map_some, AOpd.val, Fr.at_put, at_ofArgs, Wo_some, Then_normal, Then_exit, Then_ret, InBlock_normal, InBlock_ret, InBlock_exit, Ends_ret, Ends_normal, res_nil, res_tmp, tuple_one, tuple_two, some_one, CondC_true, bin_add, bin_sub, bin_mul, bin_eql, bin_neq, bin_lss, bin_leq, bin_gtr, bin_geq, bin_str_eql, bin_str_neq, un_not, toInt_int, lenStr_str, pick_bool, List.getElem?_cons_zero, List.getElem?_cons_succ, Option.getD_some, Option.getD_none, List.map_cons, List.map_nil, Option.map_none, List.length_map, Nat.reduceEqDiff, if_true, if_false, reduceCtorEq, Nat.reduceAdd, Nat.reduceBEq, guardB_tt, guardB_ff, guardB_tf, guardB_ft, guardB_none, pick_t, pick_f, beq_self_eq_true, bne_self_eq_false, decide_true, decide_false, Bool.not_true, Bool.not_false, put_none, len_slice, len_nil, rest_mk, ThenC_normal, ThenC_exit, ThenC_ret, CondC_false, CondC_both, extract_0, extract_1, extract_2, h0, h2, h7, idx_nat hlt, Nat.zero_add, load_at hg (hma i hi1 hlt), hw']
      exact ⟨ws.length + 80 - (i + 1), by omega, i + 1, rfl, by omega, by omega, trivial, trivial, trivial, rfl⟩
    · have hd : decide ((i : Int) < ((ws.length + 80 : Nat) : Int)) = false := by simp; omega
      simp only [hd, wpc_first, wpc_ops, wpc_skip, wpc_exit, wpc_ret, wpc_block, wpc_test, ops_next, ops_nil, ops_test, step_mov, step_bin, step_un, step_pick, step_eqB, step_eqNil, step_toInt, step_lenStr, step_lenSlice, step_extract, step_fieldAddr, step_field, step_nilChk, step_idxAddr, step_idxStr, step_load, step_store, step_slc, step_slcStr, step_mkSlice, step_toStr, step_append, step_copy, step_buildSlice, step_build, step_new, step_call, Option.bind_some, Option.map_some, AOpd.val, Fr.at_put, at_ofArgs, Wo_some, Then_normal, Then_exit, Then_ret, InBlock_normal, InBlock_ret, InBlock_exit, Ends_ret, Ends_normal, res_nil, res_tmp, tuple_one, tuple_two, some_one, CondC_true, bin_add, bin_sub, bin_mul, bin_eql, bin_neq, bin_lss, bin_leq, bin_gtr, bin_geq, bin_str_eql, bin_str_neq, un_not, toInt_int, lenStr_str, pick_bool, List.getElem?_cons_zero, List.getElem?_cons_succ, Option.getD_some, Option.getD_none, List.map_cons, List.map_nil, Option.map_none, List.length_map, Nat.reduceEqDiff, if_true, if_false, reduceCtorEq, Nat.reduceAdd, Nat.reduceBEq, guardB_tt, guardB_ff, guardB_tf, guardB_ft, guardB_none, pick_t, pick_f, beq_self_eq_true, bne_self_eq_false, decide_true, decide_false, Bool.not_true, Bool.not_false, put_none, len_slice, len_nil, rest_mk, ThenC_normal, ThenC_exit, ThenC_ret, CondC_false, CondC_both, extract_0, extract_1, extract_2]
      exact ⟨trivial, trivial⟩
  · simp only [wpc_first, wpc_ops, wpc_skip, wpc_exit, wpc_ret, wpc_block, wpc_test, ops_next, ops_nil, ops_test, step_mov, step_bin, step_un, step_pick, step_eqB, step_eqNil, step_toInt, step_lenStr, step_lenSlice, step_extract, step_fieldAddr, step_field, step_nilChk, step_idxAddr, step_idxStr, step_load, step_store, step_slc, step_slcStr, step_mkSlice, step_toStr, step_append, step_copy, step_buildSlice, step_build, step_new, step_call, Option.bind_some, Option.map_some, AOpd.val, Fr.at_put, at_ofArgs, Wo_some, Then_normal, Then_exit, Then_ret, InBlock_normal, InBlock_ret, InBlock_exit, Ends_ret, Ends_normal, res_nil, res_tmp, tuple_one, tuple_two, some_one, CondC_true, bin_add, bin_sub, bin_mul, bin_eql, bin_neq, bin_lss, bin_leq, bin_gtr, bin_geq, bin_str_eql, bin_str_neq, un_not, toInt_int, lenStr_str, pick_bool, List.getElem?_cons_zero, List.getElem?_cons_succ, Option.getD_some, Option.getD_none, List.map_cons, List.map_nil, Option.map_none, List.length_map, Nat.reduceEqDiff, if_true, if_false, reduceCtorEq, Nat.reduceAdd, Nat.reduceBEq, guardB_tt, guardB_ff, guardB_tf, guardB_ft, guardB_none, pick_t, pick_f, beq_self_eq_true, bne_self_eq_false, decide_true, decide_false, Bool.not_true, Bool.not_false, put_none, len_slice, len_nil, rest_mk, ThenC_normal, ThenC_exit, ThenC_ret, CondC_false, CondC_both, extract_0, extract_1, extract_2]
    exact ⟨trivial, trivial, trivial⟩
end Go.Proofs.Ytcnghmfmokmnpaa

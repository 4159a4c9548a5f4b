/- The law ArenaFills on the machine, from the beginning. -/
import Derived.Test.YtejjkienklaghaaP4W
namespace Go.Proofs.Ytejjkienklaghaa
open Go.Vm
set_option linter.unusedSimpArgs false
set_option linter.unusedVariables false
variable {T : Vm.Prog} {h : AH}
theorem c8_parts : c8 = (.seq (.ops [⟨(some 6), .mov (.con (.bool false)), none⟩])
  (.seq (.ops [⟨(some 26), .mov (.tmp 0), none⟩,
    ⟨(some 27), .call 14 [(.tmp 26), (.con (.int .i64 0)), (.con (.int .i64 4))], none⟩,
    ⟨(some 7), .mov (.tmp 27), none⟩])
  (.seq (.ops [⟨(some 8), .new [(.int .i64 0), (.int .i64 0), (.int .i64 0), (.int .i64 0), (.int .i64 0)], none⟩])
  (.seq (.ops [⟨(some 28), .mov (.tmp 7), none⟩,
    ⟨(some 29), .idxAddrArr 5 1 (.tmp 8) (.tmp 28), none⟩,
    ⟨none, .store 1 (.tmp 29) (.con (.int .i64 1)), none⟩])
  (.seq (.ops [⟨(some 31), .load true 5 (.tmp 8), none⟩,
    ⟨(some 32), .call 9 [(.tmp 31)], none⟩,
    ⟨(some 30), .mov (.tmp 32), none⟩,
    ⟨(some 33), .extract (.tmp 30) 0, none⟩,
    ⟨(some 34), .extract (.tmp 30) 1, none⟩,
    ⟨(some 9), .mov (.tmp 33), none⟩,
    ⟨(some 10), .mov (.tmp 34), none⟩])
  (.seq (.seq (.ops [⟨(some 35), .mov (.tmp 9), none⟩,
    ⟨(some 36), .eqNil 0 false (.tmp 35) (.con .nilPtr), none⟩,
    ⟨(some 37), .mov (.tmp 36), none⟩,
    ⟨(some 38), .mov (.tmp 10), (some (37, false))⟩,
    ⟨(some 39), .bin .neq (.tmp 38) (.con (.int .i64 0)), (some (37, false))⟩,
    ⟨(some 40), .pick (.tmp 37) (.con (.bool true)) (.tmp 39), none⟩])
  (.cond (.tmp 40)
  (.seq (.ops [⟨(some 6), .mov (.con (.bool false)), none⟩])
  .ret)
  .skip))
  (.seq (.ops [⟨(some 41), .mov (.tmp 7), none⟩,
    ⟨(some 42), .call 27 [(.tmp 41)], none⟩,
    ⟨(some 11), .mov (.tmp 42), none⟩])
  (.seq (.seq (.ops [⟨(some 43), .mov (.tmp 11), none⟩,
    ⟨(some 44), .bin .lss (.tmp 43) (.con (.int .i64 1)), none⟩,
    ⟨(some 45), .mov (.tmp 44), none⟩,
    ⟨(some 46), .mov (.tmp 11), (some (45, false))⟩,
    ⟨(some 47), .bin .gtr (.tmp 46) (.con (.int .i64 300)), (some (45, false))⟩,
    ⟨(some 48), .pick (.tmp 45) (.con (.bool true)) (.tmp 47), none⟩])
  (.cond (.tmp 48)
  (.seq (.ops [⟨(some 6), .mov (.con (.bool false)), none⟩])
  .ret)
  .skip))
  (.seq (.ops [⟨(some 49), .mov (.tmp 1), none⟩,
    ⟨(some 50), .mov (.tmp 11), none⟩,
    ⟨(some 51), .call 14 [(.tmp 49), (.con (.int .i64 0)), (.tmp 50)], none⟩,
    ⟨(some 12), .mov (.tmp 51), none⟩])
  (.seq (.ops [⟨(some 52), .mov (.tmp 12), none⟩,
    ⟨(some 53), .mkSlice 1 8 [(.int .u64 0)] (.tmp 52) (.tmp 52), none⟩,
    ⟨(some 13), .mov (.tmp 53), none⟩])
  (.seq (.seq (.ops [⟨(some 54), .mov (.tmp 13), none⟩,
    ⟨(some 55), .lenSlice (.tmp 54), none⟩,
    ⟨(some 56), .mov (.con (.int .i64 0)), none⟩])
  (.block 0 (.loop c8l0)))
  c8b))))))))))) := rfl
theorem c8b_parts : c8b = (.seq (.ops [⟨(some 68), .mov (.tmp 9), none⟩,
    ⟨(some 69), .mov (.tmp 7), none⟩,
    ⟨(some 70), .mov (.tmp 13), none⟩,
    ⟨(some 71), .call 10 [(.tmp 68), (.tmp 69), (.tmp 70)], none⟩,
    ⟨(some 67), .mov (.tmp 71), none⟩,
    ⟨(some 72), .extract (.tmp 67) 0, none⟩,
    ⟨(some 73), .extract (.tmp 67) 1, none⟩,
    ⟨(some 15), .mov (.tmp 72), none⟩,
    ⟨(some 16), .mov (.tmp 73), none⟩])
  (.seq (.ops [⟨(some 75), .mov (.tmp 9), none⟩,
    ⟨(some 76), .mov (.tmp 15), none⟩,
    ⟨(some 77), .call 11 [(.tmp 75), (.tmp 76)], none⟩,
    ⟨(some 74), .mov (.tmp 77), none⟩,
    ⟨(some 78), .extract (.tmp 74) 0, none⟩,
    ⟨(some 79), .extract (.tmp 74) 1, none⟩,
    ⟨(some 17), .mov (.tmp 78), none⟩,
    ⟨(some 18), .mov (.tmp 79), none⟩])
  (.seq (.seq (.ops [⟨(some 80), .mov (.tmp 16), none⟩,
    ⟨(some 81), .bin .neq (.tmp 80) (.con (.int .i64 0)), none⟩,
    ⟨(some 82), .mov (.tmp 81), none⟩,
    ⟨(some 83), .mov (.tmp 18), (some (82, false))⟩,
    ⟨(some 84), .bin .neq (.tmp 83) (.con (.int .i64 0)), (some (82, false))⟩,
    ⟨(some 85), .pick (.tmp 82) (.con (.bool true)) (.tmp 84), none⟩,
    ⟨(some 86), .mov (.tmp 85), none⟩,
    ⟨(some 87), .mov (.tmp 17), (some (86, false))⟩,
    ⟨(some 88), .lenSlice (.tmp 87), (some (86, false))⟩,
    ⟨(some 89), .mov (.tmp 11), (some (86, false))⟩,
    ⟨(some 90), .bin .neq (.tmp 88) (.tmp 89), (some (86, false))⟩,
    ⟨(some 91), .pick (.tmp 86) (.con (.bool true)) (.tmp 90), none⟩])
  (.cond (.tmp 91)
  (.seq (.ops [⟨(some 6), .mov (.con (.bool false)), none⟩])
  .ret)
  .skip))
  (.seq (.seq (.ops [⟨(some 92), .mov (.tmp 17), none⟩,
    ⟨(some 93), .lenSlice (.tmp 92), none⟩,
    ⟨(some 94), .mov (.con (.int .i64 0)), none⟩])
  (.block 2 (.loop c8l1)))
  c8c)))) := rfl
/-- A slot is filled, and read. -/
theorem fills_mid (k : Fits T) {c kk : Nat} (hc5 : c < 5) {a : Nat} {sv : AV} {S : List Slot} {Q : List PR} {ns : List Nat} {v : Int} {wo : Nat} (A : Arena h a sv S Q) (hl : Low h) (h5 : ns.length = 5) (hns : ns.sum = 1) (hnc : ns[c]? = some 1) (hQ : Q.length = 5) (M : Made ns 5 0 S Q) (hkk : kk ≤ sizeN c)
    (hw : h.get wo = some (.cells (wcells (wvs v kk)) true)) (hwo : ∀ o, (o = a ∨ o ∈ objs sv ∨ ∃ q ∈ Q, o ∈ q.foot) → o ≠ wo)
    {f : Fr} (f2 : f.at 2 = .int .u64 v) (f7 : f.at 7 = .int .i64 (c : Nat)) (f9 : f.at 9 = .ptr a 0) (f11 : f.at 11 = .int .i64 (sizeN c : Nat)) (f12 : f.at 12 = .int .i64 (kk : Nat)) (f13 : f.at 13 = .slice wo 0 1 kk kk true) :
    Wp (code T c8b f h) (Vm.Ends [.tmp 6] fun r _ => r = .bool true) := by
  have hN := sizeN_le c
  have hwl : (wvs v kk).length = kk := wvs_len v kk
  obtain ⟨q, hq⟩ : ∃ q, Q[c]? = some q := ⟨_, List.getElem?_eq_getElem (by omega)⟩
  have hq1 := M.room c q 1 hq hnc hc5
  obtain ⟨m1, m2⟩ := M.all h5 hQ
  have hwlt : wo < h.next := hl _ _ hw
  have sr : Src h (.slice wo 0 1 kk kk true) (wvs v kk) := .inr ⟨wo, 0, kk, true, _, true, by rw [hwl], hw, by rw [wcells_len]; omega, by rw [List.drop_zero, List.take_of_length_le (by rw [wcells_len]; omega)]⟩
  have hqm := List.mem_of_getElem? hq
  simp only [c8b_parts, wpc_first, wpc_ops, wpc_skip, wpc_exit, wpc_ret, wpc_block, wpc_test, ops_next, ops_nil, ops_test, step_mov, step_bin, step_un, step_pick, step_eqB, step_eqNil, step_toInt, step_lenStr, step_lenSlice, step_extract, step_fieldAddr, step_field, step_nilChk, step_idxAddr, step_idxStr, step_load, step_store, step_slc, step_slcStr, step_mkSlice, step_toStr, step_append, step_copy, step_buildSlice, step_build, step_new, step_call, Option.bind_some, Option.map_some, AOpd.val, Fr.at_put, at_ofArgs, Wo_some, Then_normal, Then_exit, Then_ret, InBlock_normal, InBlock_ret, InBlock_exit, Ends_ret, Ends_normal, res_nil, res_tmp, tuple_one, tuple_two, some_one, CondC_true, bin_add, bin_sub, bin_mul, bin_eql, bin_neq, bin_lss, bin_leq, bin_gtr, bin_geq, bin_str_eql, bin_str_neq, un_not, toInt_int, lenStr_str, pick_bool, List.getElem?_cons_zero, List.getElem?_cons_succ, Option.getD_some, Option.getD_none, List.map_cons, List.map_nil, Option.map_none, List.length_map, Nat.reduceEqDiff, if_true, if_false, reduceCtorEq, Nat.reduceAdd, Nat.reduceBEq, guardB_tt, guardB_ff, guardB_tf, guardB_ft, guardB_none, pick_t, pick_f, beq_self_eq_true, bne_self_eq_false, decide_true, decide_false, Bool.not_true, Bool.not_false, put_none, len_slice, len_nil, rest_mk, ThenC_normal, ThenC_exit, ThenC_ret, CondC_false, CondC_both, extract_0, extract_1, extract_2, step_callM, callMV_iface, meth_self, meth_deref, find_cons, bif_true, bif_false, step_mkIface, step_mkMap, step_assertT, assert_same, assert_same_ok, step_lookup, step_mapUpd, step_del, step_idxArr, step_idxAddrArr, items_nil, items_next, restI_mk, wpc_draw, step_box, step_eqAgg, f2, f7, f9, f11, f12, f13]
  refine Gives.bind ((alloc_ok k A hl hc5 hq sr (fun o ho => by
      simp [objs] at ho; subst ho
      exact ⟨fun e => hwo _ (.inr (.inl e)) rfl, fun e => hwo _ (.inr (.inr ⟨q, hqm, e⟩)) rfl⟩) (fun o ho => by simp [objs] at ho; subst ho; exact hwlt) (by omega) (fun y hy => by
      obtain ⟨n, x, e1, e2, e3⟩ := M.free.2 c q hq y hy
      have := (List.getElem?_eq_some_iff.1 e2).1
      have e4 := (M.free.1 n x e2).1
      exact ⟨n, x, e1, e2, e3, by omega, by omega, by omega⟩)).mono ?_)
  rintro _ h1 ⟨hal, on1, lo1⟩
  rcases hal with ⟨hnil, _⟩ | ⟨n, x, L', q', w, hx, hperm, _, rfl, ⟨rp, rm, rL, rf⟩, A1, hwf⟩
  · rw [hnil] at hq1; simp at hq1
  obtain ⟨g1, g2, g3, q2, g4, g5⟩ := M.free.1 n x hx
  have hcls : x.cls = c := by
    obtain ⟨n', x', e1, e2, e3⟩ := M.free.2 c q hq ((n : Nat) : Int) (hperm.mem_iff.1 (by simp))
    have e4 : n = n' := Int.ofNat.inj e1
    subst e4
    rw [hx] at e2; cases e2; exact e3
  have hn := (List.getElem?_eq_some_iff.1 hx).1
  have hL0 : L'.length = 0 := by
    have := hperm.length_eq
    simp at this; omega
  obtain ⟨X, hX⟩ : ∃ X : Slot, X = { x with live := true, ws := padW (wvs v kk) (sizeN c), wv := w } := ⟨_, rfl⟩
  rw [← hX] at A1
  have hx1 : (S.set n X)[n]? = some X := by rw [List.getElem?_set, if_pos rfl, if_pos hn]
  have Xcls : X.cls = c := by rw [hX]; exact hcls
  have Xgen : X.gen = x.gen := by rw [hX]
  have Xlive : X.live = true := by rw [hX]
  have Xws : X.ws = padW (wvs v kk) (sizeN c) := by rw [hX]
  have hv : Valid n X.gen := by
    rw [Xgen]; exact ⟨by omega, by omega, by omega⟩
  have hgood : OfIs (S.set n X) ((refN n x.gen (c == 0) : Nat) : Int) (.ok n) := .good n X hv (by rw [Xcls, Xgen]) hx1 Xlive
  simp only [wpc_first, wpc_ops, wpc_skip, wpc_exit, wpc_ret, wpc_block, wpc_test, ops_next, ops_nil, ops_test, step_mov, step_bin, step_un, step_pick, step_eqB, step_eqNil, step_toInt, step_lenStr, step_lenSlice, step_extract, step_fieldAddr, step_field, step_nilChk, step_idxAddr, step_idxStr, step_load, step_store, step_slc, step_slcStr, step_mkSlice, step_toStr, step_append, step_copy, step_buildSlice, step_build, step_new, step_call, Option.bind_some, Option.map_some, AOpd.val, Fr.at_put, at_ofArgs, Wo_some, Then_normal, Then_exit, Then_ret, InBlock_normal, InBlock_ret, InBlock_exit, Ends_ret, Ends_normal, res_nil, res_tmp, tuple_one, tuple_two, some_one, CondC_true, bin_add, bin_sub, bin_mul, bin_eql, bin_neq, bin_lss, bin_leq, bin_gtr, bin_geq, bin_str_eql, bin_str_neq, un_not, toInt_int, lenStr_str, pick_bool, List.getElem?_cons_zero, List.getElem?_cons_succ, Option.getD_some, Option.getD_none, List.map_cons, List.map_nil, Option.map_none, List.length_map, Nat.reduceEqDiff, if_true, if_false, reduceCtorEq, Nat.reduceAdd, Nat.reduceBEq, guardB_tt, guardB_ff, guardB_tf, guardB_ft, guardB_none, pick_t, pick_f, beq_self_eq_true, bne_self_eq_false, decide_true, decide_false, Bool.not_true, Bool.not_false, put_none, len_slice, len_nil, rest_mk, ThenC_normal, ThenC_exit, ThenC_ret, CondC_false, CondC_both, extract_0, extract_1, extract_2, step_callM, callMV_iface, meth_self, meth_deref, find_cons, bif_true, bif_false, step_mkIface, step_mkMap, step_assertT, assert_same, assert_same_ok, step_lookup, step_mapUpd, step_del, step_idxArr, step_idxAddrArr, items_nil, items_next, restI_mk, wpc_draw, step_box, step_eqAgg, f2, f7, f9, f11, f12, f13]
  refine Gives.bind ((aload_ok k A1 lo1 ((refN n x.gen (c == 0) : Nat) : Int)).mono ?_)
  rintro _ h2 (⟨e, he, _⟩ | ⟨n', x', lv, hok, hx', rfl, hcm, hfm, on2, lo2⟩)
  · have := he.unique hgood; cases this
  have hn' := hok.unique hgood
  cases hn'
  rw [hx1] at hx'; cases hx'
  have A2 := A1.grow lo1 on2
  have hpl : X.ws.length = sizeN c := by rw [Xws, padW_len (by omega)]
  have hll := copy_len hcm
  rw [hpl] at hll
  have hne : ((((sizeN c : Nat) : Int)) != ((sizeN c : Nat) : Int)) = false := by simp
  simp only [wpc_first, wpc_ops, wpc_skip, wpc_exit, wpc_ret, wpc_block, wpc_test, ops_next, ops_nil, ops_test, step_mov, step_bin, step_un, step_pick, step_eqB, step_eqNil, step_toInt, step_lenStr, step_lenSlice, step_extract, step_fieldAddr, step_field, step_nilChk, step_idxAddr, step_idxStr, step_load, step_store, step_slc, step_slcStr, step_mkSlice, step_toStr, step_append, step_copy, step_buildSlice, step_build, step_new, step_call, Option.bind_some, Option.map_some, AOpd.val, Fr.at_put, at_ofArgs, Wo_some, Then_normal, Then_exit, Then_ret, InBlock_normal, InBlock_ret, InBlock_exit, Ends_ret, Ends_normal, res_nil, res_tmp, tuple_one, tuple_two, some_one, CondC_true, bin_add, bin_sub, bin_mul, bin_eql, bin_neq, bin_lss, bin_leq, bin_gtr, bin_geq, bin_str_eql, bin_str_neq, un_not, toInt_int, lenStr_str, pick_bool, List.getElem?_cons_zero, List.getElem?_cons_succ, Option.getD_some, Option.getD_none, List.map_cons, List.map_nil, Option.map_none, List.length_map, Nat.reduceEqDiff, if_true, if_false, reduceCtorEq, Nat.reduceAdd, Nat.reduceBEq, guardB_tt, guardB_ff, guardB_tf, guardB_ft, guardB_none, pick_t, pick_f, beq_self_eq_true, bne_self_eq_false, decide_true, decide_false, Bool.not_true, Bool.not_false, put_none, len_slice, len_nil, rest_mk, ThenC_normal, ThenC_exit, ThenC_ret, CondC_false, CondC_both, extract_0, extract_1, extract_2, step_callM, callMV_iface, meth_self, meth_deref, find_cons, bif_true, bif_false, step_mkIface, step_mkMap, step_assertT, assert_same, assert_same_ok, step_lookup, step_mapUpd, step_del, step_idxArr, step_idxAddrArr, items_nil, items_next, restI_mk, wpc_draw, step_box, step_eqAgg, f2, f7, f9, f11, f12, f13, show ((0 : Int) != 0) = false from rfl, hll, hne]
  have hsz : sumL (Q.set c q') = 0 := by
    have hall : ∀ (Q : List PR) (ns : List Nat) (c : Nat), Q.length = ns.length → ns.sum = 1 → ns[c]? = some 1 → (∀ (j : Nat) (q : PR) (n : Nat), Q[j]? = some q → ns[j]? = some n → q.L.length = n) → sumL (Q.set c q') = 0 := by
      intro Q ns c hl' hs hc hr
      have h1 := sum_rooms (ns.set c 0) (Q.set c q') (by simpa using hl') (fun j t m ht hm => by
        rw [List.getElem?_set] at ht hm
        by_cases e : c = j
        · subst e
          rw [if_pos rfl] at ht hm
          split at ht
          · cases ht
            split at hm
            · cases hm; rw [rL]; exact hL0
            · cases hm
          · cases ht
        · rw [if_neg e] at ht hm; exact hr j t m ht hm)
      rw [h1]
      have hcl := (List.getElem?_eq_some_iff.1 hc)
      have h2 : ∀ (m : List Nat) (i : Nat), m[i]? = some 1 → (m.set i 0).sum + 1 = m.sum := by
        intro m
        induction m with
        | nil => intro i h; cases h
        | cons b m ih =>
          intro i h
          cases i with
          | zero => simp at h; subst h; simp; omega
          | succ i =>
            have := ih i (by simpa using h)
            simp only [List.set_cons_succ, List.sum_cons]; omega
      have := h2 ns c hc
      omega
    exact hall Q ns c (by omega) hns hnc (fun j t m ht hm => M.room j t m ht hm (by have := (List.getElem?_eq_some_iff.1 ht).1; omega))
  refine wpc_loop (fun m f' h' => ∃ i, m = sizeN c - i ∧ i ≤ sizeN c ∧ h' = h2 ∧ f'.at 2 = .int .u64 v ∧ f'.at 7 = .int .i64 (c : Nat) ∧ f'.at 9 = .ptr a 0 ∧ f'.at 11 = .int .i64 (sizeN c : Nat) ∧ f'.at 12 = .int .i64 (kk : Nat) ∧ f'.at 15 = .int .i64 (refN n x.gen (c == 0) : Nat) ∧ f'.at 17 = lv ∧ f'.at 93 = .int .i64 (sizeN c : Nat) ∧ f'.at 94 = .int .i64 (i : Nat)) ?_ (sizeN c) _ _ ⟨0, rfl, Nat.zero_le _, rfl, ?_⟩
  · rintro m f' h' ⟨i, rfl, hi, rfl, f2, f7, f9, f11, f12, f15, f17, f93, f94⟩
    simp only [c8l1, wpc_first, wpc_ops, wpc_skip, wpc_exit, wpc_ret, wpc_block, wpc_test, ops_next, ops_nil, ops_test, step_mov, step_bin, step_un, step_pick, step_eqB, step_eqNil, step_toInt, step_lenStr, step_lenSlice, step_extract, step_fieldAddr, step_field, step_nilChk, step_idxAddr, step_idxStr, step_load, step_store, step_slc, step_slcStr, step_mkSlice, step_toStr, step_append, step_copy, step_buildSlice, step_build, step_new, step_call, Option.bind_some, Option.map_some, AOpd.val, Fr.at_put, at_ofArgs, Wo_some, Then_normal, Then_exit, Then_ret, InBlock_normal, InBlock_ret, InBlock_exit, Ends_ret, Ends_normal, res_nil, res_tmp, tuple_one, tuple_two, some_one, CondC_true, bin_add, bin_sub, bin_mul, bin_eql, bin_neq, bin_lss, bin_leq, bin_gtr, bin_geq, bin_str_eql, bin_str_neq, un_not, toInt_int, lenStr_str, pick_bool, List.getElem?_cons_zero, List.getElem?_cons_succ, Option.getD_some, Option.getD_none, List.map_cons, List.map_nil, Option.map_none, List.length_map, Nat.reduceEqDiff, if_true, if_false, reduceCtorEq, Nat.reduceAdd, Nat.reduceBEq, guardB_tt, guardB_ff, guardB_tf, guardB_ft, guardB_none, pick_t, pick_f, beq_self_eq_true, bne_self_eq_false, decide_true, decide_false, Bool.not_true, Bool.not_false, put_none, len_slice, len_nil, rest_mk, ThenC_normal, ThenC_exit, ThenC_ret, CondC_false, CondC_both, extract_0, extract_1, extract_2, step_callM, callMV_iface, meth_self, meth_deref, find_cons, bif_true, bif_false, step_mkIface, step_mkMap, step_assertT, assert_same, assert_same_ok, step_lookup, step_mapUpd, step_del, step_idxArr, step_idxAddrArr, items_nil, items_next, restI_mk, wpc_draw, step_box, step_eqAgg, f2, f7, f9, f11, f12, f15, f17, f93, f94]
    by_cases hlt : i < sizeN c
    · have hd : decide ((i : Int) < ((sizeN c : Nat) : Int)) = true := by rw [decide_eq_true_eq]; omega
      have hget := pad_get (ws := wvs v kk) (n := sizeN c) (i := i) (by omega) hlt
      rw [← Xws] at hget
      obtain ⟨p, hp1, hp2⟩ := copy_idx hcm hget
      have w1 : IntKind.i64.wrap ((i : Int) + 1) = ((i + 1 : Nat) : Int) := by rw [wrap_i64 (by omega) (by omega)]; rfl
      have w2 : IntKind.u64.wrap (i : Int) = (i : Int) := wrap_u64 (by omega)
      simp only [hd, wpc_first, wpc_ops, wpc_skip, wpc_exit, wpc_ret, wpc_block, wpc_test, ops_next, ops_nil, ops_test, step_mov, step_bin, step_un, step_pick, step_eqB, step_eqNil, step_toInt, step_lenStr, step_lenSlice, step_extract, step_fieldAddr, step_field, step_nilChk, step_idxAddr, step_idxStr, step_load, step_store, step_slc, step_slcStr, step_mkSlice, step_toStr, step_append, step_copy, step_buildSlice, step_build, step_new, step_call, Option.bind_some, Option.map_some, AOpd.val, Fr.at_put, at_ofArgs, Wo_some, Then_normal, Then_exit, Then_ret, InBlock_normal, InBlock_ret, InBlock_exit, Ends_ret, Ends_normal, res_nil, res_tmp, tuple_one, tuple_two, some_one, CondC_true, bin_add, bin_sub, bin_mul, bin_eql, bin_neq, bin_lss, bin_leq, bin_gtr, bin_geq, bin_str_eql, bin_str_neq, un_not, toInt_int, lenStr_str, pick_bool, List.getElem?_cons_zero, List.getElem?_cons_succ, Option.getD_some, Option.getD_none, List.map_cons, List.map_nil, Option.map_none, List.length_map, Nat.reduceEqDiff, if_true, if_false, reduceCtorEq, Nat.reduceAdd, Nat.reduceBEq, guardB_tt, guardB_ff, guardB_tf, guardB_ft, guardB_none, pick_t, pick_f, beq_self_eq_true, bne_self_eq_false, decide_true, decide_false, Bool.not_true, Bool.not_false, put_none, len_slice, len_nil, rest_mk, ThenC_normal, ThenC_exit, ThenC_ret, CondC_false, CondC_both, extract_0, extract_1, extract_2, step_callM, callMV_iface, meth_self, meth_deref, find_cons, bif_true, bif_false, step_mkIface, step_mkMap, step_assertT, assert_same, assert_same_ok, step_lookup, step_mapUpd, step_del, step_idxArr, step_idxAddrArr, items_nil, items_next, restI_mk, wpc_draw, step_box, step_eqAgg, f2, f7, f9, f11, f12, f15, f17, f93, f94]
      by_cases hik : i < kk
      · have hd2 : decide ((i : Int) < ((kk : Nat) : Int)) = true := by rw [decide_eq_true_eq]; omega
        have hval : (if i < (wvs v kk).length then ((wvs v kk)[i]?).getD 0 else 0) = wv v i := by
          rw [if_pos (by omega)]; simp [wvs, hik]
        rw [hval] at hp2
        have hne2 : (((wv v i : Nat) : Int) != IntKind.u64.wrap (v + (i : Int))) = false := by rw [wv_cast]; simp
        simp only [hd2, wpc_first, wpc_ops, wpc_skip, wpc_exit, wpc_ret, wpc_block, wpc_test, ops_next, ops_nil, ops_test, step_mov, step_bin, step_un, step_pick, step_eqB, step_eqNil, step_toInt, step_lenStr, step_lenSlice, step_extract, step_fieldAddr, step_field, step_nilChk, step_idxAddr, step_idxStr, step_load, step_store, step_slc, step_slcStr, step_mkSlice, step_toStr, step_append, step_copy, step_buildSlice, step_build, step_new, step_call, Option.bind_some, Option.map_some, AOpd.val, Fr.at_put, at_ofArgs, Wo_some, Then_normal, Then_exit, Then_ret, InBlock_normal, InBlock_ret, InBlock_exit, Ends_ret, Ends_normal, res_nil, res_tmp, tuple_one, tuple_two, some_one, CondC_true, bin_add, bin_sub, bin_mul, bin_eql, bin_neq, bin_lss, bin_leq, bin_gtr, bin_geq, bin_str_eql, bin_str_neq, un_not, toInt_int, lenStr_str, pick_bool, List.getElem?_cons_zero, List.getElem?_cons_succ, Option.getD_some, Option.getD_none, List.map_cons, List.map_nil, Option.map_none, List.length_map, Nat.reduceEqDiff, if_true, if_false, reduceCtorEq, Nat.reduceAdd, Nat.reduceBEq, guardB_tt, guardB_ff, guardB_tf, guardB_ft, guardB_none, pick_t, pick_f, beq_self_eq_true, bne_self_eq_false, decide_true, decide_false, Bool.not_true, Bool.not_false, put_none, len_slice, len_nil, rest_mk, ThenC_normal, ThenC_exit, ThenC_ret, CondC_false, CondC_both, extract_0, extract_1, extract_2, step_callM, callMV_iface, meth_self, meth_deref, find_cons, bif_true, bif_false, step_mkIface, step_mkMap, step_assertT, assert_same, assert_same_ok, step_lookup, step_mapUpd, step_del, step_idxArr, step_idxAddrArr, items_nil, items_next, restI_mk, wpc_draw, step_box, step_eqAgg, f2, f7, f9, f11, f12, f15, f17, f93, f94, w2, hp1, hp2, hne2, w1]
        exact ⟨sizeN c - (i + 1), by omega, i + 1, rfl, by omega, trivial, trivial, trivial, trivial, trivial, trivial, trivial, trivial, trivial, rfl⟩
      · have hd2 : decide ((i : Int) < ((kk : Nat) : Int)) = false := by rw [decide_eq_false_iff_not]; omega
        have hval : (if i < (wvs v kk).length then ((wvs v kk)[i]?).getD 0 else 0) = 0 := if_neg (by omega)
        rw [hval] at hp2
        simp only [hd2, wpc_first, wpc_ops, wpc_skip, wpc_exit, wpc_ret, wpc_block, wpc_test, ops_next, ops_nil, ops_test, step_mov, step_bin, step_un, step_pick, step_eqB, step_eqNil, step_toInt, step_lenStr, step_lenSlice, step_extract, step_fieldAddr, step_field, step_nilChk, step_idxAddr, step_idxStr, step_load, step_store, step_slc, step_slcStr, step_mkSlice, step_toStr, step_append, step_copy, step_buildSlice, step_build, step_new, step_call, Option.bind_some, Option.map_some, AOpd.val, Fr.at_put, at_ofArgs, Wo_some, Then_normal, Then_exit, Then_ret, InBlock_normal, InBlock_ret, InBlock_exit, Ends_ret, Ends_normal, res_nil, res_tmp, tuple_one, tuple_two, some_one, CondC_true, bin_add, bin_sub, bin_mul, bin_eql, bin_neq, bin_lss, bin_leq, bin_gtr, bin_geq, bin_str_eql, bin_str_neq, un_not, toInt_int, lenStr_str, pick_bool, List.getElem?_cons_zero, List.getElem?_cons_succ, Option.getD_some, Option.getD_none, List.map_cons, List.map_nil, Option.map_none, List.length_map, Nat.reduceEqDiff, if_true, if_false, reduceCtorEq, Nat.reduceAdd, Nat.reduceBEq, guardB_tt, guardB_ff, guardB_tf, guardB_ft, guardB_none, pick_t, pick_f, beq_self_eq_true, bne_self_eq_false, decide_true, decide_false, Bool.not_true, Bool.not_false, put_none, len_slice, len_nil, rest_mk, ThenC_normal, ThenC_exit, ThenC_ret, CondC_false, CondC_both, extract_0, extract_1, extract_2, step_callM, callMV_iface, meth_self, meth_deref, find_cons, bif_true, bif_false, step_mkIface, step_mkMap, step_assertT, assert_same, assert_same_ok, step_lookup, step_mapUpd, step_del, step_idxArr, step_idxAddrArr, items_nil, items_next, restI_mk, wpc_draw, step_box, step_eqAgg, f2, f7, f9, f11, f12, f15, f17, f93, f94, hp1, hp2, show (((0 : Nat) : Int) != 0) = false from rfl, w1]
        exact ⟨sizeN c - (i + 1), by omega, i + 1, rfl, by omega, trivial, trivial, trivial, trivial, trivial, trivial, trivial, trivial, trivial, rfl⟩
    · have hd : decide ((i : Int) < ((sizeN c : Nat) : Int)) = false := by rw [decide_eq_false_iff_not]; omega
      simp only [hd, wpc_first, wpc_ops, wpc_skip, wpc_exit, wpc_ret, wpc_block, wpc_test, ops_next, ops_nil, ops_test, step_mov, step_bin, step_un, step_pick, step_eqB, step_eqNil, step_toInt, step_lenStr, step_lenSlice, step_extract, step_fieldAddr, step_field, step_nilChk, step_idxAddr, step_idxStr, step_load, step_store, step_slc, step_slcStr, step_mkSlice, step_toStr, step_append, step_copy, step_buildSlice, step_build, step_new, step_call, Option.bind_some, Option.map_some, AOpd.val, Fr.at_put, at_ofArgs, Wo_some, Then_normal, Then_exit, Then_ret, InBlock_normal, InBlock_ret, InBlock_exit, Ends_ret, Ends_normal, res_nil, res_tmp, tuple_one, tuple_two, some_one, CondC_true, bin_add, bin_sub, bin_mul, bin_eql, bin_neq, bin_lss, bin_leq, bin_gtr, bin_geq, bin_str_eql, bin_str_neq, un_not, toInt_int, lenStr_str, pick_bool, List.getElem?_cons_zero, List.getElem?_cons_succ, Option.getD_some, Option.getD_none, List.map_cons, List.map_nil, Option.map_none, List.length_map, Nat.reduceEqDiff, if_true, if_false, reduceCtorEq, Nat.reduceAdd, Nat.reduceBEq, guardB_tt, guardB_ff, guardB_tf, guardB_ft, guardB_none, pick_t, pick_f, beq_self_eq_true, bne_self_eq_false, decide_true, decide_false, Bool.not_true, Bool.not_false, put_none, len_slice, len_nil, rest_mk, ThenC_normal, ThenC_exit, ThenC_ret, CondC_false, CondC_both, extract_0, extract_1, extract_2, step_callM, callMV_iface, meth_self, meth_deref, find_cons, bif_true, bif_false, step_mkIface, step_mkMap, step_assertT, assert_same, assert_same_ok, step_lookup, step_mapUpd, step_del, step_idxArr, step_idxAddrArr, items_nil, items_next, restI_mk, wpc_draw, step_box, step_eqAgg]
      have hqc : (Q.set c q')[c]? = some q' := by rw [List.getElem?_set, if_pos rfl, if_pos (by omega)]
      refine fills_end k hc5 A2 lo2 (by simpa using hQ) (by simp; omega) hsz hqc (by rw [rL]; exact hL0) hx1 Xcls Xlive hv hcm ?_ ?_ ?_ ?_ ?_
      · simp only [wpc_first, wpc_ops, wpc_skip, wpc_exit, wpc_ret, wpc_block, wpc_test, ops_next, ops_nil, ops_test, step_mov, step_bin, step_un, step_pick, step_eqB, step_eqNil, step_toInt, step_lenStr, step_lenSlice, step_extract, step_fieldAddr, step_field, step_nilChk, step_idxAddr, step_idxStr, step_load, step_store, step_slc, step_slcStr, step_mkSlice, step_toStr, step_append, step_copy, step_buildSlice, step_build, step_new, step_call, Option.bind_some, Option.map_some, AOpd.val, Fr.at_put, at_ofArgs, Wo_some, Then_normal, Then_exit, Then_ret, InBlock_normal, InBlock_ret, InBlock_exit, Ends_ret, Ends_normal, res_nil, res_tmp, tuple_one, tuple_two, some_one, CondC_true, bin_add, bin_sub, bin_mul, bin_eql, bin_neq, bin_lss, bin_leq, bin_gtr, bin_geq, bin_str_eql, bin_str_neq, un_not, toInt_int, lenStr_str, pick_bool, List.getElem?_cons_zero, List.getElem?_cons_succ, Option.getD_some, Option.getD_none, List.map_cons, List.map_nil, Option.map_none, List.length_map, Nat.reduceEqDiff, if_true, if_false, reduceCtorEq, Nat.reduceAdd, Nat.reduceBEq, guardB_tt, guardB_ff, guardB_tf, guardB_ft, guardB_none, pick_t, pick_f, beq_self_eq_true, bne_self_eq_false, decide_true, decide_false, Bool.not_true, Bool.not_false, put_none, len_slice, len_nil, rest_mk, ThenC_normal, ThenC_exit, ThenC_ret, CondC_false, CondC_both, extract_0, extract_1, extract_2, step_callM, callMV_iface, meth_self, meth_deref, find_cons, bif_true, bif_false, step_mkIface, step_mkMap, step_assertT, assert_same, assert_same_ok, step_lookup, step_mapUpd, step_del, step_idxArr, step_idxAddrArr, items_nil, items_next, restI_mk, wpc_draw, step_box, step_eqAgg, f7]
      · simp only [wpc_first, wpc_ops, wpc_skip, wpc_exit, wpc_ret, wpc_block, wpc_test, ops_next, ops_nil, ops_test, step_mov, step_bin, step_un, step_pick, step_eqB, step_eqNil, step_toInt, step_lenStr, step_lenSlice, step_extract, step_fieldAddr, step_field, step_nilChk, step_idxAddr, step_idxStr, step_load, step_store, step_slc, step_slcStr, step_mkSlice, step_toStr, step_append, step_copy, step_buildSlice, step_build, step_new, step_call, Option.bind_some, Option.map_some, AOpd.val, Fr.at_put, at_ofArgs, Wo_some, Then_normal, Then_exit, Then_ret, InBlock_normal, InBlock_ret, InBlock_exit, Ends_ret, Ends_normal, res_nil, res_tmp, tuple_one, tuple_two, some_one, CondC_true, bin_add, bin_sub, bin_mul, bin_eql, bin_neq, bin_lss, bin_leq, bin_gtr, bin_geq, bin_str_eql, bin_str_neq, un_not, toInt_int, lenStr_str, pick_bool, List.getElem?_cons_zero, List.getElem?_cons_succ, Option.getD_some, Option.getD_none, List.map_cons, List.map_nil, Option.map_none, List.length_map, Nat.reduceEqDiff, if_true, if_false, reduceCtorEq, Nat.reduceAdd, Nat.reduceBEq, guardB_tt, guardB_ff, guardB_tf, guardB_ft, guardB_none, pick_t, pick_f, beq_self_eq_true, bne_self_eq_false, decide_true, decide_false, Bool.not_true, Bool.not_false, put_none, len_slice, len_nil, rest_mk, ThenC_normal, ThenC_exit, ThenC_ret, CondC_false, CondC_both, extract_0, extract_1, extract_2, step_callM, callMV_iface, meth_self, meth_deref, find_cons, bif_true, bif_false, step_mkIface, step_mkMap, step_assertT, assert_same, assert_same_ok, step_lookup, step_mapUpd, step_del, step_idxArr, step_idxAddrArr, items_nil, items_next, restI_mk, wpc_draw, step_box, step_eqAgg, f9]
      · simp only [wpc_first, wpc_ops, wpc_skip, wpc_exit, wpc_ret, wpc_block, wpc_test, ops_next, ops_nil, ops_test, step_mov, step_bin, step_un, step_pick, step_eqB, step_eqNil, step_toInt, step_lenStr, step_lenSlice, step_extract, step_fieldAddr, step_field, step_nilChk, step_idxAddr, step_idxStr, step_load, step_store, step_slc, step_slcStr, step_mkSlice, step_toStr, step_append, step_copy, step_buildSlice, step_build, step_new, step_call, Option.bind_some, Option.map_some, AOpd.val, Fr.at_put, at_ofArgs, Wo_some, Then_normal, Then_exit, Then_ret, InBlock_normal, InBlock_ret, InBlock_exit, Ends_ret, Ends_normal, res_nil, res_tmp, tuple_one, tuple_two, some_one, CondC_true, bin_add, bin_sub, bin_mul, bin_eql, bin_neq, bin_lss, bin_leq, bin_gtr, bin_geq, bin_str_eql, bin_str_neq, un_not, toInt_int, lenStr_str, pick_bool, List.getElem?_cons_zero, List.getElem?_cons_succ, Option.getD_some, Option.getD_none, List.map_cons, List.map_nil, Option.map_none, List.length_map, Nat.reduceEqDiff, if_true, if_false, reduceCtorEq, Nat.reduceAdd, Nat.reduceBEq, guardB_tt, guardB_ff, guardB_tf, guardB_ft, guardB_none, pick_t, pick_f, beq_self_eq_true, bne_self_eq_false, decide_true, decide_false, Bool.not_true, Bool.not_false, put_none, len_slice, len_nil, rest_mk, ThenC_normal, ThenC_exit, ThenC_ret, CondC_false, CondC_both, extract_0, extract_1, extract_2, step_callM, callMV_iface, meth_self, meth_deref, find_cons, bif_true, bif_false, step_mkIface, step_mkMap, step_assertT, assert_same, assert_same_ok, step_lookup, step_mapUpd, step_del, step_idxArr, step_idxAddrArr, items_nil, items_next, restI_mk, wpc_draw, step_box, step_eqAgg, f11]
      · simp only [wpc_first, wpc_ops, wpc_skip, wpc_exit, wpc_ret, wpc_block, wpc_test, ops_next, ops_nil, ops_test, step_mov, step_bin, step_un, step_pick, step_eqB, step_eqNil, step_toInt, step_lenStr, step_lenSlice, step_extract, step_fieldAddr, step_field, step_nilChk, step_idxAddr, step_idxStr, step_load, step_store, step_slc, step_slcStr, step_mkSlice, step_toStr, step_append, step_copy, step_buildSlice, step_build, step_new, step_call, Option.bind_some, Option.map_some, AOpd.val, Fr.at_put, at_ofArgs, Wo_some, Then_normal, Then_exit, Then_ret, InBlock_normal, InBlock_ret, InBlock_exit, Ends_ret, Ends_normal, res_nil, res_tmp, tuple_one, tuple_two, some_one, CondC_true, bin_add, bin_sub, bin_mul, bin_eql, bin_neq, bin_lss, bin_leq, bin_gtr, bin_geq, bin_str_eql, bin_str_neq, un_not, toInt_int, lenStr_str, pick_bool, List.getElem?_cons_zero, List.getElem?_cons_succ, Option.getD_some, Option.getD_none, List.map_cons, List.map_nil, Option.map_none, List.length_map, Nat.reduceEqDiff, if_true, if_false, reduceCtorEq, Nat.reduceAdd, Nat.reduceBEq, guardB_tt, guardB_ff, guardB_tf, guardB_ft, guardB_none, pick_t, pick_f, beq_self_eq_true, bne_self_eq_false, decide_true, decide_false, Bool.not_true, Bool.not_false, put_none, len_slice, len_nil, rest_mk, ThenC_normal, ThenC_exit, ThenC_ret, CondC_false, CondC_both, extract_0, extract_1, extract_2, step_callM, callMV_iface, meth_self, meth_deref, find_cons, bif_true, bif_false, step_mkIface, step_mkMap, step_assertT, assert_same, assert_same_ok, step_lookup, step_mapUpd, step_del, step_idxArr, step_idxAddrArr, items_nil, items_next, restI_mk, wpc_draw, step_box, step_eqAgg, f15, Xgen]
      · simp only [wpc_first, wpc_ops, wpc_skip, wpc_exit, wpc_ret, wpc_block, wpc_test, ops_next, ops_nil, ops_test, step_mov, step_bin, step_un, step_pick, step_eqB, step_eqNil, step_toInt, step_lenStr, step_lenSlice, step_extract, step_fieldAddr, step_field, step_nilChk, step_idxAddr, step_idxStr, step_load, step_store, step_slc, step_slcStr, step_mkSlice, step_toStr, step_append, step_copy, step_buildSlice, step_build, step_new, step_call, Option.bind_some, Option.map_some, AOpd.val, Fr.at_put, at_ofArgs, Wo_some, Then_normal, Then_exit, Then_ret, InBlock_normal, InBlock_ret, InBlock_exit, Ends_ret, Ends_normal, res_nil, res_tmp, tuple_one, tuple_two, some_one, CondC_true, bin_add, bin_sub, bin_mul, bin_eql, bin_neq, bin_lss, bin_leq, bin_gtr, bin_geq, bin_str_eql, bin_str_neq, un_not, toInt_int, lenStr_str, pick_bool, List.getElem?_cons_zero, List.getElem?_cons_succ, Option.getD_some, Option.getD_none, List.map_cons, List.map_nil, Option.map_none, List.length_map, Nat.reduceEqDiff, if_true, if_false, reduceCtorEq, Nat.reduceAdd, Nat.reduceBEq, guardB_tt, guardB_ff, guardB_tf, guardB_ft, guardB_none, pick_t, pick_f, beq_self_eq_true, bne_self_eq_false, decide_true, decide_false, Bool.not_true, Bool.not_false, put_none, len_slice, len_nil, rest_mk, ThenC_normal, ThenC_exit, ThenC_ret, CondC_false, CondC_both, extract_0, extract_1, extract_2, step_callM, callMV_iface, meth_self, meth_deref, find_cons, bif_true, bif_false, step_mkIface, step_mkMap, step_assertT, assert_same, assert_same_ok, step_lookup, step_mapUpd, step_del, step_idxArr, step_idxAddrArr, items_nil, items_next, restI_mk, wpc_draw, step_box, step_eqAgg, f17]
  · simp only [wpc_first, wpc_ops, wpc_skip, wpc_exit, wpc_ret, wpc_block, wpc_test, ops_next, ops_nil, ops_test, step_mov, step_bin, step_un, step_pick, step_eqB, step_eqNil, step_toInt, step_lenStr, step_lenSlice, step_extract, step_fieldAddr, step_field, step_nilChk, step_idxAddr, step_idxStr, step_load, step_store, step_slc, step_slcStr, step_mkSlice, step_toStr, step_append, step_copy, step_buildSlice, step_build, step_new, step_call, Option.bind_some, Option.map_some, AOpd.val, Fr.at_put, at_ofArgs, Wo_some, Then_normal, Then_exit, Then_ret, InBlock_normal, InBlock_ret, InBlock_exit, Ends_ret, Ends_normal, res_nil, res_tmp, tuple_one, tuple_two, some_one, CondC_true, bin_add, bin_sub, bin_mul, bin_eql, bin_neq, bin_lss, bin_leq, bin_gtr, bin_geq, bin_str_eql, bin_str_neq, un_not, toInt_int, lenStr_str, pick_bool, List.getElem?_cons_zero, List.getElem?_cons_succ, Option.getD_some, Option.getD_none, List.map_cons, List.map_nil, Option.map_none, List.length_map, Nat.reduceEqDiff, if_true, if_false, reduceCtorEq, Nat.reduceAdd, Nat.reduceBEq, guardB_tt, guardB_ff, guardB_tf, guardB_ft, guardB_none, pick_t, pick_f, beq_self_eq_true, bne_self_eq_false, decide_true, decide_false, Bool.not_true, Bool.not_false, put_none, len_slice, len_nil, rest_mk, ThenC_normal, ThenC_exit, ThenC_ret, CondC_false, CondC_both, extract_0, extract_1, extract_2, step_callM, callMV_iface, meth_self, meth_deref, find_cons, bif_true, bif_false, step_mkIface, step_mkMap, step_assertT, assert_same, assert_same_ok, step_lookup, step_mapUpd, step_del, step_idxArr, step_idxAddrArr, items_nil, items_next, restI_mk, wpc_draw, step_box, step_eqAgg, f2, f7, f9, f11, f12, f13]
    exact ⟨trivial, trivial, trivial, trivial, trivial, trivial, trivial, trivial, rfl⟩
end Go.Proofs.Ytejjkienklaghaa

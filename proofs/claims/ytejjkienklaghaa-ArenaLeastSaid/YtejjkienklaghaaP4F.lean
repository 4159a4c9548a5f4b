/- Arenas: Alloc, Free. -/
import Derived.Test.YtejjkienklaghaaP4E
namespace Go.Proofs.Ytejjkienklaghaa
open Go.Vm
set_option linter.unusedSimpArgs false
set_option linter.unusedVariables false
variable {T : Vm.Prog} {h : AH}
theorem map_set_same {Q : List PR} {c : Nat} {q q' : PR} (hq : Q[c]? = some q) (e : q'.p = q.p) : ((Q.set c q').map fun q => AV.ptr q.p 0) = Q.map fun q => AV.ptr q.p 0 := by
  apply List.ext_getElem?
  intro i
  rw [List.getElem?_map, List.getElem?_map, List.getElem?_set]
  by_cases h1 : c = i
  · subst h1
    have := (List.getElem?_eq_some_iff.1 hq).1
    rw [if_pos rfl, if_pos this, hq]
    simp [e]
  · rw [if_neg h1]
/-- One pool was changed. -/
def Repooled (h : AH) (Q : List PR) (c : Nat) (q : PR) (L' : List Int) (q' : PR) : Prop := q'.p = q.p ∧ q'.mo = q.mo ∧ q'.L = L' ∧ ∀ o ∈ q'.foot, o ∈ q.foot ∨ h.next ≤ o
theorem Arena.pool {h' : AH} {a : Nat} {sv : AV} {S : List Slot} {Q : List PR} (A : Arena h a sv S Q) (hl : Low h) {c : Nat} {q : PR} (hq : Q[c]? = some q) {L' : List Int} (hp : PoolTo h q.p 1024 q.v q.mo L' h') :
    ∃ q', Repooled h Q c q L' q' ∧ Arena h' a sv S (Q.set c q') ∧ Only h h' q.foot ∧ Low h' := by
  obtain ⟨v', P, hv, on, lo⟩ := hp
  obtain ⟨l1, l2, l3, l4⟩ := A.low hl
  have hqm := List.mem_of_getElem? hq
  have hfoot : ∀ o ∈ (PR.mk q.p v' q.mo L').foot, o ∈ q.foot ∨ h.next ≤ o := by
    intro o ho
    simp only [PR.foot, foot, List.mem_cons] at ho ⊢
    rcases ho with h1 | h1 | h1
    · exact .inl (.inl h1)
    · exact .inl (.inr (.inl h1))
    · rcases hv o h1 with h2 | h2
      · exact .inl (.inr (.inr h2))
      · exact .inr h2
  have hmem : ∀ r ∈ Q.set c ⟨q.p, v', q.mo, L'⟩, (∃ i, i ≠ c ∧ Q[i]? = some r) ∨ r = ⟨q.p, v', q.mo, L'⟩ := by
    intro r hr
    obtain ⟨i, hi⟩ := List.getElem?_of_mem hr
    rw [List.getElem?_set] at hi
    by_cases e : c = i
    · subst e
      rw [if_pos rfl] at hi
      split at hi
      · cases hi; exact .inr rfl
      · cases hi
    · rw [if_neg e] at hi
      exact .inl ⟨i, Ne.symm e, hi⟩
  have hkeep : ∀ o, o < h.next → o ∉ q.foot → h'.get o = h.get o := fun o h1 h2 => on.2 o h1 h2
  refine ⟨⟨q.p, v', q.mo, L'⟩, ⟨rfl, rfl, rfl, hfoot⟩, ?_, on, lo⟩
  refine ⟨?_, by simpa using A.five, A.slots.keep fun o ho => hkeep o (l2 o ho) ((A.aside.2 q hqm).2 o ho), fun s hs => (A.words s hs).keep fun o ho => hkeep o (l4 s hs o ho) ((A.own s hs o ho).2.2 q hqm), ?_, ?_, ?_, ?_, A.kinds, A.small⟩
  · rw [hkeep a l1 (A.aside.2 q hqm).1, A.obj, map_set_same (q' := ⟨q.p, v', q.mo, L'⟩) hq rfl, List.length_set]
  · intro s hs o ho
    refine ⟨(A.own s hs o ho).1, (A.own s hs o ho).2.1, fun r hr => ?_⟩
    rcases hmem r hr with ⟨i, _, hi⟩ | rfl
    · exact (A.own s hs o ho).2.2 r (List.mem_of_getElem? hi)
    · intro h5
      rcases hfoot o h5 with h6 | h6
      · exact (A.own s hs o ho).2.2 q hqm h6
      · have := l4 s hs o ho; omega
  · intro r hr
    rcases hmem r hr with ⟨i, hic, hi⟩ | rfl
    · exact (A.pools r (List.mem_of_getElem? hi)).keep fun o ho => hkeep o (l3 r (List.mem_of_getElem? hi) o ho) (A.apart i c r q hic hi hq o ho)
    · exact P
  · refine ⟨A.aside.1, fun r hr => ?_⟩
    rcases hmem r hr with ⟨i, _, hi⟩ | rfl
    · exact A.aside.2 r (List.mem_of_getElem? hi)
    · refine ⟨fun h5 => ?_, fun o ho h5 => ?_⟩
      · rcases hfoot a h5 with h6 | h6
        · exact (A.aside.2 q hqm).1 h6
        · omega
      · rcases hfoot o h5 with h6 | h6
        · exact (A.aside.2 q hqm).2 o ho h6
        · have := l2 o ho; omega
  · intro i j r t hij hi hj o ho
    rw [List.getElem?_set] at hi hj
    by_cases e1 : c = i
    · subst e1
      rw [if_neg hij] at hj
      rw [if_pos rfl] at hi
      split at hi
      · cases hi
        intro h5
        rcases hfoot o ho with h6 | h6
        · exact A.apart c j q t hij hq hj o h6 h5
        · have := l3 t (List.mem_of_getElem? hj) o h5; omega
      · cases hi
    · rw [if_neg e1] at hi
      by_cases e2 : c = j
      · subst e2
        rw [if_pos rfl] at hj
        split at hj
        · cases hj
          intro h5
          rcases hfoot o h5 with h6 | h6
          · exact A.apart i c r q hij hi hq o ho h6
          · have := l3 r (List.mem_of_getElem? hi) o ho; omega
        · cases hj
      · rw [if_neg e2] at hj
        exact A.apart i j r t hij hi hj o ho
/-- What an allocation comes to. -/
def Alloced (h : AH) (a : Nat) (sv : AV) (S : List Slot) (Q : List PR) (c : Nat) (q : PR) (ws : List Nat) (r : AV) (h' : AH) : Prop :=
  (q.L = [] ∧ r = .tuple [.int .i64 0, .int .i64 2] ∧ ∃ q', Repooled h Q c q [] q' ∧ Arena h' a sv S (Q.set c q')) ∨
  (∃ n x L' q' w, S[n]? = some x ∧ (((n : Nat) : Int) :: L').Perm q.L ∧ (∀ y ∈ q.L, ((n : Nat) : Int) ≤ y) ∧ r = .tuple [.int .i64 (refN n x.gen (c == 0) : Nat), .int .i64 0] ∧ Repooled h Q c q L' q' ∧
    Arena h' a sv (S.set n { x with live := true, ws := padW ws (sizeN c), wv := w }) (Q.set c q') ∧ ∀ o ∈ objs w, h.next ≤ o)
theorem alloc_ok (k : Fits T) {a : Nat} {sv : AV} {S : List Slot} {Q : List PR} (A : Arena h a sv S Q) (hl : Low h) {c : Nat} (hc : c < 5) {q : PR} (hq : Q[c]? = some q) {v : AV} {ws : List Nat} (sr : Src h v ws) (hne : ∀ o ∈ objs v, o ∉ objs sv ∧ o ∉ q.foot) (hlt : ∀ o ∈ objs v, o < h.next) (hw : ws.length ≤ sizeN c)
    (hfree : ∀ y ∈ q.L, ∃ (n : Nat) (x : Slot), y = n ∧ S[n]? = some x ∧ x.cls = c ∧ Valid n x.gen) :
    Gives T 10 [.ptr a 0, .int .i64 (c : Int), v] h fun r h' => Alloced h a sv S Q c q ws r h' ∧ Only h h' (objs sv ++ q.foot) ∧ Low h' := by
  refine gives_func (k.env _ (by decide)) (k.at (fn := a10) rfl) rfl ?_
  have hN := sizeN_le c
  have d1 : decide ((c : Int) < 0) = false := by rw [decide_eq_false_iff_not]; omega
  have d2 : decide ((c : Int) ≥ 5) = false := by rw [decide_eq_false_iff_not]; omega
  have d3 : decide (((ws.length : Nat) : Int) > ((sizeN c : Nat) : Int)) = false := by rw [decide_eq_false_iff_not]; omega
  have nb : nilChkV (.ptr a 0) = some (.ptr a 0) := rfl
  have fa0 : fieldAddrV 0 (.ptr a 0) = some (.ptr a 0) := rfl
  have fa1 : fieldAddrV 1 (.ptr a 0) = some (.ptr a 1) := rfl
  simp only [a10, c10, wpc_first, wpc_ops, wpc_skip, wpc_exit, wpc_ret, wpc_block, wpc_test, ops_next, ops_nil, ops_test, step_mov, step_bin, step_un, step_pick, step_eqB, step_eqNil, step_toInt, step_lenStr, step_lenSlice, step_extract, step_fieldAddr, step_field, step_nilChk, step_idxAddr, step_idxStr, step_load, step_store, step_slc, step_slcStr, step_mkSlice, step_toStr, step_append, step_copy, step_buildSlice, step_build, step_new, step_call, Option.bind_some, Option.map_some, AOpd.val, Fr.at_put, at_ofArgs, Wo_some, Then_normal, Then_exit, Then_ret, InBlock_normal, InBlock_ret, InBlock_exit, Ends_ret, Ends_normal, res_nil, res_tmp, tuple_one, tuple_two, some_one, CondC_true, bin_add, bin_sub, bin_mul, bin_eql, bin_neq, bin_lss, bin_leq, bin_gtr, bin_geq, bin_str_eql, bin_str_neq, un_not, toInt_int, lenStr_str, pick_bool, List.getElem?_cons_zero, List.getElem?_cons_succ, Option.getD_some, Option.getD_none, List.map_cons, List.map_nil, Option.map_none, List.length_map, Nat.reduceEqDiff, if_true, if_false, reduceCtorEq, Nat.reduceAdd, Nat.reduceBEq, guardB_tt, guardB_ff, guardB_tf, guardB_ft, guardB_none, pick_t, pick_f, beq_self_eq_true, bne_self_eq_false, decide_true, decide_false, Bool.not_true, Bool.not_false, put_none, len_slice, len_nil, rest_mk, ThenC_normal, ThenC_exit, ThenC_ret, CondC_false, CondC_both, extract_0, extract_1, extract_2, step_callM, callMV_iface, meth_self, meth_deref, find_cons, bif_true, bif_false, step_mkIface, step_mkMap, step_assertT, assert_same, assert_same_ok, step_lookup, step_mapUpd, step_del, step_idxArr, step_idxAddrArr, items_nil, items_next, restI_mk, wpc_draw, step_box, step_eqAgg, d1, d2, sr.len]
  refine Gives.bind ((size_ok k hc).mono ?_)
  rintro _ _ ⟨rfl, rfl⟩
  rename_i h
  simp only [wpc_first, wpc_ops, wpc_skip, wpc_exit, wpc_ret, wpc_block, wpc_test, ops_next, ops_nil, ops_test, step_mov, step_bin, step_un, step_pick, step_eqB, step_eqNil, step_toInt, step_lenStr, step_lenSlice, step_extract, step_fieldAddr, step_field, step_nilChk, step_idxAddr, step_idxStr, step_load, step_store, step_slc, step_slcStr, step_mkSlice, step_toStr, step_append, step_copy, step_buildSlice, step_build, step_new, step_call, Option.bind_some, Option.map_some, AOpd.val, Fr.at_put, at_ofArgs, Wo_some, Then_normal, Then_exit, Then_ret, InBlock_normal, InBlock_ret, InBlock_exit, Ends_ret, Ends_normal, res_nil, res_tmp, tuple_one, tuple_two, some_one, CondC_true, bin_add, bin_sub, bin_mul, bin_eql, bin_neq, bin_lss, bin_leq, bin_gtr, bin_geq, bin_str_eql, bin_str_neq, un_not, toInt_int, lenStr_str, pick_bool, List.getElem?_cons_zero, List.getElem?_cons_succ, Option.getD_some, Option.getD_none, List.map_cons, List.map_nil, Option.map_none, List.length_map, Nat.reduceEqDiff, if_true, if_false, reduceCtorEq, Nat.reduceAdd, Nat.reduceBEq, guardB_tt, guardB_ff, guardB_tf, guardB_ft, guardB_none, pick_t, pick_f, beq_self_eq_true, bne_self_eq_false, decide_true, decide_false, Bool.not_true, Bool.not_false, put_none, len_slice, len_nil, rest_mk, ThenC_normal, ThenC_exit, ThenC_ret, CondC_false, CondC_both, extract_0, extract_1, extract_2, step_callM, callMV_iface, meth_self, meth_deref, find_cons, bif_true, bif_false, step_mkIface, step_mkMap, step_assertT, assert_same, assert_same_ok, step_lookup, step_mapUpd, step_del, step_idxArr, step_idxAddrArr, items_nil, items_next, restI_mk, wpc_draw, step_box, step_eqAgg, d3, nb, fa1, idxRow_nat hc, A.pool_load hq]
  have hP := A.pools q (List.mem_of_getElem? hq)
  refine Gives.bind ((take_ok k hP hl (by have := hP.count; omega)).mono ?_)
  rintro _ h1 (⟨hnil, rfl, hto⟩ | ⟨y, L', rfl, hperm, hleast, hto⟩)
  · obtain ⟨q', hrep, A', on, lo⟩ := A.pool hl hq hto
    simp only [wpc_first, wpc_ops, wpc_skip, wpc_exit, wpc_ret, wpc_block, wpc_test, ops_next, ops_nil, ops_test, step_mov, step_bin, step_un, step_pick, step_eqB, step_eqNil, step_toInt, step_lenStr, step_lenSlice, step_extract, step_fieldAddr, step_field, step_nilChk, step_idxAddr, step_idxStr, step_load, step_store, step_slc, step_slcStr, step_mkSlice, step_toStr, step_append, step_copy, step_buildSlice, step_build, step_new, step_call, Option.bind_some, Option.map_some, AOpd.val, Fr.at_put, at_ofArgs, Wo_some, Then_normal, Then_exit, Then_ret, InBlock_normal, InBlock_ret, InBlock_exit, Ends_ret, Ends_normal, res_nil, res_tmp, tuple_one, tuple_two, some_one, CondC_true, bin_add, bin_sub, bin_mul, bin_eql, bin_neq, bin_lss, bin_leq, bin_gtr, bin_geq, bin_str_eql, bin_str_neq, un_not, toInt_int, lenStr_str, pick_bool, List.getElem?_cons_zero, List.getElem?_cons_succ, Option.getD_some, Option.getD_none, List.map_cons, List.map_nil, Option.map_none, List.length_map, Nat.reduceEqDiff, if_true, if_false, reduceCtorEq, Nat.reduceAdd, Nat.reduceBEq, guardB_tt, guardB_ff, guardB_tf, guardB_ft, guardB_none, pick_t, pick_f, beq_self_eq_true, bne_self_eq_false, decide_true, decide_false, Bool.not_true, Bool.not_false, put_none, len_slice, len_nil, rest_mk, ThenC_normal, ThenC_exit, ThenC_ret, CondC_false, CondC_both, extract_0, extract_1, extract_2, step_callM, callMV_iface, meth_self, meth_deref, find_cons, bif_true, bif_false, step_mkIface, step_mkMap, step_assertT, assert_same, assert_same_ok, step_lookup, step_mapUpd, step_del, step_idxArr, step_idxAddrArr, items_nil, items_next, restI_mk, wpc_draw, step_box, step_eqAgg]
    refine ⟨.inl ⟨hnil, rfl, q', by rw [hnil] at hrep; exact hrep, A'⟩, ⟨on.1, fun o ho hF => on.2 o ho fun h5 => hF (by simp [h5])⟩, lo⟩
  · obtain ⟨q', hrep, A', on, lo⟩ := A.pool hl hq hto
    obtain ⟨n, x, rfl, hx, hcls, hv⟩ := hfree y (hperm.mem_iff.1 (by simp))
    obtain ⟨l1, l2, l3, l4⟩ := A.low hl
    have hn := (List.getElem?_eq_some_iff.1 hx).1
    obtain ⟨so, ho, hi, e0, e1, e2, e3⟩ := A'.slots.at hx
    obtain ⟨k1, k2, k3⟩ := A'.kinds x (List.mem_of_getElem? hx)
    have nbs : nilChkV (.ptr so (n * 4)) = some (.ptr so (n * 4)) := rfl
    have fbs : ∀ j, fieldAddrV j (.ptr so (n * 4)) = some (.ptr so (n * 4 + j)) := fun j => rfl
    have hsol : so < h.next := l2 so (by rw [ho]; simp)
    obtain ⟨h2, st2, u2, A2⟩ := A'.setCell (j := 2) (y := { x with live := true }) (v := .bool true) hx ho (by decide) rfl rfl rfl (A'.words x (List.mem_of_getElem? hx)) (A'.own x (List.mem_of_getElem? hx)) ⟨k1, k2, k3⟩
    have lo2 : Low h2 := lo.upd u2 (by have := on.1; omega)
    have hx2 : (S.set n { x with live := true })[n]? = some { x with live := true } := by rw [List.getElem?_set, if_pos rfl, if_pos hn]
    have sr2 : Src h2 v ws := sr.keep fun o hoo => by
      rw [u2.2 o (fun e => (hne o hoo).1 (by rw [ho, e]; simp)), on.2 o (hlt o hoo) (hne o hoo).2]
    have hsp : slotPtr sv n = .ptr so (n * 4) := (slotPtr_at A' hx).elim fun so' hs' => by
      have := hs'.1; rw [ho] at this; simp only [List.cons.injEq, and_true] at this; subst this; exact hs'.2.1
    simp only [wpc_first, wpc_ops, wpc_skip, wpc_exit, wpc_ret, wpc_block, wpc_test, ops_next, ops_nil, ops_test, step_mov, step_bin, step_un, step_pick, step_eqB, step_eqNil, step_toInt, step_lenStr, step_lenSlice, step_extract, step_fieldAddr, step_field, step_nilChk, step_idxAddr, step_idxStr, step_load, step_store, step_slc, step_slcStr, step_mkSlice, step_toStr, step_append, step_copy, step_buildSlice, step_build, step_new, step_call, Option.bind_some, Option.map_some, AOpd.val, Fr.at_put, at_ofArgs, Wo_some, Then_normal, Then_exit, Then_ret, InBlock_normal, InBlock_ret, InBlock_exit, Ends_ret, Ends_normal, res_nil, res_tmp, tuple_one, tuple_two, some_one, CondC_true, bin_add, bin_sub, bin_mul, bin_eql, bin_neq, bin_lss, bin_leq, bin_gtr, bin_geq, bin_str_eql, bin_str_neq, un_not, toInt_int, lenStr_str, pick_bool, List.getElem?_cons_zero, List.getElem?_cons_succ, Option.getD_some, Option.getD_none, List.map_cons, List.map_nil, Option.map_none, List.length_map, Nat.reduceEqDiff, if_true, if_false, reduceCtorEq, Nat.reduceAdd, Nat.reduceBEq, guardB_tt, guardB_ff, guardB_tf, guardB_ft, guardB_none, pick_t, pick_f, beq_self_eq_true, bne_self_eq_false, decide_true, decide_false, Bool.not_true, Bool.not_false, put_none, len_slice, len_nil, rest_mk, ThenC_normal, ThenC_exit, ThenC_ret, CondC_false, CondC_both, extract_0, extract_1, extract_2, step_callM, callMV_iface, meth_self, meth_deref, find_cons, bif_true, bif_false, step_mkIface, step_mkMap, step_assertT, assert_same, assert_same_ok, step_lookup, step_mapUpd, step_del, step_idxArr, step_idxAddrArr, items_nil, items_next, restI_mk, wpc_draw, step_box, step_eqAgg, nb, fa0, A'.sv_load, hi, nbs, fbs, st2]
    have hf := fill_ok k A2 lo2 hx2 sr2 (fun o hoo => (hne o hoo).1) (fun o hoo => by have := hlt o hoo; have := on.1; rw [u2.1]; omega) (show ws.length ≤ sizeN x.cls by rw [hcls]; exact hw)
    rw [hsp] at hf
    refine Gives.bind (hf.mono ?_)
    rintro _ h3 ⟨w, A3, hw3, on3, lo3⟩
    rw [List.set_set] at A3
    have hx3 : (S.set n { x with live := true, ws := padW ws (sizeN x.cls), wv := w })[n]? = some { x with live := true, ws := padW ws (sizeN x.cls), wv := w } := by rw [List.getElem?_set, if_pos rfl, if_pos hn]
    obtain ⟨so3, ho3, _, _, g1, _, _⟩ := A3.slots.at hx3
    have hso3 : so3 = so := by rw [ho] at ho3; simp only [List.cons.injEq, and_true] at ho3; exact ho3.symm
    rw [hso3] at g1
    have hc0 : (((c : Nat) : Int) == 0) = (c == 0) := by rw [Bool.eq_iff_iff]; simp
    simp only [wpc_first, wpc_ops, wpc_skip, wpc_exit, wpc_ret, wpc_block, wpc_test, ops_next, ops_nil, ops_test, step_mov, step_bin, step_un, step_pick, step_eqB, step_eqNil, step_toInt, step_lenStr, step_lenSlice, step_extract, step_fieldAddr, step_field, step_nilChk, step_idxAddr, step_idxStr, step_load, step_store, step_slc, step_slcStr, step_mkSlice, step_toStr, step_append, step_copy, step_buildSlice, step_build, step_new, step_call, Option.bind_some, Option.map_some, AOpd.val, Fr.at_put, at_ofArgs, Wo_some, Then_normal, Then_exit, Then_ret, InBlock_normal, InBlock_ret, InBlock_exit, Ends_ret, Ends_normal, res_nil, res_tmp, tuple_one, tuple_two, some_one, CondC_true, bin_add, bin_sub, bin_mul, bin_eql, bin_neq, bin_lss, bin_leq, bin_gtr, bin_geq, bin_str_eql, bin_str_neq, un_not, toInt_int, lenStr_str, pick_bool, List.getElem?_cons_zero, List.getElem?_cons_succ, Option.getD_some, Option.getD_none, List.map_cons, List.map_nil, Option.map_none, List.length_map, Nat.reduceEqDiff, if_true, if_false, reduceCtorEq, Nat.reduceAdd, Nat.reduceBEq, guardB_tt, guardB_ff, guardB_tf, guardB_ft, guardB_none, pick_t, pick_f, beq_self_eq_true, bne_self_eq_false, decide_true, decide_false, Bool.not_true, Bool.not_false, put_none, len_slice, len_nil, rest_mk, ThenC_normal, ThenC_exit, ThenC_ret, CondC_false, CondC_both, extract_0, extract_1, extract_2, step_callM, callMV_iface, meth_self, meth_deref, find_cons, bif_true, bif_false, step_mkIface, step_mkMap, step_assertT, assert_same, assert_same_ok, step_lookup, step_mapUpd, step_del, step_idxArr, step_idxAddrArr, items_nil, items_next, restI_mk, wpc_draw, step_box, step_eqAgg, nbs, fbs, g1, hc0]
    refine Gives.bind ((ref_ok k (l := (c == 0)) hv).mono ?_)
    rintro _ _ ⟨rfl, rfl⟩
    simp only [wpc_first, wpc_ops, wpc_skip, wpc_exit, wpc_ret, wpc_block, wpc_test, ops_next, ops_nil, ops_test, step_mov, step_bin, step_un, step_pick, step_eqB, step_eqNil, step_toInt, step_lenStr, step_lenSlice, step_extract, step_fieldAddr, step_field, step_nilChk, step_idxAddr, step_idxStr, step_load, step_store, step_slc, step_slcStr, step_mkSlice, step_toStr, step_append, step_copy, step_buildSlice, step_build, step_new, step_call, Option.bind_some, Option.map_some, AOpd.val, Fr.at_put, at_ofArgs, Wo_some, Then_normal, Then_exit, Then_ret, InBlock_normal, InBlock_ret, InBlock_exit, Ends_ret, Ends_normal, res_nil, res_tmp, tuple_one, tuple_two, some_one, CondC_true, bin_add, bin_sub, bin_mul, bin_eql, bin_neq, bin_lss, bin_leq, bin_gtr, bin_geq, bin_str_eql, bin_str_neq, un_not, toInt_int, lenStr_str, pick_bool, List.getElem?_cons_zero, List.getElem?_cons_succ, Option.getD_some, Option.getD_none, List.map_cons, List.map_nil, Option.map_none, List.length_map, Nat.reduceEqDiff, if_true, if_false, reduceCtorEq, Nat.reduceAdd, Nat.reduceBEq, guardB_tt, guardB_ff, guardB_tf, guardB_ft, guardB_none, pick_t, pick_f, beq_self_eq_true, bne_self_eq_false, decide_true, decide_false, Bool.not_true, Bool.not_false, put_none, len_slice, len_nil, rest_mk, ThenC_normal, ThenC_exit, ThenC_ret, CondC_false, CondC_both, extract_0, extract_1, extract_2, step_callM, callMV_iface, meth_self, meth_deref, find_cons, bif_true, bif_false, step_mkIface, step_mkMap, step_assertT, assert_same, assert_same_ok, step_lookup, step_mapUpd, step_del, step_idxArr, step_idxAddrArr, items_nil, items_next, restI_mk, wpc_draw, step_box, step_eqAgg]
    refine ⟨.inr ⟨n, x, L', q', w, hx, hperm, hleast, rfl, hrep, by rw [← hcls]; exact hcls ▸ A3, fun o hoo => ?_⟩, ?_, lo3⟩
    · have := hw3 o hoo; have := on.1; rw [u2.1] at *; omega
    · refine ⟨by have := on3.1; have := on.1; rw [u2.1] at *; omega, fun o h5 h6 => ?_⟩
      simp only [List.mem_append, not_or] at h6
      rw [on3.2 o (by rw [u2.1]; have := on.1; omega) h6.1, u2.2 o (fun e => h6.1 (by rw [ho, e]; simp)), on.2 o h5 h6.2]
end Go.Proofs.Ytejjkienklaghaa

/- Pools of numbers that are free: what a pool's functions come to. -/
import Derived.Test.YtejjkienklaghaaP4P
namespace Go.Proofs.Ytejjkienklaghaa
open Go.Vm
set_option linter.unusedSimpArgs false
set_option linter.unusedVariables false
variable {T : Vm.Prog} {h : AH}
def objs : AV → List Nat
  | .slice o _ _ _ _ _ => [o]
  | _ => []
/-- A row of numbers, or none yet. -/
def RowV (h : AH) (v : AV) (L : List Int) : Prop := (v = .nilSlice ∧ L = []) ∨ ∃ o cap, v = .slice o 0 1 L.length cap false ∧ Arr h o cap L
/-- What was there is as it was, but for some objects. -/
def Only (h h' : AH) (F : List Nat) : Prop := h.next ≤ h'.next ∧ ∀ q, q < h.next → q ∉ F → h'.get q = h.get q
theorem Only.refl (h : AH) (F : List Nat) : Only h h F := ⟨Nat.le_refl _, fun _ _ _ => rfl⟩
theorem Only.trans {a b c : AH} {F G : List Nat} (k : Only a b F) (m : Only b c G) (hG : ∀ o ∈ G, o ∈ F ∨ a.next ≤ o) : Only a c F :=
  ⟨Nat.le_trans k.1 m.1, fun q hq hF => (m.2 q (Nat.lt_of_lt_of_le hq k.1) fun hg => (hG q hg).elim hF (by omega)).trans (k.2 q hq hF)⟩
theorem Upd.only {h' : AH} {o : Nat} {F : List Nat} (u : Upd h h' o) (ho : o ∈ F ∨ h.next ≤ o) : Only h h' F :=
  ⟨by rw [u.1]; exact Nat.le_refl _, fun q hq hF => u.2 q fun e => by subst e; exact ho.elim hF (by omega)⟩
theorem Only.set {h' : AH} {F : List Nat} (k : Only h h' F) {o : Nat} (ho : o ∈ F ∨ h.next ≤ o) (x : AObj) : Only h (h'.set o x) F :=
  ⟨k.1, fun q hq hF => by rw [AH.get_set, if_neg (fun e => by subst e; exact ho.elim hF (by omega))]; exact k.2 q hq hF⟩
theorem Only.new {h' : AH} {F : List Nat} (k : Only h h' F) (x : AObj) : Only h (h'.new x) F :=
  ⟨by rw [next_new]; have := k.1; omega, fun q hq hF => by rw [AH.get_new, if_neg (by have := k.1; omega)]; exact k.2 q hq hF⟩
/-- Every object has a number below the next one. -/
def Low (h : AH) : Prop := ∀ o x, h.get o = some x → o < h.next
theorem Low.new (k : Low h) (x : AObj) : Low (h.new x) := by
  intro o y hy
  rw [AH.get_new] at hy
  split at hy
  · rename_i e; rw [next_new]; omega
  · have := k o y hy; rw [next_new]; omega
theorem Low.set (k : Low h) {o : Nat} (ho : o < h.next) (x : AObj) : Low (h.set o x) := by
  intro p y hy
  rw [AH.get_set] at hy
  split at hy
  · rename_i e; rw [next_set]; omega
  · exact k p y hy
theorem Low.upd {h' : AH} {o : Nat} (k : Low h) (u : Upd h h' o) (ho : o < h.next) : Low h' := by
  intro p y hy
  rw [u.1]
  by_cases e : p = o
  · omega
  · rw [u.2 p e] at hy; exact k p y hy
/-- The numbers in a map. -/
def keysM (K : List Int) : List (AV × AV) := K.map fun x => (.int .i64 x, .agg [])
theorem find_in {n : Int} : ∀ (K : List Int) (i : Nat), n ∈ K → ∃ j, findV 0 (.int .i64 n) (keysM K) i = some (some (i + j, .agg [])) ∧ j < K.length ∧ K[j]? = some n
  | [], _, h => by cases h
  | a :: K, i, h => by
    by_cases e : n = a
    · subst e
      exact ⟨0, by simp [keysM, findV, keyEq], by simp, rfl⟩
    · have hm : n ∈ K := by simpa [e] using h
      obtain ⟨j, h1, h2, h3⟩ := find_in K (i + 1) hm
      refine ⟨j + 1, ?_, by simp; omega, by simpa using h3⟩
      have e' : (n == a) = false := by simpa using e
      simp only [keysM, List.map_cons, findV, keyEq, if_true, e']
      rw [show i + (j + 1) = i + 1 + j by omega]; exact h1
theorem find_out {n : Int} : ∀ (K : List Int) (i : Nat), n ∉ K → findV 0 (.int .i64 n) (keysM K) i = some none
  | [], _, _ => rfl
  | a :: K, i, h => by
    have e : (n == a) = false := by
      have : n ≠ a := fun e => h (by simp [e])
      simpa using this
    have hm : n ∉ K := fun e => h (by simp [e])
    simp only [keysM, List.map_cons, findV, keyEq, if_true, e]
    exact find_out K (i + 1) hm
theorem erase_perm {K : List Int} {n : Int} {j : Nat} (h : K[j]? = some n) : (n :: K.eraseIdx j).Perm K := by
  induction K generalizing j with
  | nil => cases h
  | cons a K ih =>
    cases j with
    | zero => simp at h; subst h; exact List.Perm.refl _
    | succ j =>
      rw [List.eraseIdx_cons_succ]
      exact (List.Perm.swap a n _).trans ((ih (by simpa using h)).cons a)
/-- A pool of free numbers. -/
structure Pool (h : AH) (p : Nat) (most : Int) (L : List Int) (v : AV) (mo : Nat) : Prop where
  obj : h.get p = some (.cells [.int .i64 most, v, .map mo] true)
  keys : ∃ K, h.get mo = some (.map (keysM K)) ∧ K.Perm L
  row : RowV h v L
  hp : HP L
  nodup : L.Nodup
  ne : p ≠ mo
  apart : ∀ o ∈ objs v, o ≠ p ∧ o ≠ mo
  range : ∀ y ∈ L, 0 ≤ y ∧ y < most
def foot (p : Nat) (v : AV) (mo : Nat) : List Nat := p :: mo :: objs v
theorem RowV.len {v : AV} {L : List Int} (r : RowV h v L) : lenOfV v = some L.length := by
  rcases r with ⟨rfl, rfl⟩ | ⟨o, cap, rfl, _⟩ <;> rfl
theorem RowV.keep {h' : AH} {v : AV} {L : List Int} (r : RowV h v L) (hk : ∀ o ∈ objs v, h'.get o = h.get o) : RowV h' v L := by
  rcases r with ⟨rfl, rfl⟩ | ⟨o, cap, rfl, l, hg, h1⟩
  · exact .inl ⟨rfl, rfl⟩
  · exact .inr ⟨o, cap, rfl, l, (hk o (by simp [objs])).trans hg, h1⟩
theorem Pool.keep {h' : AH} {p : Nat} {most : Int} {L : List Int} {v : AV} {mo : Nat} (k : Pool h p most L v mo) (hk : ∀ o ∈ foot p v mo, h'.get o = h.get o) : Pool h' p most L v mo where
  obj := (hk p (by simp [foot])).trans k.obj
  keys := by obtain ⟨K, h1, h2⟩ := k.keys; exact ⟨K, (hk mo (by simp [foot])).trans h1, h2⟩
  row := k.row.keep fun o ho => hk o (by simp [foot, ho])
  hp := k.hp
  nodup := k.nodup
  ne := k.ne
  apart := k.apart
  range := k.range
theorem pigeon : ∀ (N : Nat) (L : List Int), L.Nodup → (∀ y ∈ L, 0 ≤ y ∧ y < N) → L.length ≤ N
  | 0, L, _, h => by
    cases L with
    | nil => simp
    | cons a L => have := h a (by simp); omega
  | N + 1, L, hn, h => by
    by_cases hm : (N : Int) ∈ L
    · have h1 := pigeon N (L.erase N) (hn.erase _) (fun y hy => by
        have h2 := h y (List.mem_of_mem_erase hy)
        have h3 : y ≠ N := fun e => by
          subst e
          exact (List.Nodup.not_mem_erase hn) hy
        omega)
      have h4 := List.length_erase_of_mem hm
      have h5 : 0 < L.length := List.length_pos_of_mem hm
      omega
    · have h1 := pigeon N L hn (fun y hy => by
        have h2 := h y hy
        have h3 : y ≠ N := fun e => by subst e; exact hm hy
        omega)
      omega
theorem Pool.count {p : Nat} {most : Int} {L : List Int} {v : AV} {mo : Nat} (k : Pool h p most L v mo) : L.length ≤ most.toNat :=
  pigeon _ L k.nodup fun y hy => by have := k.range y hy; omega
theorem Pool.named {p : Nat} {most : Int} {L : List Int} {v : AV} {mo : Nat} (k : Pool h p most L v mo) : Named h p v := ⟨_, _, k.obj⟩
theorem plen_ok (he : T.env 37 = none) (hf : T.func 37 = some a37) {p : Nat} {most : Int} {L : List Int} {v : AV} {mo : Nat} (k : Pool h p most L v mo) : Gives T 37 [.ptr p 0] h fun r h' => r = .int .i64 (L.length : Nat) ∧ h' = h := by
  refine gives_func he hf rfl ?_
  simp only [a37, c37, wpc_first, wpc_ops, wpc_skip, wpc_exit, wpc_ret, wpc_block, wpc_test, ops_next, ops_nil, ops_test, step_mov, step_bin, step_un, step_pick, step_eqB, step_eqNil, step_toInt, step_lenStr, step_lenSlice, step_extract, step_fieldAddr, step_field, step_nilChk, step_idxAddr, step_idxStr, step_load, step_store, step_slc, step_slcStr, step_mkSlice, step_toStr, step_append, step_copy, step_buildSlice, step_build, step_new, step_call, Option.bind_some, Option.map_some, AOpd.val, Fr.at_put, at_ofArgs, Wo_some, Then_normal, Then_exit, Then_ret, InBlock_normal, InBlock_ret, InBlock_exit, Ends_ret, Ends_normal, res_nil, res_tmp, tuple_one, tuple_two, some_one, CondC_true, bin_add, bin_sub, bin_mul, bin_eql, bin_neq, bin_lss, bin_leq, bin_gtr, bin_geq, bin_str_eql, bin_str_neq, un_not, toInt_int, lenStr_str, pick_bool, List.getElem?_cons_zero, List.getElem?_cons_succ, Option.getD_some, Option.getD_none, List.map_cons, List.map_nil, Option.map_none, List.length_map, Nat.reduceEqDiff, if_true, if_false, reduceCtorEq, Nat.reduceAdd, Nat.reduceBEq, guardB_tt, guardB_ff, guardB_tf, guardB_ft, guardB_none, pick_t, pick_f, beq_self_eq_true, bne_self_eq_false, decide_true, decide_false, Bool.not_true, Bool.not_false, put_none, len_slice, len_nil, rest_mk, ThenC_normal, ThenC_exit, ThenC_ret, CondC_false, CondC_both, extract_0, extract_1, extract_2, step_callM, callMV_iface, meth_self, meth_deref, find_cons, bif_true, bif_false, step_mkIface, step_mkMap, step_assertT, assert_same, assert_same_ok, step_lookup, step_mapUpd, step_del, step_idxArr, step_idxAddrArr, items_nil, items_next, restI_mk, wpc_draw, step_box, step_eqAgg, show nilChkV (.ptr p 0) = some (.ptr p 0) from rfl, show fieldAddrV 1 (.ptr p 0) = some (.ptr p 1) from rfl, k.named.load, k.row.len]
  exact ⟨trivial, trivial⟩
theorem has_ok (he : T.env 44 = none) (hf : T.func 44 = some a44) {p : Nat} {most : Int} {L : List Int} {v : AV} {mo : Nat} {n : Int} (k : Pool h p most L v mo) :
    Gives T 44 [.ptr p 0, .int .i64 n] h fun r h' => r = .bool (decide (n ∈ L)) ∧ ∃ x, h' = h.new x ∨ h' = (h.new x).set h.next x := by
  refine gives_func he hf rfl ?_
  obtain ⟨K, hK, hperm⟩ := k.keys
  have hmap : loadV h false 1 (.ptr p 2) = some (.map mo) := load_at k.obj rfl
  have hst : storeV (h.new (.cells [] true)) 0 (.ptr h.next 0) (.agg []) = some ((h.new (.cells [] true)).set h.next (.cells [] true)) := by
    simp only [storeV, AV.cells, List.length_nil, AH.store, get_new_same, setMany, List.all_nil]
    rw [if_pos trivial, if_pos ⟨Nat.le_refl _, trivial⟩]
  have hlk : lookupV h 0 (.agg []) true (.map mo) (.int .i64 n) = some (.tuple [.agg [], .bool (decide (n ∈ L))]) := by
    simp only [lookupV, hK]
    by_cases hn : n ∈ L
    · obtain ⟨j, h1, _, _⟩ := find_in K 0 (hperm.mem_iff.2 hn)
      rw [h1]; simp [lookV, hn]
    · rw [find_out K 0 (fun e => hn (hperm.mem_iff.1 e))]; simp [lookV, hn]
  simp only [a44, c44, wpc_first, wpc_ops, wpc_skip, wpc_exit, wpc_ret, wpc_block, wpc_test, ops_next, ops_nil, ops_test, step_mov, step_bin, step_un, step_pick, step_eqB, step_eqNil, step_toInt, step_lenStr, step_lenSlice, step_extract, step_fieldAddr, step_field, step_nilChk, step_idxAddr, step_idxStr, step_load, step_store, step_slc, step_slcStr, step_mkSlice, step_toStr, step_append, step_copy, step_buildSlice, step_build, step_new, step_call, Option.bind_some, Option.map_some, AOpd.val, Fr.at_put, at_ofArgs, Wo_some, Then_normal, Then_exit, Then_ret, InBlock_normal, InBlock_ret, InBlock_exit, Ends_ret, Ends_normal, res_nil, res_tmp, tuple_one, tuple_two, some_one, CondC_true, bin_add, bin_sub, bin_mul, bin_eql, bin_neq, bin_lss, bin_leq, bin_gtr, bin_geq, bin_str_eql, bin_str_neq, un_not, toInt_int, lenStr_str, pick_bool, List.getElem?_cons_zero, List.getElem?_cons_succ, Option.getD_some, Option.getD_none, List.map_cons, List.map_nil, Option.map_none, List.length_map, Nat.reduceEqDiff, if_true, if_false, reduceCtorEq, Nat.reduceAdd, Nat.reduceBEq, guardB_tt, guardB_ff, guardB_tf, guardB_ft, guardB_none, pick_t, pick_f, beq_self_eq_true, bne_self_eq_false, decide_true, decide_false, Bool.not_true, Bool.not_false, put_none, len_slice, len_nil, rest_mk, ThenC_normal, ThenC_exit, ThenC_ret, CondC_false, CondC_both, extract_0, extract_1, extract_2, step_callM, callMV_iface, meth_self, meth_deref, find_cons, bif_true, bif_false, step_mkIface, step_mkMap, step_assertT, assert_same, assert_same_ok, step_lookup, step_mapUpd, step_del, step_idxArr, step_idxAddrArr, items_nil, items_next, restI_mk, wpc_draw, step_box, step_eqAgg, show nilChkV (.ptr p 0) = some (.ptr p 0) from rfl, show fieldAddrV 2 (.ptr p 0) = some (.ptr p 2) from rfl, hmap, hlk, hst]
  exact ⟨trivial, _, .inr rfl⟩
end Go.Proofs.Ytejjkienklaghaa

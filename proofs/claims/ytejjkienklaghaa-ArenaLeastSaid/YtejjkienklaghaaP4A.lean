/- Arenas: sizes of classes; refs, and their parts. -/
import Derived.Test.YtejjkienklaghaaP4S
namespace Go.Proofs.Ytejjkienklaghaa
open Go.Vm
set_option linter.unusedSimpArgs false
set_option linter.unusedVariables false
variable {T : Vm.Prog} {h : AH}
def sizeN : Nat → Nat
  | 0 => 8 | 1 => 12 | 2 => 24 | 3 => 88 | 4 => 264 | _ => 0
theorem sizeN_le (c : Nat) : sizeN c ≤ 264 := by unfold sizeN; split <;> omega
theorem size_ok (k : Fits T) {c : Nat} (hc : c < 5) : Gives T 27 [.int .i64 (c : Int)] h fun r h' => r = .int .i64 (sizeN c : Nat) ∧ h' = h := by
  refine gives_func (k.env _ (by decide)) (k.at (fn := a27) rfl) rfl ?_
  have : c = 0 ∨ c = 1 ∨ c = 2 ∨ c = 3 ∨ c = 4 := by omega
  rcases this with rfl | rfl | rfl | rfl | rfl
  · simp only [a27, c27, wpc_first, wpc_ops, wpc_skip, wpc_exit, wpc_ret, wpc_block, wpc_test, ops_next, ops_nil, ops_test, step_mov, step_bin, step_un, step_pick, step_eqB, step_eqNil, step_toInt, step_lenStr, step_lenSlice, step_extract, step_fieldAddr, step_field, step_nilChk, step_idxAddr, step_idxStr, step_load, step_store, step_slc, step_slcStr, step_mkSlice, step_toStr, step_append, step_copy, step_buildSlice, step_build, step_new, step_call, Option.bind_some, Option.map_some, AOpd.val, Fr.at_put, at_ofArgs, Wo_some, Then_normal, Then_exit, Then_ret, InBlock_normal, InBlock_ret, InBlock_exit, Ends_ret, Ends_normal, res_nil, res_tmp, tuple_one, tuple_two, some_one, CondC_true, bin_add, bin_sub, bin_mul, bin_eql, bin_neq, bin_lss, bin_leq, bin_gtr, bin_geq, bin_str_eql, bin_str_neq, un_not, toInt_int, lenStr_str, pick_bool, List.getElem?_cons_zero, List.getElem?_cons_succ, Option.getD_some, Option.getD_none, List.map_cons, List.map_nil, Option.map_none, List.length_map, Nat.reduceEqDiff, if_true, if_false, reduceCtorEq, Nat.reduceAdd, Nat.reduceBEq, guardB_tt, guardB_ff, guardB_tf, guardB_ft, guardB_none, pick_t, pick_f, beq_self_eq_true, bne_self_eq_false, decide_true, decide_false, Bool.not_true, Bool.not_false, put_none, len_slice, len_nil, rest_mk, ThenC_normal, ThenC_exit, ThenC_ret, CondC_false, CondC_both, extract_0, extract_1, extract_2, show (((0 : Nat) : Int) == 0) = true from rfl]; exact ⟨rfl, trivial⟩
  · simp only [a27, c27, wpc_first, wpc_ops, wpc_skip, wpc_exit, wpc_ret, wpc_block, wpc_test, ops_next, ops_nil, ops_test, step_mov, step_bin, step_un, step_pick, step_eqB, step_eqNil, step_toInt, step_lenStr, step_lenSlice, step_extract, step_fieldAddr, step_field, step_nilChk, step_idxAddr, step_idxStr, step_load, step_store, step_slc, step_slcStr, step_mkSlice, step_toStr, step_append, step_copy, step_buildSlice, step_build, step_new, step_call, Option.bind_some, Option.map_some, AOpd.val, Fr.at_put, at_ofArgs, Wo_some, Then_normal, Then_exit, Then_ret, InBlock_normal, InBlock_ret, InBlock_exit, Ends_ret, Ends_normal, res_nil, res_tmp, tuple_one, tuple_two, some_one, CondC_true, bin_add, bin_sub, bin_mul, bin_eql, bin_neq, bin_lss, bin_leq, bin_gtr, bin_geq, bin_str_eql, bin_str_neq, un_not, toInt_int, lenStr_str, pick_bool, List.getElem?_cons_zero, List.getElem?_cons_succ, Option.getD_some, Option.getD_none, List.map_cons, List.map_nil, Option.map_none, List.length_map, Nat.reduceEqDiff, if_true, if_false, reduceCtorEq, Nat.reduceAdd, Nat.reduceBEq, guardB_tt, guardB_ff, guardB_tf, guardB_ft, guardB_none, pick_t, pick_f, beq_self_eq_true, bne_self_eq_false, decide_true, decide_false, Bool.not_true, Bool.not_false, put_none, len_slice, len_nil, rest_mk, ThenC_normal, ThenC_exit, ThenC_ret, CondC_false, CondC_both, extract_0, extract_1, extract_2, show (((1 : Nat) : Int) == 0) = false from rfl, show (((1 : Nat) : Int) == 1) = true from rfl]; exact ⟨rfl, trivial⟩
  · simp only [a27, c27, wpc_first, wpc_ops, wpc_skip, wpc_exit, wpc_ret, wpc_block, wpc_test, ops_next, ops_nil, ops_test, step_mov, step_bin, step_un, step_pick, step_eqB, step_eqNil, step_toInt, step_lenStr, step_lenSlice, step_extract, step_fieldAddr, step_field, step_nilChk, step_idxAddr, step_idxStr, step_load, step_store, step_slc, step_slcStr, step_mkSlice, step_toStr, step_append, step_copy, step_buildSlice, step_build, step_new, step_call, Option.bind_some, Option.map_some, AOpd.val, Fr.at_put, at_ofArgs, Wo_some, Then_normal, Then_exit, Then_ret, InBlock_normal, InBlock_ret, InBlock_exit, Ends_ret, Ends_normal, res_nil, res_tmp, tuple_one, tuple_two, some_one, CondC_true, bin_add, bin_sub, bin_mul, bin_eql, bin_neq, bin_lss, bin_leq, bin_gtr, bin_geq, bin_str_eql, bin_str_neq, un_not, toInt_int, lenStr_str, pick_bool, List.getElem?_cons_zero, List.getElem?_cons_succ, Option.getD_some, Option.getD_none, List.map_cons, List.map_nil, Option.map_none, List.length_map, Nat.reduceEqDiff, if_true, if_false, reduceCtorEq, Nat.reduceAdd, Nat.reduceBEq, guardB_tt, guardB_ff, guardB_tf, guardB_ft, guardB_none, pick_t, pick_f, beq_self_eq_true, bne_self_eq_false, decide_true, decide_false, Bool.not_true, Bool.not_false, put_none, len_slice, len_nil, rest_mk, ThenC_normal, ThenC_exit, ThenC_ret, CondC_false, CondC_both, extract_0, extract_1, extract_2, show (((2 : Nat) : Int) == 0) = false from rfl, show (((2 : Nat) : Int) == 1) = false from rfl, show (((2 : Nat) : Int) == 2) = true from rfl]; exact ⟨rfl, trivial⟩
  · simp only [a27, c27, wpc_first, wpc_ops, wpc_skip, wpc_exit, wpc_ret, wpc_block, wpc_test, ops_next, ops_nil, ops_test, step_mov, step_bin, step_un, step_pick, step_eqB, step_eqNil, step_toInt, step_lenStr, step_lenSlice, step_extract, step_fieldAddr, step_field, step_nilChk, step_idxAddr, step_idxStr, step_load, step_store, step_slc, step_slcStr, step_mkSlice, step_toStr, step_append, step_copy, step_buildSlice, step_build, step_new, step_call, Option.bind_some, Option.map_some, AOpd.val, Fr.at_put, at_ofArgs, Wo_some, Then_normal, Then_exit, Then_ret, InBlock_normal, InBlock_ret, InBlock_exit, Ends_ret, Ends_normal, res_nil, res_tmp, tuple_one, tuple_two, some_one, CondC_true, bin_add, bin_sub, bin_mul, bin_eql, bin_neq, bin_lss, bin_leq, bin_gtr, bin_geq, bin_str_eql, bin_str_neq, un_not, toInt_int, lenStr_str, pick_bool, List.getElem?_cons_zero, List.getElem?_cons_succ, Option.getD_some, Option.getD_none, List.map_cons, List.map_nil, Option.map_none, List.length_map, Nat.reduceEqDiff, if_true, if_false, reduceCtorEq, Nat.reduceAdd, Nat.reduceBEq, guardB_tt, guardB_ff, guardB_tf, guardB_ft, guardB_none, pick_t, pick_f, beq_self_eq_true, bne_self_eq_false, decide_true, decide_false, Bool.not_true, Bool.not_false, put_none, len_slice, len_nil, rest_mk, ThenC_normal, ThenC_exit, ThenC_ret, CondC_false, CondC_both, extract_0, extract_1, extract_2, show (((3 : Nat) : Int) == 0) = false from rfl, show (((3 : Nat) : Int) == 1) = false from rfl, show (((3 : Nat) : Int) == 2) = false from rfl, show (((3 : Nat) : Int) == 3) = true from rfl]; exact ⟨rfl, trivial⟩
  · simp only [a27, c27, wpc_first, wpc_ops, wpc_skip, wpc_exit, wpc_ret, wpc_block, wpc_test, ops_next, ops_nil, ops_test, step_mov, step_bin, step_un, step_pick, step_eqB, step_eqNil, step_toInt, step_lenStr, step_lenSlice, step_extract, step_fieldAddr, step_field, step_nilChk, step_idxAddr, step_idxStr, step_load, step_store, step_slc, step_slcStr, step_mkSlice, step_toStr, step_append, step_copy, step_buildSlice, step_build, step_new, step_call, Option.bind_some, Option.map_some, AOpd.val, Fr.at_put, at_ofArgs, Wo_some, Then_normal, Then_exit, Then_ret, InBlock_normal, InBlock_ret, InBlock_exit, Ends_ret, Ends_normal, res_nil, res_tmp, tuple_one, tuple_two, some_one, CondC_true, bin_add, bin_sub, bin_mul, bin_eql, bin_neq, bin_lss, bin_leq, bin_gtr, bin_geq, bin_str_eql, bin_str_neq, un_not, toInt_int, lenStr_str, pick_bool, List.getElem?_cons_zero, List.getElem?_cons_succ, Option.getD_some, Option.getD_none, List.map_cons, List.map_nil, Option.map_none, List.length_map, Nat.reduceEqDiff, if_true, if_false, reduceCtorEq, Nat.reduceAdd, Nat.reduceBEq, guardB_tt, guardB_ff, guardB_tf, guardB_ft, guardB_none, pick_t, pick_f, beq_self_eq_true, bne_self_eq_false, decide_true, decide_false, Bool.not_true, Bool.not_false, put_none, len_slice, len_nil, rest_mk, ThenC_normal, ThenC_exit, ThenC_ret, CondC_false, CondC_both, extract_0, extract_1, extract_2, show (((4 : Nat) : Int) == 0) = false from rfl, show (((4 : Nat) : Int) == 1) = false from rfl, show (((4 : Nat) : Int) == 2) = false from rfl, show (((4 : Nat) : Int) == 3) = false from rfl, show (((4 : Nat) : Int) == 4) = true from rfl]; exact ⟨rfl, trivial⟩
/-- Sizes of what is no class. -/
theorem size_no (k : Fits T) {c : Int} (hc : c < 0 ∨ 5 ≤ c) : Gives T 27 [.int .i64 c] h fun r h' => r = .int .i64 0 ∧ h' = h := by
  refine gives_func (k.env _ (by decide)) (k.at (fn := a27) rfl) rfl ?_
  have e0 : (c == 0) = false := by rw [beq_eq_false_iff_ne]; omega
  have e1 : (c == 1) = false := by rw [beq_eq_false_iff_ne]; omega
  have e2 : (c == 2) = false := by rw [beq_eq_false_iff_ne]; omega
  have e3 : (c == 3) = false := by rw [beq_eq_false_iff_ne]; omega
  have e4 : (c == 4) = false := by rw [beq_eq_false_iff_ne]; omega
  simp only [a27, c27, wpc_first, wpc_ops, wpc_skip, wpc_exit, wpc_ret, wpc_block, wpc_test, ops_next, ops_nil, ops_test, step_mov, step_bin, step_un, step_pick, step_eqB, step_eqNil, step_toInt, step_lenStr, step_lenSlice, step_extract, step_fieldAddr, step_field, step_nilChk, step_idxAddr, step_idxStr, step_load, step_store, step_slc, step_slcStr, step_mkSlice, step_toStr, step_append, step_copy, step_buildSlice, step_build, step_new, step_call, Option.bind_some, Option.map_some, AOpd.val, Fr.at_put, at_ofArgs, Wo_some, Then_normal, Then_exit, Then_ret, InBlock_normal, InBlock_ret, InBlock_exit, Ends_ret, Ends_normal, res_nil, res_tmp, tuple_one, tuple_two, some_one, CondC_true, bin_add, bin_sub, bin_mul, bin_eql, bin_neq, bin_lss, bin_leq, bin_gtr, bin_geq, bin_str_eql, bin_str_neq, un_not, toInt_int, lenStr_str, pick_bool, List.getElem?_cons_zero, List.getElem?_cons_succ, Option.getD_some, Option.getD_none, List.map_cons, List.map_nil, Option.map_none, List.length_map, Nat.reduceEqDiff, if_true, if_false, reduceCtorEq, Nat.reduceAdd, Nat.reduceBEq, guardB_tt, guardB_ff, guardB_tf, guardB_ft, guardB_none, pick_t, pick_f, beq_self_eq_true, bne_self_eq_false, decide_true, decide_false, Bool.not_true, Bool.not_false, put_none, len_slice, len_nil, rest_mk, ThenC_normal, ThenC_exit, ThenC_ret, CondC_false, CondC_both, extract_0, extract_1, extract_2, e0, e1, e2, e3, e4]; exact ⟨trivial, trivial⟩
/-! ### refs -/
def refN (s g : Nat) (l : Bool) : Nat := g * 65536 + s + if l then 281474976710656 else 0
def Valid (s g : Nat) : Prop := s < 1024 ∧ 1 ≤ g ∧ g ≤ 1073741824
theorem bin_or_i64 {a b : Nat} (ha : a < 9223372036854775808) (hb : b < 9223372036854775808) : binV .or (.int .i64 (a : Int)) (.int .i64 (b : Int)) = some (.int .i64 ((a ||| b : Nat) : Int)) := by
  have hab : a ||| b < 9223372036854775808 := Nat.or_lt_two_pow (n := 63) ha hb
  show some (AV.int .i64 (IntKind.i64.wrap ((BitVec.ofInt 64 (a : Int) ||| BitVec.ofInt 64 (b : Int)).toNat : Int))) = _
  rw [BitVec.toNat_or, BitVec.ofInt_natCast, BitVec.ofInt_natCast, BitVec.toNat_ofNat, BitVec.toNat_ofNat, Nat.mod_eq_of_lt (show a < 2 ^ 64 by omega), Nat.mod_eq_of_lt (show b < 2 ^ 64 by omega), wrap_i64n hab]
theorem bin_and_i64 (a : Int) {c : Nat} (hc : c < 9223372036854775808) : ∃ m : Nat, m ≤ c ∧ binV .and (.int .i64 a) (.int .i64 (c : Int)) = some (.int .i64 (m : Int)) ∧ ∀ n : Nat, n < 9223372036854775808 → a = n → m = n &&& c := by
  refine ⟨(BitVec.ofInt 64 a &&& BitVec.ofInt 64 (c : Int)).toNat, ?_, ?_, ?_⟩
  · rw [BitVec.toNat_and, BitVec.ofInt_natCast, BitVec.toNat_ofNat, Nat.mod_eq_of_lt (show c < 2 ^ 64 by omega)]
    exact Nat.and_le_right
  · show some (AV.int .i64 (IntKind.i64.wrap ((BitVec.ofInt 64 a &&& BitVec.ofInt 64 (c : Int)).toNat : Int))) = _
    have : (BitVec.ofInt 64 a &&& BitVec.ofInt 64 (c : Int)).toNat ≤ c := by
      rw [BitVec.toNat_and, BitVec.ofInt_natCast, BitVec.toNat_ofNat, Nat.mod_eq_of_lt (show c < 2 ^ 64 by omega)]
      exact Nat.and_le_right
    rw [wrap_i64n (by omega)]
  · rintro n hn rfl
    rw [BitVec.toNat_and, BitVec.ofInt_natCast, BitVec.ofInt_natCast, BitVec.toNat_ofNat, BitVec.toNat_ofNat, Nat.mod_eq_of_lt (show c < 2 ^ 64 by omega), Nat.mod_eq_of_lt (show n < 2 ^ 64 by omega)]
theorem bin_shl16 {a : Nat} (h : a ≤ 1073741824) : binV .shl (.int .i64 (a : Int)) (.int .u64 16) = some (.int .i64 ((a * 65536 : Nat) : Int)) := by
  show intShift .shl .i64 (.ofNat a) 16 = _
  unfold intShift
  rw [if_neg (by decide)]
  show some (AV.int .i64 (IntKind.i64.wrap (Int.ofNat a * 2 ^ min (Int.toNat 16) 64))) = _
  rw [show Int.ofNat a * 2 ^ min (Int.toNat 16) 64 = ((a * 65536 : Nat) : Int) by simp, wrap_i64n (by omega)]
theorem or_low {g s : Nat} (h : s < 65536) : g * 65536 ||| s = g * 65536 + s := by
  have := Nat.two_pow_add_eq_or_of_lt (i := 16) (b := s) h g
  rw [Nat.mul_comm g, show (65536 : Nat) = 2 ^ 16 from rfl, this]
theorem or_leaf {x : Nat} (h : x < 281474976710656) : x ||| 281474976710656 = x + 281474976710656 := by
  have := Nat.two_pow_add_eq_or_of_lt (i := 48) (b := x) h 1
  rw [Nat.or_comm, Nat.add_comm]
  exact this.symm
theorem ref_ok (k : Fits T) {s g : Nat} {l : Bool} (hv : Valid s g) : Gives T 18 [.int .i64 (s : Int), .int .i64 (g : Int), .bool l] h fun r h' => r = .int .i64 (refN s g l : Nat) ∧ h' = h := by
  obtain ⟨h1, h2, h3⟩ := hv
  refine gives_func (k.env _ (by decide)) (k.at (fn := a18) rfl) rfl ?_
  have d1 : decide ((s : Int) < 0) = false := by rw [decide_eq_false_iff_not]; omega
  have d2 : decide ((s : Int) ≥ 1024) = false := by rw [decide_eq_false_iff_not]; omega
  have d3 : decide ((g : Int) < 1) = false := by rw [decide_eq_false_iff_not]; omega
  have d4 : decide ((g : Int) > 1073741824) = false := by rw [decide_eq_false_iff_not]; omega
  have eo := bin_or_i64 (a := g * 65536) (b := s) (by omega) (by omega)
  rw [or_low (by omega)] at eo
  have el := bin_or_i64 (a := g * 65536 + s) (b := 281474976710656) (by omega) (by omega)
  rw [or_leaf (by omega)] at el
  have el' : binV .or (.int .i64 ((g * 65536 + s : Nat) : Int)) (.int .i64 281474976710656) = some (.int .i64 ((g * 65536 + s + 281474976710656 : Nat) : Int)) := el
  cases l
  · simp only [a18, c18, wpc_first, wpc_ops, wpc_skip, wpc_exit, wpc_ret, wpc_block, wpc_test, ops_next, ops_nil, ops_test, step_mov, step_bin, step_un, step_pick, step_eqB, step_eqNil, step_toInt, step_lenStr, step_lenSlice, step_extract, step_fieldAddr, step_field, step_nilChk, step_idxAddr, step_idxStr, step_load, step_store, step_slc, step_slcStr, step_mkSlice, step_toStr, step_append, step_copy, step_buildSlice, step_build, step_new, step_call, Option.bind_some, Option.map_some, AOpd.val, Fr.at_put, at_ofArgs, Wo_some, Then_normal, Then_exit, Then_ret, InBlock_normal, InBlock_ret, InBlock_exit, Ends_ret, Ends_normal, res_nil, res_tmp, tuple_one, tuple_two, some_one, CondC_true, bin_add, bin_sub, bin_mul, bin_eql, bin_neq, bin_lss, bin_leq, bin_gtr, bin_geq, bin_str_eql, bin_str_neq, un_not, toInt_int, lenStr_str, pick_bool, List.getElem?_cons_zero, List.getElem?_cons_succ, Option.getD_some, Option.getD_none, List.map_cons, List.map_nil, Option.map_none, List.length_map, Nat.reduceEqDiff, if_true, if_false, reduceCtorEq, Nat.reduceAdd, Nat.reduceBEq, guardB_tt, guardB_ff, guardB_tf, guardB_ft, guardB_none, pick_t, pick_f, beq_self_eq_true, bne_self_eq_false, decide_true, decide_false, Bool.not_true, Bool.not_false, put_none, len_slice, len_nil, rest_mk, ThenC_normal, ThenC_exit, ThenC_ret, CondC_false, CondC_both, extract_0, extract_1, extract_2, d1, d2, d3, d4, bin_shl16 h3, eo]
    exact ⟨by simp [refN], trivial⟩
  · simp only [a18, c18, wpc_first, wpc_ops, wpc_skip, wpc_exit, wpc_ret, wpc_block, wpc_test, ops_next, ops_nil, ops_test, step_mov, step_bin, step_un, step_pick, step_eqB, step_eqNil, step_toInt, step_lenStr, step_lenSlice, step_extract, step_fieldAddr, step_field, step_nilChk, step_idxAddr, step_idxStr, step_load, step_store, step_slc, step_slcStr, step_mkSlice, step_toStr, step_append, step_copy, step_buildSlice, step_build, step_new, step_call, Option.bind_some, Option.map_some, AOpd.val, Fr.at_put, at_ofArgs, Wo_some, Then_normal, Then_exit, Then_ret, InBlock_normal, InBlock_ret, InBlock_exit, Ends_ret, Ends_normal, res_nil, res_tmp, tuple_one, tuple_two, some_one, CondC_true, bin_add, bin_sub, bin_mul, bin_eql, bin_neq, bin_lss, bin_leq, bin_gtr, bin_geq, bin_str_eql, bin_str_neq, un_not, toInt_int, lenStr_str, pick_bool, List.getElem?_cons_zero, List.getElem?_cons_succ, Option.getD_some, Option.getD_none, List.map_cons, List.map_nil, Option.map_none, List.length_map, Nat.reduceEqDiff, if_true, if_false, reduceCtorEq, Nat.reduceAdd, Nat.reduceBEq, guardB_tt, guardB_ff, guardB_tf, guardB_ft, guardB_none, pick_t, pick_f, beq_self_eq_true, bne_self_eq_false, decide_true, decide_false, Bool.not_true, Bool.not_false, put_none, len_slice, len_nil, rest_mk, ThenC_normal, ThenC_exit, ThenC_ret, CondC_false, CondC_both, extract_0, extract_1, extract_2, d1, d2, d3, d4, bin_shl16 h3, eo, el']
    exact ⟨by simp [refN], trivial⟩
theorem ref_no (k : Fits T) {s g : Nat} {l : Bool} (hv : ¬ Valid s g) : Gives T 18 [.int .i64 (s : Int), .int .i64 (g : Int), .bool l] h fun r h' => r = .int .i64 0 ∧ h' = h := by
  refine gives_func (k.env _ (by decide)) (k.at (fn := a18) rfl) rfl ?_
  have d1 : decide ((s : Int) < 0) = false := by rw [decide_eq_false_iff_not]; omega
  by_cases h1 : s < 1024
  · have d2 : decide ((s : Int) ≥ 1024) = false := by rw [decide_eq_false_iff_not]; omega
    by_cases h2 : 1 ≤ g
    · have d3 : decide ((g : Int) < 1) = false := by rw [decide_eq_false_iff_not]; omega
      have h3 : ¬ g ≤ 1073741824 := fun h3 => hv ⟨h1, h2, h3⟩
      have d4 : decide ((g : Int) > 1073741824) = true := by rw [decide_eq_true_eq]; omega
      simp only [a18, c18, wpc_first, wpc_ops, wpc_skip, wpc_exit, wpc_ret, wpc_block, wpc_test, ops_next, ops_nil, ops_test, step_mov, step_bin, step_un, step_pick, step_eqB, step_eqNil, step_toInt, step_lenStr, step_lenSlice, step_extract, step_fieldAddr, step_field, step_nilChk, step_idxAddr, step_idxStr, step_load, step_store, step_slc, step_slcStr, step_mkSlice, step_toStr, step_append, step_copy, step_buildSlice, step_build, step_new, step_call, Option.bind_some, Option.map_some, AOpd.val, Fr.at_put, at_ofArgs, Wo_some, Then_normal, Then_exit, Then_ret, InBlock_normal, InBlock_ret, InBlock_exit, Ends_ret, Ends_normal, res_nil, res_tmp, tuple_one, tuple_two, some_one, CondC_true, bin_add, bin_sub, bin_mul, bin_eql, bin_neq, bin_lss, bin_leq, bin_gtr, bin_geq, bin_str_eql, bin_str_neq, un_not, toInt_int, lenStr_str, pick_bool, List.getElem?_cons_zero, List.getElem?_cons_succ, Option.getD_some, Option.getD_none, List.map_cons, List.map_nil, Option.map_none, List.length_map, Nat.reduceEqDiff, if_true, if_false, reduceCtorEq, Nat.reduceAdd, Nat.reduceBEq, guardB_tt, guardB_ff, guardB_tf, guardB_ft, guardB_none, pick_t, pick_f, beq_self_eq_true, bne_self_eq_false, decide_true, decide_false, Bool.not_true, Bool.not_false, put_none, len_slice, len_nil, rest_mk, ThenC_normal, ThenC_exit, ThenC_ret, CondC_false, CondC_both, extract_0, extract_1, extract_2, d1, d2, d3, d4]; exact ⟨trivial, trivial⟩
    · have d3 : decide ((g : Int) < 1) = true := by rw [decide_eq_true_eq]; omega
      simp only [a18, c18, wpc_first, wpc_ops, wpc_skip, wpc_exit, wpc_ret, wpc_block, wpc_test, ops_next, ops_nil, ops_test, step_mov, step_bin, step_un, step_pick, step_eqB, step_eqNil, step_toInt, step_lenStr, step_lenSlice, step_extract, step_fieldAddr, step_field, step_nilChk, step_idxAddr, step_idxStr, step_load, step_store, step_slc, step_slcStr, step_mkSlice, step_toStr, step_append, step_copy, step_buildSlice, step_build, step_new, step_call, Option.bind_some, Option.map_some, AOpd.val, Fr.at_put, at_ofArgs, Wo_some, Then_normal, Then_exit, Then_ret, InBlock_normal, InBlock_ret, InBlock_exit, Ends_ret, Ends_normal, res_nil, res_tmp, tuple_one, tuple_two, some_one, CondC_true, bin_add, bin_sub, bin_mul, bin_eql, bin_neq, bin_lss, bin_leq, bin_gtr, bin_geq, bin_str_eql, bin_str_neq, un_not, toInt_int, lenStr_str, pick_bool, List.getElem?_cons_zero, List.getElem?_cons_succ, Option.getD_some, Option.getD_none, List.map_cons, List.map_nil, Option.map_none, List.length_map, Nat.reduceEqDiff, if_true, if_false, reduceCtorEq, Nat.reduceAdd, Nat.reduceBEq, guardB_tt, guardB_ff, guardB_tf, guardB_ft, guardB_none, pick_t, pick_f, beq_self_eq_true, bne_self_eq_false, decide_true, decide_false, Bool.not_true, Bool.not_false, put_none, len_slice, len_nil, rest_mk, ThenC_normal, ThenC_exit, ThenC_ret, CondC_false, CondC_both, extract_0, extract_1, extract_2, d1, d2, d3]; exact ⟨trivial, trivial⟩
  · have d2 : decide ((s : Int) ≥ 1024) = true := by rw [decide_eq_true_eq]; omega
    simp only [a18, c18, wpc_first, wpc_ops, wpc_skip, wpc_exit, wpc_ret, wpc_block, wpc_test, ops_next, ops_nil, ops_test, step_mov, step_bin, step_un, step_pick, step_eqB, step_eqNil, step_toInt, step_lenStr, step_lenSlice, step_extract, step_fieldAddr, step_field, step_nilChk, step_idxAddr, step_idxStr, step_load, step_store, step_slc, step_slcStr, step_mkSlice, step_toStr, step_append, step_copy, step_buildSlice, step_build, step_new, step_call, Option.bind_some, Option.map_some, AOpd.val, Fr.at_put, at_ofArgs, Wo_some, Then_normal, Then_exit, Then_ret, InBlock_normal, InBlock_ret, InBlock_exit, Ends_ret, Ends_normal, res_nil, res_tmp, tuple_one, tuple_two, some_one, CondC_true, bin_add, bin_sub, bin_mul, bin_eql, bin_neq, bin_lss, bin_leq, bin_gtr, bin_geq, bin_str_eql, bin_str_neq, un_not, toInt_int, lenStr_str, pick_bool, List.getElem?_cons_zero, List.getElem?_cons_succ, Option.getD_some, Option.getD_none, List.map_cons, List.map_nil, Option.map_none, List.length_map, Nat.reduceEqDiff, if_true, if_false, reduceCtorEq, Nat.reduceAdd, Nat.reduceBEq, guardB_tt, guardB_ff, guardB_tf, guardB_ft, guardB_none, pick_t, pick_f, beq_self_eq_true, bne_self_eq_false, decide_true, decide_false, Bool.not_true, Bool.not_false, put_none, len_slice, len_nil, rest_mk, ThenC_normal, ThenC_exit, ThenC_ret, CondC_false, CondC_both, extract_0, extract_1, extract_2, d1, d2]; exact ⟨trivial, trivial⟩
theorem refN_lt {s g : Nat} {l : Bool} (hv : Valid s g) : refN s g l < 562949953421312 ∧ 0 < refN s g l := by
  obtain ⟨h1, h2, h3⟩ := hv
  unfold refN
  cases l <;> simp <;> omega
theorem refN_slot {s g : Nat} {l : Bool} (hv : Valid s g) : refN s g l &&& 65535 = s := by
  obtain ⟨h1, h2, h3⟩ := hv
  rw [show (65535 : Nat) = 2 ^ 16 - 1 from rfl, Nat.and_two_pow_sub_one_eq_mod]
  unfold refN
  cases l <;> simp <;> omega
theorem refN_gen {s g : Nat} {l : Bool} (hv : Valid s g) : refN s g l / 65536 &&& 4294967295 = g := by
  obtain ⟨h1, h2, h3⟩ := hv
  rw [show (4294967295 : Nat) = 2 ^ 32 - 1 from rfl, Nat.and_two_pow_sub_one_eq_mod]
  unfold refN
  cases l <;> simp <;> omega
theorem and_pow48 (n : Nat) : ((n &&& 281474976710656 : Nat) != 0) = n.testBit 48 := by
  rw [show (281474976710656 : Nat) = 2 ^ 48 from rfl]
  cases hb : n.testBit 48
  · have : n &&& 2 ^ 48 = 0 := by
      apply Nat.eq_of_testBit_eq
      intro i
      rw [Nat.testBit_and, Nat.testBit_two_pow, Nat.zero_testBit]
      by_cases e : 48 = i
      · subst e; simp [hb]
      · simp [e]
    rw [this]; rfl
  · have h1 : (n &&& 2 ^ 48).testBit 48 = true := by rw [Nat.testBit_and, hb, Nat.testBit_two_pow]; rfl
    rw [bne_iff_ne]
    intro e
    rw [e, Nat.zero_testBit] at h1
    cases h1
theorem refN_leaf {s g : Nat} {l : Bool} (hv : Valid s g) : ((refN s g l &&& 281474976710656 : Nat) != 0) = l := by
  obtain ⟨h1, h2, h3⟩ := hv
  rw [and_pow48, Nat.testBit_eq_decide_div_mod_eq]
  unfold refN
  cases l
  · simp; omega
  · simp; omega
theorem refN_inj {s g s' g' : Nat} {l l' : Bool} (hv : Valid s g) (hv' : Valid s' g') (e : refN s g l = refN s' g' l') : s = s' ∧ g = g' ∧ l = l' := by
  refine ⟨?_, ?_, ?_⟩
  · rw [← refN_slot (l := l) hv, e, refN_slot hv']
  · rw [← refN_gen (l := l) hv, e, refN_gen hv']
  · rw [← refN_leaf (l := l) hv, e, refN_leaf hv']
/-- A ref's parts. -/
theorem parts_ok (k : Fits T) (ref : Int) : Gives T 36 [.int .i64 ref] h fun r h' => h' = h ∧
    ((∃ s g l, Valid s g ∧ ref = (refN s g l : Nat) ∧ r = .tuple [.int .i64 (s : Nat), .int .i64 (g : Nat), .bool l, .bool true]) ∨
     ((∀ s g l, Valid s g → ref ≠ (refN s g l : Nat)) ∧ r = .tuple [.int .i64 0, .int .i64 0, .bool false, .bool false])) := by
  refine gives_func (k.env _ (by decide)) (k.at (fn := a36) rfl) rfl ?_
  obtain ⟨s, hs1, hs2, hs3⟩ := bin_and_i64 ref (c := 65535) (by omega)
  have hs2' : binV .and (.int .i64 ref) (.int .i64 65535) = some (.int .i64 (s : Int)) := hs2
  obtain ⟨g, hg1, hg2, hg3⟩ := bin_and_i64 (ref.fdiv 65536) (c := 4294967295) (by omega)
  have hg2' : binV .and (.int .i64 (ref.fdiv 65536)) (.int .i64 4294967295) = some (.int .i64 (g : Int)) := hg2
  obtain ⟨lf, hl1, hl2, hl3⟩ := bin_and_i64 ref (c := 281474976710656) (by omega)
  have hl2' : binV .and (.int .i64 ref) (.int .i64 281474976710656) = some (.int .i64 (lf : Int)) := hl2
  have hshr : binV .shr (.int .i64 ref) (.int .u64 16) = some (.int .i64 (ref.fdiv 65536)) := by
    show intShift .shr .i64 ref 16 = _
    unfold intShift
    rw [if_neg (by decide)]
    rfl
  have hback : ∀ s' g' l', Valid s' g' → ref = (refN s' g' l' : Nat) → s' = s ∧ g' = g ∧ l' = ((lf : Int) != 0) := by
    intro s' g' l' hv e
    have hlt := refN_lt (l := l') hv
    have e1 := hs3 _ (by omega) e
    have e2 := hg3 (refN s' g' l' / 65536) (by omega) (by rw [e, Int.fdiv_eq_ediv_of_nonneg _ (by omega)]; rfl)
    have e3 := hl3 _ (by omega) e
    rw [refN_slot hv] at e1
    rw [refN_gen hv] at e2
    refine ⟨e1.symm, e2.symm, ?_⟩
    rw [e3]
    refine (refN_leaf (l := l') hv).symm.trans ?_
    rw [Bool.eq_iff_iff]
    simp only [bne_iff_ne, ne_eq]
    omega
  simp only [a36, c36, wpc_first, wpc_ops, wpc_skip, wpc_exit, wpc_ret, wpc_block, wpc_test, ops_next, ops_nil, ops_test, step_mov, step_bin, step_un, step_pick, step_eqB, step_eqNil, step_toInt, step_lenStr, step_lenSlice, step_extract, step_fieldAddr, step_field, step_nilChk, step_idxAddr, step_idxStr, step_load, step_store, step_slc, step_slcStr, step_mkSlice, step_toStr, step_append, step_copy, step_buildSlice, step_build, step_new, step_call, Option.bind_some, Option.map_some, AOpd.val, Fr.at_put, at_ofArgs, Wo_some, Then_normal, Then_exit, Then_ret, InBlock_normal, InBlock_ret, InBlock_exit, Ends_ret, Ends_normal, res_nil, res_tmp, tuple_one, tuple_two, some_one, CondC_true, bin_add, bin_sub, bin_mul, bin_eql, bin_neq, bin_lss, bin_leq, bin_gtr, bin_geq, bin_str_eql, bin_str_neq, un_not, toInt_int, lenStr_str, pick_bool, List.getElem?_cons_zero, List.getElem?_cons_succ, Option.getD_some, Option.getD_none, List.map_cons, List.map_nil, Option.map_none, List.length_map, Nat.reduceEqDiff, if_true, if_false, reduceCtorEq, Nat.reduceAdd, Nat.reduceBEq, guardB_tt, guardB_ff, guardB_tf, guardB_ft, guardB_none, pick_t, pick_f, beq_self_eq_true, bne_self_eq_false, decide_true, decide_false, Bool.not_true, Bool.not_false, put_none, len_slice, len_nil, rest_mk, ThenC_normal, ThenC_exit, ThenC_ret, CondC_false, CondC_both, extract_0, extract_1, extract_2, hs2', hg2', hl2', hshr]
  by_cases hz : ref = 0
  · have d : (ref == 0) = true := by simpa using hz
    simp only [d, wpc_first, wpc_ops, wpc_skip, wpc_exit, wpc_ret, wpc_block, wpc_test, ops_next, ops_nil, ops_test, step_mov, step_bin, step_un, step_pick, step_eqB, step_eqNil, step_toInt, step_lenStr, step_lenSlice, step_extract, step_fieldAddr, step_field, step_nilChk, step_idxAddr, step_idxStr, step_load, step_store, step_slc, step_slcStr, step_mkSlice, step_toStr, step_append, step_copy, step_buildSlice, step_build, step_new, step_call, Option.bind_some, Option.map_some, AOpd.val, Fr.at_put, at_ofArgs, Wo_some, Then_normal, Then_exit, Then_ret, InBlock_normal, InBlock_ret, InBlock_exit, Ends_ret, Ends_normal, res_nil, res_tmp, tuple_one, tuple_two, some_one, CondC_true, bin_add, bin_sub, bin_mul, bin_eql, bin_neq, bin_lss, bin_leq, bin_gtr, bin_geq, bin_str_eql, bin_str_neq, un_not, toInt_int, lenStr_str, pick_bool, List.getElem?_cons_zero, List.getElem?_cons_succ, Option.getD_some, Option.getD_none, List.map_cons, List.map_nil, Option.map_none, List.length_map, Nat.reduceEqDiff, if_true, if_false, reduceCtorEq, Nat.reduceAdd, Nat.reduceBEq, guardB_tt, guardB_ff, guardB_tf, guardB_ft, guardB_none, pick_t, pick_f, beq_self_eq_true, bne_self_eq_false, decide_true, decide_false, Bool.not_true, Bool.not_false, put_none, len_slice, len_nil, rest_mk, ThenC_normal, ThenC_exit, ThenC_ret, CondC_false, CondC_both, extract_0, extract_1, extract_2]
    refine ⟨trivial, .inr ⟨fun s' g' l' hv e => ?_, trivial⟩⟩
    have := refN_lt (l := l') hv
    omega
  have d : (ref == 0) = false := by simpa using hz
  simp only [d, wpc_first, wpc_ops, wpc_skip, wpc_exit, wpc_ret, wpc_block, wpc_test, ops_next, ops_nil, ops_test, step_mov, step_bin, step_un, step_pick, step_eqB, step_eqNil, step_toInt, step_lenStr, step_lenSlice, step_extract, step_fieldAddr, step_field, step_nilChk, step_idxAddr, step_idxStr, step_load, step_store, step_slc, step_slcStr, step_mkSlice, step_toStr, step_append, step_copy, step_buildSlice, step_build, step_new, step_call, Option.bind_some, Option.map_some, AOpd.val, Fr.at_put, at_ofArgs, Wo_some, Then_normal, Then_exit, Then_ret, InBlock_normal, InBlock_ret, InBlock_exit, Ends_ret, Ends_normal, res_nil, res_tmp, tuple_one, tuple_two, some_one, CondC_true, bin_add, bin_sub, bin_mul, bin_eql, bin_neq, bin_lss, bin_leq, bin_gtr, bin_geq, bin_str_eql, bin_str_neq, un_not, toInt_int, lenStr_str, pick_bool, List.getElem?_cons_zero, List.getElem?_cons_succ, Option.getD_some, Option.getD_none, List.map_cons, List.map_nil, Option.map_none, List.length_map, Nat.reduceEqDiff, if_true, if_false, reduceCtorEq, Nat.reduceAdd, Nat.reduceBEq, guardB_tt, guardB_ff, guardB_tf, guardB_ft, guardB_none, pick_t, pick_f, beq_self_eq_true, bne_self_eq_false, decide_true, decide_false, Bool.not_true, Bool.not_false, put_none, len_slice, len_nil, rest_mk, ThenC_normal, ThenC_exit, ThenC_ret, CondC_false, CondC_both, extract_0, extract_1, extract_2]
  by_cases hv : Valid s g
  · refine Gives.bind ((ref_ok k (l := ((lf : Int) != 0)) hv).mono ?_)
    rintro _ _ ⟨rfl, rfl⟩
    by_cases he : ((refN s g ((lf : Int) != 0) : Nat) : Int) = ref
    · have d2 : (((refN s g ((lf : Int) != 0) : Nat) : Int) != ref) = false := by rw [he]; simp
      simp only [d2, wpc_first, wpc_ops, wpc_skip, wpc_exit, wpc_ret, wpc_block, wpc_test, ops_next, ops_nil, ops_test, step_mov, step_bin, step_un, step_pick, step_eqB, step_eqNil, step_toInt, step_lenStr, step_lenSlice, step_extract, step_fieldAddr, step_field, step_nilChk, step_idxAddr, step_idxStr, step_load, step_store, step_slc, step_slcStr, step_mkSlice, step_toStr, step_append, step_copy, step_buildSlice, step_build, step_new, step_call, Option.bind_some, Option.map_some, AOpd.val, Fr.at_put, at_ofArgs, Wo_some, Then_normal, Then_exit, Then_ret, InBlock_normal, InBlock_ret, InBlock_exit, Ends_ret, Ends_normal, res_nil, res_tmp, tuple_one, tuple_two, some_one, CondC_true, bin_add, bin_sub, bin_mul, bin_eql, bin_neq, bin_lss, bin_leq, bin_gtr, bin_geq, bin_str_eql, bin_str_neq, un_not, toInt_int, lenStr_str, pick_bool, List.getElem?_cons_zero, List.getElem?_cons_succ, Option.getD_some, Option.getD_none, List.map_cons, List.map_nil, Option.map_none, List.length_map, Nat.reduceEqDiff, if_true, if_false, reduceCtorEq, Nat.reduceAdd, Nat.reduceBEq, guardB_tt, guardB_ff, guardB_tf, guardB_ft, guardB_none, pick_t, pick_f, beq_self_eq_true, bne_self_eq_false, decide_true, decide_false, Bool.not_true, Bool.not_false, put_none, len_slice, len_nil, rest_mk, ThenC_normal, ThenC_exit, ThenC_ret, CondC_false, CondC_both, extract_0, extract_1, extract_2]
      exact ⟨trivial, .inl ⟨s, g, _, hv, he.symm, rfl⟩⟩
    · have d2 : (((refN s g ((lf : Int) != 0) : Nat) : Int) != ref) = true := by simpa using he
      simp only [d2, wpc_first, wpc_ops, wpc_skip, wpc_exit, wpc_ret, wpc_block, wpc_test, ops_next, ops_nil, ops_test, step_mov, step_bin, step_un, step_pick, step_eqB, step_eqNil, step_toInt, step_lenStr, step_lenSlice, step_extract, step_fieldAddr, step_field, step_nilChk, step_idxAddr, step_idxStr, step_load, step_store, step_slc, step_slcStr, step_mkSlice, step_toStr, step_append, step_copy, step_buildSlice, step_build, step_new, step_call, Option.bind_some, Option.map_some, AOpd.val, Fr.at_put, at_ofArgs, Wo_some, Then_normal, Then_exit, Then_ret, InBlock_normal, InBlock_ret, InBlock_exit, Ends_ret, Ends_normal, res_nil, res_tmp, tuple_one, tuple_two, some_one, CondC_true, bin_add, bin_sub, bin_mul, bin_eql, bin_neq, bin_lss, bin_leq, bin_gtr, bin_geq, bin_str_eql, bin_str_neq, un_not, toInt_int, lenStr_str, pick_bool, List.getElem?_cons_zero, List.getElem?_cons_succ, Option.getD_some, Option.getD_none, List.map_cons, List.map_nil, Option.map_none, List.length_map, Nat.reduceEqDiff, if_true, if_false, reduceCtorEq, Nat.reduceAdd, Nat.reduceBEq, guardB_tt, guardB_ff, guardB_tf, guardB_ft, guardB_none, pick_t, pick_f, beq_self_eq_true, bne_self_eq_false, decide_true, decide_false, Bool.not_true, Bool.not_false, put_none, len_slice, len_nil, rest_mk, ThenC_normal, ThenC_exit, ThenC_ret, CondC_false, CondC_both, extract_0, extract_1, extract_2]
      refine ⟨trivial, .inr ⟨fun s' g' l' hv' e => he ?_, trivial⟩⟩
      obtain ⟨rfl, rfl, rfl⟩ := hback s' g' l' hv' e
      exact e.symm
  · refine Gives.bind ((ref_no k (l := ((lf : Int) != 0)) hv).mono ?_)
    rintro _ _ ⟨rfl, rfl⟩
    have d2 : ((0 : Int) != ref) = true := by simp; omega
    simp only [d2, wpc_first, wpc_ops, wpc_skip, wpc_exit, wpc_ret, wpc_block, wpc_test, ops_next, ops_nil, ops_test, step_mov, step_bin, step_un, step_pick, step_eqB, step_eqNil, step_toInt, step_lenStr, step_lenSlice, step_extract, step_fieldAddr, step_field, step_nilChk, step_idxAddr, step_idxStr, step_load, step_store, step_slc, step_slcStr, step_mkSlice, step_toStr, step_append, step_copy, step_buildSlice, step_build, step_new, step_call, Option.bind_some, Option.map_some, AOpd.val, Fr.at_put, at_ofArgs, Wo_some, Then_normal, Then_exit, Then_ret, InBlock_normal, InBlock_ret, InBlock_exit, Ends_ret, Ends_normal, res_nil, res_tmp, tuple_one, tuple_two, some_one, CondC_true, bin_add, bin_sub, bin_mul, bin_eql, bin_neq, bin_lss, bin_leq, bin_gtr, bin_geq, bin_str_eql, bin_str_neq, un_not, toInt_int, lenStr_str, pick_bool, List.getElem?_cons_zero, List.getElem?_cons_succ, Option.getD_some, Option.getD_none, List.map_cons, List.map_nil, Option.map_none, List.length_map, Nat.reduceEqDiff, if_true, if_false, reduceCtorEq, Nat.reduceAdd, Nat.reduceBEq, guardB_tt, guardB_ff, guardB_tf, guardB_ft, guardB_none, pick_t, pick_f, beq_self_eq_true, bne_self_eq_false, decide_true, decide_false, Bool.not_true, Bool.not_false, put_none, len_slice, len_nil, rest_mk, ThenC_normal, ThenC_exit, ThenC_ret, CondC_false, CondC_both, extract_0, extract_1, extract_2]
    refine ⟨trivial, .inr ⟨fun s' g' l' hv' e => hv ?_, trivial⟩⟩
    obtain ⟨rfl, rfl, rfl⟩ := hback s' g' l' hv' e
    exact hv'
end Go.Proofs.Ytejjkienklaghaa

/- The functions that the laws of chapter 2 reach: what each comes to. -/
import Derived.Test.YtcnghmfmokmnpaaP2A
import Derived.Test.YtcnghmfmokmnpaaP2N
namespace Go.Proofs.Ytcnghmfmokmnpaa
open Go.Vm
set_option linter.unusedSimpArgs false
set_option linter.unusedVariables false
variable {T : Vm.Prog} {h : AH}
def cnt (n : Int) : Int := if n ≤ 0 then 0 else (n - 1) / 8 + 1
theorem count_ok (he : T.env 11 = none) (hf : T.func 11 = some a11) {n : Int} (h1 : -9223372036854775808 ≤ n) (h2 : n ≤ 9223372036854775807) :
    Gives T 11 [.int .i64 n] h fun r h' => r = .int .i64 (cnt n) ∧ h' = h := by
  refine gives_func he hf rfl ?_
  simp only [a11, c11, wpc_first, wpc_ops, wpc_skip, wpc_exit, wpc_ret, wpc_block, wpc_test, ops_next, ops_nil, ops_test, step_mov, step_bin, step_un, step_pick, step_eqB, step_eqNil, step_toInt, step_lenStr, step_lenSlice, step_extract, step_fieldAddr, step_field, step_nilChk, step_idxAddr, step_idxStr, step_load, step_store, step_slc, step_slcStr, step_mkSlice, step_toStr, step_append, step_copy, step_buildSlice, step_build, step_new, step_call, Option.bind_some, Option.map_some, AOpd.val, Fr.at_put, at_ofArgs, Wo_some, Then_normal, Then_exit, Then_ret, InBlock_normal, InBlock_ret, InBlock_exit, Ends_ret, Ends_normal, res_nil, res_tmp, tuple_one, tuple_two, some_one, CondC_true, bin_add, bin_sub, bin_mul, bin_eql, bin_neq, bin_lss, bin_leq, bin_gtr, bin_geq, bin_str_eql, bin_str_neq, un_not, toInt_int, lenStr_str, pick_bool, List.getElem?_cons_zero, List.getElem?_cons_succ, Option.getD_some, Option.getD_none, List.map_cons, List.map_nil, Option.map_none, List.length_map, Nat.reduceEqDiff, if_true, if_false, reduceCtorEq, Nat.reduceAdd, Nat.reduceBEq, guardB_tt, guardB_ff, guardB_tf, guardB_ft, guardB_none, pick_t, pick_f, beq_self_eq_true, bne_self_eq_false, decide_true, decide_false, Bool.not_true, Bool.not_false, put_none, len_slice, len_nil, rest_mk, ThenC_normal, ThenC_exit, ThenC_ret, CondC_false, CondC_both, extract_0, extract_1, extract_2, bin_quo8]
  by_cases hn : n ≤ 0
  · simp only [hn, wpc_first, wpc_ops, wpc_skip, wpc_exit, wpc_ret, wpc_block, wpc_test, ops_next, ops_nil, ops_test, step_mov, step_bin, step_un, step_pick, step_eqB, step_eqNil, step_toInt, step_lenStr, step_lenSlice, step_extract, step_fieldAddr, step_field, step_nilChk, step_idxAddr, step_idxStr, step_load, step_store, step_slc, step_slcStr, step_mkSlice, step_toStr, step_append, step_copy, step_buildSlice, step_build, step_new, step_call, Option.bind_some, Option.map_some, AOpd.val, Fr.at_put, at_ofArgs, Wo_some, Then_normal, Then_exit, Then_ret, InBlock_normal, InBlock_ret, InBlock_exit, Ends_ret, Ends_normal, res_nil, res_tmp, tuple_one, tuple_two, some_one, CondC_true, bin_add, bin_sub, bin_mul, bin_eql, bin_neq, bin_lss, bin_leq, bin_gtr, bin_geq, bin_str_eql, bin_str_neq, un_not, toInt_int, lenStr_str, pick_bool, List.getElem?_cons_zero, List.getElem?_cons_succ, Option.getD_some, Option.getD_none, List.map_cons, List.map_nil, Option.map_none, List.length_map, Nat.reduceEqDiff, if_true, if_false, reduceCtorEq, Nat.reduceAdd, Nat.reduceBEq, guardB_tt, guardB_ff, guardB_tf, guardB_ft, guardB_none, pick_t, pick_f, beq_self_eq_true, bne_self_eq_false, decide_true, decide_false, Bool.not_true, Bool.not_false, put_none, len_slice, len_nil, rest_mk, ThenC_normal, ThenC_exit, ThenC_ret, CondC_false, CondC_both, extract_0, extract_1, extract_2, cnt]; exact ⟨trivial, trivial⟩
  · have e1 : IntKind.i64.wrap (n - 1) = n - 1 := wrap_i64 (by omega) (by omega)
    have e2 : (n - 1).tdiv 8 = (n - 1) / 8 := Int.tdiv_eq_ediv_of_nonneg (by omega)
    have e3 : IntKind.i64.wrap ((n - 1) / 8) = (n - 1) / 8 := wrap_i64 (by omega) (by omega)
    have e4 : IntKind.i64.wrap ((n - 1) / 8 + 1) = (n - 1) / 8 + 1 := wrap_i64 (by omega) (by omega)
    simp only [hn, wpc_first, wpc_ops, wpc_skip, wpc_exit, wpc_ret, wpc_block, wpc_test, ops_next, ops_nil, ops_test, step_mov, step_bin, step_un, step_pick, step_eqB, step_eqNil, step_toInt, step_lenStr, step_lenSlice, step_extract, step_fieldAddr, step_field, step_nilChk, step_idxAddr, step_idxStr, step_load, step_store, step_slc, step_slcStr, step_mkSlice, step_toStr, step_append, step_copy, step_buildSlice, step_build, step_new, step_call, Option.bind_some, Option.map_some, AOpd.val, Fr.at_put, at_ofArgs, Wo_some, Then_normal, Then_exit, Then_ret, InBlock_normal, InBlock_ret, InBlock_exit, Ends_ret, Ends_normal, res_nil, res_tmp, tuple_one, tuple_two, some_one, CondC_true, bin_add, bin_sub, bin_mul, bin_eql, bin_neq, bin_lss, bin_leq, bin_gtr, bin_geq, bin_str_eql, bin_str_neq, un_not, toInt_int, lenStr_str, pick_bool, List.getElem?_cons_zero, List.getElem?_cons_succ, Option.getD_some, Option.getD_none, List.map_cons, List.map_nil, Option.map_none, List.length_map, Nat.reduceEqDiff, if_true, if_false, reduceCtorEq, Nat.reduceAdd, Nat.reduceBEq, guardB_tt, guardB_ff, guardB_tf, guardB_ft, guardB_none, pick_t, pick_f, beq_self_eq_true, bne_self_eq_false, decide_true, decide_false, Bool.not_true, Bool.not_false, put_none, len_slice, len_nil, rest_mk, ThenC_normal, ThenC_exit, ThenC_ret, CondC_false, CondC_both, extract_0, extract_1, extract_2, cnt, e1, e2, e3, e4]; exact ⟨trivial, trivial⟩
theorem cnt_nat (n : Nat) : cnt (n : Int) = (cntN n : Nat) := by
  unfold cnt cntN
  split
  · omega
  · omega

theorem bin_or_u64 {a b : Nat} (ha : a < 18446744073709551616) (hb : b < 18446744073709551616) (hab : a ||| b < 18446744073709551616) : binV .or (.int .u64 (a : Int)) (.int .u64 (b : Int)) = some (.int .u64 ((a ||| b : Nat) : Int)) := by
  show some (AV.int .u64 (IntKind.u64.wrap ((BitVec.ofInt 64 (a : Int) ||| BitVec.ofInt 64 (b : Int)).toNat : Int))) = _
  rw [BitVec.toNat_or, BitVec.ofInt_natCast, BitVec.ofInt_natCast, BitVec.toNat_ofNat, BitVec.toNat_ofNat, Nat.mod_eq_of_lt (show a < 2 ^ 64 by omega), Nat.mod_eq_of_lt (show b < 2 ^ 64 by omega),
    show IntKind.u64.wrap ((a ||| b : Nat) : Int) = ((a ||| b : Nat) : Int) from wrap_nat_le (show (a ||| b) ≤ 18446744073709551615 by omega)]
theorem wrap_u64 {n : Nat} (h : n < 18446744073709551616) : IntKind.u64.wrap (n : Int) = (n : Int) := wrap_nat_le (show n ≤ 18446744073709551615 by omega)
theorem wrap_i64n {n : Nat} (h : n < 9223372036854775808) : IntKind.i64.wrap (n : Int) = (n : Int) := wrap_nat_le (show n ≤ 9223372036854775807 by omega)
theorem wrap_u8 {n : Nat} : IntKind.u8.wrap (n : Int) = ((n % 256 : Nat) : Int) := by
  unfold IntKind.wrap
  simp [IntKind.bits, IntKind.signed]
theorem bin_shl_u64 {a n : Nat} (hn : n < 64) (h : a * 2 ^ n < 18446744073709551616) : binV .shl (.int .u64 (a : Int)) (.int .u64 (n : Int)) = some (.int .u64 ((a * 2 ^ n : Nat) : Int)) := by
  show intShift .shl .u64 (.ofNat a) (.ofNat n) = _
  unfold intShift
  rw [if_neg (by simp only [Int.ofNat_eq_natCast]; omega)]
  show some (AV.int .u64 (IntKind.u64.wrap (Int.ofNat a * 2 ^ min n 64))) = _
  rw [Nat.min_eq_left (by omega), show Int.ofNat a * 2 ^ n = ((a * 2 ^ n : Nat) : Int) by simp, wrap_u64 h]
theorem bin_shr_u64 {a n : Nat} (hn : n < 64) (k : IntKind) : binV .shr (.int .u64 (a : Int)) (.int k (n : Int)) = some (.int .u64 ((a / 2 ^ n : Nat) : Int)) := by
  show intShift .shr .u64 (.ofNat a) (.ofNat n) = _
  unfold intShift
  rw [if_neg (by simp only [Int.ofNat_eq_natCast]; omega)]
  show some (AV.int .u64 (Int.fdiv (Int.ofNat a) (2 ^ min n 64))) = _
  rw [Nat.min_eq_left (by omega), Int.fdiv_eq_ediv_of_nonneg _ (Int.le_of_lt (Int.pow_pos (by decide)))]
  simp
theorem bin_shl_i64 {a n : Nat} (hn : n < 64) (h : a * 2 ^ n < 18446744073709551616) : binV .shl (.int .u64 (a : Int)) (.int .i64 (n : Int)) = some (.int .u64 ((a * 2 ^ n : Nat) : Int)) := by
  show intShift .shl .u64 (.ofNat a) (.ofNat n) = _
  unfold intShift
  rw [if_neg (by simp only [Int.ofNat_eq_natCast]; omega)]
  show some (AV.int .u64 (IntKind.u64.wrap (Int.ofNat a * 2 ^ min n 64))) = _
  rw [Nat.min_eq_left (by omega), show Int.ofNat a * 2 ^ n = ((a * 2 ^ n : Nat) : Int) by simp, wrap_u64 h]
/-- Words as cells. -/
def cells (ws : List Nat) : List AV := ws.map fun (n : Nat) => .int .u64 (n : Int)
theorem cells_get {ws : List Nat} {i n : Nat} (h : ws[i]? = some n) : (cells ws)[i]? = some (.int .u64 (n : Int)) := by simp [cells, h]
theorem cells_len (ws : List Nat) : (cells ws).length = ws.length := by simp [cells]
theorem rep_one (v : AV) (n : Nat) : rep [v] n = List.replicate n v := by
  induction n with
  | zero => rfl
  | succ n ih => simp only [rep, ih, List.replicate_succ]; rfl
theorem rep_cells (n : Nat) : rep [.int .u64 0] n = cells (wordsN [] n) := by
  rw [rep_one, wordsN_none]; simp [cells]
theorem mkSlice_nat {h : AH} {sz bytes l c : Nat} {zero : List AV} {k k' : IntKind} (h1 : l ≤ c) (h2 : c ≤ 9223372036854775807) (h3 : bytes * c ≤ 281474976710656) :
    mkSliceV h sz bytes zero (.int k (l : Int)) (.int k' (c : Int)) = some (.slice h.next 0 sz l c true, h.new (.cells (rep zero c) true)) := by
  unfold mkSliceV
  rw [natOf_cast, natOf_cast]
  simp only
  rw [if_pos ⟨h1, h2, h3⟩]
theorem tdiv8 (n : Nat) : ((n : Int)).tdiv 8 = ((n / 8 : Nat) : Int) := by rw [Int.tdiv_eq_ediv_of_nonneg (by omega)]; rfl
theorem tmod8 (n : Nat) : ((n : Int)).tmod 8 = ((n % 8 : Nat) : Int) := by rw [Int.tmod_eq_emod_of_nonneg (by omega)]; rfl
theorem idx_nat {o off len cap i : Nat} {ex : Bool} {k : IntKind} (h : i < len) : idxAddrV 1 (.slice o off 1 len cap ex) (.int k (i : Int)) = some (.ptr o (off + i)) := by
  simp [idxAddrV, h]
theorem idxStr_nat {s : List UInt8} {i : Nat} {c : UInt8} {k : IntKind} (h : s[i]? = some c) : idxStrV (.str s) (.int k (i : Int)) = some (.int .u8 (c.toNat : Nat)) := by
  simp [idxStrV, h]
theorem nat8_get {s : List UInt8} {i : Nat} {c : UInt8} (h : s[i]? = some c) : (nat8 s)[i]? = some c.toNat := by simp [nat8, h]
theorem pow8 {m b : Nat} (hm : m < 8) (hb : b < 256) : b * 2 ^ (8 * m) < 18446744073709551616 := by
  have h1 : b * 2 ^ (8 * m) ≤ 255 * 2 ^ (8 * m) := Nat.mul_le_mul_right _ (by omega)
  have h2 : 2 ^ (8 * m) ≤ 2 ^ 56 := Nat.pow_le_pow_right (by decide) (by omega)
  have h3 : (2 : Nat) ^ 56 = 72057594037927936 := by decide
  omega

/-- Every object has a number below the next one. -/
def Low (h : AH) : Prop := ∀ o x, h.get o = some x → o < h.next
theorem Low.new {h : AH} (k : Low h) (x : AObj) : Low (h.new x) := by
  intro o y hy
  rw [AH.get_new] at hy
  split at hy
  · rename_i e; rw [next_new]; omega
  · have := k o y hy; rw [next_new]; omega
theorem Low.set {h : AH} (k : Low h) {o : Nat} (ho : o < h.next) (x : AObj) : Low (h.set o x) := by
  intro p y hy
  rw [AH.get_set] at hy
  split at hy
  · rename_i e; rw [next_set]; omega
  · exact k p y hy
/-- Words of a text: what comes and what lies there. -/
def IsWords (h : AH) (s : List UInt8) (r : AV) (h' : AH) : Prop :=
  Ext h h' ∧ Low h' ∧ h'.next = h.next + 1 ∧ r = .slice h.next 0 1 (cntN s.length) (cntN s.length) true ∧ h'.get h.next = some (.cells (cells (wordsN (nat8 s) (cntN s.length))) true)
theorem words_ok (he : T.env 8 = none) (hf : T.func 8 = some a8) (he' : T.env 11 = none) (hf' : T.func 11 = some a11) (hw : Low h) {s : List UInt8} (hl : s.length < 1000000) :
    Gives T 8 [.str s] h (IsWords h s) := by
  refine gives_func he hf rfl ?_
  simp only [a8, c8, wpc_first, wpc_ops, wpc_skip, wpc_exit, wpc_ret, wpc_block, wpc_test, ops_next, ops_nil, ops_test, step_mov, step_bin, step_un, step_pick, step_eqB, step_eqNil, step_toInt, step_lenStr, step_lenSlice, step_extract, step_fieldAddr, step_field, step_nilChk, step_idxAddr, step_idxStr, step_load, step_store, step_slc, step_slcStr, step_mkSlice, step_toStr, step_append, step_copy, step_buildSlice, step_build, step_new, step_call, Option.bind_some, Option.map_some, AOpd.val, Fr.at_put, at_ofArgs, Wo_some, Then_normal, Then_exit, Then_ret, InBlock_normal, InBlock_ret, InBlock_exit, Ends_ret, Ends_normal, res_nil, res_tmp, tuple_one, tuple_two, some_one, CondC_true, bin_add, bin_sub, bin_mul, bin_eql, bin_neq, bin_lss, bin_leq, bin_gtr, bin_geq, bin_str_eql, bin_str_neq, un_not, toInt_int, lenStr_str, pick_bool, List.getElem?_cons_zero, List.getElem?_cons_succ, Option.getD_some, Option.getD_none, List.map_cons, List.map_nil, Option.map_none, List.length_map, Nat.reduceEqDiff, if_true, if_false, reduceCtorEq, Nat.reduceAdd, Nat.reduceBEq, guardB_tt, guardB_ff, guardB_tf, guardB_ft, guardB_none, pick_t, pick_f, beq_self_eq_true, bne_self_eq_false, decide_true, decide_false, Bool.not_true, Bool.not_false, put_none, len_slice, len_nil, rest_mk, ThenC_normal, ThenC_exit, ThenC_ret, CondC_false, CondC_both, extract_0, extract_1, extract_2]
  refine Gives.bind ((count_ok he' hf' (by omega) (by omega)).mono ?_)
  rintro _ _ ⟨rfl, rfl⟩
  rename_i h
  rw [cnt_nat]
  have hc : cntN s.length < 1000000 := by unfold cntN; omega
  simp only [wpc_first, wpc_ops, wpc_skip, wpc_exit, wpc_ret, wpc_block, wpc_test, ops_next, ops_nil, ops_test, step_mov, step_bin, step_un, step_pick, step_eqB, step_eqNil, step_toInt, step_lenStr, step_lenSlice, step_extract, step_fieldAddr, step_field, step_nilChk, step_idxAddr, step_idxStr, step_load, step_store, step_slc, step_slcStr, step_mkSlice, step_toStr, step_append, step_copy, step_buildSlice, step_build, step_new, step_call, Option.bind_some, Option.map_some, AOpd.val, Fr.at_put, at_ofArgs, Wo_some, Then_normal, Then_exit, Then_ret, InBlock_normal, InBlock_ret, InBlock_exit, Ends_ret, Ends_normal, res_nil, res_tmp, tuple_one, tuple_two, some_one, CondC_true, bin_add, bin_sub, bin_mul, bin_eql, bin_neq, bin_lss, bin_leq, bin_gtr, bin_geq, bin_str_eql, bin_str_neq, un_not, toInt_int, lenStr_str, pick_bool, List.getElem?_cons_zero, List.getElem?_cons_succ, Option.getD_some, Option.getD_none, List.map_cons, List.map_nil, Option.map_none, List.length_map, Nat.reduceEqDiff, if_true, if_false, reduceCtorEq, Nat.reduceAdd, Nat.reduceBEq, guardB_tt, guardB_ff, guardB_tf, guardB_ft, guardB_none, pick_t, pick_f, beq_self_eq_true, bne_self_eq_false, decide_true, decide_false, Bool.not_true, Bool.not_false, put_none, len_slice, len_nil, rest_mk, ThenC_normal, ThenC_exit, ThenC_ret, CondC_false, CondC_both, extract_0, extract_1, extract_2, mkSlice_nat (h := h) (sz := 1) (bytes := 8) (zero := [.int .u64 0]) (k := .i64) (k' := .i64) (Nat.le_refl (cntN s.length)) (by omega) (by omega), rep_cells]
  refine wpc_loop (fun m f h' => ∃ i, m = s.length - i ∧ i ≤ s.length ∧ Ext h h' ∧ Low h' ∧ h'.next = h.next + 1 ∧ f.at 0 = .str s ∧ f.at 3 = .slice h.next 0 1 (cntN s.length) (cntN s.length) true ∧ f.at 10 = .int .i64 (s.length : Nat) ∧ f.at 11 = .int .i64 (i : Nat) ∧
      h'.get h.next = some (.cells (cells (wordsN ((nat8 s).take i) (cntN s.length))) true)) ?_ s.length _ _ ⟨0, by simp, by simp, Ext.new _ _, hw.new _, rfl, ?_⟩
  · rintro m f h' ⟨i, rfl, hi, hx, hlow, hn, h0, h3, h10, h11, hg⟩
    simp only [c8l0, wpc_first, wpc_ops, wpc_skip, wpc_exit, wpc_ret, wpc_block, wpc_test, ops_next, ops_nil, ops_test, step_mov, step_bin, step_un, step_pick, step_eqB, step_eqNil, step_toInt, step_lenStr, step_lenSlice, step_extract, step_fieldAddr, step_field, step_nilChk, step_idxAddr, step_idxStr, step_load, step_store, step_slc, step_slcStr, step_mkSlice, step_toStr, step_append, step_copy, step_buildSlice, step_build, step_new, step_call, Option.bind_some, Option.map_some, AOpd.val, Fr.at_put, at_ofArgs, Wo_some, Then_normal, Then_exit, Then_ret, InBlock_normal, InBlock_ret, InBlock_exit, Ends_ret, Ends_normal, res_nil, res_tmp, tuple_one, tuple_two, some_one, CondC_true, bin_add, bin_sub, bin_mul, bin_eql, bin_neq, bin_lss, bin_leq, bin_gtr, bin_geq, bin_str_eql, bin_str_neq, un_not, toInt_int, lenStr_str, pick_bool, List.getElem?_cons_zero, List.getElem?_cons_succ, Option.getD_some, Option.getD_none, List.map_cons, List.map_nil, Option.map_none, List.length_map, Nat.reduceEqDiff, if_true, if_false, reduceCtorEq, Nat.reduceAdd, Nat.reduceBEq, guardB_tt, guardB_ff, guardB_tf, guardB_ft, guardB_none, pick_t, pick_f, beq_self_eq_true, bne_self_eq_false, decide_true, decide_false, Bool.not_true, Bool.not_false, put_none, len_slice, len_nil, rest_mk, ThenC_normal, ThenC_exit, ThenC_ret, CondC_false, CondC_both, extract_0, extract_1, extract_2, h0, h3, h10, h11]
    by_cases hlt : i < s.length
    · have hd : decide ((i : Int) < (s.length : Int)) = true := by simpa using hlt
      obtain ⟨c, hci⟩ : ∃ c, s[i]? = some c := ⟨_, List.getElem?_eq_getElem hlt⟩
      have hcl := c.toNat_lt
      have hj : i / 8 < cntN s.length := by unfold cntN; omega
      have hwl := wordsN_len ((nat8 s).take i) (cntN s.length)
      have hsm : ∀ b ∈ (nat8 s).take i, b < 256 := fun b hb => nat8_small s b (List.mem_of_mem_take hb)
      obtain ⟨hor, hst⟩ := words_step (n := cntN s.length) (nat8_small s) (nat8_get hci) hj
      have hold := wordsN_get (bs := (nat8 s).take i) hj
      have hlt64 := wordsN_lt hsm _ (List.mem_of_getElem? hold)
      have hp8 := pow8 (m := i % 8) (b := c.toNat) (Nat.mod_lt _ (by decide)) hcl
      have e1 : (8 : Int) * ((i % 8 : Nat) : Int) = ((8 * (i % 8) : Nat) : Int) := by omega
      simp only [hd, wpc_first, wpc_ops, wpc_skip, wpc_exit, wpc_ret, wpc_block, wpc_test, ops_next, ops_nil, ops_test, step_mov, step_bin, step_un, step_pick, step_eqB, step_eqNil, step_toInt, step_lenStr, step_lenSlice, step_extract, step_fieldAddr, step_field, step_nilChk, step_idxAddr, step_idxStr, step_load, step_store, step_slc, step_slcStr, step_mkSlice, step_toStr, step_append, step_copy, step_buildSlice, step_build, step_new, step_call, Option.bind_some, Option.map_some, AOpd.val, Fr.at_put, at_ofArgs, Wo_some, Then_normal, Then_exit, Then_ret, InBlock_normal, InBlock_ret, InBlock_exit, Ends_ret, Ends_normal, res_nil, res_tmp, tuple_one, tuple_two, some_one, CondC_true, bin_add, bin_sub, bin_mul, bin_eql, bin_neq, bin_lss, bin_leq, bin_gtr, bin_geq, bin_str_eql, bin_str_neq, un_not, toInt_int, lenStr_str, pick_bool, List.getElem?_cons_zero, List.getElem?_cons_succ, Option.getD_some, Option.getD_none, List.map_cons, List.map_nil, Option.map_none, List.length_map, Nat.reduceEqDiff, if_true, if_false, reduceCtorEq, Nat.reduceAdd, Nat.reduceBEq, guardB_tt, guardB_ff, guardB_tf, guardB_ft, guardB_none, pick_t, pick_f, beq_self_eq_true, bne_self_eq_false, decide_true, decide_false, Bool.not_true, Bool.not_false, put_none, len_slice, len_nil, rest_mk, ThenC_normal, ThenC_exit, ThenC_ret, CondC_false, CondC_both, extract_0, extract_1, extract_2, h0, h3, h10, h11, bin_quo8, bin_rem8, tdiv8, tmod8, wrap_i64n (show i / 8 < 9223372036854775808 by omega), idx_nat hj, Nat.zero_add, load_at hg (cells_get hold), idxStr_nat hci,
        wrap_u64 (show c.toNat < 18446744073709551616 by omega), e1, wrap_i64n (show 8 * (i % 8) < 9223372036854775808 by omega), wrap_u64 (show 8 * (i % 8) < 18446744073709551616 by omega),
        bin_shl_u64 (show 8 * (i % 8) < 64 by omega) hp8, bin_or_u64 hlt64 hp8 hor, store_int hg (show i / 8 < (cells (wordsN ((nat8 s).take i) (cntN s.length))).length by rw [cells_len, hwl]; exact hj)]
      have hw : IntKind.i64.wrap ((i : Int) + 1) = ((i + 1 : Nat) : Int) := by rw [wrap_i64 (by omega) (by omega)]; rfl
      refine ⟨s.length - (i + 1), by omega, i + 1, rfl, by omega, hx.set (Nat.le_refl _) _, hlow.set (by omega) _, hn, ?_⟩
      simp only [hw]
      refine ⟨trivial, trivial, trivial, trivial, ?_⟩
      rw [get_set_same, hst]
      simp only [cells, List.map_set]
    · have hd : decide ((i : Int) < (s.length : Int)) = false := by simpa using hlt
      simp only [hd, wpc_first, wpc_ops, wpc_skip, wpc_exit, wpc_ret, wpc_block, wpc_test, ops_next, ops_nil, ops_test, step_mov, step_bin, step_un, step_pick, step_eqB, step_eqNil, step_toInt, step_lenStr, step_lenSlice, step_extract, step_fieldAddr, step_field, step_nilChk, step_idxAddr, step_idxStr, step_load, step_store, step_slc, step_slcStr, step_mkSlice, step_toStr, step_append, step_copy, step_buildSlice, step_build, step_new, step_call, Option.bind_some, Option.map_some, AOpd.val, Fr.at_put, at_ofArgs, Wo_some, Then_normal, Then_exit, Then_ret, InBlock_normal, InBlock_ret, InBlock_exit, Ends_ret, Ends_normal, res_nil, res_tmp, tuple_one, tuple_two, some_one, CondC_true, bin_add, bin_sub, bin_mul, bin_eql, bin_neq, bin_lss, bin_leq, bin_gtr, bin_geq, bin_str_eql, bin_str_neq, un_not, toInt_int, lenStr_str, pick_bool, List.getElem?_cons_zero, List.getElem?_cons_succ, Option.getD_some, Option.getD_none, List.map_cons, List.map_nil, Option.map_none, List.length_map, Nat.reduceEqDiff, if_true, if_false, reduceCtorEq, Nat.reduceAdd, Nat.reduceBEq, guardB_tt, guardB_ff, guardB_tf, guardB_ft, guardB_none, pick_t, pick_f, beq_self_eq_true, bne_self_eq_false, decide_true, decide_false, Bool.not_true, Bool.not_false, put_none, len_slice, len_nil, rest_mk, ThenC_normal, ThenC_exit, ThenC_ret, CondC_false, CondC_both, extract_0, extract_1, extract_2, h3]
      refine ⟨hx, hlow, hn, rfl, ?_⟩
      rw [hg, words_end (by rw [nat8_len]; omega)]
  · simp only [wpc_first, wpc_ops, wpc_skip, wpc_exit, wpc_ret, wpc_block, wpc_test, ops_next, ops_nil, ops_test, step_mov, step_bin, step_un, step_pick, step_eqB, step_eqNil, step_toInt, step_lenStr, step_lenSlice, step_extract, step_fieldAddr, step_field, step_nilChk, step_idxAddr, step_idxStr, step_load, step_store, step_slc, step_slcStr, step_mkSlice, step_toStr, step_append, step_copy, step_buildSlice, step_build, step_new, step_call, Option.bind_some, Option.map_some, AOpd.val, Fr.at_put, at_ofArgs, Wo_some, Then_normal, Then_exit, Then_ret, InBlock_normal, InBlock_ret, InBlock_exit, Ends_ret, Ends_normal, res_nil, res_tmp, tuple_one, tuple_two, some_one, CondC_true, bin_add, bin_sub, bin_mul, bin_eql, bin_neq, bin_lss, bin_leq, bin_gtr, bin_geq, bin_str_eql, bin_str_neq, un_not, toInt_int, lenStr_str, pick_bool, List.getElem?_cons_zero, List.getElem?_cons_succ, Option.getD_some, Option.getD_none, List.map_cons, List.map_nil, Option.map_none, List.length_map, Nat.reduceEqDiff, if_true, if_false, reduceCtorEq, Nat.reduceAdd, Nat.reduceBEq, guardB_tt, guardB_ff, guardB_tf, guardB_ft, guardB_none, pick_t, pick_f, beq_self_eq_true, bne_self_eq_false, decide_true, decide_false, Bool.not_true, Bool.not_false, put_none, len_slice, len_nil, rest_mk, ThenC_normal, ThenC_exit, ThenC_ret, CondC_false, CondC_both, extract_0, extract_1, extract_2, get_new_same, List.take_zero]
    repeat' (first | exact trivial | exact rfl | apply And.intro)
theorem words_ref (he : T.env 14 = none) (hf : T.func 14 = some a14) (hw : Low h) {s : List UInt8} (hl : s.length < 1000000) :
    Gives T 14 [.str s] h (IsWords h s) := by
  refine gives_func he hf rfl ?_
  have hc : cntN s.length < 1000000 := by unfold cntN; omega
  have e7 : IntKind.i64.wrap ((s.length : Int) + 7) = ((s.length + 7 : Nat) : Int) := by rw [wrap_i64 (by omega) (by omega)]; rfl
  have e8 : (s.length + 7) / 8 = cntN s.length := rfl
  simp only [a14, c14, wpc_first, wpc_ops, wpc_skip, wpc_exit, wpc_ret, wpc_block, wpc_test, ops_next, ops_nil, ops_test, step_mov, step_bin, step_un, step_pick, step_eqB, step_eqNil, step_toInt, step_lenStr, step_lenSlice, step_extract, step_fieldAddr, step_field, step_nilChk, step_idxAddr, step_idxStr, step_load, step_store, step_slc, step_slcStr, step_mkSlice, step_toStr, step_append, step_copy, step_buildSlice, step_build, step_new, step_call, Option.bind_some, Option.map_some, AOpd.val, Fr.at_put, at_ofArgs, Wo_some, Then_normal, Then_exit, Then_ret, InBlock_normal, InBlock_ret, InBlock_exit, Ends_ret, Ends_normal, res_nil, res_tmp, tuple_one, tuple_two, some_one, CondC_true, bin_add, bin_sub, bin_mul, bin_eql, bin_neq, bin_lss, bin_leq, bin_gtr, bin_geq, bin_str_eql, bin_str_neq, un_not, toInt_int, lenStr_str, pick_bool, List.getElem?_cons_zero, List.getElem?_cons_succ, Option.getD_some, Option.getD_none, List.map_cons, List.map_nil, Option.map_none, List.length_map, Nat.reduceEqDiff, if_true, if_false, reduceCtorEq, Nat.reduceAdd, Nat.reduceBEq, guardB_tt, guardB_ff, guardB_tf, guardB_ft, guardB_none, pick_t, pick_f, beq_self_eq_true, bne_self_eq_false, decide_true, decide_false, Bool.not_true, Bool.not_false, put_none, len_slice, len_nil, rest_mk, ThenC_normal, ThenC_exit, ThenC_ret, CondC_false, CondC_both, extract_0, extract_1, extract_2, e7, bin_quo8, tdiv8, e8, wrap_i64n (show cntN s.length < 9223372036854775808 by omega), mkSlice_nat (h := h) (sz := 1) (bytes := 8) (zero := [.int .u64 0]) (k := .i64) (k' := .i64) (Nat.le_refl (cntN s.length)) (by omega) (by omega), rep_cells]
  refine wpc_loop (fun m f h' => ∃ i, m = s.length - i ∧ i ≤ s.length ∧ Ext h h' ∧ Low h' ∧ h'.next = h.next + 1 ∧ f.at 0 = .str s ∧ f.at 3 = .slice h.next 0 1 (cntN s.length) (cntN s.length) true ∧ f.at 4 = .int .i64 (i : Nat) ∧
      h'.get h.next = some (.cells (cells (wordsN ((nat8 s).take i) (cntN s.length))) true)) ?_ s.length _ _ ⟨0, by simp, by simp, Ext.new _ _, hw.new _, rfl, ?_⟩
  · rintro m f h' ⟨i, rfl, hi, hx, hlow, hn, h0, h3, h4, hg⟩
    simp only [c14l0, wpc_first, wpc_ops, wpc_skip, wpc_exit, wpc_ret, wpc_block, wpc_test, ops_next, ops_nil, ops_test, step_mov, step_bin, step_un, step_pick, step_eqB, step_eqNil, step_toInt, step_lenStr, step_lenSlice, step_extract, step_fieldAddr, step_field, step_nilChk, step_idxAddr, step_idxStr, step_load, step_store, step_slc, step_slcStr, step_mkSlice, step_toStr, step_append, step_copy, step_buildSlice, step_build, step_new, step_call, Option.bind_some, Option.map_some, AOpd.val, Fr.at_put, at_ofArgs, Wo_some, Then_normal, Then_exit, Then_ret, InBlock_normal, InBlock_ret, InBlock_exit, Ends_ret, Ends_normal, res_nil, res_tmp, tuple_one, tuple_two, some_one, CondC_true, bin_add, bin_sub, bin_mul, bin_eql, bin_neq, bin_lss, bin_leq, bin_gtr, bin_geq, bin_str_eql, bin_str_neq, un_not, toInt_int, lenStr_str, pick_bool, List.getElem?_cons_zero, List.getElem?_cons_succ, Option.getD_some, Option.getD_none, List.map_cons, List.map_nil, Option.map_none, List.length_map, Nat.reduceEqDiff, if_true, if_false, reduceCtorEq, Nat.reduceAdd, Nat.reduceBEq, guardB_tt, guardB_ff, guardB_tf, guardB_ft, guardB_none, pick_t, pick_f, beq_self_eq_true, bne_self_eq_false, decide_true, decide_false, Bool.not_true, Bool.not_false, put_none, len_slice, len_nil, rest_mk, ThenC_normal, ThenC_exit, ThenC_ret, CondC_false, CondC_both, extract_0, extract_1, extract_2, h0, h3, h4]
    by_cases hlt : i < s.length
    · have hd : decide ((i : Int) < (s.length : Int)) = true := by simpa using hlt
      obtain ⟨c, hci⟩ : ∃ c, s[i]? = some c := ⟨_, List.getElem?_eq_getElem hlt⟩
      have hcl := c.toNat_lt
      have hj : i / 8 < cntN s.length := by unfold cntN; omega
      have hwl := wordsN_len ((nat8 s).take i) (cntN s.length)
      have hsm : ∀ b ∈ (nat8 s).take i, b < 256 := fun b hb => nat8_small s b (List.mem_of_mem_take hb)
      obtain ⟨hor, hst⟩ := words_step (n := cntN s.length) (nat8_small s) (nat8_get hci) hj
      have hold := wordsN_get (bs := (nat8 s).take i) hj
      have hlt64 := wordsN_lt hsm _ (List.mem_of_getElem? hold)
      have hp8 := pow8 (m := i % 8) (b := c.toNat) (Nat.mod_lt _ (by decide)) hcl
      have e1 : (8 : Int) * ((i % 8 : Nat) : Int) = ((8 * (i % 8) : Nat) : Int) := by omega
      simp only [hd, wpc_first, wpc_ops, wpc_skip, wpc_exit, wpc_ret, wpc_block, wpc_test, ops_next, ops_nil, ops_test, step_mov, step_bin, step_un, step_pick, step_eqB, step_eqNil, step_toInt, step_lenStr, step_lenSlice, step_extract, step_fieldAddr, step_field, step_nilChk, step_idxAddr, step_idxStr, step_load, step_store, step_slc, step_slcStr, step_mkSlice, step_toStr, step_append, step_copy, step_buildSlice, step_build, step_new, step_call, Option.bind_some, Option.map_some, AOpd.val, Fr.at_put, at_ofArgs, Wo_some, Then_normal, Then_exit, Then_ret, InBlock_normal, InBlock_ret, InBlock_exit, Ends_ret, Ends_normal, res_nil, res_tmp, tuple_one, tuple_two, some_one, CondC_true, bin_add, bin_sub, bin_mul, bin_eql, bin_neq, bin_lss, bin_leq, bin_gtr, bin_geq, bin_str_eql, bin_str_neq, un_not, toInt_int, lenStr_str, pick_bool, List.getElem?_cons_zero, List.getElem?_cons_succ, Option.getD_some, Option.getD_none, List.map_cons, List.map_nil, Option.map_none, List.length_map, Nat.reduceEqDiff, if_true, if_false, reduceCtorEq, Nat.reduceAdd, Nat.reduceBEq, guardB_tt, guardB_ff, guardB_tf, guardB_ft, guardB_none, pick_t, pick_f, beq_self_eq_true, bne_self_eq_false, decide_true, decide_false, Bool.not_true, Bool.not_false, put_none, len_slice, len_nil, rest_mk, ThenC_normal, ThenC_exit, ThenC_ret, CondC_false, CondC_both, extract_0, extract_1, extract_2, h0, h3, h4, bin_quo8, bin_rem8, tdiv8, tmod8, wrap_i64n (show i / 8 < 9223372036854775808 by omega), idx_nat hj, Nat.zero_add, load_at hg (cells_get hold), idxStr_nat hci,
        wrap_u64 (show c.toNat < 18446744073709551616 by omega), e1, wrap_i64n (show 8 * (i % 8) < 9223372036854775808 by omega),
        bin_shl_i64 (show 8 * (i % 8) < 64 by omega) hp8, bin_or_u64 hlt64 hp8 hor, store_int hg (show i / 8 < (cells (wordsN ((nat8 s).take i) (cntN s.length))).length by rw [cells_len, hwl]; exact hj)]
      have hw : IntKind.i64.wrap ((i : Int) + 1) = ((i + 1 : Nat) : Int) := by rw [wrap_i64 (by omega) (by omega)]; rfl
      refine ⟨s.length - (i + 1), by omega, i + 1, rfl, by omega, hx.set (Nat.le_refl _) _, hlow.set (by omega) _, hn, ?_⟩
      simp only [hw]
      refine ⟨trivial, trivial, trivial, ?_⟩
      rw [get_set_same, hst]
      simp only [cells, List.map_set]
    · have hd : decide ((i : Int) < (s.length : Int)) = false := by simpa using hlt
      simp only [hd, wpc_first, wpc_ops, wpc_skip, wpc_exit, wpc_ret, wpc_block, wpc_test, ops_next, ops_nil, ops_test, step_mov, step_bin, step_un, step_pick, step_eqB, step_eqNil, step_toInt, step_lenStr, step_lenSlice, step_extract, step_fieldAddr, step_field, step_nilChk, step_idxAddr, step_idxStr, step_load, step_store, step_slc, step_slcStr, step_mkSlice, step_toStr, step_append, step_copy, step_buildSlice, step_build, step_new, step_call, Option.bind_some, Option.map_some, AOpd.val, Fr.at_put, at_ofArgs, Wo_some, Then_normal, Then_exit, Then_ret, InBlock_normal, InBlock_ret, InBlock_exit, Ends_ret, Ends_normal, res_nil, res_tmp, tuple_one, tuple_two, some_one, CondC_true, bin_add, bin_sub, bin_mul, bin_eql, bin_neq, bin_lss, bin_leq, bin_gtr, bin_geq, bin_str_eql, bin_str_neq, un_not, toInt_int, lenStr_str, pick_bool, List.getElem?_cons_zero, List.getElem?_cons_succ, Option.getD_some, Option.getD_none, List.map_cons, List.map_nil, Option.map_none, List.length_map, Nat.reduceEqDiff, if_true, if_false, reduceCtorEq, Nat.reduceAdd, Nat.reduceBEq, guardB_tt, guardB_ff, guardB_tf, guardB_ft, guardB_none, pick_t, pick_f, beq_self_eq_true, bne_self_eq_false, decide_true, decide_false, Bool.not_true, Bool.not_false, put_none, len_slice, len_nil, rest_mk, ThenC_normal, ThenC_exit, ThenC_ret, CondC_false, CondC_both, extract_0, extract_1, extract_2, h3]
      refine ⟨hx, hlow, hn, rfl, ?_⟩
      rw [hg, words_end (by rw [nat8_len]; omega)]
  · simp only [wpc_first, wpc_ops, wpc_skip, wpc_exit, wpc_ret, wpc_block, wpc_test, ops_next, ops_nil, ops_test, step_mov, step_bin, step_un, step_pick, step_eqB, step_eqNil, step_toInt, step_lenStr, step_lenSlice, step_extract, step_fieldAddr, step_field, step_nilChk, step_idxAddr, step_idxStr, step_load, step_store, step_slc, step_slcStr, step_mkSlice, step_toStr, step_append, step_copy, step_buildSlice, step_build, step_new, step_call, Option.bind_some, Option.map_some, AOpd.val, Fr.at_put, at_ofArgs, Wo_some, Then_normal, Then_exit, Then_ret, InBlock_normal, InBlock_ret, InBlock_exit, Ends_ret, Ends_normal, res_nil, res_tmp, tuple_one, tuple_two, some_one, CondC_true, bin_add, bin_sub, bin_mul, bin_eql, bin_neq, bin_lss, bin_leq, bin_gtr, bin_geq, bin_str_eql, bin_str_neq, un_not, toInt_int, lenStr_str, pick_bool, List.getElem?_cons_zero, List.getElem?_cons_succ, Option.getD_some, Option.getD_none, List.map_cons, List.map_nil, Option.map_none, List.length_map, Nat.reduceEqDiff, if_true, if_false, reduceCtorEq, Nat.reduceAdd, Nat.reduceBEq, guardB_tt, guardB_ff, guardB_tf, guardB_ft, guardB_none, pick_t, pick_f, beq_self_eq_true, bne_self_eq_false, decide_true, decide_false, Bool.not_true, Bool.not_false, put_none, len_slice, len_nil, rest_mk, ThenC_normal, ThenC_exit, ThenC_ret, CondC_false, CondC_both, extract_0, extract_1, extract_2, get_new_same, List.take_zero]
    repeat' (first | exact trivial | exact rfl | apply And.intro)
end Go.Proofs.Ytcnghmfmokmnpaa

/- QueryWrong. -/
import Derived.Test.YtjbkjffolnodjaaP23P
import Derived.Test.YtjbkjffolnodjaaP23E
namespace Go.Proofs.Ytjbkjffolnodjaa
open Go.Vm
set_option linter.unusedSimpArgs false
set_option linter.unusedVariables false
set_option maxRecDepth 100000
variable {T : Vm.Prog} {h : AH}
structure Fits (T : Vm.Prog) : Prop where
  base : Base T
  yes : ∀ h, Gives T 3 [] h fun r h' => r = .bool true ∧ h' = h
theorem bin_str_add {a b : Txt} (hl : a.length + b.length ≤ 9223372036854775807) : binV .add (.str a) (.str b) = some (.str (a ++ b)) := by
  simp [binV, strBin, hl]
theorem one_str {c : UInt8} : toStrV (h.new (.cells [.int .u8 (c.toNat : Int)] true)) (.slice h.next 0 1 1 1 true) = some (.str [c]) := by
  have hg : (h.new (.cells [.int .u8 (c.toNat : Int)] true)).get h.next = some (.cells [.int .u8 (c.toNat : Int)] true) := get_new_same
  simp [toStrV, AH.load, hg, strOf]
theorem fillB {c : UInt8} : fillV [.int .u8 0] [(0, 1, .int .u8 (c.toNat : Int))] = some [.int .u8 (c.toNat : Int)] := fill1 rfl rfl
def chN (n : Nat) : Nat := 97 + n % 26
def ch (b : UInt8) : UInt8 := UInt8.ofNat (chN b.toNat)
theorem ch_nat (b : UInt8) : (ch b).toNat = chN b.toNat := by
  have : chN b.toNat < 256 := by unfold chN; omega
  simp [ch]; omega
theorem ch_good (b : UInt8) : letter (ch b) = ch b ∧ ch b ≠ 0 := by
  have h1 := ch_nat b
  have h2 : 97 ≤ chN b.toNat ∧ chN b.toNat ≤ 122 := by unfold chN; omega
  constructor
  · unfold letter
    rw [if_pos (.inl ⟨UInt8.le_iff_toNat_le.2 (by show 97 ≤ (ch b).toNat; omega), UInt8.le_iff_toNat_le.2 (by show (ch b).toNat ≤ 122; omega)⟩)]
  · intro e
    rw [e] at h1
    have : (0 : UInt8).toNat = 0 := rfl
    omega
theorem small_map {w : Txt} (h : w.length ≤ 8) : Small (w.map ch) := ⟨by simpa using h, fun b hb => by
  obtain ⟨c, _, rfl⟩ := List.mem_map.1 hb
  exact ch_good c⟩
/-- The word is made. -/
theorem made (hl : Low h) {w : Txt} {f : Fr} (f0 : f.at 0 = .str w) (f5 : f.at 5 = .str []) (f6 : f.at 6 = .int .i64 0) :
    Wp (code T (.loop c5l0) f h) fun e f' h' => e = .exit 0 ∧ Low h' ∧ (∃ x, f'.at 5 = .str x ∧ Small x) ∧ ∀ r, r < 5 → f'.at r = f.at r := by
  refine wpc_loop (fun m f' h' => ∃ i : Nat, m = 8 - i ∧ i ≤ 8 ∧ i ≤ w.length ∧ Low h' ∧ f'.at 5 = .str ((w.take i).map ch) ∧ f'.at 6 = .int .i64 (i : Int) ∧ ∀ r, r < 5 → f'.at r = f.at r) ?_ 8 f h ⟨0, by omega, by omega, by omega, hl, f5, f6, fun _ _ => rfl⟩
  rintro m f' h' ⟨i, rfl, hi, hiw, lo, f5', f6', fr⟩
  have f0' := (fr 0 (by decide)).trans f0
  have hsm : Small ((w.take i).map ch) := small_map (by simp; omega)
  by_cases hlt : i < w.length
  · have d1 : decide ((i : Int) < (w.length : Int)) = true := by rw [decide_eq_true_eq]; omega
    by_cases h8 : i < 8
    · have d2 : decide ((i : Int) < 8) = true := by rw [decide_eq_true_eq]; omega
      have ix : idxStrV (.str w) (.int .i64 (i : Int)) = some (.int .u8 (w[i].toNat : Int)) := by simp [idxStrV, hlt]
      have r1 : binV .rem (.int .u8 (w[i].toNat : Int)) (.int .u8 26) = some (.int .u8 ((w[i].toNat % 26 : Nat) : Int)) := by
        rw [bin_rem (by decide)]; congr 2
      have w1 : IntKind.u8.wrap (97 + ((w[i].toNat % 26 : Nat) : Int)) = ((ch w[i]).toNat : Int) := by
        rw [show 97 + ((w[i].toNat % 26 : Nat) : Int) = ((chN w[i].toNat : Nat) : Int) by unfold chN; omega, wrap_u8, ch_nat, Nat.mod_eq_of_lt (by unfold chN; omega)]
      have htk : (w.take (i + 1)).map ch = (w.take i).map ch ++ [ch w[i]] := by
        rw [List.take_succ_eq_append_getElem hlt]; simp only [List.map_append, List.map_cons, List.map_nil]
      have ba : binV .add (.str ((w.take i).map ch)) (.str [ch w[i]]) = some (.str ((w.take (i + 1)).map ch)) := by
        rw [htk]; exact bin_str_add (by have := hsm.1; simp at this ⊢; omega)
      have w2 : IntKind.i64.wrap ((i : Int) + 1) = ((i + 1 : Nat) : Int) := by rw [wrap_i64 (by omega) (by omega)]; omega
      simp only [c5l0, vms, vmc, AOpd.val, Nat.reduceEqDiff, reduceCtorEq, Nat.reduceAdd, Nat.reduceBEq, f0', f5', f6', d1, d2, ix, r1, w1, fillB, one_str, ba, w2]
      refine ⟨8 - (i + 1), by omega, i + 1, rfl, by omega, by omega, lo.new _, by trivial, by trivial, fun r hrr => ?_⟩
      repeat rw [if_neg (by omega)]
      exact fr r hrr
    · have d2 : decide ((i : Int) < 8) = false := by rw [decide_eq_false_iff_not]; omega
      simp only [c5l0, vms, vmc, AOpd.val, Nat.reduceEqDiff, reduceCtorEq, Nat.reduceAdd, Nat.reduceBEq, f0', f5', f6', d1, d2]
      refine ⟨by trivial, lo, ⟨_, by trivial, hsm⟩, fun r hrr => ?_⟩
      repeat rw [if_neg (by omega)]
      exact fr r hrr
  · have d1 : decide ((i : Int) < (w.length : Int)) = false := by rw [decide_eq_false_iff_not]; omega
    simp only [c5l0, vms, vmc, AOpd.val, Nat.reduceEqDiff, reduceCtorEq, Nat.reduceAdd, Nat.reduceBEq, f0', f5', f6', d1]
    refine ⟨by trivial, lo, ⟨_, by trivial, hsm⟩, fun r hrr => ?_⟩
    repeat rw [if_neg (by omega)]
    exact fr r hrr
end Go.Proofs.Ytjbkjffolnodjaa

/- Chapter 22: Letter, the place of a nought, the pieces one by one. -/
import Derived.Test.YteajnglncglmfaaDoorP22T
import Derived.Test.YteajnglncglmfaaDoorP22M
import Derived.Test.YteajnglncglmfaaDoorVmZz
namespace Go.Proofs.YteajnglncglmfaaDoor
open Go.Vm
set_option linter.unusedSimpArgs false
set_option linter.unusedVariables false
set_option maxRecDepth 100000
def sortV : List AV → AH → Option (AV × AH) := turnV encS sortT (fun _ _ _ _ _ => AV.none) AV.none
def cptL (zs : List Txt) : List Txt := Lib.compact zs ++ List.replicate (zs.length - (Lib.compact zs).length) []
def compactV : List AV → AH → Option (AV × AH) := turnV encS cptL (fun o off cap ex zs => .slice o off 1 (Lib.compact zs).length cap ex) .nilSlice
/-- A program of these functions. -/
structure Base (T : Vm.Prog) : Prop where
  func : T.func = table
  env : ∀ n, (n < YB ∧ n ≠ 3 ∧ n ≠ 9 ∧ n ≠ 17 ∧ n ≠ 18 ∧ n ≠ 39) → T.env n = none
  ib : T.env 39 = some ibs
  srt : T.env 17 = some sortV
  cpt : T.env 18 = some compactV
theorem Base.at {T : Vm.Prog} (k : Base T) {n : Nat} {fn : AFunc} (h : table n = some fn) : T.func n = some fn := by rw [k.func]; exact h
theorem Base.withY {T : Vm.Prog} (k : Base T) (o : Nat) (yh : List AV → AH → Option (AV × AH)) : Base (Vm.withY T o yh) where
  func := k.func
  env := fun n hn => (withY_env hn.1).trans (k.env n hn)
  ib := (withY_env (by decide)).trans k.ib
  srt := (withY_env (by decide)).trans k.srt
  cpt := (withY_env (by decide)).trans k.cpt
variable {T : Vm.Prog} {h : AH}
theorem letter_ok (k : Base T) {b : UInt8} : Gives T 12 [.int .u8 (b.toNat : Int)] h fun r h' => r = .int .u8 ((letter b).toNat : Int) ∧ h' = h := by
  refine gives_func (k.env 12 (by decide)) (k.at (n := 12) rfl) rfl ?_
  have hb := b.toNat_lt
  by_cases h1 : (b.toNat : Int) ≥ 97
  · by_cases h2 : (b.toNat : Int) ≤ 122
    · have e : letter b = b := by
        unfold letter
        rw [if_pos (.inl ⟨UInt8.le_iff_toNat_le.2 (by show 97 ≤ b.toNat; omega), UInt8.le_iff_toNat_le.2 (by show b.toNat ≤ 122; omega)⟩)]
      simp only [a12, c12, vms, vmc, AOpd.val, Nat.reduceEqDiff, reduceCtorEq, Nat.reduceAdd, Nat.reduceBEq, decide_eq_true h1, decide_eq_true h2]
      rw [e]; exact ⟨by trivial, by trivial⟩
    · have d3 : decide ((b.toNat : Int) ≥ 48) = true := decide_eq_true (by omega)
      have d4 : decide ((b.toNat : Int) ≤ 57) = false := decide_eq_false (by omega)
      have d5 : decide ((b.toNat : Int) ≥ 65) = true := decide_eq_true (by omega)
      have d6 : decide ((b.toNat : Int) ≤ 90) = false := decide_eq_false (by omega)
      have e : letter b = 0 := by
        unfold letter
        rw [if_neg, if_neg]
        · rintro ⟨_, h⟩; have : b.toNat ≤ 90 := UInt8.le_iff_toNat_le.1 h; omega
        · rintro (⟨_, h⟩ | ⟨_, h⟩)
          · have : b.toNat ≤ 122 := UInt8.le_iff_toNat_le.1 h; omega
          · have : b.toNat ≤ 57 := UInt8.le_iff_toNat_le.1 h; omega
      simp only [a12, c12, vms, vmc, AOpd.val, Nat.reduceEqDiff, reduceCtorEq, Nat.reduceAdd, Nat.reduceBEq, decide_eq_true h1, decide_eq_false h2, d3, d4, d5, d6]
      rw [e]; exact ⟨by trivial, by trivial⟩
  · by_cases h3 : (b.toNat : Int) ≥ 48 ∧ (b.toNat : Int) ≤ 57
    · have e : letter b = b := by
        unfold letter
        rw [if_pos (.inr ⟨UInt8.le_iff_toNat_le.2 (by show 48 ≤ b.toNat; omega), UInt8.le_iff_toNat_le.2 (by show b.toNat ≤ 57; omega)⟩)]
      simp only [a12, c12, vms, vmc, AOpd.val, Nat.reduceEqDiff, reduceCtorEq, Nat.reduceAdd, Nat.reduceBEq, decide_eq_false h1, decide_eq_true h3.1, decide_eq_true h3.2]
      rw [e]; exact ⟨by trivial, by trivial⟩
    · have nl : ¬ ((97 ≤ b ∧ b ≤ 122) ∨ (48 ≤ b ∧ b ≤ 57)) := by
        rintro (⟨h, _⟩ | ⟨h, h'⟩)
        · have : 97 ≤ b.toNat := UInt8.le_iff_toNat_le.1 h; omega
        · have : 48 ≤ b.toNat := UInt8.le_iff_toNat_le.1 h
          have : b.toNat ≤ 57 := UInt8.le_iff_toNat_le.1 h'
          omega
      by_cases h5 : (b.toNat : Int) ≥ 65 ∧ (b.toNat : Int) ≤ 90
      · have d3 : decide ((b.toNat : Int) ≥ 48) = true := decide_eq_true (by omega)
        have d4 : decide ((b.toNat : Int) ≤ 57) = false := decide_eq_false (by omega)
        have e : letter b = b + 32 := by
          unfold letter
          rw [if_neg nl, if_pos ⟨UInt8.le_iff_toNat_le.2 (by show 65 ≤ b.toNat; omega), UInt8.le_iff_toNat_le.2 (by show b.toNat ≤ 90; omega)⟩]
        have et : (b + 32).toNat = b.toNat + 32 := by rw [UInt8.toNat_add]; simp; omega
        have w1 : IntKind.u8.wrap ((b.toNat : Int) - 65) = ((b.toNat - 65 : Nat) : Int) := by
          rw [show (b.toNat : Int) - 65 = ((b.toNat - 65 : Nat) : Int) by omega, wrap_u8, Nat.mod_eq_of_lt (by omega)]
        have w2 : IntKind.u8.wrap (((b.toNat - 65 : Nat) : Int) + 97) = ((b.toNat + 32 : Nat) : Int) := by
          rw [show ((b.toNat - 65 : Nat) : Int) + 97 = ((b.toNat + 32 : Nat) : Int) by omega, wrap_u8, Nat.mod_eq_of_lt (by omega)]
        simp only [a12, c12, vms, vmc, AOpd.val, Nat.reduceEqDiff, reduceCtorEq, Nat.reduceAdd, Nat.reduceBEq, decide_eq_false h1, d3, d4, decide_eq_true h5.1, decide_eq_true h5.2, w1, w2]
        rw [e, et]; exact ⟨by trivial, by trivial⟩
      · have e : letter b = 0 := by
          unfold letter
          rw [if_neg nl, if_neg]
          rintro ⟨h, h'⟩
          have : 65 ≤ b.toNat := UInt8.le_iff_toNat_le.1 h
          have : b.toNat ≤ 90 := UInt8.le_iff_toNat_le.1 h'
          omega
        have fin : (letter b).toNat = 0 := by rw [e]; rfl
        by_cases d3 : (b.toNat : Int) ≥ 48
        · have d4 : decide ((b.toNat : Int) ≤ 57) = false := decide_eq_false (by omega)
          by_cases d5 : (b.toNat : Int) ≥ 65
          · have d6 : decide ((b.toNat : Int) ≤ 90) = false := decide_eq_false (by omega)
            simp only [a12, c12, vms, vmc, AOpd.val, Nat.reduceEqDiff, reduceCtorEq, Nat.reduceAdd, Nat.reduceBEq, decide_eq_false h1, decide_eq_true d3, d4, decide_eq_true d5, d6]
            rw [fin]; exact ⟨by trivial, by trivial⟩
          · simp only [a12, c12, vms, vmc, AOpd.val, Nat.reduceEqDiff, reduceCtorEq, Nat.reduceAdd, Nat.reduceBEq, decide_eq_false h1, decide_eq_true d3, d4, decide_eq_false d5]
            rw [fin]; exact ⟨by trivial, by trivial⟩
        · have d5 : decide ((b.toNat : Int) ≥ 65) = false := decide_eq_false (by omega)
          simp only [a12, c12, vms, vmc, AOpd.val, Nat.reduceEqDiff, reduceCtorEq, Nat.reduceAdd, Nat.reduceBEq, decide_eq_false h1, decide_eq_false d3, d5]
          rw [fin]; exact ⟨by trivial, by trivial⟩
theorem idxByte_ok (k : Base T) {s : Txt} {c : UInt8} : Gives T 24 [.str s, .int .u8 (c.toNat : Int)] h fun r h' => r = .int .i64 (idxB s c) ∧ h' = h := by
  refine gives_func (k.env 24 (by decide)) (k.at (n := 24) rfl) rfl ?_
  simp only [a24, c24, vms, vmc, AOpd.val, Nat.reduceEqDiff, reduceCtorEq, Nat.reduceAdd, Nat.reduceBEq]
  refine Gives.bind ((ibs_gives k.ib (s := s) (c := c.toNat) c.toNat_lt).mono ?_)
  rintro _ _ ⟨rfl, rfl⟩
  simp only [vms, vmc, AOpd.val, Nat.reduceEqDiff, reduceCtorEq, Nat.reduceAdd, Nat.reduceBEq]
  rw [show UInt8.ofNat c.toNat = c by simp]
  exact ⟨by trivial, by trivial⟩
theorem index_ok (k : Base T) {s : Txt} : Gives T 27 [.str s, .str [0]] h fun r h' => r = .int .i64 (idxB s 0) ∧ h' = h := by
  have inner : Gives T 41 [.str s, .str [0]] h fun r h' => r = .int .i64 (idxB s 0) ∧ h' = h := by
    refine gives_func (k.env 41 (by decide)) (k.at (n := 41) rfl) rfl ?_
    have e0 : ((1 : Int) == 0) = false := rfl
    have ix : idxStrV (.str [0]) (.int .i64 0) = some (.int .u8 ((0 : UInt8).toNat : Int)) := rfl
    cases he : (([0] : Txt) == s) with
    | true =>
      have hs : s = [0] := by have := beq_iff_eq.1 he; exact this.symm
      subst hs
      simp only [a41, c41, vms, vmc, AOpd.val, Nat.reduceEqDiff, reduceCtorEq, Nat.reduceAdd, Nat.reduceBEq, List.length_cons, List.length_nil, Nat.zero_add, Int.natCast_one, Int.cast_ofNat_Int, e0]
      exact ⟨by trivial, by trivial⟩
    | false =>
      simp only [a41, c41, vms, vmc, AOpd.val, Nat.reduceEqDiff, reduceCtorEq, Nat.reduceAdd, Nat.reduceBEq, List.length_cons, List.length_nil, Nat.zero_add, Int.natCast_one, Int.cast_ofNat_Int, e0, he, ix]
      refine Gives.bind ((idxByte_ok k).mono ?_)
      rintro _ _ ⟨rfl, rfl⟩
      simp only [vms, vmc, AOpd.val, Nat.reduceEqDiff, reduceCtorEq, Nat.reduceAdd, Nat.reduceBEq]
      exact ⟨by trivial, by trivial⟩
  refine gives_func (k.env 27 (by decide)) (k.at (n := 27) rfl) rfl ?_
  simp only [a27, c27, vms, vmc, AOpd.val, Nat.reduceEqDiff, reduceCtorEq, Nat.reduceAdd, Nat.reduceBEq]
  refine Gives.bind (inner.mono ?_)
  rintro _ _ ⟨rfl, rfl⟩
  simp only [vms, vmc, AOpd.val, Nat.reduceEqDiff, reduceCtorEq, Nat.reduceAdd, Nat.reduceBEq]
  exact ⟨by trivial, by trivial⟩
end Go.Proofs.YteajnglncglmfaaDoor

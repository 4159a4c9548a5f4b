/- Chapter 22: the reference's Terms gives what the program's gives: TokenTells. -/
import Derived.Test.YteajnglncglmfaaDoorP22E
namespace Go.Proofs.YteajnglncglmfaaDoor
open Go.Vm
set_option linter.unusedSimpArgs false
set_option linter.unusedVariables false
set_option maxRecDepth 100000
variable {T : Vm.Prog} {h : AH}
theorem pieces_snoc0 : ∀ (x : Txt), pieces (x ++ [0]) = pieces x ++ [[]]
  | [] => rfl
  | c :: r => by
    by_cases hc : c = 0
    · subst hc; simp [pieces, pieces_snoc0 r]
    · have h1 := pieces_snoc0 r
      have h2 := pieces_ne r
      simp only [List.cons_append, pieces, if_neg hc, h1]
      cases hp : pieces r with
      | nil => exact absurd hp h2
      | cons p ps => simp
theorem pieces_snoc : ∀ (x : Txt) {c : UInt8} {d : List Txt} {l : Txt}, c ≠ 0 → pieces x = d ++ [l] → pieces (x ++ [c]) = d ++ [l ++ [c]]
  | [], c, d, l, hc, h => by
    cases d with
    | nil => simp [pieces] at h; subst h; simp [pieces, hc]
    | cons a b => simp [pieces] at h
  | e :: r, c, d, l, hc, h => by
    by_cases he : e = 0
    · subst he
      simp only [pieces, if_true, List.cons_append] at h ⊢
      cases d with
      | nil =>
        simp at h
        exact absurd h.2 (pieces_ne r)
      | cons a b =>
        simp at h
        obtain ⟨rfl, h⟩ := h
        rw [pieces_snoc r hc h]; rfl
    · simp only [pieces, if_neg he, List.cons_append] at h ⊢
      cases hp : pieces r with
      | nil => exact absurd hp (pieces_ne r)
      | cons p ps =>
        rw [hp] at h
        simp only at h
        cases d with
        | nil =>
          simp at h
          obtain ⟨rfl, rfl⟩ := h
          rw [pieces_snoc r hc (d := []) (l := p) (by simpa using hp)]
          simp
        | cons a b =>
          simp at h
          obtain ⟨rfl, rfl⟩ := h
          rw [pieces_snoc r hc (d := p :: b) (l := l) (by simpa using hp)]
          simp
theorem take_snoc12 (l : Txt) (c : UInt8) : (l ++ [c]).take 12 = if (l.take 12).length < 12 then l.take 12 ++ [c] else l.take 12 := by
  by_cases h : l.length < 12
  · rw [if_pos (by simp; omega), List.take_of_length_le (by simp; omega), List.take_of_length_le (by omega)]
  · rw [if_neg (by simp; omega), List.take_append_of_le_length (by omega)]
theorem wordsOf_mem {ps : List Txt} {w x : Txt} : x ∈ wordsOf (ps ++ [w]) ↔ x ∈ wordsOf ps ∨ (w.take 12 ≠ [] ∧ x = w.take 12) := by
  rw [wordsOf_snoc, List.mem_append]
  by_cases hw : w = []
  · subst hw; simp
  · rw [if_neg hw]
    have : w.take 12 ≠ [] := by
      cases w with
      | nil => exact absurd rfl hw
      | cons a b => simp
    simp [this]
/-- What a round of the reference leaves. -/
structure RI (h h' : AH) (out : AV) (s : Txt) (i : Nat) (done : List Txt) (last : Txt) : Prop where
  cut : pieces ((s.map letter).take i) = done ++ [last]
  row : ∃ l, Row1 h' out (l.map .str) ∧ Ris l ∧ (∀ x, x ∈ l ↔ x ∈ wordsOf done) ∧ l.length ≤ i
  quiet : Quiet h h'
  low : Low h'
theorem refTerms_ok (k : Base T) (hl : Low h) {s : Txt} : Gives T 11 [.str s] h fun r h' => Quiet h h' ∧ Low h' ∧ ((512 < s.length ∧ r = .tuple [.nilSlice, .int .i64 11]) ∨ (s.length ≤ 512 ∧ ∃ v, r = .tuple [v, .int .i64 0] ∧ Row1 h' v ((terms s).map .str))) := by
  refine gives_func (k.env 11 (by decide)) (k.at (n := 11) rfl) rfl ?_
  by_cases hbig : (s.length : Int) > 512
  · simp only [a11, c11, vms, vmc, AOpd.val, Nat.reduceEqDiff, reduceCtorEq, Nat.reduceAdd, Nat.reduceBEq, decide_eq_true hbig]
    exact ⟨Quiet.refl h, hl, .inl ⟨by omega, by trivial⟩⟩
  have hs : s.length ≤ 512 := by omega
  simp only [a11, c11, vms, vmc, AOpd.val, Nat.reduceEqDiff, reduceCtorEq, Nat.reduceAdd, Nat.reduceBEq, decide_eq_false hbig]
  refine wpc_loop (fun m f h1 => ∃ i done last out, m = s.length + 1 - i ∧ i ≤ s.length ∧ RI h h1 out s i done last ∧ f.at 0 = .str s ∧ f.at 4 = out ∧ f.at 5 = .str (last.take 12) ∧ f.at 6 = .int .i64 (i : Nat) ∨
      (m = 0 ∧ ∃ out, Quiet h h1 ∧ Low h1 ∧ (∃ l, Row1 h1 out (l.map .str) ∧ l = terms s) ∧ f.at 0 = .str s ∧ f.at 4 = out ∧ f.at 6 = .int .i64 ((s.length + 1 : Nat) : Int))) ?_ (s.length + 1) _ _ ⟨0, [], [], .nilSlice, .inl ⟨by omega, by omega, ⟨by simp [pieces], ⟨[], .inl ⟨rfl, rfl⟩, by simp [Ris], by simp [wordsOf], by simp⟩, Quiet.refl h, hl⟩, ?_⟩⟩
  · rintro m f h1 ⟨i, done, last, out, ⟨rfl, hi, ⟨hcut, ⟨l, r1, hr, hm, hll⟩, q1, lo1⟩, f0, f4, f5, f6⟩ | ⟨rfl, out, q1, lo1, ⟨l, r1, rfl⟩, f0, f4, f6⟩⟩
    · have d1 : decide ((i : Int) ≤ (s.length : Int)) = true := by rw [decide_eq_true_eq]; omega
      have w2 : IntKind.i64.wrap ((i : Int) + 1) = ((i + 1 : Nat) : Int) := by rw [wrap_i64 (by omega) (by omega)]; omega
      have n0 : ((0 : Int) != 0) = false := rfl
      by_cases hlt : i < s.length
      · have d2 : decide ((i : Int) < (s.length : Int)) = true := by rw [decide_eq_true_eq]; omega
        have ix : idxStrV (.str s) (.int .i64 (i : Int)) = some (.int .u8 (s[i].toNat : Int)) := by
          simp [idxStrV, hlt]
        have htk : (s.map letter).take (i + 1) = (s.map letter).take i ++ [letter s[i]] := by
          rw [List.take_succ_eq_append_getElem (by simpa using hlt)]; simp
        simp only [c11l0, vms, vmc, AOpd.val, Nat.reduceEqDiff, reduceCtorEq, Nat.reduceAdd, Nat.reduceBEq, f0, f4, f5, f6, d1, d2, ix]
        refine Gives.bind ((letter2_ok k).mono ?_)
        rintro _ _ ⟨rfl, rfl⟩
        by_cases hz : letter s[i] = 0
        · have e0 : (((letter s[i]).toNat : Int) != 0) = false := by rw [hz]; rfl
          have hcut2 : pieces ((s.map letter).take (i + 1)) = (done ++ [last]) ++ [[]] := by rw [htk, hz, pieces_snoc0, hcut]
          cases e5 : (last.take 12 == ([] : Txt)) with
          | true =>
            have hl0 : last.take 12 = [] := by simpa using e5
            simp only [vms, vmc, AOpd.val, Nat.reduceEqDiff, reduceCtorEq, Nat.reduceAdd, Nat.reduceBEq, f0, f4, f5, f6, e0, e5, w2]
            refine ⟨s.length + 1 - (i + 1), by omega, i + 1, done ++ [last], [], out, .inl ⟨rfl, by omega, ⟨hcut2, ⟨l, r1, hr, fun x => ?_, by omega⟩, q1, lo1⟩, by trivial, by trivial, by trivial, by trivial⟩⟩
            rw [hm x, wordsOf_mem]; simp [hl0]
          | false =>
            have hl0 : last.take 12 ≠ [] := by simpa using e5
            simp only [vms, vmc, AOpd.val, Nat.reduceEqDiff, reduceCtorEq, Nat.reduceAdd, Nat.reduceBEq, f0, f4, f5, f6, e0, e5]
            refine Gives.bind ((insert_ok k lo1 r1 hr (by omega)).mono ?_)
            rintro v2 h2 ⟨q2, lo2, l', r2, hr', hm', hl'⟩
            simp only [vms, vmc, AOpd.val, Nat.reduceEqDiff, reduceCtorEq, Nat.reduceAdd, Nat.reduceBEq, f0, f4, f5, f6, w2]
            refine ⟨s.length + 1 - (i + 1), by omega, i + 1, done ++ [last], [], v2, .inl ⟨rfl, by omega, ⟨hcut2, ⟨l', r2, hr', fun x => ?_, by omega⟩, q1.trans q2, lo2⟩, by trivial, by trivial, by trivial, by trivial⟩⟩
            rw [hm' x, hm x, wordsOf_mem]; simp [hl0]
        · have e0 : (((letter s[i]).toNat : Int) != 0) = true := by
            have : (letter s[i]).toNat ≠ 0 := fun e => hz (UInt8.toNat_inj.1 (by simpa using e))
            simp; omega
          have hcut2 : pieces ((s.map letter).take (i + 1)) = done ++ [last ++ [letter s[i]]] := by rw [htk, pieces_snoc _ hz hcut]
          have htake := take_snoc12 last (letter s[i])
          by_cases h12 : (last.take 12).length < 12
          · have d3 : decide (((last.take 12).length : Int) < 12) = true := by rw [decide_eq_true_eq]; omega
            rw [if_pos h12] at htake
            have ba : binV .add (.str (last.take 12)) (.str [letter s[i]]) = some (.str (last.take 12 ++ [letter s[i]])) := bin_str_add (by simp; omega)
            simp only [vms, vmc, AOpd.val, Nat.reduceEqDiff, reduceCtorEq, Nat.reduceAdd, Nat.reduceBEq, f0, f4, f5, f6, e0, d3, fillB, one_str, ba, w2]
            refine ⟨s.length + 1 - (i + 1), by omega, i + 1, done, last ++ [letter s[i]], out, .inl ⟨rfl, by omega, ⟨hcut2, ⟨l, row_quiet r1 lo1 ((Quiet.refl _).new _), hr, hm, by omega⟩, q1.new _, lo1.new _⟩, by trivial, by trivial, ?_, by trivial⟩⟩
            rw [htake]
          · have d3 : decide (((last.take 12).length : Int) < 12) = false := by rw [decide_eq_false_iff_not]; omega
            rw [if_neg h12] at htake
            simp only [vms, vmc, AOpd.val, Nat.reduceEqDiff, reduceCtorEq, Nat.reduceAdd, Nat.reduceBEq, f0, f4, f5, f6, e0, d3, w2]
            refine ⟨s.length + 1 - (i + 1), by omega, i + 1, done, last ++ [letter s[i]], out, .inl ⟨rfl, by omega, ⟨hcut2, ⟨l, r1, hr, hm, by omega⟩, q1, lo1⟩, by trivial, by trivial, ?_, by trivial⟩⟩
            rw [htake]
      · have hi' : i = s.length := by omega
        subst hi'
        have d2 : decide ((s.length : Int) < (s.length : Int)) = false := by simp
        have hfull : pieces (s.map letter) = done ++ [last] := by rw [← hcut, List.take_of_length_le (by simp)]
        have fin : ∀ {l' : List Txt}, Ris l' → (∀ x, x ∈ l' ↔ x ∈ wordsOf done ∨ (last.take 12 ≠ [] ∧ x = last.take 12)) → l' = terms s := fun {l'} h1 h2 => by
          refine (setT_eq h1 fun x => ?_).symm
          rw [h2 x]
          unfold words
          rw [hfull, wordsOf_mem]
        simp only [c11l0, vms, vmc, AOpd.val, Nat.reduceEqDiff, reduceCtorEq, Nat.reduceAdd, Nat.reduceBEq, f0, f4, f5, f6, d1, d2, n0]
        cases e5 : (last.take 12 == ([] : Txt)) with
        | true =>
          have hl0 : last.take 12 = [] := by simpa using e5
          simp only [vms, vmc, AOpd.val, Nat.reduceEqDiff, reduceCtorEq, Nat.reduceAdd, Nat.reduceBEq, f0, f4, f5, f6, e5, w2]
          refine ⟨0, by omega, 0, [], [], .nilSlice, .inr ⟨rfl, out, q1, lo1, ⟨l, r1, fin hr fun x => ?_⟩, by trivial, by trivial, by trivial⟩⟩
          rw [hm x]; simp [hl0]
        | false =>
          have hl0 : last.take 12 ≠ [] := by simpa using e5
          simp only [vms, vmc, AOpd.val, Nat.reduceEqDiff, reduceCtorEq, Nat.reduceAdd, Nat.reduceBEq, f0, f4, f5, f6, e5]
          refine Gives.bind ((insert_ok k lo1 r1 hr (by omega)).mono ?_)
          rintro v2 h2 ⟨q2, lo2, l', r2, hr', hm', hl'⟩
          simp only [vms, vmc, AOpd.val, Nat.reduceEqDiff, reduceCtorEq, Nat.reduceAdd, Nat.reduceBEq, f0, f4, f5, f6, w2]
          refine ⟨0, by omega, 0, [], [], .nilSlice, .inr ⟨rfl, v2, q1.trans q2, lo2, ⟨l', r2, fin hr' fun x => ?_⟩, by trivial, by trivial, by trivial⟩⟩
          rw [hm' x, hm x]; simp [hl0]
    · have d1 : decide ((((s.length + 1 : Nat) : Int)) ≤ (s.length : Int)) = false := by rw [decide_eq_false_iff_not]; omega
      simp only [c11l0, vms, vmc, AOpd.val, Nat.reduceEqDiff, reduceCtorEq, Nat.reduceAdd, Nat.reduceBEq, f0, f4, f6, d1]
      exact ⟨q1, lo1, .inr ⟨hs, out, by trivial, r1⟩⟩
  · simp only [vms, vmc, AOpd.val, Nat.reduceEqDiff, reduceCtorEq, Nat.reduceAdd, Nat.reduceBEq]
    simp
end Go.Proofs.YteajnglncglmfaaDoor

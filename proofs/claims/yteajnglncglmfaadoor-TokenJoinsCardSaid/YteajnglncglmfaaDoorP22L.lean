/- TokenJoins. -/
import Derived.Test.YteajnglncglmfaaDoorP22J
namespace Go.Proofs.YteajnglncglmfaaDoor
open Go.Vm
set_option linter.unusedSimpArgs false
set_option linter.unusedVariables false
set_option maxRecDepth 100000
variable {T : Vm.Prog} {h : AH}
theorem terms_len2 (s : Txt) : (terms s).length ≤ s.length + 1 := by
  have h1 := compact_len (sortT (words s))
  rw [sortT_len] at h1
  exact Nat.le_trans h1 (words_len s)
theorem joins_mem {a b : Txt} (t : Txt) : t ∈ terms (a ++ [32] ++ b) ↔ t ∈ terms a ∨ t ∈ terms b := by
  have hw : words (a ++ [32] ++ b) = words a ++ words b := by
    rw [List.append_assoc]
    exact words_app letter_blank
  unfold terms
  rw [setT_mem, hw, List.mem_append, setT_mem, setT_mem]
theorem joins_run (k : Fits T) (hl : Low h) {a b : Txt} (hab : a.length + b.length < 9223372036854775808) : Gives T 8 [.str a, .str b] h fun r _ => r = .bool true := by
  refine gives_func (k.base.env 8 (by decide)) (k.base.at (n := 8) rfl) rfl ?_
  have w0 : IntKind.i64.wrap ((a.length : Int) + (b.length : Int)) = ((a.length + b.length : Nat) : Int) := by rw [wrap_i64 (by omega) (by omega)]; omega
  by_cases hbig : (((a.length + b.length : Nat) : Int)) ≥ 512
  · simp only [a8, c8, vms, vmc, AOpd.val, Nat.reduceEqDiff, reduceCtorEq, Nat.reduceAdd, Nat.reduceBEq, w0, decide_eq_true hbig]
    refine Gives.bind ((k.yes _).mono ?_)
    rintro _ _ ⟨rfl, rfl⟩
    simp only [vms, vmc, AOpd.val, Nat.reduceEqDiff, reduceCtorEq, Nat.reduceAdd, Nat.reduceBEq]
  have hs : a.length + b.length < 512 := by omega
  have n0 : ((0 : Int) != 0) = false := rfl
  have b1 : binV .add (.str a) (.str [32]) = some (.str (a ++ [32])) := bin_str_add (by simp; omega)
  have b2 : binV .add (.str (a ++ [32])) (.str b) = some (.str (a ++ [32] ++ b)) := bin_str_add (by simp; omega)
  have t1 := terms_len2 a
  have t2 := terms_len2 b
  have t3 := terms_len2 (a ++ [32] ++ b)
  simp at t3
  simp only [a8, c8, vms, vmc, AOpd.val, Nat.reduceEqDiff, reduceCtorEq, Nat.reduceAdd, Nat.reduceBEq, w0, decide_eq_false hbig]
  refine Gives.bind ((k.termsOk hl (s := a) (by omega)).mono ?_)
  rintro _ h1 ⟨q1, lo1, vx, rfl, rx, _⟩
  simp only [vms, vmc, AOpd.val, Nat.reduceEqDiff, reduceCtorEq, Nat.reduceAdd, Nat.reduceBEq]
  refine Gives.bind ((k.termsOk lo1 (s := b) (by omega)).mono ?_)
  rintro _ h2 ⟨q2, lo2, vy, rfl, ry, _⟩
  simp only [vms, vmc, AOpd.val, Nat.reduceEqDiff, reduceCtorEq, Nat.reduceAdd, Nat.reduceBEq, b1, b2]
  refine Gives.bind ((k.termsOk lo2 (s := a ++ [32] ++ b) (by simp; omega)).mono ?_)
  rintro _ h3 ⟨q3, lo3, vz, rfl, rz, _⟩
  have rx3 := row_quiet rx lo1 (q2.trans q3)
  have ry3 := row_quiet ry lo2 q3
  have lz : lenOfV vz = some (terms (a ++ [32] ++ b)).length := by simpa using rz.sees.len
  have ly : lenOfV vy = some (terms b).length := by simpa using ry3.sees.len
  simp only [vms, vmc, AOpd.val, Nat.reduceEqDiff, reduceCtorEq, Nat.reduceAdd, Nat.reduceBEq, n0, lz]
  refine (all_loop k.base rx3.sees ry3.sees rz.sees (by omega) (by omega) (by simp; omega) (setT_ris _) (fun t ht => (joins_mem t).1 ht) (fun t ht => terms_good ht) (by simp only [vms, vmc, AOpd.val, Nat.reduceEqDiff, reduceCtorEq, Nat.reduceAdd, Nat.reduceBEq]) (by simp only [vms, vmc, AOpd.val, Nat.reduceEqDiff, reduceCtorEq, Nat.reduceAdd, Nat.reduceBEq]) (by simp only [vms, vmc, AOpd.val, Nat.reduceEqDiff, reduceCtorEq, Nat.reduceAdd, Nat.reduceBEq]) (by simp only [vms, vmc, AOpd.val, Nat.reduceEqDiff, reduceCtorEq, Nat.reduceAdd, Nat.reduceBEq]) (by simp only [vms, vmc, AOpd.val, Nat.reduceEqDiff, reduceCtorEq, Nat.reduceAdd, Nat.reduceBEq]) (by simp only [vms, vmc, AOpd.val, Nat.reduceEqDiff, reduceCtorEq, Nat.reduceAdd, Nat.reduceBEq])).mono ?_
  rintro e g h4 ⟨rfl, rfl, gr⟩
  have g0 : g.at 0 = .str a := (gr 0 (by decide)).trans (by simp only [vms, vmc, AOpd.val, Nat.reduceEqDiff, reduceCtorEq, Nat.reduceAdd, Nat.reduceBEq])
  have g5 : g.at 5 = vx := (gr 5 (by decide)).trans (by simp only [vms, vmc, AOpd.val, Nat.reduceEqDiff, reduceCtorEq, Nat.reduceAdd, Nat.reduceBEq])
  have g7 : g.at 7 = vy := (gr 7 (by decide)).trans (by simp only [vms, vmc, AOpd.val, Nat.reduceEqDiff, reduceCtorEq, Nat.reduceAdd, Nat.reduceBEq])
  have g9 : g.at 9 = vz := (gr 9 (by decide)).trans (by simp only [vms, vmc, AOpd.val, Nat.reduceEqDiff, reduceCtorEq, Nat.reduceAdd, Nat.reduceBEq])
  have bf0 : fillV ([] : List AV) [] = some [] := rfl
  have qe : Quiet h4 (h4.new (.cells [] true)) := (Quiet.refl _).new _
  have loe : Low (h4.new (.cells [] true)) := lo3.new _
  have re : Row1 (h4.new (.cells [] true)) (.slice h4.next 0 1 0 0 true) [] := row1_of get_new_same rfl rfl (Nat.le_refl _) (fun i x h => by simp at h)
  obtain ⟨v8, h8, ap8, r8, o8, lt8, on8, lo8⟩ := row1_appendAll (bytes := 16) loe re (row_quiet rx3 lo3 qe).sees (by decide) (by decide) (by simp; omega) strs_flat
  have keep8 : ∀ {o : Nat}, o < h4.next → h8.get o = h4.get o := fun {o} ho => by
    rw [on8.2 o (by rw [next_new]; omega) (fun hm => by simp [objs] at hm; omega)]
    exact qe.2 o ho id
  have ry8 : Row1 h8 vy ((terms b).map .str) := RowS.keep ry3 fun o ho => keep8 (RowS.low ry3 lo3 o ho)
  have fr8 : ∀ o ∈ objs v8, h4.next ≤ o := fun o ho => by
    rcases o8 o ho with h9 | h9
    · simp [objs] at h9; omega
    · rw [next_new] at h9; omega
  obtain ⟨v9, h9, ap9, r9', o9, lt9, on9, lo9⟩ := row1_appendAll (bytes := 16) lo8 r8 ry8.sees (by decide) (by decide) (by simp; omega) strs_flat
  have n8 : h4.next + 1 ≤ h8.next := on8.1
  have q9 : Quiet h4 h9 := ⟨by have := on9.1; omega, fun o ho _ => by
    rw [on9.2 o (by omega) (fun hm => by have := fr8 o hm; omega)]
    exact keep8 ho⟩
  have rL9 : Row1 h9 v9 ((terms a ++ terms b).map .str) := by simpa using r9'
  have l9 : lenOfV v9 = some (terms a ++ terms b).length := by simpa using rL9.sees.len
  simp only [vms, vmc, AOpd.val, Nat.reduceEqDiff, reduceCtorEq, Nat.reduceAdd, Nat.reduceBEq, g5, g7, bf0, ap8, ap9, l9]
  refine (back_loop (T := T) rL9.sees (row_quiet rz lo3 q9).sees (by simp; omega) (by simp; omega) (fun t ht => (joins_mem t).2 (List.mem_append.1 ht)) (by simp only [vms, vmc, AOpd.val, Nat.reduceEqDiff, reduceCtorEq, Nat.reduceAdd, Nat.reduceBEq]; exact g9) (by simp only [vms, vmc, AOpd.val, Nat.reduceEqDiff, reduceCtorEq, Nat.reduceAdd, Nat.reduceBEq]) (by simp only [vms, vmc, AOpd.val, Nat.reduceEqDiff, reduceCtorEq, Nat.reduceAdd, Nat.reduceBEq]) (by simp only [vms, vmc, AOpd.val, Nat.reduceEqDiff, reduceCtorEq, Nat.reduceAdd, Nat.reduceBEq])).mono ?_
  rintro e k' h10 ⟨rfl, rfl, kr⟩
  have k0 : k'.at 0 = .str a := (kr 0 (by decide)).trans (by simp only [vms, vmc, AOpd.val, Nat.reduceEqDiff, reduceCtorEq, Nat.reduceAdd, Nat.reduceBEq]; exact g0)
  have k5 : k'.at 5 = vx := (kr 5 (by decide)).trans (by simp only [vms, vmc, AOpd.val, Nat.reduceEqDiff, reduceCtorEq, Nat.reduceAdd, Nat.reduceBEq]; exact g5)
  simp only [vms, vmc, AOpd.val, Nat.reduceEqDiff, reduceCtorEq, Nat.reduceAdd, Nat.reduceBEq]
  refine (upper_loop (T := T) lo9 (a := a) (by omega) (by simp only [vms, vmc, AOpd.val, Nat.reduceEqDiff, reduceCtorEq, Nat.reduceAdd, Nat.reduceBEq]; exact k0) (by simp only [vms, vmc, AOpd.val, Nat.reduceEqDiff, reduceCtorEq, Nat.reduceAdd, Nat.reduceBEq]) (by simp only [vms, vmc, AOpd.val, Nat.reduceEqDiff, reduceCtorEq, Nat.reduceAdd, Nat.reduceBEq])).mono ?_
  rintro e p h11 ⟨rfl, q11, lo11, r11, pr⟩
  have p5 : p.at 5 = vx := (pr 5 (by decide)).trans (by simp only [vms, vmc, AOpd.val, Nat.reduceEqDiff, reduceCtorEq, Nat.reduceAdd, Nat.reduceBEq]; exact k5)
  simp only [vms, vmc, AOpd.val, Nat.reduceEqDiff, reduceCtorEq, Nat.reduceAdd, Nat.reduceBEq, row_str r11]
  refine Gives.bind ((k.termsOk lo11 (s := a.map upper) (by simp; omega)).mono ?_)
  rintro _ h12 ⟨q12, lo12, vw, rfl, rw12, _⟩
  rw [terms_upper] at rw12
  have e0 : ((0 : Int) == 0) = true := rfl
  simp only [vms, vmc, AOpd.val, Nat.reduceEqDiff, reduceCtorEq, Nat.reduceAdd, Nat.reduceBEq, p5, e0]
  have rx12 := row_quiet rx3 lo3 ((q9.trans q11).trans q12)
  refine Gives.bind ((same_ok k.base rw12.sees rx12.sees (by omega) (by omega)).mono ?_)
  rintro _ _ ⟨rfl, rfl⟩
  have ds : decide (terms a = terms a) = true := decide_eq_true rfl
  simp only [vms, vmc, AOpd.val, Nat.reduceEqDiff, reduceCtorEq, Nat.reduceAdd, Nat.reduceBEq, ds]
  refine Gives.bind ((k.yes _).mono ?_)
  rintro _ _ ⟨rfl, rfl⟩
  simp only [vms, vmc, AOpd.val, Nat.reduceEqDiff, reduceCtorEq, Nat.reduceAdd, Nat.reduceBEq]
end Go.Proofs.YteajnglncglmfaaDoor

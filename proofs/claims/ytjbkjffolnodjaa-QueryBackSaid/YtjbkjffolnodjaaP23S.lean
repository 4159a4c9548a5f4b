/- Chapter 23: Right, Text, and equality of queries, at queries that were read. -/
import Derived.Test.YtjbkjffolnodjaaP23R
import Derived.Test.YtjbkjffolnodjaaP23Q
namespace Go.Proofs.Ytjbkjffolnodjaa
open Go.Vm
set_option linter.unusedSimpArgs false
set_option linter.unusedVariables false
set_option maxRecDepth 100000
variable {T : Vm.Prog} {h : AH}
theorem part_at {v : AV} {q : List Part} (r : RowS h 2 v (parts q)) {i : Nat} {p : Part} (hp : q[i]? = some p) : ∃ a, idxAddrV 2 v (.int .i64 (i : Int)) = some a ∧ loadV h true 2 a = some (.agg [.int .i64 p.1, .str p.2]) := by
  have hx : (parts q)[i]? = some [.int .i64 p.1, .str p.2] := by simp [parts, hp]
  rcases r with ⟨rfl, e⟩ | ⟨o, cap, ex, l, rfl, hg, h1, h2, h3⟩
  · rw [e] at hx; simp at hx
  · have hi := (List.getElem?_eq_some_iff.1 hx).1
    obtain ⟨_, g⟩ := h3 i _ hx
    have g0 := g 0 _ rfl
    have g1 := g 1 _ rfl
    have hl : i * 2 + 2 ≤ l.length := by have := (List.getElem?_eq_some_iff.1 g1).1; omega
    refine ⟨.ptr o (i * 2), by simp [idxAddrV, hi], ?_⟩
    have hseg : (l.drop (i * 2)).take 2 = [.int .i64 p.1, .str p.2] := by
      apply List.ext_getElem?
      intro j
      rw [List.getElem?_take]
      by_cases hj : j < 2
      · rw [if_pos hj, List.getElem?_drop]
        match j, hj with
        | 0, _ => simpa using g0
        | 1, _ => simpa using g1
      · rw [if_neg hj]
        simp; omega
    simp only [loadV, AH.load, hg, if_true]
    rw [if_pos hl, hseg]
    rfl
theorem isTerm_ok (k : Base T) {t : Txt} (hg : GoodT t) : Gives T 39 [.str t] h fun r h' => r = .bool true ∧ h' = h := by
  refine gives_func (k.env 39 (by decide)) (k.at (n := 39) rfl) rfl ?_
  have hl := hg.2.1
  simp only [a39, c39, vms, vmc, AOpd.val, Nat.reduceEqDiff, reduceCtorEq, Nat.reduceAdd, Nat.reduceBEq]
  refine wpc_loop (fun m f h' => ∃ i : Nat, m = t.length - i ∧ i ≤ t.length ∧ h' = h ∧ f.at 0 = .str t ∧ f.at 5 = .int .i64 (t.length : Int) ∧ f.at 6 = .int .i64 (i : Int)) ?_ t.length _ _ ⟨0, by omega, by omega, rfl, ?_⟩
  · rintro m f h' ⟨i, rfl, hi, rfl, f0, f5, f6⟩
    by_cases hlt : i < t.length
    · have d1 : decide ((i : Int) < (t.length : Int)) = true := by rw [decide_eq_true_eq]; omega
      have ix : idxStrV (.str t) (.int .i64 (i : Int)) = some (.int .u8 (t[i].toNat : Int)) := by simp [idxStrV, hlt]
      have w2 : IntKind.i64.wrap ((i : Int) + 1) = ((i + 1 : Nat) : Int) := by rw [wrap_i64 (by omega) (by omega)]; omega
      obtain ⟨hb1, hb2⟩ := hg.2.2 t[i] (List.getElem_mem hlt)
      have e1 : (((letter t[i]).toNat : Int) != (t[i].toNat : Int)) = false := by rw [hb1]; simp
      have e2 : ((t[i].toNat : Int) == 0) = false := by
        rw [show ((t[i].toNat : Int) == 0) = (t[i] == 0) from u8eq (n := 0) (by decide)]
        simpa using hb2
      simp only [c39l0, vms, vmc, AOpd.val, Nat.reduceEqDiff, reduceCtorEq, Nat.reduceAdd, Nat.reduceBEq, f0, f5, f6, d1, ix]
      refine Gives.bind ((letter_ok k).mono ?_)
      rintro _ _ ⟨rfl, rfl⟩
      simp only [vms, vmc, AOpd.val, Nat.reduceEqDiff, reduceCtorEq, Nat.reduceAdd, Nat.reduceBEq, f0, f5, f6, e1, ix, e2, w2]
      exact ⟨t.length - (i + 1), by omega, i + 1, rfl, by omega, by trivial, by trivial, by trivial, by trivial⟩
    · have d1 : decide ((i : Int) < (t.length : Int)) = false := by rw [decide_eq_false_iff_not]; omega
      have e1 : (t == ([] : Txt)) = false := by simpa using hg.1
      have d2 : decide ((t.length : Int) ≤ 12) = true := by rw [decide_eq_true_eq]; omega
      simp only [c39l0, vms, vmc, AOpd.val, Nat.reduceEqDiff, reduceCtorEq, Nat.reduceAdd, Nat.reduceBEq, f0, f5, f6, d1, e1, d2]
      exact ⟨by trivial, by trivial⟩
  · simp only [vms, vmc, AOpd.val, Nat.reduceEqDiff, reduceCtorEq, Nat.reduceAdd, Nat.reduceBEq]
    simp
/-- Of how many ahead a part is. -/
def arity (p : Part) : Int := if p.1 = 1 then 0 else if p.1 = 4 then 1 else 2
theorem takes_gives (k : Base T) (hl : Low h) {p : Part} (hp : OkP p) : Gives T 27 [.agg [.int .i64 p.1, .str p.2]] h fun r h' => r = .int .i64 (arity p) ∧ Quiet h h' ∧ Low h' := by
  obtain ⟨kd, t⟩ := p
  have bx : boxV h (AV.agg [AV.int .i64 kd, AV.str t]) = some (.ptr h.next 0, h.new (.cells [AV.int .i64 kd, AV.str t] true)) := rfl
  have q1 : Quiet h (h.new (.cells [AV.int .i64 kd, AV.str t] true)) := (Quiet.refl _).new _
  have lo1 := hl.new (.cells [AV.int .i64 kd, AV.str t] true)
  have hg : (h.new (.cells [AV.int .i64 kd, AV.str t] true)).get h.next = some (.cells [AV.int .i64 kd, AV.str t] true) := get_new_same
  have l0 : loadV (h.new (.cells [AV.int .i64 kd, AV.str t] true)) false 1 (.ptr h.next 0) = some (.int .i64 kd) := load_at hg rfl
  have l1 : loadV (h.new (.cells [AV.int .i64 kd, AV.str t] true)) false 1 (.ptr h.next 1) = some (.str t) := load_at hg rfl
  refine gives_func (k.env 27 (by decide)) (k.at (n := 27) rfl) rfl ?_
  rcases hp with ⟨h1, hg⟩ | ⟨h1, h2⟩
  · have h1' : kd = 1 := h1
    subst h1'
    have e1 : ((1 : Int) == 1) = true := rfl
    simp only [a27, c27, vms, vmc, AOpd.val, Nat.reduceEqDiff, reduceCtorEq, Nat.reduceAdd, Nat.reduceBEq, bx, fa, l0, l1, e1]
    refine Gives.bind ((isTerm_ok k hg).mono ?_)
    rintro _ _ ⟨rfl, rfl⟩
    simp only [vms, vmc, AOpd.val, Nat.reduceEqDiff, reduceCtorEq, Nat.reduceAdd, Nat.reduceBEq]
    exact ⟨by simp [arity], q1, lo1⟩
  · have h2' : t = [] := h2
    subst h2'
    have e0 : (([] : Txt) == []) = true := rfl
    rcases h1 with h1 | h1 | h1
    · have h1' : kd = 4 := h1
      subst h1'
      have e1 : ((4 : Int) == 1) = false := rfl
      have e4 : ((4 : Int) == 4) = true := rfl
      simp only [a27, c27, vms, vmc, AOpd.val, Nat.reduceEqDiff, reduceCtorEq, Nat.reduceAdd, Nat.reduceBEq, bx, fa, l0, l1, e1, e4, e0]
      exact ⟨by simp [arity], q1, lo1⟩
    · have h1' : kd = 2 := h1
      subst h1'
      have e1 : ((2 : Int) == 1) = false := rfl
      have e4 : ((2 : Int) == 4) = false := rfl
      have e2 : ((2 : Int) == 2) = true := rfl
      simp only [a27, c27, vms, vmc, AOpd.val, Nat.reduceEqDiff, reduceCtorEq, Nat.reduceAdd, Nat.reduceBEq, bx, fa, l0, l1, e1, e4, e2, e0]
      exact ⟨by simp [arity], q1, lo1⟩
    · have h1' : kd = 3 := h1
      subst h1'
      have e1 : ((3 : Int) == 1) = false := rfl
      have e4 : ((3 : Int) == 4) = false := rfl
      have e2 : ((3 : Int) == 2) = false := rfl
      have e3 : ((3 : Int) == 3) = true := rfl
      simp only [a27, c27, vms, vmc, AOpd.val, Nat.reduceEqDiff, reduceCtorEq, Nat.reduceAdd, Nat.reduceBEq, bx, fa, l0, l1, e1, e4, e2, e3, e0]
      exact ⟨by simp [arity], q1, lo1⟩
theorem step_arity {S S' : List Ex} {p : Part} (hp : OkP p) (h : stepS S p = some S') : 0 ≤ arity p ∧ arity p ≤ S.length ∧ (S'.length : Int) = S.length + (1 - arity p) := by
  obtain ⟨kd, t⟩ := p
  rcases hp with ⟨h1, _⟩ | ⟨h1, h2⟩
  · have h1' : kd = 1 := h1
    subst h1'
    refine ⟨?_, ?_, ?_⟩ <;> (cases S <;> (simp [stepS] at h; subst h; simp [arity])) <;> omega
  · have h2' : t = [] := h2
    subst h2'
    rcases h1 with h1 | h1 | h1
    · have h1' : kd = 4 := h1
      subst h1'
      match S, h with
      | [], h => simp [stepS] at h
      | a :: S, h => simp [stepS] at h; subst h; simp [arity]; omega
    · have h1' : kd = 2 := h1
      subst h1'
      match S, h with
      | [], h => simp [stepS] at h
      | [a], h => simp [stepS] at h
      | a :: b :: S, h => simp [stepS] at h; subst h; simp [arity]; omega
    · have h1' : kd = 3 := h1
      subst h1'
      match S, h with
      | [], h => simp [stepS] at h
      | [a], h => simp [stepS] at h
      | a :: b :: S, h => simp [stepS] at h; subst h; simp [arity]; omega
theorem right_gives (k : Base T) (hl : Low h) {v : AV} {e : Ex} (ok : OkE e) (hlen : (post e).length ≤ 64) (r : RowS h 2 v (parts (post e))) : Gives T 12 [v] h fun q h' => q = .bool true ∧ Quiet h h' ∧ Low h' := by
  refine gives_func (k.env 12 (by decide)) (k.at (n := 12) rfl) rfl ?_
  have ln : lenOfV v = some (post e).length := by have := RowS.len r; simpa [parts] using this
  simp only [a12, c12, vms, vmc, AOpd.val, Nat.reduceEqDiff, reduceCtorEq, Nat.reduceAdd, Nat.reduceBEq, ln]
  refine wpc_loop (fun m f h' => ∃ (i : Nat) (S : List Ex), m = (post e).length - i ∧ i ≤ (post e).length ∧ runS [] ((post e).take i) = some S ∧ Quiet h h' ∧ Low h' ∧ f.at 0 = v ∧ f.at 3 = .int .i64 (S.length : Int) ∧ f.at 7 = v ∧ f.at 8 = .int .i64 ((post e).length : Int) ∧ f.at 9 = .int .i64 (i : Int) ∧ S.length ≤ i) ?_ (post e).length _ _ ⟨0, [], by omega, by omega, rfl, Quiet.refl _, hl, ?_⟩
  · rintro m f h' ⟨i, S, rfl, hi, hS, q, lo, f0, f3, f7, f8, f9, hSi⟩
    by_cases hlt : i < (post e).length
    · have d1 : decide ((i : Int) < ((post e).length : Int)) = true := by rw [decide_eq_true_eq]; omega
      obtain ⟨p, hp⟩ : ∃ p, (post e)[i]? = some p := ⟨_, List.getElem?_eq_getElem hlt⟩
      obtain ⟨S0, S', hS0, hst, hS'⟩ := prefix_runs hp
      rw [hS] at hS0
      cases hS0
      have hok := post_ok ok p (List.mem_of_getElem? hp)
      obtain ⟨a0, a1, a2⟩ := step_arity hok hst
      have r' : RowS h' 2 v (parts (post e)) := RowS.keep r fun o ho => q.2 o (RowS.low r hl o ho) id
      obtain ⟨ad, ha1, ha2⟩ := part_at r' hp
      have q1 : Quiet h' (h'.new (.cells [AV.int .i64 0, AV.str []] true)) := (Quiet.refl _).new _
      have hg : (h'.new (.cells [AV.int .i64 0, AV.str []] true)).get h'.next = some (.cells [AV.int .i64 0, AV.str []] true) := get_new_same
      have st : storeV (h'.new (.cells [AV.int .i64 0, AV.str []] true)) 2 (.ptr h'.next 0) (.agg [.int .i64 p.1, .str p.2]) = some ((h'.new (.cells [AV.int .i64 0, AV.str []] true)).set h'.next (.cells [.int .i64 p.1, .str p.2] true)) := store_all hg rfl rfl (by simp [AV.flat])
      have q2 : Quiet h' ((h'.new (.cells [AV.int .i64 0, AV.str []] true)).set h'.next (.cells [.int .i64 p.1, .str p.2] true)) := q1.set (Nat.le_refl _) _
      have lo2 : Low ((h'.new (.cells [AV.int .i64 0, AV.str []] true)).set h'.next (.cells [.int .i64 p.1, .str p.2] true)) := (lo.new _).set (by rw [next_new]; omega) _
      have ld : loadV ((h'.new (.cells [AV.int .i64 0, AV.str []] true)).set h'.next (.cells [.int .i64 p.1, .str p.2] true)) true 2 (.ptr h'.next 0) = some (.agg [.int .i64 p.1, .str p.2]) := load_all get_set_same rfl
      have d2 : decide (arity p < 0) = false := by rw [decide_eq_false_iff_not]; omega
      have d3 : decide ((S.length : Int) < arity p) = false := by rw [decide_eq_false_iff_not]; omega
      have w3 : IntKind.i64.wrap (1 - arity p) = 1 - arity p := wrap_i64 (by omega) (by omega)
      have w4 : IntKind.i64.wrap ((S.length : Int) + (1 - arity p)) = (S'.length : Int) := by rw [← a2, wrap_i64 (by omega) (by omega)]
      have w2 : IntKind.i64.wrap ((i : Int) + 1) = ((i + 1 : Nat) : Int) := by rw [wrap_i64 (by omega) (by omega)]; omega
      simp only [c12l0, vms, vmc, AOpd.val, Nat.reduceEqDiff, reduceCtorEq, Nat.reduceAdd, Nat.reduceBEq, f0, f3, f7, f8, f9, d1, ha1, ha2, st, ld]
      refine Gives.bind ((takes_gives k lo2 hok).mono ?_)
      rintro _ h3 ⟨rfl, q3, lo3⟩
      simp only [vms, vmc, AOpd.val, Nat.reduceEqDiff, reduceCtorEq, Nat.reduceAdd, Nat.reduceBEq, f0, f3, f7, f8, f9, d2, d3, w3, w4, w2]
      exact ⟨(post e).length - (i + 1), by omega, i + 1, S', rfl, by omega, hS', (q.trans q2).trans q3, lo3, by trivial, by trivial, by trivial, by trivial, by trivial, by omega⟩
    · have d1 : decide ((i : Int) < ((post e).length : Int)) = false := by rw [decide_eq_false_iff_not]; omega
      rw [List.take_of_length_le (by omega), runS_post] at hS
      cases hS
      have e1 : ((([e] : List Ex).length : Int) == 1) = true := rfl
      have d2 : decide (((post e).length : Int) ≤ 64) = true := by rw [decide_eq_true_eq]; omega
      simp only [c12l0, vms, vmc, AOpd.val, Nat.reduceEqDiff, reduceCtorEq, Nat.reduceAdd, Nat.reduceBEq, f0, f3, f7, f8, f9, d1, e1, ln, d2]
      exact ⟨by trivial, q, lo⟩
  · simp only [vms, vmc, AOpd.val, Nat.reduceEqDiff, reduceCtorEq, Nat.reduceAdd, Nat.reduceBEq]
    simp
theorem samePart_ok (k : Base T) {va vb : AV} {q : List Part} (ra : RowS h 2 va (parts q)) (rb : RowS h 2 vb (parts q)) (hl : q.length < 1000000) : Gives T 13 [va, vb] h fun r h' => r = .bool true ∧ h' = h := by
  refine gives_func (k.env 13 (by decide)) (k.at (n := 13) rfl) rfl ?_
  have la : lenOfV va = some q.length := by have := RowS.len ra; simpa [parts] using this
  have lb : lenOfV vb = some q.length := by have := RowS.len rb; simpa [parts] using this
  have e0 : ((q.length : Int) != (q.length : Int)) = false := by simp
  simp only [a13, c13, vms, vmc, AOpd.val, Nat.reduceEqDiff, reduceCtorEq, Nat.reduceAdd, Nat.reduceBEq, la, lb, e0]
  refine wpc_loop (fun m f h' => ∃ i : Nat, m = q.length - i ∧ i ≤ q.length ∧ h' = h ∧ f.at 0 = va ∧ f.at 1 = vb ∧ f.at 5 = .int .i64 (i : Int)) ?_ q.length _ _ ⟨0, by omega, by omega, rfl, ?_⟩
  · rintro m f h' ⟨i, rfl, hi, rfl, f0, f1, f5⟩
    by_cases hlt : i < q.length
    · have d1 : decide ((i : Int) < (q.length : Int)) = true := by rw [decide_eq_true_eq]; omega
      obtain ⟨p, hp⟩ : ∃ p, q[i]? = some p := ⟨_, List.getElem?_eq_getElem hlt⟩
      obtain ⟨x, hx1, hx2⟩ := part_at ra hp
      obtain ⟨y, hy1, hy2⟩ := part_at rb hp
      have w2 : IntKind.i64.wrap ((i : Int) + 1) = ((i + 1 : Nat) : Int) := by rw [wrap_i64 (by omega) (by omega)]; omega
      have eq : eqAggV [0, 1] true (.agg [.int .i64 p.1, .str p.2]) (.agg [.int .i64 p.1, .str p.2]) = some (.bool false) := by
        simp [eqAggV, leavesEq, keyEq]
      simp only [c13l0, vms, vmc, AOpd.val, Nat.reduceEqDiff, reduceCtorEq, Nat.reduceAdd, Nat.reduceBEq, f0, f1, f5, la, d1, hx1, hx2, hy1, hy2, eq, w2]
      exact ⟨q.length - (i + 1), by omega, i + 1, rfl, by omega, by trivial, by trivial, by trivial, by trivial⟩
    · have d1 : decide ((i : Int) < (q.length : Int)) = false := by rw [decide_eq_false_iff_not]; omega
      simp only [c13l0, vms, vmc, AOpd.val, Nat.reduceEqDiff, reduceCtorEq, Nat.reduceAdd, Nat.reduceBEq, f0, f1, f5, la, d1]
      exact ⟨by trivial, by trivial⟩
  · simp only [vms, vmc, AOpd.val, Nat.reduceEqDiff, reduceCtorEq, Nat.reduceAdd, Nat.reduceBEq]
    simp
end Go.Proofs.Ytjbkjffolnodjaa

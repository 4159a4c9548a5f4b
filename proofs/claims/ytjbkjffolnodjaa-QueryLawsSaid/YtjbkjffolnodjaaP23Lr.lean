/- Chapter 23: is any list of parts a query; its terms. -/
import Derived.Test.YtjbkjffolnodjaaP23S
import Derived.Test.YtjbkjffolnodjaaP23Set
import Derived.Test.YtjbkjffolnodjaaVmZt
import Derived.Test.YtjbkjffolnodjaaVmZw
namespace Go.Proofs.Ytjbkjffolnodjaa
open Go.Vm
set_option linter.unusedSimpArgs false
set_option linter.unusedVariables false
set_option maxRecDepth 100000
variable {T : Vm.Prog} {h : AH}
/-- Some cells of a row, in one piece. -/
theorem load_part {o i n : Nat} {l xs : List AV} {r : Option Bool} (hg : h.get o = some (AObj.of l r)) (hx : xs.length = n) (hin : i + n ≤ l.length) (hall : ∀ (j : Nat) (y : AV), xs[j]? = some y → l[i + j]? = some y) : loadV h true n (.ptr o i) = some (.agg xs) := by
  have e : (l.drop i).take n = xs := by
    apply List.ext_getElem?
    intro j
    by_cases hj : j < n
    · rw [List.getElem?_take, if_pos hj, List.getElem?_drop, List.getElem?_eq_getElem (by omega : j < xs.length)]
      exact hall j _ (List.getElem?_eq_getElem (by omega))
    · rw [List.getElem?_eq_none (by rw [List.length_take]; omega), List.getElem?_eq_none (by omega)]
  simp only [loadV, load_of hg, if_true]
  rw [if_pos hin, e]; rfl
theorem part_sees {v : AV} {q : List Part} (r : SeesS h 2 v (parts q)) {i : Nat} {p : Part} (hp : q[i]? = some p) : ∃ a, idxAddrV 2 v (.int .i64 (i : Int)) = some a ∧ loadV h true 2 a = some (.agg [.int .i64 p.1, .str p.2]) := by
  have hx : (parts q)[i]? = some [.int .i64 p.1, .str p.2] := by simp [parts, hp]
  rcases r with ⟨rfl, e⟩ | ⟨o, off, cap, ex, l, rw', rfl, hg, h1, h3⟩
  · rw [e] at hx; simp at hx
  · have hi := (List.getElem?_eq_some_iff.1 hx).1
    obtain ⟨_, g⟩ := h3 i _ hx
    have h4 : (i + 1) * 2 ≤ (parts q).length * 2 := Nat.mul_le_mul_right 2 hi
    exact ⟨.ptr o (off + i * 2), by simp [idxAddrV, hi], load_part hg rfl (by omega) g⟩
theorem right_sees (k : Base T) (hl : Low h) {v : AV} {e : Ex} (ok : OkE e) (hlen : (post e).length ≤ 64) (r : SeesS h 2 v (parts (post e))) : Gives T 12 [v] h fun q h' => q = .bool true ∧ Quiet h h' ∧ Low h' := by
  refine gives_func (k.env 12 (by decide)) (k.at (n := 12) rfl) rfl ?_
  have ln : lenOfV v = some (post e).length := by have := SeesS.len r; simpa [parts] using this
  simp only [a12, c12, vms, vmc, AOpd.val, Nat.reduceEqDiff, reduceCtorEq, Nat.reduceAdd, Nat.reduceBEq, ln]
  refine wpc_loop (fun m f h' => ∃ (i : Nat) (S : List Ex), m = (post e).length - i ∧ i ≤ (post e).length ∧ runS [] ((post e).take i) = some S ∧ Quiet h h' ∧ Low h' ∧ f.at 0 = v ∧ f.at 3 = .int .i64 (S.length : Int) ∧ f.at 7 = v ∧ f.at 8 = .int .i64 ((post e).length : Int) ∧ f.at 9 = .int .i64 (i : Int) ∧ S.length ≤ i) ?_ (post e).length _ _ ⟨0, [], by omega, by omega, rfl, Quiet.refl _, hl, ?_⟩
  · rintro m f h' ⟨i, S, rfl, hi, hS, q, lo, f0, f3, f7, f8, f9, hSi⟩
    by_cases hlt : i < (post e).length
    · have d1 : decide ((i : Int) < ((post e).length : Int)) = true := by rw [decide_eq_true_eq]; omega
      obtain ⟨p, hp⟩ : ∃ p, (post e)[i]? = some p := ⟨_, List.getElem?_eq_getElem hlt⟩
      obtain ⟨S0, S', hS0, hst, hS'⟩ := prefix_runs hp
      rw [hS] at hS0
      cases hS0
      have hok := post_ok ok p (List.mem_of_getElem? hp)
      obtain ⟨a0, a1, a2⟩ := step_arity hok hst
      have r' : SeesS h' 2 v (parts (post e)) := SeesS.keep r fun o ho => q.2 o (SeesS.low r hl o ho) id
      obtain ⟨ad, ha1, ha2⟩ := part_sees r' hp
      have q1 : Quiet h' (h'.new (.cells [AV.int .i64 0, AV.str []] true)) := (Quiet.refl _).new _
      have hg : (h'.new (.cells [AV.int .i64 0, AV.str []] true)).get h'.next = some (.cells [AV.int .i64 0, AV.str []] true) := get_new_same
      have st : storeV (h'.new (.cells [AV.int .i64 0, AV.str []] true)) 2 (.ptr h'.next 0) (.agg [.int .i64 p.1, .str p.2]) = some ((h'.new (.cells [AV.int .i64 0, AV.str []] true)).set h'.next (.cells [.int .i64 p.1, .str p.2] true)) := store_all hg rfl rfl (by simp [AV.flat])
      have q2 : Quiet h' ((h'.new (.cells [AV.int .i64 0, AV.str []] true)).set h'.next (.cells [.int .i64 p.1, .str p.2] true)) := q1.set (Nat.le_refl _) _
      have lo2 : Low ((h'.new (.cells [AV.int .i64 0, AV.str []] true)).set h'.next (.cells [.int .i64 p.1, .str p.2] true)) := (lo.new _).set (by rw [next_new]; omega) _
      have ld : loadV ((h'.new (.cells [AV.int .i64 0, AV.str []] true)).set h'.next (.cells [.int .i64 p.1, .str p.2] true)) true 2 (.ptr h'.next 0) = some (.agg [.int .i64 p.1, .str p.2]) := load_all get_set_same rfl
      have d2 : decide (arity p < 0) = false := by rw [decide_eq_false_iff_not]; omega
      have d3 : decide ((S.length : Int) < arity p) = false := by rw [decide_eq_false_iff_not]; omega
      have w3 : IntKind.i64.wrap (1 - arity p) = 1 - arity p := wrap_i64 (by omega) (by omega)
      have w4 : IntKind.i64.wrap ((S.length : Int) + (1 - arity p)) = (S'.length : Int) := by rw [← a2, wrap_i64 (by omega) (by omega)]
      have w2 : IntKind.i64.wrap ((i : Int) + 1) = ((i + 1 : Nat) : Int) := by rw [wrap_i64 (by omega) (by omega)]; omega
      simp only [c12l0, vms, vmc, AOpd.val, Nat.reduceEqDiff, reduceCtorEq, Nat.reduceAdd, Nat.reduceBEq, f0, f3, f7, f8, f9, d1, ha1, ha2, st, ld]
      refine Gives.bind ((takes_gives k lo2 hok).mono ?_)
      rintro _ h3 ⟨rfl, q3, lo3⟩
      simp only [vms, vmc, AOpd.val, Nat.reduceEqDiff, reduceCtorEq, Nat.reduceAdd, Nat.reduceBEq, f0, f3, f7, f8, f9, d2, d3, w3, w4, w2]
      exact ⟨(post e).length - (i + 1), by omega, i + 1, S', rfl, by omega, hS', (q.trans q2).trans q3, lo3, by trivial, by trivial, by trivial, by trivial, by trivial, by omega⟩
    · have d1 : decide ((i : Int) < ((post e).length : Int)) = false := by rw [decide_eq_false_iff_not]; omega
      rw [List.take_of_length_le (by omega), runS_post] at hS
      cases hS
      have e1 : ((([e] : List Ex).length : Int) == 1) = true := rfl
      have d2 : decide (((post e).length : Int) ≤ 64) = true := by rw [decide_eq_true_eq]; omega
      simp only [c12l0, vms, vmc, AOpd.val, Nat.reduceEqDiff, reduceCtorEq, Nat.reduceAdd, Nat.reduceBEq, f0, f3, f7, f8, f9, d1, e1, ln, d2]
      exact ⟨by trivial, q, lo⟩
  · simp only [vms, vmc, AOpd.val, Nat.reduceEqDiff, reduceCtorEq, Nat.reduceAdd, Nat.reduceBEq]
    simp
theorem isTerm_any (k : Base T) {t : Txt} (hs : t.length ≤ 9223372036854775807) : Gives T 39 [.str t] h fun r h' => h' = h ∧ ∃ b, r = .bool b ∧ (b = true → GoodT t) := by
  refine gives_func (k.env 39 (by decide)) (k.at (n := 39) rfl) rfl ?_
  simp only [a39, c39, vms, vmc, AOpd.val, Nat.reduceEqDiff, reduceCtorEq, Nat.reduceAdd, Nat.reduceBEq]
  refine wpc_loop (fun m f h' => ∃ i : Nat, m = t.length - i ∧ i ≤ t.length ∧ h' = h ∧ (∀ b ∈ t.take i, letter b = b ∧ b ≠ 0) ∧ f.at 0 = .str t ∧ f.at 5 = .int .i64 (t.length : Int) ∧ f.at 6 = .int .i64 (i : Int)) ?_ t.length _ _ ⟨0, by omega, by omega, rfl, by simp, ?_⟩
  · rintro m f h' ⟨i, rfl, hi, rfl, hb, f0, f5, f6⟩
    by_cases hlt : i < t.length
    · have d1 : decide ((i : Int) < (t.length : Int)) = true := by rw [decide_eq_true_eq]; omega
      have ix : idxStrV (.str t) (.int .i64 (i : Int)) = some (.int .u8 (t[i].toNat : Int)) := by simp [idxStrV, hlt]
      have w2 : IntKind.i64.wrap ((i : Int) + 1) = ((i + 1 : Nat) : Int) := by rw [wrap_i64 (by omega) (by omega)]; omega
      simp only [c39l0, vms, vmc, AOpd.val, Nat.reduceEqDiff, reduceCtorEq, Nat.reduceAdd, Nat.reduceBEq, f0, f5, f6, d1, ix]
      refine Gives.bind ((letter_ok k).mono ?_)
      rintro _ _ ⟨rfl, rfl⟩
      rename_i h
      by_cases e1 : letter t[i] = t[i]
      · have d2 : (((letter t[i]).toNat : Int) != (t[i].toNat : Int)) = false := by rw [e1]; simp
        by_cases e2 : t[i] = 0
        · have d3 : ((t[i].toNat : Int) == 0) = true := by rw [e2]; rfl
          simp only [vms, vmc, AOpd.val, Nat.reduceEqDiff, reduceCtorEq, Nat.reduceAdd, Nat.reduceBEq, f0, f5, f6, d2, ix, d3]
          exact ⟨trivial, false, rfl, fun hf => by cases hf⟩
        · have d3 : ((t[i].toNat : Int) == 0) = false := by
            rw [show ((t[i].toNat : Int) == 0) = (t[i] == 0) from u8eq (n := 0) (by decide)]
            simpa using e2
          simp only [vms, vmc, AOpd.val, Nat.reduceEqDiff, reduceCtorEq, Nat.reduceAdd, Nat.reduceBEq, f0, f5, f6, d2, ix, d3, w2]
          refine ⟨t.length - (i + 1), by omega, i + 1, rfl, by omega, by trivial, ?_, by trivial, by trivial, by trivial⟩
          intro b hbm
          rw [List.take_add_one, List.getElem?_eq_getElem hlt] at hbm
          rcases List.mem_append.1 hbm with h5 | h5
          · exact hb b h5
          · simp at h5; subst h5; exact ⟨e1, e2⟩
      · have d2 : (((letter t[i]).toNat : Int) != (t[i].toNat : Int)) = true := by
          rw [bne_iff_ne]
          intro e
          exact e1 (UInt8.toNat_inj.1 (by omega))
        simp only [vms, vmc, AOpd.val, Nat.reduceEqDiff, reduceCtorEq, Nat.reduceAdd, Nat.reduceBEq, d2]
        exact ⟨trivial, false, rfl, fun hf => by cases hf⟩
    · have d1 : decide ((i : Int) < (t.length : Int)) = false := by rw [decide_eq_false_iff_not]; omega
      rw [List.take_of_length_le (by omega)] at hb
      cases e1 : (t == ([] : Txt))
      · by_cases e2 : t.length ≤ 12
        · have d2 : decide ((t.length : Int) ≤ 12) = true := by rw [decide_eq_true_eq]; omega
          simp only [c39l0, vms, vmc, AOpd.val, Nat.reduceEqDiff, reduceCtorEq, Nat.reduceAdd, Nat.reduceBEq, f0, f5, f6, d1, e1, d2]
          exact ⟨trivial, true, rfl, fun _ => ⟨by simpa using e1, e2, hb⟩⟩
        · have d2 : decide ((t.length : Int) ≤ 12) = false := by rw [decide_eq_false_iff_not]; omega
          simp only [c39l0, vms, vmc, AOpd.val, Nat.reduceEqDiff, reduceCtorEq, Nat.reduceAdd, Nat.reduceBEq, f0, f5, f6, d1, e1, d2]
          exact ⟨trivial, false, rfl, fun hf => by cases hf⟩
      · simp only [c39l0, vms, vmc, AOpd.val, Nat.reduceEqDiff, reduceCtorEq, Nat.reduceAdd, Nat.reduceBEq, f0, f5, f6, d1, e1]
        exact ⟨trivial, false, rfl, fun hf => by cases hf⟩
  · simp only [vms, vmc, AOpd.val, Nat.reduceEqDiff, reduceCtorEq, Nat.reduceAdd, Nat.reduceBEq]
    simp
theorem takes_any (k : Base T) (hl : Low h) {kd : Int} {t : Txt} (hs : t.length ≤ 9223372036854775807) : Gives T 27 [.agg [.int .i64 kd, .str t]] h fun r h' => (∃ z, r = .int .i64 z ∧ (z < 0 ∨ (OkP (kd, t) ∧ z = arity (kd, t)))) ∧ Quiet h h' ∧ Low h' := by
  by_cases hok : OkP (kd, t)
  · refine (takes_gives k hl hok).mono ?_
    rintro r h' ⟨rfl, q, lo⟩
    exact ⟨⟨_, rfl, .inr ⟨hok, rfl⟩⟩, q, lo⟩
  have bx : boxV h (AV.agg [AV.int .i64 kd, AV.str t]) = some (.ptr h.next 0, h.new (.cells [AV.int .i64 kd, AV.str t] true)) := rfl
  have q1 : Quiet h (h.new (.cells [AV.int .i64 kd, AV.str t] true)) := (Quiet.refl _).new _
  have lo1 := hl.new (.cells [AV.int .i64 kd, AV.str t] true)
  have hg : (h.new (.cells [AV.int .i64 kd, AV.str t] true)).get h.next = some (.cells [AV.int .i64 kd, AV.str t] true) := get_new_same
  have l0 : loadV (h.new (.cells [AV.int .i64 kd, AV.str t] true)) false 1 (.ptr h.next 0) = some (.int .i64 kd) := load_at hg rfl
  have l1 : loadV (h.new (.cells [AV.int .i64 kd, AV.str t] true)) false 1 (.ptr h.next 1) = some (.str t) := load_at hg rfl
  refine gives_func (k.env 27 (by decide)) (k.at (n := 27) rfl) rfl ?_
  have fin : ∀ {x : AV}, x = .int .i64 (-1) → (∃ z, x = .int .i64 z ∧ (z < 0 ∨ (OkP (kd, t) ∧ z = arity (kd, t)))) := fun e => ⟨-1, e, .inl (by decide)⟩
  by_cases h1 : kd = 1
  · subst h1
    have e1 : ((1 : Int) == 1) = true := rfl
    have e4 : ((1 : Int) == 4) = false := rfl
    have e2 : ((1 : Int) == 2) = false := rfl
    have e3 : ((1 : Int) == 3) = false := rfl
    simp only [a27, c27, vms, vmc, AOpd.val, Nat.reduceEqDiff, reduceCtorEq, Nat.reduceAdd, Nat.reduceBEq, bx, fa, l0, l1, e1]
    refine Gives.bind ((isTerm_any k hs).mono ?_)
    rintro _ _ ⟨rfl, b, rfl, hb⟩
    cases b
    · simp only [vms, vmc, AOpd.val, Nat.reduceEqDiff, reduceCtorEq, Nat.reduceAdd, Nat.reduceBEq, fa, l0, l1, e4, e2, e3]
      exact ⟨fin rfl, q1, lo1⟩
    · exact absurd (.inl ⟨rfl, hb rfl⟩) hok
  have e1 : (kd == 1) = false := by simpa using h1
  by_cases h4 : kd = 4
  · subst h4
    have e4 : ((4 : Int) == 4) = true := rfl
    have e2 : ((4 : Int) == 2) = false := rfl
    have e3 : ((4 : Int) == 3) = false := rfl
    cases e0 : (t == ([] : Txt))
    · simp only [a27, c27, vms, vmc, AOpd.val, Nat.reduceEqDiff, reduceCtorEq, Nat.reduceAdd, Nat.reduceBEq, bx, fa, l0, l1, e1, e4, e0, e2, e3]
      exact ⟨fin rfl, q1, lo1⟩
    · exact absurd (.inr ⟨.inl rfl, by simpa using e0⟩) hok
  have e4 : (kd == 4) = false := by simpa using h4
  by_cases h2 : kd = 2
  · subst h2
    have e2 : ((2 : Int) == 2) = true := rfl
    cases e0 : (t == ([] : Txt))
    · simp only [a27, c27, vms, vmc, AOpd.val, Nat.reduceEqDiff, reduceCtorEq, Nat.reduceAdd, Nat.reduceBEq, bx, fa, l0, l1, e1, e4, e2, e0]
      exact ⟨fin rfl, q1, lo1⟩
    · exact absurd (.inr ⟨.inr (.inl rfl), by simpa using e0⟩) hok
  have e2 : (kd == 2) = false := by simpa using h2
  by_cases h3 : kd = 3
  · subst h3
    have e3 : ((3 : Int) == 3) = true := rfl
    cases e0 : (t == ([] : Txt))
    · simp only [a27, c27, vms, vmc, AOpd.val, Nat.reduceEqDiff, reduceCtorEq, Nat.reduceAdd, Nat.reduceBEq, bx, fa, l0, l1, e1, e4, e2, e3, e0]
      exact ⟨fin rfl, q1, lo1⟩
    · exact absurd (.inr ⟨.inr (.inr rfl), by simpa using e0⟩) hok
  have e3 : (kd == 3) = false := by simpa using h3
  simp only [a27, c27, vms, vmc, AOpd.val, Nat.reduceEqDiff, reduceCtorEq, Nat.reduceAdd, Nat.reduceBEq, bx, fa, l0, l1, e1, e4, e2, e3]
  exact ⟨fin rfl, q1, lo1⟩
/-- What a stack of queries says, in text order. -/
def flat (S : List Ex) : List Part := (S.reverse.map post).flatten
theorem flat_cons (e : Ex) (S : List Ex) : flat (e :: S) = flat S ++ post e := by simp [flat]
theorem step_any {S : List Ex} {p : Part} (hp : OkP p) (ha : arity p ≤ S.length) (hS : ∀ e ∈ S, OkE e) : ∃ S', flat S' = flat S ++ [p] ∧ (S'.length : Int) = S.length + (1 - arity p) ∧ ∀ e ∈ S', OkE e := by
  obtain ⟨kd, t⟩ := p
  rcases hp with ⟨h1, hg⟩ | ⟨h1, h2⟩
  · have h1' : kd = 1 := h1
    subst h1'
    refine ⟨.w t :: S, by rw [flat_cons]; rfl, by simp [arity], fun e he => ?_⟩
    rcases List.mem_cons.1 he with rfl | he
    · exact hg
    · exact hS e he
  · have h2' : t = [] := h2
    subst h2'
    rcases h1 with h1 | h1 | h1
    · have h1' : kd = 4 := h1
      subst h1'
      match S, ha, hS with
      | [], ha, _ => simp [arity] at ha
      | a :: S, _, hS =>
        refine ⟨.n a :: S, by rw [flat_cons, flat_cons]; simp [post], by simp [arity], fun e he => ?_⟩
        rcases List.mem_cons.1 he with rfl | he
        · exact hS a (by simp)
        · exact hS e (by simp [he])
    · have h1' : kd = 2 := h1
      subst h1'
      match S, ha, hS with
      | [], ha, _ => simp [arity] at ha
      | [a], ha, _ => simp [arity] at ha
      | b :: a :: S, _, hS =>
        refine ⟨.a a b :: S, by rw [flat_cons, flat_cons, flat_cons]; simp [post], by simp [arity]; omega, fun e he => ?_⟩
        rcases List.mem_cons.1 he with rfl | he
        · exact ⟨hS a (by simp), hS b (by simp)⟩
        · exact hS e (by simp [he])
    · have h1' : kd = 3 := h1
      subst h1'
      match S, ha, hS with
      | [], ha, _ => simp [arity] at ha
      | [a], ha, _ => simp [arity] at ha
      | b :: a :: S, _, hS =>
        refine ⟨.o a b :: S, by rw [flat_cons, flat_cons, flat_cons]; simp [post], by simp [arity]; omega, fun e he => ?_⟩
        rcases List.mem_cons.1 he with rfl | he
        · exact ⟨hS a (by simp), hS b (by simp)⟩
        · exact hS e (by simp [he])
theorem arity_le (p : Part) : 0 ≤ arity p ∧ arity p ≤ 2 := by
  unfold arity
  split
  · decide
  · split <;> decide
/-- If it says yes it is a query. -/
theorem right_any (k : Base T) (hl : Low h) {v : AV} {q : List Part} (s : SeesS h 2 v (parts q)) (hs : q.length ≤ 9223372036854775807) (ht : ∀ p ∈ q, p.2.length ≤ 9223372036854775807) :
    Gives T 12 [v] h fun r h' => (∃ b, r = .bool b ∧ (b = true → ∃ e, OkE e ∧ q = post e ∧ q.length ≤ 64)) ∧ Quiet h h' ∧ Low h' := by
  refine gives_func (k.env 12 (by decide)) (k.at (n := 12) rfl) rfl ?_
  have ln : lenOfV v = some q.length := by have := SeesS.len s; simpa [parts] using this
  simp only [a12, c12, vms, vmc, AOpd.val, Nat.reduceEqDiff, reduceCtorEq, Nat.reduceAdd, Nat.reduceBEq, ln]
  refine wpc_loop (fun m f h' => ∃ (i : Nat) (S : List Ex), m = q.length - i ∧ i ≤ q.length ∧ flat S = q.take i ∧ (∀ e ∈ S, OkE e) ∧ S.length ≤ i ∧ Quiet h h' ∧ Low h' ∧ f.at 0 = v ∧ f.at 3 = .int .i64 (S.length : Int) ∧ f.at 7 = v ∧ f.at 8 = .int .i64 (q.length : Int) ∧ f.at 9 = .int .i64 (i : Int)) ?_ q.length _ _ ⟨0, [], rfl, Nat.zero_le _, rfl, by simp, by simp, Quiet.refl h, hl, ?_⟩
  · rintro m f h' ⟨i, S, rfl, hi, hS, hok, hSl, qt, lo, f0, f3, f7, f8, f9⟩
    by_cases hlt : i < q.length
    · have d1 : decide ((i : Int) < (q.length : Int)) = true := by rw [decide_eq_true_eq]; omega
      obtain ⟨p, hp⟩ : ∃ p, q[i]? = some p := ⟨_, List.getElem?_eq_getElem hlt⟩
      have s' : SeesS h' 2 v (parts q) := SeesS.keep s fun o ho => qt.2 o (SeesS.low s hl o ho) id
      obtain ⟨ad, ha1, ha2⟩ := part_sees s' hp
      have q1 : Quiet h' (h'.new (.cells [AV.int .i64 0, AV.str []] true)) := (Quiet.refl _).new _
      have hg : (h'.new (.cells [AV.int .i64 0, AV.str []] true)).get h'.next = some (.cells [AV.int .i64 0, AV.str []] true) := get_new_same
      have st : storeV (h'.new (.cells [AV.int .i64 0, AV.str []] true)) 2 (.ptr h'.next 0) (.agg [.int .i64 p.1, .str p.2]) = some ((h'.new (.cells [AV.int .i64 0, AV.str []] true)).set h'.next (.cells [.int .i64 p.1, .str p.2] true)) := store_all hg rfl rfl rfl
      have q2 : Quiet h' ((h'.new (.cells [AV.int .i64 0, AV.str []] true)).set h'.next (.cells [.int .i64 p.1, .str p.2] true)) := q1.set (Nat.le_refl _) _
      have lo2 : Low ((h'.new (.cells [AV.int .i64 0, AV.str []] true)).set h'.next (.cells [.int .i64 p.1, .str p.2] true)) := (lo.new _).set (by rw [next_new]; omega) _
      have ld : loadV ((h'.new (.cells [AV.int .i64 0, AV.str []] true)).set h'.next (.cells [.int .i64 p.1, .str p.2] true)) true 2 (.ptr h'.next 0) = some (.agg [.int .i64 p.1, .str p.2]) := load_all get_set_same rfl
      have w2 : IntKind.i64.wrap ((i : Int) + 1) = ((i + 1 : Nat) : Int) := by rw [wrap_i64 (by omega) (by omega)]; omega
      have tk := takes_any k lo2 (kd := p.1) (t := p.2) (ht p (List.mem_of_getElem? hp))
      simp only [c12l0, vms, vmc, AOpd.val, Nat.reduceEqDiff, reduceCtorEq, Nat.reduceAdd, Nat.reduceBEq, f0, f3, f7, f8, f9, d1, ha1, ha2, st, ld]
      refine Gives.bind (tk.mono ?_)
      rintro _ h3 ⟨⟨z, rfl, hz⟩, q3, lo3⟩
      have qq := (qt.trans q2).trans q3
      by_cases hneg : z < 0
      · have d2 : decide (z < 0) = true := by simpa using hneg
        simp only [vms, vmc, AOpd.val, Nat.reduceEqDiff, reduceCtorEq, Nat.reduceAdd, Nat.reduceBEq, d2]
        exact ⟨⟨false, rfl, fun hf => by cases hf⟩, qq, lo3⟩
      obtain ⟨hokp, rfl⟩ : OkP (p.1, p.2) ∧ z = arity (p.1, p.2) := hz.resolve_left hneg
      obtain ⟨a0, a1⟩ := arity_le p
      have d2 : decide (arity (p.1, p.2) < 0) = false := by simpa using hneg
      by_cases hlow : (S.length : Int) < arity p
      · have d3 : decide ((S.length : Int) < arity (p.1, p.2)) = true := by rw [decide_eq_true_eq]; exact hlow
        simp only [vms, vmc, AOpd.val, Nat.reduceEqDiff, reduceCtorEq, Nat.reduceAdd, Nat.reduceBEq, f3, d2, d3]
        exact ⟨⟨false, rfl, fun hf => by cases hf⟩, qq, lo3⟩
      · have d3 : decide ((S.length : Int) < arity (p.1, p.2)) = false := by rw [decide_eq_false_iff_not]; exact hlow
        obtain ⟨S', hS', hlen, hok'⟩ := step_any hokp (show arity (p.1, p.2) ≤ S.length by have : arity (p.1, p.2) = arity p := rfl; omega) hok
        have w3 : IntKind.i64.wrap (1 - arity (p.1, p.2)) = 1 - arity (p.1, p.2) := wrap_i64 (by have : arity (p.1, p.2) = arity p := rfl; omega) (by have : arity (p.1, p.2) = arity p := rfl; omega)
        have w4 : IntKind.i64.wrap ((S.length : Int) + (1 - arity (p.1, p.2))) = (S'.length : Int) := by rw [← hlen, wrap_i64 (by omega) (by rw [hlen]; have : arity (p.1, p.2) = arity p := rfl; omega)]
        simp only [vms, vmc, AOpd.val, Nat.reduceEqDiff, reduceCtorEq, Nat.reduceAdd, Nat.reduceBEq, f0, f3, f7, f8, f9, d2, d3, w3, w4, w2]
        refine ⟨q.length - (i + 1), by omega, i + 1, S', rfl, by omega, ?_, hok', ?_, qq, lo3, by trivial, by trivial, by trivial, by trivial, by trivial⟩
        · rw [hS', hS, List.take_add_one, hp]; rfl
        · have : arity (p.1, p.2) = arity p := rfl
          omega
    · have d1 : decide ((i : Int) < (q.length : Int)) = false := by rw [decide_eq_false_iff_not]; omega
      rw [List.take_of_length_le (by omega)] at hS
      by_cases h1 : S.length = 1
      · have e1 : ((S.length : Int) == 1) = true := by rw [h1]; rfl
        by_cases h64 : q.length ≤ 64
        · have d2 : decide ((q.length : Int) ≤ 64) = true := by rw [decide_eq_true_eq]; omega
          simp only [c12l0, vms, vmc, AOpd.val, Nat.reduceEqDiff, reduceCtorEq, Nat.reduceAdd, Nat.reduceBEq, f0, f3, f7, f8, f9, d1, e1, ln, d2]
          refine ⟨⟨true, rfl, fun _ => ?_⟩, qt, lo⟩
          match S, h1, hS, hok with
          | [e], _, hS, hok => exact ⟨e, hok e (by simp), by rw [← hS]; simp [flat], h64⟩
        · have d2 : decide ((q.length : Int) ≤ 64) = false := by rw [decide_eq_false_iff_not]; omega
          simp only [c12l0, vms, vmc, AOpd.val, Nat.reduceEqDiff, reduceCtorEq, Nat.reduceAdd, Nat.reduceBEq, f0, f3, f7, f8, f9, d1, e1, ln, d2]
          exact ⟨⟨false, rfl, fun hf => by cases hf⟩, qt, lo⟩
      · have e1 : ((S.length : Int) == 1) = false := by rw [beq_eq_false_iff_ne]; omega
        simp only [c12l0, vms, vmc, AOpd.val, Nat.reduceEqDiff, reduceCtorEq, Nat.reduceAdd, Nat.reduceBEq, f0, f3, f7, f8, f9, d1, e1]
        exact ⟨⟨false, rfl, fun hf => by cases hf⟩, qt, lo⟩
  · simp only [vms, vmc, AOpd.val, Nat.reduceEqDiff, reduceCtorEq, Nat.reduceAdd, Nat.reduceBEq]
    simp
/-! ### terms -/
theorem leaves_count : ∀ (e : Ex), (post e).countP (fun p => p.1 == 1) = leaves e
  | .w t => by simp [post, leaves]
  | .n a => by simp [post, leaves, leaves_count a]
  | .a x y => by simp [post, leaves, leaves_count x, leaves_count y]
  | .o x y => by simp [post, leaves, leaves_count x, leaves_count y]
theorem fillS (t : Txt) : fillV [AV.str []] [(0, 1, .str t)] = some [.str t] := by simp [fillV, AV.isDef, AV.cells, setMany]
theorem terms_ok (k : Base T) (hl : Low h) {v : AV} {q : List Part} (s : SeesS h 2 v (parts q)) (hs : q.length < 1000000) :
    Gives T 17 [v] h fun r h' => lenOfV r = some (q.countP fun p => p.1 == 1) ∧ Quiet h h' ∧ Low h' := by
  refine gives_func (k.env 17 (by decide)) (k.at (n := 17) rfl) rfl ?_
  have ln : lenOfV v = some q.length := by have := SeesS.len s; simpa [parts] using this
  simp only [a17, c17, vms, vmc, AOpd.val, Nat.reduceEqDiff, reduceCtorEq, Nat.reduceAdd, Nat.reduceBEq, ln]
  refine wpc_loop (fun m f h' => ∃ (i : Nat) (rv : AV) (ts : List Txt), m = q.length - i ∧ i ≤ q.length ∧ ts.length = (q.take i).countP (fun p => p.1 == 1) ∧ Row1 h' rv (ts.map .str) ∧ (∀ o ∈ objs rv, h.next ≤ o) ∧ Quiet h h' ∧ Low h' ∧ f.at 3 = rv ∧ f.at 6 = v ∧ f.at 7 = .int .i64 (q.length : Int) ∧ f.at 8 = .int .i64 (i : Int)) ?_ q.length _ _ ⟨0, .nilSlice, [], rfl, Nat.zero_le _, rfl, .inl ⟨rfl, rfl⟩, fun o ho => by simp [objs] at ho, Quiet.refl h, hl, ?_⟩
  · rintro m f h' ⟨i, rv, ts, rfl, hi, hts, row, hob, qt, lo, f3, f6, f7, f8⟩
    by_cases hlt : i < q.length
    · have d1 : decide ((i : Int) < (q.length : Int)) = true := by rw [decide_eq_true_eq]; omega
      obtain ⟨p, hp⟩ : ∃ p, q[i]? = some p := ⟨_, List.getElem?_eq_getElem hlt⟩
      have s' : SeesS h' 2 v (parts q) := SeesS.keep s fun o ho => qt.2 o (SeesS.low s hl o ho) id
      obtain ⟨ad, ha1, ha2⟩ := part_sees s' hp
      have q1 : Quiet h' (h'.new (.cells [AV.int .i64 0, AV.str []] true)) := (Quiet.refl _).new _
      have hg : (h'.new (.cells [AV.int .i64 0, AV.str []] true)).get h'.next = some (.cells [AV.int .i64 0, AV.str []] true) := get_new_same
      have st : storeV (h'.new (.cells [AV.int .i64 0, AV.str []] true)) 2 (.ptr h'.next 0) (.agg [.int .i64 p.1, .str p.2]) = some ((h'.new (.cells [AV.int .i64 0, AV.str []] true)).set h'.next (.cells [.int .i64 p.1, .str p.2] true)) := store_all hg rfl rfl rfl
      have q2 : Quiet h' ((h'.new (.cells [AV.int .i64 0, AV.str []] true)).set h'.next (.cells [.int .i64 p.1, .str p.2] true)) := q1.set (Nat.le_refl _) _
      have lo2 : Low ((h'.new (.cells [AV.int .i64 0, AV.str []] true)).set h'.next (.cells [.int .i64 p.1, .str p.2] true)) := (lo.new _).set (by rw [next_new]; omega) _
      have l0 : loadV ((h'.new (.cells [AV.int .i64 0, AV.str []] true)).set h'.next (.cells [.int .i64 p.1, .str p.2] true)) false 1 (.ptr h'.next 0) = some (.int .i64 p.1) := load_at get_set_same rfl
      have l1 : loadV ((h'.new (.cells [AV.int .i64 0, AV.str []] true)).set h'.next (.cells [.int .i64 p.1, .str p.2] true)) false 1 (.ptr h'.next 1) = some (.str p.2) := load_at get_set_same rfl
      have w2 : IntKind.i64.wrap ((i : Int) + 1) = ((i + 1 : Nat) : Int) := by rw [wrap_i64 (by omega) (by omega)]; omega
      have row2 := row_quiet row lo q2
      have hcnt : (q.take (i + 1)).countP (fun p => p.1 == 1) = (q.take i).countP (fun p => p.1 == 1) + if (p.1 == 1) = true then 1 else 0 := by
        rw [List.take_add_one, hp, List.countP_append]; simp [List.countP_cons]
      have hle : ts.length ≤ i := by
        rw [hts]
        refine Nat.le_trans List.countP_le_length ?_
        rw [List.length_take]; omega
      simp only [c17l0, vms, vmc, AOpd.val, Nat.reduceEqDiff, reduceCtorEq, Nat.reduceAdd, Nat.reduceBEq, f6, f7, f8, d1, ha1, ha2, st, fa, l0]
      cases h1 : (p.1 == 1)
      · rw [h1, if_neg (by decide)] at hcnt
        simp only [vms, vmc, AOpd.val, Nat.reduceEqDiff, reduceCtorEq, Nat.reduceAdd, Nat.reduceBEq, f8, w2]
        refine ⟨q.length - (i + 1), by omega, i + 1, rv, ts, rfl, by omega, by omega, row2, hob, qt.trans q2, lo2, ?_⟩
        simp only [vms, vmc, AOpd.val, Nat.reduceEqDiff, reduceCtorEq, Nat.reduceAdd, Nat.reduceBEq, f3, f6, f7]
        exact ⟨trivial, trivial, trivial, by first | trivial | rfl⟩
      · rw [h1, if_pos rfl] at hcnt
        obtain ⟨r', h3, ha, r3, o3, m3, lo3⟩ := row_app (bytes := 16) (x := .str p.2) lo2 row2 (by decide) (by decide) (by simp; omega) rfl
        have q3 : Quiet h h3 := ⟨by have := m3.1; have := q2.1; have := qt.1; omega, fun o ho hf => by
          rw [m3.2 o (by have := q2.1; have := qt.1; omega) fun e => by have := hob o e; omega]
          exact (qt.trans q2).2 o ho hf⟩
        simp only [vms, vmc, AOpd.val, Nat.reduceEqDiff, reduceCtorEq, Nat.reduceAdd, Nat.reduceBEq, f3, f8, fa, l1, fillS, ha, w2]
        refine ⟨q.length - (i + 1), by omega, i + 1, r', ts ++ [p.2], rfl, by omega, by simp; omega, by simpa using r3, fun o ho => ?_, q3, lo3, ?_⟩
        · rcases o3 o ho with h5 | h5
          · exact hob o h5
          · have := q2.1; have := qt.1; omega
        · simp only [vms, vmc, AOpd.val, Nat.reduceEqDiff, reduceCtorEq, Nat.reduceAdd, Nat.reduceBEq, f6, f7]
          exact ⟨trivial, trivial, trivial, by first | trivial | rfl⟩
    · have d1 : decide ((i : Int) < (q.length : Int)) = false := by rw [decide_eq_false_iff_not]; omega
      rw [List.take_of_length_le (by omega)] at hts
      simp only [c17l0, vms, vmc, AOpd.val, Nat.reduceEqDiff, reduceCtorEq, Nat.reduceAdd, Nat.reduceBEq, f3, f7, f8, d1]
      refine ⟨?_, qt, lo⟩
      rw [row.sees.len, List.length_map, hts]
  · simp only [vms, vmc, AOpd.val, Nat.reduceEqDiff, reduceCtorEq, Nat.reduceAdd, Nat.reduceBEq]
    simp
end Go.Proofs.Ytjbkjffolnodjaa

/- The law NodeStays. -/
import Derived.Test.YtpabmkicdcilpaaP7M
import Derived.Test.YtpabmkicdcilpaaP7O
namespace Go.Proofs.Ytpabmkicdcilpaa
open Go.Vm
set_option linter.unusedSimpArgs false
set_option linter.unusedVariables false
set_option maxRecDepth 100000
variable {T : Vm.Prog} {h : AH}
/-- A row that may be written, among the objects from N on, below M. -/
def Own (g : AH) (N M : Nat) (v : AV) (len : Nat) : Prop := (v = .nilSlice ∧ len = 0) ∨ ∃ o cap ex l, v = .slice o 0 1 len cap ex ∧ g.get o = some (.cells l true) ∧ len ≤ l.length ∧ N ≤ o ∧ o < M
theorem Own.len {g : AH} {N M : Nat} {v : AV} {len : Nat} (w : Own g N M v len) : lenOfV v = some len := by
  rcases w with ⟨rfl, rfl⟩ | ⟨o, cap, ex, l, rfl, _⟩ <;> rfl
/-- New objects, and writes to those from N on, below M. -/
structure Wr (g g' : AH) (N M : Nat) : Prop where
  next : g.next ≤ g'.next
  other : ∀ o, o < g.next → (o < N ∨ M ≤ o) → g'.get o = g.get o
  rows : ∀ o l, o < g.next → g.get o = some (.cells l true) → ∃ l', g'.get o = some (.cells l' true) ∧ l'.length = l.length
  low : Low g'
theorem Wr.refl {g : AH} {N M : Nat} (hl : Low g) : Wr g g N M := ⟨Nat.le_refl _, fun _ _ _ => rfl, fun o l _ h => ⟨l, h, rfl⟩, hl⟩
theorem Wr.trans {a b c : AH} {N M : Nat} (u : Wr a b N M) (w : Wr b c N M) : Wr a c N M :=
  ⟨Nat.le_trans u.next w.next, fun o ho hd => (w.other o (Nat.lt_of_lt_of_le ho u.next) hd).trans (u.other o ho hd), fun o l ho hg => by
    obtain ⟨l1, h1, e1⟩ := u.rows o l ho hg
    obtain ⟨l2, h2, e2⟩ := w.rows o l1 (Nat.lt_of_lt_of_le ho u.next) h1
    exact ⟨l2, h2, e2.trans e1⟩, w.low⟩
theorem Wr.quiet {g g' : AH} {N M : Nat} (hl : Low g') (q : Quiet g g') : Wr g g' N M := ⟨q.1, fun o ho _ => q.2 o ho id, fun o l ho hg => ⟨l, (q.2 o ho id).trans hg, rfl⟩, hl⟩
theorem Own.wr {g g' : AH} {N M : Nat} {v : AV} {len : Nat} (w : Own g N M v len) (hl : Low g) (u : Wr g g' N M) : Own g' N M v len := by
  rcases w with ⟨rfl, rfl⟩ | ⟨o, cap, ex, l, rfl, hg, h1, h2⟩
  · exact .inl ⟨rfl, rfl⟩
  · obtain ⟨l', hg', e⟩ := u.rows o l (hl _ _ hg) hg
    exact .inr ⟨o, cap, ex, l', rfl, hg', by omega, h2⟩
theorem Own.write {g : AH} {N M : Nat} {v : AV} {len i : Nat} (w : Own g N M v len) (hl : Low g) (hi : i < len) {y : AV} (hc : y.cells = [y]) (hf : y.flat = true) : ∃ p g', idxAddrV 1 v (.int .i64 (i : Int)) = some p ∧ storeV g 1 p y = some g' ∧ Wr g g' N M := by
  rcases w with ⟨rfl, rfl⟩ | ⟨o, cap, ex, l, rfl, hg, h1, h2, h3⟩
  · omega
  · have hx := idx_nat (o := o) (off := 0) (cap := cap) (ex := ex) (k := .i64) hi
    rw [Nat.zero_add] at hx
    refine ⟨_, _, hx, store_at hg (by omega) hc hf, ⟨Nat.le_refl _, fun p hp hd => by rw [AH.get_set, if_neg (by omega)], fun p l' hp hg' => ?_, hl.set (hl _ _ hg) _⟩⟩
    rw [AH.get_set]
    by_cases e : o = p
    · subst e
      rw [hg] at hg'; cases hg'
      exact ⟨_, by rw [if_pos rfl], by simp⟩
    · exact ⟨l', by rw [if_neg e]; exact hg', rfl⟩
theorem own_row {g : AH} {N : Nat} {v : AV} {xs : List AV} (r : Row1 g v xs) (hl : Low g) (hN : ∀ o ∈ objs v, N ≤ o) : Own g N g.next v xs.length := by
  rcases r with ⟨rfl, e⟩ | ⟨o, cap, ex, l, rfl, hg, h1, h2, h3⟩
  · simp at e; subst e; exact .inl ⟨rfl, rfl⟩
  · simp only [List.length_map] at h2 ⊢
    exact .inr ⟨o, cap, ex, l, rfl, hg, by omega, hN o (by simp [objs]), hl _ _ hg⟩
theorem Own.mono {g : AH} {N M N' M' : Nat} {v : AV} {len : Nat} (w : Own g N M v len) (hN : N' ≤ N) (hM : M ≤ M') : Own g N' M' v len := by
  rcases w with ⟨rfl, rfl⟩ | ⟨o, cap, ex, l, rfl, hg, h1, h2, h3⟩
  · exact .inl ⟨rfl, rfl⟩
  · exact .inr ⟨o, cap, ex, l, rfl, hg, h1, by omega, by omega⟩
theorem Own.quiet {g g' : AH} {N M : Nat} {v : AV} {len : Nat} (w : Own g N M v len) (hl : Low g) (lo : Low g') (q : Quiet g g') : Own g' N M v len := w.wr hl (Wr.quiet lo q)
/-- Bytes, then children, are written over. -/
theorem stay_keys {q N M len : Nat} {a b c kv iv : AV} (hl : Low h) (hq : M ≤ q) (hg : h.get q = some (.cells [a, b, c, kv, iv] true)) (w : Own h N M kv len) (hlen : len < 1000000) {f : Fr} (f18 : f.at 18 = .ptr q 0) (f65 : f.at 65 = .int .i64 (len : Int)) (f66 : f.at 66 = .int .i64 0) {Q : AExit → Fr → AH → Prop}
    (hQ : ∀ f' g, Wr h g N M → f'.at 18 = .ptr q 0 → f'.at 57 = f.at 57 → f'.at 58 = f.at 58 → f'.at 59 = f.at 59 → (∀ t, t < 17 → f'.at t = f.at t) → Q (.exit 2) f' g) : Wp (code T (.loop c6l0) f h) Q := by
  have fa : ∀ o j, fieldAddrV j (.ptr o 0) = some (.ptr o (0 + j)) := fun o j => rfl
  have hql := hl _ _ hg
  refine wpc_loop (fun d f' g => ∃ i, d = len - i ∧ i ≤ len ∧ Wr h g N M ∧ f'.at 18 = .ptr q 0 ∧ f'.at 57 = f.at 57 ∧ f'.at 58 = f.at 58 ∧ f'.at 59 = f.at 59 ∧ (∀ t, t < 17 → f'.at t = f.at t) ∧ f'.at 65 = .int .i64 (len : Int) ∧ f'.at 66 = .int .i64 (i : Nat)) ?_ len _ _ ⟨0, rfl, Nat.zero_le _, Wr.refl hl, f18, rfl, rfl, rfl, fun _ _ => rfl, f65, f66⟩
  rintro d f' g ⟨i, rfl, hi, u, g18, g57, g58, g59, gt, g65, g66⟩
  by_cases h1 : i < len
  · have d1 : decide ((i : Int) < (len : Int)) = true := by rw [decide_eq_true_eq]; omega
    have w1 : IntKind.i64.wrap ((i : Int) + 1) = ((i + 1 : Nat) : Int) := by rw [wrap_i64 (by omega) (by omega)]; omega
    have hgq : g.get q = some (.cells [a, b, c, kv, iv] true) := (u.other q hql (.inr hq)).trans hg
    obtain ⟨p, g', hp, hs, u'⟩ := (w.wr hl u).write u.low h1 (y := .int .u8 0) rfl rfl
    simp only [c6l0, vms, vmc, AOpd.val, Nat.reduceEqDiff, reduceCtorEq, Nat.reduceAdd, Nat.reduceBEq, g18, g65, g66, d1, fa, Nat.zero_add, load_at hgq (i := 3) rfl, hp, hs, w1]
    refine ⟨len - (i + 1), by omega, i + 1, rfl, by omega, u.trans u', ?_⟩
    simp only [vms, vmc, AOpd.val, Nat.reduceEqDiff, reduceCtorEq, Nat.reduceAdd, Nat.reduceBEq, g18, g57, g58, g59, g65]
    refine ⟨trivial, trivial, trivial, trivial, fun t ht => ?_, trivial, trivial⟩
    simp only [vms, vmc, AOpd.val, Nat.reduceEqDiff, reduceCtorEq, Nat.reduceAdd, Nat.reduceBEq, show ¬ 66 = t by omega, show ¬ 67 = t by omega, show ¬ 68 = t by omega, show ¬ 69 = t by omega, show ¬ 70 = t by omega, show ¬ 71 = t by omega, show ¬ 72 = t by omega, show ¬ 73 = t by omega, show ¬ 19 = t by omega, gt t ht]
  · have d1 : decide ((i : Int) < (len : Int)) = false := by rw [decide_eq_false_iff_not]; omega
    simp only [c6l0, vms, vmc, AOpd.val, Nat.reduceEqDiff, reduceCtorEq, Nat.reduceAdd, Nat.reduceBEq, g65, g66, d1]
    refine hQ _ g u ?_ ?_ ?_ ?_ fun t ht => ?_
    all_goals simp only [vms, vmc, AOpd.val, Nat.reduceEqDiff, reduceCtorEq, Nat.reduceAdd, Nat.reduceBEq, g18, g57, g58, g59]
    simp only [show ¬ 67 = t by omega, vms, vmc, AOpd.val, Nat.reduceEqDiff, reduceCtorEq, Nat.reduceAdd, Nat.reduceBEq, gt t ht]
theorem stay_kids {q N M len : Nat} {a b c kv iv : AV} (hl : Low h) (hq : M ≤ q) (hg : h.get q = some (.cells [a, b, c, kv, iv] true)) (w : Own h N M iv len) (hlen : len < 1000000) {f : Fr} (f18 : f.at 18 = .ptr q 0) (f65 : f.at 76 = .int .i64 (len : Int)) (f66 : f.at 77 = .int .i64 0) {Q : AExit → Fr → AH → Prop}
    (hQ : ∀ f' g, Wr h g N M → f'.at 57 = f.at 57 → f'.at 58 = f.at 58 → f'.at 59 = f.at 59 → (∀ t, t < 17 → f'.at t = f.at t) → Q (.exit 4) f' g) : Wp (code T (.loop c6l1) f h) Q := by
  have fa : ∀ o j, fieldAddrV j (.ptr o 0) = some (.ptr o (0 + j)) := fun o j => rfl
  have hql := hl _ _ hg
  refine wpc_loop (fun d f' g => ∃ i, d = len - i ∧ i ≤ len ∧ Wr h g N M ∧ f'.at 18 = .ptr q 0 ∧ f'.at 57 = f.at 57 ∧ f'.at 58 = f.at 58 ∧ f'.at 59 = f.at 59 ∧ (∀ t, t < 17 → f'.at t = f.at t) ∧ f'.at 76 = .int .i64 (len : Int) ∧ f'.at 77 = .int .i64 (i : Nat)) ?_ len _ _ ⟨0, rfl, Nat.zero_le _, Wr.refl hl, f18, rfl, rfl, rfl, fun _ _ => rfl, f65, f66⟩
  rintro d f' g ⟨i, rfl, hi, u, g18, g57, g58, g59, gt, g65, g66⟩
  by_cases h1 : i < len
  · have d1 : decide ((i : Int) < (len : Int)) = true := by rw [decide_eq_true_eq]; omega
    have w1 : IntKind.i64.wrap ((i : Int) + 1) = ((i + 1 : Nat) : Int) := by rw [wrap_i64 (by omega) (by omega)]; omega
    have hgq : g.get q = some (.cells [a, b, c, kv, iv] true) := (u.other q hql (.inr hq)).trans hg
    obtain ⟨p, g', hp, hs, u'⟩ := (w.wr hl u).write u.low h1 (y := .int .i64 (-1)) rfl rfl
    simp only [c6l1, vms, vmc, AOpd.val, Nat.reduceEqDiff, reduceCtorEq, Nat.reduceAdd, Nat.reduceBEq, g18, g65, g66, d1, fa, Nat.zero_add, load_at hgq (i := 4) rfl, hp, hs, w1]
    refine ⟨len - (i + 1), by omega, i + 1, rfl, by omega, u.trans u', ?_⟩
    simp only [vms, vmc, AOpd.val, Nat.reduceEqDiff, reduceCtorEq, Nat.reduceAdd, Nat.reduceBEq, g18, g57, g58, g59, g65]
    refine ⟨trivial, trivial, trivial, trivial, fun t ht => ?_, trivial, trivial⟩
    simp only [vms, vmc, AOpd.val, Nat.reduceEqDiff, reduceCtorEq, Nat.reduceAdd, Nat.reduceBEq, show ¬ 77 = t by omega, show ¬ 78 = t by omega, show ¬ 79 = t by omega, show ¬ 80 = t by omega, show ¬ 81 = t by omega, show ¬ 82 = t by omega, show ¬ 83 = t by omega, show ¬ 84 = t by omega, show ¬ 20 = t by omega, gt t ht]
  · have d1 : decide ((i : Int) < (len : Int)) = false := by rw [decide_eq_false_iff_not]; omega
    simp only [c6l1, vms, vmc, AOpd.val, Nat.reduceEqDiff, reduceCtorEq, Nat.reduceAdd, Nat.reduceBEq, g65, g66, d1]
    refine hQ _ g u ?_ ?_ ?_ fun t ht => ?_
    all_goals simp only [vms, vmc, AOpd.val, Nat.reduceEqDiff, reduceCtorEq, Nat.reduceAdd, Nat.reduceBEq, g57, g58, g59]
    simp only [show ¬ 78 = t by omega, vms, vmc, AOpd.val, Nat.reduceEqDiff, reduceCtorEq, Nat.reduceAdd, Nat.reduceBEq, gt t ht]
/-- A node's cells that were made, its rows one's own. -/
structure Mine (g : AH) (N M : Nat) (x : List AV) : Prop where
  ex : ∃ a b c kv iv lk li, x = [a, b, c, kv, iv] ∧ x.all AV.flat = true ∧ Own g N M kv lk ∧ Own g N M iv li ∧ lk < 1000000 ∧ li < 1000000
theorem Mine.wr {g g' : AH} {N M : Nat} {x : List AV} (m : Mine g N M x) (hl : Low g) (u : Wr g g' N M) : Mine g' N M x := by
  obtain ⟨a, b, c, kv, iv, lk, li, e, hf, o1, o2, h1⟩ := m.ex
  exact ⟨a, b, c, kv, iv, lk, li, e, hf, o1.wr hl u, o2.wr hl u, h1⟩
theorem stay_round (hl : Low h) {s i N M : Nat} {X : List AV} {x : List AV} (hs : h.get s = some (.cells X true)) (hsM : M ≤ s) (hX : (X.drop (i * 5)).take 5 = x) (hXl : i * 5 + 5 ≤ X.length) (hi : i < 3) (mx : Mine h N M x) {f : Fr} (f57 : f.at 57 = .slice s 0 5 3 3 true) (f58 : f.at 58 = .int .i64 3) (f59 : f.at 59 = .int .i64 (i : Int)) {Q : AExit → Fr → AH → Prop}
    (hQ : ∀ f' g, Wr h g N M → f'.at 57 = .slice s 0 5 3 3 true → f'.at 58 = .int .i64 3 → f'.at 59 = .int .i64 ((i + 1 : Nat) : Int) → (∀ t, t < 17 → f'.at t = f.at t) → Q .normal f' g) : Wp (code T c6l2 f h) Q := by
  have fa : ∀ o j, fieldAddrV j (.ptr o 0) = some (.ptr o (0 + j)) := fun o j => rfl
  obtain ⟨a, b, c, kv, iv, lk, li, e, hf, o1, o2, h1, h2⟩ := mx.ex
  subst e
  have hsl := hl _ _ hs
  have d1 : decide ((i : Int) < 3) = true := by rw [decide_eq_true_eq]; omega
  have hix : idxAddrV 5 (.slice s 0 5 3 3 true) (.int .i64 (i : Int)) = some (.ptr s (i * 5)) := by
    simp only [idxAddrV, true_and, Int.toNat_natCast, Nat.zero_add]
    rw [if_pos ⟨by omega, hi⟩]
  have hld : loadV h true 5 (.ptr s (i * 5)) = some (.agg [a, b, c, kv, iv]) := by
    simp only [loadV, if_true, AH.load, hs]
    rw [if_pos (by omega), hX]; rfl
  have st : storeV (h.new (.cells [.int .i64 0, .int .u64 0, .str [], .nilSlice, .nilSlice] true)) 5 (.ptr h.next 0) (.agg [a, b, c, kv, iv]) = some ((h.new (.cells [.int .i64 0, .int .u64 0, .str [], .nilSlice, .nilSlice] true)).set h.next (.cells [a, b, c, kv, iv] true)) := store_all get_new_same rfl rfl hf
  have q1 : Quiet h ((h.new (.cells [.int .i64 0, .int .u64 0, .str [], .nilSlice, .nilSlice] true)).set h.next (.cells [a, b, c, kv, iv] true)) := ((Quiet.refl _).new _).set (Nat.le_refl _) _
  have lo1 : Low ((h.new (.cells [.int .i64 0, .int .u64 0, .str [], .nilSlice, .nilSlice] true)).set h.next (.cells [a, b, c, kv, iv] true)) := (hl.new _).set (by rw [next_new]; omega) _
  have g1 : ((h.new (.cells [.int .i64 0, .int .u64 0, .str [], .nilSlice, .nilSlice] true)).set h.next (.cells [a, b, c, kv, iv] true)).get h.next = some (.cells [a, b, c, kv, iv] true) := get_set_same
  have w1 : IntKind.i64.wrap ((i : Int) + 1) = ((i + 1 : Nat) : Int) := by rw [wrap_i64 (by omega) (by omega)]; omega
  simp only [c6l2, vms, vmc, AOpd.val, Nat.reduceEqDiff, reduceCtorEq, Nat.reduceAdd, Nat.reduceBEq, f57, f58, f59, d1, hix, hld, st]
  generalize ((h.new (.cells [.int .i64 0, .int .u64 0, .str [], .nilSlice, .nilSlice] true)).set h.next (.cells [a, b, c, kv, iv] true)) = h1' at *
  have o1' := o1.quiet hl lo1 q1
  have o2' := o2.quiet hl lo1 q1
  have u1 : Wr h h1' N M := Wr.quiet lo1 q1
  simp only [vms, vmc, AOpd.val, Nat.reduceEqDiff, reduceCtorEq, Nat.reduceAdd, Nat.reduceBEq, fa, Nat.zero_add, load_at g1 (i := 3) rfl, o1.len]
  refine stay_keys lo1 (Nat.le_trans hsM (Nat.le_of_lt hsl)) g1 o1' h1 ?_ ?_ ?_ ?_
  · simp only [vms, vmc, AOpd.val, Nat.reduceEqDiff, reduceCtorEq, Nat.reduceAdd, Nat.reduceBEq]
  · simp only [vms, vmc, AOpd.val, Nat.reduceEqDiff, reduceCtorEq, Nat.reduceAdd, Nat.reduceBEq]
  · simp only [vms, vmc, AOpd.val, Nat.reduceEqDiff, reduceCtorEq, Nat.reduceAdd, Nat.reduceBEq]
  intro f2 g2 u2 a18 a57 a58 a59 at17
  have hgq : g2.get h.next = some (.cells [a, b, c, kv, iv] true) := (u2.other h.next (lo1 _ _ g1) (.inr (Nat.le_trans hsM (Nat.le_of_lt hsl)))).trans g1
  simp only [vms, vmc, AOpd.val, Nat.reduceEqDiff, reduceCtorEq, Nat.reduceAdd, Nat.reduceBEq, f57, f58, f59] at a57 a58 a59
  simp only [vms, vmc, AOpd.val, Nat.reduceEqDiff, reduceCtorEq, Nat.reduceAdd, Nat.reduceBEq, a18, fa, Nat.zero_add, load_at hgq (i := 4) rfl, o2.len]
  refine stay_kids u2.low (Nat.le_trans hsM (Nat.le_of_lt hsl)) hgq (o2'.wr lo1 u2) h2 ?_ ?_ ?_ ?_
  · simp only [vms, vmc, AOpd.val, Nat.reduceEqDiff, reduceCtorEq, Nat.reduceAdd, Nat.reduceBEq, a18]
  · simp only [vms, vmc, AOpd.val, Nat.reduceEqDiff, reduceCtorEq, Nat.reduceAdd, Nat.reduceBEq]
  · simp only [vms, vmc, AOpd.val, Nat.reduceEqDiff, reduceCtorEq, Nat.reduceAdd, Nat.reduceBEq]
  intro f3 g3 u3 b57 b58 b59 bt17
  simp only [vms, vmc, AOpd.val, Nat.reduceEqDiff, reduceCtorEq, Nat.reduceAdd, Nat.reduceBEq, a57, a58, a59] at b57 b58 b59
  simp only [vms, vmc, AOpd.val, Nat.reduceEqDiff, reduceCtorEq, Nat.reduceAdd, Nat.reduceBEq, b59, w1]
  refine hQ _ g3 ((u1.trans u2).trans u3) ?_ ?_ ?_ fun t ht => ?_
  · simp only [vms, vmc, AOpd.val, Nat.reduceEqDiff, reduceCtorEq, Nat.reduceAdd, Nat.reduceBEq, b57]
  · simp only [vms, vmc, AOpd.val, Nat.reduceEqDiff, reduceCtorEq, Nat.reduceAdd, Nat.reduceBEq, b58]
  · simp only [vms, vmc, AOpd.val, Nat.reduceEqDiff, reduceCtorEq, Nat.reduceAdd, Nat.reduceBEq]
  · have e1 := bt17 t ht
    have e2 := at17 t ht
    simp only [vms, vmc, AOpd.val, Nat.reduceEqDiff, reduceCtorEq, Nat.reduceAdd, Nat.reduceBEq, show ¬ 74 = t by omega, show ¬ 75 = t by omega, show ¬ 76 = t by omega, show ¬ 77 = t by omega] at e1
    simp only [vms, vmc, AOpd.val, Nat.reduceEqDiff, reduceCtorEq, Nat.reduceAdd, Nat.reduceBEq, show ¬ 60 = t by omega, show ¬ 61 = t by omega, show ¬ 62 = t by omega, show ¬ 18 = t by omega, show ¬ 63 = t by omega, show ¬ 64 = t by omega, show ¬ 65 = t by omega, show ¬ 66 = t by omega] at e2
    simp only [vms, vmc, AOpd.val, Nat.reduceEqDiff, reduceCtorEq, Nat.reduceAdd, Nat.reduceBEq, show ¬ 85 = t by omega, show ¬ 59 = t by omega, e1, e2]
theorem stay_loop (hl : Low h) {s N M : Nat} {x y z : List AV} (hs : h.get s = some (.cells (x ++ y ++ z) true)) (hsM : M ≤ s) (mx : Mine h N M x) (my : Mine h N M y) (mz : Mine h N M z) {f : Fr} (f57 : f.at 57 = .slice s 0 5 3 3 true) (f58 : f.at 58 = .int .i64 3) (f59 : f.at 59 = .int .i64 0) {Q : AExit → Fr → AH → Prop}
    (hQ : ∀ f' g, Wr h g N M → (∀ t, t < 17 → f'.at t = f.at t) → Q (.exit 0) f' g) : Wp (code T (.loop c6l2) f h) Q := by
  have lx : x.length = 5 := by obtain ⟨a, b, c, kv, iv, lk, li, e, _⟩ := mx.ex; rw [e]; rfl
  have ly : y.length = 5 := by obtain ⟨a, b, c, kv, iv, lk, li, e, _⟩ := my.ex; rw [e]; rfl
  have lz : z.length = 5 := by obtain ⟨a, b, c, kv, iv, lk, li, e, _⟩ := mz.ex; rw [e]; rfl
  have hsl := hl _ _ hs
  refine loop_once (stay_round hl hs hsM (i := 0) (x := x) (by simp [lx]) (by simp; omega) (by decide) mx f57 f58 f59 ?_)
  intro f1 g1 u1 a57 a58 a59 at1
  refine loop_once (stay_round u1.low ((u1.other s hsl (.inr hsM)).trans hs) hsM (i := 1) (x := y) (by simp [List.append_assoc, List.drop_append, lx, ly]) (by simp; omega) (by decide) (my.wr hl u1) a57 a58 a59 ?_)
  intro f2 g2 u2 b57 b58 b59 bt1
  have u12 := u1.trans u2
  refine loop_once (stay_round u2.low ((u12.other s hsl (.inr hsM)).trans hs) hsM (i := 2) (x := z) (by rw [List.drop_left' (by simp [lx, ly]), List.take_of_length_le (by omega)]) (by simp; omega) (by decide) (mz.wr hl u12) b57 b58 b59 ?_)
  intro f3 g3 u3 c57 c58 c59 ct1
  refine loop_once ?_
  simp only [c6l2, vms, vmc, AOpd.val, Nat.reduceEqDiff, reduceCtorEq, Nat.reduceAdd, Nat.reduceBEq, c58, c59, show decide (((2 + 1 : Nat) : Int) < 3) = false from rfl]
  refine hQ _ g3 (u12.trans u3) fun t ht => ?_
  simp only [vms, vmc, AOpd.val, Nat.reduceEqDiff, reduceCtorEq, Nat.reduceAdd, Nat.reduceBEq, show ¬ 60 = t by omega, ct1 t ht, bt1 t ht, at1 t ht]
theorem mine_of {g : AH} {N : Nat} {v : AV} {n : NodeP} (s : NodeN N g v n) (hl : Low g) (ok1 : n.keys.length < 1000000) (ok2 : n.kids.length < 1000000) : ∃ x, v = .agg x ∧ Mine g N g.next x := by
  obtain ⟨kv, iv, rfl, r1, r2, f1, f2⟩ := s
  have e1 := own_row r1 hl f1
  have e2 := own_row r2 hl fun o ho => (f2 o ho).1
  refine ⟨_, rfl, ⟨_, _, _, kv, iv, _, _, rfl, ?_, e1, e2, by simpa [kcells] using ok1, by simpa [icells] using ok2⟩⟩
  simp only [NodeP.cells, List.all_cons, List.all_nil, (RowS.cell r1).2.1, (RowS.cell r2).2.1]; rfl
theorem Mine.mono {g : AH} {N M N' M' : Nat} {x : List AV} (m : Mine g N M x) (hN : N' ≤ N) (hM : M ≤ M') : Mine g N' M' x := by
  obtain ⟨a, b, c, kv, iv, lk, li, e, hf, o1, o2, h1⟩ := m.ex
  exact ⟨a, b, c, kv, iv, lk, li, e, hf, o1.mono hN hM, o2.mono hN hM, h1⟩
theorem Mine.quiet {g g' : AH} {N M : Nat} {x : List AV} (m : Mine g N M x) (hl : Low g) (lo : Low g') (q : Quiet g g') : Mine g' N M x := m.wr hl (Wr.quiet lo q)
theorem Mine.five {g : AH} {N M : Nat} {x : List AV} (m : Mine g N M x) : x.length = 5 ∧ x.all AV.flat = true := by
  obtain ⟨a, b, c, kv, iv, lk, li, rfl, hf, _⟩ := m.ex; exact ⟨rfl, hf⟩
/-- Cells put where there are empty ones. -/
theorem put5 {g : AH} {q : Nat} {x : List AV} (hl : Low g) (hz : g.get q = some (.cells [.int .i64 0, .int .u64 0, .str [], .nilSlice, .nilSlice] true)) (h5 : x.length = 5 ∧ x.all AV.flat = true) : storeV g 5 (.ptr q 0) (.agg x) = some (g.set q (.cells x true)) := store_all hz rfl h5.1 h5.2
theorem Quiet.off {h g : AH} (q : Quiet h g) {p : Nat} (hp : h.next ≤ p) (x : AObj) : Quiet h (g.set p x) := q.set hp x
theorem Mine.set {g : AH} {N M q : Nat} {x : List AV} (m : Mine g N M x) (hq : M ≤ q) (y : AObj) : Mine (g.set q y) N M x := by
  obtain ⟨a, b, c, kv, iv, lk, li, e, hf, o1, o2, h1⟩ := m.ex
  have st : ∀ {v : AV} {len : Nat}, Own g N M v len → Own (g.set q y) N M v len := fun w => by
    rcases w with ⟨rfl, rfl⟩ | ⟨o, cap, ex, l, rfl, hg, h1, h2, h3⟩
    · exact .inl ⟨rfl, rfl⟩
    · exact .inr ⟨o, cap, ex, l, rfl, by rw [AH.get_set, if_neg (by omega)]; exact hg, h1, h2, h3⟩
  exact ⟨a, b, c, kv, iv, lk, li, e, hf, st o1, st o2, h1⟩
theorem fill15 {x y z : List AV} (hx : x.length = 5) (hy : y.length = 5) (hz : z.length = 5) : fillV [AV.int .i64 0, .int .u64 0, .str [], .nilSlice, .nilSlice, .int .i64 0, .int .u64 0, .str [], .nilSlice, .nilSlice, .int .i64 0, .int .u64 0, .str [], .nilSlice, .nilSlice] [(0, 5, .agg x), (5, 5, .agg y), (10, 5, .agg z)] = some (x ++ y ++ z) := by
  obtain ⟨a1, a2, a3, a4, a5, rfl⟩ : ∃ a b c d e, x = [a, b, c, d, e] := by
    match x, hx with
    | [a, b, c, d, e], _ => exact ⟨a, b, c, d, e, rfl⟩
  obtain ⟨b1, b2, b3, b4, b5, rfl⟩ : ∃ a b c d e, y = [a, b, c, d, e] := by
    match y, hy with
    | [a, b, c, d, e], _ => exact ⟨a, b, c, d, e, rfl⟩
  obtain ⟨c1, c2, c3, c4, c5, rfl⟩ : ∃ a b c d e, z = [a, b, c, d, e] := by
    match z, hz with
    | [a, b, c, d, e], _ => exact ⟨a, b, c, d, e, rfl⟩
  simp [fillV, AV.isDef, AV.cells, setMany]
theorem kc_int (l : List Nat) : kcells l = (l.map fun (b : Nat) => (b : Int)).map (.int .u8) := by simp [kcells]
theorem with_few {n m : NodeP} {b : Nat} {kid : Int} (w : WithIs n b kid (some m)) : m.keys.length < 1000000 ∧ m.kids.length < 1000000 := by
  obtain ⟨r, _⟩ := with_right w
  have := r.few
  have := r.same
  have hhi : highP m.kind ≤ 256 := by rcases r.kinds with e | e | e | e <;> rw [e] <;> decide
  omega
theorem right_few {m : NodeP} (r : RightP m) : m.keys.length < 1000000 ∧ m.kids.length < 1000000 := by
  have := r.few
  have := r.same
  have hhi : highP m.kind ≤ 256 := by rcases r.kinds with e | e | e | e <;> rw [e] <;> decide
  omega
theorem enc_len {n : NodeP} (r : RightP n) : 12 ≤ (encW n).length ∧ (encW n).length ≤ 264 := by
  unfold encW
  rw [if_pos (rightP_iff.2 r)]
  simp only [encP, List.length_map, List.length_range]
  rcases r.kinds with e | e | e | e <;> rw [e] <;> decide
theorem stays_run (k : Fits T) (hl : Low h) {kd : Int} {wd : Nat} {px : List UInt8} {skv : AV} {fr n0 : Int} {ks : List Nat} {b : Nat} (hb : b < 256) (hwd : wd < 18446744073709551616) (hpx : px.length < 9223372036854775808) (ss : Sees h skv (kcells ks)) (hks : ∀ x ∈ ks, x < 256) :
    Gives T 6 [.agg (kidsCells kd wd px skv fr), .int .u8 (b : Int), .int .i64 n0] h fun r _ => r = .bool true := by
  refine gives_func (k.env _ (by decide)) (k.at (fn := a6) rfl) rfl ?_
  have fa : ∀ o j, fieldAddrV j (.ptr o 0) = some (.ptr o (0 + j)) := fun o j => rfl
  have q1 : Quiet h (h.new (.cells (kidsCells kd wd px skv fr) true)) := (Quiet.refl _).new _
  have lo1 : Low (h.new (.cells (kidsCells kd wd px skv fr) true)) := hl.new _
  have g1 : (h.new (.cells (kidsCells kd wd px skv fr) true)).get h.next = some (.cells (kidsCells kd wd px skv fr) true) := get_new_same
  have ss1 := sees_keep ss hl q1
  simp only [a6, c6, vms, vmc, AOpd.val, Nat.reduceEqDiff, reduceCtorEq, Nat.reduceAdd, Nat.reduceBEq, box_agg]
  generalize (h.new (.cells (kidsCells kd wd px skv fr) true)) = h1 at *
  simp only [load_all g1 (n := 5) rfl, vms, vmc, AOpd.val, Nat.reduceEqDiff, reduceCtorEq, Nat.reduceAdd, Nat.reduceBEq]
  refine Gives.bind ((made_ok k lo1 hwd hpx ss1 hks).mono ?_)
  rintro mv h2 ⟨q2, lo2, n, hN, hR, ok, hk1, hk4, hby⟩
  have hbk : ∀ x ∈ n.keys, x < 256 := fun x hx => by
    obtain ⟨i, hi⟩ := List.getElem?_of_mem hx
    exact hby i x hi
  obtain ⟨kv, iv, h3, rfl, st3, he3, q3, lo3, nx3, ob1, ob2, _⟩ := keepN lo2 hN
  simp only [vms, vmc, AOpd.val, Nat.reduceEqDiff, reduceCtorEq, Nat.reduceAdd, Nat.reduceBEq, st3, he3.load]
  refine Gives.bind ((encode_ok k lo3 ok he3.v hbk).mono ?_)
  rintro wv h4 ⟨q4, lo4, rw4, ob4⟩
  have he4 := he3.keep lo3 q4
  -- copies of the keys and the kids
  have fe : fillV [] [] = some [] := rfl
  have q45 : Quiet h4 (h4.new (.cells [] true)) := (Quiet.refl _).new _
  have lo5 : Low (h4.new (.cells [] true)) := lo4.new _
  have q46 : Quiet h4 ((h4.new (.cells [] true)).new (.cells [] true)) := q45.new _
  have lo6 : Low ((h4.new (.cells [] true)).new (.cells [] true)) := lo5.new _
  have he5 := he4.keep lo4 q45
  have he6 := he4.keep lo4 q46
  have g64 : ((h4.new (.cells [] true)).new (.cells [] true)).get h4.next = some (.cells [] true) := by rw [AH.get_new, if_neg (by rw [next_new]; omega), get_new_same]
  have g65 : ((h4.new (.cells [] true)).new (.cells [] true)).get (h4.next + 1) = some (.cells [] true) := get_new_same
  have nx6 : ((h4.new (.cells [] true)).new (.cells [] true)).next = h4.next + 2 := rfl
  simp only [vms, vmc, AOpd.val, Nat.reduceEqDiff, reduceCtorEq, Nat.reduceAdd, Nat.reduceBEq, fe, fa, Nat.zero_add, he5.keys, he6.kids, next_new]
  generalize ((h4.new (.cells [] true)).new (.cells [] true)) = h6 at *
  have lkk : ∀ {g : AH} {f : Fr} {t d j : Nat} {x : AV}, loadV g false 1 (.ptr h2.next j) = some x → f.at t = .ptr h2.next j → f.at d = x → AV.beq x x = true → AOper.lookAgain ⟨some d, .load false 1 (.tmp t), none⟩ f g = true := fun hld ht hd hb => look_load (by show loadV _ _ _ (Fr.at _ _) = _; rw [ht]; exact hld) hd hb
  rw [items_look (look_build (o := h4.next) (l := []) (by simp only [vms, vmc, AOpd.val, Nat.reduceEqDiff, reduceCtorEq, Nat.reduceAdd, Nat.reduceBEq]) g64 (by simp only [vms, vmc, AOpd.val, Nat.reduceEqDiff, reduceCtorEq, Nat.reduceAdd, Nat.reduceBEq, fe]) rfl), items_look (lkk he6.keys (by simp only [vms, vmc, AOpd.val, Nat.reduceEqDiff, reduceCtorEq, Nat.reduceAdd, Nat.reduceBEq]) (by simp only [vms, vmc, AOpd.val, Nat.reduceEqDiff, reduceCtorEq, Nat.reduceAdd, Nat.reduceBEq]) (sees_beq he6.sk)), items_look (look_build (o := h4.next + 1) (l := []) (by simp only [vms, vmc, AOpd.val, Nat.reduceEqDiff, reduceCtorEq, Nat.reduceAdd, Nat.reduceBEq]) g65 (by simp only [vms, vmc, AOpd.val, Nat.reduceEqDiff, reduceCtorEq, Nat.reduceAdd, Nat.reduceBEq, fe]) rfl)]
  have re1 : Row1 h6 (.slice h4.next 0 1 0 0 true) [] := row1_of g64 rfl rfl (Nat.le_refl _) (fun i x h => by simp at h)
  have hfew := right_few hR
  obtain ⟨v9, h7, ha7, hr7, ho7, hlt7, on7, lo7⟩ := row1_appendAll (bytes := 1) lo6 re1 he6.sk (by decide) (by decide) (by simp [kcells]; omega) kflat
  have q47 : Quiet h4 h7 := ⟨by have := on7.1; omega, fun o ho _ => by rw [on7.2 o (by omega) (fun hm => by simp [objs] at hm; omega)]; exact q46.2 o ho id⟩
  have he7 := he4.keep lo4 q47
  have g75 : h7.get (h4.next + 1) = some (.cells [] true) := by rw [on7.2 _ (by omega) (fun hm => by simp [objs] at hm)]; exact g65
  simp only [vms, vmc, AOpd.val, Nat.reduceEqDiff, reduceCtorEq, Nat.reduceAdd, Nat.reduceBEq, ha7]
  rw [items_look (look_build (o := h4.next + 1) (l := []) (by simp only [vms, vmc, AOpd.val, Nat.reduceEqDiff, reduceCtorEq, Nat.reduceAdd, Nat.reduceBEq]) g75 (by simp only [vms, vmc, AOpd.val, Nat.reduceEqDiff, reduceCtorEq, Nat.reduceAdd, Nat.reduceBEq, fe]) rfl), items_look (lkk he7.kids (by simp only [vms, vmc, AOpd.val, Nat.reduceEqDiff, reduceCtorEq, Nat.reduceAdd, Nat.reduceBEq]) (by simp only [vms, vmc, AOpd.val, Nat.reduceEqDiff, reduceCtorEq, Nat.reduceAdd, Nat.reduceBEq]) (sees_beq he7.si))]
  have re2 : Row1 h7 (.slice (h4.next + 1) 0 1 0 0 true) [] := row1_of g75 rfl rfl (Nat.le_refl _) (fun i x h => by simp at h)
  obtain ⟨v10, h8, ha8, hr8, ho8, hlt8, on8, lo8⟩ := row1_appendAll (bytes := 8) lo7 re2 he7.si (by decide) (by decide) (by simp [icells]; omega) iflat
  have n7 := on7.1
  have n8 := on8.1
  have q48 : Quiet h4 h8 := ⟨by omega, fun o ho _ => by rw [on8.2 o (by omega) (fun hm => by simp [objs] at hm; omega)]; exact q47.2 o ho id⟩
  have he8 := he4.keep lo4 q48
  have rw8 := row_quiet rw4 lo4 q48
  have r9 : Row1 h8 v9 (kcells n.keys) := by
    have hr7' : Row1 h7 v9 (kcells n.keys) := by simpa using hr7
    refine RowS.keep hr7' fun o ho => on8.2 o (hlt7 o ho) fun hm => ?_
    simp [objs] at hm
    rcases ho7 o ho with h9 | h9
    · simp [objs] at h9; omega
    · omega
  have r10 : Row1 h8 v10 (icells n.kids) := by simpa using hr8
  simp only [vms, vmc, AOpd.val, Nat.reduceEqDiff, reduceCtorEq, Nat.reduceAdd, Nat.reduceBEq, ha8, he8.load]
  -- with a child
  have lkn : ∀ {g : AH} {f : Fr} {t d : Nat}, Held g h2.next kv iv n → f.at t = .ptr h2.next 0 → f.at d = .agg (n.cells kv iv) → AOper.lookAgain ⟨some d, .load true 5 (.tmp t), none⟩ f g = true := fun hg ht hd => look_load (v := .agg _) (by show loadV _ _ _ (Fr.at _ _) = _; rw [ht]; exact hg.load) hd hg.beq
  have q89 : Quiet h8 (h8.new (.cells [.int .i64 0, .int .u64 0, .str [], .nilSlice, .nilSlice] true)) := (Quiet.refl _).new _
  have lo9 : Low (h8.new (.cells [.int .i64 0, .int .u64 0, .str [], .nilSlice, .nilSlice] true)) := lo8.new _
  have gz9 : (h8.new (.cells [.int .i64 0, .int .u64 0, .str [], .nilSlice, .nilSlice] true)).get h8.next = some (.cells [.int .i64 0, .int .u64 0, .str [], .nilSlice, .nilSlice] true) := get_new_same
  have nx9 : (h8.new (.cells [.int .i64 0, .int .u64 0, .str [], .nilSlice, .nilSlice] true)).next = h8.next + 1 := rfl
  have he9 := he8.keep lo8 q89
  generalize (h8.new (.cells [.int .i64 0, .int .u64 0, .str [], .nilSlice, .nilSlice] true)) = h9 at *
  rw [items_look (lkn he9 (by simp only [vms, vmc, AOpd.val, Nat.reduceEqDiff, reduceCtorEq, Nat.reduceAdd, Nat.reduceBEq]) (by simp only [vms, vmc, AOpd.val, Nat.reduceEqDiff, reduceCtorEq, Nat.reduceAdd, Nat.reduceBEq])), items_look (look_new (q := h8.next) (by simp only [vms, vmc, AOpd.val, Nat.reduceEqDiff, reduceCtorEq, Nat.reduceAdd, Nat.reduceBEq]) gz9 zbeq)]
  simp only [vms, vmc, AOpd.val, Nat.reduceEqDiff, reduceCtorEq, Nat.reduceAdd, Nat.reduceBEq]
  have hv11 : Valid 1 1 := ⟨by omega, by omega, by omega⟩
  refine Gives.bind ((ref_ok k (s := 1) (g := 1) (l := false) hv11).mono ?_)
  rintro _ _ ⟨rfl, rfl⟩
  rename_i h9
  simp only [vms, vmc, AOpd.val, Nat.reduceEqDiff, reduceCtorEq, Nat.reduceAdd, Nat.reduceBEq]
  rw [items_look (lkn he9 (by simp only [vms, vmc, AOpd.val, Nat.reduceEqDiff, reduceCtorEq, Nat.reduceAdd, Nat.reduceBEq]) (by simp only [vms, vmc, AOpd.val, Nat.reduceEqDiff, reduceCtorEq, Nat.reduceAdd, Nat.reduceBEq])), items_look (look_new (q := h8.next) (by simp only [vms, vmc, AOpd.val, Nat.reduceEqDiff, reduceCtorEq, Nat.reduceAdd, Nat.reduceBEq]) gz9 zbeq)]
  simp only [vms, vmc, AOpd.val, Nat.reduceEqDiff, reduceCtorEq, Nat.reduceAdd, Nat.reduceBEq]
  refine Gives.bind ((with_ok k lo9 ok he9.v (b := b) (kid := ((refN 1 1 false : Nat) : Int))).mono ?_)
  rintro r10' h10 ⟨q10, lo10, hw⟩
  obtain ⟨x, xo, rfl, mx⟩ : ∃ x xo, r10' = .tuple [.agg x, .bool xo] ∧ Mine h10 h9.next h10.next x := by
    rcases hw with ⟨_, rfl⟩ | ⟨m, mv, hW, hM, rfl⟩
    · obtain ⟨x, e, mm⟩ := mine_of (zeroP_n (N := h9.next) (h := h10)) lo10 (by decide) (by decide)
      exact ⟨x, false, by rw [← e], mm⟩
    · have := with_few hW
      obtain ⟨x, e, mm⟩ := mine_of hM lo10 this.1 this.2
      exact ⟨x, true, by rw [← e], mm⟩
  have gz10 := q10.get gz9 (lo9 _ _ gz9)
  have st10 := put5 lo10 gz10 mx.five
  have n10 := q10.1
  have q811 : Quiet h8 (h10.set h8.next (.cells x true)) := (q89.trans q10).set (Nat.le_refl _) _
  have lo11 : Low (h10.set h8.next (.cells x true)) := lo10.set (lo10 _ _ gz10) _
  have g11 : (h10.set h8.next (.cells x true)).get h8.next = some (.cells x true) := get_set_same
  have nx11 : (h10.set h8.next (.cells x true)).next = h10.next := rfl
  have he11 := he8.keep lo8 q811
  have mx11 : Mine (h10.set h8.next (.cells x true)) h9.next h10.next x := by
    obtain ⟨a, b', c, kv', iv', lk, li, e, hf, o1, o2, h1'⟩ := mx.ex
    have st : ∀ {v : AV} {len : Nat}, Own h10 h9.next h10.next v len → Own (h10.set h8.next (.cells x true)) h9.next h10.next v len := fun w => by
      rcases w with ⟨rfl, rfl⟩ | ⟨o, cap, ex, l, rfl, hg, h1, h2, h3⟩
      · exact .inl ⟨rfl, rfl⟩
      · exact .inr ⟨o, cap, ex, l, rfl, by rw [AH.get_set, if_neg (by omega)]; exact hg, h1, h2, h3⟩
    exact ⟨a, b', c, kv', iv', lk, li, e, hf, st o1, st o2, h1'⟩
  simp only [vms, vmc, AOpd.val, Nat.reduceEqDiff, reduceCtorEq, Nat.reduceAdd, Nat.reduceBEq]
  rw [items_look (look_new (q := h8.next) (by simp only [vms, vmc, AOpd.val, Nat.reduceEqDiff, reduceCtorEq, Nat.reduceAdd, Nat.reduceBEq]) gz10 zbeq)]
  simp only [vms, vmc, AOpd.val, Nat.reduceEqDiff, reduceCtorEq, Nat.reduceAdd, Nat.reduceBEq, st10, he11.load]
  generalize (h10.set h8.next (.cells x true)) = h11 at *
  -- without one
  refine Gives.bind ((without_ok k lo11 ok he11.v he11.capped (b := b)).mono ?_)
  rintro r12 h12 ⟨q12, lo12, hw2⟩
  obtain ⟨y, yo, rfl, my⟩ : ∃ y yo, r12 = .tuple [.agg y, .bool yo] ∧ Mine h12 h11.next h12.next y := by
    rcases hw2 with ⟨_, rfl⟩ | ⟨m, mv, hW, hM, rfl⟩
    · obtain ⟨x, e, mm⟩ := mine_of (zeroP_n (N := h11.next) (h := h12)) lo12 (by decide) (by decide)
      exact ⟨x, false, by rw [← e], mm⟩
    · have := right_few (without_right hW).1
      obtain ⟨x, e, mm⟩ := mine_of hM lo12 this.1 this.2
      exact ⟨x, true, by rw [← e], mm⟩
  have n12 := q12.1
  have st12 := put5 (lo12.new _) (get_new_same (h := h12) (x := .cells [.int .i64 0, .int .u64 0, .str [], .nilSlice, .nilSlice] true)) my.five
  have q1213 : Quiet h12 ((h12.new (.cells [.int .i64 0, .int .u64 0, .str [], .nilSlice, .nilSlice] true)).set h12.next (.cells y true)) := ((Quiet.refl _).new _).set (Nat.le_refl _) _
  have lo13 : Low ((h12.new (.cells [.int .i64 0, .int .u64 0, .str [], .nilSlice, .nilSlice] true)).set h12.next (.cells y true)) := (lo12.new _).set (by rw [next_new]; omega) _
  have g13 : ((h12.new (.cells [.int .i64 0, .int .u64 0, .str [], .nilSlice, .nilSlice] true)).set h12.next (.cells y true)).get h12.next = some (.cells y true) := get_set_same
  have nx13 : ((h12.new (.cells [.int .i64 0, .int .u64 0, .str [], .nilSlice, .nilSlice] true)).set h12.next (.cells y true)).next = h12.next + 1 := rfl
  have he13 := (he11.keep lo11 q12).keep lo12 q1213
  have g11' := (q12.trans q1213).get g11 (lo11 _ _ g11)
  have mx13 := mx11.quiet lo11 lo13 (q12.trans q1213)
  have my13 := my.quiet lo12 lo13 q1213
  simp only [vms, vmc, AOpd.val, Nat.reduceEqDiff, reduceCtorEq, Nat.reduceAdd, Nat.reduceBEq, st12, he13.load]
  generalize ((h12.new (.cells [.int .i64 0, .int .u64 0, .str [], .nilSlice, .nilSlice] true)).set h12.next (.cells y true)) = h13 at *
  -- of another kind
  have q14 : Quiet h13 (h13.new (.cells [.int .i64 0, .int .u64 0, .str [], .nilSlice, .nilSlice] true)) := (Quiet.refl _).new _
  have lo14 : Low (h13.new (.cells [.int .i64 0, .int .u64 0, .str [], .nilSlice, .nilSlice] true)) := lo13.new _
  have gz14 : (h13.new (.cells [.int .i64 0, .int .u64 0, .str [], .nilSlice, .nilSlice] true)).get h13.next = some (.cells [.int .i64 0, .int .u64 0, .str [], .nilSlice, .nilSlice] true) := get_new_same
  have nx14 : (h13.new (.cells [.int .i64 0, .int .u64 0, .str [], .nilSlice, .nilSlice] true)).next = h13.next + 1 := rfl
  have he14 := he13.keep lo13 q14
  have gx14 := q14.get g11' (lo13 _ _ g11')
  have gy14 := q14.get g13 (lo13 _ _ g13)
  have mx14 := mx13.quiet lo13 lo14 q14
  have my14 := my13.quiet lo13 lo14 q14
  generalize (h13.new (.cells [.int .i64 0, .int .u64 0, .str [], .nilSlice, .nilSlice] true)) = h14 at *
  rw [items_look (lkn he14 (by simp only [vms, vmc, AOpd.val, Nat.reduceEqDiff, reduceCtorEq, Nat.reduceAdd, Nat.reduceBEq]) (by simp only [vms, vmc, AOpd.val, Nat.reduceEqDiff, reduceCtorEq, Nat.reduceAdd, Nat.reduceBEq])), items_look (look_new (q := h13.next) (by simp only [vms, vmc, AOpd.val, Nat.reduceEqDiff, reduceCtorEq, Nat.reduceAdd, Nat.reduceBEq]) gz14 zbeq)]
  simp only [vms, vmc, AOpd.val, Nat.reduceEqDiff, reduceCtorEq, Nat.reduceAdd, Nat.reduceBEq]
  refine Gives.bind ((within_nat k (hi := 3) (by decide)).mono ?_)
  rintro _ _ ⟨c0, rfl, hc0, rfl⟩
  rename_i h14
  have wc : IntKind.i64.wrap (1 + (c0 : Int)) = 1 + (c0 : Int) := wrap_i64 (by omega) (by omega)
  simp only [vms, vmc, AOpd.val, Nat.reduceEqDiff, reduceCtorEq, Nat.reduceAdd, Nat.reduceBEq, wc]
  rw [items_look (lkn he14 (by simp only [vms, vmc, AOpd.val, Nat.reduceEqDiff, reduceCtorEq, Nat.reduceAdd, Nat.reduceBEq]) (by simp only [vms, vmc, AOpd.val, Nat.reduceEqDiff, reduceCtorEq, Nat.reduceAdd, Nat.reduceBEq])), items_look (look_new (q := h13.next) (by simp only [vms, vmc, AOpd.val, Nat.reduceEqDiff, reduceCtorEq, Nat.reduceAdd, Nat.reduceBEq]) gz14 zbeq)]
  simp only [vms, vmc, AOpd.val, Nat.reduceEqDiff, reduceCtorEq, Nat.reduceAdd, Nat.reduceBEq]
  refine Gives.bind ((turn_ok k lo14 ok he14.v (kd := 1 + (c0 : Int))).mono ?_)
  rintro r15 h15 ⟨q15, lo15, hw3⟩
  obtain ⟨z, zo, rfl, mz⟩ : ∃ z zo, r15 = .tuple [.agg z, .bool zo] ∧ Mine h15 h14.next h15.next z := by
    rcases hw3 with ⟨_, rfl⟩ | ⟨m, mv, hW, hM, rfl⟩
    · obtain ⟨x, e, mm⟩ := mine_of (zeroP_n (N := h14.next) (h := h15)) lo15 (by decide) (by decide)
      exact ⟨x, false, by rw [← e], mm⟩
    · obtain ⟨_, _, _, em⟩ := hW
      obtain ⟨x, e, mm⟩ := mine_of hM lo15 (by rw [em]; exact hfew.1) (by rw [em]; exact hfew.2)
      exact ⟨x, true, by rw [← e], mm⟩
  have n15 := q15.1
  have gz15 := q15.get gz14 (lo14 _ _ gz14)
  have gx15 := q15.get gx14 (lo14 _ _ gx14)
  have gy15 := q15.get gy14 (lo14 _ _ gy14)
  have st15 := put5 lo15 gz15 mz.five
  have q16 : Quiet h13 (h15.set h13.next (.cells z true)) := (q14.trans q15).set (Nat.le_refl _) _
  have lo16 : Low (h15.set h13.next (.cells z true)) := lo15.set (lo15 _ _ gz15) _
  have g16 : (h15.set h13.next (.cells z true)).get h13.next = some (.cells z true) := get_set_same
  have gx16 : (h15.set h13.next (.cells z true)).get h8.next = some (.cells x true) := by rw [AH.get_set, if_neg (by omega)]; exact gx15
  have gy16 : (h15.set h13.next (.cells z true)).get h12.next = some (.cells y true) := by rw [AH.get_set, if_neg (by omega)]; exact gy15
  have nx16 : (h15.set h13.next (.cells z true)).next = h15.next := rfl
  have mx16 := (mx14.quiet lo14 lo15 q15).set (q := h13.next) (by omega) (.cells z true)
  have my16 := (my14.quiet lo14 lo15 q15).set (q := h13.next) (by omega) (.cells z true)
  have mz16 : Mine (h15.set h13.next (.cells z true)) h14.next h15.next z := by
    obtain ⟨a, b', c, kv', iv', lk, li, e, hf, o1, o2, h1'⟩ := mz.ex
    have st : ∀ {v : AV} {len : Nat}, Own h15 h14.next h15.next v len → Own (h15.set h13.next (.cells z true)) h14.next h15.next v len := fun w => by
      rcases w with ⟨rfl, rfl⟩ | ⟨o, cap, ex, l, rfl, hg, h1, h2, h3⟩
      · exact .inl ⟨rfl, rfl⟩
      · exact .inr ⟨o, cap, ex, l, rfl, by rw [AH.get_set, if_neg (by omega)]; exact hg, h1, h2, h3⟩
    exact ⟨a, b', c, kv', iv', lk, li, e, hf, st o1, st o2, h1'⟩
  have q816 : Quiet h8 (h15.set h13.next (.cells z true)) := ((q811.trans q12).trans q1213).trans q16
  simp only [vms, vmc, AOpd.val, Nat.reduceEqDiff, reduceCtorEq, Nat.reduceAdd, Nat.reduceBEq]
  rw [items_look (look_new (q := h13.next) (by simp only [vms, vmc, AOpd.val, Nat.reduceEqDiff, reduceCtorEq, Nat.reduceAdd, Nat.reduceBEq]) gz15 zbeq)]
  simp only [vms, vmc, AOpd.val, Nat.reduceEqDiff, reduceCtorEq, Nat.reduceAdd, Nat.reduceBEq, st15, load_all gx16 (n := 5) mx.five.1, load_all gy16 (n := 5) my.five.1, load_all g16 (n := 5) mz.five.1, fill15 mx.five.1 my.five.1 mz.five.1]
  generalize (h15.set h13.next (.cells z true)) = h16 at *
  have q17 : Quiet h16 (h16.new (.cells (x ++ y ++ z) true)) := (Quiet.refl _).new _
  have lo17 : Low (h16.new (.cells (x ++ y ++ z) true)) := lo16.new _
  refine stay_loop (N := h8.next) (M := h16.next) lo17 (s := h16.next) get_new_same (Nat.le_refl _) ((mx16.quiet lo16 lo17 q17).mono (by omega) (by omega)) ((my16.quiet lo16 lo17 q17).mono (by omega) (by omega)) ((mz16.quiet lo16 lo17 q17).mono (by omega) (by omega)) ?_ ?_ ?_ ?_
  · simp only [vms, vmc, AOpd.val, Nat.reduceEqDiff, reduceCtorEq, Nat.reduceAdd, Nat.reduceBEq]
  · simp only [vms, vmc, AOpd.val, Nat.reduceEqDiff, reduceCtorEq, Nat.reduceAdd, Nat.reduceBEq]; rfl
  · simp only [vms, vmc, AOpd.val, Nat.reduceEqDiff, reduceCtorEq, Nat.reduceAdd, Nat.reduceBEq]
  intro f18 h18 u18 ft
  have e7 := ft 7 (by omega)
  have e8 := ft 8 (by omega)
  have e9 := ft 9 (by omega)
  have e10 := ft 10 (by omega)
  simp only [vms, vmc, AOpd.val, Nat.reduceEqDiff, reduceCtorEq, Nat.reduceAdd, Nat.reduceBEq] at e7 e8 e9 e10
  have q818 : Quiet h8 h18 := ⟨by have := u18.next; rw [next_new] at this; have := q816.1; omega, fun o ho _ => by
    have := q816.1
    rw [u18.other o (by rw [next_new]; omega) (.inl ho)]
    exact (q816.trans q17).2 o ho id⟩
  have he18 := he8.keep lo8 q818
  have r9' := (row_quiet r9 lo8 q818).sees
  have r10' := (row_quiet r10 lo8 q818).sees
  have rw18 := row_quiet rw8 lo8 q818
  have hks18 := he18.sk
  have his18 := he18.si
  rw [kc_int] at r9' hks18
  simp only [vms, vmc, AOpd.val, Nat.reduceEqDiff, reduceCtorEq, Nat.reduceAdd, Nat.reduceBEq, e7, e8, e9, e10, fa, Nat.zero_add, he18.keys]
  refine Gives.bind ((sameG_ok (k := .u8) (k.env _ (by decide)) (k.at (fn := a28) rfl) hks18 r9' (by simp; omega) (by simp; omega)).mono ?_)
  rintro _ _ ⟨rfl, rfl⟩
  rename_i h18
  simp only [vms, vmc, AOpd.val, Nat.reduceEqDiff, reduceCtorEq, Nat.reduceAdd, Nat.reduceBEq, decide_true, e7, e8, e9, e10, fa, Nat.zero_add, he18.kids]
  refine Gives.bind ((sameG_ok (k := .i64) (k.env _ (by decide)) (k.at (fn := a19) rfl) his18 r10' (by omega) (by omega)).mono ?_)
  rintro _ _ ⟨rfl, rfl⟩
  rename_i h18
  simp only [vms, vmc, AOpd.val, Nat.reduceEqDiff, reduceCtorEq, Nat.reduceAdd, Nat.reduceBEq, decide_true, e7, e8, e9, e10, he18.load]
  refine Gives.bind ((encode_ok k u18.low ok he18.v hbk).mono ?_)
  rintro wv2 h19 ⟨q19, lo19, rw19, ob19⟩
  have hel := enc_len hR
  have s19 := rw19.sees
  have s18 := (row_quiet rw18 u18.low q19).sees
  rw [wcells_int] at s19 s18
  have lw : lenOfV wv = some (encW n).length := by have := s18.len; simpa using this
  have dgt : decide (((encW n).length : Int) > 0) = true := by rw [decide_eq_true_eq]; omega
  simp only [vms, vmc, AOpd.val, Nat.reduceEqDiff, reduceCtorEq, Nat.reduceAdd, Nat.reduceBEq, e7, e8, e9, e10]
  refine Gives.bind ((sameG_ok (k := .u64) (k.env _ (by decide)) (k.at (fn := a18) rfl) s19 s18 (by simp; omega) (by simp; omega)).mono ?_)
  rintro _ _ ⟨rfl, rfl⟩
  simp only [vms, vmc, AOpd.val, Nat.reduceEqDiff, reduceCtorEq, Nat.reduceAdd, Nat.reduceBEq, decide_true, e8, lw, dgt]
  refine Gives.bind ((k.yes _).mono ?_)
  rintro _ _ ⟨rfl, rfl⟩
  simp only [vms, vmc, AOpd.val, Nat.reduceEqDiff, reduceCtorEq, Nat.reduceAdd, Nat.reduceBEq]
end Go.Proofs.Ytpabmkicdcilpaa

/- The reference's Remove. -/
import Derived.Test.YteokopjiaiflnaaP20Ye
namespace Go.Proofs.Yteokopjiaiflnaa
open Go.Vm
set_option linter.unusedSimpArgs false
set_option linter.unusedVariables false
set_option maxRecDepth 100000
variable {T : Vm.Prog} {h : AH}
/-- A row of blocks, some of which may have gone bad. -/
structure RX (xs : List AV) (S : Nat → Prop) (N : Nat) (h : AH) (r : AV) (bs : List (List Int)) : Prop where
  row : Row1 h r xs
  fr : ∀ o ∈ objs r, N ≤ o
  len : xs.length = bs.length
  elts : ∀ (i : Nat) x b, ¬ S i → xs[i]? = some x → bs[i]? = some b → BlkV h x b ∧ (∀ o ∈ objs x, N ≤ o ∧ o ∉ objs r)
theorem RX.act {xs : List AV} {S F : Nat → Prop} {N : Nat} {h' : AH} {r : AV} {bs : List (List Int)} (c : RX xs S N h r bs) (hl : Low h) (m : Mods h h' F) (h1 : ∀ o ∈ objs r, ¬ F o) (h2 : ∀ (i : Nat) x, ¬ S i → xs[i]? = some x → ∀ o ∈ objs x, ¬ F o) : RX xs S N h' r bs := by
  refine ⟨RowS.keep c.row fun o ho => m.2 o (RowS.low c.row hl o ho) (h1 o ho), c.fr, c.len, fun i x b hi hx hb => ?_⟩
  obtain ⟨g1, g2⟩ := c.elts i x b hi hx hb
  exact ⟨g1.turn fun o ho => m.2 o (sees_low g1.1 hl o ho) (h2 i x hi hx o ho), g2⟩
theorem RX.store {xs : List AV} {S : Nat → Prop} {N M : Nat} {r v : AV} {bs : List (List Int)} {z : List Int} {k : Nat} (c : RX xs S N h r bs) (hl : Low h) (hM : M ≤ N) (hk : k < bs.length) (sv : BlkV h v z) (hv : ∀ o ∈ objs v, M ≤ o ∧ o ∉ objs r) :
    ∃ p h', idxAddrV 1 r (.int .i64 (k : Int)) = some p ∧ storeV h 1 p v = some h' ∧ RX (xs.set k v) (fun i => S i ∧ i ≠ k) M h' r (bs.set k z) ∧ Mods h h' (fun o => o ∈ objs r) ∧ Low h' := by
  have cv := sees_cell sv.1
  obtain ⟨row, fr, len, elts⟩ := c
  rcases row with ⟨rfl, h0⟩ | ⟨o, cap, ex, l, rfl, hg, h1, h2, h3⟩
  · simp at h0; simp [h0] at len; omega
  · simp only [List.length_map, Nat.mul_one] at h1 h2
    have h3' := Row1.get h3
    have m : Mods h (h.set o (.cells (l.set k v) true)) (fun q => q ∈ objs (.slice o 0 1 (List.map (fun x => [x]) xs).length cap ex)) := (Mods.refl _ _).set (.inl (by simp [objs])) _
    refine ⟨.ptr o k, h.set o (.cells (l.set k v) true), by simp [idxAddrV]; omega, store_at hg (by omega) cv.1 cv.2, ⟨row1_of get_set_same (by simpa using h1) (by simp) (by simpa using h2) fun i x hx => ?_, fun q hq => Nat.le_trans hM (fr q hq), by simp [len], fun i x b hi hx hb => ?_⟩, m, hl.set (hl _ _ hg) _⟩
    · by_cases e : i = k
      · subst e
        rw [List.getElem?_set_self (by omega)] at hx
        rw [List.getElem?_set_self (by omega), hx]
      · rw [List.getElem?_set_ne (Ne.symm e)] at hx
        rw [List.getElem?_set_ne (Ne.symm e)]; exact h3' i x hx
    · by_cases e : i = k
      · subst e
        rw [List.getElem?_set_self (by omega)] at hx hb
        cases hx; cases hb
        exact ⟨sv.turn fun q hq => m.2 q (sees_low sv.1 hl q hq) (hv q hq).2, hv⟩
      · rw [List.getElem?_set_ne (Ne.symm e)] at hx hb
        obtain ⟨g1, g2⟩ := elts i x b (fun hs => hi ⟨hs, e⟩) hx hb
        exact ⟨g1.turn fun q hq => m.2 q (sees_low g1.1 hl q hq) (g2 q hq).2, fun q hq => ⟨Nat.le_trans hM (g2 q hq).1, (g2 q hq).2⟩⟩
theorem RX.at {xs : List AV} {S : Nat → Prop} {N : Nat} {r : AV} {bs : List (List Int)} (c : RX xs S N h r bs) {i : Nat} {b : List Int} (hi : ¬ S i) (hb : bs[i]? = some b) : ∃ p x, xs[i]? = some x ∧ idxAddrV 1 r (.int .i64 (i : Int)) = some p ∧ loadV h false 1 p = some x ∧ BlkV h x b := by
  have hlt := (List.getElem?_eq_some_iff.1 hb).1
  obtain ⟨x, hx⟩ : ∃ x, xs[i]? = some x := ⟨_, List.getElem?_eq_getElem (by rw [c.len]; exact hlt)⟩
  obtain ⟨p, h1, h2⟩ := c.row.sees.at hx .i64
  exact ⟨p, x, hx, h1, h2, (c.elts i x b hi hx hb).1⟩
theorem RX.lenOf {xs : List AV} {S : Nat → Prop} {N : Nat} {r : AV} {bs : List (List Int)} (c : RX xs S N h r bs) : lenOfV r = some bs.length := by rw [c.row.sees.len, c.len]
theorem RX.g {xs : List AV} {S : Nat → Prop} {N : Nat} {r : AV} {bs : List (List Int)} (c : RX xs S N h r bs) (hS : ∀ i, i < bs.length → ¬ S i) : BlksG (fun o => N ≤ o) h r bs := by
  refine ⟨xs, c.row.sees, row_cap c.row, c.fr, ⟨c.len, fun i x b hx hb => (c.elts i x b (hS i (List.getElem?_eq_some_iff.1 hb).1) hx hb).1⟩, fun x hx o ho => ?_⟩
  obtain ⟨i, hi⟩ := List.getElem?_of_mem hx
  have hlt := (List.getElem?_eq_some_iff.1 hi).1
  exact ((c.elts i x _ (hS i (by rw [← c.len]; exact hlt)) hi (List.getElem?_eq_getElem (c.len ▸ hlt))).2 o ho).1
theorem RX.head {xs : List AV} {S : Nat → Prop} {N n : Nat} {r : AV} {bs : List (List Int)} (c : RX xs S N h r bs) (hS : ∀ i, i < n → ¬ S i) (hn : n ≤ bs.length) : ∃ v', slcV 1 r none (some (.int .i64 (n : Int))) (some (.int .i64 (n : Int))) = some v' ∧ BlksG (fun o => N ≤ o) h v' (bs.take n) := by
  obtain ⟨v', h1, h2, h3, h4, _⟩ := sees_head3 c.row.sees (row_cap c.row) (n := n) (by rw [c.len]; exact hn)
  refine ⟨v', h1, xs.take n, h2, h3, fun o ho => c.fr o (h4 o ho), ⟨by simp [c.len], fun i x b hx hb => ?_⟩, fun x hx o ho => ?_⟩
  · rw [List.getElem?_take] at hx hb
    by_cases hi : i < n
    · rw [if_pos hi] at hx hb; exact (c.elts i x b (hS i hi) hx hb).1
    · rw [if_neg hi] at hx; cases hx
  · obtain ⟨i, hi⟩ := List.getElem?_of_mem hx
    rw [List.getElem?_take] at hi
    by_cases hin : i < n
    · rw [if_pos hin] at hi
      have hlt := (List.getElem?_eq_some_iff.1 hi).1
      exact ((c.elts i x _ (hS i hin) hi (List.getElem?_eq_getElem (c.len ▸ hlt))).2 o ho).1
    · rw [if_neg hin] at hi; cases hi
theorem app_full (hl : Low h) {v w : AV} {xs ys : List AV} (s : Sees h v xs) (hv : v = .nilSlice ∨ ∃ o off, v = .slice o off 1 xs.length xs.length true) (sw : Sees h w ys) (hs : xs.length + ys.length < 1000000) (hf : ∀ y ∈ ys, AV.flat y = true) :
    ∃ r h', appV 1 24 h v w = some (r, h') ∧ Sees h' r (xs ++ ys) ∧ capOk r ∧ (∀ o ∈ objs r, o ∈ objs v ∨ h.next ≤ o) ∧ Quiet h h' ∧ Low h' := by
  have hel := sees_elems sw
  have ln := sw.len
  have hroom : ∀ cap ex, roomOk (xs.length + ys.length) 24 cap ex = true := by
    intro cap ex
    have : (xs.length + ys.length) * 24 ≤ 1000000 * 24 := Nat.mul_le_mul (by omega) (by decide)
    simp only [roomOk, Bool.or_eq_true, Bool.and_eq_true, decide_eq_true_eq]
    left; omega
  rcases hv with rfl | ⟨o, off, rfl⟩
  · have hx : xs = [] := by
      rcases s with ⟨_, rfl⟩ | ⟨_, _, _, _, _, _, e, _⟩
      · rfl
      · cases e
    subst hx
    by_cases h0 : ys.length = 0
    · have hy : ys = [] := List.eq_nil_of_length_eq_zero h0
      subst hy
      refine ⟨.nilSlice, h, ?_, .inl ⟨rfl, rfl⟩, trivial, fun o ho => .inl ho, Quiet.refl _, hl⟩
      simp only [appV, ln, Option.bind_some, hel, appendV]
      rfl
    · have hr := hroom 0 true
      simp only [List.length_nil, Nat.zero_add] at hr
      refine ⟨.slice h.next 0 1 ys.length ys.length false, h.new (.cells ys true), ?_, by rw [List.nil_append]; exact sees_lit get_new_same rfl, Nat.le_refl ys.length, fun p hp => by simp [objs] at hp; right; omega, (Quiet.refl _).new _, hl.new _⟩
      simp only [appV, ln, Option.bind_some, hel, appendV]
      rw [if_neg h0, if_pos hr]
  · have hse := sees_elems s
    rcases s with ⟨e, _⟩ | ⟨o', off', cap', ex', l, rw', e, hg, h1, h2⟩
    · cases e
    · cases e
      by_cases h0 : ys.length = 0
      · have hy : ys = [] := List.eq_nil_of_length_eq_zero h0
        subst hy
        refine ⟨.slice o off 1 xs.length xs.length true, h, ?_, .inr ⟨o, off, xs.length, true, l, rw', by simp, hg, by simpa using h1, by simpa using h2⟩, Nat.le_refl xs.length, fun p hp => .inl hp, Quiet.refl _, hl⟩
        simp only [appV, ln, Option.bind_some, hel, appendV, if_true]
        rw [if_pos (by simp)]
        simp
      · have hload : h.load o off (xs.length * 1) = some xs := by simpa [AH.elems] using hse
        refine ⟨.slice h.next 0 1 (xs.length + ys.length) (xs.length + ys.length) false, h.new (.cells (xs ++ ys) true), ?_, sees_lit get_new_same (by simp), Nat.le_refl _, fun p hp => by simp [objs] at hp; right; omega, (Quiet.refl _).new _, hl.new _⟩
        simp only [appV, ln, Option.bind_some, hel, appendV, if_true]
        rw [if_neg (by omega), if_pos (hroom _ _), hload]
theorem RX.cut {xs : List AV} {S : Nat → Prop} {N a c : Nat} {r : AV} {bs : List (List Int)} (x : RX xs S N h r bs) (hl : Low h) (hN : N ≤ h.next) (hS : ∀ i, i < bs.length → S i → a ≤ i ∧ i < c) (hac : a ≤ c) (hc : c ≤ bs.length) (hs : bs.length < 100000) (hf : ∀ (i : Nat) x, xs[i]? = some x → AV.flat x = true) :
    ∃ va vb r' h', slcV 1 r none (some (.int .i64 (a : Int))) (some (.int .i64 (a : Int))) = some va ∧ slcV 1 r (some (.int .i64 (c : Int))) none none = some vb ∧ appV 1 24 h va vb = some (r', h') ∧ BlksG (fun o => N ≤ o) h' r' (bs.take a ++ bs.drop c) ∧ Quiet h h' ∧ Low h' := by
  obtain ⟨va, a1, a2, a3, a4, a5⟩ := sees_head3 x.row.sees (row_cap x.row) (n := a) (by rw [x.len]; omega)
  obtain ⟨vb, b1, b2, b3, b4⟩ := sees_tailC x.row.sees (row_cap x.row) (n := c) (by rw [x.len]; omega)
  have hla : (xs.take a).length = a := by rw [List.length_take, x.len]; omega
  obtain ⟨r', h', e1, e2, e3, e4, q, lo⟩ := app_full hl a2 (by rw [hla]; exact a5) b2 (by rw [hla, List.length_drop, x.len]; omega) (fun y hy => by
    obtain ⟨i, hi⟩ := List.getElem?_of_mem hy
    rw [List.getElem?_drop] at hi
    exact hf _ y hi)
  have key : ∀ (i : Nat) y, (xs.take a ++ xs.drop c)[i]? = some y → ∃ b, (bs.take a ++ bs.drop c)[i]? = some b ∧ BlkV h y b ∧ ∀ o ∈ objs y, N ≤ o := by
    intro i y hy
    rw [List.getElem?_append] at hy
    by_cases hi : i < a
    · rw [if_pos (by rw [hla]; exact hi), List.getElem?_take, if_pos hi] at hy
      have hlt := (List.getElem?_eq_some_iff.1 hy).1
      have hb : bs[i]? = some (bs[i]'(by rw [← x.len]; exact hlt)) := List.getElem?_eq_getElem (by rw [← x.len]; exact hlt)
      obtain ⟨g1, g2⟩ := x.elts i y _ (fun hsi => by have := hS i (by rw [← x.len]; exact hlt) hsi; omega) hy hb
      exact ⟨_, by rw [List.getElem?_append_left (by rw [List.length_take]; have := x.len; omega), List.getElem?_take, if_pos hi]; exact hb, g1, fun o ho => (g2 o ho).1⟩
    · rw [if_neg (by rw [hla]; exact hi), hla, List.getElem?_drop] at hy
      have hlt := (List.getElem?_eq_some_iff.1 hy).1
      have hb : bs[c + (i - a)]? = some (bs[c + (i - a)]'(by rw [← x.len]; exact hlt)) := List.getElem?_eq_getElem (by rw [← x.len]; exact hlt)
      obtain ⟨g1, g2⟩ := x.elts _ y _ (fun hsi => by have := hS _ (by rw [← x.len]; exact hlt) hsi; omega) hy hb
      refine ⟨_, ?_, g1, fun o ho => (g2 o ho).1⟩
      rw [List.getElem?_append_right (by rw [List.length_take]; omega), List.length_take, Nat.min_eq_left (by omega), List.getElem?_drop]
      exact hb
  refine ⟨va, vb, r', h', a1, b1, e1, ⟨_, e2, e3, fun o ho => ?_, ⟨?_, fun i y b hy hb => ?_⟩, fun y hy o ho => ?_⟩, q, lo⟩
  · rcases e4 o ho with h5 | h5
    · exact x.fr o (a4 o h5)
    · omega
  · simp [x.len]
  · obtain ⟨b', hb', g1, _⟩ := key i y hy
    rw [hb] at hb'; cases hb'
    exact g1.keep hl q
  · obtain ⟨i, hi⟩ := List.getElem?_of_mem hy
    obtain ⟨b', _, _, g2⟩ := key i y hi
    exact g2 o ho
end Go.Proofs.Yteokopjiaiflnaa

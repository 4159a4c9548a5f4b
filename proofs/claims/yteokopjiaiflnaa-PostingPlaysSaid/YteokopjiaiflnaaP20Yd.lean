/- Rows of blocks that are read; the reference's Add. -/
import Derived.Test.YteokopjiaiflnaaP20Yc
namespace Go.Proofs.Yteokopjiaiflnaa
open Go.Vm
set_option linter.unusedSimpArgs false
set_option linter.unusedVariables false
set_option maxRecDepth 100000
variable {T : Vm.Prog} {h : AH}
/-- A row of blocks in new memory; the blocks may be read. -/
def RowB (N : Nat) (h : AH) (r : AV) (bs : List (List Int)) : Prop := ∃ xs, Row1 h r xs ∧ (∀ o ∈ objs r, N ≤ o) ∧ xs.length = bs.length ∧ ∀ (i : Nat) x b, xs[i]? = some x → bs[i]? = some b → BlkV h x b ∧ (∀ o ∈ objs x, N ≤ o ∧ o ∉ objs r)
theorem Fresh.rowB {N : Nat} {r : AV} {bs : List (List Int)} (f : Fresh N h r bs) : RowB N h r bs := by
  obtain ⟨xs, a1, a2, a3, a4⟩ := f
  exact ⟨xs, a1, a2, a3, fun i x b hx hb => ⟨⟨(a4 i x b hx hb).1.sees, row_cap (a4 i x b hx hb).1⟩, (a4 i x b hx hb).2⟩⟩
theorem RowB.keep {N : Nat} {h' : AH} {r : AV} {bs : List (List Int)} (f : RowB N h r bs) (hl : Low h) (q : Quiet h h') : RowB N h' r bs := by
  obtain ⟨xs, r1, fr, ex, hxs⟩ := f
  exact ⟨xs, row_quiet r1 hl q, fr, ex, fun i z b hz hb => ⟨(hxs i z b hz hb).1.keep hl q, (hxs i z b hz hb).2⟩⟩
theorem RowB.mono {N M : Nat} {r : AV} {bs : List (List Int)} (f : RowB N h r bs) (hm : M ≤ N) : RowB M h r bs := by
  obtain ⟨xs, r1, fr, ex, hxs⟩ := f
  exact ⟨xs, r1, fun o ho => Nat.le_trans hm (fr o ho), ex, fun i z b hz hb => ⟨(hxs i z b hz hb).1, fun o ho => ⟨Nat.le_trans hm ((hxs i z b hz hb).2 o ho).1, ((hxs i z b hz hb).2 o ho).2⟩⟩⟩
theorem RowB.g {N : Nat} {r : AV} {bs : List (List Int)} (f : RowB N h r bs) : BlksG (fun o => N ≤ o) h r bs := by
  obtain ⟨xs, r1, fr, ex, hxs⟩ := f
  refine ⟨xs, r1.sees, row_cap r1, fr, ⟨ex, fun i x b hx hb => (hxs i x b hx hb).1⟩, fun x hx o ho => ?_⟩
  obtain ⟨i, hi⟩ := List.getElem?_of_mem hx
  have hlt := (List.getElem?_eq_some_iff.1 hi).1
  exact ((hxs i x _ hi (List.getElem?_eq_getElem (ex ▸ hlt))).2 o ho).1
theorem BlkV.turn {h' : AH} {x : AV} {b : List Int} (s : BlkV h x b) (hk : ∀ o ∈ objs x, h'.get o = h.get o) : BlkV h' x b := by
  refine ⟨?_, s.2⟩
  rcases s.1 with ⟨rfl, h1⟩ | ⟨o, off, cap, ex, l, rw, rfl, hg, h1⟩
  · exact .inl ⟨rfl, h1⟩
  · exact .inr ⟨o, off, cap, ex, l, rw, rfl, (hk o (by simp [objs])).trans hg, h1⟩
theorem rowB_app {N : Nat} (hl : Low h) {r w : AV} {bs cs : List (List Int)} {ws : List AV} (fr : RowB N h r bs) (sw : Sees h w ws) (hN : N ≤ h.next) (hn : ws.length = cs.length)
    (hw : ∀ (i : Nat) x b, ws[i]? = some x → cs[i]? = some b → BlkV h x b ∧ (∀ o ∈ objs x, N ≤ o ∧ o ∉ objs r)) (hf : ∀ x ∈ ws, AV.flat x = true) (hs : bs.length + cs.length < 1000000) :
    ∃ r' h', appV 1 24 h r w = some (r', h') ∧ RowB N h' r' (bs ++ cs) ∧ Mods h h' (fun o => o ∈ objs r) ∧ Low h' := by
  obtain ⟨xs, r1, frr, ex, hxs⟩ := fr
  obtain ⟨r', h', ha, hr, ho, _, hm, lo⟩ := appAll24 (bytes := 24) hl r1 sw (by decide) (by decide) (by omega) hf
  have hm' : Mods h h' (fun o => o ∈ objs r) := hm.mods fun o ho => .inl ho
  have key : ∀ {x : AV} {b : List Int}, BlkV h x b → (∀ o ∈ objs x, N ≤ o ∧ o ∉ objs r) → BlkV h' x b ∧ (∀ o ∈ objs x, N ≤ o ∧ o ∉ objs r') := fun {x b} s hx => by
    have low := sees_low s.1 hl
    refine ⟨s.turn fun o hox => hm'.2 o (low o hox) (hx o hox).2, fun o hox => ⟨(hx o hox).1, fun hor => ?_⟩⟩
    rcases ho o hor with h5 | h5
    · exact (hx o hox).2 h5
    · have := low o hox; omega
  refine ⟨r', h', ha, ⟨xs ++ ws, hr, fun o hor => ?_, by simp [ex, hn], fun j z c hz hc => ?_⟩, hm', lo⟩
  · rcases ho o hor with h5 | h5
    · exact frr o h5
    · omega
  · rw [List.getElem?_append] at hz hc
    rw [ex] at hz
    by_cases hj : j < bs.length
    · rw [if_pos hj] at hz hc
      obtain ⟨g1, g2⟩ := hxs j z c hz hc
      exact key g1 g2
    · rw [if_neg hj] at hz hc
      obtain ⟨g1, g2⟩ := hw _ z c hz hc
      exact key g1 g2
theorem BlksV.head {v : AV} {bs : List (List Int)} (s : BlksV h v bs) {k : Nat} (hk : k ≤ bs.length) : ∃ v', slcV 1 v none (some (.int .i64 (k : Int))) none = some v' ∧ BlksV h v' (bs.take k) := by
  obtain ⟨vs, s1, s2, s3, s4⟩ := s
  obtain ⟨v', h1, h2, h3⟩ := sees_headC s1 s2 (n := k) (by omega) (k := .i64)
  refine ⟨v', h1, vs.take k, h2, h3, by simp [s3], fun i x b hx hb => ?_⟩
  rw [List.getElem?_take] at hx hb
  by_cases hi : i < k
  · rw [if_pos hi] at hx hb; exact s4 i x b hx hb
  · rw [if_neg hi] at hx; cases hx
theorem sees_tailC {v : AV} {xs : List AV} (s : Sees h v xs) (hc : capOk v) {n : Nat} (hn : n ≤ xs.length) : ∃ v', slcV 1 v (some (.int .i64 (n : Int))) none none = some v' ∧ Sees h v' (xs.drop n) ∧ capOk v' ∧ ∀ o ∈ objs v', o ∈ objs v := by
  rcases s with ⟨rfl, rfl⟩ | ⟨o, off, cap, ex, l, rw, rfl, hg, h1, h2⟩
  · have : n = 0 := by simpa using hn
    subst this
    exact ⟨.nilSlice, by simp [slcV, bounds, boundM, boundH, boundL, natOf, Option.filter], .inl ⟨rfl, rfl⟩, trivial, fun o ho => ho⟩
  · have hc' : xs.length ≤ cap := hc
    have hnc : n ≤ cap := by omega
    refine ⟨.slice o (if ex && decide (cap = n) then off else off + n * 1) 1 (xs.length - n) (cap - n) ex, ?_, .inr ⟨o, _, cap - n, ex, l, rw, by rw [List.length_drop], hg, ?_, fun i x hx => ?_⟩, ?_, fun o ho => by simpa [objs] using ho⟩
    · simp [slcV, bounds, boundM, boundH, boundL, natOf, Option.filter, hn, hc']
    · rw [List.length_drop]; split <;> omega
    · rw [List.getElem?_drop] at hx
      have hi := (List.getElem?_eq_some_iff.1 hx).1
      rw [if_neg (by simp; intro _ h; omega), show off + n * 1 + i = off + (n + i) by omega]
      exact h2 _ x hx
    · show xs.length - n ≤ cap - n; omega
theorem BlksV.tail {v : AV} {bs : List (List Int)} (s : BlksV h v bs) {k : Nat} (hk : k ≤ bs.length) : ∃ v', slcV 1 v (some (.int .i64 (k : Int))) none none = some v' ∧ BlksV h v' (bs.drop k) := by
  obtain ⟨vs, s1, s2, s3, s4⟩ := s
  obtain ⟨v', h1, h2, h3, _⟩ := sees_tailC s1 s2 (n := k) (by omega)
  refine ⟨v', h1, vs.drop k, h2, h3, by simp [s3], fun i x b hx hb => ?_⟩
  rw [List.getElem?_drop] at hx hb
  exact s4 _ x b hx hb
/-- A copied tail behind a row. -/
theorem rowB_copied {N : Nat} {h0 : AH} (lo0 : Low h0) (q : Quiet h0 h) (hl : Low h) {r w : AV} {bs cs : List (List Int)} (fr : RowB N h0 r bs) (ap : Apart h0.next h w cs) (hN : N ≤ h0.next) (hs : bs.length + cs.length < 1000000) :
    ∃ r' h', appV 1 24 h r w = some (r', h') ∧ RowB N h' r' (bs ++ cs) ∧ Mods h h' (fun o => o ∈ objs r) ∧ Low h' := by
  obtain ⟨ws, a1, a2, a3, a4, _⟩ := ap
  have rlow : ∀ o ∈ objs r, o < h0.next := by obtain ⟨xs, r1, _⟩ := fr; exact RowS.low r1 lo0
  refine rowB_app hl (fr.keep lo0 q) a1.sees (by have := q.1; omega) a3 (fun i x b hx hb => ?_) (fun x hx => ?_) hs
  · obtain ⟨g1, g2⟩ := a4 i x b hx hb
    exact ⟨⟨g1.sees, row_cap g1⟩, fun o ho => ⟨by have := (g2 o ho).1; omega, fun hor => by have := (g2 o ho).1; have := rlow o hor; omega⟩⟩
  · obtain ⟨i, hi⟩ := List.getElem?_of_mem hx
    have hlt := (List.getElem?_eq_some_iff.1 hi).1
    exact (sees_cell (a4 i x _ hi (List.getElem?_eq_getElem (a3 ▸ hlt))).1.sees).2
/-- What the reference's loop has built after so many numbers. -/
def part (B : List Int) (id : Int) (j : Nat) : List Int := if pos B id < j then B.take (pos B id) ++ [id] ++ (B.drop (pos B id)).take (j - pos B id) else B.take j
theorem part_next {B : List Int} {id y : Int} {j : Nat} (hy : B[j]? = some y) (hp : pos B id < j) : part B id (j + 1) = part B id j ++ [y] := by
  unfold part
  rw [if_pos hp, if_pos (by omega), show j + 1 - pos B id = (j - pos B id) + 1 by omega, take_snoc (i := j - pos B id) (x := y) (by rw [List.getElem?_drop, show pos B id + (j - pos B id) = j by omega]; exact hy)]
  simp
theorem part_put {B : List Int} {id y : Int} {j : Nat} (hy : B[j]? = some y) (hp : pos B id = j) : part B id (j + 1) = part B id j ++ [id] ++ [y] := by
  have e1 : part B id j = B.take j := by unfold part; rw [if_neg (by omega)]
  have e2 : (B.drop j).take 1 = [y] := by
    have := take_snoc (i := 0) (x := y) (l := B.drop j) (by rw [List.getElem?_drop]; exact hy)
    simpa using this
  rw [e1]
  unfold part
  rw [if_pos (by omega), hp, show j + 1 - j = 1 by omega, e2]
theorem part_low {B : List Int} {id y : Int} {j : Nat} (hy : B[j]? = some y) (hp : j < pos B id) : part B id (j + 1) = part B id j ++ [y] := by
  unfold part
  rw [if_neg (by omega), if_neg (by omega), take_snoc hy]
theorem part_len (B : List Int) (id : Int) (j : Nat) : (part B id j).length ≤ j + 1 := by
  have := pos_le B id
  unfold part
  split
  · simp; omega
  · simp; omega
end Go.Proofs.Yteokopjiaiflnaa

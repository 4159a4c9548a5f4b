/- Parts of rows; a row with one element left out. -/
import Derived.Test.YteokopjiaiflnaaVmZv
namespace Go.Vm
open Go.RowKit
set_option linter.unusedSimpArgs false
set_option linter.unusedVariables false
variable {T : Prog} {h : AH}
theorem sees_keep {h' : AH} {v : AV} {xs : List AV} (s : Sees h v xs) (hl : Low h) (q : Quiet h h') : Sees h' v xs := by
  exact ((Sees.res s hl).quiet q).holds
theorem sees_beq {v : AV} {xs : List AV} (s : Sees h v xs) : AV.beq v v = true := by
  rcases s with ⟨rfl, _⟩ | ⟨o, off, cap, ex, l, rw, rfl, _⟩ <;> simp [AV.beq]
theorem sees_cell {v : AV} {xs : List AV} (s : Sees h v xs) : v.cells = [v] ∧ v.flat = true := by
  rcases s with ⟨rfl, _⟩ | ⟨o, off, cap, ex, l, rw, rfl, _⟩ <;> exact ⟨rfl, rfl⟩
theorem sees_low {v : AV} {xs : List AV} (s : Sees h v xs) (hl : Low h) : ∀ o ∈ objs v, o < h.next := by
  intro p hp
  rcases s with ⟨rfl, _⟩ | ⟨o, off, cap, ex, l, rw, rfl, hg, _⟩
  · simp [objs] at hp
  · simp [objs] at hp; subst hp; exact hl _ _ hg
theorem sees_get {h' : AH} {v : AV} {xs : List AV} (s : Sees h v xs) (hk : ∀ o ∈ objs v, h'.get o = h.get o) : Sees h' v xs := by
  rcases s with ⟨rfl, he⟩ | ⟨o, off, cap, ex, l, rw, rfl, hg, h1⟩
  · exact .inl ⟨rfl, he⟩
  · exact .inr ⟨o, off, cap, ex, l, rw, rfl, (hk o (by simp [objs])).trans hg, h1⟩
theorem sees_from {v : AV} {xs : List AV} (s : Sees h v xs) {n : Nat} (hn : n ≤ xs.length) {k : IntKind} : ∃ v', slcV 1 v (some (.int k (n : Int))) none none = some v' ∧ Sees h v' (xs.drop n) ∧ v'.cells = [v'] ∧ v'.flat = true ∧ AV.isDef v' = true ∨ ¬ capOk v := by
  by_cases hc : capOk v
  · rcases s with ⟨rfl, rfl⟩ | ⟨o, off, cap, ex, l, rw, rfl, hg, h1, h2⟩
    · have : n = 0 := by simpa using hn
      subst this
      exact ⟨.nilSlice, .inl ⟨by simp [slcV, bounds, boundM, boundH, boundL, natOf, Option.filter], .inl ⟨rfl, rfl⟩, rfl, rfl, rfl⟩⟩
    · have hc' : xs.length ≤ cap := hc
      refine ⟨.slice o (if (ex || false) && decide (cap = n) then off else off + n * 1) 1 (xs.length - n) (cap - n) (ex || false), .inl ⟨?_, .inr ⟨o, _, _, _, l, rw, by rw [List.length_drop], hg, ?_, ?_⟩, rfl, rfl, rfl⟩⟩
      · simp [slcV, bounds, boundM, boundH, boundL, natOf, Option.filter, hn]
      · rw [List.length_drop]; split <;> omega
      · intro i x hx
        have hi := (List.getElem?_eq_some_iff.1 hx).1
        rw [List.length_drop] at hi
        rw [List.getElem?_drop] at hx
        rw [if_neg (by simp; intro _; omega), show off + n * 1 + i = off + (n + i) by omega]
        exact h2 _ _ hx
  · exact ⟨.nilSlice, .inr hc⟩
theorem sees_tail {v : AV} {xs : List AV} (s : Sees h v xs) (hc : capOk v) {n : Nat} (hn : n ≤ xs.length) {k : IntKind} : ∃ v', slcV 1 v (some (.int k (n : Int))) none none = some v' ∧ Sees h v' (xs.drop n) ∧ v'.cells = [v'] ∧ v'.flat = true ∧ AV.isDef v' = true := by
  obtain ⟨v', h1 | h1⟩ := sees_from s hn (k := k)
  · exact ⟨v', h1⟩
  · exact absurd hc h1
theorem sees_head {v : AV} {xs : List AV} (s : Sees h v xs) (hc : capOk v) {n : Nat} (hn : n ≤ xs.length) {k : IntKind} : ∃ v', slcV 1 v none (some (.int k (n : Int))) none = some v' ∧ Sees h v' (xs.take n) ∧ v'.cells = [v'] ∧ v'.flat = true ∧ AV.isDef v' = true := by
  obtain ⟨v', h1, h2, _, h4, h5⟩ := s.upto hc hn (k := k)
  refine ⟨v', h1, h2, h4, h5, ?_⟩
  rcases h2 with ⟨rfl, _⟩ | ⟨_, _, _, _, _, _, rfl, _⟩ <;> rfl
theorem row_cap {v : AV} {xs : List AV} (r : Row1 h v xs) : capOk v := by
  rcases r with ⟨rfl, _⟩ | ⟨o, cap, ex, l, rfl, hg, h1, h2, h3⟩
  · trivial
  · exact h2
/-- A row with one element left out: two appends to a new one. -/
theorem splice {v : AV} {xs : List AV} {k bytes : Nat} (hl : Low h) (r : Row1 h v xs) (hk : k < xs.length) (hs : xs.length < 400000) (hf : ∀ x ∈ xs, AV.flat x = true) (hb : bytes ≤ 8) (hb0 : 0 < bytes) :
    ∃ va vb v1 h1 v2 h2, slcV 1 v none (some (.int .i64 (k : Int))) none = some va ∧ slcV 1 v (some (.int .i64 ((k + 1 : Nat) : Int))) none none = some vb ∧
      appV 1 bytes (h.new (.cells [] true)) (.slice h.next 0 1 0 0 true) va = some (v1, h1) ∧ appV 1 bytes h1 v1 vb = some (v2, h2) ∧ Row1 h2 v2 (xs.take k ++ xs.drop (k + 1)) ∧ Quiet h h2 ∧ Low h2 ∧ ∀ o ∈ objs v2, h.next ≤ o := by
  obtain ⟨va, sla, sa, ca, fa1, da⟩ := sees_head r.sees (row_cap r) (n := k) (by omega) (k := .i64)
  obtain ⟨vb, slb, sb, cb, fb1, db⟩ := sees_tail r.sees (row_cap r) (n := k + 1) (by omega) (k := .i64)
  have qe : Quiet h (h.new (.cells [] true)) := (Quiet.refl _).new _
  have loe : Low (h.new (.cells [] true)) := hl.new _
  have re : Row1 (h.new (.cells [] true)) (.slice h.next 0 1 0 0 true) [] := row1_of get_new_same rfl rfl (Nat.le_refl _) (fun i x h => by simp at h)
  have nxe : (h.new (.cells [] true)).next = h.next + 1 := rfl
  obtain ⟨v8, h8, ha8, hr8, ho8, hlt8, on8, lo8⟩ := row1_appendAll (bytes := bytes) loe re (sees_keep sa hl qe) hb hb0 (by simp; omega) (fun y hy => hf y (List.mem_of_mem_take hy))
  have hn8 := on8.1
  have sb8 : Sees h8 vb (xs.drop (k + 1)) := sees_get (sees_keep sb hl qe) fun o ho => by
    have := sees_low sb hl o ho
    exact on8.2 o (by omega) (fun hm => by simp [objs] at hm; omega)
  obtain ⟨v9, h9, ha9, hr9, ho9, hlt9, on9, lo9⟩ := row1_appendAll (bytes := bytes) lo8 hr8 sb8 hb hb0 (by simp; omega) (fun y hy => hf y (List.mem_of_mem_drop hy))
  have hn9 := on9.1
  refine ⟨va, vb, v8, h8, v9, h9, sla, slb, ha8, ha9, by simpa using hr9, ⟨by omega, fun o ho _ => ?_⟩, lo9, fun o ho => ?_⟩
  · rw [on9.2 o (by omega) (fun hm => by
      rcases ho8 o hm with h1 | h1
      · simp [objs] at h1; omega
      · omega), on8.2 o (by omega) (fun hm => by simp [objs] at hm; omega), AH.get_new, if_neg (by omega)]
  · rcases ho9 o ho with h1 | h1
    · rcases ho8 o h1 with h2 | h2
      · simp [objs] at h2; omega
      · omega
    · omega
end Go.Vm

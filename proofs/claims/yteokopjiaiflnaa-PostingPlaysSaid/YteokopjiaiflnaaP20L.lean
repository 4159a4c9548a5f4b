/- Blocks of rising numbers: where a number stands; plain lists. -/
import Derived.Test.YteokopjiaiflnaaP20C
namespace Go.Proofs.Yteokopjiaiflnaa
open Go.Vm
set_option linter.unusedSimpArgs false
set_option linter.unusedVariables false
theorem cnt_iff {α : Type} {p : α → Bool} : ∀ {l : List α}, l.Pairwise (fun a b => p b = true → p a = true) → ∀ {j : Nat} {x : α}, l[j]? = some x → (j < l.countP p ↔ p x = true)
  | [], _, j, x, hx => by simp at hx
  | y :: ys, hp, j, x, hx => by
    obtain ⟨h1, h2⟩ := List.pairwise_cons.1 hp
    rw [List.countP_cons]
    have h0 : p y = false → ys.countP p = 0 := by
      intro hy
      rw [List.countP_eq_zero]
      intro a ha hpa
      rw [h1 a ha hpa] at hy; cases hy
    cases j with
    | zero =>
      simp at hx; subst hx
      cases hy : p y
      · simp [h0 hy]
      · simp
    | succ j =>
      simp at hx
      have := cnt_iff h2 hx
      cases hy : p y
      · have hx' : p x = false := by
          cases hpx : p x
          · rfl
          · rw [h1 x (List.mem_of_getElem? hx) hpx] at hy; cases hy
        simp [h0 hy, hx']
      · simp; exact this
/-- The first of a block. -/
def hd (b : List Int) : Int := b.headD 0
/-- How many blocks begin with a number or less. -/
def bcnt (bs : List (List Int)) (id : Int) : Nat := bs.countP (fun b => decide (hd b ≤ id))
def kOf (bs : List (List Int)) (id : Int) : Nat := bcnt bs id - 1
structure Good (bs : List (List Int)) : Prop where
  ne : ∀ b ∈ bs, b ≠ []
  rise : Rise bs.flatten
  small : bs.flatten.length < 100000
theorem Good.len {bs : List (List Int)} (g : Good bs) : bs.length < 100000 := by
  have : ∀ {l : List (List Int)}, (∀ b ∈ l, b ≠ []) → l.length ≤ l.flatten.length := by
    intro l
    induction l with
    | nil => intro _; simp
    | cons b r ih =>
      intro hne
      have h1 := ih fun c hc => hne c (List.mem_cons_of_mem _ hc)
      have h2 : 0 < b.length := List.length_pos_iff.2 (hne b (List.mem_cons_self ..))
      simp only [List.flatten_cons, List.length_append, List.length_cons]; omega
  have := this g.ne
  have := g.small
  omega
theorem split_at {bs : List (List Int)} {k : Nat} {b : List Int} (hb : bs[k]? = some b) : bs.flatten = (bs.take k).flatten ++ (b ++ (bs.drop (k + 1)).flatten) := by
  obtain ⟨h1, rfl⟩ := List.getElem?_eq_some_iff.1 hb
  conv => lhs; rw [← List.take_append_drop k bs, List.flatten_append, List.drop_eq_getElem_cons h1, List.flatten_cons]
theorem Good.block {bs : List (List Int)} (g : Good bs) {k : Nat} {b : List Int} (hb : bs[k]? = some b) : b ≠ [] ∧ Rise b ∧ b.length < 100000 := by
  have e := split_at hb
  have r := g.rise
  have s := g.small
  refine ⟨g.ne b (List.mem_of_getElem? hb), ?_, ?_⟩
  · rw [e] at r
    exact (List.pairwise_append.1 (List.pairwise_append.1 r).2.1).1
  · rw [e] at s; simp only [List.length_append] at s; omega
theorem hd_mem {b : List Int} (h : b ≠ []) : hd b ∈ b := by
  cases b with
  | nil => exact absurd rfl h
  | cons x r => simp [hd]
theorem hd_le {b : List Int} (r : Rise b) {x : Int} (hx : x ∈ b) : hd b ≤ x := by
  cases b with
  | nil => simp at hx
  | cons y r' =>
    simp only [hd, List.headD_cons]
    rcases List.mem_cons.1 hx with rfl | hx
    · exact Int.le_refl _
    · exact Int.le_of_lt ((List.pairwise_cons.1 r).1 x hx)
/-- Elements of an earlier block are less. -/
theorem Good.across {bs : List (List Int)} (g : Good bs) {i j : Nat} {b c : List Int} (hb : bs[i]? = some b) (hc : bs[j]? = some c) (hij : i < j) {x y : Int} (hx : x ∈ b) (hy : y ∈ c) : x < y := by
  have r := g.rise
  rw [split_at hc] at r
  obtain ⟨_, _, h3⟩ := List.pairwise_append.1 r
  refine h3 x ?_ y (List.mem_append.2 (.inl hy))
  rw [List.mem_flatten]
  refine ⟨b, ?_, hx⟩
  have : (bs.take j)[i]? = some b := by rw [List.getElem?_take, if_pos hij]; exact hb
  exact List.mem_of_getElem? this
theorem Good.heads {bs : List (List Int)} (g : Good bs) (id : Int) : bs.Pairwise (fun a b => decide (hd b ≤ id) = true → decide (hd a ≤ id) = true) := by
  rw [List.pairwise_iff_getElem]
  intro i j hi hj hij h
  have h1 : bs[i]? = some bs[i] := List.getElem?_eq_getElem hi
  have h2 : bs[j]? = some bs[j] := List.getElem?_eq_getElem hj
  have := g.across h1 h2 hij (hd_mem (g.block h1).1) (hd_mem (g.block h2).1)
  simp only [decide_eq_true_eq] at h ⊢
  omega
theorem bcnt_le (bs : List (List Int)) (id : Int) : bcnt bs id ≤ bs.length := List.countP_le_length
theorem Good.bcnt_iff {bs : List (List Int)} (g : Good bs) {id : Int} {j : Nat} {b : List Int} (hb : bs[j]? = some b) : j < bcnt bs id ↔ hd b ≤ id := by
  have := cnt_iff (g.heads id) hb
  simpa [bcnt] using this
theorem kOf_lt {bs : List (List Int)} (hne : bs ≠ []) (id : Int) : kOf bs id < bs.length := by
  have := bcnt_le bs id
  have := List.length_pos_iff.2 hne
  unfold kOf; omega
/-- What stands before the block is less; what stands behind it is greater. -/
theorem Good.around {bs : List (List Int)} (g : Good bs) {id : Int} {b : List Int} (hb : bs[kOf bs id]? = some b) :
    (∀ x ∈ (bs.take (kOf bs id)).flatten, x < id) ∧ (∀ x ∈ (bs.drop (kOf bs id + 1)).flatten, id < x) := by
  constructor
  · intro x hx
    obtain ⟨c, hc, hxc⟩ := List.mem_flatten.1 hx
    obtain ⟨j, hj⟩ := List.getElem?_of_mem hc
    rw [List.getElem?_take] at hj
    split at hj
    · rename_i hlt
      have h1 := g.across hj hb hlt hxc (hd_mem (g.block hb).1)
      have h2 : kOf bs id < bcnt bs id := by unfold kOf at *; omega
      have := (g.bcnt_iff hb).1 h2
      omega
    · cases hj
  · intro x hx
    obtain ⟨c, hc, hxc⟩ := List.mem_flatten.1 hx
    obtain ⟨j, hj⟩ := List.getElem?_of_mem hc
    rw [List.getElem?_drop] at hj
    have h1 : ¬ kOf bs id + 1 + j < bcnt bs id := by unfold kOf; omega
    have h2 : ¬ hd c ≤ id := fun h => h1 ((g.bcnt_iff hj).2 h)
    have h3 := hd_le (g.block hj).2.1 hxc
    omega
theorem Good.mem_iff {bs : List (List Int)} (g : Good bs) {id : Int} {b : List Int} (hb : bs[kOf bs id]? = some b) : id ∈ bs.flatten ↔ id ∈ b := by
  obtain ⟨h1, h2⟩ := g.around hb
  rw [split_at hb]
  simp only [List.mem_append]
  constructor
  · rintro (h | h | h)
    · have := h1 _ h; omega
    · exact h
    · have := h2 _ h; omega
  · intro h; exact .inr (.inl h)
theorem Good.pos {bs : List (List Int)} (g : Good bs) {id : Int} {b : List Int} (hb : bs[kOf bs id]? = some b) : Yteokopjiaiflnaa.pos bs.flatten id = (bs.take (kOf bs id)).flatten.length + Yteokopjiaiflnaa.pos b id := by
  obtain ⟨h1, h2⟩ := g.around hb
  unfold Yteokopjiaiflnaa.pos
  rw [split_at hb, List.countP_append, List.countP_append]
  have e1 : (bs.take (kOf bs id)).flatten.countP (fun x => decide (x < id)) = (bs.take (kOf bs id)).flatten.length := by
    rw [List.countP_eq_length]; intro x hx; simpa using h1 x hx
  have e2 : (bs.drop (kOf bs id + 1)).flatten.countP (fun x => decide (x < id)) = 0 := by
    rw [List.countP_eq_zero]; intro x hx; have := h2 x hx; simp; omega
  rw [e1, e2]; omega
end Go.Proofs.Yteokopjiaiflnaa

/- Heaps of numbers in a list: plain facts, no program in sight. -/
namespace Go.Vm
set_option linter.unusedSimpArgs false
set_option linter.unusedVariables false
/-- An element, 0 beyond. -/
def at0 (L : List Int) (i : Nat) : Int := L.getD i 0
def swp (L : List Int) (a b : Nat) : List Int := (L.set a (at0 L b)).set b (at0 L a)
theorem swp_len (L : List Int) (a b : Nat) : (swp L a b).length = L.length := by simp [swp]
theorem at0_some {L : List Int} {i : Nat} (h : i < L.length) : L[i]? = some (at0 L i) := by
  rw [List.getElem?_eq_getElem h]; simp [at0, h]
theorem at0_of {L : List Int} {i : Nat} {x : Int} (h : L[i]? = some x) : at0 L i = x := by simp [at0, h]
theorem swp_get {L : List Int} {a b : Nat} (ha : a < L.length) (hb : b < L.length) (i : Nat) : at0 (swp L a b) i = if i = b then at0 L a else if i = a then at0 L b else at0 L i := by
  unfold swp at0
  simp only [List.getD_eq_getElem?_getD, List.getElem?_set, List.length_set]
  by_cases e1 : b = i
  · subst e1; simp [hb]
  · by_cases e2 : a = i
    · subst e2; simp [e1, ha, Ne.symm e1]
    · simp [e1, e2, Ne.symm e1, Ne.symm e2]
theorem swp_count {L : List Int} {a b : Nat} (ha : a < L.length) (hb : b < L.length) (x : Int) : (swp L a b).count x = L.count x := by
  have ga : L[a] = at0 L a := by simp [at0, ha]
  have gb : L[b] = at0 L b := by simp [at0, hb]
  have hpa : 0 < L.count (at0 L a) := List.count_pos_iff.2 (by rw [← ga]; exact List.getElem_mem _)
  have hpb : 0 < L.count (at0 L b) := List.count_pos_iff.2 (by rw [← gb]; exact List.getElem_mem _)
  unfold swp
  rw [List.count_set (by simpa using hb), List.count_set ha]
  have h3 : (L.set a (at0 L b))[b]'(by simpa using hb) = at0 L b := by
    rw [List.getElem_set]; split
    · rfl
    · exact gb
  rw [h3, ga]
  by_cases e1 : at0 L a = x
  · by_cases e2 : at0 L b = x
    · simp only [e1, e2, beq_self_eq_true, if_true]; have := e1 ▸ hpa; omega
    · have e2' : (at0 L b == x) = false := by simpa using e2
      simp only [e1, e2', beq_self_eq_true, if_true, Bool.false_eq_true, if_false]; have := e1 ▸ hpa; omega
  · have e1' : (at0 L a == x) = false := by simpa using e1
    by_cases e2 : at0 L b = x
    · simp only [e1', e2, beq_self_eq_true, if_true, Bool.false_eq_true, if_false]; have := e2 ▸ hpb; omega
    · have e2' : (at0 L b == x) = false := by simpa using e2
      simp only [e1', e2', Bool.false_eq_true, if_false]; omega
theorem swp_perm {L : List Int} {a b : Nat} (ha : a < L.length) (hb : b < L.length) : (swp L a b).Perm L := List.perm_iff_count.2 (swp_count ha hb)
/-- Each is no less than the one above it. -/
def HP (L : List Int) : Prop := ∀ i, 0 < i → i < L.length → at0 L ((i - 1) / 2) ≤ at0 L i
/-- All but one, which may be too small for where it is. -/
def HPu (L : List Int) (j : Nat) : Prop := (∀ i, 0 < i → i < L.length → i ≠ j → at0 L ((i - 1) / 2) ≤ at0 L i) ∧ ∀ i, 0 < i → i < L.length → (i - 1) / 2 = j → 0 < j → at0 L ((j - 1) / 2) ≤ at0 L i
theorem HPu.done {L : List Int} {j : Nat} (h : HPu L j) (hj : j = 0 ∨ at0 L ((j - 1) / 2) ≤ at0 L j) : HP L := by
  intro i h1 h2
  by_cases e : i = j
  · subst e
    rcases hj with hj | hj
    · omega
    · exact hj
  · exact h.1 i h1 h2 e
theorem HPu.step {L : List Int} {j : Nat} (h : HPu L j) (h0 : 0 < j) (hj : j < L.length) (hlt : at0 L j < at0 L ((j - 1) / 2)) : HPu (swp L ((j - 1) / 2) j) ((j - 1) / 2) := by
  have hp : (j - 1) / 2 < L.length := by omega
  have hne : (j - 1) / 2 ≠ j := by omega
  constructor
  · intro i h1 h2 h3
    rw [swp_len] at h2
    rw [swp_get hp hj, swp_get hp hj]
    by_cases e1 : i = j
    · subst e1
      rw [if_pos rfl, if_neg hne, if_pos rfl]; omega
    · rw [if_neg e1, if_neg h3]
      by_cases e2 : (i - 1) / 2 = j
      · rw [if_pos e2]; exact h.2 i h1 h2 e2 h0
      · rw [if_neg e2]
        have := h.1 i h1 h2 e1
        by_cases e3 : (i - 1) / 2 = (j - 1) / 2
        · rw [if_pos e3]; rw [e3] at this; omega
        · rw [if_neg e3]; exact this
  · intro i h1 h2 h3 h4
    rw [swp_len] at h2
    rw [swp_get hp hj, swp_get hp hj]
    have e0 : ((j - 1) / 2 - 1) / 2 ≠ j := by omega
    have e0' : ((j - 1) / 2 - 1) / 2 ≠ (j - 1) / 2 := by omega
    rw [if_neg e0, if_neg e0']
    have hpar := h.1 ((j - 1) / 2) h4 hp hne
    by_cases e1 : i = j
    · subst e1; rw [if_pos rfl]; exact hpar
    · have e2 : i ≠ (j - 1) / 2 := by omega
      rw [if_neg e1, if_neg e2]
      have := h.1 i h1 h2 e1
      rw [h3] at this; omega
theorem HP.root {L : List Int} (h : HP L) : ∀ i, i < L.length → at0 L 0 ≤ at0 L i := by
  intro i
  induction i using Nat.strongRecOn with
  | _ i ih =>
    intro hi
    by_cases e : i = 0
    · subst e; exact Int.le_refl _
    · have h1 := ih ((i - 1) / 2) (by omega) (by omega)
      have h2 := h i (by omega) hi
      omega
/-- All but one of the first n, which may be too great for where it is. -/
def HPd (L : List Int) (n i : Nat) : Prop := (∀ c, 0 < c → c < n → (c - 1) / 2 ≠ i → at0 L ((c - 1) / 2) ≤ at0 L c) ∧ ∀ c, 0 < i → 0 < c → c < n → (c - 1) / 2 = i → at0 L ((i - 1) / 2) ≤ at0 L c
theorem HPd.done {L : List Int} {n i : Nat} (h : HPd L n i) (hn : n ≤ L.length) (hi : ∀ c, 0 < c → c < n → (c - 1) / 2 = i → at0 L i ≤ at0 L c) : HP (L.take n) := by
  intro c h1 h2
  have h2 : c < n := by simp at h2; omega
  have e : ∀ k, k < n → at0 (L.take n) k = at0 L k := by
    intro k hk; simp [at0, List.getD_eq_getElem?_getD, List.getElem?_take, hk]
  rw [e _ (by omega), e _ h2]
  by_cases e1 : (c - 1) / 2 = i
  · rw [e1]; exact hi c h1 h2 e1
  · exact h.1 c h1 h2 e1
theorem HPd.step {L : List Int} {n i j : Nat} (h : HPd L n i) (hn : n ≤ L.length) (hj : j < n) (hji : (j - 1) / 2 = i) (hj0 : 0 < j) (hlt : at0 L j < at0 L i) (hmin : ∀ c, 0 < c → c < n → (c - 1) / 2 = i → at0 L j ≤ at0 L c) : HPd (swp L i j) n j := by
  have hi : i < L.length := by omega
  have hjl : j < L.length := by omega
  have hne : i ≠ j := by omega
  constructor
  · intro c h1 h2 h3
    rw [swp_get hi hjl, swp_get hi hjl, if_neg h3]
    by_cases e1 : c = j
    · subst e1
      rw [if_pos rfl, if_pos hji]; omega
    · rw [if_neg e1]
      by_cases e2 : (c - 1) / 2 = i
      · rw [if_pos e2]
        have e3 : c ≠ i := by omega
        rw [if_neg e3]; exact hmin c h1 h2 e2
      · rw [if_neg e2]
        by_cases e3 : c = i
        · subst e3
          rw [if_pos rfl]
          exact h.2 j h1 hj0 hj hji
        · rw [if_neg e3]; exact h.1 c h1 h2 e2
  · intro c h0 h1 h2 h3
    rw [swp_get hi hjl, swp_get hi hjl, hji]
    rw [if_neg hne, if_pos rfl, if_neg (show c ≠ j by omega), if_neg (show c ≠ i by omega)]
    have := h.1 c h1 h2 (by omega)
    rw [h3] at this; exact this
/-- The last one to the root. -/
theorem HP.toTop {L : List Int} (h : HP L) {n : Nat} (hn : L.length = n + 1) : HPd (swp L 0 n) n 0 := by
  constructor
  · intro c h1 h2 h3
    rw [swp_get (by omega) (by omega), swp_get (by omega) (by omega)]
    rw [if_neg (by omega), if_neg h3, if_neg (by omega), if_neg (by omega)]
    exact h c h1 (by omega)
  · intro c h0; omega
theorem HP.push {L : List Int} (h : HP L) (x : Int) : HPu (L ++ [x]) L.length := by
  have e : ∀ k, k < L.length → at0 (L ++ [x]) k = at0 L k := by
    intro k hk; simp [at0, List.getD_eq_getElem?_getD, List.getElem?_append_left hk]
  constructor
  · intro i h1 h2 h3
    simp at h2
    rw [e _ (by omega), e _ (by omega)]
    exact h i h1 (by omega)
  · intro i h1 h2 h3 h4
    simp at h2; omega
end Go.Vm

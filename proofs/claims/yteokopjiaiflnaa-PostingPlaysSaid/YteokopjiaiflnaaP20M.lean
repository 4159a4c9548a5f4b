/- What Of, Add and Remove make of the numbers; plain lists. -/
import Derived.Test.YteokopjiaiflnaaP20J
namespace Go.Proofs.Yteokopjiaiflnaa
open Go.Vm
set_option linter.unusedSimpArgs false
set_option linter.unusedVariables false
def ins (L : List Int) (id : Int) : List Int := L.take (pos L id) ++ [id] ++ L.drop (pos L id)
def cut (L : List Int) (id : Int) : List Int := L.take (pos L id) ++ L.drop (pos L id + 1)
theorem take_lt {L : List Int} (r : Rise L) {id x : Int} (hx : x ∈ L.take (pos L id)) : x < id := by
  obtain ⟨j, hj⟩ := List.getElem?_of_mem hx
  rw [List.getElem?_take] at hj
  split at hj
  · exact (pos_iff r hj).1 ‹_›
  · cases hj
theorem drop_ge {L : List Int} (r : Rise L) {id x : Int} (hx : x ∈ L.drop (pos L id)) : id ≤ x := by
  obtain ⟨j, hj⟩ := List.getElem?_of_mem hx
  rw [List.getElem?_drop] at hj
  have := pos_iff r (t := id) hj
  have h2 : ¬ x < id := fun hh => by have := this.2 hh; omega
  omega
theorem mem_split {L : List Int} (n : Nat) {x : Int} : x ∈ L ↔ x ∈ L.take n ∨ x ∈ L.drop n := by
  conv => lhs; rw [← List.take_append_drop n L]
  exact List.mem_append
theorem mem_ins {L : List Int} {id x : Int} : x ∈ ins L id ↔ x = id ∨ x ∈ L := by
  rw [mem_split (L := L) (pos L id)]
  simp only [ins, List.mem_append, List.mem_singleton]
  constructor
  · rintro ((h | h) | h)
    · exact .inr (.inl h)
    · exact .inl h
    · exact .inr (.inr h)
  · rintro (h | h | h)
    · exact .inl (.inr h)
    · exact .inl (.inl h)
    · exact .inr h
theorem ins_len (L : List Int) (id : Int) : (ins L id).length = L.length + 1 := by
  have := pos_le L id
  simp [ins]; omega
theorem ins_rise {L : List Int} (r : Rise L) {id : Int} (hid : id ∉ L) : Rise (ins L id) := by
  have r' : (L.take (pos L id) ++ L.drop (pos L id)).Pairwise (· < ·) := by rw [List.take_append_drop]; exact r
  obtain ⟨r1, r2, r3⟩ := List.pairwise_append.1 r'
  have hd : ∀ x ∈ L.drop (pos L id), id < x := fun x hx => by
    have := drop_ge r hx
    have : x ≠ id := fun e => hid (e ▸ List.mem_of_mem_drop hx)
    omega
  unfold ins Rise
  rw [List.append_assoc]
  refine List.pairwise_append.2 ⟨r1, ?_, ?_⟩
  · exact List.pairwise_cons.2 ⟨fun x hx => hd x hx, r2⟩
  · intro x hx y hy
    rcases List.mem_cons.1 hy with rfl | hy
    · exact take_lt r hx
    · exact r3 x hx y hy
theorem pos_mem {L : List Int} (r : Rise L) {id : Int} (hid : id ∈ L) : L[pos L id]? = some id := by
  obtain ⟨j, hj⟩ := List.getElem?_of_mem hid
  have h1 := pos_iff r (t := id) hj
  have h2 : ¬ j < pos L id := fun h => by have := h1.1 h; omega
  have hl := (List.getElem?_eq_some_iff.1 hj).1
  obtain ⟨x, hx⟩ : ∃ x, L[pos L id]? = some x := ⟨_, List.getElem?_eq_getElem (by omega)⟩
  have h3 := pos_iff r (t := id) hx
  have h4 : ¬ x < id := fun h => by have := h3.2 h; omega
  by_cases e : j = pos L id
  · subst e; exact hj
  · have := r.at hx hj (by omega); omega
theorem cut_len {L : List Int} (r : Rise L) {id : Int} (hid : id ∈ L) : (cut L id).length + 1 = L.length := by
  have := (List.getElem?_eq_some_iff.1 (pos_mem r hid)).1
  simp [cut]; omega
theorem cut_rise {L : List Int} (r : Rise L) (id : Int) : Rise (cut L id) := by
  have r' : (L.take (pos L id) ++ L.drop (pos L id)).Pairwise (· < ·) := by rw [List.take_append_drop]; exact r
  obtain ⟨r1, r2, r3⟩ := List.pairwise_append.1 r'
  have hsub : ∀ y ∈ L.drop (pos L id + 1), y ∈ L.drop (pos L id) := fun y hy => by
    rw [← List.drop_drop] at hy; exact List.mem_of_mem_drop hy
  refine List.pairwise_append.2 ⟨r1, ?_, fun x hx y hy => r3 x hx y (hsub y hy)⟩
  rw [← List.drop_drop]
  exact List.Pairwise.drop r2
theorem mem_cut {L : List Int} (r : Rise L) {id : Int} (hid : id ∈ L) {x : Int} : x ∈ cut L id ↔ x ∈ L ∧ x ≠ id := by
  have hp := pos_mem r hid
  have hl := (List.getElem?_eq_some_iff.1 hp).1
  have e : L = L.take (pos L id) ++ (id :: L.drop (pos L id + 1)) := by
    conv => lhs; rw [← List.take_append_drop (pos L id) L, List.drop_eq_getElem_cons hl]
    rw [(List.getElem?_eq_some_iff.1 hp).2]
  have r' := r
  rw [e] at r'
  obtain ⟨_, r2, r3⟩ := List.pairwise_append.1 r'
  have r4 := (List.pairwise_cons.1 r2).1
  constructor
  · intro hx
    rcases List.mem_append.1 hx with hx | hx
    · exact ⟨List.mem_of_mem_take hx, fun e' => by have := take_lt r hx; omega⟩
    · exact ⟨List.mem_of_mem_drop hx, fun e' => by have := r4 x hx; omega⟩
  · rintro ⟨hx, hne⟩
    rw [e] at hx
    rcases List.mem_append.1 hx with hx | hx
    · exact List.mem_append.2 (.inl hx)
    · rcases List.mem_cons.1 hx with hx | hx
      · exact absurd hx hne
      · exact List.mem_append.2 (.inr hx)
/-! ### Add -/
theorem mid_flat (bs : List (List Int)) (k j : Nat) (cs : List (List Int)) : (bs.take k ++ cs ++ bs.drop j).flatten = (bs.take k).flatten ++ cs.flatten ++ (bs.drop j).flatten := by simp [List.flatten_append]
theorem Good.insB_flat {bs : List (List Int)} (g : Good bs) (hne : bs ≠ []) (id : Int) : (bs.take (kOf bs id)).flatten ++ insB bs id ++ (bs.drop (kOf bs id + 1)).flatten = ins bs.flatten id := by
  have hb := blkAt_some hne id
  have hp := g.pos hb
  have hs := split_at hb
  have hi := pos_le (blkAt bs id) id
  unfold ins
  rw [hp, hs]
  rw [List.take_length_add_append, List.drop_length_add_append, List.take_append_of_le_length hi, List.drop_append_of_le_length hi]
  simp [insB, List.append_assoc]
theorem Good.mem_flat {bs : List (List Int)} (g : Good bs) (id : Int) : id ∈ blkAt bs id ↔ id ∈ bs.flatten := by
  by_cases hne : bs = []
  · subst hne; simp [blkAt]
  · exact (g.mem_iff (blkAt_some hne id)).symm
def addOk (bs : List (List Int)) (id : Int) : Prop := 0 ≤ id ∧ id ≤ 1073741824 ∧ id ∉ bs.flatten
theorem add_no {bs : List (List Int)} (g : Good bs) {id : Int} (h : ¬ addOk bs id) : addB bs id = (bs, false) := by
  unfold addB
  rw [if_pos]
  rw [g.mem_flat id]
  unfold addOk at h
  by_cases h1 : id < 0
  · exact .inl h1
  · by_cases h2 : 1073741824 < id
    · exact .inr (.inl h2)
    · refine .inr (.inr ?_)
      refine Classical.byContradiction fun h3 => h ⟨by omega, by omega, h3⟩
theorem insB_len (bs : List (List Int)) (id : Int) : (insB bs id).length = (blkAt bs id).length + 1 := by
  have := pos_le (blkAt bs id) id
  simp [insB]; omega
theorem add_yes {bs : List (List Int)} (g : Good bs) {id : Int} (h : addOk bs id) (hs : bs.flatten.length + 1 < 100000) : (addB bs id).2 = true ∧ (addB bs id).1.flatten = ins bs.flatten id ∧ Good (addB bs id).1 := by
  obtain ⟨h1, h2, h3⟩ := h
  have hno : ¬ (id < 0 ∨ 1073741824 < id ∨ id ∈ blkAt bs id) := by
    rw [g.mem_flat id]; rintro (h | h | h)
    · omega
    · omega
    · exact h3 h
  have good : ∀ {cs : List (List Int)}, cs.flatten = ins bs.flatten id → (∀ b ∈ cs, b ≠ []) → Good cs := fun e hne => ⟨hne, by rw [e]; exact ins_rise g.rise h3, by rw [e, ins_len]; exact hs⟩
  unfold addB
  rw [if_neg hno]
  by_cases hne : bs = []
  · subst hne
    rw [if_pos rfl]
    have e : ([[id]] : List (List Int)).flatten = ins [] id := by simp [ins, pos]
    exact ⟨rfl, e, good (by simpa using e) (by simp)⟩
  · rw [if_neg hne]
    have hf := g.insB_flat hne id
    have hl := insB_len bs id
    have hold : ∀ {b : List Int} {n : Nat}, b ∈ bs.take n → b ≠ [] := fun hb => g.ne _ (List.mem_of_mem_take hb)
    have hold' : ∀ {b : List Int} {n : Nat}, b ∈ bs.drop n → b ≠ [] := fun hb => g.ne _ (List.mem_of_mem_drop hb)
    have hbl : 0 < (blkAt bs id).length := List.length_pos_iff.2 (g.block (blkAt_some hne id)).1
    split
    · have e : (bs.take (kOf bs id) ++ [insB bs id] ++ bs.drop (kOf bs id + 1)).flatten = ins bs.flatten id := by rw [mid_flat]; simpa using hf
      refine ⟨rfl, e, good e fun b hb => ?_⟩
      rcases List.mem_append.1 hb with hb | hb
      · rcases List.mem_append.1 hb with hb | hb
        · exact hold hb
        · simp at hb; subst hb; intro e0; rw [e0] at hl; simp at hl
      · exact hold' hb
    · have e : (bs.take (kOf bs id) ++ [(insB bs id).take (halfN (insB bs id).length), (insB bs id).drop (halfN (insB bs id).length)] ++ bs.drop (kOf bs id + 1)).flatten = ins bs.flatten id := by
        rw [mid_flat]
        have : ([(insB bs id).take (halfN (insB bs id).length), (insB bs id).drop (halfN (insB bs id).length)] : List (List Int)).flatten = insB bs id := by simp
        rw [this]; exact hf
      refine ⟨rfl, e, good e fun b hb => ?_⟩
      rcases List.mem_append.1 hb with hb | hb
      · rcases List.mem_append.1 hb with hb | hb
        · exact hold hb
        · have hpos : 0 < halfN (insB bs id).length ∧ halfN (insB bs id).length < (insB bs id).length := by unfold halfN; omega
          simp at hb
          rcases hb with rfl | rfl
          · intro e0
            have := congrArg List.length e0
            rw [List.length_take, List.length_nil] at this; omega
          · intro e0
            have := congrArg List.length e0
            rw [List.length_drop, List.length_nil] at this; omega
      · exact hold' hb
/-- No block is too full. -/
def Small (bs : List (List Int)) : Prop := ∀ b ∈ bs, b.length ≤ 16
theorem add_small {bs : List (List Int)} (g : Good bs) (s : Small bs) (id : Int) : Small (addB bs id).1 := by
  unfold addB
  split
  · exact s
  · split
    · intro b hb; simp at hb; subst hb; simp
    · rename_i hno hne
      have hl := insB_len bs id
      have hb16 := s _ (List.mem_of_getElem? (blkAt_some hne id))
      split
      · rename_i h16
        intro b hb
        rcases List.mem_append.1 hb with hb | hb
        · rcases List.mem_append.1 hb with hb | hb
          · exact s _ (List.mem_of_mem_take hb)
          · simp at hb; subst hb; exact h16
        · exact s _ (List.mem_of_mem_drop hb)
      · intro b hb
        rcases List.mem_append.1 hb with hb | hb
        · rcases List.mem_append.1 hb with hb | hb
          · exact s _ (List.mem_of_mem_take hb)
          · simp at hb
            rcases hb with rfl | rfl <;> simp [halfN] <;> omega
        · exact s _ (List.mem_of_mem_drop hb)
/-! ### Remove -/
theorem Good.cutB_flat {bs : List (List Int)} (g : Good bs) {id : Int} (hid : id ∈ blkAt bs id) : (bs.take (kOf bs id)).flatten ++ cutB bs id ++ (bs.drop (kOf bs id + 1)).flatten = cut bs.flatten id := by
  have hne : bs ≠ [] := by rintro rfl; simp [blkAt] at hid
  have hb := blkAt_some hne id
  have hp := g.pos hb
  have hs := split_at hb
  have hi := (List.getElem?_eq_some_iff.1 (pos_mem (g.block hb).2.1 hid)).1
  unfold cut
  rw [hp, hs, Nat.add_assoc]
  rw [List.take_length_add_append, List.drop_length_add_append, List.take_append_of_le_length (by omega), List.drop_append_of_le_length (by omega)]
  simp [cutB, List.append_assoc]
theorem remove_no {bs : List (List Int)} (g : Good bs) {id : Int} (h : id ∉ bs.flatten) : removeB bs id = (bs, false) := by
  unfold removeB; rw [if_pos (fun hh => h ((g.mem_flat id).1 hh))]
theorem drop_two {bs : List (List Int)} {k : Nat} (hk : k + 1 < bs.length) : (bs.drop (k + 1)).flatten = nxtB bs (k + 1) ++ (bs.drop (k + 2)).flatten := by
  have h := nxtB_some hk
  have hg := (List.getElem?_eq_some_iff.1 h)
  rw [List.drop_eq_getElem_cons hg.1, List.flatten_cons, hg.2]
theorem take_one {bs : List (List Int)} {k : Nat} (hk : 0 < k) (hl : k ≤ bs.length) : (bs.take k).flatten = (bs.take (k - 1)).flatten ++ nxtB bs (k - 1) := by
  have h := nxtB_some (bs := bs) (k := k - 1) (by omega)
  have := take_snoc h
  rw [show k - 1 + 1 = k by omega] at this
  rw [this, List.flatten_append]; simp
theorem remove_yes {bs : List (List Int)} (g : Good bs) {id : Int} (h : id ∈ bs.flatten) : (removeB bs id).2 = true ∧ (removeB bs id).1.flatten = cut bs.flatten id ∧ Good (removeB bs id).1 := by
  have hid := (g.mem_flat id).2 h
  have hne : bs ≠ [] := by rintro rfl; simp at h
  have hk := kOf_lt hne id
  have hf := g.cutB_flat hid
  have hold : ∀ {b : List Int} {n : Nat}, b ∈ bs.take n → b ≠ [] := fun hb => g.ne _ (List.mem_of_mem_take hb)
  have hold' : ∀ {b : List Int} {n : Nat}, b ∈ bs.drop n → b ≠ [] := fun hb => g.ne _ (List.mem_of_mem_drop hb)
  have hcl := cut_len g.rise h
  have hsm := g.small
  have good : ∀ {cs : List (List Int)}, cs.flatten = cut bs.flatten id → (∀ b ∈ cs, b ≠ []) → Good cs := fun e hne => ⟨hne, by rw [e]; exact cut_rise g.rise id, by rw [e]; omega⟩
  unfold removeB
  rw [if_neg (fun hh => hh hid)]
  split
  · rename_i h0
    have hc : cutB bs id = [] := List.eq_nil_of_length_eq_zero h0
    have e : (bs.take (kOf bs id) ++ [] ++ bs.drop (kOf bs id + 1)).flatten = cut bs.flatten id := by rw [mid_flat]; rw [hc] at hf; simpa using hf
    refine ⟨rfl, e, good e fun b hb => ?_⟩
    simp only [List.append_nil, List.mem_append] at hb
    exact hb.elim hold hold'
  · rename_i h0
    have hc : cutB bs id ≠ [] := fun e => h0 (by rw [e]; rfl)
    split
    · rename_i hh
      have e : (bs.take (kOf bs id) ++ [cutB bs id ++ nxtB bs (kOf bs id + 1)] ++ bs.drop (kOf bs id + 2)).flatten = cut bs.flatten id := by
        rw [mid_flat, ← hf, drop_two hh.1]; simp
      refine ⟨rfl, e, good e fun b hb => ?_⟩
      rcases List.mem_append.1 hb with hb | hb
      · rcases List.mem_append.1 hb with hb | hb
        · exact hold hb
        · simp at hb; subst hb; simp [hc]
      · exact hold' hb
    · split
      · rename_i _ hh
        have e : (bs.take (kOf bs id - 1) ++ [nxtB bs (kOf bs id - 1) ++ cutB bs id] ++ bs.drop (kOf bs id + 1)).flatten = cut bs.flatten id := by
          rw [mid_flat, ← hf, take_one hh.2.1 (by omega)]; simp
        refine ⟨rfl, e, good e fun b hb => ?_⟩
        rcases List.mem_append.1 hb with hb | hb
        · rcases List.mem_append.1 hb with hb | hb
          · exact hold hb
          · simp at hb; subst hb; simp [hc]
        · exact hold' hb
      · have e : (bs.take (kOf bs id) ++ [cutB bs id] ++ bs.drop (kOf bs id + 1)).flatten = cut bs.flatten id := by rw [mid_flat]; simpa using hf
        refine ⟨rfl, e, good e fun b hb => ?_⟩
        rcases List.mem_append.1 hb with hb | hb
        · rcases List.mem_append.1 hb with hb | hb
          · exact hold hb
          · simp at hb; subst hb; exact hc
        · exact hold' hb
theorem remove_small {bs : List (List Int)} (s : Small bs) (id : Int) : Small (removeB bs id).1 := by
  have mid : ∀ {a b : Nat} {c : List Int}, c.length ≤ 16 → Small (bs.take a ++ [c] ++ bs.drop b) := fun hc x hx => by
    rcases List.mem_append.1 hx with hx | hx
    · rcases List.mem_append.1 hx with hx | hx
      · exact s _ (List.mem_of_mem_take hx)
      · simp at hx; subst hx; exact hc
    · exact s _ (List.mem_of_mem_drop hx)
  unfold removeB
  split
  · exact s
  · rename_i hid
    have hid' : id ∈ blkAt bs id := Classical.not_not.1 hid
    have hne : bs ≠ [] := by rintro rfl; simp [blkAt] at hid'
    have hb16 := s _ (List.mem_of_getElem? (blkAt_some hne id))
    split
    · intro x hx
      simp only [List.append_nil, List.mem_append] at hx
      exact hx.elim (fun h => s _ (List.mem_of_mem_take h)) fun h => s _ (List.mem_of_mem_drop h)
    · split
      · rename_i hh; exact mid (by simp; omega)
      · split
        · rename_i hh; exact mid (by simp; omega)
        · exact mid (by simp [cutB]; omega)
/-! ### Of -/
theorem OkIds.rise {ids : List Int} (o : OkIds ids) : Rise ids := by
  have step : ∀ i x y, ids[i]? = some x → ids[i + 1]? = some y → x < y := fun i x y hx hy => by
    refine Classical.byContradiction fun hn => o (i + 1) ⟨y, hy, .inr (.inr ⟨by omega, x, by simpa using hx, by omega⟩)⟩
  unfold Rise
  rw [List.pairwise_iff_getElem]
  intro i j hi hj hij
  obtain ⟨d, rfl⟩ : ∃ d, j = i + 1 + d := ⟨j - (i + 1), by omega⟩
  clear hij
  induction d with
  | zero => exact step i _ _ (List.getElem?_eq_getElem hi) (List.getElem?_eq_getElem (show i + 1 < ids.length by omega))
  | succ d ih =>
    have h1 := ih (by omega)
    have h2 := step (i + 1 + d) _ _ (List.getElem?_eq_getElem (by omega)) (List.getElem?_eq_getElem (show i + 1 + d + 1 < ids.length by omega))
    simp only [Nat.add_assoc] at h1 h2 ⊢
    omega
theorem OkIds.of {ids : List Int} (r : Rise ids) (hb : ∀ x ∈ ids, 0 ≤ x ∧ x ≤ 1073741824) : OkIds ids := by
  rintro i ⟨x, hx, h1 | h1 | ⟨h0, y, hy, h1⟩⟩
  · have := hb x (List.mem_of_getElem? hx); omega
  · have := hb x (List.mem_of_getElem? hx); omega
  · have := r.at hy hx (by omega); omega
theorem chunks_flat_take (ids : List Int) : ∀ j, j ≤ (ids.length + 15) / 16 → ((chunks ids).take j).flatten = ids.take (16 * j)
  | 0, _ => by simp
  | j + 1, hj => by
    rw [chunks_take (by omega), List.flatten_append, chunks_flat_take ids j (by omega)]
    simp only [List.flatten_cons, List.flatten_nil, List.append_nil, chunk]
    rw [show 16 * (j + 1) = 16 * j + 16 by omega, List.take_add]
theorem chunks_flat (ids : List Int) : (chunks ids).flatten = ids := by
  have h := chunks_flat_take ids ((ids.length + 15) / 16) (Nat.le_refl _)
  rw [List.take_of_length_le (by simp [chunks]), List.take_of_length_le (by omega)] at h
  exact h
theorem chunks_good {ids : List Int} (r : Rise ids) (hs : ids.length < 100000) : Good (chunks ids) := by
  refine ⟨fun b hb => ?_, by rw [chunks_flat]; exact r, by rw [chunks_flat]; exact hs⟩
  simp only [chunks, List.mem_map, List.mem_range] at hb
  obtain ⟨j, hj, rfl⟩ := hb
  intro e
  have := congrArg List.length e
  simp [chunk] at this
  omega
theorem chunks_len (ids : List Int) : (chunks ids).length = (ids.length + 15) / 16 := by simp [chunks]
theorem chunk_len (ids : List Int) (j : Nat) : (chunk ids j).length = min 16 (ids.length - 16 * j) := by simp [chunk]
end Go.Proofs.Yteokopjiaiflnaa

/- The relation under stores, moves, new blocks, map writes; what loads come to. -/
import Derived.Test.YtpabmkicdcilpaaVmB
import Derived.Laws.CopyRow
namespace Go.Vm
open Go.RowKit
variable {P : Program} {N : Nat} {w₀ : World} {μ : Inj} {h : AH} {w : World}

/-! ### what the model's loads and stores do to a row -/
theorem addr_add (b off i : Nat) : (⟨b, off, none⟩ : Addr).add i = ⟨b, off + i, none⟩ := by
  unfold Addr.add; split <;> simp_all
theorem cell_row {b i : Nat} {C : Array Value} {e : TypeId} {fz : Nat × Nat} (hb : w.heap[b]? = some (.cells C e fz)) : w.cell? ⟨b, i, none⟩ = C[i]? := by
  simp [World.cell?, hb]
theorem run_loadCells_row {b off n : Nat} {C : Array Value} {e : TypeId} {fz : Nat × Nat} (hb : w.heap[b]? = some (.cells C e fz)) (hn : off + n ≤ C.size) :
    (loadCells ⟨b, off, none⟩ n).run P w = .ok ((C.toList.drop off).take n).toArray w := by
  have hl : ((C.toList.drop off).take n).length = n := by simp; omega
  have := run_loadCells_list (P := P) w ⟨b, off, none⟩ ((C.toList.drop off).take n) (fun j v hj => by
    rw [addr_add, cell_row hb]
    rw [List.getElem?_take] at hj
    split at hj
    · rw [List.getElem?_drop] at hj; simpa using hj
    · cases hj)
  rwa [hl] at this
theorem run_storeCells_row (b off : Nat) (e : TypeId) (fz : Nat × Nat) : ∀ (vs : List Value) (i : Nat) (C : Array Value) (w : World), w.heap[b]? = some (.cells C e fz) →
    (∀ k, off + i ≤ k → k < off + i + vs.length → ¬ (fz.1 ≤ k ∧ k < fz.2)) → off + i + vs.length ≤ C.size → (∀ v ∈ vs, v.oneCell' = true) →
    (storeCells ⟨b, off, none⟩ vs i).run P w = .ok () (w.setRow b (C.toList.take (off + i) ++ vs ++ C.toList.drop (off + i + vs.length)).toArray)
  | [], i, C, w, hg, _, _, _ => by
    simp only [storeCells, List.append_nil, List.length_nil, Nat.add_zero, List.take_append_drop, Array.toArray_toList]
    rw [setRow_self w b C e fz hg]
    rfl
  | v :: rest, i, C, w, hg, hfz, hl, h1 => by
    have hi : off + i < C.size := by simp at hl; omega
    have hcell : w.cell? ⟨b, off + i, none⟩ = some C[off + i] := by simp [World.cell?, hg, hi]
    have hfro : w.frozen? ⟨b, off + i, none⟩ = false := by
      have := hfz (off + i) (by omega) (by simp)
      obtain ⟨lo, hi'⟩ := fz
      simp only [World.frozen?, hg, Bool.and_eq_false_iff, decide_eq_false_iff_not]
      simp only at this
      omega
    have hst : (store ((⟨b, off, none⟩ : Addr).add i) v).run P w = .ok () (w.setRow b (C.setIfInBounds (off + i) v)) := by
      rw [addr_add, run_store P w _ v _ (h1 v (by simp)), hcell]
      simp [hfro, setCell_eq_setRow w b (off + i) C e fz v hg]
    have ih := run_storeCells_row b off e fz rest (i + 1) (C.setIfInBounds (off + i) v) (w.setRow b (C.setIfInBounds (off + i) v)) (setRow_heap w b C _ e _ hg)
      (fun k hk1 hk2 => hfz k (by omega) (by simp; omega)) (by simp at hl ⊢; omega) (fun x hx => h1 x (by simp [hx]))
    simp only [storeCells, Sem.run_bind, hst, Result.andThen_ok, ih, setRow_setRow]
    congr 3
    have e := list_seg_step C.toList (off + i) v rest (by simp at hl ⊢; omega)
    simpa [Array.toList_setIfInBounds, Nat.add_assoc] using e

/-! ### what the abstract loads and stores do -/
theorem load_inv {o i n : Nat} {vs : List AV} (hl : h.load o i n = some vs) : ∃ l x, (h.get o = some x ∧ x.row = some l) ∧ i + n ≤ l.length ∧ vs = (l.drop i).take n := by
  unfold AH.load at hl
  split at hl
  · rename_i l rw hg
    split at hl
    · cases hl; exact ⟨l, _, ⟨hg, rfl⟩, ‹_›, rfl⟩
    · cases hl
  · rename_i l hg
    split at hl
    · cases hl; exact ⟨l, _, ⟨hg, rfl⟩, ‹_›, rfl⟩
    · cases hl
  · cases hl
theorem setMany_eq : ∀ (vs l : List AV) (i : Nat), i + vs.length ≤ l.length → setMany l i vs = l.take i ++ vs ++ l.drop (i + vs.length)
  | [], l, i, _ => by simp [setMany]
  | v :: r, l, i, h => by
    simp only [setMany]
    rw [setMany_eq r (l.set i v) (i + 1) (by simp at h ⊢; omega)]
    have : i < l.length := by simp at h; omega
    apply List.ext_getElem?
    intro k
    simp only [List.getElem?_append, List.length_append, List.length_take, List.length_set, List.getElem?_take, List.getElem?_set, List.length_cons, List.getElem?_drop, List.getElem?_cons]
    simp at h
    by_cases h1 : k < i
    · simp [h1, show min (i + 1) l.length = i + 1 by omega, show min i l.length = i by omega, show k < i + 1 by omega, show i ≠ k by omega, show k < i + (r.length + 1) by omega, show k < i + 1 + r.length by omega]
    · by_cases h2 : k = i
      · subst h2
        simp [show min (k + 1) l.length = k + 1 by omega, show min k l.length = k by omega, this]
        omega
      · by_cases h3 : k < i + 1 + r.length
        · simp [h1, show min (i + 1) l.length = i + 1 by omega, show min i l.length = i by omega, show ¬ k < i + 1 by omega, show k - i ≠ 0 by omega, show k < i + (r.length + 1) by omega, h3, show k - i - 1 = k - (i + 1) by omega]
        · simp [show min (i + 1) l.length = i + 1 by omega, show min i l.length = i by omega, show ¬ k < i + (r.length + 1) by omega, h3]
          rw [if_neg (by omega)]
          congr 1
          omega
theorem store_inv {o i : Nat} {vs : List AV} {h' : AH} (hs : h.store o i vs = some h') :
    ∃ l k, (k = (AObj.cells · true) ∨ k = AObj.marked) ∧ h.get o = some (k l) ∧ i + vs.length ≤ l.length ∧ (∀ v ∈ vs, v.flat = true) ∧ h' = h.set o (k (l.take i ++ vs ++ l.drop (i + vs.length))) := by
  unfold AH.store at hs
  split at hs
  · rename_i l hg
    split at hs
    · rename_i hc
      cases hs
      exact ⟨l, _, .inl rfl, hg, hc.1, by simpa using hc.2, by rw [setMany_eq vs l i hc.1]⟩
    · cases hs
  · rename_i l hg
    split at hs
    · rename_i hc
      cases hs
      exact ⟨l, _, .inr rfl, hg, hc.1, by simpa using hc.2, by rw [setMany_eq vs l i hc.1]⟩
    · cases hs
  · cases hs

theorem VRel.oneCell {a : AV} {v : Value} (hr : VRel μ a v) (hf : a.flat = true) : v.oneCell' = true := by
  cases hr <;> simp [AV.flat] at hf <;> rfl

/-- A load, in both. -/
theorem R.load (r : R N w₀ μ h w) {o i n b base size : Nat} {vs : List AV} (hl : h.load o i n = some vs) (ho : μ o = some (b, base, size)) :
    ∃ us : List Value, (loadCells ⟨b, base + i, none⟩ n).run P w = .ok us.toArray w ∧ VRels μ vs us ∧ us.length = n ∧ ∀ j u, us[j]? = some u → w.cell? ⟨b, base + i + j, none⟩ = some u := by
  obtain ⟨l, _, ⟨hg, hx⟩, hn, rfl⟩ := load_inv hl
  obtain ⟨C, e, fz, hb, hC, hlen, hrel⟩ := (r.obj o b base size _ ho hg).row hx
  refine ⟨(C.toList.drop (base + i)).take n, run_loadCells_row hb (by omega), ⟨by simp; omega, fun j x y hx hy => ?_⟩, by simp; omega, fun j u hu => ?_⟩
  · rw [List.getElem?_take] at hx hy
    split at hx
    · rw [if_pos ‹_›] at hy
      rw [List.getElem?_drop] at hx hy
      exact hrel (i + j) x y hx (by rw [← Nat.add_assoc]; simpa using hy)
    · cases hx
  · rw [cell_row hb]
    rw [List.getElem?_take] at hu
    split at hu
    · rw [List.getElem?_drop] at hu; simpa using hu
    · cases hu

theorem R.block_lt (r : R N w₀ μ h w) {o b base size : Nat} {l : List AV} {rw' : Bool} (ho : μ o = some (b, base, size)) (hg : h.get o = some (.cells l rw')) : b < w.heap.size := by
  obtain ⟨C, e, fz, hb, _⟩ := r.obj o b base size _ ho hg
  exact (Array.getElem?_eq_some_iff.1 hb).1

/-- Every other object lies in another block than a writable one. -/
theorem R.apart (r : R N w₀ μ h w) {o b base size : Nat} {z : AObj} (ho : μ o = some (b, base, size)) (hg : h.get o = some z) (hz : z.solid = true) {p b' base' size' : Nat} {x : AObj}
    (hp : μ p = some (b', base', size')) (hx : h.get p = some x) (hd : x ≠ .dead) (hne : p ≠ o) : b' ≠ b := by
  by_cases hs : x.solid = true
  · exact fun e => r.inj p o _ _ hp ho hne (solid_iff.2 ⟨x, hx, hs⟩) (solid_iff.2 ⟨z, hg, hz⟩) e
  · have hN : N ≤ b := by
      have := r.obj o b base size z ho hg
      cases z with
      | cells l rw' =>
        simp only [AObj.solid] at hz
        subst hz
        obtain ⟨_, _, _, _, _, _, _, h5⟩ := this
        simp at h5; exact h5.1
      | map es => exact this.2.1
      | dead => cases hz
      | marked l => obtain ⟨_, _, _, _, _, _, _, h5⟩ := this; exact h5.1
    have hlt : b' < N := by
      have := r.obj p b' base' size' x hp hx
      cases x with
      | cells l rw' =>
        have : rw' = false := by simpa [AObj.solid] using hs
        subst this
        obtain ⟨_, _, _, _, _, _, _, h5⟩ := this
        simpa using h5
      | map es => simp [AObj.solid] at hs
      | dead => exact absurd rfl hd
      | marked l => simp [AObj.solid] at hs
    omega

theorem below_setRow {B : Nat} {a u : World} (hb : Below B a u) {g : Nat} (hg : B ≤ g) (C : Array Value) : Below B a (u.setRow g C) :=
  hb.trans ⟨rfl, rfl, rfl, by simp, fun k hk => setRow_other _ _ _ _ (by omega)⟩

theorem solid_of_set {o p : Nat} {x : AObj} (ho : h.solid o = true) (hp : (h.set o x).solid p = true) : h.solid p = true := by
  obtain ⟨y, hy, hs⟩ := solid_iff.1 hp
  rw [AH.get_set] at hy
  split at hy
  · rename_i e; subst e; exact ho
  · exact solid_iff.2 ⟨y, hy, hs⟩

/-- A writable object's cells are written. -/
theorem R.setRowK (r : R N w₀ μ h w) {o b base size : Nat} {l l' : List AV} (ho : μ o = some (b, base, size)) {k : List AV → AObj} (hk : k = (AObj.cells · true) ∨ k = AObj.marked) (hg : h.get o = some (k l)) {C C' : Array Value} {e : TypeId} {fz : Nat × Nat}
    (hb : w.heap[b]? = some (.cells C e fz)) (hC : C'.size = size) (hl : base + l'.length ≤ size) (hrel : ∀ (i : Nat) (u : AV) (v : Value), l'[i]? = some u → C'[base + i]? = some v → VRel μ u v) :
    R N w₀ μ (h.set o (k l')) (w.setRow b C') := by
  have hks : (k l).solid = true := by rcases hk with rfl | rfl <;> rfl
  have h5 : N ≤ b := by
    have := r.obj o b base size _ ho hg
    rcases hk with rfl | rfl
    · obtain ⟨_, _, _, _, _, _, _, h5⟩ := this; simp at h5; exact h5.1
    · obtain ⟨_, _, _, _, _, _, _, h5⟩ := this; exact h5.1
  constructor
  · exact below_setRow r.below h5 C'
  · simpa using r.fresh
  · exact r.dom
  · intro p b' base' size' x hp hx
    rw [AH.get_set] at hx
    by_cases e' : o = p
    · subst e'
      rw [if_pos rfl] at hx
      rw [ho] at hp
      cases hp; cases hx
      have := r.obj o b base size _ ho hg
      rcases hk with rfl | rfl
      · obtain ⟨C0, e0, fz0, hb0, _, _, _, h5⟩ := this
        rw [hb] at hb0
        cases hb0
        exact ⟨C', e, fz, setRow_heap w b C C' e fz hb, hC, hl, hrel, h5⟩
      · obtain ⟨C0, e0, fz0, hb0, _, _, _, h5⟩ := this
        rw [hb] at hb0
        cases hb0
        exact ⟨C', e, fz, setRow_heap w b C C' e fz hb, hC, hl, hrel, h5⟩
    · rw [if_neg e'] at hx
      by_cases hd : x = .dead
      · subst hd; trivial
      · exact (r.obj p b' base' size' x hp hx).of_block (setRow_other _ _ _ _ (r.apart ho hg hks hp hx hd (Ne.symm e')))
  · intro p q x y hp hq hne rp rq
    exact r.inj p q x y hp hq hne (solid_of_set (solid_iff.2 ⟨_, hg, hks⟩) rp) (solid_of_set (solid_iff.2 ⟨_, hg, hks⟩) rq)

theorem R.setRow (r : R N w₀ μ h w) {o b base size : Nat} {l l' : List AV} (ho : μ o = some (b, base, size)) (hg : h.get o = some (.cells l true)) {C C' : Array Value} {e : TypeId} {fz : Nat × Nat}
    (hb : w.heap[b]? = some (.cells C e fz)) (hC : C'.size = size) (hl : base + l'.length ≤ size) (hrel : ∀ (i : Nat) (u : AV) (v : Value), l'[i]? = some u → C'[base + i]? = some v → VRel μ u v) :
    R N w₀ μ (h.set o (.cells l' true)) (w.setRow b C') := r.setRowK ho (k := (AObj.cells · true)) (.inl rfl) hg hb hC hl hrel

/-- The row after a store. -/
theorem written_rel {C : Array Value} {base i size : Nat} {l vs : List AV} {us : List Value} (hC : C.size = size) (hl : base + l.length ≤ size) (hn : i + vs.length ≤ l.length)
    (hrel : ∀ (j : Nat) (u : AV) (v : Value), l[j]? = some u → C[base + j]? = some v → VRel μ u v) (hvs : VRels μ vs us) :
    ∀ (j : Nat) (u : AV) (v : Value), (l.take i ++ vs ++ l.drop (i + vs.length))[j]? = some u → (C.toList.take (base + i) ++ us ++ C.toList.drop (base + i + us.length)).toArray[base + j]? = some v → VRel μ u v := by
  intro j u v hu hv
  have hlen := hvs.1
  have hCl : C.toList.length = size := by simpa using hC
  rw [List.getElem?_toArray] at hv
  simp only [List.getElem?_append, List.length_append, List.length_take, List.getElem?_take, List.getElem?_drop] at hu hv
  rw [show min i l.length = i by omega] at hu
  rw [hCl, show min (base + i) size = base + i by omega] at hv
  by_cases h1 : j < i
  · rw [if_pos (by omega), if_pos h1, if_pos h1] at hu
    rw [if_pos (by omega), if_pos (by omega), if_pos (by omega)] at hv
    exact hrel j u v hu (by simpa using hv)
  · by_cases h2 : j < i + vs.length
    · rw [if_pos h2, if_neg h1] at hu
      rw [if_pos (by omega), if_neg (by omega)] at hv
      rw [show base + j - (base + i) = j - i by omega] at hv
      exact hvs.2 _ u v hu hv
    · rw [if_neg h2] at hu
      rw [if_neg (by omega)] at hv
      refine hrel j u v ?_ ?_
      · rw [← hu]; congr 1; omega
      · rw [show base + i + us.length + (base + j - (base + i + us.length)) = base + j by omega] at hv
        simpa using hv

/-- A store, in both. -/
theorem R.store (r : R N w₀ μ h w) {o i b base size : Nat} {vs : List AV} {us : List Value} {h' : AH} (hs : h.store o i vs = some h') (ho : μ o = some (b, base, size)) (hv : VRels μ vs us) :
    ∃ w', (storeCells ⟨b, base + i, none⟩ us).run P w = .ok () w' ∧ R N w₀ μ h' w' := by
  obtain ⟨l, k, hk, hg, hn, hfl, rfl⟩ := store_inv hs
  obtain ⟨C, e, fz, hb, hC, hlen, hrel, h5⟩ : ∃ C e fz, w.heap[b]? = some (.cells C e fz) ∧ C.size = size ∧ base + l.length ≤ size ∧ (∀ (i : Nat) (u : AV) (v : Value), l[i]? = some u → C[base + i]? = some v → VRel μ u v) ∧ (fz.1 = fz.2 ∨ size ≤ fz.1) := by
    have := r.obj o b base size _ ho hg
    rcases hk with rfl | rfl
    · obtain ⟨C, e, fz, h1, h2, h3, h4, h5⟩ := this; simp at h5; exact ⟨C, e, fz, h1, h2, h3, h4, .inl h5.2⟩
    · obtain ⟨C, e, fz, h1, h2, h3, h4, h5⟩ := this; exact ⟨C, e, fz, h1, h2, h3, h4, h5.2⟩
  have hlu := hv.1
  have hone : ∀ v ∈ us, v.oneCell' = true := by
    intro v hm
    obtain ⟨k, hk, rfl⟩ := List.mem_iff_getElem.1 hm
    have hk' : k < vs.length := by omega
    exact (hv.2 k _ _ (List.getElem?_eq_getElem hk') (List.getElem?_eq_getElem hk)).oneCell (hfl _ (List.getElem_mem hk'))
  refine ⟨_, run_storeCells_row b (base + i) e fz us 0 C w hb (fun k h1 h2 => by omega) (by omega) hone, ?_⟩
  simp only [Nat.add_zero]
  refine r.setRowK ho hk hg hb ?_ ?_ (written_rel hC hlen hn hrel hv)
  · simp; omega
  · simp; omega

/-- An object is let go. -/
theorem R.kill (r : R N w₀ μ h w) (o : Nat) : R N w₀ μ (h.set o .dead) w where
  below := r.below
  fresh := r.fresh
  dom := r.dom
  obj := by
    intro p b base size x hp hx
    rw [AH.get_set] at hx
    split at hx
    · cases hx; trivial
    · exact r.obj p b base size x hp hx
  inj := by
    intro p q x y hp hq hne rp rq
    have old : ∀ q, (h.set o .dead).solid q = true → h.solid q = true := by
      intro q hq
      obtain ⟨x, hx, hs⟩ := solid_iff.1 hq
      rw [AH.get_set] at hx
      split at hx
      · cases hx; cases hs
      · exact solid_iff.2 ⟨x, hx, hs⟩
    exact r.inj p q x y hp hq hne (old p rp) (old q rq)

/-- A writable object goes on under a new number, as a later part of the same block. -/
theorem R.rename (r : R N w₀ μ h w) {o b base size boff : Nat} {l l' : List AV} (ho : μ o = some (b, base, size)) (hg : h.get o = some (.cells l true)) {C C' : Array Value} {e : TypeId} {fz : Nat × Nat}
    (hb : w.heap[b]? = some (.cells C e fz)) (_hoff : base ≤ boff) (hC : C'.size = size) (hl : boff + l'.length ≤ size)
    (hrel : ∀ (i : Nat) (u : AV) (v : Value), l'[i]? = some u → C'[boff + i]? = some v → VRel μ u v) :
    Inj.le μ (Inj.add μ h.next (b, boff, size)) ∧ R N w₀ (Inj.add μ h.next (b, boff, size)) ((h.set o .dead).new (.cells l' true)) (w.setRow b C') := by
  have hnone : μ h.next = none := by
    cases hm : μ h.next with
    | none => rfl
    | some y => have := r.dom _ _ hm; omega
  have hle := Inj.le_add (μ := μ) (o := h.next) (b, boff, size) hnone
  have hon : o ≠ h.next := by have := r.dom _ _ ho; omega
  obtain ⟨C0, e0, fz0, hb0, _, _, _, h5⟩ := r.obj o b base size _ ho hg
  rw [hb] at hb0
  cases hb0
  simp at h5
  refine ⟨hle, ?_⟩
  constructor
  · exact below_setRow r.below h5.1 C'
  · simpa using r.fresh
  · intro p y hy
    unfold Inj.add at hy
    split at hy
    · simp [AH.next_new, AH.next_set]; omega
    · have := r.dom _ _ hy; simp [AH.next_new, AH.next_set]; omega
  · intro p b' base' size' x hp hx
    unfold Inj.add at hp
    rw [AH.get_new, AH.next_set] at hx
    split at hp
    · rename_i e'
      subst e'
      rw [if_pos rfl] at hx
      cases hp; cases hx
      exact ⟨C', e, fz, setRow_heap w b C C' e fz hb, hC, hl, fun i u v hu hv => (hrel i u v hu hv).mono hle, by simp; exact h5⟩
    · rename_i e'
      rw [if_neg (Ne.symm e'), AH.get_set] at hx
      split at hx
      · cases hx; trivial
      · rename_i e2
        by_cases hd : x = .dead
        · subst hd; trivial
        · exact ((r.obj p b' base' size' x hp hx).mono hle).of_block (setRow_other _ _ _ _ (r.apart ho hg rfl hp hx hd (Ne.symm e2)))
  · intro p q x y hp hq hne rp rq
    have old : ∀ p, p ≠ h.next → ((h.set o .dead).new (.cells l' true)).solid p = true → p ≠ o ∧ h.solid p = true := by
      intro p hpn hr
      obtain ⟨l2, h2, hs⟩ := solid_iff.1 hr
      rw [AH.get_new, AH.next_set, if_neg (Ne.symm hpn), AH.get_set] at h2
      split at h2
      · cases h2; cases hs
      · exact ⟨Ne.symm ‹_›, solid_iff.2 ⟨l2, h2, hs⟩⟩
    have hos : h.solid o = true := solid_iff.2 ⟨_, hg, rfl⟩
    unfold Inj.add at hp hq
    split at hp
    · rename_i e1
      subst e1
      cases hp
      rw [if_neg (Ne.symm hne)] at hq
      obtain ⟨hqo, hqr⟩ := old q (Ne.symm hne) rq
      exact r.inj o q (b, base, size) y ho hq (Ne.symm hqo) hos hqr
    · rename_i e1
      obtain ⟨hpo, hpr⟩ := old p e1 rp
      split at hq
      · cases hq
        exact Ne.symm (r.inj o p (b, base, size) x ho hp (Ne.symm hpo) hos hpr)
      · rename_i e2
        exact r.inj p q x y hp hq hne hpr (old q e2 rq).2

/-- A map is written. -/
theorem R.setMap (r : R N w₀ μ h w) {o b base size : Nat} {es es' : List (AV × AV)} (ho : μ o = some (b, base, size)) (hg : h.get o = some (.map es)) {ces' : Array MapEntry} {clock' : Nat}
    (hlen : es'.length = ces'.size) (hrel : ∀ (i : Nat) (p : AV × AV) (q : MapEntry), es'[i]? = some p → ces'[i]? = some q → VRel μ p.1 q.key ∧ VRel μ p.2 q.val) :
    R N w₀ μ (h.set o (.map es')) { w with heap := w.heap.setIfInBounds b (.map ces' clock') } := by
  obtain ⟨h0, hN, ces, clock, hb, _⟩ := r.obj o b base size _ ho hg
  have hlt : b < w.heap.size := (Array.getElem?_eq_some_iff.1 hb).1
  have other : ∀ k, k ≠ b → (w.heap.setIfInBounds b (.map ces' clock'))[k]? = w.heap[k]? := fun k hk => Array.getElem?_setIfInBounds_ne (Ne.symm hk)
  constructor
  · exact r.below.trans ⟨rfl, rfl, rfl, by simp, fun k hk => other k (by omega)⟩
  · simpa using r.fresh
  · exact r.dom
  · intro p b' base' size' x hp hx
    rw [AH.get_set] at hx
    split at hx
    · rename_i e
      subst e
      rw [ho] at hp
      cases hp; cases hx
      exact ⟨h0, hN, ces', clock', by simp [hlt], hlen, hrel⟩
    · rename_i e
      by_cases hd : x = .dead
      · subst hd; trivial
      · exact (r.obj p b' base' size' x hp hx).of_block (other _ (r.apart ho hg rfl hp hx hd (Ne.symm e)))
  · intro p q x y hp hq hne rp rq
    exact r.inj p q x y hp hq hne (solid_of_set (solid_iff.2 ⟨_, hg, rfl⟩) rp) (solid_of_set (solid_iff.2 ⟨_, hg, rfl⟩) rq)


/-- Another frozen mark, behind the row's end. -/
theorem R.mark (r : R N w₀ μ h w) {o b base size : Nat} {l : List AV} (ho : μ o = some (b, base, size)) (hg : h.get o = some (.cells l true)) {C : Array Value} {e : TypeId} {fz fz' : Nat × Nat}
    (hb : w.heap[b]? = some (.cells C e fz)) (hf : fz'.1 = fz'.2 ∨ size ≤ fz'.1) {w' : World} (hb' : w'.heap[b]? = some (.cells C e fz')) (hoth : ∀ k, k ≠ b → w'.heap[k]? = w.heap[k]?) (hsz : w'.heap.size = w.heap.size)
    (hos : w'.os = w.os) (htape : w'.tape = w.tape) (hout : w'.output = w.output) : R N w₀ μ (h.set o (.marked l)) w' := by
  obtain ⟨C0, e0, fz0, hb0, hC, hl, hrel, h5⟩ := r.obj o b base size _ ho hg
  rw [hb] at hb0
  cases hb0
  simp at h5
  constructor
  · exact r.below.trans ⟨hos, htape, hout, by omega, fun k hk => hoth k (by omega)⟩
  · have := r.fresh; omega
  · exact r.dom
  · intro p b' base' size' x hp hx
    rw [AH.get_set] at hx
    by_cases e' : o = p
    · subst e'
      rw [ho] at hp
      cases hp
      rw [if_pos rfl] at hx
      cases hx
      exact ⟨C, e, fz', hb', hC, hl, hrel, ⟨h5.1, hf⟩⟩
    · rw [if_neg e'] at hx
      by_cases hd : x = .dead
      · subst hd; trivial
      · exact (r.obj p b' base' size' x hp hx).of_block (hoth _ (r.apart ho hg rfl hp hx hd (Ne.symm e')))
  · intro p q x y hp hq hne rp rq
    exact r.inj p q x y hp hq hne (solid_of_set (solid_iff.2 ⟨_, hg, rfl⟩) rp) (solid_of_set (solid_iff.2 ⟨_, hg, rfl⟩) rq)
end Go.Vm

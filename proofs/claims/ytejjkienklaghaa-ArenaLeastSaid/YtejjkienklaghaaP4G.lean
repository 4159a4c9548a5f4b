/- Arenas: a slot more, a pool more. -/
import Derived.Test.YtejjkienklaghaaP4F
namespace Go.Proofs.Ytejjkienklaghaa
open Go.Vm
set_option linter.unusedSimpArgs false
set_option linter.unusedVariables false
variable {T : Vm.Prog} {h : AH}
theorem slot_flat {x : Slot} {ws : List Nat} (hw : Words h x.wv ws) : x.cells.all AV.flat = true := by
  obtain ⟨o, e, _⟩ := hw
  simp [Slot.cells, AV.flat, e]
theorem slot_beqs {x : Slot} {ws : List Nat} (hw : Words h x.wv ws) : AV.beqs x.cells x.cells = true := by
  obtain ⟨o, e, _⟩ := hw
  simp [Slot.cells, e, AV.beqs, AV.beq]
theorem append_slot {sv : AV} {S : List Slot} {x : Slot} {ws : List Nat} {o2 : Nat} (hlow : Low h) (r : SlotsV h sv S) (hs : S.length ≤ 1024) (h2 : h.get o2 = some (.cells x.cells true)) (hne : ∀ o ∈ objs sv, o ≠ o2) (hw : Words h x.wv ws) :
    ∃ sv' h', appV 4 48 h sv (.slice o2 0 4 1 1 true) = some (sv', h') ∧ SlotsV h' sv' (S ++ [x]) ∧ (∀ o ∈ objs sv', o ∈ objs sv ∨ h.next ≤ o) ∧ (∀ o ∈ objs sv', o < h'.next) ∧ Only h h' (objs sv) ∧ Low h' ∧ sv'.cells = [sv'] ∧ sv'.flat = true := by
  have hfl := slot_flat hw
  have hx4 : x.cells.length = 4 := rfl
  have hel : h.elems 4 1 (.slice o2 0 4 1 1 true) = some x.cells := by
    simp only [AH.elems, true_and, Nat.le_refl, if_true, AH.load, h2]
    rw [if_pos (by rw [hx4]; omega), List.drop_zero, List.take_of_length_le (by rw [hx4]; omega)]
  rcases r with ⟨rfl, rfl⟩ | ⟨o, cap, l, rfl, hg, h1, h3, h4⟩
  · refine ⟨.slice h.next 0 4 1 1 false, h.new (.cells x.cells true), ?_, ?_, ?_, ?_, Only.new (Only.refl h _) _, hlow.new _, rfl, rfl⟩
    · simp only [appV, len_slice, Option.bind_some, hel, appendV]
      rfl
    · refine .inr ⟨h.next, 1, x.cells, rfl, get_new_same, rfl, by simp, ?_⟩
      intro i s hs j y hy
      cases i with
      | zero => simp at hs; subst hs; simpa using hy
      | succ i => simp at hs
    · intro o ho; simp [objs] at ho; subst ho; exact .inr (Nat.le_refl _)
    · intro o ho; simp [objs] at ho; subst ho; rw [next_new]; omega
  · have hlt : o < h.next := hlow o _ hg
    by_cases hc : S.length + 1 ≤ cap
    · obtain ⟨s1, s2⟩ := setMany_get l x.cells (0 + S.length * 4)
      obtain ⟨s3, s4, s5⟩ := s2 (by rw [hx4]; omega)
      have hst : h.store o (0 + S.length * 4) x.cells = some (h.set o (.cells (setMany l (0 + S.length * 4) x.cells) true)) := by
        simp only [AH.store, hg]
        rw [if_pos ⟨by rw [hx4]; omega, hfl⟩]
      refine ⟨.slice o 0 4 (S.length + 1) cap false, _, ?_, ?_, ?_, ?_, (Only.refl h _).set (.inl (by simp [objs])) (.cells (setMany l (0 + S.length * 4) x.cells) true), hlow.set hlt _, rfl, rfl⟩
      · simp only [appV, len_slice, Option.bind_some, hel, appendV, if_true]
        rw [if_pos hc, if_neg (by omega), hst]
        rfl
      · refine .inr ⟨o, cap, _, by simp, get_set_same, by rw [s1]; exact h1, by simp; omega, ?_⟩
        intro i s hs j y hy
        have hj4 : j < 4 := (List.getElem?_eq_some_iff.1 hy).1
        by_cases e : i = S.length
        · subst e
          rw [List.getElem?_append_right (Nat.le_refl _)] at hs
          simp at hs; subst hs
          have := s4 j y hy
          rw [show 0 + S.length * 4 + j = S.length * 4 + j by omega] at this; exact this
        · have hi : i < S.length := by
            have := (List.getElem?_eq_some_iff.1 hs).1
            simp at this; omega
          rw [List.getElem?_append_left hi] at hs
          rw [s3 _ (by omega)]
          exact h4 i s hs j y hy
      · intro q hq; simp [objs] at hq; subst hq; exact .inl (by simp [objs])
      · intro q hq; simp [objs] at hq; subst hq; rw [next_set]; exact hlt
    · have hroom : roomOk (S.length + 1) 48 cap false = true := by
        simp [roomOk]; omega
      have hload : h.load o 0 (S.length * 4) = some (l.take (S.length * 4)) := by
        simp only [AH.load, hg, List.drop_zero]
        rw [if_pos (by omega)]
      have hrw : h.isRw o = true := by simp [AH.isRw, hg]
      refine ⟨.slice h.next 0 4 (S.length + 1) (S.length + 1) false, (h.set o .dead).new (.cells (l.take (S.length * 4) ++ x.cells) true), ?_, ?_, ?_, ?_, ((Only.refl h _).set (.inl (by simp [objs])) _).new _, (hlow.set hlt _).new _, rfl, rfl⟩
      · simp only [appV, len_slice, Option.bind_some, hel, appendV, if_true]
        rw [if_neg hc, if_pos hroom, hload]
        simp [hrw, hfl, next_set]
      · refine .inr ⟨h.next, S.length + 1, l.take (S.length * 4) ++ x.cells, by simp, ?_, by rw [List.length_append, List.length_take, hx4]; omega, by simp, ?_⟩
        · have := get_new_same (h := h.set o .dead) (x := .cells (l.take (S.length * 4) ++ x.cells) true)
          rw [next_set] at this; exact this
        · intro i s hs j y hy
          have hj4 : j < 4 := (List.getElem?_eq_some_iff.1 hy).1
          have hlen : (l.take (S.length * 4)).length = S.length * 4 := by rw [List.length_take]; omega
          by_cases e : i = S.length
          · subst e
            rw [List.getElem?_append_right (Nat.le_refl _)] at hs
            simp at hs; subst hs
            rw [List.getElem?_append_right (by omega), hlen, show S.length * 4 + j - S.length * 4 = j by omega]
            exact hy
          · have hi : i < S.length := by
              have := (List.getElem?_eq_some_iff.1 hs).1
              simp at this; omega
            rw [List.getElem?_append_left hi] at hs
            rw [List.getElem?_append_left (by omega), List.getElem?_take, if_pos (by omega)]
            exact h4 i s hs j y hy
      · intro q hq; simp [objs] at hq; subst hq; exact .inr (Nat.le_refl _)
      · intro q hq; simp [objs] at hq; subst hq; rw [next_new, next_set]; omega
/-- A slot more. -/
theorem Arena.addSlot {a : Nat} {sv : AV} {S : List Slot} {Q : List PR} (A : Arena h a sv S Q) (hl : Low h) {x : Slot} {o2 : Nat} (hs : S.length < 1024) (h2 : h.get o2 = some (.cells x.cells true)) (hne : ∀ o ∈ objs sv, o ≠ o2) (hw : Words h x.wv x.ws)
    (ho : ∀ o ∈ objs x.wv, o ≠ a ∧ o ∉ objs sv ∧ ∀ q ∈ Q, o ∉ q.foot) (hk : x.cls < 5 ∧ x.gen < 9223372036854775807 ∧ x.ws.length = sizeN x.cls) :
    ∃ sv' h1 h', appV 4 48 h sv (.slice o2 0 4 1 1 true) = some (sv', h1) ∧ storeV h1 1 (.ptr a 0) sv' = some h' ∧ Arena h' a sv' (S ++ [x]) Q ∧ Only h h' (a :: objs sv) ∧ Low h' ∧ ∀ o ∈ objs sv', o ∈ objs sv ∨ h.next ≤ o := by
  obtain ⟨sv', h1, happ, r1, hob, hob2, on1, lo1, hc, hf⟩ := append_slot hl A.slots (by omega) h2 hne hw
  obtain ⟨l1, l2, l3, l4⟩ := A.low hl
  have ga : h1.get a = some (.cells (sv :: ((Q.map fun q => .ptr q.p 0) ++ List.replicate (5 - Q.length) .nilPtr)) true) := (on1.2 a l1 A.aside.1).trans A.obj
  have hne' : ∀ (X : AObj) (o : Nat), o ≠ a → (h1.set a X).get o = h1.get o := fun X o e => by rw [AH.get_set, if_neg (Ne.symm e)]
  have hsva : ∀ o ∈ objs sv', o ≠ a := by
    intro o h5 e
    subst e
    rcases hob o h5 with h6 | h6
    · exact A.aside.1 h6
    · omega
  have hwl : ∀ o ∈ objs x.wv, o < h.next := by
    intro o h5
    obtain ⟨o', e, hg⟩ := hw
    rw [e] at h5; simp [objs] at h5; subst h5
    exact hl _ _ hg
  have hmem : ∀ s ∈ S ++ [x], s ∈ S ∨ s = x := by intro s hs; simpa using hs
  refine ⟨sv', h1, _, happ, store_at ga (by simp) hc hf, ?_, ?_, lo1.set (lo1 _ _ ga) _, hob⟩
  · refine ⟨by rw [get_set_same]; rfl, A.five, r1.keep fun o h5 => hne' _ o (hsva o h5), ?_, ?_, ?_, ?_, A.apart, ?_, by simp; omega⟩
    · intro s hs
      have key : ∀ o ∈ objs s.wv, o ≠ a ∧ o ∉ objs sv ∧ o < h.next := by
        intro o h5
        rcases hmem s hs with h6 | rfl
        · exact ⟨(A.own s h6 o h5).1, (A.own s h6 o h5).2.1, l4 s h6 o h5⟩
        · exact ⟨(ho o h5).1, (ho o h5).2.1, hwl o h5⟩
      have base : Words h s.wv s.ws := by
        rcases hmem s hs with h6 | rfl
        · exact A.words s h6
        · exact hw
      exact base.keep fun o h5 => (hne' _ o (key o h5).1).trans (on1.2 o (key o h5).2.2 (key o h5).2.1)
    · intro s hs o h5
      have key : o ≠ a ∧ o ∉ objs sv ∧ (∀ q ∈ Q, o ∉ q.foot) ∧ o < h.next := by
        rcases hmem s hs with h6 | rfl
        · exact ⟨(A.own s h6 o h5).1, (A.own s h6 o h5).2.1, (A.own s h6 o h5).2.2, l4 s h6 o h5⟩
        · exact ⟨(ho o h5).1, (ho o h5).2.1, (ho o h5).2.2, hwl o h5⟩
      refine ⟨key.1, fun h7 => ?_, key.2.2.1⟩
      rcases hob o h7 with h8 | h8
      · exact key.2.1 h8
      · omega
    · intro q hq
      exact (A.pools q hq).keep fun o h5 => (hne' _ o (fun e => (A.aside.2 q hq).1 (e ▸ h5))).trans (on1.2 o (l3 q hq o h5) fun h6 => (A.aside.2 q hq).2 o h6 h5)
    · refine ⟨fun h5 => hsva a h5 rfl, fun q hq => ⟨(A.aside.2 q hq).1, fun o h5 h6 => ?_⟩⟩
      rcases hob o h5 with h7 | h7
      · exact (A.aside.2 q hq).2 o h7 h6
      · have := l3 q hq o h6; omega
    · intro s hs
      rcases hmem s hs with h6 | rfl
      · exact A.kinds s h6
      · exact hk
  · refine ⟨by rw [next_set]; exact on1.1, fun q hq hF => ?_⟩
    simp only [List.mem_cons, not_or] at hF
    rw [hne' _ q hF.1]
    exact on1.2 q hq hF.2
/-- A pool more. -/
theorem Arena.addPool {h1 : AH} {a : Nat} {sv : AV} {S : List Slot} {Q : List PR} (A : Arena h a sv S Q) (hl : Low h) (hQ : Q.length < 5) (hp : Pool h1 (h.next + 1) 1024 [] .nilSlice h.next) (on : Only h h1 []) (lo : Low h1) (hn : h1.next = h.next + 2) :
    ∃ h', storeV h1 1 (.ptr a (1 + Q.length)) (.ptr (h.next + 1) 0) = some h' ∧ Arena h' a sv S (Q ++ [⟨h.next + 1, .nilSlice, h.next, []⟩]) ∧ Only h h' [a] ∧ Low h' := by
  have A1 := A.grow hl on
  obtain ⟨l1, l2, l3, l4⟩ := A.low hl
  have hcells : (sv :: ((Q.map fun q => AV.ptr q.p 0) ++ List.replicate (5 - Q.length) .nilPtr)).set (1 + Q.length) (.ptr (h.next + 1) 0) = sv :: (((Q ++ [(⟨h.next + 1, .nilSlice, h.next, []⟩ : PR)]).map fun q => AV.ptr q.p 0) ++ List.replicate (5 - (Q ++ [(⟨h.next + 1, .nilSlice, h.next, []⟩ : PR)]).length) .nilPtr) := by
    rw [Nat.add_comm, List.set_cons_succ]
    congr 1
    rw [List.set_append, if_neg (by simp)]
    simp only [List.length_map, Nat.sub_self, List.map_append, List.map_cons, List.map_nil, List.length_append, List.length_cons, List.length_nil, List.append_assoc]
    congr 1
    rw [show 5 - Q.length = (5 - (Q.length + (0 + 1))) + 1 by omega, List.replicate_succ, List.set_cons_zero]
    rfl
  have hst := store_at (v := .ptr (h.next + 1) 0) A1.obj (i := 1 + Q.length) (by simp; omega) rfl rfl
  rw [hcells] at hst
  have hne' : ∀ (X : AObj) (o : Nat), o ≠ a → (h1.set a X).get o = h1.get o := fun X o e => by rw [AH.get_set, if_neg (Ne.symm e)]
  have hfoot : ∀ o ∈ (PR.mk (h.next + 1) .nilSlice h.next []).foot, o = h.next ∨ o = h.next + 1 := by
    intro o ho
    simp [PR.foot, foot, objs] at ho; omega
  have hmem : ∀ q ∈ Q ++ [(⟨h.next + 1, .nilSlice, h.next, []⟩ : PR)], q ∈ Q ∨ q = ⟨h.next + 1, .nilSlice, h.next, []⟩ := by intro q hq; simpa using hq
  refine ⟨_, hst, ?_, ⟨by rw [next_set]; omega, fun q hq hF => ?_⟩, lo.set (lo _ _ A1.obj) _⟩
  · refine ⟨get_set_same, by simp; omega, A1.slots.keep fun o ho => hne' _ o fun e => A.aside.1 (e ▸ ho), fun s hs => (A1.words s hs).keep fun o ho => hne' _ o (A.own s hs o ho).1, ?_, ?_, ?_, ?_, A.kinds, A.small⟩
    · intro s hs o ho
      refine ⟨(A.own s hs o ho).1, (A.own s hs o ho).2.1, fun q hq h5 => ?_⟩
      rcases hmem q hq with h6 | rfl
      · exact (A.own s hs o ho).2.2 q h6 h5
      · have := hfoot o h5; have := l4 s hs o ho; omega
    · intro q hq
      rcases hmem q hq with h6 | rfl
      · exact (A1.pools q h6).keep fun o ho => hne' _ o fun e => (A.aside.2 q h6).1 (e ▸ ho)
      · exact hp.keep fun o ho => hne' _ o (by
          have := hfoot o ho; omega)
    · refine ⟨A.aside.1, fun q hq => ?_⟩
      rcases hmem q hq with h6 | rfl
      · exact A.aside.2 q h6
      · exact ⟨fun h5 => by have := hfoot a h5; omega, fun o ho h5 => by have := hfoot o h5; have := l2 o ho; omega⟩
    · intro i j q r hij hi hj o ho h5
      have cases' : ∀ (m : Nat) (t : PR), (Q ++ [(⟨h.next + 1, .nilSlice, h.next, []⟩ : PR)])[m]? = some t → (Q[m]? = some t) ∨ (m = Q.length ∧ t = ⟨h.next + 1, .nilSlice, h.next, []⟩) := by
        intro m t hm
        by_cases e : m < Q.length
        · rw [List.getElem?_append_left e] at hm; exact .inl hm
        · rw [List.getElem?_append_right (by omega)] at hm
          have := (List.getElem?_eq_some_iff.1 hm).1
          simp at this
          have e0 : m = Q.length := by omega
          subst e0
          simp at hm
          exact .inr ⟨rfl, hm.symm⟩
      rcases cases' i q hi with h6 | ⟨e1, rfl⟩
      · rcases cases' j r hj with h7 | ⟨e2, rfl⟩
        · exact A.apart i j q r hij h6 h7 o ho h5
        · have := hfoot o h5; have := l3 q (List.mem_of_getElem? h6) o ho; omega
      · rcases cases' j r hj with h7 | ⟨e2, rfl⟩
        · have := hfoot o ho; have := l3 r (List.mem_of_getElem? h7) o h5; omega
        · omega
  · rw [hne' _ q (by simpa using hF)]
    exact on.2 q hq (by simp)
end Go.Proofs.Ytejjkienklaghaa

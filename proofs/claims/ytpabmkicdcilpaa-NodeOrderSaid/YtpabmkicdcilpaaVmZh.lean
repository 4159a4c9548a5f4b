/- Slices that are seen; their clones. -/
import Derived.Test.YtpabmkicdcilpaaVmZg
namespace Go.Vm
open Go.RowKit
set_option linter.unusedSimpArgs false
set_option linter.unusedVariables false
variable {T : Prog} {h : AH}
/-- A slice of elements of several cells shows these. -/
def SeesS (h : AH) (sz : Nat) (v : AV) (xs : List (List AV)) : Prop :=
  (v = .nilSlice ∧ xs = []) ∨ ∃ o off cap ex l rw, v = .slice o off sz xs.length cap ex ∧ h.get o = some (.cells l rw) ∧ off + xs.length * sz ≤ l.length ∧ ∀ i x, xs[i]? = some x → x.length = sz ∧ ∀ j y, x[j]? = some y → l[off + i * sz + j]? = some y
theorem SeesS.len {v : AV} {sz : Nat} {xs : List (List AV)} (r : SeesS h sz v xs) : lenOfV v = some xs.length := by
  rcases r with ⟨rfl, rfl⟩ | ⟨o, off, cap, ex, l, rw, rfl, _⟩ <;> rfl
theorem SeesS.keep {h' : AH} {v : AV} {sz : Nat} {xs : List (List AV)} (r : SeesS h sz v xs) (hk : ∀ o ∈ objs v, h'.get o = h.get o) : SeesS h' sz v xs := by
  rcases r with ⟨rfl, rfl⟩ | ⟨o, off, cap, ex, l, rw, rfl, hg, h1⟩
  · exact .inl ⟨rfl, rfl⟩
  · exact .inr ⟨o, off, cap, ex, l, rw, rfl, (hk o (by simp [objs])).trans hg, h1⟩
theorem SeesS.low {v : AV} {sz : Nat} {xs : List (List AV)} (r : SeesS h sz v xs) (hl : Low h) : ∀ o ∈ objs v, o < h.next := by
  rcases r with ⟨rfl, rfl⟩ | ⟨o, off, cap, ex, l, rw, rfl, hg, h1⟩
  · intro o ho; simp [objs] at ho
  · intro p hp; simp [objs] at hp; subst hp; exact hl _ _ hg
theorem RowS.sees {v : AV} {sz : Nat} {xs : List (List AV)} (r : RowS h sz v xs) : SeesS h sz v xs := by
  rcases r with ⟨rfl, rfl⟩ | ⟨o, cap, ex, l, rfl, hg, h1, h2, h3⟩
  · exact .inl ⟨rfl, rfl⟩
  · refine .inr ⟨o, 0, cap, ex, l, true, rfl, hg, by rw [h1, Nat.zero_add]; exact Nat.mul_le_mul_right sz h2, fun i x hx => ⟨(h3 i x hx).1, fun j y hy => ?_⟩⟩
    rw [Nat.zero_add]; exact (h3 i x hx).2 j y hy
theorem SeesS.at {v : AV} {sz : Nat} {xs : List (List AV)} (r : SeesS h sz v xs) {i : Nat} {x : List AV} (hx : xs[i]? = some x) (k : IntKind) : ∃ o off, objs v = [o] ∧ idxAddrV sz v (.int k (i : Int)) = some (.ptr o off) ∧ ∀ j y, x[j]? = some y → loadV h false 1 (.ptr o (off + j)) = some y := by
  rcases r with ⟨rfl, rfl⟩ | ⟨o, off, cap, ex, l, rw, rfl, hg, h1, h3⟩
  · simp at hx
  · have hi := (List.getElem?_eq_some_iff.1 hx).1
    exact ⟨o, off + i * sz, rfl, by simp [idxAddrV, hi], fun j y hy => load_at hg ((h3 i x hx).2 j y hy)⟩
/-- A slice's tail. -/
theorem RowS.tail {v : AV} {sz : Nat} {xs : List (List AV)} (r : RowS h sz v xs) {n : Nat} (hn : n ≤ xs.length) {k : IntKind} : ∃ v', slcV sz v (some (.int k (n : Int))) none none = some v' ∧ SeesS h sz v' (xs.drop n) ∧ ∀ o ∈ objs v', o ∈ objs v := by
  rcases r with ⟨rfl, rfl⟩ | ⟨o, cap, ex, l, rfl, hg, h1, h2, h3⟩
  · have : n = 0 := by simpa using hn
    subst this
    exact ⟨.nilSlice, by simp [slcV, bounds, boundM, boundH, boundL, natOf, Option.filter], .inl ⟨rfl, rfl⟩, fun o ho => ho⟩
  · refine ⟨.slice o (if (ex || false) && decide (cap = n) then 0 else 0 + n * sz) sz (xs.length - n) (cap - n) (ex || false), ?_, .inr ⟨o, _, _, _, l, true, by rw [List.length_drop], hg, ?_, ?_⟩, ?_⟩
    · simp [slcV, bounds, boundM, boundH, boundL, natOf, Option.filter, hn]
    · have e1 : (xs.length - n) * sz + n * sz = xs.length * sz := by rw [← Nat.add_mul]; congr 1; omega
      have e2 : xs.length * sz ≤ cap * sz := Nat.mul_le_mul_right sz h2
      rw [List.length_drop]
      split <;> omega
    · intro i x hx
      rw [List.getElem?_drop] at hx
      obtain ⟨g1, g2⟩ := h3 (n + i) x hx
      refine ⟨g1, fun j y hy => ?_⟩
      have hlt := (List.getElem?_eq_some_iff.1 hx).1
      have hne : ¬ (((ex || false) && decide (cap = n)) = true) := by
        simp; intro _; omega
      rw [if_neg hne, show 0 + n * sz + i * sz + j = (n + i) * sz + j by rw [Nat.add_mul]; omega]
      exact g2 j y hy
    · intro p hp; simpa [objs] using hp
/-! ### slices.Clone -/
def cClone (sz bytes : Nat) : ACode := (.seq (.ops [⟨(some 2), .mov (.con .nilSlice), none⟩])
  (.seq (.seq (.ops [⟨(some 3), .mov (.tmp 0), none⟩,
    ⟨(some 4), .eqNil 1 false (.tmp 3) (.con .nilSlice), none⟩])
  (.cond (.tmp 4)
  (.seq (.ops [⟨(some 2), .mov (.con .nilSlice), none⟩])
  .ret)
  .skip))
  (.seq (.ops [⟨(some 5), .buildSlice sz 0 [] [], none⟩,
    ⟨(some 6), .mov (.tmp 0), none⟩,
    ⟨(some 7), .append sz bytes (.tmp 5) (.tmp 6), none⟩,
    ⟨(some 2), .mov (.tmp 7), none⟩])
  .ret)))
def aClone (sz bytes : Nat) : AFunc := ⟨1, cClone sz bytes, [.tmp 2]⟩
theorem cloneS_ok {g sz bytes : Nat} (he : T.env g = none) (hf : T.func g = some (aClone sz bytes)) (hl : Low h) {v : AV} {xs : List (List AV)} (s : SeesS h sz v xs) (hsz : 0 < sz) (hb : bytes ≤ 1048576) (hs : xs.length < 1000000) :
    Gives T g [v] h fun r h' => RowS h' sz r xs ∧ (∀ o ∈ objs r, h.next ≤ o) ∧ Quiet h h' ∧ Low h' := by
  refine gives_func he hf rfl ?_
  have s0 := s
  rcases s with ⟨rfl, rfl⟩ | ⟨o, off, cap, ex, l, rw', rfl, hg, h1, h3⟩
  · have hnil : eqNilV 1 .nilSlice .nilSlice = some true := rfl
    simp only [aClone, cClone, vms, vmc, AOpd.val, Nat.reduceEqDiff, reduceCtorEq, Nat.reduceAdd, Nat.reduceBEq, hnil]
    exact ⟨.inl ⟨rfl, rfl⟩, fun o ho => by simp [objs] at ho, Quiet.refl _, hl⟩
  · have hnil : eqNilV 1 (.slice o off sz xs.length cap ex) .nilSlice = some false := rfl
    have hbd : fillV [] [] = some [] := rfl
    have hol : o < h.next := hl _ _ hg
    have g1 : (h.new (.cells [] true)).get o = some (.cells l rw') := by rw [AH.get_new, if_neg (by omega)]; exact hg
    have q1 : Quiet h (h.new (.cells [] true)) := (Quiet.refl h).new _
    have lo1 := hl.new (.cells [] true)
    have hel : (h.new (.cells [] true)).elems sz xs.length (.slice o off sz xs.length cap ex) = some ((l.drop off).take (xs.length * sz)) := by
      simp only [AH.elems, true_and, Nat.le_refl, if_true, AH.load, g1]
      rw [if_pos h1]
    by_cases h0 : xs.length = 0
    · have hx : xs = [] := List.eq_nil_of_length_eq_zero h0
      subst hx
      have happ : appV sz bytes (h.new (.cells [] true)) (.slice h.next 0 sz 0 0 true) (.slice o off sz ([] : List (List AV)).length cap ex) = some (.slice h.next 0 sz 0 0 true, h.new (.cells [] true)) := by
        simp only [appV, len_slice, Option.bind_some, hel, appendV, if_true]
        simp
      simp only [aClone, cClone, vms, vmc, AOpd.val, Nat.reduceEqDiff, reduceCtorEq, Nat.reduceAdd, Nat.reduceBEq, hnil, hbd, happ, List.map_nil]
      refine ⟨.inr ⟨h.next, 0, true, [], rfl, get_new_same, by simp, by simp, fun i x hx => by simp at hx⟩, fun p hp => by simp [objs] at hp; omega, q1, lo1⟩
    · have hroom : roomOk (0 + xs.length) bytes 0 true = true := by
        have : (0 + xs.length) * bytes ≤ 1000000 * 1048576 := Nat.mul_le_mul (by omega) hb
        simp only [roomOk, Bool.or_eq_true, Bool.and_eq_true, decide_eq_true_eq]
        left; omega
      have hload : (h.new (.cells [] true)).load h.next 0 (0 * sz) = some [] := by
        simp only [AH.load, get_new_same, Nat.zero_mul]; rfl
      have happ : appV sz bytes (h.new (.cells [] true)) (.slice h.next 0 sz 0 0 true) (.slice o off sz xs.length cap ex) = some (.slice (h.next + 1) 0 sz xs.length xs.length false, (h.new (.cells [] true)).new (.cells ((l.drop off).take (xs.length * sz)) true)) := by
        simp only [appV, len_slice, Option.bind_some, hel, appendV, if_true]
        rw [if_neg (by omega), if_pos hroom, hload]
        simp [next_new]
      simp only [aClone, cClone, vms, vmc, AOpd.val, Nat.reduceEqDiff, reduceCtorEq, Nat.reduceAdd, Nat.reduceBEq, hnil, hbd, happ, List.map_nil]
      have g2 := get_new_same (h := h.new (.cells [] true)) (x := .cells ((l.drop off).take (xs.length * sz)) true)
      rw [next_new] at g2
      refine ⟨.inr ⟨h.next + 1, xs.length, false, (l.drop off).take (xs.length * sz), rfl, g2, by rw [List.length_take, List.length_drop]; omega, Nat.le_refl _, fun i x hx => ?_⟩, fun p hp => by simp [objs] at hp; omega, q1.new _, lo1.new _⟩
      obtain ⟨e1, e2⟩ := h3 i x hx
      refine ⟨e1, fun j y hy => ?_⟩
      have hi := (List.getElem?_eq_some_iff.1 hx).1
      have hj := (List.getElem?_eq_some_iff.1 hy).1
      have : (i + 1) * sz ≤ xs.length * sz := Nat.mul_le_mul_right sz (by omega)
      rw [Nat.add_mul, Nat.one_mul] at this
      rw [List.getElem?_take, if_pos (by omega), List.getElem?_drop, show off + (i * sz + j) = off + i * sz + j by omega]
      exact e2 j y hy
end Go.Vm

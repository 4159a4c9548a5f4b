/- Resources of the memory, and what actions leave of them; rows of elements of several cells. -/
import Derived.Test.YtpabmkicdcilpaaVmZf
namespace Go.Vm
open Go.RowKit
set_option linter.unusedSimpArgs false
set_option linter.unusedVariables false
variable {T : Prog} {h : AH}
/-- What is there is as it was, but for what F has. -/
def Mods (h h' : AH) (F : Nat → Prop) : Prop := h.next ≤ h'.next ∧ ∀ o, o < h.next → ¬ F o → h'.get o = h.get o
theorem Mods.refl (h : AH) (F : Nat → Prop) : Mods h h F := ⟨Nat.le_refl _, fun _ _ _ => rfl⟩
theorem Mods.trans {a b c : AH} {F G : Nat → Prop} (k : Mods a b F) (m : Mods b c G) (hG : ∀ o, G o → F o ∨ a.next ≤ o) : Mods a c F :=
  ⟨Nat.le_trans k.1 m.1, fun o ho hF => by
    rw [m.2 o (Nat.lt_of_lt_of_le ho k.1) (fun g => by exact (hG o g).elim hF (by omega))]
    exact k.2 o ho hF⟩
theorem Mods.mono {h h' : AH} {F G : Nat → Prop} (m : Mods h h' F) (hG : ∀ o, F o → G o ∨ h.next ≤ o) : Mods h h' G :=
  ⟨m.1, fun o ho hg => m.2 o ho fun hf => by exact (hG o hf).elim hg (by omega)⟩
theorem Only.mods {h h' : AH} {F : List Nat} (k : Only h h' F) {G : Nat → Prop} (hG : ∀ o ∈ F, G o ∨ h.next ≤ o) : Mods h h' G :=
  ⟨k.1, fun o ho hg => k.2 o ho fun hf => by exact (hG o hf).elim hg (by omega)⟩
theorem Mods.set {h h' : AH} {F : Nat → Prop} (k : Mods h h' F) {o : Nat} (ho : F o ∨ h.next ≤ o) (x : AObj) : Mods h (h'.set o x) F :=
  ⟨k.1, fun q hq hF => by
    rw [AH.get_set, if_neg (fun e => by subst e; exact ho.elim hF (by omega))]
    exact k.2 q hq hF⟩
theorem Mods.new {h h' : AH} {F : Nat → Prop} (k : Mods h h' F) (x : AObj) : Mods h (h'.new x) F :=
  ⟨by have := k.1; rw [next_new]; omega, fun q hq hF => by rw [AH.get_new, if_neg (by have := k.1; omega)]; exact k.2 q hq hF⟩
/-- What holds of the objects of F alone. -/
structure Res (φ : AH → Prop) (F : Nat → Prop) (h : AH) : Prop where
  low : ∀ o, F o → o < h.next
  loc : ∀ h', h.next ≤ h'.next → (∀ o, F o → h'.get o = h.get o) → φ h'
theorem Res.holds {φ : AH → Prop} {F : Nat → Prop} (r : Res φ F h) : φ h := r.loc h (Nat.le_refl _) fun _ _ => rfl
theorem Res.frame {φ : AH → Prop} {F G : Nat → Prop} {h' : AH} (r : Res φ F h) (m : Mods h h' G) (d : ∀ o, F o → ¬ G o) : Res φ F h' :=
  ⟨fun o ho => Nat.lt_of_lt_of_le (r.low o ho) m.1, fun h2 h3 h4 => r.loc h2 (Nat.le_trans m.1 h3) fun o ho => (h4 o ho).trans (m.2 o (r.low o ho) (d o ho))⟩
/-- An action that changes F alone; what it then has is F'. -/
structure Acts (h : AH) (F : Nat → Prop) (h' : AH) (F' : Nat → Prop) : Prop where
  mods : Mods h h' F
  grow : ∀ o, F' o → F o ∨ h.next ≤ o
  low : Low h'
theorem Acts.trans {a b c : AH} {F G H : Nat → Prop} (k : Acts a F b G) (m : Acts b G c H) : Acts a F c H :=
  ⟨k.mods.trans m.mods k.grow, fun o ho => by
    rcases m.grow o ho with h1 | h1
    · exact k.grow o h1
    · right; have := k.mods.1; omega, m.low⟩
theorem Acts.refl {F : Nat → Prop} (hl : Low h) : Acts h F h F := ⟨Mods.refl _ _, fun _ ho => .inl ho, hl⟩
theorem Acts.same {F : Nat → Prop} {h' : AH} (m : Mods h h' F) (hl : Low h') : Acts h F h' F := ⟨m, fun _ ho => .inl ho, hl⟩
/-- Only new objects are made. -/
def Quiet (h h' : AH) : Prop := Mods h h' (fun _ => False)
theorem Quiet.refl (h : AH) : Quiet h h := Mods.refl _ _
theorem Quiet.trans {a b c : AH} (k : Quiet a b) (m : Quiet b c) : Quiet a c := Mods.trans k m fun _ h => h.elim
theorem Quiet.new {h h' : AH} (k : Quiet h h') (x : AObj) : Quiet h (h'.new x) := Mods.new k x
theorem Quiet.set {h h' : AH} (k : Quiet h h') {o : Nat} (ho : h.next ≤ o) (x : AObj) : Quiet h (h'.set o x) := Mods.set k (.inr ho) x
theorem Quiet.mods {h h' : AH} (k : Quiet h h') (F : Nat → Prop) : Mods h h' F := Mods.mono k fun _ h => h.elim
theorem Only.quiet {h h' : AH} (k : Only h h' []) : Quiet h h' := k.mods fun o ho => by simp at ho
theorem Res.quiet {φ : AH → Prop} {F : Nat → Prop} {h' : AH} (r : Res φ F h) (k : Quiet h h') : Res φ F h' := r.frame k fun _ _ h => h
theorem Res.act {φ : AH → Prop} {F G G' : Nat → Prop} {h' : AH} (r : Res φ F h) (k : Acts h G h' G') (d : ∀ o, F o → ¬ G o) : Res φ F h' ∧ ∀ o, F o → ¬ G' o :=
  ⟨r.frame k.mods d, fun o ho hg => by
    rcases k.grow o hg with h1 | h1
    · exact d o ho h1
    · have := r.low o ho; omega⟩
/-- One object. -/
theorem res_obj {o : Nat} {x : AObj} (hl : Low h) (hg : h.get o = some x) : Res (fun h => h.get o = some x) (fun p => p = o) h :=
  ⟨fun p hp => by subst hp; exact hl _ _ hg, fun h' _ hk => (hk o rfl).trans hg⟩
theorem res_true : Res (fun _ => True) (fun _ => False) h := ⟨fun _ h => h.elim, fun _ _ _ => trivial⟩

/-! ### rows -/
theorem mem_objs_slice {o off sz len cap p : Nat} {ex : Bool} : p ∈ objs (.slice o off sz len cap ex) ↔ p = o := by simp [objs]
/-- Elements of several cells, in a row of their own. -/
def RowS (h : AH) (sz : Nat) (v : AV) (xs : List (List AV)) : Prop :=
  (v = .nilSlice ∧ xs = []) ∨ ∃ o cap ex l, v = .slice o 0 sz xs.length cap ex ∧ h.get o = some (.cells l true) ∧ l.length = cap * sz ∧ xs.length ≤ cap ∧ ∀ i x, xs[i]? = some x → x.length = sz ∧ ∀ j y, x[j]? = some y → l[i * sz + j]? = some y
theorem RowS.len {v : AV} {sz : Nat} {xs : List (List AV)} (r : RowS h sz v xs) : lenOfV v = some xs.length := by
  rcases r with ⟨rfl, rfl⟩ | ⟨o, cap, ex, l, rfl, _⟩ <;> rfl
theorem RowS.keep {h' : AH} {v : AV} {sz : Nat} {xs : List (List AV)} (r : RowS h sz v xs) (hk : ∀ o ∈ objs v, h'.get o = h.get o) : RowS h' sz v xs := by
  rcases r with ⟨rfl, rfl⟩ | ⟨o, cap, ex, l, rfl, hg, h1⟩
  · exact .inl ⟨rfl, rfl⟩
  · exact .inr ⟨o, cap, ex, l, rfl, (hk o (by simp [objs])).trans hg, h1⟩
theorem RowS.low {v : AV} {sz : Nat} {xs : List (List AV)} (r : RowS h sz v xs) (hl : Low h) : ∀ o ∈ objs v, o < h.next := by
  rcases r with ⟨rfl, rfl⟩ | ⟨o, cap, ex, l, rfl, hg, h1⟩
  · intro o ho; simp [objs] at ho
  · intro p hp; simp [objs] at hp; subst hp; exact hl _ _ hg
theorem RowS.cell {v : AV} {sz : Nat} {xs : List (List AV)} (r : RowS h sz v xs) : v.cells = [v] ∧ v.flat = true ∧ AV.beq v v = true := by
  rcases r with ⟨rfl, rfl⟩ | ⟨o, cap, ex, l, rfl, _⟩
  · exact ⟨rfl, rfl, by simp [AV.beq]⟩
  · exact ⟨rfl, rfl, by simp [AV.beq]⟩
theorem RowS.same {v : AV} {sz : Nat} {xs ys : List (List AV)} (r : RowS h sz v xs) (e : xs = ys) : RowS h sz v ys := e ▸ r
/-- An element: where it lies, its cells. -/
theorem RowS.at {v : AV} {sz : Nat} {xs : List (List AV)} (r : RowS h sz v xs) {i : Nat} {x : List AV} (hx : xs[i]? = some x) : ∃ o, objs v = [o] ∧ idxAddrV sz v (.int .i64 (i : Int)) = some (.ptr o (i * sz)) ∧ (∀ j y, x[j]? = some y → loadV h false 1 (.ptr o (i * sz + j)) = some y) ∧
    ∀ j y, j < sz → y.cells = [y] → y.flat = true → ∃ h', storeV h 1 (.ptr o (i * sz + j)) y = some h' ∧ Upd h h' o ∧ RowS h' sz v (xs.set i (x.set j y)) := by
  rcases r with ⟨rfl, rfl⟩ | ⟨o, cap, ex, l, rfl, hg, h1, h2, h3⟩
  · simp at hx
  · have hi := (List.getElem?_eq_some_iff.1 hx).1
    refine ⟨o, rfl, by simp [idxAddrV, hi], fun j y hy => load_at hg ((h3 i x hx).2 j y hy), fun j y hj hc hf => ?_⟩
    have hb : i * sz + j < l.length := by
      have : (i + 1) * sz ≤ cap * sz := Nat.mul_le_mul_right sz (by omega)
      rw [Nat.add_mul, Nat.one_mul] at this; omega
    refine ⟨_, store_at hg hb hc hf, (Upd.refl h o).set _, .inr ⟨o, cap, ex, _, by simp, get_set_same, by simpa using h1, by simpa using h2, ?_⟩⟩
    intro i' x' hx'
    rw [List.getElem?_set] at hx'
    by_cases e : i = i'
    · subst e
      rw [if_pos rfl, if_pos hi] at hx'
      cases hx'
      obtain ⟨g1, g2⟩ := h3 i x hx
      refine ⟨by simpa using g1, fun j' y' hy' => ?_⟩
      rw [List.getElem?_set] at hy' ⊢
      by_cases e2 : j = j'
      · subst e2
        rw [if_pos rfl, if_pos (by omega)] at hy'
        rw [if_pos rfl, if_pos hb]; exact hy'
      · rw [if_neg e2] at hy'
        rw [if_neg (by omega)]; exact g2 j' y' hy'
    · rw [if_neg e] at hx'
      obtain ⟨g1, g2⟩ := h3 i' x' hx'
      refine ⟨g1, fun j' y' hy' => ?_⟩
      have hj' : j' < sz := by have := (List.getElem?_eq_some_iff.1 hy').1; omega
      rw [List.getElem?_set, if_neg]
      · exact g2 j' y' hy'
      · intro e2
        rcases Nat.lt_or_gt_of_ne e with e3 | e3
        · have : (i + 1) * sz ≤ i' * sz := Nat.mul_le_mul_right sz (by omega)
          rw [Nat.add_mul, Nat.one_mul] at this; omega
        · have : (i' + 1) * sz ≤ i * sz := Nat.mul_le_mul_right sz (by omega)
          rw [Nat.add_mul, Nat.one_mul] at this; omega
/-- One element behind a row. -/
theorem RowS.append {v : AV} {sz bytes : Nat} {xs : List (List AV)} {x : List AV} {o2 : Nat} (hlow : Low h) (r : RowS h sz v xs) (hsz : 0 < sz) (hb : bytes ≤ 1048576) (hb0 : 0 < bytes) (hs : xs.length < 1000000) (h2 : h.get o2 = some (.cells x true)) (hxl : x.length = sz) (hfl : x.all AV.flat = true) :
    ∃ v' h', appV sz bytes h v (.slice o2 0 sz 1 1 true) = some (v', h') ∧ RowS h' sz v' (xs ++ [x]) ∧ (∀ o ∈ objs v', o ∈ objs v ∨ h.next ≤ o) ∧ (∀ o ∈ objs v', o < h'.next) ∧ Only h h' (objs v) ∧ Low h' := by
  have hel : h.elems sz 1 (.slice o2 0 sz 1 1 true) = some x := by
    simp only [AH.elems, true_and, Nat.le_refl, if_true, AH.load, h2]
    rw [if_pos (by rw [hxl]; omega), List.drop_zero, List.take_of_length_le (by rw [hxl]; omega)]
  have hroom : ∀ cap ex, roomOk (xs.length + 1) bytes cap ex = true := by
    intro cap ex
    have : (xs.length + 1) * bytes ≤ 1000000 * 1048576 := Nat.mul_le_mul (by omega) hb
    simp only [roomOk, Bool.or_eq_true, Bool.and_eq_true, decide_eq_true_eq]
    left; omega
  rcases r with ⟨rfl, rfl⟩ | ⟨o, cap, ex, l, rfl, hg, h1, h3, h4⟩
  · refine ⟨.slice h.next 0 sz 1 1 false, h.new (.cells x true), ?_, ?_, ?_, ?_, Only.new (Only.refl h _) _, hlow.new _⟩
    · simp only [appV, len_slice, Option.bind_some, hel, appendV]
      rw [if_neg (by decide), if_pos (show roomOk 1 bytes 0 true = true from hroom 0 true)]
    · refine .inr ⟨h.next, 1, false, x, rfl, get_new_same, by rw [hxl, Nat.one_mul], by simp, ?_⟩
      intro i s hs
      cases i with
      | zero => simp at hs; subst hs; exact ⟨hxl, fun j y hy => by simpa using hy⟩
      | succ i => simp at hs
    · intro o ho; simp [objs] at ho; subst ho; exact .inr (Nat.le_refl _)
    · intro o ho; simp [objs] at ho; subst ho; rw [next_new]; omega
  · have hlt : o < h.next := hlow o _ hg
    have hsub : xs.length * sz + sz ≤ cap * sz ∨ cap < xs.length + 1 := by
      by_cases hc : xs.length + 1 ≤ cap
      · left
        have : (xs.length + 1) * sz ≤ cap * sz := Nat.mul_le_mul_right sz hc
        rwa [Nat.add_mul, Nat.one_mul] at this
      · right; omega
    have hle : xs.length * sz ≤ l.length := by rw [h1]; exact Nat.mul_le_mul_right sz h3
    by_cases hc : xs.length + 1 ≤ cap
    · have hcs : xs.length * sz + sz ≤ l.length := by rw [h1]; rcases hsub with h5 | h5 <;> omega
      obtain ⟨s1, s2⟩ := setMany_get l x (0 + xs.length * sz)
      obtain ⟨s3, s4, s5⟩ := s2 (by rw [hxl]; omega)
      have hst : h.store o (0 + xs.length * sz) x = some (h.set o (.cells (setMany l (0 + xs.length * sz) x) true)) := by
        simp only [AH.store, hg]
        rw [if_pos ⟨by rw [hxl]; omega, hfl⟩]
      refine ⟨.slice o 0 sz (xs.length + 1) cap ex, _, ?_, ?_, ?_, ?_, (Only.refl h _).set (.inl (by simp [objs])) (.cells (setMany l (0 + xs.length * sz) x) true), hlow.set hlt _⟩
      · simp only [appV, len_slice, Option.bind_some, hel, appendV, if_true]
        rw [if_pos hc, if_neg (by omega), hst]
        rfl
      · refine .inr ⟨o, cap, ex, _, by simp, get_set_same, by rw [s1]; exact h1, by simp; omega, ?_⟩
        intro i s hs
        by_cases e : i = xs.length
        · subst e
          rw [List.getElem?_append_right (Nat.le_refl _)] at hs
          simp at hs; subst hs
          refine ⟨hxl, fun j y hy => ?_⟩
          have := s4 j y hy
          rw [show 0 + xs.length * sz + j = xs.length * sz + j by omega] at this; exact this
        · have hi : i < xs.length := by
            have := (List.getElem?_eq_some_iff.1 hs).1
            simp at this; omega
          rw [List.getElem?_append_left hi] at hs
          obtain ⟨g1, g2⟩ := h4 i s hs
          refine ⟨g1, fun j y hy => ?_⟩
          have hj : j < sz := by have := (List.getElem?_eq_some_iff.1 hy).1; omega
          have : (i + 1) * sz ≤ xs.length * sz := Nat.mul_le_mul_right sz (by omega)
          rw [Nat.add_mul, Nat.one_mul] at this
          rw [s3 _ (by omega)]
          exact g2 j y hy
      · intro q hq; simp [objs] at hq; subst hq; exact .inl (by simp [objs])
      · intro q hq; simp [objs] at hq; subst hq; rw [next_set]; exact hlt
    · have hload : h.load o 0 (xs.length * sz) = some (l.take (xs.length * sz)) := by
        simp only [AH.load, hg, List.drop_zero]
        rw [if_pos (by omega)]
      have hrw : h.isRw o = true := by simp [AH.isRw, hg]
      have hlen : (l.take (xs.length * sz)).length = xs.length * sz := by rw [List.length_take]; omega
      have fin : ∀ (g : AH), g.get h.next = some (.cells (l.take (xs.length * sz) ++ x) true) → RowS g sz (.slice h.next 0 sz (xs.length + 1) (xs.length + 1) false) (xs ++ [x]) := by
        intro g hgn
        refine .inr ⟨h.next, xs.length + 1, false, l.take (xs.length * sz) ++ x, by simp, hgn, by rw [List.length_append, hlen, hxl, Nat.add_mul, Nat.one_mul], by simp, ?_⟩
        intro i s hs
        by_cases e : i = xs.length
        · subst e
          rw [List.getElem?_append_right (Nat.le_refl _)] at hs
          simp at hs; subst hs
          refine ⟨hxl, fun j y hy => ?_⟩
          rw [List.getElem?_append_right (by omega), hlen, show xs.length * sz + j - xs.length * sz = j by omega]
          exact hy
        · have hi : i < xs.length := by
            have := (List.getElem?_eq_some_iff.1 hs).1
            simp at this; omega
          rw [List.getElem?_append_left hi] at hs
          obtain ⟨g1, g2⟩ := h4 i s hs
          refine ⟨g1, fun j y hy => ?_⟩
          have hj : j < sz := by have := (List.getElem?_eq_some_iff.1 hy).1; omega
          have : (i + 1) * sz ≤ xs.length * sz := Nat.mul_le_mul_right sz (by omega)
          rw [Nat.add_mul, Nat.one_mul] at this
          rw [List.getElem?_append_left (by omega), List.getElem?_take, if_pos (by omega)]
          exact g2 j y hy
      cases ex with
      | false =>
        refine ⟨.slice h.next 0 sz (xs.length + 1) (xs.length + 1) false, (h.set o .dead).new (.cells (l.take (xs.length * sz) ++ x) true), ?_, ?_, ?_, ?_, ((Only.refl h _).set (.inl (by simp [objs])) _).new _, (hlow.set hlt _).new _⟩
        · simp only [appV, len_slice, Option.bind_some, hel, appendV, if_true]
          rw [if_neg hc, if_pos (hroom _ _), hload]
          simp [hrw, hfl, next_set]
        · have := get_new_same (h := h.set o .dead) (x := .cells (l.take (xs.length * sz) ++ x) true)
          rw [next_set] at this
          exact fin _ this
        · intro q hq; simp [objs] at hq; subst hq; exact .inr (Nat.le_refl _)
        · intro q hq; simp [objs] at hq; subst hq; rw [next_new, next_set]; omega
      | true =>
        refine ⟨.slice h.next 0 sz (xs.length + 1) (xs.length + 1) false, h.new (.cells (l.take (xs.length * sz) ++ x) true), ?_, fin _ get_new_same, ?_, ?_, (Only.refl h _).new _, hlow.new _⟩
        · simp only [appV, len_slice, Option.bind_some, hel, appendV, if_true]
          rw [if_neg hc, if_pos (hroom _ _), hload]
        · intro q hq; simp [objs] at hq; subst hq; exact .inr (Nat.le_refl _)
        · intro q hq; simp [objs] at hq; subst hq; rw [next_new]; omega
end Go.Vm

/- Second looks at new objects; words that were handed in. -/
import Derived.Test.YtpabmkicdcilpaaVmZl
namespace Go.Vm
open Go.RowKit
set_option linter.unusedSimpArgs false
set_option linter.unusedVariables false
variable {f : Fr} {h : AH}
theorem look_new {d q : Nat} {zero : List AV} (hd : f.at d = .ptr q 0) (hq : h.get q = some (.cells zero true)) (hz : AV.beqs zero zero = true) : AOper.lookAgain ⟨some d, .new zero, none⟩ f h = true := by
  unfold AOper.lookAgain
  simp only [wantedV, AOp.eval]
  rw [if_neg (by rw [next_new]; omega), hd]
  simp only [objOf, get_new_same, hq, beqObj, hz]
  rfl
/-- No longer than its room. -/
def capOk : AV → Prop
  | .slice _ _ _ len cap _ => len ≤ cap
  | _ => True
theorem Came.capOk {P : Program} {t e : TypeId} {a : AV} (ht : P.underlying t = some (.slice e)) (c : Came P h t [a]) : capOk a := by
  cases c with
  | struct hu => rw [ht] at hu; cases hu
  | array hu => rw [ht] at hu; cases hu
  | slice hu hg hl hn => exact hn
  | _ => trivial
/-- A slice's beginning. -/
theorem Sees.upto {v : AV} {xs : List AV} (s : Sees h v xs) (hcap : capOk v) {n : Nat} (hn : n ≤ xs.length) {k : IntKind} : ∃ v', slcV 1 v none (some (.int k (n : Int))) none = some v' ∧ Sees h v' (xs.take n) ∧ (∀ o ∈ objs v', o ∈ objs v) ∧ v'.cells = [v'] ∧ v'.flat = true := by
  rcases s with ⟨rfl, rfl⟩ | ⟨o, off, cap, ex, l, rw, rfl, hg, h1, h2⟩
  · have : n = 0 := by simpa using hn
    subst this
    exact ⟨.nilSlice, by simp [slcV, bounds, boundM, boundH, boundL, natOf, Option.filter], .inl ⟨rfl, rfl⟩, fun o ho => ho, rfl, rfl⟩
  · have hc : n ≤ cap := Nat.le_trans hn hcap
    · refine ⟨.slice o off 1 n cap ex, ?_, .inr ⟨o, off, cap, ex, l, rw, by rw [List.length_take, Nat.min_eq_left hn], hg, by rw [List.length_take]; omega, fun i x hx => ?_⟩, fun p hp => by simpa [objs] using hp, rfl, rfl⟩
      · simp [slcV, bounds, boundM, boundH, boundL, natOf, Option.filter, hc]
      · rw [List.getElem?_take] at hx
        split at hx
        · exact h2 i x hx
        · cases hx
/-! ### objects that stay -/
/-- These objects are so, and none is F's. -/
def Kept (h : AH) (F : Nat → Prop) (L : List (Nat × AObj)) : Prop := ∀ p ∈ L, h.get p.1 = some p.2 ∧ ¬ F p.1
section
variable {F F' : Nat → Prop} {L : List (Nat × AObj)} {h' : AH}
theorem Kept.nil : Kept h F [] := fun p hp => by simp at hp
theorem Kept.cons {o : Nat} {x : AObj} (k : Kept h F L) (hg : h.get o = some x) (hF : ¬ F o) : Kept h F ((o, x) :: L) := fun p hp => by
  rcases List.mem_cons.1 hp with rfl | h1
  · exact ⟨hg, hF⟩
  · exact k p h1
theorem Kept.append {M : List (Nat × AObj)} (k : Kept h F L) (m : Kept h F M) : Kept h F (L ++ M) := fun p hp => (List.mem_append.1 hp).elim (k p) (m p)
theorem Kept.head {o : Nat} {x : AObj} (k : Kept h F ((o, x) :: L)) : h.get o = some x := (k (o, x) (by simp)).1
theorem Kept.headF {o : Nat} {x : AObj} (k : Kept h F ((o, x) :: L)) : ¬ F o := (k (o, x) (by simp)).2
theorem Kept.tail {p : Nat × AObj} (k : Kept h F (p :: L)) : Kept h F L := fun q hq => k q (by simp [hq])
theorem Kept.mono {M : List (Nat × AObj)} (k : Kept h F L) (hs : ∀ p ∈ M, p ∈ L) : Kept h F M := fun p hp => k p (hs p hp)
theorem Kept.acts (k : Kept h F L) (hl : Low h) (a : Acts h F h' F') : Kept h' F' L := fun p hp => by
  obtain ⟨h1, h2⟩ := k p hp
  have := hl _ _ h1
  exact ⟨a.get h1 this h2, a.not this h2⟩
theorem Kept.quiet (k : Kept h F L) (hl : Low h) (q : Quiet h h') : Kept h' F L := fun p hp => by
  obtain ⟨h1, h2⟩ := k p hp
  exact ⟨q.get h1 (hl _ _ h1), h2⟩
theorem Kept.other (k : Kept h F L) {o : Nat} (ho : ∀ p ∈ L, p.1 ≠ o) (x : AObj) : Kept (h.set o x) F L := fun p hp => by
  obtain ⟨h1, h2⟩ := k p hp
  exact ⟨by rw [AH.get_set, if_neg (Ne.symm (ho p hp))]; exact h1, h2⟩
theorem Kept.turn {o : Nat} {x : AObj} (k : Kept h F ((o, x) :: L)) (ho : ∀ p ∈ L, p.1 ≠ o) (y : AObj) : Kept (h.set o y) F ((o, y) :: L) := (k.tail.other ho y).cons get_set_same k.headF
theorem Kept.low (k : Kept h F L) (hl : Low h) : ∀ p ∈ L, p.1 < h.next := fun p hp => hl _ _ (k p hp).1
/-- Another F, of which none of these is. -/
theorem Kept.begin (hg : ∀ p ∈ L, h.get p.1 = some p.2) (hl : Low h) (hF : ∀ o, F o → h.next ≤ o) (q : Quiet h h') : Kept h' F L := fun p hp => by
  have h1 := hg p hp
  have := hl _ _ h1
  exact ⟨q.get h1 this, fun hf => by have := hF _ hf; omega⟩
end
theorem Sees.kept {v : AV} {xs : List AV} (s : Sees h v xs) : ∃ L : List (Nat × AObj), (∀ p ∈ L, h.get p.1 = some p.2 ∧ p.1 ∈ objs v) ∧ (∀ o ∈ objs v, ∃ p ∈ L, p.1 = o) ∧ ∀ h' : AH, (∀ p ∈ L, h'.get p.1 = some p.2) → Sees h' v xs := by
  rcases s with ⟨rfl, rfl⟩ | ⟨o, off, cap, ex, l, rw, rfl, hg, h1, h2⟩
  · exact ⟨[], fun p hp => by simp at hp, fun o ho => by simp [objs] at ho, fun h' _ => .inl ⟨rfl, rfl⟩⟩
  · exact ⟨[(o, .cells l rw)], fun p hp => by simp at hp; subst hp; exact ⟨hg, by simp [objs]⟩, fun q hq => ⟨_, List.mem_singleton.2 rfl, by simp [objs] at hq; exact hq.symm⟩, fun h' hk => .inr ⟨o, off, cap, ex, l, rw, rfl, hk _ (List.mem_singleton.2 rfl), h1, h2⟩⟩
theorem came_one {P : Program} {h : AH} {t e : TypeId} {a : AV} (ht : P.underlying t = some (.slice e)) (c : Came P h t [a]) : CameV P h t a := ⟨[a], c, by simp only [avOf, ht, List.headD_cons]⟩
theorem CellsAre.cons_inv {P : Program} {h : AH} {k : CK} {ks : List CK} {cs : List AV} (c : CellsAre P h (k :: ks) cs) : ∃ a r, cs = a :: r ∧ CellIs P h k a ∧ CellsAre P h ks r := by
  cases cs with
  | nil => exact c.elim
  | cons a r => exact ⟨a, r, rfl, c.1, c.2⟩
theorem CellsAre.nil_inv {P : Program} {h : AH} {cs : List AV} (c : CellsAre P h [] cs) : cs = [] := by
  cases cs with
  | nil => rfl
  | cons a r => exact c.elim
end Go.Vm

/- Rows beside what changes; one element behind a row. -/
import Derived.Test.YtjbkjffolnodjaaVmZs
namespace Go.Vm
open Go.RowKit
set_option linter.unusedSimpArgs false
set_option linter.unusedVariables false
variable {T : Vm.Prog} {h : AH}
theorem row1_append {v : AV} {bytes : Nat} {xs : List AV} {x : AV} {o2 : Nat} (hlow : Low h) (r : Row1 h v xs) (hb : bytes ≤ 1048576) (hb0 : 0 < bytes) (hs : xs.length < 1000000) (h2 : h.get o2 = some (.cells [x] true)) (hfl : x.flat = true) :
    ∃ v' h', appV 1 bytes h v (.slice o2 0 1 1 1 true) = some (v', h') ∧ Row1 h' v' (xs ++ [x]) ∧ (∀ o ∈ objs v', o ∈ objs v ∨ h.next ≤ o) ∧ (∀ o ∈ objs v', o < h'.next) ∧ Only h h' (objs v) ∧ Low h' := by
  obtain ⟨v', h', h1, h3, h4⟩ := RowS.append hlow r (by decide) hb hb0 (by simpa using hs) h2 rfl (by simp [hfl])
  exact ⟨v', h', h1, by simpa [Row1] using h3, h4⟩
theorem row_quiet {h' : AH} {v : AV} {xs : List AV} (r : Row1 h v xs) (hl : Low h) (q : Quiet h h') : Row1 h' v xs := RowS.keep r fun o ho => q.2 o (RowS.low r hl o ho) id
/-- One element behind a row, out of a literal. -/
theorem row_app {v : AV} {bytes : Nat} {xs : List AV} {x : AV} (hl : Low h) (r : Row1 h v xs) (hb : bytes ≤ 1048576) (hb0 : 0 < bytes) (hs : xs.length < 1000000) (hfl : x.flat = true) :
    ∃ v' h', appV 1 bytes (h.new (.cells [x] true)) v (.slice h.next 0 1 1 1 true) = some (v', h') ∧ Row1 h' v' (xs ++ [x]) ∧ (∀ o ∈ objs v', o ∈ objs v ∨ h.next ≤ o) ∧ Mods h h' (fun o => o ∈ objs v) ∧ Low h' := by
  have r1 : Row1 (h.new (.cells [x] true)) v xs := row_quiet r hl ((Quiet.refl h).new _)
  obtain ⟨v', h', h1, h2, h3, h4, h5, h6⟩ := row1_append (hl.new _) r1 hb hb0 hs (o2 := h.next) get_new_same hfl
  refine ⟨v', h', h1, h2, fun o ho => ?_, ?_, h6⟩
  · rcases h3 o ho with h7 | h7
    · exact .inl h7
    · rw [next_new] at h7; exact .inr (by omega)
  · refine Mods.trans (((Quiet.refl h).new _).mods _) (h5.mods (G := fun o => o ∈ objs v) fun o ho => .inl ho) fun o ho => .inl ho
end Go.Vm

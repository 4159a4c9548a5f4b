/- The program that the law of queries on sets is run in. -/
import Derived.Test.YtjbkjffolnodjaaP23V
import Derived.Test.YtjbkjffolnodjaaP23Law
import Derived.Test.YtjbkjffolnodjaaP23K
import Derived.Test.YtjbkjffolnodjaaVmZj
namespace Go.Proofs.Ytjbkjffolnodjaa
open Go.Vm
set_option linter.unusedSimpArgs false
set_option linter.unusedVariables false
set_option maxRecDepth 1000000
noncomputable def LS1 : Vm.Prog := withEnv lawProg 37 sortZ
theorem LS1_ok : TabOk Try.prog LS1 := withEnv_ok law_ok sortZ_ok
noncomputable def lawProgS : Vm.Prog := withEnv LS1 38 cptZ
theorem lawS_ok : TabOk Try.prog lawProgS := withEnv_ok LS1_ok cptZ_ok
theorem lawS_base : BaseS lawProgS where
  base := {
    func := rfl
    env := fun n ⟨h0, h1, h2, h3⟩ => by simp [lawProgS, LS1, lawProg, withYes, withEnv, h1, h2, h3] }
  srt := by simp [lawProgS, LS1, withEnv]
  cpt := by simp [lawProgS, withEnv]
theorem lawS_yes (h : AH) : Gives lawProgS 3 [] h fun r h' => r = .bool true ∧ h' = h := ⟨_, _, by rw [run_env (e := Vm.yes) (by simp [lawProgS, LS1, lawProg, withYes, withEnv])]; rfl, rfl, rfl⟩
end Go.Proofs.Ytjbkjffolnodjaa
/- What comes in: queries, sets. -/
namespace Go.Proofs.Ytjbkjffolnodjaa
open Go.Vm
set_option linter.unusedSimpArgs false
set_option linter.unusedVariables false
set_option maxRecDepth 1000000
variable {h : AH}
theorem part_cells {P : Program} {cs : List AV} (c : CellsAre P h [.int .i64, .str] cs) : ∃ kd s, cs = [.int .i64 kd, .str s] ∧ s.length ≤ 9223372036854775807 := by
  match cs, c with
  | [], c => exact c.elim
  | [a], c => exact c.2.elim
  | [a, b], c =>
    obtain ⟨⟨n, rfl, _⟩, ⟨s, rfl, hs⟩, _⟩ := c
    exact ⟨n, s, rfl, hs⟩
  | a :: b :: d :: r, c => exact c.2.2.elim
theorem parts_of : ∀ {xs : List (List AV)}, (∀ x ∈ xs, ∃ kd s, x = [.int .i64 kd, .str s] ∧ s.length ≤ 9223372036854775807) → ∃ q : List Part, xs = parts q ∧ ∀ p ∈ q, p.2.length ≤ 9223372036854775807
  | [], _ => ⟨[], rfl, by simp⟩
  | x :: xs, hx => by
    obtain ⟨q, rfl, hq⟩ := parts_of (xs := xs) fun y hy => hx y (by simp [hy])
    obtain ⟨kd, s, rfl, hs⟩ := hx x (by simp)
    refine ⟨(kd, s) :: q, rfl, fun p hp => ?_⟩
    rcases List.mem_cons.1 hp with rfl | hp
    · exact hs
    · exact hq p hp
theorem query_in {a : AV} (c : CameV Try.prog h 22 a) : ∃ q : List Part, SeesS h 2 a (parts q) ∧ q.length ≤ 9223372036854775807 ∧ ∀ p ∈ q, p.2.length ≤ 9223372036854775807 := by
  obtain ⟨xs, hs, hl, hc, _⟩ := came_slice Try.underlying22 c
  rw [show Try.prog.cellsOf 35 = 2 from by kernel_rfl] at hs
  have hmax := maxLen_eq
  obtain ⟨q, rfl, hq⟩ := parts_of (xs := xs) fun x hx => by
    have hk := came_shape (dp := true) 12 35 x (by kernel_rfl) (hc x hx)
    rw [show shapeT Try.prog 12 35 = [.int .i64, .str] from by kernel_rfl] at hk
    exact part_cells hk
  rw [parts_len] at hl
  exact ⟨q, hs, by omega, hq⟩
theorem ids_in {a : AV} (c : CameV Try.prog h 26 a) : ∃ l : List Int, Sees h a (izs l) := by
  obtain ⟨xs, s, _⟩ := came_intRow Try.underlying26 Try.underlying3 (by kernel_rfl) c
  exact ⟨xs, s⟩
theorem lists_of : ∀ {xs : List AV}, (∀ x ∈ xs, ∃ l : List Int, Sees h x (izs l)) → ∃ ss : List (List Int), xs.length = ss.length ∧ ∀ (i : Nat) (x : AV) (s : List Int), xs[i]? = some x → ss[i]? = some s → Sees h x (izs s)
  | [], _ => ⟨[], rfl, fun i x s hx => by simp at hx⟩
  | x :: xs, hx => by
    obtain ⟨ss, h1, h2⟩ := lists_of (xs := xs) fun y hy => hx y (by simp [hy])
    obtain ⟨l, hl⟩ := hx x (by simp)
    refine ⟨l :: ss, by simp [h1], fun i y s hy hs => ?_⟩
    match i with
    | 0 => simp at hy hs; subst hy; subst hs; exact hl
    | i + 1 => exact h2 i y s (by simpa using hy) (by simpa using hs)
theorem sets_in {a : AV} (c : CameV Try.prog h 28 a) : ∃ ss : List (List Int), SW h a ss := by
  obtain ⟨ys, s, hl, hy, _⟩ := came_row (Q := fun y => ∃ l : List Int, Sees h y (izs l)) Try.underlying28 (by kernel_rfl) (fun x hx => by
    have hk := came_shape (dp := true) 12 26 x (by kernel_rfl) hx
    rw [show shapeT Try.prog 12 26 = [.slice 3] from by kernel_rfl] at hk
    match x, hk with
    | [], hk => exact hk.elim
    | [v], hk =>
      obtain ⟨⟨t, ht, cv⟩, _⟩ := hk
      obtain ⟨xs, s, _⟩ := came_intRow ht Try.underlying3 (by kernel_rfl) ⟨[v], cv, by unfold avOf; rw [ht]⟩
      exact ⟨v, rfl, xs, s⟩
    | a :: b :: r, hk => exact hk.2.elim) c
  obtain ⟨ss, h1, h2⟩ := lists_of hy
  exact ⟨ss, ys, s, h1, h2⟩
end Go.Proofs.Ytjbkjffolnodjaa

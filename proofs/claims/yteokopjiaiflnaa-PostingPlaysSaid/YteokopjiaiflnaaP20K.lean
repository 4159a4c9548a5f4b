/- The program that the laws are run in. -/
import Derived.Test.YteokopjiaiflnaaP20M
import Derived.Test.YteokopjiaiflnaaVmZx
namespace Go.Proofs.Yteokopjiaiflnaa
open Go.Vm
set_option linter.unusedSimpArgs false
set_option linter.unusedVariables false
set_option maxRecDepth 1000000
noncomputable def LT0 : Vm.Prog := withOvl table 43 43
theorem LT0_ok : TabOk Try.prog LT0 := withOvl_ok table_ok ovI ovI
noncomputable def LT1 : Vm.Prog := withEnv LT0 33 (insRun table 43 43 33)
theorem LT1_ok : TabOk Try.prog LT1 := withEnv_ok LT0_ok (insV_run (T := LT0) (z := .int .i64 0) (bytes := 8) (gv := 43) (gr := 44) LT0_ok rfl rfl rfl (by decide))
noncomputable def LT2 : Vm.Prog := withEnv LT1 10 (rL LT1 rf10)
theorem LT2_ok : TabOk Try.prog LT2 := withEnv_ok LT1_ok (rL_ok LT1_ok (fn := Try.f10) Try.func10 kr10)
noncomputable def lawProg : Vm.Prog := withEnv LT2 3 yes
theorem law_ok : TabOk Try.prog lawProg := withEnv_ok LT2_ok fun _ _ _ _ hr => .inl (closed_yes T2_ok ran rfl _ _ _ _ hr)
theorem base1 : Base LT1 where
  func := rfl
  env := fun n ⟨h0, h1, h2, h3, h4⟩ => by simp [LT1, LT0, withEnv, withOvl, h3, h4]
  insI := by simp [LT1, withEnv]
structure Fits (T : Vm.Prog) : Prop where
  base : Base T
  yes : ∀ h, Gives T 3 [] h fun r h' => r = .bool true ∧ h' = h
  of : T.env 10 = some (rL LT1 rf10)
theorem law_fits : Fits lawProg where
  base := {
    func := rfl
    env := fun n ⟨h0, h1, h2, h3, h4⟩ => by simp [lawProg, LT2, LT1, LT0, withEnv, withOvl, h1, h2, h3, h4]
    insI := by simp [lawProg, LT2, LT1, withEnv] }
  yes := fun h => ⟨_, _, by rw [run_env (e := Vm.yes) (by simp [lawProg, withEnv])]; rfl, rfl, rfl⟩
  of := by simp [lawProg, LT2, withEnv]
variable {T : Vm.Prog} {h : AH}
theorem Fits.ofs (k : Fits T) (hl : Low h) {v : AV} {ids : List Int} (s : Sees h v (izs ids)) (hc : capOk v) (hids : ids.length < 100000) :
    Gives T 10 [v] h fun r h' => Quiet h h' ∧ Low h' ∧ ((OkIds ids ∧ ∃ lv, r = .tuple [lv, .int .i64 0] ∧ ListV h' lv (chunks ids)) ∨ (¬ OkIds ids ∧ r = .tuple [.agg [.nilSlice], .int .i64 8])) := of_ok base1 k.of hl s hc hids
theorem came_cap {P : Program} {t e : TypeId} {a : AV} (ht : P.underlying t = some (.slice e)) (c : CameV P h t a) : capOk a := by
  obtain ⟨ys, c, rfl⟩ := c
  cases c <;> simp_all [avOf, capOk]
theorem listV_nil : ListV h (.agg [.nilSlice]) [] := ⟨_, rfl, [], .inl ⟨rfl, rfl⟩, trivial, rfl, fun i x b hx => by simp at hx⟩
theorem good_nil : Good [] := ⟨by simp, by simp [Rise], by simp⟩
theorem same_ok (k : Base T) {va vb : AV} {xs ys : List Int} (hx : Sees h va (izs xs)) (hy : Sees h vb (izs ys)) (hl : xs.length < 9223372036854775807) (hl' : ys.length < 9223372036854775807) :
    Gives T 19 [va, vb] h fun r h' => r = .bool (decide (xs = ys)) ∧ h' = h := sameG_ok (k.env 19 (by decide)) (k.at (n := 19) rfl) hx hy hl hl'
end Go.Proofs.Yteokopjiaiflnaa

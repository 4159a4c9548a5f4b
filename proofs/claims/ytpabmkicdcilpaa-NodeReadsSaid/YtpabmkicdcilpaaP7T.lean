/- The closed sentence of chapter 7. -/
import Derived.Test.YtpabmkicdcilpaaP7Code
import Derived.Test.YtpabmkicdcilpaaVmZv
namespace Go.Proofs.Ytpabmkicdcilpaa
open Go.Vm
set_option maxRecDepth 1000000
theorem ovB : ∀ args h r h', ovl args h = some (r, h') → CSim Try.prog 82 args h r h' :=
  ovl_some (fn := Try.f82) (tS := 23) (tR := 4) (e := 5) Try.func82 (by kernel_rfl) (by kernel_rfl) (by kernel_rfl) (by kernel_rfl) (by kernel_rfl) (by kernel_rfl)
theorem ovI : ∀ args h r h', ovl args h = some (r, h') → CSim Try.prog 84 args h r h' :=
  ovl_some (fn := Try.f84) (tS := 24) (tR := 4) (e := 3) Try.func84 (by kernel_rfl) (by kernel_rfl) (by kernel_rfl) (by kernel_rfl) (by kernel_rfl) (by kernel_rfl)
def insProg : Vm.Prog := withIns table 82 84 60 61
theorem ins_ok : TabOk Try.prog insProg := withIns_ok (z1 := .int .u8 0) (z2 := .int .i64 0) (y1 := 1) (y2 := 8) (r1 := 83) (r2 := 85) table_ok ovB ovI rfl rfl (by decide) (by decide) (by decide)
theorem ran : Vm.saysTrue (Vm.arun insProg 100000 3 [] Vm.AH.empty) = true := by kernel_rfl
theorem ibF : ∀ args h r h', ibs args h = some (r, h') → CSim Try.prog 101 args h r h' := ibs_ok (fn := Try.f101) Try.func101 (by kernel_rfl) (by kernel_rfl) (by kernel_rfl) (by kernel_rfl)
noncomputable def lawProg : Vm.Prog := withEnv (lawIns table 3 82 84 60 61) 101 ibs
theorem law_ok : TabOk Try.prog lawProg := withEnv_ok (g := 101) (e := ibs) (T := lawIns table 3 82 84 60 61) (lawIns_ok (z1 := .int .u8 0) (z2 := .int .i64 0) (y1 := 1) (y2 := 8) (r1 := 83) (r2 := 85) table_ok (closed_yes ins_ok ran) ovB ovI rfl rfl (by decide) (by decide) (by decide)) ibF
/-- A program of these functions, the closed sentence and slices.Insert beside. -/
structure Fits (T : Vm.Prog) : Prop where
  func : T.func = table
  env : ∀ n, (n ≠ 3 ∧ n ≠ 60 ∧ n ≠ 61 ∧ n ≠ 82 ∧ n ≠ 84 ∧ n ≠ 101) → T.env n = none
  yes : ∀ h, Gives T 3 [] h fun r h' => r = .bool true ∧ h' = h
  insB : T.env 60 = some (insRun table 82 84 60)
  insI : T.env 61 = some (insRun table 82 84 61)
  ib : T.env 101 = some ibs
theorem law_fits : Fits lawProg where
  func := rfl
  env := fun n ⟨h1, h2, h3, h4, h5, h6⟩ => by simp [lawProg, withEnv, lawIns, h1, h2, h3, h4, h5, h6]
  yes := fun h => ⟨_, _, by rw [run_env (e := yes) (by simp [lawProg, withEnv, lawIns])]; rfl, rfl, rfl⟩
  insB := by simp [lawProg, withEnv, lawIns]
  insI := by simp [lawProg, withEnv, lawIns]
  ib := by simp [lawProg, withEnv]
theorem Fits.at {T : Vm.Prog} (k : Fits T) {n : Nat} {fn : AFunc} (h : table n = some fn) : T.func n = some fn := by rw [k.func]; exact h
end Go.Proofs.Ytpabmkicdcilpaa

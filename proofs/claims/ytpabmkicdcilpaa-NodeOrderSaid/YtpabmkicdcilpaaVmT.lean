/- Closed runs. -/
import Derived.Test.YtpabmkicdcilpaaVmS
namespace Go.Vm
open Go.RowKit
set_option linter.unusedSimpArgs false
set_option linter.unusedVariables false

def tabOf (P : Program) : Prog := ⟨fun g => (P.funcs[g]?).bind (cFunc P), fun _ => none⟩
theorem tabOf_ok (P : Program) : TabOk P (tabOf P) where
  func g af h := by
    simp only [tabOf] at h
    cases hf : P.funcs[g]? with
    | none => simp [hf] at h
    | some fn => simp [hf] at h; exact ⟨fn, rfl, h⟩
  env g e h := by cases h

def AH.empty : AH := ⟨0, .nil⟩
theorem R.start (w : World) : R w.heap.size w (fun _ => none) AH.empty w where
  below := Below.refl _ _
  fresh := Nat.le_refl _
  dom := fun o x h => by cases h
  obj := fun o b base size x h => by cases h
  inj := fun o p x y h => by cases h

def saysTrue : Option (AV × AH) → Bool
  | some (.bool true, _) => true
  | _ => false
theorem saysTrue_inv {r : Option (AV × AH)} (h : saysTrue r = true) : ∃ h', r = some (.bool true, h') := by
  unfold saysTrue at h
  split at h
  · exact ⟨_, rfl⟩
  · cases h
theorem calls_closed {P : Program} {T : Prog} (hT : TabOk P T) {k g : Nat} (hr : saysTrue (arun T k g [] AH.empty) = true) (w : World) (he : T.env g = none := by rfl) :
    Calls P g #[] w fun e w' => e = .returned (.bool true) ∧ Below w.heap.size w w' := by
  obtain ⟨h', hr⟩ := saysTrue_inv hr
  refine ((arun_body hT he hr).2 w.heap.size w _ w #[] (R.start w) .nil).mono ?_
  rintro e w' ⟨μ', v', rfl, _, hR, hv⟩
  rw [hv.bool_inv]
  exact ⟨rfl, hR.below⟩
end Go.Vm

/- The closed sentence of chapter 9, and the table that the laws stand on. -/
import Derived.Test.YtagcnjhpdopkiaaP9Code
namespace Go.Proofs.Ytagcnjhpdopkiaa
open Go.Vm
set_option maxRecDepth 1000000
theorem ran : Vm.saysTrue (Vm.arunT table 100000 3 [] Vm.AH.empty)=true:=by kernel_rfl
structure Fits (T : Vm.Prog) : Prop where
 func : T.func=table
 env : ∀ n,n≠3→T.env n=none
 yes : ∀ h,Gives T 3 [] h fun r h' => r = .bool true∧h'=h
 runs : ∀ k g args h r,arunY table 3 k g args h=some r→run T g args h=some r
theorem fits : Fits (withYes table 3):=⟨rfl,fun _ h => withYes_env h,fun _ => yes_gives,fun k _ _ _ _ hr => run_iff.2 ⟨k,by rw [← arunY_eq]; exact hr⟩⟩
theorem tab_ok : TabOk Try.prog (withYes table 3):=ran_yes table_ok ran
theorem Fits.at {T : Vm.Prog} (k : Fits T) {n : Nat} {fn : AFunc} (h : table n=some fn) : T.func n=some fn:=by rw [k.func]; exact h
end Go.Proofs.Ytagcnjhpdopkiaa

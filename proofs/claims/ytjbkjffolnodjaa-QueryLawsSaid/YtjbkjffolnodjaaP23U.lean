/- Chapter 23: Text. QueryBack. -/
import Derived.Test.YtjbkjffolnodjaaP23S
import Derived.Test.YtjbkjffolnodjaaP23K
namespace Go.Proofs.Ytjbkjffolnodjaa
open Go.Vm
set_option linter.unusedSimpArgs false
set_option linter.unusedVariables false
set_option maxRecDepth 100000
variable {T : Vm.Prog} {h : AH}
theorem row_upto {v : AV} {xs : List AV} {k : Nat} (r : Row1 h v xs) (hk : k ≤ xs.length) (hne : xs ≠ []) : ∃ v', slcV 1 v none (some (.int .i64 (k : Int))) none = some v' ∧ Row1 h v' (xs.take k) ∧ objs v' = objs v := by
  rcases r with ⟨rfl, e⟩ | ⟨o, cap, ex, l, rfl, hg, h1, h2, h3⟩
  · exact absurd (by simpa using e) hne
  · have h3' := Row1.get h3
    simp only [List.length_map, Nat.mul_one] at h1 h2
    refine ⟨.slice o 0 1 k cap ex, slc_to0 (by omega), row1_of hg h1 (by simp; omega) (by simp; omega) (fun i x hx => ?_), rfl⟩
    rw [List.getElem?_take] at hx
    split at hx
    · exact h3' i x hx
    · cases hx
def tsum : List Ex → Nat
  | [] => 0
  | e :: S => (txt e).length + tsum S
def strs (S : List Ex) : List AV := S.reverse.map fun e => AV.str (txt e)
theorem strs_len (S : List Ex) : (strs S).length = S.length := by simp [strs]
/-- What a round of Text leaves. -/
structure TX (h h' : AH) (l : AV) (S : List Ex) (i : Nat) : Prop where
  row : Row1 h' l (strs S)
  own : ∀ o ∈ objs l, h.next ≤ o
  quiet : Quiet h h'
  low : Low h'
  sum : tsum S ≤ 12 * i
  len : S.length ≤ i
theorem TX.push {h' : AH} {l : AV} {S : List Ex} {i : Nat} (x : TX h h' l S i) {t : Txt} (hi : i ≤ 64) : ∃ l' h2, appV 1 16 (h'.new (.cells [AV.str t] true)) l (.slice h'.next 0 1 1 1 true) = some (l', h2) ∧ Row1 h2 l' (strs S ++ [AV.str t]) ∧ (∀ o ∈ objs l', h.next ≤ o) ∧ Quiet h h2 ∧ Low h2 := by
  obtain ⟨l', h2, ap, r, ho, hm, lo⟩ := row_app (bytes := 16) x.low x.row (by decide) (by decide) (by rw [strs_len]; have := x.len; omega) (x := AV.str t) rfl
  have := x.quiet.1
  exact ⟨l', h2, ap, r, fun o hoo => (ho o hoo).elim (x.own o) (fun h1 => by omega), Mods.trans x.quiet hm fun o hoo => .inr (x.own o hoo), lo⟩
end Go.Proofs.Ytjbkjffolnodjaa

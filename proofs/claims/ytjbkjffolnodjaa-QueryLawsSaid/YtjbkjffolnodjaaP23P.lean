/- QueryWrong: each text is no query. -/
import Derived.Test.YtjbkjffolnodjaaP23O
namespace Go.Proofs.Ytjbkjffolnodjaa
open Go
set_option linter.unusedSimpArgs false
set_option linter.unusedVariables false
/-- Small letters, eight at most. -/
def Small (x : Txt) : Prop := x.length ≤ 8 ∧ ∀ b ∈ x, letter b = b ∧ b ≠ 0
def wrongs (x : Txt) : List Txt := [[], [33], [124] ++ x, x ++ [124], x ++ [38], [40] ++ x, x ++ [41], [40, 41], x ++ [124, 124] ++ x, [33, 124] ++ x, [38, 32] ++ x]
def NoFac (t : Txt) : Prop := t.dropWhile (· == 32) = [] ∨ ((t.dropWhile (· == 32)).headD 0 ≠ 33 ∧ (t.dropWhile (· == 32)).headD 0 ≠ 40 ∧ letter ((t.dropWhile (· == 32)).headD 0) = 0)
end Go.Proofs.Ytjbkjffolnodjaa

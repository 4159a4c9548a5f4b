/- Chapter 23: a reader of queries, in plain Lean. -/
import Derived.Laws.World
namespace Go.Proofs.Ytjbkjffolnodjaa
open Go
set_option linter.unusedSimpArgs false
set_option linter.unusedVariables false
abbrev Txt := List UInt8
/-- A byte as it counts in a term. -/
def letter (b : UInt8) : UInt8 := if (97 ≤ b ∧ b ≤ 122) ∨ (48 ≤ b ∧ b ≤ 57) then b else if 65 ≤ b ∧ b ≤ 90 then b + 32 else 0
abbrev Part := Int × Txt
/-- What is left, how deep it is, what was read, what is wrong. -/
structure St where
  s : Txt
  deep : Int
  out : List Part
  bad : Int
namespace St
def skip (x : St) : St := { x with s := x.s.dropWhile (· == 32) }
def wrong (x : St) (e : Int) : St := if x.bad = 0 then { x with bad := e } else x
def takes (x : St) (c : UInt8) : Bool := x.skip.s.head? == some c
def take (x : St) (c : UInt8) : St := if x.takes c then { x.skip with s := x.skip.s.tail } else x.skip
def full (x : St) : St := if 64 ≤ x.out.length then x.wrong 11 else x
def part (x : St) (k : Int) (t : Txt) : St := if x.full.bad = 0 then { x.full with out := x.full.out ++ [(k, t)] } else x.full
def lets (s : Txt) : Txt := (s.takeWhile fun c => letter c != 0).map letter
def cut (x : St) : St := { x with s := x.s.dropWhile fun c => letter c != 0 }
def word (x : St) : St := (if 12 < (lets x.s).length then x.cut.wrong 6 else x.cut).part 1 (lets x.s)
def deeper (x : St) : St := { x with deep := x.deep + 1 }
def enter (x : St) : St := if 64 < x.deeper.deep then x.deeper.wrong 11 else x.deeper
def fits (x : St) : Bool := decide (-1000 ≤ x.deep) && decide (x.deep ≤ 1000)
def leave (x : St) : Option St := if x.fits then some { x with deep := x.deep - 1 } else none
def close (x : St) : St := if x.bad = 0 then (if x.takes 41 then x.take 41 else x.skip.wrong 7) else x
end St
mutual
def factorF : Nat → St → Option St
  | 0, _ => none
  | n + 1, x => if x.fits then
      if x.enter.bad ≠ 0 then some x.enter
      else if x.enter.takes 33 then (factorF n (x.enter.take 33)).bind fun y => (y.part 4 []).leave
      else if x.enter.takes 40 then (orF n (x.enter.take 40)).bind fun y => y.close.leave
      else if letter (x.enter.skip.s.headD 0) ≠ 0 then x.enter.skip.word.leave
      else (x.enter.skip.wrong 7).leave
    else none
def andF : Nat → St → Option St
  | 0, _ => none
  | n + 1, x => (factorF n x).bind (andL n)
def andL : Nat → St → Option St
  | 0, _ => none
  | n + 1, x => if x.bad ≠ 0 then some x
    else if x.skip.s = [] ∨ x.skip.s.headD 0 = 124 ∨ x.skip.s.headD 0 = 41 then some x.skip
    else (factorF n (x.take 38)).bind fun y => andL n (y.part 2 [])
def orF : Nat → St → Option St
  | 0, _ => none
  | n + 1, x => (andF n x).bind (orL n)
def orL : Nat → St → Option St
  | 0, _ => none
  | n + 1, x => if x.bad ≠ 0 then some x
    else if x.takes 124 then (andF n (x.take 124)).bind fun y => orL n (y.part 3 [])
    else some x.skip
end
def start (s : Txt) : St := ⟨s, 0, [], 0⟩
def finish (x : St) : St := if x.skip.s = [] then x.skip else x.skip.wrong 7
def parseF (n : Nat) (s : Txt) : Option (List Part × Int) :=
  if 512 < s.length then some ([], 11) else (orF n (start s)).map fun x => if (finish x).bad = 0 then ((finish x).out, 0) else ([], (finish x).bad)
theorem dropWhile_idem (p : UInt8 → Bool) : ∀ (l : Txt), (l.dropWhile p).dropWhile p = l.dropWhile p
  | [] => rfl
  | c :: r => by
    by_cases hc : p c = true
    · simp [List.dropWhile_cons, hc, dropWhile_idem p r]
    · simp [List.dropWhile_cons, hc]
theorem St.skip_skip (x : St) : x.skip.skip = x.skip := by simp [St.skip, dropWhile_idem]
theorem St.takes_skip (x : St) (c : UInt8) : x.skip.takes c = x.takes c := by simp [St.takes, St.skip_skip]
theorem St.take_skip (x : St) (c : UInt8) : x.skip.take c = x.take c := by simp [St.take, St.takes_skip, St.skip_skip]
theorem drop_len (p : UInt8 → Bool) (l : Txt) : (l.dropWhile p).length ≤ l.length := (List.dropWhile_sublist p).length_le
end Go.Proofs.Ytjbkjffolnodjaa

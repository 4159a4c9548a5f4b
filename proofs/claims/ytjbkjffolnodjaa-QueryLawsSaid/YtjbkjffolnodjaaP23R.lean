/- Chapter 23: a query's text; read again it is the query. Plain Lean. -/
import Derived.Test.YtjbkjffolnodjaaP23O
namespace Go.Proofs.Ytjbkjffolnodjaa
open Go
set_option linter.unusedSimpArgs false
set_option linter.unusedVariables false
def txt : Ex → Txt
  | .w t => t
  | .n a => 33 :: txt a
  | .a x y => 40 :: (txt x ++ 38 :: (txt y ++ [41]))
  | .o x y => 40 :: (txt x ++ 124 :: (txt y ++ [41]))
def high : Ex → Nat
  | .w _ => 1
  | .n a => high a + 1
  | .a x y => max (high x) (high y) + 1
  | .o x y => max (high x) (high y) + 1
/-- Ready to read e ahead of t. -/
structure Ahead (x : St) (e : Ex) (t : Txt) : Prop where
  bad : x.bad = 0
  lo : 0 ≤ x.deep
  hi : x.deep + high e ≤ 64
  s : x.s = txt e ++ t
  room : x.out.length + (post e).length ≤ 64
  tl : t = [] ∨ letter (t.headD 0) = 0
def did (x : St) (e : Ex) (t : Txt) : St := { x with s := t, out := x.out ++ post e }
/-! ### the stack -/
def stepS : List Ex → Part → Option (List Ex)
  | S, (1, t) => some (.w t :: S)
  | a :: S, (4, _) => some (.n a :: S)
  | y :: x :: S, (2, _) => some (.a x y :: S)
  | y :: x :: S, (3, _) => some (.o x y :: S)
  | _, _ => none
def runS : List Ex → List Part → Option (List Ex)
  | S, [] => some S
  | S, p :: r => (stepS S p).bind fun S' => runS S' r
theorem runS_app : ∀ (a b : List Part) (S : List Ex), runS S (a ++ b) = (runS S a).bind fun S' => runS S' b
  | [], b, S => rfl
  | p :: a, b, S => by
    simp only [List.cons_append, runS]
    cases stepS S p with
    | none => rfl
    | some S' => simp only [Option.bind_some]; exact runS_app a b S'
theorem runS_post : ∀ (e : Ex) (S : List Ex), runS S (post e) = some (e :: S)
  | .w t, S => rfl
  | .n a, S => by simp only [post, runS_app, runS_post a S, Option.bind_some]; rfl
  | .a x y, S => by simp only [post, runS_app, runS_post x S, runS_post y (x :: S), Option.bind_some]; rfl
  | .o x y, S => by simp only [post, runS_app, runS_post x S, runS_post y (x :: S), Option.bind_some]; rfl
/-- Which parts a query has. -/
def OkP (p : Part) : Prop := (p.1 = 1 ∧ GoodT p.2) ∨ ((p.1 = 4 ∨ p.1 = 2 ∨ p.1 = 3) ∧ p.2 = [])
theorem post_ok : ∀ {e : Ex}, OkE e → ∀ p ∈ post e, OkP p
  | .w t, h, p, hp => by simp [post] at hp; subst hp; exact .inl ⟨rfl, h⟩
  | .n a, h, p, hp => by
    simp [post] at hp
    rcases hp with hp | rfl
    · exact post_ok (e := a) h p hp
    · exact .inr ⟨.inl rfl, rfl⟩
  | .a x y, h, p, hp => by
    simp [post] at hp
    rcases hp with hp | hp | rfl
    · exact post_ok (e := x) h.1 p hp
    · exact post_ok (e := y) h.2 p hp
    · exact .inr ⟨.inr (.inl rfl), rfl⟩
  | .o x y, h, p, hp => by
    simp [post] at hp
    rcases hp with hp | hp | rfl
    · exact post_ok (e := x) h.1 p hp
    · exact post_ok (e := y) h.2 p hp
    · exact .inr ⟨.inr (.inr rfl), rfl⟩
theorem prefix_runs {e : Ex} {i : Nat} {p : Part} (hp : (post e)[i]? = some p) : ∃ S S', runS [] ((post e).take i) = some S ∧ stepS S p = some S' ∧ runS [] ((post e).take (i + 1)) = some S' := by
  obtain ⟨hi, rfl⟩ := List.getElem?_eq_some_iff.1 hp
  have h0 := runS_post e []
  have h1 : post e = (post e).take i ++ ((post e)[i] :: (post e).drop (i + 1)) := by
    rw [← List.drop_eq_getElem_cons hi, List.take_append_drop]
  rw [h1, runS_app] at h0
  cases hS : runS [] ((post e).take i) with
  | none => rw [hS] at h0; cases h0
  | some S =>
    rw [hS] at h0
    simp only [Option.bind_some, runS] at h0
    cases hS' : stepS S (post e)[i] with
    | none => rw [hS'] at h0; cases h0
    | some S' =>
      refine ⟨S, S', rfl, hS', ?_⟩
      rw [List.take_succ_eq_append_getElem hi, runS_app, hS]
      simp only [Option.bind_some, runS, hS']
end Go.Proofs.Ytjbkjffolnodjaa

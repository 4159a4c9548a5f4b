/- Chapter 23: a query's text; read again it is the query. Plain Lean. -/
import Derived.Test.YtjbkjffolnodjaaP23O
namespace Go.Proofs.Ytjbkjffolnodjaa
open Go
set_option linter.unusedSimpArgs false
set_option linter.unusedVariables false
def txt : Ex → Txt
  | .w t => t
  | .n a => 33 :: txt a
  | .a x y => 40 :: (txt x ++ 38 :: (txt y ++ [41]))
  | .o x y => 40 :: (txt x ++ 124 :: (txt y ++ [41]))
def high : Ex → Nat
  | .w _ => 1
  | .n a => high a + 1
  | .a x y => max (high x) (high y) + 1
  | .o x y => max (high x) (high y) + 1
theorem high_le : ∀ (e : Ex), high e ≤ (post e).length
  | .w _ => by simp [post, high]
  | .n a => by have := high_le a; simp [post, high]; omega
  | .a x y => by have := high_le x; have := high_le y; simp [post, high]; omega
  | .o x y => by have := high_le x; have := high_le y; simp [post, high]; omega
/-- Ready to read e ahead of t. -/
structure Ahead (x : St) (e : Ex) (t : Txt) : Prop where
  bad : x.bad = 0
  lo : 0 ≤ x.deep
  hi : x.deep + high e ≤ 64
  s : x.s = txt e ++ t
  room : x.out.length + (post e).length ≤ 64
  tl : t = [] ∨ letter (t.headD 0) = 0
theorem Ahead.rdy {x : St} {e : Ex} {t : Txt} (h : Ahead x e t) : Rdy x := ⟨h.bad, h.lo, by
  have := h.hi
  have : 0 < high e := by cases e <;> simp [high]
  omega⟩
def did (x : St) (e : Ex) (t : Txt) : St := { x with s := t, out := x.out ++ post e }
theorem andL_stop {n : Nat} {x : St} {c : UInt8} {r : Txt} (hb : x.bad = 0) (hs : x.s = c :: r) (hc : c = 124 ∨ c = 41) : andL (n + 1) x = some x := by
  have h32 : c ≠ 32 := by rcases hc with rfl | rfl <;> decide
  rw [andL, if_neg (fun hh => hh hb), skip_head hs h32, if_pos]
  rw [hs]
  rcases hc with rfl | rfl
  · exact .inr (.inl rfl)
  · exact .inr (.inr rfl)
theorem orL_stop {n : Nat} {x : St} {r : Txt} (hb : x.bad = 0) (hs : x.s = 41 :: r) : orL (n + 1) x = some x := by
  rw [orL, if_neg (fun hh => hh hb), takes_head hs (by decide), skip_head hs (by decide)]
  rfl
theorem close_at {x : St} {r : Txt} (hb : x.bad = 0) (hs : x.s = 41 :: r) : x.close = { x with s := r } := by
  rw [St.close, if_pos hb, takes_head hs (by decide), if_pos (show ((41 : UInt8) == 41) = true from rfl), take_head hs (by decide)]
theorem fac_read : ∀ (e : Ex) (x : St) (t : Txt), OkE e → Ahead x e t → ∃ N, ∀ n, N ≤ n → factorF n x = some (did x e t)
  | .w w, x, t, ok, h => by
    refine ⟨1, fun n hn => ?_⟩
    obtain ⟨m, rfl⟩ : ∃ m, n = m + 1 := ⟨n - 1, by omega⟩
    have hr := h.room
    have := (fac_word m h.rdy h.s ⟨ok.1, ok.2.2⟩ h.tl).1 ok.2.1 (by simp [post] at hr; omega)
    rw [this]; rfl
  | .n a, x, t, ok, h => by
    have hhi := h.hi
    have hlo := h.lo
    have hr := h.room
    simp only [high] at hhi
    simp [post] at hr
    have hx : Ahead ({ x.deeper with s := txt a ++ t } : St) a t := ⟨h.bad, by show 0 ≤ x.deep + 1; omega, by show x.deep + 1 + (high a : Nat) ≤ 64; push_cast at hhi; omega, rfl, by show x.out.length + _ ≤ 64; omega, h.tl⟩
    obtain ⟨N, hN⟩ := fac_read a _ t ok hx
    refine ⟨N + 1, fun n hn => ?_⟩
    obtain ⟨m, rfl⟩ : ∃ m, n = m + 1 := ⟨n - 1, by omega⟩
    have hs' : x.deeper.s = 33 :: (txt a ++ t) := h.s
    have e33 : ((33 : UInt8) == 33) = true := rfl
    rw [factorF, if_pos h.rdy.fits, h.rdy.enter, if_neg (fun hh => hh (show x.deeper.bad = 0 from h.bad)), takes_head hs' (by decide), e33, if_pos rfl, take_head hs' (by decide), hN m (by omega)]
    simp only [Option.bind_some]
    rw [part_push (x := did ({ x.deeper with s := txt a ++ t } : St) a t) (show x.bad = 0 from h.bad) (by show (x.out ++ post a).length ≤ 63; simp; omega),
      leave_ok (by show 0 ≤ x.deep + 1; omega) (by show x.deep + 1 ≤ 100; omega)]
    simp only [did, St.deeper, post, List.append_assoc]
    congr 2
    omega
  | .a p q, x, t, ok, h => by
    have hhi := h.hi
    have hlo := h.lo
    have hr := h.room
    simp only [high] at hhi
    simp [post] at hr
    have hmx : (high p : Int) ≤ ((max (high p) (high q) : Nat) : Int) := by exact_mod_cast Nat.le_max_left _ _
    have hmy : (high q : Int) ≤ ((max (high p) (high q) : Nat) : Int) := by exact_mod_cast Nat.le_max_right _ _
    have hhi' : x.deep + ((max (high p) (high q) : Nat) : Int) + 1 ≤ 64 := by push_cast at hhi ⊢; omega
    have hx : Ahead ({ x.deeper with s := txt p ++ 38 :: (txt q ++ 41 :: t) } : St) p (38 :: (txt q ++ 41 :: t)) :=
      ⟨h.bad, by show 0 ≤ x.deep + 1; omega, by show x.deep + 1 + (high p : Int) ≤ 64; omega, rfl, by show x.out.length + _ ≤ 64; omega, .inr letter38⟩
    obtain ⟨N1, h1⟩ := fac_read p _ _ ok.1 hx
    have hy : Ahead ({ x.deeper with s := txt q ++ 41 :: t, out := x.out ++ post p } : St) q (41 :: t) :=
      ⟨h.bad, by show 0 ≤ x.deep + 1; omega, by show x.deep + 1 + (high q : Int) ≤ 64; omega, rfl, by show (x.out ++ post p).length + _ ≤ 64; simp; omega, .inr letter41⟩
    obtain ⟨N2, h2⟩ := fac_read q _ _ ok.2 hy
    refine ⟨N1 + N2 + 10, fun n hn => ?_⟩
    obtain ⟨m, rfl⟩ : ∃ m, n = m + 5 := ⟨n - 5, by omega⟩
    have hs : x.s = 40 :: (txt p ++ 38 :: (txt q ++ 41 :: t)) := by rw [h.s]; simp [txt]
    have e1 : (did ({ x.deeper with s := txt q ++ 41 :: t, out := x.out ++ post p } : St) q (41 :: t)).part 2 [] = ({ x.deeper with s := 41 :: t, out := x.out ++ post (.a p q) } : St) := by
      rw [part_push (x := did ({ x.deeper with s := txt q ++ 41 :: t, out := x.out ++ post p } : St) q (41 :: t)) (show x.bad = 0 from h.bad) (by show ((x.out ++ post p) ++ post q).length ≤ 63; simp; omega)]
      simp only [did, post, List.append_assoc]
    have e2 : (did ({ x.deeper with s := txt p ++ 38 :: (txt q ++ 41 :: t) } : St) p (38 :: (txt q ++ 41 :: t))).take 38 = ({ x.deeper with s := txt q ++ 41 :: t, out := x.out ++ post p } : St) := take_head (x := did ({ x.deeper with s := txt p ++ 38 :: (txt q ++ 41 :: t) } : St) p (38 :: (txt q ++ 41 :: t))) (c := 38) (r := txt q ++ 41 :: t) rfl (by decide)
    have e3 : andL (m + 2) (did ({ x.deeper with s := txt p ++ 38 :: (txt q ++ 41 :: t) } : St) p (38 :: (txt q ++ 41 :: t))) = some ({ x.deeper with s := 41 :: t, out := x.out ++ post (.a p q) } : St) := by
      rw [andL, if_neg (fun hh => hh (show x.bad = 0 from h.bad)), skip_head (x := did ({ x.deeper with s := txt p ++ 38 :: (txt q ++ 41 :: t) } : St) p (38 :: (txt q ++ 41 :: t))) (c := 38) (r := txt q ++ 41 :: t) rfl (by decide), if_neg, e2, h2 (m + 1) (by omega)]
      · simp only [Option.bind_some]
        rw [e1]
        exact andL_stop (x := ({ x.deeper with s := 41 :: t, out := x.out ++ post (.a p q) } : St)) (c := 41) (r := t) (show x.bad = 0 from h.bad) rfl (.inr rfl)
      · simp only [not_or]
        exact ⟨List.cons_ne_nil _ _, show ¬ (38 : UInt8) = 124 by decide, show ¬ (38 : UInt8) = 41 by decide⟩
    have ha : andF (m + 3) ({ x.deeper with s := txt p ++ 38 :: (txt q ++ 41 :: t) } : St) = some ({ x.deeper with s := 41 :: t, out := x.out ++ post (.a p q) } : St) := by
      rw [andF, h1 (m + 2) (by omega)]
      simp only [Option.bind_some]
      exact e3
    have ho : orF (m + 4) ({ x.deeper with s := txt p ++ 38 :: (txt q ++ 41 :: t) } : St) = some ({ x.deeper with s := 41 :: t, out := x.out ++ post (.a p q) } : St) := by
      rw [orF, ha]
      simp only [Option.bind_some]
      exact orL_stop (x := ({ x.deeper with s := 41 :: t, out := x.out ++ post (.a p q) } : St)) (r := t) (show x.bad = 0 from h.bad) rfl
    rw [fac_par h.rdy hs ho (by show 0 ≤ x.deep + 1; omega) (by show x.deep + 1 ≤ 100; omega), close_at (x := ({ x.deeper with s := 41 :: t, out := x.out ++ post (.a p q) } : St)) (r := t) (show x.bad = 0 from h.bad) rfl]
    simp only [did, St.deeper]
    congr 2
    omega
  | .o p q, x, t, ok, h => by
    have hhi := h.hi
    have hlo := h.lo
    have hr := h.room
    simp only [high] at hhi
    simp [post] at hr
    have hmx : (high p : Int) ≤ ((max (high p) (high q) : Nat) : Int) := by exact_mod_cast Nat.le_max_left _ _
    have hmy : (high q : Int) ≤ ((max (high p) (high q) : Nat) : Int) := by exact_mod_cast Nat.le_max_right _ _
    have hhi' : x.deep + ((max (high p) (high q) : Nat) : Int) + 1 ≤ 64 := by push_cast at hhi ⊢; omega
    have hx : Ahead ({ x.deeper with s := txt p ++ 124 :: (txt q ++ 41 :: t) } : St) p (124 :: (txt q ++ 41 :: t)) :=
      ⟨h.bad, by show 0 ≤ x.deep + 1; omega, by show x.deep + 1 + (high p : Int) ≤ 64; omega, rfl, by show x.out.length + _ ≤ 64; omega, .inr letter124⟩
    obtain ⟨N1, h1⟩ := fac_read p _ _ ok.1 hx
    have hy : Ahead ({ x.deeper with s := txt q ++ 41 :: t, out := x.out ++ post p } : St) q (41 :: t) :=
      ⟨h.bad, by show 0 ≤ x.deep + 1; omega, by show x.deep + 1 + (high q : Int) ≤ 64; omega, rfl, by show (x.out ++ post p).length + _ ≤ 64; simp; omega, .inr letter41⟩
    obtain ⟨N2, h2⟩ := fac_read q _ _ ok.2 hy
    refine ⟨N1 + N2 + 10, fun n hn => ?_⟩
    obtain ⟨m, rfl⟩ : ∃ m, n = m + 6 := ⟨n - 6, by omega⟩
    have hs : x.s = 40 :: (txt p ++ 124 :: (txt q ++ 41 :: t)) := by rw [h.s]; simp [txt]
    have e1 : (did ({ x.deeper with s := txt q ++ 41 :: t, out := x.out ++ post p } : St) q (41 :: t)).part 3 [] = ({ x.deeper with s := 41 :: t, out := x.out ++ post (.o p q) } : St) := by
      rw [part_push (x := did ({ x.deeper with s := txt q ++ 41 :: t, out := x.out ++ post p } : St) q (41 :: t)) (show x.bad = 0 from h.bad) (by show ((x.out ++ post p) ++ post q).length ≤ 63; simp; omega)]
      simp only [did, post, List.append_assoc]
    have e2 : (did ({ x.deeper with s := txt p ++ 124 :: (txt q ++ 41 :: t) } : St) p (124 :: (txt q ++ 41 :: t))).take 124 = ({ x.deeper with s := txt q ++ 41 :: t, out := x.out ++ post p } : St) := take_head (x := did ({ x.deeper with s := txt p ++ 124 :: (txt q ++ 41 :: t) } : St) p (124 :: (txt q ++ 41 :: t))) (c := 124) (r := txt q ++ 41 :: t) rfl (by decide)
    have ha : andF (m + 4) ({ x.deeper with s := txt p ++ 124 :: (txt q ++ 41 :: t) } : St) = some (did ({ x.deeper with s := txt p ++ 124 :: (txt q ++ 41 :: t) } : St) p (124 :: (txt q ++ 41 :: t))) := by
      rw [andF, h1 (m + 3) (by omega)]
      simp only [Option.bind_some]
      exact andL_stop (x := did ({ x.deeper with s := txt p ++ 124 :: (txt q ++ 41 :: t) } : St) p (124 :: (txt q ++ 41 :: t))) (c := 124) (r := txt q ++ 41 :: t) (show x.bad = 0 from h.bad) rfl (.inl rfl)
    have hb : andF (m + 3) ({ x.deeper with s := txt q ++ 41 :: t, out := x.out ++ post p } : St) = some (did ({ x.deeper with s := txt q ++ 41 :: t, out := x.out ++ post p } : St) q (41 :: t)) := by
      rw [andF, h2 (m + 2) (by omega)]
      simp only [Option.bind_some]
      exact andL_stop (x := did ({ x.deeper with s := txt q ++ 41 :: t, out := x.out ++ post p } : St) q (41 :: t)) (c := 41) (r := t) (show x.bad = 0 from h.bad) rfl (.inr rfl)
    have e3 : orL (m + 4) (did ({ x.deeper with s := txt p ++ 124 :: (txt q ++ 41 :: t) } : St) p (124 :: (txt q ++ 41 :: t))) = some ({ x.deeper with s := 41 :: t, out := x.out ++ post (.o p q) } : St) := by
      rw [orL, if_neg (fun hh => hh (show x.bad = 0 from h.bad)), takes_head (x := did ({ x.deeper with s := txt p ++ 124 :: (txt q ++ 41 :: t) } : St) p (124 :: (txt q ++ 41 :: t))) (c := 124) (r := txt q ++ 41 :: t) rfl (by decide), if_pos (show ((124 : UInt8) == 124) = true from rfl), e2, hb]
      simp only [Option.bind_some]
      rw [e1]
      exact orL_stop (x := ({ x.deeper with s := 41 :: t, out := x.out ++ post (.o p q) } : St)) (r := t) (show x.bad = 0 from h.bad) rfl
    have ho : orF (m + 5) ({ x.deeper with s := txt p ++ 124 :: (txt q ++ 41 :: t) } : St) = some ({ x.deeper with s := 41 :: t, out := x.out ++ post (.o p q) } : St) := by
      rw [orF, ha]
      simp only [Option.bind_some]
      exact e3
    rw [fac_par h.rdy hs ho (by show 0 ≤ x.deep + 1; omega) (by show x.deep + 1 ≤ 100; omega), close_at (x := ({ x.deeper with s := 41 :: t, out := x.out ++ post (.o p q) } : St)) (r := t) (show x.bad = 0 from h.bad) rfl]
    simp only [did, St.deeper]
    congr 2
    omega
/-- Written and read again it is the same, or too long. -/
theorem parse_txt {e : Ex} (ok : OkE e) (hl : (post e).length ≤ 64) : ∃ n, parseF n (txt e) = some ([], 11) ∨ parseF n (txt e) = some (post e, 0) := by
  by_cases hb : 512 < (txt e).length
  · exact ⟨0, .inl (by unfold parseF; rw [if_pos hb])⟩
  have hh := high_le e
  have ha : Ahead (start (txt e)) e [] := ⟨rfl, Int.le_refl _, by show (0 : Int) + (high e : Int) ≤ 64; omega, by simp [start], by simp [start]; exact hl, .inl rfl⟩
  obtain ⟨N, hN⟩ := fac_read e _ _ ok ha
  refine ⟨N + 3, .inr ?_⟩
  have h1 : andF (N + 2) (start (txt e)) = some (did (start (txt e)) e []) := by
    rw [andF, hN (N + 1) (by omega)]
    simp only [Option.bind_some]
    rw [andL, if_neg (fun hh => hh rfl), if_pos (.inl rfl)]
    rfl
  have h2 : orF (N + 3) (start (txt e)) = some (did (start (txt e)) e []) := by
    rw [orF, h1]
    simp only [Option.bind_some]
    rw [orL, if_neg (fun hh => hh rfl), takes_nil rfl]
    rfl
  unfold parseF
  rw [if_neg hb, h2]
  simp only [Option.map_some]
  have hf : (finish (did (start (txt e)) e [])).bad = 0 := rfl
  rw [if_pos hf]
  rfl
/-! ### the stack -/
def stepS : List Ex → Part → Option (List Ex)
  | S, (1, t) => some (.w t :: S)
  | a :: S, (4, _) => some (.n a :: S)
  | y :: x :: S, (2, _) => some (.a x y :: S)
  | y :: x :: S, (3, _) => some (.o x y :: S)
  | _, _ => none
def runS : List Ex → List Part → Option (List Ex)
  | S, [] => some S
  | S, p :: r => (stepS S p).bind fun S' => runS S' r
theorem runS_app : ∀ (a b : List Part) (S : List Ex), runS S (a ++ b) = (runS S a).bind fun S' => runS S' b
  | [], b, S => rfl
  | p :: a, b, S => by
    simp only [List.cons_append, runS]
    cases stepS S p with
    | none => rfl
    | some S' => simp only [Option.bind_some]; exact runS_app a b S'
theorem runS_post : ∀ (e : Ex) (S : List Ex), runS S (post e) = some (e :: S)
  | .w t, S => rfl
  | .n a, S => by simp only [post, runS_app, runS_post a S, Option.bind_some]; rfl
  | .a x y, S => by simp only [post, runS_app, runS_post x S, runS_post y (x :: S), Option.bind_some]; rfl
  | .o x y, S => by simp only [post, runS_app, runS_post x S, runS_post y (x :: S), Option.bind_some]; rfl
/-- Which parts a query has. -/
def OkP (p : Part) : Prop := (p.1 = 1 ∧ GoodT p.2) ∨ ((p.1 = 4 ∨ p.1 = 2 ∨ p.1 = 3) ∧ p.2 = [])
theorem post_ok : ∀ {e : Ex}, OkE e → ∀ p ∈ post e, OkP p
  | .w t, h, p, hp => by simp [post] at hp; subst hp; exact .inl ⟨rfl, h⟩
  | .n a, h, p, hp => by
    simp [post] at hp
    rcases hp with hp | rfl
    · exact post_ok (e := a) h p hp
    · exact .inr ⟨.inl rfl, rfl⟩
  | .a x y, h, p, hp => by
    simp [post] at hp
    rcases hp with hp | hp | rfl
    · exact post_ok (e := x) h.1 p hp
    · exact post_ok (e := y) h.2 p hp
    · exact .inr ⟨.inr (.inl rfl), rfl⟩
  | .o x y, h, p, hp => by
    simp [post] at hp
    rcases hp with hp | hp | rfl
    · exact post_ok (e := x) h.1 p hp
    · exact post_ok (e := y) h.2 p hp
    · exact .inr ⟨.inr (.inr rfl), rfl⟩
theorem prefix_runs {e : Ex} {i : Nat} {p : Part} (hp : (post e)[i]? = some p) : ∃ S S', runS [] ((post e).take i) = some S ∧ stepS S p = some S' ∧ runS [] ((post e).take (i + 1)) = some S' := by
  obtain ⟨hi, rfl⟩ := List.getElem?_eq_some_iff.1 hp
  have h0 := runS_post e []
  have h1 : post e = (post e).take i ++ ((post e)[i] :: (post e).drop (i + 1)) := by
    rw [← List.drop_eq_getElem_cons hi, List.take_append_drop]
  rw [h1, runS_app] at h0
  cases hS : runS [] ((post e).take i) with
  | none => rw [hS] at h0; cases h0
  | some S =>
    rw [hS] at h0
    simp only [Option.bind_some, runS] at h0
    cases hS' : stepS S (post e)[i] with
    | none => rw [hS'] at h0; cases h0
    | some S' =>
      refine ⟨S, S', rfl, hS', ?_⟩
      rw [List.take_succ_eq_append_getElem hi, runS_app, hS]
      simp only [Option.bind_some, runS, hS']
end Go.Proofs.Ytjbkjffolnodjaa

/- Chapter 23: the plain reader comes to an end, and what it reads is one query. -/
import Derived.Test.YtjbkjffolnodjaaP23M
namespace Go.Proofs.Ytjbkjffolnodjaa
open Go
set_option linter.unusedSimpArgs false
set_option linter.unusedVariables false
/-- Queries as trees. -/
inductive Ex where
  | w (t : Txt)
  | n (a : Ex)
  | a (x y : Ex)
  | o (x y : Ex)
def post : Ex → List Part
  | .w t => [(1, t)]
  | .n a => post a ++ [(4, [])]
  | .a x y => post x ++ post y ++ [(2, [])]
  | .o x y => post x ++ post y ++ [(3, [])]
def GoodT (t : Txt) : Prop := t ≠ [] ∧ t.length ≤ 12 ∧ ∀ b ∈ t, letter b = b ∧ b ≠ 0
def OkE : Ex → Prop
  | .w t => GoodT t
  | .n a => OkE a
  | .a x y => OkE x ∧ OkE y
  | .o x y => OkE x ∧ OkE y
def Bad (e : Int) : Prop := e = 0 ∨ e = 6 ∨ e = 7 ∨ e = 11
theorem take_len {x : St} {c : UInt8} (h : x.takes c = true) : (x.take c).s.length + 1 ≤ x.s.length := by
  have h1 : x.skip.s.length ≤ x.s.length := drop_len _ _
  rw [St.take, if_pos h]
  unfold St.takes at h
  cases hs : x.skip.s with
  | nil => rw [hs] at h; simp at h
  | cons a b => rw [hs] at h1; simp at h1 ⊢; omega
theorem take_same (x : St) (c : UInt8) : (x.take c).deep = x.deep ∧ (x.take c).out = x.out ∧ (x.take c).bad = x.bad ∧ (x.take c).s.length ≤ x.s.length := by
  have h1 : x.skip.s.length ≤ x.s.length := drop_len _ _
  unfold St.take
  split
  · refine ⟨rfl, rfl, rfl, ?_⟩
    simp; omega
  · exact ⟨rfl, rfl, rfl, h1⟩
theorem part_bad {x : St} (h : x.bad ≠ 0) (k : Int) (t : Txt) : x.part k t = x := by
  have hf : x.full = x := by
    unfold St.full St.wrong
    rw [if_neg h]; split <;> rfl
  unfold St.part
  rw [hf, if_neg h]
theorem part_good {x : St} (h : x.bad = 0) (k : Int) (t : Txt) (hl : x.out.length ≤ 64) :
    (x.part k t).s = x.s ∧ (x.part k t).deep = x.deep ∧ (x.part k t).out.length ≤ 64 ∧ ((x.part k t).bad = 11 ∨ ((x.part k t).bad = 0 ∧ (x.part k t).out = x.out ++ [(k, t)])) := by
  unfold St.part St.full
  by_cases h1 : 64 ≤ x.out.length
  · rw [if_pos h1, St.wrong, if_pos h]
    simp [hl]
  · rw [if_neg h1, if_pos h]
    simp [h]; omega
structure Post (x y : St) : Prop where
  len : y.s.length ≤ x.s.length
  room : y.out.length ≤ 64
  bad : Bad y.bad
  lo : x.deep ≤ y.deep
  hi : y.deep ≤ x.deep + 1
  good : y.bad = 0 → y.s.length < x.s.length ∧ y.deep = x.deep ∧ ∃ e, OkE e ∧ y.out = x.out ++ post e
/-- Behind a first operand. -/
structure Mid (o : List Part) (x y : St) : Prop where
  len : y.s.length ≤ x.s.length
  room : y.out.length ≤ 64
  bad : Bad y.bad
  lo : x.deep ≤ y.deep
  hi : y.deep ≤ x.deep + 1
  good : y.bad = 0 → y.deep = x.deep ∧ ∃ e, OkE e ∧ y.out = o ++ post e
structure In (x : St) : Prop where
  bad : x.bad = 0
  lo : 0 ≤ x.deep
  hi : x.deep ≤ 64
  room : x.out.length ≤ 64
structure InL (o : List Part) (x : St) : Prop where
  bad : Bad x.bad
  lo : 0 ≤ x.deep
  hi : x.bad = 0 → x.deep ≤ 64
  room : x.out.length ≤ 64
  one : x.bad = 0 → ∃ e, OkE e ∧ x.out = o ++ post e
theorem leave_ok {x : St} (h1 : 0 ≤ x.deep) (h2 : x.deep ≤ 100) : x.leave = some { x with deep := x.deep - 1 } := by
  unfold St.leave St.fits
  rw [if_pos]
  simp; omega
theorem letter_letter (b : UInt8) : letter (letter b) = letter b := by
  have : ∀ n : Fin 256, letter (letter (UInt8.ofNat n.val)) = letter (UInt8.ofNat n.val) := by decide +kernel
  have h := this ⟨b.toNat, b.toNat_lt⟩
  simpa using h
theorem word_post {x : St} (h : In x) (hl : letter (x.s.headD 0) ≠ 0) : x.word.s.length < x.s.length ∧ x.word.out.length ≤ 64 ∧ Bad x.word.bad ∧ x.word.deep = x.deep ∧ (x.word.bad = 0 → ∃ e, OkE e ∧ x.word.out = x.out ++ post e) := by
  have hlen : x.cut.s.length < x.s.length := by
    unfold St.cut
    cases hs : x.s with
    | nil => rw [hs] at hl; exact absurd rfl hl
    | cons c t =>
      rw [hs] at hl
      have : (letter c != 0) = true := by simpa using hl
      simp only [List.dropWhile_cons, this, if_true, List.length_cons]
      have := drop_len (fun c => letter c != 0) t
      omega
  have hne : St.lets x.s ≠ [] := by
    unfold St.lets
    cases hs : x.s with
    | nil => rw [hs] at hl; exact absurd rfl hl
    | cons c t =>
      rw [hs] at hl
      have : (letter c != 0) = true := by simpa using hl
      simp [List.takeWhile_cons, this]
  have hgood : ∀ b ∈ St.lets x.s, letter b = b ∧ b ≠ 0 := fun b hb => by
    unfold St.lets at hb
    obtain ⟨c, hc, rfl⟩ := List.mem_map.1 hb
    have : (letter c != 0) = true := by
      have hall : ∀ {l : Txt} {c : UInt8}, c ∈ l.takeWhile (fun c => letter c != 0) → (letter c != 0) = true := by
        intro l
        induction l with
        | nil => intro c hc; simp at hc
        | cons d t ih =>
          intro c hc
          rw [List.takeWhile_cons] at hc
          split at hc
          · rcases List.mem_cons.1 hc with rfl | hc
            · assumption
            · exact ih hc
          · simp at hc
      exact hall hc
    exact ⟨letter_letter c, by simpa using this⟩
  unfold St.word
  by_cases hb : 12 < (St.lets x.s).length
  · rw [if_pos hb]
    have h6 : (x.cut.wrong 6).bad = 6 := by
      unfold St.wrong; rw [if_pos (show x.cut.bad = 0 from h.bad)]
    have hsame : (x.cut.wrong 6).s = x.cut.s ∧ (x.cut.wrong 6).out = x.out ∧ (x.cut.wrong 6).deep = x.deep := by
      unfold St.wrong; split <;> exact ⟨rfl, rfl, rfl⟩
    rw [part_bad (by rw [h6]; decide)]
    rw [hsame.1, hsame.2.1, hsame.2.2, h6]
    exact ⟨hlen, h.room, .inr (.inl rfl), rfl, fun h => by cases h⟩
  · rw [if_neg hb]
    obtain ⟨p1, p2, p3, p4⟩ := part_good (x := x.cut) h.bad 1 (St.lets x.s) h.room
    refine ⟨by rw [p1]; exact hlen, p3, ?_, p2, fun hz => ?_⟩
    · rcases p4 with h1 | ⟨h1, _⟩
      · exact .inr (.inr (.inr h1))
      · exact .inl h1
    · rcases p4 with h1 | ⟨_, h1⟩
      · rw [h1] at hz; cases hz
      · exact ⟨.w (St.lets x.s), ⟨hne, by omega, hgood⟩, h1⟩
structure Total (n : Nat) : Prop where
  fac : ∀ x, In x → 4 * x.s.length + 1 ≤ n → ∃ y, factorF n x = some y ∧ Post x y
  and : ∀ x, In x → 4 * x.s.length + 2 ≤ n → ∃ y, andF n x = some y ∧ Post x y
  andl : ∀ o x, InL o x → 4 * x.s.length + 2 ≤ n → ∃ y, andL n x = some y ∧ Mid o x y
  or : ∀ x, In x → 4 * x.s.length + 3 ≤ n → ∃ y, orF n x = some y ∧ Post x y
  orl : ∀ o x, InL o x → 4 * x.s.length + 1 ≤ n → ∃ y, orL n x = some y ∧ Mid o x y
theorem Post.inL {x y : St} (hx : In x) (p : Post x y) : InL x.out y where
  bad := p.bad
  lo := by have := hx.lo; have := p.lo; omega
  hi := fun hb => by have := (p.good hb).2.1; have := hx.hi; omega
  room := p.room
  one := fun hb => (p.good hb).2.2
theorem mid_post {x y z : St} (p : Post x y) (m : Mid x.out y z) (hy : y.bad ≠ 0 → z = y) : Post x z where
  len := Nat.le_trans m.len p.len
  room := m.room
  bad := m.bad
  lo := by have := p.lo; have := m.lo; omega
  hi := by
    by_cases hb : y.bad = 0
    · have := (p.good hb).2.1; have := m.hi; omega
    · rw [hy hb]; exact p.hi
  good := fun hz => by
    have hb : y.bad = 0 := by
      by_cases hb : y.bad = 0
      · exact hb
      · rw [hy hb] at hz; exact absurd hz hb
    obtain ⟨g1, g2, _⟩ := p.good hb
    obtain ⟨m1, m2⟩ := m.good hz
    have := m.len
    exact ⟨by omega, by omega, m2⟩
theorem Mid.same {o : List Part} {x : St} (h : InL o x) : Mid o x x := ⟨Nat.le_refl _, h.room, h.bad, Int.le_refl _, by omega, fun hb => ⟨rfl, h.one hb⟩⟩
theorem andL_bad {n : Nat} {x : St} (hn : 1 ≤ n) (h : x.bad ≠ 0) : andL n x = some x := by
  obtain ⟨m, rfl⟩ : ∃ m, n = m + 1 := ⟨n - 1, by omega⟩
  rw [andL, if_pos h]
theorem orL_bad {n : Nat} {x : St} (hn : 1 ≤ n) (h : x.bad ≠ 0) : orL n x = some x := by
  obtain ⟨m, rfl⟩ : ∃ m, n = m + 1 := ⟨n - 1, by omega⟩
  rw [orL, if_pos h]
/-- One more operand. -/
theorem next_in {o : List Part} {x t y : St} {kd : Int} {mk : Ex → Ex → Ex} (hk : ∀ a b, post (mk a b) = post a ++ post b ++ [(kd, [])]) (hok : ∀ a b, OkE a → OkE b → OkE (mk a b)) (hx : InL o x) (hb : x.bad = 0) (ht : t.deep = x.deep ∧ t.out = x.out ∧ t.bad = x.bad ∧ t.s.length ≤ x.s.length) (p : Post t y) :
    InL o (y.part kd []) ∧ (y.part kd []).s.length ≤ x.s.length ∧ ((y.part kd []).bad = 0 → (y.part kd []).s.length + 1 ≤ x.s.length ∧ (y.part kd []).deep = x.deep) ∧ x.deep ≤ (y.part kd []).deep ∧ (y.part kd []).deep ≤ x.deep + 1 := by
  have hlo := hx.lo
  have hhi := hx.hi hb
  obtain ⟨t1, t2, t3, t4⟩ := ht
  have pl := p.len
  have p5 := p.lo
  have p6 := p.hi
  by_cases hy : y.bad = 0
  · obtain ⟨g1, g2, e, ge, go⟩ := p.good hy
    obtain ⟨q1, q2, q3, q4⟩ := part_good hy kd [] p.room
    refine ⟨⟨?_, by omega, fun _ => by omega, q3, fun hz => ?_⟩, by rw [q1]; omega, fun hz => ⟨by rw [q1]; omega, by omega⟩, by omega, by omega⟩
    · rcases q4 with h1 | ⟨h1, _⟩
      · exact .inr (.inr (.inr h1))
      · exact .inl h1
    · rcases q4 with h1 | ⟨_, h1⟩
      · rw [h1] at hz; cases hz
      · obtain ⟨e0, ok0, eo⟩ := hx.one hb
        refine ⟨mk e0 e, hok _ _ ok0 ge, ?_⟩
        rw [h1, go, t2, eo, hk]
        simp
  · rw [part_bad hy]
    exact ⟨⟨p.bad, by omega, fun hz => absurd hz hy, p.room, fun hz => absurd hz hy⟩, by omega, fun hz => absurd hz hy, by omega, by omega⟩
theorem enter_of {x : St} (h : In x) : (x.enter.bad = 11 ∧ x.enter.deep = x.deep + 1 ∧ x.enter.out = x.out ∧ x.enter.s = x.s ∧ x.deep = 64) ∨ (x.enter = x.deeper ∧ x.deep ≤ 63) := by
  unfold St.enter
  by_cases hd : 64 < x.deeper.deep
  · left
    rw [if_pos hd, St.wrong, if_pos (show x.deeper.bad = 0 from h.bad)]
    have h1 : x.deeper.deep = x.deep + 1 := rfl
    have := h.hi
    exact ⟨rfl, rfl, rfl, rfl, by omega⟩
  · right
    rw [if_neg hd]
    have h1 : x.deeper.deep = x.deep + 1 := rfl
    exact ⟨rfl, by omega⟩
theorem total_fac {n : Nat} (ih : Total n) : ∀ x, In x → 4 * x.s.length + 1 ≤ n + 1 → ∃ y, factorF (n + 1) x = some y ∧ Post x y := by
  intro x h hn
  have hf : x.fits = true := by have := h.lo; have := h.hi; simp [St.fits]; omega
  have hlo := h.lo
  rw [factorF, if_pos hf]
  rcases enter_of h with ⟨e1, e2, e3, e4, e5⟩ | ⟨he, hd⟩
  · rw [if_pos (by rw [e1]; decide)]
    exact ⟨_, rfl, by rw [e4]; exact Nat.le_refl _, by rw [e3]; exact h.room, by rw [e1]; exact .inr (.inr (.inr rfl)), by omega, by omega, fun hz => by rw [e1] at hz; cases hz⟩
  rw [he]
  have hin : In x.deeper := ⟨h.bad, by show 0 ≤ x.deep + 1; omega, by show x.deep + 1 ≤ 64; omega, h.room⟩
  have hdd : x.deeper.deep = x.deep + 1 := rfl
  have hos : x.deeper.out = x.out := rfl
  have hss : x.deeper.s = x.s := rfl
  rw [if_neg (fun hh => hh (show x.deeper.bad = 0 from h.bad))]
  by_cases h33 : x.deeper.takes 33 = true
  · rw [if_pos h33]
    obtain ⟨t1, t2, t3, t4⟩ := take_same x.deeper 33
    have tl := take_len h33
    rw [hss] at tl
    obtain ⟨z, hz, pz⟩ := ih.fac (x.deeper.take 33) ⟨by rw [t3]; exact h.bad, by omega, by omega, by rw [t2]; exact h.room⟩ (by omega)
    have z1 := pz.lo
    have z2 := pz.hi
    have z3 := pz.len
    rw [hz]
    by_cases hzb : z.bad = 0
    · obtain ⟨g1, g2, e, ge, go⟩ := pz.good hzb
      obtain ⟨q1, q2, q3, q4⟩ := part_good hzb 4 [] pz.room
      refine ⟨_, leave_ok (by omega) (by omega), ?_⟩
      refine ⟨by show (z.part 4 []).s.length ≤ _; rw [q1]; omega, q3, ?_, by show x.deep ≤ (z.part 4 []).deep - 1; omega, by show (z.part 4 []).deep - 1 ≤ x.deep + 1; omega, fun hq => ⟨by show (z.part 4 []).s.length < _; rw [q1]; omega, by show (z.part 4 []).deep - 1 = x.deep; omega, ?_⟩⟩
      · rcases q4 with h1 | ⟨h1, _⟩
        · exact .inr (.inr (.inr h1))
        · exact .inl h1
      · rcases q4 with h1 | ⟨_, h1⟩
        · have : (z.part 4 []).bad = 0 := hq
          rw [h1] at this; cases this
        · refine ⟨.n e, ge, ?_⟩
          show (z.part 4 []).out = _
          rw [h1, go, t2, hos, post]; simp
    · simp only [Option.bind_some, part_bad hzb]
      refine ⟨_, leave_ok (by omega) (by omega), ?_⟩
      exact ⟨by show z.s.length ≤ _; omega, pz.room, pz.bad, by show x.deep ≤ z.deep - 1; omega, by show z.deep - 1 ≤ x.deep + 1; omega, fun hq => absurd hq hzb⟩
  rw [if_neg h33]
  by_cases h40 : x.deeper.takes 40 = true
  · rw [if_pos h40]
    obtain ⟨t1, t2, t3, t4⟩ := take_same x.deeper 40
    have tl := take_len h40
    rw [hss] at tl
    obtain ⟨z, hz, pz⟩ := ih.or (x.deeper.take 40) ⟨by rw [t3]; exact h.bad, by omega, by omega, by rw [t2]; exact h.room⟩ (by omega)
    have z1 := pz.lo
    have z2 := pz.hi
    have z3 := pz.len
    rw [hz]
    simp only [Option.bind_some]
    by_cases hzb : z.bad = 0
    · obtain ⟨g1, g2, e, ge, go⟩ := pz.good hzb
      rw [St.close, if_pos hzb]
      by_cases h41 : z.takes 41 = true
      · rw [if_pos h41]
        obtain ⟨s1, s2, s3, s4⟩ := take_same z 41
        refine ⟨_, leave_ok (by omega) (by omega), ?_⟩
        refine ⟨by show (z.take 41).s.length ≤ _; omega, by show (z.take 41).out.length ≤ 64; rw [s2]; exact pz.room, .inl (by show (z.take 41).bad = 0; rw [s3]; exact hzb), by show x.deep ≤ (z.take 41).deep - 1; omega, by show (z.take 41).deep - 1 ≤ x.deep + 1; omega, fun hq => ⟨by show (z.take 41).s.length < _; omega, by show (z.take 41).deep - 1 = x.deep; omega, e, ge, ?_⟩⟩
        show (z.take 41).out = _
        rw [s2, go, t2, hos]
      · rw [if_neg h41]
        have hw : (z.skip.wrong 7).bad = 7 ∧ (z.skip.wrong 7).deep = z.deep ∧ (z.skip.wrong 7).out = z.out ∧ (z.skip.wrong 7).s = z.skip.s := by
          unfold St.wrong
          rw [if_pos (show z.skip.bad = 0 from hzb)]
          exact ⟨rfl, rfl, rfl, rfl⟩
        have hsk : z.skip.s.length ≤ z.s.length := drop_len _ _
        refine ⟨_, leave_ok (by omega) (by omega), ?_⟩
        refine ⟨by show (z.skip.wrong 7).s.length ≤ _; rw [hw.2.2.2]; omega, by show (z.skip.wrong 7).out.length ≤ 64; rw [hw.2.2.1]; exact pz.room, by show Bad (z.skip.wrong 7).bad; rw [hw.1]; exact .inr (.inr (.inl rfl)), by show x.deep ≤ (z.skip.wrong 7).deep - 1; omega, by show (z.skip.wrong 7).deep - 1 ≤ x.deep + 1; omega, fun hq => ?_⟩
        have : (z.skip.wrong 7).bad = 0 := hq
        rw [hw.1] at this; cases this
    · rw [St.close, if_neg hzb]
      refine ⟨_, leave_ok (by omega) (by omega), ?_⟩
      exact ⟨by show z.s.length ≤ _; omega, pz.room, pz.bad, by show x.deep ≤ z.deep - 1; omega, by show z.deep - 1 ≤ x.deep + 1; omega, fun hq => absurd hq hzb⟩
  rw [if_neg h40]
  have hsk : x.deeper.skip.s.length ≤ x.s.length := drop_len _ _
  have hskin : In x.deeper.skip := ⟨h.bad, hin.lo, hin.hi, h.room⟩
  by_cases hl : letter (x.deeper.skip.s.headD 0) = 0
  · rw [if_neg (fun hh => hh hl)]
    have hw : (x.deeper.skip.wrong 7).bad = 7 ∧ (x.deeper.skip.wrong 7).deep = x.deep + 1 ∧ (x.deeper.skip.wrong 7).out = x.out ∧ (x.deeper.skip.wrong 7).s = x.deeper.skip.s := by
      unfold St.wrong
      rw [if_pos (show x.deeper.skip.bad = 0 from h.bad)]
      exact ⟨rfl, rfl, rfl, rfl⟩
    refine ⟨_, leave_ok (by omega) (by omega), ?_⟩
    refine ⟨by show (x.deeper.skip.wrong 7).s.length ≤ _; rw [hw.2.2.2]; omega, by show (x.deeper.skip.wrong 7).out.length ≤ 64; rw [hw.2.2.1]; exact h.room, by show Bad (x.deeper.skip.wrong 7).bad; rw [hw.1]; exact .inr (.inr (.inl rfl)), by show x.deep ≤ (x.deeper.skip.wrong 7).deep - 1; omega, by show (x.deeper.skip.wrong 7).deep - 1 ≤ x.deep + 1; omega, fun hq => ?_⟩
    have : (x.deeper.skip.wrong 7).bad = 0 := hq
    rw [hw.1] at this; cases this
  · rw [if_pos hl]
    obtain ⟨w1, w2, w3, w4, w5⟩ := word_post hskin hl
    have w4' : x.deeper.skip.word.deep = x.deep + 1 := w4
    refine ⟨_, leave_ok (by omega) (by omega), ?_⟩
    exact ⟨by show x.deeper.skip.word.s.length ≤ _; omega, w2, w3, by show x.deep ≤ x.deeper.skip.word.deep - 1; omega, by show x.deeper.skip.word.deep - 1 ≤ x.deep + 1; omega, fun hq => ⟨by show x.deeper.skip.word.s.length < _; omega, by show x.deeper.skip.word.deep - 1 = x.deep; omega, w5 hq⟩⟩
theorem total_succ {n : Nat} (ih : Total n) : Total (n + 1) where
  fac := total_fac ih
  and := fun x h hn => by
    obtain ⟨z, hz, pz⟩ := ih.fac x h (by omega)
    rw [andF, hz]
    have zl := pz.len
    by_cases hzb : z.bad = 0
    · have := (pz.good hzb).1
      obtain ⟨y, hy, my⟩ := ih.andl x.out z (pz.inL h) (by omega)
      exact ⟨y, hy, mid_post pz my fun hb => absurd hzb hb⟩
    · exact ⟨z, andL_bad (by omega) hzb, pz⟩
  andl := fun o x h hn => by
    by_cases hb : x.bad = 0
    case neg => exact ⟨x, andL_bad (by omega) hb, Mid.same h⟩
    rw [andL, if_neg (fun hh => hh hb)]
    have hsk : x.skip.s.length ≤ x.s.length := drop_len _ _
    by_cases hst : x.skip.s = [] ∨ x.skip.s.headD 0 = 124 ∨ x.skip.s.headD 0 = 41
    · rw [if_pos hst]
      exact ⟨_, rfl, hsk, h.room, h.bad, Int.le_refl _, by show x.deep ≤ x.deep + 1; omega, fun hb => ⟨rfl, h.one hb⟩⟩
    rw [if_neg hst]
    have ts := take_same x 38
    obtain ⟨t1, t2, t3, t4⟩ := ts
    have hhi := h.hi hb
    have hlo := h.lo
    obtain ⟨z, hz, pz⟩ := ih.fac (x.take 38) ⟨by rw [t3]; exact hb, by omega, by omega, by rw [t2]; exact h.room⟩ (by omega)
    rw [hz]
    simp only [Option.bind_some]
    obtain ⟨n1, n2, n3, n4, n5⟩ := next_in (kd := 2) (mk := .a) (fun a b => rfl) (fun a b ha hb => ⟨ha, hb⟩) h hb ⟨t1, t2, t3, t4⟩ pz
    by_cases hu : (z.part 2 []).bad = 0
    · obtain ⟨n6, n7⟩ := n3 hu
      obtain ⟨y, hy, my⟩ := ih.andl o _ n1 (by omega)
      refine ⟨y, hy, by have := my.len; omega, my.room, my.bad, by have := my.lo; omega, by have := my.hi; omega, fun hq => ?_⟩
      obtain ⟨m1, m2⟩ := my.good hq
      exact ⟨by omega, m2⟩
    · refine ⟨_, andL_bad (by omega) hu, n2, n1.room, n1.bad, n4, n5, fun hq => absurd hq hu⟩
  or := fun x h hn => by
    obtain ⟨z, hz, pz⟩ := ih.and x h (by omega)
    rw [orF, hz]
    have zl := pz.len
    obtain ⟨y, hy, my⟩ := ih.orl x.out z (pz.inL h) (by omega)
    refine ⟨y, hy, mid_post pz my fun hb => ?_⟩
    have := orL_bad (n := n) (by omega) hb
    rw [this] at hy
    exact (Option.some.inj hy).symm
  orl := fun o x h hn => by
    by_cases hb : x.bad = 0
    case neg => exact ⟨x, orL_bad (by omega) hb, Mid.same h⟩
    rw [orL, if_neg (fun hh => hh hb)]
    have hsk : x.skip.s.length ≤ x.s.length := drop_len _ _
    by_cases ht : x.takes 124 = true
    · rw [if_pos ht]
      obtain ⟨t1, t2, t3, t4⟩ := take_same x 124
      have tl := take_len ht
      have hhi := h.hi hb
      have hlo := h.lo
      obtain ⟨z, hz, pz⟩ := ih.and (x.take 124) ⟨by rw [t3]; exact hb, by omega, by omega, by rw [t2]; exact h.room⟩ (by omega)
      rw [hz]
      simp only [Option.bind_some]
      obtain ⟨n1, n2, n3, n4, n5⟩ := next_in (kd := 3) (mk := .o) (fun a b => rfl) (fun a b ha hb => ⟨ha, hb⟩) h hb ⟨t1, t2, t3, t4⟩ pz
      by_cases hu : (z.part 3 []).bad = 0
      · obtain ⟨n6, n7⟩ := n3 hu
        obtain ⟨y, hy, my⟩ := ih.orl o _ n1 (by omega)
        refine ⟨y, hy, by have := my.len; omega, my.room, my.bad, by have := my.lo; omega, by have := my.hi; omega, fun hq => ?_⟩
        obtain ⟨m1, m2⟩ := my.good hq
        exact ⟨by omega, m2⟩
      · exact ⟨_, orL_bad (by omega) hu, n2, n1.room, n1.bad, n4, n5, fun hq => absurd hq hu⟩
    · rw [if_neg ht]
      exact ⟨_, rfl, hsk, h.room, h.bad, Int.le_refl _, by show x.deep ≤ x.deep + 1; omega, fun hb => ⟨rfl, h.one hb⟩⟩
theorem total : ∀ n, Total n
  | 0 => ⟨fun x _ h => by omega, fun x _ h => by omega, fun o x _ h => by omega, fun x _ h => by omega, fun o x _ h => by omega⟩
  | n + 1 => total_succ (total n)
end Go.Proofs.Ytjbkjffolnodjaa

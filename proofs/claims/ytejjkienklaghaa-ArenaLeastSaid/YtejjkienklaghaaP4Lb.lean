/- The law ArenaLeast on the machine: its rows beside the arena. -/
import Derived.Test.YtejjkienklaghaaP4La
import Derived.Test.YtejjkienklaghaaP4U
namespace Go.Proofs.Ytejjkienklaghaa
open Go.Vm
set_option linter.unusedSimpArgs false
set_option linter.unusedVariables false
variable {T : Vm.Prog} {h : AH}
theorem Sees.keep {h' : AH} {v : AV} {xs : List AV} (s : Sees h v xs) (hk : ∀ o ∈ objs v, h'.get o = h.get o) : Sees h' v xs := by
  rcases s with ⟨rfl, rfl⟩ | ⟨o, off, cap, ex, l, rw, rfl, hg, h1, h2⟩
  · exact .inl ⟨rfl, rfl⟩
  · exact .inr ⟨o, off, cap, ex, l, rw, rfl, by rw [hk o (by simp [objs]), hg], h1, h2⟩
theorem Sees.lowV {v : AV} {xs : List AV} (s : Sees h v xs) (hl : Low h) : ∀ o ∈ objs v, o < h.next := by
  rcases s with ⟨rfl, rfl⟩ | ⟨o, off, cap, ex, l, rw, rfl, hg, _⟩
  · intro o ho; simp [objs] at ho
  · intro p hp; simp [objs] at hp; subst hp; exact hl _ _ hg
/-- Two rows of numbers beside an arena, and what came in. -/
structure Bk (h : AH) (a : Nat) (sv : AV) (S : List Slot) (Q : List PR) (vr vg ov : AV) (R G : List Int) (xs : List AV) : Prop where
  arena : Arena h a sv S Q
  low : Low h
  five : Q.length = 5
  refs : RowV h vr R
  gens : RowV h vg G
  ro : ∀ o ∈ objs vr, Out a sv S Q o
  go : ∀ o ∈ objs vg, Out a sv S Q o
  rg : ∀ o ∈ objs vr, o ∉ objs vg
  ord : Sees h ov xs
  oo : ∀ o ∈ objs ov, Out a sv S Q o ∧ o ∉ objs vr ∧ o ∉ objs vg
variable {a : Nat} {sv : AV} {S S' : List Slot} {Q Q' : List PR} {vr vg ov : AV} {R G : List Int} {xs : List AV}
theorem Bk.act {h' : AH} (b : Bk h a sv S Q vr vg ov R G xs) (A' : Arena h' a sv S' Q') (h5 : Q'.length = 5) (lo : Low h') (ho : ∀ o, o < h.next → Out a sv S Q o → Out a sv S' Q' o) {F : List Nat} (on : Only h h' F) (hF : ∀ o ∈ F, o < h.next → ¬ Out a sv S Q o) : Bk h' a sv S' Q' vr vg ov R G xs := by
  have l1 := b.refs.lowV b.low
  have l2 := b.gens.lowV b.low
  have l3 := b.ord.lowV b.low
  have hk : ∀ o, o < h.next → Out a sv S Q o → h'.get o = h.get o := fun o h1 h2 => on.2 o h1 fun h3 => hF o h3 h1 h2
  exact ⟨A', lo, h5, b.refs.keep fun o h1 => hk o (l1 o h1) (b.ro o h1), b.gens.keep fun o h1 => hk o (l2 o h1) (b.go o h1), fun o h1 => ho o (l1 o h1) (b.ro o h1), fun o h1 => ho o (l2 o h1) (b.go o h1), b.rg, b.ord.keep fun o h1 => hk o (l3 o h1) (b.oo o h1).1, fun o h1 => ⟨ho o (l3 o h1) (b.oo o h1).1, (b.oo o h1).2⟩⟩
/-- The refs' row is written anew. -/
theorem Bk.refs' {h' : AH} {vr' : AV} {R' : List Int} (b : Bk h a sv S Q vr vg ov R G xs) (r : RowV h' vr' R') (hv : ∀ o ∈ objs vr', o ∈ objs vr ∨ h.next ≤ o) (on : Only h h' (objs vr)) (lo : Low h') : Bk h' a sv S Q vr' vg ov R' G xs := by
  have l1 := b.refs.lowV b.low
  have l2 := b.gens.lowV b.low
  have l3 := b.ord.lowV b.low
  have hg : ∀ o ∈ objs vg, o ∉ objs vr := fun o h1 h2 => b.rg o h2 h1
  refine ⟨b.arena.off b.low on fun o h1 h2 => b.ro o h1, lo, b.five, r, b.gens.keep fun o h1 => on.2 o (l2 o h1) (hg o h1), fun o h1 => ?_, b.go, fun o h1 h2 => ?_, b.ord.keep fun o h1 => on.2 o (l3 o h1) (b.oo o h1).2.1, fun o h1 => ⟨(b.oo o h1).1, fun h2 => ?_, (b.oo o h1).2.2⟩⟩
  · rcases hv o h1 with h2 | h2
    · exact b.ro o h2
    · exact out_new b.arena b.low h2
  · rcases hv o h1 with h3 | h3
    · exact b.rg o h3 h2
    · have := l2 o h2; omega
  · rcases hv o h2 with h3 | h3
    · exact (b.oo o h1).2.1 h3
    · have := l3 o h1; omega
/-- The generations' row is written anew. -/
theorem Bk.gens' {h' : AH} {vg' : AV} {G' : List Int} (b : Bk h a sv S Q vr vg ov R G xs) (r : RowV h' vg' G') (hv : ∀ o ∈ objs vg', o ∈ objs vg ∨ h.next ≤ o) (on : Only h h' (objs vg)) (lo : Low h') : Bk h' a sv S Q vr vg' ov R G' xs := by
  have l1 := b.refs.lowV b.low
  have l2 := b.gens.lowV b.low
  have l3 := b.ord.lowV b.low
  refine ⟨b.arena.off b.low on fun o h1 h2 => b.go o h1, lo, b.five, b.refs.keep fun o h1 => on.2 o (l1 o h1) (b.rg o h1), r, b.ro, fun o h1 => ?_, fun o h1 h2 => ?_, b.ord.keep fun o h1 => on.2 o (l3 o h1) (b.oo o h1).2.2, fun o h1 => ⟨(b.oo o h1).1, (b.oo o h1).2.1, fun h2 => ?_⟩⟩
  · rcases hv o h1 with h2 | h2
    · exact b.go o h2
    · exact out_new b.arena b.low h2
  · rcases hv o h2 with h3 | h3
    · exact b.rg o h1 h3
    · have := l1 o h1; omega
  · rcases hv o h2 with h3 | h3
    · exact (b.oo o h1).2.2 h3
    · have := l3 o h1; omega
theorem Bk.grow {h' : AH} (b : Bk h a sv S Q vr vg ov R G xs) (on : Only h h' []) (lo : Low h') : Bk h' a sv S Q vr vg ov R G xs :=
  b.act (b.arena.grow b.low on) b.five lo (fun o _ h => h) on fun o h => by simp at h
/-- One ref more. -/
theorem Bk.addRef {x : Int} (b : Bk h a sv S Q vr vg ov R G xs) (hs : R.length < 1000000) : ∃ v' h', appV 1 8 (h.new (.cells [.int .i64 x] true)) vr (.slice h.next 0 1 1 1 true) = some (v', h') ∧ Bk h' a sv S Q v' vg ov (R ++ [x]) G xs := by
  have on : Only h (h.new (.cells [.int .i64 x] true)) [] := (Only.refl h []).new _
  have b1 := b.grow on (b.low.new _)
  obtain ⟨v', h', e, r, hv, _, on', lo⟩ := append_one (x := x) (o2 := h.next) b1.low b1.refs hs get_new_same fun o ho e => by
    have := b.refs.lowV b.low o ho; omega
  exact ⟨v', h', e, b1.refs' r hv on' lo⟩
theorem Bk.addGen {x : Int} (b : Bk h a sv S Q vr vg ov R G xs) (hs : G.length < 1000000) : ∃ v' h', appV 1 8 (h.new (.cells [.int .i64 x] true)) vg (.slice h.next 0 1 1 1 true) = some (v', h') ∧ Bk h' a sv S Q vr v' ov R (G ++ [x]) xs := by
  have on : Only h (h.new (.cells [.int .i64 x] true)) [] := (Only.refl h []).new _
  have b1 := b.grow on (b.low.new _)
  obtain ⟨v', h', e, r, hv, _, on', lo⟩ := append_one (x := x) (o2 := h.next) b1.low b1.gens hs get_new_same fun o ho e => by
    have := b.gens.lowV b.low o ho; omega
  exact ⟨v', h', e, b1.gens' r hv on' lo⟩
theorem Bk.setRef (b : Bk h a sv S Q vr vg ov R G xs) {i : Nat} (hi : i < R.length) : ∃ p, idxAddrV 1 vr (.int .i64 (i : Int)) = some p ∧ loadV h false 1 p = some (.int .i64 (at0 R i)) ∧
    ∀ x : Int, ∃ h', storeV h 1 p (.int .i64 x) = some h' ∧ Bk h' a sv S Q vr vg ov (R.set i x) G xs := by
  obtain ⟨o, ho, h1, h2, h3⟩ := b.refs.idx hi
  refine ⟨_, h1, h2, fun x => ?_⟩
  obtain ⟨h', st, u, r⟩ := h3 x
  have hol := b.refs.lowV b.low o (by rw [ho]; simp)
  exact ⟨h', st, b.refs' r (fun o h => .inl h) (u.only (.inl (by rw [ho]; simp))) (b.low.upd u hol)⟩
theorem Bk.setGen (b : Bk h a sv S Q vr vg ov R G xs) {i : Nat} (hi : i < G.length) : ∃ p, idxAddrV 1 vg (.int .i64 (i : Int)) = some p ∧ loadV h false 1 p = some (.int .i64 (at0 G i)) ∧
    ∀ x : Int, ∃ h', storeV h 1 p (.int .i64 x) = some h' ∧ Bk h' a sv S Q vr vg ov R (G.set i x) xs := by
  obtain ⟨o, ho, h1, h2, h3⟩ := b.gens.idx hi
  refine ⟨_, h1, h2, fun x => ?_⟩
  obtain ⟨h', st, u, r⟩ := h3 x
  have hol := b.gens.lowV b.low o (by rw [ho]; simp)
  exact ⟨h', st, b.gens' r (fun o h => .inl h) (u.only (.inl (by rw [ho]; simp))) (b.low.upd u hol)⟩
/-- A slot is given back. -/
theorem least_free (k : Fits T) {n i : Nat} {Gn : Nat → Nat} {live : Nat → Bool} (A : Arena h a sv S Q) (hl : Low h) (hQ : Q.length = 5) (E : Least S Q n Gn live) (hG : Gn i < 1073741824) (hG1 : 1 ≤ Gn i) (hn : n ≤ 1024) (hi : i < n) (hlive : live i = true) :
    Gives T 12 [.ptr a 0, .int .i64 (refN i (Gn i) true : Nat)] h fun r h' => r = .int .i64 0 ∧ ∃ S' Q', Arena h' a sv S' Q' ∧ Q'.length = 5 ∧ Least S' Q' n (fun j => if j = i then Gn i + 1 else Gn j) (fun j => if j = i then false else live j) ∧ Low h' ∧ (∀ o, o < h.next → Out a sv S Q o → Out a sv S' Q' o) ∧ ∃ F, Only h h' F ∧ ∀ o ∈ F, o < h.next → ¬ Out a sv S Q o := by
  obtain ⟨x, hx⟩ : ∃ x, S[i]? = some x := ⟨_, List.getElem?_eq_getElem (by rw [E.len]; exact hi)⟩
  obtain ⟨e1, e2, e3⟩ := E.slot i x hx
  have hgood : OfIs S ((refN i (Gn i) true : Nat) : Int) (.ok i) := .good i x ⟨by omega, by omega, by omega⟩ (by rw [e1, e2]; rfl) hx (by rw [e3]; exact hlive)
  refine (afree_ok k A hl ((refN i (Gn i) true : Nat) : Int) hQ ?_).mono ?_
  · intro m y q hy hlv hq hm
    obtain ⟨f1, f2, f3⟩ := E.slot m y hy
    rw [f1] at hq
    obtain ⟨j, g1, g2, g3⟩ := (E.pool q hq _).1 hm
    have : m = j := Int.ofNat.inj g1
    subst this
    rw [f3, g3] at hlv; cases hlv
  · rintro r h' (⟨e, he, _⟩ | ⟨m, y, q, hok, hy, hq, rfl, w, q', A', hwf, hcond, on, lo⟩)
    · have := he.unique hgood; cases this
    have := hok.unique hgood
    cases this
    rw [hx] at hy; cases hy
    rw [e1] at hq A' hcond
    rw [e2] at hcond A'
    rw [if_pos (by omega)] at hcond
    obtain ⟨L', hperm, rp, rm, rL, rf⟩ := hcond
    have hmS := (List.getElem?_eq_some_iff.1 hx).1
    refine ⟨rfl, _, _, A', by simpa using hQ, ⟨by simpa using E.len, ?_, ?_, ?_⟩, lo, ?_, _, on, ?_⟩
    · intro j y hy
      rw [List.getElem?_set] at hy
      by_cases e : i = j
      · subst e
        rw [if_pos rfl, if_pos hmS] at hy
        cases hy
        exact ⟨rfl, by simp, by simp⟩
      · rw [if_neg e] at hy
        have := E.slot j y hy
        rw [if_neg (Ne.symm e), if_neg (Ne.symm e)]; exact this
    · intro t ht y
      rw [List.getElem?_set, if_pos rfl, if_pos (by omega)] at ht
      cases ht
      rw [rL]
      constructor
      · intro hy
        rcases List.mem_cons.1 (hperm.mem_iff.1 hy) with h5 | h5
        · exact ⟨i, h5, hi, by simp⟩
        · obtain ⟨j, rfl, g1, g2⟩ := (E.pool q hq y).1 h5
          refine ⟨j, rfl, g1, ?_⟩
          rw [g2]; simp
      · rintro ⟨j, rfl, g1, g2⟩
        refine hperm.mem_iff.2 (List.mem_cons.2 ?_)
        by_cases e : j = i
        · exact .inl (by rw [e])
        · rw [if_neg e] at g2
          exact .inr ((E.pool q hq _).2 ⟨j, rfl, g1, g2⟩)
    · intro c t ht hc
      rw [List.getElem?_set, if_neg (by omega)] at ht
      exact E.rest c t ht hc
    · intro o ho hu
      exact hu.set (h := h) ho hwf hq rf
    · intro o ho hlt hu
      simp only [List.mem_append] at ho
      rcases ho with h5 | h5
      · exact hu.2.1 h5
      · exact hu.2.2.1 q (List.mem_of_getElem? hq) h5
/-- How many are free. -/
theorem Least.free {n : Nat} {Gn : Nat → Nat} {live : Nat → Bool} (A : Arena h a sv S Q) (hQ : Q.length = 5) (E : Least S Q n Gn live) (hall : ∀ j, j < n → live j = true) : sumL Q = 0 := by
  have h0 : ∀ q ∈ Q, q.L.length = 0 := by
    intro q hq
    obtain ⟨c, hc, rfl⟩ := List.getElem_of_mem hq
    have hqc : Q[c]? = some Q[c] := List.getElem?_eq_getElem hc
    by_cases e : c = 0
    · subst e
      cases hL : Q[0].L with
      | nil => rfl
      | cons y l =>
        obtain ⟨j, _, g1, g2⟩ := (E.pool _ hqc y).1 (by rw [hL]; simp)
        rw [hall j g1] at g2; cases g2
    · rw [E.rest c _ hqc (by omega)]; rfl
  have := sumL_le (n := 0) fun q hq => Nat.le_of_eq (h0 q hq)
  omega
end Go.Proofs.Ytejjkienklaghaa

/- The reference's lists: copied, at. -/
import Derived.Test.YteokopjiaiflnaaP20V
namespace Go.Proofs.Yteokopjiaiflnaa
open Go.Vm
set_option linter.unusedSimpArgs false
set_option linter.unusedVariables false
set_option maxRecDepth 100000
variable {T : Vm.Prog} {h : AH}
theorem appAll24 {v w : AV} {bytes : Nat} {xs ys : List AV} (hlow : Low h) (r : Row1 h v xs) (s : Sees h w ys) (hb : bytes ≤ 24) (hb0 : 0 < bytes) (hs : xs.length + ys.length < 1000000) (hf : ∀ y ∈ ys, AV.flat y = true) :
    ∃ v' h', appV 1 bytes h v w = some (v', h') ∧ Row1 h' v' (xs ++ ys) ∧ (∀ o ∈ objs v', o ∈ objs v ∨ h.next ≤ o) ∧ (∀ o ∈ objs v', o < h'.next) ∧ Only h h' (objs v) ∧ Low h' := by
  have hel := sees_elems s
  have ln := s.len
  have hroom : ∀ cap ex, roomOk (xs.length + ys.length) bytes cap ex = true := by
    intro cap ex
    have : (xs.length + ys.length) * bytes ≤ 1000000 * 24 := Nat.mul_le_mul (by omega) hb
    simp only [roomOk, Bool.or_eq_true, Bool.and_eq_true, decide_eq_true_eq]
    left; omega
  have hfin : ∀ {g : AH} {o n : Nat} {ex : Bool} {zs : List AV}, g.get o = some (.cells zs true) → n = zs.length → Row1 g (.slice o 0 1 n n ex) zs := fun hg hn => by
    subst hn; exact row1_of hg rfl rfl (Nat.le_refl _) (fun _ _ h => h)
  rcases r with ⟨rfl, e⟩ | ⟨o, cap, ex, l, rfl, hg, h1, h2, h3⟩
  · have hx : xs = [] := by simpa using e
    subst hx
    by_cases h0 : ys.length = 0
    · have hy : ys = [] := List.eq_nil_of_length_eq_zero h0
      subst hy
      refine ⟨.nilSlice, h, ?_, .inl ⟨rfl, rfl⟩, fun o ho => .inl ho, fun o ho => by simp [objs] at ho, Only.refl _ _, hlow⟩
      simp only [appV, ln, Option.bind_some, hel, appendV]
      rfl
    · have hr := hroom 0 true
      simp only [List.length_nil, Nat.zero_add] at hr
      refine ⟨.slice h.next 0 1 ys.length ys.length false, h.new (.cells ys true), ?_, hfin get_new_same rfl, fun p hp => by simp [objs] at hp; right; omega, fun p hp => by simp [objs] at hp; rw [next_new]; omega, (Only.refl _ _).new _, hlow.new _⟩
      simp only [appV, ln, Option.bind_some, hel, appendV]
      rw [if_neg h0, if_pos hr]
  · simp only [List.length_map, Nat.mul_one] at h1 h2
    have h3' := Row1.get h3
    have hol : o < h.next := hlow _ _ hg
    simp only [List.length_map]
    by_cases hfit : xs.length + ys.length ≤ cap
    · by_cases h0 : ys.length = 0
      · have hy : ys = [] := List.eq_nil_of_length_eq_zero h0
        subst hy
        refine ⟨.slice o 0 1 xs.length cap ex, h, ?_, ?_, fun p hp => .inl hp, fun p hp => by simp [objs] at hp; omega, Only.refl _ _, hlow⟩
        · simp only [appV, ln, Option.bind_some, hel, appendV, if_true]
          rw [if_pos (by simpa using h2)]
          simp
        · rw [List.append_nil]; exact row1_of hg h1 rfl h2 h3'
      · obtain ⟨z1, z2⟩ := setMany_get l ys xs.length
        obtain ⟨z3, z4, z5⟩ := z2 (by omega)
        refine ⟨.slice o 0 1 (xs.length + ys.length) cap ex, h.set o (.cells (setMany l xs.length ys) true), ?_, row1_of get_set_same (by rw [z1]; exact h1) (by rw [List.length_append]) (by rw [List.length_append]; exact hfit) (fun i x hx => ?_), fun p hp => .inl (by simpa [objs] using hp), fun p hp => by simp [objs] at hp; rw [next_set]; omega, (Only.refl h _).set (.inl (by simp [objs])) _, hlow.set hol _⟩
        · simp only [appV, ln, Option.bind_some, hel, appendV, if_true]
          rw [if_pos hfit, if_neg (by omega)]
          simp only [AH.store, hg, Nat.mul_one, Nat.zero_add]
          rw [if_pos ⟨by omega, by rw [List.all_eq_true]; exact hf⟩]
          rfl
        · by_cases hi : i < xs.length
          · rw [List.getElem?_append_left hi] at hx
            rw [z3 i hi]; exact h3' i x hx
          · rw [List.getElem?_append_right (by omega)] at hx
            have := z4 _ x hx
            rwa [show xs.length + (i - xs.length) = i by omega] at this
    · have hload : h.load o 0 (xs.length * 1) = some xs := by
        simp only [AH.load, hg, Nat.mul_one, Nat.zero_add]
        rw [if_pos (by omega)]
        exact congrArg some (Row1.seg (by omega) h3')
      cases ex with
      | true =>
        refine ⟨.slice h.next 0 1 (xs.length + ys.length) (xs.length + ys.length) false, h.new (.cells (xs ++ ys) true), ?_, hfin get_new_same (by simp), fun p hp => by simp [objs] at hp; right; omega, fun p hp => by simp [objs] at hp; rw [next_new]; omega, (Only.refl _ _).new _, hlow.new _⟩
        simp only [appV, ln, Option.bind_some, hel, appendV, if_true]
        rw [if_neg hfit, if_pos (hroom _ _), hload]
      | false =>
        have hrw : h.isRw o = true := by unfold AH.isRw; rw [hg]
        refine ⟨.slice h.next 0 1 (xs.length + ys.length) (xs.length + ys.length) false, (h.set o .dead).new (.cells (xs ++ ys) true), ?_, hfin (by have := get_new_same (h := h.set o .dead) (x := .cells (xs ++ ys) true); rwa [next_set] at this) (by simp), fun p hp => by simp [objs] at hp; right; omega, fun p hp => by simp [objs] at hp; rw [next_new, next_set]; omega, ((Only.refl h _).set (.inl (by simp [objs])) _).new _, (hlow.set hol _).new _⟩
        simp only [appV, ln, Option.bind_some, hel, appendV, if_true]
        rw [if_neg hfit, if_pos (hroom _ _), hload]
        simp only [Bool.false_eq_true, if_false]
        rw [if_pos (by rw [hrw, List.all_eq_true.2 hf]; rfl)]
theorem izs_flat1 {b : List Int} : ∀ y ∈ izs b, AV.flat y = true := by
  intro y hy
  obtain ⟨x, _, rfl⟩ := List.mem_map.1 hy
  rfl
/-- A new slice of what stands in another. -/
theorem clone_app (hl : Low h) {w : AV} {b : List Int} (s : Sees h w (izs b)) (hs : b.length < 100000) :
    ∃ v' h', appV 1 8 (h.new (.cells [] true)) (.slice h.next 0 1 0 0 true) w = some (v', h') ∧ Row1 h' v' (izs b) ∧ (∀ o ∈ objs v', h.next ≤ o) ∧ Quiet h h' ∧ Low h' := by
  have qe : Quiet h (h.new (.cells [] true)) := (Quiet.refl _).new _
  have re : Row1 (h.new (.cells [] true)) (.slice h.next 0 1 0 0 true) [] := row1_of get_new_same rfl rfl (by simp) (by simp)
  obtain ⟨v', h', h1, h2, h3, h4, h5, h6⟩ := row1_appendAll (bytes := 8) (hl.new (.cells [] true)) re (sees_keep s hl qe) (by decide) (by decide) (by simp [izs]; omega) izs_flat1
  refine ⟨v', h', h1, by simpa using h2, fun o ho => ?_, mods_quiet qe (h5.mods (G := fun o => h.next ≤ o) fun o ho => ?_) fun o ho => ho, h6⟩
  · rcases h3 o ho with h7 | h7
    · simp [objs] at h7; omega
    · rw [next_new] at h7; omega
  · simp [objs] at ho; left; omega
/-- Blocks in new memory, no two of which share any. -/
def Apart (N : Nat) (h : AH) (r : AV) (bs : List (List Int)) : Prop := ∃ xs, Row1 h r xs ∧ (∀ o ∈ objs r, N ≤ o) ∧ xs.length = bs.length ∧ (∀ (i : Nat) x b, xs[i]? = some x → bs[i]? = some b → Row1 h x (izs b) ∧ (∀ o ∈ objs x, N ≤ o ∧ o ∉ objs r)) ∧ ∀ (i j : Nat) x y, i < j → xs[i]? = some x → xs[j]? = some y → ∀ o ∈ objs x, o ∉ objs y
theorem Apart.fresh {N : Nat} {r : AV} {bs : List (List Int)} (a : Apart N h r bs) : Fresh N h r bs := by
  obtain ⟨xs, a1, a2, a3, a4, a5⟩ := a
  exact ⟨xs, a1, a2, a3, a4⟩
theorem Apart.keep {N : Nat} {h' : AH} {r : AV} {bs : List (List Int)} (f : Apart N h r bs) (hl : Low h) (q : Quiet h h') : Apart N h' r bs := by
  obtain ⟨xs, r1, fr, ex, hxs, hd⟩ := f
  exact ⟨xs, row_quiet r1 hl q, fr, ex, fun i z b hz hb => ⟨row_quiet (hxs i z b hz hb).1 hl q, (hxs i z b hz hb).2⟩, hd⟩
theorem apart_nil {N : Nat} : Apart N h .nilSlice [] := ⟨[], .inl ⟨rfl, rfl⟩, fun o ho => by simp [objs] at ho, rfl, fun i x b hx => by simp at hx, fun i j x y _ hx => by simp at hx⟩
theorem apart_app {N : Nat} {h0 : AH} (lo0 : Low h0) (q : Quiet h0 h) (hl : Low h) {r y : AV} {bs : List (List Int)} {b : List Int} (fr : Apart N h0 r bs) (ry : Row1 h y (izs b)) (fy : ∀ o ∈ objs y, h0.next ≤ o) (hN : N ≤ h0.next) (hs : bs.length < 100000) :
    ∃ r' h', appV 1 24 (h.new (.cells [y] true)) r (.slice h.next 0 1 1 1 true) = some (r', h') ∧ Apart N h' r' (bs ++ [b]) ∧ Mods h h' (fun o => o ∈ objs r) ∧ Low h' := by
  obtain ⟨xs, r0, frr, ex, hx0, hd⟩ := fr
  have r1 := row_quiet r0 lo0 q
  have hxs : ∀ (i : Nat) z b, xs[i]? = some z → bs[i]? = some b → Row1 h z (izs b) ∧ (∀ o ∈ objs z, N ≤ o ∧ o ∉ objs r) := fun i z b hz hb => ⟨row_quiet (hx0 i z b hz hb).1 lo0 q, (hx0 i z b hz hb).2⟩
  have cy := sees_cell ry.sees
  obtain ⟨r', h4, ha, hr, ho, hm, lo4⟩ := row_app (bytes := 24) hl r1 (by decide) (by decide) (by omega) cy.2
  have hrl := RowS.low r1 hl
  have hrl0 := RowS.low r0 lo0
  have hyl := RowS.low ry hl
  have hyr : ∀ o ∈ objs y, o ∉ objs r := fun o ho hor => by have := fy o ho; have := hrl0 o hor; omega
  refine ⟨r', h4, ha, ⟨xs ++ [y], hr, fun o hor => ?_, by simp [ex], fun j z c hz hc => ?_, fun i j x z hij hx hz o hox => ?_⟩, hm, lo4⟩
  · rcases ho o hor with h5 | h5
    · exact frr o h5
    · have := q.1; omega
  · rw [List.getElem?_append] at hz hc
    rw [ex] at hz
    by_cases hj : j < bs.length
    · rw [if_pos hj] at hz hc
      obtain ⟨g1, g2⟩ := hxs j z c hz hc
      have hzl := RowS.low g1 hl
      refine ⟨RowS.keep g1 fun o hoz => hm.2 o (hzl o hoz) (g2 o hoz).2, fun o hoz => ⟨(g2 o hoz).1, fun hor => ?_⟩⟩
      rcases ho o hor with h5 | h5
      · exact (g2 o hoz).2 h5
      · have := hzl o hoz; omega
    · rw [if_neg hj] at hz hc
      have h0 : j - bs.length = 0 := by
        have := (List.getElem?_eq_some_iff.1 hc).1
        simp at this; omega
      rw [h0] at hz hc
      simp at hz hc
      subst hz hc
      refine ⟨RowS.keep ry fun o hoy => hm.2 o (hyl o hoy) (hyr o hoy), fun o hoy => ⟨by have := fy o hoy; omega, fun hor => ?_⟩⟩
      rcases ho o hor with h5 | h5
      · exact hyr o hoy h5
      · have := hyl o hoy; omega
  · rw [List.getElem?_append] at hx hz
    by_cases hj : j < xs.length
    · rw [if_pos hj] at hz
      rw [if_pos (by omega)] at hx
      exact hd i j x z hij hx hz o hox
    · rw [if_neg hj] at hz
      have h0 : j - xs.length = 0 := by
        have := (List.getElem?_eq_some_iff.1 hz).1
        simp at this; omega
      rw [h0] at hz
      simp at hz
      subst hz
      rw [if_pos (by omega)] at hx
      intro hoy
      have hi := (List.getElem?_eq_some_iff.1 hx).1
      obtain ⟨b', hb'⟩ : ∃ b', bs[i]? = some b' := ⟨_, List.getElem?_eq_getElem (by omega)⟩
      have hx1 := RowS.low (hx0 i x b' hx hb').1 lo0
      have := fy o hoy
      have := hx1 o hox
      omega

theorem copied_ok (k : Base T) (hl : Low h) {v : AV} {bs : List (List Int)} (s : BlksV h v bs) (h2 : bs.length < 100000) (hb : ∀ b ∈ bs, b.length < 100000) :
    Gives T 38 [v] h fun r h' => Apart h.next h' r bs ∧ Quiet h h' ∧ Low h' := by
  refine gives_func (k.env 38 (by decide)) (k.at (n := 38) rfl) rfl ?_
  have ln := s.len
  simp only [a38, c38, vms, vmc, AOpd.val, Nat.reduceEqDiff, reduceCtorEq, Nat.reduceAdd, Nat.reduceBEq, ln]
  refine wpc_loop (fun d f h' => ∃ i r, d = bs.length - i ∧ i ≤ bs.length ∧ Quiet h h' ∧ Low h' ∧ Apart h.next h' r (bs.take i) ∧ f.at 3 = r ∧ f.at 6 = v ∧ f.at 7 = .int .i64 (bs.length : Int) ∧ f.at 8 = .int .i64 (i : Int)) ?_ bs.length _ _ ⟨0, .nilSlice, by omega, by omega, Quiet.refl _, hl, apart_nil, ?_⟩
  · rintro _ f h1 ⟨i, r, rfl, hi, q, lo, ap, f3, f6, f7, f8⟩
    by_cases hlt : i < bs.length
    · have d1 : decide ((i : Int) < (bs.length : Int)) = true := by rw [decide_eq_true_eq]; omega
      have w2 : IntKind.i64.wrap ((i : Int) + 1) = ((i + 1 : Nat) : Int) := by rw [wrap_i64 (by omega) (by omega)]; omega
      obtain ⟨b, hbi⟩ : ∃ b, bs[i]? = some b := ⟨_, List.getElem?_eq_getElem hlt⟩
      obtain ⟨p, x, hp1, hp2, hx⟩ := (s.keep hl q).at hbi .i64
      obtain ⟨y, h2', ha, ry, fy, q2, lo2⟩ := clone_app lo hx.1 (hb b (List.mem_of_getElem? hbi))
      have cy := sees_cell ry.sees
      have bf0 : fillV [] [] = some [] := rfl
      have bf : fillV [AV.nilSlice] [(0, 1, y)] = some [y] := fill1 (sees_def ry.sees) cy.1
      obtain ⟨r', h3, hr, ap3, m3, lo3⟩ := apart_app lo q2 lo2 ap ry fy q.1 (by rw [List.length_take]; omega)
      have ob : ∀ o ∈ objs r, h.next ≤ o := by obtain ⟨_, _, h9, _⟩ := ap; exact h9
      simp only [c38l0, vms, vmc, AOpd.val, Nat.reduceEqDiff, reduceCtorEq, Nat.reduceAdd, Nat.reduceBEq, f3, f6, f7, f8, d1, hp1, hp2, bf0, ha, bf, hr, w2]
      exact ⟨bs.length - (i + 1), by omega, i + 1, r', rfl, by omega, mods_quiet (q.trans q2) m3 ob, lo3, by rw [take_snoc hbi]; exact ap3, by trivial, by trivial, by trivial, by trivial⟩
    · have d1 : decide ((i : Int) < (bs.length : Int)) = false := by rw [decide_eq_false_iff_not]; omega
      have hi' : i = bs.length := by omega
      subst hi'
      rw [List.take_length] at ap
      simp only [c38l0, vms, vmc, AOpd.val, Nat.reduceEqDiff, reduceCtorEq, Nat.reduceAdd, Nat.reduceBEq, f3, f6, f7, f8, d1]
      exact ⟨ap, q, lo⟩
  · simp only [vms, vmc, AOpd.val, Nat.reduceEqDiff, reduceCtorEq, Nat.reduceAdd, Nat.reduceBEq, ln]
    simp
theorem at_ok (k : Base T) {v : AV} {bs : List (List Int)} {id : Int} (s : BlksV h v bs) (g : Good bs) : Gives T 39 [v, .int .i64 id] h fun r h' => r = .int .i64 (kOf bs id : Int) ∧ h' = h := by
  refine gives_func (k.env 39 (by decide)) (k.at (n := 39) rfl) rfl ?_
  have ln := s.len
  have hbl := g.len
  simp only [a39, c39, vms, vmc, AOpd.val, Nat.reduceEqDiff, reduceCtorEq, Nat.reduceAdd, Nat.reduceBEq, ln]
  refine wpc_loop (fun d f h' => ∃ i, d = bs.length - i ∧ i ≤ bs.length ∧ h' = h ∧ f.at 0 = v ∧ f.at 1 = .int .i64 id ∧ f.at 5 = .int .i64 ((min (bcnt bs id) i - 1 : Nat) : Int) ∧ f.at 8 = .int .i64 (bs.length : Int) ∧ f.at 9 = .int .i64 (i : Int)) ?_ bs.length _ _ ⟨0, by omega, by omega, rfl, ?_⟩
  · rintro _ f h1 ⟨i, rfl, hi, rfl, f0, f1, f5, f8, f9⟩
    by_cases hlt : i < bs.length
    · have d1 : decide ((i : Int) < (bs.length : Int)) = true := by rw [decide_eq_true_eq]; omega
      have w2 : IntKind.i64.wrap ((i : Int) + 1) = ((i + 1 : Nat) : Int) := by rw [wrap_i64 (by omega) (by omega)]; omega
      obtain ⟨b, hbi⟩ : ∃ b, bs[i]? = some b := ⟨_, List.getElem?_eq_getElem hlt⟩
      obtain ⟨p, x, hp1, hp2, hx⟩ := s.at hbi .i64
      have hne := (g.block hbi).1
      obtain ⟨z, r, rfl⟩ : ∃ z r, b = z :: r := by cases b with
        | nil => exact absurd rfl hne
        | cons z r => exact ⟨z, r, rfl⟩
      obtain ⟨p2, hq1, hq2⟩ := hx.1.at (i := 0) (x := .int .i64 z) (by simp [izs]) .i64
      have hq1' : idxAddrV 1 x (.int .i64 0) = some p2 := hq1
      have hc := g.bcnt_iff (id := id) hbi
      have hz : hd (z :: r) = z := rfl
      rw [hz] at hc
      by_cases hle : z ≤ id
      · have d2 : decide (z ≤ id) = true := decide_eq_true hle
        have := hc.2 hle
        simp only [c39l0, vms, vmc, AOpd.val, Nat.reduceEqDiff, reduceCtorEq, Nat.reduceAdd, Nat.reduceBEq, f0, f1, f5, f8, f9, d1, hp1, hp2, hq1', hq2, d2, w2]
        exact ⟨bs.length - (i + 1), by omega, i + 1, rfl, by omega, by trivial, by trivial, by trivial, by congr 2; omega, by trivial, by trivial⟩
      · have d2 : decide (z ≤ id) = false := decide_eq_false hle
        have : ¬ i < bcnt bs id := fun h => hle (hc.1 h)
        simp only [c39l0, vms, vmc, AOpd.val, Nat.reduceEqDiff, reduceCtorEq, Nat.reduceAdd, Nat.reduceBEq, f0, f1, f5, f8, f9, d1, hp1, hp2, hq1', hq2, d2, w2]
        exact ⟨bs.length - (i + 1), by omega, i + 1, rfl, by omega, by trivial, by trivial, by trivial, by congr 2; omega, by trivial, by trivial⟩
    · have d1 : decide ((i : Int) < (bs.length : Int)) = false := by rw [decide_eq_false_iff_not]; omega
      have hb2 := bcnt_le bs id
      simp only [c39l0, vms, vmc, AOpd.val, Nat.reduceEqDiff, reduceCtorEq, Nat.reduceAdd, Nat.reduceBEq, f0, f1, f5, f8, f9, d1]
      refine ⟨?_, trivial⟩
      congr 2
      unfold kOf
      omega
  · simp only [vms, vmc, AOpd.val, Nat.reduceEqDiff, reduceCtorEq, Nat.reduceAdd, Nat.reduceBEq, ln]
    simp
end Go.Proofs.Yteokopjiaiflnaa

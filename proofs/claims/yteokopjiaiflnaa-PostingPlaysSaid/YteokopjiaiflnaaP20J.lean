/- Of. -/
import Derived.Test.YteokopjiaiflnaaP20I
import Derived.Test.YteokopjiaiflnaaVmZy
namespace Go.Proofs.Yteokopjiaiflnaa
open Go.Vm
set_option linter.unusedSimpArgs false
set_option linter.unusedVariables false
set_option maxRecDepth 100000
variable {T : Vm.Prog} {h : AH}
theorem Base.withY {T : Vm.Prog} (k : Base T) (o : Nat) (yh : List AV → AH → Option (AV × AH)) : Base (Vm.withY T o yh) where
  func := k.func
  env := fun n hn => (withY_env hn.1).trans (k.env n hn)
  insI := (withY_env (by decide)).trans k.insI
theorem sees_sub {v : AV} {xs : List AV} (s : Sees h v xs) (hc : capOk v) {a b : Nat} (hab : a ≤ b) (hb : b ≤ xs.length) : ∃ v', slcV 1 v (some (.int .i64 (a : Int))) (some (.int .i64 (b : Int))) (some (.int .i64 (b : Int))) = some v' ∧ Sees h v' ((xs.drop a).take (b - a)) := by
  rcases s with ⟨rfl, rfl⟩ | ⟨o, off, cap, ex, l, rw, rfl, hg, h1, h2⟩
  · have hb0 : b = 0 := by simpa using hb
    have ha0 : a = 0 := by omega
    subst hb0 ha0
    exact ⟨.nilSlice, by simp [slcV, bounds, boundM, boundH, boundL, natOf, Option.filter], .inl ⟨rfl, rfl⟩⟩
  · have hc' : xs.length ≤ cap := hc
    have hbc : b ≤ cap := by omega
    have el : ((xs.drop a).take (b - a)).length = b - a := by simp; omega
    refine ⟨.slice o (if (ex || true) && decide (b = a) then off else off + a * 1) 1 (b - a) (b - a) (ex || true), ?_, .inr ⟨o, _, b - a, _, l, rw, by rw [el], hg, ?_, ?_⟩⟩
    · simp [slcV, bounds, boundM, boundH, boundL, natOf, Option.filter, hab, hbc]
    · rw [el]; split <;> omega
    · intro i x hx
      have hi := (List.getElem?_eq_some_iff.1 hx).1
      rw [el] at hi
      rw [List.getElem?_take, if_pos hi, List.getElem?_drop] at hx
      rw [if_neg (by simp; omega), show off + a * 1 + i = off + (a + i) by omega]
      exact h2 _ _ hx
theorem fresh_app {N : Nat} (hl : Low h) {r y : AV} {bs : List (List Int)} {b : List Int} (fr : Fresh N h r bs) (ry : Row1 h y (izs b)) (fy : ∀ o ∈ objs y, N ≤ o ∧ o ∉ objs r) (hN : N ≤ h.next) (hs : bs.length < 100000) :
    ∃ r' h', appV 1 24 (h.new (.cells [y] true)) r (.slice h.next 0 1 1 1 true) = some (r', h') ∧ Fresh N h' r' (bs ++ [b]) ∧ Mods h h' (fun o => o ∈ objs r) ∧ Low h' := by
  obtain ⟨xs, r1, frr, ex, hxs⟩ := fr
  have cy := sees_cell ry.sees
  obtain ⟨r', h4, ha, hr, ho, hm, lo4⟩ := row_app (bytes := 24) hl r1 (by decide) (by decide) (by omega) cy.2
  have hrl := RowS.low r1 hl
  have hyl := RowS.low ry hl
  refine ⟨r', h4, ha, ⟨xs ++ [y], hr, fun o hor => ?_, by simp [ex], fun j z c hz hc => ?_⟩, hm, lo4⟩
  · rcases ho o hor with h5 | h5
    · exact frr o h5
    · omega
  · rw [List.getElem?_append] at hz hc
    rw [ex] at hz
    by_cases hj : j < bs.length
    · rw [if_pos hj] at hz hc
      obtain ⟨g1, g2⟩ := hxs j z c hz hc
      have hzl := RowS.low g1 hl
      refine ⟨RowS.keep g1 fun o hoz => hm.2 o (hzl o hoz) (g2 o hoz).2, fun o hoz => ⟨(g2 o hoz).1, fun hor => ?_⟩⟩
      rcases ho o hor with h5 | h5
      · exact (g2 o hoz).2 h5
      · have := hzl o hoz; omega
    · rw [if_neg hj] at hz hc
      have h0 : j - bs.length = 0 := by
        have := (List.getElem?_eq_some_iff.1 hc).1
        simp at this; omega
      rw [h0] at hz hc
      simp at hz hc
      subst hz hc
      refine ⟨RowS.keep ry fun o hoy => hm.2 o (hyl o hoy) (fy o hoy).2, fun o hoy => ⟨(fy o hoy).1, fun hor => ?_⟩⟩
      rcases ho o hor with h5 | h5
      · exact (fy o hoy).2 h5
      · have := hyl o hoy; omega
theorem Fresh.turn {N p : Nat} {r : AV} {bs : List (List Int)} (f : Fresh N h r bs) (hp : p < N) (x : AObj) : Fresh N (h.set p x) r bs := by
  obtain ⟨xs, r1, fr, ex, hxs⟩ := f
  have keep : ∀ o, N ≤ o → (h.set p x).get o = h.get o := fun o ho => by rw [AH.get_set, if_neg (by omega)]
  exact ⟨xs, RowS.keep r1 fun o ho => keep o (fr o ho), fr, ex, fun i z b hz hb => ⟨RowS.keep (hxs i z b hz hb).1 fun o ho => keep o ((hxs i z b hz hb).2 o ho).1, (hxs i z b hz hb).2⟩⟩
theorem Fresh.keep {N : Nat} {h' : AH} {r : AV} {bs : List (List Int)} (f : Fresh N h r bs) (hl : Low h) (q : Quiet h h') : Fresh N h' r bs := by
  obtain ⟨xs, r1, fr, ex, hxs⟩ := f
  exact ⟨xs, row_quiet r1 hl q, fr, ex, fun i z b hz hb => ⟨row_quiet (hxs i z b hz hb).1 hl q, (hxs i z b hz hb).2⟩⟩
/-- Blocks of sixteen. -/
def chunk (ids : List Int) (j : Nat) : List Int := (ids.drop (16 * j)).take 16
def chunks (ids : List Int) : List (List Int) := (List.range ((ids.length + 15) / 16)).map (chunk ids)
def bad (ids : List Int) (i : Nat) : Prop := ∃ x, ids[i]? = some x ∧ (x < 0 ∨ 1073741824 < x ∨ (0 < i ∧ ∃ y, ids[i - 1]? = some y ∧ x ≤ y))
def OkIds (ids : List Int) : Prop := ∀ i, ¬ bad ids i
theorem chunks_take {ids : List Int} {j : Nat} (hj : j < (ids.length + 15) / 16) : (chunks ids).take (j + 1) = (chunks ids).take j ++ [chunk ids j] := by
  refine take_snoc ?_
  simp [chunks, hj]
/-- What a round leaves: the list so far, in its cell; the slice and the size, in theirs. -/
structure OfI (h h' : AH) (v : AV) (p : Nat) (ids : List Int) (j : Nat) : Prop where
  row : ∃ sl, h'.get p = some (.cells [sl] true) ∧ Fresh (p + 5) h' sl ((chunks ids).take j)
  src : h'.get (p + 1) = some (.cells [v] true)
  num : h'.get (p + 2) = some (.cells [.int .i64 16] true)
  quiet : Quiet h h'
  low : Low h'
  next : p + 5 ≤ h'.next
  prev : ∀ q, q + 1 = p → h'.get q = some (.cells [.nilSlice] true)
theorem round_gives (k : Base T) {h' : AH} {v x : AV} {p o j : Nat} {f0 : Fr} {ids : List Int} (f6 : f0.at 6 = .ptr p 0) (hp : h.next ≤ p) (I : OfI h h' v p ids j) (hj : j < (ids.length + 15) / 16) (hids : ids.length < 100000) (sx : Sees h' x (izs (chunk ids j))) :
    Gives (Vm.withY T o (yRun (code T) f0 [38] (.ops [⟨(some 7), .mov (.tmp 38), none⟩])
      (.block 3 (.draw [.op ⟨(some 39), .fieldAddr 0 (.tmp 6), none⟩, .op ⟨(some 40), .load false 1 (.tmp 39), none⟩, .op ⟨(some 41), .mov (.tmp 7), none⟩, .op ⟨(some 42), .call 31 [(.tmp 41)], none⟩,
        .op ⟨(some 43), .buildSlice 1 1 [.nilSlice] [(0, 1, (.tmp 42))], none⟩, .look ⟨(some 40), .load false 1 (.tmp 39), none⟩, .look ⟨(some 43), .buildSlice 1 1 [.nilSlice] [(0, 1, (.tmp 42))], none⟩,
        .op ⟨(some 44), .append 1 24 (.tmp 40) (.tmp 43), none⟩, .op ⟨(some 45), .fieldAddr 0 (.tmp 6), none⟩, .op ⟨none, .store 1 (.tmp 45) (.tmp 44), none⟩])))) (YB + o) [x] h' fun r h2 => r = .bool true ∧ OfI h h2 v p ids (j + 1) := by
  obtain ⟨⟨sl, hg, fr⟩, hsrc, hnum, q, lo, hnx, hprev⟩ := I
  refine yield_gives rfl ?_
  simp only [putArgs, vms, vmc, AOpd.val, Nat.reduceEqDiff, reduceCtorEq, Nat.reduceAdd, Nat.reduceBEq]
  refine ⟨trivial, ?_⟩
  have hrow : ∃ xs, Row1 h' sl xs := ⟨_, fr.choose_spec.1⟩
  have bsl : AV.beq sl sl = true := by obtain ⟨xs, r⟩ := hrow; exact sees_beq r.sees
  have hsl : (chunk ids j).length < 1000000 := by unfold chunk; simp; omega
  simp only [vms, vmc, AOpd.val, Nat.reduceEqDiff, reduceCtorEq, Nat.reduceAdd, Nat.reduceBEq, f6, fa0, load_box hg]
  refine Gives.bind ((clone_ok k lo sx (by simpa [izs] using hsl)).mono ?_)
  rintro y h3 ⟨ry, fy, q3, lo3⟩
  have cy := sees_cell ry.sees
  have bf : fillV [AV.nilSlice] [(0, 1, y)] = some [y] := fill1 (sees_def ry.sees) cy.1
  have hg3 := q3.get hg (lo _ _ hg)
  have q4 : Quiet h3 (h3.new (.cells [y] true)) := (Quiet.refl _).new _
  have hg4 := q4.get hg3 (lo3 _ _ hg3)
  simp only [vms, vmc, AOpd.val, Nat.reduceEqDiff, reduceCtorEq, Nat.reduceAdd, Nat.reduceBEq, bf]
  rw [items_look (look_load (v := sl) (by show loadV _ _ _ (Fr.at _ _) = _; simp only [vms, vmc, AOpd.val, Nat.reduceEqDiff, reduceCtorEq, Nat.reduceAdd, Nat.reduceBEq]; exact load_box hg4) (by simp only [vms, vmc, AOpd.val, Nat.reduceEqDiff, reduceCtorEq, Nat.reduceAdd, Nat.reduceBEq]) bsl),
    items_look (look_build (q := h3.next) (l := [y]) (by simp only [vms, vmc, AOpd.val, Nat.reduceEqDiff, reduceCtorEq, Nat.reduceAdd, Nat.reduceBEq]; exact bf) (by simp only [vms, vmc, AOpd.val, Nat.reduceEqDiff, reduceCtorEq, Nat.reduceAdd, Nat.reduceBEq]; rfl) get_new_same (beqs1 (sees_beq ry.sees)))]
  have fr3 := fr.keep lo q3
  have hslow : ∀ o ∈ objs sl, o < h'.next := by obtain ⟨xs, r⟩ := hrow; exact RowS.low r lo
  have hlen : ((chunks ids).take j).length < 100000 := by simp [chunks]; omega
  obtain ⟨r', h5, ha, fr5, hm, lo5⟩ := fresh_app lo3 fr3 ry (fun o ho => ⟨by have := fy o ho; omega, fun hor => by have := fy o ho; have := hslow o hor; omega⟩) (by have := q3.1; omega) hlen
  have hr'c : r'.flat = true ∧ r'.cells = [r'] := by
    obtain ⟨xs, r, _⟩ := fr5
    exact ⟨(sees_cell r.sees).2, (sees_cell r.sees).1⟩
  obtain ⟨xs0, r0, frr, _⟩ := fr
  have keepP : ∀ {a : Nat} {x : AObj}, h'.get a = some x → a < p + 5 → h5.get a = some x := fun {a x} hga hlt => by
    have h1 := q3.get hga (lo _ _ hga)
    exact (hm.2 a (lo3 _ _ h1) (fun hor => by have := frr a hor; omega)).trans h1
  have hg5 := keepP hg (by omega)
  have st : storeV h5 1 (.ptr p 0) r' = some (h5.set p (.cells [r'] true)) := store_at hg5 (by simp) hr'c.2 hr'c.1
  have q5 : Quiet h h5 := Mods.trans (q.trans q3) hm fun o hor => .inr (by have := frr o hor; omega)
  simp only [vms, vmc, AOpd.val, Nat.reduceEqDiff, reduceCtorEq, Nat.reduceAdd, Nat.reduceBEq, f6, ha, fa0, st]
  refine ⟨trivial, trivial, ⟨⟨r', get_set_same, ?_⟩, ?_, ?_, q5.set hp _, lo5.set (lo5 _ _ hg5) _, ?_, fun a ha => ?_⟩⟩
  · rw [chunks_take hj]; exact fr5.turn (by omega) _
  · rw [AH.get_set, if_neg (by omega)]; exact keepP hsrc (by omega)
  · rw [AH.get_set, if_neg (by omega)]; exact keepP hnum (by omega)
  · rw [next_set]; have := q3.1; have := hm.1; omega
  · rw [AH.get_set, if_neg (by omega)]; exact keepP (hprev a ha) (by omega)
/-- The iterator of slices.Chunk, with these rounds. -/
theorem iter_ok (k : Base T) {h' : AH} {v : AV} {p o : Nat} {ids : List Int} {yh : List AV → AH → Option (AV × AH)} (hp : h.next ≤ p) (s : Sees h v (izs ids)) (hl : Low h) (hc : capOk v) (hids : ids.length < 100000) (I : OfI h h' v p ids 0)
    (hy : ∀ (h1 : AH) (x : AV) (j : Nat), OfI h h1 v p ids j → j < (ids.length + 15) / 16 → Sees h1 x (izs (chunk ids j)) → Gives (Vm.withY T o yh) (YB + o) [x] h1 fun r h2 => r = .bool true ∧ OfI h h2 v p ids (j + 1)) :
    Gives (Vm.withY T o yh) 40 [.func (.func (YB + o)) [] [], .ptr (p + 1) 0, .ptr (p + 2) 0] h' fun _ h2 => OfI h h2 v p ids ((ids.length + 15) / 16) := by
  have kw := k.withY o yh
  refine gives_func (kw.env 40 (by decide)) (kw.at (n := 40) rfl) rfl ?_
  simp only [a40, c40, vms, vmc, AOpd.val, Nat.reduceEqDiff, reduceCtorEq, Nat.reduceAdd, Nat.reduceBEq]
  refine wpc_loop (fun m f h1 => ∃ j, m = (ids.length + 15) / 16 - j ∧ j ≤ (ids.length + 15) / 16 ∧ OfI h h1 v p ids j ∧ f.at 0 = .func (.func (YB + o)) [] [] ∧ f.at 1 = .ptr (p + 1) 0 ∧ f.at 2 = .ptr (p + 2) 0 ∧ f.at 4 = .int .i64 ((16 * j : Nat) : Int)) ?_ ((ids.length + 15) / 16) _ _ ⟨0, by omega, by omega, I, ?_⟩
  · rintro m f h1 ⟨j, rfl, hj, I1, f0, f1, f2, f4⟩
    have l1 := load_box I1.src
    have l2 := load_box I1.num
    have s1 := sees_keep s hl I1.quiet
    have ln : lenOfV v = some ids.length := by simpa [izs] using s1.len
    by_cases hlt : 16 * j < ids.length
    · have d1 : decide (((16 * j : Nat) : Int) < (ids.length : Int)) = true := by rw [decide_eq_true_eq]; omega
      obtain ⟨w, sw1, sw2, _, _, _⟩ := sees_tail s1 hc (n := 16 * j) (by simp [izs]; omega) (k := .i64)
      have lw : lenOfV w = some (ids.length - 16 * j) := by simpa [izs] using sw2.len
      have mn : mnxAll false (.int .i64 16) [.int .i64 ((ids.length - 16 * j : Nat) : Int)] = some (.int .i64 ((min 16 (ids.length - 16 * j) : Nat) : Int)) := by
        simp only [mnxAll, mnxV, if_true, Option.bind_some, Bool.false_eq_true, if_false]
        congr 2
        split <;> omega
      have w1 : IntKind.i64.wrap (((16 * j : Nat) : Int) + ((min 16 (ids.length - 16 * j) : Nat) : Int)) = ((16 * j + min 16 (ids.length - 16 * j) : Nat) : Int) := by rw [wrap_i64 (by omega) (by omega)]; omega
      obtain ⟨x, sx1, sx2⟩ := sees_sub s1 hc (a := 16 * j) (b := 16 * j + min 16 (ids.length - 16 * j)) (by omega) (by simp [izs]; omega)
      have ex : ((izs ids).drop (16 * j)).take (16 * j + min 16 (ids.length - 16 * j) - 16 * j) = izs (chunk ids j) := by
        rw [show 16 * j + min 16 (ids.length - 16 * j) - 16 * j = min 16 (ids.length - 16 * j) by omega]
        simp only [izs, chunk, List.map_take, List.map_drop]
        apply List.ext_getElem?
        intro i
        simp only [List.getElem?_take, List.getElem?_drop, List.getElem?_map]
        by_cases hi : i < min 16 (ids.length - 16 * j)
        · rw [if_pos hi, if_pos (by omega)]
        · rw [if_neg hi]
          by_cases hi2 : i < 16
          · rw [if_pos hi2, List.getElem?_eq_none (by omega)]; rfl
          · rw [if_neg hi2]
      rw [ex] at sx2
      have w2 : IntKind.i64.wrap (((16 * j : Nat) : Int) + 16) = ((16 * (j + 1) : Nat) : Int) := by rw [wrap_i64 (by omega) (by omega)]; omega
      have dr : ∀ {f : Fr} {g : AH}, True := fun {_ _} => trivial
      simp only [c40l0, vms, vmc, AOpd.val, Nat.reduceEqDiff, reduceCtorEq, Nat.reduceAdd, Nat.reduceBEq, f0, f1, f2, f4, l1, l2, ln, d1, sw1, lw, step_mnx, mn, w1, sx1, step_callV, callVal_func]
      refine Gives.bind ((hy h1 x j I1 (by omega) sx2).mono ?_)
      rintro _ h2 ⟨rfl, I2⟩
      have l3 := load_box I2.num
      simp only [vms, vmc, AOpd.val, Nat.reduceEqDiff, reduceCtorEq, Nat.reduceAdd, Nat.reduceBEq, f0, f1, f2, f4, l3, w2]
      exact ⟨(ids.length + 15) / 16 - (j + 1), by omega, j + 1, rfl, by omega, I2, by trivial, by trivial, by trivial, by trivial⟩
    · have d1 : decide (((16 * j : Nat) : Int) < (ids.length : Int)) = false := by rw [decide_eq_false_iff_not]; omega
      have hj' : j = (ids.length + 15) / 16 := by omega
      subst hj'
      simp only [c40l0, vms, vmc, AOpd.val, Nat.reduceEqDiff, reduceCtorEq, Nat.reduceAdd, Nat.reduceBEq, f1, f4, l1, ln, d1]
      exact I1
  · simp only [vms, vmc, AOpd.val, Nat.reduceEqDiff, reduceCtorEq, Nat.reduceAdd, Nat.reduceBEq]
    simp
theorem step_mkFunc {call : Handler} {f : Fr} {fn : Fn} {first caps : List AOpd} : stepV call (.mkFunc fn first caps) f h = some (.func fn (first.map (·.val f)) (caps.map (·.val f)), h) := rfl
theorem box_one {v : AV} (hd : AV.isDef v = true) (hc : v.cells = [v]) : boxV h v = some (.ptr h.next 0, h.new (.cells [v] true)) := by simp [boxV, hd, hc]
theorem chunk_ok (k : Base T) {v : AV} (hd : AV.isDef v = true) (hc : v.cells = [v]) : Gives T 30 [v, .int .i64 16] h fun r h' => r = .func (.func 40) [] [.ptr h.next 0, .ptr (h.next + 1) 0] ∧ h' = (h.new (.cells [v] true)).new (.cells [.int .i64 16] true) := by
  refine gives_func (k.env 30 (by decide)) (k.at (n := 30) rfl) rfl ?_
  have b2 : boxV (h.new (.cells [v] true)) (.int .i64 16) = some (.ptr (h.next + 1) 0, (h.new (.cells [v] true)).new (.cells [.int .i64 16] true)) := rfl
  have l : loadV ((h.new (.cells [v] true)).new (.cells [.int .i64 16] true)) false 1 (.ptr (h.next + 1) 0) = some (.int .i64 16) := load_box get_new_same
  simp only [a30, c30, vms, vmc, AOpd.val, Nat.reduceEqDiff, reduceCtorEq, Nat.reduceAdd, Nat.reduceBEq, box_one hd hc, b2, l, show decide ((16 : Int) < 1) = false from rfl, step_mkFunc]
  exact ⟨trivial, trivial⟩
theorem fresh_nil {N : Nat} : Fresh N h .nilSlice [] := ⟨[], .inl ⟨rfl, rfl⟩, fun o ho => by simp [objs] at ho, rfl, fun i x b hx => by simp at hx⟩
theorem of_ok {T' : Vm.Prog} (k : Base T) (hT : T'.env 10 = some (rL T rf10)) (hl : Low h) {v : AV} {ids : List Int} (s : Sees h v (izs ids)) (hc : capOk v) (hids : ids.length < 100000) :
    Gives T' 10 [v] h fun r h' => Quiet h h' ∧ Low h' ∧ ((OkIds ids ∧ ∃ lv, r = .tuple [lv, .int .i64 0] ∧ ListV h' lv (chunks ids)) ∨ (¬ OkIds ids ∧ r = .tuple [.agg [.nilSlice], .int .i64 8])) := by
  refine rL_gives hT rfl ?_
  have ln : lenOfV v = some ids.length := by simpa [izs] using s.len
  have q1 : Quiet h (h.new (.cells [.nilSlice] true)) := (Quiet.refl h).new _
  have lo1 := hl.new (.cells [.nilSlice] true)
  have hz1 : (h.new (.cells [.nilSlice] true)).get h.next = some (.cells [.nilSlice] true) := get_new_same
  have s1 := sees_keep s hl q1
  have nx1 : (h.new (.cells [.nilSlice] true)).next = h.next + 1 := rfl
  unfold rf10 r10
  refine wr_seq ?_
  rw [wr_base]
  simp only [vms, vmc, AOpd.val, Nat.reduceEqDiff, reduceCtorEq, Nat.reduceAdd, Nat.reduceBEq]
  generalize (h.new (.cells [.nilSlice] true)) = h1 at *
  refine wr_seq ?_
  rw [wr_base]
  simp only [vms, vmc, AOpd.val, Nat.reduceEqDiff, reduceCtorEq, Nat.reduceAdd, Nat.reduceBEq, ln]
  refine wpc_loop (fun m f h' => ∃ i, m = ids.length - i ∧ i ≤ ids.length ∧ h' = h1 ∧ (∀ j, j < i → ¬ bad ids j) ∧ f.at 0 = v ∧ f.at 2 = .ptr h.next 0 ∧ f.at 8 = v ∧ f.at 9 = .int .i64 (ids.length : Int) ∧ f.at 10 = .int .i64 (i : Int)) ?_ ids.length _ _ ⟨0, by omega, by omega, rfl, fun j hj => by omega, ?_⟩
  · rintro m f h' ⟨i, rfl, hi, rfl, hgood, f0, f2, f8, f9, f10⟩
    by_cases hlt : i < ids.length
    · have d1 : decide ((i : Int) < (ids.length : Int)) = true := by rw [decide_eq_true_eq]; omega
      obtain ⟨x, hx⟩ : ∃ x, ids[i]? = some x := ⟨_, List.getElem?_eq_getElem hlt⟩
      obtain ⟨p, hp1, hp2⟩ := s1.at (i := i) (x := .int .i64 x) (by simp [izs, hx]) .i64
      have w2 : IntKind.i64.wrap ((i : Int) + 1) = ((i + 1 : Nat) : Int) := by rw [wrap_i64 (by omega) (by omega)]; omega
      -- one that is refused
      have bz : fillV [AV.nilSlice] [] = some [AV.nilSlice] := rfl
      have st : storeV h' 1 (.ptr h.next 0) (.agg [.nilSlice]) = some (h'.set h.next (.cells [.nilSlice] true)) := store_res hz1 rfl
      have ld := load_all (get_set_same (h := h') (o := h.next) (x := .cells [AV.nilSlice] true)) (n := 1) rfl
      have qR : Quiet h (h'.set h.next (.cells [.nilSlice] true)) := q1.set (Nat.le_refl _) _
      have loR : Low (h'.set h.next (.cells [.nilSlice] true)) := lo1.set (by omega) _
      have goon : ¬ bad ids i → (∃ m, m < ids.length - i ∧ ∃ j, m = ids.length - j ∧ j ≤ ids.length ∧ (∀ q, q < j → ¬ bad ids q) ∧ j = i + 1) := fun hb => ⟨ids.length - (i + 1), by omega, i + 1, rfl, by omega, fun q hq => by
        by_cases e : q = i
        · subst e; exact hb
        · exact hgood q (by omega), rfl⟩
      by_cases hneg : x < 0
      · have hb : bad ids i := ⟨x, hx, .inl hneg⟩
        simp only [c10l0, vms, vmc, AOpd.val, Nat.reduceEqDiff, reduceCtorEq, Nat.reduceAdd, Nat.reduceBEq, f0, f2, f8, f9, f10, d1, hp1, hp2, decide_eq_true hneg, bz, st, res_cell, ld]
        exact ⟨qR, loR, .inr ⟨fun ho => ho i hb, trivial⟩⟩
      · by_cases hbig : x > 1073741824
        · have hb : bad ids i := ⟨x, hx, .inr (.inl hbig)⟩
          simp only [c10l0, vms, vmc, AOpd.val, Nat.reduceEqDiff, reduceCtorEq, Nat.reduceAdd, Nat.reduceBEq, f0, f2, f8, f9, f10, d1, hp1, hp2, decide_eq_false hneg, decide_eq_true hbig, bz, st, res_cell, ld]
          exact ⟨qR, loR, .inr ⟨fun ho => ho i hb, trivial⟩⟩
        · by_cases h0 : 0 < i
          · have d2 : decide ((i : Int) > 0) = true := by rw [decide_eq_true_eq]; omega
            have w3 : IntKind.i64.wrap ((i : Int) - 1) = ((i - 1 : Nat) : Int) := by rw [wrap_i64 (by omega) (by omega)]; omega
            obtain ⟨y, hy⟩ : ∃ y, ids[i - 1]? = some y := ⟨_, List.getElem?_eq_getElem (by omega)⟩
            obtain ⟨p', hq1, hq2⟩ := s1.at (i := i - 1) (x := .int .i64 y) (by simp [izs, hy]) .i64
            by_cases hle : x ≤ y
            · have hb : bad ids i := ⟨x, hx, .inr (.inr ⟨h0, y, hy, hle⟩)⟩
              simp only [c10l0, vms, vmc, AOpd.val, Nat.reduceEqDiff, reduceCtorEq, Nat.reduceAdd, Nat.reduceBEq, f0, f2, f8, f9, f10, d1, hp1, hp2, decide_eq_false hneg, decide_eq_false hbig, d2, w3, hq1, hq2, decide_eq_true hle, bz, st, res_cell, ld]
              exact ⟨qR, loR, .inr ⟨fun ho => ho i hb, trivial⟩⟩
            · have hb : ¬ bad ids i := by
                rintro ⟨x', hx', h1 | h1 | ⟨_, y', hy', h1⟩⟩
                · rw [hx] at hx'; cases hx'; exact hneg h1
                · rw [hx] at hx'; cases hx'; exact hbig h1
                · rw [hx] at hx'; cases hx'; rw [hy] at hy'; cases hy'; exact hle h1
              obtain ⟨m, hm, j, rfl, hj, hg, rfl⟩ := goon hb
              simp only [c10l0, vms, vmc, AOpd.val, Nat.reduceEqDiff, reduceCtorEq, Nat.reduceAdd, Nat.reduceBEq, f0, f2, f8, f9, f10, d1, hp1, hp2, decide_eq_false hneg, decide_eq_false hbig, d2, w3, hq1, hq2, decide_eq_false hle, w2]
              exact ⟨_, hm, i + 1, rfl, hj, by trivial, hg, by trivial, by trivial, by trivial, by trivial, by trivial⟩
          · have d2 : decide ((i : Int) > 0) = false := by rw [decide_eq_false_iff_not]; omega
            have hb : ¬ bad ids i := by
              rintro ⟨x', hx', h1 | h1 | ⟨h2, _⟩⟩
              · rw [hx] at hx'; cases hx'; exact hneg h1
              · rw [hx] at hx'; cases hx'; exact hbig h1
              · exact h0 h2
            obtain ⟨m, hm, j, rfl, hj, hg, rfl⟩ := goon hb
            simp only [c10l0, vms, vmc, AOpd.val, Nat.reduceEqDiff, reduceCtorEq, Nat.reduceAdd, Nat.reduceBEq, f0, f2, f8, f9, f10, d1, hp1, hp2, decide_eq_false hneg, decide_eq_false hbig, d2, w2]
            exact ⟨_, hm, i + 1, rfl, hj, by trivial, hg, by trivial, by trivial, by trivial, by trivial, by trivial⟩
    · have d1 : decide ((i : Int) < (ids.length : Int)) = false := by rw [decide_eq_false_iff_not]; omega
      have hok : OkIds ids := fun j hb => by
        obtain ⟨x, hx, hh⟩ := hb
        have := (List.getElem?_eq_some_iff.1 hx).1
        exact hgood j (by omega) ⟨x, hx, hh⟩
      simp only [c10l0, vms, vmc, AOpd.val, Nat.reduceEqDiff, reduceCtorEq, Nat.reduceAdd, Nat.reduceBEq, f9, f10, d1]
      refine wr_seq ?_
      rw [wr_base]
      simp only [vms, vmc, AOpd.val, Nat.reduceEqDiff, reduceCtorEq, Nat.reduceAdd, Nat.reduceBEq]
      refine wr_seq ?_
      refine wr_seq ?_
      rw [wr_base]
      simp only [vms, vmc, AOpd.val, Nat.reduceEqDiff, reduceCtorEq, Nat.reduceAdd, Nat.reduceBEq, f0]
      have dv := sees_def s
      have cv := sees_cell s
      refine Gives.bind ((chunk_ok k dv cv.1).mono ?_)
      rintro _ _ ⟨rfl, rfl⟩
      simp only [vms, vmc, AOpd.val, Nat.reduceEqDiff, reduceCtorEq, Nat.reduceAdd, Nat.reduceBEq, next_new, nx1]
      have g1 : ∀ {a : Nat} {x : AObj} {y : AObj}, a < h.next + 4 → ∀ {g : AH}, g.next = h.next + 4 → g.get a = some x → ((g.new y).new y).get a = some x := fun {a x y} ha {g} hgn hga => by
        rw [AH.get_new, if_neg (by rw [next_new]; omega), AH.get_new, if_neg (by omega)]; exact hga
      have hzz : (((h'.new (.cells [.nilSlice] true)).new (.cells [v] true)).new (.cells [.int .i64 16] true)).get h.next = some (.cells [.nilSlice] true) := by
        rw [AH.get_new, if_neg (by simp only [next_new, nx1]; omega), AH.get_new, if_neg (by simp only [next_new, nx1]; omega), AH.get_new, if_neg (by rw [nx1]; omega)]; exact hz1
      have h6 : (((h'.new (.cells [.nilSlice] true)).new (.cells [v] true)).new (.cells [.int .i64 16] true)).get (h.next + 1) = some (.cells [.nilSlice] true) := by
        rw [AH.get_new, if_neg (by simp only [next_new, nx1]; omega), AH.get_new, if_neg (by simp only [next_new, nx1]; omega), AH.get_new, if_pos nx1]
      have h7 : (((h'.new (.cells [.nilSlice] true)).new (.cells [v] true)).new (.cells [.int .i64 16] true)).get (h.next + 2) = some (.cells [v] true) := by
        rw [AH.get_new, if_neg (by simp only [next_new, nx1]; omega), AH.get_new, if_pos (by simp only [next_new, nx1])]
      have h8 : (((h'.new (.cells [.nilSlice] true)).new (.cells [v] true)).new (.cells [.int .i64 16] true)).get (h.next + 3) = some (.cells [.int .i64 16] true) := by
        rw [AH.get_new, if_pos (by simp only [next_new, nx1])]
      have hnx : (((h'.new (.cells [.nilSlice] true)).new (.cells [v] true)).new (.cells [.int .i64 16] true)).next = h.next + 4 := by simp only [next_new, nx1]
      have q4 : Quiet h (((h'.new (.cells [.nilSlice] true)).new (.cells [v] true)).new (.cells [.int .i64 16] true)) := ((q1.new _).new _).new _
      have lo4 : Low (((h'.new (.cells [.nilSlice] true)).new (.cells [v] true)).new (.cells [.int .i64 16] true)) := ((lo1.new _).new _).new _
      generalize (((h'.new (.cells [.nilSlice] true)).new (.cells [v] true)).new (.cells [.int .i64 16] true)) = h4 at *
      have I0 : OfI h ((h4.new .dead).new .dead) v (h.next + 1) ids 0 :=
        ⟨⟨.nilSlice, g1 (by omega) hnx h6, fresh_nil⟩, g1 (by omega) hnx h7, g1 (by omega) hnx h8, (q4.new _).new _, (lo4.new _).new _, by simp only [next_new, hnx]; omega, fun a ha => by have e : a = h.next := (by omega); rw [e]; exact g1 (by omega) hnx hzz⟩
      refine wr_block (wr_range (gf := 40) (caps := [.ptr (h.next + 2) 0, .ptr (h.next + 3) 0]) (by simp only [vms, vmc, AOpd.val, Nat.reduceEqDiff, reduceCtorEq, Nat.reduceAdd, Nat.reduceBEq]) (k.env 40 (by decide)) (by decide) ?_)
      refine (iter_ok k (p := h.next + 1) (by omega) s hl hc hids I0 fun ha x j Ij hj sx => ?_).mono ?_
      · exact round_gives k (by simp only [vms, vmc, AOpd.val, Nat.reduceEqDiff, reduceCtorEq, Nat.reduceAdd, Nat.reduceBEq]) (by omega) Ij hj hids sx
      · rintro _ h5 I5
        obtain ⟨⟨sl, hg5, fr5⟩, _, _, q5, lo5, nx5, pr5⟩ := I5
        have hch : (chunks ids).take ((ids.length + 15) / 16) = chunks ids := List.take_of_length_le (by simp [chunks])
        rw [hch] at fr5
        have sB := fr5.blks
        have hz5 := pr5 h.next rfl
        have st := store_res hz5 sB.cell.2.1
        have ld5 := load_boxA hg5
        have ld := load_all (get_set_same (h := h5) (o := h.next) (x := .cells [sl] true)) (n := 1) rfl
        rw [InBlock_normal, Then_normal, wr_base]
        simp only [vms, vmc, AOpd.val, Nat.reduceEqDiff, reduceCtorEq, Nat.reduceAdd, Nat.reduceBEq, f2, ld5, st, res_cell, ld]
        exact ⟨q5.set (Nat.le_refl _) _, lo5.set (lo5 _ _ hz5) _, .inl ⟨hok, _, rfl, sl, rfl, (fr5.turn (by omega) _).blks⟩⟩
  · simp only [vms, vmc, AOpd.val, Nat.reduceEqDiff, reduceCtorEq, Nat.reduceAdd, Nat.reduceBEq]
    simp
end Go.Proofs.Yteokopjiaiflnaa

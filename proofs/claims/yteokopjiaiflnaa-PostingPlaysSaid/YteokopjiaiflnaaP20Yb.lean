/- The reference's RightIds, RightList, Of. -/
import Derived.Test.YteokopjiaiflnaaP20Ya
namespace Go.Proofs.Yteokopjiaiflnaa
open Go.Vm
set_option linter.unusedSimpArgs false
set_option linter.unusedVariables false
set_option maxRecDepth 100000
variable {T : Vm.Prog} {h : AH}
theorem sees_mid {v : AV} {xs : List AV} (s : Sees h v xs) (hc : capOk v) {a b : Nat} (hab : a < b) (hb : b ≤ xs.length) : ∃ v', slcV 1 v (some (.int .i64 (a : Int))) (some (.int .i64 (b : Int))) none = some v' ∧ Sees h v' ((xs.drop a).take (b - a)) := by
  rcases s with ⟨rfl, rfl⟩ | ⟨o, off, cap, ex, l, rw, rfl, hg, h1, h2⟩
  · simp at hb; omega
  · have hc' : xs.length ≤ cap := hc
    have hbc : b ≤ cap := by omega
    have hab' : a ≤ b := by omega
    have hne : ¬ cap = a := by omega
    have el : ((xs.drop a).take (b - a)).length = b - a := by simp; omega
    refine ⟨.slice o (off + a * 1) 1 (b - a) (cap - a) ex, ?_, .inr ⟨o, _, cap - a, _, l, rw, by rw [el], hg, ?_, ?_⟩⟩
    · simp [slcV, bounds, boundM, boundH, boundL, natOf, Option.filter, hab', hbc, hne]
    · rw [el]; omega
    · intro i x hx
      have hi := (List.getElem?_eq_some_iff.1 hx).1
      rw [el] at hi
      rw [List.getElem?_take, if_pos hi, List.getElem?_drop] at hx
      rw [show off + a * 1 + i = off + (a + i) by omega]
      exact h2 _ _ hx
open Classical in
theorem rightIds_ok (k : Base T) {v : AV} {b : List Int} (s : Sees h v (izs b)) (hb : b.length < 100000) : Gives T 47 [v] h fun r h' => r = .bool (decide (OkIds b ∧ 1 ≤ b.length ∧ b.length ≤ 16)) ∧ h' = h := by
  refine gives_func (k.env 47 (by decide)) (k.at (n := 47) rfl) rfl ?_
  have ln : lenOfV v = some b.length := by simpa [izs] using s.len
  simp only [a47, c47, vms, vmc, AOpd.val, Nat.reduceEqDiff, reduceCtorEq, Nat.reduceAdd, Nat.reduceBEq, ln]
  refine wpc_loop (fun d f h' => ∃ i, d = b.length - i ∧ i ≤ b.length ∧ goodTo b i ∧ h' = h ∧ f.at 0 = v ∧ f.at 5 = v ∧ f.at 6 = .int .i64 (b.length : Int) ∧ f.at 7 = .int .i64 (i : Int)) ?_ b.length _ _ ⟨0, by omega, by omega, fun j hj => by omega, rfl, ?_⟩
  · rintro d f h' ⟨i, rfl, hi, hg, rfl, f0, f5, f6, f7⟩
    by_cases hlt : i < b.length
    · have d1 : decide ((i : Int) < (b.length : Int)) = true := by rw [decide_eq_true_eq]; omega
      obtain ⟨x, hx⟩ : ∃ x, b[i]? = some x := ⟨_, List.getElem?_eq_getElem hlt⟩
      obtain ⟨p, hp1, hp2⟩ := s.at (i := i) (x := .int .i64 x) (by simp [izs, hx]) .i64
      have w2 : IntKind.i64.wrap ((i : Int) + 1) = ((i + 1 : Nat) : Int) := by rw [wrap_i64 (by omega) (by omega)]; omega
      have no : bad b i → AV.bool false = .bool (decide (OkIds b ∧ 1 ≤ b.length ∧ b.length ≤ 16)) := fun hb => by
        rw [decide_eq_false]; rintro ⟨ok, _⟩; exact ok i hb
      have next : ¬ bad b i → goodTo b (i + 1) := fun hn j hj => by
        by_cases e : j = i
        · subst e; exact hn
        · exact hg j (by omega)
      by_cases hneg : x < 0
      · simp only [c47l0, vms, vmc, AOpd.val, Nat.reduceEqDiff, reduceCtorEq, Nat.reduceAdd, Nat.reduceBEq, f0, f5, f6, f7, d1, hp1, hp2, decide_eq_true hneg]
        exact ⟨no ⟨x, hx, .inl hneg⟩, trivial⟩
      by_cases hbig : x > 1073741824
      · simp only [c47l0, vms, vmc, AOpd.val, Nat.reduceEqDiff, reduceCtorEq, Nat.reduceAdd, Nat.reduceBEq, f0, f5, f6, f7, d1, hp1, hp2, decide_eq_false hneg, decide_eq_true hbig]
        exact ⟨no ⟨x, hx, .inr (.inl hbig)⟩, trivial⟩
      by_cases h0 : i = 0
      · have hb : ¬ bad b i := by
          rintro ⟨x', hx', h1 | h1 | ⟨h2, _⟩⟩
          · rw [hx] at hx'; cases hx'; omega
          · rw [hx] at hx'; cases hx'; omega
          · omega
        have d3 : decide ((i : Int) > 0) = false := by rw [decide_eq_false_iff_not]; omega
        simp only [c47l0, vms, vmc, AOpd.val, Nat.reduceEqDiff, reduceCtorEq, Nat.reduceAdd, Nat.reduceBEq, f0, f5, f6, f7, d1, hp1, hp2, decide_eq_false hneg, decide_eq_false hbig, d3, w2]
        exact ⟨b.length - (i + 1), by omega, i + 1, rfl, by omega, next hb, by trivial, by trivial, by trivial, by trivial, by trivial⟩
      · have d3 : decide ((i : Int) > 0) = true := by rw [decide_eq_true_eq]; omega
        have w3 : IntKind.i64.wrap ((i : Int) - 1) = ((i - 1 : Nat) : Int) := by rw [wrap_i64 (by omega) (by omega)]; omega
        obtain ⟨y, hy⟩ : ∃ y, b[i - 1]? = some y := ⟨_, List.getElem?_eq_getElem (by omega)⟩
        obtain ⟨p', hq1, hq2⟩ := s.at (i := i - 1) (x := .int .i64 y) (by simp [izs, hy]) .i64
        by_cases hle : x ≤ y
        · simp only [c47l0, vms, vmc, AOpd.val, Nat.reduceEqDiff, reduceCtorEq, Nat.reduceAdd, Nat.reduceBEq, f0, f5, f6, f7, d1, hp1, hp2, decide_eq_false hneg, decide_eq_false hbig, d3, w3, hq1, hq2, decide_eq_true hle]
          exact ⟨no ⟨x, hx, .inr (.inr ⟨by omega, y, hy, hle⟩)⟩, trivial⟩
        · have hb : ¬ bad b i := by
            rintro ⟨x', hx', h1 | h1 | ⟨_, y', hy', h1⟩⟩
            · rw [hx] at hx'; cases hx'; omega
            · rw [hx] at hx'; cases hx'; omega
            · rw [hx] at hx'; cases hx'; rw [hy] at hy'; cases hy'; omega
          simp only [c47l0, vms, vmc, AOpd.val, Nat.reduceEqDiff, reduceCtorEq, Nat.reduceAdd, Nat.reduceBEq, f0, f5, f6, f7, d1, hp1, hp2, decide_eq_false hneg, decide_eq_false hbig, d3, w3, hq1, hq2, decide_eq_false hle, w2]
          exact ⟨b.length - (i + 1), by omega, i + 1, rfl, by omega, next hb, by trivial, by trivial, by trivial, by trivial, by trivial⟩
    · have d1 : decide ((i : Int) < (b.length : Int)) = false := by rw [decide_eq_false_iff_not]; omega
      have hi' : i = b.length := by omega
      subst hi'
      have ok := goodTo_all.1 hg
      by_cases h1 : b.length ≥ 1
      · have d2 : decide ((b.length : Int) ≥ 1) = true := by rw [decide_eq_true_eq]; omega
        by_cases h2 : b.length ≤ 16
        · have d3 : decide ((b.length : Int) ≤ 16) = true := by rw [decide_eq_true_eq]; omega
          simp only [c47l0, vms, vmc, AOpd.val, Nat.reduceEqDiff, reduceCtorEq, Nat.reduceAdd, Nat.reduceBEq, f0, f5, f6, f7, d1, ln, d2, d3]
          exact ⟨by rw [decide_eq_true ⟨ok, h1, h2⟩], trivial⟩
        · have d3 : decide ((b.length : Int) ≤ 16) = false := by rw [decide_eq_false_iff_not]; omega
          simp only [c47l0, vms, vmc, AOpd.val, Nat.reduceEqDiff, reduceCtorEq, Nat.reduceAdd, Nat.reduceBEq, f0, f5, f6, f7, d1, ln, d2, d3]
          exact ⟨by rw [decide_eq_false fun hh => h2 hh.2.2], trivial⟩
      · have d2 : decide ((b.length : Int) ≥ 1) = false := by rw [decide_eq_false_iff_not]; omega
        simp only [c47l0, vms, vmc, AOpd.val, Nat.reduceEqDiff, reduceCtorEq, Nat.reduceAdd, Nat.reduceBEq, f0, f5, f6, f7, d1, ln, d2]
        exact ⟨by rw [decide_eq_false fun hh => h1 hh.2.1], trivial⟩
  · simp only [vms, vmc, AOpd.val, Nat.reduceEqDiff, reduceCtorEq, Nat.reduceAdd, Nat.reduceBEq, ln]
    exact ⟨trivial, trivial, trivial, by trivial⟩
theorem chunk_get {ids : List Int} {j t : Nat} (ht : t < 16) : (chunk ids j)[t]? = ids[16 * j + t]? := by
  simp [chunk, List.getElem?_take, List.getElem?_drop, ht]
/-- What a block adds to what was right. -/
theorem good_step {ids : List Int} {j : Nat} (hj : 16 * j < ids.length) {L : Int} (hL : (j = 0 ∧ L = -1) ∨ (0 < j ∧ ids[16 * j - 1]? = some L)) {x : Int} (hx : ids[16 * j]? = some x) (hg : goodTo ids (16 * j)) :
    goodTo ids (min (16 * (j + 1)) ids.length) ↔ OkIds (chunk ids j) ∧ ¬ x ≤ L := by
  have hcl := chunk_len ids j
  constructor
  · intro hh
    refine ⟨fun t hb => ?_, fun hle => ?_⟩
    · obtain ⟨y, hy, hb⟩ := hb
      have ht := (List.getElem?_eq_some_iff.1 hy).1
      rw [hcl] at ht
      have ht1 : t < 16 := Nat.lt_of_lt_of_le ht (Nat.min_le_left _ _)
      have ht2 : t < ids.length - 16 * j := Nat.lt_of_lt_of_le ht (Nat.min_le_right _ _)
      clear ht hcl
      rw [chunk_get ht1] at hy
      refine hh (16 * j + t) (Nat.lt_min.2 ⟨by omega, by omega⟩) ⟨y, hy, ?_⟩
      rcases hb with h1 | h1 | ⟨h1, z, hz, h2⟩
      · exact .inl h1
      · exact .inr (.inl h1)
      · rw [chunk_get (by omega)] at hz
        exact .inr (.inr ⟨by omega, z, by rw [show 16 * j + t - 1 = 16 * j + (t - 1) by omega]; exact hz, h2⟩)
    · refine hh (16 * j) (by omega) ⟨x, hx, ?_⟩
      rcases hL with ⟨_, rfl⟩ | ⟨h0, hl⟩
      · exact .inl (by omega)
      · exact .inr (.inr ⟨by omega, L, hl, hle⟩)
  · rintro ⟨ok, hle⟩ i hi hb
    by_cases h1 : i < 16 * j
    · exact hg i h1 hb
    obtain ⟨y, hy, hb⟩ := hb
    have hc : (chunk ids j)[i - 16 * j]? = some y := by rw [chunk_get (by omega), show 16 * j + (i - 16 * j) = i by omega]; exact hy
    rcases hb with h2 | h2 | ⟨h2, z, hz, h3⟩
    · exact ok _ ⟨y, hc, .inl h2⟩
    · exact ok _ ⟨y, hc, .inr (.inl h2)⟩
    · by_cases h4 : i = 16 * j
      · subst h4
        rw [hx] at hy; cases hy
        rcases hL with ⟨h0, _⟩ | ⟨h0, hl⟩
        · omega
        · rw [hl] at hz; cases hz; exact hle h3
      · refine ok _ ⟨y, hc, .inr (.inr ⟨by omega, z, ?_, h3⟩)⟩
        rw [chunk_get (by omega), show 16 * j + (i - 16 * j - 1) = i - 1 by omega]; exact hz
open Classical in
theorem rightList_ok (k : Base T) {v : AV} {ids : List Int} (s : BlksV h v (chunks ids)) (hids : ids.length < 100000) : Gives T 37 [v] h fun r h' => r = .bool (decide (OkIds ids)) ∧ h' = h := by
  refine gives_func (k.env 37 (by decide)) (k.at (n := 37) rfl) rfl ?_
  have ln := s.len
  rw [chunks_len] at ln
  simp only [a37, c37, vms, vmc, AOpd.val, Nat.reduceEqDiff, reduceCtorEq, Nat.reduceAdd, Nat.reduceBEq, ln]
  refine wpc_loop (fun d f h' => ∃ (j : Nat) (L : Int), d = (ids.length + 15) / 16 - j ∧ j ≤ (ids.length + 15) / 16 ∧ goodTo ids (min (16 * j) ids.length) ∧ (16 * j < ids.length → (j = 0 ∧ L = -1) ∨ (0 < j ∧ ids[16 * j - 1]? = some L)) ∧ h' = h ∧ f.at 3 = .int .i64 L ∧ f.at 6 = v ∧ f.at 7 = .int .i64 (((ids.length + 15) / 16 : Nat) : Int) ∧ f.at 8 = .int .i64 (j : Int)) ?_ ((ids.length + 15) / 16) _ _ ⟨0, -1, by omega, by omega, fun j hj => by omega, fun _ => .inl ⟨rfl, rfl⟩, rfl, ?_⟩
  · rintro d f h' ⟨j, L, rfl, hj, hg, hL, rfl, f3, f6, f7, f8⟩
    by_cases hlt : j < (ids.length + 15) / 16
    · have d1 : decide ((j : Int) < (((ids.length + 15) / 16 : Nat) : Int)) = true := by rw [decide_eq_true_eq]; omega
      have w2 : IntKind.i64.wrap ((j : Int) + 1) = ((j + 1 : Nat) : Int) := by rw [wrap_i64 (by omega) (by omega)]; omega
      have hci : (chunks ids)[j]? = some (chunk ids j) := by simp [chunks, hlt]
      obtain ⟨p, x, hp1, hp2, hx⟩ := s.at hci .i64
      have hcl := chunk_len ids j
      have hj16 : 16 * j < ids.length := by omega
      rw [Nat.min_eq_left (by omega)] at hg
      obtain ⟨z, hz⟩ : ∃ z, ids[16 * j]? = some z := ⟨_, List.getElem?_eq_getElem hj16⟩
      have hst := good_step hj16 (hL hj16) hz hg
      have hzc : (chunk ids j)[0]? = some z := by rw [chunk_get (by omega)]; exact hz
      obtain ⟨p2, hq1, hq2⟩ := hx.1.at (i := 0) (x := .int .i64 z) (by simp [izs, hzc]) .i64
      have hq1' : idxAddrV 1 x (.int .i64 0) = some p2 := hq1
      have lx : lenOfV x = some (chunk ids j).length := by simpa [izs] using hx.1.len
      have no : ¬ (OkIds (chunk ids j) ∧ ¬ z ≤ L) → AV.bool false = .bool (decide (OkIds ids)) := fun hn => by
        rw [decide_eq_false]
        intro ok
        exact hn (hst.1 fun i _ => ok i)
      simp only [c37l0, vms, vmc, AOpd.val, Nat.reduceEqDiff, reduceCtorEq, Nat.reduceAdd, Nat.reduceBEq, f3, f6, f7, f8, d1, hp1, hp2]
      refine Gives.bind ((rightIds_ok k hx.1 (by omega)).mono ?_)
      rintro _ _ ⟨rfl, rfl⟩
      rename_i h1
      by_cases ok : OkIds (chunk ids j)
      · have e1 : decide (OkIds (chunk ids j) ∧ 1 ≤ (chunk ids j).length ∧ (chunk ids j).length ≤ 16) = true := decide_eq_true ⟨ok, by omega, by omega⟩
        by_cases hle : z ≤ L
        · simp only [vms, vmc, AOpd.val, Nat.reduceEqDiff, reduceCtorEq, Nat.reduceAdd, Nat.reduceBEq, f3, f6, f7, f8, e1, hq1', hq2, decide_eq_true hle]
          exact ⟨no fun hh => hh.2 hle, trivial⟩
        · obtain ⟨y, hy⟩ : ∃ y, (chunk ids j)[(chunk ids j).length - 1]? = some y := ⟨_, List.getElem?_eq_getElem (by omega)⟩
          obtain ⟨p3, hr1, hr2⟩ := hx.1.at (i := (chunk ids j).length - 1) (x := .int .i64 y) (by simp [izs, hy]) .i64
          have w3 : IntKind.i64.wrap (((chunk ids j).length : Int) - 1) = (((chunk ids j).length - 1 : Nat) : Int) := by rw [wrap_i64 (by omega) (by omega)]; omega
          simp only [vms, vmc, AOpd.val, Nat.reduceEqDiff, reduceCtorEq, Nat.reduceAdd, Nat.reduceBEq, f3, f6, f7, f8, e1, hq1', hq2, decide_eq_false hle, lx, w3, hr1, hr2, w2]
          refine ⟨(ids.length + 15) / 16 - (j + 1), by omega, j + 1, y, rfl, by omega, hst.2 ⟨ok, hle⟩, fun h16 => .inr ⟨by omega, ?_⟩, by trivial, by trivial, by trivial, by trivial, by trivial⟩
          rw [chunk_get (by omega)] at hy
          rw [← hy]; congr 1; omega
      · have e1 : decide (OkIds (chunk ids j) ∧ 1 ≤ (chunk ids j).length ∧ (chunk ids j).length ≤ 16) = false := decide_eq_false fun hh => ok hh.1
        simp only [vms, vmc, AOpd.val, Nat.reduceEqDiff, reduceCtorEq, Nat.reduceAdd, Nat.reduceBEq, f3, f6, f7, f8, e1]
        exact ⟨no fun hh => ok hh.1, trivial⟩
    · have d1 : decide ((j : Int) < (((ids.length + 15) / 16 : Nat) : Int)) = false := by rw [decide_eq_false_iff_not]; omega
      rw [Nat.min_eq_right (by omega)] at hg
      simp only [c37l0, vms, vmc, AOpd.val, Nat.reduceEqDiff, reduceCtorEq, Nat.reduceAdd, Nat.reduceBEq, f3, f6, f7, f8, d1]
      exact ⟨by rw [decide_eq_true (goodTo_all.1 hg)], trivial⟩
  · simp only [vms, vmc, AOpd.val, Nat.reduceEqDiff, reduceCtorEq, Nat.reduceAdd, Nat.reduceBEq, ln]
    exact ⟨trivial, trivial, trivial, by trivial⟩
open Classical in
theorem refOf_ok (k : Base T) (hl : Low h) {v : AV} {ids : List Int} (s : Sees h v (izs ids)) (hc : capOk v) (hids : ids.length < 100000) :
    Gives T 23 [v] h fun r h' => Quiet h h' ∧ Low h' ∧ ((OkIds ids ∧ ∃ rv, r = .tuple [rv, .int .i64 0] ∧ Apart h.next h' rv (chunks ids)) ∨ (¬ OkIds ids ∧ r = .tuple [.nilSlice, .int .i64 8])) := by
  refine gives_func (k.env 23 (by decide)) (k.at (n := 23) rfl) rfl ?_
  simp only [a23, c23, vms, vmc, AOpd.val, Nat.reduceEqDiff, reduceCtorEq, Nat.reduceAdd, Nat.reduceBEq]
  refine wpc_loop (fun d f h' => ∃ j r, d = (ids.length + 15) / 16 - j ∧ j ≤ (ids.length + 15) / 16 ∧ Quiet h h' ∧ Low h' ∧ Apart h.next h' r ((chunks ids).take j) ∧ f.at 0 = v ∧ f.at 4 = r ∧ f.at 5 = .int .i64 ((16 * j : Nat) : Int)) ?_ ((ids.length + 15) / 16) _ _ ⟨0, .nilSlice, by omega, by omega, Quiet.refl _, hl, apart_nil, ?_⟩
  · rintro _ f h1 ⟨j, r, rfl, hj, q, lo, ap, f0, f4, f5⟩
    have s1 := sees_keep s hl q
    have ln : lenOfV v = some ids.length := by simpa [izs] using s1.len
    by_cases hlt : 16 * j < ids.length
    · have d1 : decide (((16 * j : Nat) : Int) < (ids.length : Int)) = true := by rw [decide_eq_true_eq]; omega
      have w1 : IntKind.i64.wrap (((16 * j : Nat) : Int) + 16) = ((16 * (j + 1) : Nat) : Int) := by rw [wrap_i64 (by omega) (by omega)]; omega
      have mn : mnxAll false (.int .i64 ((16 * (j + 1) : Nat) : Int)) [.int .i64 (ids.length : Int)] = some (.int .i64 ((min (16 * (j + 1)) ids.length : Nat) : Int)) := by
        simp only [mnxAll, mnxV, if_true, Option.bind_some, Bool.false_eq_true, if_false]
        congr 2
        split <;> omega
      obtain ⟨x, sx1, sx2⟩ := sees_mid s1 hc (a := 16 * j) (b := min (16 * (j + 1)) ids.length) (by omega) (by simp [izs]; omega)
      have ex : ((izs ids).drop (16 * j)).take (min (16 * (j + 1)) ids.length - 16 * j) = izs (chunk ids j) := by
        simp only [izs, chunk, List.map_take, List.map_drop]
        apply List.ext_getElem?
        intro i
        simp only [List.getElem?_take, List.getElem?_drop, List.getElem?_map]
        by_cases hi : i < min (16 * (j + 1)) ids.length - 16 * j
        · rw [if_pos hi, if_pos (by omega)]
        · rw [if_neg hi]
          by_cases hi2 : i < 16
          · rw [if_pos hi2, List.getElem?_eq_none (by omega)]; rfl
          · rw [if_neg hi2]
      rw [ex] at sx2
      have hcl := chunk_len ids j
      obtain ⟨y, h2', ha, ry, fy, q2, lo2⟩ := clone_app lo sx2 (by omega)
      have cy := sees_cell ry.sees
      have bf0 : fillV [] [] = some [] := rfl
      have bf : fillV [AV.nilSlice] [(0, 1, y)] = some [y] := fill1 (sees_def ry.sees) cy.1
      obtain ⟨r', h3, hr, ap3, m3, lo3⟩ := apart_app lo q2 lo2 ap ry fy q.1 (by rw [List.length_take, chunks_len]; omega)
      have ob : ∀ o ∈ objs r, h.next ≤ o := by obtain ⟨_, _, h9, _⟩ := ap; exact h9
      have sx0 : slcV 1 v (some (.int .i64 ((16 * j : Nat) : Int))) (some (.int .i64 ((min (16 * (j + 1)) ids.length : Nat) : Int))) none = some x := sx1
      simp only [c23l0, vms, vmc, AOpd.val, Nat.reduceEqDiff, reduceCtorEq, Nat.reduceAdd, Nat.reduceBEq, f0, f4, f5, ln, d1, w1, step_mnx, mn, bf0, sx1, ha, bf, hr]
      exact ⟨(ids.length + 15) / 16 - (j + 1), by omega, j + 1, r', rfl, by omega, mods_quiet (q.trans q2) m3 ob, lo3, by rw [chunks_take (by omega)]; exact ap3, by trivial, by trivial, by trivial⟩
    · have d1 : decide (((16 * j : Nat) : Int) < (ids.length : Int)) = false := by rw [decide_eq_false_iff_not]; omega
      have hj' : (chunks ids).take j = chunks ids := List.take_of_length_le (by rw [chunks_len]; omega)
      rw [hj'] at ap
      simp only [c23l0, vms, vmc, AOpd.val, Nat.reduceEqDiff, reduceCtorEq, Nat.reduceAdd, Nat.reduceBEq, f0, f4, f5, ln, d1]
      refine Gives.bind ((rightList_ok k ap.fresh.blks hids).mono ?_)
      rintro _ _ ⟨rfl, rfl⟩
      by_cases ok : OkIds ids
      · simp only [vms, vmc, AOpd.val, Nat.reduceEqDiff, reduceCtorEq, Nat.reduceAdd, Nat.reduceBEq, f0, f4, f5, decide_eq_true ok]
        exact ⟨q, lo, .inl ⟨ok, r, rfl, ap⟩⟩
      · simp only [vms, vmc, AOpd.val, Nat.reduceEqDiff, reduceCtorEq, Nat.reduceAdd, Nat.reduceBEq, f0, f4, f5, decide_eq_false ok]
        exact ⟨q, lo, .inr ⟨ok, by trivial⟩⟩
  · simp only [vms, vmc, AOpd.val, Nat.reduceEqDiff, reduceCtorEq, Nat.reduceAdd, Nat.reduceBEq]
    simp
end Go.Proofs.Yteokopjiaiflnaa

/- Remove. -/
import Derived.Test.YteokopjiaiflnaaP20H
namespace Go.Proofs.Yteokopjiaiflnaa
open Go.Vm
set_option linter.unusedSimpArgs false
set_option linter.unusedVariables false
set_option maxRecDepth 100000
variable {T : Vm.Prog} {h : AH}
def cutB (bs : List (List Int)) (id : Int) : List Int := (blkAt bs id).take (pos (blkAt bs id) id) ++ (blkAt bs id).drop (pos (blkAt bs id) id + 1)
def nxtB (bs : List (List Int)) (k : Nat) : List Int := bs.getD k []
def removeB (bs : List (List Int)) (id : Int) : List (List Int) × Bool :=
  if id ∉ blkAt bs id then (bs, false)
  else if (cutB bs id).length = 0 then (bs.take (kOf bs id) ++ [] ++ bs.drop (kOf bs id + 1), true)
  else if kOf bs id + 1 < bs.length ∧ (cutB bs id).length + (nxtB bs (kOf bs id + 1)).length ≤ 16 then (bs.take (kOf bs id) ++ [cutB bs id ++ nxtB bs (kOf bs id + 1)] ++ bs.drop (kOf bs id + 2), true)
  else if kOf bs id + 1 = bs.length ∧ 0 < kOf bs id ∧ (cutB bs id).length + (nxtB bs (kOf bs id - 1)).length ≤ 16 then (bs.take (kOf bs id - 1) ++ [nxtB bs (kOf bs id - 1) ++ cutB bs id] ++ bs.drop (kOf bs id + 1), true)
  else (bs.take (kOf bs id) ++ [cutB bs id] ++ bs.drop (kOf bs id + 1), true)
theorem nxtB_some {bs : List (List Int)} {k : Nat} (hk : k < bs.length) : bs[k]? = some (nxtB bs k) := by
  unfold nxtB; rw [List.getD_eq_getElem?_getD, List.getElem?_eq_getElem hk]; rfl
theorem load_keep {h' : AH} {a v : AV} {n : Nat} {g : Bool} (hld : loadV h g n a = some v) (hl : Low h) (q : Quiet h h') : loadV h' g n a = some v := by
  cases a with
  | ptr o off =>
    cases hg : h.get o with
    | none =>
      simp only [loadV, AH.load, hg] at hld
      cases g <;> simp at hld
    | some x =>
      have hg' := q.get hg (hl _ _ hg)
      simp only [loadV, AH.load, hg, hg'] at hld ⊢
      exact hld
  | _ => simp [loadV] at hld
/-- Two rows, one behind the other. -/
theorem cat2_ok (k : Base T) (hl : Low h) {q : Nat} {x y : AV} {b c : List Int} (hq : h.get q = some (.cells [x, y] true)) (sx : Sees h x (izs b)) (sy : Sees h y (izs c)) (hb : b.length < 100000) (hc : c.length < 100000) :
    Gives T 36 [.slice q 0 1 2 2 true] h fun r h' => Row1 h' r (izs (b ++ c)) ∧ (∀ o ∈ objs r, h.next ≤ o) ∧ Quiet h h' ∧ Low h' := by
  have e : ([izs b, izs c] : List (List AV)).flatten = izs (b ++ c) := by simp [izs]
  refine (concatN_ok (xss := [izs b, izs c]) (k.env 36 (by decide)) (k.at (n := 36) rfl) (k.env 46 (by decide)) (k.at (n := 46) rfl) (by decide) hl (sees_lit hq rfl) rfl ?_ ?_ ?_ (by simp)).mono ?_
  · intro i z xs hz hxs
    match i with
    | 0 => simp at hz hxs; subst hz hxs; exact sx
    | 1 => simp at hz hxs; subst hz hxs; exact sy
    | i + 2 => simp at hz
  · intro xs hxs
    simp at hxs
    rcases hxs with rfl | rfl <;> exact izs_flat'
  · rw [e]; simp [izs]; omega
  · rintro r h' ⟨r1, fr, q, lo⟩
    rw [e] at r1
    exact ⟨r1, fr, q, lo⟩
set_option maxHeartbeats 2000000 in
theorem remove_ok (k : Base T) (hl : Low h) {G : Nat → Prop} {v : AV} {bs : List (List Int)} {id : Int} (s : ListG G h v bs) (g : Good bs) :
    Gives T 13 [v, .int .i64 id] h fun r h' => ∃ lv, r = .tuple [lv, .bool (removeB bs id).2] ∧ ListG (fun o => G o ∨ h.next ≤ o) h' lv (removeB bs id).1 ∧ Quiet h h' ∧ Low h' := by
  refine gives_func (k.env 13 (by decide)) (k.at (n := 13) rfl) rfl ?_
  have sG0 := s.aft hl
  obtain ⟨sl, rfl, sbG⟩ := s
  have sb := sbG.v
  have q1 : Quiet h ((h.new (.cells [sl] true)).new (.cells [.nilSlice] true)) := ((Quiet.refl h).new _).new _
  have lo1 : Low ((h.new (.cells [sl] true)).new (.cells [.nilSlice] true)) := (hl.new _).new _
  have hg : ((h.new (.cells [sl] true)).new (.cells [.nilSlice] true)).get h.next = some (.cells [sl] true) := by
    rw [AH.get_new, if_neg (by rw [next_new]; omega), get_new_same]
  have hz : ((h.new (.cells [sl] true)).new (.cells [.nilSlice] true)).get (h.next + 1) = some (.cells [.nilSlice] true) := get_new_same
  have nx : ((h.new (.cells [sl] true)).new (.cells [.nilSlice] true)).next = h.next + 2 := rfl
  have bsl := sb.cell.2.2
  have sG : ListG (Aft G h.next) h (.agg [sl]) bs := sG0
  simp only [a13, c13, vms, vmc, AOpd.val, Nat.reduceEqDiff, reduceCtorEq, Nat.reduceAdd, Nat.reduceBEq, box_list, next_new]
  generalize ((h.new (.cells [sl] true)).new (.cells [.nilSlice] true)) = h1 at *
  simp only [vms, vmc, AOpd.val, Nat.reduceEqDiff, reduceCtorEq, Nat.reduceAdd, Nat.reduceBEq, load_boxA hg]
  refine Gives.bind ((place_ok k lo1 ⟨sl, rfl, sb.keep hl q1⟩ g).mono ?_)
  rintro _ h2 ⟨rfl, q2, lo2⟩
  have q12 := q1.trans q2
  have hg2 := q2.get hg (by omega)
  have hz2 := q2.get hz (by omega)
  have nx2 : h.next + 2 ≤ h2.next := by have := q2.1; omega
  have sG2 := sG.keep hl q12
  have hlen := g.len
  by_cases hin : id ∈ blkAt bs id
  case neg =>
    have ea : removeB bs id = (bs, false) := if_pos hin
    obtain ⟨gR, st, ld, sR, qR, loR⟩ := fin_cell (h := h) aft_ne (by omega) q12 lo2 hz2 sG2
    simp only [vms, vmc, AOpd.val, Nat.reduceEqDiff, reduceCtorEq, Nat.reduceAdd, Nat.reduceBEq, placeB, decide_eq_false hin, load_boxA hg2, st, res_cell, ld]
    exact ⟨_, by rw [ea], by rw [ea]; exact sR.mono aft_out, qR, loR⟩
  have hne : bs ≠ [] := by
    rintro rfl
    simp [blkAt] at hin
  have hblk := blkAt_some hne id
  have hk := kOf_lt hne id
  obtain ⟨p, x, hp1, hp2, hx⟩ := (sb.keep hl q12).at hblk .i64
  obtain ⟨_, hr, hs⟩ := g.block hblk
  have hpos : pos (blkAt bs id) id < (blkAt bs id).length := by
    obtain ⟨j, hj⟩ := List.getElem?_of_mem hin
    have h1 := pos_iff hr (t := id) hj
    have h2 := (List.getElem?_eq_some_iff.1 hj).1
    have : ¬ j < pos (blkAt bs id) id := fun h => by have := h1.1 h; omega
    omega
  have w0 : IntKind.i64.wrap (((pos (blkAt bs id) id : Nat) : Int) + 1) = ((pos (blkAt bs id) id + 1 : Nat) : Int) := by rw [wrap_i64 (by omega) (by omega)]; omega
  simp only [vms, vmc, AOpd.val, Nat.reduceEqDiff, reduceCtorEq, Nat.reduceAdd, Nat.reduceBEq, placeB, decide_eq_true hin, fa0, load_box hg2, hp1, hp2]
  refine Gives.bind ((clone_ok k lo2 hx.1 (by simp [izs]; omega)).mono ?_)
  rintro y h3 ⟨ry, fry, q3, lo3⟩
  simp only [vms, vmc, AOpd.val, Nat.reduceEqDiff, reduceCtorEq, Nat.reduceAdd, Nat.reduceBEq, w0]
  refine Gives.bind ((delete_ok k lo3 ry hpos hs).mono ?_)
  rintro r h5 ⟨rr, ro, ronly, lo5⟩
  have rr : Row1 h5 r (izs (cutB bs id)) := rr
  have el : (cutB bs id).length + 1 = (blkAt bs id).length := by simp [cutB]; omega
  have q15 : Quiet h1 h5 := by
    refine Mods.trans (q2.trans q3) (ronly.mods (G := fun o => o ∈ objs y) fun o ho => .inl ho) fun o ho => .inr ?_
    have := fry o ho; have := q2.1; omega
  have q05 := q1.trans q15
  have hg5 := q15.get hg (by omega)
  have hz5 := q15.get hz (by omega)
  have nx5 : h.next + 2 ≤ h5.next := by have := q15.1; omega
  have rG : ∀ o ∈ objs r, Aft G h.next o := by
    intro o ho
    exact aft_new (by have := fry o (ro o ho); omega)
  have lnr : lenOfV r = some (cutB bs id).length := by simpa [izs] using RowS.len rr
  have brr := sees_beq rr.sees
  have crr := sees_cell rr.sees
  have ln2 : lenOfV sl = some bs.length := sb.len
  have w1 : IntKind.i64.wrap (((kOf bs id : Nat) : Int) + 1) = ((kOf bs id + 1 : Nat) : Int) := by rw [wrap_i64 (by omega) (by omega)]; omega
  have w2 : IntKind.i64.wrap ((bs.length : Int) - 1) = ((bs.length - 1 : Nat) : Int) := by rw [wrap_i64 (by omega) (by omega)]; omega
  have hno : ¬ (id ∉ blkAt bs id) := fun hh => hh hin
  have sG5 := sG.keep hl q05
  by_cases h0 : (cutB bs id).length = 0
  · have ea : removeB bs id = (bs.take (kOf bs id) ++ [] ++ bs.drop (kOf bs id + 1), true) := by unfold removeB; rw [if_neg hno, if_pos h0]
    have e0 : (((cutB bs id).length : Int) == 0) = true := by simp [h0]
    have sc : BlksG (Aft G h.next) h5 .nilSlice [] := ⟨[], .inl ⟨rfl, rfl⟩, trivial, fun o ho => by simp [objs] at ho, ⟨rfl, fun i x b hx => by simp at hx⟩, fun x hx => by simp at hx⟩
    simp only [vms, vmc, AOpd.val, Nat.reduceEqDiff, reduceCtorEq, Nat.reduceAdd, Nat.reduceBEq, fa0, load_box hg5, ln2, w2, lnr, e0, load_boxA hg5, w1]
    refine Gives.bind ((with_ok k lo5 sG5 sc (by omega) (by omega) (by simp; omega)).mono ?_)
    rintro lv h7 ⟨sW, q7, lo7⟩
    obtain ⟨gN, st, ld, sF, qF, loF⟩ := fin_cell (h := h) aft_ne (by omega) (q05.trans q7) lo7 ((q15.trans q7).get hz (by omega)) (sW.mono fun o ho => ho.elim (fun h8 => h8) fun h8 => aft_new (by omega))
    simp only [vms, vmc, AOpd.val, Nat.reduceEqDiff, reduceCtorEq, Nat.reduceAdd, Nat.reduceBEq, st, res_cell, ld]
    exact ⟨_, by rw [ea], by rw [ea]; exact sF.mono aft_out, qF, loF⟩
  have e0 : (((cutB bs id).length : Int) == 0) = false := by simp; intro hh; exact h0 (by rw [hh]; rfl)
  -- the block alone
  have b2r : fillV [AV.nilSlice] [(0, 1, r)] = some [r] := fill1 (sees_def rr.sees) crr.1
  have tail : Gives T 34 [.agg [sl], .int .i64 (kOf bs id : Int), .int .i64 ((kOf bs id + 1 : Nat) : Int), .slice h5.next 0 1 1 1 true] (h5.new (.cells [r] true)) fun lv h7 =>
      ∃ gN, storeV h7 1 (.ptr (h.next + 1) 0) lv = some gN ∧ loadV gN true 1 (.ptr (h.next + 1) 0) = some lv ∧ ListG (Aft G h.next) gN lv (bs.take (kOf bs id) ++ [cutB bs id] ++ bs.drop (kOf bs id + 1)) ∧ Quiet h gN ∧ Low gN := by
    have q6 : Quiet h5 (h5.new (.cells [r] true)) := (Quiet.refl _).new _
    have lo6 := lo5.new (.cells [r] true)
    have sc : BlksG (Aft G h.next) (h5.new (.cells [r] true)) (.slice h5.next 0 1 1 1 true) [cutB bs id] :=
      blks_lit get_new_same rfl (aft_new (by omega)) (eltsG1 ⟨sees_keep rr.sees lo5 q6, row_cap rr⟩ rG)
    refine (with_ok k lo6 (sG.keep hl (q05.trans q6)) sc (by omega) (by omega) (by simp; omega)).mono ?_
    rintro lv h7 ⟨sW, q7, lo7⟩
    have q17 := (q15.trans q6).trans q7
    exact fin_cell (h := h) aft_ne (by omega) (q1.trans q17) lo7 (q17.get hz (by omega)) (sW.mono fun o ho => ho.elim (fun h8 => h8) fun h8 => aft_new (by rw [next_new] at h8; omega))
  by_cases hlast : kOf bs id + 1 < bs.length
  · have d1 : decide (((kOf bs id : Nat) : Int) < ((bs.length - 1 : Nat) : Int)) = true := by rw [decide_eq_true_eq]; omega
    have hn := nxtB_some hlast
    obtain ⟨p', x', hp1', hp2', hx'⟩ := (sb.keep hl q05).at hn .i64
    have lx' : lenOfV x' = some (nxtB bs (kOf bs id + 1)).length := by simpa [izs] using hx'.1.len
    obtain ⟨_, _, hs'⟩ := g.block hn
    have w3 : IntKind.i64.wrap (((cutB bs id).length : Int) + ((nxtB bs (kOf bs id + 1)).length : Int)) = (((cutB bs id).length + (nxtB bs (kOf bs id + 1)).length : Nat) : Int) := by rw [wrap_i64 (by omega) (by omega)]; omega
    by_cases h16 : (cutB bs id).length + (nxtB bs (kOf bs id + 1)).length ≤ 16
    · have ea : removeB bs id = (bs.take (kOf bs id) ++ [cutB bs id ++ nxtB bs (kOf bs id + 1)] ++ bs.drop (kOf bs id + 2), true) := by unfold removeB; rw [if_neg hno, if_neg h0, if_pos ⟨hlast, h16⟩]
      have d2 : decide ((((cutB bs id).length + (nxtB bs (kOf bs id + 1)).length : Nat) : Int) ≤ 16) = true := by rw [decide_eq_true_eq]; omega
      have w4 : IntKind.i64.wrap (((kOf bs id : Nat) : Int) + 2) = ((kOf bs id + 2 : Nat) : Int) := by rw [wrap_i64 (by omega) (by omega)]; omega
      have c' := sees_cell hx'.1
      have b2 : fillV [AV.nilSlice, .nilSlice] [(0, 1, r), (1, 1, x')] = some [r, x'] := fill2 (sees_def rr.sees) (sees_def hx'.1) crr.1 c'.1
      have q6 : Quiet h5 (h5.new (.cells [r, x'] true)) := (Quiet.refl _).new _
      have lo6 := lo5.new (.cells [r, x'] true)
      have hg6 := (q15.trans q6).get hg (by omega)
      have ld6 := load_keep hp2' lo5 q6
      have bx := sees_beq hx'.1
      simp only [vms, vmc, AOpd.val, Nat.reduceEqDiff, reduceCtorEq, Nat.reduceAdd, Nat.reduceBEq, fa0, load_box hg5, ln2, w2, lnr, e0, d1, w1, hp1', hp2', lx', w3, d2, load_boxA hg5, w4, b2]
      rw [items_look (look_load (v := .agg [sl]) (by show loadV _ _ _ (Fr.at _ _) = _; simp only [vms, vmc, AOpd.val, Nat.reduceEqDiff, reduceCtorEq, Nat.reduceAdd, Nat.reduceBEq]; exact load_boxA hg6) (by simp only [vms, vmc, AOpd.val, Nat.reduceEqDiff, reduceCtorEq, Nat.reduceAdd, Nat.reduceBEq]) (by simp [AV.beq, AV.beqs, bsl])),
        items_look (look_load (v := sl) (by show loadV _ _ _ (Fr.at _ _) = _; simp only [vms, vmc, AOpd.val, Nat.reduceEqDiff, reduceCtorEq, Nat.reduceAdd, Nat.reduceBEq]; exact load_box hg6) (by simp only [vms, vmc, AOpd.val, Nat.reduceEqDiff, reduceCtorEq, Nat.reduceAdd, Nat.reduceBEq]) bsl),
        items_look (look_load (v := x') (by show loadV _ _ _ (Fr.at _ _) = _; simp only [vms, vmc, AOpd.val, Nat.reduceEqDiff, reduceCtorEq, Nat.reduceAdd, Nat.reduceBEq]; exact ld6) (by simp only [vms, vmc, AOpd.val, Nat.reduceEqDiff, reduceCtorEq, Nat.reduceAdd, Nat.reduceBEq]) bx),
        items_look (look_build (q := h5.next) (l := [r, x']) (by simp only [vms, vmc, AOpd.val, Nat.reduceEqDiff, reduceCtorEq, Nat.reduceAdd, Nat.reduceBEq]; exact b2) (by simp only [vms, vmc, AOpd.val, Nat.reduceEqDiff, reduceCtorEq, Nat.reduceAdd, Nat.reduceBEq]; rfl) get_new_same (beqs2 brr bx))]
      simp only [vms, vmc, AOpd.val, Nat.reduceEqDiff, reduceCtorEq, Nat.reduceAdd, Nat.reduceBEq]
      refine Gives.bind ((cat2_ok k lo6 get_new_same (sees_keep rr.sees lo5 q6) (sees_keep hx'.1 lo5 q6) (by omega) hs').mono ?_)
      rintro z h7 ⟨rz, fz, q7, lo7⟩
      have cz := sees_cell rz.sees
      have b3 : fillV [AV.nilSlice] [(0, 1, z)] = some [z] := fill1 (sees_def rz.sees) cz.1
      have q8 : Quiet h7 (h7.new (.cells [z] true)) := (Quiet.refl _).new _
      have lo8 := lo7.new (.cells [z] true)
      have q18 := ((q15.trans q6).trans q7).trans q8
      have hg8 := q18.get hg (by omega)
      simp only [vms, vmc, AOpd.val, Nat.reduceEqDiff, reduceCtorEq, Nat.reduceAdd, Nat.reduceBEq, b3]
      rw [items_look (look_load (v := .agg [sl]) (by show loadV _ _ _ (Fr.at _ _) = _; simp only [vms, vmc, AOpd.val, Nat.reduceEqDiff, reduceCtorEq, Nat.reduceAdd, Nat.reduceBEq]; exact load_boxA hg8) (by simp only [vms, vmc, AOpd.val, Nat.reduceEqDiff, reduceCtorEq, Nat.reduceAdd, Nat.reduceBEq]) (by simp [AV.beq, AV.beqs, bsl])),
        items_look (look_build (q := h7.next) (l := [z]) (by simp only [vms, vmc, AOpd.val, Nat.reduceEqDiff, reduceCtorEq, Nat.reduceAdd, Nat.reduceBEq]; exact b3) (by simp only [vms, vmc, AOpd.val, Nat.reduceEqDiff, reduceCtorEq, Nat.reduceAdd, Nat.reduceBEq]; rfl) get_new_same (beqs1 (sees_beq rz.sees)))]
      simp only [vms, vmc, AOpd.val, Nat.reduceEqDiff, reduceCtorEq, Nat.reduceAdd, Nat.reduceBEq]
      have n7 : h5.next ≤ h7.next := (q6.trans q7).1
      have fzz : ∀ o ∈ objs z, Aft G h.next o := fun o ho => aft_new (by have := fz o ho; rw [next_new] at this; omega)
      have sc : BlksG (Aft G h.next) (h7.new (.cells [z] true)) (.slice h7.next 0 1 1 1 true) [cutB bs id ++ nxtB bs (kOf bs id + 1)] :=
        blks_lit get_new_same rfl (aft_new (by omega)) (eltsG1 ⟨sees_keep rz.sees lo7 q8, row_cap rz⟩ fzz)
      refine Gives.bind ((with_ok k lo8 (sG.keep hl (q1.trans q18)) sc (by omega) (by omega) (by simp; omega)).mono ?_)
      rintro lv h9 ⟨sW, q9, lo9⟩
      have q19 := q18.trans q9
      obtain ⟨gN, st, ld, sF, qF, loF⟩ := fin_cell (h := h) aft_ne (by omega) (q1.trans q19) lo9 (q19.get hz (by omega)) (sW.mono fun o ho => ho.elim (fun h8 => h8) fun h8 => aft_new (by rw [next_new] at h8; omega))
      simp only [vms, vmc, AOpd.val, Nat.reduceEqDiff, reduceCtorEq, Nat.reduceAdd, Nat.reduceBEq, st, res_cell, ld]
      exact ⟨_, by rw [ea], by rw [ea]; exact sF.mono aft_out, qF, loF⟩
    · have ea : removeB bs id = (bs.take (kOf bs id) ++ [cutB bs id] ++ bs.drop (kOf bs id + 1), true) := by unfold removeB; rw [if_neg hno, if_neg h0, if_neg (fun hh => h16 hh.2), if_neg (by omega)]
      have d2 : decide ((((cutB bs id).length + (nxtB bs (kOf bs id + 1)).length : Nat) : Int) ≤ 16) = false := by rw [decide_eq_false_iff_not]; omega
      have d3 : (((kOf bs id : Nat) : Int) == ((bs.length - 1 : Nat) : Int)) = false := by simp; omega
      simp only [vms, vmc, AOpd.val, Nat.reduceEqDiff, reduceCtorEq, Nat.reduceAdd, Nat.reduceBEq, fa0, load_box hg5, ln2, w2, lnr, e0, d1, w1, hp1', hp2', lx', w3, d2, d3, load_boxA hg5, b2r]
      refine Gives.bind (tail.mono ?_)
      rintro lv h7 ⟨gN, st, ld, sF, qF, loF⟩
      simp only [vms, vmc, AOpd.val, Nat.reduceEqDiff, reduceCtorEq, Nat.reduceAdd, Nat.reduceBEq, st, res_cell, ld]
      exact ⟨_, by rw [ea], by rw [ea]; exact sF.mono aft_out, qF, loF⟩
  · have d1 : decide (((kOf bs id : Nat) : Int) < ((bs.length - 1 : Nat) : Int)) = false := by rw [decide_eq_false_iff_not]; omega
    have d3 : (((kOf bs id : Nat) : Int) == ((bs.length - 1 : Nat) : Int)) = true := by simp; omega
    by_cases hk0 : 0 < kOf bs id
    · have d4 : decide (((kOf bs id : Nat) : Int) > 0) = true := by rw [decide_eq_true_eq]; omega
      have hn := nxtB_some (bs := bs) (k := kOf bs id - 1) (by omega)
      obtain ⟨p', x', hp1', hp2', hx'⟩ := (sb.keep hl q05).at hn .i64
      have lx' : lenOfV x' = some (nxtB bs (kOf bs id - 1)).length := by simpa [izs] using hx'.1.len
      obtain ⟨_, _, hs'⟩ := g.block hn
      have w5 : IntKind.i64.wrap (((kOf bs id : Nat) : Int) - 1) = ((kOf bs id - 1 : Nat) : Int) := by rw [wrap_i64 (by omega) (by omega)]; omega
      have w3 : IntKind.i64.wrap (((cutB bs id).length : Int) + ((nxtB bs (kOf bs id - 1)).length : Int)) = (((cutB bs id).length + (nxtB bs (kOf bs id - 1)).length : Nat) : Int) := by rw [wrap_i64 (by omega) (by omega)]; omega
      by_cases h16 : (cutB bs id).length + (nxtB bs (kOf bs id - 1)).length ≤ 16
      · have ea : removeB bs id = (bs.take (kOf bs id - 1) ++ [nxtB bs (kOf bs id - 1) ++ cutB bs id] ++ bs.drop (kOf bs id + 1), true) := by unfold removeB; rw [if_neg hno, if_neg h0, if_neg (fun hh => hlast hh.1), if_pos ⟨by omega, hk0, h16⟩]
        have d2 : decide ((((cutB bs id).length + (nxtB bs (kOf bs id - 1)).length : Nat) : Int) ≤ 16) = true := by rw [decide_eq_true_eq]; omega
        have c' := sees_cell hx'.1
        have b2 : fillV [AV.nilSlice, .nilSlice] [(0, 1, x'), (1, 1, r)] = some [x', r] := fill2 (sees_def hx'.1) (sees_def rr.sees) c'.1 crr.1
        have q6 : Quiet h5 (h5.new (.cells [x', r] true)) := (Quiet.refl _).new _
        have lo6 := lo5.new (.cells [x', r] true)
        have hg6 := (q15.trans q6).get hg (by omega)
        have ld6 := load_keep hp2' lo5 q6
        have bx := sees_beq hx'.1
        simp only [vms, vmc, AOpd.val, Nat.reduceEqDiff, reduceCtorEq, Nat.reduceAdd, Nat.reduceBEq, fa0, load_box hg5, ln2, w2, lnr, e0, d1, d3, d4, w1, w5, hp1', hp2', lx', w3, d2, load_boxA hg5, b2]
        rw [items_look (look_load (v := .agg [sl]) (by show loadV _ _ _ (Fr.at _ _) = _; simp only [vms, vmc, AOpd.val, Nat.reduceEqDiff, reduceCtorEq, Nat.reduceAdd, Nat.reduceBEq]; exact load_boxA hg6) (by simp only [vms, vmc, AOpd.val, Nat.reduceEqDiff, reduceCtorEq, Nat.reduceAdd, Nat.reduceBEq]) (by simp [AV.beq, AV.beqs, bsl])),
          items_look (look_load (v := sl) (by show loadV _ _ _ (Fr.at _ _) = _; simp only [vms, vmc, AOpd.val, Nat.reduceEqDiff, reduceCtorEq, Nat.reduceAdd, Nat.reduceBEq]; exact load_box hg6) (by simp only [vms, vmc, AOpd.val, Nat.reduceEqDiff, reduceCtorEq, Nat.reduceAdd, Nat.reduceBEq]) bsl),
          items_look (look_load (v := x') (by show loadV _ _ _ (Fr.at _ _) = _; simp only [vms, vmc, AOpd.val, Nat.reduceEqDiff, reduceCtorEq, Nat.reduceAdd, Nat.reduceBEq]; exact ld6) (by simp only [vms, vmc, AOpd.val, Nat.reduceEqDiff, reduceCtorEq, Nat.reduceAdd, Nat.reduceBEq]) bx),
          items_look (look_build (q := h5.next) (l := [x', r]) (by simp only [vms, vmc, AOpd.val, Nat.reduceEqDiff, reduceCtorEq, Nat.reduceAdd, Nat.reduceBEq]; exact b2) (by simp only [vms, vmc, AOpd.val, Nat.reduceEqDiff, reduceCtorEq, Nat.reduceAdd, Nat.reduceBEq]; rfl) get_new_same (beqs2 bx brr))]
        simp only [vms, vmc, AOpd.val, Nat.reduceEqDiff, reduceCtorEq, Nat.reduceAdd, Nat.reduceBEq]
        refine Gives.bind ((cat2_ok k lo6 get_new_same (sees_keep hx'.1 lo5 q6) (sees_keep rr.sees lo5 q6) hs' (by omega)).mono ?_)
        rintro z h7 ⟨rz, fz, q7, lo7⟩
        have cz := sees_cell rz.sees
        have b3 : fillV [AV.nilSlice] [(0, 1, z)] = some [z] := fill1 (sees_def rz.sees) cz.1
        have q8 : Quiet h7 (h7.new (.cells [z] true)) := (Quiet.refl _).new _
        have lo8 := lo7.new (.cells [z] true)
        have q18 := ((q15.trans q6).trans q7).trans q8
        have hg8 := q18.get hg (by omega)
        simp only [vms, vmc, AOpd.val, Nat.reduceEqDiff, reduceCtorEq, Nat.reduceAdd, Nat.reduceBEq, b3]
        rw [items_look (look_load (v := .agg [sl]) (by show loadV _ _ _ (Fr.at _ _) = _; simp only [vms, vmc, AOpd.val, Nat.reduceEqDiff, reduceCtorEq, Nat.reduceAdd, Nat.reduceBEq]; exact load_boxA hg8) (by simp only [vms, vmc, AOpd.val, Nat.reduceEqDiff, reduceCtorEq, Nat.reduceAdd, Nat.reduceBEq]) (by simp [AV.beq, AV.beqs, bsl])),
          items_look (look_build (q := h7.next) (l := [z]) (by simp only [vms, vmc, AOpd.val, Nat.reduceEqDiff, reduceCtorEq, Nat.reduceAdd, Nat.reduceBEq]; exact b3) (by simp only [vms, vmc, AOpd.val, Nat.reduceEqDiff, reduceCtorEq, Nat.reduceAdd, Nat.reduceBEq]; rfl) get_new_same (beqs1 (sees_beq rz.sees)))]
        simp only [vms, vmc, AOpd.val, Nat.reduceEqDiff, reduceCtorEq, Nat.reduceAdd, Nat.reduceBEq]
        have n7 : h5.next ≤ h7.next := (q6.trans q7).1
        have fzz : ∀ o ∈ objs z, Aft G h.next o := fun o ho => aft_new (by have := fz o ho; rw [next_new] at this; omega)
        have sc : BlksG (Aft G h.next) (h7.new (.cells [z] true)) (.slice h7.next 0 1 1 1 true) [nxtB bs (kOf bs id - 1) ++ cutB bs id] :=
          blks_lit get_new_same rfl (aft_new (by omega)) (eltsG1 ⟨sees_keep rz.sees lo7 q8, row_cap rz⟩ fzz)
        refine Gives.bind ((with_ok k lo8 (sG.keep hl (q1.trans q18)) sc (by omega) (by omega) (by simp; omega)).mono ?_)
        rintro lv h9 ⟨sW, q9, lo9⟩
        have q19 := q18.trans q9
        obtain ⟨gN, st, ld, sF, qF, loF⟩ := fin_cell (h := h) aft_ne (by omega) (q1.trans q19) lo9 (q19.get hz (by omega)) (sW.mono fun o ho => ho.elim (fun h8 => h8) fun h8 => aft_new (by rw [next_new] at h8; omega))
        simp only [vms, vmc, AOpd.val, Nat.reduceEqDiff, reduceCtorEq, Nat.reduceAdd, Nat.reduceBEq, st, res_cell, ld]
        exact ⟨_, by rw [ea], by rw [ea]; exact sF.mono aft_out, qF, loF⟩
      · have ea : removeB bs id = (bs.take (kOf bs id) ++ [cutB bs id] ++ bs.drop (kOf bs id + 1), true) := by unfold removeB; rw [if_neg hno, if_neg h0, if_neg (fun hh => hlast hh.1), if_neg (fun hh => h16 hh.2.2)]
        have d2 : decide ((((cutB bs id).length + (nxtB bs (kOf bs id - 1)).length : Nat) : Int) ≤ 16) = false := by rw [decide_eq_false_iff_not]; omega
        simp only [vms, vmc, AOpd.val, Nat.reduceEqDiff, reduceCtorEq, Nat.reduceAdd, Nat.reduceBEq, fa0, load_box hg5, ln2, w2, lnr, e0, d1, d3, d4, w1, w5, hp1', hp2', lx', w3, d2, load_boxA hg5, b2r]
        refine Gives.bind (tail.mono ?_)
        rintro lv h7 ⟨gN, st, ld, sF, qF, loF⟩
        simp only [vms, vmc, AOpd.val, Nat.reduceEqDiff, reduceCtorEq, Nat.reduceAdd, Nat.reduceBEq, st, res_cell, ld]
        exact ⟨_, by rw [ea], by rw [ea]; exact sF.mono aft_out, qF, loF⟩
    · have ea : removeB bs id = (bs.take (kOf bs id) ++ [cutB bs id] ++ bs.drop (kOf bs id + 1), true) := by unfold removeB; rw [if_neg hno, if_neg h0, if_neg (fun hh => hlast hh.1), if_neg (fun hh => hk0 hh.2.1)]
      have d4 : decide (((kOf bs id : Nat) : Int) > 0) = false := by rw [decide_eq_false_iff_not]; omega
      simp only [vms, vmc, AOpd.val, Nat.reduceEqDiff, reduceCtorEq, Nat.reduceAdd, Nat.reduceBEq, fa0, load_box hg5, ln2, w2, lnr, e0, d1, d3, d4, load_boxA hg5, w1, b2r]
      refine Gives.bind (tail.mono ?_)
      rintro lv h7 ⟨gN, st, ld, sF, qF, loF⟩
      simp only [vms, vmc, AOpd.val, Nat.reduceEqDiff, reduceCtorEq, Nat.reduceAdd, Nat.reduceBEq, st, res_cell, ld]
      exact ⟨_, by rw [ea], by rw [ea]; exact sF.mono aft_out, qF, loF⟩
end Go.Proofs.Yteokopjiaiflnaa

/- place, Has, Seek, Len, Ids, Blocks. -/
import Derived.Test.YteokopjiaiflnaaP20D
namespace Go.Proofs.Yteokopjiaiflnaa
open Go.Vm
set_option linter.unusedSimpArgs false
set_option linter.unusedVariables false
set_option maxRecDepth 100000
variable {T : Vm.Prog} {h : AH}
def blkAt (bs : List (List Int)) (id : Int) : List Int := bs.getD (kOf bs id) []
theorem blkAt_some {bs : List (List Int)} (hne : bs ≠ []) (id : Int) : bs[kOf bs id]? = some (blkAt bs id) := by
  have := kOf_lt hne id
  unfold blkAt
  rw [List.getD_eq_getElem?_getD, List.getElem?_eq_getElem this]; rfl
def placeB (bs : List (List Int)) (id : Int) : Nat × Nat × Bool := (kOf bs id, pos (blkAt bs id) id, decide (id ∈ blkAt bs id))
theorem placeB_nil (id : Int) : placeB [] id = (0, 0, false) := by simp [placeB, kOf, bcnt, blkAt, pos]
theorem place_ok (k : Base T) (hl : Low h) {v : AV} {bs : List (List Int)} {id : Int} (s : ListV h v bs) (g : Good bs) :
    Gives T 32 [v, .int .i64 id] h fun r h' => r = .tuple [.int .i64 ((placeB bs id).1 : Int), .int .i64 ((placeB bs id).2.1 : Int), .bool (placeB bs id).2.2] ∧ Quiet h h' ∧ Low h' := by
  refine gives_func (k.env 32 (by decide)) (k.at (n := 32) rfl) rfl ?_
  obtain ⟨sl, rfl, sb⟩ := s
  have q1 := (Quiet.refl h).new (.cells [sl] true)
  have lo1 := hl.new (.cells [sl] true)
  have hg : (h.new (.cells [sl] true)).get h.next = some (.cells [sl] true) := get_new_same
  have sb1 := sb.keep hl q1
  have ln := sb1.len
  by_cases hne : bs = []
  · subst hne
    have ln' : lenOfV sl = some 0 := ln
    simp only [a32, c32, vms, vmc, AOpd.val, Nat.reduceEqDiff, reduceCtorEq, Nat.reduceAdd, Nat.reduceBEq, box_list, fa0, load_box hg, ln', show (((0 : Nat) : Int) == 0) = true from rfl]
    rw [placeB_nil]
    exact ⟨by trivial, q1, lo1⟩
  · have hlen : 0 < bs.length := List.length_pos_iff.2 hne
    have e0 : ((bs.length : Int) == 0) = false := by simp; omega
    simp only [a32, c32, vms, vmc, AOpd.val, Nat.reduceEqDiff, reduceCtorEq, Nat.reduceAdd, Nat.reduceBEq, box_list, fa0, load_box hg, load_boxA hg, ln, e0]
    refine Gives.bind ((block_ok k lo1 ⟨sl, rfl, sb1⟩ g).mono ?_)
    rintro _ h2 ⟨rfl, q2, lo2⟩
    have hg2 := q2.get hg (by simp [next_new])
    have hb := blkAt_some hne id
    obtain ⟨p, x, hp1, hp2, hx⟩ := (sb1.keep lo1 q2).at hb .i64
    obtain ⟨_, hr, hs⟩ := g.block hb
    simp only [vms, vmc, AOpd.val, Nat.reduceEqDiff, reduceCtorEq, Nat.reduceAdd, Nat.reduceBEq, fa0, load_box hg2, hp1, hp2]
    refine Gives.bind ((bsearch_ok k hx.1 hr (by omega)).mono ?_)
    rintro _ h3 ⟨rfl, rfl⟩
    simp only [vms, vmc, AOpd.val, Nat.reduceEqDiff, reduceCtorEq, Nat.reduceAdd, Nat.reduceBEq]
    exact ⟨by trivial, q1.trans q2, lo2⟩
theorem has_ok (k : Base T) (hl : Low h) {v : AV} {bs : List (List Int)} {id : Int} (s : ListV h v bs) (g : Good bs) :
    Gives T 20 [v, .int .i64 id] h fun r h' => r = .bool (decide (id ∈ bs.flatten)) ∧ Quiet h h' ∧ Low h' := by
  refine gives_func (k.env 20 (by decide)) (k.at (n := 20) rfl) rfl ?_
  obtain ⟨sl, rfl, sb⟩ := s
  have q1 := (Quiet.refl h).new (.cells [sl] true)
  have lo1 := hl.new (.cells [sl] true)
  have hg : (h.new (.cells [sl] true)).get h.next = some (.cells [sl] true) := get_new_same
  simp only [a20, c20, vms, vmc, AOpd.val, Nat.reduceEqDiff, reduceCtorEq, Nat.reduceAdd, Nat.reduceBEq, box_list, load_boxA hg]
  refine Gives.bind ((place_ok k lo1 ⟨sl, rfl, sb.keep hl q1⟩ g).mono ?_)
  rintro _ h2 ⟨rfl, q2, lo2⟩
  simp only [vms, vmc, AOpd.val, Nat.reduceEqDiff, reduceCtorEq, Nat.reduceAdd, Nat.reduceBEq]
  refine ⟨?_, q1.trans q2, lo2⟩
  congr 1
  by_cases hne : bs = []
  · subst hne; simp [placeB_nil]
  · have := g.mem_iff (blkAt_some hne id)
    simp only [placeB]
    exact decide_eq_decide.2 this.symm
def seekB (bs : List (List Int)) (from_ : Int) : Int × Bool := match bs.flatten[pos bs.flatten from_]? with
  | some x => (x, true)
  | none => (0, false)
theorem seek_ok (k : Base T) (hl : Low h) {v : AV} {bs : List (List Int)} {id : Int} (s : ListV h v bs) (g : Good bs) :
    Gives T 21 [v, .int .i64 id] h fun r h' => r = .tuple [.int .i64 (seekB bs id).1, .bool (seekB bs id).2] ∧ Quiet h h' ∧ Low h' := by
  refine gives_func (k.env 21 (by decide)) (k.at (n := 21) rfl) rfl ?_
  obtain ⟨sl, rfl, sb⟩ := s
  have q1 := (Quiet.refl h).new (.cells [sl] true)
  have lo1 := hl.new (.cells [sl] true)
  have hg : (h.new (.cells [sl] true)).get h.next = some (.cells [sl] true) := get_new_same
  simp only [a21, c21, vms, vmc, AOpd.val, Nat.reduceEqDiff, reduceCtorEq, Nat.reduceAdd, Nat.reduceBEq, box_list, load_boxA hg]
  refine Gives.bind ((place_ok k lo1 ⟨sl, rfl, sb.keep hl q1⟩ g).mono ?_)
  rintro _ h2 ⟨rfl, q2, lo2⟩
  have hg2 := q2.get hg (by simp [next_new])
  have sb2 := (sb.keep hl q1).keep lo1 q2
  have ln := sb2.len
  have hlen := g.len
  by_cases hne : bs = []
  · subst hne
    have ln' : lenOfV sl = some 0 := ln
    have d1 : decide ((((placeB [] id).1 : Nat) : Int) < ((0 : Nat) : Int)) = false := by rw [placeB_nil]; rfl
    have d2 : decide ((((placeB [] id).1 : Nat) : Int) ≥ ((0 : Nat) : Int)) = true := by rw [placeB_nil]; rfl
    simp only [vms, vmc, AOpd.val, Nat.reduceEqDiff, reduceCtorEq, Nat.reduceAdd, Nat.reduceBEq, fa0, load_box hg2, ln', d1, d2]
    refine ⟨by simp [seekB], q1.trans q2, lo2⟩
  · have hk := kOf_lt hne id
    have hb := blkAt_some hne id
    obtain ⟨p, x, hp1, hp2, hx⟩ := sb2.at hb .i64
    obtain ⟨_, hr, hs⟩ := g.block hb
    have lx : lenOfV x = some (blkAt bs id).length := by simpa [izs] using hx.1.len
    have hpl := pos_le (blkAt bs id) id
    have d1 : decide (((kOf bs id : Nat) : Int) < (bs.length : Int)) = true := by rw [decide_eq_true_eq]; omega
    have hpos := g.pos hb
    have hsplit := split_at hb
    by_cases hend : pos (blkAt bs id) id = (blkAt bs id).length
    · have e1 : (((pos (blkAt bs id) id : Nat) : Int) == ((blkAt bs id).length : Int)) = true := by simp [hend]
      have w1 : IntKind.i64.wrap (((kOf bs id : Nat) : Int) + 1) = ((kOf bs id + 1 : Nat) : Int) := by rw [wrap_i64 (by omega) (by omega)]; omega
      by_cases hlast : kOf bs id + 1 < bs.length
      · have d2 : decide ((((kOf bs id + 1 : Nat)) : Int) ≥ (bs.length : Int)) = false := by rw [decide_eq_false_iff_not]; omega
        obtain ⟨c, hc⟩ : ∃ c, bs[kOf bs id + 1]? = some c := ⟨_, List.getElem?_eq_getElem hlast⟩
        obtain ⟨p', x', hp1', hp2', hx'⟩ := sb2.at hc .i64
        obtain ⟨y, r, rfl⟩ := List.exists_cons_of_ne_nil (g.block hc).1
        obtain ⟨a, ha1, ha2⟩ := hx'.1.at (i := 0) (x := .int .i64 y) rfl .i64
        have ha1' : idxAddrV 1 x' (.int .i64 0) = some a := ha1
        simp only [vms, vmc, AOpd.val, Nat.reduceEqDiff, reduceCtorEq, Nat.reduceAdd, Nat.reduceBEq, fa0, load_box hg2, ln, placeB, d1, hp1, hp2, lx, e1, w1, d2, hp1', hp2', ha1', ha2]
        refine ⟨?_, q1.trans q2, lo2⟩
        have : bs.flatten[pos bs.flatten id]? = some y := by
          rw [hpos, hend]
          obtain ⟨h1, h2⟩ := List.getElem?_eq_some_iff.1 hc
          have e2 : bs.drop (kOf bs id + 1) = (y :: r) :: bs.drop (kOf bs id + 1 + 1) := by rw [List.drop_eq_getElem_cons h1, h2]
          rw [hsplit, e2, ← List.append_assoc, ← List.length_append, List.getElem?_append_right (Nat.le_refl _), Nat.sub_self]
          rfl
        simp [seekB, this]
      · have d2 : decide ((((kOf bs id + 1 : Nat)) : Int) ≥ (bs.length : Int)) = true := by rw [decide_eq_true_eq]; omega
        simp only [vms, vmc, AOpd.val, Nat.reduceEqDiff, reduceCtorEq, Nat.reduceAdd, Nat.reduceBEq, fa0, load_box hg2, ln, placeB, d1, hp1, hp2, lx, e1, w1, d2]
        refine ⟨?_, q1.trans q2, lo2⟩
        have : bs.flatten[pos bs.flatten id]? = none := by
          rw [hpos, hend]
          apply List.getElem?_eq_none
          have e2 : bs.drop (kOf bs id + 1) = [] := List.drop_eq_nil_of_le (by omega)
          rw [hsplit, e2]
          simp
        simp [seekB, this]
    · have e1 : (((pos (blkAt bs id) id : Nat) : Int) == ((blkAt bs id).length : Int)) = false := by simp; omega
      have d2 : decide (((kOf bs id : Nat) : Int) ≥ (bs.length : Int)) = false := by rw [decide_eq_false_iff_not]; omega
      obtain ⟨y, hy⟩ : ∃ y, (blkAt bs id)[pos (blkAt bs id) id]? = some y := ⟨_, List.getElem?_eq_getElem (by omega)⟩
      obtain ⟨a, ha1, ha2⟩ := hx.1.at (i := pos (blkAt bs id) id) (x := .int .i64 y) (by simp [izs, hy]) .i64
      simp only [vms, vmc, AOpd.val, Nat.reduceEqDiff, reduceCtorEq, Nat.reduceAdd, Nat.reduceBEq, fa0, load_box hg2, ln, placeB, d1, hp1, hp2, lx, e1, d2, ha1, ha2]
      refine ⟨?_, q1.trans q2, lo2⟩
      have : bs.flatten[pos bs.flatten id]? = some y := by
        rw [hpos, hsplit, List.getElem?_append_right (by omega), Nat.add_sub_cancel_left, List.getElem?_append_left (by omega)]
        exact hy
      simp [seekB, this]
theorem len_ok (k : Base T) (hl : Low h) {v : AV} {bs : List (List Int)} (s : ListV h v bs) (h1 : bs.flatten.length < 100000) (h2 : bs.length < 100000) :
    Gives T 15 [v] h fun r h' => r = .int .i64 (bs.flatten.length : Int) ∧ Quiet h h' ∧ Low h' := by
  refine gives_func (k.env 15 (by decide)) (k.at (n := 15) rfl) rfl ?_
  obtain ⟨sl, rfl, sb⟩ := s
  have q1 := (Quiet.refl h).new (.cells [sl] true)
  have lo1 := hl.new (.cells [sl] true)
  have hg : (h.new (.cells [sl] true)).get h.next = some (.cells [sl] true) := get_new_same
  have sb1 := sb.keep hl q1
  have ln := sb1.len
  simp only [a15, c15, vms, vmc, AOpd.val, Nat.reduceEqDiff, reduceCtorEq, Nat.reduceAdd, Nat.reduceBEq, box_list, fa0, load_box hg, ln]
  refine wpc_loop (fun m f h' => ∃ i, m = bs.length - i ∧ i ≤ bs.length ∧ h' = h.new (.cells [sl] true) ∧ f.at 3 = .int .i64 ((bs.take i).flatten.length : Int) ∧ f.at 7 = sl ∧ f.at 8 = .int .i64 (bs.length : Int) ∧ f.at 9 = .int .i64 (i : Int)) ?_ bs.length _ _ ⟨0, by omega, by omega, rfl, ?_⟩
  · rintro m f h' ⟨i, rfl, hi, rfl, f3, f7, f8, f9⟩
    by_cases hlt : i < bs.length
    · have d1 : decide ((i : Int) < (bs.length : Int)) = true := by rw [decide_eq_true_eq]; omega
      obtain ⟨b, hb⟩ : ∃ b, bs[i]? = some b := ⟨_, List.getElem?_eq_getElem hlt⟩
      obtain ⟨p, x, hp1, hp2, hx⟩ := sb1.at hb .i64
      have lx : lenOfV x = some b.length := by simpa [izs] using hx.1.len
      have e1 : (bs.take (i + 1)).flatten.length = (bs.take i).flatten.length + b.length := by rw [take_snoc hb, List.flatten_append, List.length_append]; simp
      have e2 := flat_take_le (l := bs) (i + 1)
      have w1 : IntKind.i64.wrap ((((bs.take i).flatten.length : Nat) : Int) + (b.length : Int)) = (((bs.take (i + 1)).flatten.length : Nat) : Int) := by rw [wrap_i64 (by omega) (by omega)]; omega
      have w2 : IntKind.i64.wrap ((i : Int) + 1) = ((i + 1 : Nat) : Int) := by rw [wrap_i64 (by omega) (by omega)]; omega
      simp only [c15l0, vms, vmc, AOpd.val, Nat.reduceEqDiff, reduceCtorEq, Nat.reduceAdd, Nat.reduceBEq, f3, f7, f8, f9, d1, hp1, hp2, lx, w1, w2]
      exact ⟨bs.length - (i + 1), by omega, i + 1, rfl, by omega, by trivial, by trivial, by trivial, by trivial, by trivial⟩
    · have d1 : decide ((i : Int) < (bs.length : Int)) = false := by rw [decide_eq_false_iff_not]; omega
      have hi' : i = bs.length := by omega
      subst hi'
      rw [List.take_length] at f3
      simp only [c15l0, vms, vmc, AOpd.val, Nat.reduceEqDiff, reduceCtorEq, Nat.reduceAdd, Nat.reduceBEq, f3, f7, f8, f9, d1]
      exact ⟨by trivial, q1, lo1⟩
  · simp only [vms, vmc, AOpd.val, Nat.reduceEqDiff, reduceCtorEq, Nat.reduceAdd, Nat.reduceBEq]
    simp
theorem izs_flat' {b : List Int} : ∀ y ∈ izs b, AV.flat y = true := fun y hy => List.all_eq_true.1 (izs_flat b) y hy
theorem flatten_izs (bs : List (List Int)) : (bs.map izs).flatten = izs bs.flatten := by
  simp only [izs]
  induction bs with
  | nil => rfl
  | cons b r ih => simp only [List.map_cons, List.flatten_cons, List.map_append, ih]; rfl
theorem ids_ok (k : Base T) (hl : Low h) {v : AV} {bs : List (List Int)} (s : ListV h v bs) (h1 : bs.flatten.length < 100000) (h2 : bs.length < 100000) :
    Gives T 18 [v] h fun r h' => Row1 h' r (izs bs.flatten) ∧ (∀ o ∈ objs r, h.next ≤ o) ∧ Quiet h h' ∧ Low h' := by
  refine gives_func (k.env 18 (by decide)) (k.at (n := 18) rfl) rfl ?_
  obtain ⟨sl, rfl, sb⟩ := s
  have q1 := (Quiet.refl h).new (.cells [sl] true)
  have lo1 := hl.new (.cells [sl] true)
  have hg : (h.new (.cells [sl] true)).get h.next = some (.cells [sl] true) := get_new_same
  obtain ⟨vs, s1, s2, s3, s4⟩ := sb.keep hl q1
  simp only [a18, c18, vms, vmc, AOpd.val, Nat.reduceEqDiff, reduceCtorEq, Nat.reduceAdd, Nat.reduceBEq, box_list, fa0, load_box hg]
  refine Gives.bind ((concatN_ok (xss := bs.map izs) (k.env 36 (by decide)) (k.at (n := 36) rfl) (k.env 46 (by decide)) (k.at (n := 46) rfl) (by decide) lo1 s1 (by simpa using s3) ?_ ?_ ?_ (by omega)).mono ?_)
  · intro i x xs hx hxs
    rw [List.getElem?_map] at hxs
    cases hb : bs[i]? with
    | none => simp [hb] at hxs
    | some b => simp [hb] at hxs; subst hxs; exact (s4 i x b hx hb).1
  · intro xs hxs
    obtain ⟨b, _, rfl⟩ := List.mem_map.1 hxs
    exact izs_flat'
  · rw [flatten_izs, izs, List.length_map]; omega
  · rintro r h3 ⟨r1, fr, q3, lo3⟩
    rw [flatten_izs] at r1
    simp only [vms, vmc, AOpd.val, Nat.reduceEqDiff, reduceCtorEq, Nat.reduceAdd, Nat.reduceBEq]
    exact ⟨r1, fun o ho => by have := fr o ho; simp [next_new] at this; omega, q1.trans q3, lo3⟩
end Go.Proofs.Yteokopjiaiflnaa

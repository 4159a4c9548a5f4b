/- The reference's Remove: the walk. -/
import Derived.Test.YteokopjiaiflnaaP20Yf
namespace Go.Proofs.Yteokopjiaiflnaa
open Go.Vm
set_option linter.unusedSimpArgs false
set_option linter.unusedVariables false
set_option maxRecDepth 100000
variable {T : Vm.Prog} {h : AH}
def sieve (B : List Int) (id : Int) : List Int := B.filter fun y => decide (y ≠ id)
theorem sieve_no {B : List Int} {id : Int} (hn : id ∉ B) : sieve B id = B := by
  unfold sieve
  rw [List.filter_eq_self]
  intro y hy
  exact decide_eq_true fun e => hn (e ▸ hy)
theorem sieve_yes {B : List Int} (r : Rise B) {id : Int} (hm : id ∈ B) : sieve B id = B.take (pos B id) ++ B.drop (pos B id + 1) := by
  have hp := pos_mem r hm
  have hlt := (List.getElem?_eq_some_iff.1 hp).1
  have e : B = B.take (pos B id) ++ (id :: B.drop (pos B id + 1)) := by
    conv => lhs; rw [← List.take_append_drop (pos B id) B]
    congr 1
    rw [List.drop_eq_getElem_cons hlt]
    congr 1
    exact (List.getElem?_eq_some_iff.1 hp).2
  unfold sieve
  conv => lhs; rw [e]
  rw [List.filter_append, List.filter_cons]
  rw [if_neg (by simp)]
  congr 1
  · rw [List.filter_eq_self]
    intro y hy
    have := take_lt r hy
    exact decide_eq_true (by omega)
  · rw [List.filter_eq_self]
    intro y hy
    obtain ⟨t, ht⟩ := List.getElem?_of_mem hy
    rw [List.getElem?_drop] at ht
    have := r.at hp ht (by omega)
    exact decide_eq_true (by omega)
theorem sieve_len (B : List Int) (id : Int) : (sieve B id).length ≤ B.length := List.length_filter_le _ _
def c26u : ACode := cTail 5 c26
theorem c26_eq : c26 = cPut 5 c26 c26u := rfl
theorem set_take {α : Type} {l : List α} {k : Nat} {z : α} : (l.set k z).take k = l.take k := by
  apply List.ext_getElem?
  intro i
  rw [List.getElem?_take, List.getElem?_take]
  by_cases hi : i < k
  · rw [if_pos hi, if_pos hi, List.getElem?_set_ne (by omega)]
  · rw [if_neg hi, if_neg hi]
theorem set_drop {α : Type} {l : List α} {k c : Nat} {z : α} (h : k < c) : (l.set k z).drop c = l.drop c := by
  apply List.ext_getElem?
  intro i
  rw [List.getElem?_drop, List.getElem?_drop, List.getElem?_set_ne (by omega)]
theorem set_mid {α : Type} {l : List α} {k : Nat} {z : α} (h : k < l.length) : l.set k z = l.take k ++ [z] ++ l.drop (k + 1) := by
  apply List.ext_getElem?
  intro i
  rw [List.append_assoc, List.getElem?_append, List.length_take, Nat.min_eq_left (by omega)]
  by_cases hi : i < k
  · rw [if_pos hi, List.getElem?_set_ne (by omega), List.getElem?_take, if_pos hi]
  · rw [if_neg hi]
    by_cases e : i = k
    · subst e; rw [List.getElem?_set_self h]; simp
    · rw [List.getElem?_set_ne (by omega)]
      obtain ⟨d, rfl⟩ : ∃ d, i = k + 1 + d := ⟨i - (k + 1), by omega⟩
      rw [show k + 1 + d - k = d + 1 by omega]
      simp [List.getElem?_drop]
theorem set_take1 {α : Type} {l : List α} {k : Nat} {z : α} (h : k < l.length) : (l.set k z).take (k + 1) = l.take k ++ [z] := by
  rw [take_snoc (i := k) (x := z) (by rw [List.getElem?_set_self h]), set_take]
set_option maxHeartbeats 1600000 in
theorem remove_tail (k : Base T) (hl : Low h) {h1 : AH} {v bv : AV} {bs : List (List Int)} {id : Int} (q : Quiet h h1) (lo : Low h1) (s : BlksV h v bs) (g : Good bs) (sm : Small bs) (hne : bs ≠ []) (row : Row1 h1 bv (izs (sieve (blkAt bs id) id))) (fb : ∀ o ∈ objs bv, h.next ≤ o)
    {f : Fr} (f0 : f.at 0 = v) (f6 : f.at 6 = .int .i64 (kOf bs id : Int)) (f7 : f.at 7 = bv) :
    Wp (code T c26u f h1) (Vm.Ends [.tmp 4, .tmp 5] fun r h' => ∃ rv, r = .tuple [rv, .bool (removeB bs id).2] ∧ BlksG (fun o => h.next ≤ o) h' rv (removeB bs id).1 ∧ Quiet h h' ∧ Low h') := by
  have hbl := g.len
  have hb : ∀ b ∈ bs, b.length < 100000 := fun b hb => by have := sm b hb; omega
  have hk := kOf_lt hne id
  have hblk := blkAt_some hne id
  have h16B := sm _ (List.mem_of_getElem? hblk)
  obtain ⟨_, rise, _⟩ := g.block hblk
  have s1 := s.keep hl q
  obtain ⟨p, x, hp1, hp2, hx⟩ := s1.at hblk .i64
  have lx : lenOfV x = some (blkAt bs id).length := by have := hx.1.len; rwa [izs, List.length_map] at this
  have lb0 : lenOfV bv = some (sieve (blkAt bs id) id).length := by have := row.sees.len; rwa [izs, List.length_map] at this
  have blow := RowS.low row lo
  by_cases hin : id ∈ blkAt bs id
  case neg =>
    have ea : removeB bs id = (bs, false) := by unfold removeB; rw [if_pos hin]
    rw [sieve_no hin] at lb0
    have e1 : (((blkAt bs id).length : Int) == ((blkAt bs id).length : Int)) = true := by simp
    rw [ea]
    simp only [c26u, cTail, c26, vms, vmc, AOpd.val, Nat.reduceEqDiff, reduceCtorEq, Nat.reduceAdd, Nat.reduceBEq, f0, f6, f7, lb0, hp1, hp2, lx, e1]
    refine Gives.bind ((copied_ok k lo s1 hbl hb).mono ?_)
    rintro r h2 ⟨ap, q2, lo2⟩
    simp only [vms, vmc, AOpd.val, Nat.reduceEqDiff, reduceCtorEq, Nat.reduceAdd, Nat.reduceBEq]
    exact ⟨r, rfl, (ap.fresh.rowB.mono q.1).g, q.trans q2, lo2⟩
  have esv : sieve (blkAt bs id) id = cutB bs id := sieve_yes rise hin
  rw [esv] at row lb0
  have hcl : (cutB bs id).length + 1 = (blkAt bs id).length := cut_len rise hin
  have e1 : (((cutB bs id).length : Int) == ((blkAt bs id).length : Int)) = false := by simp; omega
  simp only [c26u, cTail, c26, vms, vmc, AOpd.val, Nat.reduceEqDiff, reduceCtorEq, Nat.reduceAdd, Nat.reduceBEq, f0, f6, f7, lb0, hp1, hp2, lx, e1]
  refine Gives.bind ((copied_ok k lo s1 hbl hb).mono ?_)
  rintro ov h2 ⟨ap, q2, lo2⟩
  obtain ⟨xs, a1, a2, a3, a4, a5⟩ := ap
  have row2 := row_quiet row lo q2
  have q02 := q.trans q2
  have rx0 : RX xs (fun _ => False) h1.next h2 ov bs := ⟨a1, a2, a3, fun i y b _ hy hb => ⟨⟨(a4 i y b hy hb).1.sees, row_cap (a4 i y b hy hb).1⟩, (a4 i y b hy hb).2⟩⟩
  have hbo : ∀ o ∈ objs bv, h.next ≤ o ∧ o ∉ objs ov := fun o ho => ⟨fb o ho, fun hor => by have := blow o ho; have := a2 o hor; omega⟩
  have obo : ∀ o ∈ objs ov, h.next ≤ o := fun o ho => by have := a2 o ho; have := q.1; omega
  obtain ⟨p2, h3, hs1, hs2, rx3, m3, lo3⟩ := rx0.store (z := cutB bs id) lo2 q.1 hk ⟨row2.sees, row_cap row2⟩ hbo
  have q03 : Quiet h h3 := mods_quiet q02 m3 obo
  have row3 : Row1 h3 bv (izs (cutB bs id)) := RowS.keep row2 fun o ho => m3.2 o (RowS.low row2 lo2 o ho) (hbo o ho).2
  have lno : lenOfV ov = some bs.length := rx0.lenOf
  have w1 : IntKind.i64.wrap (((kOf bs id : Nat) : Int) + 1) = ((kOf bs id + 1 : Nat) : Int) := by rw [wrap_i64 (by omega) (by omega)]; omega
  have w2 : IntKind.i64.wrap (((kOf bs id : Nat) : Int) + 2) = ((kOf bs id + 2 : Nat) : Int) := by rw [wrap_i64 (by omega) (by omega)]; omega
  have flx : ∀ (i : Nat) y, xs[i]? = some y → AV.flat y = true := fun i y hy => by
    have hlt := (List.getElem?_eq_some_iff.1 hy).1
    exact (sees_cell (a4 i y _ hy (List.getElem?_eq_getElem (a3 ▸ hlt))).1.sees).2
  have fls : ∀ {zv : AV} {j : Nat} {ys : List AV}, AV.flat zv = true → (∀ (i : Nat) y, ys[i]? = some y → AV.flat y = true) → ∀ (i : Nat) y, (ys.set j zv)[i]? = some y → AV.flat y = true := fun {zv j ys} hz hy i y hi => by
    by_cases e : i = j
    · subst e
      have hlt := (List.getElem?_eq_some_iff.1 hi).1
      rw [List.length_set] at hlt
      rw [List.getElem?_set_self hlt] at hi
      cases hi; exact hz
    · rw [List.getElem?_set_ne (Ne.symm e)] at hi; exact hy i y hi
  have cbv := sees_cell row3.sees
  by_cases h0 : (cutB bs id).length = 0
  · have ea : removeB bs id = (bs.take (kOf bs id) ++ [] ++ bs.drop (kOf bs id + 1), true) := by unfold removeB; rw [if_neg (fun hh => hh hin), if_pos h0]
    have e2 : (((cutB bs id).length : Int) == 0) = true := by simp [h0]
    obtain ⟨va, vb, r', h4, c1, c2, c3, c4, c5, c6⟩ := rx3.cut (a := kOf bs id) (c := kOf bs id + 1) lo3 q03.1 (fun i _ hi => absurd hi.1 fun hf => hf) (by omega) (by simp; omega) (by simp; omega) (fls cbv.2 flx)
    rw [ea]
    rw [set_take, set_drop (by omega)] at c4
    simp only [vms, vmc, AOpd.val, Nat.reduceEqDiff, reduceCtorEq, Nat.reduceAdd, Nat.reduceBEq, f0, f6, f7, hs1, hs2, lb0, e2, w1, c1, c2, c3]
    exact ⟨r', rfl, by simpa using c4, q03.trans c5, c6⟩
  have e2 : (((cutB bs id).length : Int) == 0) = false := by rw [beq_eq_false_iff_ne]; omega
  -- nothing to join with: what stands is the answer
  have hrest : ¬ (kOf bs id + 1 < bs.length ∧ (cutB bs id).length + (nxtB bs (kOf bs id + 1)).length ≤ 16) → ¬ (kOf bs id + 1 = bs.length ∧ 0 < kOf bs id ∧ (cutB bs id).length + (nxtB bs (kOf bs id - 1)).length ≤ 16) →
      removeB bs id = (bs.take (kOf bs id) ++ [cutB bs id] ++ bs.drop (kOf bs id + 1), true) := fun n1 n2 => by unfold removeB; rw [if_neg (fun hh => hh hin), if_neg h0, if_neg n1, if_neg n2]
  have answer := rx3.g fun i _ hi => hi.1
  rw [set_mid hk] at answer
  have lno3 : lenOfV ov = some bs.length := lno
  by_cases hk1 : kOf bs id + 1 < bs.length
  · have d1 : decide (((kOf bs id + 1 : Nat) : Int) < (bs.length : Int)) = true := by rw [decide_eq_true_eq]; omega
    have hn := nxtB_some hk1
    have hn16 := sm _ (List.mem_of_getElem? hn)
    obtain ⟨p4, y, hy0, hy1, hy2, hy3⟩ := rx3.at (i := kOf bs id + 1) (fun hh => hh.1) (b := nxtB bs (kOf bs id + 1)) (by rw [List.getElem?_set_ne (by omega)]; exact hn)
    have ly : lenOfV y = some (nxtB bs (kOf bs id + 1)).length := by have := hy3.1.len; rwa [izs, List.length_map] at this
    have w3 : IntKind.i64.wrap (((cutB bs id).length : Int) + ((nxtB bs (kOf bs id + 1)).length : Int)) = (((cutB bs id).length + (nxtB bs (kOf bs id + 1)).length : Nat) : Int) := by rw [wrap_i64 (by omega) (by omega)]; omega
    by_cases h16 : (cutB bs id).length + (nxtB bs (kOf bs id + 1)).length ≤ 16
    · have d2 : decide ((((cutB bs id).length + (nxtB bs (kOf bs id + 1)).length : Nat) : Int) ≤ 16) = true := by rw [decide_eq_true_eq]; omega
      have ea : removeB bs id = (bs.take (kOf bs id) ++ [cutB bs id ++ nxtB bs (kOf bs id + 1)] ++ bs.drop (kOf bs id + 2), true) := by unfold removeB; rw [if_neg (fun hh => hh hin), if_neg h0, if_pos ⟨hk1, h16⟩]
      obtain ⟨b2, h4, hb1, hb2, hb3, _, hb5, lo4⟩ := row1_appendAll (bytes := 8) lo3 row3 hy3.1 (by decide) (by decide) (by rw [izs, izs, List.length_map, List.length_map]; omega) izs_flat1
      have m4 : Mods h3 h4 (fun o => o ∈ objs bv) := hb5.mods fun o ho => .inl ho
      have ei : izs (cutB bs id) ++ izs (nxtB bs (kOf bs id + 1)) = izs (cutB bs id ++ nxtB bs (kOf bs id + 1)) := by simp [izs]
      rw [ei] at hb2
      -- all but the block that was joined stand as they stood
      have rx3' : RX (xs.set (kOf bs id) bv) (fun i => i = kOf bs id) h.next h3 ov (bs.set (kOf bs id) (cutB bs id)) := ⟨rx3.row, rx3.fr, rx3.len, fun i z b hi hz hb => rx3.elts i z b (fun hh => hh.1) hz hb⟩
      have rx4 := rx3'.act lo3 m4 (fun o ho hf => (hbo o hf).2 ho) (fun i z hi hz o ho hf => by
        rw [List.getElem?_set_ne (Ne.symm hi)] at hz
        have hlt := (List.getElem?_eq_some_iff.1 hz).1
        have := ((a4 i z _ hz (List.getElem?_eq_getElem (a3 ▸ hlt))).2 o ho).1
        have := blow o hf
        omega)
      have hb2o : ∀ o ∈ objs b2, h.next ≤ o ∧ o ∉ objs ov := fun o ho => by
        rcases hb3 o ho with h5 | h5
        · exact hbo o h5
        · refine ⟨by have := q03.1; omega, fun hor => ?_⟩
          have := RowS.low rx3.row lo3 o hor; omega
      obtain ⟨p5, h5, ht1, ht2, rx5, m5, lo5⟩ := rx4.store (z := cutB bs id ++ nxtB bs (kOf bs id + 1)) lo4 (Nat.le_refl _) (by simpa using hk) ⟨hb2.sees, row_cap hb2⟩ hb2o
      obtain rfl : p2 = p5 := Option.some.inj (hs1.symm.trans ht1)
      have q05 : Quiet h h5 := mods_quiet (mods_quiet q03 m4 fun o ho => (hbo o ho).1) m5 obo
      obtain ⟨va, vb, r', h6, c1, c2, c3, c4, c5, c6⟩ := rx5.cut (a := kOf bs id + 1) (c := kOf bs id + 2) lo5 q05.1 (fun i _ hi => absurd hi.1 hi.2) (by omega) (by simp; omega) (by simp; omega) (fls (sees_cell hb2.sees).2 (fls cbv.2 flx))
      rw [List.set_set, set_take1 hk, set_drop (by omega)] at c4
      rw [ea]
      simp only [vms, vmc, AOpd.val, Nat.reduceEqDiff, reduceCtorEq, Nat.reduceAdd, Nat.reduceBEq, f0, f6, f7, hs1, hs2, lb0, e2, w1, w2, lno, d1, hy1, hy2, ly, w3, d2, hb1, ht1, ht2, c1, c2, c3]
      exact ⟨r', rfl, c4, q05.trans c5, c6⟩
    · have d2 : decide ((((cutB bs id).length + (nxtB bs (kOf bs id + 1)).length : Nat) : Int) ≤ 16) = false := by rw [decide_eq_false_iff_not]; omega
      have ea := hrest (fun hh => h16 hh.2) (fun hh => by omega)
      have e4 : (((kOf bs id + 1 : Nat) : Int) == (bs.length : Int)) = false := by simp; omega
      rw [ea]
      by_cases hk0 : kOf bs id = 0
      · have d3 : decide (((kOf bs id : Nat) : Int) > 0) = false := by rw [decide_eq_false_iff_not]; omega
        simp only [vms, vmc, AOpd.val, Nat.reduceEqDiff, reduceCtorEq, Nat.reduceAdd, Nat.reduceBEq, f0, f6, f7, hs1, hs2, lb0, e2, w1, w2, lno, d1, hy1, hy2, ly, w3, d2, d3]
        exact ⟨ov, rfl, answer, q03, lo3⟩
      · have d3 : decide (((kOf bs id : Nat) : Int) > 0) = true := by rw [decide_eq_true_eq]; omega
        simp only [vms, vmc, AOpd.val, Nat.reduceEqDiff, reduceCtorEq, Nat.reduceAdd, Nat.reduceBEq, f0, f6, f7, hs1, hs2, lb0, e2, w1, w2, lno, d1, hy1, hy2, ly, w3, d2, d3, e4]
        exact ⟨ov, rfl, answer, q03, lo3⟩
  · have d1 : decide (((kOf bs id + 1 : Nat) : Int) < (bs.length : Int)) = false := by rw [decide_eq_false_iff_not]; omega
    have hk1' : kOf bs id + 1 = bs.length := by omega
    have e4 : (((kOf bs id + 1 : Nat) : Int) == (bs.length : Int)) = true := by simp; omega
    by_cases hk0 : kOf bs id = 0
    · have d3 : decide (((kOf bs id : Nat) : Int) > 0) = false := by rw [decide_eq_false_iff_not]; omega
      have ea := hrest (fun hh => hk1 hh.1) (fun hh => by omega)
      rw [ea]
      simp only [vms, vmc, AOpd.val, Nat.reduceEqDiff, reduceCtorEq, Nat.reduceAdd, Nat.reduceBEq, f0, f6, f7, hs1, hs2, lb0, e2, w1, w2, lno, d1, d3]
      exact ⟨ov, rfl, answer, q03, lo3⟩
    have d3 : decide (((kOf bs id : Nat) : Int) > 0) = true := by rw [decide_eq_true_eq]; omega
    have w4 : IntKind.i64.wrap (((kOf bs id : Nat) : Int) - 1) = ((kOf bs id - 1 : Nat) : Int) := by rw [wrap_i64 (by omega) (by omega)]; omega
    have hn := nxtB_some (bs := bs) (k := kOf bs id - 1) (by omega)
    have hn16 := sm _ (List.mem_of_getElem? hn)
    obtain ⟨p4, y, hy0, hy1, hy2, hy3⟩ := rx3.at (i := kOf bs id - 1) (fun hh => hh.1) (b := nxtB bs (kOf bs id - 1)) (by rw [List.getElem?_set_ne (by omega)]; exact hn)
    have ly : lenOfV y = some (nxtB bs (kOf bs id - 1)).length := by have := hy3.1.len; rwa [izs, List.length_map] at this
    have w3 : IntKind.i64.wrap (((cutB bs id).length : Int) + ((nxtB bs (kOf bs id - 1)).length : Int)) = (((cutB bs id).length + (nxtB bs (kOf bs id - 1)).length : Nat) : Int) := by rw [wrap_i64 (by omega) (by omega)]; omega
    by_cases h16 : (cutB bs id).length + (nxtB bs (kOf bs id - 1)).length ≤ 16
    · have d2 : decide ((((cutB bs id).length + (nxtB bs (kOf bs id - 1)).length : Nat) : Int) ≤ 16) = true := by rw [decide_eq_true_eq]; omega
      have ea : removeB bs id = (bs.take (kOf bs id - 1) ++ [nxtB bs (kOf bs id - 1) ++ cutB bs id] ++ bs.drop (kOf bs id + 1), true) := by unfold removeB; rw [if_neg (fun hh => hh hin), if_neg h0, if_neg (fun hh => hk1 hh.1), if_pos ⟨hk1', by omega, h16⟩]
      rw [List.getElem?_set_ne (by omega)] at hy0
      obtain ⟨ry2, oy⟩ := a4 _ y _ hy0 hn
      have ry3 : Row1 h3 y (izs (nxtB bs (kOf bs id - 1))) := RowS.keep ry2 fun o ho => m3.2 o (RowS.low ry2 lo2 o ho) (oy o ho).2
      obtain ⟨b2, h4, hb1, hb2, hb3, _, hb5, lo4⟩ := row1_appendAll (bytes := 8) lo3 ry3 row3.sees (by decide) (by decide) (by rw [izs, izs, List.length_map, List.length_map]; omega) izs_flat1
      have m4 : Mods h3 h4 (fun o => o ∈ objs y) := hb5.mods fun o ho => .inl ho
      have ei : izs (nxtB bs (kOf bs id - 1)) ++ izs (cutB bs id) = izs (nxtB bs (kOf bs id - 1) ++ cutB bs id) := by simp [izs]
      rw [ei] at hb2
      have rx3' : RX (xs.set (kOf bs id) bv) (fun i => i = kOf bs id ∨ i = kOf bs id - 1) h.next h3 ov (bs.set (kOf bs id) (cutB bs id)) := ⟨rx3.row, rx3.fr, rx3.len, fun i z b hi hz hb => rx3.elts i z b (fun hh => hh.1) hz hb⟩
      have rx4 := rx3'.act lo3 m4 (fun o ho hf => (oy o hf).2 ho) (fun i z hi hz o ho hf => by
        rw [List.getElem?_set_ne (fun e => hi (.inl e.symm))] at hz
        by_cases hlt : i < kOf bs id - 1
        · exact a5 i (kOf bs id - 1) z y hlt hz hy0 o ho hf
        · exact a5 (kOf bs id - 1) i y z (by have : i ≠ kOf bs id - 1 := fun e => hi (.inr e); omega) hy0 hz o hf ho)
      have hb2o : ∀ o ∈ objs b2, h.next ≤ o ∧ o ∉ objs ov := fun o ho => by
        rcases hb3 o ho with h5 | h5
        · exact ⟨by have := (oy o h5).1; have := q.1; omega, (oy o h5).2⟩
        · refine ⟨by have := q03.1; omega, fun hor => ?_⟩
          have := RowS.low rx3.row lo3 o hor; omega
      obtain ⟨p5, h5, ht1, ht2, rx5, m5, lo5⟩ := rx4.store (k := kOf bs id - 1) (z := nxtB bs (kOf bs id - 1) ++ cutB bs id) lo4 (Nat.le_refl _) (by rw [List.length_set]; omega) ⟨hb2.sees, row_cap hb2⟩ hb2o
      obtain rfl : p4 = p5 := Option.some.inj (hy1.symm.trans ht1)
      have q05 : Quiet h h5 := mods_quiet (mods_quiet q03 m4 fun o ho => by have := (oy o ho).1; have := q.1; omega) m5 obo
      obtain ⟨r', c1, c2⟩ := rx5.head (n := kOf bs id) (fun i hi hh => by
        rcases hh with ⟨hh | hh, hn'⟩
        · omega
        · exact hn' hh) (by rw [List.length_set, List.length_set]; omega)
      have er : ((bs.set (kOf bs id) (cutB bs id)).set (kOf bs id - 1) (nxtB bs (kOf bs id - 1) ++ cutB bs id)).take (kOf bs id) = bs.take (kOf bs id - 1) ++ [nxtB bs (kOf bs id - 1) ++ cutB bs id] ++ bs.drop (kOf bs id + 1) := by
        have e5 : bs.drop (kOf bs id + 1) = [] := List.drop_eq_nil_of_le (by omega)
        rw [e5, List.append_nil]
        have e6 := set_take1 (l := bs.set (kOf bs id) (cutB bs id)) (k := kOf bs id - 1) (z := nxtB bs (kOf bs id - 1) ++ cutB bs id) (by rw [List.length_set]; omega)
        rw [show kOf bs id - 1 + 1 = kOf bs id by omega] at e6
        rw [e6]
        congr 1
        apply List.ext_getElem?
        intro i
        rw [List.getElem?_take, List.getElem?_take]
        by_cases hi : i < kOf bs id - 1
        · rw [if_pos hi, if_pos hi, List.getElem?_set_ne (by omega)]
        · rw [if_neg hi, if_neg hi]
      rw [er] at c2
      rw [ea]
      simp only [vms, vmc, AOpd.val, Nat.reduceEqDiff, reduceCtorEq, Nat.reduceAdd, Nat.reduceBEq, f0, f6, f7, hs1, hs2, lb0, e2, w1, w2, w4, lno, d1, d3, e4, hy1, hy2, ly, w3, d2, hb1, ht1, ht2, c1]
      exact ⟨r', rfl, c2, q05, lo5⟩
    · have d2 : decide ((((cutB bs id).length + (nxtB bs (kOf bs id - 1)).length : Nat) : Int) ≤ 16) = false := by rw [decide_eq_false_iff_not]; omega
      have ea := hrest (fun hh => hk1 hh.1) (fun hh => h16 hh.2.2)
      rw [ea]
      simp only [vms, vmc, AOpd.val, Nat.reduceEqDiff, reduceCtorEq, Nat.reduceAdd, Nat.reduceBEq, f0, f6, f7, hs1, hs2, lb0, e2, w1, w2, w4, lno, d1, d3, e4, hy1, hy2, ly, w3, d2]
      exact ⟨ov, rfl, answer, q03, lo3⟩
theorem refRemove_ok (k : Base T) (hl : Low h) {v : AV} {bs : List (List Int)} {id : Int} (s : BlksV h v bs) (g : Good bs) (sm : Small bs) :
    Gives T 26 [v, .int .i64 id] h fun r h' => ∃ rv, r = .tuple [rv, .bool (removeB bs id).2] ∧ BlksG (fun o => h.next ≤ o) h' rv (removeB bs id).1 ∧ Quiet h h' ∧ Low h' := by
  refine gives_func (k.env 26 (by decide)) (k.at (n := 26) rfl) rfl ?_
  have ln := s.len
  have hbl := g.len
  simp only [a26]
  rw [c26_eq]
  simp only [cPut, c26, vms, vmc, AOpd.val, Nat.reduceEqDiff, reduceCtorEq, Nat.reduceAdd, Nat.reduceBEq]
  by_cases hne : bs = []
  · subst hne
    have ea : removeB [] id = ([], false) := by unfold removeB; rw [if_pos (by simp [blkAt])]
    have ln0 : lenOfV v = some 0 := ln
    rw [ea]
    simp only [vms, vmc, AOpd.val, Nat.reduceEqDiff, reduceCtorEq, Nat.reduceAdd, Nat.reduceBEq, ln0, show (((0 : Nat) : Int) == 0) = true from rfl]
    exact ⟨.nilSlice, rfl, ⟨[], .inl ⟨rfl, rfl⟩, trivial, fun o ho => by simp [objs] at ho, ⟨rfl, fun i x b hx => by simp at hx⟩, fun x hx => by simp at hx⟩, Quiet.refl _, hl⟩
  · have hk := kOf_lt hne id
    have hblk := blkAt_some hne id
    obtain ⟨p, x, hp1, hp2, hx⟩ := s.at hblk .i64
    have e0 : ((bs.length : Int) == 0) = false := by
      have := List.length_pos_iff.2 hne
      simp; omega
    have h16B := sm _ (List.mem_of_getElem? hblk)
    have lx : lenOfV x = some (blkAt bs id).length := by have := hx.1.len; rwa [izs, List.length_map] at this
    simp only [vms, vmc, AOpd.val, Nat.reduceEqDiff, reduceCtorEq, Nat.reduceAdd, Nat.reduceBEq, ln, e0]
    refine Gives.bind ((at_ok k s g).mono ?_)
    rintro _ _ ⟨rfl, rfl⟩
    rename_i h0
    simp only [vms, vmc, AOpd.val, Nat.reduceEqDiff, reduceCtorEq, Nat.reduceAdd, Nat.reduceBEq, hp1, hp2, lx]
    refine wpc_loop (fun d f h' => ∃ j bv, d = (blkAt bs id).length - j ∧ j ≤ (blkAt bs id).length ∧ Quiet h0 h' ∧ Low h' ∧ Row1 h' bv (izs (sieve ((blkAt bs id).take j) id)) ∧ (∀ o ∈ objs bv, h0.next ≤ o) ∧ f.at 0 = v ∧ f.at 1 = .int .i64 id ∧ f.at 6 = .int .i64 (kOf bs id : Int) ∧ f.at 7 = bv ∧ f.at 20 = x ∧ f.at 21 = .int .i64 ((blkAt bs id).length : Int) ∧ f.at 22 = .int .i64 (j : Int)) ?_ (blkAt bs id).length _ _
      ⟨0, .nilSlice, by omega, by omega, Quiet.refl _, hl, .inl ⟨rfl, rfl⟩, fun o ho => by simp [objs] at ho, ?_⟩
    · rintro d f h1 ⟨j, bv, rfl, hj, q, lo, row, fr, f0, f1, f6, f7, f20, f21, f22⟩
      have pl := sieve_len ((blkAt bs id).take j) id
      rw [List.length_take] at pl
      by_cases hlt : j < (blkAt bs id).length
      · have d1 : decide ((j : Int) < ((blkAt bs id).length : Int)) = true := by rw [decide_eq_true_eq]; omega
        have w2 : IntKind.i64.wrap ((j : Int) + 1) = ((j + 1 : Nat) : Int) := by rw [wrap_i64 (by omega) (by omega)]; omega
        obtain ⟨y, hy⟩ : ∃ y, (blkAt bs id)[j]? = some y := ⟨_, List.getElem?_eq_getElem hlt⟩
        obtain ⟨p2, hq1, hq2⟩ := (sees_keep hx.1 hl q).at (i := j) (x := .int .i64 y) (by rw [izs, List.getElem?_map, hy]; rfl) .i64
        have es : sieve ((blkAt bs id).take (j + 1)) id = sieve ((blkAt bs id).take j) id ++ (if y ≠ id then [y] else []) := by
          unfold sieve
          rw [take_snoc hy, List.filter_append]
          by_cases he : y = id
          · simp [he]
          · simp [he]
        by_cases he : y = id
        · have e1 : (y != id) = false := by simp [he]
          rw [if_neg (fun hh => hh he), List.append_nil] at es
          rw [← es] at row
          simp only [c26l0, vms, vmc, AOpd.val, Nat.reduceEqDiff, reduceCtorEq, Nat.reduceAdd, Nat.reduceBEq, f0, f1, f6, f7, f20, f21, f22, d1, hq1, hq2, e1, w2]
          exact ⟨(blkAt bs id).length - (j + 1), by omega, j + 1, bv, rfl, by omega, q, lo, row, fr, by trivial, by trivial, by trivial, by trivial, by trivial, by trivial, by trivial⟩
        · have e1 : (y != id) = true := by simp [he]
          rw [if_pos he] at es
          have by1 : fillV [AV.int .i64 0] [(0, 1, AV.int .i64 y)] = some [AV.int .i64 y] := fill1 rfl rfl
          obtain ⟨bv', h2, ha, row2, fr2, q2, lo2⟩ := push q lo row fr (by omega) y
          rw [← es] at row2
          simp only [c26l0, vms, vmc, AOpd.val, Nat.reduceEqDiff, reduceCtorEq, Nat.reduceAdd, Nat.reduceBEq, f0, f1, f6, f7, f20, f21, f22, d1, hq1, hq2, e1, by1, ha, w2]
          exact ⟨(blkAt bs id).length - (j + 1), by omega, j + 1, bv', rfl, by omega, q2, lo2, row2, fr2, by trivial, by trivial, by trivial, by trivial, by trivial, by trivial, by trivial⟩
      · have d1 : decide ((j : Int) < ((blkAt bs id).length : Int)) = false := by rw [decide_eq_false_iff_not]; omega
        rw [List.take_of_length_le (by omega)] at row
        simp only [c26l0, vms, vmc, AOpd.val, Nat.reduceEqDiff, reduceCtorEq, Nat.reduceAdd, Nat.reduceBEq, f0, f1, f6, f7, f20, f21, f22, d1]
        exact remove_tail k hl q lo s g sm hne row fr (by simp only [vms, vmc, AOpd.val, Nat.reduceEqDiff, reduceCtorEq, Nat.reduceAdd, Nat.reduceBEq, f0]) (by simp only [vms, vmc, AOpd.val, Nat.reduceEqDiff, reduceCtorEq, Nat.reduceAdd, Nat.reduceBEq, f6]) (by simp only [vms, vmc, AOpd.val, Nat.reduceEqDiff, reduceCtorEq, Nat.reduceAdd, Nat.reduceBEq, f7])
    · simp only [vms, vmc, AOpd.val, Nat.reduceEqDiff, reduceCtorEq, Nat.reduceAdd, Nat.reduceBEq]
      simp
end Go.Proofs.Yteokopjiaiflnaa

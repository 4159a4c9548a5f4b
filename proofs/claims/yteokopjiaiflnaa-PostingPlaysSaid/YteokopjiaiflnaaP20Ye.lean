/- The reference's Add. -/
import Derived.Test.YteokopjiaiflnaaP20Yd
namespace Go.Proofs.Yteokopjiaiflnaa
open Go.Vm
set_option linter.unusedSimpArgs false
set_option linter.unusedVariables false
set_option maxRecDepth 100000
variable {T : Vm.Prog} {h : AH}
def cTail : Nat → ACode → ACode
  | 0, c => c
  | n + 1, .seq _ b => cTail n b
  | _, c => c
def cPut : Nat → ACode → ACode → ACode
  | 0, _, t => t
  | n + 1, .seq a b, t => .seq a (cPut n b t)
  | _, c, _ => c
def c25u : ACode := cTail 8 c25
def c25w : ACode := cTail 10 c25
theorem c25_eq : c25 = cPut 8 c25 c25u := rfl
theorem c25u_eq : c25u = cPut 2 (cTail 8 c25) c25w := rfl
/-- One number behind a row. -/
theorem push {h1 : AH} (q : Quiet h h1) (lo : Low h1) {bv : AV} {L : List Int} (row : Row1 h1 bv (izs L)) (fr : ∀ o ∈ objs bv, h.next ≤ o) (hL : L.length < 100000) (y : Int) :
    ∃ bv' h2, appV 1 8 (h1.new (.cells [.int .i64 y] true)) bv (.slice h1.next 0 1 1 1 true) = some (bv', h2) ∧ Row1 h2 bv' (izs (L ++ [y])) ∧ (∀ o ∈ objs bv', h.next ≤ o) ∧ Quiet h h2 ∧ Low h2 := by
  obtain ⟨bv', h2, ha, r2, fr2, m2, lo2⟩ := row_app (bytes := 8) (x := .int .i64 y) lo row (by decide) (by decide) (by rw [izs, List.length_map]; omega) rfl
  refine ⟨bv', h2, ha, by simpa [izs] using r2, fun o ho => ?_, mods_quiet q m2 fr, lo2⟩
  rcases fr2 o ho with h5 | h5
  · exact fr o h5
  · have := q.1; omega
theorem sees_head3 {v : AV} {xs : List AV} (s : Sees h v xs) (hc : capOk v) {n : Nat} (hn : n ≤ xs.length) : ∃ v', slcV 1 v none (some (.int .i64 (n : Int))) (some (.int .i64 (n : Int))) = some v' ∧ Sees h v' (xs.take n) ∧ capOk v' ∧ (∀ o ∈ objs v', o ∈ objs v) ∧ (v' = .nilSlice ∨ ∃ o off, v' = .slice o off 1 n n true) := by
  rcases s with ⟨rfl, rfl⟩ | ⟨o, off, cap, ex, l, rw, rfl, hg, h1, h2⟩
  · have : n = 0 := by simpa using hn
    subst this
    exact ⟨.nilSlice, by simp [slcV, bounds, boundM, boundH, boundL, natOf, Option.filter], .inl ⟨rfl, rfl⟩, trivial, fun o ho => ho, .inl rfl⟩
  · have hc' : xs.length ≤ cap := hc
    have hnc : n ≤ cap := by omega
    refine ⟨.slice o off 1 n n true, ?_, .inr ⟨o, off, n, true, l, rw, by rw [List.length_take, Nat.min_eq_left hn], hg, by rw [List.length_take]; omega, fun i x hx => ?_⟩, Nat.le_refl n, fun o ho => by simpa [objs] using ho, .inr ⟨o, off, rfl⟩⟩
    · simp [slcV, bounds, boundM, boundH, boundL, natOf, Option.filter, hnc]
    · rw [List.getElem?_take] at hx
      split at hx
      · exact h2 i x hx
      · cases hx
theorem add_fin (k : Base T) (hl : Low h) {h1 : AH} {v ov : AV} {bs cs : List (List Int)} {id : Int} (q : Quiet h h1) (lo : Low h1) (s : BlksV h v bs) (g : Good bs) (sm : Small bs) (fr : RowB h.next h1 ov cs) (hcs : cs.length < 100000 + 2) (hk : kOf bs id < bs.length) {f : Fr} (f0 : f.at 0 = v) (f6 : f.at 6 = .int .i64 (kOf bs id : Int)) (f11 : f.at 11 = ov) :
    Wp (code T c25w f h1) (Vm.Ends [.tmp 4, .tmp 5] fun r h' => ∃ rv, r = .tuple [rv, .bool true] ∧ BlksG (fun o => h.next ≤ o) h' rv (cs ++ bs.drop (kOf bs id + 1)) ∧ Quiet h h' ∧ Low h') := by
  have hbl := g.len
  have w1 : IntKind.i64.wrap (((kOf bs id : Nat) : Int) + 1) = ((kOf bs id + 1 : Nat) : Int) := by rw [wrap_i64 (by omega) (by omega)]; omega
  obtain ⟨t, ht1, ht2⟩ := (s.keep hl q).tail (k := kOf bs id + 1) (by omega)
  simp only [c25w, cTail, c25, vms, vmc, AOpd.val, Nat.reduceEqDiff, reduceCtorEq, Nat.reduceAdd, Nat.reduceBEq, f0, f6, f11, w1, ht1]
  refine Gives.bind ((copied_ok k lo ht2 (by rw [List.length_drop]; omega) (fun b hb => by have := sm b (List.mem_of_mem_drop hb); omega)).mono ?_)
  rintro tv h2 ⟨ap, q2, lo2⟩
  obtain ⟨rv, h3, ha, fr3, m3, lo3⟩ := rowB_copied lo q2 lo2 fr ap q.1 (by rw [List.length_drop]; omega)
  have ob : ∀ o ∈ objs ov, h.next ≤ o := by obtain ⟨_, _, h9, _⟩ := fr; exact h9
  simp only [vms, vmc, AOpd.val, Nat.reduceEqDiff, reduceCtorEq, Nat.reduceAdd, Nat.reduceBEq, f0, f6, f11, ha]
  exact ⟨rv, rfl, fr3.g, mods_quiet (q.trans q2) m3 ob, lo3⟩
theorem add_tail (k : Base T) (hl : Low h) {h1 : AH} {v bv : AV} {bs : List (List Int)} {id : Int} (q : Quiet h h1) (lo : Low h1) (s : BlksV h v bs) (g : Good bs) (sm : Small bs) (hne : bs ≠ []) (hno : ¬ (id < 0 ∨ 1073741824 < id ∨ id ∈ blkAt bs id)) (row : Row1 h1 bv (izs (insB bs id))) (fb : ∀ o ∈ objs bv, h.next ≤ o)
    {f : Fr} (f0 : f.at 0 = v) (f6 : f.at 6 = .int .i64 (kOf bs id : Int)) (f7 : f.at 7 = bv) :
    Wp (code T c25u f h1) (Vm.Ends [.tmp 4, .tmp 5] fun r h' => ∃ rv, r = .tuple [rv, .bool (addB bs id).2] ∧ BlksG (fun o => h.next ≤ o) h' rv (addB bs id).1 ∧ Quiet h h' ∧ Low h') := by
  have hbl := g.len
  have hk := kOf_lt hne id
  have hpl := pos_le (blkAt bs id) id
  have h16B := sm _ (List.mem_of_getElem? (blkAt_some hne id))
  have el : (insB bs id).length = (blkAt bs id).length + 1 := by simp [insB]; omega
  obtain ⟨t, ht1, ht2⟩ := (s.keep hl q).head (k := kOf bs id) (by omega)
  rw [c25u_eq]
  simp only [cPut, cTail, c25, vms, vmc, AOpd.val, Nat.reduceEqDiff, reduceCtorEq, Nat.reduceAdd, Nat.reduceBEq, f0, f6, f7, ht1]
  refine Gives.bind ((copied_ok k lo ht2 (by rw [List.length_take]; omega) (fun b hb => by have := sm b (List.mem_of_mem_take hb); omega)).mono ?_)
  rintro ov h2 ⟨ap, q2, lo2⟩
  have row2 := row_quiet row lo q2
  have blow := RowS.low row lo
  have lnb : lenOfV bv = some (insB bs id).length := by have := row2.sees.len; rwa [izs, List.length_map] at this
  have fo : ∀ o ∈ objs ov, h1.next ≤ o := by obtain ⟨_, _, h9, _⟩ := ap; exact h9
  have frO : RowB h.next h2 ov (bs.take (kOf bs id)) := ap.fresh.rowB.mono q.1
  have cb := sees_cell row2.sees
  have db := sees_def row2.sees
  have hbo : ∀ o ∈ objs bv, h.next ≤ o ∧ o ∉ objs ov := fun o ho => ⟨fb o ho, fun hor => by have := blow o ho; have := fo o hor; omega⟩
  have q02 := q.trans q2
  have obo : ∀ o ∈ objs ov, h.next ≤ o := fun o ho => by have := fo o ho; have := q.1; omega
  by_cases h16 : (insB bs id).length > 16
  · have ea : addB bs id = (bs.take (kOf bs id) ++ [(insB bs id).take (halfN (insB bs id).length), (insB bs id).drop (halfN (insB bs id).length)] ++ bs.drop (kOf bs id + 1), true) := by unfold addB; rw [if_neg hno, if_neg hne, if_neg (by omega)]
    have d1 : decide (((insB bs id).length : Int) > 16) = true := by rw [decide_eq_true_eq]; omega
    have w2 : IntKind.i64.wrap (((insB bs id).length : Int) + 1) = (((insB bs id).length + 1 : Nat) : Int) := by rw [wrap_i64 (by omega) (by omega)]; omega
    have w3 : IntKind.i64.wrap (Int.tdiv (((insB bs id).length + 1 : Nat) : Int) 2) = ((halfN (insB bs id).length : Nat) : Int) := by
      have e : (((insB bs id).length + 1 : Nat) : Int).tdiv 2 = ((halfN (insB bs id).length : Nat) : Int) := by
        rw [Int.tdiv_eq_ediv_of_nonneg (by omega)]; unfold halfN; omega
      rw [e]; exact wrap_i64 (by omega) (by unfold halfN; omega)
    have hh : halfN (insB bs id).length ≤ (insB bs id).length := by unfold halfN; omega
    obtain ⟨a, ha1, ha2, ha3, ha4, _⟩ := sees_head3 row2.sees (row_cap row2) (n := halfN (insB bs id).length) (by rw [izs, List.length_map]; exact hh)
    obtain ⟨z, hz1, hz2, hz3, hz4⟩ := sees_tailC row2.sees (row_cap row2) (n := halfN (insB bs id).length) (by rw [izs, List.length_map]; exact hh)
    rw [izs, ← List.map_drop] at hz2
    rw [izs, ← List.map_take] at ha2
    obtain ⟨y, h4, hy, ry, fy, q4, lo4⟩ := clone_app lo2 hz2 (by rw [List.length_drop]; omega)
    have bf0 : fillV [] [] = some [] := rfl
    have ca := sees_cell ha2
    have cy := sees_cell ry.sees
    have bf2 : fillV [AV.nilSlice, AV.nilSlice] [(0, 1, a), (1, 1, y)] = some [a, y] := fill2 (sees_def ha2) (sees_def ry.sees) ca.1 cy.1
    have q5 : Quiet h2 (h4.new (.cells [a, y] true)) := q4.new _
    have lo5 := lo4.new (.cells [a, y] true)
    have ha5 : Sees (h4.new (.cells [a, y] true)) a (izs ((insB bs id).take (halfN (insB bs id).length))) := sees_keep ha2 lo2 q5
    have ry5 := row_quiet ry lo4 ((Quiet.refl _).new (.cells [a, y] true))
    obtain ⟨ov', h6, hov, fr6, m6, lo6⟩ := rowB_app (w := .slice h4.next 0 1 2 2 true) (ws := [a, y]) (cs := [(insB bs id).take (halfN (insB bs id).length), (insB bs id).drop (halfN (insB bs id).length)]) lo5 (frO.keep lo2 q5) (sees_lit get_new_same rfl) (by have := q02.1; have := q5.1; omega) rfl (fun i x b hx hb => by
      match i with
      | 0 =>
        simp at hx hb
        subst hx hb
        exact ⟨⟨ha5, ha3⟩, fun o ho => hbo o (ha4 o ho)⟩
      | 1 =>
        simp at hx hb
        subst hx hb
        refine ⟨⟨ry5.sees, row_cap ry5⟩, fun o ho => ⟨by have := fy o ho; have := q02.1; omega, fun hor => ?_⟩⟩
        have := fy o ho
        have := (sees_low ap.fresh.rowB.choose_spec.1.sees lo2) o hor
        omega
      | i + 2 => simp at hx) (fun x hx => by
      simp at hx
      rcases hx with rfl | rfl
      · exact ca.2
      · exact cy.2) (by rw [List.length_take]; simp; omega)
    have b5 := beqs2 (sees_beq ha2) (sees_beq ry.sees)
    simp only [vms, vmc, AOpd.val, Nat.reduceEqDiff, reduceCtorEq, Nat.reduceAdd, Nat.reduceBEq, f0, f6, f7, lnb, d1, w2, bin_quo2, w3, ha1, bf0, hz1]
    rw [items_look (look_build (q := h2.next) (l := []) (by simp only [vms, vmc, AOpd.val, Nat.reduceEqDiff, reduceCtorEq, Nat.reduceAdd, Nat.reduceBEq]; exact bf0) (by simp only [vms, vmc, AOpd.val, Nat.reduceEqDiff, reduceCtorEq, Nat.reduceAdd, Nat.reduceBEq]; rfl) get_new_same rfl)]
    simp only [vms, vmc, AOpd.val, Nat.reduceEqDiff, reduceCtorEq, Nat.reduceAdd, Nat.reduceBEq, hy, bf2]
    rw [items_look (look_build (q := h4.next) (l := [a, y]) (by simp only [vms, vmc, AOpd.val, Nat.reduceEqDiff, reduceCtorEq, Nat.reduceAdd, Nat.reduceBEq]; exact bf2) (by simp only [vms, vmc, AOpd.val, Nat.reduceEqDiff, reduceCtorEq, Nat.reduceAdd, Nat.reduceBEq]; rfl) get_new_same b5)]
    simp only [vms, vmc, AOpd.val, Nat.reduceEqDiff, reduceCtorEq, Nat.reduceAdd, Nat.reduceBEq, hov]
    rw [ea]
    exact add_fin k hl (mods_quiet (q02.trans q5) m6 obo) lo6 s g sm fr6 (by simp; omega) hk (by simp only [vms, vmc, AOpd.val, Nat.reduceEqDiff, reduceCtorEq, Nat.reduceAdd, Nat.reduceBEq, f0]) (by simp only [vms, vmc, AOpd.val, Nat.reduceEqDiff, reduceCtorEq, Nat.reduceAdd, Nat.reduceBEq, f6]) (by simp only [vms, vmc, AOpd.val, Nat.reduceEqDiff, reduceCtorEq, Nat.reduceAdd, Nat.reduceBEq])
  · have ea : addB bs id = (bs.take (kOf bs id) ++ [insB bs id] ++ bs.drop (kOf bs id + 1), true) := by unfold addB; rw [if_neg hno, if_neg hne, if_pos (by omega)]
    have d1 : decide (((insB bs id).length : Int) > 16) = false := by rw [decide_eq_false_iff_not]; omega
    have bf : fillV [AV.nilSlice] [(0, 1, bv)] = some [bv] := fill1 db cb.1
    have q3 : Quiet h2 (h2.new (.cells [bv] true)) := (Quiet.refl _).new _
    have lo3 := lo2.new (.cells [bv] true)
    obtain ⟨ov', h4, ha, fr4, m4, lo4⟩ := rowB_app (w := .slice h2.next 0 1 1 1 true) (ws := [bv]) (cs := [insB bs id]) lo3 (frO.keep lo2 q3) (sees_lit get_new_same rfl) (by have := q02.1; rw [next_new]; omega) rfl (fun i x b hx hb => by
      match i with
      | 0 =>
        simp at hx hb
        subst hx hb
        have row3 := row_quiet row2 lo2 q3
        exact ⟨⟨row3.sees, row_cap row3⟩, hbo⟩
      | i + 1 => simp at hx) (fun x hx => by simp at hx; subst hx; exact cb.2) (by rw [List.length_take]; simp; omega)
    simp only [vms, vmc, AOpd.val, Nat.reduceEqDiff, reduceCtorEq, Nat.reduceAdd, Nat.reduceBEq, f0, f6, f7, lnb, d1, bf, ha]
    rw [ea]
    exact add_fin k hl (mods_quiet (q02.trans q3) m4 obo) lo4 s g sm fr4 (by simp; omega) hk (by simp only [vms, vmc, AOpd.val, Nat.reduceEqDiff, reduceCtorEq, Nat.reduceAdd, Nat.reduceBEq, f0]) (by simp only [vms, vmc, AOpd.val, Nat.reduceEqDiff, reduceCtorEq, Nat.reduceAdd, Nat.reduceBEq, f6]) (by simp only [vms, vmc, AOpd.val, Nat.reduceEqDiff, reduceCtorEq, Nat.reduceAdd, Nat.reduceBEq])
theorem refAdd_ok (k : Base T) (hl : Low h) {v : AV} {bs : List (List Int)} {id : Int} (s : BlksV h v bs) (g : Good bs) (sm : Small bs) :
    Gives T 25 [v, .int .i64 id] h fun r h' => ∃ rv, r = .tuple [rv, .bool (addB bs id).2] ∧ BlksG (fun o => h.next ≤ o) h' rv (addB bs id).1 ∧ Quiet h h' ∧ Low h' := by
  refine gives_func (k.env 25 (by decide)) (k.at (n := 25) rfl) rfl ?_
  have ln := s.len
  have hbl := g.len
  have hb : ∀ b ∈ bs, b.length < 100000 := fun b hb => by have := sm b hb; omega
  simp only [a25]
  rw [c25_eq]
  simp only [cPut, c25, vms, vmc, AOpd.val, Nat.reduceEqDiff, reduceCtorEq, Nat.reduceAdd, Nat.reduceBEq]
  by_cases hneg : id < 0
  · have ea : addB bs id = (bs, false) := by unfold addB; rw [if_pos (.inl hneg)]
    rw [ea]
    simp only [vms, vmc, AOpd.val, Nat.reduceEqDiff, reduceCtorEq, Nat.reduceAdd, Nat.reduceBEq, decide_eq_true hneg]
    refine Gives.bind ((copied_ok k hl s hbl hb).mono ?_)
    rintro r h1 ⟨ap, q, lo⟩
    simp only [vms, vmc, AOpd.val, Nat.reduceEqDiff, reduceCtorEq, Nat.reduceAdd, Nat.reduceBEq]
    exact ⟨r, rfl, ap.fresh.rowB.g, q, lo⟩
  by_cases hbig : id > 1073741824
  · have ea : addB bs id = (bs, false) := by unfold addB; rw [if_pos (.inr (.inl hbig))]
    rw [ea]
    simp only [vms, vmc, AOpd.val, Nat.reduceEqDiff, reduceCtorEq, Nat.reduceAdd, Nat.reduceBEq, decide_eq_false hneg, decide_eq_true hbig]
    refine Gives.bind ((copied_ok k hl s hbl hb).mono ?_)
    rintro r h1 ⟨ap, q, lo⟩
    simp only [vms, vmc, AOpd.val, Nat.reduceEqDiff, reduceCtorEq, Nat.reduceAdd, Nat.reduceBEq]
    exact ⟨r, rfl, ap.fresh.rowB.g, q, lo⟩
  by_cases hne : bs = []
  · subst hne
    have ea : addB [] id = ([[id]], true) := by
      unfold addB
      rw [if_neg (by simp [blkAt]; omega), if_pos rfl]
    have ln0 : lenOfV v = some 0 := ln
    have b1 : fillV [AV.int .i64 0] [(0, 1, AV.int .i64 id)] = some [AV.int .i64 id] := fill1 rfl rfl
    have b2 : fillV [AV.nilSlice] [(0, 1, AV.slice h.next 0 1 1 1 true)] = some [AV.slice h.next 0 1 1 1 true] := fill1 rfl rfl
    rw [ea]
    simp only [vms, vmc, AOpd.val, Nat.reduceEqDiff, reduceCtorEq, Nat.reduceAdd, Nat.reduceBEq, decide_eq_false hneg, decide_eq_false hbig, ln0, show (((0 : Nat) : Int) == 0) = true from rfl, b1, b2]
    have g1 : ((h.new (.cells [.int .i64 id] true)).new (.cells [.slice h.next 0 1 1 1 true] true)).get h.next = some (.cells [.int .i64 id] true) := by
      rw [AH.get_new, if_neg (by rw [next_new]; omega), get_new_same]
    refine ⟨_, rfl, ?_, ((Quiet.refl _).new _).new _, (hl.new _).new _⟩
    exact blks_lit get_new_same rfl (by rw [next_new]; omega) (eltsG1 ⟨sees_lit g1 rfl, Nat.le_refl _⟩ fun o ho => by simp [objs] at ho; omega)
  · have hk := kOf_lt hne id
    have hblk := blkAt_some hne id
    obtain ⟨p, x, hp1, hp2, hx⟩ := s.at hblk .i64
    have e0 : ((bs.length : Int) == 0) = false := by
      have := List.length_pos_iff.2 hne
      simp; omega
    have h16B := sm _ (List.mem_of_getElem? hblk)
    obtain ⟨_, rise, _⟩ := g.block hblk
    have lx : lenOfV x = some (blkAt bs id).length := by have := hx.1.len; rwa [izs, List.length_map] at this
    simp only [vms, vmc, AOpd.val, Nat.reduceEqDiff, reduceCtorEq, Nat.reduceAdd, Nat.reduceBEq, decide_eq_false hneg, decide_eq_false hbig, ln, e0]
    refine Gives.bind ((at_ok k s g).mono ?_)
    rintro _ _ ⟨rfl, rfl⟩
    rename_i h0
    simp only [vms, vmc, AOpd.val, Nat.reduceEqDiff, reduceCtorEq, Nat.reduceAdd, Nat.reduceBEq, hp1, hp2, lx]
    generalize hB : blkAt bs id = B at *
    refine wpc_loop (fun d f h' => ∃ j bv, d = B.length - j ∧ j ≤ B.length ∧ Quiet h0 h' ∧ Low h' ∧ Row1 h' bv (izs (part B id j)) ∧ (∀ o ∈ objs bv, h0.next ≤ o) ∧ (∀ t y, t < j → B[t]? = some y → y ≠ id) ∧ f.at 0 = v ∧ f.at 1 = .int .i64 id ∧ f.at 6 = .int .i64 (kOf bs id : Int) ∧ f.at 7 = bv ∧ f.at 8 = .bool (decide (pos B id < j)) ∧ f.at 33 = x ∧ f.at 34 = .int .i64 (B.length : Int) ∧ f.at 35 = .int .i64 (j : Int)) ?_ B.length _ _
      ⟨0, .nilSlice, by omega, by omega, Quiet.refl _, hl, by rw [show part B id 0 = [] by unfold part; rw [if_neg (by omega)]; rfl]; exact .inl ⟨rfl, rfl⟩, fun o ho => by simp [objs] at ho, fun t y ht => by omega, ?_⟩
    · rintro d f h1 ⟨j, bv, rfl, hj, q, lo, row, fr, hlo, f0, f1, f6, f7, f8, f33, f34, f35⟩
      have pl := part_len B id j
      by_cases hlt : j < B.length
      · have d1 : decide ((j : Int) < (B.length : Int)) = true := by rw [decide_eq_true_eq]; omega
        have w2 : IntKind.i64.wrap ((j : Int) + 1) = ((j + 1 : Nat) : Int) := by rw [wrap_i64 (by omega) (by omega)]; omega
        obtain ⟨y, hy⟩ : ∃ y, B[j]? = some y := ⟨_, List.getElem?_eq_getElem hlt⟩
        obtain ⟨p2, hq1, hq2⟩ := (sees_keep hx.1 hl q).at (i := j) (x := .int .i64 y) (by rw [izs, List.getElem?_map, hy]; rfl) .i64
        have hit := pos_iff rise (t := id) hy
        by_cases he : y = id
        · have e1 : (y == id) = true := by simp [he]
          have ea : addB bs id = (bs, false) := by
            unfold addB; rw [hB, if_pos (.inr (.inr (he ▸ List.mem_of_getElem? hy)))]
          rw [ea]
          simp only [c25l0, vms, vmc, AOpd.val, Nat.reduceEqDiff, reduceCtorEq, Nat.reduceAdd, Nat.reduceBEq, f0, f1, f6, f7, f8, f33, f34, f35, d1, hq1, hq2, e1]
          refine Gives.bind ((copied_ok k lo (s.keep hl q) hbl hb).mono ?_)
          rintro r h2 ⟨ap, q2, lo2⟩
          simp only [vms, vmc, AOpd.val, Nat.reduceEqDiff, reduceCtorEq, Nat.reduceAdd, Nat.reduceBEq]
          exact ⟨r, rfl, (ap.fresh.rowB.mono q.1).g, q.trans q2, lo2⟩
        · have e1 : (y == id) = false := by simp [he]
          have hlo' : ∀ t z, t < j + 1 → B[t]? = some z → z ≠ id := fun t z ht hz => by
            by_cases e : t = j
            · subst e; rw [hy] at hz; cases hz; exact he
            · exact hlo t z (by omega) hz
          have by1 : fillV [AV.int .i64 0] [(0, 1, AV.int .i64 y)] = some [AV.int .i64 y] := fill1 rfl rfl
          have bi1 : fillV [AV.int .i64 0] [(0, 1, AV.int .i64 id)] = some [AV.int .i64 id] := fill1 rfl rfl
          by_cases hdone : pos B id < j
          · rw [decide_eq_true hdone] at f8
            obtain ⟨bv', h2, ha, row2, fr2, q2, lo2⟩ := push q lo row fr (by omega) y
            rw [← part_next hy hdone] at row2
            simp only [c25l0, vms, vmc, AOpd.val, Nat.reduceEqDiff, reduceCtorEq, Nat.reduceAdd, Nat.reduceBEq, f0, f1, f6, f7, f8, f33, f34, f35, d1, hq1, hq2, e1, by1, ha, w2]
            exact ⟨B.length - (j + 1), by omega, j + 1, bv', rfl, by omega, q2, lo2, row2, fr2, hlo', by trivial, by trivial, by trivial, by trivial, by rw [decide_eq_true (show pos B id < j + 1 by omega)], by trivial, by trivial, by trivial⟩
          · rw [decide_eq_false hdone] at f8
            by_cases hgt : y > id
            · have hp : pos B id = j := by
                refine Classical.byContradiction fun hn => ?_
                have := hit.1 (by omega); omega
              obtain ⟨bv1, h2, ha1, row1, fr1, q1, lo1⟩ := push q lo row fr (by omega) id
              obtain ⟨bv', h3, ha, row2, fr2, q2, lo2⟩ := push q1 lo1 row1 fr1 (by simp; omega) y
              rw [← part_put hy hp] at row2
              simp only [c25l0, vms, vmc, AOpd.val, Nat.reduceEqDiff, reduceCtorEq, Nat.reduceAdd, Nat.reduceBEq, f0, f1, f6, f7, f8, f33, f34, f35, d1, hq1, hq2, e1, decide_eq_true hgt, bi1, ha1, by1, ha, w2]
              exact ⟨B.length - (j + 1), by omega, j + 1, bv', rfl, by omega, q2, lo2, row2, fr2, hlo', by trivial, by trivial, by trivial, by trivial, by rw [decide_eq_true (show pos B id < j + 1 by omega)], by trivial, by trivial, by trivial⟩
            · have hp : j < pos B id := hit.2 (by omega)
              obtain ⟨bv', h2, ha, row2, fr2, q2, lo2⟩ := push q lo row fr (by omega) y
              rw [← part_low hy hp] at row2
              simp only [c25l0, vms, vmc, AOpd.val, Nat.reduceEqDiff, reduceCtorEq, Nat.reduceAdd, Nat.reduceBEq, f0, f1, f6, f7, f8, f33, f34, f35, d1, hq1, hq2, e1, decide_eq_false hgt, by1, ha, w2]
              exact ⟨B.length - (j + 1), by omega, j + 1, bv', rfl, by omega, q2, lo2, row2, fr2, hlo', by trivial, by trivial, by trivial, by trivial, by rw [decide_eq_false (show ¬ pos B id < j + 1 by omega)], by trivial, by trivial, by trivial⟩
      · have d1 : decide ((j : Int) < (B.length : Int)) = false := by rw [decide_eq_false_iff_not]; omega
        have hj' : j = B.length := by omega
        subst hj'
        have hnm : id ∉ B := fun hm => by
          obtain ⟨t, ht⟩ := List.getElem?_of_mem hm
          exact hlo t id (List.getElem?_eq_some_iff.1 ht).1 ht rfl
        have hno : ¬ (id < 0 ∨ 1073741824 < id ∨ id ∈ blkAt bs id) := by
          rw [hB]; rintro (h | h | h)
          · exact hneg h
          · exact hbig h
          · exact hnm h
        have hpl := pos_le B id
        by_cases hdone : pos B id < B.length
        · rw [decide_eq_true hdone] at f8
          have ei : part B id B.length = insB bs id := by
            unfold part insB
            rw [if_pos hdone, hB, List.take_of_length_le (l := B.drop (pos B id)) (by rw [List.length_drop]; omega)]
          rw [ei] at row
          simp only [c25l0, vms, vmc, AOpd.val, Nat.reduceEqDiff, reduceCtorEq, Nat.reduceAdd, Nat.reduceBEq, f0, f1, f6, f7, f8, f33, f34, f35, d1]
          exact add_tail k hl q lo s g sm hne hno row fr (by simp only [vms, vmc, AOpd.val, Nat.reduceEqDiff, reduceCtorEq, Nat.reduceAdd, Nat.reduceBEq, f0]) (by simp only [vms, vmc, AOpd.val, Nat.reduceEqDiff, reduceCtorEq, Nat.reduceAdd, Nat.reduceBEq, f6]) (by simp only [vms, vmc, AOpd.val, Nat.reduceEqDiff, reduceCtorEq, Nat.reduceAdd, Nat.reduceBEq, f7])
        · rw [decide_eq_false hdone] at f8
          have hp : pos B id = B.length := by omega
          have bi1 : fillV [AV.int .i64 0] [(0, 1, AV.int .i64 id)] = some [AV.int .i64 id] := fill1 rfl rfl
          obtain ⟨bv1, h2, ha1, row1, fr1, q1, lo1⟩ := push q lo row fr (by omega) id
          have ei : part B id B.length ++ [id] = insB bs id := by
            unfold part insB
            rw [if_neg hdone, hB, hp, List.drop_length]; simp
          rw [ei] at row1
          simp only [c25l0, vms, vmc, AOpd.val, Nat.reduceEqDiff, reduceCtorEq, Nat.reduceAdd, Nat.reduceBEq, f0, f1, f6, f7, f8, f33, f34, f35, d1, bi1, ha1]
          exact add_tail k hl q1 lo1 s g sm hne hno row1 fr1 (by simp only [vms, vmc, AOpd.val, Nat.reduceEqDiff, reduceCtorEq, Nat.reduceAdd, Nat.reduceBEq, f0]) (by simp only [vms, vmc, AOpd.val, Nat.reduceEqDiff, reduceCtorEq, Nat.reduceAdd, Nat.reduceBEq, f6]) (by simp only [vms, vmc, AOpd.val, Nat.reduceEqDiff, reduceCtorEq, Nat.reduceAdd, Nat.reduceBEq])
    · simp only [vms, vmc, AOpd.val, Nat.reduceEqDiff, reduceCtorEq, Nat.reduceAdd, Nat.reduceBEq]
      refine ⟨by trivial, by trivial, by trivial, by trivial, ?_, by trivial, by trivial, by trivial⟩
      rw [decide_eq_false (by omega)]
end Go.Proofs.Yteokopjiaiflnaa

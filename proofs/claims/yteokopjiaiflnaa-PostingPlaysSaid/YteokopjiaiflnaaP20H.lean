/- Add. -/
import Derived.Test.YteokopjiaiflnaaP20G
namespace Go.Proofs.Yteokopjiaiflnaa
open Go.Vm
set_option linter.unusedSimpArgs false
set_option linter.unusedVariables false
set_option maxRecDepth 100000
variable {T : Vm.Prog} {h : AH}
def insB (bs : List (List Int)) (id : Int) : List Int := (blkAt bs id).take (pos (blkAt bs id) id) ++ [id] ++ (blkAt bs id).drop (pos (blkAt bs id) id)
def halfN (n : Nat) : Nat := (n + 1) / 2
def addB (bs : List (List Int)) (id : Int) : List (List Int) × Bool :=
  if id < 0 ∨ 1073741824 < id ∨ id ∈ blkAt bs id then (bs, false)
  else if bs = [] then ([[id]], true)
  else if (insB bs id).length ≤ 16 then (bs.take (kOf bs id) ++ [insB bs id] ++ bs.drop (kOf bs id + 1), true)
  else (bs.take (kOf bs id) ++ [(insB bs id).take (halfN (insB bs id).length), (insB bs id).drop (halfN (insB bs id).length)] ++ bs.drop (kOf bs id + 1), true)
/-- What was read, and what is new, but for one cell. -/
def Aft (G : Nat → Prop) (n : Nat) : Nat → Prop := fun o => (G o ∨ n ≤ o) ∧ o ≠ n + 1
theorem aft_new {G : Nat → Prop} {n o : Nat} (h : n + 2 ≤ o) : Aft G n o := ⟨.inr (by omega), by omega⟩
theorem aft_ne {G : Nat → Prop} {n : Nat} (o : Nat) (h : Aft G n o) : o ≠ n + 1 := h.2
theorem aft_out {G : Nat → Prop} {n : Nat} (o : Nat) (h : Aft G n o) : G o ∨ n ≤ o := h.1
theorem ListG.aft {G : Nat → Prop} {v : AV} {bs : List (List Int)} (s : ListG G h v bs) (hl : Low h) : ListG (Aft G h.next) h v bs := by
  obtain ⟨sl, rfl, vs, h1, h2, hv, h3, h4⟩ := s
  refine ⟨sl, rfl, vs, h1, h2, fun o ho => ⟨.inl (hv o ho), by have := sees_low h1 hl o ho; omega⟩, h3, fun x hx o ho => ⟨.inl (h4 x hx o ho), ?_⟩⟩
  obtain ⟨i, hi⟩ := List.getElem?_of_mem hx
  have hlt := (List.getElem?_eq_some_iff.1 hi).1
  have := sees_low (h3.2 i x _ hi (List.getElem?_eq_getElem (h3.1 ▸ hlt))).1 hl o ho
  omega
theorem fin_cell {G : Nat → Prop} {p : Nat} {g : AH} {lv : AV} {cs : List (List Int)} (hG : ∀ o, G o → o ≠ p) (hp : h.next ≤ p) (q : Quiet h g) (lo : Low g) (hz : g.get p = some (.cells [.nilSlice] true)) (s : ListG G g lv cs) :
    ∃ g', storeV g 1 (.ptr p 0) lv = some g' ∧ loadV g' true 1 (.ptr p 0) = some lv ∧ ListG G g' lv cs ∧ Quiet h g' ∧ Low g' := by
  obtain ⟨x, rfl, sb⟩ := s
  refine ⟨g.set p (.cells [x] true), store_res hz sb.v.cell.2.1, load_all get_set_same rfl, ?_, q.set hp _, lo.set (lo _ _ hz) _⟩
  exact ⟨x, rfl, sb.turn fun o ho => by rw [AH.get_set, if_neg (Ne.symm (hG o ho))]⟩
theorem blks_lit {G : Nat → Prop} {q n : Nat} {xs : List AV} {cs : List (List Int)} (hg : h.get q = some (.cells xs true)) (hn : n = xs.length) (hq : G q) (he : EltsG G h xs cs) : BlksG G h (.slice q 0 1 n n true) cs :=
  ⟨xs, sees_lit hg hn, Nat.le_refl _, fun o ho => by simp [objs] at ho; subst ho; exact hq, he⟩
theorem eltsG1 {G : Nat → Prop} {x : AV} {c : List Int} (s : BlkV h x c) (hg : ∀ o ∈ objs x, G o) : EltsG G h [x] [c] := by
  refine ⟨⟨rfl, fun i y d hy hd => ?_⟩, fun y hy => ?_⟩
  · match i with
    | 0 => simp at hy hd; subst hy hd; exact s
    | i + 1 => simp at hy
  · simp at hy; subst hy; exact hg
theorem eltsG2 {G : Nat → Prop} {x y : AV} {c d : List Int} (s : BlkV h x c) (t : BlkV h y d) (hg : ∀ o ∈ objs x, G o) (hg' : ∀ o ∈ objs y, G o) : EltsG G h [x, y] [c, d] := by
  refine ⟨(eltsG1 (G := G) s hg).1.append (eltsG1 (G := G) t hg').1, fun z hz => ?_⟩
  simp at hz
  rcases hz with rfl | rfl
  · exact hg
  · exact hg'
theorem add_ok (k : Base T) (hl : Low h) {G : Nat → Prop} {v : AV} {bs : List (List Int)} {id : Int} (s : ListG G h v bs) (g : Good bs) :
    Gives T 12 [v, .int .i64 id] h fun r h' => ∃ lv, r = .tuple [lv, .bool (addB bs id).2] ∧ ListG (fun o => G o ∨ h.next ≤ o) h' lv (addB bs id).1 ∧ Quiet h h' ∧ Low h' := by
  refine gives_func (k.env 12 (by decide)) (k.at (n := 12) rfl) rfl ?_
  have sG0 := s.aft hl
  obtain ⟨sl, rfl, sbG⟩ := s
  have sb := sbG.v
  have q1 : Quiet h ((h.new (.cells [sl] true)).new (.cells [.nilSlice] true)) := ((Quiet.refl h).new _).new _
  have lo1 : Low ((h.new (.cells [sl] true)).new (.cells [.nilSlice] true)) := (hl.new _).new _
  have hg : ((h.new (.cells [sl] true)).new (.cells [.nilSlice] true)).get h.next = some (.cells [sl] true) := by
    rw [AH.get_new, if_neg (by rw [next_new]; omega), get_new_same]
  have hz : ((h.new (.cells [sl] true)).new (.cells [.nilSlice] true)).get (h.next + 1) = some (.cells [.nilSlice] true) := get_new_same
  have nx : ((h.new (.cells [sl] true)).new (.cells [.nilSlice] true)).next = h.next + 2 := rfl
  have bsl := sb.cell.2.2
  have sG : ListG (Aft G h.next) h (.agg [sl]) bs := sG0
  simp only [a12, c12, vms, vmc, AOpd.val, Nat.reduceEqDiff, reduceCtorEq, Nat.reduceAdd, Nat.reduceBEq, box_list, next_new]
  generalize ((h.new (.cells [sl] true)).new (.cells [.nilSlice] true)) = h1 at *
  simp only [vms, vmc, AOpd.val, Nat.reduceEqDiff, reduceCtorEq, Nat.reduceAdd, Nat.reduceBEq, load_boxA hg]
  refine Gives.bind ((place_ok k lo1 ⟨sl, rfl, sb.keep hl q1⟩ g).mono ?_)
  rintro _ h2 ⟨rfl, q2, lo2⟩
  have q12 := q1.trans q2
  have hg2 := q2.get hg (by omega)
  have hz2 := q2.get hz (by omega)
  have nx2 : h.next + 2 ≤ h2.next := by have := q2.1; omega
  have sG2 := sG.keep hl q12
  have hlen := g.len
  have refuse : ∀ {P : Prop} {lvx : AV × AH}, True := fun {_ _} => trivial
  -- what is refused
  obtain ⟨gR, st, ld, sR, qR, loR⟩ := fin_cell (h := h) aft_ne (by omega) q12 lo2 hz2 sG2
  by_cases hneg : id < 0
  · have ea : addB bs id = (bs, false) := if_pos (.inl hneg)
    simp only [vms, vmc, AOpd.val, Nat.reduceEqDiff, reduceCtorEq, Nat.reduceAdd, Nat.reduceBEq, decide_eq_true hneg, load_boxA hg2, st, res_cell, ld]
    exact ⟨_, by rw [ea], by rw [ea]; exact sR.mono aft_out, qR, loR⟩
  · by_cases hbig : id > 1073741824
    · have ea : addB bs id = (bs, false) := if_pos (.inr (.inl hbig))
      simp only [vms, vmc, AOpd.val, Nat.reduceEqDiff, reduceCtorEq, Nat.reduceAdd, Nat.reduceBEq, decide_eq_false hneg, decide_eq_true hbig, load_boxA hg2, st, res_cell, ld]
      exact ⟨_, by rw [ea], by rw [ea]; exact sR.mono aft_out, qR, loR⟩
    · by_cases hin : id ∈ blkAt bs id
      · have ea : addB bs id = (bs, false) := if_pos (.inr (.inr hin))
        simp only [vms, vmc, AOpd.val, Nat.reduceEqDiff, reduceCtorEq, Nat.reduceAdd, Nat.reduceBEq, decide_eq_false hneg, decide_eq_false hbig, placeB, decide_eq_true hin, load_boxA hg2, st, res_cell, ld]
        exact ⟨_, by rw [ea], by rw [ea]; exact sR.mono aft_out, qR, loR⟩
      · have hno : ¬ (id < 0 ∨ 1073741824 < id ∨ id ∈ blkAt bs id) := by rintro (h | h | h) <;> contradiction
        have ln2 : lenOfV sl = some bs.length := sb.len
        by_cases hne : bs = []
        · subst hne
          have ea : addB [] id = ([[id]], true) := by unfold addB; rw [if_neg hno, if_pos rfl]
          have ln0 : lenOfV sl = some 0 := ln2
          have b1 : fillV [AV.int .i64 0] [(0, 1, .int .i64 id)] = some [.int .i64 id] := fill1 rfl rfl
          have b2 : ∀ q, fillV [AV.nilSlice] [(0, 1, .slice q 0 1 1 1 true)] = some [.slice q 0 1 1 1 true] := fun q => fill1 rfl rfl
          have hzz : ((h2.new (.cells [.int .i64 id] true)).new (.cells [.slice h2.next 0 1 1 1 true] true)).get (h.next + 1) = some (.cells [.nilSlice] true) := by
            rw [AH.get_new, if_neg (by rw [next_new]; omega), AH.get_new, if_neg (by omega)]; exact hz2
          have hq1 : ((h2.new (.cells [.int .i64 id] true)).new (.cells [.slice h2.next 0 1 1 1 true] true)).get h2.next = some (.cells [.int .i64 id] true) := by
            rw [AH.get_new, if_neg (by rw [next_new]; omega), get_new_same]
          have hq2 : ((h2.new (.cells [.int .i64 id] true)).new (.cells [.slice h2.next 0 1 1 1 true] true)).get (h2.next + 1) = some (.cells [.slice h2.next 0 1 1 1 true] true) := get_new_same
          have sN : ListG (Aft G h.next) ((h2.new (.cells [.int .i64 id] true)).new (.cells [.slice h2.next 0 1 1 1 true] true)) (.agg [.slice (h2.next + 1) 0 1 1 1 true]) [[id]] :=
            ⟨_, rfl, blks_lit hq2 rfl (aft_new (by omega)) (eltsG1 ⟨sees_lit hq1 rfl, Nat.le_refl _⟩ fun o ho => aft_new (by simp [objs] at ho; omega))⟩
          obtain ⟨gN, st, ld, sF, qF, loF⟩ := fin_cell (h := h) aft_ne (by omega) ((q12.new _).new _) ((lo2.new _).new _) hzz sN
          simp only [vms, vmc, AOpd.val, Nat.reduceEqDiff, reduceCtorEq, Nat.reduceAdd, Nat.reduceBEq, decide_eq_false hneg, decide_eq_false hbig, placeB, decide_eq_false hin, fa0, load_box hg2, ln0, show (((0 : Nat) : Int) == 0) = true from rfl, b1, b2, next_new, st, res_cell, ld]
          exact ⟨_, by rw [ea], by rw [ea]; exact sF.mono aft_out, qF, loF⟩
        · have hblk := blkAt_some hne id
          have hk := kOf_lt hne id
          have e0 : ((bs.length : Int) == 0) = false := by
            have := List.length_pos_iff.2 hne
            simp; omega
          obtain ⟨p, x, hp1, hp2, hx⟩ := (sb.keep hl q12).at hblk .i64
          obtain ⟨_, hr, hs⟩ := g.block hblk
          simp only [vms, vmc, AOpd.val, Nat.reduceEqDiff, reduceCtorEq, Nat.reduceAdd, Nat.reduceBEq, decide_eq_false hneg, decide_eq_false hbig, placeB, decide_eq_false hin, fa0, load_box hg2, ln2, e0, hp1, hp2]
          refine Gives.bind ((clone_ok k lo2 hx.1 (by simp [izs]; omega)).mono ?_)
          rintro y h3 ⟨ry, fry, q3, lo3⟩
          have b1 : fillV [AV.int .i64 0] [(0, 1, .int .i64 id)] = some [.int .i64 id] := fill1 rfl rfl
          have q4 : Quiet h3 (h3.new (.cells [.int .i64 id] true)) := (Quiet.refl _).new _
          have lo4 := lo3.new (.cells [.int .i64 id] true)
          have hylow := RowS.low ry lo3
          have hpl := pos_le (blkAt bs id) id
          simp only [vms, vmc, AOpd.val, Nat.reduceEqDiff, reduceCtorEq, Nat.reduceAdd, Nat.reduceBEq, b1]
          refine Gives.bind ((insert_ok (i := pos (blkAt bs id) id) (bytes := 8) (gv := 43) (gr := 44) (v1 := 43) (v2 := 43) (z := .int .i64 0) (func := table) k.insI rfl rfl rfl (by decide) (by decide) lo4 (row_quiet ry lo3 q4) izs_flat' (by simp [izs]; omega) (by simp [izs]; omega) (vo := h3.next) (y := .int .i64 id) get_new_same rfl (fun hm => by have := hylow _ hm; omega)).mono ?_)
          rintro r h5 ⟨rr, ro, rlow, ronly, lo5⟩
          have ei : (izs (blkAt bs id)).take (pos (blkAt bs id) id) ++ [.int .i64 id] ++ (izs (blkAt bs id)).drop (pos (blkAt bs id) id) = izs (insB bs id) := by simp [izs, insB, List.map_take, List.map_drop]
          rw [ei] at rr
          have el : (insB bs id).length = (blkAt bs id).length + 1 := by simp [insB]; omega
          have q15 : Quiet h1 h5 := by
            refine Mods.trans ((q2.trans q3).trans q4) (ronly.mods (G := fun o => o ∈ objs y) fun o ho => .inl ho) fun o ho => .inr ?_
            have := fry o ho; omega
          have q05 := q1.trans q15
          have hg5 := q15.get hg (by omega)
          have hz5 := q15.get hz (by omega)
          have nx5 : h.next + 2 ≤ h5.next := by have := q15.1; omega
          have rG : ∀ o ∈ objs r, Aft G h.next o := by
            intro o ho
            rcases ro o ho with h6 | h6
            · exact aft_new (by have := fry o h6; omega)
            · rw [next_new] at h6; exact aft_new (by have := q3.1; omega)
          have lnr : lenOfV r = some (insB bs id).length := by simpa [izs] using RowS.len rr
          have brr := sees_beq rr.sees
          have crr := sees_cell rr.sees
          by_cases h16 : (insB bs id).length ≤ 16
          · have ea : addB bs id = (bs.take (kOf bs id) ++ [insB bs id] ++ bs.drop (kOf bs id + 1), true) := by unfold addB; rw [if_neg hno, if_neg hne, if_pos h16]
            have d1 : decide (((insB bs id).length : Int) ≤ 16) = true := by rw [decide_eq_true_eq]; omega
            have w1 : IntKind.i64.wrap (((kOf bs id : Nat) : Int) + 1) = ((kOf bs id + 1 : Nat) : Int) := by rw [wrap_i64 (by omega) (by omega)]; omega
            have b2 : fillV [AV.nilSlice] [(0, 1, r)] = some [r] := fill1 (sees_def rr.sees) crr.1
            simp only [vms, vmc, AOpd.val, Nat.reduceEqDiff, reduceCtorEq, Nat.reduceAdd, Nat.reduceBEq, lnr, d1, load_boxA hg5, w1, b2]
            have q6 : Quiet h5 (h5.new (.cells [r] true)) := (Quiet.refl _).new _
            have lo6 := lo5.new (.cells [r] true)
            have sc : BlksG (Aft G h.next) (h5.new (.cells [r] true)) (.slice h5.next 0 1 1 1 true) [insB bs id] :=
              blks_lit get_new_same rfl (aft_new (by omega)) (eltsG1 ⟨sees_keep rr.sees lo5 q6, row_cap rr⟩ rG)
            refine Gives.bind ((with_ok k lo6 (sG.keep hl (q05.trans q6)) sc (by omega) (by omega) (by simp; omega)).mono ?_)
            rintro lv h7 ⟨sW, q7, lo7⟩
            have q17 := (q15.trans q6).trans q7
            obtain ⟨gN, st, ld, sF, qF, loF⟩ := fin_cell (h := h) aft_ne (by omega) (q1.trans q17) lo7 (q17.get hz (by omega)) (sW.mono fun o ho => ho.elim (fun h8 => h8) fun h8 => aft_new (by rw [next_new] at h8; omega))
            simp only [vms, vmc, AOpd.val, Nat.reduceEqDiff, reduceCtorEq, Nat.reduceAdd, Nat.reduceBEq, st, res_cell, ld]
            exact ⟨_, by rw [ea], by rw [ea]; exact sF.mono aft_out, qF, loF⟩
          · have ea : addB bs id = (bs.take (kOf bs id) ++ [(insB bs id).take (halfN (insB bs id).length), (insB bs id).drop (halfN (insB bs id).length)] ++ bs.drop (kOf bs id + 1), true) := by unfold addB; rw [if_neg hno, if_neg hne, if_neg h16]
            have d1 : decide (((insB bs id).length : Int) ≤ 16) = false := by rw [decide_eq_false_iff_not]; omega
            have w1 : IntKind.i64.wrap (((kOf bs id : Nat) : Int) + 1) = ((kOf bs id + 1 : Nat) : Int) := by rw [wrap_i64 (by omega) (by omega)]; omega
            have w2 : IntKind.i64.wrap (((insB bs id).length : Int) + 1) = (((insB bs id).length + 1 : Nat) : Int) := by rw [wrap_i64 (by omega) (by omega)]; omega
            have w3 : IntKind.i64.wrap ((((insB bs id).length + 1 : Nat) : Int).tdiv 2) = ((halfN (insB bs id).length : Nat) : Int) := by
              have e : (((insB bs id).length + 1 : Nat) : Int).tdiv 2 = ((halfN (insB bs id).length : Nat) : Int) := by
                rw [Int.tdiv_eq_ediv_of_nonneg (by omega)]; unfold halfN; omega
              rw [e]; exact wrap_i64 (by omega) (by unfold halfN; omega)
            have hh : halfN (insB bs id).length ≤ (insB bs id).length := by unfold halfN; omega
            obtain ⟨ra, sa1, sa2, sa3, sa4, sa5⟩ := sees_head rr.sees (row_cap rr) (n := halfN (insB bs id).length) (by simpa [izs] using hh) (k := .i64)
            obtain ⟨rb, sb1, sb2, sb3, sb4, sb5⟩ := sees_tail rr.sees (row_cap rr) (n := halfN (insB bs id).length) (by simpa [izs] using hh) (k := .i64)
            have et : (izs (insB bs id)).take (halfN (insB bs id).length) = izs ((insB bs id).take (halfN (insB bs id).length)) := by simp [izs, List.map_take]
            have ed : (izs (insB bs id)).drop (halfN (insB bs id).length) = izs ((insB bs id).drop (halfN (insB bs id).length)) := by simp [izs, List.map_drop]
            rw [et] at sa2
            rw [ed] at sb2
            simp only [vms, vmc, AOpd.val, Nat.reduceEqDiff, reduceCtorEq, Nat.reduceAdd, Nat.reduceBEq, lnr, d1, w2, bin_quo2, w3, load_boxA hg5, w1, sa1, sb1]
            refine Gives.bind ((clone_ok k lo5 sa2 (by simp [izs]; omega)).mono ?_)
            rintro y1 h6 ⟨ry1, fry1, q6, lo6⟩
            have q16 := q15.trans q6
            have hg6 := q16.get hg (by omega)
            simp only [vms, vmc, AOpd.val, Nat.reduceEqDiff, reduceCtorEq, Nat.reduceAdd, Nat.reduceBEq]
            rw [items_look (look_load (v := .agg [sl]) (by show loadV _ _ _ (Fr.at _ _) = _; simp only [vms, vmc, AOpd.val, Nat.reduceEqDiff, reduceCtorEq, Nat.reduceAdd, Nat.reduceBEq]; exact load_boxA hg6) (by simp only [vms, vmc, AOpd.val, Nat.reduceEqDiff, reduceCtorEq, Nat.reduceAdd, Nat.reduceBEq]) (by simp [AV.beq, AV.beqs, bsl]))]
            simp only [vms, vmc, AOpd.val, Nat.reduceEqDiff, reduceCtorEq, Nat.reduceAdd, Nat.reduceBEq]
            refine Gives.bind ((clone_ok k lo6 (sees_keep sb2 lo5 q6) (by simp [izs]; omega)).mono ?_)
            rintro y2 h7 ⟨ry2, fry2, q7, lo7⟩
            have c1 := sees_cell ry1.sees
            have c2 := sees_cell ry2.sees
            have b2 : fillV [AV.nilSlice, .nilSlice] [(0, 1, y1), (1, 1, y2)] = some [y1, y2] := fill2 (sees_def ry1.sees) (sees_def ry2.sees) c1.1 c2.1
            have q8 : Quiet h7 (h7.new (.cells [y1, y2] true)) := (Quiet.refl _).new _
            have lo8 := lo7.new (.cells [y1, y2] true)
            have q18 := (q16.trans q7).trans q8
            have hg8 := q18.get hg (by omega)
            simp only [vms, vmc, AOpd.val, Nat.reduceEqDiff, reduceCtorEq, Nat.reduceAdd, Nat.reduceBEq, b2]
            rw [items_look (look_load (v := .agg [sl]) (by show loadV _ _ _ (Fr.at _ _) = _; simp only [vms, vmc, AOpd.val, Nat.reduceEqDiff, reduceCtorEq, Nat.reduceAdd, Nat.reduceBEq]; exact load_boxA hg8) (by simp only [vms, vmc, AOpd.val, Nat.reduceEqDiff, reduceCtorEq, Nat.reduceAdd, Nat.reduceBEq]) (by simp [AV.beq, AV.beqs, bsl])),
              items_look (look_build (q := h7.next) (l := [y1, y2]) (by simp only [vms, vmc, AOpd.val, Nat.reduceEqDiff, reduceCtorEq, Nat.reduceAdd, Nat.reduceBEq]; exact b2) (by simp only [vms, vmc, AOpd.val, Nat.reduceEqDiff, reduceCtorEq, Nat.reduceAdd, Nat.reduceBEq]; rfl) get_new_same (beqs2 (sees_beq ry1.sees) (sees_beq ry2.sees)))]
            simp only [vms, vmc, AOpd.val, Nat.reduceEqDiff, reduceCtorEq, Nat.reduceAdd, Nat.reduceBEq]
            have f1 : ∀ o ∈ objs y1, Aft G h.next o := fun o ho => aft_new (by have := fry1 o ho; omega)
            have f2 : ∀ o ∈ objs y2, Aft G h.next o := fun o ho => aft_new (by have := fry2 o ho; have := q6.1; omega)
            have n7 : h5.next ≤ h7.next := (q6.trans q7).1
            have sc : BlksG (Aft G h.next) (h7.new (.cells [y1, y2] true)) (.slice h7.next 0 1 2 2 true) [(insB bs id).take (halfN (insB bs id).length), (insB bs id).drop (halfN (insB bs id).length)] :=
              blks_lit get_new_same rfl (aft_new (by omega)) (eltsG2 ⟨sees_keep (sees_keep ry1.sees lo6 q7) lo7 q8, row_cap ry1⟩ ⟨sees_keep ry2.sees lo7 q8, row_cap ry2⟩ f1 f2)
            refine Gives.bind ((with_ok k lo8 (sG.keep hl (q1.trans q18)) sc (by omega) (by omega) (by simp; omega)).mono ?_)
            rintro lv h9 ⟨sW, q9, lo9⟩
            have q19 := q18.trans q9
            obtain ⟨gN, st, ld, sF, qF, loF⟩ := fin_cell (h := h) aft_ne (by omega) (q1.trans q19) lo9 (q19.get hz (by omega)) (sW.mono fun o ho => ho.elim (fun h8 => h8) fun h8 => aft_new (by rw [next_new] at h8; omega))
            simp only [vms, vmc, AOpd.val, Nat.reduceEqDiff, reduceCtorEq, Nat.reduceAdd, Nat.reduceBEq, st, res_cell, ld]
            exact ⟨_, by rw [ea], by rw [ea]; exact sF.mono aft_out, qF, loF⟩
end Go.Proofs.Yteokopjiaiflnaa

/- PostingStays. -/
import Derived.Test.YteokopjiaiflnaaP20U
namespace Go.Proofs.Yteokopjiaiflnaa
open Go.Vm
set_option linter.unusedSimpArgs false
set_option linter.unusedVariables false
set_option maxRecDepth 100000
variable {T : Vm.Prog} {h : AH}
theorem mods_quiet {h h2 h3 : AH} {F : Nat → Prop} (q : Quiet h h2) (m : Mods h2 h3 F) (hF : ∀ o, F o → h.next ≤ o) : Quiet h h3 := Mods.trans q m fun o ho => .inr (hF o ho)
theorem snocRise {L : List Int} (r : Rise L) {x : Int} (hx : ∀ y ∈ L, y < x) : Rise (L ++ [x]) :=
  List.pairwise_append.2 ⟨r, by simp, fun y hy z hz => by rw [List.mem_singleton.1 hz]; exact hx y hy⟩
theorem chunks_small (ids : List Int) : Small (chunks ids) := by
  intro b hb
  simp only [chunks, List.mem_map, List.mem_range] at hb
  obtain ⟨j, hj, rfl⟩ := hb
  rw [chunk_len]; omega
/-- A right list of no more than so many numbers. -/
structure Fine (bs : List (List Int)) (n : Nat) : Prop where
  good : Good bs
  small : Small bs
  len : bs.flatten.length ≤ n
theorem Fine.add {bs : List (List Int)} {n : Nat} (f : Fine bs n) (hn : n < 90000) (id : Int) : Fine (addB bs id).1 (n + 1) := by
  have h0 := f.len
  by_cases ok : addOk bs id
  · obtain ⟨a1, a2, a3⟩ := add_yes f.good ok (by omega)
    exact ⟨a3, add_small f.good f.small id, by rw [a2, ins_len]; omega⟩
  · have e := add_no f.good ok
    rw [e]; exact ⟨f.good, f.small, by show bs.flatten.length ≤ n + 1; omega⟩
theorem Fine.remove {bs : List (List Int)} {n : Nat} (f : Fine bs n) (id : Int) : Fine (removeB bs id).1 n := by
  have h0 := f.len
  by_cases ok : id ∈ bs.flatten
  · obtain ⟨a1, a2, a3⟩ := remove_yes f.good ok
    refine ⟨a3, remove_small f.small id, ?_⟩
    rw [a2]; simp only [cut, List.length_append, List.length_take, List.length_drop]; omega
  · have e := remove_no f.good ok
    rw [e]; exact f
theorem Fine.big {bs : List (List Int)} {n : Nat} (f : Fine bs n) : ∀ b ∈ bs, b.length < 100000 := fun b hb => by have := f.small b hb; omega
theorem faddr (i o off : Nat) : fieldAddrV i (.ptr o off) = some (.ptr o (off + i)) := rfl
/-- What stands after so many numbers. -/
structure StayI (h h' : AH) (ov : AV) (own : List Int) (i : Nat) : Prop where
  quiet : Quiet h h'
  low : Low h'
  row : Row1 h' ov (izs own)
  fr : ∀ o ∈ objs ov, h.next ≤ o
  rise : Rise own
  len : own.length = i
  pos : ∀ y ∈ own, 0 ≤ y ∧ y < 3 * (i : Int)
def c5t : ACode := cSnd (cSnd (cSnd c5))
theorem c5_eq : c5 = .seq (.ops [⟨(some 4), .mov (.con (.bool false)), none⟩]) (.seq (.ops [⟨(some 5), .mov (.con .nilSlice), none⟩]) (.seq (.seq (.ops [⟨(some 6), .mov (.con (.int .i64 0)), none⟩]) (.block 0 (.loop c5l0))) c5t)) := rfl
def cBlkC : ACode → ACode
  | .block _ c => c
  | c => c
theorem c5l6_eq : c5l6 = (.seq (cFst c5l6) (.seq (.block 3 (.seq (.ops [⟨(some 61), .mov (.tmp 1), none⟩,
    ⟨(some 62), .mov (.tmp 9), none⟩,
    ⟨(some 63), .idxAddr 3 (.tmp 61) (.tmp 62), none⟩,
    ⟨(some 64), .fieldAddr 1 (.tmp 63), none⟩,
    ⟨(some 65), .load false 1 (.tmp 64), none⟩,
    ⟨(some 66), .call 16 [(.tmp 65), (.con (.int .i64 0)), (.con (.int .i64 200))], none⟩,
    ⟨(some 10), .mov (.tmp 66), none⟩])
  (.seq (.ops [⟨(some 68), .load true 1 (.tmp 7), none⟩,
    ⟨(some 69), .mov (.tmp 10), none⟩,
    ⟨(some 70), .call 12 [(.tmp 68), (.tmp 69)], none⟩,
    ⟨(some 67), .mov (.tmp 70), none⟩,
    ⟨(some 71), .extract (.tmp 67) 0, none⟩,
    ⟨(some 72), .extract (.tmp 67) 1, none⟩,
    ⟨(some 11), .new [.nilSlice], none⟩,
    ⟨none, .store 1 (.tmp 11) (.tmp 71), none⟩,
    ⟨(some 12), .mov (.tmp 72), none⟩])
  (.seq (.ops [⟨(some 74), .load true 1 (.tmp 7), none⟩,
    ⟨(some 75), .mov (.tmp 10), none⟩,
    ⟨(some 76), .call 13 [(.tmp 74), (.tmp 75)], none⟩,
    ⟨(some 73), .mov (.tmp 76), none⟩,
    ⟨(some 77), .extract (.tmp 73) 0, none⟩,
    ⟨(some 78), .extract (.tmp 73) 1, none⟩,
    ⟨(some 13), .new [.nilSlice], none⟩,
    ⟨none, .store 1 (.tmp 13) (.tmp 77), none⟩,
    ⟨(some 14), .mov (.tmp 78), none⟩])
  (.seq (.seq (.ops [⟨(some 79), .load true 1 (.tmp 11), none⟩,
    ⟨(some 80), .call 17 [(.tmp 79)], none⟩,
    ⟨(some 81), .lenSlice (.tmp 80), none⟩,
    ⟨(some 82), .mov (.con (.int .i64 0)), none⟩])
  baC)
  (.seq (.seq (.ops [⟨(some 96), .load true 1 (.tmp 7), none⟩,
    ⟨(some 97), .call 17 [(.tmp 96)], none⟩,
    ⟨(some 98), .lenSlice (.tmp 97), none⟩,
    ⟨(some 99), .mov (.con (.int .i64 0)), none⟩])
  bbC)
  (.seq (.ops [⟨(some 113), .load true 1 (.tmp 13), none⟩,
    ⟨(some 114), .call 18 [(.tmp 113)], none⟩,
    ⟨(some 21), .mov (.tmp 114), none⟩])
  (.seq fcC
  (.seq (.ops [⟨(some 124), .load true 1 (.tmp 7), none⟩,
    ⟨(some 125), .call 18 [(.tmp 124)], none⟩,
    ⟨(some 126), .mov (.tmp 5), none⟩,
    ⟨(some 127), .call 19 [(.tmp 125), (.tmp 126)], none⟩,
    ⟨(some 128), .un .not (.tmp 127), none⟩])
  (.cond (.tmp 128)
  (.seq (.ops [⟨(some 4), .mov (.con (.bool false)), none⟩])
  .ret)
  .skip)))))))))) (.ops [⟨(some 59), .mov (.tmp 9), none⟩,
    ⟨(some 60), .bin .add (.tmp 59) (.con (.int .i64 1)), none⟩,
    ⟨(some 9), .mov (.tmp 60), none⟩]))) := rfl
theorem stay_end (k : Fits T) {h2 : AH} {ov lv : AV} {own : List Int} {asks : List (Int × Int × Int)} {i : Nat} (hi : i ≤ 60) (I : StayI h h2 ov own i) (sa : Asks h2 lv asks) (hal : asks.length ≤ maxLen) {f : Fr} (f1 : f.at 1 = lv) (f5 : f.at 5 = ov) : Wp (code T c5t f h2) (Vm.Ends [.tmp 4] fun r _ => r = .bool true) := by
  obtain ⟨q2, lo2, row, _, rise, hlen, hp⟩ := I
  have hml : maxLen = 9223372036854775807 := rfl
  have s2 := row.sees
  have c2 := row_cap row
  have ok : OkIds own := OkIds.of rise fun x hx => by have := hp x hx; omega
  simp only [c5t, cSnd, c5, vms, vmc, AOpd.val, Nat.reduceEqDiff, reduceCtorEq, Nat.reduceAdd, Nat.reduceBEq, f5]
  refine Gives.bind ((k.ofs lo2 s2 c2 (by omega)).mono ?_)
  rintro r h3 ⟨q3, lo3, ⟨_, lv', rfl, sv⟩ | ⟨no, rfl⟩⟩
  case inr => exact absurd ok no
  obtain ⟨sl, rfl, sb⟩ := sv
  have st := store_res (p := h3.next) (a := .nilSlice) (h := h3.new (.cells [.nilSlice] true)) get_new_same sb.cell.2.1
  have q4 : Quiet h3 ((h3.new (.cells [.nilSlice] true)).set h3.next (.cells [sl] true)) := ((Quiet.refl _).new _).set (Nat.le_refl _) _
  have lo4 : Low ((h3.new (.cells [.nilSlice] true)).set h3.next (.cells [sl] true)) := (lo3.new _).set (by rw [next_new]; omega) _
  have hg4 : ((h3.new (.cells [.nilSlice] true)).set h3.next (.cells [sl] true)).get h3.next = some (.cells [sl] true) := get_set_same
  have nx4 : ((h3.new (.cells [.nilSlice] true)).set h3.next (.cells [sl] true)).next = h3.next + 1 := rfl
  have sb4 := sb.keep lo3 q4
  have hfl := chunks_flat own
  have fine : Fine (chunks own) own.length := ⟨chunks_good rise (by omega), chunks_small own, by rw [hfl]; omega⟩
  have g := fine.good
  have e0 : ((0 : Int) != 0) = false := by simp
  simp only [vms, vmc, AOpd.val, Nat.reduceEqDiff, reduceCtorEq, Nat.reduceAdd, Nat.reduceBEq, st, f5, e0]
  generalize ((h3.new (.cells [.nilSlice] true)).set h3.next (.cells [sl] true)) = h4 at *
  have sL4 : ListV h4 (.agg [sl]) (chunks own) := ⟨sl, rfl, sb4⟩
  have s4 := sees_keep s2 lo2 (q3.trans q4)
  have sa4 := sa.keep lo2 (q3.trans q4)
  refine wpc_loop (fun d f h' => ∃ j, d = 40 - j ∧ j ≤ 40 ∧ Quiet h4 h' ∧ Low h' ∧ f.at 1 = lv ∧ f.at 5 = ov ∧ f.at 7 = .ptr h3.next 0 ∧ f.at 9 = .int .i64 (j : Int)) ?_ 40 _ _ ⟨0, by omega, by omega, Quiet.refl _, lo4, ?_⟩
  · rintro d f h5 ⟨j, rfl, hj, q5, lo5, f1, f5, f7, f9⟩
    have sa5 := sa4.keep lo4 q5
    have lna := sa5.len
    have hg5 := q5.get hg4 (by omega)
    have hp5 : h3.next < h5.next := by have := q5.1; omega
    by_cases hgp : j < asks.length
    case neg =>
      have d1 : decide ((j : Int) < (asks.length : Int)) = false := by rw [decide_eq_false_iff_not]; omega
      simp only [c5l6_eq, cFst, c5l6, vms, vmc, AOpd.val, Nat.reduceEqDiff, reduceCtorEq, Nat.reduceAdd, Nat.reduceBEq, f1, f5, f7, f9, lna, d1]
      refine Gives.bind ((k.yes _).mono ?_)
      rintro _ _ ⟨rfl, rfl⟩
      simp only [vms, vmc, AOpd.val, Nat.reduceEqDiff, reduceCtorEq, Nat.reduceAdd, Nat.reduceBEq]
    have d1 : decide ((j : Int) < (asks.length : Int)) = true := by rw [decide_eq_true_eq]; omega
    by_cases hlt : j < 40
    case neg =>
      have d2 : decide ((j : Int) < 40) = false := by rw [decide_eq_false_iff_not]; omega
      simp only [c5l6_eq, cFst, c5l6, vms, vmc, AOpd.val, Nat.reduceEqDiff, reduceCtorEq, Nat.reduceAdd, Nat.reduceBEq, f1, f5, f7, f9, lna, d1, d2]
      refine Gives.bind ((k.yes _).mono ?_)
      rintro _ _ ⟨rfl, rfl⟩
      simp only [vms, vmc, AOpd.val, Nat.reduceEqDiff, reduceCtorEq, Nat.reduceAdd, Nat.reduceBEq]
    have d2 : decide ((j : Int) < 40) = true := by rw [decide_eq_true_eq]; omega
    have w2 : IntKind.i64.wrap ((j : Int) + 1) = ((j + 1 : Nat) : Int) := by rw [wrap_i64 (by omega) (by omega)]; omega
    obtain ⟨a, ha⟩ : ∃ a, asks[j]? = some a := ⟨_, List.getElem?_eq_getElem hgp⟩
    obtain ⟨o, off, hi1, _, hi3, _⟩ := sa5.at ha
    have sL5 := sL4.keep lo4 q5
    rw [c5l6_eq]
    simp only [cFst, c5l6, vms, vmc, AOpd.val, Nat.reduceEqDiff, reduceCtorEq, Nat.reduceAdd, Nat.reduceBEq, f1, f5, f7, f9, lna, d1, d2, hi1, faddr, hi3]
    refine Gives.bind ((within_nat k.base (hi := 200) (by decide)).mono ?_)
    rintro _ _ ⟨w, rfl, hw, rfl⟩
    simp only [vms, vmc, AOpd.val, Nat.reduceEqDiff, reduceCtorEq, Nat.reduceAdd, Nat.reduceBEq, f1, f5, f7, f9, load_boxA hg5]
    refine Gives.bind ((add_ok k.base lo5 (id := (w : Int)) (sL5.g lo5) g).mono ?_)
    rintro _ h6 ⟨yv, rfl, sY, q6, lo6⟩
    obtain ⟨yl, rfl, sYb⟩ := sY.v
    have st6 := store_res (p := h6.next) (a := .nilSlice) (h := h6.new (.cells [.nilSlice] true)) get_new_same sYb.cell.2.1
    have q7 : Quiet h6 ((h6.new (.cells [.nilSlice] true)).set h6.next (.cells [yl] true)) := ((Quiet.refl _).new _).set (Nat.le_refl _) _
    have lo7 : Low ((h6.new (.cells [.nilSlice] true)).set h6.next (.cells [yl] true)) := (lo6.new _).set (by rw [next_new]; omega) _
    have hy7 : ((h6.new (.cells [.nilSlice] true)).set h6.next (.cells [yl] true)).get h6.next = some (.cells [yl] true) := get_set_same
    have nx7 : ((h6.new (.cells [.nilSlice] true)).set h6.next (.cells [yl] true)).next = h6.next + 1 := rfl
    have fY := fine.add (by omega) (w : Int)
    have fZ := fine.remove (w : Int)
    have lb := fine.len
    simp only [vms, vmc, AOpd.val, Nat.reduceEqDiff, reduceCtorEq, Nat.reduceAdd, Nat.reduceBEq, f1, f5, f7, f9, st6]
    generalize ((h6.new (.cells [.nilSlice] true)).set h6.next (.cells [yl] true)) = h7 at *
    have q57 := q6.trans q7
    have sY7 : ListV h7 (.agg [yl]) (addB (chunks own) (w : Int)).1 := ListV.keep ⟨yl, rfl, sYb⟩ lo6 q7
    have hg7 := q57.get hg5 hp5
    have sL7 := sL5.keep lo5 q57
    simp only [vms, vmc, AOpd.val, Nat.reduceEqDiff, reduceCtorEq, Nat.reduceAdd, Nat.reduceBEq, f1, f5, f7, f9, load_boxA hg7]
    refine Gives.bind ((remove_ok k.base lo7 (id := (w : Int)) (sL7.g lo7) g).mono ?_)
    rintro _ h8 ⟨zv, rfl, sZ, q8, lo8⟩
    obtain ⟨zl, rfl, sZb⟩ := sZ.v
    have st8 := store_res (p := h8.next) (a := .nilSlice) (h := h8.new (.cells [.nilSlice] true)) get_new_same sZb.cell.2.1
    have q9 : Quiet h8 ((h8.new (.cells [.nilSlice] true)).set h8.next (.cells [zl] true)) := ((Quiet.refl _).new _).set (Nat.le_refl _) _
    have lo9 : Low ((h8.new (.cells [.nilSlice] true)).set h8.next (.cells [zl] true)) := (lo8.new _).set (by rw [next_new]; omega) _
    have hz9 : ((h8.new (.cells [.nilSlice] true)).set h8.next (.cells [zl] true)).get h8.next = some (.cells [zl] true) := get_set_same
    have nx9 : ((h8.new (.cells [.nilSlice] true)).set h8.next (.cells [zl] true)).next = h8.next + 1 := rfl
    simp only [vms, vmc, AOpd.val, Nat.reduceEqDiff, reduceCtorEq, Nat.reduceAdd, Nat.reduceBEq, f1, f5, f7, f9, st8]
    generalize ((h8.new (.cells [.nilSlice] true)).set h8.next (.cells [zl] true)) = h9 at *
    have sZ9 : ListV h9 (.agg [zl]) (removeB (chunks own) (w : Int)).1 := ListV.keep ⟨zl, rfl, sZb⟩ lo8 q9
    have q79 := q8.trans q9
    have n7 : h6.next < h7.next := by omega
    have hy9 := q79.get hy7 n7
    have sY9 := sY7.keep lo7 q79
    simp only [vms, vmc, AOpd.val, Nat.reduceEqDiff, reduceCtorEq, Nat.reduceAdd, Nat.reduceBEq, f1, f5, f7, f9, load_boxA hy9]
    refine Gives.bind ((blocks_ok k.base lo9 sY9 (by have := fY.len; omega) fY.good.len).mono ?_)
    rintro b1 h10 ⟨fr1, q10, lo10⟩
    have ln1 := fr1.blks.len
    simp only [vms, vmc, AOpd.val, Nat.reduceEqDiff, reduceCtorEq, Nat.reduceAdd, Nat.reduceBEq, f1, f5, f7, f9, ln1]
    refine ba_ok fr1 lo10 fY.good.len fY.big (by simp only [vms, vmc, AOpd.val, Nat.reduceEqDiff, reduceCtorEq, Nat.reduceAdd, Nat.reduceBEq]) (by simp only [vms, vmc, AOpd.val, Nat.reduceEqDiff, reduceCtorEq, Nat.reduceAdd, Nat.reduceBEq]) (by simp only [vms, vmc, AOpd.val, Nat.reduceEqDiff, reduceCtorEq, Nat.reduceAdd, Nat.reduceBEq]) ?_
    intro fa h11 m11 lo11 a1 a5 a7 a9 a13
    simp only [vms, vmc, AOpd.val, Nat.reduceEqDiff, reduceCtorEq, Nat.reduceAdd, Nat.reduceBEq, f1] at a1
    simp only [vms, vmc, AOpd.val, Nat.reduceEqDiff, reduceCtorEq, Nat.reduceAdd, Nat.reduceBEq, f5] at a5
    simp only [vms, vmc, AOpd.val, Nat.reduceEqDiff, reduceCtorEq, Nat.reduceAdd, Nat.reduceBEq, f7] at a7
    simp only [vms, vmc, AOpd.val, Nat.reduceEqDiff, reduceCtorEq, Nat.reduceAdd, Nat.reduceBEq, f9] at a9
    simp only [vms, vmc, AOpd.val, Nat.reduceEqDiff, reduceCtorEq, Nat.reduceAdd, Nat.reduceBEq] at a13
    have q911 : Quiet h9 h11 := mods_quiet q10 m11 fun o ho => ho
    have q59 := q57.trans q79
    have q511 := q59.trans q911
    have hg11 := q511.get hg5 hp5
    have sL11 := sL5.keep lo5 q511
    have hgl := g.len
    simp only [vms, vmc, AOpd.val, Nat.reduceEqDiff, reduceCtorEq, Nat.reduceAdd, Nat.reduceBEq, a1, a5, a7, a9, a13, load_boxA hg11]
    refine Gives.bind ((blocks_ok k.base lo11 sL11 (by omega) hgl).mono ?_)
    rintro b2 h12 ⟨fr2, q12, lo12⟩
    have ln2 := fr2.blks.len
    simp only [vms, vmc, AOpd.val, Nat.reduceEqDiff, reduceCtorEq, Nat.reduceAdd, Nat.reduceBEq, a1, a5, a7, a9, a13, ln2]
    refine bb_ok fr2 lo12 hgl fine.big (by simp only [vms, vmc, AOpd.val, Nat.reduceEqDiff, reduceCtorEq, Nat.reduceAdd, Nat.reduceBEq]) (by simp only [vms, vmc, AOpd.val, Nat.reduceEqDiff, reduceCtorEq, Nat.reduceAdd, Nat.reduceBEq]) (by simp only [vms, vmc, AOpd.val, Nat.reduceEqDiff, reduceCtorEq, Nat.reduceAdd, Nat.reduceBEq]) ?_
    intro fb h13 m13 lo13 b1 b5 b7 b9 b13
    simp only [vms, vmc, AOpd.val, Nat.reduceEqDiff, reduceCtorEq, Nat.reduceAdd, Nat.reduceBEq, a1] at b1
    simp only [vms, vmc, AOpd.val, Nat.reduceEqDiff, reduceCtorEq, Nat.reduceAdd, Nat.reduceBEq, a5] at b5
    simp only [vms, vmc, AOpd.val, Nat.reduceEqDiff, reduceCtorEq, Nat.reduceAdd, Nat.reduceBEq, a7] at b7
    simp only [vms, vmc, AOpd.val, Nat.reduceEqDiff, reduceCtorEq, Nat.reduceAdd, Nat.reduceBEq, a9] at b9
    simp only [vms, vmc, AOpd.val, Nat.reduceEqDiff, reduceCtorEq, Nat.reduceAdd, Nat.reduceBEq, a13] at b13
    have q1113 : Quiet h11 h13 := mods_quiet q12 m13 fun o ho => ho
    have q913 := q911.trans q1113
    have n9 : h8.next < h9.next := by omega
    have hz13 := q913.get hz9 n9
    have sZ13 := sZ9.keep lo9 q913
    simp only [vms, vmc, AOpd.val, Nat.reduceEqDiff, reduceCtorEq, Nat.reduceAdd, Nat.reduceBEq, b1, b5, b7, b9, b13, load_boxA hz13]
    refine Gives.bind ((ids_ok k.base lo13 sZ13 (by have := fZ.len; omega) fZ.good.len).mono ?_)
    rintro zi h14 ⟨rz, frz, q14, lo14⟩
    simp only [vms, vmc, AOpd.val, Nat.reduceEqDiff, reduceCtorEq, Nat.reduceAdd, Nat.reduceBEq, b1, b5, b7, b9, b13]
    refine fc_ok (Row1.wide rz) lo14 (by rw [izs, List.length_map]; have := fZ.len; omega) (by simp only [vms, vmc, AOpd.val, Nat.reduceEqDiff, reduceCtorEq, Nat.reduceAdd, Nat.reduceBEq]) ?_
    intro fc h15 m15 lo15 _ c1 c5 c7 c9 c13
    simp only [vms, vmc, AOpd.val, Nat.reduceEqDiff, reduceCtorEq, Nat.reduceAdd, Nat.reduceBEq, b1] at c1
    simp only [vms, vmc, AOpd.val, Nat.reduceEqDiff, reduceCtorEq, Nat.reduceAdd, Nat.reduceBEq, b5] at c5
    simp only [vms, vmc, AOpd.val, Nat.reduceEqDiff, reduceCtorEq, Nat.reduceAdd, Nat.reduceBEq, b7] at c7
    simp only [vms, vmc, AOpd.val, Nat.reduceEqDiff, reduceCtorEq, Nat.reduceAdd, Nat.reduceBEq, b9] at c9
    have q1315 : Quiet h13 h15 := mods_quiet q14 m15 fun o ho => frz o ho
    have q515 := (q59.trans q913).trans q1315
    have hg15 := q515.get hg5 hp5
    have sL15 := sL5.keep lo5 q515
    simp only [vms, vmc, AOpd.val, Nat.reduceEqDiff, reduceCtorEq, Nat.reduceAdd, Nat.reduceBEq, c1, c5, c7, c9, load_boxA hg15]
    refine Gives.bind ((ids_ok k.base lo15 sL15 (by omega) hgl).mono ?_)
    rintro xi h16 ⟨rx, frx, q16, lo16⟩
    rw [hfl] at rx
    have s16 := sees_keep s4 lo4 ((q5.trans q515).trans q16)
    simp only [vms, vmc, AOpd.val, Nat.reduceEqDiff, reduceCtorEq, Nat.reduceAdd, Nat.reduceBEq, c1, c5, c7, c9]
    refine Gives.bind ((same_ok k.base rx.sees s16 (by omega) (by omega)).mono ?_)
    rintro _ _ ⟨rfl, rfl⟩
    have e1 : decide (own = own) = true := decide_eq_true rfl
    simp only [vms, vmc, AOpd.val, Nat.reduceEqDiff, reduceCtorEq, Nat.reduceAdd, Nat.reduceBEq, c1, c5, c7, c9, e1, w2]
    exact ⟨40 - (j + 1), by omega, j + 1, rfl, by omega, (q5.trans q515).trans q16, lo16, by trivial, by trivial, by trivial, by trivial⟩
  · simp only [vms, vmc, AOpd.val, Nat.reduceEqDiff, reduceCtorEq, Nat.reduceAdd, Nat.reduceBEq, f1, f5]
    simp
theorem stays_run (k : Fits T) (hl : Low h) {gv lv : AV} {ids : List Int} {asks : List (Int × Int × Int)} (sg : Sees h gv (izs ids)) (hgl : ids.length ≤ maxLen) (sa : Asks h lv asks) (hal : asks.length ≤ maxLen) : Gives T 5 [gv, lv] h fun r _ => r = .bool true := by
  refine gives_func (k.base.env 5 (by decide)) (k.base.at (n := 5) rfl) rfl ?_
  simp only [a5, c5_eq, vms, vmc, AOpd.val, Nat.reduceEqDiff, reduceCtorEq, Nat.reduceAdd, Nat.reduceBEq]
  refine wpc_loop (fun d f h' => ∃ i ov own, d = 60 - i ∧ i ≤ 60 ∧ StayI h h' ov own i ∧ f.at 0 = gv ∧ f.at 1 = lv ∧ f.at 5 = ov ∧ f.at 6 = .int .i64 (i : Int)) ?_ 60 _ _
      ⟨0, .nilSlice, [], by omega, by omega, ⟨Quiet.refl _, hl, .inl ⟨rfl, rfl⟩, fun o ho => by simp [objs] at ho, by simp [Rise], rfl, fun y hy => by simp at hy⟩, ?_⟩
  · rintro d f h2 ⟨i, ov, own, rfl, hi, I, f0, f1, f5, f6⟩
    have sg2 := sees_keep sg hl I.quiet
    have sa2 := sa.keep hl I.quiet
    have lng : lenOfV gv = some ids.length := by simpa [izs] using sg2.len
    have hml : maxLen = 9223372036854775807 := rfl
    by_cases hgp : i < ids.length
    · have d1 : decide ((i : Int) < (ids.length : Int)) = true := by rw [decide_eq_true_eq]; omega
      by_cases hlt : i < 60
      · have d2 : decide ((i : Int) < 60) = true := by rw [decide_eq_true_eq]; omega
        have w2 : IntKind.i64.wrap ((i : Int) + 1) = ((i + 1 : Nat) : Int) := by rw [wrap_i64 (by omega) (by omega)]; omega
        have w3 : IntKind.i64.wrap (3 * (i : Int)) = 3 * (i : Int) := wrap_i64 (by omega) (by omega)
        obtain ⟨y, hy⟩ : ∃ y, ids[i]? = some y := ⟨_, List.getElem?_eq_getElem hgp⟩
        obtain ⟨p, hp1, hp2⟩ := sg2.at (i := i) (x := .int .i64 y) (by simp [izs, hy]) .i64
        simp only [c5l0, vms, vmc, AOpd.val, Nat.reduceEqDiff, reduceCtorEq, Nat.reduceAdd, Nat.reduceBEq, f0, f1, f5, f6, lng, d1, d2, hp1, hp2, w3]
        refine Gives.bind ((within_nat k.base (hi := 2) (by decide)).mono ?_)
        rintro _ _ ⟨w, rfl, hw, rfl⟩
        have w4 : IntKind.i64.wrap (3 * (i : Int) + (w : Int)) = 3 * (i : Int) + (w : Int) := wrap_i64 (by omega) (by omega)
        obtain ⟨ov', h4, ha, r4, fr4, m4, lo4⟩ := row_app (bytes := 8) (x := .int .i64 (3 * (i : Int) + (w : Int))) I.low I.row (by decide) (by decide) (by rw [izs, List.length_map, I.len]; omega) rfl
        have bf : fillV [AV.int .i64 0] [(0, 1, AV.int .i64 (3 * (i : Int) + (w : Int)))] = some [AV.int .i64 (3 * (i : Int) + (w : Int))] := fill1 rfl rfl
        simp only [vms, vmc, AOpd.val, Nat.reduceEqDiff, reduceCtorEq, Nat.reduceAdd, Nat.reduceBEq, f0, f1, f5, f6, w2, w4, bf, ha]
        refine ⟨60 - (i + 1), by omega, i + 1, ov', own ++ [3 * (i : Int) + (w : Int)], rfl, by omega, ⟨mods_quiet I.quiet m4 I.fr, lo4, by simpa [izs] using r4, fun o ho => ?_, ?_, by simp [I.len], ?_⟩, by trivial, by trivial, by trivial, by trivial⟩
        · rcases fr4 o ho with h5 | h5
          · exact I.fr o h5
          · have := I.quiet.1; omega
        · exact snocRise I.rise fun y hy => by have := I.pos y hy; omega
        · intro y hy
          rcases List.mem_append.1 hy with hy | hy
          · have := I.pos y hy; omega
          · rw [List.mem_singleton.1 hy]; omega
      · have d2 : decide ((i : Int) < 60) = false := by rw [decide_eq_false_iff_not]; omega
        simp only [c5l0, vms, vmc, AOpd.val, Nat.reduceEqDiff, reduceCtorEq, Nat.reduceAdd, Nat.reduceBEq, f0, f1, f5, f6, lng, d1, d2]
        exact stay_end k hi I sa2 hal (by simp only [vms, vmc, AOpd.val, Nat.reduceEqDiff, reduceCtorEq, Nat.reduceAdd, Nat.reduceBEq, f1]) (by simp only [vms, vmc, AOpd.val, Nat.reduceEqDiff, reduceCtorEq, Nat.reduceAdd, Nat.reduceBEq, f5])
    · have d1 : decide ((i : Int) < (ids.length : Int)) = false := by rw [decide_eq_false_iff_not]; omega
      simp only [c5l0, vms, vmc, AOpd.val, Nat.reduceEqDiff, reduceCtorEq, Nat.reduceAdd, Nat.reduceBEq, f0, f1, f5, f6, lng, d1]
      exact stay_end k hi I sa2 hal (by simp only [vms, vmc, AOpd.val, Nat.reduceEqDiff, reduceCtorEq, Nat.reduceAdd, Nat.reduceBEq, f1]) (by simp only [vms, vmc, AOpd.val, Nat.reduceEqDiff, reduceCtorEq, Nat.reduceAdd, Nat.reduceBEq, f5])
  · simp only [vms, vmc, AOpd.val, Nat.reduceEqDiff, reduceCtorEq, Nat.reduceAdd, Nat.reduceBEq]
    simp
end Go.Proofs.Yteokopjiaiflnaa

/- PostingSeeks. -/
import Derived.Test.YteokopjiaiflnaaP20Q
namespace Go.Proofs.Yteokopjiaiflnaa
open Go.Vm
set_option linter.unusedSimpArgs false
set_option linter.unusedVariables false
set_option maxRecDepth 100000
variable {T : Vm.Prog} {h : AH}
theorem Vm.Mods.quiet' {h h2 h3 : AH} {F : Nat → Prop} (q : Quiet h h2) (m : Mods h2 h3 F) (hF : ∀ o, F o → h.next ≤ o) : Quiet h h3 := Mods.trans q m fun o ho => .inr (hF o ho)
theorem at_pos {L : List Int} (r : Rise L) {at_ : Int} {i : Nat} (hi : i ≤ L.length) (hat : ∀ j y, L[j]? = some y → (j < i ↔ y < at_)) : pos L at_ = i := by
  refine (pos_count hi fun j x hx => ?_).symm
  rw [hat j x hx, decide_eq_true_eq]
theorem snoc_rise {L : List Int} (r : Rise L) {x : Int} (hx : ∀ y ∈ L, y < x) : Rise (L ++ [x]) :=
  List.pairwise_append.2 ⟨r, by simp, fun y hy z hz => by rw [List.mem_singleton.1 hz]; exact hx y hy⟩
/-- What stands after so many ids. -/
structure SeekI (h h' : AH) (ov : AV) (own : List Int) (n : Int) (i : Nat) : Prop where
  quiet : Quiet h h'
  low : Low h'
  row : Row1 h' ov (izs own)
  fr : ∀ o ∈ objs ov, h.next ≤ o
  rise : Rise own
  len : own.length = i
  pos : ∀ y ∈ own, 1 ≤ y ∧ y ≤ n
  last : own = [] ∨ n ∈ own
  lo : 0 ≤ n
  hi : n ≤ 10 * i
def c8t : ACode := cSnd (cSnd (cSnd (cSnd c8)))
theorem c8_eq : c8 = .seq (.ops [⟨(some 4), .mov (.con (.bool false)), none⟩]) (.seq (.ops [⟨(some 5), .mov (.con .nilSlice), none⟩]) (.seq (.ops [⟨(some 6), .mov (.con (.int .i64 0)), none⟩]) (.seq (.seq (.ops [⟨(some 7), .mov (.con (.int .i64 0)), none⟩]) (.block 0 (.loop c8l0))) c8t))) := rfl
theorem seek_end (k : Fits T) {h2 : AH} {ov : AV} {own : List Int} {n fr : Int} {i : Nat} (hi : i ≤ 80) (I : SeekI h h2 ov own n i) {f : Fr} (f1 : f.at 1 = .int .i64 fr) (f5 : f.at 5 = ov) (f6 : f.at 6 = .int .i64 n) : Wp (code T c8t f h2) (Vm.Ends [.tmp 4] fun r _ => r = .bool true) := by
  obtain ⟨q2, lo2, row, _, rise, hlen, hp, hlast, hn0, hn1⟩ := I
  have s2 := row.sees
  have c2 := row_cap row
  have ok : OkIds own := OkIds.of rise fun x hx => by have := hp x hx; omega
  have ln : lenOfV ov = some own.length := by simpa [izs] using s2.len
  simp only [c8t, cSnd, c8, vms, vmc, AOpd.val, Nat.reduceEqDiff, reduceCtorEq, Nat.reduceAdd, Nat.reduceBEq, f5]
  refine Gives.bind ((k.ofs lo2 s2 c2 (by omega)).mono ?_)
  rintro r h3 ⟨q3, lo3, ⟨_, lv, rfl, sv⟩ | ⟨no, rfl⟩⟩
  case inr => exact absurd ok no
  obtain ⟨sl, rfl, sb⟩ := sv
  have st := store_res (p := h3.next) (a := .nilSlice) (h := h3.new (.cells [.nilSlice] true)) get_new_same sb.cell.2.1
  have q4 : Quiet h3 ((h3.new (.cells [.nilSlice] true)).set h3.next (.cells [sl] true)) := ((Quiet.refl _).new _).set (Nat.le_refl _) _
  have lo4 : Low ((h3.new (.cells [.nilSlice] true)).set h3.next (.cells [sl] true)) := (lo3.new _).set (by rw [next_new]; omega) _
  have hg4 : ((h3.new (.cells [.nilSlice] true)).set h3.next (.cells [sl] true)).get h3.next = some (.cells [sl] true) := get_set_same
  have nx4 : ((h3.new (.cells [.nilSlice] true)).set h3.next (.cells [sl] true)).next = h3.next + 1 := rfl
  have sb4 := sb.keep lo3 q4
  have hfl := chunks_flat own
  have hcl := chunks_len own
  have g : Good (chunks own) := chunks_good rise (by omega)
  have e0 : ((0 : Int) != 0) = false := by simp
  simp only [vms, vmc, AOpd.val, Nat.reduceEqDiff, reduceCtorEq, Nat.reduceAdd, Nat.reduceBEq, st, f5, e0]
  generalize ((h3.new (.cells [.nilSlice] true)).set h3.next (.cells [sl] true)) = h4 at *
  have sL4 : ListV h4 (.agg [sl]) (chunks own) := ⟨sl, rfl, sb4⟩
  simp only [vms, vmc, AOpd.val, Nat.reduceEqDiff, reduceCtorEq, Nat.reduceAdd, Nat.reduceBEq, load_boxA hg4]
  refine Gives.bind ((len_ok k.base lo4 sL4 (by rw [hfl]; omega) g.len).mono ?_)
  rintro _ h5 ⟨rfl, q5, lo5⟩
  have hg5 := q5.get hg4 (by omega)
  have e1 : ((((chunks own).flatten.length : Nat) : Int) != (own.length : Int)) = false := by rw [hfl]; simp
  have q25 : Quiet h2 h5 := (q3.trans q4).trans q5
  simp only [vms, vmc, AOpd.val, Nat.reduceEqDiff, reduceCtorEq, Nat.reduceAdd, Nat.reduceBEq, f5, ln, e1]
  have s5 := sees_keep s2 lo2 q25
  have sL5 := sL4.keep lo4 q5
  refine wpc_loop (fun d f h' => ∃ j at_, d = own.length - j ∧ j ≤ own.length ∧ Quiet h5 h' ∧ Low h' ∧ f.at 1 = .int .i64 fr ∧ f.at 5 = ov ∧ f.at 6 = .int .i64 n ∧ f.at 8 = .ptr h3.next 0 ∧ f.at 10 = .int .i64 at_ ∧ f.at 56 = ov ∧ f.at 57 = .int .i64 (own.length : Int) ∧ f.at 58 = .int .i64 (j : Int) ∧ (∀ t y, own[t]? = some y → (t < j ↔ y < at_))) ?_ own.length _ _
      ⟨0, 0, by omega, by omega, Quiet.refl _, lo5, ?_⟩
  · rintro d f h' ⟨j, at_, rfl, hj, q6, lo6, f1, f5, f6, f8, f10, f56, f57, f58, hat⟩
    have hg6 := q6.get hg5 (by have := q5.1; omega)
    have sL6 := sL5.keep lo5 q6
    have hpos := at_pos rise hj hat
    by_cases hlt : j < own.length
    · have d1 : decide ((j : Int) < (own.length : Int)) = true := by rw [decide_eq_true_eq]; omega
      have w2 : IntKind.i64.wrap ((j : Int) + 1) = ((j + 1 : Nat) : Int) := by rw [wrap_i64 (by omega) (by omega)]; omega
      obtain ⟨y, hy⟩ : ∃ y, own[j]? = some y := ⟨_, List.getElem?_eq_getElem hlt⟩
      have hym := List.mem_of_getElem? hy
      have hyb := hp y hym
      have s6 := sees_keep s5 lo5 q6
      obtain ⟨p, hp1, hp2⟩ := s6.at (i := j) (x := .int .i64 y) (by simp [izs, hy]) .i64
      have sk : seekB (chunks own) at_ = (y, true) := by unfold seekB; rw [hfl, hpos, hy]
      have w3 : IntKind.i64.wrap (y + 1) = y + 1 := wrap_i64 (by omega) (by omega)
      have w4 : IntKind.i64.wrap (y - 1) = y - 1 := wrap_i64 (by omega) (by omega)
      simp only [c8l1, vms, vmc, AOpd.val, Nat.reduceEqDiff, reduceCtorEq, Nat.reduceAdd, Nat.reduceBEq, f1, f5, f6, f8, f10, f56, f57, f58, d1, hp1, hp2, load_boxA hg6]
      refine Gives.bind ((seek_ok k.base lo6 sL6 g).mono ?_)
      rintro _ h7 ⟨rfl, q7, lo7⟩
      have hg7 := q7.get hg6 (by have := q6.1; have := q5.1; omega)
      have sL7 := sL6.keep lo6 q7
      have e2 : (y != y) = false := by simp
      rw [sk]
      simp only [vms, vmc, AOpd.val, Nat.reduceEqDiff, reduceCtorEq, Nat.reduceAdd, Nat.reduceBEq, f1, f5, f6, f8, f10, f56, f57, f58, e2, load_boxA hg7]
      refine Gives.bind ((has_ok k.base lo7 sL7 g).mono ?_)
      rintro _ h8 ⟨rfl, q8, lo8⟩
      have hg8 := q8.get hg7 (by have := q7.1; have := q6.1; have := q5.1; omega)
      have sL8 := sL7.keep lo7 q8
      have e3 : decide (y ∈ (chunks own).flatten) = true := by rw [hfl]; exact decide_eq_true hym
      rw [e3]
      have hat' : ∀ t z, own[t]? = some z → (t < j + 1 ↔ z < y + 1) := by
        intro t z hz
        constructor
        · intro ht
          by_cases e : t = j
          · subst e; rw [hy] at hz; cases hz; omega
          · have := rise.at hz hy (by omega); omega
        · intro hlt
          refine Classical.byContradiction fun hn => ?_
          have := rise.at hy hz (by omega); omega
      by_cases hgt : y > at_
      · simp only [vms, vmc, AOpd.val, Nat.reduceEqDiff, reduceCtorEq, Nat.reduceAdd, Nat.reduceBEq, f1, f5, f6, f8, f10, f56, f57, f58, decide_eq_true hgt, w4, load_boxA hg8]
        refine Gives.bind ((has_ok k.base lo8 sL8 g).mono ?_)
        rintro _ h9 ⟨rfl, q9, lo9⟩
        have e4 : decide (y - 1 ∈ (chunks own).flatten) = false := by
          rw [hfl]
          refine decide_eq_false fun hm => ?_
          obtain ⟨t, ht⟩ := List.getElem?_of_mem hm
          have h1 := hat t _ ht
          have h2 : ¬ t < j := fun h => by have := h1.1 h; omega
          by_cases e : t = j
          · subst e; rw [hy] at ht; simp at ht; omega
          · have := rise.at hy ht (by omega); omega
        simp only [vms, vmc, AOpd.val, Nat.reduceEqDiff, reduceCtorEq, Nat.reduceAdd, Nat.reduceBEq, f1, f5, f6, f8, f10, f56, f57, f58, e4, w2, w3]
        exact ⟨own.length - (j + 1), by omega, j + 1, y + 1, rfl, by omega, ((q6.trans q7).trans q8).trans q9, lo9, by trivial, by trivial, by trivial, by trivial, by trivial, by trivial, by trivial, by trivial, hat'⟩
      · simp only [vms, vmc, AOpd.val, Nat.reduceEqDiff, reduceCtorEq, Nat.reduceAdd, Nat.reduceBEq, f1, f5, f6, f8, f10, f56, f57, f58, decide_eq_false hgt, w2, w3]
        exact ⟨own.length - (j + 1), by omega, j + 1, y + 1, rfl, by omega, (q6.trans q7).trans q8, lo8, by trivial, by trivial, by trivial, by trivial, by trivial, by trivial, by trivial, by trivial, hat'⟩
    · have d1 : decide ((j : Int) < (own.length : Int)) = false := by rw [decide_eq_false_iff_not]; omega
      have hj' : j = own.length := by omega
      subst hj'
      have sk : seekB (chunks own) at_ = (0, false) := by unfold seekB; rw [hfl, hpos, List.getElem?_eq_none (Nat.le_refl _)]
      have w5 : IntKind.i64.wrap (n + 5) = ((n.toNat + 5 : Nat) : Int) := by rw [wrap_i64 (by omega) (by omega)]; omega
      simp only [c8l1, vms, vmc, AOpd.val, Nat.reduceEqDiff, reduceCtorEq, Nat.reduceAdd, Nat.reduceBEq, f1, f5, f6, f8, f10, f56, f57, f58, d1, load_boxA hg6]
      refine Gives.bind ((seek_ok k.base lo6 sL6 g).mono ?_)
      rintro _ h7 ⟨rfl, q7, lo7⟩
      have hg7 := q7.get hg6 (by have := q6.1; have := q5.1; omega)
      have sL7 := sL6.keep lo6 q7
      rw [sk]
      simp only [vms, vmc, AOpd.val, Nat.reduceEqDiff, reduceCtorEq, Nat.reduceAdd, Nat.reduceBEq, f1, f5, f6, f8, f10, w5, load_boxA hg7]
      refine Gives.bind ((within_nat k.base (hi := n.toNat + 5) (by omega)).mono ?_)
      rintro _ _ ⟨w, rfl, hw, rfl⟩
      rename_i h8
      simp only [vms, vmc, AOpd.val, Nat.reduceEqDiff, reduceCtorEq, Nat.reduceAdd, Nat.reduceBEq, f1, f5, f6, f8, f10, load_boxA hg7]
      refine Gives.bind ((seek_ok k.base lo7 sL7 g).mono ?_)
      rintro _ h9 ⟨rfl, q9, lo9⟩
      have eb : ∀ b : Bool, eqBV false (.bool b) (.bool b) = some (.bool true) := fun b => by cases b <;> rfl
      cases hs : own[pos own (w : Int)]? with
      | none =>
        have sk2 : seekB (chunks own) (w : Int) = (0, false) := by unfold seekB; rw [hfl, hs]
        rw [sk2]
        by_cases hle : (w : Int) ≤ n
        · have h0 : own = [] := by
            rcases hlast with h | h
            · exact h
            · obtain ⟨t, ht⟩ := List.getElem?_of_mem h
              have h1 := pos_iff rise (t := (w : Int)) ht
              have h2 := List.getElem?_eq_none_iff.1 hs
              have h3 := (List.getElem?_eq_some_iff.1 ht).1
              have := h1.1 (by omega); omega
          subst h0
          simp only [vms, vmc, AOpd.val, Nat.reduceEqDiff, reduceCtorEq, Nat.reduceAdd, Nat.reduceBEq, f1, f5, f6, f8, f10, ln, decide_eq_true hle, List.length_nil, show decide (((0 : Nat) : Int) > 0) = false from rfl, eb]
          refine Gives.bind ((k.yes _).mono ?_)
          rintro _ _ ⟨rfl, rfl⟩
          simp only [vms, vmc, AOpd.val, Nat.reduceEqDiff, reduceCtorEq, Nat.reduceAdd, Nat.reduceBEq]
        · simp only [vms, vmc, AOpd.val, Nat.reduceEqDiff, reduceCtorEq, Nat.reduceAdd, Nat.reduceBEq, f1, f5, f6, f8, f10, ln, decide_eq_false hle, eb]
          refine Gives.bind ((k.yes _).mono ?_)
          rintro _ _ ⟨rfl, rfl⟩
          simp only [vms, vmc, AOpd.val, Nat.reduceEqDiff, reduceCtorEq, Nat.reduceAdd, Nat.reduceBEq]
      | some x =>
        have sk2 : seekB (chunks own) (w : Int) = (x, true) := by unfold seekB; rw [hfl, hs]
        rw [sk2]
        have hxm := List.mem_of_getElem? hs
        have hx := hp x hxm
        have hge : x ≥ (w : Int) := by
          have h1 := pos_iff rise (t := (w : Int)) hs
          refine Classical.byContradiction fun hn => ?_
          have := h1.2 (by omega); omega
        have hle : (w : Int) ≤ n := by omega
        have hl0 : ((own.length : Nat) : Int) > 0 := by have := List.length_pos_of_mem hxm; omega
        simp only [vms, vmc, AOpd.val, Nat.reduceEqDiff, reduceCtorEq, Nat.reduceAdd, Nat.reduceBEq, f1, f5, f6, f8, f10, ln, decide_eq_true hle, decide_eq_true hl0, decide_eq_true hge, eb]
        refine Gives.bind ((k.yes _).mono ?_)
        rintro _ _ ⟨rfl, rfl⟩
        simp only [vms, vmc, AOpd.val, Nat.reduceEqDiff, reduceCtorEq, Nat.reduceAdd, Nat.reduceBEq]
  · simp only [vms, vmc, AOpd.val, Nat.reduceEqDiff, reduceCtorEq, Nat.reduceAdd, Nat.reduceBEq, f1, f5, f6]
    refine ⟨by trivial, by trivial, by trivial, by trivial, by trivial, by trivial, by trivial, by trivial, fun t y hy => ?_⟩
    have := hp y (List.mem_of_getElem? hy)
    omega
theorem seeks_run (k : Fits T) (hl : Low h) {gv : AV} {fr : Int} {ids : List Int} (sg : Sees h gv (izs ids)) (hgl : ids.length ≤ maxLen) : Gives T 8 [gv, .int .i64 fr] h fun r _ => r = .bool true := by
  refine gives_func (k.base.env 8 (by decide)) (k.base.at (n := 8) rfl) rfl ?_
  simp only [a8, c8_eq, vms, vmc, AOpd.val, Nat.reduceEqDiff, reduceCtorEq, Nat.reduceAdd, Nat.reduceBEq]
  refine wpc_loop (fun d f h' => ∃ i ov own n, d = 80 - i ∧ i ≤ 80 ∧ SeekI h h' ov own n i ∧ f.at 0 = gv ∧ f.at 1 = .int .i64 fr ∧ f.at 5 = ov ∧ f.at 6 = .int .i64 n ∧ f.at 7 = .int .i64 (i : Int)) ?_ 80 _ _
      ⟨0, .nilSlice, [], 0, by omega, by omega, ⟨Quiet.refl _, hl, .inl ⟨rfl, rfl⟩, fun o ho => by simp [objs] at ho, by simp [Rise], rfl, fun y hy => by simp at hy, .inl rfl, by omega, by omega⟩, ?_⟩
  · rintro d f h2 ⟨i, ov, own, n, rfl, hi, I, f0, f1, f5, f6, f7⟩
    have sg2 := sees_keep sg hl I.quiet
    have lng : lenOfV gv = some ids.length := by simpa [izs] using sg2.len
    have hml : maxLen = 9223372036854775807 := rfl
    by_cases hgp : i < ids.length
    · have d1 : decide ((i : Int) < (ids.length : Int)) = true := by rw [decide_eq_true_eq]; omega
      by_cases hlt : i < 80
      · have d2 : decide ((i : Int) < 80) = true := by rw [decide_eq_true_eq]; omega
        have w2 : IntKind.i64.wrap ((i : Int) + 1) = ((i + 1 : Nat) : Int) := by rw [wrap_i64 (by omega) (by omega)]; omega
        obtain ⟨y, hy⟩ : ∃ y, ids[i]? = some y := ⟨_, List.getElem?_eq_getElem hgp⟩
        obtain ⟨p, hp1, hp2⟩ := sg2.at (i := i) (x := .int .i64 y) (by simp [izs, hy]) .i64
        have hn0 := I.lo
        have hn1 := I.hi
        have w3 : IntKind.i64.wrap (n + 1) = n + 1 := wrap_i64 (by omega) (by omega)
        simp only [c8l0, vms, vmc, AOpd.val, Nat.reduceEqDiff, reduceCtorEq, Nat.reduceAdd, Nat.reduceBEq, f0, f1, f5, f6, f7, lng, d1, d2, hp1, hp2, w3]
        refine Gives.bind ((within_nat k.base (hi := 9) (by decide)).mono ?_)
        rintro _ _ ⟨w, rfl, hw, rfl⟩
        have w4 : IntKind.i64.wrap (n + 1 + (w : Int)) = n + 1 + (w : Int) := wrap_i64 (by omega) (by omega)
        obtain ⟨ov', h4, ha, r4, fr4, m4, lo4⟩ := row_app (bytes := 8) (x := .int .i64 (n + 1 + (w : Int))) I.low I.row (by decide) (by decide) (by rw [izs, List.length_map, I.len]; omega) rfl
        have bf : fillV [AV.int .i64 0] [(0, 1, AV.int .i64 (n + 1 + (w : Int)))] = some [AV.int .i64 (n + 1 + (w : Int))] := fill1 rfl rfl
        simp only [vms, vmc, AOpd.val, Nat.reduceEqDiff, reduceCtorEq, Nat.reduceAdd, Nat.reduceBEq, f0, f1, f5, f6, f7, w2, w4, bf, ha]
        refine ⟨80 - (i + 1), by omega, i + 1, ov', own ++ [n + 1 + (w : Int)], n + 1 + (w : Int), rfl, by omega, ⟨Vm.Mods.quiet' I.quiet m4 I.fr, lo4, by simpa [izs] using r4, fun o ho => ?_, ?_, by simp [I.len], ?_, .inr (by simp), by omega, by omega⟩, by trivial, by trivial, by trivial, by trivial, by trivial⟩
        · rcases fr4 o ho with h5 | h5
          · exact I.fr o h5
          · have := I.quiet.1; omega
        · exact snoc_rise I.rise fun y hy => by have := I.pos y hy; omega
        · intro y hy
          rcases List.mem_append.1 hy with hy | hy
          · have := I.pos y hy; omega
          · rw [List.mem_singleton.1 hy]; omega
      · have d2 : decide ((i : Int) < 80) = false := by rw [decide_eq_false_iff_not]; omega
        simp only [c8l0, vms, vmc, AOpd.val, Nat.reduceEqDiff, reduceCtorEq, Nat.reduceAdd, Nat.reduceBEq, f0, f1, f5, f6, f7, lng, d1, d2]
        exact seek_end (fr := fr) k hi I (by simp only [vms, vmc, AOpd.val, Nat.reduceEqDiff, reduceCtorEq, Nat.reduceAdd, Nat.reduceBEq, f1]) (by simp only [vms, vmc, AOpd.val, Nat.reduceEqDiff, reduceCtorEq, Nat.reduceAdd, Nat.reduceBEq, f5]) (by simp only [vms, vmc, AOpd.val, Nat.reduceEqDiff, reduceCtorEq, Nat.reduceAdd, Nat.reduceBEq, f6])
    · have d1 : decide ((i : Int) < (ids.length : Int)) = false := by rw [decide_eq_false_iff_not]; omega
      simp only [c8l0, vms, vmc, AOpd.val, Nat.reduceEqDiff, reduceCtorEq, Nat.reduceAdd, Nat.reduceBEq, f0, f1, f5, f6, f7, lng, d1]
      exact seek_end (fr := fr) k hi I (by simp only [vms, vmc, AOpd.val, Nat.reduceEqDiff, reduceCtorEq, Nat.reduceAdd, Nat.reduceBEq, f1]) (by simp only [vms, vmc, AOpd.val, Nat.reduceEqDiff, reduceCtorEq, Nat.reduceAdd, Nat.reduceBEq, f5]) (by simp only [vms, vmc, AOpd.val, Nat.reduceEqDiff, reduceCtorEq, Nat.reduceAdd, Nat.reduceBEq, f6])
  · simp only [vms, vmc, AOpd.val, Nat.reduceEqDiff, reduceCtorEq, Nat.reduceAdd, Nat.reduceBEq]
    simp
end Go.Proofs.Yteokopjiaiflnaa

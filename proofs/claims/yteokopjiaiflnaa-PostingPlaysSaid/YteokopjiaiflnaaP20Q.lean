/- PostingOf. -/
import Derived.Test.YteokopjiaiflnaaP20K
namespace Go.Proofs.Yteokopjiaiflnaa
open Go.Vm
set_option linter.unusedSimpArgs false
set_option linter.unusedVariables false
set_option maxRecDepth 100000
variable {T : Vm.Prog} {h : AH}
def cFst : ACode → ACode
  | .seq a _ => a
  | c => c
def cSnd : ACode → ACode
  | .seq _ b => b
  | c => c
theorem sees_headC {v : AV} {xs : List AV} (s : Sees h v xs) (hc : capOk v) {n : Nat} (hn : n ≤ xs.length) {k : IntKind} : ∃ v', slcV 1 v none (some (.int k (n : Int))) none = some v' ∧ Sees h v' (xs.take n) ∧ capOk v' := by
  rcases s with ⟨rfl, rfl⟩ | ⟨o, off, cap, ex, l, rw, rfl, hg, h1, h2⟩
  · have : n = 0 := by simpa using hn
    subst this
    exact ⟨.nilSlice, by simp [slcV, bounds, boundM, boundH, boundL, natOf, Option.filter], .inl ⟨rfl, rfl⟩, trivial⟩
  · have hc' : xs.length ≤ cap := hc
    refine ⟨.slice o off 1 n cap ex, ?_, .inr ⟨o, off, cap, ex, l, rw, by rw [List.length_take, Nat.min_eq_left hn], hg, by rw [List.length_take]; omega, fun i x hx => ?_⟩, ?_⟩
    · simp [slcV, bounds, boundM, boundH, boundL, natOf, Option.filter, show n ≤ cap by omega]
    · rw [List.getElem?_take] at hx
      split at hx
      · exact h2 i x hx
      · cases hx
    · show n ≤ cap; omega
def goodTo (ids : List Int) (i : Nat) : Prop := ∀ j, j < i → ¬ bad ids j
theorem goodTo_all {ids : List Int} : goodTo ids ids.length ↔ OkIds ids := by
  constructor
  · intro h j hb
    have hb' := hb
    obtain ⟨x, hx, _⟩ := hb
    exact h j (List.getElem?_eq_some_iff.1 hx).1 hb'
  · intro h j _; exact h j
open Classical in
theorem goodTo_succ {ids : List Int} {i : Nat} : decide (goodTo ids (i + 1)) = (decide (goodTo ids i) && decide (¬ bad ids i)) := by
  rw [← Bool.decide_and]
  apply decide_eq_decide.2
  constructor
  · intro h; exact ⟨fun j hj => h j (by omega), h i (by omega)⟩
  · rintro ⟨h1, h2⟩ j hj
    by_cases e : j = i
    · subst e; exact h2
    · exact h1 j (by omega)
def c6r : ACode := cSnd (cSnd c6)
theorem c6_eq : c6 = .seq (.ops [⟨(some 2), .mov (.con (.bool false)), none⟩]) (.seq (.seq (.ops [⟨(some 10), .mov (.tmp 0), none⟩, ⟨(some 11), .lenSlice (.tmp 10), none⟩, ⟨(some 12), .bin .gtr (.tmp 11) (.con (.int .i64 100)), none⟩])
  (.cond (.tmp 12) (.ops [⟨(some 13), .mov (.tmp 0), none⟩, ⟨(some 14), .slc 1 (.tmp 13) none (some (.con (.int .i64 100))) none, none⟩, ⟨(some 0), .mov (.tmp 14), none⟩]) .skip)) c6r) := rfl
open Classical in
theorem of_main (k : Fits T) (hl : Low h) {v : AV} {ids : List Int} (s : Sees h v (izs ids)) (hc : capOk v) (hlen : ids.length ≤ 100) {f : Fr} (f0 : f.at 0 = v) : Wp (code T c6r f h) (Vm.Ends [.tmp 2] fun r _ => r = .bool true) := by
  have ln : lenOfV v = some ids.length := by simpa [izs] using s.len
  simp only [c6r, cSnd, c6, vms, vmc, AOpd.val, Nat.reduceEqDiff, reduceCtorEq, Nat.reduceAdd, Nat.reduceBEq, f0, ln]
  refine wpc_loop (fun m f h' => ∃ i, m = ids.length - i ∧ i ≤ ids.length ∧ h' = h ∧ f.at 0 = v ∧ f.at 3 = .bool (decide (goodTo ids i)) ∧ f.at 15 = v ∧ f.at 16 = .int .i64 (ids.length : Int) ∧ f.at 17 = .int .i64 (i : Int)) ?_ ids.length _ _ ⟨0, by omega, by omega, rfl, ?_⟩
  · rintro m f h' ⟨i, rfl, hi, rfl, f0, f3, f15, f16, f17⟩
    by_cases hlt : i < ids.length
    · have d1 : decide ((i : Int) < (ids.length : Int)) = true := by rw [decide_eq_true_eq]; omega
      obtain ⟨x, hx⟩ : ∃ x, ids[i]? = some x := ⟨_, List.getElem?_eq_getElem hlt⟩
      obtain ⟨p, hp1, hp2⟩ := s.at (i := i) (x := .int .i64 x) (by simp [izs, hx]) .i64
      have w2 : IntKind.i64.wrap ((i : Int) + 1) = ((i + 1 : Nat) : Int) := by rw [wrap_i64 (by omega) (by omega)]; omega
      have fin : ∀ {b : Bool}, b = decide (goodTo ids (i + 1)) → ∃ m, m < ids.length - i ∧ ∃ j, m = ids.length - j ∧ j ≤ ids.length ∧ True ∧ True ∧ AV.bool b = AV.bool (decide (goodTo ids j)) ∧ True ∧ True ∧ AV.int .i64 ((i + 1 : Nat) : Int) = AV.int .i64 (j : Int) :=
        fun hb => ⟨ids.length - (i + 1), by omega, i + 1, rfl, by omega, trivial, trivial, by rw [hb], trivial, trivial, rfl⟩
      rw [goodTo_succ] at fin
      cases hg : decide (goodTo ids i) with
      | false =>
        rw [hg] at f3 fin
        simp only [c6l0, vms, vmc, AOpd.val, Nat.reduceEqDiff, reduceCtorEq, Nat.reduceAdd, Nat.reduceBEq, f0, f3, f15, f16, f17, d1, hp1, hp2, w2]
        exact fin (b := false) rfl
      | true =>
        rw [hg] at f3 fin
        by_cases hneg : x ≥ 0
        case neg =>
          have hb : bad ids i := ⟨x, hx, .inl (by omega)⟩
          simp only [c6l0, vms, vmc, AOpd.val, Nat.reduceEqDiff, reduceCtorEq, Nat.reduceAdd, Nat.reduceBEq, f0, f3, f15, f16, f17, d1, hp1, hp2, decide_eq_false hneg, w2]
          exact fin (b := false) (by simp [hb])
        by_cases hbig : x ≤ 1073741824
        case neg =>
          have hb : bad ids i := ⟨x, hx, .inr (.inl (by omega))⟩
          simp only [c6l0, vms, vmc, AOpd.val, Nat.reduceEqDiff, reduceCtorEq, Nat.reduceAdd, Nat.reduceBEq, f0, f3, f15, f16, f17, d1, hp1, hp2, decide_eq_true hneg, decide_eq_false hbig, w2]
          exact fin (b := false) (by simp [hb])
        by_cases h0 : i = 0
        · have hb : ¬ bad ids i := by
            rintro ⟨x', hx', h1 | h1 | ⟨h2, _⟩⟩
            · rw [hx] at hx'; cases hx'; omega
            · rw [hx] at hx'; cases hx'; omega
            · omega
          have e0 : ((i : Int) == 0) = true := by simp [h0]
          simp only [c6l0, vms, vmc, AOpd.val, Nat.reduceEqDiff, reduceCtorEq, Nat.reduceAdd, Nat.reduceBEq, f0, f3, f15, f16, f17, d1, hp1, hp2, decide_eq_true hneg, decide_eq_true hbig, e0, w2]
          exact fin (b := true) (by simp [hb])
        · have e0 : ((i : Int) == 0) = false := by simp; omega
          have w3 : IntKind.i64.wrap ((i : Int) - 1) = ((i - 1 : Nat) : Int) := by rw [wrap_i64 (by omega) (by omega)]; omega
          obtain ⟨y, hy⟩ : ∃ y, ids[i - 1]? = some y := ⟨_, List.getElem?_eq_getElem (by omega)⟩
          obtain ⟨p', hq1, hq2⟩ := s.at (i := i - 1) (x := .int .i64 y) (by simp [izs, hy]) .i64
          by_cases hgt : x > y
          · have hb : ¬ bad ids i := by
              rintro ⟨x', hx', h1 | h1 | ⟨_, y', hy', h1⟩⟩
              · rw [hx] at hx'; cases hx'; omega
              · rw [hx] at hx'; cases hx'; omega
              · rw [hx] at hx'; cases hx'; rw [hy] at hy'; cases hy'; omega
            simp only [c6l0, vms, vmc, AOpd.val, Nat.reduceEqDiff, reduceCtorEq, Nat.reduceAdd, Nat.reduceBEq, f0, f3, f15, f16, f17, d1, hp1, hp2, decide_eq_true hneg, decide_eq_true hbig, e0, w3, hq1, hq2, decide_eq_true hgt, w2]
            exact fin (b := true) (by simp [hb])
          · have hb : bad ids i := ⟨x, hx, .inr (.inr ⟨by omega, y, hy, by omega⟩)⟩
            simp only [c6l0, vms, vmc, AOpd.val, Nat.reduceEqDiff, reduceCtorEq, Nat.reduceAdd, Nat.reduceBEq, f0, f3, f15, f16, f17, d1, hp1, hp2, decide_eq_true hneg, decide_eq_true hbig, e0, w3, hq1, hq2, decide_eq_false hgt, w2]
            exact fin (b := false) (by simp [hb])
    · have d1 : decide ((i : Int) < (ids.length : Int)) = false := by rw [decide_eq_false_iff_not]; omega
      have hi' : i = ids.length := by omega
      subst hi'
      have e3 : decide (goodTo ids ids.length) = decide (OkIds ids) := decide_eq_decide.2 goodTo_all
      rw [e3] at f3
      simp only [c6l0, vms, vmc, AOpd.val, Nat.reduceEqDiff, reduceCtorEq, Nat.reduceAdd, Nat.reduceBEq, f0, f3, f16, f17, d1]
      refine Gives.bind ((k.ofs hl s hc (by omega)).mono ?_)
      rintro r h2 ⟨q2, lo2, ⟨ok, lv, rfl, sv⟩ | ⟨no, rfl⟩⟩
      · obtain ⟨sl, rfl, sb⟩ := sv
        have e4 : decide (OkIds ids) = true := decide_eq_true ok
        have st := store_res (p := h2.next) (a := .nilSlice) (h := h2.new (.cells [.nilSlice] true)) get_new_same sb.cell.2.1
        have q3 : Quiet h2 ((h2.new (.cells [.nilSlice] true)).set h2.next (.cells [sl] true)) := ((Quiet.refl _).new _).set (Nat.le_refl _) _
        have lo3 : Low ((h2.new (.cells [.nilSlice] true)).set h2.next (.cells [sl] true)) := (lo2.new _).set (by rw [next_new]; omega) _
        have hg3 : ((h2.new (.cells [.nilSlice] true)).set h2.next (.cells [sl] true)).get h2.next = some (.cells [sl] true) := get_set_same
        have nx3 : ((h2.new (.cells [.nilSlice] true)).set h2.next (.cells [sl] true)).next = h2.next + 1 := rfl
        have sb3 := sb.keep lo2 q3
        have eb : eqBV true (.bool true) (.bool true) = some (.bool false) := rfl
        simp only [vms, vmc, AOpd.val, Nat.reduceEqDiff, reduceCtorEq, Nat.reduceAdd, Nat.reduceBEq, st, f0, f3, e4, eb]
        generalize ((h2.new (.cells [.nilSlice] true)).set h2.next (.cells [sl] true)) = h3 at *
        have hfl := chunks_flat ids
        have hcl := chunks_len ids
        simp only [vms, vmc, AOpd.val, Nat.reduceEqDiff, reduceCtorEq, Nat.reduceAdd, Nat.reduceBEq, load_boxA hg3]
        refine Gives.bind ((blocks_ok k.base lo3 ⟨sl, rfl, sb3⟩ (by rw [hfl]; omega) (by rw [hcl]; omega)).mono ?_)
        rintro b h4 ⟨fr, q4, lo4⟩
        have sB := fr.blks
        have lnb := sB.len
        rw [hcl] at lnb
        have hg4 := q4.get hg3 (by omega)
        have q04 := (q2.trans q3).trans q4
        simp only [vms, vmc, AOpd.val, Nat.reduceEqDiff, reduceCtorEq, Nat.reduceAdd, Nat.reduceBEq, lnb]
        refine wpc_loop (fun m f h' => ∃ i, m = (ids.length + 15) / 16 - i ∧ i ≤ (ids.length + 15) / 16 ∧ h' = h4 ∧ f.at 0 = v ∧ f.at 6 = .ptr h2.next 0 ∧ f.at 8 = b ∧ f.at 73 = .int .i64 (((ids.length + 15) / 16 : Nat) : Int) ∧ f.at 74 = .int .i64 (i : Int)) ?_ ((ids.length + 15) / 16) _ _ ⟨0, by omega, by omega, rfl, ?_⟩
        · rintro m f hh ⟨i, rfl, hi, rfl, f0, f6, f8, f73, f74⟩
          have s4 := sees_keep s hl q04
          have ln4 : lenOfV v = some ids.length := by simpa [izs] using s4.len
          by_cases hlt : i < (ids.length + 15) / 16
          · have d1 : decide ((i : Int) < (((ids.length + 15) / 16 : Nat) : Int)) = true := by rw [decide_eq_true_eq]; omega
            have hci : (chunks ids)[i]? = some (chunk ids i) := by simp [chunks, hlt]
            obtain ⟨p, x, hp1, hp2, hx⟩ := sB.at hci .i64
            have lx : lenOfV x = some (chunk ids i).length := by simpa [izs] using hx.1.len
            rw [chunk_len] at lx
            have w1 : IntKind.i64.wrap ((i : Int) * 16) = ((16 * i : Nat) : Int) := by rw [wrap_i64 (by omega) (by omega)]; omega
            have w2 : IntKind.i64.wrap ((ids.length : Int) - ((16 * i : Nat) : Int)) = ((ids.length - 16 * i : Nat) : Int) := by rw [wrap_i64 (by omega) (by omega)]; omega
            have mn : mnxAll false (.int .i64 16) [.int .i64 ((ids.length - 16 * i : Nat) : Int)] = some (.int .i64 ((min 16 (ids.length - 16 * i) : Nat) : Int)) := by
              simp only [mnxAll, mnxV, if_true, Option.bind_some, Bool.false_eq_true, if_false]
              congr 2
              split <;> omega
            have w3 : IntKind.i64.wrap ((i : Int) + 1) = ((i + 1 : Nat) : Int) := by rw [wrap_i64 (by omega) (by omega)]; omega
            simp only [c6l1, vms, vmc, AOpd.val, Nat.reduceEqDiff, reduceCtorEq, Nat.reduceAdd, Nat.reduceBEq, f0, f6, f8, f73, f74, d1, hp1, hp2, lx, ln4, w1, w2, step_mnx, mn, w3]
            exact ⟨(ids.length + 15) / 16 - (i + 1), by omega, i + 1, rfl, by omega, by trivial, by trivial, by trivial, by trivial, by trivial, by trivial⟩
          · have d1 : decide ((i : Int) < (((ids.length + 15) / 16 : Nat) : Int)) = false := by rw [decide_eq_false_iff_not]; omega
            simp only [c6l1, vms, vmc, AOpd.val, Nat.reduceEqDiff, reduceCtorEq, Nat.reduceAdd, Nat.reduceBEq, f0, f6, f8, f73, f74, d1, load_boxA hg4]
            refine Gives.bind ((ids_ok k.base lo4 ⟨sl, rfl, sb3.keep lo3 q4⟩ (by rw [hfl]; omega) (by rw [hcl]; omega)).mono ?_)
            rintro w h5 ⟨rw5, _, q5, lo5⟩
            rw [hfl] at rw5
            simp only [vms, vmc, AOpd.val, Nat.reduceEqDiff, reduceCtorEq, Nat.reduceAdd, Nat.reduceBEq, f0]
            refine Gives.bind ((same_ok k.base rw5.sees (sees_keep s4 lo4 q5) (by omega) (by omega)).mono ?_)
            rintro _ _ ⟨rfl, rfl⟩
            have e5 : decide (ids = ids) = true := decide_eq_true rfl
            have w4 : IntKind.i64.wrap ((ids.length : Int) + 16) = ((ids.length + 16 : Nat) : Int) := by rw [wrap_i64 (by omega) (by omega)]; omega
            have w5 : IntKind.i64.wrap (((ids.length + 16 : Nat) : Int) - 1) = ((ids.length + 15 : Nat) : Int) := by rw [wrap_i64 (by omega) (by omega)]; omega
            have dv : binV .quo (.int .i64 ((ids.length + 15 : Nat) : Int)) (.int .i64 16) = some (.int .i64 (((ids.length + 15) / 16 : Nat) : Int)) := by
              rw [bin_quo (by decide), Int.tdiv_eq_ediv_of_nonneg (by omega), show (((ids.length + 15 : Nat) : Int) / 16) = (((ids.length + 15) / 16 : Nat) : Int) by omega, wrap_i64 (by omega) (by omega)]
            simp only [vms, vmc, AOpd.val, Nat.reduceEqDiff, reduceCtorEq, Nat.reduceAdd, Nat.reduceBEq, f0, f8, lnb, ln4, e5, w4, w5, dv]
            refine Gives.bind ((k.yes _).mono ?_)
            rintro _ _ ⟨rfl, rfl⟩
            simp only [vms, vmc, AOpd.val, Nat.reduceEqDiff, reduceCtorEq, Nat.reduceAdd, Nat.reduceBEq]
        · simp only [vms, vmc, AOpd.val, Nat.reduceEqDiff, reduceCtorEq, Nat.reduceAdd, Nat.reduceBEq, f0]
          simp
      · have e4 : decide (OkIds ids) = false := decide_eq_false no
        have st := store_res (p := h2.next) (a := .nilSlice) (x := .nilSlice) (h := h2.new (.cells [.nilSlice] true)) get_new_same rfl
        have lo3 : Low ((h2.new (.cells [.nilSlice] true)).set h2.next (.cells [.nilSlice] true)) := (lo2.new _).set (by rw [next_new]; omega) _
        have hg3 : ((h2.new (.cells [.nilSlice] true)).set h2.next (.cells [.nilSlice] true)).get h2.next = some (.cells [.nilSlice] true) := get_set_same
        have eb : eqBV true (.bool false) (.bool false) = some (.bool false) := rfl
        simp only [vms, vmc, AOpd.val, Nat.reduceEqDiff, reduceCtorEq, Nat.reduceAdd, Nat.reduceBEq, st, f0, f3, e4, show ((8 : Int) == 0) = false from rfl, eb, load_boxA hg3]
        refine Gives.bind ((len_ok k.base lo3 listV_nil (by simp) (by simp)).mono ?_)
        rintro _ h4 ⟨rfl, q4, lo4⟩
        simp only [vms, vmc, AOpd.val, Nat.reduceEqDiff, reduceCtorEq, Nat.reduceAdd, Nat.reduceBEq, List.flatten_nil, List.length_nil, show ((((0 : Nat) : Int) != 0)) = false from rfl, f3, e4]
        refine Gives.bind ((k.yes _).mono ?_)
        rintro _ _ ⟨rfl, rfl⟩
        simp only [vms, vmc, AOpd.val, Nat.reduceEqDiff, reduceCtorEq, Nat.reduceAdd, Nat.reduceBEq]
  · simp only [vms, vmc, AOpd.val, Nat.reduceEqDiff, reduceCtorEq, Nat.reduceAdd, Nat.reduceBEq, f0]
    simp [goodTo]
theorem of_run (k : Fits T) (hl : Low h) {v : AV} {ids : List Int} (s : Sees h v (izs ids)) (hc : capOk v) : Gives T 6 [v] h fun r _ => r = .bool true := by
  refine gives_func (k.base.env 6 (by decide)) (k.base.at (n := 6) rfl) rfl ?_
  have ln : lenOfV v = some ids.length := by simpa [izs] using s.len
  simp only [a6, c6_eq, vms, vmc, AOpd.val, Nat.reduceEqDiff, reduceCtorEq, Nat.reduceAdd, Nat.reduceBEq, ln]
  by_cases hg : ids.length > 100
  · have d1 : decide ((ids.length : Int) > 100) = true := by rw [decide_eq_true_eq]; omega
    obtain ⟨v', h1, h2, h3⟩ := sees_headC s hc (n := 100) (by simp [izs]; omega) (k := .i64)
    have h1' : slcV 1 v none (some (.int .i64 100)) none = some v' := h1
    have e : (izs ids).take 100 = izs (ids.take 100) := by simp [izs, List.map_take]
    rw [e] at h2
    simp only [vms, vmc, AOpd.val, Nat.reduceEqDiff, reduceCtorEq, Nat.reduceAdd, Nat.reduceBEq, d1, h1']
    exact of_main k hl h2 h3 (by simp; omega) (by simp only [vms, vmc, AOpd.val, Nat.reduceEqDiff, reduceCtorEq, Nat.reduceAdd, Nat.reduceBEq])
  · have d1 : decide ((ids.length : Int) > 100) = false := by rw [decide_eq_false_iff_not]; omega
    simp only [vms, vmc, AOpd.val, Nat.reduceEqDiff, reduceCtorEq, Nat.reduceAdd, Nat.reduceBEq, d1]
    exact of_main k hl s hc (by omega) (by simp only [vms, vmc, AOpd.val, Nat.reduceEqDiff, reduceCtorEq, Nat.reduceAdd, Nat.reduceBEq])
end Go.Proofs.Yteokopjiaiflnaa

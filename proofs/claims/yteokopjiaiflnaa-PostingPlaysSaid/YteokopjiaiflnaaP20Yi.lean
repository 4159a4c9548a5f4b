/- PostingPlays. -/
import Derived.Test.YteokopjiaiflnaaP20Yh
namespace Go.Proofs.Yteokopjiaiflnaa
open Go.Vm
set_option linter.unusedSimpArgs false
set_option linter.unusedVariables false
set_option maxRecDepth 100000
variable {T : Vm.Prog} {h : AH}
def c9v : ACode := cTail 8 c9
theorem c9l0_eq : c9l0 = .seq (cFst c9l0) (.seq (.block 1 (cPut 2 c9B c9u)) (cSnd (cSnd c9l0))) := rfl
theorem plays_end (k : Fits T) {h1 : AH} {xv yv : AV} {L : List (List (List Int))} (p : PI h h1 xv yv L) (hL : L.length < 1000) {f : Fr} (f10 : f.at 10 = xv) (f11 : f.at 11 = yv) : Wp (code T c9v f h1) (Vm.Ends [.tmp 4] fun r _ => r = .bool true) := by
  have lnx := p.lenX
  simp only [c9v, cTail, c9, vms, vmc, AOpd.val, Nat.reduceEqDiff, reduceCtorEq, Nat.reduceAdd, Nat.reduceBEq, f10, lnx]
  refine wpc_loop (fun d f h' => ∃ j, d = L.length - j ∧ j ≤ L.length ∧ Quiet h1 h' ∧ Low h' ∧ f.at 10 = xv ∧ f.at 11 = yv ∧ f.at 282 = .int .i64 (L.length : Int) ∧ f.at 283 = .int .i64 (j : Int)) ?_ L.length _ _ ⟨0, by omega, by omega, Quiet.refl _, p.low, ?_⟩
  · rintro d f h2 ⟨j, rfl, hj, q2, lo2, f10, f11, f282, f283⟩
    by_cases hlt : j < L.length
    · have d1 : decide ((j : Int) < (L.length : Int)) = true := by rw [decide_eq_true_eq]; omega
      have w2 : IntKind.i64.wrap ((j : Int) + 1) = ((j + 1 : Nat) : Int) := by rw [wrap_i64 (by omega) (by omega)]; omega
      obtain ⟨bs, hbs⟩ : ∃ bs, L[j]? = some bs := ⟨_, List.getElem?_eq_getElem hlt⟩
      have p2 := p.keep q2 lo2
      obtain ⟨px, v, hx1, hx2, sv⟩ := p2.atX hbs
      obtain ⟨py, w, hy1, hy2, sw⟩ := p2.atY hbs
      have fi := p.fine bs (List.mem_of_getElem? hbs)
      simp only [c9l1, vms, vmc, AOpd.val, Nat.reduceEqDiff, reduceCtorEq, Nat.reduceAdd, Nat.reduceBEq, f10, f11, f282, f283, d1, hx1, hx2, hy1, hy2]
      refine Gives.bind ((blocks_yes k.base lo2 (v := .agg [v]) ⟨v, rfl, sv.v⟩ sw.v fi.good).mono ?_)
      rintro _ h3 ⟨rfl, q3, lo3⟩
      simp only [vms, vmc, AOpd.val, Nat.reduceEqDiff, reduceCtorEq, Nat.reduceAdd, Nat.reduceBEq, f10, f11, f282, f283, w2]
      exact ⟨L.length - (j + 1), by omega, j + 1, rfl, by omega, q2.trans q3, lo3, by trivial, by trivial, by trivial, by trivial⟩
    · have d1 : decide ((j : Int) < (L.length : Int)) = false := by rw [decide_eq_false_iff_not]; omega
      simp only [c9l1, vms, vmc, AOpd.val, Nat.reduceEqDiff, reduceCtorEq, Nat.reduceAdd, Nat.reduceBEq, f10, f11, f282, f283, d1]
      refine Gives.bind ((k.yes _).mono ?_)
      rintro _ _ ⟨rfl, rfl⟩
      simp only [vms, vmc, AOpd.val, Nat.reduceEqDiff, reduceCtorEq, Nat.reduceAdd, Nat.reduceBEq]
  · simp only [vms, vmc, AOpd.val, Nat.reduceEqDiff, reduceCtorEq, Nat.reduceAdd, Nat.reduceBEq, f10, f11]
    simp
theorem eqB_any (b : Bool) : eqBV true (.bool b) (.bool b) = some (.bool false) := by cases b <;> rfl
set_option maxHeartbeats 1600000 in
theorem plays_loop (k : Fits T) (hl : Low h) {h0 : AH} {lv : AV} {asks : List (Int × Int × Int)} (sa0 : Asks h lv asks) (hal : asks.length ≤ maxLen) {xv0 yv0 : AV} {L0 : List (List (List Int))} (p0 : PI h h0 xv0 yv0 L0) (h1L : L0.length = 1) {f : Fr} (f1 : f.at 1 = lv) (f10 : f.at 10 = xv0) (f11 : f.at 11 = yv0) (f12 : f.at 12 = .int .i64 0) :
    Wp (code T (.loop c9l0) f h0) (InBlock 0 (ThenC T c9v (Vm.Ends [.tmp 4] fun r _ => r = .bool true))) := by
  refine wpc_loop (fun d f h' => ∃ i xv yv L, d = 60 - i ∧ i ≤ 60 ∧ PI h h' xv yv L ∧ 1 ≤ L.length ∧ L.length ≤ i + 1 ∧ f.at 1 = lv ∧ f.at 10 = xv ∧ f.at 11 = yv ∧ f.at 12 = .int .i64 (i : Int)) ?_ 60 _ _ ⟨0, xv0, yv0, L0, by omega, by omega, p0, by omega, by omega, f1, f10, f11, f12⟩
  rintro d f h1 ⟨i, xv, yv, L, rfl, hi, p, hL1, hL2, f1, f10, f11, f12⟩
  have sa := sa0.keep hl p.quiet
  have lna := sa.len
  have hml : maxLen = 9223372036854775807 := rfl
  rw [c9l0_eq]
  by_cases hgp : i < asks.length
  case neg =>
    have d1 : decide ((i : Int) < (asks.length : Int)) = false := by rw [decide_eq_false_iff_not]; omega
    simp only [cFst, c9l0, vms, vmc, AOpd.val, Nat.reduceEqDiff, reduceCtorEq, Nat.reduceAdd, Nat.reduceBEq, f1, f10, f11, f12, lna, d1]
    exact plays_end k p (by omega) (by simp only [vms, vmc, AOpd.val, Nat.reduceEqDiff, reduceCtorEq, Nat.reduceAdd, Nat.reduceBEq, f10]) (by simp only [vms, vmc, AOpd.val, Nat.reduceEqDiff, reduceCtorEq, Nat.reduceAdd, Nat.reduceBEq, f11])
  have d1 : decide ((i : Int) < (asks.length : Int)) = true := by rw [decide_eq_true_eq]; omega
  by_cases hlt : i < 60
  case neg =>
    have d2 : decide ((i : Int) < 60) = false := by rw [decide_eq_false_iff_not]; omega
    simp only [cFst, c9l0, vms, vmc, AOpd.val, Nat.reduceEqDiff, reduceCtorEq, Nat.reduceAdd, Nat.reduceBEq, f1, f10, f11, f12, lna, d1, d2]
    exact plays_end k p (by omega) (by simp only [vms, vmc, AOpd.val, Nat.reduceEqDiff, reduceCtorEq, Nat.reduceAdd, Nat.reduceBEq, f10]) (by simp only [vms, vmc, AOpd.val, Nat.reduceEqDiff, reduceCtorEq, Nat.reduceAdd, Nat.reduceBEq, f11])
  have d2 : decide ((i : Int) < 60) = true := by rw [decide_eq_true_eq]; omega
  have w2 : IntKind.i64.wrap ((i : Int) + 1) = ((i + 1 : Nat) : Int) := by rw [wrap_i64 (by omega) (by omega)]; omega
  have wl : IntKind.i64.wrap ((L.length : Int) - 1) = ((L.length - 1 : Nat) : Int) := by rw [wrap_i64 (by omega) (by omega)]; omega
  have mn : mnxAll false (.int .i64 ((L.length - 1 : Nat) : Int)) [.int .i64 5] = some (.int .i64 ((min (L.length - 1) 5 : Nat) : Int)) := by
    simp only [mnxAll, mnxV, if_true, Option.bind_some, Bool.false_eq_true, if_false]
    congr 2
    split <;> omega
  obtain ⟨a, ha⟩ : ∃ a, asks[i]? = some a := ⟨_, List.getElem?_eq_getElem hgp⟩
  obtain ⟨o, off, hi1, hi2, hi3, hi4⟩ := sa.at ha
  have lnx := p.lenX
  simp only [cFst, cSnd, cPut, c9B, c9l0, vms, vmc, AOpd.val, Nat.reduceEqDiff, reduceCtorEq, Nat.reduceAdd, Nat.reduceBEq, f1, f10, f11, f12, lna, d1, d2, lnx, wl, hi1, faddr, hi4, step_mnx, mn]
  refine Gives.bind ((within_nat k.base (hi := min (L.length - 1) 5) (by omega)).mono ?_)
  rintro _ _ ⟨w0, rfl, hw, rfl⟩
  rename_i h1
  have wk : IntKind.i64.wrap (((L.length - 1 : Nat) : Int) - (w0 : Int)) = ((L.length - 1 - w0 : Nat) : Int) := by rw [wrap_i64 (by omega) (by omega)]; omega
  obtain ⟨bs, hbs⟩ : ∃ bs, L[L.length - 1 - w0]? = some bs := ⟨_, List.getElem?_eq_getElem (by omega)⟩
  have fi := p.fine bs (List.mem_of_getElem? hbs)
  obtain ⟨px, v, hx1, hx2, sv⟩ := p.atX hbs
  obtain ⟨py, w, hy1, hy2, sw⟩ := p.atY hbs
  by_cases hk1 : a.1 = 1
  · have e1 : (a.1 == 1) = true := by simp [hk1]
    have sv0 := (sv.low p.low)
    have q2 : Quiet h1 (h1.new (.cells [.nilSlice] true)) := (Quiet.refl _).new _
    have lo2 := p.low.new (.cells [.nilSlice] true)
    have hx2' := load_keep hx2 p.low q2
    have hi3' := load_keep hi3 p.low q2
    have bl : AV.beq (.agg [v]) (.agg [v]) = true := by have := sv.v.cell.2.2; simp [AV.beq, AV.beqs, this]
    simp only [vms, vmc, AOpd.val, Nat.reduceEqDiff, reduceCtorEq, Nat.reduceAdd, Nat.reduceBEq, f1, f10, f11, f12, hx1, hx2, hi1, hi2, hi3, faddr, Nat.add_zero, wk, e1]
    rw [items_look (look_load (g := true) (v := .agg [v]) (by show loadV _ _ _ (Fr.at _ _) = _; simp only [vms, vmc, AOpd.val, Nat.reduceEqDiff, reduceCtorEq, Nat.reduceAdd, Nat.reduceBEq]; exact hx2') (by simp only [vms, vmc, AOpd.val, Nat.reduceEqDiff, reduceCtorEq, Nat.reduceAdd, Nat.reduceBEq]) bl),
      items_look (look_load (v := .int .i64 a.2.1) (by show loadV _ _ _ (Fr.at _ _) = _; simp only [vms, vmc, AOpd.val, Nat.reduceEqDiff, reduceCtorEq, Nat.reduceAdd, Nat.reduceBEq]; exact hi3') (by simp only [vms, vmc, AOpd.val, Nat.reduceEqDiff, reduceCtorEq, Nat.reduceAdd, Nat.reduceBEq]) (by simp [AV.beq])),
      items_look (look_new (q := h1.next) (by simp only [vms, vmc, AOpd.val, Nat.reduceEqDiff, reduceCtorEq, Nat.reduceAdd, Nat.reduceBEq]) get_new_same rfl)]
    simp only [vms, vmc, AOpd.val, Nat.reduceEqDiff, reduceCtorEq, Nat.reduceAdd, Nat.reduceBEq]
    refine Gives.bind ((add_ok k.base lo2 (id := a.2.1) (G := fun o => (o ∉ objs xv ∧ o ∉ objs yv) ∧ o < h1.next) (v := .agg [v]) ⟨v, rfl, sv0.keep p.low q2⟩ fi.good).mono ?_)
    rintro _ h3 ⟨nv, rfl, sN, q3, lo3⟩
    obtain ⟨nl, rfl, sNb⟩ := sN
    have hc2 : (h1.new (.cells [.nilSlice] true)).get h1.next = some (.cells [.nilSlice] true) := get_new_same
    have hc3 := q3.get hc2 (by rw [next_new]; omega)
    have st3 : storeV h3 1 (.ptr h1.next 0) (.agg [nl]) = some (h3.set h1.next (.cells [nl] true)) := store_res hc3 sNb.v.cell.2.1
    have lo4 : Low (h3.set h1.next (.cells [nl] true)) := lo3.set (lo3 _ _ hc3) _
    have hc4 : (h3.set h1.next (.cells [nl] true)).get h1.next = some (.cells [nl] true) := get_set_same
    have q14 : Quiet h1 (h3.set h1.next (.cells [nl] true)) := (q2.trans q3).set (Nat.le_refl _) _
    have sN4 : BlksG (fun o => ((o ∉ objs xv ∧ o ∉ objs yv) ∨ h1.next ≤ o)) (h3.set h1.next (.cells [nl] true)) nl (addB bs a.2.1).1 :=
      (sNb.turn (h' := h3.set h1.next (.cells [nl] true)) fun o ho => by
        rw [AH.get_set, if_neg]
        rintro rfl
        rcases ho with h5 | h5
        · exact Nat.lt_irrefl _ h5.2
        · rw [next_new] at h5; omega).mono fun o ho => by
        rcases ho with h5 | h5
        · exact .inl h5.1
        · rw [next_new] at h5; exact .inr (by omega)
    simp only [vms, vmc, AOpd.val, Nat.reduceEqDiff, reduceCtorEq, Nat.reduceAdd, Nat.reduceBEq]
    rw [items_look (look_new (q := h1.next) (by simp only [vms, vmc, AOpd.val, Nat.reduceEqDiff, reduceCtorEq, Nat.reduceAdd, Nat.reduceBEq]) hc3 rfl)]
    simp only [vms, vmc, AOpd.val, Nat.reduceEqDiff, reduceCtorEq, Nat.reduceAdd, Nat.reduceBEq, st3]
    generalize (h3.set h1.next (.cells [nl] true)) = h4 at *
    have hy4 := load_keep hy2 p.low q14
    have hi4 := load_keep hi3 p.low q14
    simp only [vms, vmc, AOpd.val, Nat.reduceEqDiff, reduceCtorEq, Nat.reduceAdd, Nat.reduceBEq, f1, f10, f11, f12, hy1, hy4, hi1, faddr, hi4]
    refine Gives.bind ((refAdd_ok k.base lo4 (id := a.2.1) (sw.v.keep p.low q14) fi.good fi.small).mono ?_)
    rintro _ h5 ⟨rv, rfl, sR, q5, lo5⟩
    have hc5 := q5.get hc4 (lo4 _ _ hc4)
    have q15 := q14.trans q5
    have dN : AV.isDef (.agg [nl]) = true := rfl
    have cR := sR.v.cell
    have dR : AV.isDef rv = true := by obtain ⟨_, s, _⟩ := sR; exact sees_def s
    obtain ⟨xv', h6, yv', h7, hp1, hp2, p7⟩ := p.push q15 lo5 (sN4.keep lo4 q5) (sR.mono fun o ho => .inr (by have := q14.1; omega)) (fi.add (by omega) a.2.1) (by omega)
    have fn : fillV [AV.nilSlice] [(0, 1, .agg [nl])] = some [nl] := fillA dN
    have fr : fillV [AV.nilSlice] [(0, 1, rv)] = some [rv] := fill1 dR cR.1
    have ln5 : loadV h5 true 1 (.ptr h1.next 0) = some (.agg [nl]) := load_boxA hc5
    simp only [vms, vmc, AOpd.val, Nat.reduceEqDiff, reduceCtorEq, Nat.reduceAdd, Nat.reduceBEq, f1, f10, f11, f12, eqB_any, ln5, fn, hp1, fr, hp2]
    refine plays_tail (kk := L.length - 1 - w0) k.base p7 (sa0.keep hl p7.quiet) ha (by rw [List.length_append]; omega) (by rw [List.length_append]; simp; omega) (by simp only [vms, vmc, AOpd.val, Nat.reduceEqDiff, reduceCtorEq, Nat.reduceAdd, Nat.reduceBEq, f1]) (by simp only [vms, vmc, AOpd.val, Nat.reduceEqDiff, reduceCtorEq, Nat.reduceAdd, Nat.reduceBEq]) (by simp only [vms, vmc, AOpd.val, Nat.reduceEqDiff, reduceCtorEq, Nat.reduceAdd, Nat.reduceBEq]) (by simp only [vms, vmc, AOpd.val, Nat.reduceEqDiff, reduceCtorEq, Nat.reduceAdd, Nat.reduceBEq, f12]) (by simp only [vms, vmc, AOpd.val, Nat.reduceEqDiff, reduceCtorEq, Nat.reduceAdd, Nat.reduceBEq]) ?_
    intro f' h8 p8 _ e1 e10 e11 e12
    simp only [vms, vmc, AOpd.val, Nat.reduceEqDiff, reduceCtorEq, Nat.reduceAdd, Nat.reduceBEq, e1, e10, e11, e12, w2]
    exact ⟨60 - (i + 1), by omega, i + 1, xv', yv', L ++ [(addB bs a.2.1).1], rfl, by omega, p8, by rw [List.length_append, List.length_singleton]; omega, by rw [List.length_append, List.length_singleton]; omega, by trivial, by trivial, by trivial, by trivial⟩
  · by_cases hk2 : a.1 = 2
    · have e1 : (a.1 == 1) = false := by simp [hk1]
      have e2 : (a.1 == 2) = true := by simp [hk2]
      have sv0 := (sv.low p.low)
      have q2 : Quiet h1 (h1.new (.cells [.nilSlice] true)) := (Quiet.refl _).new _
      have lo2 := p.low.new (.cells [.nilSlice] true)
      have hx2' := load_keep hx2 p.low q2
      have hi3' := load_keep hi3 p.low q2
      have bl : AV.beq (.agg [v]) (.agg [v]) = true := by have := sv.v.cell.2.2; simp [AV.beq, AV.beqs, this]
      simp only [vms, vmc, AOpd.val, Nat.reduceEqDiff, reduceCtorEq, Nat.reduceAdd, Nat.reduceBEq, f1, f10, f11, f12, hx1, hx2, hi1, hi2, hi3, faddr, Nat.add_zero, wk, e1, e2]
      rw [items_look (look_load (g := true) (v := .agg [v]) (by show loadV _ _ _ (Fr.at _ _) = _; simp only [vms, vmc, AOpd.val, Nat.reduceEqDiff, reduceCtorEq, Nat.reduceAdd, Nat.reduceBEq]; exact hx2') (by simp only [vms, vmc, AOpd.val, Nat.reduceEqDiff, reduceCtorEq, Nat.reduceAdd, Nat.reduceBEq]) bl),
        items_look (look_load (v := .int .i64 a.2.1) (by show loadV _ _ _ (Fr.at _ _) = _; simp only [vms, vmc, AOpd.val, Nat.reduceEqDiff, reduceCtorEq, Nat.reduceAdd, Nat.reduceBEq]; exact hi3') (by simp only [vms, vmc, AOpd.val, Nat.reduceEqDiff, reduceCtorEq, Nat.reduceAdd, Nat.reduceBEq]) (by simp [AV.beq])),
        items_look (look_new (q := h1.next) (by simp only [vms, vmc, AOpd.val, Nat.reduceEqDiff, reduceCtorEq, Nat.reduceAdd, Nat.reduceBEq]) get_new_same rfl)]
      simp only [vms, vmc, AOpd.val, Nat.reduceEqDiff, reduceCtorEq, Nat.reduceAdd, Nat.reduceBEq]
      refine Gives.bind ((remove_ok k.base lo2 (id := a.2.1) (G := fun o => (o ∉ objs xv ∧ o ∉ objs yv) ∧ o < h1.next) (v := .agg [v]) ⟨v, rfl, sv0.keep p.low q2⟩ fi.good).mono ?_)
      rintro _ h3 ⟨nv, rfl, sN, q3, lo3⟩
      obtain ⟨nl, rfl, sNb⟩ := sN
      have hc2 : (h1.new (.cells [.nilSlice] true)).get h1.next = some (.cells [.nilSlice] true) := get_new_same
      have hc3 := q3.get hc2 (by rw [next_new]; omega)
      have st3 : storeV h3 1 (.ptr h1.next 0) (.agg [nl]) = some (h3.set h1.next (.cells [nl] true)) := store_res hc3 sNb.v.cell.2.1
      have lo4 : Low (h3.set h1.next (.cells [nl] true)) := lo3.set (lo3 _ _ hc3) _
      have hc4 : (h3.set h1.next (.cells [nl] true)).get h1.next = some (.cells [nl] true) := get_set_same
      have q14 : Quiet h1 (h3.set h1.next (.cells [nl] true)) := (q2.trans q3).set (Nat.le_refl _) _
      have sN4 : BlksG (fun o => ((o ∉ objs xv ∧ o ∉ objs yv) ∨ h1.next ≤ o)) (h3.set h1.next (.cells [nl] true)) nl (removeB bs a.2.1).1 :=
        (sNb.turn (h' := h3.set h1.next (.cells [nl] true)) fun o ho => by
          rw [AH.get_set, if_neg]
          rintro rfl
          rcases ho with h5 | h5
          · exact Nat.lt_irrefl _ h5.2
          · rw [next_new] at h5; omega).mono fun o ho => by
          rcases ho with h5 | h5
          · exact .inl h5.1
          · rw [next_new] at h5; exact .inr (by omega)
      simp only [vms, vmc, AOpd.val, Nat.reduceEqDiff, reduceCtorEq, Nat.reduceAdd, Nat.reduceBEq]
      rw [items_look (look_new (q := h1.next) (by simp only [vms, vmc, AOpd.val, Nat.reduceEqDiff, reduceCtorEq, Nat.reduceAdd, Nat.reduceBEq]) hc3 rfl)]
      simp only [vms, vmc, AOpd.val, Nat.reduceEqDiff, reduceCtorEq, Nat.reduceAdd, Nat.reduceBEq, st3]
      generalize (h3.set h1.next (.cells [nl] true)) = h4 at *
      have hy4 := load_keep hy2 p.low q14
      have hi4 := load_keep hi3 p.low q14
      simp only [vms, vmc, AOpd.val, Nat.reduceEqDiff, reduceCtorEq, Nat.reduceAdd, Nat.reduceBEq, f1, f10, f11, f12, hy1, hy4, hi1, faddr, hi4]
      refine Gives.bind ((refRemove_ok k.base lo4 (id := a.2.1) (sw.v.keep p.low q14) fi.good fi.small).mono ?_)
      rintro _ h5 ⟨rv, rfl, sR, q5, lo5⟩
      have hc5 := q5.get hc4 (lo4 _ _ hc4)
      have q15 := q14.trans q5
      have dN : AV.isDef (.agg [nl]) = true := rfl
      have cR := sR.v.cell
      have dR : AV.isDef rv = true := by obtain ⟨_, s, _⟩ := sR; exact sees_def s
      obtain ⟨xv', h6, yv', h7, hp1, hp2, p7⟩ := p.push q15 lo5 (sN4.keep lo4 q5) (sR.mono fun o ho => .inr (by have := q14.1; omega)) (⟨(fi.remove a.2.1).good, (fi.remove a.2.1).small, by have := (fi.remove a.2.1).len; omega⟩) (by omega)
      have fn : fillV [AV.nilSlice] [(0, 1, .agg [nl])] = some [nl] := fillA dN
      have fr : fillV [AV.nilSlice] [(0, 1, rv)] = some [rv] := fill1 dR cR.1
      have ln5 : loadV h5 true 1 (.ptr h1.next 0) = some (.agg [nl]) := load_boxA hc5
      simp only [vms, vmc, AOpd.val, Nat.reduceEqDiff, reduceCtorEq, Nat.reduceAdd, Nat.reduceBEq, f1, f10, f11, f12, eqB_any, ln5, fn, hp1, fr, hp2]
      refine plays_tail (kk := L.length - 1 - w0) k.base p7 (sa0.keep hl p7.quiet) ha (by rw [List.length_append]; omega) (by rw [List.length_append]; simp; omega) (by simp only [vms, vmc, AOpd.val, Nat.reduceEqDiff, reduceCtorEq, Nat.reduceAdd, Nat.reduceBEq, f1]) (by simp only [vms, vmc, AOpd.val, Nat.reduceEqDiff, reduceCtorEq, Nat.reduceAdd, Nat.reduceBEq]) (by simp only [vms, vmc, AOpd.val, Nat.reduceEqDiff, reduceCtorEq, Nat.reduceAdd, Nat.reduceBEq]) (by simp only [vms, vmc, AOpd.val, Nat.reduceEqDiff, reduceCtorEq, Nat.reduceAdd, Nat.reduceBEq, f12]) (by simp only [vms, vmc, AOpd.val, Nat.reduceEqDiff, reduceCtorEq, Nat.reduceAdd, Nat.reduceBEq]) ?_
      intro f' h8 p8 _ e1 e10 e11 e12
      simp only [vms, vmc, AOpd.val, Nat.reduceEqDiff, reduceCtorEq, Nat.reduceAdd, Nat.reduceBEq, e1, e10, e11, e12, w2]
      exact ⟨60 - (i + 1), by omega, i + 1, xv', yv', L ++ [(removeB bs a.2.1).1], rfl, by omega, p8, by rw [List.length_append, List.length_singleton]; omega, by rw [List.length_append, List.length_singleton]; omega, by trivial, by trivial, by trivial, by trivial⟩
    · have e1 : (a.1 == 1) = false := by simp [hk1]
      have e2 : (a.1 == 2) = false := by simp [hk2]
      simp only [vms, vmc, AOpd.val, Nat.reduceEqDiff, reduceCtorEq, Nat.reduceAdd, Nat.reduceBEq, f1, f10, f11, f12, hi1, hi2, faddr, Nat.add_zero, wk, e1, e2]
      refine plays_tail (kk := L.length - 1 - w0) k.base p (sa0.keep hl p.quiet) ha (by omega) (by omega) (by simp only [vms, vmc, AOpd.val, Nat.reduceEqDiff, reduceCtorEq, Nat.reduceAdd, Nat.reduceBEq, f1]) (by simp only [vms, vmc, AOpd.val, Nat.reduceEqDiff, reduceCtorEq, Nat.reduceAdd, Nat.reduceBEq, f10]) (by simp only [vms, vmc, AOpd.val, Nat.reduceEqDiff, reduceCtorEq, Nat.reduceAdd, Nat.reduceBEq, f11]) (by simp only [vms, vmc, AOpd.val, Nat.reduceEqDiff, reduceCtorEq, Nat.reduceAdd, Nat.reduceBEq, f12]) (by simp only [vms, vmc, AOpd.val, Nat.reduceEqDiff, reduceCtorEq, Nat.reduceAdd, Nat.reduceBEq]) ?_
      intro f' h8 p8 _ e1 e10 e11 e12
      simp only [vms, vmc, AOpd.val, Nat.reduceEqDiff, reduceCtorEq, Nat.reduceAdd, Nat.reduceBEq, e1, e10, e11, e12, w2]
      exact ⟨60 - (i + 1), by omega, i + 1, xv, yv, L, rfl, by omega, p8, hL1, by omega, by trivial, by trivial, by trivial, by trivial⟩
end Go.Proofs.Yteokopjiaiflnaa

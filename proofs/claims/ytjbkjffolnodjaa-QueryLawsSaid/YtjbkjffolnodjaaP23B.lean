/- Chapter 23: a part, a word. -/
import Derived.Test.YtjbkjffolnodjaaP23A
namespace Go.Proofs.Ytjbkjffolnodjaa
open Go.Vm
set_option linter.unusedSimpArgs false
set_option linter.unusedVariables false
set_option maxRecDepth 100000
variable {T : Vm.Prog} {h h0 : AH} {p : Nat} {x : St}
def RE (h0 h : AH) (p : Nat) (x : St) : Prop := ∃ v, RV h0 h p x v
theorem RV.mods {v : AV} (r : RV h0 h p x v) {h2 : AH} {F : Nat → Prop} (m : Mods h h2 F) (hF : ∀ o, F o → h0.next ≤ o ∧ o ≠ p ∧ o ∉ objs v) (lo : Low h2) : RV h0 h2 p x v where
  cell := (m.2 _ r.plt fun hp => (hF _ hp).2.1 rfl).trans r.cell
  row := RowS.keep r.row fun o ho => m.2 o (RowS.low r.row r.low o ho) fun hp => (hF _ hp).2.2 ho
  own := r.own
  size := r.size
  room := r.room
  quiet := Mods.trans r.quiet m fun o ho => .inr (hF o ho).1
  low := lo
  base := r.base
theorem part_ok (k : Base T) {v : AV} (r : RV h0 h p x v) (kd : Int) (t : Txt) : Gives T 35 [.ptr p 0, .int .i64 kd, .str t] h fun q h' => RE h0 h' p (x.part kd t) := by
  have rest : ∀ {h : AH} {y : St}, RV h0 h p y v → y.out.length < 64 ∨ y.bad ≠ 0 → ∀ {f : Fr}, f.at 0 = .ptr p 0 → f.at 1 = .int .i64 kd → f.at 2 = .str t →
      Wp (code T (.seq (.ops [⟨(some 14), .mov (.tmp 0), none⟩, ⟨(some 15), .nilChk (.tmp 14), none⟩, ⟨(some 16), .fieldAddr 3 (.tmp 15), none⟩, ⟨(some 17), .load false 1 (.tmp 16), none⟩, ⟨(some 18), .bin .eql (.tmp 17) (.con (.int .i64 0)), none⟩])
        (.cond (.tmp 18) (.ops [⟨(some 19), .mov (.tmp 0), none⟩, ⟨(some 20), .mov (.tmp 0), none⟩, ⟨(some 21), .nilChk (.tmp 20), none⟩, ⟨(some 22), .fieldAddr 2 (.tmp 21), none⟩, ⟨(some 23), .load false 1 (.tmp 22), none⟩,
          ⟨(some 24), .mov (.tmp 1), none⟩, ⟨(some 25), .mov (.tmp 2), none⟩, ⟨(some 26), .build [(.int .i64 0), (.str [])] [(0, 1, (.tmp 24)), (1, 1, (.tmp 25))], none⟩, ⟨(some 27), .buildSlice 2 1 [(.int .i64 0), (.str [])] [(0, 2, (.tmp 26))], none⟩,
          ⟨(some 28), .append 2 24 (.tmp 23) (.tmp 27), none⟩, ⟨(some 29), .nilChk (.tmp 19), none⟩, ⟨(some 30), .fieldAddr 2 (.tmp 29), none⟩, ⟨none, .store 1 (.tmp 30) (.tmp 28), none⟩]) .skip)) f h)
        (Vm.Ends [] fun _ h' => RE h0 h' p (if y.bad = 0 then { y with out := y.out ++ [(kd, t)] } else y)) := by
    intro h y r hc f f0 f1 f2
    by_cases hb : y.bad = 0
    · have e1 : (y.bad == 0) = true := by simp [hb]
      have hlt : y.out.length < 64 := hc.elim id fun h1 => absurd hb h1
      have b1 : fillV [AV.int .i64 0, AV.str []] [(0, 1, AV.int .i64 kd), (1, 1, AV.str t)] = some [AV.int .i64 kd, AV.str t] := by simp [fillV, AV.isDef, AV.cells, setMany]
      have b2 : fillV [AV.int .i64 0, AV.str []] [(0, 2, AV.agg [AV.int .i64 kd, AV.str t])] = some [AV.int .i64 kd, AV.str t] := by simp [fillV, AV.isDef, AV.cells, setMany]
      have q1 : Quiet h (h.new (.cells [AV.int .i64 kd, AV.str t] true)) := (Quiet.refl _).new _
      have r1 : RV h0 (h.new (.cells [AV.int .i64 kd, AV.str t] true)) p y v := r.mods (q1.mods _) (fun o (ho : False) => ho.elim) (r.low.new _)
      obtain ⟨v', h2, ap, row, ho, hlt', on, lo⟩ := RowS.append (bytes := 24) r1.low r1.row (by decide) (by decide) (by decide) (by simp [parts]; omega) (o2 := h.next) (x := [AV.int .i64 kd, AV.str t]) get_new_same rfl (by simp [AV.flat])
      have hv' : ∀ o ∈ objs v', h0.next ≤ o ∧ o ≠ p := fun o hoo => by
        rcases ho o hoo with h3 | h3
        · exact r.own o h3
        · have := r1.plt; have := r1.base; exact ⟨by omega, by omega⟩
      have hg : h2.get p = some (rcell y v) := (on.2 _ r1.plt (fun hm => (r.own _ hm).2 rfl)).trans r1.cell
      have cc := RowS.cell row
      have st : storeV h2 1 (.ptr p 2) v' = some (h2.set p (.cells [.str y.s, .int .i64 y.deep, v', .int .i64 y.bad] true)) := store_at hg (by simp) cc.1 cc.2.1
      simp only [vms, vmc, AOpd.val, Nat.reduceEqDiff, reduceCtorEq, Nat.reduceAdd, Nat.reduceBEq, f0, f1, f2, nc, fa, r.ld3, e1, r.ld2, b1, b2, ap, st]
      rw [if_pos hb]
      refine ⟨v', get_set_same, ?_, hv', r.size, by simp; omega, ?_, lo.set (by have := on.1; have := r1.plt; omega) _, r.base⟩
      · have : parts (y.out ++ [(kd, t)]) = parts y.out ++ [[AV.int .i64 kd, AV.str t]] := by simp [parts]
        rw [this]
        exact RowS.keep row fun o hoo => by rw [AH.get_set, if_neg (Ne.symm (hv' o hoo).2)]
      · exact (Mods.trans r1.quiet (on.mods (G := fun o => o ∈ objs v) fun o ho => .inl ho) fun o ho => .inr (r.own o ho).1).set (.inr r.base) _
    · have e1 : (y.bad == 0) = false := by simp [hb]
      simp only [vms, vmc, AOpd.val, Nat.reduceEqDiff, reduceCtorEq, Nat.reduceAdd, Nat.reduceBEq, f0, nc, fa, r.ld3, e1]
      rw [if_neg hb]
      exact ⟨v, r⟩
  refine gives_func (k.env 35 (by decide)) (k.at (n := 35) rfl) rfl ?_
  have ln : lenOfV v = some x.out.length := by have := RowS.len r.row; simpa [parts] using this
  by_cases hfull : 64 ≤ x.out.length
  · have d1 : decide ((x.out.length : Int) ≥ 64) = true := by rw [decide_eq_true_eq]; omega
    simp only [a35, c35, vms, vmc, AOpd.val, Nat.reduceEqDiff, reduceCtorEq, Nat.reduceAdd, Nat.reduceBEq, nc, fa, r.ld2, ln, d1]
    refine Gives.bind ((wrong_ok k r 11).mono ?_)
    rintro rr h1 ⟨r1, _⟩
    have hb : (x.wrong 11).bad ≠ 0 := by
      unfold St.wrong; split
      · simp
      · assumption
    have := rest r1 (.inr hb) (f := ((((((((Fr.ofArgs 0 [.ptr p 0, .int .i64 kd, .str t] .nil).put (some 6) (.ptr p 0)).put (some 7) (.ptr p 0)).put (some 8) (.ptr p 2)).put (some 9) v).put (some 10) (.int .i64 (x.out.length : Int))).put (some 11) (.bool true)).put (some 12) (.ptr p 0)).put (some 13) rr) (by simp only [vms, vmc, AOpd.val, Nat.reduceEqDiff, reduceCtorEq, Nat.reduceAdd, Nat.reduceBEq]) (by simp only [vms, vmc, AOpd.val, Nat.reduceEqDiff, reduceCtorEq, Nat.reduceAdd, Nat.reduceBEq]) (by simp only [vms, vmc, AOpd.val, Nat.reduceEqDiff, reduceCtorEq, Nat.reduceAdd, Nat.reduceBEq])
    simp only [vms, vmc, AOpd.val, Nat.reduceEqDiff, reduceCtorEq, Nat.reduceAdd, Nat.reduceBEq] at this ⊢
    rw [St.part, St.full, if_pos hfull]
    exact this
  · have d1 : decide ((x.out.length : Int) ≥ 64) = false := by rw [decide_eq_false_iff_not]; omega
    have := rest r (.inl (by omega)) (f := ((((((Fr.ofArgs 0 [.ptr p 0, .int .i64 kd, .str t] .nil).put (some 6) (.ptr p 0)).put (some 7) (.ptr p 0)).put (some 8) (.ptr p 2)).put (some 9) v).put (some 10) (.int .i64 (x.out.length : Int))).put (some 11) (.bool false)) (by simp only [vms, vmc, AOpd.val, Nat.reduceEqDiff, reduceCtorEq, Nat.reduceAdd, Nat.reduceBEq]) (by simp only [vms, vmc, AOpd.val, Nat.reduceEqDiff, reduceCtorEq, Nat.reduceAdd, Nat.reduceBEq]) (by simp only [vms, vmc, AOpd.val, Nat.reduceEqDiff, reduceCtorEq, Nat.reduceAdd, Nat.reduceBEq])
    simp only [a35, c35, vms, vmc, AOpd.val, Nat.reduceEqDiff, reduceCtorEq, Nat.reduceAdd, Nat.reduceBEq, nc, fa, r.ld2, ln, d1] at this ⊢
    rw [St.part, St.full, if_neg hfull]
    exact this
end Go.Proofs.Ytjbkjffolnodjaa

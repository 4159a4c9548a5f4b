/- PostingPlays: the whole. -/
import Derived.Test.YteokopjiaiflnaaP20Yi
namespace Go.Proofs.Yteokopjiaiflnaa
open Go.Vm
set_option linter.unusedSimpArgs false
set_option linter.unusedVariables false
set_option maxRecDepth 100000
variable {T : Vm.Prog} {h : AH}
def c9m : ACode := cTail 2 c9
theorem c9_eq : c9 = cPut 2 c9 c9m := rfl
theorem c9m_eq : c9m = cPut 6 c9m c9v := rfl
theorem at22 (k : Base T) : T.func 22 = some (aRoomy 8 (.int .i64 0)) := k.at (n := 22) rfl
theorem at24 (k : Base T) : T.func 24 = some (aIntact 19) := k.at (n := 24) rfl
theorem at19 (k : Base T) : T.func 19 = some aSame := k.at (n := 19) rfl
set_option maxHeartbeats 1600000 in
theorem plays_main (k : Fits T) (hl : Low h) {v lv : AV} {ids : List Int} {asks : List (Int × Int × Int)} (s : Sees h v (izs ids)) (hc : capOk v) (hlen : ids.length ≤ 100) (sa : Asks h lv asks) (hal : asks.length ≤ maxLen) {f : Fr} (f0 : f.at 0 = v) (f1 : f.at 1 = lv) : Wp (code T c9m f h) (Vm.Ends [.tmp 4] fun r _ => r = .bool true) := by
  have el : (izs ids).length = ids.length := by rw [izs, List.length_map]
  rw [c9m_eq]
  simp only [cPut, c9m, cTail, c9, vms, vmc, AOpd.val, Nat.reduceEqDiff, reduceCtorEq, Nat.reduceAdd, Nat.reduceBEq, f0]
  refine Gives.bind ((roomy_ok (k.base.env 22 (by decide)) (at22 k.base) (by decide) (m := .int .i64 (-4)) hl s (by omega) (by rw [List.all_eq_true]; exact izs_flat1) rfl rfl).mono ?_)
  rintro _ h1 ⟨ex, lo1, rfl, hn1, l, hg, hll, hla, hma⟩
  rw [el] at hll hma
  have q1 := ex.quiet
  have s1 := sees_keep s hl q1
  have ln1 : lenOfV v = some ids.length := by have := s1.len; rwa [el] at this
  have sf : Sees h1 (.slice h.next 0 1 ids.length (ids.length + 80) true) (izs ids) := by
    refine .inr ⟨h.next, 0, ids.length + 80, true, l, some true, by rw [el], hg, by rw [el]; omega, fun i x hx => ?_⟩
    rw [Nat.zero_add]; exact hla i x hx
  have hst := slc_to0 (o := h.next) (len := ids.length + 80) (cap := ids.length + 80) (ex := true) (show ids.length ≤ ids.length + 80 by omega)
  simp only [vms, vmc, AOpd.val, Nat.reduceEqDiff, reduceCtorEq, Nat.reduceAdd, Nat.reduceBEq, f0, el, ln1, hst]
  refine Gives.bind ((k.ofs lo1 sf (show ids.length ≤ ids.length + 80 by omega) (by omega)).mono ?_)
  rintro r h2 ⟨q2, lo2, hr⟩
  have hr' : ∃ xl bs e, r = .tuple [.agg [xl], .int .i64 e] ∧ BlksV h2 xl bs ∧ Fine bs 101 ∧ ((OkIds ids ∧ bs = chunks ids ∧ e = 0) ∨ (¬ OkIds ids ∧ bs = [] ∧ e = 8)) := by
    rcases hr with ⟨ok, lv', rfl, xl, rfl, sb⟩ | ⟨no, rfl⟩
    · exact ⟨xl, chunks ids, 0, rfl, sb, ⟨chunks_good ok.rise (by omega), chunks_small ids, by rw [chunks_flat]; omega⟩, .inl ⟨ok, rfl, rfl⟩⟩
    · obtain ⟨_, e, sb⟩ := listV_nil (h := h2)
      cases e
      exact ⟨.nilSlice, [], 8, rfl, sb, ⟨good_nil, fun b hb => by simp at hb, by simp⟩, .inr ⟨no, rfl, rfl⟩⟩
  clear hr
  obtain ⟨xl, bs, e, rfl, sx, fine, hcase⟩ := hr'
  have st := store_res (p := h2.next) (a := .nilSlice) (h := h2.new (.cells [.nilSlice] true)) get_new_same sx.cell.2.1
  have q3 : Quiet h2 ((h2.new (.cells [.nilSlice] true)).set h2.next (.cells [xl] true)) := ((Quiet.refl _).new _).set (Nat.le_refl _) _
  have lo3 : Low ((h2.new (.cells [.nilSlice] true)).set h2.next (.cells [xl] true)) := (lo2.new _).set (by rw [next_new]; omega) _
  have hg3 : ((h2.new (.cells [.nilSlice] true)).set h2.next (.cells [xl] true)).get h2.next = some (.cells [xl] true) := get_set_same
  have nx3 : ((h2.new (.cells [.nilSlice] true)).set h2.next (.cells [xl] true)).next = h2.next + 1 := rfl
  simp only [vms, vmc, AOpd.val, Nat.reduceEqDiff, reduceCtorEq, Nat.reduceAdd, Nat.reduceBEq, f0, st]
  generalize ((h2.new (.cells [.nilSlice] true)).set h2.next (.cells [xl] true)) = h3 at *
  have sx3 := sx.keep lo2 q3
  have q13 := q2.trans q3
  have s3 := sees_keep s1 lo1 q13
  refine Gives.bind ((refOf_ok k.base lo3 s3 hc (by omega)).mono ?_)
  rintro r h4 ⟨q4, lo4, hr⟩
  have hr' : ∃ yl, r = .tuple [yl, .int .i64 e] ∧ BlksV h4 yl bs := by
    rcases hr with ⟨ok, yl, rfl, ap⟩ | ⟨no, rfl⟩
    · rcases hcase with ⟨_, rfl, rfl⟩ | ⟨no, _⟩
      · exact ⟨yl, rfl, ap.fresh.blks⟩
      · exact absurd ok no
    · rcases hcase with ⟨ok, _⟩ | ⟨_, rfl, rfl⟩
      · exact absurd ok no
      · obtain ⟨_, e, sb⟩ := listV_nil (h := h4)
        cases e
        exact ⟨.nilSlice, rfl, sb⟩
  clear hr
  obtain ⟨yl, rfl, sy⟩ := hr'
  have q14 := q13.trans q4
  have hg4 := q4.get hg3 (by omega)
  have hr4 := q14.get hg hn1
  have sx4 := sx3.keep lo3 q4
  have s4 := sees_keep s1 lo1 q14
  have en : (e != e) = false := by simp
  simp only [vms, vmc, AOpd.val, Nat.reduceEqDiff, reduceCtorEq, Nat.reduceAdd, Nat.reduceBEq, f0, en]
  refine Gives.bind ((intact_ok (k.base.env 24 (by decide)) (at24 k.base) (k.base.env 19 (by decide)) (at19 k.base) (m := -4) s4 (by omega) hr4 hll hla hma).mono ?_)
  rintro _ _ ⟨rfl, rfl⟩
  rename_i h4
  simp only [vms, vmc, AOpd.val, Nat.reduceEqDiff, reduceCtorEq, Nat.reduceAdd, Nat.reduceBEq, f0, load_boxA hg4]
  refine Gives.bind ((blocks_yes k.base lo4 (v := .agg [xl]) ⟨xl, rfl, sx4⟩ sy fine.good).mono ?_)
  rintro _ h5 ⟨rfl, q5, lo5⟩
  have hg5 := q5.get hg4 (lo4 _ _ hg4)
  have sx5 := sx4.keep lo4 q5
  have sy5 := sy.keep lo4 q5
  have dx : AV.isDef (.agg [xl]) = true := rfl
  have cy := sy5.cell
  have dy : AV.isDef yl = true := by obtain ⟨_, s, _⟩ := sy5; exact sees_def s
  have fx : fillV [AV.nilSlice] [(0, 1, .agg [xl])] = some [xl] := fillA dx
  have fy : fillV [AV.nilSlice] [(0, 1, yl)] = some [yl] := fill1 dy cy.1
  have q05 := (q1.trans q14).trans q5
  have q7 : Quiet h5 ((h5.new (.cells [xl] true)).new (.cells [yl] true)) := ((Quiet.refl _).new _).new _
  have lo7 : Low ((h5.new (.cells [xl] true)).new (.cells [yl] true)) := (lo5.new _).new _
  have gx : ((h5.new (.cells [xl] true)).new (.cells [yl] true)).get h5.next = some (.cells [xl] true) := by
    rw [AH.get_new, if_neg (by rw [next_new]; omega), get_new_same]
  have gy : ((h5.new (.cells [xl] true)).new (.cells [yl] true)).get (h5.next + 1) = some (.cells [yl] true) := get_new_same
  have nn : (h5.new (.cells [xl] true)).next = h5.next + 1 := rfl
  have one : ∀ {g : AH} {w : AV} {G : Nat → Prop}, BlksG G g w bs → ∀ (j : Nat) z cs, [w][j]? = some z → [bs][j]? = some cs → BlksG G g z cs := fun {g w G} sb j z cs hz hc => by
    match j with
    | 0 => simp at hz hc; subst hz hc; exact sb
    | j + 1 => simp at hz
  have p0 : PI h ((h5.new (.cells [xl] true)).new (.cells [yl] true)) (.slice h5.next 0 1 1 1 true) (.slice (h5.next + 1) 0 1 1 1 true) [bs] := by
    refine ⟨q05.trans q7, lo7, ⟨[xl], row1_of gx rfl rfl (by simp) (fun i x hx => hx), rfl, one (((sx5.g lo5).keep lo5 q7).mono fun o ho => ?_)⟩, ⟨[yl], row1_of gy rfl rfl (by simp) (fun i x hx => hx), rfl, one (((sy5.g lo5).keep lo5 q7).mono fun o ho => ?_)⟩, fun o ho => ?_, fun o ho => ?_, fun o ho hq => ?_, fun cs hcs => ?_⟩
    · refine ⟨fun hx => ?_, fun hy => ?_⟩
      · simp [objs] at hx; omega
      · simp [objs] at hy; omega
    · refine ⟨fun hx => ?_, fun hy => ?_⟩
      · simp [objs] at hx; omega
      · simp [objs] at hy; omega
    · simp [objs] at ho; have := q05.1; omega
    · simp [objs] at ho; have := q05.1; omega
    · simp [objs] at ho hq; omega
    · simp at hcs; subst hcs; exact fine
  simp only [vms, vmc, AOpd.val, Nat.reduceEqDiff, reduceCtorEq, Nat.reduceAdd, Nat.reduceBEq, f0, load_boxA hg5, fx, fy, nn]
  exact plays_loop k hl sa hal p0 rfl (by simp only [vms, vmc, AOpd.val, Nat.reduceEqDiff, reduceCtorEq, Nat.reduceAdd, Nat.reduceBEq, f1]) (by simp only [vms, vmc, AOpd.val, Nat.reduceEqDiff, reduceCtorEq, Nat.reduceAdd, Nat.reduceBEq]) (by simp only [vms, vmc, AOpd.val, Nat.reduceEqDiff, reduceCtorEq, Nat.reduceAdd, Nat.reduceBEq]) (by simp only [vms, vmc, AOpd.val, Nat.reduceEqDiff, reduceCtorEq, Nat.reduceAdd, Nat.reduceBEq])
theorem plays_run (k : Fits T) (hl : Low h) {v lv : AV} {ids : List Int} {asks : List (Int × Int × Int)} (s : Sees h v (izs ids)) (hc : capOk v) (sa : Asks h lv asks) (hal : asks.length ≤ maxLen) : Gives T 9 [v, lv] h fun r _ => r = .bool true := by
  refine gives_func (k.base.env 9 (by decide)) (k.base.at (n := 9) rfl) rfl ?_
  have ln : lenOfV v = some ids.length := by have := s.len; rwa [izs, List.length_map] at this
  simp only [a9]
  rw [c9_eq]
  simp only [cPut, c9, vms, vmc, AOpd.val, Nat.reduceEqDiff, reduceCtorEq, Nat.reduceAdd, Nat.reduceBEq, ln]
  by_cases hg : ids.length > 100
  · have d1 : decide ((ids.length : Int) > 100) = true := by rw [decide_eq_true_eq]; omega
    obtain ⟨v', h1, h2, h3⟩ := sees_headC s hc (n := 100) (by rw [izs, List.length_map]; omega) (k := .i64)
    have h1' : slcV 1 v none (some (.int .i64 100)) none = some v' := h1
    rw [izs, ← List.map_take] at h2
    simp only [vms, vmc, AOpd.val, Nat.reduceEqDiff, reduceCtorEq, Nat.reduceAdd, Nat.reduceBEq, d1, h1']
    exact plays_main k hl h2 h3 (by rw [List.length_take]; omega) sa hal (by simp only [vms, vmc, AOpd.val, Nat.reduceEqDiff, reduceCtorEq, Nat.reduceAdd, Nat.reduceBEq]) (by simp only [vms, vmc, AOpd.val, Nat.reduceEqDiff, reduceCtorEq, Nat.reduceAdd, Nat.reduceBEq])
  · have d1 : decide ((ids.length : Int) > 100) = false := by rw [decide_eq_false_iff_not]; omega
    simp only [vms, vmc, AOpd.val, Nat.reduceEqDiff, reduceCtorEq, Nat.reduceAdd, Nat.reduceBEq, d1]
    exact plays_main k hl s hc (by omega) sa hal (by simp only [vms, vmc, AOpd.val, Nat.reduceEqDiff, reduceCtorEq, Nat.reduceAdd, Nat.reduceBEq]) (by simp only [vms, vmc, AOpd.val, Nat.reduceEqDiff, reduceCtorEq, Nat.reduceAdd, Nat.reduceBEq])
end Go.Proofs.Yteokopjiaiflnaa

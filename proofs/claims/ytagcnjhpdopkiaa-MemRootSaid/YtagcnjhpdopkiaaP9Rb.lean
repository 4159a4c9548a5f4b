/- The root's words, read by the reference: Decode. -/
import Derived.Test.YtagcnjhpdopkiaaP9Ra
import Derived.Test.YtagcnjhpdopkiaaVmZj
namespace Go.Proofs.Ytagcnjhpdopkiaa
open Go.Vm
set_option linter.unusedSimpArgs false
set_option linter.unusedVariables false
set_option maxRecDepth 100000
variable {T : Vm.Prog} {h : AH}
theorem shr0 {n : Nat} (hn : n < 64) (k : IntKind) : binV .shr (.int .u64 0) (.int k (n : Int)) = some (.int .u64 0) := by
  show intShift .shr .u64 0 (.ofNat n) = _
  unfold intShift
  rw [if_neg (by simp only [Int.ofNat_eq_natCast]; omega)]
  show some (AV.int .u64 (Int.fdiv 0 (2 ^ min n 64))) = _
  rw [Int.zero_fdiv]
theorem quo8 {i : Nat} (hi : i < 1000) : binV .quo (.int .i64 (i : Int)) (.int .i64 8) = some (.int .i64 ((i / 8 : Nat) : Int)) := by
  show some (AV.int .i64 (IntKind.i64.wrap ((i : Int).tdiv 8))) = _
  rw [Int.tdiv_eq_ediv_of_nonneg (by omega), wrap_i64 (by omega) (by omega)]; rfl
theorem rem8 {i : Nat} (hi : i < 1000) : binV .rem (.int .i64 (i : Int)) (.int .i64 8) = some (.int .i64 ((i % 8 : Nat) : Int)) := by
  show some (AV.int .i64 ((i : Int).tmod 8)) = _
  rw [Int.tmod_eq_emod_of_nonneg (by omega)]; rfl
theorem bytes0_ref (k : Fits T) (hl : Low h) {o : Nat} {ex : Bool} (hg : h.get o = some (.cells (wcells rootW) true)) : Gives T 42 [.slice o 2 1 2 262 ex, .int .i64 0] h fun r h' => r = .tuple [.str [], .int .i64 0] ∧ Quiet h h' ∧ Low h' := by
  refine gives_func (k.env _ (by decide)) (k.at (fn := a42) rfl) rfl ?_
  have w16 : IntKind.i64.wrap (8 * ((2 : Nat) : Int)) = 16 := rfl
  have mk : mkSliceV h 1 1 [.int .u8 0] (.int .i64 0) (.int .i64 0) = some (.slice h.next 0 1 0 0 true, h.new (.cells [] true)) := rfl
  have q1 : Quiet h (h.new (.cells [] true)) := (Quiet.refl _).new _
  have lo1 : Low (h.new (.cells [] true)) := hl.new _
  have hg1 := q1.get hg (hl _ _ hg)
  have tos : toStrV (h.new (.cells [] true)) (.slice h.next 0 1 0 0 true) = some (.str []) := by
    simp [toStrV, AH.load, get_new_same, strOf]
  simp only [a42, c42, vms, vmc, AOpd.val, Nat.reduceEqDiff, reduceCtorEq, Nat.reduceAdd, Nat.reduceBEq, show decide ((0 : Int) < 0) = false from rfl, w16, show decide ((0 : Int) > 16) = false from rfl, mk]
  generalize (h.new (.cells [] true)) = h1 at *
  refine wpc_loop (fun m f h' => f.at 0 = .slice o 2 1 2 262 ex ∧ f.at 1 = .int .i64 0 ∧ f.at 6 = .slice h.next 0 1 0 0 true ∧ f.at 7 = .int .i64 0 ∧ h' = h1) ?_ 0 _ _ ⟨?_, ?_, ?_, ?_, rfl⟩
  · rintro m f h' ⟨f0, f1, f6, f7, rfl⟩
    simp only [c42l0, vms, vmc, AOpd.val, Nat.reduceEqDiff, reduceCtorEq, Nat.reduceAdd, Nat.reduceBEq, f0, f1, f6, f7, show decide ((0 : Int) < 0) = false from rfl]
    refine wpc_loop (fun m f h'' => ∃ i, m = 16 - i ∧ i ≤ 16 ∧ f.at 0 = .slice o 2 1 2 262 ex ∧ f.at 6 = .slice h.next 0 1 0 0 true ∧ f.at 8 = .int .i64 (i : Nat) ∧ h'' = h') ?_ 16 _ _ ⟨0, rfl, by omega, ?_, ?_, ?_, rfl⟩
    · rintro m f h'' ⟨i, rfl, hi, f0, f6, f8, rfl⟩
      by_cases hlt : i < 16
      · have d1 : decide ((i : Int) < 16) = true := by rw [decide_eq_true_eq]; omega
        have hix : idxAddrV 1 (.slice o 2 1 2 262 ex) (.int .i64 ((i / 8 : Nat) : Int)) = some (.ptr o (2 + i / 8)) := idx_nat (by omega)
        have hld : loadV h'' false 1 (.ptr o (2 + i / 8)) = some (.int .u64 0) := by
          have := root_cell (i := 2 + i / 8) (by omega)
          rw [if_neg (by omega)] at this
          exact load_at hg1 this
        have wm : IntKind.i64.wrap (8 * ((i % 8 : Nat) : Int)) = ((8 * (i % 8) : Nat) : Int) := by rw [wrap_i64 (by omega) (by omega)]; omega
        have w1 : IntKind.i64.wrap ((i : Int) + 1) = ((i + 1 : Nat) : Int) := by rw [wrap_i64 (by omega) (by omega)]; omega
        simp only [c42l1, vms, vmc, AOpd.val, Nat.reduceEqDiff, reduceCtorEq, Nat.reduceAdd, Nat.reduceBEq, f0, f6, f8, w16, d1, quo8 (show i < 1000 by omega), rem8 (show i < 1000 by omega), hix, hld, wm, shr0 (show 8 * (i % 8) < 64 by omega), show IntKind.u8.wrap 0 = 0 from rfl, show ((0 : Int) != 0) = false from rfl, w1]
        exact ⟨16 - (i + 1), by omega, i + 1, rfl, by omega, trivial, trivial, rfl, trivial⟩
      · have d1 : decide ((i : Int) < 16) = false := by rw [decide_eq_false_iff_not]; omega
        simp only [c42l1, vms, vmc, AOpd.val, Nat.reduceEqDiff, reduceCtorEq, Nat.reduceAdd, Nat.reduceBEq, f0, f6, f8, w16, d1, tos]
        exact ⟨trivial, q1, lo1⟩
    · simp only [vms, vmc, AOpd.val, Nat.reduceEqDiff, reduceCtorEq, Nat.reduceAdd, Nat.reduceBEq, f0]
    · simp only [vms, vmc, AOpd.val, Nat.reduceEqDiff, reduceCtorEq, Nat.reduceAdd, Nat.reduceBEq, f6]
    · simp only [vms, vmc, AOpd.val, Nat.reduceEqDiff, reduceCtorEq, Nat.reduceAdd, Nat.reduceBEq]; rfl
  · simp only [vms, vmc, AOpd.val, Nat.reduceEqDiff, reduceCtorEq, Nat.reduceAdd, Nat.reduceBEq]
  · simp only [vms, vmc, AOpd.val, Nat.reduceEqDiff, reduceCtorEq, Nat.reduceAdd, Nat.reduceBEq]
  · simp only [vms, vmc, AOpd.val, Nat.reduceEqDiff, reduceCtorEq, Nat.reduceAdd, Nat.reduceBEq]
  · simp only [vms, vmc, AOpd.val, Nat.reduceEqDiff, reduceCtorEq, Nat.reduceAdd, Nat.reduceBEq]
theorem parts_ref (k : Fits T) {v : AV} {m : Int} (r : RootV h v) : Gives T 43 [.int .i64 4, .int .i64 m, v] h fun r h' => r = .tuple [.nilSlice, .nilSlice] ∧ h' = h := by
  refine gives_func (k.env _ (by decide)) (k.at (fn := a43) rfl) rfl ?_
  simp only [a43, c43, vms, vmc, AOpd.val, Nat.reduceEqDiff, reduceCtorEq, Nat.reduceAdd, Nat.reduceBEq, show ((4 : Int) == 1) = false from rfl, show ((4 : Int) == 2) = false from rfl, show ((4 : Int) == 3) = false from rfl, show ((4 : Int) == 4) = true from rfl]
  refine wpc_loop (fun m f h' => ∃ i, m = 256 - i ∧ i ≤ 256 ∧ f.at 2 = v ∧ f.at 8 = .nilSlice ∧ f.at 9 = .nilSlice ∧ f.at 14 = .int .i64 (i : Nat) ∧ h' = h) ?_ 256 _ _ ⟨0, rfl, by omega, ?_, ?_, ?_, ?_, rfl⟩
  · rintro m f h' ⟨i, rfl, hi, f2, f8, f9, f14, rfl⟩
    by_cases hlt : i < 256
    · have d1 : decide ((i : Int) < 256) = true := by rw [decide_eq_true_eq]; omega
      have wa : IntKind.i64.wrap (4 + (i : Int)) = ((4 + i : Nat) : Int) := by rw [wrap_i64 (by omega) (by omega)]; omega
      obtain ⟨p, hp1, hp2⟩ := r.at (i := 4 + i) (by omega)
      rw [if_neg (by omega)] at hp2
      have hp3 : loadV h' false 1 p = some (.int .u64 0) := hp2
      have w1 : IntKind.i64.wrap ((i : Int) + 1) = ((i + 1 : Nat) : Int) := by rw [wrap_i64 (by omega) (by omega)]; omega
      simp only [c43l2, vms, vmc, AOpd.val, Nat.reduceEqDiff, reduceCtorEq, Nat.reduceAdd, Nat.reduceBEq, f2, f8, f9, f14, d1, wa, hp1, hp3, show ((0 : Int) != 0) = false from rfl, w1]
      exact ⟨256 - (i + 1), by omega, i + 1, rfl, by omega, trivial, trivial, trivial, rfl, trivial⟩
    · have d1 : decide ((i : Int) < 256) = false := by rw [decide_eq_false_iff_not]; omega
      simp only [c43l2, vms, vmc, AOpd.val, Nat.reduceEqDiff, reduceCtorEq, Nat.reduceAdd, Nat.reduceBEq, f2, f8, f9, f14, d1]
      exact ⟨trivial, trivial⟩
  · simp only [vms, vmc, AOpd.val, Nat.reduceEqDiff, reduceCtorEq, Nat.reduceAdd, Nat.reduceBEq]
  · simp only [vms, vmc, AOpd.val, Nat.reduceEqDiff, reduceCtorEq, Nat.reduceAdd, Nat.reduceBEq]
  · simp only [vms, vmc, AOpd.val, Nat.reduceEqDiff, reduceCtorEq, Nat.reduceAdd, Nat.reduceBEq]
  · simp only [vms, vmc, AOpd.val, Nat.reduceEqDiff, reduceCtorEq, Nat.reduceAdd, Nat.reduceBEq]; rfl
theorem decode_ref (k : Fits T) (hl : Low h) {v : AV} (r : RootV h v) : Gives T 18 [v] h fun r h' => r = .tuple [.agg rootC, .bool true] ∧ Quiet h h' ∧ Low h' := by
  refine gives_func (k.env _ (by decide)) (k.at (fn := a18) rfl) rfl ?_
  have fa : ∀ o j, fieldAddrV j (.ptr o 0) = some (.ptr o (0 + j)) := fun o j => rfl
  have q1 : Quiet h (h.new (.cells [.int .i64 0, .int .u64 0, .str [], .nilSlice, .nilSlice] true)) := (Quiet.refl _).new _
  have lo1 : Low (h.new (.cells [.int .i64 0, .int .u64 0, .str [], .nilSlice, .nilSlice] true)) := hl.new _
  have g1 : (h.new (.cells [.int .i64 0, .int .u64 0, .str [], .nilSlice, .nilSlice] true)).get h.next = some (.cells [.int .i64 0, .int .u64 0, .str [], .nilSlice, .nilSlice] true) := get_new_same
  have n1 : (h.new (.cells [.int .i64 0, .int .u64 0, .str [], .nilSlice, .nilSlice] true)).next = h.next + 1 := rfl
  simp only [a18, c18, vms, vmc, AOpd.val, Nat.reduceEqDiff, reduceCtorEq, Nat.reduceAdd, Nat.reduceBEq]
  generalize (h.new (.cells [.int .i64 0, .int .u64 0, .str [], .nilSlice, .nilSlice] true)) = h1 at *
  have r1 := r.quiet hl q1
  have q2 : Quiet h1 (h1.new (.cells [.int .i64 0, .int .u64 0, .str [], .nilSlice, .nilSlice] true)) := (Quiet.refl _).new _
  have lo2 : Low (h1.new (.cells [.int .i64 0, .int .u64 0, .str [], .nilSlice, .nilSlice] true)) := lo1.new _
  have r2 := r1.quiet lo1 q2
  have g2 : (h1.new (.cells [.int .i64 0, .int .u64 0, .str [], .nilSlice, .nilSlice] true)).get h1.next = some (.cells [.int .i64 0, .int .u64 0, .str [], .nilSlice, .nilSlice] true) := get_new_same
  obtain ⟨p0, ip0, lp0⟩ := r1.at (i := 0) (by decide)
  obtain ⟨p1, ip1, lp1⟩ := r1.at (i := 1) (by decide)
  have jp0 : idxAddrV 1 v (.int .i64 0) = some p0 := ip0
  have jp1 : idxAddrV 1 v (.int .i64 1) = some p1 := ip1
  have kp0 : loadV h1 false 1 p0 = some (.int .u64 0) := lp0
  have kp1 : loadV h1 false 1 p1 = some (.int .u64 4) := lp1
  obtain ⟨p0', ip0', lp0'⟩ := r2.at (i := 0) (by decide)
  obtain ⟨p1', ip1', lp1'⟩ := r2.at (i := 1) (by decide)
  have e0 : p0' = p0 := by rw [ip0] at ip0'; exact (Option.some.inj ip0').symm
  have e1 : p1' = p1 := by rw [ip1] at ip1'; exact (Option.some.inj ip1').symm
  subst e0 e1
  have mp0 : loadV (h1.new (.cells [.int .i64 0, .int .u64 0, .str [], .nilSlice, .nilSlice] true)) false 1 p0' = some (.int .u64 0) := lp0'
  have mp1 : loadV (h1.new (.cells [.int .i64 0, .int .u64 0, .str [], .nilSlice, .nilSlice] true)) false 1 p1' = some (.int .u64 4) := lp1'
  have a4 : binV .and (.int .u64 4) (.int .u64 255) = some (.int .u64 4) := rfl
  have fl : fillV [AV.int .i64 0, .int .u64 0, .str [], .nilSlice, .nilSlice] [(0, 1, .int .i64 4), (1, 1, .int .u64 0)] = some rootC := rfl
  simp only [vms, vmc, AOpd.val, Nat.reduceEqDiff, reduceCtorEq, Nat.reduceAdd, Nat.reduceBEq, r1.len, show decide (((264 : Nat) : Int) < 4) = false from rfl, jp0, jp1, kp0, kp1, a4, show IntKind.i64.wrap 4 = 4 from rfl, fl]
  have lkl : ∀ {f : Fr} {t d : Nat} {p : AV} {n : Int}, loadV (h1.new (.cells [.int .i64 0, .int .u64 0, .str [], .nilSlice, .nilSlice] true)) false 1 p = some (.int .u64 n) → f.at t = p → f.at d = .int .u64 n → AOper.lookAgain ⟨some d, .load false 1 (.tmp t), none⟩ f (h1.new (.cells [.int .i64 0, .int .u64 0, .str [], .nilSlice, .nilSlice] true)) = true := fun hl ht hd => look_load (by show loadV _ _ _ (Fr.at _ _) = _; rw [ht]; exact hl) hd (by simp [AV.beq])
  rw [items_look (lkl mp1 (by simp only [vms, vmc, AOpd.val, Nat.reduceEqDiff, reduceCtorEq, Nat.reduceAdd, Nat.reduceBEq]) (by simp only [vms, vmc, AOpd.val, Nat.reduceEqDiff, reduceCtorEq, Nat.reduceAdd, Nat.reduceBEq])), items_look (lkl mp0 (by simp only [vms, vmc, AOpd.val, Nat.reduceEqDiff, reduceCtorEq, Nat.reduceAdd, Nat.reduceBEq]) (by simp only [vms, vmc, AOpd.val, Nat.reduceEqDiff, reduceCtorEq, Nat.reduceAdd, Nat.reduceBEq])), items_look (look_new (q := h1.next) (by simp only [vms, vmc, AOpd.val, Nat.reduceEqDiff, reduceCtorEq, Nat.reduceAdd, Nat.reduceBEq]) g2 (by simp [AV.beqs, AV.beq]))]
  have st3 := store_all (h := h1.new (.cells [.int .i64 0, .int .u64 0, .str [], .nilSlice, .nilSlice] true)) (o := h1.next) (n := 5) (l' := rootC) g2 rfl rfl rfl
  have q3 : Quiet h1 ((h1.new (.cells [.int .i64 0, .int .u64 0, .str [], .nilSlice, .nilSlice] true)).set h1.next (.cells rootC true)) := q2.set (Nat.le_refl _) _
  have lo3 : Low ((h1.new (.cells [.int .i64 0, .int .u64 0, .str [], .nilSlice, .nilSlice] true)).set h1.next (.cells rootC true)) := lo2.set (by rw [next_new]; omega) _
  have g3 : ((h1.new (.cells [.int .i64 0, .int .u64 0, .str [], .nilSlice, .nilSlice] true)).set h1.next (.cells rootC true)).get h1.next = some (.cells rootC true) := get_set_same
  have hn : h.next < h1.next := by omega
  obtain ⟨t, ht⟩ : ∃ t, t = h1.next := ⟨_, rfl⟩
  simp only [vms, vmc, AOpd.val, Nat.reduceEqDiff, reduceCtorEq, Nat.reduceAdd, Nat.reduceBEq, st3]
  rw [← ht] at g3 hn ⊢
  rw [← ht] at q3 lo3
  have gp3 := q3.get g1 (lo1 _ _ g1)
  have r3 := r1.quiet lo1 q3
  generalize ((h1.new (.cells [.int .i64 0, .int .u64 0, .str [], .nilSlice, .nilSlice] true)).set t (.cells rootC true)) = h3 at *
  obtain ⟨p1b, ip1b, lp1b⟩ := r3.at (i := 1) (by decide)
  have jp1b : idxAddrV 1 v (.int .i64 1) = some p1b := ip1b
  have kp1b : loadV h3 false 1 p1b = some (.int .u64 4) := lp1b
  have s16 : binV .shr (.int .u64 4) (.int .u64 16) = some (.int .u64 0) := rfl
  have s8 : binV .shr (.int .u64 4) (.int .u64 8) = some (.int .u64 0) := rfl
  have a16 : binV .and (.int .u64 0) (.int .u64 65535) = some (.int .u64 0) := rfl
  have a8' : binV .and (.int .u64 0) (.int .u64 255) = some (.int .u64 0) := rfl
  have c0 : loadV h3 false 1 (.ptr t 0) = some (.int .i64 4) := load_at g3 rfl
  simp only [vms, vmc, AOpd.val, Nat.reduceEqDiff, reduceCtorEq, Nat.reduceAdd, Nat.reduceBEq, jp1b, kp1b, s16, a16, show IntKind.i64.wrap 0 = 0 from rfl, fa, Nat.zero_add, c0, show decide ((4 : Int) < 1) = false from rfl, show decide ((4 : Int) > 4) = false from rfl, r3.len]
  refine Gives.bind ((size4_ref k).mono ?_)
  rintro _ _ ⟨rfl, rfl⟩
  rename_i h3
  obtain ⟨wo, wex, rfl, hgw⟩ := r3
  simp only [vms, vmc, AOpd.val, Nat.reduceEqDiff, reduceCtorEq, Nat.reduceAdd, Nat.reduceBEq, show (((264 : Nat) : Int) != 264) = false from rfl, slc24r, jp1b, kp1b, s8, a8', show IntKind.i64.wrap 0 = 0 from rfl]
  refine Gives.bind ((bytes0_ref k lo3 hgw).mono ?_)
  rintro _ h4 ⟨rfl, q4, lo4⟩
  have r4 : RootV h4 (.slice wo 0 1 264 264 wex) := ⟨wo, wex, rfl, q4.get hgw (lo3 _ _ hgw)⟩
  have g4 := q4.get g3 (lo3 _ _ g3)
  have gp4 := q4.get gp3 (lo3 _ _ gp3)
  have st5 : storeV h4 1 (.ptr t 2) (.str []) = some (h4.set t (.cells rootC true)) := store_str g4 (by decide)
  have q5 : Quiet h1 (h4.set t (.cells rootC true)) := (q3.trans q4).set (by omega) _
  have g5 : (h4.set t (.cells rootC true)).get t = some (.cells rootC true) := get_set_same
  have gp5 : (h4.set t (.cells rootC true)).get h.next = some (.cells [.int .i64 0, .int .u64 0, .str [], .nilSlice, .nilSlice] true) := by rw [AH.get_set, if_neg (by omega)]; exact gp4
  have lo5 : Low (h4.set t (.cells rootC true)) := lo4.set (lo4 _ _ g4) _
  have r5 : RootV (h4.set t (.cells rootC true)) (.slice wo 0 1 264 264 wex) := r1.quiet lo1 q5
  have c05 : loadV (h4.set t (.cells rootC true)) false 1 (.ptr t 0) = some (.int .i64 4) := load_at g5 rfl
  simp only [vms, vmc, AOpd.val, Nat.reduceEqDiff, reduceCtorEq, Nat.reduceAdd, Nat.reduceBEq, show ((0 : Int) != 0) = false from rfl, fa, Nat.zero_add, st5, c05]
  generalize (h4.set t (.cells rootC true)) = h5 at *
  refine Gives.bind ((parts_ref k r5).mono ?_)
  rintro _ _ ⟨rfl, rfl⟩
  rename_i h5
  have st6 : storeV h5 1 (.ptr t 3) .nilSlice = some (h5.set t (.cells rootC true)) := store_at g5 (by decide) rfl rfl
  have g6 : (h5.set t (.cells rootC true)).get t = some (.cells rootC true) := get_set_same
  have st7 : storeV (h5.set t (.cells rootC true)) 1 (.ptr t 4) .nilSlice = some ((h5.set t (.cells rootC true)).set t (.cells rootC true)) := store_at g6 (by decide) rfl rfl
  have q7 : Quiet h1 ((h5.set t (.cells rootC true)).set t (.cells rootC true)) := (q5.set (by omega) _).set (by omega) _
  have g7 : ((h5.set t (.cells rootC true)).set t (.cells rootC true)).get t = some (.cells rootC true) := get_set_same
  have gp7 : ((h5.set t (.cells rootC true)).set t (.cells rootC true)).get h.next = some (.cells [.int .i64 0, .int .u64 0, .str [], .nilSlice, .nilSlice] true) := by rw [AH.get_set, if_neg (by omega), AH.get_set, if_neg (by omega)]; exact gp5
  have lo7 : Low ((h5.set t (.cells rootC true)).set t (.cells rootC true)) := (lo5.set (lo5 _ _ g5) _).set (by rw [next_set]; exact lo5 _ _ g5) _
  have r7 : RootV ((h5.set t (.cells rootC true)).set t (.cells rootC true)) (.slice wo 0 1 264 264 wex) := r1.quiet lo1 q7
  simp only [vms, vmc, AOpd.val, Nat.reduceEqDiff, reduceCtorEq, Nat.reduceAdd, Nat.reduceBEq, fa, Nat.zero_add, st6, st7, load_all g7 (n := 5) rfl]
  generalize ((h5.set t (.cells rootC true)).set t (.cells rootC true)) = h7 at *
  refine Gives.bind ((encode_ref k lo7).mono ?_)
  rintro ev h8 ⟨re, q8, lo8⟩
  have r8 := r7.quiet lo7 q8
  have g8 := q8.get g7 (lo7 _ _ g7)
  have gp8 := q8.get gp7 (lo7 _ _ gp7)
  have q18 := q1.trans (q7.trans q8)
  simp only [vms, vmc, AOpd.val, Nat.reduceEqDiff, reduceCtorEq, Nat.reduceAdd, Nat.reduceBEq, re.len, r8.len, show (((264 : Nat) : Int) != ((264 : Nat) : Int)) = false from rfl]
  refine wpc_loop (fun m f h' => ∃ i, m = 264 - i ∧ i ≤ 264 ∧ f.at 0 = .slice wo 0 1 264 264 wex ∧ f.at 2 = .ptr h.next 0 ∧ f.at 4 = .ptr t 0 ∧ f.at 8 = ev ∧ f.at 82 = .int .i64 ((264 : Nat) : Int) ∧ f.at 83 = .int .i64 (i : Nat) ∧ h' = h8) ?_ 264 _ _ ⟨0, rfl, by omega, ?_, ?_, ?_, ?_, ?_, ?_, rfl⟩
  · rintro m f h' ⟨i, rfl, hi, f0, f2, f4, f8, f82, f83, rfl⟩
    by_cases hlt : i < 264
    · have d1 : decide ((i : Int) < ((264 : Nat) : Int)) = true := by rw [decide_eq_true_eq]; omega
      obtain ⟨p, hp1, hp2⟩ := re.at hlt
      obtain ⟨q, hq1, hq2⟩ := r8.at hlt
      have w1 : IntKind.i64.wrap ((i : Int) + 1) = ((i + 1 : Nat) : Int) := by rw [wrap_i64 (by omega) (by omega)]; omega
      simp only [c18l0, vms, vmc, AOpd.val, Nat.reduceEqDiff, reduceCtorEq, Nat.reduceAdd, Nat.reduceBEq, f0, f2, f4, f8, f82, f83, d1, hp1, hp2, hq1, hq2, bne_self_eq_false, w1]
      exact ⟨264 - (i + 1), by omega, i + 1, rfl, by omega, trivial, trivial, trivial, trivial, trivial, rfl, trivial⟩
    · have d1 : decide ((i : Int) < ((264 : Nat) : Int)) = false := by rw [decide_eq_false_iff_not]; omega
      have st9 := store_all (l' := rootC) gp8 (n := 5) rfl rfl rfl
      have g9 : (h'.set h.next (.cells rootC true)).get h.next = some (.cells rootC true) := get_set_same
      simp only [c18l0, vms, vmc, AOpd.val, Nat.reduceEqDiff, reduceCtorEq, Nat.reduceAdd, Nat.reduceBEq, f0, f2, f4, f8, f82, f83, d1, load_all g8 (n := 5) rfl, st9, res_cell, load_all g9 (n := 5) rfl]
      exact ⟨trivial, q18.set (Nat.le_refl _) _, lo8.set (lo8 _ _ gp8) _⟩
  · simp only [vms, vmc, AOpd.val, Nat.reduceEqDiff, reduceCtorEq, Nat.reduceAdd, Nat.reduceBEq]
  · simp only [vms, vmc, AOpd.val, Nat.reduceEqDiff, reduceCtorEq, Nat.reduceAdd, Nat.reduceBEq]
  · simp only [vms, vmc, AOpd.val, Nat.reduceEqDiff, reduceCtorEq, Nat.reduceAdd, Nat.reduceBEq]
  · simp only [vms, vmc, AOpd.val, Nat.reduceEqDiff, reduceCtorEq, Nat.reduceAdd, Nat.reduceBEq]
  · simp only [vms, vmc, AOpd.val, Nat.reduceEqDiff, reduceCtorEq, Nat.reduceAdd, Nat.reduceBEq]
  · simp only [vms, vmc, AOpd.val, Nat.reduceEqDiff, reduceCtorEq, Nat.reduceAdd, Nat.reduceBEq]; rfl
end Go.Proofs.Ytagcnjhpdopkiaa

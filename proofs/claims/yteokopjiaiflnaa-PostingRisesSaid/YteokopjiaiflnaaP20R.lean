/- PostingRises. -/
import Derived.Test.YteokopjiaiflnaaP20Q
namespace Go.Proofs.Yteokopjiaiflnaa
open Go.Vm
set_option linter.unusedSimpArgs false
set_option linter.unusedVariables false
set_option maxRecDepth 100000
variable {T : Vm.Prog} {h : AH}
/-- Each block ahead of the last one has nine. -/
def RS (bs : List (List Int)) : Prop := ∀ (i : Nat) (b : List Int), bs[i]? = some b → i + 1 < bs.length → b.length = 9
theorem rs_snoc {ds cs : List (List Int)} (h1 : ∀ b ∈ ds, b.length = 9) (h2 : RS cs) (h3 : cs ≠ []) : RS (ds ++ cs) := by
  intro i b hb hi
  rw [List.getElem?_append] at hb
  split at hb
  · exact h1 b (List.mem_of_getElem? hb)
  · refine h2 _ b hb ?_
    rw [List.length_append] at hi; omega
theorem last_k {bs : List (List Int)} (g : Good bs) (hne : bs ≠ []) {id : Int} (hall : ∀ x ∈ bs.flatten, x < id) : kOf bs id + 1 = bs.length ∧ pos (blkAt bs id) id = (blkAt bs id).length := by
  have hc : bcnt bs id = bs.length := by
    unfold bcnt
    rw [List.countP_eq_length]
    intro b hb
    obtain ⟨i, hi⟩ := List.getElem?_of_mem hb
    have := hall (hd b) (List.mem_flatten.2 ⟨b, hb, hd_mem (g.block hi).1⟩)
    simp; omega
  have hl := List.length_pos_iff.2 hne
  refine ⟨by unfold kOf; omega, ?_⟩
  unfold pos
  rw [List.countP_eq_length]
  intro x hx
  have := hall x (List.mem_flatten.2 ⟨_, List.mem_of_getElem? (blkAt_some hne id), hx⟩)
  simpa using this
theorem add_rs {bs : List (List Int)} (g : Good bs) (s : Small bs) (rs : RS bs) {id : Int} (h0 : 0 ≤ id) (hM : id ≤ 1073741824) (hall : ∀ x ∈ bs.flatten, x < id) : RS (addB bs id).1 := by
  have hno : ¬ (id < 0 ∨ 1073741824 < id ∨ id ∈ blkAt bs id) := by
    rw [g.mem_flat id]; rintro (h | h | h)
    · omega
    · omega
    · have := hall _ h; omega
  unfold addB
  rw [if_neg hno]
  by_cases hne : bs = []
  · subst hne; rw [if_pos rfl]; intro i b hb hi; simp at hi
  · rw [if_neg hne]
    obtain ⟨hk, hp⟩ := last_k g hne hall
    have hl := insB_len bs id
    have hb16 := s _ (List.mem_of_getElem? (blkAt_some hne id))
    have hd : bs.drop (kOf bs id + 1) = [] := List.drop_eq_nil_of_le (by omega)
    have ht : ∀ b ∈ bs.take (kOf bs id), b.length = 9 := by
      intro b hb
      obtain ⟨i, hi⟩ := List.getElem?_of_mem hb
      rw [List.getElem?_take] at hi
      split at hi
      · exact rs i b hi (by omega)
      · cases hi
    split
    · simp only [hd, List.append_nil]
      exact rs_snoc ht (fun i b hb hi => by simp at hi) (by simp)
    · simp only [hd, List.append_nil]
      refine rs_snoc ht (fun i b hb hi => ?_) (by simp)
      have hi0 : i = 0 := by simp at hi; omega
      subst hi0
      simp at hb
      subst hb
      simp [halfN]; omega
theorem good_nil_iff {bs : List (List Int)} (g : Good bs) : bs.length = 0 ↔ bs.flatten.length = 0 := by
  constructor
  · intro h; have : bs = [] := List.eq_nil_of_length_eq_zero h; subst this; rfl
  · intro h
    cases bs with
    | nil => rfl
    | cons b r =>
      have := List.length_pos_iff.2 (g.ne b (List.mem_cons_self ..))
      simp only [List.flatten_cons, List.length_append] at h; omega
theorem ListG.len {G : Nat → Prop} {sl : AV} {bs : List (List Int)} (s : ListG G h (.agg [sl]) bs) : sl.flat = true ∧ AV.beq sl sl = true := by
  obtain ⟨x, e, sb⟩ := s; cases e; exact ⟨sb.v.cell.2.1, sb.v.cell.2.2⟩
def cBlk : ACode → ACode
  | .block _ c => c
  | c => c
def c4q : ACode := cSnd (cSnd (cBlk (cFst (cSnd c4l0))))
theorem c4l0_eq : c4l0 = (.seq (.seq (.ops [⟨(some 16), .mov (.tmp 8), none⟩, ⟨(some 17), .mov (.tmp 6), none⟩, ⟨(some 18), .bin .lss (.tmp 16) (.tmp 17), none⟩]) (.cond (.tmp 18) .skip (.exit 0)))
  (.seq (.block 1 (.seq (.ops [⟨(some 9), .mov (.con (.int .i64 1)), none⟩]) (.seq (.seq (.ops [⟨(some 21), .mov (.tmp 8), none⟩, ⟨(some 22), .mov (.tmp 1), none⟩, ⟨(some 23), .lenSlice (.tmp 22), none⟩, ⟨(some 24), .bin .lss (.tmp 21) (.tmp 23), none⟩])
  (.cond (.tmp 24) (.ops [⟨(some 25), .mov (.tmp 1), none⟩, ⟨(some 26), .mov (.tmp 8), none⟩, ⟨(some 27), .idxAddr 1 (.tmp 25) (.tmp 26), none⟩, ⟨(some 28), .load false 1 (.tmp 27), none⟩,
    ⟨(some 29), .call 16 [(.tmp 28), (.con (.int .i64 0)), (.con (.int .i64 99))], none⟩, ⟨(some 30), .bin .add (.con (.int .i64 1)) (.tmp 29), none⟩, ⟨(some 9), .mov (.tmp 30), none⟩]) .skip)) c4q)))
  (.ops [⟨(some 19), .mov (.tmp 8), none⟩, ⟨(some 20), .bin .add (.tmp 19) (.con (.int .i64 1)), none⟩, ⟨(some 8), .mov (.tmp 20), none⟩]))) := rfl
/-- What stands after so many rounds. -/
structure RiseI (h h' : AH) (sl : AV) (bs : List (List Int)) (x : Int) (i : Nat) : Prop where
  quiet : Quiet h h'
  low : Low h'
  cell : h'.get h.next = some (.cells [sl] true)
  list : ListG (fun o => o ≠ h.next) h' (.agg [sl]) bs
  good : Good bs
  small : Small bs
  rs : RS bs
  len : bs.flatten.length = i
  le : ∀ y ∈ bs.flatten, y ≤ x
  lo : 0 ≤ x
  hi : x ≤ 100 * i
theorem rise_body (k : Fits T) {h2 : AH} {sl : AV} {bs : List (List Int)} {x : Int} {i : Nat} (hi : i < 120) (I : RiseI h h2 sl bs x i) {f : Fr} {gp : Nat} (g1 : 1 ≤ gp) (g2 : gp ≤ 100) (f5 : f.at 5 = .ptr h.next 0) (f7 : f.at 7 = .int .i64 x) (f8 : f.at 8 = .int .i64 (i : Int)) (f9 : f.at 9 = .int .i64 (gp : Int))
    {Q : AExit → Fr → AH → Prop} (hq : ∀ f' h3 sl' bs', RiseI h h3 sl' bs' (x + gp) (i + 1) → f'.at 1 = f.at 1 → f'.at 5 = f.at 5 → f'.at 6 = f.at 6 → f'.at 8 = f.at 8 → f'.at 7 = .int .i64 (x + gp) → Q .normal f' h3) : Wp (code T c4q f h2) Q := by
  obtain ⟨q2, lo2, hg, sL, g, sm, rs, hfl, hle, hx0, hx1⟩ := I
  have w1 : IntKind.i64.wrap (x + (gp : Int)) = x + gp := wrap_i64 (by omega) (by omega)
  have w2 : IntKind.i64.wrap ((i : Int) + 1) = ((i + 1 : Nat) : Int) := by rw [wrap_i64 (by omega) (by omega)]; omega
  simp only [c4q, cSnd, cFst, cBlk, c4l0, vms, vmc, AOpd.val, Nat.reduceEqDiff, reduceCtorEq, Nat.reduceAdd, Nat.reduceBEq, f5, f7, f8, f9, w1, load_boxA hg]
  refine Gives.bind ((add_ok k.base lo2 (id := x + gp) sL g).mono ?_)
  rintro _ h3 ⟨lv, rfl, s3, q3, lo3⟩
  have hall : ∀ y ∈ bs.flatten, y < x + gp := fun y hy => by have := hle y hy; omega
  have hok : addOk bs (x + gp) := ⟨by omega, by omega, fun hm => by have := hall _ hm; omega⟩
  obtain ⟨a1, a2, a3⟩ := add_yes g hok (by omega)
  have a4 := add_small g sm (x + gp)
  have a5 := add_rs g sm rs (by omega) (by omega) hall
  have al : (addB bs (x + gp)).1.flatten.length = i + 1 := by rw [a2, ins_len, hfl]
  have s3' : ListG (fun o => o ≠ h.next) h3 lv (addB bs (x + gp)).1 := s3.mono fun o ho => ho.elim (fun h8 => h8) fun h8 => by have := q2.1; have := lo2 _ _ hg; omega
  obtain ⟨sl', rfl, sb'⟩ := s3'
  have st := store_res (p := h3.next) (a := .nilSlice) (h := h3.new (.cells [.nilSlice] true)) get_new_same sb'.v.cell.2.1
  have q4 : Quiet h3 ((h3.new (.cells [.nilSlice] true)).set h3.next (.cells [sl'] true)) := ((Quiet.refl _).new _).set (Nat.le_refl _) _
  have lo4 : Low ((h3.new (.cells [.nilSlice] true)).set h3.next (.cells [sl'] true)) := (lo3.new _).set (by rw [next_new]; omega) _
  have hg4 : ((h3.new (.cells [.nilSlice] true)).set h3.next (.cells [sl'] true)).get h3.next = some (.cells [sl'] true) := get_set_same
  have nx4 : ((h3.new (.cells [.nilSlice] true)).set h3.next (.cells [sl'] true)).next = h3.next + 1 := rfl
  have hp := lo2 _ _ hg
  rw [a1]
  simp only [vms, vmc, AOpd.val, Nat.reduceEqDiff, reduceCtorEq, Nat.reduceAdd, Nat.reduceBEq, st, f8]
  generalize ((h3.new (.cells [.nilSlice] true)).set h3.next (.cells [sl'] true)) = h4 at *
  have s4 : ListG (fun o => o ≠ h.next) h4 (.agg [sl']) (addB bs (x + gp)).1 := ListG.keep ⟨sl', rfl, sb'⟩ lo3 q4
  simp only [vms, vmc, AOpd.val, Nat.reduceEqDiff, reduceCtorEq, Nat.reduceAdd, Nat.reduceBEq, load_boxA hg4]
  refine Gives.bind ((len_ok k.base lo4 s4.v (by omega) a3.len).mono ?_)
  rintro _ h5 ⟨rfl, q5, lo5⟩
  have hg5 := q5.get hg4 (by omega)
  have q25 : Quiet h2 h5 := (q3.trans q4).trans q5
  have hc5 := q25.get hg hp
  have e1 : ((((addB bs (x + gp)).1.flatten.length : Nat) : Int) != ((i + 1 : Nat) : Int)) = false := by rw [al]; simp
  have st5 : storeV h5 1 (.ptr h.next 0) (.agg [sl']) = some (h5.set h.next (.cells [sl'] true)) := store_res hc5 sb'.v.cell.2.1
  simp only [vms, vmc, AOpd.val, Nat.reduceEqDiff, reduceCtorEq, Nat.reduceAdd, Nat.reduceBEq, f5, f8, w2, e1, load_boxA hg5, st5]
  refine hq _ _ sl' (addB bs (x + gp)).1 ⟨(q2.trans q25).set (Nat.le_refl _) _, lo5.set (lo5 _ _ hc5) _, get_set_same, ?_, a3, a4, a5, al, ?_, by omega, by omega⟩ ?_ ?_ ?_ ?_ ?_
  · exact (s4.keep lo4 q5).turn fun o ho => by rw [AH.get_set, if_neg (Ne.symm ho)]
  · intro y hy
    rw [a2, mem_ins] at hy
    rcases hy with rfl | hy
    · omega
    · have := hle y hy; omega
  all_goals simp only [vms, vmc, AOpd.val, Nat.reduceEqDiff, reduceCtorEq, Nat.reduceAdd, Nat.reduceBEq, f5, f8]
theorem rises_run (k : Fits T) (hl : Low h) {gv : AV} {n : Int} {gaps : List Int} (sg : Sees h gv (izs gaps)) (hgl : gaps.length ≤ maxLen) : Gives T 4 [.int .i64 n, gv] h fun r _ => r = .bool true := by
  refine gives_func (k.base.env 4 (by decide)) (k.base.at (n := 4) rfl) rfl ?_
  have q1 : Quiet h (h.new (.cells [.nilSlice] true)) := (Quiet.refl h).new _
  have lo1 := hl.new (.cells [.nilSlice] true)
  have hz1 : (h.new (.cells [.nilSlice] true)).get h.next = some (.cells [.nilSlice] true) := get_new_same
  simp only [a4, c4, vms, vmc, AOpd.val, Nat.reduceEqDiff, reduceCtorEq, Nat.reduceAdd, Nat.reduceBEq]
  generalize (h.new (.cells [.nilSlice] true)) = h1 at *
  refine Gives.bind ((within_nat k.base (hi := 120) (by decide)).mono ?_)
  rintro _ _ ⟨m, rfl, hm, rfl⟩
  rename_i h1
  simp only [vms, vmc, AOpd.val, Nat.reduceEqDiff, reduceCtorEq, Nat.reduceAdd, Nat.reduceBEq]
  refine wpc_loop (fun d f h' => ∃ i sl bs x, d = m - i ∧ i ≤ m ∧ RiseI h h' sl bs x i ∧ f.at 1 = gv ∧ f.at 5 = .ptr h.next 0 ∧ f.at 6 = .int .i64 (m : Int) ∧ f.at 7 = .int .i64 x ∧ f.at 8 = .int .i64 (i : Int)) ?_ m _ _
      ⟨0, .nilSlice, [], 0, by omega, by omega, ⟨q1, lo1, hz1, ⟨_, rfl, [], .inl ⟨rfl, rfl⟩, trivial, fun o ho => by simp [objs] at ho, ⟨rfl, fun i x b hx => by simp at hx⟩, fun x hx => by simp at hx⟩, good_nil, fun b hb => by simp at hb, fun i b hb => by simp at hb, rfl, fun y hy => by simp at hy, by omega, by omega⟩, ?_⟩
  · rintro _ f h2 ⟨i, sl, bs, x, rfl, hi, I, f1, f5, f6, f7, f8⟩
    by_cases hlt : i < m
    · have d1 : decide ((i : Int) < (m : Int)) = true := by rw [decide_eq_true_eq]; omega
      have sg2 := sees_keep sg hl I.quiet
      have lng : lenOfV gv = some gaps.length := by simpa [izs] using sg2.len
      have hml : maxLen = 9223372036854775807 := rfl
      have w2 : IntKind.i64.wrap ((i : Int) + 1) = ((i + 1 : Nat) : Int) := by rw [wrap_i64 (by omega) (by omega)]; omega
      by_cases hgp : i < gaps.length
      · have d2 : decide ((i : Int) < (gaps.length : Int)) = true := by rw [decide_eq_true_eq]; omega
        obtain ⟨y, hy⟩ : ∃ y, gaps[i]? = some y := ⟨_, List.getElem?_eq_getElem hgp⟩
        obtain ⟨p, hp1, hp2⟩ := sg2.at (i := i) (x := .int .i64 y) (by simp [izs, hy]) .i64
        simp only [c4l0_eq, vms, vmc, AOpd.val, Nat.reduceEqDiff, reduceCtorEq, Nat.reduceAdd, Nat.reduceBEq, f1, f5, f6, f7, f8, d1, lng, d2, hp1, hp2]
        refine Gives.bind ((within_nat k.base (hi := 99) (by decide)).mono ?_)
        rintro _ _ ⟨w, rfl, hw, rfl⟩
        have w3 : IntKind.i64.wrap (1 + (w : Int)) = ((1 + w : Nat) : Int) := by rw [wrap_i64 (by omega) (by omega)]; omega
        simp only [vms, vmc, AOpd.val, Nat.reduceEqDiff, reduceCtorEq, Nat.reduceAdd, Nat.reduceBEq, w3]
        refine rise_body k (by omega) I (gp := 1 + w) (by omega) (by omega) (by simp only [vms, vmc, AOpd.val, Nat.reduceEqDiff, reduceCtorEq, Nat.reduceAdd, Nat.reduceBEq, f5]) (by simp only [vms, vmc, AOpd.val, Nat.reduceEqDiff, reduceCtorEq, Nat.reduceAdd, Nat.reduceBEq, f7]) (by simp only [vms, vmc, AOpd.val, Nat.reduceEqDiff, reduceCtorEq, Nat.reduceAdd, Nat.reduceBEq, f8]) (by simp only [vms, vmc, AOpd.val, Nat.reduceEqDiff, reduceCtorEq, Nat.reduceAdd, Nat.reduceBEq]) ?_
        intro f' h3 sl' bs' I' e1 e5 e6 e8 e7
        simp only [vms, vmc, AOpd.val, Nat.reduceEqDiff, reduceCtorEq, Nat.reduceAdd, Nat.reduceBEq, f1] at e1
        simp only [vms, vmc, AOpd.val, Nat.reduceEqDiff, reduceCtorEq, Nat.reduceAdd, Nat.reduceBEq, f5] at e5
        simp only [vms, vmc, AOpd.val, Nat.reduceEqDiff, reduceCtorEq, Nat.reduceAdd, Nat.reduceBEq, f6] at e6
        simp only [vms, vmc, AOpd.val, Nat.reduceEqDiff, reduceCtorEq, Nat.reduceAdd, Nat.reduceBEq, f8] at e8
        simp only [vms, vmc, AOpd.val, Nat.reduceEqDiff, reduceCtorEq, Nat.reduceAdd, Nat.reduceBEq, e1, e5, e6, e7, e8, w2]
        exact ⟨m - (i + 1), by omega, i + 1, sl', bs', x + ((1 + w : Nat) : Int), rfl, by omega, I', by trivial, by trivial, by trivial, by trivial, by trivial⟩
      · have d2 : decide ((i : Int) < (gaps.length : Int)) = false := by rw [decide_eq_false_iff_not]; omega
        simp only [c4l0_eq, vms, vmc, AOpd.val, Nat.reduceEqDiff, reduceCtorEq, Nat.reduceAdd, Nat.reduceBEq, f1, f5, f6, f7, f8, d1, lng, d2]
        refine rise_body k (by omega) I (gp := 1) (by omega) (by omega) (by simp only [vms, vmc, AOpd.val, Nat.reduceEqDiff, reduceCtorEq, Nat.reduceAdd, Nat.reduceBEq, f5]) (by simp only [vms, vmc, AOpd.val, Nat.reduceEqDiff, reduceCtorEq, Nat.reduceAdd, Nat.reduceBEq, f7]) (by simp only [vms, vmc, AOpd.val, Nat.reduceEqDiff, reduceCtorEq, Nat.reduceAdd, Nat.reduceBEq, f8]) (by simp only [vms, vmc, AOpd.val, Nat.reduceEqDiff, reduceCtorEq, Nat.reduceAdd, Nat.reduceBEq]; rfl) ?_
        intro f' h3 sl' bs' I' e1 e5 e6 e8 e7
        simp only [vms, vmc, AOpd.val, Nat.reduceEqDiff, reduceCtorEq, Nat.reduceAdd, Nat.reduceBEq, f1] at e1
        simp only [vms, vmc, AOpd.val, Nat.reduceEqDiff, reduceCtorEq, Nat.reduceAdd, Nat.reduceBEq, f5] at e5
        simp only [vms, vmc, AOpd.val, Nat.reduceEqDiff, reduceCtorEq, Nat.reduceAdd, Nat.reduceBEq, f6] at e6
        simp only [vms, vmc, AOpd.val, Nat.reduceEqDiff, reduceCtorEq, Nat.reduceAdd, Nat.reduceBEq, f8] at e8
        simp only [vms, vmc, AOpd.val, Nat.reduceEqDiff, reduceCtorEq, Nat.reduceAdd, Nat.reduceBEq, e1, e5, e6, e7, e8, w2]
        exact ⟨m - (i + 1), by omega, i + 1, sl', bs', x + ((1 : Nat) : Int), rfl, by omega, I', by trivial, by trivial, by trivial, by trivial, by trivial⟩
    · have d1 : decide ((i : Int) < (m : Int)) = false := by rw [decide_eq_false_iff_not]; omega
      have hi' : i = m := by omega
      subst hi'
      obtain ⟨q2, lo2, hg, sL, g, sm, rs, hfl, hle, hx0, hx1⟩ := I
      simp only [c4l0_eq, vms, vmc, AOpd.val, Nat.reduceEqDiff, reduceCtorEq, Nat.reduceAdd, Nat.reduceBEq, f1, f5, f6, f7, f8, d1, load_boxA hg]
      refine Gives.bind ((blocks_ok k.base lo2 sL.v (by omega) g.len).mono ?_)
      rintro b h4 ⟨fr, q4, lo4⟩
      have sB := fr.blks
      have lnb := sB.len
      have hbl := g.len
      simp only [vms, vmc, AOpd.val, Nat.reduceEqDiff, reduceCtorEq, Nat.reduceAdd, Nat.reduceBEq, lnb]
      refine wpc_loop (fun d f h' => ∃ j, d = bs.length - j ∧ j ≤ bs.length ∧ h' = h4 ∧ f.at 6 = .int .i64 (i : Int) ∧ f.at 12 = b ∧ f.at 53 = .int .i64 (bs.length : Int) ∧ f.at 54 = .int .i64 (j : Int)) ?_ bs.length _ _ ⟨0, by omega, by omega, rfl, ?_⟩
      · rintro _ f hh ⟨j, rfl, hj, rfl, f6, f12, f53, f54⟩
        by_cases hjl : j < bs.length
        · have d2 : decide ((j : Int) < (bs.length : Int)) = true := by rw [decide_eq_true_eq]; omega
          have w3 : IntKind.i64.wrap ((j : Int) + 1) = ((j + 1 : Nat) : Int) := by rw [wrap_i64 (by omega) (by omega)]; omega
          obtain ⟨c, hc⟩ : ∃ c, bs[j]? = some c := ⟨_, List.getElem?_eq_getElem hjl⟩
          obtain ⟨p, y, hp1, hp2, hy⟩ := sB.at hc .i64
          have ly : lenOfV y = some c.length := by simpa [izs] using hy.1.len
          have hc16 := sm c (List.mem_of_getElem? hc)
          have d5 : decide ((c.length : Int) > 16) = false := by rw [decide_eq_false_iff_not]; omega
          by_cases hlast : j + 1 < bs.length
          · have d3 : decide (((j + 1 : Nat) : Int) < (bs.length : Int)) = true := by rw [decide_eq_true_eq]; omega
            have h9 := rs j c hc hlast
            have d4 : ((c.length : Int) != 9) = false := by rw [h9]; rfl
            simp only [c4l1, vms, vmc, AOpd.val, Nat.reduceEqDiff, reduceCtorEq, Nat.reduceAdd, Nat.reduceBEq, f6, f12, f53, f54, d2, w3, lnb, d3, hp1, hp2, ly, d4, d5]
            exact ⟨bs.length - (j + 1), by omega, j + 1, rfl, by omega, by trivial, by trivial, by trivial, by trivial, by trivial⟩
          · have d3 : decide (((j + 1 : Nat) : Int) < (bs.length : Int)) = false := by rw [decide_eq_false_iff_not]; omega
            simp only [c4l1, vms, vmc, AOpd.val, Nat.reduceEqDiff, reduceCtorEq, Nat.reduceAdd, Nat.reduceBEq, f6, f12, f53, f54, d2, w3, lnb, d3, hp1, hp2, ly, d5]
            exact ⟨bs.length - (j + 1), by omega, j + 1, rfl, by omega, by trivial, by trivial, by trivial, by trivial, by trivial⟩
        · have d2 : decide ((j : Int) < (bs.length : Int)) = false := by rw [decide_eq_false_iff_not]; omega
          have hiff := good_nil_iff g
          rw [hfl] at hiff
          have e1 : ((bs.length : Int) == 0) = ((i : Int) == 0) := by
            by_cases h0 : i = 0
            · have := hiff.2 h0; simp [h0, this]
            · have : bs.length ≠ 0 := fun h => h0 (hiff.1 h)
              have a1 : ((bs.length : Int) == 0) = false := by simp; intro e; exact this (by rw [e]; rfl)
              have a2 : ((i : Int) == 0) = false := by simp; omega
              rw [a1, a2]
          have eb : ∀ b : Bool, eqBV false (.bool b) (.bool b) = some (.bool true) := fun b => by cases b <;> rfl
          simp only [c4l1, vms, vmc, AOpd.val, Nat.reduceEqDiff, reduceCtorEq, Nat.reduceAdd, Nat.reduceBEq, f6, f12, f53, f54, d2, lnb, e1, eb]
          refine Gives.bind ((k.yes _).mono ?_)
          rintro _ _ ⟨rfl, rfl⟩
          simp only [vms, vmc, AOpd.val, Nat.reduceEqDiff, reduceCtorEq, Nat.reduceAdd, Nat.reduceBEq]
      · simp only [vms, vmc, AOpd.val, Nat.reduceEqDiff, reduceCtorEq, Nat.reduceAdd, Nat.reduceBEq, f6]
        simp
  · simp only [vms, vmc, AOpd.val, Nat.reduceEqDiff, reduceCtorEq, Nat.reduceAdd, Nat.reduceBEq]
    simp
end Go.Proofs.Yteokopjiaiflnaa

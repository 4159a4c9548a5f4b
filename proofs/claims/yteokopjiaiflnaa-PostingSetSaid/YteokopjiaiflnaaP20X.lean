/- PostingSet. -/
import Derived.Test.YteokopjiaiflnaaP20W
namespace Go.Proofs.Yteokopjiaiflnaa
open Go.Vm
set_option linter.unusedSimpArgs false
set_option linter.unusedVariables false
set_option maxRecDepth 100000
variable {T : Vm.Prog} {h : AH}
theorem fieldA (i o off : Nat) : fieldAddrV i (.ptr o off) = some (.ptr o (off + i)) := rfl
theorem eqB_tt (b : Bool) : eqBV true (.bool b) (.bool b) = some (.bool false) := by cases b <;> rfl
theorem eqB_tf : eqBV false (.bool true) (.bool false) = some (.bool false) := rfl
theorem eqB_ft : eqBV false (.bool false) (.bool true) = some (.bool false) := rfl
def sixty : List AV := List.replicate 64 (.bool false)
def c7t : ACode := cSnd (cSnd (cSnd (cSnd (cSnd c7))))
theorem c7_eq : c7 = .seq (.ops [⟨(some 2), .mov (.con (.bool false)), none⟩]) (.seq (.ops [⟨(some 3), .new [.nilSlice], none⟩]) (.seq (.ops [⟨(some 4), .new sixty, none⟩]) (.seq (.ops [⟨(some 5), .mov (.con (.int .i64 0)), none⟩]) (.seq (.seq (.ops [⟨(some 6), .mov (.con (.int .i64 0)), none⟩]) (.block 0 (.loop c7l0))) c7t)))) := rfl
def c7w : ACode := .block 6 (.loop c7l1)
theorem c7l2_eq : c7l2 = (.seq (.ops [⟨(some 99), .bin .lss (.tmp 98) (.tmp 97), none⟩]) (.seq (.cond (.tmp 99) .skip (.exit 4)) (.seq (.block 5 (.seq (.ops [⟨(some 100), .idxAddr 1 (.tmp 96) (.tmp 98), none⟩,
    ⟨(some 101), .load false 1 (.tmp 100), none⟩, ⟨(some 13), .mov (.tmp 101), none⟩]) (.seq c7w (.seq (.seq (.ops [⟨(some 112), .mov (.tmp 13), none⟩, ⟨(some 113), .mov (.tmp 9), none⟩, ⟨(some 114), .bin .neq (.tmp 112) (.tmp 113), none⟩])
  (.cond (.tmp 114) (.seq (.ops [⟨(some 2), .mov (.con (.bool false)), none⟩]) .ret) .skip))
  (.ops [⟨(some 115), .mov (.tmp 9), none⟩, ⟨(some 116), .bin .add (.tmp 115) (.con (.int .i64 1)), none⟩, ⟨(some 9), .mov (.tmp 116), none⟩])))))
  (.ops [⟨(some 117), .bin .add (.tmp 98) (.con (.int .i64 1)), none⟩, ⟨(some 98), .mov (.tmp 117), none⟩])))) := rfl
/-- To the next number that is in. -/
theorem walk_ok {p : Nat} {g : Nat → Bool} (b : BoolsAt h p g) {k y : Nat} (hk : k ≤ y) (hy : y < 64) (hno : ∀ t, k ≤ t → t < y → g t = false) (hyes : g y = true) {f : Fr} (f4 : f.at 4 = .ptr p 0) (f9 : f.at 9 = .int .i64 (k : Int)) {Q : AExit → Fr → AH → Prop}
    (hq : ∀ f', f'.at 9 = .int .i64 (y : Int) → f'.at 4 = f.at 4 → f'.at 13 = f.at 13 → f'.at 82 = f.at 82 → f'.at 83 = f.at 83 → f'.at 84 = f.at 84 → f'.at 96 = f.at 96 → f'.at 97 = f.at 97 → f'.at 98 = f.at 98 → Q .normal f' h) : Wp (code T c7w f h) Q := by
  simp only [c7w, vms, vmc, AOpd.val, Nat.reduceEqDiff, reduceCtorEq, Nat.reduceAdd, Nat.reduceBEq]
  refine wpc_loop (fun d f' h' => ∃ t, d = y - t ∧ k ≤ t ∧ t ≤ y ∧ h' = h ∧ f'.at 9 = .int .i64 (t : Int) ∧ f'.at 4 = .ptr p 0 ∧ f'.at 13 = f.at 13 ∧ f'.at 82 = f.at 82 ∧ f'.at 83 = f.at 83 ∧ f'.at 84 = f.at 84 ∧ f'.at 96 = f.at 96 ∧ f'.at 97 = f.at 97 ∧ f'.at 98 = f.at 98) ?_ (y - k) _ _ ⟨k, by omega, by omega, by omega, rfl, f9, f4, rfl, rfl, rfl, rfl, rfl, rfl, rfl⟩
  rintro d f' h' ⟨t, rfl, ht1, ht2, rfl, g9, g4, e13, e82, e83, e84, e96, e97, e98⟩
  have d1 : decide ((t : Int) < 64) = true := by rw [decide_eq_true_eq]; omega
  have hl := b.load (k := t) (by omega)
  have w2 : IntKind.i64.wrap ((t : Int) + 1) = ((t + 1 : Nat) : Int) := by rw [wrap_i64 (by omega) (by omega)]; omega
  by_cases hlt : t < y
  · rw [hno t ht1 hlt] at hl
    simp only [c7l1, vms, vmc, AOpd.val, Nat.reduceEqDiff, reduceCtorEq, Nat.reduceAdd, Nat.reduceBEq, g4, g9, d1, row64 (show t < 64 by omega), hl, w2]
    exact ⟨y - (t + 1), by omega, t + 1, rfl, by omega, by omega, by trivial, by trivial, by trivial, e13, e82, e83, e84, e96, e97, e98⟩
  · have e : t = y := by omega
    subst e
    rw [hyes] at hl
    simp only [c7l1, vms, vmc, AOpd.val, Nat.reduceEqDiff, reduceCtorEq, Nat.reduceAdd, Nat.reduceBEq, g4, g9, d1, row64 hy, hl]
    refine hq _ ?_ ?_ ?_ ?_ ?_ ?_ ?_ ?_ ?_ <;> simp only [vms, vmc, AOpd.val, Nat.reduceEqDiff, reduceCtorEq, Nat.reduceAdd, Nat.reduceBEq, g4, g9, e13, e82, e83, e84, e96, e97, e98, f4]
theorem set_end (k : Fits T) {h2 : AH} {sl : AV} {bs : List (List Int)} {i : Nat} (hi : i ≤ 200) (I : SetI h h2 sl bs i) {f : Fr} (f3 : f.at 3 = .ptr h.next 0) (f4 : f.at 4 = .ptr (h.next + 1) 0) : Wp (code T c7t f h2) (Vm.Ends [.tmp 2] fun r _ => r = .bool true) := by
  obtain ⟨q2, lo2, hg, arr, sL, g, sm, hlen, hr⟩ := I
  have hp4 : h.next + 1 < h2.next := by obtain ⟨l, h1, _⟩ := arr; exact lo2 _ _ h1
  simp only [c7t, cSnd, c7, vms, vmc, AOpd.val, Nat.reduceEqDiff, reduceCtorEq, Nat.reduceAdd, Nat.reduceBEq, f3, load_boxA hg]
  refine Gives.bind ((blocks_ok k.base lo2 sL.v (by omega) g.len).mono ?_)
  rintro b h3 ⟨fr, q3, lo3⟩
  have arr3 : BoolsAt h3 (h.next + 1) (inL bs.flatten) := arr.keep (q3.2 _ hp4 id)
  have sB := fr.blks
  have lnb := sB.len
  have hbl := g.len
  have rise := g.rise
  simp only [vms, vmc, AOpd.val, Nat.reduceEqDiff, reduceCtorEq, Nat.reduceAdd, Nat.reduceBEq, f3, f4, lnb]
  refine wpc_loop (fun d f h' => ∃ j kk : Nat, d = bs.length - j ∧ j ≤ bs.length ∧ kk ≤ 64 ∧ h' = h3 ∧ f.at 4 = .ptr (h.next + 1) 0 ∧ f.at 9 = .int .i64 (kk : Int) ∧ f.at 82 = b ∧ f.at 83 = .int .i64 (bs.length : Int) ∧ f.at 84 = .int .i64 (j : Int) ∧ (∀ t y, bs.flatten[t]? = some y → (t < (bs.take j).flatten.length ↔ y < (kk : Int)))) ?_ bs.length _ _ ⟨0, 0, by omega, by omega, by omega, rfl, ?_⟩
  · rintro _ f hh ⟨j, kk, rfl, hj, hkk, rfl, f4, f9, f82, f83, f84, hat⟩
    by_cases hjl : j < bs.length
    · have d2 : decide ((j : Int) < (bs.length : Int)) = true := by rw [decide_eq_true_eq]; omega
      have w3 : IntKind.i64.wrap ((j : Int) + 1) = ((j + 1 : Nat) : Int) := by rw [wrap_i64 (by omega) (by omega)]; omega
      obtain ⟨c, hc⟩ : ∃ c, bs[j]? = some c := ⟨_, List.getElem?_eq_getElem hjl⟩
      obtain ⟨p, x, hp1, hp2, hx⟩ := sB.at hc .i64
      have lx : lenOfV x = some c.length := by simpa [izs] using hx.1.len
      have hc16 := sm c (List.mem_of_getElem? hc)
      have hc1 := List.length_pos_iff.2 (g.ne c (List.mem_of_getElem? hc))
      have d3 : decide ((c.length : Int) < 1) = false := by rw [decide_eq_false_iff_not]; omega
      have d4 : decide ((c.length : Int) > 16) = false := by rw [decide_eq_false_iff_not]; omega
      have hfl := split_at hc
      have htk : (bs.take (j + 1)).flatten.length = (bs.take j).flatten.length + c.length := by
        rw [List.take_add_one, hc]; simp
      simp only [c7l3, vms, vmc, AOpd.val, Nat.reduceEqDiff, reduceCtorEq, Nat.reduceAdd, Nat.reduceBEq, f4, f9, f82, f83, f84, d2, hp1, hp2, lx, d3, d4]
      refine wpc_loop (fun d f h' => ∃ u kk : Nat, d = c.length - u ∧ u ≤ c.length ∧ kk ≤ 64 ∧ h' = hh ∧ f.at 4 = .ptr (h.next + 1) 0 ∧ f.at 9 = .int .i64 (kk : Int) ∧ f.at 82 = b ∧ f.at 83 = .int .i64 (bs.length : Int) ∧ f.at 84 = .int .i64 (j : Int) ∧ f.at 96 = x ∧ f.at 97 = .int .i64 (c.length : Int) ∧ f.at 98 = .int .i64 (u : Int) ∧ (∀ t y, bs.flatten[t]? = some y → (t < (bs.take j).flatten.length + u ↔ y < (kk : Int)))) ?_ c.length _ _ ⟨0, kk, by omega, by omega, hkk, rfl, ?_⟩
      · rintro _ f h' ⟨u, kk, rfl, hu, hkk, rfl, f4, f9, f82, f83, f84, f96, f97, f98, hat⟩
        by_cases hul : u < c.length
        · have d5 : decide ((u : Int) < (c.length : Int)) = true := by rw [decide_eq_true_eq]; omega
          have w5 : IntKind.i64.wrap ((u : Int) + 1) = ((u + 1 : Nat) : Int) := by rw [wrap_i64 (by omega) (by omega)]; omega
          obtain ⟨yi, hyi⟩ : ∃ y, c[u]? = some y := ⟨_, List.getElem?_eq_getElem hul⟩
          have hLy : bs.flatten[(bs.take j).flatten.length + u]? = some yi := by
            rw [hfl, List.getElem?_append_right (by omega), List.getElem?_append_left (by omega), ← hyi]; congr 1; omega
          have hym := List.mem_of_getElem? hLy
          have hyr := hr yi hym
          obtain ⟨y, rfl⟩ : ∃ y : Nat, yi = (y : Int) := ⟨yi.toNat, by omega⟩
          have hky : kk ≤ y := by
            have h1 := hat _ _ hLy
            refine Classical.byContradiction fun hn => ?_
            have := h1.2 (by omega); omega
          have hyes : inL bs.flatten y = true := decide_eq_true hym
          have hno : ∀ t, kk ≤ t → t < y → inL bs.flatten t = false := by
            intro t h1 h2
            refine decide_eq_false fun hm => ?_
            obtain ⟨s, hs⟩ := List.getElem?_of_mem hm
            have h3 := hat s _ hs
            have h4 : ¬ s < (bs.take j).flatten.length + u := fun hh => by have := h3.1 hh; omega
            by_cases e : s = (bs.take j).flatten.length + u
            · subst e; rw [hLy] at hs; simp at hs; omega
            · have := rise.at hLy hs (by omega); omega
          obtain ⟨p2, hq1, hq2⟩ := hx.1.at (i := u) (x := .int .i64 (y : Int)) (by simp [izs, hyi]) .i64
          have w6 : IntKind.i64.wrap ((y : Int) + 1) = ((y + 1 : Nat) : Int) := by rw [wrap_i64 (by omega) (by omega)]; omega
          simp only [c7l2_eq, vms, vmc, AOpd.val, Nat.reduceEqDiff, reduceCtorEq, Nat.reduceAdd, Nat.reduceBEq, f4, f9, f82, f83, f84, f96, f97, f98, d5, hq1, hq2]
          refine walk_ok arr3 hky (by omega) hno hyes (by simp only [vms, vmc, AOpd.val, Nat.reduceEqDiff, reduceCtorEq, Nat.reduceAdd, Nat.reduceBEq, f4]) (by simp only [vms, vmc, AOpd.val, Nat.reduceEqDiff, reduceCtorEq, Nat.reduceAdd, Nat.reduceBEq, f9]) ?_
          intro f' e9 e4 e13 e82 e83 e84 e96 e97 e98
          simp only [vms, vmc, AOpd.val, Nat.reduceEqDiff, reduceCtorEq, Nat.reduceAdd, Nat.reduceBEq, f4] at e4
          simp only [vms, vmc, AOpd.val, Nat.reduceEqDiff, reduceCtorEq, Nat.reduceAdd, Nat.reduceBEq] at e13
          simp only [vms, vmc, AOpd.val, Nat.reduceEqDiff, reduceCtorEq, Nat.reduceAdd, Nat.reduceBEq, f82] at e82
          simp only [vms, vmc, AOpd.val, Nat.reduceEqDiff, reduceCtorEq, Nat.reduceAdd, Nat.reduceBEq, f83] at e83
          simp only [vms, vmc, AOpd.val, Nat.reduceEqDiff, reduceCtorEq, Nat.reduceAdd, Nat.reduceBEq, f84] at e84
          simp only [vms, vmc, AOpd.val, Nat.reduceEqDiff, reduceCtorEq, Nat.reduceAdd, Nat.reduceBEq, f96] at e96
          simp only [vms, vmc, AOpd.val, Nat.reduceEqDiff, reduceCtorEq, Nat.reduceAdd, Nat.reduceBEq, f97] at e97
          simp only [vms, vmc, AOpd.val, Nat.reduceEqDiff, reduceCtorEq, Nat.reduceAdd, Nat.reduceBEq, f98] at e98
          simp only [vms, vmc, AOpd.val, Nat.reduceEqDiff, reduceCtorEq, Nat.reduceAdd, Nat.reduceBEq, e9, e4, e13, e82, e83, e84, e96, e97, e98, w5, w6]
          refine ⟨c.length - (u + 1), by omega, u + 1, y + 1, rfl, by omega, by omega, by trivial, by trivial, by trivial, by trivial, by trivial, by trivial, by trivial, by trivial, by trivial, fun t z hz => ?_⟩
          constructor
          · intro ht
            by_cases e : t = (bs.take j).flatten.length + u
            · subst e; rw [hLy] at hz; simp at hz; omega
            · have := rise.at hz hLy (by omega); omega
          · intro hlt
            refine Classical.byContradiction fun hn => ?_
            have := rise.at hLy hz (by omega); omega
        · have d5 : decide ((u : Int) < (c.length : Int)) = false := by rw [decide_eq_false_iff_not]; omega
          have hu' : u = c.length := by omega
          subst hu'
          simp only [c7l2_eq, vms, vmc, AOpd.val, Nat.reduceEqDiff, reduceCtorEq, Nat.reduceAdd, Nat.reduceBEq, f4, f9, f82, f83, f84, f96, f97, f98, d5, w3]
          exact ⟨bs.length - (j + 1), by omega, j + 1, kk, rfl, by omega, hkk, by trivial, by trivial, by trivial, by trivial, by trivial, by trivial, by rw [htk]; exact hat⟩
      · simp only [vms, vmc, AOpd.val, Nat.reduceEqDiff, reduceCtorEq, Nat.reduceAdd, Nat.reduceBEq, f4, f9, f82, f83, f84]
        exact ⟨by trivial, by trivial, by trivial, by trivial, by trivial, by trivial, by trivial, by trivial, hat⟩
    · have d2 : decide ((j : Int) < (bs.length : Int)) = false := by rw [decide_eq_false_iff_not]; omega
      have hj' : j = bs.length := by omega
      subst hj'
      have hall : ∀ y ∈ bs.flatten, y < (kk : Int) := fun y hy => by
        obtain ⟨t, ht⟩ := List.getElem?_of_mem hy
        refine (hat t y ht).1 ?_
        rw [List.take_length]; exact (List.getElem?_eq_some_iff.1 ht).1
      simp only [c7l3, vms, vmc, AOpd.val, Nat.reduceEqDiff, reduceCtorEq, Nat.reduceAdd, Nat.reduceBEq, f4, f9, f82, f83, f84, d2]
      refine wpc_loop (fun d f h' => ∃ u : Nat, d = 64 - u ∧ kk ≤ u ∧ u ≤ 64 ∧ h' = hh ∧ f.at 4 = .ptr (h.next + 1) 0 ∧ f.at 9 = .int .i64 (u : Int)) ?_ (64 - kk) _ _ ⟨kk, by omega, by omega, by omega, rfl, ?_⟩
      · rintro _ f h' ⟨u, rfl, hu1, hu2, rfl, f4, f9⟩
        by_cases hul : u < 64
        · have d5 : decide ((u : Int) < 64) = true := by rw [decide_eq_true_eq]; omega
          have w5 : IntKind.i64.wrap ((u : Int) + 1) = ((u + 1 : Nat) : Int) := by rw [wrap_i64 (by omega) (by omega)]; omega
          have hno : inL bs.flatten u = false := decide_eq_false fun hm => by have := hall _ hm; omega
          have hl := arr3.load hul
          rw [hno] at hl
          simp only [c7l4, vms, vmc, AOpd.val, Nat.reduceEqDiff, reduceCtorEq, Nat.reduceAdd, Nat.reduceBEq, f4, f9, d5, row64 hul, hl, w5]
          exact ⟨64 - (u + 1), by omega, u + 1, rfl, by omega, by omega, by trivial, by trivial, by trivial⟩
        · have d5 : decide ((u : Int) < 64) = false := by rw [decide_eq_false_iff_not]; omega
          simp only [c7l4, vms, vmc, AOpd.val, Nat.reduceEqDiff, reduceCtorEq, Nat.reduceAdd, Nat.reduceBEq, f4, f9, d5]
          refine Gives.bind ((k.yes _).mono ?_)
          rintro _ _ ⟨rfl, rfl⟩
          simp only [vms, vmc, AOpd.val, Nat.reduceEqDiff, reduceCtorEq, Nat.reduceAdd, Nat.reduceBEq]
      · simp only [vms, vmc, AOpd.val, Nat.reduceEqDiff, reduceCtorEq, Nat.reduceAdd, Nat.reduceBEq, f4, f9]
        simp
  · simp only [vms, vmc, AOpd.val, Nat.reduceEqDiff, reduceCtorEq, Nat.reduceAdd, Nat.reduceBEq, f4]
    refine ⟨by trivial, by trivial, by trivial, by trivial, by trivial, fun t y hy => ?_⟩
    have := hr y (List.mem_of_getElem? hy)
    simp; omega
theorem set_run (k : Fits T) (hl : Low h) {lv : AV} {asks : List (Int × Int × Int)} (sa : Asks h lv asks) (hal : asks.length ≤ maxLen) : Gives T 7 [lv] h fun r _ => r = .bool true := by
  refine gives_func (k.base.env 7 (by decide)) (k.base.at (n := 7) rfl) rfl ?_
  have lit : ∀ k, k < 64 → sixty[k]? = some (.bool (inL ([] : List (List Int)).flatten k)) := fun k hk => by
    unfold sixty; rw [List.getElem?_replicate, if_pos hk]; simp [inL]
  have q1 : Quiet h ((h.new (.cells [.nilSlice] true)).new (.cells (sixty) true)) := ((Quiet.refl h).new _).new _
  have lo1 : Low ((h.new (.cells [.nilSlice] true)).new (.cells (sixty) true)) := (hl.new _).new _
  have hz1 : ((h.new (.cells [.nilSlice] true)).new (.cells (sixty) true)).get h.next = some (.cells [.nilSlice] true) := by
    rw [AH.get_new, if_neg (by rw [next_new]; omega)]; exact get_new_same
  have hz2 : BoolsAt ((h.new (.cells [.nilSlice] true)).new (.cells (sixty) true)) (h.next + 1) (inL ([] : List (List Int)).flatten) := ⟨_, get_new_same, by simp [sixty], lit⟩
  have n1 : (h.new (.cells [.nilSlice] true)).next = h.next + 1 := rfl
  simp only [a7, c7_eq, vms, vmc, AOpd.val, Nat.reduceEqDiff, reduceCtorEq, Nat.reduceAdd, Nat.reduceBEq, n1]
  generalize ((h.new (.cells [.nilSlice] true)).new (.cells (sixty) true)) = h1 at *
  refine wpc_loop (fun d f h' => ∃ i sl bs, d = 200 - i ∧ i ≤ 200 ∧ SetI h h' sl bs i ∧ f.at 0 = lv ∧ f.at 3 = .ptr h.next 0 ∧ f.at 4 = .ptr (h.next + 1) 0 ∧ f.at 5 = .int .i64 (bs.flatten.length : Int) ∧ f.at 6 = .int .i64 (i : Int)) ?_ 200 _ _
      ⟨0, .nilSlice, [], by omega, by omega, ⟨q1, lo1, hz1, hz2, ⟨_, rfl, [], .inl ⟨rfl, rfl⟩, trivial, fun o ho => by simp [objs] at ho, ⟨rfl, fun i x b hx => by simp at hx⟩, fun x hx => by simp at hx⟩, good_nil, fun b hb => by simp at hb, by simp, fun y hy => by simp at hy⟩, ?_⟩
  · rintro d f h2 ⟨i, sl, bs, rfl, hi, I, f0, f3, f4, f5, f6⟩
    have sa2 := sa.keep hl I.quiet
    have lng := sa2.len
    have hml : maxLen = 9223372036854775807 := rfl
    by_cases hgp : i < asks.length
    case neg =>
      have d1 : decide ((i : Int) < (asks.length : Int)) = false := by rw [decide_eq_false_iff_not]; omega
      simp only [c7l0_eq, cFst, cSnd, c7l0, vms, vmc, AOpd.val, Nat.reduceEqDiff, reduceCtorEq, Nat.reduceAdd, Nat.reduceBEq, f0, f3, f4, f5, f6, lng, d1]
      exact set_end k hi I (by simp only [vms, vmc, AOpd.val, Nat.reduceEqDiff, reduceCtorEq, Nat.reduceAdd, Nat.reduceBEq, f3]) (by simp only [vms, vmc, AOpd.val, Nat.reduceEqDiff, reduceCtorEq, Nat.reduceAdd, Nat.reduceBEq, f4])
    have d1 : decide ((i : Int) < (asks.length : Int)) = true := by rw [decide_eq_true_eq]; omega
    by_cases hlt : i < 200
    case neg =>
      have d2 : decide ((i : Int) < 200) = false := by rw [decide_eq_false_iff_not]; omega
      simp only [c7l0_eq, cFst, cSnd, c7l0, vms, vmc, AOpd.val, Nat.reduceEqDiff, reduceCtorEq, Nat.reduceAdd, Nat.reduceBEq, f0, f3, f4, f5, f6, lng, d1, d2]
      exact set_end k hi I (by simp only [vms, vmc, AOpd.val, Nat.reduceEqDiff, reduceCtorEq, Nat.reduceAdd, Nat.reduceBEq, f3]) (by simp only [vms, vmc, AOpd.val, Nat.reduceEqDiff, reduceCtorEq, Nat.reduceAdd, Nat.reduceBEq, f4])
    have d2 : decide ((i : Int) < 200) = true := by rw [decide_eq_true_eq]; omega
    have w2 : IntKind.i64.wrap ((i : Int) + 1) = ((i + 1 : Nat) : Int) := by rw [wrap_i64 (by omega) (by omega)]; omega
    obtain ⟨a, ha⟩ : ∃ a, asks[i]? = some a := ⟨_, List.getElem?_eq_getElem hgp⟩
    obtain ⟨o, off, hi1, hi2, hi3, _⟩ := sa2.at ha
    have hp := I.low _ _ I.cell
    have hp4 : h.next + 1 < h2.next := by obtain ⟨l, h1, _⟩ := I.arr; exact I.low _ _ h1
    rw [c7l0_eq]
    simp only [cFst, cSnd, c7B, c7B.cBlk7, c7l0, vms, vmc, AOpd.val, Nat.reduceEqDiff, reduceCtorEq, Nat.reduceAdd, Nat.reduceBEq, f0, f3, f4, f5, f6, lng, d1, d2, hi1, fieldA, hi3]
    refine Gives.bind ((within_nat k.base (hi := 63) (by decide)).mono ?_)
    rintro _ _ ⟨m, rfl, hm, rfl⟩
    rename_i h2
    have hm64 : m < 64 := by omega
    have hlen := I.len
    have next : ∀ {f1 : Fr} {h5 : AH} {sl' : AV} {bs' : List (List Int)}, SetI h h5 sl' bs' (i + 1) → f1.at 0 = lv → f1.at 3 = .ptr h.next 0 → f1.at 4 = .ptr (h.next + 1) 0 → f1.at 5 = .int .i64 (bs'.flatten.length : Int) → f1.at 6 = .int .i64 (i : Int) → f1.at 7 = .int .i64 (m : Int) →
        ∀ {Q : AExit → Fr → AH → Prop}, (∀ f' h', SetI h h' sl' bs' (i + 1) → f'.at 0 = lv → f'.at 3 = .ptr h.next 0 → f'.at 4 = .ptr (h.next + 1) 0 → f'.at 5 = .int .i64 (bs'.flatten.length : Int) → f'.at 6 = .int .i64 (i : Int) → Q .normal f' h') → Wp (code T c7d f1 h5) Q := by
      intro f1 h5 sl' bs' I' g0 g3 g4 g5 g6 g7 Q hq
      refine set_tail k.base (by omega) hm64 I' g3 g4 g5 g7 ?_
      intro f' h' I'' e0 e3 e4 e5 e6
      exact hq f' h' I'' (e0.trans g0) (e3.trans g3) (e4.trans g4) (e5.trans g5) (e6.trans g6)
    by_cases hk2 : a.1 = 2
    · have e1 : (a.1 == 2) = true := by simp [hk2]
      simp only [vms, vmc, AOpd.val, Nat.reduceEqDiff, reduceCtorEq, Nat.reduceAdd, Nat.reduceBEq, f0, f3, f4, f5, f6, hi1, fieldA, Nat.add_zero, hi2, e1, load_boxA I.cell]
      refine Gives.bind ((remove_ok k.base I.low (id := (m : Int)) I.list I.good).mono ?_)
      rintro _ h3 ⟨zv, rfl, sZ, q3, lo3⟩
      obtain ⟨zl, rfl, sZb⟩ := sZ.v
      have hg3 := q3.get I.cell hp
      have st3 : storeV h3 1 (.ptr h.next 0) (.agg [zl]) = some (h3.set h.next (.cells [zl] true)) := store_res hg3 sZb.cell.2.1
      have arr3 : BoolsAt h3 (h.next + 1) (inL bs.flatten) := I.arr.keep (q3.2 _ hp4 id)
      have arr4 : BoolsAt (h3.set h.next (.cells [zl] true)) (h.next + 1) (inL bs.flatten) := arr3.keep (by rw [AH.get_set, if_neg (by omega)])
      have lo4 : Low (h3.set h.next (.cells [zl] true)) := lo3.set (by have := q3.1; omega) _
      obtain ⟨h5, st5, n5, k5, a5, lo5⟩ := arr4.store hm64 false
      by_cases hin : (m : Int) ∈ bs.flatten
      · obtain ⟨r1, r2, r3⟩ := remove_yes I.good hin
        have hb : inL bs.flatten m = true := decide_eq_true hin
        have hl4 := arr4.load hm64
        rw [hb] at hl4
        have hcl := cut_len I.good.rise hin
        have w3 : IntKind.i64.wrap ((bs.flatten.length : Int) - 1) = ((cut bs.flatten (m : Int)).length : Int) := by rw [wrap_i64 (by omega) (by omega)]; omega
        rw [r1] 
        simp only [vms, vmc, AOpd.val, Nat.reduceEqDiff, reduceCtorEq, Nat.reduceAdd, Nat.reduceBEq, f0, f3, f4, f5, f6, st3, row64 hm64, hl4, eqB_tt, st5, w3]
        rw [cut_in I.good.rise hin] at a5
        refine next (turned (v := false) (m := m) I q3 lo3 sZ rfl n5 k5 (by rw [r2]; exact a5) (lo5 lo4) r3 (remove_small I.small _) (by rw [r2]; omega) fun y hy => I.rng y ((mem_cut I.good.rise hin).1 (r2 ▸ hy)).1) (by simp only [vms, vmc, AOpd.val, Nat.reduceEqDiff, reduceCtorEq, Nat.reduceAdd, Nat.reduceBEq, f0]) (by simp only [vms, vmc, AOpd.val, Nat.reduceEqDiff, reduceCtorEq, Nat.reduceAdd, Nat.reduceBEq, f3]) (by simp only [vms, vmc, AOpd.val, Nat.reduceEqDiff, reduceCtorEq, Nat.reduceAdd, Nat.reduceBEq, f4]) (by simp only [vms, vmc, AOpd.val, Nat.reduceEqDiff, reduceCtorEq, Nat.reduceAdd, Nat.reduceBEq, r2]) (by simp only [vms, vmc, AOpd.val, Nat.reduceEqDiff, reduceCtorEq, Nat.reduceAdd, Nat.reduceBEq, f6]) (by simp only [vms, vmc, AOpd.val, Nat.reduceEqDiff, reduceCtorEq, Nat.reduceAdd, Nat.reduceBEq]) ?_
        intro f' h' I' g0 g3 g4 g5 g6
        simp only [vms, vmc, AOpd.val, Nat.reduceEqDiff, reduceCtorEq, Nat.reduceAdd, Nat.reduceBEq, g0, g3, g4, g5, g6, w2]
        exact ⟨200 - (i + 1), by omega, i + 1, zl, _, rfl, by omega, I', by trivial, by trivial, by trivial, by trivial, by trivial⟩
      · have er := remove_no I.good hin
        have hb : inL bs.flatten m = false := decide_eq_false hin
        have hl4 := arr4.load hm64
        rw [hb] at hl4
        rw [er] at sZ ⊢
        simp only [vms, vmc, AOpd.val, Nat.reduceEqDiff, reduceCtorEq, Nat.reduceAdd, Nat.reduceBEq, f0, f3, f4, f5, f6, st3, row64 hm64, hl4, eqB_tt, st5]
        rw [same_in hb] at a5
        refine next (turned (v := false) (m := m) I q3 lo3 sZ rfl n5 k5 a5 (lo5 lo4) I.good I.small (by show bs.flatten.length ≤ i + 1; omega) I.rng) (by simp only [vms, vmc, AOpd.val, Nat.reduceEqDiff, reduceCtorEq, Nat.reduceAdd, Nat.reduceBEq, f0]) (by simp only [vms, vmc, AOpd.val, Nat.reduceEqDiff, reduceCtorEq, Nat.reduceAdd, Nat.reduceBEq, f3]) (by simp only [vms, vmc, AOpd.val, Nat.reduceEqDiff, reduceCtorEq, Nat.reduceAdd, Nat.reduceBEq, f4]) (by simp only [vms, vmc, AOpd.val, Nat.reduceEqDiff, reduceCtorEq, Nat.reduceAdd, Nat.reduceBEq, f5]) (by simp only [vms, vmc, AOpd.val, Nat.reduceEqDiff, reduceCtorEq, Nat.reduceAdd, Nat.reduceBEq, f6]) (by simp only [vms, vmc, AOpd.val, Nat.reduceEqDiff, reduceCtorEq, Nat.reduceAdd, Nat.reduceBEq]) ?_
        intro f' h' I' g0 g3 g4 g5 g6
        simp only [vms, vmc, AOpd.val, Nat.reduceEqDiff, reduceCtorEq, Nat.reduceAdd, Nat.reduceBEq, g0, g3, g4, g5, g6, w2]
        exact ⟨200 - (i + 1), by omega, i + 1, zl, _, rfl, by omega, I', by trivial, by trivial, by trivial, by trivial, by trivial⟩
    · have e1 : (a.1 == 2) = false := by simp [hk2]
      simp only [vms, vmc, AOpd.val, Nat.reduceEqDiff, reduceCtorEq, Nat.reduceAdd, Nat.reduceBEq, f0, f3, f4, f5, f6, hi1, fieldA, Nat.add_zero, hi2, e1, load_boxA I.cell]
      refine Gives.bind ((add_ok k.base I.low (id := (m : Int)) I.list I.good).mono ?_)
      rintro _ h3 ⟨zv, rfl, sZ, q3, lo3⟩
      obtain ⟨zl, rfl, sZb⟩ := sZ.v
      have hg3 := q3.get I.cell hp
      have st3 : storeV h3 1 (.ptr h.next 0) (.agg [zl]) = some (h3.set h.next (.cells [zl] true)) := store_res hg3 sZb.cell.2.1
      have arr3 : BoolsAt h3 (h.next + 1) (inL bs.flatten) := I.arr.keep (q3.2 _ hp4 id)
      have arr4 : BoolsAt (h3.set h.next (.cells [zl] true)) (h.next + 1) (inL bs.flatten) := arr3.keep (by rw [AH.get_set, if_neg (by omega)])
      have lo4 : Low (h3.set h.next (.cells [zl] true)) := lo3.set (by have := q3.1; omega) _
      obtain ⟨h5, st5, n5, k5, a5, lo5⟩ := arr4.store hm64 true
      by_cases hin : (m : Int) ∈ bs.flatten
      · have er := add_no I.good (id := (m : Int)) fun ok => ok.2.2 hin
        have hb : inL bs.flatten m = true := decide_eq_true hin
        have hl4 := arr4.load hm64
        rw [hb] at hl4
        rw [er] at sZ ⊢
        simp only [vms, vmc, AOpd.val, Nat.reduceEqDiff, reduceCtorEq, Nat.reduceAdd, Nat.reduceBEq, f0, f3, f4, f5, f6, st3, row64 hm64, hl4, eqB_ft, st5]
        rw [same_in hb] at a5
        refine next (turned (v := true) (m := m) I q3 lo3 sZ rfl n5 k5 a5 (lo5 lo4) I.good I.small (by show bs.flatten.length ≤ i + 1; omega) I.rng) (by simp only [vms, vmc, AOpd.val, Nat.reduceEqDiff, reduceCtorEq, Nat.reduceAdd, Nat.reduceBEq, f0]) (by simp only [vms, vmc, AOpd.val, Nat.reduceEqDiff, reduceCtorEq, Nat.reduceAdd, Nat.reduceBEq, f3]) (by simp only [vms, vmc, AOpd.val, Nat.reduceEqDiff, reduceCtorEq, Nat.reduceAdd, Nat.reduceBEq, f4]) (by simp only [vms, vmc, AOpd.val, Nat.reduceEqDiff, reduceCtorEq, Nat.reduceAdd, Nat.reduceBEq, f5]) (by simp only [vms, vmc, AOpd.val, Nat.reduceEqDiff, reduceCtorEq, Nat.reduceAdd, Nat.reduceBEq, f6]) (by simp only [vms, vmc, AOpd.val, Nat.reduceEqDiff, reduceCtorEq, Nat.reduceAdd, Nat.reduceBEq]) ?_
        intro f' h' I' g0 g3 g4 g5 g6
        simp only [vms, vmc, AOpd.val, Nat.reduceEqDiff, reduceCtorEq, Nat.reduceAdd, Nat.reduceBEq, g0, g3, g4, g5, g6, w2]
        exact ⟨200 - (i + 1), by omega, i + 1, zl, _, rfl, by omega, I', by trivial, by trivial, by trivial, by trivial, by trivial⟩
      · have ok : addOk bs (m : Int) := ⟨by omega, by omega, hin⟩
        obtain ⟨r1, r2, r3⟩ := add_yes I.good ok (by omega)
        have hb : inL bs.flatten m = false := decide_eq_false hin
        have hl4 := arr4.load hm64
        rw [hb] at hl4
        have hil := ins_len bs.flatten (m : Int)
        have w3 : IntKind.i64.wrap ((bs.flatten.length : Int) + 1) = ((ins bs.flatten (m : Int)).length : Int) := by rw [wrap_i64 (by omega) (by omega)]; omega
        rw [r1]
        simp only [vms, vmc, AOpd.val, Nat.reduceEqDiff, reduceCtorEq, Nat.reduceAdd, Nat.reduceBEq, f0, f3, f4, f5, f6, st3, row64 hm64, hl4, eqB_tf, st5, w3]
        rw [ins_in] at a5
        refine next (turned (v := true) (m := m) I q3 lo3 sZ rfl n5 k5 (by rw [r2]; exact a5) (lo5 lo4) r3 (add_small I.good I.small _) (by rw [r2]; omega) fun y hy => ?_) (by simp only [vms, vmc, AOpd.val, Nat.reduceEqDiff, reduceCtorEq, Nat.reduceAdd, Nat.reduceBEq, f0]) (by simp only [vms, vmc, AOpd.val, Nat.reduceEqDiff, reduceCtorEq, Nat.reduceAdd, Nat.reduceBEq, f3]) (by simp only [vms, vmc, AOpd.val, Nat.reduceEqDiff, reduceCtorEq, Nat.reduceAdd, Nat.reduceBEq, f4]) (by simp only [vms, vmc, AOpd.val, Nat.reduceEqDiff, reduceCtorEq, Nat.reduceAdd, Nat.reduceBEq, r2]) (by simp only [vms, vmc, AOpd.val, Nat.reduceEqDiff, reduceCtorEq, Nat.reduceAdd, Nat.reduceBEq, f6]) (by simp only [vms, vmc, AOpd.val, Nat.reduceEqDiff, reduceCtorEq, Nat.reduceAdd, Nat.reduceBEq]) ?_
        · rw [r2, mem_ins] at hy
          rcases hy with rfl | hy
          · omega
          · exact I.rng y hy
        intro f' h' I' g0 g3 g4 g5 g6
        simp only [vms, vmc, AOpd.val, Nat.reduceEqDiff, reduceCtorEq, Nat.reduceAdd, Nat.reduceBEq, g0, g3, g4, g5, g6, w2]
        exact ⟨200 - (i + 1), by omega, i + 1, zl, _, rfl, by omega, I', by trivial, by trivial, by trivial, by trivial, by trivial⟩
  · simp only [vms, vmc, AOpd.val, Nat.reduceEqDiff, reduceCtorEq, Nat.reduceAdd, Nat.reduceBEq]
    simp
end Go.Proofs.Yteokopjiaiflnaa

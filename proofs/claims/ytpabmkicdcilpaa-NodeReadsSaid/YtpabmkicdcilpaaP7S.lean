/- Leaves by the reference: terms, words; slices.Equal. -/
import Derived.Test.YtpabmkicdcilpaaP7R
namespace Go.Proofs.Ytpabmkicdcilpaa
open Go.Vm
set_option linter.unusedSimpArgs false
set_option linter.unusedVariables false
set_option maxRecDepth 100000
variable {T : Vm.Prog} {h : AH}
theorem equal_ok (k : Fits T) {va vb : AV} {xs ys : List Nat} (hx : Sees h va (wcells xs)) (hy : Sees h vb (wcells ys)) (hl : xs.length < 1000000) (hl' : ys.length < 1000000) :
    Gives T 70 [va, vb] h fun r h' => r = .bool (decide (xs = ys)) ∧ h' = h := by
  refine gives_func (k.env _ (by decide)) (k.at (fn := a70) rfl) rfl ?_
  have lx : lenOfV va = some xs.length := by rw [hx.len, wcells_len]
  have ly : lenOfV vb = some ys.length := by rw [hy.len, wcells_len]
  by_cases hlen : xs.length = ys.length
  · have d0 : ((xs.length : Int) != (ys.length : Int)) = false := by rw [bne_eq_false_iff_eq]; omega
    simp only [a70, c70, vms, vmc, AOpd.val, Nat.reduceEqDiff, reduceCtorEq, Nat.reduceAdd, Nat.reduceBEq, lx, ly, d0]
    refine wpc_loop (fun m f h' => ∃ i, m = xs.length - i ∧ i ≤ xs.length ∧ h' = h ∧ f.at 0 = va ∧ f.at 1 = vb ∧ f.at 12 = .int .i64 (xs.length : Nat) ∧ f.at 13 = .int .i64 (i : Nat) ∧ ∀ j, j < i → xs[j]? = ys[j]?) ?_ xs.length _ _ ⟨0, by simp, by simp, rfl, ?_⟩
    · rintro m f h' ⟨i, rfl, hi, rfl, h0, h1, h12, h13, hpre⟩
      by_cases hlt : i < xs.length
      · have d1 : decide ((i : Int) < (xs.length : Int)) = true := by rw [decide_eq_true_eq]; omega
        obtain ⟨x, hxi⟩ : ∃ x, xs[i]? = some x := ⟨_, List.getElem?_eq_getElem hlt⟩
        obtain ⟨y, hyi⟩ : ∃ y, ys[i]? = some y := ⟨_, List.getElem?_eq_getElem (by omega)⟩
        obtain ⟨p, hp1, hp2⟩ := hx.at (i := i) (x := .int .u64 (x : Int)) (wcells_get hxi) .i64
        obtain ⟨q, hq1, hq2⟩ := hy.at (i := i) (x := .int .u64 (y : Int)) (wcells_get hyi) .i64
        have w1 : IntKind.i64.wrap ((i : Int) + 1) = ((i + 1 : Nat) : Int) := by rw [wrap_i64 (by omega) (by omega)]; omega
        by_cases he : x = y
        · have b1 : ((x : Int) != (y : Int)) = false := by rw [bne_eq_false_iff_eq]; omega
          simp only [c70l0, vms, vmc, AOpd.val, Nat.reduceEqDiff, reduceCtorEq, Nat.reduceAdd, Nat.reduceBEq, h0, h1, h12, h13, d1, hp1, hp2, hq1, hq2, b1, w1]
          refine ⟨xs.length - (i + 1), by omega, i + 1, rfl, by omega, trivial, trivial, trivial, trivial, rfl, fun j hj => ?_⟩
          by_cases hji : j = i
          · subst hji; rw [hxi, hyi, he]
          · exact hpre j (by omega)
        · have b1 : ((x : Int) != (y : Int)) = true := by simp; omega
          have hne : xs ≠ ys := fun e => by subst e; rw [hxi] at hyi; cases hyi; exact he rfl
          simp only [c70l0, vms, vmc, AOpd.val, Nat.reduceEqDiff, reduceCtorEq, Nat.reduceAdd, Nat.reduceBEq, h0, h1, h12, h13, d1, hp1, hp2, hq1, hq2, b1]
          simp [hne]
      · have d1 : decide ((i : Int) < (xs.length : Int)) = false := by rw [decide_eq_false_iff_not]; omega
        have heq : xs = ys := by
          apply List.ext_getElem?
          intro j
          by_cases hj : j < i
          · exact hpre j hj
          · rw [List.getElem?_eq_none (by omega), List.getElem?_eq_none (by omega)]
        simp only [c70l0, vms, vmc, AOpd.val, Nat.reduceEqDiff, reduceCtorEq, Nat.reduceAdd, Nat.reduceBEq, h12, h13, d1]
        simp [heq]
    · simp only [vms, vmc, AOpd.val, Nat.reduceEqDiff, reduceCtorEq, Nat.reduceAdd, Nat.reduceBEq]
      exact ⟨trivial, trivial, trivial, rfl, fun j hj => by omega⟩
  · have d0 : ((xs.length : Int) != (ys.length : Int)) = true := by simp; omega
    have hne : xs ≠ ys := fun e => hlen (by rw [e])
    simp only [a70, c70, vms, vmc, AOpd.val, Nat.reduceEqDiff, reduceCtorEq, Nat.reduceAdd, Nat.reduceBEq, lx, ly, d0]
    simp [hne]
/-! ### the reference's terms -/
theorem rightTerm_ref (k : Fits T) {s : List UInt8} (hs : s.length < 9223372036854775807) : Gives T 91 [.str s] h fun r h' => r = .bool (rightT s) ∧ h' = h := by
  refine gives_func (k.env _ (by decide)) (k.at (fn := a91) rfl) rfl ?_
  simp only [a91, c91, vms, vmc, AOpd.val, Nat.reduceEqDiff, reduceCtorEq, Nat.reduceAdd, Nat.reduceBEq]
  refine wpc_loop (fun m f h' => ∃ i, m = s.length - i ∧ i ≤ s.length ∧ h' = h ∧ f.at 0 = .str s ∧ f.at 3 = .int .i64 (i : Nat) ∧ ∀ j, j < i → s[j]? ≠ some 0) ?_ s.length _ _ ⟨0, by simp, by simp, rfl, ?_⟩
  · rintro m f h' ⟨i, rfl, hi, rfl, h0, h3, hpre⟩
    by_cases hlt : i < s.length
    · have d1 : decide ((i : Int) < (s.length : Int)) = true := by rw [decide_eq_true_eq]; omega
      obtain ⟨c, hc⟩ : ∃ c, s[i]? = some c := ⟨_, List.getElem?_eq_getElem hlt⟩
      have w1 : IntKind.i64.wrap ((i : Int) + 1) = ((i + 1 : Nat) : Int) := by rw [wrap_i64 (by omega) (by omega)]; omega
      by_cases hz : c = 0
      · subst hz
        have hm : (0 : UInt8) ∈ s := List.mem_of_getElem? hc
        simp only [c91l0, vms, vmc, AOpd.val, Nat.reduceEqDiff, reduceCtorEq, Nat.reduceAdd, Nat.reduceBEq, h0, h3, d1, idxStr_nat hc, show (((0 : UInt8).toNat : Nat) : Int) = 0 from rfl, show ((0 : Int) == 0) = true from rfl]
        simp [rightT, hm]
      · have b1 : (((c.toNat : Nat) : Int) == 0) = false := by
          rw [beq_eq_false_iff_ne]
          intro e
          exact hz (UInt8.toNat_inj.1 (by simpa using e))
        simp only [c91l0, vms, vmc, AOpd.val, Nat.reduceEqDiff, reduceCtorEq, Nat.reduceAdd, Nat.reduceBEq, h0, h3, d1, idxStr_nat hc, b1, w1]
        refine ⟨s.length - (i + 1), by omega, i + 1, rfl, by omega, trivial, trivial, rfl, fun j hj => ?_⟩
        by_cases hji : j = i
        · subst hji; rw [hc]; simpa using hz
        · exact hpre j (by omega)
    · have d1 : decide ((i : Int) < (s.length : Int)) = false := by rw [decide_eq_false_iff_not]; omega
      have hz : (0 : UInt8) ∉ s := fun hm => by
        obtain ⟨j, hj⟩ := List.getElem?_of_mem hm
        have := (List.getElem?_eq_some_iff.1 hj).1
        exact hpre j (by omega) hj
      unfold rightT
      by_cases h1 : s = []
      · have hl0 : s.length = 0 := by rw [h1]; rfl
        have d2 : decide ((s.length : Int) ≥ 1) = false := by rw [decide_eq_false_iff_not]; omega
        simp only [c91l0, vms, vmc, AOpd.val, Nat.reduceEqDiff, reduceCtorEq, Nat.reduceAdd, Nat.reduceBEq, h0, h3, d1, d2]
        simp [h1]
      · have hpos : 0 < s.length := List.length_pos_iff.2 h1
        have d2 : decide ((s.length : Int) ≥ 1) = true := by rw [decide_eq_true_eq]; omega
        by_cases h2 : s.length ≤ 12
        · have d3 : decide ((s.length : Int) ≤ 12) = true := by rw [decide_eq_true_eq]; omega
          simp only [c91l0, vms, vmc, AOpd.val, Nat.reduceEqDiff, reduceCtorEq, Nat.reduceAdd, Nat.reduceBEq, h0, h3, d1, d2, d3]
          simp [h1, h2, hz]
        · have d3 : decide ((s.length : Int) ≤ 12) = false := by rw [decide_eq_false_iff_not]; omega
          simp only [c91l0, vms, vmc, AOpd.val, Nat.reduceEqDiff, reduceCtorEq, Nat.reduceAdd, Nat.reduceBEq, h0, h3, d1, d2, d3]
          simp [h1, h2, hz]
  · simp only [vms, vmc, AOpd.val, Nat.reduceEqDiff, reduceCtorEq, Nat.reduceAdd, Nat.reduceBEq]
    exact ⟨trivial, rfl, fun j hj => by omega⟩
theorem take_last {key : List UInt8} : key.take (key.length - 1) = key.dropLast := by rw [List.dropLast_eq_take]
theorem term_ref (k : Fits T) {key : List UInt8} (hk : key.length < 9223372036854775807) : Gives T 74 [.str key] h fun r h' => r = (match ofT key with | some s => .tuple [.str s, .bool true] | none => .tuple [.str [], .bool false]) ∧ h' = h := by
  refine gives_func (k.env _ (by decide)) (k.at (fn := a74) rfl) rfl ?_
  by_cases h2 : key.length < 2
  · have d1 : decide ((key.length : Int) < 2) = true := by rw [decide_eq_true_eq]; omega
    have hn : ofT key = none := by
      unfold ofT cutP
      split
      · have : key.dropLast = [] := by rw [← List.length_eq_zero_iff, List.length_dropLast]; omega
        simp [this, rightT]
      · rfl
    simp only [a74, c74, vms, vmc, AOpd.val, Nat.reduceEqDiff, reduceCtorEq, Nat.reduceAdd, Nat.reduceBEq, d1, hn]
    simp
  · have d1 : decide ((key.length : Int) < 2) = false := by rw [decide_eq_false_iff_not]; omega
    have w1 : IntKind.i64.wrap ((key.length : Int) - 1) = ((key.length - 1 : Nat) : Int) := by rw [wrap_i64 (by omega) (by omega)]; omega
    obtain ⟨c, hc⟩ : ∃ c, key[key.length - 1]? = some c := ⟨_, List.getElem?_eq_getElem (by omega)⟩
    have hlast : key.getLast? = some c := by rw [List.getLast?_eq_getElem?]; exact hc
    by_cases hz : c = 0
    · subst hz
      have hcut : ofT key = if rightT key.dropLast then some key.dropLast else none := by
        unfold ofT cutP; rw [if_pos hlast]; rfl
      have b1 : ((((0 : UInt8).toNat : Nat) : Int) != 0) = false := rfl
      simp only [a74, c74, vms, vmc, AOpd.val, Nat.reduceEqDiff, reduceCtorEq, Nat.reduceAdd, Nat.reduceBEq, d1, w1, idxStr_nat hc, b1, slcStr_to (s := key) (n := key.length - 1) (by omega), take_last]
      refine Gives.bind ((rightTerm_ref k (s := key.dropLast) (by simp; omega)).mono ?_)
      rintro _ _ ⟨rfl, rfl⟩
      rw [hcut]
      cases hr : rightT key.dropLast with
      | true =>
        simp only [vms, vmc, AOpd.val, Nat.reduceEqDiff, reduceCtorEq, Nat.reduceAdd, Nat.reduceBEq, Bool.not_true, w1, slcStr_to (s := key) (n := key.length - 1) (by omega), take_last]
        simp
      | false =>
        simp only [vms, vmc, AOpd.val, Nat.reduceEqDiff, reduceCtorEq, Nat.reduceAdd, Nat.reduceBEq, Bool.not_false]
        simp
    · have hn : ofT key = none := by unfold ofT cutP; rw [hlast, if_neg (by simpa using hz)]; rfl
      have b1 : (((c.toNat : Nat) : Int) != 0) = true := by
        rw [bne_iff_ne]; intro e
        exact hz (UInt8.toNat_inj.1 (by simpa using e))
      simp only [a74, c74, vms, vmc, AOpd.val, Nat.reduceEqDiff, reduceCtorEq, Nat.reduceAdd, Nat.reduceBEq, d1, w1, idxStr_nat hc, b1, hn]
      simp
theorem rightLeaf_ref (k : Fits T) (hl : Low h) {l : LeafP} (hk : l.key.length < 9223372036854775807) : Gives T 47 [.agg l.cells] h fun r h' => r = .bool (rightL l) ∧ Quiet h h' ∧ Low h' := by
  refine gives_func (k.env _ (by decide)) (k.at (fn := a47) rfl) rfl ?_
  have fa : ∀ o j, fieldAddrV j (.ptr o 0) = some (.ptr o (0 + j)) := fun o j => rfl
  have q1 : Quiet h (h.new (.cells l.cells true)) := (Quiet.refl _).new _
  have lo1 : Low (h.new (.cells l.cells true)) := hl.new _
  have g1 : (h.new (.cells l.cells true)).get h.next = some (.cells l.cells true) := get_new_same
  simp only [a47, c47, vms, vmc, AOpd.val, Nat.reduceEqDiff, reduceCtorEq, Nat.reduceAdd, Nat.reduceBEq, box_agg]
  generalize (h.new (.cells l.cells true)) = h1 at *
  have l0 := load_at g1 (i := 0) (v := .str l.key) rfl
  have l1 := load_at g1 (i := 1) (v := .int .i64 l.val) rfl
  simp only [vms, vmc, AOpd.val, Nat.reduceEqDiff, reduceCtorEq, Nat.reduceAdd, Nat.reduceBEq, fa, Nat.zero_add, l0]
  refine Gives.bind ((term_ref k hk).mono ?_)
  rintro _ _ ⟨rfl, rfl⟩
  rename_i h1
  unfold rightL
  cases ofT l.key with
  | none => simp only [vms, vmc, AOpd.val, Nat.reduceEqDiff, reduceCtorEq, Nat.reduceAdd, Nat.reduceBEq]; exact ⟨rfl, q1, lo1⟩
  | some s =>
    by_cases h2 : 0 ≤ l.val
    · have d2 : decide (l.val ≥ 0) = true := by rw [decide_eq_true_eq]; exact h2
      simp only [vms, vmc, AOpd.val, Nat.reduceEqDiff, reduceCtorEq, Nat.reduceAdd, Nat.reduceBEq, fa, Nat.zero_add, l1, d2]
      refine ⟨?_, q1, lo1⟩
      simp [h2]
    · have d2 : decide (l.val ≥ 0) = false := by rw [decide_eq_false_iff_not]; omega
      simp only [vms, vmc, AOpd.val, Nat.reduceEqDiff, reduceCtorEq, Nat.reduceAdd, Nat.reduceBEq, fa, Nat.zero_add, l1, d2]
      refine ⟨?_, q1, lo1⟩
      simp [h2]
end Go.Proofs.Ytpabmkicdcilpaa

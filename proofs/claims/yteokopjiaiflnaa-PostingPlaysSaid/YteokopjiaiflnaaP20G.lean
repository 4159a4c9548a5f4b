/- slices.Delete of one element. -/
import Derived.Test.YteokopjiaiflnaaP20F
namespace Go.Proofs.Yteokopjiaiflnaa
open Go.Vm
set_option linter.unusedSimpArgs false
set_option linter.unusedVariables false
set_option maxRecDepth 100000
variable {T : Vm.Prog} {h : AH}
def clearV (sz : Nat) (zero : List AV) (h : AH) : AV → Option AH
  | .nilSlice => some h
  | .slice o off z len _ _ => if z = sz then (if len = 0 ∨ zero = [] then some h else h.store o off (rep zero len)) else none
  | _ => none
theorem step_clear {call : Handler} {f : Fr} {sz : Nat} {zero : List AV} {x : AOpd} : stepV call (.clear sz zero x) f h = (clearV sz zero h (x.val f)).map fun h' => (.none, h') := by
  refine stepV_val ?_
  simp only [AOp.eval, clearV]
  generalize x.val f = v
  cases v with
  | slice o off z len cap ex =>
    simp only
    split
    · split
      · rfl
      · cases h.store o off (rep zero len) <;> rfl
    · rfl
  | _ => rfl
theorem app_in {o cap i : Nat} {ex : Bool} {l ys : List AV} {w : AV} (hg : h.get o = some (.cells l true)) (hl : l.length = cap) (sw : Sees h w ys) (hfit : i + ys.length ≤ cap) (hf : ∀ y ∈ ys, AV.flat y = true) :
    ∃ h' l', appV 1 8 h (.slice o 0 1 i cap ex) w = some (.slice o 0 1 (i + ys.length) cap ex, h') ∧ h'.next = h.next ∧ (∀ q, q ≠ o → h'.get q = h.get q) ∧ h'.get o = some (.cells l' true) ∧ l'.length = cap ∧ (∀ j, j < i → l'[j]? = l[j]?) ∧ ∀ j y, ys[j]? = some y → l'[i + j]? = some y := by
  have hel := sees_elems sw
  have ln := sw.len
  by_cases h0 : ys.length = 0
  · have : ys = [] := List.eq_nil_of_length_eq_zero h0
    subst this
    refine ⟨h, l, ?_, rfl, fun _ _ => rfl, hg, hl, fun _ _ => rfl, fun j y hy => by simp at hy⟩
    simp only [appV, ln, Option.bind_some, hel, appendV, if_true]
    rw [if_pos hfit]
    simp
  · obtain ⟨z1, z2⟩ := setMany_get l ys i
    obtain ⟨z3, z4, z5⟩ := z2 (by omega)
    refine ⟨h.set o (.cells (setMany l i ys) true), setMany l i ys, ?_, rfl, fun q hq => by rw [AH.get_set, if_neg (Ne.symm hq)], get_set_same, by rw [z1]; exact hl, z3, z4⟩
    simp only [appV, ln, Option.bind_some, hel, appendV, if_true]
    rw [if_pos hfit, if_neg (by omega)]
    simp only [AH.store, hg, Nat.mul_one, Nat.zero_add]
    rw [if_pos ⟨by omega, by rw [List.all_eq_true]; exact hf⟩]
    rfl
theorem slc3 {o off len cap a b c : Nat} {ex : Bool} (h1 : a ≤ b) (h2 : b ≤ c) (h3 : c ≤ cap) : ∃ v, slcV 1 (.slice o off 1 len cap ex) (some (.int .i64 (a : Int))) (some (.int .i64 (b : Int))) (some (.int .i64 (c : Int))) = some v := by
  simp [slcV, bounds, boundM, boundH, boundL, natOf, Option.filter, h1, h2, h3]
theorem slc_mid {o len cap a b : Nat} {ex : Bool} (h1 : a < b) (h2 : b ≤ cap) : slcV 1 (.slice o 0 1 len cap ex) (some (.int .i64 (a : Int))) (some (.int .i64 (b : Int))) none = some (.slice o a 1 (b - a) (cap - a) ex) := by
  have : ¬ cap = a := by omega
  have h3 : a ≤ b := by omega
  simp [slcV, bounds, boundM, boundH, boundL, natOf, Option.filter, h3, h2, this]
theorem delete_ok (k : Base T) (hl : Low h) {v : AV} {b : List Int} (row : Row1 h v (izs b)) {i : Nat} (hi : i < b.length) (hs : b.length < 100000) :
    Gives T 35 [v, .int .i64 (i : Int), .int .i64 ((i + 1 : Nat) : Int)] h fun r h' => Row1 h' r (izs (b.take i ++ b.drop (i + 1))) ∧ (∀ o ∈ objs r, o ∈ objs v) ∧ Only h h' (objs v) ∧ Low h' := by
  refine gives_func (k.env 35 (by decide)) (k.at (n := 35) rfl) rfl ?_
  have st := sees_tail row.sees (row_cap row) (n := i + 1) (by simp [izs]; omega) (k := .i64)
  rcases row with ⟨rfl, e⟩ | ⟨o, cap, ex, l, rfl, hg, h1, h2, h3⟩
  · exfalso
    have : b = [] := by simpa [izs] using e
    subst this; simp at hi
  · have h3' := Row1.get h3
    have hlen : ((izs b).map fun x => [x]).length = b.length := by simp [izs]
    rw [hlen] at h2
    simp only [hlen, Nat.mul_one] at h1 st ⊢
    obtain ⟨vm, hm⟩ := slc3 (o := o) (off := 0) (len := b.length) (cap := cap) (a := i) (b := i + 1) (c := b.length) (ex := ex) (by omega) (by omega) h2
    have he : ((i : Int) == ((i + 1 : Nat) : Int)) = false := by simp; omega
    obtain ⟨w, sw1, sw2, sw3, sw4, sw5⟩ := st
    have ed : (izs b).drop (i + 1) = izs (b.drop (i + 1)) := by simp [izs, List.map_drop]
    rw [ed] at sw2
    have hto := slc_to0 (o := o) (len := b.length) (cap := cap) (n := i) (ex := ex) (by omega)
    have ln0 : lenOfV (.slice o 0 1 b.length cap ex) = some b.length := rfl
    have edl : (izs (b.drop (i + 1))).length = b.length - (i + 1) := by simp [izs]
    obtain ⟨h4, l4, ha, hn4, ho4, hg4, hl4, hlo, hhi⟩ := app_in (i := i) (ex := ex) hg h1 sw2 (by rw [edl]; omega) izs_flat'
    rw [edl] at ha
    have e1 : i + (b.length - (i + 1)) = b.length - 1 := by omega
    rw [e1] at ha
    have ln4 : lenOfV (.slice o 0 1 (b.length - 1) cap ex) = some (b.length - 1) := rfl
    have hmid := slc_mid (o := o) (len := b.length - 1) (cap := cap) (a := b.length - 1) (b := b.length) (ex := ex) (by omega) h2
    have e2 : b.length - (b.length - 1) = 1 := by omega
    rw [e2] at hmid
    have hcl : clearV 1 [.int .i64 0] h4 (.slice o (b.length - 1) 1 1 (cap - (b.length - 1)) ex) = some (h4.set o (.cells (l4.set (b.length - 1) (.int .i64 0)) true)) := by
      simp only [clearV, if_true]
      rw [if_neg (by simp)]
      simp only [rep, List.append_nil, AH.store, hg4]
      rw [if_pos ⟨by simp; omega, by decide⟩]
      rfl
    simp only [a35, c35, vms, vmc, AOpd.val, Nat.reduceEqDiff, reduceCtorEq, Nat.reduceAdd, Nat.reduceBEq, ln0, hm, he, hto, sw1, ha, ln4, hmid, step_clear, hcl]
    refine ⟨row1_of get_set_same (by simp; exact hl4) (by simp [izs]; omega) (by simp [izs]; omega) fun j x hx => ?_, fun p hp => by simpa [objs] using hp, ?_, ?_⟩
    · have hjl : j < b.length - 1 := by
        have := (List.getElem?_eq_some_iff.1 hx).1
        simp [izs] at this; omega
      rw [List.getElem?_set_ne (by omega)]
      simp only [izs, List.map_append, List.getElem?_append, List.length_map, List.length_take] at hx
      by_cases hji : j < i
      · rw [if_pos (by omega), List.map_take, List.getElem?_take, if_pos hji] at hx
        rw [hlo j hji]
        exact h3' j x hx
      · rw [if_neg (by omega)] at hx
        have hx' : (izs (b.drop (i + 1)))[j - i]? = some x := by
          rw [show j - min i b.length = j - i by omega] at hx; exact hx
        have := hhi (j - i) x hx'
        rwa [show i + (j - i) = j by omega] at this
    · refine ⟨by rw [next_set, hn4]; exact Nat.le_refl _, fun q hq hF => ?_⟩
      have hqo : q ≠ o := by simpa [objs] using hF
      rw [AH.get_set, if_neg (Ne.symm hqo)]
      exact ho4 q hqo
    · have hol : o < h.next := hl _ _ hg
      have lo4 : Low h4 := fun q x hq => by
        by_cases e : q = o
        · subst e; rw [hn4]; exact hol
        · rw [ho4 q e] at hq; rw [hn4]; exact hl _ _ hq
      exact lo4.set (by rw [hn4]; exact hol) _
end Go.Proofs.Yteokopjiaiflnaa

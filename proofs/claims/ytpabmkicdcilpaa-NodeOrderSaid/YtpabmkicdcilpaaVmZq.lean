/- slices.Insert of one element, as laws use it. -/
import Derived.Test.YtpabmkicdcilpaaVmZp
namespace Go.Vm
open Go.RowKit
set_option linter.unusedSimpArgs false
set_option linter.unusedVariables false
set_option maxRecDepth 100000
variable {T : Vm.Prog} {h : AH}
/-- A row of elements of one cell each. -/
def Row1 (h : AH) (v : AV) (xs : List AV) : Prop := RowS h 1 v (xs.map fun x => [x])
theorem Row1.get {l xs : List AV} (h3 : ∀ (i : Nat) (x : List AV), (xs.map fun x => [x])[i]? = some x → x.length = 1 ∧ ∀ (j : Nat) (y : AV), x[j]? = some y → l[i * 1 + j]? = some y) : ∀ (i : Nat) (x : AV), xs[i]? = some x → l[i]? = some x := fun i x hx => by
  have := (h3 i [x] (by rw [List.getElem?_map, hx]; rfl)).2 0 x rfl
  simpa using this
theorem row1_of {o cap n : Nat} {ex : Bool} {l : List AV} {xs : List AV} (hg : h.get o = some (.cells l true)) (h1 : l.length = cap) (hn : n = xs.length) (h2 : xs.length ≤ cap) (h3 : ∀ (i : Nat) (x : AV), xs[i]? = some x → l[i]? = some x) : Row1 h (.slice o 0 1 n cap ex) xs := by
  subst hn
  refine .inr ⟨o, cap, ex, l, by simp, hg, by simpa using h1, by simpa using h2, fun i x hx => ?_⟩
  rw [List.getElem?_map] at hx
  cases hy : xs[i]? with
  | none => simp [hy] at hx
  | some y =>
    simp [hy] at hx
    subst hx
    refine ⟨rfl, fun j z hz => ?_⟩
    cases j with
    | zero => simp at hz; subst hz; simpa using h3 i y hy
    | succ j => simp at hz
theorem Row1.seg {l xs : List AV} (h2 : xs.length ≤ l.length) (h3 : ∀ (i : Nat) (x : AV), xs[i]? = some x → l[i]? = some x) : (l.drop 0).take xs.length = xs := by
  rw [List.drop_zero]
  apply List.ext_getElem?
  intro i
  rw [List.getElem?_take]
  by_cases hi : i < xs.length
  · rw [if_pos hi, List.getElem?_eq_getElem hi]; exact h3 i _ (List.getElem?_eq_getElem hi)
  · rw [if_neg hi, List.getElem?_eq_none (by omega)]
theorem insert_ok {func : Nat → Option AFunc} {g gv gr bytes v1 v2 : Nat} {z : AV} (heT : T.env g = some (insRun func v1 v2 g)) (he : (withOvl func v1 v2).env g = none) (hfn : func g = some (aInsert bytes z gv gr)) (hov : (withOvl func v1 v2).env gv = some ovl) (hb : bytes ≤ 8) (hb0 : 0 < bytes)
    (hl : Low h) {v : AV} {xs : List AV} (row : Row1 h v xs) (hf : ∀ x ∈ xs, AV.flat x = true) {i : Nat} (hi : i ≤ xs.length) (hs : xs.length < 100000) {vo : Nat} {y : AV} (hvo : h.get vo = some (.cells [y] true)) (hy : y.flat = true) (hne : vo ∉ objs v) :
    Gives T g [v, .int .i64 (i : Int), .slice vo 0 1 1 1 true] h fun r h' => Row1 h' r (xs.take i ++ [y] ++ xs.drop i) ∧ (∀ o ∈ objs r, o ∈ objs v ∨ h.next ≤ o) ∧ (∀ o ∈ objs r, o < h'.next) ∧ Only h h' (objs v) ∧ Low h' := by
  have hvol : vo < h.next := hl _ _ hvo
  -- what its own text does
  have base : ∀ {Q : AV → AH → Prop}, (∀ o len cap, v = .slice o 0 1 len cap false → insCells h o 0 len i vo 0 1 = none) → Gives (withOvl func v1 v2) g [v, .int .i64 (i : Int), .slice vo 0 1 1 1 true] h Q → Gives T g [v, .int .i64 (i : Int), .slice vo 0 1 1 1 true] h Q := by
    rintro Q hnone ⟨r, h', hr, hq⟩
    refine ⟨r, h', ?_, hq⟩
    rw [run_env heT]
    unfold insRun insV
    split
    · rename_i o off len cap i' vo' voff m vcap vex heq
      simp only [List.cons.injEq, AV.slice.injEq, AV.int.injEq, and_true, true_and] at heq
      obtain ⟨rfl, e2, e3⟩ := heq
      have hi' : i' = i := (Int.ofNat.inj e2).symm
      subst hi'
      obtain ⟨rfl, rfl, rfl, _⟩ := e3
      have hoff : off = 0 := by
        rcases row with ⟨e, _⟩ | ⟨_, _, _, _, e, _⟩ <;> cases e; rfl
      subst hoff
      rw [hnone _ _ _ rfl]
      exact hr
    · exact hr
  by_cases hend : i = xs.length
  · subst hend
    refine base (fun o len cap e => ?_) ?_
    · have : len = xs.length := by
        subst e
        rcases row with ⟨e, _⟩ | ⟨_, _, _, _, e, _⟩ <;> cases e; simp
      unfold insCells
      split
      · rw [if_neg]; rintro ⟨⟨h1, _⟩, _⟩; omega
      · rfl
    · refine gives_func he hfn rfl ?_
      obtain ⟨v', hsl, _⟩ := RowS.tail row (n := xs.length) (by simp) (k := .i64)
      have ln : lenOfV v = some xs.length := by have := RowS.len row; simpa using this
      have e1 : ((1 : Int) == 0) = false := rfl
      have ln1 : lenOfV (.slice vo 0 1 1 1 true) = some 1 := rfl
      obtain ⟨r, h', happ, hr, ho, hlt, honly, hlow⟩ := RowS.append (bytes := bytes) hl row (by decide) (by omega) hb0 (by simp; omega) hvo rfl (by simp [hy])
      simp only [aInsert, cInsert, vms, vmc, AOpd.val, Nat.reduceEqDiff, reduceCtorEq, Nat.reduceAdd, Nat.reduceBEq, hsl, ln, ln1, show (((1 : Nat) : Int) == 0) = false from rfl, happ]
      rw [List.drop_length, List.take_length, List.append_nil]
      refine ⟨?_, ho, hlt, honly, hlow⟩
      simpa [Row1] using hr
  · have hlt : i < xs.length := by omega
    rcases row with ⟨rfl, e⟩ | ⟨o, cap, ex, l, rfl, hg, h1, h2, h3⟩
    · exfalso
      have : xs = [] := by simpa using e
      subst this; simp at hlt
    · simp only [List.length_map, Nat.mul_one] at h1 h2
      have h3' := Row1.get h3
      have hseg := Row1.seg (by omega) h3'
      have hne' : vo ≠ o := fun e => hne (by simp [objs, e])
      have hol : o < h.next := hl _ _ hg
      have hvseg : (([y] : List AV).drop 0).take 1 = [y] := rfl
      simp only [List.length_map] at base ⊢
      have hput : putIn xs [y] i = xs.take i ++ [y] ++ xs.drop i := rfl
      have hpl : (xs.take i ++ [y] ++ xs.drop i).length = xs.length + 1 := by simp; omega
      have hfin : ∀ {h' : AH} {ex' : Bool}, h'.get h.next = some (.cells (xs.take i ++ [y] ++ xs.drop i) true) → Row1 h' (.slice h.next 0 1 (xs.length + 1) (xs.length + 1) ex') (xs.take i ++ [y] ++ xs.drop i) := fun hg' => row1_of hg' hpl hpl.symm (by rw [hpl]; exact Nat.le_refl _) (fun _ _ h => h)
      cases ex with
      | false =>
        have hc : insCells h o 0 xs.length i vo 0 1 = some (xs.take i ++ [y] ++ xs.drop i) := by
          unfold insCells
          rw [hg, hvo]
          simp only
          rw [if_pos, hseg, hvseg]
          · rfl
          · refine ⟨⟨hlt, by omega, hne', by omega, by simp, by omega⟩, ?_, ?_⟩
            · rw [hseg, List.all_eq_true]; exact hf
            · rw [hvseg]; simp [hy]
        refine ⟨.slice h.next 0 1 (xs.length + 1) (xs.length + 1) false, (h.set o .dead).new (.cells (xs.take i ++ [y] ++ xs.drop i) true), ?_, ?_⟩
        · rw [run_env heT]
          unfold insRun insV
          simp only [show (Nat.cast i : Int) = Int.ofNat i from rfl, hc]
        · refine ⟨hfin ?_, fun p hp => ?_, fun p hp => ?_, ?_, ?_⟩
          · have := get_new_same (h := h.set o .dead) (x := .cells (xs.take i ++ [y] ++ xs.drop i) true)
            rwa [next_set] at this
          · simp [objs] at hp; right; omega
          · simp [objs] at hp; simp [next_new, next_set]; omega
          · exact ((Only.refl h _).set (.inl (by simp [objs])) _).new _
          · exact (hl.set hol _).new _
      | true =>
        refine base (fun _ _ _ e => by cases e) ?_
        refine (insert_walk (T := withOvl func v1 v2) (bytes := bytes) (vex := true) (vcap := 1) (voff := 0) (m := 1) (off := 0) (C := cap) (i := i) he hfn hov hol hvol hg hvo hne' hlt (by omega) (by omega) (by omega) (by simp) (by omega) hb (by rw [hseg]; exact hf) (by rw [hvseg]; simp [hy])).mono ?_
        rintro r h' hcase
        rw [hseg, hvseg, hput] at hcase
        rcases hcase with ⟨hfit, rfl, hn, ⟨l', hg', hll, hl'⟩, hoth⟩ | ⟨hgr, rfl, hn, hg', hoth⟩
        · refine ⟨row1_of hg' (by omega) hpl.symm (by omega) (fun j x hx => by have := hl' j x hx; simpa using this), fun p hp => .inl (by simpa [objs] using hp), fun p hp => by simp [objs] at hp; omega, ⟨by omega, fun q hq hqF => hoth q (by simpa [objs] using hqF)⟩, fun q x hq => ?_⟩
          by_cases e : q = o
          · omega
          · rw [hoth q e] at hq; have := hl _ _ hq; omega
        · refine ⟨hfin hg', fun p hp => by simp [objs] at hp; right; omega, fun p hp => by simp [objs] at hp; omega, ⟨by omega, fun q hq hqF => hoth q (by omega)⟩, fun q x hq => ?_⟩
          by_cases e : q = h.next
          · omega
          · rw [hoth q e] at hq; have := hl _ _ hq; omega
end Go.Vm

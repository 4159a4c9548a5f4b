/- slices.Concat of any rows. -/
import Derived.Test.YteokopjiaiflnaaP20P
namespace Go.Proofs.Yteokopjiaiflnaa
open Go.Vm
set_option linter.unusedSimpArgs false
set_option linter.unusedVariables false
set_option maxRecDepth 100000
variable {T : Vm.Prog} {h : AH}
theorem take_snoc {α : Type} {l : List α} {i : Nat} {x : α} (hx : l[i]? = some x) : l.take (i + 1) = l.take i ++ [x] := by
  rw [List.take_add_one, hx]; rfl
theorem flat_take_le {α : Type} {l : List (List α)} (i : Nat) : (l.take i).flatten.length ≤ l.flatten.length := by
  have : l.flatten = (l.take i).flatten ++ (l.drop i).flatten := by rw [← List.flatten_append, List.take_append_drop]
  rw [this]; simp
theorem concatN_ok {g gg bytes : Nat} {z : AV} (he : T.env g = none) (hf : T.func g = some (aConcat bytes gg)) (he2 : T.env gg = none) (hf2 : T.func gg = some (aGrow bytes z)) (hb : bytes ≤ 24) (hl : Low h) {v : AV} {vs : List AV} {xss : List (List AV)}
    (sv : Sees h v vs) (hlen : vs.length = xss.length) (hs : ∀ (i : Nat) x xs, vs[i]? = some x → xss[i]? = some xs → Sees h x xs) (hfl : ∀ xs ∈ xss, ∀ y ∈ xs, AV.flat y = true) (hn : xss.flatten.length < 400000) (hk : vs.length < 400000) :
    Gives T g [v] h fun r h' => Row1 h' r xss.flatten ∧ (∀ o ∈ objs r, h.next ≤ o) ∧ Quiet h h' ∧ Low h' := by
  refine gives_func he hf rfl ?_
  have ln := sv.len
  simp only [aConcat, cConcat, vms, vmc, AOpd.val, Nat.reduceEqDiff, reduceCtorEq, Nat.reduceAdd, Nat.reduceBEq, ln]
  refine wpc_loop (fun m f h' => ∃ i, m = vs.length - i ∧ i ≤ vs.length ∧ h' = h ∧ f.at 0 = v ∧ f.at 3 = .int .i64 ((xss.take i).flatten.length : Int) ∧ f.at 9 = v ∧ f.at 10 = .int .i64 (vs.length : Int) ∧ f.at 11 = .int .i64 (i : Int)) ?_ vs.length _ _ ⟨0, by omega, by omega, rfl, ?_⟩
  · rintro m f h' ⟨i, rfl, hi, rfl, f0, f3, f9, f10, f11⟩
    by_cases hlt : i < vs.length
    · have d1 : decide ((i : Int) < (vs.length : Int)) = true := by rw [decide_eq_true_eq]; omega
      obtain ⟨x, hx⟩ : ∃ x, vs[i]? = some x := ⟨_, List.getElem?_eq_getElem hlt⟩
      obtain ⟨xs, hxs⟩ : ∃ xs, xss[i]? = some xs := ⟨_, List.getElem?_eq_getElem (hlen ▸ hlt)⟩
      obtain ⟨p, hp1, hp2⟩ := sv.at hx .i64
      have lx := (hs i x xs hx hxs).len
      have e1 : (xss.take (i + 1)).flatten.length = (xss.take i).flatten.length + xs.length := by rw [take_snoc hxs, List.flatten_append, List.length_append]; simp
      have e2 := flat_take_le (l := xss) (i + 1)
      have w1 : IntKind.i64.wrap ((((xss.take i).flatten.length : Nat) : Int) + (xs.length : Int)) = (((xss.take (i + 1)).flatten.length : Nat) : Int) := by rw [wrap_i64 (by omega) (by omega)]; omega
      have d2 : decide ((((xss.take (i + 1)).flatten.length : Nat) : Int) < 0) = false := by rw [decide_eq_false_iff_not]; omega
      have w2 : IntKind.i64.wrap ((i : Int) + 1) = ((i + 1 : Nat) : Int) := by rw [wrap_i64 (by omega) (by omega)]; omega
      simp only [cConcatl0, vms, vmc, AOpd.val, Nat.reduceEqDiff, reduceCtorEq, Nat.reduceAdd, Nat.reduceBEq, f0, f3, f9, f10, f11, d1, hp1, hp2, lx, w1, d2, w2]
      exact ⟨vs.length - (i + 1), by omega, i + 1, rfl, by omega, by trivial, by trivial, by trivial, by trivial, by trivial, by trivial⟩
    · have d1 : decide ((i : Int) < (vs.length : Int)) = false := by rw [decide_eq_false_iff_not]; omega
      have hi' : i = vs.length := by omega
      subst hi'
      have e0 : xss.take vs.length = xss := by rw [hlen, List.take_length]
      rw [e0] at f3
      simp only [cConcatl0, vms, vmc, AOpd.val, Nat.reduceEqDiff, reduceCtorEq, Nat.reduceAdd, Nat.reduceBEq, f0, f3, f9, f10, f11, d1]
      refine Gives.bind ((grow_nil_ok he2 hf2 hb (by omega)).mono ?_)
      have fin : ∀ {h1 : AH} {v1 : AV} {f : Fr}, Cat h1 v1 [] xss.flatten.length → (∀ o ∈ objs v1, h'.next ≤ o) → Quiet h' h1 → Low h1 → f.at 6 = v1 → f.at 25 = v → f.at 26 = .int .i64 (vs.length : Int) → f.at 27 = .int .i64 0 →
          Wp (code T (.loop (cConcatl1 bytes)) f h1) (InBlock 2 (ThenC T (.seq (.ops [⟨(some 35), .mov (.tmp 6), none⟩, ⟨(some 2), .mov (.tmp 35), none⟩]) .ret) (Vm.Ends [.tmp 2] fun r h'' => Row1 h'' r xss.flatten ∧ (∀ o ∈ objs r, h'.next ≤ o) ∧ Quiet h' h'' ∧ Low h''))) := by
        intro h1 v1 f c0 hfr q1 lo1 f6 f25 f26 f27
        refine wpc_loop (fun m f h2 => ∃ i v2, m = vs.length - i ∧ i ≤ vs.length ∧ Cat h2 v2 (xss.take i).flatten xss.flatten.length ∧ (∀ o ∈ objs v2, h'.next ≤ o) ∧ Quiet h' h2 ∧ Low h2 ∧ f.at 6 = v2 ∧ f.at 25 = v ∧ f.at 26 = .int .i64 (vs.length : Int) ∧ f.at 27 = .int .i64 (i : Int)) ?_ vs.length _ _ ⟨0, v1, by omega, by omega, by simpa using c0, hfr, q1, lo1, f6, f25, f26, by simpa using f27⟩
        rintro m f h2 ⟨i, v2, rfl, hi, c, hfr, q, lo, f6, f25, f26, f27⟩
        by_cases hlt : i < vs.length
        · have d1 : decide ((i : Int) < (vs.length : Int)) = true := by rw [decide_eq_true_eq]; omega
          obtain ⟨x, hx⟩ : ∃ x, vs[i]? = some x := ⟨_, List.getElem?_eq_getElem hlt⟩
          obtain ⟨xs, hxs⟩ : ∃ xs, xss[i]? = some xs := ⟨_, List.getElem?_eq_getElem (hlen ▸ hlt)⟩
          obtain ⟨p, hp1, hp2⟩ := (sees_keep sv hl q).at hx .i64
          have sx := sees_keep (hs i x xs hx hxs) hl q
          have e1 : (xss.take (i + 1)).flatten = (xss.take i).flatten ++ xs := by rw [take_snoc hxs, List.flatten_append]; simp
          have e2 := flat_take_le (l := xss) (i + 1)
          obtain ⟨v3, h3, ha, hc, ho, hnx, hoth⟩ := c.append (bytes := bytes) sx (by rw [e1, List.length_append] at e2; exact e2) (hfl xs (List.mem_of_getElem? hxs))
          have w2 : IntKind.i64.wrap ((i : Int) + 1) = ((i + 1 : Nat) : Int) := by rw [wrap_i64 (by omega) (by omega)]; omega
          simp only [cConcatl1, vms, vmc, AOpd.val, Nat.reduceEqDiff, reduceCtorEq, Nat.reduceAdd, Nat.reduceBEq, f6, f25, f26, f27, d1, hp1, hp2, ha, w2]
          refine ⟨vs.length - (i + 1), by omega, i + 1, v3, rfl, by omega, by rw [e1]; exact hc, by rw [ho]; exact hfr, ⟨by rw [hnx]; exact q.1, fun p hp hF => ?_⟩, fun p y hp => ?_, by trivial, by trivial, by trivial, by trivial⟩
          · rw [hoth p (fun hm => by have := hfr p hm; omega)]
            exact q.2 p hp hF
          · by_cases hm : p ∈ objs v2
            · have := RowS.low c.row lo p hm
              omega
            · rw [hoth p hm] at hp
              have := lo _ _ hp
              omega
        · have d1 : decide ((i : Int) < (vs.length : Int)) = false := by rw [decide_eq_false_iff_not]; omega
          have hi' : i = vs.length := by omega
          subst hi'
          rw [e0] at c
          simp only [cConcatl1, vms, vmc, AOpd.val, Nat.reduceEqDiff, reduceCtorEq, Nat.reduceAdd, Nat.reduceBEq, f6, f25, f26, f27, d1]
          exact ⟨c.row, hfr, q, lo⟩
      rintro r h1 (⟨h0, rfl, rfl⟩ | ⟨h0, rfl, rfl⟩)
      · simp only [vms, vmc, AOpd.val, Nat.reduceEqDiff, reduceCtorEq, Nat.reduceAdd, Nat.reduceBEq, f0, ln]
        refine fin (.inl ⟨rfl, rfl, h0⟩) (fun o ho => by simp [objs] at ho) (Quiet.refl _) hl ?_ ?_ ?_ ?_ <;> simp only [vms, vmc, AOpd.val, Nat.reduceEqDiff, reduceCtorEq, Nat.reduceAdd, Nat.reduceBEq, f0]
      · simp only [vms, vmc, AOpd.val, Nat.reduceEqDiff, reduceCtorEq, Nat.reduceAdd, Nat.reduceBEq, f0, ln]
        refine fin (v1 := .slice h'.next 0 1 0 xss.flatten.length false) (.inr ⟨h'.next, _, rfl, get_new_same, rep_len1, by simp, fun i x hx => by simp at hx⟩) (fun o ho => by simp [objs] at ho; omega) ((Quiet.refl _).new _) (hl.new _) ?_ ?_ ?_ ?_ <;> simp only [vms, vmc, AOpd.val, Nat.reduceEqDiff, reduceCtorEq, Nat.reduceAdd, Nat.reduceBEq, f0]
  · simp only [vms, vmc, AOpd.val, Nat.reduceEqDiff, reduceCtorEq, Nat.reduceAdd, Nat.reduceBEq]
    simp
end Go.Proofs.Yteokopjiaiflnaa

/- Functions of the standard library and of the statements, whatever their element's type. -/
import Derived.Test.YtpabmkicdcilpaaVmZq
namespace Go.Vm
open Go.RowKit
set_option linter.unusedSimpArgs false
set_option linter.unusedVariables false
set_option maxRecDepth 100000
variable {T : Vm.Prog} {h : AH}
theorem Row1.sees {v : AV} {xs : List AV} (r : Row1 h v xs) : Sees h v xs := SeesS.one (RowS.sees r) rfl
theorem Sees.asS {v : AV} {xs : List AV} (s : Sees h v xs) : SeesS h 1 v (xs.map fun x => [x]) := by
  rcases s with ⟨rfl, rfl⟩ | ⟨o, off, cap, ex, l, rw, rfl, hg, h1, h2⟩
  · exact .inl ⟨rfl, rfl⟩
  · refine .inr ⟨o, off, cap, ex, l, rw, by simp, hg, by simpa using h1, fun i x hx => ?_⟩
    rw [List.getElem?_map] at hx
    cases hy : xs[i]? with
    | none => simp [hy] at hx
    | some y =>
      simp [hy] at hx
      subst hx
      refine ⟨rfl, fun j z hz => ?_⟩
      cases j with
      | zero => simp at hz; subst hz; simpa using h2 i y hy
      | succ j => simp at hz
theorem clone1_ok {g bytes : Nat} (he : T.env g = none) (hf : T.func g = some (aClone 1 bytes)) (hl : Low h) {v : AV} {xs : List AV} (s : Sees h v xs) (hb : bytes ≤ 1048576) (hs : xs.length < 1000000) :
    Gives T g [v] h fun r h' => Row1 h' r xs ∧ (∀ o ∈ objs r, h.next ≤ o) ∧ Quiet h h' ∧ Low h' :=
  cloneS_ok he hf hl s.asS (by decide) hb (by simpa using hs)
def cSamel0 : ACode := (.seq (.seq (.ops [⟨(some 11), .mov (.tmp 5), none⟩,
    ⟨(some 12), .mov (.tmp 0), none⟩,
    ⟨(some 13), .lenSlice (.tmp 12), none⟩,
    ⟨(some 14), .bin .lss (.tmp 11) (.tmp 13), none⟩])
  (.cond (.tmp 14)
  .skip
  (.exit 0)))
  (.seq (.block 1 (.seq (.ops [⟨(some 17), .mov (.tmp 0), none⟩,
    ⟨(some 18), .mov (.tmp 5), none⟩,
    ⟨(some 19), .idxAddr 1 (.tmp 17) (.tmp 18), none⟩,
    ⟨(some 20), .load false 1 (.tmp 19), none⟩,
    ⟨(some 21), .mov (.tmp 1), none⟩,
    ⟨(some 22), .mov (.tmp 5), none⟩,
    ⟨(some 23), .idxAddr 1 (.tmp 21) (.tmp 22), none⟩,
    ⟨(some 24), .load false 1 (.tmp 23), none⟩,
    ⟨(some 25), .bin .neq (.tmp 20) (.tmp 24), none⟩])
  (.cond (.tmp 25)
  (.seq (.ops [⟨(some 4), .mov (.con (.bool false)), none⟩])
  .ret)
  .skip)))
  (.ops [⟨(some 15), .mov (.tmp 5), none⟩,
    ⟨(some 16), .bin .add (.tmp 15) (.con (.int .i64 1)), none⟩,
    ⟨(some 5), .mov (.tmp 16), none⟩])))
def cSame : ACode := (.seq (.ops [⟨(some 4), .mov (.con (.bool false)), none⟩])
  (.seq (.seq (.ops [⟨(some 6), .mov (.tmp 0), none⟩,
    ⟨(some 7), .lenSlice (.tmp 6), none⟩,
    ⟨(some 8), .mov (.tmp 1), none⟩,
    ⟨(some 9), .lenSlice (.tmp 8), none⟩,
    ⟨(some 10), .bin .neq (.tmp 7) (.tmp 9), none⟩])
  (.cond (.tmp 10)
  (.seq (.ops [⟨(some 4), .mov (.con (.bool false)), none⟩])
  .ret)
  .skip))
  (.seq (.seq (.ops [⟨(some 5), .mov (.con (.int .i64 0)), none⟩])
  (.block 0 (.loop cSamel0)))
  (.seq (.ops [⟨(some 4), .mov (.con (.bool true)), none⟩])
  .ret))))
def aSame : AFunc := ⟨2, cSame, [.tmp 4]⟩
/-- tendrilbook.Same of integers. -/
theorem sameG_ok {g : Nat} {k : IntKind} (he : T.env g = none) (hf : T.func g = some aSame) {va vb : AV} {xs ys : List Int} (hx : Sees h va (xs.map (.int k))) (hy : Sees h vb (ys.map (.int k))) (hl : xs.length < 9223372036854775807) (hl' : ys.length < 9223372036854775807) :
    Gives T g [va, vb] h fun r h' => r = .bool (decide (xs = ys)) ∧ h' = h := by
  refine gives_func he hf rfl ?_
  simp only [aSame, cSame, vms, vmc, AOpd.val, Nat.reduceEqDiff, reduceCtorEq, Nat.reduceAdd, Nat.reduceBEq, hx.len, hy.len]
  split
  · rename_i hne
    have : xs ≠ ys := fun e => by subst e; simp at hne
    simp [this]
  · rename_i hne
    have hlen : xs.length = ys.length := by
      have := hne; simp at this; omega
    refine wpc_loop (fun m f h' => ∃ i, m = xs.length - i ∧ i ≤ xs.length ∧ h' = h ∧ f.at 0 = va ∧ f.at 1 = vb ∧ f.at 5 = .int .i64 (i : Nat) ∧ ∀ j, j < i → xs[j]? = ys[j]?) ?_ xs.length _ _ ⟨0, by simp, by simp, rfl, ?_⟩
    · rintro m f h' ⟨i, rfl, hi, rfl, h0, h1, h5, hpre⟩
      simp only [cSamel0, vms, vmc, AOpd.val, Nat.reduceEqDiff, reduceCtorEq, Nat.reduceAdd, Nat.reduceBEq, h0, h1, h5, hx.len, hy.len]
      split
      · rename_i hlt
        have hlt : i < xs.length := by simpa using hlt
        obtain ⟨x, hxi⟩ : ∃ x, xs[i]? = some x := ⟨_, List.getElem?_eq_getElem hlt⟩
        obtain ⟨y, hyi⟩ : ∃ y, ys[i]? = some y := ⟨_, List.getElem?_eq_getElem (hlen ▸ hlt)⟩
        obtain ⟨p, hp1, hp2⟩ := hx.at (i := i) (x := .int k x) (by simp [hxi]) .i64
        obtain ⟨q, hq1, hq2⟩ := hy.at (i := i) (x := .int k y) (by simp [hyi]) .i64
        simp only [vms, vmc, AOpd.val, Nat.reduceEqDiff, reduceCtorEq, Nat.reduceAdd, Nat.reduceBEq, h0, h1, h5, hp1, hp2, hq1, hq2]
        split
        · rename_i hne
          have : xs ≠ ys := fun e => by subst e; rw [hxi] at hyi; cases hyi; simp at hne
          simp [this]
        · rename_i heq
          have heq : x = y := by simpa using heq
          subst heq
          refine ⟨xs.length - (i + 1), by omega, i + 1, rfl, by omega, trivial, ?_⟩
          have hw : IntKind.i64.wrap ((i : Int) + 1) = ((i + 1 : Nat) : Int) := by rw [wrap_i64 (by omega) (by omega)]; rfl
          simp only [vms, vmc, AOpd.val, Nat.reduceEqDiff, reduceCtorEq, Nat.reduceAdd, Nat.reduceBEq, h0, h1, h5, hw]
          refine ⟨trivial, trivial, trivial, fun j hj => ?_⟩
          by_cases e : j = i
          · subst e; rw [hxi, hyi]
          · exact hpre j (by omega)
      · rename_i hge
        have hge : ¬ i < xs.length := by simpa using hge
        have : xs = ys := by
          apply List.ext_getElem?
          intro j
          by_cases hj : j < i
          · exact hpre j hj
          · rw [List.getElem?_eq_none (by omega), List.getElem?_eq_none (by omega)]
        simp [this]
    · simp only [vms, vmc, AOpd.val, Nat.reduceEqDiff, reduceCtorEq, Nat.reduceAdd, Nat.reduceBEq]
      simp
def cGrow (bytes : Nat) (z : AV) : ACode := (.seq (.ops [⟨(some 4), .mov (.con .nilSlice), none⟩])
  (.seq (.seq (.ops [⟨(some 5), .mov (.tmp 1), none⟩,
    ⟨(some 6), .bin .lss (.tmp 5) (.con (.int .i64 0)), none⟩])
  (.cond (.tmp 6)
  (.ops [⟨(some 7), .mkIface 9 (.con (.str [99, 97, 110, 110, 111, 116, 32, 98, 101, 32, 110, 101, 103, 97, 116, 105, 118, 101])), none⟩,
    ⟨none, .stuck, none⟩])
  .skip))
  (.seq (.seq (.ops [⟨(some 8), .mov (.tmp 1), none⟩,
    ⟨(some 9), .mov (.tmp 0), none⟩,
    ⟨(some 10), .capSlice (.tmp 9), none⟩,
    ⟨(some 11), .mov (.tmp 0), none⟩,
    ⟨(some 12), .lenSlice (.tmp 11), none⟩,
    ⟨(some 13), .bin .sub (.tmp 10) (.tmp 12), none⟩,
    ⟨(some 14), .bin .sub (.tmp 8) (.tmp 13), none⟩,
    ⟨(some 1), .mov (.tmp 14), none⟩])
  (.seq (.ops [⟨(some 15), .mov (.tmp 1), none⟩,
    ⟨(some 16), .bin .gtr (.tmp 15) (.con (.int .i64 0)), none⟩])
  (.cond (.tmp 16)
  (.ops [⟨(some 17), .mov (.tmp 0), none⟩,
    ⟨(some 18), .mov (.tmp 0), none⟩,
    ⟨(some 19), .capSlice (.tmp 18), none⟩,
    ⟨(some 20), .slc 1 (.tmp 17) none (some (.tmp 19)) none, none⟩,
    ⟨(some 21), .mov (.tmp 1), none⟩,
    ⟨(some 22), .appendZ 1 bytes [z] (.tmp 20) (.tmp 21), none⟩,
    ⟨(some 23), .mov (.tmp 0), none⟩,
    ⟨(some 24), .lenSlice (.tmp 23), none⟩,
    ⟨(some 25), .slc 1 (.tmp 22) none (some (.tmp 24)) none, none⟩,
    ⟨(some 0), .mov (.tmp 25), none⟩])
  .skip)))
  (.seq (.ops [⟨(some 26), .mov (.tmp 0), none⟩,
    ⟨(some 4), .mov (.tmp 26), none⟩])
  .ret))))
def aGrow (bytes : Nat) (z : AV) : AFunc := ⟨2, cGrow bytes z, [.tmp 4]⟩
def cConcatl0 : ACode := (.seq (.ops [⟨(some 12), .bin .lss (.tmp 11) (.tmp 10), none⟩])
  (.seq (.cond (.tmp 12)
  .skip
  (.exit 0))
  (.seq (.block 1 (.seq (.ops [⟨(some 13), .idxAddr 1 (.tmp 9) (.tmp 11), none⟩,
    ⟨(some 14), .load false 1 (.tmp 13), none⟩,
    ⟨(some 5), .mov (.tmp 14), none⟩])
  (.seq (.ops [⟨(some 15), .mov (.tmp 3), none⟩,
    ⟨(some 16), .mov (.tmp 5), none⟩,
    ⟨(some 17), .lenSlice (.tmp 16), none⟩,
    ⟨(some 18), .bin .add (.tmp 15) (.tmp 17), none⟩,
    ⟨(some 3), .mov (.tmp 18), none⟩])
  (.seq (.ops [⟨(some 19), .mov (.tmp 3), none⟩,
    ⟨(some 20), .bin .lss (.tmp 19) (.con (.int .i64 0)), none⟩])
  (.cond (.tmp 20)
  (.ops [⟨(some 21), .mkIface 9 (.con (.str [108, 101, 110, 32, 111, 117, 116, 32, 111, 102, 32, 114, 97, 110, 103, 101])), none⟩,
    ⟨none, .stuck, none⟩])
  .skip)))))
  (.ops [⟨(some 22), .bin .add (.tmp 11) (.con (.int .i64 1)), none⟩,
    ⟨(some 11), .mov (.tmp 22), none⟩]))))
def cConcatl1 (bytes : Nat) : ACode := (.seq (.ops [⟨(some 28), .bin .lss (.tmp 27) (.tmp 26), none⟩])
  (.seq (.cond (.tmp 28)
  .skip
  (.exit 2))
  (.seq (.block 3 (.seq (.ops [⟨(some 29), .idxAddr 1 (.tmp 25) (.tmp 27), none⟩,
    ⟨(some 30), .load false 1 (.tmp 29), none⟩,
    ⟨(some 8), .mov (.tmp 30), none⟩])
  (.ops [⟨(some 31), .mov (.tmp 6), none⟩,
    ⟨(some 32), .mov (.tmp 8), none⟩,
    ⟨(some 33), .append 1 bytes (.tmp 31) (.tmp 32), none⟩,
    ⟨(some 6), .mov (.tmp 33), none⟩])))
  (.ops [⟨(some 34), .bin .add (.tmp 27) (.con (.int .i64 1)), none⟩,
    ⟨(some 27), .mov (.tmp 34), none⟩]))))
def cConcat (bytes gg : Nat) : ACode := (.seq (.ops [⟨(some 2), .mov (.con .nilSlice), none⟩])
  (.seq (.ops [⟨(some 3), .mov (.con (.int .i64 0)), none⟩])
  (.seq (.seq (.ops [⟨(some 9), .mov (.tmp 0), none⟩,
    ⟨(some 10), .lenSlice (.tmp 9), none⟩,
    ⟨(some 11), .mov (.con (.int .i64 0)), none⟩])
  (.block 0 (.loop cConcatl0)))
  (.seq (.ops [⟨(some 23), .mov (.tmp 3), none⟩,
    ⟨(some 24), .call gg [(.con .nilSlice), (.tmp 23)], none⟩,
    ⟨(some 6), .mov (.tmp 24), none⟩])
  (.seq (.seq (.ops [⟨(some 25), .mov (.tmp 0), none⟩,
    ⟨(some 26), .lenSlice (.tmp 25), none⟩,
    ⟨(some 27), .mov (.con (.int .i64 0)), none⟩])
  (.block 2 (.loop (cConcatl1 bytes))))
  (.seq (.ops [⟨(some 35), .mov (.tmp 6), none⟩,
    ⟨(some 2), .mov (.tmp 35), none⟩])
  .ret))))))
def aConcat (bytes gg : Nat) : AFunc := ⟨1, cConcat bytes gg, [.tmp 2]⟩
theorem grow_nil_ok {g bytes : Nat} {z : AV} (he : T.env g = none) (hf : T.func g = some (aGrow bytes z)) (hb : bytes ≤ 8) {n : Nat} (hn : n < 1000000) : Gives T g [.nilSlice, .int .i64 (n : Int)] h fun r h' =>
    (n = 0 ∧ r = .nilSlice ∧ h' = h) ∨ (0 < n ∧ r = .slice h.next 0 1 0 n false ∧ h' = h.new (.cells (rep [z] n) true)) := by
  refine gives_func he hf rfl ?_
  have d1 : decide ((n : Int) < 0) = false := by rw [decide_eq_false_iff_not]; omega
  have cp : capV .nilSlice = some (.int .i64 0) := rfl
  have ln : lenOfV .nilSlice = some 0 := rfl
  have w1 : IntKind.i64.wrap (0 - ((0 : Nat) : Int)) = 0 := rfl
  have w2 : IntKind.i64.wrap ((n : Int) - 0) = (n : Int) := by rw [wrap_i64 (by omega) (by omega)]; omega
  simp only [aGrow, cGrow, vms, vmc, AOpd.val, Nat.reduceEqDiff, reduceCtorEq, Nat.reduceAdd, Nat.reduceBEq, step_capSlice, d1, cp, ln, w1, w2]
  by_cases h0 : n = 0
  · subst h0
    simp only [vms, vmc, AOpd.val, Nat.reduceEqDiff, reduceCtorEq, Nat.reduceAdd, Nat.reduceBEq, show decide (((0 : Nat) : Int) > 0) = false from rfl]
    exact .inl ⟨trivial, trivial, trivial⟩
  · have d2 : decide ((n : Int) > 0) = true := by rw [decide_eq_true_eq]; omega
    have s1 : slcV 1 .nilSlice none (some (.int .i64 0)) none = some .nilSlice := by simp [slcV, bounds, boundM, boundH, boundL, natOf, Option.filter]
    have hroom : roomOk n bytes 0 true = true := by
      have : n * bytes ≤ 1000000 * 8 := Nat.mul_le_mul (by omega) hb
      simp only [roomOk, Bool.or_eq_true, Bool.and_eq_true, decide_eq_true_eq]
      left; omega
    have hap : appZV 1 bytes [z] h .nilSlice (.int .i64 (n : Int)) = some (.slice h.next 0 1 n n false, h.new (.cells (rep [z] n) true)) := by
      have : n * bytes ≤ 1000000 * 8 := Nat.mul_le_mul (by omega) hb
      simp only [appZV, natOf_cast, Option.bind_some, appendV]
      rw [if_pos ⟨by omega, by omega⟩, if_neg h0, if_pos hroom]
    have s2 : slcV 1 (.slice h.next 0 1 n n false) none (some (.int .i64 ((0 : Nat) : Int))) none = some (.slice h.next 0 1 0 n false) := slcE_to (by omega)
    simp only [vms, vmc, AOpd.val, Nat.reduceEqDiff, reduceCtorEq, Nat.reduceAdd, Nat.reduceBEq, step_capSlice, step_appendZ, d2, cp, ln, s1, hap, s2]
    exact .inr ⟨by omega, trivial, trivial⟩
/-- Elements of a slice, all at once. -/
theorem sees_elems {v : AV} {xs : List AV} (s : Sees h v xs) : h.elems 1 xs.length v = some xs := by
  rcases s with ⟨rfl, rfl⟩ | ⟨o, off, cap, ex, l, rw', rfl, hg, h1, h2⟩
  · rfl
  · simp only [AH.elems, true_and, Nat.le_refl, if_true, AH.load, hg, Nat.mul_one]
    rw [if_pos h1]
    congr 1
    apply List.ext_getElem?
    intro i
    rw [List.getElem?_take]
    by_cases hi : i < xs.length
    · rw [if_pos hi, List.getElem?_drop, h2 i _ (List.getElem?_eq_getElem hi), List.getElem?_eq_getElem hi]
    · rw [if_neg hi, List.getElem?_eq_none (by omega)]
/-- A row that is filled: there is room for n. -/
def Cat (h : AH) (v : AV) (xs : List AV) (n : Nat) : Prop := (v = .nilSlice ∧ xs = [] ∧ n = 0) ∨ ∃ o l, v = .slice o 0 1 xs.length n false ∧ h.get o = some (.cells l true) ∧ l.length = n ∧ xs.length ≤ n ∧ ∀ (i : Nat) (x : AV), xs[i]? = some x → l[i]? = some x
theorem Cat.row {v : AV} {xs : List AV} {n : Nat} (c : Cat h v xs n) : Row1 h v xs := by
  rcases c with ⟨rfl, rfl, _⟩ | ⟨o, l, rfl, hg, h1, h2, h3⟩
  · exact .inl ⟨rfl, rfl⟩
  · exact row1_of hg h1 rfl h2 h3
theorem Cat.append {v w : AV} {xs ys : List AV} {n bytes : Nat} (c : Cat h v xs n) (s : Sees h w ys) (hn : xs.length + ys.length ≤ n) (hf : ∀ y ∈ ys, AV.flat y = true) :
    ∃ v' h', appV 1 bytes h v w = some (v', h') ∧ Cat h' v' (xs ++ ys) n ∧ objs v' = objs v ∧ h'.next = h.next ∧ (∀ q, q ∉ objs v → h'.get q = h.get q) := by
  have hel := sees_elems s
  have ln := s.len
  rcases c with ⟨rfl, rfl, rfl⟩ | ⟨o, l, rfl, hg, h1, h2, h3⟩
  · have : ys = [] := List.eq_nil_of_length_eq_zero (by simp only [List.length_nil] at hn; omega)
    subst this
    refine ⟨.nilSlice, h, ?_, .inl ⟨rfl, rfl, rfl⟩, rfl, rfl, fun _ _ => rfl⟩
    simp only [appV, ln, Option.bind_some, hel, appendV]
    rfl
  · by_cases h0 : ys.length = 0
    · have : ys = [] := List.eq_nil_of_length_eq_zero h0
      subst this
      refine ⟨.slice o 0 1 xs.length n false, h, ?_, ?_, rfl, rfl, fun _ _ => rfl⟩
      · simp only [appV, ln, Option.bind_some, hel, appendV, if_true]
        rw [if_pos (by simp; omega)]
        simp
      · rw [List.append_nil]; exact .inr ⟨o, l, rfl, hg, h1, h2, h3⟩
    · obtain ⟨z1, z2⟩ := setMany_get l ys xs.length
      obtain ⟨z3, z4, z5⟩ := z2 (by omega)
      refine ⟨.slice o 0 1 (xs.length + ys.length) n false, h.set o (.cells (setMany l xs.length ys) true), ?_, .inr ⟨o, setMany l xs.length ys, by rw [List.length_append], get_set_same, by rw [z1]; exact h1, by rw [List.length_append]; exact hn, fun i x hx => ?_⟩, rfl, rfl, fun q hq => ?_⟩
      · simp only [appV, ln, Option.bind_some, hel, appendV, if_true]
        rw [if_pos hn, if_neg (by omega)]
        simp only [AH.store, hg, Nat.mul_one, Nat.zero_add]
        rw [if_pos ⟨by omega, by rw [List.all_eq_true]; exact hf⟩]
        rfl
      · by_cases hi : i < xs.length
        · rw [List.getElem?_append_left hi] at hx
          rw [z3 i hi]; exact h3 i x hx
        · rw [List.getElem?_append_right (by omega)] at hx
          have := z4 _ x hx
          rwa [show xs.length + (i - xs.length) = i by omega] at this
      · simp [objs] at hq
        rw [AH.get_set, if_neg (Ne.symm hq)]
theorem loop_once {c : ACode} {f : Fr} {Q : AExit → Fr → AH → Prop} (hw : Wp (code T c f h) (Then (fun f h => Wp (code T (.loop c) f h) Q) Q)) : Wp (code T (.loop c) f h) Q := by
  rw [code_loop, Wp_then]
  exact hw.mono fun e f' h' hq => by cases e <;> exact hq
theorem concat2_ok {g gg bytes : Nat} {z : AV} (he : T.env g = none) (hf : T.func g = some (aConcat bytes gg)) (he2 : T.env gg = none) (hf2 : T.func gg = some (aGrow bytes z)) (hb : bytes ≤ 8) (hl : Low h) {lo : Nat} {va vb : AV} {xs ys : List AV}
    (hg : h.get lo = some (.cells [va, vb] true)) (sa : Sees h va xs) (sb : Sees h vb ys) (hx : xs.length < 400000) (hy : ys.length < 400000) (fx : ∀ x ∈ xs, AV.flat x = true) (fy : ∀ x ∈ ys, AV.flat x = true) :
    Gives T g [.slice lo 0 1 2 2 true] h fun r h' => Row1 h' r (xs ++ ys) ∧ (∀ o ∈ objs r, h.next ≤ o) ∧ Quiet h h' ∧ Low h' := by
  refine gives_func he hf rfl ?_
  have i0 : idxAddrV 1 (.slice lo 0 1 2 2 true) (.int .i64 0) = some (.ptr lo 0) := rfl
  have i1 : idxAddrV 1 (.slice lo 0 1 2 2 true) (.int .i64 1) = some (.ptr lo 1) := rfl
  have l0 := load_at hg (i := 0) (v := va) rfl
  have l1 := load_at hg (i := 1) (v := vb) rfl
  have la := sa.len
  have lb := sb.len
  have w1 : IntKind.i64.wrap (0 + (xs.length : Int)) = (xs.length : Int) := by rw [wrap_i64 (by omega) (by omega)]; omega
  have w2 : IntKind.i64.wrap ((xs.length : Int) + (ys.length : Int)) = ((xs.length + ys.length : Nat) : Int) := by rw [wrap_i64 (by omega) (by omega)]; omega
  have d1 : decide ((xs.length : Int) < 0) = false := by rw [decide_eq_false_iff_not]; omega
  have d2 : decide (((xs.length + ys.length : Nat) : Int) < 0) = false := by rw [decide_eq_false_iff_not]; omega
  have ln2 : lenOfV (.slice lo 0 1 2 2 true) = some 2 := rfl
  have w01 : IntKind.i64.wrap (0 + 1) = 1 := rfl
  have w12 : IntKind.i64.wrap (1 + 1) = 2 := rfl
  have t0 : decide ((0 : Int) < ((2 : Nat) : Int)) = true := rfl
  have t1 : decide ((1 : Int) < ((2 : Nat) : Int)) = true := rfl
  have t2 : decide ((2 : Int) < ((2 : Nat) : Int)) = false := rfl
  simp only [aConcat, cConcat, vms, vmc, AOpd.val, Nat.reduceEqDiff, reduceCtorEq, Nat.reduceAdd, Nat.reduceBEq, ln2]
  refine loop_once ?_
  simp only [cConcatl0, vms, vmc, AOpd.val, Nat.reduceEqDiff, reduceCtorEq, Nat.reduceAdd, Nat.reduceBEq, i0, l0, la, w1, d1, w01, t0]
  refine loop_once ?_
  simp only [cConcatl0, vms, vmc, AOpd.val, Nat.reduceEqDiff, reduceCtorEq, Nat.reduceAdd, Nat.reduceBEq, i1, l1, lb, w2, d2, w12, t1]
  refine loop_once ?_
  simp only [cConcatl0, vms, vmc, AOpd.val, Nat.reduceEqDiff, reduceCtorEq, Nat.reduceAdd, Nat.reduceBEq, t2]
  refine Gives.bind ((grow_nil_ok he2 hf2 hb (by omega)).mono ?_)
  have fin : ∀ {h1 : AH} {v1 : AV} {f : Fr}, Cat h1 v1 [] (xs.length + ys.length) → (∀ o ∈ objs v1, h.next ≤ o) → Quiet h h1 → Low h1 → f.at 0 = .slice lo 0 1 2 2 true → f.at 6 = v1 → f.at 25 = .slice lo 0 1 2 2 true → f.at 26 = .int .i64 ((2 : Nat) : Int) → f.at 27 = .int .i64 0 →
      Wp (code T (.loop (cConcatl1 bytes)) f h1) (InBlock 2 (ThenC T (.seq (.ops [⟨(some 35), .mov (.tmp 6), none⟩, ⟨(some 2), .mov (.tmp 35), none⟩]) .ret) (Vm.Ends [.tmp 2] fun r h' => Row1 h' r (xs ++ ys) ∧ (∀ o ∈ objs r, h.next ≤ o) ∧ Quiet h h' ∧ Low h'))) := by
    intro h1 v1 f c0 hfr q1 lo1 f0 f6 f25 f26 f27
    have stepC : ∀ {h1 : AH} {v1 w : AV} {as bs : List AV}, Cat h1 v1 as (xs.length + ys.length) → (∀ o ∈ objs v1, h.next ≤ o) → Quiet h h1 → Low h1 → Sees h w bs → as.length + bs.length ≤ xs.length + ys.length → (∀ y ∈ bs, AV.flat y = true) →
        ∃ v' h', appV 1 bytes h1 v1 w = some (v', h') ∧ Cat h' v' (as ++ bs) (xs.length + ys.length) ∧ (∀ o ∈ objs v', h.next ≤ o) ∧ Quiet h h' ∧ Low h' := by
      intro h1 v1 w as bs c hfr q1 lo1 s hn hfl
      have s' : Sees h1 w bs := ((Sees.res s hl).quiet q1).holds
      obtain ⟨v', h', ha, hc, ho, hnx, hoth⟩ := c.append (bytes := bytes) s' hn hfl
      refine ⟨v', h', ha, hc, by rw [ho]; exact hfr, ⟨by rw [hnx]; exact q1.1, fun q hq hF => ?_⟩, fun q x hq => ?_⟩
      · rw [hoth q (fun hm => by have := hfr q hm; omega)]
        exact q1.2 q hq hF
      · by_cases hm : q ∈ objs v1
        · have := RowS.low c.row lo1 q hm
          omega
        · rw [hoth q hm] at hq
          have := lo1 _ _ hq
          omega
    have hg1 := q1.get hg (hl _ _ hg)
    have l0 := load_at hg1 (i := 0) (v := va) rfl
    obtain ⟨v2, h2, ha2, c2, hfr2, q2, lo2⟩ := stepC c0 hfr q1 lo1 sa (by simp) fx
    have hg2 := q2.get hg (hl _ _ hg)
    have l1 := load_at hg2 (i := 1) (v := vb) rfl
    obtain ⟨v3, h3, ha3, c3, hfr3, q3, lo3⟩ := stepC c2 hfr2 q2 lo2 sb (by simp) fy
    refine loop_once ?_
    simp only [cConcatl1, vms, vmc, AOpd.val, Nat.reduceEqDiff, reduceCtorEq, Nat.reduceAdd, Nat.reduceBEq, f0, f6, f25, f26, f27, i0, l0, ha2, w01, t0]
    refine loop_once ?_
    simp only [cConcatl1, vms, vmc, AOpd.val, Nat.reduceEqDiff, reduceCtorEq, Nat.reduceAdd, Nat.reduceBEq, f0, f6, f25, f26, f27, i1, l1, ha3, w12, t1]
    refine loop_once ?_
    simp only [cConcatl1, vms, vmc, AOpd.val, Nat.reduceEqDiff, reduceCtorEq, Nat.reduceAdd, Nat.reduceBEq, f0, f6, f25, f26, f27, t2]
    exact ⟨c3.row, hfr3, q3, lo3⟩
  rintro r h1 (⟨h0, rfl, rfl⟩ | ⟨h0, rfl, rfl⟩)
  · simp only [vms, vmc, AOpd.val, Nat.reduceEqDiff, reduceCtorEq, Nat.reduceAdd, Nat.reduceBEq, ln2]
    exact fin (.inl ⟨rfl, rfl, h0⟩) (fun o ho => by simp [objs] at ho) (Quiet.refl _) hl (by simp only [vms, vmc, AOpd.val, Nat.reduceEqDiff, reduceCtorEq, Nat.reduceAdd, Nat.reduceBEq]) (by simp only [vms, vmc, AOpd.val, Nat.reduceEqDiff, reduceCtorEq, Nat.reduceAdd, Nat.reduceBEq]) (by simp only [vms, vmc, AOpd.val, Nat.reduceEqDiff, reduceCtorEq, Nat.reduceAdd, Nat.reduceBEq]) (by simp only [vms, vmc, AOpd.val, Nat.reduceEqDiff, reduceCtorEq, Nat.reduceAdd, Nat.reduceBEq]) (by simp only [vms, vmc, AOpd.val, Nat.reduceEqDiff, reduceCtorEq, Nat.reduceAdd, Nat.reduceBEq])
  · simp only [vms, vmc, AOpd.val, Nat.reduceEqDiff, reduceCtorEq, Nat.reduceAdd, Nat.reduceBEq, ln2]
    exact fin (v1 := .slice h.next 0 1 0 (xs.length + ys.length) false) (.inr ⟨h.next, _, rfl, get_new_same, rep_len1, by simp, fun i x hx => by simp at hx⟩) (fun o ho => by simp [objs] at ho; omega) ((Quiet.refl _).new _) (hl.new _) (by simp only [vms, vmc, AOpd.val, Nat.reduceEqDiff, reduceCtorEq, Nat.reduceAdd, Nat.reduceBEq]) (by simp only [vms, vmc, AOpd.val, Nat.reduceEqDiff, reduceCtorEq, Nat.reduceAdd, Nat.reduceBEq]) (by simp only [vms, vmc, AOpd.val, Nat.reduceEqDiff, reduceCtorEq, Nat.reduceAdd, Nat.reduceBEq]) (by simp only [vms, vmc, AOpd.val, Nat.reduceEqDiff, reduceCtorEq, Nat.reduceAdd, Nat.reduceBEq]) (by simp only [vms, vmc, AOpd.val, Nat.reduceEqDiff, reduceCtorEq, Nat.reduceAdd, Nat.reduceBEq])
/-! ### function values -/
def callVal (call : Handler) (v : AV) (args : List AV) (h : AH) : Option (AV × AH) := match v with
  | .func (.func g) first caps => call g (first ++ args ++ caps) h
  | _ => none
theorem step_callV {call : Handler} {f : Fr} {x : AOpd} {args : List AOpd} : stepV call (.callV x args) f h = callVal call (x.val f) (args.map (·.val f)) h := by
  unfold stepV
  simp only [AOp.eval, callVal]
  generalize x.val f = v
  cases v with
  | func fn a c => cases fn <;> rfl
  | _ => rfl
theorem callVal_func {call : Handler} {g : Nat} {args : List AV} : callVal call (.func (.func g) [] []) args h = call g args h := by
  simp [callVal]
/-- A whole slice behind a row. -/
theorem row1_appendAll {v w : AV} {bytes : Nat} {xs ys : List AV} (hlow : Low h) (r : Row1 h v xs) (s : Sees h w ys) (hb : bytes ≤ 8) (hb0 : 0 < bytes) (hs : xs.length + ys.length < 1000000) (hf : ∀ y ∈ ys, AV.flat y = true) :
    ∃ v' h', appV 1 bytes h v w = some (v', h') ∧ Row1 h' v' (xs ++ ys) ∧ (∀ o ∈ objs v', o ∈ objs v ∨ h.next ≤ o) ∧ (∀ o ∈ objs v', o < h'.next) ∧ Only h h' (objs v) ∧ Low h' := by
  have hel := sees_elems s
  have ln := s.len
  have hroom : ∀ cap ex, roomOk (xs.length + ys.length) bytes cap ex = true := by
    intro cap ex
    have : (xs.length + ys.length) * bytes ≤ 1000000 * 8 := Nat.mul_le_mul (by omega) hb
    simp only [roomOk, Bool.or_eq_true, Bool.and_eq_true, decide_eq_true_eq]
    left; omega
  have hfin : ∀ {g : AH} {o n : Nat} {ex : Bool} {zs : List AV}, g.get o = some (.cells zs true) → n = zs.length → Row1 g (.slice o 0 1 n n ex) zs := fun hg hn => by
    subst hn; exact row1_of hg rfl rfl (Nat.le_refl _) (fun _ _ h => h)
  rcases r with ⟨rfl, e⟩ | ⟨o, cap, ex, l, rfl, hg, h1, h2, h3⟩
  · have hx : xs = [] := by simpa using e
    subst hx
    by_cases h0 : ys.length = 0
    · have hy : ys = [] := List.eq_nil_of_length_eq_zero h0
      subst hy
      refine ⟨.nilSlice, h, ?_, .inl ⟨rfl, rfl⟩, fun o ho => .inl ho, fun o ho => by simp [objs] at ho, Only.refl _ _, hlow⟩
      simp only [appV, ln, Option.bind_some, hel, appendV]
      rfl
    · have hr := hroom 0 true
      simp only [List.length_nil, Nat.zero_add] at hr
      refine ⟨.slice h.next 0 1 ys.length ys.length false, h.new (.cells ys true), ?_, hfin get_new_same rfl, fun p hp => by simp [objs] at hp; right; omega, fun p hp => by simp [objs] at hp; rw [next_new]; omega, (Only.refl _ _).new _, hlow.new _⟩
      simp only [appV, ln, Option.bind_some, hel, appendV]
      rw [if_neg h0, if_pos hr]
  · simp only [List.length_map, Nat.mul_one] at h1 h2
    have h3' := Row1.get h3
    have hol : o < h.next := hlow _ _ hg
    simp only [List.length_map]
    by_cases hfit : xs.length + ys.length ≤ cap
    · by_cases h0 : ys.length = 0
      · have hy : ys = [] := List.eq_nil_of_length_eq_zero h0
        subst hy
        refine ⟨.slice o 0 1 xs.length cap ex, h, ?_, ?_, fun p hp => .inl hp, fun p hp => by simp [objs] at hp; omega, Only.refl _ _, hlow⟩
        · simp only [appV, ln, Option.bind_some, hel, appendV, if_true]
          rw [if_pos (by simpa using h2)]
          simp
        · rw [List.append_nil]; exact row1_of hg h1 rfl h2 h3'
      · obtain ⟨z1, z2⟩ := setMany_get l ys xs.length
        obtain ⟨z3, z4, z5⟩ := z2 (by omega)
        refine ⟨.slice o 0 1 (xs.length + ys.length) cap ex, h.set o (.cells (setMany l xs.length ys) true), ?_, row1_of get_set_same (by rw [z1]; exact h1) (by rw [List.length_append]) (by rw [List.length_append]; exact hfit) (fun i x hx => ?_), fun p hp => .inl (by simpa [objs] using hp), fun p hp => by simp [objs] at hp; rw [next_set]; omega, (Only.refl h _).set (.inl (by simp [objs])) _, hlow.set hol _⟩
        · simp only [appV, ln, Option.bind_some, hel, appendV, if_true]
          rw [if_pos hfit, if_neg (by omega)]
          simp only [AH.store, hg, Nat.mul_one, Nat.zero_add]
          rw [if_pos ⟨by omega, by rw [List.all_eq_true]; exact hf⟩]
          rfl
        · by_cases hi : i < xs.length
          · rw [List.getElem?_append_left hi] at hx
            rw [z3 i hi]; exact h3' i x hx
          · rw [List.getElem?_append_right (by omega)] at hx
            have := z4 _ x hx
            rwa [show xs.length + (i - xs.length) = i by omega] at this
    · have hload : h.load o 0 (xs.length * 1) = some xs := by
        simp only [AH.load, hg, Nat.mul_one, Nat.zero_add]
        rw [if_pos (by omega)]
        exact congrArg some (Row1.seg (by omega) h3')
      cases ex with
      | true =>
        refine ⟨.slice h.next 0 1 (xs.length + ys.length) (xs.length + ys.length) false, h.new (.cells (xs ++ ys) true), ?_, hfin get_new_same (by simp), fun p hp => by simp [objs] at hp; right; omega, fun p hp => by simp [objs] at hp; rw [next_new]; omega, (Only.refl _ _).new _, hlow.new _⟩
        simp only [appV, ln, Option.bind_some, hel, appendV, if_true]
        rw [if_neg hfit, if_pos (hroom _ _), hload]
      | false =>
        have hrw : h.isRw o = true := by unfold AH.isRw; rw [hg]
        refine ⟨.slice h.next 0 1 (xs.length + ys.length) (xs.length + ys.length) false, (h.set o .dead).new (.cells (xs ++ ys) true), ?_, hfin (by have := get_new_same (h := h.set o .dead) (x := .cells (xs ++ ys) true); rwa [next_set] at this) (by simp), fun p hp => by simp [objs] at hp; right; omega, fun p hp => by simp [objs] at hp; rw [next_new, next_set]; omega, ((Only.refl h _).set (.inl (by simp [objs])) _).new _, (hlow.set hol _).new _⟩
        simp only [appV, ln, Option.bind_some, hel, appendV, if_true]
        rw [if_neg hfit, if_pos (hroom _ _), hload]
        simp only [Bool.false_eq_true, if_false]
        rw [if_pos (by rw [hrw, List.all_eq_true.2 hf]; rfl)]
end Go.Vm

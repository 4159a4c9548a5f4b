/- slices.Insert: what it does to a slice whose room is known. -/
import Derived.Test.YtpabmkicdcilpaaVmZn
namespace Go.Vm
open Go.RowKit
set_option linter.unusedSimpArgs false
set_option linter.unusedVariables false
set_option maxRecDepth 100000
variable {T : Vm.Prog} {h : AH} {f : Fr} {call : Handler}
def appZV (sz bytes : Nat) (zero : List AV) (h : AH) (s n : AV) : Option (AV × AH) := (natOf n).bind fun k => if k ≤ 9223372036854775807 ∧ k * bytes ≤ 281474976710656 then appendV sz bytes s (rep zero k) k h else none
theorem step_appendZ {sz bytes : Nat} {zero : List AV} {s n : AOpd} : stepV call (.appendZ sz bytes zero s n) f h = appZV sz bytes zero h (s.val f) (n.val f) :=
  stepV_val (by
    simp only [AOp.eval, appZV]
    generalize n.val f = p; generalize s.val f = q
    generalize natOf p = k
    cases k with
    | none => rfl
    | some k =>
      simp only [Option.bind_some]
      split <;> rfl)
def capV : AV → Option AV
  | .nilSlice => some (.int .i64 0)
  | .slice _ _ _ _ c true => some (.int .i64 c)
  | _ => none
theorem step_capSlice {x : AOpd} : stepV call (.capSlice x) f h = (capV (x.val f)).map (·, h) :=
  stepV_val (by
    simp only [AOp.eval, capV]
    generalize x.val f = p
    cases p with
    | slice o off sz l c ex => cases ex <;> rfl
    | _ => rfl)
def cInsert (bytes : Nat) (z : AV) (gv gr : Nat) : ACode := (.seq (.ops [⟨(some 6), .mov (.con .nilSlice), none⟩])
  (.seq (.ops [⟨(some 10), .mov (.tmp 0), none⟩,
    ⟨(some 11), .mov (.tmp 1), none⟩,
    ⟨(some 12), .slc 1 (.tmp 10) (some (.tmp 11)) none none, none⟩])
  (.seq (.ops [⟨(some 13), .mov (.tmp 2), none⟩,
    ⟨(some 14), .lenSlice (.tmp 13), none⟩,
    ⟨(some 7), .mov (.tmp 14), none⟩])
  (.seq (.seq (.ops [⟨(some 15), .mov (.tmp 7), none⟩,
    ⟨(some 16), .bin .eql (.tmp 15) (.con (.int .i64 0)), none⟩])
  (.cond (.tmp 16)
  (.seq (.ops [⟨(some 17), .mov (.tmp 0), none⟩,
    ⟨(some 6), .mov (.tmp 17), none⟩])
  .ret)
  .skip))
  (.seq (.ops [⟨(some 18), .mov (.tmp 0), none⟩,
    ⟨(some 19), .lenSlice (.tmp 18), none⟩,
    ⟨(some 8), .mov (.tmp 19), none⟩])
  (.seq (.seq (.ops [⟨(some 20), .mov (.tmp 1), none⟩,
    ⟨(some 21), .mov (.tmp 8), none⟩,
    ⟨(some 22), .bin .eql (.tmp 20) (.tmp 21), none⟩])
  (.cond (.tmp 22)
  (.seq (.ops [⟨(some 23), .mov (.tmp 0), none⟩,
    ⟨(some 24), .mov (.tmp 2), none⟩,
    ⟨(some 25), .append 1 bytes (.tmp 23) (.tmp 24), none⟩,
    ⟨(some 6), .mov (.tmp 25), none⟩])
  .ret)
  .skip))
  (.seq (.seq (.ops [⟨(some 26), .mov (.tmp 8), none⟩,
    ⟨(some 27), .mov (.tmp 7), none⟩,
    ⟨(some 28), .bin .add (.tmp 26) (.tmp 27), none⟩,
    ⟨(some 29), .mov (.tmp 0), none⟩,
    ⟨(some 30), .capSlice (.tmp 29), none⟩,
    ⟨(some 31), .bin .gtr (.tmp 28) (.tmp 30), none⟩])
  (.cond (.tmp 31)
  (.seq (.ops [⟨(some 32), .mov (.tmp 0), none⟩,
    ⟨(some 33), .mov (.tmp 1), none⟩,
    ⟨(some 34), .slc 1 (.tmp 32) none (some (.tmp 33)) none, none⟩,
    ⟨(some 35), .mov (.tmp 8), none⟩,
    ⟨(some 36), .mov (.tmp 7), none⟩,
    ⟨(some 37), .bin .add (.tmp 35) (.tmp 36), none⟩,
    ⟨(some 38), .mov (.tmp 1), none⟩,
    ⟨(some 39), .bin .sub (.tmp 37) (.tmp 38), none⟩,
    ⟨(some 40), .appendZ 1 bytes [z] (.tmp 34) (.tmp 39), none⟩,
    ⟨(some 9), .mov (.tmp 40), none⟩])
  (.seq (.ops [⟨(some 41), .mov (.tmp 9), none⟩,
    ⟨(some 42), .mov (.tmp 1), none⟩,
    ⟨(some 43), .slc 1 (.tmp 41) (some (.tmp 42)) none none, none⟩,
    ⟨(some 44), .mov (.tmp 2), none⟩,
    ⟨(some 45), .copy 1 (.tmp 43) (.tmp 44), none⟩])
  (.seq (.ops [⟨(some 46), .mov (.tmp 9), none⟩,
    ⟨(some 47), .mov (.tmp 1), none⟩,
    ⟨(some 48), .mov (.tmp 7), none⟩,
    ⟨(some 49), .bin .add (.tmp 47) (.tmp 48), none⟩,
    ⟨(some 50), .slc 1 (.tmp 46) (some (.tmp 49)) none none, none⟩,
    ⟨(some 51), .mov (.tmp 0), none⟩,
    ⟨(some 52), .mov (.tmp 1), none⟩,
    ⟨(some 53), .slc 1 (.tmp 51) (some (.tmp 52)) none none, none⟩,
    ⟨(some 54), .copy 1 (.tmp 50) (.tmp 53), none⟩])
  (.seq (.ops [⟨(some 55), .mov (.tmp 9), none⟩,
    ⟨(some 6), .mov (.tmp 55), none⟩])
  .ret))))
  .skip))
  (.seq (.ops [⟨(some 56), .mov (.tmp 0), none⟩,
    ⟨(some 57), .mov (.tmp 8), none⟩,
    ⟨(some 58), .mov (.tmp 7), none⟩,
    ⟨(some 59), .bin .add (.tmp 57) (.tmp 58), none⟩,
    ⟨(some 60), .slc 1 (.tmp 56) none (some (.tmp 59)) none, none⟩,
    ⟨(some 0), .mov (.tmp 60), none⟩])
  (.seq (.seq (.ops [⟨(some 61), .mov (.tmp 2), none⟩,
    ⟨(some 62), .mov (.tmp 0), none⟩,
    ⟨(some 63), .mov (.tmp 1), none⟩,
    ⟨(some 64), .mov (.tmp 7), none⟩,
    ⟨(some 65), .bin .add (.tmp 63) (.tmp 64), none⟩,
    ⟨(some 66), .slc 1 (.tmp 62) (some (.tmp 65)) none none, none⟩,
    ⟨(some 67), .call gv [(.tmp 61), (.tmp 66)], none⟩,
    ⟨(some 68), .un .not (.tmp 67), none⟩])
  (.cond (.tmp 68)
  (.seq (.ops [⟨(some 69), .mov (.tmp 0), none⟩,
    ⟨(some 70), .mov (.tmp 1), none⟩,
    ⟨(some 71), .mov (.tmp 7), none⟩,
    ⟨(some 72), .bin .add (.tmp 70) (.tmp 71), none⟩,
    ⟨(some 73), .slc 1 (.tmp 69) (some (.tmp 72)) none none, none⟩,
    ⟨(some 74), .mov (.tmp 0), none⟩,
    ⟨(some 75), .mov (.tmp 1), none⟩,
    ⟨(some 76), .slc 1 (.tmp 74) (some (.tmp 75)) none none, none⟩,
    ⟨(some 77), .copy 1 (.tmp 73) (.tmp 76), none⟩])
  (.seq (.ops [⟨(some 78), .mov (.tmp 0), none⟩,
    ⟨(some 79), .mov (.tmp 1), none⟩,
    ⟨(some 80), .slc 1 (.tmp 78) (some (.tmp 79)) none none, none⟩,
    ⟨(some 81), .mov (.tmp 2), none⟩,
    ⟨(some 82), .copy 1 (.tmp 80) (.tmp 81), none⟩])
  (.seq (.ops [⟨(some 83), .mov (.tmp 0), none⟩,
    ⟨(some 6), .mov (.tmp 83), none⟩])
  .ret)))
  .skip))
  (.seq (.ops [⟨(some 84), .mov (.tmp 0), none⟩,
    ⟨(some 85), .mov (.tmp 8), none⟩,
    ⟨(some 86), .slc 1 (.tmp 84) (some (.tmp 85)) none none, none⟩,
    ⟨(some 87), .mov (.tmp 2), none⟩,
    ⟨(some 88), .copy 1 (.tmp 86) (.tmp 87), none⟩])
  (.seq (.ops [⟨(some 89), .mov (.tmp 0), none⟩,
    ⟨(some 90), .mov (.tmp 1), none⟩,
    ⟨(some 91), .slc 1 (.tmp 89) (some (.tmp 90)) none none, none⟩,
    ⟨(some 92), .mov (.tmp 7), none⟩,
    ⟨(some 93), .call gr [(.tmp 91), (.tmp 92)], none⟩])
  (.seq (.ops [⟨(some 94), .mov (.tmp 0), none⟩,
    ⟨(some 6), .mov (.tmp 94), none⟩])
  .ret))))))))))))
def aInsert (bytes : Nat) (z : AV) (gv gr : Nat) : AFunc := ⟨3, cInsert bytes z gv gr, [.tmp 6]⟩
theorem slcE_from {o off len C n : Nat} (hn : n ≤ len) (hc : n < C) {k : IntKind} : slcV 1 (.slice o off 1 len C true) (some (.int k (n : Int))) none none = some (.slice o (off + n) 1 (len - n) (C - n) true) := by
  have : ¬ C = n := by omega
  simp [slcV, bounds, boundM, boundH, boundL, natOf, hn, show n ≤ C by omega, Option.filter, this]
theorem slcE_to {o off len C n : Nat} {ex : Bool} (hn : n ≤ C) {k : IntKind} : slcV 1 (.slice o off 1 len C ex) none (some (.int k (n : Int))) none = some (.slice o off 1 n C ex) := by
  simp [slcV, bounds, boundM, boundH, boundL, natOf, hn, Option.filter]
theorem slcF_from {o len C n : Nat} {ex : Bool} (hn : n ≤ len) (hc : n < C) {k : IntKind} : slcV 1 (.slice o 0 1 len C ex) (some (.int k (n : Int))) none none = some (.slice o n 1 (len - n) (C - n) ex) := by
  have : ¬ C = n := by omega
  simp [slcV, bounds, boundM, boundH, boundL, natOf, hn, show n ≤ C by omega, Option.filter, this]
/-- Cells copied from one place to another. -/
theorem copy_row {o off len C p poff plen pC : Nat} {ex pex : Bool} {l vl : List AV} (hg : h.get o = some (.cells l true)) {rw' : Bool} (hp : h.get p = some (.cells vl rw')) {k : Nat} (hk : min plen len = k) (hk0 : 0 < k) (h1 : off + k ≤ l.length) (h2 : poff + k ≤ vl.length) (hf : ∀ x ∈ (vl.drop poff).take k, AV.flat x = true) :
    copyV 1 h (.slice o off 1 len C ex) (.slice p poff 1 plen pC pex) = some (.int .i64 (k : Nat), h.set o (.cells (setMany l off ((vl.drop poff).take k)) true)) := by
  have hkl : ((vl.drop poff).take k).length = k := by simp; omega
  have he : ((vl.drop poff).take k).isEmpty = false := by
    cases hx : (vl.drop poff).take k with
    | nil => rw [hx] at hkl; simp at hkl; omega
    | cons a r => rfl
  have hel : h.elems 1 (min plen len) (.slice p poff 1 plen pC pex) = some ((vl.drop poff).take k) := by
    simp only [AH.elems, true_and]
    rw [if_pos (by omega), AH.load, hp, hk]
    simp only [Nat.mul_one]
    rw [if_pos h2]
  have hst : h.store o off ((vl.drop poff).take k) = some (h.set o (.cells (setMany l off ((vl.drop poff).take k)) true)) := by
    simp only [AH.store, hg]
    rw [if_pos ⟨by omega, by rw [List.all_eq_true]; exact hf⟩]
  rw [hk] at hel
  simp only [copyV, lenOfV, Option.bind_some, hk, hel, if_true, he, Bool.false_eq_true, if_false, hst, hk, Option.map_some]
theorem rep_len1 {z : AV} {n : Nat} : (rep [z] n).length = n := by
  induction n with
  | zero => rfl
  | succ n ih => simp [rep, ih]
/-- What is there behind. -/
def putIn (xs vs : List AV) (i : Nat) : List AV := xs.take i ++ vs ++ xs.drop i
theorem putIn_len {xs vs : List AV} {i : Nat} : (putIn xs vs i).length = xs.length + vs.length := by simp [putIn]; omega
theorem insert_walk {g gv gr bytes : Nat} {z : AV} (he : T.env g = none) (hfn : T.func g = some (aInsert bytes z gv gr)) (hov : T.env gv = some ovl)
    {o off C len i m vo voff vcap : Nat} {vex : Bool} {l vl : List AV} (hol : o < h.next) (hvol : vo < h.next) (hg : h.get o = some (.cells l true)) (hvg : h.get vo = some (.cells vl true)) (hne : vo ≠ o) (hi : i < len) (hm : 1 ≤ m) (hll : off + C ≤ l.length) (hlC : len ≤ C) (hvl : voff + m ≤ vl.length)
    (hroom : len + m ≤ 1000000) (hb : bytes ≤ 8) (hf : ∀ x ∈ (l.drop off).take len, AV.flat x = true) (hvf : ∀ x ∈ (vl.drop voff).take m, AV.flat x = true) :
    Gives T g [.slice o off 1 len C true, .int .i64 (i : Int), .slice vo voff 1 m vcap vex] h fun r h' =>
      (len + m ≤ C ∧ r = .slice o off 1 (len + m) C true ∧ h'.next = h.next ∧ (∃ l', h'.get o = some (.cells l' true) ∧ l'.length = l.length ∧ ∀ j x, (putIn ((l.drop off).take len) ((vl.drop voff).take m) i)[j]? = some x → l'[off + j]? = some x) ∧ ∀ q, q ≠ o → h'.get q = h.get q) ∨
      (C < len + m ∧ r = .slice h.next 0 1 (len + m) (len + m) false ∧ h'.next = h.next + 1 ∧ h'.get h.next = some (.cells (putIn ((l.drop off).take len) ((vl.drop voff).take m) i) true) ∧ ∀ q, q ≠ h.next → h'.get q = h.get q) := by
  refine gives_func he hfn rfl ?_
  have e1 : ((m : Int) == 0) = false := by rw [beq_eq_false_iff_ne]; omega
  have e2 : ((i : Int) == (len : Int)) = false := by rw [beq_eq_false_iff_ne]; omega
  have w1 : IntKind.i64.wrap ((len : Int) + (m : Int)) = ((len + m : Nat) : Int) := by rw [wrap_i64 (by omega) (by omega)]; omega
  have w2 : IntKind.i64.wrap ((i : Int) + (m : Int)) = ((i + m : Nat) : Int) := by rw [wrap_i64 (by omega) (by omega)]; omega
  have w3 : IntKind.i64.wrap (((len + m : Nat) : Int) - (i : Int)) = ((len + m - i : Nat) : Int) := by rw [wrap_i64 (by omega) (by omega)]; omega
  have s0 := slcE_from (o := o) (off := off) (len := len) (C := C) (n := i) (k := .i64) (by omega) (by omega)
  have cp : capV (.slice o off 1 len C true) = some (.int .i64 (C : Int)) := rfl
  have ln : ∀ {o off l c ex}, lenOfV (.slice o off 1 l c ex) = some l := rfl
  have old_len : ((l.drop off).take len).length = len := by simp; omega
  have new_len : ((vl.drop voff).take m).length = m := by simp; omega
  have old_drop : ((l.drop off).take len).drop i = (l.drop (off + i)).take (len - i) := by rw [List.drop_take, List.drop_drop]
  have hof : ∀ x ∈ (l.drop (off + i)).take (len - i), AV.flat x = true := by
    intro x hx
    rw [← old_drop] at hx
    exact hf x (List.mem_of_mem_drop hx)
  simp only [aInsert, cInsert, vms, vmc, AOpd.val, Nat.reduceEqDiff, reduceCtorEq, Nat.reduceAdd, Nat.reduceBEq, step_appendZ, step_capSlice, s0, e1, e2, w1, w2, w3, cp, ln]
  by_cases hgrow : ((len + m : Nat) : Int) > (C : Int)
  · have hgr : C < len + m := by omega
    have s1 := slcE_to (o := o) (off := off) (len := len) (C := C) (n := i) (ex := true) (k := .i64) (by omega)
    have hroomk : roomOk (i + (len + m - i)) bytes C true = true := by
      have : (i + (len + m - i)) * bytes ≤ 1000000 * 8 := Nat.mul_le_mul (by omega) hb
      simp only [roomOk, Bool.or_eq_true, Bool.and_eq_true, decide_eq_true_eq]
      left; omega
    have hap : appZV 1 bytes [z] h (.slice o off 1 i C true) (.int .i64 ((len + m - i : Nat) : Int)) = some (.slice h.next 0 1 (len + m) (len + m) false, h.new (.cells ((l.drop off).take i ++ rep [z] (len + m - i)) true)) := by
      have hload : h.load o off (i * 1) = some ((l.drop off).take i) := by
        simp only [AH.load, hg, Nat.mul_one]
        rw [if_pos (by omega)]
      have : (len + m - i) * bytes ≤ 1000000 * 8 := Nat.mul_le_mul (by omega) hb
      simp only [appZV, natOf_cast, Option.bind_some, appendV, if_true]
      rw [if_pos ⟨by omega, by omega⟩, if_neg (by omega), if_pos hroomk, hload]
      simp only [show i + (len + m - i) = len + m by omega]
    have hn1 : (h.new (.cells ((l.drop off).take i ++ rep [z] (len + m - i)) true)).get h.next = some (.cells ((l.drop off).take i ++ rep [z] (len + m - i)) true) := get_new_same
    have hv1 : (h.new (.cells ((l.drop off).take i ++ rep [z] (len + m - i)) true)).get vo = some (.cells vl true) := by rw [AH.get_new, if_neg (by omega)]; exact hvg
    have ho1 : (h.new (.cells ((l.drop off).take i ++ rep [z] (len + m - i)) true)).get o = some (.cells l true) := by rw [AH.get_new, if_neg (by omega)]; exact hg
    have hq1 : ∀ q, q ≠ h.next → (h.new (.cells ((l.drop off).take i ++ rep [z] (len + m - i)) true)).get q = h.get q := fun q hq => by rw [AH.get_new, if_neg (Ne.symm hq)]
    have hx1 : (h.new (.cells ((l.drop off).take i ++ rep [z] (len + m - i)) true)).next = h.next + 1 := rfl
    have l1 : ((l.drop off).take i ++ rep [z] (len + m - i)).length = len + m := by simp [rep_len1]; omega
    obtain ⟨Z, hZ⟩ : ∃ Z, Z = (l.drop off).take i ++ rep [z] (len + m - i) := ⟨_, rfl⟩
    rw [← hZ] at hn1 hv1 ho1 hq1 hx1 l1 hap
    obtain ⟨g1, hg1⟩ : ∃ g1, g1 = h.new (.cells Z true) := ⟨_, rfl⟩
    rw [← hg1] at hn1 hv1 ho1 hq1 hx1 hap
    have s2 := slcF_from (o := h.next) (len := len + m) (C := len + m) (n := i) (ex := false) (k := .i64) (by omega) (by omega)
    have s3 := slcF_from (o := h.next) (len := len + m) (C := len + m) (n := i + m) (ex := false) (k := .i64) (by omega) (by omega)
    have c1 := copy_row (h := g1) (len := len + m - i) (C := len + m - i) (ex := false) (pC := vcap) (pex := vex) (plen := m) (poff := voff) (off := i) hn1 hv1 (k := m) (by omega) (by omega) (by omega) hvl hvf
    obtain ⟨z1, z2⟩ := setMany_get Z ((vl.drop voff).take m) i
    obtain ⟨z3, z4, z5⟩ := z2 (by omega)
    have c2 := copy_row (h := g1.set h.next (.cells (setMany Z i ((vl.drop voff).take m)) true)) (o := h.next) (l := setMany Z i ((vl.drop voff).take m)) (p := o) (vl := l) (rw' := true) (len := len + m - (i + m)) (C := len + m - (i + m)) (ex := false) (pC := C - i) (pex := true) (plen := len - i) (poff := off + i) (off := i + m) get_set_same (by rw [AH.get_set, if_neg (by omega)]; exact ho1) (k := len - i) (by omega) (by omega) (by omega) (by omega) hof
    have hset : ∀ (A B : AObj), ∀ q, ((g1.set h.next A).set h.next B).get q = if h.next = q then some B else g1.get q := fun A B q => by
      rw [AH.get_set, AH.get_set]; split <;> rfl
    simp only [decide_eq_true hgrow, vms, vmc, AOpd.val, Nat.reduceEqDiff, reduceCtorEq, Nat.reduceAdd, Nat.reduceBEq, step_appendZ, s1, s0, w1, w2, w3, hap, s2, s3, c1, c2]
    obtain ⟨y1, y2⟩ := setMany_get (setMany Z i ((vl.drop voff).take m)) ((l.drop (off + i)).take (len - i)) (i + m)
    have hdl : ((l.drop (off + i)).take (len - i)).length = len - i := by simp; omega
    obtain ⟨y3, y4, y5⟩ := y2 (by omega)
    refine .inr ⟨hgr, trivial, hx1, ?_, fun q hq => by rw [hset, if_neg (Ne.symm hq)]; exact hq1 q hq⟩
    rw [hset, if_pos rfl]
    congr 2
    apply List.ext_getElem?
    intro j
    unfold putIn
    rw [old_drop]
    by_cases h1 : j < i
    · rw [y3 j (by omega), z3 j h1, hZ, List.append_assoc, List.getElem?_append_left (by simp; omega), List.getElem?_append_left (by simp; omega), List.getElem?_take, List.getElem?_take, if_pos h1, List.getElem?_take, if_pos h1, if_pos (by omega)]
    · by_cases h2 : j < i + m
      · rw [y3 j h2]
        obtain ⟨d, rfl⟩ : ∃ d, j = i + d := ⟨j - i, by omega⟩
        have hd : d < ((vl.drop voff).take m).length := by omega
        rw [z4 d _ (List.getElem?_eq_getElem hd), List.append_assoc, List.getElem?_append_right (by simp; omega), List.getElem?_append_left (by simp; omega)]
        rw [show i + d - (List.take i (List.take len (List.drop off l))).length = d by simp; omega]
        exact (List.getElem?_eq_getElem hd).symm
      · obtain ⟨d, rfl⟩ : ∃ d, j = i + m + d := ⟨j - (i + m), by omega⟩
        have hx2 : (List.take i (List.take len (List.drop off l)) ++ List.take m (List.drop voff vl)).length = i + m := by simp; omega
        rw [List.getElem?_append_right (by omega), hx2, show i + m + d - (i + m) = d by omega]
        by_cases hd : d < ((l.drop (off + i)).take (len - i)).length
        · rw [y4 d _ (List.getElem?_eq_getElem hd), List.getElem?_eq_getElem hd]
        · rw [List.getElem?_eq_none (by omega), List.getElem?_eq_none (by omega)]
  · have hin : len + m ≤ C := by omega
    have s1 := slcE_to (o := o) (off := off) (len := len) (C := C) (n := len + m) (ex := true) (k := .i64) (by omega)
    have s2 := slcE_from (o := o) (off := off) (len := len + m) (C := C) (n := i + m) (k := .i64) (by omega) (by omega)
    have s3 := slcE_from (o := o) (off := off) (len := len + m) (C := C) (n := i) (k := .i64) (by omega) (by omega)
    have hlne : ∃ a r, l = a :: r := by
      cases l with
      | nil => simp at hll; omega
      | cons a r => exact ⟨a, r, rfl⟩
    obtain ⟨a, r, har⟩ := hlne
    have hov1 : ovl [.slice vo voff 1 m vcap vex, .slice o (off + (i + m)) 1 (len + m - (i + m)) (C - (i + m)) true] h = some (.bool false, h) := by
      simp only [ovl, hvg, hg, har, hne, if_false]
    have c1 := copy_row (h := h) (o := o) (l := l) (p := o) (vl := l) (rw' := true) (len := len + m - (i + m)) (C := C - (i + m)) (ex := true) (pC := C - i) (pex := true) (plen := len + m - i) (poff := off + i) (off := off + (i + m)) hg hg (k := len - i) (by omega) (by omega) (by omega) (by omega) hof
    have hdl : ((l.drop (off + i)).take (len - i)).length = len - i := by simp; omega
    obtain ⟨z1, z2⟩ := setMany_get l ((l.drop (off + i)).take (len - i)) (off + (i + m))
    obtain ⟨z3, z4, z5⟩ := z2 (by omega)
    have c2 := copy_row (h := h.set o (.cells (setMany l (off + (i + m)) ((l.drop (off + i)).take (len - i))) true)) (o := o) (l := setMany l (off + (i + m)) ((l.drop (off + i)).take (len - i))) (p := vo) (vl := vl) (rw' := true) (len := len + m - i) (C := C - i) (ex := true) (pC := vcap) (pex := vex) (plen := m) (poff := voff) (off := off + i) get_set_same (by rw [AH.get_set, if_neg (Ne.symm hne)]; exact hvg) (k := m) (by omega) (by omega) (by omega) hvl hvf
    have hset : ∀ (A B : AObj), ∀ q, ((h.set o A).set o B).get q = if o = q then some B else h.get q := fun A B q => by
      rw [AH.get_set, AH.get_set]; split <;> rfl
    simp only [decide_eq_false hgrow, vms, vmc, AOpd.val, Nat.reduceEqDiff, reduceCtorEq, Nat.reduceAdd, Nat.reduceBEq, step_appendZ, s1, s2, s3, s0, w1, w2, w3, run_env hov, hov1, c1, c2, Bool.not_false]
    obtain ⟨y1, y2⟩ := setMany_get (setMany l (off + (i + m)) ((l.drop (off + i)).take (len - i))) ((vl.drop voff).take m) (off + i)
    obtain ⟨y3, y4, y5⟩ := y2 (by omega)
    refine .inl ⟨hin, trivial, rfl, ⟨_, by rw [hset, if_pos rfl], by rw [y1, z1], fun j x hx => ?_⟩, fun q hq => by rw [hset, if_neg (Ne.symm hq)]⟩
    unfold putIn at hx
    rw [old_drop] at hx
    by_cases h1 : j < i
    · rw [y3 _ (by omega), z3 _ (by omega)]
      rw [List.append_assoc, List.getElem?_append_left (by simp; omega), List.getElem?_take, if_pos h1, List.getElem?_take, if_pos (by omega), List.getElem?_drop] at hx
      exact hx
    · by_cases h2 : j < i + m
      · obtain ⟨d, rfl⟩ : ∃ d, j = i + d := ⟨j - i, by omega⟩
        have hd : d < ((vl.drop voff).take m).length := by omega
        rw [List.append_assoc, List.getElem?_append_right (by simp; omega), List.getElem?_append_left (by simp; omega)] at hx
        rw [show i + d - (List.take i (List.take len (List.drop off l))).length = d by simp; omega] at hx
        rw [show off + (i + d) = off + i + d by omega]
        exact y4 d x hx
      · obtain ⟨d, rfl⟩ : ∃ d, j = i + m + d := ⟨j - (i + m), by omega⟩
        have hx2 : (List.take i (List.take len (List.drop off l)) ++ List.take m (List.drop voff vl)).length = i + m := by simp; omega
        rw [List.getElem?_append_right (by omega), hx2, show i + m + d - (i + m) = d by omega] at hx
        rw [y5 _ (by omega), show off + (i + m + d) = off + (i + m) + d by omega]
        exact z4 d x hx
end Go.Vm

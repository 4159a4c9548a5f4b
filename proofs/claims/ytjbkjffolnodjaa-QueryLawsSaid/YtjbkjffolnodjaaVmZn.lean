/- What the model answers itself: slices.overlaps. Memory under another name. -/
import Derived.Test.YtjbkjffolnodjaaVmZj
import Derived.Lib.Overlaps
namespace Go.Vm
open Go.RowKit
set_option linter.unusedSimpArgs false
set_option linter.unusedVariables false
section
variable {P : Program} {π : Pin} {N : Keep π} {w₀ w : World} {μ : Inj} {h : AH}
theorem R.congr (r : R N w₀ μ h w) {h' : AH} (hn : h'.next = h.next) (hg : ∀ o, h'.get o = h.get o) : R N w₀ μ h' w := by
  have hs : ∀ o, h'.solid o = h.solid o := fun o => by unfold AH.solid; rw [hg]
  exact ⟨r.below, r.fresh, fun o x hx => by rw [hn]; exact r.dom o x hx, fun o b base size x ho hx => r.obj o b base size x ho (by rw [← hg]; exact hx), fun o p x y ho hp hne so sp => r.inj o p x y ho hp hne (by rw [← hs]; exact so) (by rw [← hs]; exact sp), r.pin⟩
theorem setRow_self {b : Nat} {C : Array Value} {e : TypeId} {fz : Nat × Nat} (hb : w.heap[b]? = some (.cells C e fz)) : w.setRow b C = w := by
  have hh : (w.setRow b C).heap = w.heap := by
    apply Array.ext_getElem?
    intro k
    by_cases hk : k = b
    · subst hk; rw [hb]; exact setRow_heap w k C C e fz hb
    · exact setRow_other w b k C hk
  have : w.setRow b C = { w with heap := (w.setRow b C).heap } := rfl
  rw [this, hh]
/-! ### slices.overlaps: slices of two objects that the program made -/
def ovl : List AV → AH → Option (AV × AH)
  | [.slice o1 _ _ l1 _ _, .slice o2 _ _ l2 _ _], h => if l1 = 0 ∨ l2 = 0 then none else match h.get o1, h.get o2 with
    | some (.cells _ true), some (.cells (_ :: _) true) => if o1 = o2 then none else some (.bool false, h)
    | _, _ => none
  | _, _ => none
end
end Go.Vm
/- slices.Insert: what it does to a slice whose room is known. -/
namespace Go.Vm
open Go.RowKit
set_option linter.unusedSimpArgs false
set_option linter.unusedVariables false
set_option maxRecDepth 100000
variable {T : Vm.Prog} {h : AH} {f : Fr} {call : Handler}
def appZV (sz bytes : Nat) (zero : List AV) (h : AH) (s n : AV) : Option (AV × AH) := (natOf n).bind fun k => if k ≤ 9223372036854775807 ∧ k * bytes ≤ 281474976710656 then appendV sz bytes s (rep zero k) k h else none
def capV : AV → Option AV
  | .nilSlice => some (.int .i64 0)
  | .slice _ _ _ _ c true => some (.int .i64 c)
  | _ => none
def cInsert (bytes : Nat) (z : AV) (gv gr : Nat) : ACode := (.seq (.ops [⟨(some 6), .mov (.con .nilSlice), none⟩])
  (.seq (.ops [⟨(some 10), .mov (.tmp 0), none⟩,
    ⟨(some 11), .mov (.tmp 1), none⟩,
    ⟨(some 12), .slc 1 (.tmp 10) (some (.tmp 11)) none none, none⟩])
  (.seq (.ops [⟨(some 13), .mov (.tmp 2), none⟩,
    ⟨(some 14), .lenSlice (.tmp 13), none⟩,
    ⟨(some 7), .mov (.tmp 14), none⟩])
  (.seq (.seq (.ops [⟨(some 15), .mov (.tmp 7), none⟩,
    ⟨(some 16), .bin .eql (.tmp 15) (.con (.int .i64 0)), none⟩])
  (.cond (.tmp 16)
  (.seq (.ops [⟨(some 17), .mov (.tmp 0), none⟩,
    ⟨(some 6), .mov (.tmp 17), none⟩])
  .ret)
  .skip))
  (.seq (.ops [⟨(some 18), .mov (.tmp 0), none⟩,
    ⟨(some 19), .lenSlice (.tmp 18), none⟩,
    ⟨(some 8), .mov (.tmp 19), none⟩])
  (.seq (.seq (.ops [⟨(some 20), .mov (.tmp 1), none⟩,
    ⟨(some 21), .mov (.tmp 8), none⟩,
    ⟨(some 22), .bin .eql (.tmp 20) (.tmp 21), none⟩])
  (.cond (.tmp 22)
  (.seq (.ops [⟨(some 23), .mov (.tmp 0), none⟩,
    ⟨(some 24), .mov (.tmp 2), none⟩,
    ⟨(some 25), .append 1 bytes (.tmp 23) (.tmp 24), none⟩,
    ⟨(some 6), .mov (.tmp 25), none⟩])
  .ret)
  .skip))
  (.seq (.seq (.ops [⟨(some 26), .mov (.tmp 8), none⟩,
    ⟨(some 27), .mov (.tmp 7), none⟩,
    ⟨(some 28), .bin .add (.tmp 26) (.tmp 27), none⟩,
    ⟨(some 29), .mov (.tmp 0), none⟩,
    ⟨(some 30), .capSlice (.tmp 29), none⟩,
    ⟨(some 31), .bin .gtr (.tmp 28) (.tmp 30), none⟩])
  (.cond (.tmp 31)
  (.seq (.ops [⟨(some 32), .mov (.tmp 0), none⟩,
    ⟨(some 33), .mov (.tmp 1), none⟩,
    ⟨(some 34), .slc 1 (.tmp 32) none (some (.tmp 33)) none, none⟩,
    ⟨(some 35), .mov (.tmp 8), none⟩,
    ⟨(some 36), .mov (.tmp 7), none⟩,
    ⟨(some 37), .bin .add (.tmp 35) (.tmp 36), none⟩,
    ⟨(some 38), .mov (.tmp 1), none⟩,
    ⟨(some 39), .bin .sub (.tmp 37) (.tmp 38), none⟩,
    ⟨(some 40), .appendZ 1 bytes [z] (.tmp 34) (.tmp 39), none⟩,
    ⟨(some 9), .mov (.tmp 40), none⟩])
  (.seq (.ops [⟨(some 41), .mov (.tmp 9), none⟩,
    ⟨(some 42), .mov (.tmp 1), none⟩,
    ⟨(some 43), .slc 1 (.tmp 41) (some (.tmp 42)) none none, none⟩,
    ⟨(some 44), .mov (.tmp 2), none⟩,
    ⟨(some 45), .copy 1 (.tmp 43) (.tmp 44), none⟩])
  (.seq (.ops [⟨(some 46), .mov (.tmp 9), none⟩,
    ⟨(some 47), .mov (.tmp 1), none⟩,
    ⟨(some 48), .mov (.tmp 7), none⟩,
    ⟨(some 49), .bin .add (.tmp 47) (.tmp 48), none⟩,
    ⟨(some 50), .slc 1 (.tmp 46) (some (.tmp 49)) none none, none⟩,
    ⟨(some 51), .mov (.tmp 0), none⟩,
    ⟨(some 52), .mov (.tmp 1), none⟩,
    ⟨(some 53), .slc 1 (.tmp 51) (some (.tmp 52)) none none, none⟩,
    ⟨(some 54), .copy 1 (.tmp 50) (.tmp 53), none⟩])
  (.seq (.ops [⟨(some 55), .mov (.tmp 9), none⟩,
    ⟨(some 6), .mov (.tmp 55), none⟩])
  .ret))))
  .skip))
  (.seq (.ops [⟨(some 56), .mov (.tmp 0), none⟩,
    ⟨(some 57), .mov (.tmp 8), none⟩,
    ⟨(some 58), .mov (.tmp 7), none⟩,
    ⟨(some 59), .bin .add (.tmp 57) (.tmp 58), none⟩,
    ⟨(some 60), .slc 1 (.tmp 56) none (some (.tmp 59)) none, none⟩,
    ⟨(some 0), .mov (.tmp 60), none⟩])
  (.seq (.seq (.ops [⟨(some 61), .mov (.tmp 2), none⟩,
    ⟨(some 62), .mov (.tmp 0), none⟩,
    ⟨(some 63), .mov (.tmp 1), none⟩,
    ⟨(some 64), .mov (.tmp 7), none⟩,
    ⟨(some 65), .bin .add (.tmp 63) (.tmp 64), none⟩,
    ⟨(some 66), .slc 1 (.tmp 62) (some (.tmp 65)) none none, none⟩,
    ⟨(some 67), .call gv [(.tmp 61), (.tmp 66)], none⟩,
    ⟨(some 68), .un .not (.tmp 67), none⟩])
  (.cond (.tmp 68)
  (.seq (.ops [⟨(some 69), .mov (.tmp 0), none⟩,
    ⟨(some 70), .mov (.tmp 1), none⟩,
    ⟨(some 71), .mov (.tmp 7), none⟩,
    ⟨(some 72), .bin .add (.tmp 70) (.tmp 71), none⟩,
    ⟨(some 73), .slc 1 (.tmp 69) (some (.tmp 72)) none none, none⟩,
    ⟨(some 74), .mov (.tmp 0), none⟩,
    ⟨(some 75), .mov (.tmp 1), none⟩,
    ⟨(some 76), .slc 1 (.tmp 74) (some (.tmp 75)) none none, none⟩,
    ⟨(some 77), .copy 1 (.tmp 73) (.tmp 76), none⟩])
  (.seq (.ops [⟨(some 78), .mov (.tmp 0), none⟩,
    ⟨(some 79), .mov (.tmp 1), none⟩,
    ⟨(some 80), .slc 1 (.tmp 78) (some (.tmp 79)) none none, none⟩,
    ⟨(some 81), .mov (.tmp 2), none⟩,
    ⟨(some 82), .copy 1 (.tmp 80) (.tmp 81), none⟩])
  (.seq (.ops [⟨(some 83), .mov (.tmp 0), none⟩,
    ⟨(some 6), .mov (.tmp 83), none⟩])
  .ret)))
  .skip))
  (.seq (.ops [⟨(some 84), .mov (.tmp 0), none⟩,
    ⟨(some 85), .mov (.tmp 8), none⟩,
    ⟨(some 86), .slc 1 (.tmp 84) (some (.tmp 85)) none none, none⟩,
    ⟨(some 87), .mov (.tmp 2), none⟩,
    ⟨(some 88), .copy 1 (.tmp 86) (.tmp 87), none⟩])
  (.seq (.ops [⟨(some 89), .mov (.tmp 0), none⟩,
    ⟨(some 90), .mov (.tmp 1), none⟩,
    ⟨(some 91), .slc 1 (.tmp 89) (some (.tmp 90)) none none, none⟩,
    ⟨(some 92), .mov (.tmp 7), none⟩,
    ⟨(some 93), .call gr [(.tmp 91), (.tmp 92)], none⟩])
  (.seq (.ops [⟨(some 94), .mov (.tmp 0), none⟩,
    ⟨(some 6), .mov (.tmp 94), none⟩])
  .ret))))))))))))
def aInsert (bytes : Nat) (z : AV) (gv gr : Nat) : AFunc := ⟨3, cInsert bytes z gv gr, [.tmp 6]⟩
/-- What is there behind. -/
def putIn (xs vs : List AV) (i : Nat) : List AV := xs.take i ++ vs ++ xs.drop i
end Go.Vm
/- slices.Insert: a contract for slices whose room is open. -/
namespace Go.Vm
open Go.RowKit
set_option linter.unusedSimpArgs false
set_option linter.unusedVariables false
variable {P : Program} {T : Vm.Prog} {h : AH}
def insCells (h : AH) (o off len i vo voff m : Nat) : Option (List AV) :=
  match h.get o, h.get vo with
  | some (.cells l true), some (.cells vl true) =>
    if (i < len ∧ 1 ≤ m ∧ vo ≠ o ∧ off + len ≤ l.length ∧ voff + m ≤ vl.length ∧ len + m ≤ 1000000) ∧ ((l.drop off).take len).all AV.flat = true ∧ ((vl.drop voff).take m).all AV.flat = true then some (putIn ((l.drop off).take len) ((vl.drop voff).take m) i) else none
  | _, _ => none
/-- slices.Insert: into a slice whose room is open it makes a new one of the old. -/
def insV (k : List AV → AH → Option (AV × AH)) (args : List AV) (h : AH) : Option (AV × AH) := match args with
  | [.slice o off 1 len cap false, .int .i64 (.ofNat i), .slice vo voff 1 m vcap vex] => match insCells h o off len i vo voff m with
    | some l => some (.slice h.next 0 1 (len + m) (len + m) false, (h.set o .dead).new (.cells l true))
    | none => k args h
  | _ => k args h
/-- A table, with what stands in for slices.overlaps and slices.Insert at two element types each. -/
def withOvl (func : Nat → Option AFunc) (v1 v2 : Nat) : Prog := ⟨func, fun n => if n = v1 then some ovl else if n = v2 then some ovl else none⟩
def insAt (func : Nat → Option AFunc) (v1 v2 g : Nat) : List AV → AH → Option (AV × AH) := insV fun a h => arun (withOvl func v1 v2) 1000 g a h
def withIns (func : Nat → Option AFunc) (v1 v2 i1 i2 : Nat) : Prog := ⟨func, fun n => if n = v1 then some ovl else if n = v2 then some ovl else if n = i1 then some (insAt func v1 v2 i1) else if n = i2 then some (insAt func v1 v2 i2) else none⟩
/-- The same for laws, the closed sentence beside. -/
noncomputable def insRun (func : Nat → Option AFunc) (v1 v2 g : Nat) : List AV → AH → Option (AV × AH) := insV fun a h => run (withOvl func v1 v2) g a h
noncomputable def lawIns (func : Nat → Option AFunc) (y v1 v2 i1 i2 : Nat) : Prog := ⟨func, fun n => if n = y then some yes else if n = v1 then some ovl else if n = v2 then some ovl else if n = i1 then some (insRun func v1 v2 i1) else if n = i2 then some (insRun func v1 v2 i2) else none⟩
end Go.Vm
/- slices.Insert of one element, as laws use it. -/
namespace Go.Vm
open Go.RowKit
set_option linter.unusedSimpArgs false
set_option linter.unusedVariables false
set_option maxRecDepth 100000
variable {T : Vm.Prog} {h : AH}
/-- A row of elements of one cell each. -/
def Row1 (h : AH) (v : AV) (xs : List AV) : Prop := RowS h 1 v (xs.map fun x => [x])
theorem Row1.get {l xs : List AV} (h3 : ∀ (i : Nat) (x : List AV), (xs.map fun x => [x])[i]? = some x → x.length = 1 ∧ ∀ (j : Nat) (y : AV), x[j]? = some y → l[i * 1 + j]? = some y) : ∀ (i : Nat) (x : AV), xs[i]? = some x → l[i]? = some x := fun i x hx => by
  have := (h3 i [x] (by rw [List.getElem?_map, hx]; rfl)).2 0 x rfl
  simpa using this
theorem row1_of {o cap n : Nat} {ex : Bool} {l : List AV} {xs : List AV} (hg : h.get o = some (.cells l true)) (h1 : l.length = cap) (hn : n = xs.length) (h2 : xs.length ≤ cap) (h3 : ∀ (i : Nat) (x : AV), xs[i]? = some x → l[i]? = some x) : Row1 h (.slice o 0 1 n cap ex) xs := by
  subst hn
  refine .inr ⟨o, cap, ex, l, by simp, hg, by simpa using h1, by simpa using h2, fun i x hx => ?_⟩
  rw [List.getElem?_map] at hx
  cases hy : xs[i]? with
  | none => simp [hy] at hx
  | some y =>
    simp [hy] at hx
    subst hx
    refine ⟨rfl, fun j z hz => ?_⟩
    cases j with
    | zero => simp at hz; subst hz; simpa using h3 i y hy
    | succ j => simp at hz
theorem Row1.seg {l xs : List AV} (h2 : xs.length ≤ l.length) (h3 : ∀ (i : Nat) (x : AV), xs[i]? = some x → l[i]? = some x) : (l.drop 0).take xs.length = xs := by
  rw [List.drop_zero]
  apply List.ext_getElem?
  intro i
  rw [List.getElem?_take]
  by_cases hi : i < xs.length
  · rw [if_pos hi, List.getElem?_eq_getElem hi]; exact h3 i _ (List.getElem?_eq_getElem hi)
  · rw [if_neg hi, List.getElem?_eq_none (by omega)]
end Go.Vm
/- Functions of the standard library and of the statements, whatever their element's type. -/
namespace Go.Vm
open Go.RowKit
set_option linter.unusedSimpArgs false
set_option linter.unusedVariables false
set_option maxRecDepth 100000
variable {T : Vm.Prog} {h : AH}
theorem Row1.sees {v : AV} {xs : List AV} (r : Row1 h v xs) : Sees h v xs := SeesS.one (RowS.sees r) rfl
def cSamel0 : ACode := (.seq (.seq (.ops [⟨(some 11), .mov (.tmp 5), none⟩,
    ⟨(some 12), .mov (.tmp 0), none⟩,
    ⟨(some 13), .lenSlice (.tmp 12), none⟩,
    ⟨(some 14), .bin .lss (.tmp 11) (.tmp 13), none⟩])
  (.cond (.tmp 14)
  .skip
  (.exit 0)))
  (.seq (.block 1 (.seq (.ops [⟨(some 17), .mov (.tmp 0), none⟩,
    ⟨(some 18), .mov (.tmp 5), none⟩,
    ⟨(some 19), .idxAddr 1 (.tmp 17) (.tmp 18), none⟩,
    ⟨(some 20), .load false 1 (.tmp 19), none⟩,
    ⟨(some 21), .mov (.tmp 1), none⟩,
    ⟨(some 22), .mov (.tmp 5), none⟩,
    ⟨(some 23), .idxAddr 1 (.tmp 21) (.tmp 22), none⟩,
    ⟨(some 24), .load false 1 (.tmp 23), none⟩,
    ⟨(some 25), .bin .neq (.tmp 20) (.tmp 24), none⟩])
  (.cond (.tmp 25)
  (.seq (.ops [⟨(some 4), .mov (.con (.bool false)), none⟩])
  .ret)
  .skip)))
  (.ops [⟨(some 15), .mov (.tmp 5), none⟩,
    ⟨(some 16), .bin .add (.tmp 15) (.con (.int .i64 1)), none⟩,
    ⟨(some 5), .mov (.tmp 16), none⟩])))
def cSame : ACode := (.seq (.ops [⟨(some 4), .mov (.con (.bool false)), none⟩])
  (.seq (.seq (.ops [⟨(some 6), .mov (.tmp 0), none⟩,
    ⟨(some 7), .lenSlice (.tmp 6), none⟩,
    ⟨(some 8), .mov (.tmp 1), none⟩,
    ⟨(some 9), .lenSlice (.tmp 8), none⟩,
    ⟨(some 10), .bin .neq (.tmp 7) (.tmp 9), none⟩])
  (.cond (.tmp 10)
  (.seq (.ops [⟨(some 4), .mov (.con (.bool false)), none⟩])
  .ret)
  .skip))
  (.seq (.seq (.ops [⟨(some 5), .mov (.con (.int .i64 0)), none⟩])
  (.block 0 (.loop cSamel0)))
  (.seq (.ops [⟨(some 4), .mov (.con (.bool true)), none⟩])
  .ret))))
def aSame : AFunc := ⟨2, cSame, [.tmp 4]⟩
/-- tendrilbook.Same of integers. -/
theorem sameG_ok {g : Nat} {k : IntKind} (he : T.env g = none) (hf : T.func g = some aSame) {va vb : AV} {xs ys : List Int} (hx : Sees h va (xs.map (.int k))) (hy : Sees h vb (ys.map (.int k))) (hl : xs.length < 9223372036854775807) (hl' : ys.length < 9223372036854775807) :
    Gives T g [va, vb] h fun r h' => r = .bool (decide (xs = ys)) ∧ h' = h := by
  refine gives_func he hf rfl ?_
  simp only [aSame, cSame, vms, vmc, AOpd.val, Nat.reduceEqDiff, reduceCtorEq, Nat.reduceAdd, Nat.reduceBEq, hx.len, hy.len]
  split
  · rename_i hne
    have : xs ≠ ys := fun e => by subst e; simp at hne
    simp [this]
  · rename_i hne
    have hlen : xs.length = ys.length := by
      have := hne; simp at this; omega
    refine wpc_loop (fun m f h' => ∃ i, m = xs.length - i ∧ i ≤ xs.length ∧ h' = h ∧ f.at 0 = va ∧ f.at 1 = vb ∧ f.at 5 = .int .i64 (i : Nat) ∧ ∀ j, j < i → xs[j]? = ys[j]?) ?_ xs.length _ _ ⟨0, by simp, by simp, rfl, ?_⟩
    · rintro m f h' ⟨i, rfl, hi, rfl, h0, h1, h5, hpre⟩
      simp only [cSamel0, vms, vmc, AOpd.val, Nat.reduceEqDiff, reduceCtorEq, Nat.reduceAdd, Nat.reduceBEq, h0, h1, h5, hx.len, hy.len]
      split
      · rename_i hlt
        have hlt : i < xs.length := by simpa using hlt
        obtain ⟨x, hxi⟩ : ∃ x, xs[i]? = some x := ⟨_, List.getElem?_eq_getElem hlt⟩
        obtain ⟨y, hyi⟩ : ∃ y, ys[i]? = some y := ⟨_, List.getElem?_eq_getElem (hlen ▸ hlt)⟩
        obtain ⟨p, hp1, hp2⟩ := hx.at (i := i) (x := .int k x) (by simp [hxi]) .i64
        obtain ⟨q, hq1, hq2⟩ := hy.at (i := i) (x := .int k y) (by simp [hyi]) .i64
        simp only [vms, vmc, AOpd.val, Nat.reduceEqDiff, reduceCtorEq, Nat.reduceAdd, Nat.reduceBEq, h0, h1, h5, hp1, hp2, hq1, hq2]
        split
        · rename_i hne
          have : xs ≠ ys := fun e => by subst e; rw [hxi] at hyi; cases hyi; simp at hne
          simp [this]
        · rename_i heq
          have heq : x = y := by simpa using heq
          subst heq
          refine ⟨xs.length - (i + 1), by omega, i + 1, rfl, by omega, trivial, ?_⟩
          have hw : IntKind.i64.wrap ((i : Int) + 1) = ((i + 1 : Nat) : Int) := by rw [wrap_i64 (by omega) (by omega)]; rfl
          simp only [vms, vmc, AOpd.val, Nat.reduceEqDiff, reduceCtorEq, Nat.reduceAdd, Nat.reduceBEq, h0, h1, h5, hw]
          refine ⟨trivial, trivial, trivial, fun j hj => ?_⟩
          by_cases e : j = i
          · subst e; rw [hxi, hyi]
          · exact hpre j (by omega)
      · rename_i hge
        have hge : ¬ i < xs.length := by simpa using hge
        have : xs = ys := by
          apply List.ext_getElem?
          intro j
          by_cases hj : j < i
          · exact hpre j hj
          · rw [List.getElem?_eq_none (by omega), List.getElem?_eq_none (by omega)]
        simp [this]
    · simp only [vms, vmc, AOpd.val, Nat.reduceEqDiff, reduceCtorEq, Nat.reduceAdd, Nat.reduceBEq]
      simp
def cGrow (bytes : Nat) (z : AV) : ACode := (.seq (.ops [⟨(some 4), .mov (.con .nilSlice), none⟩])
  (.seq (.seq (.ops [⟨(some 5), .mov (.tmp 1), none⟩,
    ⟨(some 6), .bin .lss (.tmp 5) (.con (.int .i64 0)), none⟩])
  (.cond (.tmp 6)
  (.ops [⟨(some 7), .mkIface 9 (.con (.str [99, 97, 110, 110, 111, 116, 32, 98, 101, 32, 110, 101, 103, 97, 116, 105, 118, 101])), none⟩,
    ⟨none, .stuck, none⟩])
  .skip))
  (.seq (.seq (.ops [⟨(some 8), .mov (.tmp 1), none⟩,
    ⟨(some 9), .mov (.tmp 0), none⟩,
    ⟨(some 10), .capSlice (.tmp 9), none⟩,
    ⟨(some 11), .mov (.tmp 0), none⟩,
    ⟨(some 12), .lenSlice (.tmp 11), none⟩,
    ⟨(some 13), .bin .sub (.tmp 10) (.tmp 12), none⟩,
    ⟨(some 14), .bin .sub (.tmp 8) (.tmp 13), none⟩,
    ⟨(some 1), .mov (.tmp 14), none⟩])
  (.seq (.ops [⟨(some 15), .mov (.tmp 1), none⟩,
    ⟨(some 16), .bin .gtr (.tmp 15) (.con (.int .i64 0)), none⟩])
  (.cond (.tmp 16)
  (.ops [⟨(some 17), .mov (.tmp 0), none⟩,
    ⟨(some 18), .mov (.tmp 0), none⟩,
    ⟨(some 19), .capSlice (.tmp 18), none⟩,
    ⟨(some 20), .slc 1 (.tmp 17) none (some (.tmp 19)) none, none⟩,
    ⟨(some 21), .mov (.tmp 1), none⟩,
    ⟨(some 22), .appendZ 1 bytes [z] (.tmp 20) (.tmp 21), none⟩,
    ⟨(some 23), .mov (.tmp 0), none⟩,
    ⟨(some 24), .lenSlice (.tmp 23), none⟩,
    ⟨(some 25), .slc 1 (.tmp 22) none (some (.tmp 24)) none, none⟩,
    ⟨(some 0), .mov (.tmp 25), none⟩])
  .skip)))
  (.seq (.ops [⟨(some 26), .mov (.tmp 0), none⟩,
    ⟨(some 4), .mov (.tmp 26), none⟩])
  .ret))))
def aGrow (bytes : Nat) (z : AV) : AFunc := ⟨2, cGrow bytes z, [.tmp 4]⟩
def cConcatl0 : ACode := (.seq (.ops [⟨(some 12), .bin .lss (.tmp 11) (.tmp 10), none⟩])
  (.seq (.cond (.tmp 12)
  .skip
  (.exit 0))
  (.seq (.block 1 (.seq (.ops [⟨(some 13), .idxAddr 1 (.tmp 9) (.tmp 11), none⟩,
    ⟨(some 14), .load false 1 (.tmp 13), none⟩,
    ⟨(some 5), .mov (.tmp 14), none⟩])
  (.seq (.ops [⟨(some 15), .mov (.tmp 3), none⟩,
    ⟨(some 16), .mov (.tmp 5), none⟩,
    ⟨(some 17), .lenSlice (.tmp 16), none⟩,
    ⟨(some 18), .bin .add (.tmp 15) (.tmp 17), none⟩,
    ⟨(some 3), .mov (.tmp 18), none⟩])
  (.seq (.ops [⟨(some 19), .mov (.tmp 3), none⟩,
    ⟨(some 20), .bin .lss (.tmp 19) (.con (.int .i64 0)), none⟩])
  (.cond (.tmp 20)
  (.ops [⟨(some 21), .mkIface 9 (.con (.str [108, 101, 110, 32, 111, 117, 116, 32, 111, 102, 32, 114, 97, 110, 103, 101])), none⟩,
    ⟨none, .stuck, none⟩])
  .skip)))))
  (.ops [⟨(some 22), .bin .add (.tmp 11) (.con (.int .i64 1)), none⟩,
    ⟨(some 11), .mov (.tmp 22), none⟩]))))
def cConcatl1 (bytes : Nat) : ACode := (.seq (.ops [⟨(some 28), .bin .lss (.tmp 27) (.tmp 26), none⟩])
  (.seq (.cond (.tmp 28)
  .skip
  (.exit 2))
  (.seq (.block 3 (.seq (.ops [⟨(some 29), .idxAddr 1 (.tmp 25) (.tmp 27), none⟩,
    ⟨(some 30), .load false 1 (.tmp 29), none⟩,
    ⟨(some 8), .mov (.tmp 30), none⟩])
  (.ops [⟨(some 31), .mov (.tmp 6), none⟩,
    ⟨(some 32), .mov (.tmp 8), none⟩,
    ⟨(some 33), .append 1 bytes (.tmp 31) (.tmp 32), none⟩,
    ⟨(some 6), .mov (.tmp 33), none⟩])))
  (.ops [⟨(some 34), .bin .add (.tmp 27) (.con (.int .i64 1)), none⟩,
    ⟨(some 27), .mov (.tmp 34), none⟩]))))
def cConcat (bytes gg : Nat) : ACode := (.seq (.ops [⟨(some 2), .mov (.con .nilSlice), none⟩])
  (.seq (.ops [⟨(some 3), .mov (.con (.int .i64 0)), none⟩])
  (.seq (.seq (.ops [⟨(some 9), .mov (.tmp 0), none⟩,
    ⟨(some 10), .lenSlice (.tmp 9), none⟩,
    ⟨(some 11), .mov (.con (.int .i64 0)), none⟩])
  (.block 0 (.loop cConcatl0)))
  (.seq (.ops [⟨(some 23), .mov (.tmp 3), none⟩,
    ⟨(some 24), .call gg [(.con .nilSlice), (.tmp 23)], none⟩,
    ⟨(some 6), .mov (.tmp 24), none⟩])
  (.seq (.seq (.ops [⟨(some 25), .mov (.tmp 0), none⟩,
    ⟨(some 26), .lenSlice (.tmp 25), none⟩,
    ⟨(some 27), .mov (.con (.int .i64 0)), none⟩])
  (.block 2 (.loop (cConcatl1 bytes))))
  (.seq (.ops [⟨(some 35), .mov (.tmp 6), none⟩,
    ⟨(some 2), .mov (.tmp 35), none⟩])
  .ret))))))
def aConcat (bytes gg : Nat) : AFunc := ⟨1, cConcat bytes gg, [.tmp 2]⟩
/-- Elements of a slice, all at once. -/
theorem sees_elems {v : AV} {xs : List AV} (s : Sees h v xs) : h.elems 1 xs.length v = some xs := by
  rcases s with ⟨rfl, rfl⟩ | ⟨o, off, cap, ex, l, rw', rfl, hg, h1, h2⟩
  · rfl
  · simp only [AH.elems, true_and, Nat.le_refl, if_true, load_of hg, Nat.mul_one]
    rw [if_pos h1]
    congr 1
    apply List.ext_getElem?
    intro i
    rw [List.getElem?_take]
    by_cases hi : i < xs.length
    · rw [if_pos hi, List.getElem?_drop, h2 i _ (List.getElem?_eq_getElem hi), List.getElem?_eq_getElem hi]
    · rw [if_neg hi, List.getElem?_eq_none (by omega)]
/-- A row that is filled: there is room for n. -/
def Cat (h : AH) (v : AV) (xs : List AV) (n : Nat) : Prop := (v = .nilSlice ∧ xs = [] ∧ n = 0) ∨ ∃ o l, v = .slice o 0 1 xs.length n false ∧ h.get o = some (.cells l true) ∧ l.length = n ∧ xs.length ≤ n ∧ ∀ (i : Nat) (x : AV), xs[i]? = some x → l[i]? = some x
theorem Cat.row {v : AV} {xs : List AV} {n : Nat} (c : Cat h v xs n) : Row1 h v xs := by
  rcases c with ⟨rfl, rfl, _⟩ | ⟨o, l, rfl, hg, h1, h2, h3⟩
  · exact .inl ⟨rfl, rfl⟩
  · exact row1_of hg h1 rfl h2 h3
theorem Cat.append {v w : AV} {xs ys : List AV} {n bytes : Nat} (c : Cat h v xs n) (s : Sees h w ys) (hn : xs.length + ys.length ≤ n) (hf : ∀ y ∈ ys, AV.flat y = true) :
    ∃ v' h', appV 1 bytes h v w = some (v', h') ∧ Cat h' v' (xs ++ ys) n ∧ objs v' = objs v ∧ h'.next = h.next ∧ (∀ q, q ∉ objs v → h'.get q = h.get q) := by
  have hel := sees_elems s
  have ln := s.len
  rcases c with ⟨rfl, rfl, rfl⟩ | ⟨o, l, rfl, hg, h1, h2, h3⟩
  · have : ys = [] := List.eq_nil_of_length_eq_zero (by simp only [List.length_nil] at hn; omega)
    subst this
    refine ⟨.nilSlice, h, ?_, .inl ⟨rfl, rfl, rfl⟩, rfl, rfl, fun _ _ => rfl⟩
    simp only [appV, ln, Option.bind_some, hel, appendV]
    rfl
  · by_cases h0 : ys.length = 0
    · have : ys = [] := List.eq_nil_of_length_eq_zero h0
      subst this
      refine ⟨.slice o 0 1 xs.length n false, h, ?_, ?_, rfl, rfl, fun _ _ => rfl⟩
      · simp only [appV, ln, Option.bind_some, hel, appendV, if_true]
        rw [if_pos (by simp; omega)]
        simp
      · rw [List.append_nil]; exact .inr ⟨o, l, rfl, hg, h1, h2, h3⟩
    · obtain ⟨z1, z2⟩ := setMany_get l ys xs.length
      obtain ⟨z3, z4, z5⟩ := z2 (by omega)
      refine ⟨.slice o 0 1 (xs.length + ys.length) n false, h.set o (.cells (setMany l xs.length ys) true), ?_, .inr ⟨o, setMany l xs.length ys, by rw [List.length_append], get_set_same, by rw [z1]; exact h1, by rw [List.length_append]; exact hn, fun i x hx => ?_⟩, rfl, rfl, fun q hq => ?_⟩
      · simp only [appV, ln, Option.bind_some, hel, appendV, if_true]
        rw [if_pos hn, if_neg (by omega)]
        simp only [AH.store, hg, Nat.mul_one, Nat.zero_add]
        rw [if_pos ⟨by omega, by rw [List.all_eq_true]; exact hf⟩]
        rfl
      · by_cases hi : i < xs.length
        · rw [List.getElem?_append_left hi] at hx
          rw [z3 i hi]; exact h3 i x hx
        · rw [List.getElem?_append_right (by omega)] at hx
          have := z4 _ x hx
          rwa [show xs.length + (i - xs.length) = i by omega] at this
      · simp [objs] at hq
        rw [AH.get_set, if_neg (Ne.symm hq)]
theorem loop_once {c : ACode} {f : Fr} {Q : AExit → Fr → AH → Prop} (hw : Wp (code T c f h) (Then (fun f h => Wp (code T (.loop c) f h) Q) Q)) : Wp (code T (.loop c) f h) Q := by
  rw [code_loop, Wp_then]
  exact hw.mono fun e f' h' hq => by cases e <;> exact hq
/-! ### function values -/
def callVal (call : Handler) (v : AV) (args : List AV) (h : AH) : Option (AV × AH) := match v with
  | .func (.func g) first caps => call g (first ++ args ++ caps) h
  | _ => none
theorem step_callV {call : Handler} {f : Fr} {x : AOpd} {args : List AOpd} : stepV call (.callV x args) f h = callVal call (x.val f) (args.map (·.val f)) h := by
  unfold stepV
  simp only [AOp.eval, callVal]
  generalize x.val f = v
  cases v with
  | func fn a c => cases fn <;> rfl
  | _ => rfl
theorem callVal_func {call : Handler} {g : Nat} {args : List AV} : callVal call (.func (.func g) [] []) args h = call g args h := by
  simp [callVal]
end Go.Vm

/- What the model answers itself: slices.overlaps. Memory under another name. -/
import Derived.Test.YtpabmkicdcilpaaVmZj
import Derived.Lib.Overlaps
namespace Go.Vm
open Go.RowKit
set_option linter.unusedSimpArgs false
set_option linter.unusedVariables false
section
variable {P : Program} {N : Nat} {w₀ w : World} {μ : Inj} {h : AH}
theorem R.congr (r : R N w₀ μ h w) {h' : AH} (hn : h'.next = h.next) (hg : ∀ o, h'.get o = h.get o) : R N w₀ μ h' w := by
  have hs : ∀ o, h'.solid o = h.solid o := fun o => by unfold AH.solid; rw [hg]
  exact ⟨r.below, r.fresh, fun o x hx => by rw [hn]; exact r.dom o x hx, fun o b base size x ho hx => r.obj o b base size x ho (by rw [← hg]; exact hx), fun o p x y ho hp hne so sp => r.inj o p x y ho hp hne (by rw [← hs]; exact so) (by rw [← hs]; exact sp)⟩
theorem setRow_self {b : Nat} {C : Array Value} {e : TypeId} {fz : Nat × Nat} (hb : w.heap[b]? = some (.cells C e fz)) : w.setRow b C = w := by
  have hh : (w.setRow b C).heap = w.heap := by
    apply Array.ext_getElem?
    intro k
    by_cases hk : k = b
    · subst hk; rw [hb]; exact setRow_heap w k C C e fz hb
    · exact setRow_other w b k C hk
  have : w.setRow b C = { w with heap := (w.setRow b C).heap } := rfl
  rw [this, hh]
/-- Less is known of an object. -/
theorem R.blur (r : R N w₀ μ h w) {o b base size : Nat} {l l' : List AV} (ho : μ o = some (b, base, size)) (hg : h.get o = some (.cells l true)) (hl : base + l'.length ≤ size) (hrel : ∀ (i : Nat) (u : AV), l'[i]? = some u → u = AV.undef ∨ l[i]? = some u) : R N w₀ μ (h.set o (.cells l' true)) w := by
  obtain ⟨C, e, fz, hb, hC, h3, h4, h5⟩ := r.obj o b base size _ ho hg
  have := r.setRow (l' := l') ho hg hb (C' := C) hC hl (fun i u v hu hv => (hrel i u hu).elim (fun e => e ▸ .undef v) (fun h => h4 i u v h hv))
  rwa [setRow_self hb] at this
/-- An object goes on under a new number. -/
theorem R.pull (r : R N w₀ μ h w) {o b base size k : Nat} {l l' : List AV} (ho : μ o = some (b, base, size)) (hg : h.get o = some (.cells l true)) (hl : base + k + l'.length ≤ size) (hrel : ∀ (i : Nat) (u : AV), l'[i]? = some u → l[k + i]? = some u) :
    Inj.le μ (Inj.add μ h.next (b, base + k, size)) ∧ R N w₀ (Inj.add μ h.next (b, base + k, size)) ((h.set o .dead).new (.cells l' true)) w := by
  obtain ⟨C, e, fz, hb, hC, h3, h4, h5⟩ := r.obj o b base size _ ho hg
  have := r.rename (boff := base + k) (l' := l') ho hg hb (by omega) (C' := C) hC hl (fun i u v hu hv => h4 (k + i) u v (hrel i u hu) (by rw [← Nat.add_assoc]; exact hv))
  rwa [setRow_self hb] at this
theorem R.next_none (r : R N w₀ μ h w) : μ h.next = none := by
  cases hm : μ h.next with
  | none => rfl
  | some y => have := r.dom _ _ hm; omega
/-! ### slices.overlaps: slices of two objects that the program made -/
def ovl : List AV → AH → Option (AV × AH)
  | [.slice o1 _ _ _ _ _, .slice o2 _ _ _ _ _], h => match h.get o1, h.get o2 with
    | some (.cells _ true), some (.cells (_ :: _) true) => if o1 = o2 then none else some (.bool false, h)
    | _, _ => none
  | _, _ => none
theorem ovl_ok {g : Nat} {fn : Func} {tS tR e : TypeId} {inf : TypeInfo} (hf : P.funcs[g]? = some fn) (hname : (fn.name == "runtime.NumGoroutine") = false) (hb : fn.body.isNone = true) (hn : Extern.findNext fn = none)
    (he : Extern.find fn = some (Extern.SlicesOverlaps.overlaps #[tS, tS] #[tR])) (ht : P.underlying tS = some (.slice e)) (hi : P.info? e = some inf) : ∀ args h r h', ovl args h = some (r, h') → CSim P g args h r h' := by
  intro args h r h' hr
  right
  intro N w₀ μ w vargs hR hv
  unfold ovl at hr
  split at hr
  · rename_i o1 off1 sz1 l1 c1 e1 o2 off2 sz2 l2 c2 e2
    split at hr
    · rename_i m1 x m2 hg1 hg2
      split at hr
      · cases hr
      · rename_i hne
        cases hr
        obtain ⟨v1, v2, rfl⟩ : ∃ v1 v2, vargs = #[v1, v2] := by
          obtain ⟨l⟩ := vargs
          have h2 := hv.1
          match l, h2 with
          | [v1, v2], _ => exact ⟨v1, v2, rfl⟩
        obtain ⟨b1, base1, size1, boff1, cap1, hm1, rfl, _⟩ := hv.head.slice_inv
        obtain ⟨b2, base2, size2, boff2, cap2, hm2, rfl, _⟩ := hv.tail.head.slice_inv
        obtain ⟨C1, t1, fz1, hb1, hC1, _, _, h15⟩ := hR.obj _ _ _ _ _ hm1 hg1
        obtain ⟨C2, t2, fz2, hb2, hC2, hl2, _, h25⟩ := hR.obj _ _ _ _ _ hm2 hg2
        simp at h15 h25
        have hbb : b1 ≠ b2 := hR.inj _ _ _ _ hm1 hm2 hne (solid_iff.2 ⟨_, hg1, rfl⟩) (solid_iff.2 ⟨_, hg2, rfl⟩)
        have hfr : ∀ k, w.frozen? ⟨b1, k, none⟩ = false := fun k => by
          simp only [World.frozen?, hb1]
          have := h15.2
          obtain ⟨lo, hi⟩ := fz1
          simp at this
          subst this
          simp
        refine ⟨μ, w, _, .refl (Nat.le_refl _), hR, .bool false, ?_⟩
        rw [run_callFunc_extern hf hname hb hn he, Lib.run_overlaps_apart w tS tR e ht inf.size (run_sizeOf' hi) ⟨b1, boff1, none⟩ ⟨b2, boff2, none⟩ l1 cap1 l2 cap2 hbb t1 t2 C1.size C2.size (by simp [World.shape?, hb1]) (by simp [World.shape?, hb2]) (by simp at hl2; omega) (hfr _) (hfr _)]
        rfl
    · cases hr
  · cases hr
end
end Go.Vm
/- slices.Insert: what it does to a slice whose room is known. -/
namespace Go.Vm
open Go.RowKit
set_option linter.unusedSimpArgs false
set_option linter.unusedVariables false
set_option maxRecDepth 100000
variable {T : Vm.Prog} {h : AH} {f : Fr} {call : Handler}
def appZV (sz bytes : Nat) (zero : List AV) (h : AH) (s n : AV) : Option (AV × AH) := (natOf n).bind fun k => if k ≤ 9223372036854775807 ∧ k * bytes ≤ 281474976710656 then appendV sz bytes s (rep zero k) k h else none
theorem step_appendZ {sz bytes : Nat} {zero : List AV} {s n : AOpd} : stepV call (.appendZ sz bytes zero s n) f h = appZV sz bytes zero h (s.val f) (n.val f) :=
  stepV_val (by
    simp only [AOp.eval, appZV]
    generalize n.val f = p; generalize s.val f = q
    generalize natOf p = k
    cases k with
    | none => rfl
    | some k =>
      simp only [Option.bind_some]
      split <;> rfl)
def capV : AV → Option AV
  | .nilSlice => some (.int .i64 0)
  | .slice _ _ _ _ c true => some (.int .i64 c)
  | _ => none
theorem step_capSlice {x : AOpd} : stepV call (.capSlice x) f h = (capV (x.val f)).map (·, h) :=
  stepV_val (by
    simp only [AOp.eval, capV]
    generalize x.val f = p
    cases p with
    | slice o off sz l c ex => cases ex <;> rfl
    | _ => rfl)
def cInsert (bytes : Nat) (z : AV) (gv gr : Nat) : ACode := (.seq (.ops [⟨(some 6), .mov (.con .nilSlice), none⟩])
  (.seq (.ops [⟨(some 10), .mov (.tmp 0), none⟩,
    ⟨(some 11), .mov (.tmp 1), none⟩,
    ⟨(some 12), .slc 1 (.tmp 10) (some (.tmp 11)) none none, none⟩])
  (.seq (.ops [⟨(some 13), .mov (.tmp 2), none⟩,
    ⟨(some 14), .lenSlice (.tmp 13), none⟩,
    ⟨(some 7), .mov (.tmp 14), none⟩])
  (.seq (.seq (.ops [⟨(some 15), .mov (.tmp 7), none⟩,
    ⟨(some 16), .bin .eql (.tmp 15) (.con (.int .i64 0)), none⟩])
  (.cond (.tmp 16)
  (.seq (.ops [⟨(some 17), .mov (.tmp 0), none⟩,
    ⟨(some 6), .mov (.tmp 17), none⟩])
  .ret)
  .skip))
  (.seq (.ops [⟨(some 18), .mov (.tmp 0), none⟩,
    ⟨(some 19), .lenSlice (.tmp 18), none⟩,
    ⟨(some 8), .mov (.tmp 19), none⟩])
  (.seq (.seq (.ops [⟨(some 20), .mov (.tmp 1), none⟩,
    ⟨(some 21), .mov (.tmp 8), none⟩,
    ⟨(some 22), .bin .eql (.tmp 20) (.tmp 21), none⟩])
  (.cond (.tmp 22)
  (.seq (.ops [⟨(some 23), .mov (.tmp 0), none⟩,
    ⟨(some 24), .mov (.tmp 2), none⟩,
    ⟨(some 25), .append 1 bytes (.tmp 23) (.tmp 24), none⟩,
    ⟨(some 6), .mov (.tmp 25), none⟩])
  .ret)
  .skip))
  (.seq (.seq (.ops [⟨(some 26), .mov (.tmp 8), none⟩,
    ⟨(some 27), .mov (.tmp 7), none⟩,
    ⟨(some 28), .bin .add (.tmp 26) (.tmp 27), none⟩,
    ⟨(some 29), .mov (.tmp 0), none⟩,
    ⟨(some 30), .capSlice (.tmp 29), none⟩,
    ⟨(some 31), .bin .gtr (.tmp 28) (.tmp 30), none⟩])
  (.cond (.tmp 31)
  (.seq (.ops [⟨(some 32), .mov (.tmp 0), none⟩,
    ⟨(some 33), .mov (.tmp 1), none⟩,
    ⟨(some 34), .slc 1 (.tmp 32) none (some (.tmp 33)) none, none⟩,
    ⟨(some 35), .mov (.tmp 8), none⟩,
    ⟨(some 36), .mov (.tmp 7), none⟩,
    ⟨(some 37), .bin .add (.tmp 35) (.tmp 36), none⟩,
    ⟨(some 38), .mov (.tmp 1), none⟩,
    ⟨(some 39), .bin .sub (.tmp 37) (.tmp 38), none⟩,
    ⟨(some 40), .appendZ 1 bytes [z] (.tmp 34) (.tmp 39), none⟩,
    ⟨(some 9), .mov (.tmp 40), none⟩])
  (.seq (.ops [⟨(some 41), .mov (.tmp 9), none⟩,
    ⟨(some 42), .mov (.tmp 1), none⟩,
    ⟨(some 43), .slc 1 (.tmp 41) (some (.tmp 42)) none none, none⟩,
    ⟨(some 44), .mov (.tmp 2), none⟩,
    ⟨(some 45), .copy 1 (.tmp 43) (.tmp 44), none⟩])
  (.seq (.ops [⟨(some 46), .mov (.tmp 9), none⟩,
    ⟨(some 47), .mov (.tmp 1), none⟩,
    ⟨(some 48), .mov (.tmp 7), none⟩,
    ⟨(some 49), .bin .add (.tmp 47) (.tmp 48), none⟩,
    ⟨(some 50), .slc 1 (.tmp 46) (some (.tmp 49)) none none, none⟩,
    ⟨(some 51), .mov (.tmp 0), none⟩,
    ⟨(some 52), .mov (.tmp 1), none⟩,
    ⟨(some 53), .slc 1 (.tmp 51) (some (.tmp 52)) none none, none⟩,
    ⟨(some 54), .copy 1 (.tmp 50) (.tmp 53), none⟩])
  (.seq (.ops [⟨(some 55), .mov (.tmp 9), none⟩,
    ⟨(some 6), .mov (.tmp 55), none⟩])
  .ret))))
  .skip))
  (.seq (.ops [⟨(some 56), .mov (.tmp 0), none⟩,
    ⟨(some 57), .mov (.tmp 8), none⟩,
    ⟨(some 58), .mov (.tmp 7), none⟩,
    ⟨(some 59), .bin .add (.tmp 57) (.tmp 58), none⟩,
    ⟨(some 60), .slc 1 (.tmp 56) none (some (.tmp 59)) none, none⟩,
    ⟨(some 0), .mov (.tmp 60), none⟩])
  (.seq (.seq (.ops [⟨(some 61), .mov (.tmp 2), none⟩,
    ⟨(some 62), .mov (.tmp 0), none⟩,
    ⟨(some 63), .mov (.tmp 1), none⟩,
    ⟨(some 64), .mov (.tmp 7), none⟩,
    ⟨(some 65), .bin .add (.tmp 63) (.tmp 64), none⟩,
    ⟨(some 66), .slc 1 (.tmp 62) (some (.tmp 65)) none none, none⟩,
    ⟨(some 67), .call gv [(.tmp 61), (.tmp 66)], none⟩,
    ⟨(some 68), .un .not (.tmp 67), none⟩])
  (.cond (.tmp 68)
  (.seq (.ops [⟨(some 69), .mov (.tmp 0), none⟩,
    ⟨(some 70), .mov (.tmp 1), none⟩,
    ⟨(some 71), .mov (.tmp 7), none⟩,
    ⟨(some 72), .bin .add (.tmp 70) (.tmp 71), none⟩,
    ⟨(some 73), .slc 1 (.tmp 69) (some (.tmp 72)) none none, none⟩,
    ⟨(some 74), .mov (.tmp 0), none⟩,
    ⟨(some 75), .mov (.tmp 1), none⟩,
    ⟨(some 76), .slc 1 (.tmp 74) (some (.tmp 75)) none none, none⟩,
    ⟨(some 77), .copy 1 (.tmp 73) (.tmp 76), none⟩])
  (.seq (.ops [⟨(some 78), .mov (.tmp 0), none⟩,
    ⟨(some 79), .mov (.tmp 1), none⟩,
    ⟨(some 80), .slc 1 (.tmp 78) (some (.tmp 79)) none none, none⟩,
    ⟨(some 81), .mov (.tmp 2), none⟩,
    ⟨(some 82), .copy 1 (.tmp 80) (.tmp 81), none⟩])
  (.seq (.ops [⟨(some 83), .mov (.tmp 0), none⟩,
    ⟨(some 6), .mov (.tmp 83), none⟩])
  .ret)))
  .skip))
  (.seq (.ops [⟨(some 84), .mov (.tmp 0), none⟩,
    ⟨(some 85), .mov (.tmp 8), none⟩,
    ⟨(some 86), .slc 1 (.tmp 84) (some (.tmp 85)) none none, none⟩,
    ⟨(some 87), .mov (.tmp 2), none⟩,
    ⟨(some 88), .copy 1 (.tmp 86) (.tmp 87), none⟩])
  (.seq (.ops [⟨(some 89), .mov (.tmp 0), none⟩,
    ⟨(some 90), .mov (.tmp 1), none⟩,
    ⟨(some 91), .slc 1 (.tmp 89) (some (.tmp 90)) none none, none⟩,
    ⟨(some 92), .mov (.tmp 7), none⟩,
    ⟨(some 93), .call gr [(.tmp 91), (.tmp 92)], none⟩])
  (.seq (.ops [⟨(some 94), .mov (.tmp 0), none⟩,
    ⟨(some 6), .mov (.tmp 94), none⟩])
  .ret))))))))))))
def aInsert (bytes : Nat) (z : AV) (gv gr : Nat) : AFunc := ⟨3, cInsert bytes z gv gr, [.tmp 6]⟩
theorem slcE_from {o off len C n : Nat} (hn : n ≤ len) (hc : n < C) {k : IntKind} : slcV 1 (.slice o off 1 len C true) (some (.int k (n : Int))) none none = some (.slice o (off + n) 1 (len - n) (C - n) true) := by
  have : ¬ C = n := by omega
  simp [slcV, bounds, boundM, boundH, boundL, natOf, hn, show n ≤ C by omega, Option.filter, this]
theorem slcE_to {o off len C n : Nat} {ex : Bool} (hn : n ≤ C) {k : IntKind} : slcV 1 (.slice o off 1 len C ex) none (some (.int k (n : Int))) none = some (.slice o off 1 n C ex) := by
  simp [slcV, bounds, boundM, boundH, boundL, natOf, hn, Option.filter]
theorem slcF_from {o len C n : Nat} {ex : Bool} (hn : n ≤ len) (hc : n < C) {k : IntKind} : slcV 1 (.slice o 0 1 len C ex) (some (.int k (n : Int))) none none = some (.slice o n 1 (len - n) (C - n) ex) := by
  have : ¬ C = n := by omega
  simp [slcV, bounds, boundM, boundH, boundL, natOf, hn, show n ≤ C by omega, Option.filter, this]
/-- Cells copied from one place to another. -/
theorem copy_row {o off len C p poff plen pC : Nat} {ex pex : Bool} {l vl : List AV} (hg : h.get o = some (.cells l true)) {rw' : Bool} (hp : h.get p = some (.cells vl rw')) {k : Nat} (hk : min plen len = k) (hk0 : 0 < k) (h1 : off + k ≤ l.length) (h2 : poff + k ≤ vl.length) (hf : ∀ x ∈ (vl.drop poff).take k, AV.flat x = true) :
    copyV 1 h (.slice o off 1 len C ex) (.slice p poff 1 plen pC pex) = some (.int .i64 (k : Nat), h.set o (.cells (setMany l off ((vl.drop poff).take k)) true)) := by
  have hkl : ((vl.drop poff).take k).length = k := by simp; omega
  have he : ((vl.drop poff).take k).isEmpty = false := by
    cases hx : (vl.drop poff).take k with
    | nil => rw [hx] at hkl; simp at hkl; omega
    | cons a r => rfl
  have hel : h.elems 1 (min plen len) (.slice p poff 1 plen pC pex) = some ((vl.drop poff).take k) := by
    simp only [AH.elems, true_and]
    rw [if_pos (by omega), AH.load, hp, hk]
    simp only [Nat.mul_one]
    rw [if_pos h2]
  have hst : h.store o off ((vl.drop poff).take k) = some (h.set o (.cells (setMany l off ((vl.drop poff).take k)) true)) := by
    simp only [AH.store, hg]
    rw [if_pos ⟨by omega, by rw [List.all_eq_true]; exact hf⟩]
  rw [hk] at hel
  simp only [copyV, lenOfV, Option.bind_some, hk, hel, if_true, he, Bool.false_eq_true, if_false, hst, hk, Option.map_some]
theorem rep_len1 {z : AV} {n : Nat} : (rep [z] n).length = n := by
  induction n with
  | zero => rfl
  | succ n ih => simp [rep, ih]
/-- What is there behind. -/
def putIn (xs vs : List AV) (i : Nat) : List AV := xs.take i ++ vs ++ xs.drop i
theorem putIn_len {xs vs : List AV} {i : Nat} : (putIn xs vs i).length = xs.length + vs.length := by simp [putIn]; omega
theorem insert_walk {g gv gr bytes : Nat} {z : AV} (he : T.env g = none) (hfn : T.func g = some (aInsert bytes z gv gr)) (hov : T.env gv = some ovl)
    {o off C len i m vo voff vcap : Nat} {vex : Bool} {l vl : List AV} (hol : o < h.next) (hvol : vo < h.next) (hg : h.get o = some (.cells l true)) (hvg : h.get vo = some (.cells vl true)) (hne : vo ≠ o) (hi : i < len) (hm : 1 ≤ m) (hll : off + C ≤ l.length) (hlC : len ≤ C) (hvl : voff + m ≤ vl.length)
    (hroom : len + m ≤ 1000000) (hb : bytes ≤ 8) (hf : ∀ x ∈ (l.drop off).take len, AV.flat x = true) (hvf : ∀ x ∈ (vl.drop voff).take m, AV.flat x = true) :
    Gives T g [.slice o off 1 len C true, .int .i64 (i : Int), .slice vo voff 1 m vcap vex] h fun r h' =>
      (len + m ≤ C ∧ r = .slice o off 1 (len + m) C true ∧ h'.next = h.next ∧ (∃ l', h'.get o = some (.cells l' true) ∧ l'.length = l.length ∧ ∀ j x, (putIn ((l.drop off).take len) ((vl.drop voff).take m) i)[j]? = some x → l'[off + j]? = some x) ∧ ∀ q, q ≠ o → h'.get q = h.get q) ∨
      (C < len + m ∧ r = .slice h.next 0 1 (len + m) (len + m) false ∧ h'.next = h.next + 1 ∧ h'.get h.next = some (.cells (putIn ((l.drop off).take len) ((vl.drop voff).take m) i) true) ∧ ∀ q, q ≠ h.next → h'.get q = h.get q) := by
  refine gives_func he hfn rfl ?_
  have e1 : ((m : Int) == 0) = false := by rw [beq_eq_false_iff_ne]; omega
  have e2 : ((i : Int) == (len : Int)) = false := by rw [beq_eq_false_iff_ne]; omega
  have w1 : IntKind.i64.wrap ((len : Int) + (m : Int)) = ((len + m : Nat) : Int) := by rw [wrap_i64 (by omega) (by omega)]; omega
  have w2 : IntKind.i64.wrap ((i : Int) + (m : Int)) = ((i + m : Nat) : Int) := by rw [wrap_i64 (by omega) (by omega)]; omega
  have w3 : IntKind.i64.wrap (((len + m : Nat) : Int) - (i : Int)) = ((len + m - i : Nat) : Int) := by rw [wrap_i64 (by omega) (by omega)]; omega
  have s0 := slcE_from (o := o) (off := off) (len := len) (C := C) (n := i) (k := .i64) (by omega) (by omega)
  have cp : capV (.slice o off 1 len C true) = some (.int .i64 (C : Int)) := rfl
  have ln : ∀ {o off l c ex}, lenOfV (.slice o off 1 l c ex) = some l := rfl
  have old_len : ((l.drop off).take len).length = len := by simp; omega
  have new_len : ((vl.drop voff).take m).length = m := by simp; omega
  have old_drop : ((l.drop off).take len).drop i = (l.drop (off + i)).take (len - i) := by rw [List.drop_take, List.drop_drop]
  have hof : ∀ x ∈ (l.drop (off + i)).take (len - i), AV.flat x = true := by
    intro x hx
    rw [← old_drop] at hx
    exact hf x (List.mem_of_mem_drop hx)
  simp only [aInsert, cInsert, vms, vmc, AOpd.val, Nat.reduceEqDiff, reduceCtorEq, Nat.reduceAdd, Nat.reduceBEq, step_appendZ, step_capSlice, s0, e1, e2, w1, w2, w3, cp, ln]
  by_cases hgrow : ((len + m : Nat) : Int) > (C : Int)
  · have hgr : C < len + m := by omega
    have s1 := slcE_to (o := o) (off := off) (len := len) (C := C) (n := i) (ex := true) (k := .i64) (by omega)
    have hroomk : roomOk (i + (len + m - i)) bytes C true = true := by
      have : (i + (len + m - i)) * bytes ≤ 1000000 * 8 := Nat.mul_le_mul (by omega) hb
      simp only [roomOk, Bool.or_eq_true, Bool.and_eq_true, decide_eq_true_eq]
      left; omega
    have hap : appZV 1 bytes [z] h (.slice o off 1 i C true) (.int .i64 ((len + m - i : Nat) : Int)) = some (.slice h.next 0 1 (len + m) (len + m) false, h.new (.cells ((l.drop off).take i ++ rep [z] (len + m - i)) true)) := by
      have hload : h.load o off (i * 1) = some ((l.drop off).take i) := by
        simp only [AH.load, hg, Nat.mul_one]
        rw [if_pos (by omega)]
      have : (len + m - i) * bytes ≤ 1000000 * 8 := Nat.mul_le_mul (by omega) hb
      simp only [appZV, natOf_cast, Option.bind_some, appendV, if_true]
      rw [if_pos ⟨by omega, by omega⟩, if_neg (by omega), if_pos hroomk, hload]
      simp only [show i + (len + m - i) = len + m by omega]
    have hn1 : (h.new (.cells ((l.drop off).take i ++ rep [z] (len + m - i)) true)).get h.next = some (.cells ((l.drop off).take i ++ rep [z] (len + m - i)) true) := get_new_same
    have hv1 : (h.new (.cells ((l.drop off).take i ++ rep [z] (len + m - i)) true)).get vo = some (.cells vl true) := by rw [AH.get_new, if_neg (by omega)]; exact hvg
    have ho1 : (h.new (.cells ((l.drop off).take i ++ rep [z] (len + m - i)) true)).get o = some (.cells l true) := by rw [AH.get_new, if_neg (by omega)]; exact hg
    have hq1 : ∀ q, q ≠ h.next → (h.new (.cells ((l.drop off).take i ++ rep [z] (len + m - i)) true)).get q = h.get q := fun q hq => by rw [AH.get_new, if_neg (Ne.symm hq)]
    have hx1 : (h.new (.cells ((l.drop off).take i ++ rep [z] (len + m - i)) true)).next = h.next + 1 := rfl
    have l1 : ((l.drop off).take i ++ rep [z] (len + m - i)).length = len + m := by simp [rep_len1]; omega
    obtain ⟨Z, hZ⟩ : ∃ Z, Z = (l.drop off).take i ++ rep [z] (len + m - i) := ⟨_, rfl⟩
    rw [← hZ] at hn1 hv1 ho1 hq1 hx1 l1 hap
    obtain ⟨g1, hg1⟩ : ∃ g1, g1 = h.new (.cells Z true) := ⟨_, rfl⟩
    rw [← hg1] at hn1 hv1 ho1 hq1 hx1 hap
    have s2 := slcF_from (o := h.next) (len := len + m) (C := len + m) (n := i) (ex := false) (k := .i64) (by omega) (by omega)
    have s3 := slcF_from (o := h.next) (len := len + m) (C := len + m) (n := i + m) (ex := false) (k := .i64) (by omega) (by omega)
    have c1 := copy_row (h := g1) (len := len + m - i) (C := len + m - i) (ex := false) (pC := vcap) (pex := vex) (plen := m) (poff := voff) (off := i) hn1 hv1 (k := m) (by omega) (by omega) (by omega) hvl hvf
    obtain ⟨z1, z2⟩ := setMany_get Z ((vl.drop voff).take m) i
    obtain ⟨z3, z4, z5⟩ := z2 (by omega)
    have c2 := copy_row (h := g1.set h.next (.cells (setMany Z i ((vl.drop voff).take m)) true)) (o := h.next) (l := setMany Z i ((vl.drop voff).take m)) (p := o) (vl := l) (rw' := true) (len := len + m - (i + m)) (C := len + m - (i + m)) (ex := false) (pC := C - i) (pex := true) (plen := len - i) (poff := off + i) (off := i + m) get_set_same (by rw [AH.get_set, if_neg (by omega)]; exact ho1) (k := len - i) (by omega) (by omega) (by omega) (by omega) hof
    have hset : ∀ (A B : AObj), ∀ q, ((g1.set h.next A).set h.next B).get q = if h.next = q then some B else g1.get q := fun A B q => by
      rw [AH.get_set, AH.get_set]; split <;> rfl
    simp only [decide_eq_true hgrow, vms, vmc, AOpd.val, Nat.reduceEqDiff, reduceCtorEq, Nat.reduceAdd, Nat.reduceBEq, step_appendZ, s1, s0, w1, w2, w3, hap, s2, s3, c1, c2]
    obtain ⟨y1, y2⟩ := setMany_get (setMany Z i ((vl.drop voff).take m)) ((l.drop (off + i)).take (len - i)) (i + m)
    have hdl : ((l.drop (off + i)).take (len - i)).length = len - i := by simp; omega
    obtain ⟨y3, y4, y5⟩ := y2 (by omega)
    refine .inr ⟨hgr, trivial, hx1, ?_, fun q hq => by rw [hset, if_neg (Ne.symm hq)]; exact hq1 q hq⟩
    rw [hset, if_pos rfl]
    congr 2
    apply List.ext_getElem?
    intro j
    unfold putIn
    rw [old_drop]
    by_cases h1 : j < i
    · rw [y3 j (by omega), z3 j h1, hZ, List.append_assoc, List.getElem?_append_left (by simp; omega), List.getElem?_append_left (by simp; omega), List.getElem?_take, List.getElem?_take, if_pos h1, List.getElem?_take, if_pos h1, if_pos (by omega)]
    · by_cases h2 : j < i + m
      · rw [y3 j h2]
        obtain ⟨d, rfl⟩ : ∃ d, j = i + d := ⟨j - i, by omega⟩
        have hd : d < ((vl.drop voff).take m).length := by omega
        rw [z4 d _ (List.getElem?_eq_getElem hd), List.append_assoc, List.getElem?_append_right (by simp; omega), List.getElem?_append_left (by simp; omega)]
        rw [show i + d - (List.take i (List.take len (List.drop off l))).length = d by simp; omega]
        exact (List.getElem?_eq_getElem hd).symm
      · obtain ⟨d, rfl⟩ : ∃ d, j = i + m + d := ⟨j - (i + m), by omega⟩
        have hx2 : (List.take i (List.take len (List.drop off l)) ++ List.take m (List.drop voff vl)).length = i + m := by simp; omega
        rw [List.getElem?_append_right (by omega), hx2, show i + m + d - (i + m) = d by omega]
        by_cases hd : d < ((l.drop (off + i)).take (len - i)).length
        · rw [y4 d _ (List.getElem?_eq_getElem hd), List.getElem?_eq_getElem hd]
        · rw [List.getElem?_eq_none (by omega), List.getElem?_eq_none (by omega)]
  · have hin : len + m ≤ C := by omega
    have s1 := slcE_to (o := o) (off := off) (len := len) (C := C) (n := len + m) (ex := true) (k := .i64) (by omega)
    have s2 := slcE_from (o := o) (off := off) (len := len + m) (C := C) (n := i + m) (k := .i64) (by omega) (by omega)
    have s3 := slcE_from (o := o) (off := off) (len := len + m) (C := C) (n := i) (k := .i64) (by omega) (by omega)
    have hlne : ∃ a r, l = a :: r := by
      cases l with
      | nil => simp at hll; omega
      | cons a r => exact ⟨a, r, rfl⟩
    obtain ⟨a, r, har⟩ := hlne
    have hov1 : ovl [.slice vo voff 1 m vcap vex, .slice o (off + (i + m)) 1 (len + m - (i + m)) (C - (i + m)) true] h = some (.bool false, h) := by
      simp only [ovl, hvg, hg, har, hne, if_false]
    have c1 := copy_row (h := h) (o := o) (l := l) (p := o) (vl := l) (rw' := true) (len := len + m - (i + m)) (C := C - (i + m)) (ex := true) (pC := C - i) (pex := true) (plen := len + m - i) (poff := off + i) (off := off + (i + m)) hg hg (k := len - i) (by omega) (by omega) (by omega) (by omega) hof
    have hdl : ((l.drop (off + i)).take (len - i)).length = len - i := by simp; omega
    obtain ⟨z1, z2⟩ := setMany_get l ((l.drop (off + i)).take (len - i)) (off + (i + m))
    obtain ⟨z3, z4, z5⟩ := z2 (by omega)
    have c2 := copy_row (h := h.set o (.cells (setMany l (off + (i + m)) ((l.drop (off + i)).take (len - i))) true)) (o := o) (l := setMany l (off + (i + m)) ((l.drop (off + i)).take (len - i))) (p := vo) (vl := vl) (rw' := true) (len := len + m - i) (C := C - i) (ex := true) (pC := vcap) (pex := vex) (plen := m) (poff := voff) (off := off + i) get_set_same (by rw [AH.get_set, if_neg (Ne.symm hne)]; exact hvg) (k := m) (by omega) (by omega) (by omega) hvl hvf
    have hset : ∀ (A B : AObj), ∀ q, ((h.set o A).set o B).get q = if o = q then some B else h.get q := fun A B q => by
      rw [AH.get_set, AH.get_set]; split <;> rfl
    simp only [decide_eq_false hgrow, vms, vmc, AOpd.val, Nat.reduceEqDiff, reduceCtorEq, Nat.reduceAdd, Nat.reduceBEq, step_appendZ, s1, s2, s3, s0, w1, w2, w3, run_env hov, hov1, c1, c2, Bool.not_false]
    obtain ⟨y1, y2⟩ := setMany_get (setMany l (off + (i + m)) ((l.drop (off + i)).take (len - i))) ((vl.drop voff).take m) (off + i)
    obtain ⟨y3, y4, y5⟩ := y2 (by omega)
    refine .inl ⟨hin, trivial, rfl, ⟨_, by rw [hset, if_pos rfl], by rw [y1, z1], fun j x hx => ?_⟩, fun q hq => by rw [hset, if_neg (Ne.symm hq)]⟩
    unfold putIn at hx
    rw [old_drop] at hx
    by_cases h1 : j < i
    · rw [y3 _ (by omega), z3 _ (by omega)]
      rw [List.append_assoc, List.getElem?_append_left (by simp; omega), List.getElem?_take, if_pos h1, List.getElem?_take, if_pos (by omega), List.getElem?_drop] at hx
      exact hx
    · by_cases h2 : j < i + m
      · obtain ⟨d, rfl⟩ : ∃ d, j = i + d := ⟨j - i, by omega⟩
        have hd : d < ((vl.drop voff).take m).length := by omega
        rw [List.append_assoc, List.getElem?_append_right (by simp; omega), List.getElem?_append_left (by simp; omega)] at hx
        rw [show i + d - (List.take i (List.take len (List.drop off l))).length = d by simp; omega] at hx
        rw [show off + (i + d) = off + i + d by omega]
        exact y4 d x hx
      · obtain ⟨d, rfl⟩ : ∃ d, j = i + m + d := ⟨j - (i + m), by omega⟩
        have hx2 : (List.take i (List.take len (List.drop off l)) ++ List.take m (List.drop voff vl)).length = i + m := by simp; omega
        rw [List.getElem?_append_right (by omega), hx2, show i + m + d - (i + m) = d by omega] at hx
        rw [y5 _ (by omega), show off + (i + m + d) = off + (i + m) + d by omega]
        exact z4 d x hx
end Go.Vm
/- slices.Insert: a contract for slices whose room is open. -/
namespace Go.Vm
open Go.RowKit
set_option linter.unusedSimpArgs false
set_option linter.unusedVariables false
variable {P : Program} {T : Vm.Prog} {h : AH}
theorem callOk_of (hT : TabOk P T) {g : Nat} {af : AFunc} (hf : T.func g = some af) : CallOk P g := by
  obtain ⟨fn, h1, h2⟩ := hT.func g af hf
  unfold cFunc at h2
  split at h2
  · rename_i c rs hb hrs
    split at h2
    · rename_i hcond
      exact ⟨fn, h1, hcond.2, by simp [hb]⟩
    · cases h2
  · cases h2
def insCells (h : AH) (o off len i vo voff m : Nat) : Option (List AV) :=
  match h.get o, h.get vo with
  | some (.cells l true), some (.cells vl true) =>
    if (i < len ∧ 1 ≤ m ∧ vo ≠ o ∧ off + len ≤ l.length ∧ voff + m ≤ vl.length ∧ len + m ≤ 1000000) ∧ ((l.drop off).take len).all AV.flat = true ∧ ((vl.drop voff).take m).all AV.flat = true then some (putIn ((l.drop off).take len) ((vl.drop voff).take m) i) else none
  | _, _ => none
/-- slices.Insert: into a slice whose room is open it makes a new one of the old. -/
def insV (k : List AV → AH → Option (AV × AH)) (args : List AV) (h : AH) : Option (AV × AH) := match args with
  | [.slice o off 1 len cap false, .int .i64 (.ofNat i), .slice vo voff 1 m vcap vex] => match insCells h o off len i vo voff m with
    | some l => some (.slice h.next 0 1 (len + m) (len + m) false, (h.set o .dead).new (.cells l true))
    | none => k args h
  | _ => k args h
theorem blur_seg {l : List AV} {off len n : Nat} (hl : off + len ≤ l.length) : ((l.take (off + len) ++ List.replicate n AV.undef).drop off).take len = (l.drop off).take len := by
  apply List.ext_getElem?
  intro j
  rw [List.getElem?_take, List.getElem?_take]
  by_cases hj : j < len
  · rw [if_pos hj, if_pos hj, List.getElem?_drop, List.getElem?_drop, List.getElem?_append_left (by simp; omega), List.getElem?_take, if_pos (by omega)]
  · rw [if_neg hj, if_neg hj]
theorem insV_all {g gv gr bytes : Nat} {z : AV} {k : List AV → AH → Option (AV × AH)} (hT : TabOk P T) (hk : ∀ args h r h', k args h = some (r, h') → CallOk P g ∧ ASim P g args h r h') (he : T.env g = none) (hfn : T.func g = some (aInsert bytes z gv gr)) (hov : T.env gv = some ovl) (hb : bytes ≤ 8) : ∀ args h r h', insV k args h = some (r, h') → CSim P g args h r h' := by
  intro args h r h' hr
  left
  unfold insV at hr
  split at hr
  · rename_i o off len cap i vo voff m vcap vex
    split at hr
    · rename_i L hL
      cases hr
      refine ⟨callOk_of hT hfn, ?_⟩
      unfold insCells at hL
      split at hL
      · rename_i l vl hg hvg
        split at hL
        · rename_i hc
          cases hL
          obtain ⟨⟨c1, c2, c3, c4, c5, c6⟩, c7, c8⟩ := hc
          rw [List.all_eq_true] at c7 c8
          intro N w₀ μ w vargs hR hv
          obtain ⟨vl3⟩ := vargs
          have hlen := hv.1
          match vl3, hlen with
          | [x, y, u], _ =>
            obtain ⟨b, base, size, boff, cap', hm, rfl, hlc, hcc, hs, ha⟩ := hv.head.slice_inv
            have hvr := hv.tail.tail.head
            obtain ⟨vb, vbase, vsize, vboff, vcap', hvm, _⟩ := hvr.slice_inv
            have hbo : boff = base + off := by omega
            subst hbo
            have hR1 := hR.blur (l' := l.take (off + len) ++ List.replicate (cap' - len) AV.undef) hm hg (by simp; omega) (fun j q hq => by
              by_cases hj : j < off + len
              · rw [List.getElem?_append_left (by simp; omega), List.getElem?_take, if_pos hj] at hq
                exact .inr hq
              · rw [List.getElem?_append_right (by simp; omega)] at hq
                exact .inl (List.eq_of_mem_replicate (List.mem_of_getElem? hq)))
            have hol := hR.dom _ _ hm
            have hvol := hR.dom _ _ hvm
            obtain ⟨h1, hh1⟩ : ∃ h1, h1 = h.set o (.cells (l.take (off + len) ++ List.replicate (cap' - len) AV.undef) true) := ⟨_, rfl⟩
            have hn1 : h1.next = h.next := by rw [hh1]; rfl
            have hq1 : ∀ q, q ≠ o → h1.get q = h.get q := fun q hq => by rw [hh1, AH.get_set, if_neg (Ne.symm hq)]
            rw [← hh1] at hR1
            have hseg := blur_seg (l := l) (off := off) (len := len) (n := cap' - len) c4
            have hw := insert_walk (T := T) (h := h1) (bytes := bytes) (o := o) (off := off) (C := cap') (len := len) (i := i) (m := m) (vo := vo) (voff := voff) (vcap := vcap) (vex := vex) he hfn hov (by rw [hn1]; exact hol) (by rw [hn1]; exact hvol)
              (show h1.get o = some (.cells (l.take (off + len) ++ List.replicate (cap' - len) AV.undef) true) by rw [hh1, AH.get_set, if_pos rfl]) (show h1.get vo = some (.cells vl true) by rw [hq1 _ c3]; exact hvg) c3 c1 c2 (by simp; omega) hlc c5 c6 hb (by rw [hseg]; exact c7) c8
            rw [hseg] at hw
            obtain ⟨r1, h2, hrun, hcase⟩ := hw
            have hsim := (run_body hT he hrun).2 N w₀ μ w _ hR1 (.cons (.slice hm hlc (by simp) hs (.inl rfl)) hv.tail)
            refine hsim.mono ?_
            rintro e w' ⟨μ', v', rfl, hext, hR2, hvr2⟩
            rw [hn1] at hext
            rcases hcase with ⟨hfit, rfl, hn2, ⟨l', hg2, _, hl'⟩, hoth⟩ | ⟨hgrow, rfl, hn2, hg2, hoth⟩
            · rw [hn2, hn1] at hext
              obtain ⟨b2, base2, size2, boff2, cap2, hm2, rfl, hlc2, hcc2, hs2, ha2⟩ := hvr2.slice_inv
              have := hext.le _ _ hm
              rw [hm2] at this
              cases this
              have hb2 : boff2 = base + off := by omega
              subst hb2
              obtain ⟨hle3, hR3⟩ := hR2.pull (k := off) (l' := putIn ((l.drop off).take len) ((vl.drop voff).take m) i) hm2 hg2 (by rw [putIn_len]; simp; omega) hl'
              have hnone := hR2.next_none
              have e2 : h2.next = h.next := by rw [hn2, hn1]
              refine ⟨_, _, rfl, hext.trans (by rw [AH.next_new, AH.next_set, ← e2]; exact .new _ hnone), hR3.congr (by simp [AH.next_new, AH.next_set, e2]) (fun q => ?_), ?_⟩
              · rw [AH.get_new, AH.get_new, AH.next_set, AH.next_set, e2]
                split
                · rfl
                · rw [AH.get_set, AH.get_set]
                  split
                  · rfl
                  · rename_i hqo
                    rw [hoth q (Ne.symm hqo), hq1 q (Ne.symm hqo)]
              · rw [← e2]
                exact .slice (Inj.add_self _ _ _) hlc2 (by simp; exact hlc2) hs2 (.inl rfl)
            · have e2 : h2.next = h.next + 1 := by rw [hn2, hn1]
              rw [e2] at hext
              rw [hn1] at hg2 hvr2 hoth
              refine ⟨μ', v', rfl, hext, (hR2.kill o).congr (by simp [AH.next_new, AH.next_set, e2]) (fun q => ?_), hvr2⟩
              rw [AH.get_new, AH.next_set, AH.get_set, AH.get_set]
              by_cases hqn : h.next = q
              · subst hqn
                rw [if_pos rfl, if_neg (by omega)]
                exact hg2.symm
              · rw [if_neg hqn]
                by_cases hqo : o = q
                · rw [if_pos hqo, if_pos hqo]
                · rw [if_neg hqo, if_neg hqo, hoth q (Ne.symm hqn), hq1 q (Ne.symm hqo)]
        · cases hL
      · cases hL
    · exact hk _ _ _ _ hr
  · exact hk _ _ _ _ hr
theorem insV_ok {g gv gr bytes n : Nat} {z : AV} (hT : TabOk P T) (he : T.env g = none) (hfn : T.func g = some (aInsert bytes z gv gr)) (hov : T.env gv = some ovl) (hb : bytes ≤ 8) : ∀ args h r h', insV (fun a h => arun T n g a h) args h = some (r, h') → CSim P g args h r h' :=
  insV_all hT (fun _ _ _ _ hr => arun_body hT he hr) he hfn hov hb
theorem insV_run {g gv gr bytes : Nat} {z : AV} (hT : TabOk P T) (he : T.env g = none) (hfn : T.func g = some (aInsert bytes z gv gr)) (hov : T.env gv = some ovl) (hb : bytes ≤ 8) : ∀ args h r h', insV (fun a h => run T g a h) args h = some (r, h') → CSim P g args h r h' :=
  insV_all hT (fun _ _ _ _ hr => run_body hT he hr) he hfn hov hb
theorem ovl_some {P : Program} {g : Nat} {fn : Func} {tS tR e : TypeId} (hf : P.funcs[g]? = some fn) (hname : (fn.name == "runtime.NumGoroutine") = false) (hb : fn.body.isNone = true) (hn : Extern.findNext fn = none)
    (he : Extern.find fn = some (Extern.SlicesOverlaps.overlaps #[tS, tS] #[tR])) (ht : P.underlying tS = some (.slice e)) (hi : (P.info? e).isSome = true) : ∀ args h r h', ovl args h = some (r, h') → CSim P g args h r h' := by
  obtain ⟨inf, hi⟩ := Option.isSome_iff_exists.1 hi
  exact ovl_ok hf hname hb hn he ht hi
/-- A table, with what stands in for slices.overlaps and slices.Insert at two element types each. -/
def withOvl (func : Nat → Option AFunc) (v1 v2 : Nat) : Prog := ⟨func, fun n => if n = v1 then some ovl else if n = v2 then some ovl else none⟩
def insAt (func : Nat → Option AFunc) (v1 v2 g : Nat) : List AV → AH → Option (AV × AH) := insV fun a h => arun (withOvl func v1 v2) 1000 g a h
def withIns (func : Nat → Option AFunc) (v1 v2 i1 i2 : Nat) : Prog := ⟨func, fun n => if n = v1 then some ovl else if n = v2 then some ovl else if n = i1 then some (insAt func v1 v2 i1) else if n = i2 then some (insAt func v1 v2 i2) else none⟩
theorem withOvl_ok {P : Program} {func : Nat → Option AFunc} (hf : ∀ g af, func g = some af → ∃ fn, P.funcs[g]? = some fn ∧ cFunc P fn = some af) {v1 v2 : Nat}
    (h1 : ∀ args h r h', ovl args h = some (r, h') → CSim P v1 args h r h') (h2 : ∀ args h r h', ovl args h = some (r, h') → CSim P v2 args h r h') : TabOk P (withOvl func v1 v2) where
  func := hf
  env := fun n e he => by
    simp only [withOvl] at he
    split at he
    · rename_i e'; subst e'; cases he; exact h1
    · split at he
      · rename_i e'; subst e'; cases he; exact h2
      · cases he
theorem withIns_ok {P : Program} {func : Nat → Option AFunc} (hf : ∀ g af, func g = some af → ∃ fn, P.funcs[g]? = some fn ∧ cFunc P fn = some af) {v1 v2 i1 i2 : Nat} {r1 r2 y1 y2 : Nat} {z1 z2 : AV}
    (h1 : ∀ args h r h', ovl args h = some (r, h') → CSim P v1 args h r h') (h2 : ∀ args h r h', ovl args h = some (r, h') → CSim P v2 args h r h')
    (hi1 : func i1 = some (aInsert y1 z1 v1 r1)) (hi2 : func i2 = some (aInsert y2 z2 v2 r2)) (hy1 : y1 ≤ 8) (hy2 : y2 ≤ 8) (hd : v1 ≠ i1 ∧ v2 ≠ i1 ∧ v1 ≠ i2 ∧ v2 ≠ i2 ∧ v1 ≠ v2) : TabOk P (withIns func v1 v2 i1 i2) where
  func := hf
  env := fun n e he => by
    have hT := withOvl_ok hf h1 h2
    simp only [withIns] at he
    split at he
    · rename_i e'; subst e'; cases he; exact h1
    · split at he
      · rename_i e'; subst e'; cases he; exact h2
      · split at he
        · rename_i e'; subst e'; cases he
          exact insV_ok hT (by simp [withOvl, Ne.symm hd.1, Ne.symm hd.2.1]) hi1 (by simp [withOvl]) hy1
        · split at he
          · rename_i e'; subst e'; cases he
            exact insV_ok hT (by simp [withOvl, Ne.symm hd.2.2.1, Ne.symm hd.2.2.2.1]) hi2 (by simp [withOvl, Ne.symm hd.2.2.2.2]) hy2
          · cases he
/-- The same for laws, the closed sentence beside. -/
noncomputable def insRun (func : Nat → Option AFunc) (v1 v2 g : Nat) : List AV → AH → Option (AV × AH) := insV fun a h => run (withOvl func v1 v2) g a h
noncomputable def lawIns (func : Nat → Option AFunc) (y v1 v2 i1 i2 : Nat) : Prog := ⟨func, fun n => if n = y then some yes else if n = v1 then some ovl else if n = v2 then some ovl else if n = i1 then some (insRun func v1 v2 i1) else if n = i2 then some (insRun func v1 v2 i2) else none⟩
theorem lawIns_ok {P : Program} {func : Nat → Option AFunc} (hf : ∀ g af, func g = some af → ∃ fn, P.funcs[g]? = some fn ∧ cFunc P fn = some af) {y v1 v2 i1 i2 : Nat} {r1 r2 y1 y2 : Nat} {z1 z2 : AV}
    (hy : ∀ args h r h', yes args h = some (r, h') → CallOk P y ∧ ASim P y args h r h')
    (h1 : ∀ args h r h', ovl args h = some (r, h') → CSim P v1 args h r h') (h2 : ∀ args h r h', ovl args h = some (r, h') → CSim P v2 args h r h')
    (hi1 : func i1 = some (aInsert y1 z1 v1 r1)) (hi2 : func i2 = some (aInsert y2 z2 v2 r2)) (hy1 : y1 ≤ 8) (hy2 : y2 ≤ 8) (hd : v1 ≠ i1 ∧ v2 ≠ i1 ∧ v1 ≠ i2 ∧ v2 ≠ i2 ∧ v1 ≠ v2) : TabOk P (lawIns func y v1 v2 i1 i2) where
  func := hf
  env := fun n e he => by
    have hT := withOvl_ok hf h1 h2
    simp only [lawIns] at he
    split at he
    · rename_i e'; subst e'; cases he; exact fun _ _ _ _ hr => .inl (hy _ _ _ _ hr)
    · split at he
      · rename_i e'; subst e'; cases he; exact h1
      · split at he
        · rename_i e'; subst e'; cases he; exact h2
        · split at he
          · rename_i e'; subst e'; cases he
            exact insV_run hT (by simp [withOvl, Ne.symm hd.1, Ne.symm hd.2.1]) hi1 (by simp [withOvl]) hy1
          · split at he
            · rename_i e'; subst e'; cases he
              exact insV_run hT (by simp [withOvl, Ne.symm hd.2.2.1, Ne.symm hd.2.2.2.1]) hi2 (by simp [withOvl, Ne.symm hd.2.2.2.2]) hy2
            · cases he
end Go.Vm
/- slices.Insert of one element, as laws use it. -/
namespace Go.Vm
open Go.RowKit
set_option linter.unusedSimpArgs false
set_option linter.unusedVariables false
set_option maxRecDepth 100000
variable {T : Vm.Prog} {h : AH}
/-- A row of elements of one cell each. -/
def Row1 (h : AH) (v : AV) (xs : List AV) : Prop := RowS h 1 v (xs.map fun x => [x])
theorem Row1.get {l xs : List AV} (h3 : ∀ (i : Nat) (x : List AV), (xs.map fun x => [x])[i]? = some x → x.length = 1 ∧ ∀ (j : Nat) (y : AV), x[j]? = some y → l[i * 1 + j]? = some y) : ∀ (i : Nat) (x : AV), xs[i]? = some x → l[i]? = some x := fun i x hx => by
  have := (h3 i [x] (by rw [List.getElem?_map, hx]; rfl)).2 0 x rfl
  simpa using this
theorem row1_of {o cap n : Nat} {ex : Bool} {l : List AV} {xs : List AV} (hg : h.get o = some (.cells l true)) (h1 : l.length = cap) (hn : n = xs.length) (h2 : xs.length ≤ cap) (h3 : ∀ (i : Nat) (x : AV), xs[i]? = some x → l[i]? = some x) : Row1 h (.slice o 0 1 n cap ex) xs := by
  subst hn
  refine .inr ⟨o, cap, ex, l, by simp, hg, by simpa using h1, by simpa using h2, fun i x hx => ?_⟩
  rw [List.getElem?_map] at hx
  cases hy : xs[i]? with
  | none => simp [hy] at hx
  | some y =>
    simp [hy] at hx
    subst hx
    refine ⟨rfl, fun j z hz => ?_⟩
    cases j with
    | zero => simp at hz; subst hz; simpa using h3 i y hy
    | succ j => simp at hz
theorem Row1.seg {l xs : List AV} (h2 : xs.length ≤ l.length) (h3 : ∀ (i : Nat) (x : AV), xs[i]? = some x → l[i]? = some x) : (l.drop 0).take xs.length = xs := by
  rw [List.drop_zero]
  apply List.ext_getElem?
  intro i
  rw [List.getElem?_take]
  by_cases hi : i < xs.length
  · rw [if_pos hi, List.getElem?_eq_getElem hi]; exact h3 i _ (List.getElem?_eq_getElem hi)
  · rw [if_neg hi, List.getElem?_eq_none (by omega)]
theorem insert_ok {func : Nat → Option AFunc} {g gv gr bytes v1 v2 : Nat} {z : AV} (heT : T.env g = some (insRun func v1 v2 g)) (he : (withOvl func v1 v2).env g = none) (hfn : func g = some (aInsert bytes z gv gr)) (hov : (withOvl func v1 v2).env gv = some ovl) (hb : bytes ≤ 8) (hb0 : 0 < bytes)
    (hl : Low h) {v : AV} {xs : List AV} (row : Row1 h v xs) (hf : ∀ x ∈ xs, AV.flat x = true) {i : Nat} (hi : i ≤ xs.length) (hs : xs.length < 100000) {vo : Nat} {y : AV} (hvo : h.get vo = some (.cells [y] true)) (hy : y.flat = true) (hne : vo ∉ objs v) :
    Gives T g [v, .int .i64 (i : Int), .slice vo 0 1 1 1 true] h fun r h' => Row1 h' r (xs.take i ++ [y] ++ xs.drop i) ∧ (∀ o ∈ objs r, o ∈ objs v ∨ h.next ≤ o) ∧ (∀ o ∈ objs r, o < h'.next) ∧ Only h h' (objs v) ∧ Low h' := by
  have hvol : vo < h.next := hl _ _ hvo
  -- what its own text does
  have base : ∀ {Q : AV → AH → Prop}, (∀ o len cap, v = .slice o 0 1 len cap false → insCells h o 0 len i vo 0 1 = none) → Gives (withOvl func v1 v2) g [v, .int .i64 (i : Int), .slice vo 0 1 1 1 true] h Q → Gives T g [v, .int .i64 (i : Int), .slice vo 0 1 1 1 true] h Q := by
    rintro Q hnone ⟨r, h', hr, hq⟩
    refine ⟨r, h', ?_, hq⟩
    rw [run_env heT]
    unfold insRun insV
    split
    · rename_i o off len cap i' vo' voff m vcap vex heq
      simp only [List.cons.injEq, AV.slice.injEq, AV.int.injEq, and_true, true_and] at heq
      obtain ⟨rfl, e2, e3⟩ := heq
      have hi' : i' = i := (Int.ofNat.inj e2).symm
      subst hi'
      obtain ⟨rfl, rfl, rfl, _⟩ := e3
      have hoff : off = 0 := by
        rcases row with ⟨e, _⟩ | ⟨_, _, _, _, e, _⟩ <;> cases e; rfl
      subst hoff
      rw [hnone _ _ _ rfl]
      exact hr
    · exact hr
  by_cases hend : i = xs.length
  · subst hend
    refine base (fun o len cap e => ?_) ?_
    · have : len = xs.length := by
        subst e
        rcases row with ⟨e, _⟩ | ⟨_, _, _, _, e, _⟩ <;> cases e; simp
      unfold insCells
      split
      · rw [if_neg]; rintro ⟨⟨h1, _⟩, _⟩; omega
      · rfl
    · refine gives_func he hfn rfl ?_
      obtain ⟨v', hsl, _⟩ := RowS.tail row (n := xs.length) (by simp) (k := .i64)
      have ln : lenOfV v = some xs.length := by have := RowS.len row; simpa using this
      have e1 : ((1 : Int) == 0) = false := rfl
      have ln1 : lenOfV (.slice vo 0 1 1 1 true) = some 1 := rfl
      obtain ⟨r, h', happ, hr, ho, hlt, honly, hlow⟩ := RowS.append (bytes := bytes) hl row (by decide) (by omega) hb0 (by simp; omega) hvo rfl (by simp [hy])
      simp only [aInsert, cInsert, vms, vmc, AOpd.val, Nat.reduceEqDiff, reduceCtorEq, Nat.reduceAdd, Nat.reduceBEq, hsl, ln, ln1, show (((1 : Nat) : Int) == 0) = false from rfl, happ]
      rw [List.drop_length, List.take_length, List.append_nil]
      refine ⟨?_, ho, hlt, honly, hlow⟩
      simpa [Row1] using hr
  · have hlt : i < xs.length := by omega
    rcases row with ⟨rfl, e⟩ | ⟨o, cap, ex, l, rfl, hg, h1, h2, h3⟩
    · exfalso
      have : xs = [] := by simpa using e
      subst this; simp at hlt
    · simp only [List.length_map, Nat.mul_one] at h1 h2
      have h3' := Row1.get h3
      have hseg := Row1.seg (by omega) h3'
      have hne' : vo ≠ o := fun e => hne (by simp [objs, e])
      have hol : o < h.next := hl _ _ hg
      have hvseg : (([y] : List AV).drop 0).take 1 = [y] := rfl
      simp only [List.length_map] at base ⊢
      have hput : putIn xs [y] i = xs.take i ++ [y] ++ xs.drop i := rfl
      have hpl : (xs.take i ++ [y] ++ xs.drop i).length = xs.length + 1 := by simp; omega
      have hfin : ∀ {h' : AH} {ex' : Bool}, h'.get h.next = some (.cells (xs.take i ++ [y] ++ xs.drop i) true) → Row1 h' (.slice h.next 0 1 (xs.length + 1) (xs.length + 1) ex') (xs.take i ++ [y] ++ xs.drop i) := fun hg' => row1_of hg' hpl hpl.symm (by rw [hpl]; exact Nat.le_refl _) (fun _ _ h => h)
      cases ex with
      | false =>
        have hc : insCells h o 0 xs.length i vo 0 1 = some (xs.take i ++ [y] ++ xs.drop i) := by
          unfold insCells
          rw [hg, hvo]
          simp only
          rw [if_pos, hseg, hvseg]
          · rfl
          · refine ⟨⟨hlt, by omega, hne', by omega, by simp, by omega⟩, ?_, ?_⟩
            · rw [hseg, List.all_eq_true]; exact hf
            · rw [hvseg]; simp [hy]
        refine ⟨.slice h.next 0 1 (xs.length + 1) (xs.length + 1) false, (h.set o .dead).new (.cells (xs.take i ++ [y] ++ xs.drop i) true), ?_, ?_⟩
        · rw [run_env heT]
          unfold insRun insV
          simp only [show (Nat.cast i : Int) = Int.ofNat i from rfl, hc]
        · refine ⟨hfin ?_, fun p hp => ?_, fun p hp => ?_, ?_, ?_⟩
          · have := get_new_same (h := h.set o .dead) (x := .cells (xs.take i ++ [y] ++ xs.drop i) true)
            rwa [next_set] at this
          · simp [objs] at hp; right; omega
          · simp [objs] at hp; simp [next_new, next_set]; omega
          · exact ((Only.refl h _).set (.inl (by simp [objs])) _).new _
          · exact (hl.set hol _).new _
      | true =>
        refine base (fun _ _ _ e => by cases e) ?_
        refine (insert_walk (T := withOvl func v1 v2) (bytes := bytes) (vex := true) (vcap := 1) (voff := 0) (m := 1) (off := 0) (C := cap) (i := i) he hfn hov hol hvol hg hvo hne' hlt (by omega) (by omega) (by omega) (by simp) (by omega) hb (by rw [hseg]; exact hf) (by rw [hvseg]; simp [hy])).mono ?_
        rintro r h' hcase
        rw [hseg, hvseg, hput] at hcase
        rcases hcase with ⟨hfit, rfl, hn, ⟨l', hg', hll, hl'⟩, hoth⟩ | ⟨hgr, rfl, hn, hg', hoth⟩
        · refine ⟨row1_of hg' (by omega) hpl.symm (by omega) (fun j x hx => by have := hl' j x hx; simpa using this), fun p hp => .inl (by simpa [objs] using hp), fun p hp => by simp [objs] at hp; omega, ⟨by omega, fun q hq hqF => hoth q (by simpa [objs] using hqF)⟩, fun q x hq => ?_⟩
          by_cases e : q = o
          · omega
          · rw [hoth q e] at hq; have := hl _ _ hq; omega
        · refine ⟨hfin hg', fun p hp => by simp [objs] at hp; right; omega, fun p hp => by simp [objs] at hp; omega, ⟨by omega, fun q hq hqF => hoth q (by omega)⟩, fun q x hq => ?_⟩
          by_cases e : q = h.next
          · omega
          · rw [hoth q e] at hq; have := hl _ _ hq; omega
end Go.Vm
/- Functions of the standard library and of the statements, whatever their element's type. -/
namespace Go.Vm
open Go.RowKit
set_option linter.unusedSimpArgs false
set_option linter.unusedVariables false
set_option maxRecDepth 100000
variable {T : Vm.Prog} {h : AH}
theorem Row1.sees {v : AV} {xs : List AV} (r : Row1 h v xs) : Sees h v xs := SeesS.one (RowS.sees r) rfl
theorem Sees.asS {v : AV} {xs : List AV} (s : Sees h v xs) : SeesS h 1 v (xs.map fun x => [x]) := by
  rcases s with ⟨rfl, rfl⟩ | ⟨o, off, cap, ex, l, rw, rfl, hg, h1, h2⟩
  · exact .inl ⟨rfl, rfl⟩
  · refine .inr ⟨o, off, cap, ex, l, rw, by simp, hg, by simpa using h1, fun i x hx => ?_⟩
    rw [List.getElem?_map] at hx
    cases hy : xs[i]? with
    | none => simp [hy] at hx
    | some y =>
      simp [hy] at hx
      subst hx
      refine ⟨rfl, fun j z hz => ?_⟩
      cases j with
      | zero => simp at hz; subst hz; simpa using h2 i y hy
      | succ j => simp at hz
theorem clone1_ok {g bytes : Nat} (he : T.env g = none) (hf : T.func g = some (aClone 1 bytes)) (hl : Low h) {v : AV} {xs : List AV} (s : Sees h v xs) (hb : bytes ≤ 1048576) (hs : xs.length < 1000000) :
    Gives T g [v] h fun r h' => Row1 h' r xs ∧ (∀ o ∈ objs r, h.next ≤ o) ∧ Quiet h h' ∧ Low h' :=
  cloneS_ok he hf hl s.asS (by decide) hb (by simpa using hs)
def cSamel0 : ACode := (.seq (.seq (.ops [⟨(some 11), .mov (.tmp 5), none⟩,
    ⟨(some 12), .mov (.tmp 0), none⟩,
    ⟨(some 13), .lenSlice (.tmp 12), none⟩,
    ⟨(some 14), .bin .lss (.tmp 11) (.tmp 13), none⟩])
  (.cond (.tmp 14)
  .skip
  (.exit 0)))
  (.seq (.block 1 (.seq (.ops [⟨(some 17), .mov (.tmp 0), none⟩,
    ⟨(some 18), .mov (.tmp 5), none⟩,
    ⟨(some 19), .idxAddr 1 (.tmp 17) (.tmp 18), none⟩,
    ⟨(some 20), .load false 1 (.tmp 19), none⟩,
    ⟨(some 21), .mov (.tmp 1), none⟩,
    ⟨(some 22), .mov (.tmp 5), none⟩,
    ⟨(some 23), .idxAddr 1 (.tmp 21) (.tmp 22), none⟩,
    ⟨(some 24), .load false 1 (.tmp 23), none⟩,
    ⟨(some 25), .bin .neq (.tmp 20) (.tmp 24), none⟩])
  (.cond (.tmp 25)
  (.seq (.ops [⟨(some 4), .mov (.con (.bool false)), none⟩])
  .ret)
  .skip)))
  (.ops [⟨(some 15), .mov (.tmp 5), none⟩,
    ⟨(some 16), .bin .add (.tmp 15) (.con (.int .i64 1)), none⟩,
    ⟨(some 5), .mov (.tmp 16), none⟩])))
def cSame : ACode := (.seq (.ops [⟨(some 4), .mov (.con (.bool false)), none⟩])
  (.seq (.seq (.ops [⟨(some 6), .mov (.tmp 0), none⟩,
    ⟨(some 7), .lenSlice (.tmp 6), none⟩,
    ⟨(some 8), .mov (.tmp 1), none⟩,
    ⟨(some 9), .lenSlice (.tmp 8), none⟩,
    ⟨(some 10), .bin .neq (.tmp 7) (.tmp 9), none⟩])
  (.cond (.tmp 10)
  (.seq (.ops [⟨(some 4), .mov (.con (.bool false)), none⟩])
  .ret)
  .skip))
  (.seq (.seq (.ops [⟨(some 5), .mov (.con (.int .i64 0)), none⟩])
  (.block 0 (.loop cSamel0)))
  (.seq (.ops [⟨(some 4), .mov (.con (.bool true)), none⟩])
  .ret))))
def aSame : AFunc := ⟨2, cSame, [.tmp 4]⟩
/-- tendrilbook.Same of integers. -/
theorem sameG_ok {g : Nat} {k : IntKind} (he : T.env g = none) (hf : T.func g = some aSame) {va vb : AV} {xs ys : List Int} (hx : Sees h va (xs.map (.int k))) (hy : Sees h vb (ys.map (.int k))) (hl : xs.length < 9223372036854775807) (hl' : ys.length < 9223372036854775807) :
    Gives T g [va, vb] h fun r h' => r = .bool (decide (xs = ys)) ∧ h' = h := by
  refine gives_func he hf rfl ?_
  simp only [aSame, cSame, vms, vmc, AOpd.val, Nat.reduceEqDiff, reduceCtorEq, Nat.reduceAdd, Nat.reduceBEq, hx.len, hy.len]
  split
  · rename_i hne
    have : xs ≠ ys := fun e => by subst e; simp at hne
    simp [this]
  · rename_i hne
    have hlen : xs.length = ys.length := by
      have := hne; simp at this; omega
    refine wpc_loop (fun m f h' => ∃ i, m = xs.length - i ∧ i ≤ xs.length ∧ h' = h ∧ f.at 0 = va ∧ f.at 1 = vb ∧ f.at 5 = .int .i64 (i : Nat) ∧ ∀ j, j < i → xs[j]? = ys[j]?) ?_ xs.length _ _ ⟨0, by simp, by simp, rfl, ?_⟩
    · rintro m f h' ⟨i, rfl, hi, rfl, h0, h1, h5, hpre⟩
      simp only [cSamel0, vms, vmc, AOpd.val, Nat.reduceEqDiff, reduceCtorEq, Nat.reduceAdd, Nat.reduceBEq, h0, h1, h5, hx.len, hy.len]
      split
      · rename_i hlt
        have hlt : i < xs.length := by simpa using hlt
        obtain ⟨x, hxi⟩ : ∃ x, xs[i]? = some x := ⟨_, List.getElem?_eq_getElem hlt⟩
        obtain ⟨y, hyi⟩ : ∃ y, ys[i]? = some y := ⟨_, List.getElem?_eq_getElem (hlen ▸ hlt)⟩
        obtain ⟨p, hp1, hp2⟩ := hx.at (i := i) (x := .int k x) (by simp [hxi]) .i64
        obtain ⟨q, hq1, hq2⟩ := hy.at (i := i) (x := .int k y) (by simp [hyi]) .i64
        simp only [vms, vmc, AOpd.val, Nat.reduceEqDiff, reduceCtorEq, Nat.reduceAdd, Nat.reduceBEq, h0, h1, h5, hp1, hp2, hq1, hq2]
        split
        · rename_i hne
          have : xs ≠ ys := fun e => by subst e; rw [hxi] at hyi; cases hyi; simp at hne
          simp [this]
        · rename_i heq
          have heq : x = y := by simpa using heq
          subst heq
          refine ⟨xs.length - (i + 1), by omega, i + 1, rfl, by omega, trivial, ?_⟩
          have hw : IntKind.i64.wrap ((i : Int) + 1) = ((i + 1 : Nat) : Int) := by rw [wrap_i64 (by omega) (by omega)]; rfl
          simp only [vms, vmc, AOpd.val, Nat.reduceEqDiff, reduceCtorEq, Nat.reduceAdd, Nat.reduceBEq, h0, h1, h5, hw]
          refine ⟨trivial, trivial, trivial, fun j hj => ?_⟩
          by_cases e : j = i
          · subst e; rw [hxi, hyi]
          · exact hpre j (by omega)
      · rename_i hge
        have hge : ¬ i < xs.length := by simpa using hge
        have : xs = ys := by
          apply List.ext_getElem?
          intro j
          by_cases hj : j < i
          · exact hpre j hj
          · rw [List.getElem?_eq_none (by omega), List.getElem?_eq_none (by omega)]
        simp [this]
    · simp only [vms, vmc, AOpd.val, Nat.reduceEqDiff, reduceCtorEq, Nat.reduceAdd, Nat.reduceBEq]
      simp
def cGrow (bytes : Nat) (z : AV) : ACode := (.seq (.ops [⟨(some 4), .mov (.con .nilSlice), none⟩])
  (.seq (.seq (.ops [⟨(some 5), .mov (.tmp 1), none⟩,
    ⟨(some 6), .bin .lss (.tmp 5) (.con (.int .i64 0)), none⟩])
  (.cond (.tmp 6)
  (.ops [⟨(some 7), .mkIface 9 (.con (.str [99, 97, 110, 110, 111, 116, 32, 98, 101, 32, 110, 101, 103, 97, 116, 105, 118, 101])), none⟩,
    ⟨none, .stuck, none⟩])
  .skip))
  (.seq (.seq (.ops [⟨(some 8), .mov (.tmp 1), none⟩,
    ⟨(some 9), .mov (.tmp 0), none⟩,
    ⟨(some 10), .capSlice (.tmp 9), none⟩,
    ⟨(some 11), .mov (.tmp 0), none⟩,
    ⟨(some 12), .lenSlice (.tmp 11), none⟩,
    ⟨(some 13), .bin .sub (.tmp 10) (.tmp 12), none⟩,
    ⟨(some 14), .bin .sub (.tmp 8) (.tmp 13), none⟩,
    ⟨(some 1), .mov (.tmp 14), none⟩])
  (.seq (.ops [⟨(some 15), .mov (.tmp 1), none⟩,
    ⟨(some 16), .bin .gtr (.tmp 15) (.con (.int .i64 0)), none⟩])
  (.cond (.tmp 16)
  (.ops [⟨(some 17), .mov (.tmp 0), none⟩,
    ⟨(some 18), .mov (.tmp 0), none⟩,
    ⟨(some 19), .capSlice (.tmp 18), none⟩,
    ⟨(some 20), .slc 1 (.tmp 17) none (some (.tmp 19)) none, none⟩,
    ⟨(some 21), .mov (.tmp 1), none⟩,
    ⟨(some 22), .appendZ 1 bytes [z] (.tmp 20) (.tmp 21), none⟩,
    ⟨(some 23), .mov (.tmp 0), none⟩,
    ⟨(some 24), .lenSlice (.tmp 23), none⟩,
    ⟨(some 25), .slc 1 (.tmp 22) none (some (.tmp 24)) none, none⟩,
    ⟨(some 0), .mov (.tmp 25), none⟩])
  .skip)))
  (.seq (.ops [⟨(some 26), .mov (.tmp 0), none⟩,
    ⟨(some 4), .mov (.tmp 26), none⟩])
  .ret))))
def aGrow (bytes : Nat) (z : AV) : AFunc := ⟨2, cGrow bytes z, [.tmp 4]⟩
def cConcatl0 : ACode := (.seq (.ops [⟨(some 12), .bin .lss (.tmp 11) (.tmp 10), none⟩])
  (.seq (.cond (.tmp 12)
  .skip
  (.exit 0))
  (.seq (.block 1 (.seq (.ops [⟨(some 13), .idxAddr 1 (.tmp 9) (.tmp 11), none⟩,
    ⟨(some 14), .load false 1 (.tmp 13), none⟩,
    ⟨(some 5), .mov (.tmp 14), none⟩])
  (.seq (.ops [⟨(some 15), .mov (.tmp 3), none⟩,
    ⟨(some 16), .mov (.tmp 5), none⟩,
    ⟨(some 17), .lenSlice (.tmp 16), none⟩,
    ⟨(some 18), .bin .add (.tmp 15) (.tmp 17), none⟩,
    ⟨(some 3), .mov (.tmp 18), none⟩])
  (.seq (.ops [⟨(some 19), .mov (.tmp 3), none⟩,
    ⟨(some 20), .bin .lss (.tmp 19) (.con (.int .i64 0)), none⟩])
  (.cond (.tmp 20)
  (.ops [⟨(some 21), .mkIface 9 (.con (.str [108, 101, 110, 32, 111, 117, 116, 32, 111, 102, 32, 114, 97, 110, 103, 101])), none⟩,
    ⟨none, .stuck, none⟩])
  .skip)))))
  (.ops [⟨(some 22), .bin .add (.tmp 11) (.con (.int .i64 1)), none⟩,
    ⟨(some 11), .mov (.tmp 22), none⟩]))))
def cConcatl1 (bytes : Nat) : ACode := (.seq (.ops [⟨(some 28), .bin .lss (.tmp 27) (.tmp 26), none⟩])
  (.seq (.cond (.tmp 28)
  .skip
  (.exit 2))
  (.seq (.block 3 (.seq (.ops [⟨(some 29), .idxAddr 1 (.tmp 25) (.tmp 27), none⟩,
    ⟨(some 30), .load false 1 (.tmp 29), none⟩,
    ⟨(some 8), .mov (.tmp 30), none⟩])
  (.ops [⟨(some 31), .mov (.tmp 6), none⟩,
    ⟨(some 32), .mov (.tmp 8), none⟩,
    ⟨(some 33), .append 1 bytes (.tmp 31) (.tmp 32), none⟩,
    ⟨(some 6), .mov (.tmp 33), none⟩])))
  (.ops [⟨(some 34), .bin .add (.tmp 27) (.con (.int .i64 1)), none⟩,
    ⟨(some 27), .mov (.tmp 34), none⟩]))))
def cConcat (bytes gg : Nat) : ACode := (.seq (.ops [⟨(some 2), .mov (.con .nilSlice), none⟩])
  (.seq (.ops [⟨(some 3), .mov (.con (.int .i64 0)), none⟩])
  (.seq (.seq (.ops [⟨(some 9), .mov (.tmp 0), none⟩,
    ⟨(some 10), .lenSlice (.tmp 9), none⟩,
    ⟨(some 11), .mov (.con (.int .i64 0)), none⟩])
  (.block 0 (.loop cConcatl0)))
  (.seq (.ops [⟨(some 23), .mov (.tmp 3), none⟩,
    ⟨(some 24), .call gg [(.con .nilSlice), (.tmp 23)], none⟩,
    ⟨(some 6), .mov (.tmp 24), none⟩])
  (.seq (.seq (.ops [⟨(some 25), .mov (.tmp 0), none⟩,
    ⟨(some 26), .lenSlice (.tmp 25), none⟩,
    ⟨(some 27), .mov (.con (.int .i64 0)), none⟩])
  (.block 2 (.loop (cConcatl1 bytes))))
  (.seq (.ops [⟨(some 35), .mov (.tmp 6), none⟩,
    ⟨(some 2), .mov (.tmp 35), none⟩])
  .ret))))))
def aConcat (bytes gg : Nat) : AFunc := ⟨1, cConcat bytes gg, [.tmp 2]⟩
theorem grow_nil_ok {g bytes : Nat} {z : AV} (he : T.env g = none) (hf : T.func g = some (aGrow bytes z)) (hb : bytes ≤ 8) {n : Nat} (hn : n < 1000000) : Gives T g [.nilSlice, .int .i64 (n : Int)] h fun r h' =>
    (n = 0 ∧ r = .nilSlice ∧ h' = h) ∨ (0 < n ∧ r = .slice h.next 0 1 0 n false ∧ h' = h.new (.cells (rep [z] n) true)) := by
  refine gives_func he hf rfl ?_
  have d1 : decide ((n : Int) < 0) = false := by rw [decide_eq_false_iff_not]; omega
  have cp : capV .nilSlice = some (.int .i64 0) := rfl
  have ln : lenOfV .nilSlice = some 0 := rfl
  have w1 : IntKind.i64.wrap (0 - ((0 : Nat) : Int)) = 0 := rfl
  have w2 : IntKind.i64.wrap ((n : Int) - 0) = (n : Int) := by rw [wrap_i64 (by omega) (by omega)]; omega
  simp only [aGrow, cGrow, vms, vmc, AOpd.val, Nat.reduceEqDiff, reduceCtorEq, Nat.reduceAdd, Nat.reduceBEq, step_capSlice, d1, cp, ln, w1, w2]
  by_cases h0 : n = 0
  · subst h0
    simp only [vms, vmc, AOpd.val, Nat.reduceEqDiff, reduceCtorEq, Nat.reduceAdd, Nat.reduceBEq, show decide (((0 : Nat) : Int) > 0) = false from rfl]
    exact .inl ⟨trivial, trivial, trivial⟩
  · have d2 : decide ((n : Int) > 0) = true := by rw [decide_eq_true_eq]; omega
    have s1 : slcV 1 .nilSlice none (some (.int .i64 0)) none = some .nilSlice := by simp [slcV, bounds, boundM, boundH, boundL, natOf, Option.filter]
    have hroom : roomOk n bytes 0 true = true := by
      have : n * bytes ≤ 1000000 * 8 := Nat.mul_le_mul (by omega) hb
      simp only [roomOk, Bool.or_eq_true, Bool.and_eq_true, decide_eq_true_eq]
      left; omega
    have hap : appZV 1 bytes [z] h .nilSlice (.int .i64 (n : Int)) = some (.slice h.next 0 1 n n false, h.new (.cells (rep [z] n) true)) := by
      have : n * bytes ≤ 1000000 * 8 := Nat.mul_le_mul (by omega) hb
      simp only [appZV, natOf_cast, Option.bind_some, appendV]
      rw [if_pos ⟨by omega, by omega⟩, if_neg h0, if_pos hroom]
    have s2 : slcV 1 (.slice h.next 0 1 n n false) none (some (.int .i64 ((0 : Nat) : Int))) none = some (.slice h.next 0 1 0 n false) := slcE_to (by omega)
    simp only [vms, vmc, AOpd.val, Nat.reduceEqDiff, reduceCtorEq, Nat.reduceAdd, Nat.reduceBEq, step_capSlice, step_appendZ, d2, cp, ln, s1, hap, s2]
    exact .inr ⟨by omega, trivial, trivial⟩
/-- Elements of a slice, all at once. -/
theorem sees_elems {v : AV} {xs : List AV} (s : Sees h v xs) : h.elems 1 xs.length v = some xs := by
  rcases s with ⟨rfl, rfl⟩ | ⟨o, off, cap, ex, l, rw', rfl, hg, h1, h2⟩
  · rfl
  · simp only [AH.elems, true_and, Nat.le_refl, if_true, AH.load, hg, Nat.mul_one]
    rw [if_pos h1]
    congr 1
    apply List.ext_getElem?
    intro i
    rw [List.getElem?_take]
    by_cases hi : i < xs.length
    · rw [if_pos hi, List.getElem?_drop, h2 i _ (List.getElem?_eq_getElem hi), List.getElem?_eq_getElem hi]
    · rw [if_neg hi, List.getElem?_eq_none (by omega)]
/-- A row that is filled: there is room for n. -/
def Cat (h : AH) (v : AV) (xs : List AV) (n : Nat) : Prop := (v = .nilSlice ∧ xs = [] ∧ n = 0) ∨ ∃ o l, v = .slice o 0 1 xs.length n false ∧ h.get o = some (.cells l true) ∧ l.length = n ∧ xs.length ≤ n ∧ ∀ (i : Nat) (x : AV), xs[i]? = some x → l[i]? = some x
theorem Cat.row {v : AV} {xs : List AV} {n : Nat} (c : Cat h v xs n) : Row1 h v xs := by
  rcases c with ⟨rfl, rfl, _⟩ | ⟨o, l, rfl, hg, h1, h2, h3⟩
  · exact .inl ⟨rfl, rfl⟩
  · exact row1_of hg h1 rfl h2 h3
theorem Cat.append {v w : AV} {xs ys : List AV} {n bytes : Nat} (c : Cat h v xs n) (s : Sees h w ys) (hn : xs.length + ys.length ≤ n) (hf : ∀ y ∈ ys, AV.flat y = true) :
    ∃ v' h', appV 1 bytes h v w = some (v', h') ∧ Cat h' v' (xs ++ ys) n ∧ objs v' = objs v ∧ h'.next = h.next ∧ (∀ q, q ∉ objs v → h'.get q = h.get q) := by
  have hel := sees_elems s
  have ln := s.len
  rcases c with ⟨rfl, rfl, rfl⟩ | ⟨o, l, rfl, hg, h1, h2, h3⟩
  · have : ys = [] := List.eq_nil_of_length_eq_zero (by simp only [List.length_nil] at hn; omega)
    subst this
    refine ⟨.nilSlice, h, ?_, .inl ⟨rfl, rfl, rfl⟩, rfl, rfl, fun _ _ => rfl⟩
    simp only [appV, ln, Option.bind_some, hel, appendV]
    rfl
  · by_cases h0 : ys.length = 0
    · have : ys = [] := List.eq_nil_of_length_eq_zero h0
      subst this
      refine ⟨.slice o 0 1 xs.length n false, h, ?_, ?_, rfl, rfl, fun _ _ => rfl⟩
      · simp only [appV, ln, Option.bind_some, hel, appendV, if_true]
        rw [if_pos (by simp; omega)]
        simp
      · rw [List.append_nil]; exact .inr ⟨o, l, rfl, hg, h1, h2, h3⟩
    · obtain ⟨z1, z2⟩ := setMany_get l ys xs.length
      obtain ⟨z3, z4, z5⟩ := z2 (by omega)
      refine ⟨.slice o 0 1 (xs.length + ys.length) n false, h.set o (.cells (setMany l xs.length ys) true), ?_, .inr ⟨o, setMany l xs.length ys, by rw [List.length_append], get_set_same, by rw [z1]; exact h1, by rw [List.length_append]; exact hn, fun i x hx => ?_⟩, rfl, rfl, fun q hq => ?_⟩
      · simp only [appV, ln, Option.bind_some, hel, appendV, if_true]
        rw [if_pos hn, if_neg (by omega)]
        simp only [AH.store, hg, Nat.mul_one, Nat.zero_add]
        rw [if_pos ⟨by omega, by rw [List.all_eq_true]; exact hf⟩]
        rfl
      · by_cases hi : i < xs.length
        · rw [List.getElem?_append_left hi] at hx
          rw [z3 i hi]; exact h3 i x hx
        · rw [List.getElem?_append_right (by omega)] at hx
          have := z4 _ x hx
          rwa [show xs.length + (i - xs.length) = i by omega] at this
      · simp [objs] at hq
        rw [AH.get_set, if_neg (Ne.symm hq)]
theorem loop_once {c : ACode} {f : Fr} {Q : AExit → Fr → AH → Prop} (hw : Wp (code T c f h) (Then (fun f h => Wp (code T (.loop c) f h) Q) Q)) : Wp (code T (.loop c) f h) Q := by
  rw [code_loop, Wp_then]
  exact hw.mono fun e f' h' hq => by cases e <;> exact hq
theorem concat2_ok {g gg bytes : Nat} {z : AV} (he : T.env g = none) (hf : T.func g = some (aConcat bytes gg)) (he2 : T.env gg = none) (hf2 : T.func gg = some (aGrow bytes z)) (hb : bytes ≤ 8) (hl : Low h) {lo : Nat} {va vb : AV} {xs ys : List AV}
    (hg : h.get lo = some (.cells [va, vb] true)) (sa : Sees h va xs) (sb : Sees h vb ys) (hx : xs.length < 400000) (hy : ys.length < 400000) (fx : ∀ x ∈ xs, AV.flat x = true) (fy : ∀ x ∈ ys, AV.flat x = true) :
    Gives T g [.slice lo 0 1 2 2 true] h fun r h' => Row1 h' r (xs ++ ys) ∧ (∀ o ∈ objs r, h.next ≤ o) ∧ Quiet h h' ∧ Low h' := by
  refine gives_func he hf rfl ?_
  have i0 : idxAddrV 1 (.slice lo 0 1 2 2 true) (.int .i64 0) = some (.ptr lo 0) := rfl
  have i1 : idxAddrV 1 (.slice lo 0 1 2 2 true) (.int .i64 1) = some (.ptr lo 1) := rfl
  have l0 := load_at hg (i := 0) (v := va) rfl
  have l1 := load_at hg (i := 1) (v := vb) rfl
  have la := sa.len
  have lb := sb.len
  have w1 : IntKind.i64.wrap (0 + (xs.length : Int)) = (xs.length : Int) := by rw [wrap_i64 (by omega) (by omega)]; omega
  have w2 : IntKind.i64.wrap ((xs.length : Int) + (ys.length : Int)) = ((xs.length + ys.length : Nat) : Int) := by rw [wrap_i64 (by omega) (by omega)]; omega
  have d1 : decide ((xs.length : Int) < 0) = false := by rw [decide_eq_false_iff_not]; omega
  have d2 : decide (((xs.length + ys.length : Nat) : Int) < 0) = false := by rw [decide_eq_false_iff_not]; omega
  have ln2 : lenOfV (.slice lo 0 1 2 2 true) = some 2 := rfl
  have w01 : IntKind.i64.wrap (0 + 1) = 1 := rfl
  have w12 : IntKind.i64.wrap (1 + 1) = 2 := rfl
  have t0 : decide ((0 : Int) < ((2 : Nat) : Int)) = true := rfl
  have t1 : decide ((1 : Int) < ((2 : Nat) : Int)) = true := rfl
  have t2 : decide ((2 : Int) < ((2 : Nat) : Int)) = false := rfl
  simp only [aConcat, cConcat, vms, vmc, AOpd.val, Nat.reduceEqDiff, reduceCtorEq, Nat.reduceAdd, Nat.reduceBEq, ln2]
  refine loop_once ?_
  simp only [cConcatl0, vms, vmc, AOpd.val, Nat.reduceEqDiff, reduceCtorEq, Nat.reduceAdd, Nat.reduceBEq, i0, l0, la, w1, d1, w01, t0]
  refine loop_once ?_
  simp only [cConcatl0, vms, vmc, AOpd.val, Nat.reduceEqDiff, reduceCtorEq, Nat.reduceAdd, Nat.reduceBEq, i1, l1, lb, w2, d2, w12, t1]
  refine loop_once ?_
  simp only [cConcatl0, vms, vmc, AOpd.val, Nat.reduceEqDiff, reduceCtorEq, Nat.reduceAdd, Nat.reduceBEq, t2]
  refine Gives.bind ((grow_nil_ok he2 hf2 hb (by omega)).mono ?_)
  have fin : ∀ {h1 : AH} {v1 : AV} {f : Fr}, Cat h1 v1 [] (xs.length + ys.length) → (∀ o ∈ objs v1, h.next ≤ o) → Quiet h h1 → Low h1 → f.at 0 = .slice lo 0 1 2 2 true → f.at 6 = v1 → f.at 25 = .slice lo 0 1 2 2 true → f.at 26 = .int .i64 ((2 : Nat) : Int) → f.at 27 = .int .i64 0 →
      Wp (code T (.loop (cConcatl1 bytes)) f h1) (InBlock 2 (ThenC T (.seq (.ops [⟨(some 35), .mov (.tmp 6), none⟩, ⟨(some 2), .mov (.tmp 35), none⟩]) .ret) (Vm.Ends [.tmp 2] fun r h' => Row1 h' r (xs ++ ys) ∧ (∀ o ∈ objs r, h.next ≤ o) ∧ Quiet h h' ∧ Low h'))) := by
    intro h1 v1 f c0 hfr q1 lo1 f0 f6 f25 f26 f27
    have stepC : ∀ {h1 : AH} {v1 w : AV} {as bs : List AV}, Cat h1 v1 as (xs.length + ys.length) → (∀ o ∈ objs v1, h.next ≤ o) → Quiet h h1 → Low h1 → Sees h w bs → as.length + bs.length ≤ xs.length + ys.length → (∀ y ∈ bs, AV.flat y = true) →
        ∃ v' h', appV 1 bytes h1 v1 w = some (v', h') ∧ Cat h' v' (as ++ bs) (xs.length + ys.length) ∧ (∀ o ∈ objs v', h.next ≤ o) ∧ Quiet h h' ∧ Low h' := by
      intro h1 v1 w as bs c hfr q1 lo1 s hn hfl
      have s' : Sees h1 w bs := ((Sees.res s hl).quiet q1).holds
      obtain ⟨v', h', ha, hc, ho, hnx, hoth⟩ := c.append (bytes := bytes) s' hn hfl
      refine ⟨v', h', ha, hc, by rw [ho]; exact hfr, ⟨by rw [hnx]; exact q1.1, fun q hq hF => ?_⟩, fun q x hq => ?_⟩
      · rw [hoth q (fun hm => by have := hfr q hm; omega)]
        exact q1.2 q hq hF
      · by_cases hm : q ∈ objs v1
        · have := RowS.low c.row lo1 q hm
          omega
        · rw [hoth q hm] at hq
          have := lo1 _ _ hq
          omega
    have hg1 := q1.get hg (hl _ _ hg)
    have l0 := load_at hg1 (i := 0) (v := va) rfl
    obtain ⟨v2, h2, ha2, c2, hfr2, q2, lo2⟩ := stepC c0 hfr q1 lo1 sa (by simp) fx
    have hg2 := q2.get hg (hl _ _ hg)
    have l1 := load_at hg2 (i := 1) (v := vb) rfl
    obtain ⟨v3, h3, ha3, c3, hfr3, q3, lo3⟩ := stepC c2 hfr2 q2 lo2 sb (by simp) fy
    refine loop_once ?_
    simp only [cConcatl1, vms, vmc, AOpd.val, Nat.reduceEqDiff, reduceCtorEq, Nat.reduceAdd, Nat.reduceBEq, f0, f6, f25, f26, f27, i0, l0, ha2, w01, t0]
    refine loop_once ?_
    simp only [cConcatl1, vms, vmc, AOpd.val, Nat.reduceEqDiff, reduceCtorEq, Nat.reduceAdd, Nat.reduceBEq, f0, f6, f25, f26, f27, i1, l1, ha3, w12, t1]
    refine loop_once ?_
    simp only [cConcatl1, vms, vmc, AOpd.val, Nat.reduceEqDiff, reduceCtorEq, Nat.reduceAdd, Nat.reduceBEq, f0, f6, f25, f26, f27, t2]
    exact ⟨c3.row, hfr3, q3, lo3⟩
  rintro r h1 (⟨h0, rfl, rfl⟩ | ⟨h0, rfl, rfl⟩)
  · simp only [vms, vmc, AOpd.val, Nat.reduceEqDiff, reduceCtorEq, Nat.reduceAdd, Nat.reduceBEq, ln2]
    exact fin (.inl ⟨rfl, rfl, h0⟩) (fun o ho => by simp [objs] at ho) (Quiet.refl _) hl (by simp only [vms, vmc, AOpd.val, Nat.reduceEqDiff, reduceCtorEq, Nat.reduceAdd, Nat.reduceBEq]) (by simp only [vms, vmc, AOpd.val, Nat.reduceEqDiff, reduceCtorEq, Nat.reduceAdd, Nat.reduceBEq]) (by simp only [vms, vmc, AOpd.val, Nat.reduceEqDiff, reduceCtorEq, Nat.reduceAdd, Nat.reduceBEq]) (by simp only [vms, vmc, AOpd.val, Nat.reduceEqDiff, reduceCtorEq, Nat.reduceAdd, Nat.reduceBEq]) (by simp only [vms, vmc, AOpd.val, Nat.reduceEqDiff, reduceCtorEq, Nat.reduceAdd, Nat.reduceBEq])
  · simp only [vms, vmc, AOpd.val, Nat.reduceEqDiff, reduceCtorEq, Nat.reduceAdd, Nat.reduceBEq, ln2]
    exact fin (v1 := .slice h.next 0 1 0 (xs.length + ys.length) false) (.inr ⟨h.next, _, rfl, get_new_same, rep_len1, by simp, fun i x hx => by simp at hx⟩) (fun o ho => by simp [objs] at ho; omega) ((Quiet.refl _).new _) (hl.new _) (by simp only [vms, vmc, AOpd.val, Nat.reduceEqDiff, reduceCtorEq, Nat.reduceAdd, Nat.reduceBEq]) (by simp only [vms, vmc, AOpd.val, Nat.reduceEqDiff, reduceCtorEq, Nat.reduceAdd, Nat.reduceBEq]) (by simp only [vms, vmc, AOpd.val, Nat.reduceEqDiff, reduceCtorEq, Nat.reduceAdd, Nat.reduceBEq]) (by simp only [vms, vmc, AOpd.val, Nat.reduceEqDiff, reduceCtorEq, Nat.reduceAdd, Nat.reduceBEq]) (by simp only [vms, vmc, AOpd.val, Nat.reduceEqDiff, reduceCtorEq, Nat.reduceAdd, Nat.reduceBEq])
/-! ### function values -/
def callVal (call : Handler) (v : AV) (args : List AV) (h : AH) : Option (AV × AH) := match v with
  | .func (.func g) first caps => call g (first ++ args ++ caps) h
  | _ => none
theorem step_callV {call : Handler} {f : Fr} {x : AOpd} {args : List AOpd} : stepV call (.callV x args) f h = callVal call (x.val f) (args.map (·.val f)) h := by
  unfold stepV
  simp only [AOp.eval, callVal]
  generalize x.val f = v
  cases v with
  | func fn a c => cases fn <;> rfl
  | _ => rfl
theorem callVal_func {call : Handler} {g : Nat} {args : List AV} : callVal call (.func (.func g) [] []) args h = call g args h := by
  simp [callVal]
/-- A whole slice behind a row. -/
theorem row1_appendAll {v w : AV} {bytes : Nat} {xs ys : List AV} (hlow : Low h) (r : Row1 h v xs) (s : Sees h w ys) (hb : bytes ≤ 8) (hb0 : 0 < bytes) (hs : xs.length + ys.length < 1000000) (hf : ∀ y ∈ ys, AV.flat y = true) :
    ∃ v' h', appV 1 bytes h v w = some (v', h') ∧ Row1 h' v' (xs ++ ys) ∧ (∀ o ∈ objs v', o ∈ objs v ∨ h.next ≤ o) ∧ (∀ o ∈ objs v', o < h'.next) ∧ Only h h' (objs v) ∧ Low h' := by
  have hel := sees_elems s
  have ln := s.len
  have hroom : ∀ cap ex, roomOk (xs.length + ys.length) bytes cap ex = true := by
    intro cap ex
    have : (xs.length + ys.length) * bytes ≤ 1000000 * 8 := Nat.mul_le_mul (by omega) hb
    simp only [roomOk, Bool.or_eq_true, Bool.and_eq_true, decide_eq_true_eq]
    left; omega
  have hfin : ∀ {g : AH} {o n : Nat} {ex : Bool} {zs : List AV}, g.get o = some (.cells zs true) → n = zs.length → Row1 g (.slice o 0 1 n n ex) zs := fun hg hn => by
    subst hn; exact row1_of hg rfl rfl (Nat.le_refl _) (fun _ _ h => h)
  rcases r with ⟨rfl, e⟩ | ⟨o, cap, ex, l, rfl, hg, h1, h2, h3⟩
  · have hx : xs = [] := by simpa using e
    subst hx
    by_cases h0 : ys.length = 0
    · have hy : ys = [] := List.eq_nil_of_length_eq_zero h0
      subst hy
      refine ⟨.nilSlice, h, ?_, .inl ⟨rfl, rfl⟩, fun o ho => .inl ho, fun o ho => by simp [objs] at ho, Only.refl _ _, hlow⟩
      simp only [appV, ln, Option.bind_some, hel, appendV]
      rfl
    · have hr := hroom 0 true
      simp only [List.length_nil, Nat.zero_add] at hr
      refine ⟨.slice h.next 0 1 ys.length ys.length false, h.new (.cells ys true), ?_, hfin get_new_same rfl, fun p hp => by simp [objs] at hp; right; omega, fun p hp => by simp [objs] at hp; rw [next_new]; omega, (Only.refl _ _).new _, hlow.new _⟩
      simp only [appV, ln, Option.bind_some, hel, appendV]
      rw [if_neg h0, if_pos hr]
  · simp only [List.length_map, Nat.mul_one] at h1 h2
    have h3' := Row1.get h3
    have hol : o < h.next := hlow _ _ hg
    simp only [List.length_map]
    by_cases hfit : xs.length + ys.length ≤ cap
    · by_cases h0 : ys.length = 0
      · have hy : ys = [] := List.eq_nil_of_length_eq_zero h0
        subst hy
        refine ⟨.slice o 0 1 xs.length cap ex, h, ?_, ?_, fun p hp => .inl hp, fun p hp => by simp [objs] at hp; omega, Only.refl _ _, hlow⟩
        · simp only [appV, ln, Option.bind_some, hel, appendV, if_true]
          rw [if_pos (by simpa using h2)]
          simp
        · rw [List.append_nil]; exact row1_of hg h1 rfl h2 h3'
      · obtain ⟨z1, z2⟩ := setMany_get l ys xs.length
        obtain ⟨z3, z4, z5⟩ := z2 (by omega)
        refine ⟨.slice o 0 1 (xs.length + ys.length) cap ex, h.set o (.cells (setMany l xs.length ys) true), ?_, row1_of get_set_same (by rw [z1]; exact h1) (by rw [List.length_append]) (by rw [List.length_append]; exact hfit) (fun i x hx => ?_), fun p hp => .inl (by simpa [objs] using hp), fun p hp => by simp [objs] at hp; rw [next_set]; omega, (Only.refl h _).set (.inl (by simp [objs])) _, hlow.set hol _⟩
        · simp only [appV, ln, Option.bind_some, hel, appendV, if_true]
          rw [if_pos hfit, if_neg (by omega)]
          simp only [AH.store, hg, Nat.mul_one, Nat.zero_add]
          rw [if_pos ⟨by omega, by rw [List.all_eq_true]; exact hf⟩]
          rfl
        · by_cases hi : i < xs.length
          · rw [List.getElem?_append_left hi] at hx
            rw [z3 i hi]; exact h3' i x hx
          · rw [List.getElem?_append_right (by omega)] at hx
            have := z4 _ x hx
            rwa [show xs.length + (i - xs.length) = i by omega] at this
    · have hload : h.load o 0 (xs.length * 1) = some xs := by
        simp only [AH.load, hg, Nat.mul_one, Nat.zero_add]
        rw [if_pos (by omega)]
        exact congrArg some (Row1.seg (by omega) h3')
      cases ex with
      | true =>
        refine ⟨.slice h.next 0 1 (xs.length + ys.length) (xs.length + ys.length) false, h.new (.cells (xs ++ ys) true), ?_, hfin get_new_same (by simp), fun p hp => by simp [objs] at hp; right; omega, fun p hp => by simp [objs] at hp; rw [next_new]; omega, (Only.refl _ _).new _, hlow.new _⟩
        simp only [appV, ln, Option.bind_some, hel, appendV, if_true]
        rw [if_neg hfit, if_pos (hroom _ _), hload]
      | false =>
        have hrw : h.isRw o = true := by unfold AH.isRw; rw [hg]
        refine ⟨.slice h.next 0 1 (xs.length + ys.length) (xs.length + ys.length) false, (h.set o .dead).new (.cells (xs ++ ys) true), ?_, hfin (by have := get_new_same (h := h.set o .dead) (x := .cells (xs ++ ys) true); rwa [next_set] at this) (by simp), fun p hp => by simp [objs] at hp; right; omega, fun p hp => by simp [objs] at hp; rw [next_new, next_set]; omega, ((Only.refl h _).set (.inl (by simp [objs])) _).new _, (hlow.set hol _).new _⟩
        simp only [appV, ln, Option.bind_some, hel, appendV, if_true]
        rw [if_neg hfit, if_pos (hroom _ _), hload]
        simp only [Bool.false_eq_true, if_false]
        rw [if_pos (by rw [hrw, List.all_eq_true.2 hf]; rfl)]
end Go.Vm
/- Texts as words, words as texts; lists with room behind them: what the small functions of the program, its references and its book come to. -/
namespace Go.Vm
open Go.RowKit
set_option linter.unusedSimpArgs false
set_option linter.unusedVariables false
variable {T : Vm.Prog} {h : AH}
def cCount : ACode := (.seq (.ops [⟨(some 2), .mov (.con (.int .i64 0)), none⟩])
  (.seq (.seq (.ops [⟨(some 3), .mov (.tmp 0), none⟩,
    ⟨(some 4), .bin .leq (.tmp 3) (.con (.int .i64 0)), none⟩])
  (.cond (.tmp 4)
  (.seq (.ops [⟨(some 2), .mov (.con (.int .i64 0)), none⟩])
  .ret)
  .skip))
  (.seq (.ops [⟨(some 5), .mov (.tmp 0), none⟩,
    ⟨(some 6), .bin .sub (.tmp 5) (.con (.int .i64 1)), none⟩,
    ⟨(some 7), .bin .quo (.tmp 6) (.con (.int .i64 8)), none⟩,
    ⟨(some 8), .bin .add (.tmp 7) (.con (.int .i64 1)), none⟩,
    ⟨(some 2), .mov (.tmp 8), none⟩])
  .ret)))
def aCount : AFunc := ⟨1, cCount, [.tmp 2]⟩
def cWordsl0 : ACode := (.seq (.ops [⟨(some 12), .bin .lss (.tmp 11) (.tmp 10), none⟩])
  (.seq (.cond (.tmp 12)
  .skip
  (.exit 0))
  (.seq (.block 1 (.seq (.ops [⟨(some 13), .mov (.tmp 11), none⟩,
    ⟨(some 4), .mov (.tmp 13), none⟩])
  (.ops [⟨(some 14), .mov (.tmp 3), none⟩,
    ⟨(some 15), .mov (.tmp 4), none⟩,
    ⟨(some 16), .bin .quo (.tmp 15) (.con (.int .i64 8)), none⟩,
    ⟨(some 17), .idxAddr 1 (.tmp 14) (.tmp 16), none⟩,
    ⟨(some 18), .load false 1 (.tmp 17), none⟩,
    ⟨(some 19), .mov (.tmp 0), none⟩,
    ⟨(some 20), .mov (.tmp 4), none⟩,
    ⟨(some 21), .idxStr (.tmp 19) (.tmp 20), none⟩,
    ⟨(some 22), .toInt .u64 (.tmp 21), none⟩,
    ⟨(some 23), .mov (.tmp 4), none⟩,
    ⟨(some 24), .bin .rem (.tmp 23) (.con (.int .i64 8)), none⟩,
    ⟨(some 25), .bin .mul (.con (.int .i64 8)) (.tmp 24), none⟩,
    ⟨(some 26), .toInt .u64 (.tmp 25), none⟩,
    ⟨(some 27), .bin .shl (.tmp 22) (.tmp 26), none⟩,
    ⟨(some 28), .bin .or (.tmp 18) (.tmp 27), none⟩,
    ⟨(some 29), .idxAddr 1 (.tmp 14) (.tmp 16), none⟩,
    ⟨none, .store 1 (.tmp 29) (.tmp 28), none⟩])))
  (.ops [⟨(some 30), .bin .add (.tmp 11) (.con (.int .i64 1)), none⟩,
    ⟨(some 11), .mov (.tmp 30), none⟩]))))
def cWords (gc : Nat) : ACode := (.seq (.ops [⟨(some 2), .mov (.con .nilSlice), none⟩])
  (.seq (.ops [⟨(some 5), .mov (.tmp 0), none⟩,
    ⟨(some 6), .lenStr (.tmp 5), none⟩,
    ⟨(some 7), .call gc [(.tmp 6)], none⟩,
    ⟨(some 8), .mkSlice 1 8 [(.int .u64 0)] (.tmp 7) (.tmp 7), none⟩,
    ⟨(some 3), .mov (.tmp 8), none⟩])
  (.seq (.seq (.ops [⟨(some 9), .mov (.tmp 0), none⟩,
    ⟨(some 10), .lenStr (.tmp 9), none⟩,
    ⟨(some 11), .mov (.con (.int .i64 0)), none⟩])
  (.block 0 (.loop cWordsl0)))
  (.seq (.ops [⟨(some 31), .mov (.tmp 3), none⟩,
    ⟨(some 2), .mov (.tmp 31), none⟩])
  .ret))))
def aWords (gc : Nat) : AFunc := ⟨1, cWords gc, [.tmp 2]⟩
def cRWordsl0 : ACode := (.seq (.seq (.ops [⟨(some 10), .mov (.tmp 4), none⟩,
    ⟨(some 11), .mov (.tmp 0), none⟩,
    ⟨(some 12), .lenStr (.tmp 11), none⟩,
    ⟨(some 13), .bin .lss (.tmp 10) (.tmp 12), none⟩])
  (.cond (.tmp 13)
  .skip
  (.exit 0)))
  (.seq (.block 1 (.ops [⟨(some 16), .mov (.tmp 3), none⟩,
    ⟨(some 17), .mov (.tmp 4), none⟩,
    ⟨(some 18), .bin .quo (.tmp 17) (.con (.int .i64 8)), none⟩,
    ⟨(some 19), .mov (.tmp 3), none⟩,
    ⟨(some 20), .mov (.tmp 4), none⟩,
    ⟨(some 21), .bin .quo (.tmp 20) (.con (.int .i64 8)), none⟩,
    ⟨(some 22), .idxAddr 1 (.tmp 19) (.tmp 21), none⟩,
    ⟨(some 23), .load false 1 (.tmp 22), none⟩,
    ⟨(some 24), .mov (.tmp 0), none⟩,
    ⟨(some 25), .mov (.tmp 4), none⟩,
    ⟨(some 26), .idxStr (.tmp 24) (.tmp 25), none⟩,
    ⟨(some 27), .toInt .u64 (.tmp 26), none⟩,
    ⟨(some 28), .mov (.tmp 4), none⟩,
    ⟨(some 29), .bin .rem (.tmp 28) (.con (.int .i64 8)), none⟩,
    ⟨(some 30), .bin .mul (.con (.int .i64 8)) (.tmp 29), none⟩,
    ⟨(some 31), .bin .shl (.tmp 27) (.tmp 30), none⟩,
    ⟨(some 32), .bin .or (.tmp 23) (.tmp 31), none⟩,
    ⟨(some 33), .idxAddr 1 (.tmp 16) (.tmp 18), none⟩,
    ⟨none, .store 1 (.tmp 33) (.tmp 32), none⟩]))
  (.ops [⟨(some 14), .mov (.tmp 4), none⟩,
    ⟨(some 15), .bin .add (.tmp 14) (.con (.int .i64 1)), none⟩,
    ⟨(some 4), .mov (.tmp 15), none⟩])))
def cRWords : ACode := (.seq (.ops [⟨(some 2), .mov (.con .nilSlice), none⟩])
  (.seq (.ops [⟨(some 5), .mov (.tmp 0), none⟩,
    ⟨(some 6), .lenStr (.tmp 5), none⟩,
    ⟨(some 7), .bin .add (.tmp 6) (.con (.int .i64 7)), none⟩,
    ⟨(some 8), .bin .quo (.tmp 7) (.con (.int .i64 8)), none⟩,
    ⟨(some 9), .mkSlice 1 8 [(.int .u64 0)] (.tmp 8) (.tmp 8), none⟩,
    ⟨(some 3), .mov (.tmp 9), none⟩])
  (.seq (.seq (.ops [⟨(some 4), .mov (.con (.int .i64 0)), none⟩])
  (.block 0 (.loop cRWordsl0)))
  (.seq (.ops [⟨(some 34), .mov (.tmp 3), none⟩,
    ⟨(some 2), .mov (.tmp 34), none⟩])
  .ret))))
def aRWords : AFunc := ⟨1, cRWords, [.tmp 2]⟩
def cBytesl0 : ACode := (.seq (.ops [⟨(some 32), .bin .lss (.tmp 31) (.con (.int .i64 8)), none⟩])
  (.seq (.cond (.tmp 32)
  .skip
  (.exit 2))
  (.seq (.block 3 (.seq (.ops [⟨(some 33), .mov (.tmp 31), none⟩,
    ⟨(some 9), .mov (.tmp 33), none⟩])
  (.ops [⟨(some 34), .mov (.tmp 6), none⟩,
    ⟨(some 35), .mov (.tmp 8), none⟩,
    ⟨(some 36), .mov (.tmp 9), none⟩,
    ⟨(some 37), .bin .mul (.con (.int .i64 8)) (.tmp 36), none⟩,
    ⟨(some 38), .toInt .u64 (.tmp 37), none⟩,
    ⟨(some 39), .bin .shr (.tmp 35) (.tmp 38), none⟩,
    ⟨(some 40), .toInt .u8 (.tmp 39), none⟩,
    ⟨(some 41), .buildSlice 1 1 [(.int .u8 0)] [(0, 1, (.tmp 40))], none⟩,
    ⟨(some 42), .append 1 1 (.tmp 34) (.tmp 41), none⟩,
    ⟨(some 6), .mov (.tmp 42), none⟩])))
  (.ops [⟨(some 43), .bin .add (.tmp 31) (.con (.int .i64 1)), none⟩,
    ⟨(some 31), .mov (.tmp 43), none⟩]))))
def cBytesl1 : ACode := (.seq (.ops [⟨(some 28), .bin .lss (.tmp 27) (.tmp 26), none⟩])
  (.seq (.cond (.tmp 28)
  .skip
  (.exit 0))
  (.seq (.block 1 (.seq (.ops [⟨(some 29), .idxAddr 1 (.tmp 25) (.tmp 27), none⟩,
    ⟨(some 30), .load false 1 (.tmp 29), none⟩,
    ⟨(some 8), .mov (.tmp 30), none⟩])
  (.seq (.ops [⟨(some 31), .mov (.con (.int .i64 0)), none⟩])
  (.block 2 (.loop cBytesl0)))))
  (.ops [⟨(some 44), .bin .add (.tmp 27) (.con (.int .i64 1)), none⟩,
    ⟨(some 27), .mov (.tmp 44), none⟩]))))
def cBytesl2 : ACode := (.seq (.ops [⟨(some 50), .bin .lss (.tmp 49) (.tmp 48), none⟩])
  (.seq (.cond (.tmp 50)
  .skip
  (.exit 4))
  (.seq (.block 5 (.seq (.ops [⟨(some 51), .idxAddr 1 (.tmp 47) (.tmp 49), none⟩,
    ⟨(some 52), .load false 1 (.tmp 51), none⟩,
    ⟨(some 11), .mov (.tmp 52), none⟩])
  (.seq (.ops [⟨(some 53), .mov (.tmp 11), none⟩,
    ⟨(some 54), .bin .neq (.tmp 53) (.con (.int .u8 0)), none⟩])
  (.cond (.tmp 54)
  (.seq (.ops [⟨(some 4), .mov (.con (.str [])), none⟩,
    ⟨(some 5), .mov (.con (.int .i64 5)), none⟩])
  .ret)
  .skip))))
  (.ops [⟨(some 55), .bin .add (.tmp 49) (.con (.int .i64 1)), none⟩,
    ⟨(some 49), .mov (.tmp 55), none⟩]))))
def cBytes : ACode := (.seq (.ops [⟨(some 4), .mov (.con (.str [])), none⟩,
    ⟨(some 5), .mov (.con (.int .i64 0)), none⟩])
  (.seq (.seq (.ops [⟨(some 12), .mov (.tmp 1), none⟩,
    ⟨(some 13), .bin .lss (.tmp 12) (.con (.int .i64 0)), none⟩,
    ⟨(some 14), .mov (.tmp 13), none⟩,
    ⟨(some 15), .mov (.tmp 1), (some (14, false))⟩,
    ⟨(some 16), .mov (.tmp 0), (some (14, false))⟩,
    ⟨(some 17), .lenSlice (.tmp 16), (some (14, false))⟩,
    ⟨(some 18), .bin .mul (.con (.int .i64 8)) (.tmp 17), (some (14, false))⟩,
    ⟨(some 19), .bin .gtr (.tmp 15) (.tmp 18), (some (14, false))⟩,
    ⟨(some 20), .pick (.tmp 14) (.con (.bool true)) (.tmp 19), none⟩])
  (.cond (.tmp 20)
  (.seq (.ops [⟨(some 4), .mov (.con (.str [])), none⟩,
    ⟨(some 5), .mov (.con (.int .i64 1)), none⟩])
  .ret)
  .skip))
  (.seq (.ops [⟨(some 21), .mov (.tmp 0), none⟩,
    ⟨(some 22), .lenSlice (.tmp 21), none⟩,
    ⟨(some 23), .bin .mul (.con (.int .i64 8)) (.tmp 22), none⟩,
    ⟨(some 24), .mkSlice 1 1 [(.int .u8 0)] (.con (.int .i64 0)) (.tmp 23), none⟩,
    ⟨(some 6), .mov (.tmp 24), none⟩])
  (.seq (.seq (.ops [⟨(some 25), .mov (.tmp 0), none⟩,
    ⟨(some 26), .lenSlice (.tmp 25), none⟩,
    ⟨(some 27), .mov (.con (.int .i64 0)), none⟩])
  (.block 0 (.loop cBytesl1)))
  (.seq (.seq (.ops [⟨(some 45), .mov (.tmp 6), none⟩,
    ⟨(some 46), .mov (.tmp 1), none⟩,
    ⟨(some 47), .slc 1 (.tmp 45) (some (.tmp 46)) none none, none⟩,
    ⟨(some 48), .lenSlice (.tmp 47), none⟩,
    ⟨(some 49), .mov (.con (.int .i64 0)), none⟩])
  (.block 4 (.loop cBytesl2)))
  (.seq (.ops [⟨(some 56), .mov (.tmp 6), none⟩,
    ⟨(some 57), .mov (.tmp 1), none⟩,
    ⟨(some 58), .slc 1 (.tmp 56) none (some (.tmp 57)) none, none⟩,
    ⟨(some 59), .toStr (.tmp 58), none⟩,
    ⟨(some 4), .mov (.tmp 59), none⟩,
    ⟨(some 5), .mov (.con (.int .i64 0)), none⟩])
  .ret))))))
def aBytes : AFunc := ⟨2, cBytes, [.tmp 4, .tmp 5]⟩
def cRBytesl0 : ACode := (.seq (.seq (.ops [⟨(some 20), .mov (.tmp 7), none⟩,
    ⟨(some 21), .mov (.tmp 1), none⟩,
    ⟨(some 22), .bin .lss (.tmp 20) (.tmp 21), none⟩])
  (.cond (.tmp 22)
  .skip
  (.exit 0)))
  (.seq (.block 1 (.ops [⟨(some 25), .mov (.tmp 6), none⟩,
    ⟨(some 26), .mov (.tmp 7), none⟩,
    ⟨(some 27), .mov (.tmp 0), none⟩,
    ⟨(some 28), .mov (.tmp 7), none⟩,
    ⟨(some 29), .bin .quo (.tmp 28) (.con (.int .i64 8)), none⟩,
    ⟨(some 30), .idxAddr 1 (.tmp 27) (.tmp 29), none⟩,
    ⟨(some 31), .load false 1 (.tmp 30), none⟩,
    ⟨(some 32), .mov (.tmp 7), none⟩,
    ⟨(some 33), .bin .rem (.tmp 32) (.con (.int .i64 8)), none⟩,
    ⟨(some 34), .bin .mul (.con (.int .i64 8)) (.tmp 33), none⟩,
    ⟨(some 35), .bin .shr (.tmp 31) (.tmp 34), none⟩,
    ⟨(some 36), .toInt .u8 (.tmp 35), none⟩,
    ⟨(some 37), .idxAddr 1 (.tmp 25) (.tmp 26), none⟩,
    ⟨none, .store 1 (.tmp 37) (.tmp 36), none⟩]))
  (.ops [⟨(some 23), .mov (.tmp 7), none⟩,
    ⟨(some 24), .bin .add (.tmp 23) (.con (.int .i64 1)), none⟩,
    ⟨(some 7), .mov (.tmp 24), none⟩])))
def cRBytesl1 : ACode := (.seq (.seq (.ops [⟨(some 39), .mov (.tmp 8), none⟩,
    ⟨(some 40), .mov (.tmp 0), none⟩,
    ⟨(some 41), .lenSlice (.tmp 40), none⟩,
    ⟨(some 42), .bin .mul (.con (.int .i64 8)) (.tmp 41), none⟩,
    ⟨(some 43), .bin .lss (.tmp 39) (.tmp 42), none⟩])
  (.cond (.tmp 43)
  .skip
  (.exit 2)))
  (.seq (.block 3 (.seq (.ops [⟨(some 46), .mov (.tmp 0), none⟩,
    ⟨(some 47), .mov (.tmp 8), none⟩,
    ⟨(some 48), .bin .quo (.tmp 47) (.con (.int .i64 8)), none⟩,
    ⟨(some 49), .idxAddr 1 (.tmp 46) (.tmp 48), none⟩,
    ⟨(some 50), .load false 1 (.tmp 49), none⟩,
    ⟨(some 51), .mov (.tmp 8), none⟩,
    ⟨(some 52), .bin .rem (.tmp 51) (.con (.int .i64 8)), none⟩,
    ⟨(some 53), .bin .mul (.con (.int .i64 8)) (.tmp 52), none⟩,
    ⟨(some 54), .bin .shr (.tmp 50) (.tmp 53), none⟩,
    ⟨(some 55), .toInt .u8 (.tmp 54), none⟩,
    ⟨(some 56), .bin .neq (.tmp 55) (.con (.int .u8 0)), none⟩])
  (.cond (.tmp 56)
  (.seq (.ops [⟨(some 4), .mov (.con (.str [])), none⟩,
    ⟨(some 5), .mov (.con (.int .i64 5)), none⟩])
  .ret)
  .skip)))
  (.ops [⟨(some 44), .mov (.tmp 8), none⟩,
    ⟨(some 45), .bin .add (.tmp 44) (.con (.int .i64 1)), none⟩,
    ⟨(some 8), .mov (.tmp 45), none⟩])))
def cRBytes : ACode := (.seq (.ops [⟨(some 4), .mov (.con (.str [])), none⟩,
    ⟨(some 5), .mov (.con (.int .i64 0)), none⟩])
  (.seq (.seq (.ops [⟨(some 9), .mov (.tmp 1), none⟩,
    ⟨(some 10), .bin .lss (.tmp 9) (.con (.int .i64 0)), none⟩,
    ⟨(some 11), .mov (.tmp 10), none⟩,
    ⟨(some 12), .mov (.tmp 1), (some (11, false))⟩,
    ⟨(some 13), .mov (.tmp 0), (some (11, false))⟩,
    ⟨(some 14), .lenSlice (.tmp 13), (some (11, false))⟩,
    ⟨(some 15), .bin .mul (.con (.int .i64 8)) (.tmp 14), (some (11, false))⟩,
    ⟨(some 16), .bin .gtr (.tmp 12) (.tmp 15), (some (11, false))⟩,
    ⟨(some 17), .pick (.tmp 11) (.con (.bool true)) (.tmp 16), none⟩])
  (.cond (.tmp 17)
  (.seq (.ops [⟨(some 4), .mov (.con (.str [])), none⟩,
    ⟨(some 5), .mov (.con (.int .i64 1)), none⟩])
  .ret)
  .skip))
  (.seq (.ops [⟨(some 18), .mov (.tmp 1), none⟩,
    ⟨(some 19), .mkSlice 1 1 [(.int .u8 0)] (.tmp 18) (.tmp 18), none⟩,
    ⟨(some 6), .mov (.tmp 19), none⟩])
  (.seq (.seq (.ops [⟨(some 7), .mov (.con (.int .i64 0)), none⟩])
  (.block 0 (.loop cRBytesl0)))
  (.seq (.seq (.ops [⟨(some 38), .mov (.tmp 1), none⟩,
    ⟨(some 8), .mov (.tmp 38), none⟩])
  (.block 2 (.loop cRBytesl1)))
  (.seq (.ops [⟨(some 57), .mov (.tmp 6), none⟩,
    ⟨(some 58), .toStr (.tmp 57), none⟩,
    ⟨(some 4), .mov (.tmp 58), none⟩,
    ⟨(some 5), .mov (.con (.int .i64 0)), none⟩])
  .ret))))))
def aRBytes : AFunc := ⟨2, cRBytes, [.tmp 4, .tmp 5]⟩
def cRoomyl0 : ACode := (.seq (.seq (.ops [⟨(some 16), .mov (.tmp 6), none⟩,
    ⟨(some 17), .mov (.tmp 5), none⟩,
    ⟨(some 18), .lenSlice (.tmp 17), none⟩,
    ⟨(some 19), .bin .lss (.tmp 16) (.tmp 18), none⟩])
  (.cond (.tmp 19)
  .skip
  (.exit 0)))
  (.seq (.block 1 (.ops [⟨(some 22), .mov (.tmp 5), none⟩,
    ⟨(some 23), .mov (.tmp 6), none⟩,
    ⟨(some 24), .mov (.tmp 1), none⟩,
    ⟨(some 25), .idxAddr 1 (.tmp 22) (.tmp 23), none⟩,
    ⟨none, .store 1 (.tmp 25) (.tmp 24), none⟩]))
  (.ops [⟨(some 20), .mov (.tmp 6), none⟩,
    ⟨(some 21), .bin .add (.tmp 20) (.con (.int .i64 1)), none⟩,
    ⟨(some 6), .mov (.tmp 21), none⟩])))
def cRoomy (bytes : Nat) (z : AV) : ACode := (.seq (.ops [⟨(some 4), .mov (.con .nilSlice), none⟩])
  (.seq (.ops [⟨(some 7), .mov (.tmp 0), none⟩,
    ⟨(some 8), .lenSlice (.tmp 7), none⟩,
    ⟨(some 9), .bin .add (.tmp 8) (.con (.int .i64 80)), none⟩,
    ⟨(some 10), .mkSlice 1 bytes [z] (.tmp 9) (.tmp 9), none⟩,
    ⟨(some 5), .mov (.tmp 10), none⟩])
  (.seq (.ops [⟨(some 11), .mov (.tmp 5), none⟩,
    ⟨(some 12), .mov (.tmp 0), none⟩,
    ⟨(some 13), .copy 1 (.tmp 11) (.tmp 12), none⟩])
  (.seq (.seq (.ops [⟨(some 14), .mov (.tmp 0), none⟩,
    ⟨(some 15), .lenSlice (.tmp 14), none⟩,
    ⟨(some 6), .mov (.tmp 15), none⟩])
  (.block 0 (.loop cRoomyl0)))
  (.seq (.ops [⟨(some 26), .mov (.tmp 5), none⟩,
    ⟨(some 4), .mov (.tmp 26), none⟩])
  .ret)))))
def aRoomy (bytes : Nat) (z : AV) : AFunc := ⟨2, cRoomy bytes z, [.tmp 4]⟩
def cIntactl0 : ACode := (.seq (.seq (.ops [⟨(some 25), .mov (.tmp 7), none⟩,
    ⟨(some 26), .mov (.tmp 0), none⟩,
    ⟨(some 27), .lenSlice (.tmp 26), none⟩,
    ⟨(some 28), .bin .lss (.tmp 25) (.tmp 27), none⟩])
  (.cond (.tmp 28)
  .skip
  (.exit 0)))
  (.seq (.block 1 (.seq (.ops [⟨(some 31), .mov (.tmp 0), none⟩,
    ⟨(some 32), .mov (.tmp 7), none⟩,
    ⟨(some 33), .idxAddr 1 (.tmp 31) (.tmp 32), none⟩,
    ⟨(some 34), .load false 1 (.tmp 33), none⟩,
    ⟨(some 35), .mov (.tmp 2), none⟩,
    ⟨(some 36), .bin .neq (.tmp 34) (.tmp 35), none⟩])
  (.cond (.tmp 36)
  (.seq (.ops [⟨(some 6), .mov (.con (.bool false)), none⟩])
  .ret)
  .skip)))
  (.ops [⟨(some 29), .mov (.tmp 7), none⟩,
    ⟨(some 30), .bin .add (.tmp 29) (.con (.int .i64 1)), none⟩,
    ⟨(some 7), .mov (.tmp 30), none⟩])))
def cIntact (gs : Nat) : ACode := (.seq (.ops [⟨(some 6), .mov (.con (.bool false)), none⟩])
  (.seq (.seq (.ops [⟨(some 8), .mov (.tmp 0), none⟩,
    ⟨(some 9), .lenSlice (.tmp 8), none⟩,
    ⟨(some 10), .mov (.tmp 1), none⟩,
    ⟨(some 11), .lenSlice (.tmp 10), none⟩,
    ⟨(some 12), .bin .add (.tmp 11) (.con (.int .i64 80)), none⟩,
    ⟨(some 13), .bin .neq (.tmp 9) (.tmp 12), none⟩,
    ⟨(some 14), .mov (.tmp 13), none⟩,
    ⟨(some 15), .mov (.tmp 0), (some (14, false))⟩,
    ⟨(some 16), .mov (.tmp 1), (some (14, false))⟩,
    ⟨(some 17), .lenSlice (.tmp 16), (some (14, false))⟩,
    ⟨(some 18), .slc 1 (.tmp 15) none (some (.tmp 17)) none, (some (14, false))⟩,
    ⟨(some 19), .mov (.tmp 1), (some (14, false))⟩,
    ⟨(some 20), .call gs [(.tmp 18), (.tmp 19)], (some (14, false))⟩,
    ⟨(some 21), .un .not (.tmp 20), (some (14, false))⟩,
    ⟨(some 22), .pick (.tmp 14) (.con (.bool true)) (.tmp 21), none⟩])
  (.cond (.tmp 22)
  (.seq (.ops [⟨(some 6), .mov (.con (.bool false)), none⟩])
  .ret)
  .skip))
  (.seq (.seq (.ops [⟨(some 23), .mov (.tmp 1), none⟩,
    ⟨(some 24), .lenSlice (.tmp 23), none⟩,
    ⟨(some 7), .mov (.tmp 24), none⟩])
  (.block 0 (.loop cIntactl0)))
  (.seq (.ops [⟨(some 6), .mov (.con (.bool true)), none⟩])
  .ret))))
def aIntact (gs : Nat) : AFunc := ⟨3, cIntact gs, [.tmp 6]⟩
/-- The number that bytes make, the first lowest. -/
def dig : List Nat → Nat
  | [] => 0
  | b :: r => b + 256 * dig r
theorem dig_snoc (b : Nat) : ∀ (l : List Nat), dig (l ++ [b]) = dig l + b * 256 ^ l.length
  | [] => by simp [dig]
  | a :: l => by
    simp only [List.cons_append, dig, dig_snoc b l, List.length_cons, Nat.pow_succ, Nat.mul_add]
    have : 256 * (b * 256 ^ l.length) = b * (256 ^ l.length * 256) := by rw [Nat.mul_left_comm, Nat.mul_comm (256 ^ l.length)]
    omega
theorem dig_lt : ∀ (l : List Nat), (∀ b ∈ l, b < 256) → dig l < 256 ^ l.length
  | [], _ => by simp [dig]
  | a :: l, h => by
    have h1 := h a (by simp)
    have h2 := dig_lt l fun b hb => h b (by simp [hb])
    simp only [dig, List.length_cons, Nat.pow_succ]
    omega
theorem dig_byte : ∀ (l : List Nat), (∀ b ∈ l, b < 256) → ∀ k, dig l / 256 ^ k % 256 = (l[k]?).getD 0
  | [], _, k => by simp [dig]
  | a :: l, h, 0 => by
    have h1 := h a (by simp)
    simp only [dig, Nat.pow_zero, Nat.div_one, List.getElem?_cons_zero, Option.getD_some]
    omega
  | a :: l, h, k + 1 => by
    have h1 := h a (by simp)
    have h2 := dig_byte l (fun b hb => h b (by simp [hb])) k
    simp only [dig, List.getElem?_cons_succ, Nat.pow_succ]
    rw [Nat.mul_comm (256 ^ k) 256, ← Nat.div_div_eq_div_mul, show (a + 256 * dig l) / 256 = dig l by omega]
    exact h2
/-- The bytes of one word. -/
def blk (bs : List Nat) (j : Nat) : List Nat := (bs.drop (8 * j)).take 8
theorem blk_take (bs : List Nat) (i j : Nat) : blk (bs.take i) j = (bs.drop (8 * j)).take (min 8 (i - 8 * j)) := by
  unfold blk
  rw [List.drop_take, List.take_take]
theorem blk_small {bs : List Nat} (h : ∀ b ∈ bs, b < 256) (j : Nat) : ∀ b ∈ blk bs j, b < 256 :=
  fun b hb => h b (List.mem_of_mem_drop (List.mem_of_mem_take hb))
theorem blk_len (bs : List Nat) (j : Nat) : (blk bs j).length ≤ 8 := by unfold blk; simp; omega
theorem blk_other {bs : List Nat} {i j : Nat} (h : j ≠ i / 8) : blk (bs.take (i + 1)) j = blk (bs.take i) j := by
  rw [blk_take, blk_take]
  congr 1
  omega
theorem blk_this {bs : List Nat} {i b : Nat} (h : bs[i]? = some b) : blk (bs.take (i + 1)) (i / 8) = blk (bs.take i) (i / 8) ++ [b] ∧ (blk (bs.take i) (i / 8)).length = i % 8 := by
  have hi : i < bs.length := by
    rcases Nat.lt_or_ge i bs.length with h' | h'
    · exact h'
    · rw [List.getElem?_eq_none h'] at h; cases h
  rw [blk_take, blk_take, show min 8 (i + 1 - 8 * (i / 8)) = i % 8 + 1 by omega, show min 8 (i - 8 * (i / 8)) = i % 8 by omega]
  constructor
  · rw [List.take_add_one, List.getElem?_drop, show 8 * (i / 8) + i % 8 = i by omega, h]; rfl
  · simp; omega
theorem blk_get (bs : List Nat) (k : Nat) : (blk bs (k / 8))[k % 8]? = bs[k]? := by
  unfold blk
  rw [List.getElem?_take, if_pos (by omega), List.getElem?_drop, show 8 * (k / 8) + k % 8 = k by omega]
/-- A text's words. -/
def wordsN (bs : List Nat) (n : Nat) : List Nat := (List.range n).map fun j => dig (blk bs j)
theorem wordsN_len (bs : List Nat) (n : Nat) : (wordsN bs n).length = n := by simp [wordsN]
theorem wordsN_get {bs : List Nat} {n j : Nat} (h : j < n) : (wordsN bs n)[j]? = some (dig (blk bs j)) := by simp [wordsN, h]
theorem wordsN_none {n : Nat} : wordsN [] n = List.replicate n 0 := by
  apply List.ext_getElem?
  intro j
  by_cases h : j < n
  · rw [wordsN_get h]; simp [h, blk, dig]
  · rw [List.getElem?_eq_none (by rw [wordsN_len]; omega), List.getElem?_eq_none (by simp; omega)]
theorem pow256 (k : Nat) : 256 ^ k = 2 ^ (8 * k) := by rw [Nat.pow_mul]
theorem wordsN_lt {bs : List Nat} {n : Nat} (h : ∀ b ∈ bs, b < 256) : ∀ x ∈ wordsN bs n, x < 18446744073709551616 := by
  intro x hx
  simp only [wordsN, List.mem_map] at hx
  obtain ⟨j, _, rfl⟩ := hx
  have := dig_lt (blk bs j) (blk_small h j)
  have h2 := Nat.pow_le_pow_right (n := 256) (by decide) (blk_len bs j)
  have h3 : 256 ^ 8 = 18446744073709551616 := by decide
  omega
/-- One byte more: an or, or a sum. -/
theorem words_step {bs : List Nat} {n i b : Nat} (hs : ∀ b ∈ bs, b < 256) (h : bs[i]? = some b) (hn : i / 8 < n) :
    dig (blk (bs.take i) (i / 8)) ||| (b * 2 ^ (8 * (i % 8))) < 18446744073709551616 ∧
    wordsN (bs.take (i + 1)) n = (wordsN (bs.take i) n).set (i / 8) (dig (blk (bs.take i) (i / 8)) ||| (b * 2 ^ (8 * (i % 8)))) := by
  obtain ⟨h1, h2⟩ := blk_this h
  have hsm : ∀ b ∈ blk (bs.take i) (i / 8), b < 256 := blk_small (fun b hb => hs b (List.mem_of_mem_take hb)) _
  have hlt := dig_lt _ hsm
  rw [h2, pow256] at hlt
  have hor : dig (blk (bs.take i) (i / 8)) ||| (b * 2 ^ (8 * (i % 8))) = dig (blk (bs.take (i + 1)) (i / 8)) := by
    rw [h1, dig_snoc, h2, pow256, Nat.or_comm, Nat.mul_comm b, ← Nat.two_pow_add_eq_or_of_lt hlt]; omega
  constructor
  · rw [hor]
    exact wordsN_lt (n := i / 8 + 1) (fun b hb => hs b (List.mem_of_mem_take hb)) _ (List.mem_of_getElem? (wordsN_get (Nat.lt_succ_self _)))
  · rw [hor]
    apply List.ext_getElem?
    intro j
    rw [List.getElem?_set]
    by_cases hj : j < n
    · rw [wordsN_get hj]
      by_cases e : i / 8 = j
      · subst e; rw [if_pos rfl, wordsN_len, if_pos hn]
      · rw [if_neg e, wordsN_get hj, blk_other (Ne.symm e)]
    · rw [List.getElem?_eq_none (by rw [wordsN_len]; omega)]
      rw [if_neg (by omega), List.getElem?_eq_none (by rw [wordsN_len]; omega)]
theorem words_end {bs : List Nat} {n i : Nat} (h : bs.length ≤ i) : wordsN (bs.take i) n = wordsN bs n := by rw [List.take_of_length_le h]
/-- A byte of words. -/
def byteAt (ws : List Nat) (k : Nat) : Nat := (ws[k / 8]?).getD 0 / 2 ^ (8 * (k % 8)) % 256
theorem byteAt_words {bs : List Nat} {n k : Nat} (hs : ∀ b ∈ bs, b < 256) (h : k / 8 < n) : byteAt (wordsN bs n) k = (bs[k]?).getD 0 := by
  unfold byteAt
  rw [wordsN_get h, Option.getD_some, ← pow256, dig_byte _ (blk_small hs _), blk_get]
def strB (ws : List Nat) (n : Nat) : List UInt8 := (List.range n).map fun k => UInt8.ofNat (byteAt ws k)
theorem strB_len (ws : List Nat) (n : Nat) : (strB ws n).length = n := by simp [strB]
/-- Are these bytes noughts? -/
def clearW (ws : List Nat) (n : Nat) : Prop := ∀ k, n ≤ k → k < 8 * ws.length → byteAt ws k = 0
open Classical in
/-- The text of so many bytes that words tell. -/
noncomputable def bytesR (ws : List Nat) (n : Int) : List UInt8 × Int :=
  if n < 0 ∨ n > 8 * ws.length then ([], 1) else if clearW ws n.toNat then (strB ws n.toNat, 0) else ([], 5)
/-! ### the laws -/
def nat8 (s : List UInt8) : List Nat := s.map (·.toNat)
theorem nat8_small (s : List UInt8) : ∀ b ∈ nat8 s, b < 256 := by
  intro b hb; simp only [nat8, List.mem_map] at hb; obtain ⟨c, _, rfl⟩ := hb; exact c.toNat_lt
theorem nat8_len (s : List UInt8) : (nat8 s).length = s.length := by simp [nat8]
theorem nat8_inj {s t : List UInt8} (h : nat8 s = nat8 t) : s = t := by
  unfold nat8 at h
  exact List.map_inj_right (fun a b hab => UInt8.toNat_inj.1 hab) |>.1 h
def cntN (n : Nat) : Nat := (n + 7) / 8
theorem strB_words (s : List UInt8) {n k : Nat} (hk : k ≤ s.length) (hn : s.length ≤ 8 * n) : strB (wordsN (nat8 s) n) k = s.take k := by
  apply List.ext_getElem?
  intro i
  rw [List.getElem?_take]
  by_cases hi : i < k
  · rw [if_pos hi]
    simp only [strB, List.getElem?_map, List.getElem?_range hi, Option.map_some]
    rw [byteAt_words (nat8_small s) (by omega), List.getElem?_eq_getElem (show i < s.length by omega)]
    simp only [nat8, List.getElem?_map, List.getElem?_eq_getElem (show i < s.length by omega), Option.map_some, Option.getD_some, UInt8.ofNat_toNat]
  · rw [if_neg hi, List.getElem?_eq_none (by rw [strB_len]; omega)]
theorem clearW_words (s : List UInt8) {n k : Nat} (hn : s.length ≤ 8 * n) : clearW (wordsN (nat8 s) n) k ↔ ∀ i c, k ≤ i → s[i]? = some c → c = 0 := by
  unfold clearW
  rw [wordsN_len]
  constructor
  · intro h i c hi hc
    have hl : i < s.length := by
      rcases Nat.lt_or_ge i s.length with h' | h'
      · exact h'
      · rw [List.getElem?_eq_none h'] at hc; cases hc
    have := h i hi (by omega)
    rw [byteAt_words (nat8_small s) (by omega)] at this
    simp only [nat8, List.getElem?_map, hc, Option.map_some, Option.getD_some] at this
    exact UInt8.toNat_inj.1 this
  · intro h i hi hl
    rw [byteAt_words (nat8_small s) (by omega)]
    cases hc : s[i]? with
    | none => simp [nat8, hc]
    | some c => rw [h i c hi hc] at hc; simp [nat8, hc]
theorem words_inj {s t : List UInt8} {n : Nat} (hl : s.length = t.length) (hn : s.length ≤ 8 * n) : wordsN (nat8 s) n = wordsN (nat8 t) n ↔ s = t := by
  constructor
  · intro h
    have h1 := strB_words s (Nat.le_refl _) hn
    have h2 := strB_words t (Nat.le_refl _) (hl ▸ hn)
    rw [h, hl, h2, List.take_length, ← hl, List.take_length] at h1
    exact h1.symm
  · intro h; rw [h]
theorem words_first {s t : List UInt8} {m n k : Nat} (h : 8 * k ≤ s.length) (hm : k ≤ m) (hn : k ≤ n) : (wordsN (nat8 (s ++ t)) m).take k = (wordsN (nat8 s) n).take k := by
  apply List.ext_getElem?
  intro j
  rw [List.getElem?_take, List.getElem?_take]
  by_cases hj : j < k
  · rw [if_pos hj, if_pos hj, wordsN_get (by omega), wordsN_get (by omega)]
    congr 2
    unfold blk nat8
    rw [List.map_append, List.drop_append_of_le_length (by simp; omega), List.take_append_of_le_length (by simp; omega)]
  · rw [if_neg hj, if_neg hj]
def cntI (n : Int) : Int := if n ≤ 0 then 0 else (n - 1) / 8 + 1
theorem count_ok {g : Nat} (he : T.env g = none) (hf : T.func g = some aCount) {n : Int} (h1 : -9223372036854775808 ≤ n) (h2 : n ≤ 9223372036854775807) :
    Gives T g [.int .i64 n] h fun r h' => r = .int .i64 (cntI n) ∧ h' = h := by
  refine gives_func he hf rfl ?_
  simp only [aCount, cCount, vms, vmc, AOpd.val, Nat.reduceEqDiff, reduceCtorEq, Nat.reduceAdd, Nat.reduceBEq, bin_quo8]
  by_cases hn : n ≤ 0
  · simp only [hn, vms, vmc, AOpd.val, Nat.reduceEqDiff, reduceCtorEq, Nat.reduceAdd, Nat.reduceBEq, cntI]; exact ⟨trivial, trivial⟩
  · have e1 : IntKind.i64.wrap (n - 1) = n - 1 := wrap_i64 (by omega) (by omega)
    have e2 : (n - 1).tdiv 8 = (n - 1) / 8 := Int.tdiv_eq_ediv_of_nonneg (by omega)
    have e3 : IntKind.i64.wrap ((n - 1) / 8) = (n - 1) / 8 := wrap_i64 (by omega) (by omega)
    have e4 : IntKind.i64.wrap ((n - 1) / 8 + 1) = (n - 1) / 8 + 1 := wrap_i64 (by omega) (by omega)
    simp only [hn, vms, vmc, AOpd.val, Nat.reduceEqDiff, reduceCtorEq, Nat.reduceAdd, Nat.reduceBEq, cntI, e1, e2, e3, e4]; exact ⟨trivial, trivial⟩
theorem cnt_nat (n : Nat) : cntI (n : Int) = (cntN n : Nat) := by
  unfold cntI cntN
  split
  · omega
  · omega

theorem bin_or_u64 {a b : Nat} (ha : a < 18446744073709551616) (hb : b < 18446744073709551616) (hab : a ||| b < 18446744073709551616) : binV .or (.int .u64 (a : Int)) (.int .u64 (b : Int)) = some (.int .u64 ((a ||| b : Nat) : Int)) := by
  show some (AV.int .u64 (IntKind.u64.wrap ((BitVec.ofInt 64 (a : Int) ||| BitVec.ofInt 64 (b : Int)).toNat : Int))) = _
  rw [BitVec.toNat_or, BitVec.ofInt_natCast, BitVec.ofInt_natCast, BitVec.toNat_ofNat, BitVec.toNat_ofNat, Nat.mod_eq_of_lt (show a < 2 ^ 64 by omega), Nat.mod_eq_of_lt (show b < 2 ^ 64 by omega),
    show IntKind.u64.wrap ((a ||| b : Nat) : Int) = ((a ||| b : Nat) : Int) from wrap_nat_le (show (a ||| b) ≤ 18446744073709551615 by omega)]
theorem wrap_u8 {n : Nat} : IntKind.u8.wrap (n : Int) = ((n % 256 : Nat) : Int) := by
  unfold IntKind.wrap
  simp [IntKind.bits, IntKind.signed]
theorem bin_shl_u64 {a n : Nat} (hn : n < 64) (h : a * 2 ^ n < 18446744073709551616) : binV .shl (.int .u64 (a : Int)) (.int .u64 (n : Int)) = some (.int .u64 ((a * 2 ^ n : Nat) : Int)) := by
  show intShift .shl .u64 (.ofNat a) (.ofNat n) = _
  unfold intShift
  rw [if_neg (by simp only [Int.ofNat_eq_natCast]; omega)]
  show some (AV.int .u64 (IntKind.u64.wrap (Int.ofNat a * 2 ^ min n 64))) = _
  rw [Nat.min_eq_left (by omega), show Int.ofNat a * 2 ^ n = ((a * 2 ^ n : Nat) : Int) by simp, wrap_u64 h]
theorem bin_shr_u64 {a n : Nat} (hn : n < 64) (k : IntKind) : binV .shr (.int .u64 (a : Int)) (.int k (n : Int)) = some (.int .u64 ((a / 2 ^ n : Nat) : Int)) := by
  show intShift .shr .u64 (.ofNat a) (.ofNat n) = _
  unfold intShift
  rw [if_neg (by simp only [Int.ofNat_eq_natCast]; omega)]
  show some (AV.int .u64 (Int.fdiv (Int.ofNat a) (2 ^ min n 64))) = _
  rw [Nat.min_eq_left (by omega), Int.fdiv_eq_ediv_of_nonneg _ (Int.le_of_lt (Int.pow_pos (by decide)))]
  simp
theorem bin_shl_i64 {a n : Nat} (hn : n < 64) (h : a * 2 ^ n < 18446744073709551616) : binV .shl (.int .u64 (a : Int)) (.int .i64 (n : Int)) = some (.int .u64 ((a * 2 ^ n : Nat) : Int)) := by
  show intShift .shl .u64 (.ofNat a) (.ofNat n) = _
  unfold intShift
  rw [if_neg (by simp only [Int.ofNat_eq_natCast]; omega)]
  show some (AV.int .u64 (IntKind.u64.wrap (Int.ofNat a * 2 ^ min n 64))) = _
  rw [Nat.min_eq_left (by omega), show Int.ofNat a * 2 ^ n = ((a * 2 ^ n : Nat) : Int) by simp, wrap_u64 h]
/-- Words as wcells. -/
def wcells (ws : List Nat) : List AV := ws.map fun (n : Nat) => .int .u64 (n : Int)
theorem wcells_get {ws : List Nat} {i n : Nat} (h : ws[i]? = some n) : (wcells ws)[i]? = some (.int .u64 (n : Int)) := by simp [wcells, h]
theorem wcells_len (ws : List Nat) : (wcells ws).length = ws.length := by simp [wcells]
theorem rep_cells (n : Nat) : rep [.int .u64 0] n = wcells (wordsN [] n) := by
  rw [rep_one, wordsN_none]; simp [wcells]
theorem tdiv8 (n : Nat) : ((n : Int)).tdiv 8 = ((n / 8 : Nat) : Int) := by rw [Int.tdiv_eq_ediv_of_nonneg (by omega)]; rfl
theorem tmod8 (n : Nat) : ((n : Int)).tmod 8 = ((n % 8 : Nat) : Int) := by rw [Int.tmod_eq_emod_of_nonneg (by omega)]; rfl
theorem idxStr_nat {s : List UInt8} {i : Nat} {c : UInt8} {k : IntKind} (h : s[i]? = some c) : idxStrV (.str s) (.int k (i : Int)) = some (.int .u8 (c.toNat : Nat)) := by
  simp [idxStrV, h]
theorem nat8_get {s : List UInt8} {i : Nat} {c : UInt8} (h : s[i]? = some c) : (nat8 s)[i]? = some c.toNat := by simp [nat8, h]
theorem pow8 {m b : Nat} (hm : m < 8) (hb : b < 256) : b * 2 ^ (8 * m) < 18446744073709551616 := by
  have h1 : b * 2 ^ (8 * m) ≤ 255 * 2 ^ (8 * m) := Nat.mul_le_mul_right _ (by omega)
  have h2 : 2 ^ (8 * m) ≤ 2 ^ 56 := Nat.pow_le_pow_right (by decide) (by omega)
  have h3 : (2 : Nat) ^ 56 = 72057594037927936 := by decide
  omega

/-- Words of a text: what comes and what lies there. -/
def IsWords (h : AH) (s : List UInt8) (r : AV) (h' : AH) : Prop :=
  Ext h h' ∧ Low h' ∧ h'.next = h.next + 1 ∧ r = .slice h.next 0 1 (cntN s.length) (cntN s.length) true ∧ h'.get h.next = some (.cells (wcells (wordsN (nat8 s) (cntN s.length))) true)
theorem words_ok {g gc : Nat} (he : T.env g = none) (hf : T.func g = some (aWords gc)) (he' : T.env gc = none) (hf' : T.func gc = some aCount) (hw : Low h) {s : List UInt8} (hl : s.length < 1000000) :
    Gives T g [.str s] h (IsWords h s) := by
  refine gives_func he hf rfl ?_
  simp only [aWords, cWords, vms, vmc, AOpd.val, Nat.reduceEqDiff, reduceCtorEq, Nat.reduceAdd, Nat.reduceBEq]
  refine Gives.bind ((count_ok he' hf' (by omega) (by omega)).mono ?_)
  rintro _ _ ⟨rfl, rfl⟩
  rename_i h
  rw [cnt_nat]
  have hc : cntN s.length < 1000000 := by unfold cntN; omega
  simp only [vms, vmc, AOpd.val, Nat.reduceEqDiff, reduceCtorEq, Nat.reduceAdd, Nat.reduceBEq, mkSlice_nat (h := h) (sz := 1) (bytes := 8) (zero := [.int .u64 0]) (k := .i64) (k' := .i64) (Nat.le_refl (cntN s.length)) (by omega) (by omega), rep_cells]
  refine wpc_loop (fun m f h' => ∃ i, m = s.length - i ∧ i ≤ s.length ∧ Ext h h' ∧ Low h' ∧ h'.next = h.next + 1 ∧ f.at 0 = .str s ∧ f.at 3 = .slice h.next 0 1 (cntN s.length) (cntN s.length) true ∧ f.at 10 = .int .i64 (s.length : Nat) ∧ f.at 11 = .int .i64 (i : Nat) ∧
      h'.get h.next = some (.cells (wcells (wordsN ((nat8 s).take i) (cntN s.length))) true)) ?_ s.length _ _ ⟨0, by simp, by simp, Ext.new _ _, hw.new _, rfl, ?_⟩
  · rintro m f h' ⟨i, rfl, hi, hx, hlow, hn, h0, h3, h10, h11, hg⟩
    simp only [cWordsl0, vms, vmc, AOpd.val, Nat.reduceEqDiff, reduceCtorEq, Nat.reduceAdd, Nat.reduceBEq, h0, h3, h10, h11]
    by_cases hlt : i < s.length
    · have hd : decide ((i : Int) < (s.length : Int)) = true := by simpa using hlt
      obtain ⟨c, hci⟩ : ∃ c, s[i]? = some c := ⟨_, List.getElem?_eq_getElem hlt⟩
      have hcl := c.toNat_lt
      have hj : i / 8 < cntN s.length := by unfold cntN; omega
      have hwl := wordsN_len ((nat8 s).take i) (cntN s.length)
      have hsm : ∀ b ∈ (nat8 s).take i, b < 256 := fun b hb => nat8_small s b (List.mem_of_mem_take hb)
      obtain ⟨hor, hst⟩ := words_step (n := cntN s.length) (nat8_small s) (nat8_get hci) hj
      have hold := wordsN_get (bs := (nat8 s).take i) hj
      have hlt64 := wordsN_lt hsm _ (List.mem_of_getElem? hold)
      have hp8 := pow8 (m := i % 8) (b := c.toNat) (Nat.mod_lt _ (by decide)) hcl
      have e1 : (8 : Int) * ((i % 8 : Nat) : Int) = ((8 * (i % 8) : Nat) : Int) := by omega
      simp only [hd, vms, vmc, AOpd.val, Nat.reduceEqDiff, reduceCtorEq, Nat.reduceAdd, Nat.reduceBEq, h0, h3, h10, h11, bin_quo8, bin_rem8, tdiv8, tmod8, wrap_i64n (show i / 8 < 9223372036854775808 by omega), idx_nat hj, Nat.zero_add, load_at hg (wcells_get hold), idxStr_nat hci,
        wrap_u64 (show c.toNat < 18446744073709551616 by omega), e1, wrap_i64n (show 8 * (i % 8) < 9223372036854775808 by omega), wrap_u64 (show 8 * (i % 8) < 18446744073709551616 by omega),
        bin_shl_u64 (show 8 * (i % 8) < 64 by omega) hp8, bin_or_u64 hlt64 hp8 hor, store_int hg (show i / 8 < (wcells (wordsN ((nat8 s).take i) (cntN s.length))).length by rw [wcells_len, hwl]; exact hj)]
      have hw : IntKind.i64.wrap ((i : Int) + 1) = ((i + 1 : Nat) : Int) := by rw [wrap_i64 (by omega) (by omega)]; rfl
      refine ⟨s.length - (i + 1), by omega, i + 1, rfl, by omega, hx.set (Nat.le_refl _) _, hlow.set (by omega) _, hn, ?_⟩
      simp only [hw]
      refine ⟨trivial, trivial, trivial, trivial, ?_⟩
      rw [get_set_same, hst]
      simp only [wcells, List.map_set]
    · have hd : decide ((i : Int) < (s.length : Int)) = false := by simpa using hlt
      simp only [hd, vms, vmc, AOpd.val, Nat.reduceEqDiff, reduceCtorEq, Nat.reduceAdd, Nat.reduceBEq, h3]
      refine ⟨hx, hlow, hn, rfl, ?_⟩
      rw [hg, words_end (by rw [nat8_len]; omega)]
  · simp only [vms, vmc, AOpd.val, Nat.reduceEqDiff, reduceCtorEq, Nat.reduceAdd, Nat.reduceBEq, get_new_same, List.take_zero]
    repeat' (first | exact trivial | exact rfl | apply And.intro)
theorem words_ref {g : Nat} (he : T.env g = none) (hf : T.func g = some aRWords) (hw : Low h) {s : List UInt8} (hl : s.length < 1000000) :
    Gives T g [.str s] h (IsWords h s) := by
  refine gives_func he hf rfl ?_
  have hc : cntN s.length < 1000000 := by unfold cntN; omega
  have e7 : IntKind.i64.wrap ((s.length : Int) + 7) = ((s.length + 7 : Nat) : Int) := by rw [wrap_i64 (by omega) (by omega)]; rfl
  have e8 : (s.length + 7) / 8 = cntN s.length := rfl
  simp only [aRWords, cRWords, vms, vmc, AOpd.val, Nat.reduceEqDiff, reduceCtorEq, Nat.reduceAdd, Nat.reduceBEq, e7, bin_quo8, tdiv8, e8, wrap_i64n (show cntN s.length < 9223372036854775808 by omega), mkSlice_nat (h := h) (sz := 1) (bytes := 8) (zero := [.int .u64 0]) (k := .i64) (k' := .i64) (Nat.le_refl (cntN s.length)) (by omega) (by omega), rep_cells]
  refine wpc_loop (fun m f h' => ∃ i, m = s.length - i ∧ i ≤ s.length ∧ Ext h h' ∧ Low h' ∧ h'.next = h.next + 1 ∧ f.at 0 = .str s ∧ f.at 3 = .slice h.next 0 1 (cntN s.length) (cntN s.length) true ∧ f.at 4 = .int .i64 (i : Nat) ∧
      h'.get h.next = some (.cells (wcells (wordsN ((nat8 s).take i) (cntN s.length))) true)) ?_ s.length _ _ ⟨0, by simp, by simp, Ext.new _ _, hw.new _, rfl, ?_⟩
  · rintro m f h' ⟨i, rfl, hi, hx, hlow, hn, h0, h3, h4, hg⟩
    simp only [cRWordsl0, vms, vmc, AOpd.val, Nat.reduceEqDiff, reduceCtorEq, Nat.reduceAdd, Nat.reduceBEq, h0, h3, h4]
    by_cases hlt : i < s.length
    · have hd : decide ((i : Int) < (s.length : Int)) = true := by simpa using hlt
      obtain ⟨c, hci⟩ : ∃ c, s[i]? = some c := ⟨_, List.getElem?_eq_getElem hlt⟩
      have hcl := c.toNat_lt
      have hj : i / 8 < cntN s.length := by unfold cntN; omega
      have hwl := wordsN_len ((nat8 s).take i) (cntN s.length)
      have hsm : ∀ b ∈ (nat8 s).take i, b < 256 := fun b hb => nat8_small s b (List.mem_of_mem_take hb)
      obtain ⟨hor, hst⟩ := words_step (n := cntN s.length) (nat8_small s) (nat8_get hci) hj
      have hold := wordsN_get (bs := (nat8 s).take i) hj
      have hlt64 := wordsN_lt hsm _ (List.mem_of_getElem? hold)
      have hp8 := pow8 (m := i % 8) (b := c.toNat) (Nat.mod_lt _ (by decide)) hcl
      have e1 : (8 : Int) * ((i % 8 : Nat) : Int) = ((8 * (i % 8) : Nat) : Int) := by omega
      simp only [hd, vms, vmc, AOpd.val, Nat.reduceEqDiff, reduceCtorEq, Nat.reduceAdd, Nat.reduceBEq, h0, h3, h4, bin_quo8, bin_rem8, tdiv8, tmod8, wrap_i64n (show i / 8 < 9223372036854775808 by omega), idx_nat hj, Nat.zero_add, load_at hg (wcells_get hold), idxStr_nat hci,
        wrap_u64 (show c.toNat < 18446744073709551616 by omega), e1, wrap_i64n (show 8 * (i % 8) < 9223372036854775808 by omega),
        bin_shl_i64 (show 8 * (i % 8) < 64 by omega) hp8, bin_or_u64 hlt64 hp8 hor, store_int hg (show i / 8 < (wcells (wordsN ((nat8 s).take i) (cntN s.length))).length by rw [wcells_len, hwl]; exact hj)]
      have hw : IntKind.i64.wrap ((i : Int) + 1) = ((i + 1 : Nat) : Int) := by rw [wrap_i64 (by omega) (by omega)]; rfl
      refine ⟨s.length - (i + 1), by omega, i + 1, rfl, by omega, hx.set (Nat.le_refl _) _, hlow.set (by omega) _, hn, ?_⟩
      simp only [hw]
      refine ⟨trivial, trivial, trivial, ?_⟩
      rw [get_set_same, hst]
      simp only [wcells, List.map_set]
    · have hd : decide ((i : Int) < (s.length : Int)) = false := by simpa using hlt
      simp only [hd, vms, vmc, AOpd.val, Nat.reduceEqDiff, reduceCtorEq, Nat.reduceAdd, Nat.reduceBEq, h3]
      refine ⟨hx, hlow, hn, rfl, ?_⟩
      rw [hg, words_end (by rw [nat8_len]; omega)]
  · simp only [vms, vmc, AOpd.val, Nat.reduceEqDiff, reduceCtorEq, Nat.reduceAdd, Nat.reduceBEq, get_new_same, List.take_zero]
    repeat' (first | exact trivial | exact rfl | apply And.intro)
/-- Bytes as wcells. -/
def bycells (ws : List Nat) (n : Nat) : List AV := (List.range n).map fun k => .int .u8 (byteAt ws k : Nat)
theorem bycells_len (ws : List Nat) (n : Nat) : (bycells ws n).length = n := by simp [bycells]
theorem bycells_get {ws : List Nat} {n k : Nat} (h : k < n) : (bycells ws n)[k]? = some (.int .u8 (byteAt ws k : Nat)) := by simp [bycells, h]
theorem bycells_succ (ws : List Nat) (n : Nat) : bycells ws (n + 1) = bycells ws n ++ [.int .u8 (byteAt ws n : Nat)] := by
  simp [bycells, List.range_succ]
theorem byteAt_lt (ws : List Nat) (k : Nat) : byteAt ws k < 256 := Nat.mod_lt _ (by decide)
theorem strOf_bcells (ws : List Nat) (n : Nat) : strOf (bycells ws n) = some (strB ws n) := by
  unfold bycells strB
  generalize List.range n = l
  induction l with
  | nil => rfl
  | cons a l ih => simp [strOf, ih]
theorem sees_words {v : AV} {ws : List Nat} (s : Sees h v (wcells ws)) : lenOfV v = some ws.length := by rw [s.len, wcells_len]
theorem Sees.word {v : AV} {ws : List Nat} (s : Sees h v (wcells ws)) {i n : Nat} (hn : ws[i]? = some n) (k : IntKind) : ∃ a, idxAddrV 1 v (.int k (i : Int)) = some a ∧ loadV h false 1 a = some (.int .u64 (n : Int)) :=
  s.at (wcells_get hn) k
theorem Sees.ext {h h' : AH} {v : AV} {xs : List AV} (s : Sees h v xs) (hx : Ext h h') (hw : ∀ o x, h.get o = some x → o < h.next) : Sees h' v xs := by
  rcases s with ⟨rfl, rfl⟩ | ⟨o, off, cap, ex, l, rw, rfl, hg, hll, hc⟩
  · exact .inl ⟨rfl, rfl⟩
  · exact .inr ⟨o, off, cap, ex, l, rw, rfl, (hx.2 o (hw o _ hg)).trans hg, hll, hc⟩
theorem bin_shr8 {n w : Nat} (i : Nat) (hi : i < 8) : byteAt [w] i = w / 2 ^ (8 * i) % 256 := by unfold byteAt; rw [Nat.div_eq_of_lt hi, Nat.mod_eq_of_lt hi]; rfl
theorem byteAt_of {ws : List Nat} {t w i : Nat} (h : ws[t]? = some w) (hi : i < 8) : byteAt ws (8 * t + i) = w / 2 ^ (8 * i) % 256 := by
  unfold byteAt
  rw [show (8 * t + i) / 8 = t by omega, show (8 * t + i) % 8 = i by omega, h]; rfl
theorem byteAt_idx {ws : List Nat} {k w : Nat} (h : ws[k / 8]? = some w) : byteAt ws k = w / 2 ^ (8 * (k % 8)) % 256 := by
  unfold byteAt; rw [h]; rfl
/-- A byte behind others, in the room that is there. -/
theorem append_in {h : AH} {o n cap : Nat} {ex : Bool} {l : List AV} {k : IntKind} {b : Int} {o2 : Nat} (hg : h.get o = some (.cells l true)) (hg2 : h.get o2 = some (.cells [.int k b] true)) (hn : n < cap) (hl : n < l.length) :
    appV 1 1 h (.slice o 0 1 n cap ex) (.slice o2 0 1 1 1 true) = some (.slice o 0 1 (n + 1) cap ex, h.set o (.cells (l.set n (.int k b)) true)) := by
  simp only [appV, lenOfV, Option.bind_some, AH.elems, AH.load, hg2, List.length_cons, List.length_nil]
  simp only [appendV]
  have hs : h.store o (0 + n * 1) [.int k b] = some (h.set o (.cells (l.set n (.int k b)) true)) := by
    simp only [AH.store, hg, List.length_cons, List.length_nil, List.all_cons, List.all_nil, Bool.and_true, setMany]
    rw [if_pos ⟨by omega, rfl⟩]; simp
  simp only [Nat.zero_add, Nat.mul_one] at hs
  simp [show n + 1 ≤ cap by omega, hs]
/-- What a text of bytes comes to. -/
def IsText (h : AH) (ws : List Nat) (n : Int) (r : AV) (h' : AH) : Prop :=
  Ext h h' ∧ Low h' ∧ r = .tuple [.str (bytesR ws n).1, .int .i64 (bytesR ws n).2]
theorem bytesR_arg {ws : List Nat} {n : Int} (h : n < 0 ∨ n > 8 * ws.length) : bytesR ws n = ([], 1) := by unfold bytesR; rw [if_pos h]
theorem bytesR_form {ws : List Nat} {n : Nat} (h : n ≤ 8 * ws.length) {k : Nat} (hk : n ≤ k) (hk' : k < 8 * ws.length) (hb : byteAt ws k ≠ 0) : bytesR ws n = ([], 5) := by
  unfold bytesR
  rw [if_neg (by omega), if_neg (fun hc => hb (hc k (by simpa using hk) hk'))]
theorem bytesR_ok {ws : List Nat} {n : Nat} (h : n ≤ 8 * ws.length) (hc : clearW ws n) : bytesR ws n = (strB ws n, 0) := by
  unfold bytesR
  rw [if_neg (by omega), if_pos (by simpa using hc)]; simp

theorem bytes_ref {g : Nat} (he : T.env g = none) (hf : T.func g = some aRBytes) {v : AV} {ws : List Nat} {n : Int} (hw : Low h) (s : Sees h v (wcells ws)) (hl : ws.length < 1000000) (h64 : ∀ x ∈ ws, x < 18446744073709551616) (hn1 : -9223372036854775808 ≤ n) (hn2 : n ≤ 9223372036854775807) :
    Gives T g [v, .int .i64 n] h (IsText h ws n) := by
  refine gives_func he hf rfl ?_
  have e8 : IntKind.i64.wrap (8 * (ws.length : Int)) = 8 * (ws.length : Int) := wrap_i64 (by omega) (by omega)
  simp only [aRBytes, cRBytes, vms, vmc, AOpd.val, Nat.reduceEqDiff, reduceCtorEq, Nat.reduceAdd, Nat.reduceBEq, sees_words s, e8]
  by_cases hneg : n < 0
  · simp only [hneg, vms, vmc, AOpd.val, Nat.reduceEqDiff, reduceCtorEq, Nat.reduceAdd, Nat.reduceBEq, sees_words s, e8]
    exact ⟨Ext.refl _, hw, by rw [bytesR_arg (.inl hneg)]⟩
  by_cases hbig : n > 8 * (ws.length : Int)
  · simp only [hneg, hbig, vms, vmc, AOpd.val, Nat.reduceEqDiff, reduceCtorEq, Nat.reduceAdd, Nat.reduceBEq, sees_words s, e8]
    exact ⟨Ext.refl _, hw, by rw [bytesR_arg (.inr hbig)]⟩
  obtain ⟨m, rfl⟩ : ∃ m : Nat, n = m := ⟨n.toNat, by omega⟩
  have hm : m ≤ 8 * ws.length := by omega
  simp only [hneg, hbig, vms, vmc, AOpd.val, Nat.reduceEqDiff, reduceCtorEq, Nat.reduceAdd, Nat.reduceBEq, sees_words s, e8, mkSlice_nat (h := h) (sz := 1) (bytes := 1) (zero := [.int .u8 0]) (k := .i64) (k' := .i64) (Nat.le_refl m) (by omega) (by omega)]
  have s' : ∀ {h' : AH}, Ext h h' → Sees h' v (wcells ws) := fun hx => s.ext hx hw
  refine wpc_loop (fun k f h' => ∃ i, k = m - i ∧ i ≤ m ∧ Ext h h' ∧ Low h' ∧ f.at 0 = v ∧ f.at 1 = .int .i64 (m : Nat) ∧ f.at 6 = .slice h.next 0 1 m m true ∧ f.at 7 = .int .i64 (i : Nat) ∧
      ∃ l, h'.get h.next = some (.cells l true) ∧ l.length = m ∧ ∀ j, j < i → l[j]? = some (.int .u8 (byteAt ws j : Nat))) ?_ m _ _ ⟨0, by simp, by simp, Ext.new _ _, hw.new _, ?_⟩
  · rintro k f h' ⟨i, rfl, hi, hx, hlow, h0, h1, h6, h7, l, hg, hll, hpre⟩
    simp only [cRBytesl0, vms, vmc, AOpd.val, Nat.reduceEqDiff, reduceCtorEq, Nat.reduceAdd, Nat.reduceBEq, h0, h1, h6, h7]
    by_cases hlt : i < m
    · have hd : decide ((i : Int) < (m : Int)) = true := by simpa using hlt
      obtain ⟨w, hwi⟩ : ∃ w, ws[i / 8]? = some w := ⟨_, List.getElem?_eq_getElem (by omega)⟩
      obtain ⟨p, hp1, hp2⟩ := (s' hx).word hwi .i64
      have e1 : (8 : Int) * ((i % 8 : Nat) : Int) = ((8 * (i % 8) : Nat) : Int) := by omega
      simp only [hd, vms, vmc, AOpd.val, Nat.reduceEqDiff, reduceCtorEq, Nat.reduceAdd, Nat.reduceBEq, h0, h1, h6, h7, bin_quo8, bin_rem8, tdiv8, tmod8, wrap_i64n (show i / 8 < 9223372036854775808 by omega), hp1, hp2, e1, wrap_i64n (show 8 * (i % 8) < 9223372036854775808 by omega),
        bin_shr_u64 (show 8 * (i % 8) < 64 by omega), wrap_u8, ← byteAt_idx hwi, idx_nat hlt, Nat.zero_add, store_int hg (show i < l.length by omega)]
      have hw' : IntKind.i64.wrap ((i : Int) + 1) = ((i + 1 : Nat) : Int) := by rw [wrap_i64 (by omega) (by omega)]; rfl
      refine ⟨m - (i + 1), by omega, i + 1, rfl, by omega, hx.set (Nat.le_refl _) _, hlow.set (hlow _ _ hg) _, ?_⟩
      simp only [hw']
      refine ⟨trivial, trivial, trivial, trivial, l.set i _, get_set_same, by simp [hll], ?_⟩
      intro j hj
      rw [List.getElem?_set]
      by_cases e : i = j
      · subst e; rw [if_pos rfl, if_pos (by omega)]
      · rw [if_neg e]; exact hpre j (by omega)
    · have hd : decide ((i : Int) < (m : Int)) = false := by simpa using hlt
      simp only [hd, vms, vmc, AOpd.val, Nat.reduceEqDiff, reduceCtorEq, Nat.reduceAdd, Nat.reduceBEq, h1]
      have hi : i = m := by omega
      subst hi
      have hl2 : l = bycells ws i := by
        apply List.ext_getElem?
        intro j
        by_cases hj : j < i
        · rw [hpre j hj, bycells_get hj]
        · rw [List.getElem?_eq_none (by omega), List.getElem?_eq_none (by rw [bycells_len]; omega)]
      subst hl2
      refine wpc_loop (fun k f h'' => ∃ t, k = 8 * ws.length - t ∧ i ≤ t ∧ t ≤ 8 * ws.length ∧ h'' = h' ∧ f.at 0 = v ∧ f.at 6 = .slice h.next 0 1 i i true ∧ f.at 8 = .int .i64 (t : Nat) ∧ ∀ j, i ≤ j → j < t → byteAt ws j = 0) ?_ (8 * ws.length - i) _ _ ⟨i, rfl, Nat.le_refl _, hm, rfl, ?_⟩
      · rintro k f h'' ⟨t, rfl, hit, ht, rfl, h0, h6, h8, hpre2⟩
        simp only [cRBytesl1, vms, vmc, AOpd.val, Nat.reduceEqDiff, reduceCtorEq, Nat.reduceAdd, Nat.reduceBEq, h0, h6, h8, sees_words s, e8]
        by_cases hlt2 : t < 8 * ws.length
        · have hd2 : decide ((t : Int) < 8 * (ws.length : Int)) = true := by simp; omega
          obtain ⟨w, hwi⟩ : ∃ w, ws[t / 8]? = some w := ⟨_, List.getElem?_eq_getElem (by omega)⟩
          obtain ⟨p, hp1, hp2⟩ := (s' hx).word hwi .i64
          have e1 : (8 : Int) * ((t % 8 : Nat) : Int) = ((8 * (t % 8) : Nat) : Int) := by omega
          simp only [hd2, vms, vmc, AOpd.val, Nat.reduceEqDiff, reduceCtorEq, Nat.reduceAdd, Nat.reduceBEq, h0, h6, h8, bin_quo8, bin_rem8, tdiv8, tmod8, wrap_i64n (show t / 8 < 9223372036854775808 by omega), hp1, hp2, e1, wrap_i64n (show 8 * (t % 8) < 9223372036854775808 by omega),
            bin_shr_u64 (show 8 * (t % 8) < 64 by omega), wrap_u8, ← byteAt_idx hwi]
          by_cases hz : byteAt ws t = 0
          · have hb : ((byteAt ws t : Nat) : Int) != 0 ↔ False := by simp [hz]
            simp only [hz, vms, vmc, AOpd.val, Nat.reduceEqDiff, reduceCtorEq, Nat.reduceAdd, Nat.reduceBEq]
            have hw' : IntKind.i64.wrap ((t : Int) + 1) = ((t + 1 : Nat) : Int) := by rw [wrap_i64 (by omega) (by omega)]; rfl
            simp only [show (((0 : Nat) : Int) != 0) = false from rfl, vms, vmc, AOpd.val, Nat.reduceEqDiff, reduceCtorEq, Nat.reduceAdd, Nat.reduceBEq, h0, h6, h8, hw']
            refine ⟨8 * ws.length - (t + 1), by omega, t + 1, rfl, by omega, by omega, trivial, trivial, trivial, rfl, ?_⟩
            intro j hj1 hj2
            by_cases e : j = t
            · subst e; exact hz
            · exact hpre2 j hj1 (by omega)
          · have hb : (((byteAt ws t : Nat) : Int) != 0) = true := by simp; omega
            simp only [hb, vms, vmc, AOpd.val, Nat.reduceEqDiff, reduceCtorEq, Nat.reduceAdd, Nat.reduceBEq]
            exact ⟨hx, hlow, by rw [bytesR_form hm hit hlt2 hz]⟩
        · have hd2 : decide ((t : Int) < 8 * (ws.length : Int)) = false := by simp; omega
          have hc : clearW ws i := fun j hj1 hj2 => hpre2 j hj1 (by omega)
          have hts : toStrV h'' (.slice h.next 0 1 i i true) = some (.str (strB ws i)) := by
            simp only [toStrV, if_true, AH.load, hg, List.drop_zero]
            rw [if_pos (by rw [bycells_len]; omega), List.take_of_length_le (by rw [bycells_len]; omega)]
            simp [strOf_bcells]
          simp only [hd2, vms, vmc, AOpd.val, Nat.reduceEqDiff, reduceCtorEq, Nat.reduceAdd, Nat.reduceBEq, h6, hts]
          exact ⟨hx, hlow, by rw [bytesR_ok hm hc]⟩
      · simp only [vms, vmc, AOpd.val, Nat.reduceEqDiff, reduceCtorEq, Nat.reduceAdd, Nat.reduceBEq, h0, h6, h1]
        refine ⟨trivial, trivial, trivial, fun j h1 h2 => absurd h2 (by omega)⟩
  · simp only [vms, vmc, AOpd.val, Nat.reduceEqDiff, reduceCtorEq, Nat.reduceAdd, Nat.reduceBEq, get_new_same]
    refine ⟨trivial, trivial, trivial, rfl, _, rfl, by rw [rep_one]; simp, fun j hj => absurd hj (by omega)⟩
/-- Ext, but for one object that is one's own. -/
theorem Ext.keep {a b : AH} (k : Ext a b) {c : AH} (hn : b.next ≤ c.next) (hg : ∀ o, o < a.next → c.get o = b.get o) : Ext a c :=
  ⟨Nat.le_trans k.1 hn, fun o ho => (hg o ho).trans (k.2 o ho)⟩
theorem get_other {h : AH} {o p : Nat} {x : AObj} (e : o ≠ p) : (h.set o x).get p = h.get p := by rw [AH.get_set, if_neg e]
theorem get_new_old {h : AH} {p : Nat} {x : AObj} (e : p < h.next) : (h.new x).get p = h.get p := by rw [AH.get_new, if_neg (by omega)]
theorem slc_fromW {o len cap n : Nat} {ex : Bool} (hn : n ≤ len) (hc : n ≤ cap) : slcV 1 (.slice o 0 1 len cap ex) (some (.int .i64 (n : Int))) none none =
    some (.slice o (if ex && decide (cap = n) then 0 else n) 1 (len - n) (cap - n) ex) := by
  simp [slcV, bounds, boundM, boundH, boundL, natOf, hn, Option.filter]
theorem slc_to {o len cap n : Nat} {ex : Bool} (hn : n ≤ cap) (h0 : 0 < cap) : slcV 1 (.slice o 0 1 len cap ex) none (some (.int .i64 (n : Int))) none = some (.slice o 0 1 n cap ex) := by
  have : ¬ cap = 0 := by omega
  simp [slcV, bounds, boundM, boundH, boundL, natOf, hn, Option.filter, this]
theorem buildOne {k : IntKind} {n : Int} {z : AV} : fillV [z] [(0, 1, .int k n)] = some [.int k n] := by
  simp [fillV, AV.isDef, AV.cells, setMany]

/-- Eight bytes of a word, behind what is there. -/
theorem bytes_in {g : Nat} (he : T.env g = none) {ws : List Nat} {t w N : Nat} {h0 : AH} {v : AV} {n : Int} (hwt : ws[t]? = some w) (hN : N = 8 * ws.length) (hNs : N < 8000000) (Q : AExit → Fr → AH → Prop)
    (f : Fr) (h : AH) (hx : Ext h0 h) (hlow : Low h) (hb : h0.next < h.next) (e0 : f.at 0 = v) (e1 : f.at 1 = .int .i64 n) (e6 : f.at 6 = .slice h0.next 0 1 (8 * t) N true) (e8 : f.at 8 = .int .u64 (w : Int)) (e31 : f.at 31 = .int .i64 0)
    {vs vl vi : AV} (e25 : f.at 25 = vs) (e26 : f.at 26 = vl) (e27 : f.at 27 = vi)
    (hg : ∃ l, h.get h0.next = some (.cells l true) ∧ l.length = N ∧ ∀ j, j < 8 * t → l[j]? = some (.int .u8 (byteAt ws j : Nat)))
    (hQ : ∀ f h, Ext h0 h → Low h → h0.next < h.next → f.at 0 = v → f.at 1 = .int .i64 n → f.at 6 = .slice h0.next 0 1 (8 * (t + 1)) N true → f.at 25 = vs → f.at 26 = vl → f.at 27 = vi →
      (∃ l, h.get h0.next = some (.cells l true) ∧ l.length = N ∧ ∀ j, j < 8 * (t + 1) → l[j]? = some (.int .u8 (byteAt ws j : Nat))) → Q (.exit 2) f h) :
    Wp (code T (.loop cBytesl0) f h) Q := by
  have ht : t < ws.length := by
    rcases Nat.lt_or_ge t ws.length with h' | h'
    · exact h'
    · rw [List.getElem?_eq_none h'] at hwt; cases hwt
  refine wpc_loop (fun m f h => ∃ i, m = 8 - i ∧ i ≤ 8 ∧ Ext h0 h ∧ Low h ∧ h0.next < h.next ∧ f.at 0 = v ∧ f.at 1 = .int .i64 n ∧ f.at 6 = .slice h0.next 0 1 (8 * t + i) N true ∧ f.at 8 = .int .u64 (w : Int) ∧ f.at 31 = .int .i64 (i : Nat) ∧ f.at 25 = vs ∧ f.at 26 = vl ∧ f.at 27 = vi ∧
      ∃ l, h.get h0.next = some (.cells l true) ∧ l.length = N ∧ ∀ j, j < 8 * t + i → l[j]? = some (.int .u8 (byteAt ws j : Nat))) ?_ 8 f h ⟨0, rfl, by omega, hx, hlow, hb, e0, e1, e6, e8, e31, e25, e26, e27, hg⟩
  rintro m f h ⟨i, rfl, hi, hx, hlow, hb, e0, e1, e6, e8, e31, e25, e26, e27, l, hg, hl, hpre⟩
  simp only [cBytesl0, vms, vmc, AOpd.val, Nat.reduceEqDiff, reduceCtorEq, Nat.reduceAdd, Nat.reduceBEq, e0, e1, e6, e8, e31]
  by_cases hlt : i < 8
  · have hd : decide ((i : Int) < 8) = true := by simp; omega
    have w1 : (8 : Int) * (i : Int) = ((8 * i : Nat) : Int) := by omega
    simp only [hd, vms, vmc, AOpd.val, Nat.reduceEqDiff, reduceCtorEq, Nat.reduceAdd, Nat.reduceBEq, e0, e1, e6, e8, e31, w1, wrap_i64n (show 8 * i < 9223372036854775808 by omega), wrap_u64 (show 8 * i < 18446744073709551616 by omega), bin_shr_u64 (show 8 * i < 64 by omega), wrap_u8, ← byteAt_of hwt hlt, buildOne]
    have hg' : (h.new (.cells [.int .u8 (byteAt ws (8 * t + i) : Nat)] true)).get h0.next = some (.cells l true) := by rw [get_new_old hb]; exact hg
    simp only [append_in hg' get_new_same (show 8 * t + i < N by omega) (show 8 * t + i < l.length by omega), vms, vmc, AOpd.val, Nat.reduceEqDiff, reduceCtorEq, Nat.reduceAdd, Nat.reduceBEq, e0, e1, e6, e8, e31]
    have hw' : IntKind.i64.wrap ((i : Int) + 1) = ((i + 1 : Nat) : Int) := by rw [wrap_i64 (by omega) (by omega)]; rfl
    refine ⟨8 - (i + 1), by omega, i + 1, rfl, by omega, (hx.trans (Ext.new _ _)).set (Nat.le_refl _) _, (hlow.new _).set (by rw [next_new]; omega) _, by rw [next_set, next_new]; omega, ?_⟩
    simp only [e0, e1, e6, e8, e31, e25, e26, e27, hw']
    refine ⟨trivial, trivial, rfl, trivial, trivial, trivial, trivial, trivial, _, get_set_same, by simp [hl], ?_⟩
    intro j hj
    rw [List.getElem?_set]
    by_cases e : 8 * t + i = j
    · subst e; rw [if_pos rfl, if_pos (by omega)]
    · rw [if_neg e]; exact hpre j (by omega)
  · have hd : decide ((i : Int) < 8) = false := by simp; omega
    have : i = 8 := by omega
    subst this
    simp only [hd, vms, vmc, AOpd.val, Nat.reduceEqDiff, reduceCtorEq, Nat.reduceAdd, Nat.reduceBEq]
    refine hQ _ h hx hlow hb ?_ ?_ ?_ ?_ ?_ ?_ ⟨l, hg, hl, fun j hj => hpre j (by omega)⟩ <;> simp only [vms, vmc, AOpd.val, Nat.reduceEqDiff, reduceCtorEq, Nat.reduceAdd, Nat.reduceBEq, e0, e1, e6, e25, e26, e27, show 8 * (t + 1) = 8 * t + 8 by omega]
theorem bytes_ok {g : Nat} (he : T.env g = none) (hf : T.func g = some aBytes) {v : AV} {ws : List Nat} {n : Int} (hw : Low h) (s : Sees h v (wcells ws)) (hl : ws.length < 1000000) (hn1 : -9223372036854775808 ≤ n) (hn2 : n ≤ 9223372036854775807) :
    Gives T g [v, .int .i64 n] h (IsText h ws n) := by
  refine gives_func he hf rfl ?_
  have e8 : IntKind.i64.wrap (8 * (ws.length : Int)) = ((8 * ws.length : Nat) : Int) := by rw [wrap_i64 (by omega) (by omega)]; rfl
  simp only [aBytes, cBytes, vms, vmc, AOpd.val, Nat.reduceEqDiff, reduceCtorEq, Nat.reduceAdd, Nat.reduceBEq, sees_words s, e8]
  by_cases hneg : n < 0
  · simp only [hneg, vms, vmc, AOpd.val, Nat.reduceEqDiff, reduceCtorEq, Nat.reduceAdd, Nat.reduceBEq, sees_words s, e8]
    exact ⟨Ext.refl _, hw, by rw [bytesR_arg (.inl hneg)]⟩
  by_cases hbig : n > ((8 * ws.length : Nat) : Int)
  · simp only [hneg, hbig, vms, vmc, AOpd.val, Nat.reduceEqDiff, reduceCtorEq, Nat.reduceAdd, Nat.reduceBEq, sees_words s, e8]
    exact ⟨Ext.refl _, hw, by rw [bytesR_arg (.inr (by omega))]⟩
  obtain ⟨m, rfl⟩ : ∃ m : Nat, n = m := ⟨n.toNat, by omega⟩
  have hm : m ≤ 8 * ws.length := by omega
  have hmk := mkSlice_nat (h := h) (sz := 1) (bytes := 1) (zero := [.int .u8 0]) (k := .i64) (k' := .i64) (Nat.zero_le (8 * ws.length)) (by omega) (by omega)
  simp only [hneg, hbig, vms, vmc, AOpd.val, Nat.reduceEqDiff, reduceCtorEq, Nat.reduceAdd, Nat.reduceBEq, sees_words s, e8, show (AV.int .i64 0) = .int .i64 ((0 : Nat) : Int) from rfl, hmk]
  have s' : ∀ {h' : AH}, Ext h h' → Sees h' v (wcells ws) := fun hx => s.ext hx hw
  refine wpc_loop (fun k f h' => ∃ t, k = ws.length - t ∧ t ≤ ws.length ∧ Ext h h' ∧ Low h' ∧ h.next < h'.next ∧ f.at 0 = v ∧ f.at 1 = .int .i64 (m : Nat) ∧ f.at 6 = .slice h.next 0 1 (8 * t) (8 * ws.length) true ∧ f.at 25 = v ∧ f.at 26 = .int .i64 (ws.length : Nat) ∧ f.at 27 = .int .i64 (t : Nat) ∧
      ∃ l, h'.get h.next = some (.cells l true) ∧ l.length = 8 * ws.length ∧ ∀ j, j < 8 * t → l[j]? = some (.int .u8 (byteAt ws j : Nat))) ?_ ws.length _ _ ⟨0, by simp, by simp, Ext.new _ _, hw.new _, by rw [next_new]; omega, ?_⟩
  · rintro k f h' ⟨t, rfl, ht, hx, hlow, hb, h0, h1, h6, h25, h26, h27, hg⟩
    simp only [cBytesl1, vms, vmc, AOpd.val, Nat.reduceEqDiff, reduceCtorEq, Nat.reduceAdd, Nat.reduceBEq, h0, h1, h6, h25, h26, h27]
    by_cases hlt : t < ws.length
    · have hd : decide ((t : Int) < (ws.length : Int)) = true := by simpa using hlt
      obtain ⟨w, hwt⟩ : ∃ w, ws[t]? = some w := ⟨_, List.getElem?_eq_getElem hlt⟩
      obtain ⟨p, hp1, hp2⟩ := (s' hx).word hwt .i64
      simp only [hd, vms, vmc, AOpd.val, Nat.reduceEqDiff, reduceCtorEq, Nat.reduceAdd, Nat.reduceBEq, h0, h1, h6, h25, h26, h27, hp1, hp2]
      refine bytes_in he hwt rfl (by omega) _ _ _ hx hlow hb ?_ ?_ ?_ ?_ ?_ (vs := v) (vl := .int .i64 (ws.length : Nat)) (vi := .int .i64 (t : Nat)) ?_ ?_ ?_ hg ?_ (n := m) (v := v)
      rotate_right
      · intro f h2 hx hlow hb h0 h1 h6 h25 h26 h27 hg
        have hw' : IntKind.i64.wrap ((t : Int) + 1) = ((t + 1 : Nat) : Int) := by rw [wrap_i64 (by omega) (by omega)]; rfl
        simp only [vms, vmc, AOpd.val, Nat.reduceEqDiff, reduceCtorEq, Nat.reduceAdd, Nat.reduceBEq, h27, hw']
        refine ⟨ws.length - (t + 1), by omega, t + 1, rfl, by omega, hx, hlow, hb, ?_⟩
        simp only [h0, h1, h6, h25, h26]
        exact ⟨trivial, trivial, trivial, trivial, trivial, trivial, hg⟩
      all_goals simp only [vms, vmc, AOpd.val, Nat.reduceEqDiff, reduceCtorEq, Nat.reduceAdd, Nat.reduceBEq, h0, h1, h6, h25, h26, h27]
    · have hd : decide ((t : Int) < (ws.length : Int)) = false := by simpa using hlt
      have : t = ws.length := by omega
      subst this
      obtain ⟨l, hg, hll, hpre⟩ := hg
      have hl2 : l = bycells ws (8 * ws.length) := by
        apply List.ext_getElem?
        intro j
        by_cases hj : j < 8 * ws.length
        · rw [hpre j hj, bycells_get hj]
        · rw [List.getElem?_eq_none (by omega), List.getElem?_eq_none (by rw [bycells_len]; omega)]
      subst hl2
      have hsf := slc_fromW (o := h.next) (len := 8 * ws.length) (cap := 8 * ws.length) (ex := true) hm hm
      simp only [hd, vms, vmc, AOpd.val, Nat.reduceEqDiff, reduceCtorEq, Nat.reduceAdd, Nat.reduceBEq, h1, h6, hsf, lenOfV]
      refine wpc_loop (fun k f h'' => ∃ t, k = 8 * ws.length - m - t ∧ t ≤ 8 * ws.length - m ∧ h'' = h' ∧ f.at 1 = .int .i64 (m : Nat) ∧ f.at 6 = .slice h.next 0 1 (8 * ws.length) (8 * ws.length) true ∧ f.at 47 = .slice h.next (if true && decide (8 * ws.length = m) then 0 else m) 1 (8 * ws.length - m) (8 * ws.length - m) true ∧
          f.at 48 = .int .i64 ((8 * ws.length - m : Nat) : Int) ∧ f.at 49 = .int .i64 (t : Nat) ∧ ∀ j, m ≤ j → j < m + t → byteAt ws j = 0) ?_ (8 * ws.length - m) _ _ ⟨0, rfl, Nat.zero_le _, rfl, ?_⟩
      · rintro k f h'' ⟨t, rfl, ht, rfl, h1, h6, h47, h48, h49, hpre2⟩
        simp only [cBytesl2, vms, vmc, AOpd.val, Nat.reduceEqDiff, reduceCtorEq, Nat.reduceAdd, Nat.reduceBEq, h1, h6, h47, h48, h49]
        by_cases hlt2 : t < 8 * ws.length - m
        · have hd2 : decide ((t : Int) < ((8 * ws.length - m : Nat) : Int)) = true := by simp; omega
          have hne : ¬ 8 * ws.length = m := by omega
          simp only [hd2, vms, vmc, AOpd.val, Nat.reduceEqDiff, reduceCtorEq, Nat.reduceAdd, Nat.reduceBEq, h1, h6, h47, h48, h49, hne, Bool.and_false, Bool.false_eq_true, idx_nat hlt2, load_at hg (bycells_get (ws := ws) (show m + t < 8 * ws.length by omega))]
          by_cases hz : byteAt ws (m + t) = 0
          · simp only [hz, show (((0 : Nat) : Int) != 0) = false from rfl, vms, vmc, AOpd.val, Nat.reduceEqDiff, reduceCtorEq, Nat.reduceAdd, Nat.reduceBEq, h49]
            have hw' : IntKind.i64.wrap ((t : Int) + 1) = ((t + 1 : Nat) : Int) := by rw [wrap_i64 (by omega) (by omega)]; rfl
            simp only [vms, vmc, AOpd.val, Nat.reduceEqDiff, reduceCtorEq, Nat.reduceAdd, Nat.reduceBEq, h1, h6, h47, h48, h49, hw']
            refine ⟨8 * ws.length - m - (t + 1), by omega, t + 1, rfl, by omega, trivial, trivial, trivial, ?_⟩
            refine ⟨by simp [hne], trivial, rfl, ?_⟩
            intro j hj1 hj2
            by_cases e : j = m + t
            · subst e; exact hz
            · exact hpre2 j hj1 (by omega)
          · have hb : (((byteAt ws (m + t) : Nat) : Int) != 0) = true := by simp; omega
            simp only [hb, vms, vmc, AOpd.val, Nat.reduceEqDiff, reduceCtorEq, Nat.reduceAdd, Nat.reduceBEq]
            exact ⟨hx, hlow, by rw [bytesR_form hm (show m ≤ m + t by omega) (by omega) hz]⟩
        · have hd2 : decide ((t : Int) < ((8 * ws.length - m : Nat) : Int)) = false := by simp; omega
          have hc : clearW ws m := fun j hj1 hj2 => hpre2 j hj1 (by omega)
          have hst := slc_to0 (o := h.next) (len := 8 * ws.length) (cap := 8 * ws.length) (ex := true) hm
          have hts : toStrV h'' (.slice h.next 0 1 m (8 * ws.length) true) = some (.str (strB ws m)) := by
            simp only [toStrV, if_true, AH.load, hg, List.drop_zero]
            rw [if_pos (by rw [bycells_len]; omega)]
            have : (bycells ws (8 * ws.length)).take m = bycells ws m := by
              apply List.ext_getElem?
              intro j
              rw [List.getElem?_take]
              by_cases hj : j < m
              · rw [if_pos hj, bycells_get hj, bycells_get (by omega)]
              · rw [if_neg hj, List.getElem?_eq_none (by rw [bycells_len]; omega)]
            rw [this]
            simp [strOf_bcells]
          simp only [hd2, vms, vmc, AOpd.val, Nat.reduceEqDiff, reduceCtorEq, Nat.reduceAdd, Nat.reduceBEq, h1, h6, hst, hts]
          exact ⟨hx, hlow, by rw [bytesR_ok hm hc]; rfl⟩
      · simp only [vms, vmc, AOpd.val, Nat.reduceEqDiff, reduceCtorEq, Nat.reduceAdd, Nat.reduceBEq, h1, h6]
        exact ⟨trivial, trivial, trivial, trivial, trivial, fun j h1 h2 => absurd h2 (by omega)⟩
  · simp only [vms, vmc, AOpd.val, Nat.reduceEqDiff, reduceCtorEq, Nat.reduceAdd, Nat.reduceBEq, get_new_same]
    refine ⟨trivial, trivial, trivial, trivial, trivial, trivial, _, rfl, by rw [rep_one]; simp, fun j hj => absurd hj (by omega)⟩
theorem Sees.elems {v : AV} {xs : List AV} (s : Sees h v xs) : h.elems 1 xs.length v = some xs := by
  rcases s with ⟨rfl, rfl⟩ | ⟨o, off, cap, ex, l, rw, rfl, hg, hll, hc⟩
  · simp [AH.elems]
  · simp only [AH.elems, true_and, Nat.le_refl, if_true, AH.load, hg, Nat.mul_one]
    rw [if_pos hll]
    congr 1
    apply List.ext_getElem?
    intro i
    by_cases hi : i < xs.length
    · rw [List.getElem?_take, if_pos hi, List.getElem?_drop, hc i _ (List.getElem?_eq_getElem hi), List.getElem?_eq_getElem hi]
    · rw [List.getElem?_eq_none (by simp; omega), List.getElem?_eq_none (by omega)]
theorem wcells_int (ws : List Nat) : wcells ws = (ws.map fun n : Nat => (n : Int)).map (.int .u64) := by simp [wcells]
theorem nat_int_inj {a b : List Nat} : (a.map fun n : Nat => (n : Int)) = b.map (fun n : Nat => (n : Int)) ↔ a = b :=
  List.map_inj_right fun x y h => Int.ofNat.inj h
theorem wcells_flat (ws : List Nat) : (wcells ws).all AV.flat = true := by
  simp only [wcells, List.all_eq_true, List.mem_map]
  rintro x ⟨n, _, rfl⟩; rfl
theorem Ext.quiet {h h' : AH} (k : Ext h h') : Quiet h h' := ⟨k.1, fun o ho _ => k.2 o ho⟩
/-- A list, and 80 marks behind it. -/
def IsRoomy (h : AH) (xs : List AV) (m : AV) (r : AV) (h' : AH) : Prop :=
  Ext h h' ∧ Low h' ∧ r = .slice h.next 0 1 (xs.length + 80) (xs.length + 80) true ∧ h.next < h'.next ∧ ∃ l, h'.get h.next = some (.cells l true) ∧ l.length = xs.length + 80 ∧
    (∀ (j : Nat) (x : AV), xs[j]? = some x → l[j]? = some x) ∧ ∀ (j : Nat), xs.length ≤ j → j < xs.length + 80 → l[j]? = some m
theorem roomy_ok {g bytes : Nat} {z : AV} (he : T.env g = none) (hf : T.func g = some (aRoomy bytes z)) (hby : bytes ≤ 1000) {v : AV} {xs : List AV} {m : AV} (hw : Low h) (s : Sees h v xs) (hl : xs.length < 1000000) (hfl : xs.all AV.flat = true) (hm1 : m.cells = [m]) (hm2 : m.flat = true) :
    Gives T g [v, m] h (IsRoomy h xs m) := by
  refine gives_func he hf rfl ?_
  have e80 : IntKind.i64.wrap ((xs.length : Int) + 80) = ((xs.length + 80 : Nat) : Int) := by rw [wrap_i64 (by omega) (by omega)]; rfl
  have hmul : bytes * (xs.length + 80) ≤ 281474976710656 := Nat.le_trans (Nat.mul_le_mul hby (show xs.length + 80 ≤ 1000080 by omega)) (by decide)
  have hmk := mkSlice_nat (h := h) (sz := 1) (bytes := bytes) (zero := [z]) (k := .i64) (k' := .i64) (Nat.le_refl (xs.length + 80)) (by omega) hmul
  have s1 : Sees (h.new (.cells (rep [z] (xs.length + 80)) true)) v xs := s.ext (Ext.new _ _) hw
  have hel := s1.elems
  obtain ⟨l1, hcp, hl1, hl1a⟩ : ∃ l1, copyV 1 (h.new (.cells (rep [z] (xs.length + 80)) true)) (.slice h.next 0 1 (xs.length + 80) (xs.length + 80) true) v = some (.int .i64 (xs.length : Nat), (if xs.length = 0 then h.new (.cells (rep [z] (xs.length + 80)) true) else (h.new (.cells (rep [z] (xs.length + 80)) true)).set h.next (.cells l1 true))) ∧
      l1.length = xs.length + 80 ∧ ∀ (j : Nat) (x : AV), xs[j]? = some x → l1[j]? = some x := by
    refine ⟨setMany (rep [z] (xs.length + 80)) 0 xs, ?_, by rw [(setMany_get _ _ _).1, rep_one]; simp, ?_⟩
    · simp only [copyV, s1.len, len_slice, Option.bind_some, Nat.min_eq_left (show xs.length ≤ xs.length + 80 by omega), hel, if_true]
      by_cases e0 : xs.length = 0
      · have : xs = [] := List.eq_nil_of_length_eq_zero e0
        subst this
        rfl
      · have hne : xs.isEmpty = false := by
          cases xs with
          | nil => exact absurd rfl e0
          | cons a r => rfl
        simp only [hne, Bool.false_eq_true, if_false, if_neg e0, AH.store, get_new_same, hfl]
        rw [if_pos ⟨by rw [rep_one]; simp, trivial⟩]
        rfl
    · intro j x hx
      have := (((setMany_get (rep [z] (xs.length + 80)) xs 0).2 (by rw [rep_one]; simp)).2.1 j _ hx)
      simpa using this
  simp only [aRoomy, cRoomy, vms, vmc, AOpd.val, Nat.reduceEqDiff, reduceCtorEq, Nat.reduceAdd, Nat.reduceBEq, s.len, e80, hmk, hcp, s1.len]
  have hstart : ∃ l, (if xs.length = 0 then h.new (.cells (rep [z] (xs.length + 80)) true) else (h.new (.cells (rep [z] (xs.length + 80)) true)).set h.next (.cells l1 true)).get h.next = some (.cells l true) ∧ l.length = xs.length + 80 ∧ (∀ (j : Nat) (x : AV), xs[j]? = some x → l[j]? = some x) := by
    by_cases e0 : xs.length = 0
    · rw [if_pos e0]
      refine ⟨_, get_new_same, by rw [rep_one]; simp, fun j x hx => ?_⟩
      rw [List.eq_nil_of_length_eq_zero e0] at hx; cases hx
    · rw [if_neg e0]
      exact ⟨l1, get_set_same, hl1, hl1a⟩
  have hE : Ext h (if xs.length = 0 then h.new (.cells (rep [z] (xs.length + 80)) true) else (h.new (.cells (rep [z] (xs.length + 80)) true)).set h.next (.cells l1 true)) := by
    split
    · exact Ext.new _ _
    · exact (Ext.new _ _).set (Nat.le_refl _) _
  have hL : Low (if xs.length = 0 then h.new (.cells (rep [z] (xs.length + 80)) true) else (h.new (.cells (rep [z] (xs.length + 80)) true)).set h.next (.cells l1 true)) := by
    split
    · exact hw.new _
    · exact (hw.new _).set (by rw [next_new]; omega) _
  have hN : h.next < (if xs.length = 0 then h.new (.cells (rep [z] (xs.length + 80)) true) else (h.new (.cells (rep [z] (xs.length + 80)) true)).set h.next (.cells l1 true)).next := by
    split
    · rw [next_new]; omega
    · rw [next_set, next_new]; omega
  generalize (if xs.length = 0 then h.new (.cells (rep [z] (xs.length + 80)) true) else (h.new (.cells (rep [z] (xs.length + 80)) true)).set h.next (.cells l1 true)) = hh at hstart hE hL hN
  obtain ⟨l, hg, hll, hla⟩ := hstart
  refine wpc_loop (fun k f h' => ∃ i, k = xs.length + 80 - i ∧ xs.length ≤ i ∧ i ≤ xs.length + 80 ∧ Ext h h' ∧ Low h' ∧ h.next < h'.next ∧ f.at 1 = m ∧ f.at 5 = .slice h.next 0 1 (xs.length + 80) (xs.length + 80) true ∧ f.at 6 = .int .i64 (i : Nat) ∧
      ∃ l, h'.get h.next = some (.cells l true) ∧ l.length = xs.length + 80 ∧ (∀ (j : Nat) (x : AV), xs[j]? = some x → l[j]? = some x) ∧ ∀ (j : Nat), xs.length ≤ j → j < i → l[j]? = some m) ?_ 80 _ _ ⟨xs.length, by omega, Nat.le_refl _, by omega, hE, hL, hN, ?_⟩
  · rintro k f h' ⟨i, rfl, hi1, hi2, hx, hlow, hb, h1, h5, h6, l, hg, hll, hla, hpre⟩
    simp only [cRoomyl0, vms, vmc, AOpd.val, Nat.reduceEqDiff, reduceCtorEq, Nat.reduceAdd, Nat.reduceBEq, h1, h5, h6]
    by_cases hlt : i < xs.length + 80
    · have hd : decide ((i : Int) < ((xs.length + 80 : Nat) : Int)) = true := by rw [decide_eq_true_eq]; omega
      simp only [hd, vms, vmc, AOpd.val, Nat.reduceEqDiff, reduceCtorEq, Nat.reduceAdd, Nat.reduceBEq, h1, h5, h6, idx_nat hlt, Nat.zero_add, store_at hg (show i < l.length by omega) hm1 hm2]
      have hw' : IntKind.i64.wrap ((i : Int) + 1) = ((i + 1 : Nat) : Int) := by rw [wrap_i64 (by omega) (by omega)]; rfl
      refine ⟨xs.length + 80 - (i + 1), by omega, i + 1, rfl, by omega, by omega, hx.set (Nat.le_refl _) _, hlow.set hb _, hb, ?_⟩
      simp only [vms, vmc, AOpd.val, Nat.reduceEqDiff, reduceCtorEq, Nat.reduceAdd, Nat.reduceBEq, hw']
      refine ⟨trivial, trivial, trivial, _, get_set_same, by simp [hll], ?_, ?_⟩
      · intro j x hj
        have : j < xs.length := by
          rcases Nat.lt_or_ge j xs.length with h' | h'
          · exact h'
          · rw [List.getElem?_eq_none h'] at hj; cases hj
        rw [List.getElem?_set, if_neg (by omega)]
        exact hla j x hj
      · intro j hj1 hj2
        rw [List.getElem?_set]
        by_cases e : i = j
        · subst e; rw [if_pos rfl, if_pos (by omega)]
        · rw [if_neg e]; exact hpre j hj1 (by omega)
    · have hd : decide ((i : Int) < ((xs.length + 80 : Nat) : Int)) = false := by rw [decide_eq_false_iff_not]; omega
      simp only [hd, vms, vmc, AOpd.val, Nat.reduceEqDiff, reduceCtorEq, Nat.reduceAdd, Nat.reduceBEq, h5]
      exact ⟨hx, hlow, rfl, hb, l, hg, hll, hla, fun j h1 h2 => hpre j h1 (by omega)⟩
  · simp only [vms, vmc, AOpd.val, Nat.reduceEqDiff, reduceCtorEq, Nat.reduceAdd, Nat.reduceBEq]
    exact ⟨trivial, trivial, trivial, l, hg, hll, hla, fun j h1 h2 => absurd h2 (by omega)⟩
/-- Is it as it was? -/
theorem intact_ok {g gs : Nat} {k : IntKind} (he : T.env g = none) (hf : T.func g = some (aIntact gs)) (he' : T.env gs = none) (hf' : T.func gs = some aSame) {v : AV} {xs : List Int} {m : Int} {o : Nat} {l : List AV} {rw' : Bool} (s : Sees h v (xs.map (.int k))) (hl : xs.length < 1000000)
    (hg : h.get o = some (.cells l rw')) (hll : l.length = xs.length + 80) (hla : ∀ (j : Nat) (x : AV), (xs.map (AV.int k))[j]? = some x → l[j]? = some x) (hma : ∀ (j : Nat), xs.length ≤ j → j < xs.length + 80 → l[j]? = some (AV.int k m)) :
    Gives T g [.slice o 0 1 (xs.length + 80) (xs.length + 80) true, v, .int k m] h fun r h' => r = .bool true ∧ h' = h := by
  refine gives_func he hf rfl ?_
  have e80 : IntKind.i64.wrap ((xs.length : Int) + 80) = ((xs.length + 80 : Nat) : Int) := by rw [wrap_i64 (by omega) (by omega)]; rfl
  have hst := slc_to0 (o := o) (len := xs.length + 80) (cap := xs.length + 80) (ex := true) (show xs.length ≤ xs.length + 80 by omega)
  have s2 : Sees h (.slice o 0 1 xs.length (xs.length + 80) true) (xs.map (.int k)) := by
    refine .inr ⟨o, 0, xs.length + 80, true, l, rw', by rw [List.length_map], hg, by rw [List.length_map]; omega, fun i x hx => ?_⟩
    rw [Nat.zero_add]; exact hla i x hx
  have sl : lenOfV v = some xs.length := by rw [s.len, List.length_map]
  simp only [aIntact, cIntact, vms, vmc, AOpd.val, Nat.reduceEqDiff, reduceCtorEq, Nat.reduceAdd, Nat.reduceBEq, sl, e80, hst]
  refine Gives.bind ((sameG_ok he' hf' s2 s (by omega) (by omega)).mono ?_)
  rintro _ _ ⟨rfl, rfl⟩
  rename_i h
  simp only [vms, vmc, AOpd.val, Nat.reduceEqDiff, reduceCtorEq, Nat.reduceAdd, Nat.reduceBEq, sl]
  refine wpc_loop (fun kk f h' => ∃ i, kk = xs.length + 80 - i ∧ xs.length ≤ i ∧ i ≤ xs.length + 80 ∧ h' = h ∧ f.at 0 = .slice o 0 1 (xs.length + 80) (xs.length + 80) true ∧ f.at 2 = .int k m ∧ f.at 7 = .int .i64 (i : Nat)) ?_ 80 _ _ ⟨xs.length, by omega, Nat.le_refl _, by omega, rfl, ?_⟩
  · rintro kk f h' ⟨i, rfl, hi1, hi2, rfl, h0, h2, h7⟩
    simp only [cIntactl0, vms, vmc, AOpd.val, Nat.reduceEqDiff, reduceCtorEq, Nat.reduceAdd, Nat.reduceBEq, h0, h2, h7]
    by_cases hlt : i < xs.length + 80
    · have hd : decide ((i : Int) < ((xs.length + 80 : Nat) : Int)) = true := by rw [decide_eq_true_eq]; omega
      have hw' : IntKind.i64.wrap ((i : Int) + 1) = ((i + 1 : Nat) : Int) := by rw [wrap_i64 (by omega) (by omega)]; rfl
      simp only [hd, vms, vmc, AOpd.val, Nat.reduceEqDiff, reduceCtorEq, Nat.reduceAdd, Nat.reduceBEq, h0, h2, h7, idx_nat hlt, Nat.zero_add, load_at hg (hma i hi1 hlt), hw']
      exact ⟨xs.length + 80 - (i + 1), by omega, i + 1, rfl, by omega, by omega, trivial, trivial, trivial, rfl⟩
    · have hd : decide ((i : Int) < ((xs.length + 80 : Nat) : Int)) = false := by rw [decide_eq_false_iff_not]; omega
      simp only [hd, vms, vmc, AOpd.val, Nat.reduceEqDiff, reduceCtorEq, Nat.reduceAdd, Nat.reduceBEq]
      exact ⟨trivial, trivial⟩
  · simp only [vms, vmc, AOpd.val, Nat.reduceEqDiff, reduceCtorEq, Nat.reduceAdd, Nat.reduceBEq]
    exact ⟨trivial, trivial, trivial⟩
end Go.Vm

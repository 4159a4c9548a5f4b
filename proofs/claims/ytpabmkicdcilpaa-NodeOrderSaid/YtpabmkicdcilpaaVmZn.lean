/- What the model answers itself: slices.overlaps. Memory under another name. -/
import Derived.Test.YtpabmkicdcilpaaVmZm
import Derived.Lib.Overlaps
namespace Go.Vm
open Go.RowKit
set_option linter.unusedSimpArgs false
set_option linter.unusedVariables false
section
variable {P : Program} {N : Nat} {w₀ w : World} {μ : Inj} {h : AH}
theorem R.congr (r : R N w₀ μ h w) {h' : AH} (hn : h'.next = h.next) (hg : ∀ o, h'.get o = h.get o) : R N w₀ μ h' w := by
  have hs : ∀ o, h'.solid o = h.solid o := fun o => by unfold AH.solid; rw [hg]
  exact ⟨r.below, r.fresh, fun o x hx => by rw [hn]; exact r.dom o x hx, fun o b base size x ho hx => r.obj o b base size x ho (by rw [← hg]; exact hx), fun o p x y ho hp hne so sp => r.inj o p x y ho hp hne (by rw [← hs]; exact so) (by rw [← hs]; exact sp)⟩
theorem setRow_self {b : Nat} {C : Array Value} {e : TypeId} {fz : Nat × Nat} (hb : w.heap[b]? = some (.cells C e fz)) : w.setRow b C = w := by
  have hh : (w.setRow b C).heap = w.heap := by
    apply Array.ext_getElem?
    intro k
    by_cases hk : k = b
    · subst hk; rw [hb]; exact setRow_heap w k C C e fz hb
    · exact setRow_other w b k C hk
  have : w.setRow b C = { w with heap := (w.setRow b C).heap } := rfl
  rw [this, hh]
/-- Less is known of an object. -/
theorem R.blur (r : R N w₀ μ h w) {o b base size : Nat} {l l' : List AV} (ho : μ o = some (b, base, size)) (hg : h.get o = some (.cells l true)) (hl : base + l'.length ≤ size) (hrel : ∀ (i : Nat) (u : AV), l'[i]? = some u → u = AV.undef ∨ l[i]? = some u) : R N w₀ μ (h.set o (.cells l' true)) w := by
  obtain ⟨C, e, fz, hb, hC, h3, h4, h5⟩ := r.obj o b base size _ ho hg
  have := r.setRow (l' := l') ho hg hb (C' := C) hC hl (fun i u v hu hv => (hrel i u hu).elim (fun e => e ▸ .undef v) (fun h => h4 i u v h hv))
  rwa [setRow_self hb] at this
/-- An object goes on under a new number. -/
theorem R.pull (r : R N w₀ μ h w) {o b base size k : Nat} {l l' : List AV} (ho : μ o = some (b, base, size)) (hg : h.get o = some (.cells l true)) (hl : base + k + l'.length ≤ size) (hrel : ∀ (i : Nat) (u : AV), l'[i]? = some u → l[k + i]? = some u) :
    Inj.le μ (Inj.add μ h.next (b, base + k, size)) ∧ R N w₀ (Inj.add μ h.next (b, base + k, size)) ((h.set o .dead).new (.cells l' true)) w := by
  obtain ⟨C, e, fz, hb, hC, h3, h4, h5⟩ := r.obj o b base size _ ho hg
  have := r.rename (boff := base + k) (l' := l') ho hg hb (by omega) (C' := C) hC hl (fun i u v hu hv => h4 (k + i) u v (hrel i u hu) (by rw [← Nat.add_assoc]; exact hv))
  rwa [setRow_self hb] at this
theorem R.next_none (r : R N w₀ μ h w) : μ h.next = none := by
  cases hm : μ h.next with
  | none => rfl
  | some y => have := r.dom _ _ hm; omega
/-! ### slices.overlaps: slices of two objects that the program made -/
def ovl : List AV → AH → Option (AV × AH)
  | [.slice o1 _ _ _ _ _, .slice o2 _ _ _ _ _], h => match h.get o1, h.get o2 with
    | some (.cells _ true), some (.cells (_ :: _) true) => if o1 = o2 then none else some (.bool false, h)
    | _, _ => none
  | _, _ => none
theorem ovl_ok {g : Nat} {fn : Func} {tS tR e : TypeId} {inf : TypeInfo} (hf : P.funcs[g]? = some fn) (hname : (fn.name == "runtime.NumGoroutine") = false) (hb : fn.body.isNone = true) (hn : Extern.findNext fn = none)
    (he : Extern.find fn = some (Extern.SlicesOverlaps.overlaps #[tS, tS] #[tR])) (ht : P.underlying tS = some (.slice e)) (hi : P.info? e = some inf) : ∀ args h r h', ovl args h = some (r, h') → CSim P g args h r h' := by
  intro args h r h' hr
  right
  intro N w₀ μ w vargs hR hv
  unfold ovl at hr
  split at hr
  · rename_i o1 off1 sz1 l1 c1 e1 o2 off2 sz2 l2 c2 e2
    split at hr
    · rename_i m1 x m2 hg1 hg2
      split at hr
      · cases hr
      · rename_i hne
        cases hr
        obtain ⟨v1, v2, rfl⟩ : ∃ v1 v2, vargs = #[v1, v2] := by
          obtain ⟨l⟩ := vargs
          have h2 := hv.1
          match l, h2 with
          | [v1, v2], _ => exact ⟨v1, v2, rfl⟩
        obtain ⟨b1, base1, size1, boff1, cap1, hm1, rfl, _⟩ := hv.head.slice_inv
        obtain ⟨b2, base2, size2, boff2, cap2, hm2, rfl, _⟩ := hv.tail.head.slice_inv
        obtain ⟨C1, t1, fz1, hb1, hC1, _, _, h15⟩ := hR.obj _ _ _ _ _ hm1 hg1
        obtain ⟨C2, t2, fz2, hb2, hC2, hl2, _, h25⟩ := hR.obj _ _ _ _ _ hm2 hg2
        simp at h15 h25
        have hbb : b1 ≠ b2 := hR.inj _ _ _ _ hm1 hm2 hne (solid_iff.2 ⟨_, hg1, rfl⟩) (solid_iff.2 ⟨_, hg2, rfl⟩)
        have hfr : ∀ k, w.frozen? ⟨b1, k, none⟩ = false := fun k => by
          simp only [World.frozen?, hb1]
          have := h15.2
          obtain ⟨lo, hi⟩ := fz1
          simp at this
          subst this
          simp
        refine ⟨μ, w, _, .refl (Nat.le_refl _), hR, .bool false, ?_⟩
        rw [run_callFunc_extern hf hname hb hn he, Lib.run_overlaps_apart w tS tR e ht inf.size (run_sizeOf' hi) ⟨b1, boff1, none⟩ ⟨b2, boff2, none⟩ l1 cap1 l2 cap2 hbb t1 t2 C1.size C2.size (by simp [World.shape?, hb1]) (by simp [World.shape?, hb2]) (by simp at hl2; omega) (hfr _) (hfr _)]
        rfl
    · cases hr
  · cases hr
end
end Go.Vm

/- slices.Insert: a contract for slices whose room is open. -/
import Derived.Test.YtpabmkicdcilpaaVmZo
namespace Go.Vm
open Go.RowKit
set_option linter.unusedSimpArgs false
set_option linter.unusedVariables false
variable {P : Program} {T : Vm.Prog} {h : AH}
theorem callOk_of (hT : TabOk P T) {g : Nat} {af : AFunc} (hf : T.func g = some af) : CallOk P g := by
  obtain ⟨fn, h1, h2⟩ := hT.func g af hf
  unfold cFunc at h2
  split at h2
  · rename_i c rs hb hrs
    split at h2
    · rename_i hcond
      exact ⟨fn, h1, hcond.2, by simp [hb]⟩
    · cases h2
  · cases h2
def insCells (h : AH) (o off len i vo voff m : Nat) : Option (List AV) :=
  match h.get o, h.get vo with
  | some (.cells l true), some (.cells vl true) =>
    if (i < len ∧ 1 ≤ m ∧ vo ≠ o ∧ off + len ≤ l.length ∧ voff + m ≤ vl.length ∧ len + m ≤ 1000000) ∧ ((l.drop off).take len).all AV.flat = true ∧ ((vl.drop voff).take m).all AV.flat = true then some (putIn ((l.drop off).take len) ((vl.drop voff).take m) i) else none
  | _, _ => none
/-- slices.Insert: into a slice whose room is open it makes a new one of the old. -/
def insV (k : List AV → AH → Option (AV × AH)) (args : List AV) (h : AH) : Option (AV × AH) := match args with
  | [.slice o off 1 len cap false, .int .i64 (.ofNat i), .slice vo voff 1 m vcap vex] => match insCells h o off len i vo voff m with
    | some l => some (.slice h.next 0 1 (len + m) (len + m) false, (h.set o .dead).new (.cells l true))
    | none => k args h
  | _ => k args h
theorem blur_seg {l : List AV} {off len n : Nat} (hl : off + len ≤ l.length) : ((l.take (off + len) ++ List.replicate n AV.undef).drop off).take len = (l.drop off).take len := by
  apply List.ext_getElem?
  intro j
  rw [List.getElem?_take, List.getElem?_take]
  by_cases hj : j < len
  · rw [if_pos hj, if_pos hj, List.getElem?_drop, List.getElem?_drop, List.getElem?_append_left (by simp; omega), List.getElem?_take, if_pos (by omega)]
  · rw [if_neg hj, if_neg hj]
theorem insV_all {g gv gr bytes : Nat} {z : AV} {k : List AV → AH → Option (AV × AH)} (hT : TabOk P T) (hk : ∀ args h r h', k args h = some (r, h') → CallOk P g ∧ ASim P g args h r h') (he : T.env g = none) (hfn : T.func g = some (aInsert bytes z gv gr)) (hov : T.env gv = some ovl) (hb : bytes ≤ 8) : ∀ args h r h', insV k args h = some (r, h') → CSim P g args h r h' := by
  intro args h r h' hr
  left
  unfold insV at hr
  split at hr
  · rename_i o off len cap i vo voff m vcap vex
    split at hr
    · rename_i L hL
      cases hr
      refine ⟨callOk_of hT hfn, ?_⟩
      unfold insCells at hL
      split at hL
      · rename_i l vl hg hvg
        split at hL
        · rename_i hc
          cases hL
          obtain ⟨⟨c1, c2, c3, c4, c5, c6⟩, c7, c8⟩ := hc
          rw [List.all_eq_true] at c7 c8
          intro N w₀ μ w vargs hR hv
          obtain ⟨vl3⟩ := vargs
          have hlen := hv.1
          match vl3, hlen with
          | [x, y, u], _ =>
            obtain ⟨b, base, size, boff, cap', hm, rfl, hlc, hcc, hs, ha⟩ := hv.head.slice_inv
            have hvr := hv.tail.tail.head
            obtain ⟨vb, vbase, vsize, vboff, vcap', hvm, _⟩ := hvr.slice_inv
            have hbo : boff = base + off := by omega
            subst hbo
            have hR1 := hR.blur (l' := l.take (off + len) ++ List.replicate (cap' - len) AV.undef) hm hg (by simp; omega) (fun j q hq => by
              by_cases hj : j < off + len
              · rw [List.getElem?_append_left (by simp; omega), List.getElem?_take, if_pos hj] at hq
                exact .inr hq
              · rw [List.getElem?_append_right (by simp; omega)] at hq
                exact .inl (List.eq_of_mem_replicate (List.mem_of_getElem? hq)))
            have hol := hR.dom _ _ hm
            have hvol := hR.dom _ _ hvm
            obtain ⟨h1, hh1⟩ : ∃ h1, h1 = h.set o (.cells (l.take (off + len) ++ List.replicate (cap' - len) AV.undef) true) := ⟨_, rfl⟩
            have hn1 : h1.next = h.next := by rw [hh1]; rfl
            have hq1 : ∀ q, q ≠ o → h1.get q = h.get q := fun q hq => by rw [hh1, AH.get_set, if_neg (Ne.symm hq)]
            rw [← hh1] at hR1
            have hseg := blur_seg (l := l) (off := off) (len := len) (n := cap' - len) c4
            have hw := insert_walk (T := T) (h := h1) (bytes := bytes) (o := o) (off := off) (C := cap') (len := len) (i := i) (m := m) (vo := vo) (voff := voff) (vcap := vcap) (vex := vex) he hfn hov (by rw [hn1]; exact hol) (by rw [hn1]; exact hvol)
              (show h1.get o = some (.cells (l.take (off + len) ++ List.replicate (cap' - len) AV.undef) true) by rw [hh1, AH.get_set, if_pos rfl]) (show h1.get vo = some (.cells vl true) by rw [hq1 _ c3]; exact hvg) c3 c1 c2 (by simp; omega) hlc c5 c6 hb (by rw [hseg]; exact c7) c8
            rw [hseg] at hw
            obtain ⟨r1, h2, hrun, hcase⟩ := hw
            have hsim := (run_body hT he hrun).2 N w₀ μ w _ hR1 (.cons (.slice hm hlc (by simp) hs (.inl rfl)) hv.tail)
            refine hsim.mono ?_
            rintro e w' ⟨μ', v', rfl, hext, hR2, hvr2⟩
            rw [hn1] at hext
            rcases hcase with ⟨hfit, rfl, hn2, ⟨l', hg2, _, hl'⟩, hoth⟩ | ⟨hgrow, rfl, hn2, hg2, hoth⟩
            · rw [hn2, hn1] at hext
              obtain ⟨b2, base2, size2, boff2, cap2, hm2, rfl, hlc2, hcc2, hs2, ha2⟩ := hvr2.slice_inv
              have := hext.le _ _ hm
              rw [hm2] at this
              cases this
              have hb2 : boff2 = base + off := by omega
              subst hb2
              obtain ⟨hle3, hR3⟩ := hR2.pull (k := off) (l' := putIn ((l.drop off).take len) ((vl.drop voff).take m) i) hm2 hg2 (by rw [putIn_len]; simp; omega) hl'
              have hnone := hR2.next_none
              have e2 : h2.next = h.next := by rw [hn2, hn1]
              refine ⟨_, _, rfl, hext.trans (by rw [AH.next_new, AH.next_set, ← e2]; exact .new _ hnone), hR3.congr (by simp [AH.next_new, AH.next_set, e2]) (fun q => ?_), ?_⟩
              · rw [AH.get_new, AH.get_new, AH.next_set, AH.next_set, e2]
                split
                · rfl
                · rw [AH.get_set, AH.get_set]
                  split
                  · rfl
                  · rename_i hqo
                    rw [hoth q (Ne.symm hqo), hq1 q (Ne.symm hqo)]
              · rw [← e2]
                exact .slice (Inj.add_self _ _ _) hlc2 (by simp; exact hlc2) hs2 (.inl rfl)
            · have e2 : h2.next = h.next + 1 := by rw [hn2, hn1]
              rw [e2] at hext
              rw [hn1] at hg2 hvr2 hoth
              refine ⟨μ', v', rfl, hext, (hR2.kill o).congr (by simp [AH.next_new, AH.next_set, e2]) (fun q => ?_), hvr2⟩
              rw [AH.get_new, AH.next_set, AH.get_set, AH.get_set]
              by_cases hqn : h.next = q
              · subst hqn
                rw [if_pos rfl, if_neg (by omega)]
                exact hg2.symm
              · rw [if_neg hqn]
                by_cases hqo : o = q
                · rw [if_pos hqo, if_pos hqo]
                · rw [if_neg hqo, if_neg hqo, hoth q (Ne.symm hqn), hq1 q (Ne.symm hqo)]
        · cases hL
      · cases hL
    · exact hk _ _ _ _ hr
  · exact hk _ _ _ _ hr
theorem insV_ok {g gv gr bytes n : Nat} {z : AV} (hT : TabOk P T) (he : T.env g = none) (hfn : T.func g = some (aInsert bytes z gv gr)) (hov : T.env gv = some ovl) (hb : bytes ≤ 8) : ∀ args h r h', insV (fun a h => arun T n g a h) args h = some (r, h') → CSim P g args h r h' :=
  insV_all hT (fun _ _ _ _ hr => arun_body hT he hr) he hfn hov hb
theorem insV_run {g gv gr bytes : Nat} {z : AV} (hT : TabOk P T) (he : T.env g = none) (hfn : T.func g = some (aInsert bytes z gv gr)) (hov : T.env gv = some ovl) (hb : bytes ≤ 8) : ∀ args h r h', insV (fun a h => run T g a h) args h = some (r, h') → CSim P g args h r h' :=
  insV_all hT (fun _ _ _ _ hr => run_body hT he hr) he hfn hov hb
theorem ovl_some {P : Program} {g : Nat} {fn : Func} {tS tR e : TypeId} (hf : P.funcs[g]? = some fn) (hname : (fn.name == "runtime.NumGoroutine") = false) (hb : fn.body.isNone = true) (hn : Extern.findNext fn = none)
    (he : Extern.find fn = some (Extern.SlicesOverlaps.overlaps #[tS, tS] #[tR])) (ht : P.underlying tS = some (.slice e)) (hi : (P.info? e).isSome = true) : ∀ args h r h', ovl args h = some (r, h') → CSim P g args h r h' := by
  obtain ⟨inf, hi⟩ := Option.isSome_iff_exists.1 hi
  exact ovl_ok hf hname hb hn he ht hi
/-- A table, with what stands in for slices.overlaps and slices.Insert at two element types each. -/
def withOvl (func : Nat → Option AFunc) (v1 v2 : Nat) : Prog := ⟨func, fun n => if n = v1 then some ovl else if n = v2 then some ovl else none⟩
def insAt (func : Nat → Option AFunc) (v1 v2 g : Nat) : List AV → AH → Option (AV × AH) := insV fun a h => arun (withOvl func v1 v2) 1000 g a h
def withIns (func : Nat → Option AFunc) (v1 v2 i1 i2 : Nat) : Prog := ⟨func, fun n => if n = v1 then some ovl else if n = v2 then some ovl else if n = i1 then some (insAt func v1 v2 i1) else if n = i2 then some (insAt func v1 v2 i2) else none⟩
theorem withOvl_ok {P : Program} {func : Nat → Option AFunc} (hf : ∀ g af, func g = some af → ∃ fn, P.funcs[g]? = some fn ∧ cFunc P fn = some af) {v1 v2 : Nat}
    (h1 : ∀ args h r h', ovl args h = some (r, h') → CSim P v1 args h r h') (h2 : ∀ args h r h', ovl args h = some (r, h') → CSim P v2 args h r h') : TabOk P (withOvl func v1 v2) where
  func := hf
  env := fun n e he => by
    simp only [withOvl] at he
    split at he
    · rename_i e'; subst e'; cases he; exact h1
    · split at he
      · rename_i e'; subst e'; cases he; exact h2
      · cases he
theorem withIns_ok {P : Program} {func : Nat → Option AFunc} (hf : ∀ g af, func g = some af → ∃ fn, P.funcs[g]? = some fn ∧ cFunc P fn = some af) {v1 v2 i1 i2 : Nat} {r1 r2 y1 y2 : Nat} {z1 z2 : AV}
    (h1 : ∀ args h r h', ovl args h = some (r, h') → CSim P v1 args h r h') (h2 : ∀ args h r h', ovl args h = some (r, h') → CSim P v2 args h r h')
    (hi1 : func i1 = some (aInsert y1 z1 v1 r1)) (hi2 : func i2 = some (aInsert y2 z2 v2 r2)) (hy1 : y1 ≤ 8) (hy2 : y2 ≤ 8) (hd : v1 ≠ i1 ∧ v2 ≠ i1 ∧ v1 ≠ i2 ∧ v2 ≠ i2 ∧ v1 ≠ v2) : TabOk P (withIns func v1 v2 i1 i2) where
  func := hf
  env := fun n e he => by
    have hT := withOvl_ok hf h1 h2
    simp only [withIns] at he
    split at he
    · rename_i e'; subst e'; cases he; exact h1
    · split at he
      · rename_i e'; subst e'; cases he; exact h2
      · split at he
        · rename_i e'; subst e'; cases he
          exact insV_ok hT (by simp [withOvl, Ne.symm hd.1, Ne.symm hd.2.1]) hi1 (by simp [withOvl]) hy1
        · split at he
          · rename_i e'; subst e'; cases he
            exact insV_ok hT (by simp [withOvl, Ne.symm hd.2.2.1, Ne.symm hd.2.2.2.1]) hi2 (by simp [withOvl, Ne.symm hd.2.2.2.2]) hy2
          · cases he
/-- The same for laws, the closed sentence beside. -/
noncomputable def insRun (func : Nat → Option AFunc) (v1 v2 g : Nat) : List AV → AH → Option (AV × AH) := insV fun a h => run (withOvl func v1 v2) g a h
noncomputable def lawIns (func : Nat → Option AFunc) (y v1 v2 i1 i2 : Nat) : Prog := ⟨func, fun n => if n = y then some yes else if n = v1 then some ovl else if n = v2 then some ovl else if n = i1 then some (insRun func v1 v2 i1) else if n = i2 then some (insRun func v1 v2 i2) else none⟩
theorem lawIns_ok {P : Program} {func : Nat → Option AFunc} (hf : ∀ g af, func g = some af → ∃ fn, P.funcs[g]? = some fn ∧ cFunc P fn = some af) {y v1 v2 i1 i2 : Nat} {r1 r2 y1 y2 : Nat} {z1 z2 : AV}
    (hy : ∀ args h r h', yes args h = some (r, h') → CallOk P y ∧ ASim P y args h r h')
    (h1 : ∀ args h r h', ovl args h = some (r, h') → CSim P v1 args h r h') (h2 : ∀ args h r h', ovl args h = some (r, h') → CSim P v2 args h r h')
    (hi1 : func i1 = some (aInsert y1 z1 v1 r1)) (hi2 : func i2 = some (aInsert y2 z2 v2 r2)) (hy1 : y1 ≤ 8) (hy2 : y2 ≤ 8) (hd : v1 ≠ i1 ∧ v2 ≠ i1 ∧ v1 ≠ i2 ∧ v2 ≠ i2 ∧ v1 ≠ v2) : TabOk P (lawIns func y v1 v2 i1 i2) where
  func := hf
  env := fun n e he => by
    have hT := withOvl_ok hf h1 h2
    simp only [lawIns] at he
    split at he
    · rename_i e'; subst e'; cases he; exact fun _ _ _ _ hr => .inl (hy _ _ _ _ hr)
    · split at he
      · rename_i e'; subst e'; cases he; exact h1
      · split at he
        · rename_i e'; subst e'; cases he; exact h2
        · split at he
          · rename_i e'; subst e'; cases he
            exact insV_run hT (by simp [withOvl, Ne.symm hd.1, Ne.symm hd.2.1]) hi1 (by simp [withOvl]) hy1
          · split at he
            · rename_i e'; subst e'; cases he
              exact insV_run hT (by simp [withOvl, Ne.symm hd.2.2.1, Ne.symm hd.2.2.2.1]) hi2 (by simp [withOvl, Ne.symm hd.2.2.2.2]) hy2
            · cases he
end Go.Vm

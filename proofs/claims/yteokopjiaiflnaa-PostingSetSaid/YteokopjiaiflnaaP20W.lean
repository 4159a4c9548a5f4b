/- PostingSet: the rounds. -/
import Derived.Test.YteokopjiaiflnaaP20U
namespace Go.Proofs.Yteokopjiaiflnaa
open Go.Vm
set_option linter.unusedSimpArgs false
set_option linter.unusedVariables false
set_option maxRecDepth 100000
variable {T : Vm.Prog} {h : AH}
/-- Sixty-four bools in one object. -/
def BoolsAt (h : AH) (p : Nat) (g : Nat → Bool) : Prop := ∃ l, h.get p = some (.cells l true) ∧ l.length = 64 ∧ ∀ k, k < 64 → l[k]? = some (.bool (g k))
theorem BoolsAt.load {p : Nat} {g : Nat → Bool} (b : BoolsAt h p g) {k : Nat} (hk : k < 64) : loadV h false 1 (.ptr p k) = some (.bool (g k)) := by
  obtain ⟨l, h1, h2, h3⟩ := b; exact load_at h1 (h3 k hk)
theorem BoolsAt.store {p : Nat} {g : Nat → Bool} (b : BoolsAt h p g) {k : Nat} (hk : k < 64) (v : Bool) : ∃ h', storeV h 1 (.ptr p k) (.bool v) = some h' ∧ h'.next = h.next ∧ (∀ o, o ≠ p → h'.get o = h.get o) ∧ BoolsAt h' p (fun x => if x = k then v else g x) ∧ (Low h → Low h') := by
  obtain ⟨l, h1, h2, h3⟩ := b
  refine ⟨_, store_bool h1 (by omega), rfl, fun o ho => by rw [AH.get_set, if_neg (Ne.symm ho)], ⟨_, get_set_same, by simpa using h2, fun x hx => ?_⟩, fun lo => lo.set (lo _ _ h1) _⟩
  by_cases e : x = k
  · subst e; rw [List.getElem?_set_self (by omega)]; simp
  · rw [List.getElem?_set_ne (Ne.symm e), h3 x hx]; simp [e]
theorem BoolsAt.keep {h' : AH} {p : Nat} {g : Nat → Bool} (b : BoolsAt h p g) (hk : h'.get p = h.get p) : BoolsAt h' p g := by
  obtain ⟨l, h1, h2⟩ := b; exact ⟨l, hk.trans h1, h2⟩
theorem row64 {o m : Nat} (hm : m < 64) : idxRowV 64 1 (.ptr o 0) (.int .i64 (m : Int)) = some (.ptr o m) := by
  have h1 : (0 : Int) ≤ m ∧ (m : Int).toNat < 64 := by omega
  simp [idxRowV, hm]
def inL (L : List Int) (k : Nat) : Bool := decide ((k : Int) ∈ L)
/-- What stands after so many calls. -/
structure SetI (h h' : AH) (sl : AV) (bs : List (List Int)) (i : Nat) : Prop where
  quiet : Quiet h h'
  low : Low h'
  cell : h'.get h.next = some (.cells [sl] true)
  arr : BoolsAt h' (h.next + 1) (inL bs.flatten)
  list : ListG (fun o => o ≠ h.next ∧ o ≠ h.next + 1) h' (.agg [sl]) bs
  good : Good bs
  small : Small bs
  len : bs.flatten.length ≤ i
  rng : ∀ y ∈ bs.flatten, 0 ≤ y ∧ y < 64
theorem look_loadG {d n t : Nat} {g w : Bool} {a : AOpd} {v : AV} {f : Fr} (ht : f.at t = .bool w) (hl : loadV h g n (a.val f) = some v) (hd : f.at d = v) (hv : AV.beq v v = true) : AOper.lookAgain ⟨some d, .load g n a, some (t, w)⟩ f h = true := by
  have := look_load (h := h) (f := f) (d := d) (n := n) (g := g) (a := a) hl hd hv
  unfold AOper.lookAgain at this ⊢
  simpa [wantedV, ht] using this
def c7B : ACode := cBlk7 (cFst (cSnd c7l0))
where cBlk7 : ACode → ACode
  | .block _ c => c
  | c => c
def c7d : ACode := cSnd (cSnd (cSnd c7B))
theorem c7l0_eq : c7l0 = .seq (cFst c7l0) (.seq (.block 1 (.seq (cFst c7B) (.seq (cFst (cSnd c7B)) (.seq (cFst (cSnd (cSnd c7B))) c7d)))) (cSnd (cSnd c7l0))) := rfl
theorem set_tail (k : Base T) {h2 : AH} {sl : AV} {bs : List (List Int)} {i m : Nat} (hi : i ≤ 200) (hm : m < 64) (I : SetI h h2 sl bs i) {f : Fr} (f3 : f.at 3 = .ptr h.next 0) (f4 : f.at 4 = .ptr (h.next + 1) 0) (f5 : f.at 5 = .int .i64 (bs.flatten.length : Int)) (f7 : f.at 7 = .int .i64 (m : Int))
    {Q : AExit → Fr → AH → Prop} (hq : ∀ f' h3, SetI h h3 sl bs i → f'.at 0 = f.at 0 → f'.at 3 = f.at 3 → f'.at 4 = f.at 4 → f'.at 5 = f.at 5 → f'.at 6 = f.at 6 → Q .normal f' h3) : Wp (code T c7d f h2) Q := by
  obtain ⟨q2, lo2, hg, arr, sL, g, sm, hlen, hr⟩ := I
  simp only [c7d, cSnd, cFst, c7B, c7B.cBlk7, c7l0, vms, vmc, AOpd.val, Nat.reduceEqDiff, reduceCtorEq, Nat.reduceAdd, Nat.reduceBEq, f3, f4, f5, f7, load_boxA hg]
  refine Gives.bind ((len_ok k lo2 sL.v (by omega) g.len).mono ?_)
  rintro _ h3 ⟨rfl, q3, lo3⟩
  have hp := lo2 _ _ hg
  have hp4 : h.next + 1 < h2.next := by obtain ⟨l, h1, _⟩ := arr; exact lo2 _ _ h1
  have hg3 := q3.get hg hp
  have arr3 : BoolsAt h3 (h.next + 1) (inL bs.flatten) := arr.keep (q3.2 _ hp4 id)
  have sL3 := sL.keep lo2 q3
  have e1 : (((bs.flatten.length : Nat) : Int) != (bs.flatten.length : Int)) = false := by simp
  simp only [vms, vmc, AOpd.val, Nat.reduceEqDiff, reduceCtorEq, Nat.reduceAdd, Nat.reduceBEq, items_test, f3, f4, f5, f7, e1, load_boxA hg3, row64 hm, arr3.load hm]
  refine Gives.bind ((has_ok k lo3 sL3.v g).mono ?_)
  rintro _ h4 ⟨rfl, q4, lo4⟩
  have arr4 : BoolsAt h4 (h.next + 1) (inL bs.flatten) := arr3.keep (q4.2 _ (by have := q3.1; omega) id)
  have hg4 := q4.get hg3 (by have := q3.1; omega)
  have e2 : decide ((m : Int) ∈ bs.flatten) = inL bs.flatten m := rfl
  have eb : ∀ b : Bool, eqBV true (.bool b) (.bool b) = some (.bool false) := fun b => by cases b <;> rfl
  rw [e2]
  simp only [vms, vmc, AOpd.val, Nat.reduceEqDiff, reduceCtorEq, Nat.reduceAdd, Nat.reduceBEq, items_test, f3, f4, f5, f7, eb]
  rw [items_look (look_loadG (v := .bool (inL bs.flatten m)) (by simp only [vms, vmc, AOpd.val, Nat.reduceEqDiff, reduceCtorEq, Nat.reduceAdd, Nat.reduceBEq]) (by show loadV _ _ _ (Fr.at _ _) = _; simp only [vms, vmc, AOpd.val, Nat.reduceEqDiff, reduceCtorEq, Nat.reduceAdd, Nat.reduceBEq]; exact arr4.load hm) (by simp only [vms, vmc, AOpd.val, Nat.reduceEqDiff, reduceCtorEq, Nat.reduceAdd, Nat.reduceBEq]) (by cases inL bs.flatten m <;> rfl))]
  simp only [vms, vmc, AOpd.val, Nat.reduceEqDiff, reduceCtorEq, Nat.reduceAdd, Nat.reduceBEq, f3, f4, f5, f7]
  refine hq _ _ ⟨(q2.trans q3).trans q4, lo4, hg4, arr4, sL3.keep lo3 q4, g, sm, hlen, hr⟩ ?_ ?_ ?_ ?_ ?_
  all_goals simp only [vms, vmc, AOpd.val, Nat.reduceEqDiff, reduceCtorEq, Nat.reduceAdd, Nat.reduceBEq, f3, f4, f5, f7]
theorem ins_in {L : List Int} {m : Nat} : (fun x => if x = m then true else inL L x) = inL (ins L (m : Int)) := by
  funext x
  unfold inL
  by_cases e : x = m
  · subst e; simp [mem_ins]
  · have : ((x : Int) = m) = False := by simp; omega
    simp [e, mem_ins, this]
theorem cut_in {L : List Int} (r : Rise L) {m : Nat} (hm : (m : Int) ∈ L) : (fun x => if x = m then false else inL L x) = inL (cut L (m : Int)) := by
  funext x
  unfold inL
  by_cases e : x = m
  · subst e; simp [mem_cut r hm]
  · have : ¬ ((x : Int) = m) := by omega
    simp [e, mem_cut r hm, this]
theorem same_in {L : List Int} {m : Nat} {b : Bool} (hb : inL L m = b) : (fun x => if x = m then b else inL L x) = inL L := by
  funext x
  by_cases e : x = m
  · subst e; simp [hb]
  · simp [e]
/-- After the call, and the array's own turn. -/
theorem turned {h2 h3 h4 h5 : AH} {sl sl' : AV} {bs bs' : List (List Int)} {i i' m : Nat} {v : Bool} (I : SetI h h2 sl bs i) (q3 : Quiet h2 h3) (lo3 : Low h3) (s3 : ListG (fun o => (o ≠ h.next ∧ o ≠ h.next + 1) ∨ h2.next ≤ o) h3 (.agg [sl']) bs')
    (e4 : h4 = h3.set h.next (.cells [sl'] true)) (n5 : h5.next = h4.next) (k5 : ∀ o, o ≠ h.next + 1 → h5.get o = h4.get o) (a5 : BoolsAt h5 (h.next + 1) (inL bs'.flatten)) (lo5 : Low h5) (g : Good bs') (sm : Small bs') (hl : bs'.flatten.length ≤ i') (hr : ∀ y ∈ bs'.flatten, 0 ≤ y ∧ y < 64) : SetI h h5 sl' bs' i' := by
  have hp := I.low _ _ I.cell
  have hp4 : h.next + 1 < h2.next := by obtain ⟨l, h1, _⟩ := I.arr; exact I.low _ _ h1
  have hk : ∀ o, o ≠ h.next → o ≠ h.next + 1 → h5.get o = h3.get o := fun o h1 h2 => by
    rw [k5 o h2, e4, AH.get_set, if_neg (Ne.symm h1)]
  have n4 : h5.next = h3.next := by rw [n5, e4]; rfl
  refine ⟨⟨by have := I.quiet.1; have := q3.1; omega, fun o ho hf => ?_⟩, lo5, ?_, a5, ?_, g, sm, hl, hr⟩
  · rw [hk o (by omega) (by omega)]; exact (I.quiet.trans q3).2 o ho hf
  · rw [k5 _ (by omega), e4]; exact get_set_same
  · have s3' : ListG (fun o => o ≠ h.next ∧ o ≠ h.next + 1) h3 (.agg [sl']) bs' := s3.mono fun o ho => ho.elim id fun h8 => by omega
    exact s3'.turn fun o ho => hk o ho.1 ho.2
end Go.Proofs.Yteokopjiaiflnaa

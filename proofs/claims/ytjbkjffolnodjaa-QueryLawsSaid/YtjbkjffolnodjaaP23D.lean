/- Chapter 23: factors, ands, ors: what the reader reads, as far as the plain one says. -/
import Derived.Test.YtjbkjffolnodjaaP23C
namespace Go.Proofs.Ytjbkjffolnodjaa
open Go.Vm
set_option linter.unusedSimpArgs false
set_option linter.unusedVariables false
set_option maxRecDepth 100000
variable {T : Vm.Prog} {h h0 : AH} {p : Nat} {x : St}
/-- What is proved of each step of the reader. -/
structure Reads (T : Vm.Prog) (h0 : AH) (p n : Nat) : Prop where
  fac : ∀ x y h, factorF n x = some y → RE h0 h p x → Gives T 44 [.ptr p 0] h fun _ h' => RE h0 h' p y
  and : ∀ x y h, andF n x = some y → RE h0 h p x → Gives T 33 [.ptr p 0] h fun _ h' => RE h0 h' p y
  andl : ∀ x y h f, andL n x = some y → RE h0 h p x → f.at 0 = .ptr p 0 → Wp (code T (.loop c33l0) f h) fun e f' h' => (e = .exit 0 ∨ e = .ret) ∧ RE h0 h' p y
  or : ∀ x y h, orF n x = some y → RE h0 h p x → Gives T 22 [.ptr p 0] h fun _ h' => RE h0 h' p y
  orl : ∀ x y h f, orL n x = some y → RE h0 h p x → f.at 0 = .ptr p 0 → Wp (code T (.loop c22l0) f h) fun e f' h' => e = .exit 0 ∧ RE h0 h' p y
def c44t : ACode := cSnd (cSnd (cSnd (cSnd c44)))
def c44b : ACode := match cSnd (cSnd (cSnd c44)) with
  | .seq a _ => a
  | c => c
def c44r : ACode := cSnd (cSnd c44)
theorem c44_eq : c44 = .seq (.ops [⟨(some 4), .mov (.tmp 0), none⟩, ⟨(some 5), .nilChk (.tmp 4), none⟩, ⟨(some 6), .fieldAddr 1 (.tmp 5), none⟩, ⟨(some 7), .load false 1 (.tmp 6), none⟩, ⟨(some 8), .bin .add (.tmp 7) (.con (.int .i64 1)), none⟩, ⟨(some 9), .nilChk (.tmp 4), none⟩, ⟨(some 10), .fieldAddr 1 (.tmp 9), none⟩, ⟨none, .store 1 (.tmp 10) (.tmp 8), none⟩])
  (.seq (.seq (.ops [⟨(some 11), .mov (.tmp 0), none⟩, ⟨(some 12), .nilChk (.tmp 11), none⟩, ⟨(some 13), .fieldAddr 1 (.tmp 12), none⟩, ⟨(some 14), .load false 1 (.tmp 13), none⟩, ⟨(some 15), .bin .gtr (.tmp 14) (.con (.int .i64 64)), none⟩])
  (.cond (.tmp 15) (.ops [⟨(some 16), .mov (.tmp 0), none⟩, ⟨(some 17), .call 24 [(.tmp 16), (.con (.int .i64 11))], none⟩]) .skip))
  c44r) := rfl
theorem c44r_eq : c44r = .seq (.seq (.ops [⟨(some 18), .mov (.tmp 0), none⟩, ⟨(some 19), .nilChk (.tmp 18), none⟩, ⟨(some 20), .fieldAddr 3 (.tmp 19), none⟩, ⟨(some 21), .load false 1 (.tmp 20), none⟩, ⟨(some 22), .bin .neq (.tmp 21) (.con (.int .i64 0)), none⟩])
  (.cond (.tmp 22) .ret .skip)) (.seq c44b c44t) := rfl
/-- The way out of a factor. -/
theorem leave_gives {y z : St} {f : Fr} (hz : y.leave = some z) (r : RE h0 h p y) (f0 : f.at 0 = .ptr p 0) : Wp (code T c44t f h) (Vm.Ends [] fun _ h' => RE h0 h' p z) := by
  obtain ⟨v, r⟩ := r
  unfold St.leave at hz
  split at hz
  · rename_i hf
    cases hz
    have hf' : -1000 ≤ y.deep ∧ y.deep ≤ 1000 := by simpa [St.fits] using hf
    have w : IntKind.i64.wrap (y.deep - 1) = y.deep - 1 := wrap_i64 (by omega) (by omega)
    simp only [c44t, cSnd, c44, vms, vmc, AOpd.val, Nat.reduceEqDiff, reduceCtorEq, Nat.reduceAdd, Nat.reduceBEq, f0, nc, fa, r.ld1, w, r.st1]
    exact ⟨v, r.put rfl r.size⟩
  · cases hz
theorem fac_ok (k : Base T) {n : Nat} (ih : Reads T h0 p n) : ∀ x y h, factorF (n + 1) x = some y → RE h0 h p x → Gives T 44 [.ptr p 0] h fun _ h' => RE h0 h' p y := by
  intro x y h hy r
  obtain ⟨v, r⟩ := r
  rw [factorF] at hy
  split at hy
  case isFalse => cases hy
  rename_i hf
  have hf' : -1000 ≤ x.deep ∧ x.deep ≤ 1000 := by simpa [St.fits] using hf
  have w : IntKind.i64.wrap (x.deep + 1) = x.deep + 1 := wrap_i64 (by omega) (by omega)
  refine gives_func (k.env 44 (by decide)) (k.at (n := 44) rfl) rfl ?_
  simp only [a44]
  rw [c44_eq]
  have r1 : RV h0 (h.set p (rcell x.deeper v)) p x.deeper v := r.put rfl r.size
  have st1 : storeV h 1 (.ptr p 1) (.int .i64 (x.deep + 1)) = some (h.set p (rcell x.deeper v)) := r.st1 (x.deep + 1)
  have ld1 : loadV (h.set p (rcell x.deeper v)) false 1 (.ptr p 1) = some (.int .i64 (x.deep + 1)) := r1.ld1
  -- behind the first two steps
  have go : ∀ {h : AH} {f : Fr} {e : St} {v : AV}, RV h0 h p e v → e = x.enter → f.at 0 = .ptr p 0 →
      Wp (code T c44r f h) (Vm.Ends [] fun _ h' => RE h0 h' p y) := by
    rintro h f e v re he f0
    rw [c44r_eq]
    by_cases hb : e.bad = 0
    case neg =>
      have e1 : (e.bad != 0) = true := by simp [hb]
      rw [if_pos (by rw [← he]; exact hb)] at hy
      cases hy
      simp only [vms, vmc, AOpd.val, Nat.reduceEqDiff, reduceCtorEq, Nat.reduceAdd, Nat.reduceBEq, f0, nc, fa, re.ld3, e1]
      rw [← he]
      exact ⟨v, re⟩
    have e1 : (e.bad != 0) = false := by simp [hb]
    rw [if_neg (by rw [← he]; exact fun h => h hb), ← he] at hy
    simp only [vms, vmc, AOpd.val, Nat.reduceEqDiff, reduceCtorEq, Nat.reduceAdd, Nat.reduceBEq, f0, nc, fa, re.ld3, e1]
    simp only [c44b, cSnd, c44, vms, vmc, AOpd.val, Nat.reduceEqDiff, reduceCtorEq, Nat.reduceAdd, Nat.reduceBEq, f0]
    refine Gives.bind ((peek_ok k re).mono ?_)
    rintro _ h1 ⟨rfl, r1⟩
    simp only [vms, vmc, AOpd.val, Nat.reduceEqDiff, reduceCtorEq, Nat.reduceAdd, Nat.reduceBEq, f0]
    refine Gives.bind ((take_ok k r1 (n := 33) (by decide)).mono ?_)
    rintro _ h2 ⟨rfl, r2⟩
    have e33 : UInt8.ofNat 33 = 33 := rfl
    have e40 : UInt8.ofNat 40 = 40 := rfl
    have e41 : UInt8.ofNat 41 = 41 := rfl
    rw [e33, St.take_skip] at r2
    rw [e33, St.takes_skip]
    cases h33 : e.takes 33 with
    | true =>
      rw [if_pos h33] at hy
      obtain ⟨z, hz1, hz2⟩ := Option.bind_eq_some_iff.1 hy
      simp only [vms, vmc, AOpd.val, Nat.reduceEqDiff, reduceCtorEq, Nat.reduceAdd, Nat.reduceBEq, f0]
      refine Gives.bind ((ih.fac _ _ _ hz1 ⟨v, r2⟩).mono ?_)
      rintro _ h3 ⟨v3, r3⟩
      simp only [vms, vmc, AOpd.val, Nat.reduceEqDiff, reduceCtorEq, Nat.reduceAdd, Nat.reduceBEq, f0]
      refine Gives.bind ((part_ok k r3 4 []).mono ?_)
      rintro _ h4 r4
      simp only [vms, vmc, AOpd.val, Nat.reduceEqDiff, reduceCtorEq, Nat.reduceAdd, Nat.reduceBEq]
      exact leave_gives hz2 r4 (by simp only [vms, vmc, AOpd.val, Nat.reduceEqDiff, reduceCtorEq, Nat.reduceAdd, Nat.reduceBEq]; exact f0)
    | false =>
      rw [if_neg (by simp [h33])] at hy
      have r2' : RV h0 h2 p e.skip v := by rw [St.take, h33] at r2; exact r2
      simp only [vms, vmc, AOpd.val, Nat.reduceEqDiff, reduceCtorEq, Nat.reduceAdd, Nat.reduceBEq, f0]
      refine Gives.bind ((take_ok k r2' (n := 40) (by decide)).mono ?_)
      rintro _ h3 ⟨rfl, r3⟩
      rw [e40, St.take_skip] at r3
      rw [e40, St.takes_skip]
      cases h40 : e.takes 40 with
      | true =>
        rw [if_pos h40] at hy
        obtain ⟨z, hz1, hz2⟩ := Option.bind_eq_some_iff.1 hy
        simp only [vms, vmc, AOpd.val, Nat.reduceEqDiff, reduceCtorEq, Nat.reduceAdd, Nat.reduceBEq, f0]
        refine Gives.bind ((ih.or _ _ _ hz1 ⟨v, r3⟩).mono ?_)
        rintro _ h4 ⟨v4, r4⟩
        by_cases hzb : z.bad = 0
        · have e2 : (z.bad == 0) = true := by simp [hzb]
          rw [St.close, if_pos hzb] at hz2
          simp only [vms, vmc, AOpd.val, Nat.reduceEqDiff, reduceCtorEq, Nat.reduceAdd, Nat.reduceBEq, f0, nc, fa, r4.ld3, e2]
          refine Gives.bind ((take_ok k r4 (n := 41) (by decide)).mono ?_)
          rintro _ h5 ⟨rfl, r5⟩
          rw [e41] at r5
          rw [e41]
          cases h41 : z.takes 41 with
          | true =>
            rw [if_pos h41] at hz2
            simp only [vms, vmc, AOpd.val, Nat.reduceEqDiff, reduceCtorEq, Nat.reduceAdd, Nat.reduceBEq]
            exact leave_gives hz2 ⟨v4, r5⟩ (by simp only [vms, vmc, AOpd.val, Nat.reduceEqDiff, reduceCtorEq, Nat.reduceAdd, Nat.reduceBEq]; exact f0)
          | false =>
            rw [if_neg (by simp [h41])] at hz2
            have r5' : RV h0 h5 p z.skip v4 := by rw [St.take, h41] at r5; exact r5
            simp only [vms, vmc, AOpd.val, Nat.reduceEqDiff, reduceCtorEq, Nat.reduceAdd, Nat.reduceBEq, f0]
            refine Gives.bind ((wrong_ok k r5' 7).mono ?_)
            rintro _ h6 ⟨r6, _⟩
            simp only [vms, vmc, AOpd.val, Nat.reduceEqDiff, reduceCtorEq, Nat.reduceAdd, Nat.reduceBEq]
            exact leave_gives hz2 ⟨v4, r6⟩ (by simp only [vms, vmc, AOpd.val, Nat.reduceEqDiff, reduceCtorEq, Nat.reduceAdd, Nat.reduceBEq]; exact f0)
        · have e2 : (z.bad == 0) = false := by simp [hzb]
          rw [St.close, if_neg hzb] at hz2
          simp only [vms, vmc, AOpd.val, Nat.reduceEqDiff, reduceCtorEq, Nat.reduceAdd, Nat.reduceBEq, f0, nc, fa, r4.ld3, e2]
          exact leave_gives hz2 ⟨v4, r4⟩ (by simp only [vms, vmc, AOpd.val, Nat.reduceEqDiff, reduceCtorEq, Nat.reduceAdd, Nat.reduceBEq]; exact f0)
      | false =>
        rw [if_neg (by simp [h40])] at hy
        have r3' : RV h0 h3 p e.skip v := by rw [St.take, h40] at r3; exact r3
        simp only [vms, vmc, AOpd.val, Nat.reduceEqDiff, reduceCtorEq, Nat.reduceAdd, Nat.reduceBEq]
        refine Gives.bind ((letter_ok k).mono ?_)
        rintro _ _ ⟨rfl, rfl⟩
        have e3 : (((letter (e.skip.s.headD 0)).toNat : Int) == 0) = (letter (e.skip.s.headD 0) == 0) := u8eq (n := 0) (by decide)
        by_cases hz : letter (e.skip.s.headD 0) = 0
        · have e4 : (((letter (e.skip.s.headD 0)).toNat : Int) != 0) = false := by simp only [bne, e3, hz]; rfl
          rw [if_neg (fun hh => hh hz)] at hy
          simp only [vms, vmc, AOpd.val, Nat.reduceEqDiff, reduceCtorEq, Nat.reduceAdd, Nat.reduceBEq, e4, f0]
          refine Gives.bind ((wrong_ok k r3' 7).mono ?_)
          rintro _ h6 ⟨r6, _⟩
          simp only [vms, vmc, AOpd.val, Nat.reduceEqDiff, reduceCtorEq, Nat.reduceAdd, Nat.reduceBEq]
          exact leave_gives hy ⟨v, r6⟩ (by simp only [vms, vmc, AOpd.val, Nat.reduceEqDiff, reduceCtorEq, Nat.reduceAdd, Nat.reduceBEq]; exact f0)
        · have e4 : (((letter (e.skip.s.headD 0)).toNat : Int) != 0) = true := by
            have : (letter (e.skip.s.headD 0) == 0) = false := by simpa using hz
            simp only [bne, e3, this]; rfl
          rw [if_pos hz] at hy
          simp only [vms, vmc, AOpd.val, Nat.reduceEqDiff, reduceCtorEq, Nat.reduceAdd, Nat.reduceBEq, e4, f0]
          refine Gives.bind ((word_ok k r3').mono ?_)
          rintro _ h6 r6
          simp only [vms, vmc, AOpd.val, Nat.reduceEqDiff, reduceCtorEq, Nat.reduceAdd, Nat.reduceBEq]
          exact leave_gives hy r6 (by simp only [vms, vmc, AOpd.val, Nat.reduceEqDiff, reduceCtorEq, Nat.reduceAdd, Nat.reduceBEq]; exact f0)
  by_cases hd : x.deep + 1 > 64
  · have d1 : decide (x.deep + 1 > 64) = true := decide_eq_true hd
    have he : x.enter = x.deeper.wrong 11 := by
      unfold St.enter
      rw [if_pos (show 64 < x.deeper.deep from hd)]
    simp only [vms, vmc, AOpd.val, Nat.reduceEqDiff, reduceCtorEq, Nat.reduceAdd, Nat.reduceBEq, nc, fa, r.ld1, w, st1, ld1, d1]
    refine Gives.bind ((wrong_ok k r1 11).mono ?_)
    rintro _ h2 ⟨r2, _⟩
    simp only [vms, vmc, AOpd.val, Nat.reduceEqDiff, reduceCtorEq, Nat.reduceAdd, Nat.reduceBEq]
    exact go r2 he.symm (by simp only [vms, vmc, AOpd.val, Nat.reduceEqDiff, reduceCtorEq, Nat.reduceAdd, Nat.reduceBEq])
  · have d1 : decide (x.deep + 1 > 64) = false := decide_eq_false hd
    have he : x.enter = x.deeper := by
      unfold St.enter
      rw [if_neg (show ¬ 64 < x.deeper.deep from hd)]
    simp only [vms, vmc, AOpd.val, Nat.reduceEqDiff, reduceCtorEq, Nat.reduceAdd, Nat.reduceBEq, nc, fa, r.ld1, w, st1, ld1, d1]
    exact go r1 he.symm (by simp only [vms, vmc, AOpd.val, Nat.reduceEqDiff, reduceCtorEq, Nat.reduceAdd, Nat.reduceBEq])
end Go.Proofs.Ytjbkjffolnodjaa

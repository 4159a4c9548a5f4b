/- Chapter 23: a word. -/
import Derived.Test.YtjbkjffolnodjaaP23B
namespace Go.Proofs.Ytjbkjffolnodjaa
open Go.Vm
set_option linter.unusedSimpArgs false
set_option linter.unusedVariables false
set_option maxRecDepth 100000
variable {T : Vm.Prog} {h h0 : AH} {p : Nat} {x : St}
theorem row_str {v : AV} {x : Txt} (r : Row1 h v (bytesOf x)) : toStrV h v = some (.str x) := by
  rcases r with ⟨rfl, e⟩ | ⟨o, cap, ex, l, rfl, hg, h1, h2, h3⟩
  · have : bytesOf x = [] := by simpa using e
    have : x = [] := by simpa [bytesOf] using this
    subst this; rfl
  · have h3' := Row1.get h3
    simp only [List.length_map, Nat.mul_one] at h1 h2
    have hseg := Row1.seg (xs := bytesOf x) (by omega) h3'
    simp only [toStrV, if_true, AH.load, hg, Nat.zero_add, List.length_map]
    rw [if_pos (by omega), hseg]
    simp only [Option.bind_some, strOf_bytes, Option.map_some]
def cSnd : ACode → ACode
  | .seq _ b => b
  | c => c
def c51t : ACode := cSnd (cSnd c51)
theorem c51_eq : c51 = .seq (.ops [⟨(some 2), .mov (.con .nilSlice), none⟩]) (.seq (.block 0 (.loop c51l0)) c51t) := rfl
theorem word_ok (k : Base T) {v : AV} (r : RV h0 h p x v) : Gives T 51 [.ptr p 0] h fun q h' => RE h0 h' p x.word := by
  refine gives_func (k.env 51 (by decide)) (k.at (n := 51) rfl) rfl ?_
  simp only [a51]
  rw [c51_eq]
  simp only [vms, vmc, AOpd.val, Nat.reduceEqDiff, reduceCtorEq, Nat.reduceAdd, Nat.reduceBEq]
  refine wpc_loop (fun m f h' => ∃ (a s : Txt), m = s.length ∧ x.s = a ++ s ∧ (∀ c ∈ a, letter c ≠ 0) ∧ f.at 0 = .ptr p 0 ∧ RV h0 h' p { x with s := s } v ∧ Row1 h' (f.at 2) (bytesOf (a.map letter)) ∧ ∀ o ∈ objs (f.at 2), h0.next ≤ o ∧ o ≠ p ∧ o ∉ objs v) ?_ x.s.length _ _ ⟨[], x.s, rfl, rfl, by simp, by simp only [vms, vmc, AOpd.val, Nat.reduceEqDiff, reduceCtorEq, Nat.reduceAdd, Nat.reduceBEq], r, by simp only [vms, vmc, AOpd.val, Nat.reduceEqDiff, reduceCtorEq, Nat.reduceAdd, Nat.reduceBEq]; exact .inl ⟨rfl, rfl⟩, by simp only [vms, vmc, AOpd.val, Nat.reduceEqDiff, reduceCtorEq, Nat.reduceAdd, Nat.reduceBEq]; intro o ho; simp [objs] at ho⟩
  rintro m f h' ⟨a, s, rfl, hs, ha, f0, r1, rw1, fo⟩
  have hxs := r.size
  have hlen : a.length ≤ 512 := by rw [hs] at hxs; simp at hxs; omega
  have stop : (s = [] ∨ letter (s.headD 0) = 0) → St.lets x.s = a.map letter ∧ x.cut = { x with s := s } := fun hst => by
    have h1 : x.s.takeWhile (fun c => letter c != 0) = a ∧ x.s.dropWhile (fun c => letter c != 0) = s := by
      rw [hs]
      have : ∀ (a : Txt), (∀ c ∈ a, letter c ≠ 0) → (a ++ s).takeWhile (fun c => letter c != 0) = a ∧ (a ++ s).dropWhile (fun c => letter c != 0) = s := by
        intro a
        induction a with
        | nil =>
          intro _
          cases s with
          | nil => exact ⟨rfl, rfl⟩
          | cons c t =>
            have hz : letter c = 0 := hst.elim (fun h1 => by cases h1) id
            simp [List.takeWhile_cons, List.dropWhile_cons, hz]
        | cons c t ih =>
          intro hc
          have hz := hc c (by simp)
          have := ih fun d hd => hc d (List.mem_cons_of_mem _ hd)
          simp [List.takeWhile_cons, List.dropWhile_cons, hz, this.1, this.2]
      exact this a ha
    exact ⟨by unfold St.lets; rw [h1.1], by unfold St.cut; rw [h1.2]⟩
  have ln : lenOfV (f.at 2) = some a.length := by have := rw1.sees.len; simpa [bytesOf] using this
  have tail : (s = [] ∨ letter (s.headD 0) = 0) → ∀ (f2 : Fr), f2.at 0 = .ptr p 0 → f2.at 2 = f.at 2 → Wp (code T c51t f2 h') (Vm.Ends [] fun _ h' => RE h0 h' p x.word) := by
    intro hst f2 g0 g2
    obtain ⟨e1, e2⟩ := stop hst
    have hl : (St.lets x.s).length = a.length := by rw [e1]; simp
    by_cases hbig : 12 < a.length
    · have d1 : decide ((a.length : Int) > 12) = true := by rw [decide_eq_true_eq]; omega
      simp only [c51t, cSnd, c51, vms, vmc, AOpd.val, Nat.reduceEqDiff, reduceCtorEq, Nat.reduceAdd, Nat.reduceBEq, g0, g2, ln, d1]
      refine Gives.bind ((wrong_ok k r1 6).mono ?_)
      rintro rr h2 ⟨r2, m2⟩
      have rw2 : Row1 h2 (f.at 2) (bytesOf (a.map letter)) := RowS.keep rw1 fun o ho => m2.2 o (RowS.low rw1 r1.low o ho) (fo o ho).2.1
      have ts := row_str rw2
      simp only [vms, vmc, AOpd.val, Nat.reduceEqDiff, reduceCtorEq, Nat.reduceAdd, Nat.reduceBEq, g0, g2, ts]
      refine Gives.bind ((part_ok k r2 1 (a.map letter)).mono ?_)
      rintro rr h3 r3
      simp only [vms, vmc, AOpd.val, Nat.reduceEqDiff, reduceCtorEq, Nat.reduceAdd, Nat.reduceBEq]
      rw [St.word, hl, if_pos hbig, e1, e2]
      exact r3
    · have d1 : decide ((a.length : Int) > 12) = false := by rw [decide_eq_false_iff_not]; omega
      have ts := row_str rw1
      simp only [c51t, cSnd, c51, vms, vmc, AOpd.val, Nat.reduceEqDiff, reduceCtorEq, Nat.reduceAdd, Nat.reduceBEq, g0, g2, ln, d1, ts]
      refine Gives.bind ((part_ok k r1 1 (a.map letter)).mono ?_)
      rintro rr h2 r2
      simp only [vms, vmc, AOpd.val, Nat.reduceEqDiff, reduceCtorEq, Nat.reduceAdd, Nat.reduceBEq]
      rw [St.word, hl, if_neg hbig, e1, e2]
      exact r2
  cases s with
  | nil =>
    have e1 : (([] : Txt) == []) = true := rfl
    have := tail (.inl rfl)
    simp only [c51l0, vms, vmc, AOpd.val, Nat.reduceEqDiff, reduceCtorEq, Nat.reduceAdd, Nat.reduceBEq, f0, nc, fa, r1.ld0, e1]
    exact this _ (by simp only [vms, vmc, AOpd.val, Nat.reduceEqDiff, reduceCtorEq, Nat.reduceAdd, Nat.reduceBEq]; exact f0) (by simp only [vms, vmc, AOpd.val, Nat.reduceEqDiff, reduceCtorEq, Nat.reduceAdd, Nat.reduceBEq])
  | cons c t =>
    have e1 : ((c :: t : Txt) == []) = false := rfl
    have ix : idxStrV (.str (c :: t)) (.int .i64 0) = some (.int .u8 (c.toNat : Int)) := rfl
    have sl : slcStrV (.str (c :: t)) (some (.int .i64 1)) none = some (.str t) := slcFrom (n := 1) (by simp)
    have e3 : (((letter c).toNat : Int) == 0) = (letter c == 0) := u8eq (n := 0) (by decide)
    cases hz : (letter c == 0) with
    | true =>
      have hz' : letter c = 0 := by simpa using hz
      have e4 : (((letter c).toNat : Int) != 0) = false := by simp only [bne, e3, hz]; rfl
      have := tail (.inr hz')
      simp only [c51l0, vms, vmc, AOpd.val, Nat.reduceEqDiff, reduceCtorEq, Nat.reduceAdd, Nat.reduceBEq, f0, nc, fa, r1.ld0, e1, ix]
      refine Gives.bind ((letter_ok k).mono ?_)
      rintro _ _ ⟨rfl, rfl⟩
      simp only [vms, vmc, AOpd.val, Nat.reduceEqDiff, reduceCtorEq, Nat.reduceAdd, Nat.reduceBEq, e4]
      exact this _ (by simp only [vms, vmc, AOpd.val, Nat.reduceEqDiff, reduceCtorEq, Nat.reduceAdd, Nat.reduceBEq]; exact f0) (by simp only [vms, vmc, AOpd.val, Nat.reduceEqDiff, reduceCtorEq, Nat.reduceAdd, Nat.reduceBEq])
    | false =>
      have hz' : letter c ≠ 0 := by simpa using hz
      have e4 : (((letter c).toNat : Int) != 0) = true := by simp only [bne, e3, hz]; rfl
      obtain ⟨w', h3, ap, row3, ho3, hm3, lo3⟩ := row_app (bytes := 1) r1.low rw1 (by decide) (by decide) (by simp [bytesOf]; omega) (x := .int .u8 ((letter c).toNat : Int)) rfl
      have bf : fillV [AV.int .u8 0] [(0, 1, AV.int .u8 ((letter c).toNat : Int))] = some [AV.int .u8 ((letter c).toNat : Int)] := fill1 rfl rfl
      have r3 := r1.mods hm3 fo lo3
      have fo3 : ∀ o ∈ objs w', h0.next ≤ o ∧ o ≠ p ∧ o ∉ objs v := fun o ho => by
        rcases ho3 o ho with h4 | h4
        · exact fo o h4
        · have h5 := r1.plt
          have h6 := r1.base
          refine ⟨by omega, by omega, fun hm => ?_⟩
          have := RowS.low r1.row r1.low o hm
          omega
      simp only [c51l0, vms, vmc, AOpd.val, Nat.reduceEqDiff, reduceCtorEq, Nat.reduceAdd, Nat.reduceBEq, f0, nc, fa, r1.ld0, e1, ix]
      refine Gives.bind ((letter_ok k).mono ?_)
      rintro _ _ ⟨rfl, rfl⟩
      simp only [vms, vmc, AOpd.val, Nat.reduceEqDiff, reduceCtorEq, Nat.reduceAdd, Nat.reduceBEq, e4, f0, nc, fa, r1.ld0, ix]
      refine Gives.bind ((letter_ok k).mono ?_)
      rintro _ _ ⟨rfl, rfl⟩
      simp only [vms, vmc, AOpd.val, Nat.reduceEqDiff, reduceCtorEq, Nat.reduceAdd, Nat.reduceBEq, f0, nc, fa, bf, ap, r3.ld0, sl, r3.st0 t]
      refine ⟨t.length, by simp, a ++ [c], t, rfl, by rw [hs]; simp, fun d hd => ?_, by trivial, r3.put rfl (by have := r1.size; simp at this; show t.length ≤ 512; omega), ?_, fo3⟩
      · rcases List.mem_append.1 hd with h4 | h4
        · exact ha d h4
        · simp at h4; subst h4; exact hz'
      · have e5 : bytesOf ((a ++ [c]).map letter) = bytesOf (a.map letter) ++ [.int .u8 ((letter c).toNat : Int)] := by simp [bytesOf]
        rw [e5]
        exact RowS.keep row3 fun o ho => by rw [AH.get_set, if_neg (Ne.symm (fo3 o ho).2.1)]
end Go.Proofs.Ytjbkjffolnodjaa

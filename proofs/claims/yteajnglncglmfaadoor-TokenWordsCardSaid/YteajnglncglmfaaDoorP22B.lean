/- Chapter 22: the pieces, one by one; Terms. -/
import Derived.Test.YteajnglncglmfaaDoorP22A
namespace Go.Proofs.YteajnglncglmfaaDoor
open Go.Vm
set_option linter.unusedSimpArgs false
set_option linter.unusedVariables false
set_option maxRecDepth 100000
variable {T : Vm.Prog} {h : AH}
/-- What a round leaves. -/
structure TI (h h' : AH) (p : Nat) (done : List Txt) (rest : Txt) : Prop where
  out : ∃ sl, h'.get p = some (.cells [sl] true) ∧ Row1 h' sl ((wordsOf done).map AV.str) ∧ ∀ o ∈ objs sl, p + 6 ≤ o
  src : h'.get (p + 1) = some (.cells [.str rest] true)
  sep : h'.get (p + 2) = some (.cells [.str [0]] true)
  num : h'.get (p + 3) = some (.cells [.int .i64 0] true)
  quiet : Quiet h h'
  low : Low h'
  next : p + 6 ≤ h'.next
theorem wordsOf_snoc (ps : List Txt) (w : Txt) : wordsOf (ps ++ [w]) = wordsOf ps ++ (if w = [] then [] else [w.take 12]) := by
  rw [wordsOf_append]
  congr 1
  by_cases hw : w = [] <;> simp [wordsOf, hw]
theorem wordsOf_len (ps : List Txt) : (wordsOf ps).length ≤ ps.length := by simp only [wordsOf, List.length_map]; exact List.length_filter_le _ _
theorem round_gives (k : Base T) {h' : AH} {p o : Nat} {f0 : Fr} {done : List Txt} {rest w : Txt} (f7 : f0.at 7 = .ptr p 0) (hp : h.next ≤ p) (I : TI h h' p done rest) (hd : done.length < 100000) :
    Gives (Vm.withY T o (yRun (code T) f0 [30] (.ops [⟨(some 8), .mov (.tmp 30), none⟩])
      (.block 3 (.seq (.ops [⟨(some 31), .mov (.tmp 8), none⟩, ⟨(some 32), .bin .neq (.tmp 31) (.con (.str [])), none⟩])
        (.cond (.tmp 32)
          (.draw [.op ⟨(some 33), .load false 1 (.tmp 7), none⟩, .op ⟨(some 34), .mov (.tmp 8), none⟩, .op ⟨(some 35), .mov (.tmp 8), none⟩, .op ⟨(some 36), .lenStr (.tmp 35), none⟩,
            .op ⟨(some 37), .mnx false [(.tmp 36), (.con (.int .i64 12))], none⟩, .op ⟨(some 38), .slcStr (.tmp 34) none (some (.tmp 37)), none⟩,
            .op ⟨(some 39), .buildSlice 1 1 [(.str [])] [(0, 1, (.tmp 38))], none⟩, .look ⟨(some 33), .load false 1 (.tmp 7), none⟩,
            .look ⟨(some 39), .buildSlice 1 1 [(.str [])] [(0, 1, (.tmp 38))], none⟩, .op ⟨(some 40), .append 1 16 (.tmp 33) (.tmp 39), none⟩, .op ⟨none, .store 1 (.tmp 7) (.tmp 40), none⟩])
          .skip))))) (YB + o) [.str w] h' fun r h2 => r = .bool true ∧ TI h h2 p (done ++ [w]) rest := by
  obtain ⟨⟨sl, hg, r0, fr⟩, hsrc, hsep, hnum, q, lo, hnx⟩ := I
  refine yield_gives rfl ?_
  simp only [putArgs, vms, vmc, AOpd.val, Nat.reduceEqDiff, reduceCtorEq, Nat.reduceAdd, Nat.reduceBEq]
  refine ⟨trivial, ?_⟩
  by_cases hw : w = []
  · subst hw
    have e1 : (([] : Txt) == []) = true := rfl
    simp only [vms, vmc, AOpd.val, Nat.reduceEqDiff, reduceCtorEq, Nat.reduceAdd, Nat.reduceBEq, e1]
    refine ⟨trivial, trivial, ⟨sl, hg, ?_, fr⟩, hsrc, hsep, hnum, q, lo, hnx⟩
    rw [wordsOf_snoc]; simpa using r0
  · have e1 : (w == []) = false := by simpa using hw
    have bsl : AV.beq sl sl = true := sees_beq r0.sees
    have mn : mnxAll false (.int .i64 (w.length : Int)) [.int .i64 12] = some (.int .i64 ((min w.length 12 : Nat) : Int)) := mn_nat (a := w.length) (b := 12)
    have st : slcStrV (.str w) none (some (.int .i64 ((min w.length 12 : Nat) : Int))) = some (.str (w.take 12)) := by
      rw [slcTo (Nat.min_le_left _ _)]
      congr 2
      by_cases h12 : w.length ≤ 12
      · rw [Nat.min_eq_left h12, List.take_of_length_le (Nat.le_refl _), List.take_of_length_le h12]
      · rw [Nat.min_eq_right (by omega)]
    have bf : fillV [AV.str []] [(0, 1, AV.str (w.take 12))] = some [AV.str (w.take 12)] := fill1 rfl rfl
    have q4 : Quiet h' (h'.new (.cells [AV.str (w.take 12)] true)) := (Quiet.refl _).new _
    have hg4 := q4.get hg (lo _ _ hg)
    simp only [vms, vmc, AOpd.val, Nat.reduceEqDiff, reduceCtorEq, Nat.reduceAdd, Nat.reduceBEq, e1, f7, load_box hg, step_mnx, mn, st, bf]
    rw [items_look (look_load (v := sl) (by show loadV _ _ _ (Fr.at _ _) = _; simp only [vms, vmc, AOpd.val, Nat.reduceEqDiff, reduceCtorEq, Nat.reduceAdd, Nat.reduceBEq, f7]; exact load_box hg4) (by simp only [vms, vmc, AOpd.val, Nat.reduceEqDiff, reduceCtorEq, Nat.reduceAdd, Nat.reduceBEq]) bsl),
      items_look (look_build (q := h'.next) (l := [AV.str (w.take 12)]) (by simp only [vms, vmc, AOpd.val, Nat.reduceEqDiff, reduceCtorEq, Nat.reduceAdd, Nat.reduceBEq]; exact bf) (by simp only [vms, vmc, AOpd.val, Nat.reduceEqDiff, reduceCtorEq, Nat.reduceAdd, Nat.reduceBEq]; rfl) get_new_same (beqs1 (by simp [AV.beq])))]
    have hlen : ((wordsOf done).map AV.str).length < 1000000 := by have := wordsOf_len done; simp; omega
    obtain ⟨r', h5, ha, hr, ho, hm, lo5⟩ := row_app (bytes := 16) lo r0 (by decide) (by decide) hlen (x := AV.str (w.take 12)) rfl
    have keepP : ∀ {a : Nat} {x : AObj}, h'.get a = some x → a < p + 6 → h5.get a = some x := fun {a x} hga hlt =>
      (hm.2 a (by omega) (fun hor => by have := fr a hor; omega)).trans hga
    have hg5 := keepP hg (by omega)
    have cr := sees_cell hr.sees
    simp only [vms, vmc, AOpd.val, Nat.reduceEqDiff, reduceCtorEq, Nat.reduceAdd, Nat.reduceBEq, ha, f7]
    have sto1 : storeV h5 1 (.ptr p 0) r' = some (h5.set p (.cells [r'] true)) := store_at hg5 (by simp) cr.1 cr.2
    simp only [vms, vmc, AOpd.val, Nat.reduceEqDiff, reduceCtorEq, Nat.reduceAdd, Nat.reduceBEq, sto1]
    have set_ne : ∀ {a : Nat}, a ≠ p → (h5.set p (.cells [r'] true)).get a = h5.get a := fun {a} hne => by rw [AH.get_set, if_neg (Ne.symm hne)]
    have hfr : ∀ o ∈ objs r', p + 6 ≤ o := fun o hor => by
      rcases ho o hor with h1 | h1
      · exact fr o h1
      · omega
    have hn5 := hm.1
    refine ⟨trivial, trivial, ⟨r', get_set_same, ?_, hfr⟩, (set_ne (by omega)).trans (keepP hsrc (by omega)), (set_ne (by omega)).trans (keepP hsep (by omega)), (set_ne (by omega)).trans (keepP hnum (by omega)), ?_, lo5.set (lo5 _ _ hg5) _, ?_⟩
    · rw [wordsOf_snoc, if_neg hw, List.map_append]
      exact RowS.keep hr fun o hor => set_ne (by have := hfr o hor; omega)
    · exact Quiet.set (Mods.trans q hm fun o ho => .inr (by have := fr o ho; omega)) hp _
    · rw [next_set]; omega
/-- The iterator of strings.SplitSeq, with these rounds. -/
theorem iter_ok (k : Base T) {h' : AH} {p o : Nat} {s : Txt} {yh : List AV → AH → Option (AV × AH)} (hp : h.next ≤ p) (hs : s.length < 100000) (I : TI h h' p [] s)
    (hy : ∀ (h1 : AH) (w : Txt) (done : List Txt) (rest : Txt), TI h h1 p done rest → done.length < 100000 → Gives (Vm.withY T o yh) (YB + o) [.str w] h1 fun r h2 => r = .bool true ∧ TI h h2 p (done ++ [w]) rest) :
    Gives (Vm.withY T o yh) 25 [.func (.func (YB + o)) [] [], .ptr (p + 2) 0, .ptr (p + 1) 0, .ptr (p + 3) 0] h' fun _ h2 => ∃ rest, TI h h2 p (pieces s) rest := by
  have kw := k.withY o yh
  refine gives_func (kw.env 25 (by decide)) (kw.at (n := 25) rfl) rfl ?_
  have e0 : ((1 : Int) == 0) = false := rfl
  have l1 := load_box I.sep
  simp only [a25, c25, vms, vmc, AOpd.val, Nat.reduceEqDiff, reduceCtorEq, Nat.reduceAdd, Nat.reduceBEq, l1, List.length_cons, List.length_nil, Nat.zero_add, Int.natCast_one, Int.cast_ofNat_Int, e0]
  refine wpc_loop (fun m f h1 => ∃ done rest, m = rest.length ∧ done ++ pieces rest = pieces s ∧ done.length + rest.length ≤ s.length ∧ TI h h1 p done rest ∧ f.at 0 = .func (.func (YB + o)) [] [] ∧ f.at 1 = .ptr (p + 2) 0 ∧ f.at 2 = .ptr (p + 1) 0 ∧ f.at 3 = .ptr (p + 3) 0) ?_ s.length _ _ ⟨[], s, rfl, rfl, by simp, I, ?_⟩
  · rintro m f h1 ⟨done, rest, rfl, hpc, hdl, I1, f0, f1, f2, f3⟩
    have l2 := load_box I1.src
    have l3 := load_box I1.sep
    have l4 := load_box I1.num
    simp only [c25l1, vms, vmc, AOpd.val, Nat.reduceEqDiff, reduceCtorEq, Nat.reduceAdd, Nat.reduceBEq, f0, f1, f2, f3, l2, l3]
    refine Gives.bind ((index_ok kw).mono ?_)
    rintro _ _ ⟨rfl, rfl⟩
    by_cases hneg : idxB rest 0 < 0
    · have hp1 : pieces rest = [rest] := pieces_none (idxB_neg.1 hneg)
      simp only [vms, vmc, AOpd.val, Nat.reduceEqDiff, reduceCtorEq, Nat.reduceAdd, Nat.reduceBEq, decide_eq_true hneg, f0, f2, l2, step_callV, callVal_func]
      refine Gives.bind ((hy _ rest done rest I1 (by omega)).mono ?_)
      rintro _ h2 ⟨rfl, I2⟩
      simp only [vms, vmc, AOpd.val, Nat.reduceEqDiff, reduceCtorEq, Nat.reduceAdd, Nat.reduceBEq]
      refine ⟨rest, ?_⟩
      rw [← hpc, hp1]; exact I2
    · obtain ⟨i, hi⟩ : ∃ i : Nat, idxB rest 0 = (i : Int) := ⟨(idxB rest 0).toNat, by omega⟩
      obtain ⟨hil, hp1⟩ := pieces_at (s := rest) (i := i) hi
      have w1 : IntKind.i64.wrap ((i : Int) + 0) = (i : Int) := by rw [Int.add_zero]; exact wrap_i64n (by omega)
      have w2 : IntKind.i64.wrap ((i : Int) + 1) = ((i + 1 : Nat) : Int) := by rw [wrap_i64 (by omega) (by omega)]; omega
      have d1 : decide ((i : Int) < 0) = false := decide_eq_false (by omega)
      simp only [hi, vms, vmc, AOpd.val, Nat.reduceEqDiff, reduceCtorEq, Nat.reduceAdd, Nat.reduceBEq, d1, f0, f1, f2, f3, l2, l3, l4, w1, slcTo (k := .i64) (Nat.le_of_lt hil), step_callV, callVal_func]
      refine Gives.bind ((hy _ (rest.take i) done rest I1 (by omega)).mono ?_)
      rintro _ h2 ⟨rfl, I2⟩
      have l5 := load_box I2.src
      have l6 := load_box I2.sep
      have sto : storeV h2 1 (.ptr (p + 1) 0) (.str (rest.drop (i + 1))) = some (h2.set (p + 1) (.cells [.str (rest.drop (i + 1))] true)) := store_at I2.src (by simp) rfl rfl
      simp only [vms, vmc, AOpd.val, Nat.reduceEqDiff, reduceCtorEq, Nat.reduceAdd, Nat.reduceBEq, f0, f1, f2, f3, l5, l6, List.length_cons, List.length_nil, Nat.zero_add, Int.natCast_one, Int.cast_ofNat_Int, w2, slcFrom (k := .i64) (show i + 1 ≤ rest.length by omega), sto]
      refine ⟨(rest.drop (i + 1)).length, by simp; omega, done ++ [rest.take i], rest.drop (i + 1), rfl, ?_, by simp; omega, ?_, by trivial, by trivial, by trivial, by trivial⟩
      · rw [← hpc, hp1]; simp
      · obtain ⟨⟨sl, hg, r0, fr⟩, hsrc, hsep, hnum, q, lo, hnx⟩ := I2
        have set_ne : ∀ {a : Nat}, a ≠ p + 1 → (h2.set (p + 1) (.cells [.str (rest.drop (i + 1))] true)).get a = h2.get a := fun {a} hne => by rw [AH.get_set, if_neg (Ne.symm hne)]
        exact ⟨⟨sl, (set_ne (by omega)).trans hg, RowS.keep r0 fun o hor => set_ne (by have := fr o hor; omega), fr⟩, get_set_same, (set_ne (by omega)).trans hsep, (set_ne (by omega)).trans hnum, q.set (by omega) _, lo.set (lo _ _ hsrc) _, by rw [next_set]; exact hnx⟩
  · simp only [vms, vmc, AOpd.val, Nat.reduceEqDiff, reduceCtorEq, Nat.reduceAdd, Nat.reduceBEq]
    simp
end Go.Proofs.YteajnglncglmfaaDoor

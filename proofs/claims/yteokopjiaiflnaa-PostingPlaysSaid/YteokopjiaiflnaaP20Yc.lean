/- The reference's Ids, Seek, Has; the law's blocks. -/
import Derived.Test.YteokopjiaiflnaaP20Yb
namespace Go.Proofs.Yteokopjiaiflnaa
open Go.Vm
set_option linter.unusedSimpArgs false
set_option linter.unusedVariables false
set_option maxRecDepth 100000
variable {T : Vm.Prog} {h : AH}
theorem flatTake_le {bs : List (List Int)} (i : Nat) : (bs.take i).flatten.length ≤ bs.flatten.length := by
  have : bs.flatten = (bs.take i).flatten ++ (bs.drop i).flatten := by rw [← List.flatten_append, List.take_append_drop]
  rw [this, List.length_append]; omega
theorem refIds_ok (k : Base T) (hl : Low h) {v : AV} {bs : List (List Int)} (s : BlksV h v bs) (h1 : bs.flatten.length < 100000) (h2 : bs.length < 100000) :
    Gives T 27 [v] h fun r h' => Row1 h' r (izs bs.flatten) ∧ (∀ o ∈ objs r, h.next ≤ o) ∧ Quiet h h' ∧ Low h' := by
  refine gives_func (k.env 27 (by decide)) (k.at (n := 27) rfl) rfl ?_
  have ln := s.len
  simp only [a27, c27, vms, vmc, AOpd.val, Nat.reduceEqDiff, reduceCtorEq, Nat.reduceAdd, Nat.reduceBEq, ln]
  refine wpc_loop (fun d f h' => ∃ i r, d = bs.length - i ∧ i ≤ bs.length ∧ Quiet h h' ∧ Low h' ∧ Row1 h' r (izs (bs.take i).flatten) ∧ (∀ o ∈ objs r, h.next ≤ o) ∧ f.at 3 = r ∧ f.at 6 = v ∧ f.at 7 = .int .i64 (bs.length : Int) ∧ f.at 8 = .int .i64 (i : Int)) ?_ bs.length _ _ ⟨0, .nilSlice, by omega, by omega, Quiet.refl _, hl, .inl ⟨rfl, rfl⟩, fun o ho => by simp [objs] at ho, ?_⟩
  · rintro _ f h1' ⟨i, r, rfl, hi, q, lo, row, fr, f3, f6, f7, f8⟩
    by_cases hlt : i < bs.length
    · have d1 : decide ((i : Int) < (bs.length : Int)) = true := by rw [decide_eq_true_eq]; omega
      have w2 : IntKind.i64.wrap ((i : Int) + 1) = ((i + 1 : Nat) : Int) := by rw [wrap_i64 (by omega) (by omega)]; omega
      obtain ⟨b, hbi⟩ : ∃ b, bs[i]? = some b := ⟨_, List.getElem?_eq_getElem hlt⟩
      obtain ⟨p, x, hp1, hp2, hx⟩ := (s.keep hl q).at hbi .i64
      have e1 : (bs.take (i + 1)).flatten = (bs.take i).flatten ++ b := by rw [take_snoc hbi, List.flatten_append]; simp
      have e2 := flatTake_le (bs := bs) (i + 1)
      rw [e1, List.length_append] at e2
      obtain ⟨r', h3, ha, hr, ho, _, m3, lo3⟩ := row1_appendAll (bytes := 8) lo row hx.1 (by decide) (by decide) (by rw [izs, izs, List.length_map, List.length_map]; omega) izs_flat1
      simp only [c27l0, vms, vmc, AOpd.val, Nat.reduceEqDiff, reduceCtorEq, Nat.reduceAdd, Nat.reduceBEq, f3, f6, f7, f8, d1, hp1, hp2, ha, w2]
      refine ⟨bs.length - (i + 1), by omega, i + 1, r', rfl, by omega, mods_quiet q (m3.mods (G := fun o => h.next ≤ o) fun o ho => .inl (fr o ho)) (fun o ho => ho), lo3, by rw [e1]; simpa [izs] using hr, fun o hor => ?_, by trivial, by trivial, by trivial, by trivial⟩
      rcases ho o hor with h5 | h5
      · exact fr o h5
      · have := q.1; omega
    · have d1 : decide ((i : Int) < (bs.length : Int)) = false := by rw [decide_eq_false_iff_not]; omega
      have hi' : i = bs.length := by omega
      subst hi'
      rw [List.take_length] at row
      simp only [c27l0, vms, vmc, AOpd.val, Nat.reduceEqDiff, reduceCtorEq, Nat.reduceAdd, Nat.reduceBEq, f3, f6, f7, f8, d1]
      exact ⟨row, fr, q, lo⟩
  · simp only [vms, vmc, AOpd.val, Nat.reduceEqDiff, reduceCtorEq, Nat.reduceAdd, Nat.reduceBEq, ln]
    simp
theorem refSeek_ok (k : Base T) (hl : Low h) {v : AV} {bs : List (List Int)} {id : Int} (s : BlksV h v bs) (g : Good bs) :
    Gives T 28 [v, .int .i64 id] h fun r h' => r = .tuple [.int .i64 (seekB bs id).1, .bool (seekB bs id).2] ∧ Quiet h h' ∧ Low h' := by
  refine gives_func (k.env 28 (by decide)) (k.at (n := 28) rfl) rfl ?_
  simp only [a28, c28, vms, vmc, AOpd.val, Nat.reduceEqDiff, reduceCtorEq, Nat.reduceAdd, Nat.reduceBEq]
  refine Gives.bind ((refIds_ok k hl s g.small g.len).mono ?_)
  rintro L h1 ⟨row, _, q, lo⟩
  have sL := row.sees
  have ln : lenOfV L = some bs.flatten.length := by have := sL.len; rwa [izs, List.length_map] at this
  have hfl := g.small
  simp only [vms, vmc, AOpd.val, Nat.reduceEqDiff, reduceCtorEq, Nat.reduceAdd, Nat.reduceBEq, ln]
  refine wpc_loop (fun d f h' => ∃ i, d = bs.flatten.length - i ∧ i ≤ bs.flatten.length ∧ h' = h1 ∧ (∀ t y, t < i → bs.flatten[t]? = some y → y < id) ∧ f.at 1 = .int .i64 id ∧ f.at 9 = L ∧ f.at 10 = .int .i64 (bs.flatten.length : Int) ∧ f.at 11 = .int .i64 (i : Int)) ?_ bs.flatten.length _ _ ⟨0, by omega, by omega, rfl, fun t y ht => by omega, ?_⟩
  · rintro _ f h2 ⟨i, rfl, hi, rfl, hlo, f1, f9, f10, f11⟩
    have hpos : i ≤ pos bs.flatten id := by
      refine Classical.byContradiction fun hn => ?_
      obtain ⟨y, hy⟩ : ∃ y, bs.flatten[pos bs.flatten id]? = some y := ⟨_, List.getElem?_eq_getElem (by omega)⟩
      have := (pos_iff g.rise hy).2 (hlo _ y (by omega) hy)
      omega
    by_cases hlt : i < bs.flatten.length
    · have d1 : decide ((i : Int) < (bs.flatten.length : Int)) = true := by rw [decide_eq_true_eq]; omega
      have w2 : IntKind.i64.wrap ((i : Int) + 1) = ((i + 1 : Nat) : Int) := by rw [wrap_i64 (by omega) (by omega)]; omega
      obtain ⟨x, hx⟩ : ∃ x, bs.flatten[i]? = some x := ⟨_, List.getElem?_eq_getElem hlt⟩
      obtain ⟨p, hp1, hp2⟩ := sL.at (i := i) (x := .int .i64 x) (by rw [izs, List.getElem?_map, hx]; rfl) .i64
      have hit := pos_iff g.rise (t := id) hx
      by_cases hge : x ≥ id
      · have hp : pos bs.flatten id = i := by
          refine Classical.byContradiction fun hn => ?_
          have := hit.1 (by omega); omega
        have sk : seekB bs id = (x, true) := by unfold seekB; rw [hp, hx]
        rw [sk]
        simp only [c28l0, vms, vmc, AOpd.val, Nat.reduceEqDiff, reduceCtorEq, Nat.reduceAdd, Nat.reduceBEq, f1, f9, f10, f11, d1, hp1, hp2, decide_eq_true hge]
        exact ⟨trivial, q, lo⟩
      · simp only [c28l0, vms, vmc, AOpd.val, Nat.reduceEqDiff, reduceCtorEq, Nat.reduceAdd, Nat.reduceBEq, f1, f9, f10, f11, d1, hp1, hp2, decide_eq_false hge, w2]
        refine ⟨bs.flatten.length - (i + 1), by omega, i + 1, rfl, by omega, by trivial, fun t y ht hy => ?_, by trivial, by trivial, by trivial, by trivial⟩
        by_cases e : t = i
        · subst e; rw [hx] at hy; cases hy; omega
        · exact hlo t y (by omega) hy
    · have d1 : decide ((i : Int) < (bs.flatten.length : Int)) = false := by rw [decide_eq_false_iff_not]; omega
      have sk : seekB bs id = (0, false) := by unfold seekB; rw [List.getElem?_eq_none (by omega)]
      rw [sk]
      simp only [c28l0, vms, vmc, AOpd.val, Nat.reduceEqDiff, reduceCtorEq, Nat.reduceAdd, Nat.reduceBEq, f1, f9, f10, f11, d1]
      exact ⟨trivial, q, lo⟩
  · simp only [vms, vmc, AOpd.val, Nat.reduceEqDiff, reduceCtorEq, Nat.reduceAdd, Nat.reduceBEq, ln]
    simp
theorem refHas_ok (k : Base T) {v : AV} {L : List Int} {id : Int} (s : Sees h v (izs L)) (hL : L.length < 1000000) : Gives T 29 [v, .int .i64 id] h fun r h' => r = .bool (decide (id ∈ L)) ∧ h' = h := by
  refine gives_func (k.env 29 (by decide)) (k.at (n := 29) rfl) rfl ?_
  have ln : lenOfV v = some L.length := by simpa [izs] using s.len
  simp only [a29, c29, vms, vmc, AOpd.val, Nat.reduceEqDiff, reduceCtorEq, Nat.reduceAdd, Nat.reduceBEq, ln]
  refine wpc_loop (fun d f h' => ∃ i, d = L.length - i ∧ i ≤ L.length ∧ h' = h ∧ (∀ t y, t < i → L[t]? = some y → y ≠ id) ∧ f.at 1 = .int .i64 id ∧ f.at 7 = v ∧ f.at 8 = .int .i64 (L.length : Int) ∧ f.at 9 = .int .i64 (i : Int)) ?_ L.length _ _ ⟨0, by omega, by omega, rfl, fun t y ht => by omega, ?_⟩
  · rintro _ f h2 ⟨i, rfl, hi, rfl, hlo, f1, f7, f8, f9⟩
    by_cases hlt : i < L.length
    · have d1 : decide ((i : Int) < (L.length : Int)) = true := by rw [decide_eq_true_eq]; omega
      have w2 : IntKind.i64.wrap ((i : Int) + 1) = ((i + 1 : Nat) : Int) := by rw [wrap_i64 (by omega) (by omega)]; omega
      obtain ⟨x, hx⟩ : ∃ x, L[i]? = some x := ⟨_, List.getElem?_eq_getElem hlt⟩
      obtain ⟨p, hp1, hp2⟩ := s.at (i := i) (x := .int .i64 x) (by simp [izs, hx]) .i64
      by_cases he : x = id
      · have e1 : (x == id) = true := by simp [he]
        have hm : decide (id ∈ L) = true := decide_eq_true (he ▸ List.mem_of_getElem? hx)
        simp only [c29l0, vms, vmc, AOpd.val, Nat.reduceEqDiff, reduceCtorEq, Nat.reduceAdd, Nat.reduceBEq, f1, f7, f8, f9, d1, hp1, hp2, e1, hm]
        exact ⟨trivial, trivial⟩
      · have e1 : (x == id) = false := by simp [he]
        simp only [c29l0, vms, vmc, AOpd.val, Nat.reduceEqDiff, reduceCtorEq, Nat.reduceAdd, Nat.reduceBEq, f1, f7, f8, f9, d1, hp1, hp2, e1, w2]
        refine ⟨L.length - (i + 1), by omega, i + 1, rfl, by omega, by trivial, fun t y ht hy => ?_, by trivial, by trivial, by trivial, by trivial⟩
        by_cases e : t = i
        · subst e; rw [hx] at hy; cases hy; exact he
        · exact hlo t y (by omega) hy
    · have d1 : decide ((i : Int) < (L.length : Int)) = false := by rw [decide_eq_false_iff_not]; omega
      have hm : decide (id ∈ L) = false := decide_eq_false fun hm => by
        obtain ⟨t, ht⟩ := List.getElem?_of_mem hm
        exact hlo t id (by have := (List.getElem?_eq_some_iff.1 ht).1; omega) ht rfl
      simp only [c29l0, vms, vmc, AOpd.val, Nat.reduceEqDiff, reduceCtorEq, Nat.reduceAdd, Nat.reduceBEq, f1, f7, f8, f9, d1, hm]
      exact ⟨trivial, trivial⟩
  · simp only [vms, vmc, AOpd.val, Nat.reduceEqDiff, reduceCtorEq, Nat.reduceAdd, Nat.reduceBEq, ln]
    simp
theorem blocks_yes (k : Base T) (hl : Low h) {v w : AV} {bs : List (List Int)} (s : ListV h v bs) (sw : BlksV h w bs) (g : Good bs) :
    Gives T 14 [v, w] h fun r h' => r = .bool true ∧ Quiet h h' ∧ Low h' := by
  refine gives_func (k.env 14 (by decide)) (k.at (n := 14) rfl) rfl ?_
  obtain ⟨sl, rfl, sb⟩ := s
  have q1 := (Quiet.refl h).new (.cells [sl] true)
  have lo1 := hl.new (.cells [sl] true)
  have hg : (h.new (.cells [sl] true)).get h.next = some (.cells [sl] true) := get_new_same
  have hbl := g.len
  simp only [a14, c14, vms, vmc, AOpd.val, Nat.reduceEqDiff, reduceCtorEq, Nat.reduceAdd, Nat.reduceBEq, box_list, load_boxA hg]
  refine Gives.bind ((blocks_ok k lo1 (v := .agg [sl]) ⟨sl, rfl, sb.keep hl q1⟩ g.small g.len).mono ?_)
  rintro b h2 ⟨fr, q2, lo2⟩
  have sB := fr.blks
  have sW := sw.keep hl (q1.trans q2)
  have lnb := sB.len
  have lnw := sW.len
  have e1 : ((bs.length : Int) != (bs.length : Int)) = false := by simp
  simp only [vms, vmc, AOpd.val, Nat.reduceEqDiff, reduceCtorEq, Nat.reduceAdd, Nat.reduceBEq, lnb, lnw, e1]
  refine wpc_loop (fun d f h' => ∃ i, d = bs.length - i ∧ i ≤ bs.length ∧ h' = h2 ∧ f.at 1 = w ∧ f.at 5 = b ∧ f.at 15 = .int .i64 (bs.length : Int) ∧ f.at 16 = .int .i64 (i : Int)) ?_ bs.length _ _ ⟨0, by omega, by omega, rfl, ?_⟩
  · rintro _ f h3 ⟨i, rfl, hi, rfl, f1, f5, f15, f16⟩
    by_cases hlt : i < bs.length
    · have d1 : decide ((i : Int) < (bs.length : Int)) = true := by rw [decide_eq_true_eq]; omega
      have w2 : IntKind.i64.wrap ((i : Int) + 1) = ((i + 1 : Nat) : Int) := by rw [wrap_i64 (by omega) (by omega)]; omega
      obtain ⟨c, hc⟩ : ∃ c, bs[i]? = some c := ⟨_, List.getElem?_eq_getElem hlt⟩
      obtain ⟨p, x, hp1, hp2, hx⟩ := sB.at hc .i64
      obtain ⟨p', y, hq1, hq2, hy⟩ := sW.at hc .i64
      have hcl := (g.block hc).2.2
      have e2 : decide (c = c) = true := decide_eq_true rfl
      simp only [c14l0, vms, vmc, AOpd.val, Nat.reduceEqDiff, reduceCtorEq, Nat.reduceAdd, Nat.reduceBEq, f1, f5, f15, f16, d1, hp1, hp2, hq1, hq2]
      refine Gives.bind ((same_ok k hx.1 hy.1 (by omega) (by omega)).mono ?_)
      rintro _ _ ⟨rfl, rfl⟩
      simp only [vms, vmc, AOpd.val, Nat.reduceEqDiff, reduceCtorEq, Nat.reduceAdd, Nat.reduceBEq, f1, f5, f15, f16, e2, w2]
      exact ⟨bs.length - (i + 1), by omega, i + 1, rfl, by omega, by trivial, by trivial, by trivial, by trivial, by trivial⟩
    · have d1 : decide ((i : Int) < (bs.length : Int)) = false := by rw [decide_eq_false_iff_not]; omega
      simp only [c14l0, vms, vmc, AOpd.val, Nat.reduceEqDiff, reduceCtorEq, Nat.reduceAdd, Nat.reduceBEq, f1, f5, f15, f16, d1]
      exact ⟨trivial, q1.trans q2, lo2⟩
  · simp only [vms, vmc, AOpd.val, Nat.reduceEqDiff, reduceCtorEq, Nat.reduceAdd, Nat.reduceBEq, lnb]
    simp
end Go.Proofs.Yteokopjiaiflnaa

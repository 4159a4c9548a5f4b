/- Chapter 22: Terms gives a text's words, each once, rising. -/
import Derived.Test.YteajnglncglmfaaDoorP22B
namespace Go.Proofs.YteajnglncglmfaaDoor
open Go.Vm
set_option linter.unusedSimpArgs false
set_option linter.unusedVariables false
set_option maxRecDepth 100000
variable {T : Vm.Prog} {h : AH}
theorem compact_len (zs : List Txt) : (Lib.compact zs).length ≤ zs.length := by
  unfold Lib.compact Lib.compactUpTo
  rw [List.length_map]
  exact Nat.le_trans (List.length_filter_le _ _) (by simp)
theorem cptL_len (zs : List Txt) : (cptL zs).length = zs.length := by
  have := compact_len zs
  simp [cptL]; omega
theorem sort_ok (k : Base T) (hl : Low h) {v : AV} {zs : List Txt} (row : Row1 h v (zs.map .str)) (hs : zs.length < 1000000) :
    Gives T 17 [v] h fun r h' => Row1 h' v ((sortT zs).map .str) ∧ Mods h h' (fun o => o ∈ objs v) ∧ Low h' ∧ h'.next = h.next := by
  refine (turn_row (E := encS) k.srt sortT_len hl row hs).mono ?_
  rintro r h' ⟨_, h2, h3, h4, h5⟩
  exact ⟨h2, h3, h4, h5⟩
theorem cpt_ok (k : Base T) (hl : Low h) {v : AV} {zs : List Txt} (row : Row1 h v (zs.map .str)) (hs : zs.length < 1000000) :
    Gives T 18 [v] h fun r h' => Row1 h' r ((Lib.compact zs).map .str) ∧ (∀ o ∈ objs r, o ∈ objs v) ∧ Mods h h' (fun o => o ∈ objs v) ∧ Low h' ∧ h'.next = h.next := by
  refine (turn_row (E := encS) k.cpt cptL_len hl row hs).mono ?_
  rintro r h' ⟨h1, h2, h3, h4, h5⟩
  refine ⟨?_, ?_, h3, h4, h5⟩
  · rcases h1 with ⟨rfl, rfl, rfl⟩ | ⟨o, cap, ex, rfl, rfl, l, hg, hl1, hl2, hat⟩
    · exact .inl ⟨rfl, rfl⟩
    · have := compact_len zs
      refine row1_of hg hl1 (by simp) (by simp; omega) fun i x hx => hat i x ?_
      have hi := (List.getElem?_eq_some_iff.1 hx).1
      simp only [cptL, List.map_append]
      exact (List.getElem?_append_left hi).trans hx
  · rcases h1 with ⟨rfl, rfl, rfl⟩ | ⟨o, cap, ex, rfl, rfl, _⟩
    · exact fun o ho => ho
    · exact fun o ho => by simpa [objs] using ho
theorem mark_str {o c : Nat} {ex : Bool} {x : Txt} {n : Nat} (hn : n = x.length) (hg : h.get o = some (.marked (bytesOf x))) : toStrV h (.slice o 0 1 n c ex) = some (.str x) := by
  subst hn
  have hl : (bytesOf x).length = x.length := by simp [bytesOf]
  simp only [toStrV, if_true, AH.load, hg, Nat.zero_add, hl, Nat.le_refl, List.drop_zero]
  rw [List.take_of_length_le (Nat.le_of_eq hl)]
  simp only [Option.bind_some, strOf_bytes, Option.map_some]
theorem seq_ok (k : Base T) {a b : Txt} : Gives T 16 [.str a, .str b] h fun r h' => r = .func (.func 25) [] [.ptr (h.next + 1) 0, .ptr h.next 0, .ptr (h.next + 2) 0] ∧ h' = ((h.new (.cells [.str a] true)).new (.cells [.str b] true)).new (.cells [.int .i64 0] true) := by
  have inner : Gives T 21 [.str a, .str b, .int .i64 0] h fun r h' => r = .func (.func 25) [] [.ptr (h.next + 1) 0, .ptr h.next 0, .ptr (h.next + 2) 0] ∧ h' = ((h.new (.cells [.str a] true)).new (.cells [.str b] true)).new (.cells [.int .i64 0] true) := by
    refine gives_func (k.env 21 (by decide)) (k.at (n := 21) rfl) rfl ?_
    have b1 : ∀ (g : AH) (z : Txt), boxV g (.str z) = some (.ptr g.next 0, g.new (.cells [.str z] true)) := fun g z => rfl
    have b2 : ∀ (g : AH), boxV g (.int .i64 0) = some (.ptr g.next 0, g.new (.cells [.int .i64 0] true)) := fun g => rfl
    simp only [a21, c21, vms, vmc, AOpd.val, Nat.reduceEqDiff, reduceCtorEq, Nat.reduceAdd, Nat.reduceBEq, b1, b2, step_mkFunc, next_new]
    exact ⟨by trivial, by trivial⟩
  refine gives_func (k.env 16 (by decide)) (k.at (n := 16) rfl) rfl ?_
  simp only [a16, c16, vms, vmc, AOpd.val, Nat.reduceEqDiff, reduceCtorEq, Nat.reduceAdd, Nat.reduceBEq]
  refine Gives.bind (inner.mono ?_)
  rintro _ _ ⟨rfl, rfl⟩
  simp only [vms, vmc, AOpd.val, Nat.reduceEqDiff, reduceCtorEq, Nat.reduceAdd, Nat.reduceBEq]
  exact ⟨by trivial, by trivial⟩
def mixed (s : Txt) (i : Nat) : Txt := (s.take i).map letter ++ s.drop i
theorem mixed_len (s : Txt) (i : Nat) : (mixed s i).length = s.length := by simp [mixed]; omega
theorem mixed_at {s : Txt} {i : Nat} (hi : i < s.length) : (mixed s i)[i]? = some s[i] := by
  unfold mixed
  rw [List.getElem?_append_right (by simp; omega)]
  simp [Nat.min_eq_left (Nat.le_of_lt hi), hi]
theorem mixed_next {s : Txt} {i : Nat} (hi : i < s.length) : (mixed s i).set i (letter s[i]) = mixed s (i + 1) := by
  unfold mixed
  have hl : ((s.take i).map letter).length = i := by simp; omega
  rw [List.set_append, if_neg (by omega), hl, Nat.sub_self, List.drop_eq_getElem_cons hi, List.set_cons_zero, List.take_succ_eq_append_getElem hi, List.map_append]
  simp
theorem terms_ok {T' : Vm.Prog} (k : Base T) (hT : T'.env 9 = some (rL T rf9)) (hl : Low h) {s : Txt} :
    Gives T' 9 [.str s] h fun r h' => Quiet h h' ∧ Low h' ∧ ((512 < s.length ∧ r = .tuple [.nilSlice, .int .i64 11]) ∨ (s.length ≤ 512 ∧ ∃ v, r = .tuple [v, .int .i64 0] ∧ Row1 h' v ((terms s).map .str) ∧ ∀ o ∈ objs v, h.next ≤ o)) := by
  refine rL_gives hT rfl ?_
  unfold rf9 r9
  refine wr_seq ?_
  rw [wr_base]
  simp only [vms, vmc, AOpd.val, Nat.reduceEqDiff, reduceCtorEq, Nat.reduceAdd, Nat.reduceBEq]
  refine wr_seq ?_
  rw [wr_base]
  by_cases hbig : (s.length : Int) > 512
  · simp only [vms, vmc, AOpd.val, Nat.reduceEqDiff, reduceCtorEq, Nat.reduceAdd, Nat.reduceBEq, decide_eq_true hbig]
    exact ⟨Quiet.refl h, hl, .inl ⟨by omega, by trivial⟩⟩
  have hs : s.length ≤ 512 := by omega
  simp only [vms, vmc, AOpd.val, Nat.reduceEqDiff, reduceCtorEq, Nat.reduceAdd, Nat.reduceBEq, decide_eq_false hbig]
  refine wr_seq ?_
  rw [wr_base]
  have tb : toBytesV h (.str s) = some (.slice h.next 0 1 s.length s.length false, h.new (.marked (bytesOf s))) := by
    simp only [toBytesV]; rw [if_pos (by omega)]
  simp only [vms, vmc, AOpd.val, Nat.reduceEqDiff, reduceCtorEq, Nat.reduceAdd, Nat.reduceBEq, step_toBytes, tb]
  refine wr_seq ?_
  rw [wr_base]
  simp only [vms, vmc, AOpd.val, Nat.reduceEqDiff, reduceCtorEq, Nat.reduceAdd, Nat.reduceBEq]
  refine wpc_loop (fun m f h1 => ∃ i, m = s.length - i ∧ i ≤ s.length ∧ h1.get h.next = some (.marked (bytesOf (mixed s i))) ∧ Quiet h h1 ∧ Low h1 ∧ h1.next = h.next + 1 ∧ f.at 4 = .slice h.next 0 1 s.length s.length false ∧ f.at 14 = .slice h.next 0 1 s.length s.length false ∧ f.at 15 = .int .i64 (s.length : Int) ∧ f.at 16 = .int .i64 (i : Int)) ?_ s.length _ _
    ⟨0, by omega, by omega, by rw [get_new_same]; simp [mixed], (Quiet.refl h).new _, hl.new _, rfl, ?_⟩
  · rintro m f h1 ⟨i, rfl, hi, hg, q1, lo1, nx1, f4, f14, f15, f16⟩
    by_cases hlt : i < s.length
    · have d1 : decide ((i : Int) < (s.length : Int)) = true := by rw [decide_eq_true_eq]; omega
      have ix : idxAddrV 1 (.slice h.next 0 1 s.length s.length false) (.int .i64 (i : Int)) = some (.ptr h.next (0 + i)) := idx_nat hlt
      rw [Nat.zero_add] at ix
      have hat : (bytesOf (mixed s i))[i]? = some (.int .u8 (s[i].toNat : Int)) := by
        simp only [bytesOf, List.getElem?_map, mixed_at hlt, Option.map_some]
      have ld := load_mark hg hat
      have st : storeV h1 1 (.ptr h.next i) (.int .u8 ((letter s[i]).toNat : Int)) = some (h1.set h.next (.marked (bytesOf (mixed s (i + 1))))) := by
        rw [store_mark hg (by simp [bytesOf, mixed_len, hlt]) rfl rfl]
        congr 3
        rw [← mixed_next hlt]
        simp only [bytesOf, List.map_set]
      have w1 : IntKind.i64.wrap ((i : Int) + 1) = ((i + 1 : Nat) : Int) := by rw [wrap_i64 (by omega) (by omega)]; omega
      simp only [c9l0, vms, vmc, AOpd.val, Nat.reduceEqDiff, reduceCtorEq, Nat.reduceAdd, Nat.reduceBEq, f4, f14, f15, f16, d1, ix, ld]
      refine Gives.bind ((letter_ok k).mono ?_)
      rintro _ _ ⟨rfl, rfl⟩
      simp only [vms, vmc, AOpd.val, Nat.reduceEqDiff, reduceCtorEq, Nat.reduceAdd, Nat.reduceBEq, f4, f14, f15, f16, ix, st, w1]
      exact ⟨s.length - (i + 1), by omega, i + 1, rfl, by omega, get_set_same, q1.set (Nat.le_refl _) _, lo1.set (by omega) _, by rw [next_set]; exact nx1, by trivial, by trivial, by trivial, by trivial⟩
    · have d1 : decide ((i : Int) < (s.length : Int)) = false := by rw [decide_eq_false_iff_not]; omega
      have hi' : i = s.length := by omega
      subst hi'
      have hmx : mixed s s.length = s.map letter := by simp [mixed]
      rw [hmx] at hg
      simp only [c9l0, vms, vmc, AOpd.val, Nat.reduceEqDiff, reduceCtorEq, Nat.reduceAdd, Nat.reduceBEq, f4, f15, f16, d1]
      refine wr_seq ?_
      rw [wr_base]
      simp only [vms, vmc, AOpd.val, Nat.reduceEqDiff, reduceCtorEq, Nat.reduceAdd, Nat.reduceBEq]
      refine wr_seq ?_
      refine wr_seq ?_
      rw [wr_base]
      have hg2 : (h1.new (.cells [.nilSlice] true)).get h.next = some (.marked (bytesOf (s.map letter))) := by rw [AH.get_new, if_neg (by omega)]; exact hg
      have ts := mark_str (h := h1.new (.cells [.nilSlice] true)) (o := h.next) (c := s.length) (ex := false) (n := s.length) (by simp) hg2
      simp only [vms, vmc, AOpd.val, Nat.reduceEqDiff, reduceCtorEq, Nat.reduceAdd, Nat.reduceBEq, f4, ts]
      refine Gives.bind ((seq_ok k).mono ?_)
      rintro _ _ ⟨rfl, rfl⟩
      simp only [vms, vmc, AOpd.val, Nat.reduceEqDiff, reduceCtorEq, Nat.reduceAdd, Nat.reduceBEq, next_new, nx1]
      refine wr_block (wr_range (gf := 25) (caps := [.ptr (h.next + 1 + 1 + 1) 0, .ptr (h.next + 1 + 1) 0, .ptr (h.next + 1 + 1 + 2) 0]) (by simp only [vms, vmc, AOpd.val, Nat.reduceEqDiff, reduceCtorEq, Nat.reduceAdd, Nat.reduceBEq]) (k.env 25 (by decide)) (by decide) ?_)
      have hn4 : ((((h1.new (.cells [.nilSlice] true)).new (.cells [.str (s.map letter)] true)).new (.cells [.str [0]] true)).new (.cells [.int .i64 0] true)).next = h.next + 1 + 4 := by simp only [next_new, nx1]
      have I0 : TI h ((((((h1.new (.cells [.nilSlice] true)).new (.cells [.str (s.map letter)] true)).new (.cells [.str [0]] true)).new (.cells [.int .i64 0] true)).new .dead).new .dead) (h.next + 1) [] (s.map letter) := by
        refine ⟨⟨.nilSlice, ?_, .inl ⟨rfl, by simp [wordsOf]⟩, fun o ho => by simp [objs] at ho⟩, ?_, ?_, ?_, (((((q1.new _).new _).new _).new _).new _).new _, (((((lo1.new _).new _).new _).new _).new _).new _, by simp only [next_new, nx1]; omega⟩
        all_goals
          simp only [AH.get_new, next_new, nx1]
          repeat (first | rw [if_pos trivial] | rw [if_pos (by omega)] | rw [if_neg (by omega)])
      refine (iter_ok k (h := h) (p := h.next + 1) (s := s.map letter) (by omega) (by simp; omega) I0 fun h2 w done rest I2 hd => round_gives k (by simp only [vms, vmc, AOpd.val, Nat.reduceEqDiff, reduceCtorEq, Nat.reduceAdd, Nat.reduceBEq, nx1]) (by omega) I2 hd).mono ?_
      rintro _ h5 ⟨rest, I5⟩
      obtain ⟨⟨sl, hg5, r5, fr5⟩, _, _, _, q5, lo5, nx5⟩ := I5
      rw [InBlock_normal, Then_normal, wr_base]
      have hwl : (wordsOf (pieces (s.map letter))).length < 1000000 := by have := words_len s; unfold words at this; omega
      simp only [vms, vmc, AOpd.val, Nat.reduceEqDiff, reduceCtorEq, Nat.reduceAdd, Nat.reduceBEq, nx1, load_box hg5]
      refine Gives.bind ((sort_ok k lo5 r5 hwl).mono ?_)
      rintro _ h6 ⟨r6, m6, lo6, nx6⟩
      have hg6 : h6.get (h.next + 1) = some (.cells [sl] true) := (m6.2 _ (by omega) (fun ho => by have := fr5 _ ho; omega)).trans hg5
      simp only [vms, vmc, AOpd.val, Nat.reduceEqDiff, reduceCtorEq, Nat.reduceAdd, Nat.reduceBEq, nx1, load_box hg6]
      refine Gives.bind ((cpt_ok k lo6 r6 (by rw [sortT_len]; exact hwl)).mono ?_)
      rintro v h7 ⟨r7, ho7, m7, lo7, nx7⟩
      simp only [vms, vmc, AOpd.val, Nat.reduceEqDiff, reduceCtorEq, Nat.reduceAdd, Nat.reduceBEq]
      refine ⟨?_, lo7, .inr ⟨hs, v, by trivial, r7, fun o ho => by have := fr5 o (ho7 o ho); omega⟩⟩
      have q6 : Quiet h h6 := Mods.trans q5 m6 fun o ho => .inr (by have := fr5 o ho; omega)
      exact Mods.trans q6 m7 fun o ho => .inr (by have := fr5 o ho; omega)
  · simp only [vms, vmc, AOpd.val, Nat.reduceEqDiff, reduceCtorEq, Nat.reduceAdd, Nat.reduceBEq]
    simp
end Go.Proofs.YteajnglncglmfaaDoor

/- node.Decode: the children. -/
import Derived.Test.YtpabmkicdcilpaaP7NodeD
namespace Go.Proofs.Ytpabmkicdcilpaa
open Go.Vm
set_option linter.unusedSimpArgs false
set_option linter.unusedVariables false
set_option maxRecDepth 100000
variable {T : Vm.Prog} {h : AH}
def c7Tail : Nat → ACode → ACode
  | 0, c => c
  | n + 1, .seq _ b => c7Tail n b
  | _, c => c
def c7Put : Nat → ACode → ACode → ACode
  | 0, _, t => t
  | n + 1, .seq a b, t => .seq a (c7Put n b t)
  | _, c, _ => c
def c49r : ACode := c7Tail 8 c49
theorem c49_eq : c49 = c7Put 8 c49 c49r := rfl
def zl : List AV := [.int .i64 0, .int .u64 0, .str [], .nilSlice, .nilSlice]
/-- What Decode may say. -/
def IsDec (w : List Nat) (h : AH) (r : AV) (h' : AH) : Prop :=
  Quiet h h' ∧ Low h' ∧ ((∃ nv n, r = .tuple [nv, .bool true] ∧ NodeV h' nv n ∧ Src w n ∧ ∀ N, Src w N → N = n) ∨ (r = .tuple [zeroNode, .bool false] ∧ ∀ N, ¬ Src w N))
theorem plP_lt {kd : Int} {i b n : Nat} (hk : highP kd ≠ 0) (hn : n ≤ highP kd) (hi : i < n) (hb : b < 256) : plP kd i b < sizeP kd := by
  unfold highP at hk hn
  unfold plP sizeP
  by_cases h1 : kd = 1
  · subst h1; simp at hn ⊢; omega
  by_cases h2 : kd = 2
  · subst h2; simp at hn ⊢; omega
  by_cases h3 : kd = 3
  · subst h3; simp at hn ⊢; omega
  by_cases h4 : kd = 4
  · subst h4; simp; omega
  · simp [h1, h2, h3, h4] at hk
theorem high_four {kd : Int} (hk : highP kd ≠ 0) : (kd = 1 ∨ kd = 2 ∨ kd = 3 ∨ kd = 4) ∧ highP kd ≤ 256 ∧ sizeP kd ≤ 264 := by
  unfold highP at hk ⊢
  unfold sizeP
  by_cases h1 : kd = 1
  · subst h1; simp
  by_cases h2 : kd = 2
  · subst h2; simp
  by_cases h3 : kd = 3
  · subst h3; simp
  by_cases h4 : kd = 4
  · subst h4; simp
  · simp [h1, h2, h3, h4] at hk
theorem encW_len (n : NodeP) : (encW n).length < 1000000 := by
  unfold encW
  split
  · rename_i hr
    have r := rightP_iff.1 hr
    have := (high_four r.kind).2.2
    simp [encP]; omega
  · simp
theorem sees_set {x : AV} {xs : List AV} (s : Sees h x xs) {p : Nat} (hp : p ∉ objs x) (o : AObj) : Sees (h.set p o) x xs := by
  rcases s with ⟨rfl, rfl⟩ | ⟨q, off, cap, ex, l, rw, rfl, hg, h1⟩
  · exact .inl ⟨rfl, rfl⟩
  · exact .inr ⟨q, off, cap, ex, l, rw, rfl, by rw [AH.get_set, if_neg (fun e => hp (by simp [objs, e]))]; exact hg, h1⟩
set_option maxHeartbeats 1600000 in
theorem dec_loop (k : Fits T) (hl : Low h) {h1 : AH} {v kv : AV} {w L : List Nat} {kd : Int} {wd p : Nat} {pre : List UInt8} (s : Sees h v (wcells w)) (hw : ∀ x ∈ w, x < 18446744073709551616) (hk : highP kd ≠ 0) (hlen : w.length = sizeP kd) (hL : L.length ≤ highP kd) (hL256 : ∀ b ∈ L, b < 256)
    (hwd : wd < 18446744073709551616) (hpre : pre.length < 1000000) (q : Quiet h h1) (lo : Low h1) (hz : h1.get h.next = some (.cells zl true)) (hp : h.next < p) (hg : h1.get p = some (.cells [.int .i64 kd, .int .u64 (wd : Int), .str pre, kv, .nilSlice] true)) (sk : Sees h1 kv (kcells L)) (hko : ∀ o ∈ objs kv, h.next < o ∧ o < p)
    (src : ∀ N, Src w N → N.kind = kd ∧ N.word = wd ∧ N.pre = pre ∧ N.keys = L) {f : Fr} (f0 : f.at 0 = v) (f2 : f.at 2 = .ptr h.next 0) (f4 : f.at 4 = .int .i64 kd) (f9 : f.at 9 = kv) (f11 : f.at 11 = .ptr p 0) :
    Wp (code T c49r f h1) (Vm.Ends [.cell 2 true 5, .tmp 3] (IsDec w h)) := by
  have lnk : lenOfV kv = some L.length := by have := sk.len; rwa [kcells, List.length_map] at this
  obtain ⟨h4, hh256, hs264⟩ := high_four hk
  have bz : fillV [AV.int .i64 0, .int .u64 0, .str [], .nilSlice, .nilSlice] [] = some [AV.int .i64 0, .int .u64 0, .str [], .nilSlice, .nilSlice] := rfl
  have fa : fieldAddrV 4 (.ptr p 0) = some (.ptr p 4) := rfl
  simp only [c49r, c7Tail, c49, vms, vmc, AOpd.val, Nat.reduceEqDiff, reduceCtorEq, Nat.reduceAdd, Nat.reduceBEq, f9, lnk]
  refine wpc_loop (fun d f h' => ∃ i iv K, d = L.length - i ∧ i ≤ L.length ∧ K.length = i ∧ Quiet h h' ∧ Low h' ∧ h'.get h.next = some (.cells zl true) ∧ h'.get p = some (.cells [.int .i64 kd, .int .u64 (wd : Int), .str pre, kv, iv] true) ∧ Sees h' kv (kcells L) ∧ Row1 h' iv (icells K) ∧ (∀ o ∈ objs iv, p < o) ∧ (∀ N, Src w N → K = N.kids.take i) ∧ f.at 0 = v ∧ f.at 2 = .ptr h.next 0 ∧ f.at 4 = .int .i64 kd ∧ f.at 11 = .ptr p 0 ∧ f.at 80 = kv ∧ f.at 81 = .int .i64 (L.length : Int) ∧ f.at 82 = .int .i64 (i : Int)) ?_ L.length _ _
    ⟨0, .nilSlice, [], by omega, by omega, rfl, q, lo, hz, hg, sk, .inl ⟨rfl, rfl⟩, fun o ho => by simp [objs] at ho, fun N sN => by simp, ?_⟩
  · rintro d f h2 ⟨i, iv, K, rfl, hi, hK, q2, lo2, hz2, hg2, sk2, row, hio, srcK, f0, f2, f4, f11, f80, f81, f82⟩
    have s2 := sees_keep s hl q2
    have hpl : p < h2.next := lo2 _ _ hg2
    by_cases hlt : i < L.length
    · have d1 : decide ((i : Int) < (L.length : Int)) = true := by rw [decide_eq_true_eq]; omega
      have w2 : IntKind.i64.wrap ((i : Int) + 1) = ((i + 1 : Nat) : Int) := by rw [wrap_i64 (by omega) (by omega)]; omega
      obtain ⟨b, hb⟩ : ∃ b, L[i]? = some b := ⟨_, List.getElem?_eq_getElem hlt⟩
      have hb256 := hL256 b (List.mem_of_getElem? hb)
      obtain ⟨a, ha1, ha2⟩ := sk2.at (i := i) (x := .int .u8 (b : Int)) (by rw [kcells_get, hb]; rfl) .i64
      have hpw := plP_lt (i := i) hk hL hlt hb256
      obtain ⟨x, hx⟩ : ∃ x, w[plP kd i b]? = some x := ⟨_, List.getElem?_eq_getElem (by omega)⟩
      obtain ⟨c, hc1, hc2⟩ := s2.word hx .i64
      have l4 := load_at hg2 (i := 4) (v := iv) rfl
      simp only [c49l0, vms, vmc, AOpd.val, Nat.reduceEqDiff, reduceCtorEq, Nat.reduceAdd, Nat.reduceBEq, f0, f2, f4, f11, f80, f81, f82, d1, ha1, ha2, fa, l4]
      refine Gives.bind ((place_ok k h4 (i := i) (b := b) (by omega) hb256).mono ?_)
      rintro _ _ ⟨rfl, rfl⟩
      rename_i h2
      obtain ⟨y, hy⟩ : ∃ y, y = IntKind.i64.wrap (x : Int) := ⟨_, rfl⟩
      have bf : fillV [AV.int .i64 0] [(0, 1, AV.int .i64 y)] = some [AV.int .i64 y] := by simp [fillV, AV.isDef, AV.cells, setMany]
      have q3 : Quiet h2 (h2.new (.cells [.int .i64 y] true)) := (Quiet.refl _).new _
      have lo3 := lo2.new (.cells [.int .i64 y] true)
      have hg3 := q3.get hg2 hpl
      have l4' := load_at hg3 (i := 4) (v := iv) rfl
      obtain ⟨c', hc1', hc2'⟩ := (sees_keep s2 lo2 q3).word hx .i64
      obtain rfl : c = c' := Option.some.inj (hc1.symm.trans hc1')
      obtain ⟨iv', h5, hap, row5, fr5, m5, lo5⟩ := row_app (bytes := 8) (x := .int .i64 y) lo2 row (by decide) (by decide) (by rw [icells, List.length_map]; omega) rfl
      have hg5 : h5.get p = some (.cells [.int .i64 kd, .int .u64 (wd : Int), .str pre, kv, iv] true) := (m5.2 p hpl fun hm => by have := hio p hm; omega).trans hg2
      have cv := sees_cell row5.sees
      have st : storeV h5 1 (.ptr p 4) iv' = some (h5.set p (.cells [.int .i64 kd, .int .u64 (wd : Int), .str pre, kv, iv'] true)) := store_at hg5 (by simp) cv.1 cv.2
      have q5 : Quiet h h5 := Mods.trans q2 m5 fun o ho => .inr (by have := hio o ho; omega)
      have biv := sees_beq row.sees
      simp only [vms, vmc, AOpd.val, Nat.reduceEqDiff, reduceCtorEq, Nat.reduceAdd, Nat.reduceBEq, hc1, hc2, toInt_int, ← hy, bf]
      rw [items_look (look_load (v := iv) (by show loadV _ _ _ (Fr.at _ _) = _; simp only [vms, vmc, AOpd.val, Nat.reduceEqDiff, reduceCtorEq, Nat.reduceAdd, Nat.reduceBEq]; exact l4') (by simp only [vms, vmc, AOpd.val, Nat.reduceEqDiff, reduceCtorEq, Nat.reduceAdd, Nat.reduceBEq]) biv),
        items_look (look_load (v := .int .u64 (x : Int)) (by show loadV _ _ _ (Fr.at _ _) = _; simp only [vms, vmc, AOpd.val, Nat.reduceEqDiff, reduceCtorEq, Nat.reduceAdd, Nat.reduceBEq]; exact hc2') (by simp only [vms, vmc, AOpd.val, Nat.reduceEqDiff, reduceCtorEq, Nat.reduceAdd, Nat.reduceBEq]) (by simp [AV.beq])),
        items_look (Go.Vm.look_build (q := h2.next) (l := [.int .i64 y]) (by simp only [vms, vmc, AOpd.val, Nat.reduceEqDiff, reduceCtorEq, Nat.reduceAdd, Nat.reduceBEq]; exact bf) (by simp only [vms, vmc, AOpd.val, Nat.reduceEqDiff, reduceCtorEq, Nat.reduceAdd, Nat.reduceBEq]; rfl) get_new_same (by simp [AV.beqs, AV.beq]))]
      simp only [vms, vmc, AOpd.val, Nat.reduceEqDiff, reduceCtorEq, Nat.reduceAdd, Nat.reduceBEq, hap, f11, fa, st, f82, w2]
      have hne5 : h.next < h5.next := by have := q5.1; have := lo5 _ _ hg5; omega
      refine ⟨L.length - (i + 1), by omega, i + 1, iv', K ++ [y], rfl, by omega, by simp [hK], q5.set (by omega) _, lo5.set (lo5 _ _ hg5) _, ?_, get_set_same, ?_, ?_, fun o ho => ?_, fun N sN => ?_, by simp only [vms, vmc, AOpd.val, Nat.reduceEqDiff, reduceCtorEq, Nat.reduceAdd, Nat.reduceBEq, f0], by simp only [vms, vmc, AOpd.val, Nat.reduceEqDiff, reduceCtorEq, Nat.reduceAdd, Nat.reduceBEq, f2], by simp only [vms, vmc, AOpd.val, Nat.reduceEqDiff, reduceCtorEq, Nat.reduceAdd, Nat.reduceBEq, f4], by simp only [vms, vmc, AOpd.val, Nat.reduceEqDiff, reduceCtorEq, Nat.reduceAdd, Nat.reduceBEq, f11], by simp only [vms, vmc, AOpd.val, Nat.reduceEqDiff, reduceCtorEq, Nat.reduceAdd, Nat.reduceBEq, f80], by simp only [vms, vmc, AOpd.val, Nat.reduceEqDiff, reduceCtorEq, Nat.reduceAdd, Nat.reduceBEq, f81], by trivial⟩
      · rw [AH.get_set, if_neg (by omega)]
        exact (m5.2 _ (lo2 _ _ hz2) fun hm => by have := hio _ hm; omega).trans hz2
      · refine sees_set (h := h5) ?_ (fun hm => by have := hko p hm; omega) _
        rcases sk2 with ⟨rfl, h6⟩ | ⟨qo, off, cap, ex, l, rw', rfl, hgq, h6⟩
        · exact .inl ⟨rfl, h6⟩
        · exact .inr ⟨qo, off, cap, ex, l, rw', rfl, (m5.2 _ (lo2 _ _ hgq) fun hm => by have := hio _ hm; have := hko qo (by simp [objs]); omega).trans hgq, h6⟩
      · have row5' : Row1 h5 iv' (icells (K ++ [y])) := by simpa [icells] using row5
        refine RowS.keep row5' fun o ho => ?_
        rw [AH.get_set, if_neg]
        rintro rfl
        rcases fr5 _ ho with h6 | h6
        · have := hio _ h6; omega
        · omega
      · rcases fr5 o ho with h6 | h6
        · exact hio o h6
        · omega
      · obtain ⟨e1, e2, e3, e4⟩ := src N sN
        have hbN : N.keys[i]? = some b := by rw [e4]; exact hb
        obtain ⟨z, hz'⟩ : ∃ z, N.kids[i]? = some z := ⟨_, List.getElem?_eq_getElem (by have := sN.right.same; have := (List.getElem?_eq_some_iff.1 hbN).1; omega)⟩
        obtain ⟨g1, g2, g3⟩ := sN.kid hbN hz'
        rw [e1, hx] at g1
        have ex : x = z.toNat := Option.some.inj g1
        have ey : y = z := by rw [hy, ex, wrap_i64 (by omega) (by omega)]; omega
        rw [srcK N sN, ey]
        have hi' := (List.getElem?_eq_some_iff.1 hz').1
        rw [List.take_add_one, hz']; rfl
    · have d1 : decide ((i : Int) < (L.length : Int)) = false := by rw [decide_eq_false_iff_not]; omega
      have hi' : i = L.length := by omega
      subst hi'
      simp only [c49l0, vms, vmc, AOpd.val, Nat.reduceEqDiff, reduceCtorEq, Nat.reduceAdd, Nat.reduceBEq, f0, f2, f4, f11, f80, f81, f82, d1, load_all hg2 (n := 5) rfl]
      have nv : NodeV h2 (.agg [.int .i64 kd, .int .u64 (wd : Int), .str pre, kv, iv]) ⟨kd, wd, pre, L, K⟩ := ⟨kv, iv, rfl, sk2, row.sees⟩
      refine Gives.bind ((encode_ok k lo2 (n := ⟨kd, wd, pre, L, K⟩) ⟨hwd, show L.length < 1000000 by omega, show K.length < 1000000 by omega, show pre.length < 9223372036854775808 by omega⟩ nv hL256).mono ?_)
      rintro ev h3 ⟨q3, lo3, rowE, _⟩
      have s3 := sees_keep s2 lo2 q3
      simp only [vms, vmc, AOpd.val, Nat.reduceEqDiff, reduceCtorEq, Nat.reduceAdd, Nat.reduceBEq, f0, f2, f4, f11]
      refine Gives.bind ((equal_ok k rowE.sees s3 (encW_len _) (by omega)).mono ?_)
      rintro _ _ ⟨rfl, rfl⟩
      rename_i h3
      have q03 := q2.trans q3
      have hz3 := q3.get hz2 (lo2 _ _ hz2)
      have hg3 := q3.get hg2 hpl
      have ck := sees_cell sk2
      have ci := sees_cell row.sees
      have all : ∀ N, Src w N → N = ⟨kd, wd, pre, L, K⟩ := fun N sN => by
        obtain ⟨e1, e2, e3, e4⟩ := src N sN
        have e5 : K = N.kids := by
          rw [srcK N sN, List.take_of_length_le (by have := sN.right.same; rw [← this, e4]; exact Nat.le_refl _)]
        cases N
        simp only at e1 e2 e3 e4 e5
        subst e1 e2 e3 e4 e5
        rfl
      by_cases he : encW ⟨kd, wd, pre, L, K⟩ = w
      · have hr : RightP ⟨kd, wd, pre, L, K⟩ := by
          refine Classical.byContradiction fun hn => ?_
          have : encW ⟨kd, wd, pre, L, K⟩ = [] := by unfold encW; rw [rightP_no hn]; rfl
          rw [this] at he
          have h5 := hlen
          rw [← he] at h5
          rcases h4 with rfl | rfl | rfl | rfl <;> simp [sizeP] at h5
        have hS : Src w ⟨kd, wd, pre, L, K⟩ := ⟨hr, ⟨hwd, show L.length < 1000000 by omega, show K.length < 1000000 by omega, show pre.length < 9223372036854775808 by omega⟩, hL256, by
          have : encW ⟨kd, wd, pre, L, K⟩ = encP ⟨kd, wd, pre, L, K⟩ := by unfold encW; rw [rightP_iff.2 hr]; rfl
          rw [← this]; exact he⟩
        have st : storeV h3 5 (.ptr h.next 0) (.agg [.int .i64 kd, .int .u64 (wd : Int), .str pre, kv, iv]) = some (h3.set h.next (.cells [.int .i64 kd, .int .u64 (wd : Int), .str pre, kv, iv] true)) := store_all (n := 5) (l' := [.int .i64 kd, .int .u64 (wd : Int), .str pre, kv, iv]) hz3 rfl rfl (by simp only [List.all_cons, List.all_nil, ck.2, ci.2]; rfl)
        have ld : loadV (h3.set h.next (.cells [.int .i64 kd, .int .u64 (wd : Int), .str pre, kv, iv] true)) true 5 (.ptr h.next 0) = some (.agg [.int .i64 kd, .int .u64 (wd : Int), .str pre, kv, iv]) := load_all get_set_same (n := 5) rfl
        simp only [vms, vmc, AOpd.val, Nat.reduceEqDiff, reduceCtorEq, Nat.reduceAdd, Nat.reduceBEq, decide_eq_true he, load_all hg3 (n := 5) rfl, f2, f11, st, res_cell, ld]
        refine ⟨q03.set (Nat.le_refl _) _, lo3.set (lo3 _ _ hz3) _, .inl ⟨_, _, rfl, ⟨kv, iv, rfl, ?_, ?_⟩, hS, all⟩⟩
        · exact sees_set (sees_keep sk2 lo2 q3) (fun hm => by have := hko _ hm; omega) _
        · exact sees_set (sees_keep row.sees lo2 q3) (fun hm => by have := hio _ hm; omega) _
      · have stz : storeV h3 5 (.ptr h.next 0) (.agg [.int .i64 0, .int .u64 0, .str [], .nilSlice, .nilSlice]) = some (h3.set h.next (.cells zl true)) := store_all (n := 5) (l' := zl) hz3 rfl rfl rfl
        have ldz : loadV (h3.set h.next (.cells zl true)) true 5 (.ptr h.next 0) = some (.agg zl) := load_all get_set_same (n := 5) rfl
        simp only [vms, vmc, AOpd.val, Nat.reduceEqDiff, reduceCtorEq, Nat.reduceAdd, Nat.reduceBEq, decide_eq_false he, bz, f2, stz, res_cell, ldz]
        refine ⟨q03.set (Nat.le_refl _) _, lo3.set (lo3 _ _ hz3) _, .inr ⟨rfl, fun N sN => he ?_⟩⟩
        have e := all N sN
        rw [← e]
        unfold encW
        rw [rightP_iff.2 sN.right]
        exact sN.enc
  · simp only [vms, vmc, AOpd.val, Nat.reduceEqDiff, reduceCtorEq, Nat.reduceAdd, Nat.reduceBEq, f0, f2, f4, f9, f11, lnk]
    simp
end Go.Proofs.Ytpabmkicdcilpaa
/- node.Decode. -/
namespace Go.Proofs.Ytpabmkicdcilpaa
open Go.Vm
set_option linter.unusedSimpArgs false
set_option linter.unusedVariables false
set_option maxRecDepth 100000
variable {T : Vm.Prog} {h : AH}
theorem Src.text {w : List Nat} {N : NodeP} (s : Src w N) : bytesR ((w.drop 2).take 2) (N.pre.length : Int) = (N.pre, 0) := by
  rw [s.pre]
  have h12 := s.right.pre
  have h1 := strB_words N.pre (n := 2) (k := N.pre.length) (Nat.le_refl _) (by omega)
  have h2 := (clearW_words N.pre (n := 2) (k := N.pre.length) (by omega)).2 fun i x hi hx => by
    have := (List.getElem?_eq_some_iff.1 hx).1
    omega
  rw [bytesR_ok (by rw [wordsN_len]; omega) h2, h1, List.take_of_length_le (Nat.le_refl _)]
set_option maxHeartbeats 1600000 in
theorem decode_ok (k : Fits T) (hl : Low h) {v : AV} {w : List Nat} (s : Sees h v (wcells w)) (hc : capOk v) (hw : ∀ x ∈ w, x < 18446744073709551616) (hwl : w.length < 1000000) :
    Gives T 49 [v] h (IsDec w h) := by
  refine gives_func (k.env _ (by decide)) (k.at (fn := a49) rfl) rfl ?_
  have bz : fillV [AV.int .i64 0, .int .u64 0, .str [], .nilSlice, .nilSlice] [] = some [AV.int .i64 0, .int .u64 0, .str [], .nilSlice, .nilSlice] := rfl
  have q1 : Quiet h (h.new (.cells zl true)) := (Quiet.refl _).new _
  have lo1 : Low (h.new (.cells zl true)) := hl.new _
  have hz1 : (h.new (.cells zl true)).get h.next = some (.cells zl true) := get_new_same
  have ezl : ∀ g : AH, g.new (.cells [.int .i64 0, .int .u64 0, .str [], .nilSlice, .nilSlice] true) = g.new (.cells zl true) := fun _ => rfl
  have s1 := sees_keep s hl q1
  have ln := sees_words s
  have stz : ∀ {g : AH}, g.get h.next = some (.cells zl true) → storeV g 5 (.ptr h.next 0) (.agg [.int .i64 0, .int .u64 0, .str [], .nilSlice, .nilSlice]) = some (g.set h.next (.cells zl true)) := fun hz => store_all (n := 5) (l' := zl) hz rfl rfl rfl
  have ldz : ∀ {g : AH}, loadV (g.set h.next (.cells zl true)) true 5 (.ptr h.next 0) = some (.agg zl) := fun {g} => load_all get_set_same (n := 5) rfl
  have no : ∀ {g : AH}, Quiet h g → Low g → g.get h.next = some (.cells zl true) → (∀ N, ¬ Src w N) → IsDec w h (.tuple [.agg zl, .bool false]) (g.set h.next (.cells zl true)) := fun q lo hz hn => ⟨q.set (Nat.le_refl _) _, lo.set (lo _ _ hz) _, .inr ⟨rfl, hn⟩⟩
  simp only [a49]
  rw [c49_eq]
  simp only [c7Put, c49, vms, vmc, AOpd.val, Nat.reduceEqDiff, reduceCtorEq, Nat.reduceAdd, Nat.reduceBEq, ezl, ln]
  generalize (h.new (.cells zl true)) = h1 at *
  by_cases h4 : w.length < 4
  · have d1 : decide ((w.length : Int) < 4) = true := by rw [decide_eq_true_eq]; omega
    simp only [vms, vmc, AOpd.val, Nat.reduceEqDiff, reduceCtorEq, Nat.reduceAdd, Nat.reduceBEq, d1, bz, stz hz1, res_cell, ldz]
    refine no q1 lo1 hz1 fun N sN => ?_
    have := sN.len
    have h5 : 4 ≤ sizeP N.kind := by rcases sN.right.kinds with e | e | e | e <;> rw [e] <;> decide
    omega
  have d1 : decide ((w.length : Int) < 4) = false := by rw [decide_eq_false_iff_not]; omega
  obtain ⟨x1, hx1⟩ : ∃ x, w[1]? = some x := ⟨_, List.getElem?_eq_getElem (by omega)⟩
  obtain ⟨x0, hx0⟩ : ∃ x, w[0]? = some x := ⟨_, List.getElem?_eq_getElem (by omega)⟩
  have hb1 := hw x1 (List.mem_of_getElem? hx1)
  have hb0 := hw x0 (List.mem_of_getElem? hx0)
  obtain ⟨a1, ha1, ha2⟩ := s1.word hx1 .i64
  have ha1' : idxAddrV 1 v (.int .i64 1) = some a1 := ha1
  have b1 : x1 / 256 < 18446744073709551616 := by omega
  have b2 : x1 / 65536 < 18446744073709551616 := by omega
  have e1 : IntKind.i64.wrap ((x1 % 256 : Nat) : Int) = ((x1 % 256 : Nat) : Int) := wrap_i64 (by omega) (by omega)
  have e2 : IntKind.i64.wrap ((x1 / 256 % 256 : Nat) : Int) = ((x1 / 256 % 256 : Nat) : Int) := wrap_i64 (by omega) (by omega)
  have e3 : IntKind.i64.wrap ((x1 / 65536 % 65536 : Nat) : Int) = ((x1 / 65536 % 65536 : Nat) : Int) := wrap_i64 (by omega) (by omega)
  have hd : ∀ N, Src w N → N.kind = ((x1 % 256 : Nat) : Int) ∧ N.word = x0 ∧ N.pre.length = x1 / 256 % 256 ∧ N.keys.length = x1 / 65536 % 65536 := fun N sN => by
    obtain ⟨g0, g1, g2, g3, g4, g5⟩ := sN.hd
    rw [hx0] at g0; rw [hx1] at g1
    cases g0; cases g1
    exact ⟨by rw [g2]; exact g5.symm, rfl, g3.symm, g4.symm⟩
  simp only [vms, vmc, AOpd.val, Nat.reduceEqDiff, reduceCtorEq, Nat.reduceAdd, Nat.reduceBEq, d1, ha1', ha2, and255 hb1, shr8, and255 b1, shr16, and65535 b2, toInt_int, e1, e2, e3]
  generalize hkd : ((x1 % 256 : Nat) : Int) = kd at *
  generalize hsz : x1 / 256 % 256 = size at *
  generalize hn : x1 / 65536 % 65536 = n at *
  refine Gives.bind ((high_ok k).mono ?_)
  rintro _ _ ⟨rfl, rfl⟩
  rename_i h1
  by_cases hk0 : highP kd = 0
  · have d2 : ((highP kd : Int) == 0) = true := by rw [hk0]; rfl
    simp only [vms, vmc, AOpd.val, Nat.reduceEqDiff, reduceCtorEq, Nat.reduceAdd, Nat.reduceBEq, d2, bz, stz hz1, res_cell, ldz]
    exact no q1 lo1 hz1 fun N sN => sN.right.kind (by rw [(hd N sN).1]; exact hk0)
  have d2 : ((highP kd : Int) == 0) = false := by rw [beq_eq_false_iff_ne]; omega
  simp only [vms, vmc, AOpd.val, Nat.reduceEqDiff, reduceCtorEq, Nat.reduceAdd, Nat.reduceBEq, d2, ln]
  refine Gives.bind ((size_ok k).mono ?_)
  rintro _ _ ⟨rfl, rfl⟩
  rename_i h1
  by_cases hlen : w.length = sizeP kd
  case neg =>
    have d3 : ((w.length : Int) != (sizeP kd : Int)) = true := by simp; omega
    simp only [vms, vmc, AOpd.val, Nat.reduceEqDiff, reduceCtorEq, Nat.reduceAdd, Nat.reduceBEq, d3, bz, stz hz1, res_cell, ldz]
    exact no q1 lo1 hz1 fun N sN => hlen (by rw [sN.len, (hd N sN).1])
  have d3 : ((w.length : Int) != (sizeP kd : Int)) = false := by rw [hlen]; simp
  simp only [vms, vmc, AOpd.val, Nat.reduceEqDiff, reduceCtorEq, Nat.reduceAdd, Nat.reduceBEq, d3]
  refine Gives.bind ((high_ok k).mono ?_)
  rintro _ _ ⟨rfl, rfl⟩
  rename_i h1
  by_cases hnh : n ≤ highP kd
  case neg =>
    have d4 : decide ((n : Int) > (highP kd : Int)) = true := by rw [decide_eq_true_eq]; omega
    simp only [vms, vmc, AOpd.val, Nat.reduceEqDiff, reduceCtorEq, Nat.reduceAdd, Nat.reduceBEq, d4, bz, stz hz1, res_cell, ldz]
    exact no q1 lo1 hz1 fun N sN => hnh (by rw [← (hd N sN).2.2.2, ← (hd N sN).1]; exact sN.right.few)
  have d4 : decide ((n : Int) > (highP kd : Int)) = false := by rw [decide_eq_false_iff_not]; omega
  obtain ⟨sv, g1, g2⟩ := sees_mid s1 hc (a := 2) (b := 4) (by omega) (by rw [wcells_len]; omega)
  have g1' : slcV 1 v (some (.int .i64 2)) (some (.int .i64 4)) none = some sv := g1
  rw [wcells_sub] at g2
  simp only [vms, vmc, AOpd.val, Nat.reduceEqDiff, reduceCtorEq, Nat.reduceAdd, Nat.reduceBEq, d4, g1']
  refine Gives.bind ((bytes_ok (k.env 69 (by decide)) (k.at (n := 69) (fn := aBytes) rfl) (n := (size : Int)) lo1 g2 (by simp; omega) (by omega) (by omega)).mono ?_)
  rintro _ h2 ⟨ex, lo2, rfl⟩
  have q2 := q1.trans ex.quiet
  have hz2 := ex.quiet.get hz1 (lo1 _ _ hz1)
  have s2 := sees_keep s hl q2
  have txt : ∀ N, Src w N → bytesR ((w.drop 2).take (4 - 2)) (size : Int) = (N.pre, 0) := fun N sN => by rw [← (hd N sN).2.2.1]; exact sN.text
  simp only [vms, vmc, AOpd.val, Nat.reduceEqDiff, reduceCtorEq, Nat.reduceAdd, Nat.reduceBEq]
  refine Gives.bind ((keys_ok k lo2 s2 hc hk0 hlen hw hnh).mono ?_)
  rintro _ h3 ⟨q3, lo3, kv, ok, L, rfl, hok, hsrc⟩
  have q03 := q2.trans q3
  have hz3 := q3.get hz2 (lo2 _ _ hz2)
  generalize hT : bytesR ((w.drop 2).take (4 - 2)) (size : Int) = t at *
  by_cases he : t.2 = 0
  case neg =>
    have d5 : (t.2 != 0) = true := by simp [he]
    simp only [vms, vmc, AOpd.val, Nat.reduceEqDiff, reduceCtorEq, Nat.reduceAdd, Nat.reduceBEq, d5, bz, stz hz3, res_cell, ldz]
    exact no q03 lo3 hz3 fun N sN => he (by rw [txt N sN])
  have d5 : (t.2 != 0) = false := by simp [he]
  cases ok with
  | false =>
    simp only [vms, vmc, AOpd.val, Nat.reduceEqDiff, reduceCtorEq, Nat.reduceAdd, Nat.reduceBEq, d5, bz, stz hz3, res_cell, ldz]
    exact no q03 lo3 hz3 fun N sN => by
      have := (hsrc N sN (hd N sN).1 (hd N sN).2.2.2).1
      cases this
  | true =>
    obtain ⟨sk, hL256, hLn, hko⟩ := hok rfl
    have s3 := sees_keep s hl q03
    obtain ⟨a0, c1, c2⟩ := s3.word hx0 .i64
    have c1' : idxAddrV 1 v (.int .i64 0) = some a0 := c1
    have ck := sees_cell sk
    have dk : AV.isDef kv = true := by rcases sk with ⟨rfl, _⟩ | ⟨_, _, _, _, _, _, rfl, _⟩ <;> rfl
    have bf : fillV [AV.int .i64 0, .int .u64 0, .str [], .nilSlice, .nilSlice] [(0, 1, .int .i64 kd), (1, 1, .int .u64 (x0 : Int)), (2, 1, .str t.1), (3, 1, kv)] = some [.int .i64 kd, .int .u64 (x0 : Int), .str t.1, kv, .nilSlice] := by
      have i1 : ∀ k n, AV.isDef (.int k n) = true := fun _ _ => rfl
      have i2 : ∀ t, AV.isDef (.str t) = true := fun _ => rfl
      have i3 : ∀ k n, (AV.int k n).cells = [.int k n] := fun _ _ => rfl
      have i4 : ∀ t, (AV.str t).cells = [.str t] := fun _ => rfl
      simp [fillV, dk, ck.1, i1, i2, i3, i4, setMany]
    have q4 : Quiet h3 (h3.new (.cells zl true)) := (Quiet.refl _).new _
    have lo4 := lo3.new (.cells zl true)
    have hz4 : (h3.new (.cells zl true)).get h3.next = some (.cells zl true) := get_new_same
    have st : storeV (h3.new (.cells zl true)) 5 (.ptr h3.next 0) (.agg [.int .i64 kd, .int .u64 (x0 : Int), .str t.1, kv, .nilSlice]) = some ((h3.new (.cells zl true)).set h3.next (.cells [.int .i64 kd, .int .u64 (x0 : Int), .str t.1, kv, .nilSlice] true)) := store_all (n := 5) (l' := [.int .i64 kd, .int .u64 (x0 : Int), .str t.1, kv, .nilSlice]) hz4 rfl rfl (by simp only [List.all_cons, List.all_nil, ck.2]; rfl)
    have klow := sees_low sk lo3
    have hzl := lo3 _ _ hz3
    have n2 := ex.1
    simp only [vms, vmc, AOpd.val, Nat.reduceEqDiff, reduceCtorEq, Nat.reduceAdd, Nat.reduceBEq, d5, c1', c2, bf, ezl, st]
    refine dec_loop k hl (p := h3.next) (kv := kv) (L := L) (wd := x0) (pre := t.1) s hw hk0 hlen (by omega) hL256 hb0 ?_ ((q03.trans q4).set (by have := q03.1; omega) _) (lo4.set (by rw [next_new]; omega) _) ?_ hzl get_set_same ?_ (fun o ho => ⟨?_, klow o ho⟩) (fun N sN => ?_) ?_ ?_ ?_ ?_ ?_
    · rw [← hT]
      unfold bytesR
      split
      · simp
      · split
        · simp only [strB_len]; omega
        · simp
    · rw [AH.get_set, if_neg (by omega), AH.get_new, if_neg (by omega)]; exact hz3
    · refine sees_set (sees_keep sk lo3 q4) (fun hm => by have := klow _ hm; omega) _
    · have := hko o ho
      have := lo1 _ _ hz1
      omega
    · obtain ⟨f1, f2, f3, f4⟩ := hd N sN
      exact ⟨f1, f2, by rw [txt N sN], (hsrc N sN f1 f4).2.symm⟩
    all_goals simp only [vms, vmc, AOpd.val, Nat.reduceEqDiff, reduceCtorEq, Nat.reduceAdd, Nat.reduceBEq]
end Go.Proofs.Ytpabmkicdcilpaa
/- NodeBack. -/
namespace Go.Proofs.Ytpabmkicdcilpaa
open Go.Vm
set_option linter.unusedSimpArgs false
set_option linter.unusedVariables false
set_option maxRecDepth 100000
variable {T : Vm.Prog} {h : AH}
theorem liesL {p : Nat} {kv iv : AV} {n : NodeP} (s : Lies h p kv iv n) : loadV h true 5 (.ptr p 0) = some (.agg (n.cells kv iv)) := load_all s.get rfl
theorem liesV {p : Nat} {kv iv : AV} {n : NodeP} (s : Lies h p kv iv n) : NodeV h (.agg (n.cells kv iv)) n := ⟨kv, iv, rfl, s.sk, s.si⟩
theorem look_new5 {d q : Nat} {f : Fr} (hd : f.at d = .ptr q 0) (hq : h.get q = some (.cells zl true)) : AOper.lookAgain ⟨some d, .new [.int .i64 0, .int .u64 0, .str [], .nilSlice, .nilSlice], none⟩ f h = true := by
  have hl : AV.beqs zl zl = true := by simp [zl, AV.beqs, AV.beq]
  have e : ∀ g : AH, g.new (.cells [.int .i64 0, .int .u64 0, .str [], .nilSlice, .nilSlice] true) = g.new (.cells zl true) := fun _ => rfl
  unfold AOper.lookAgain
  simp only [wantedV, AOp.eval]
  rw [if_neg (by rw [next_new]; omega), hd]
  simp only [objOf, e, get_new_same, hq, beqObj, hl]
  rfl
theorem encH_lt {n : NodeP} (r : RightP n) (ok : n.Ok) (hb : ∀ b ∈ n.keys, b < 256) (j : Nat) : encH n j < 18446744073709551616 := by
  have dg : ∀ (l : List Nat) (j : Nat), (∀ b ∈ l, b < 256) → dig (blk l j) < 18446744073709551616 := fun l j hl => wordsN_lt (n := j + 1) hl _ (List.mem_of_getElem? (wordsN_get (by omega)))
  have h1 := r.pre
  have h2 := r.few
  have h3 := (high_four r.kind).2.1
  have h4 : n.kind.toNat ≤ 4 := by rcases r.kinds with e | e | e | e <;> rw [e] <;> decide
  unfold encH
  by_cases j0 : j = 0
  · rw [if_pos j0]; exact ok.word
  rw [if_neg j0]
  by_cases j1 : j = 1
  · rw [if_pos j1]; unfold hdN; omega
  rw [if_neg j1]
  by_cases j2 : j < 4
  · rw [if_pos j2]; exact dg _ _ (nat8_small _)
  rw [if_neg j2]
  by_cases k1 : n.kind = 1
  · rw [if_pos k1]
    split
    · exact dg _ _ hb
    · omega
  rw [if_neg k1]
  by_cases k2 : n.kind = 2
  · rw [if_pos k2]
    split
    · exact dg _ _ hb
    · omega
  rw [if_neg k2]
  by_cases k3 : n.kind = 3
  · rw [if_pos k3]
    split
    · refine dg _ _ fun y hy => ?_
      simp only [tabN, List.mem_map] at hy
      obtain ⟨c, _, rfl⟩ := hy
      have h5 := tabAt_le n.keys c
      rw [k3] at h2
      have : highP 3 = 48 := rfl
      omega
    · omega
  · rw [if_neg k3]; omega
theorem encG_lt {n : NodeP} (r : RightP n) (ok : n.Ok) (hb : ∀ b ∈ n.keys, b < 256) (j : Nat) : ∀ m, encG n m j < 18446744073709551616
  | 0 => encH_lt r ok hb j
  | m + 1 => by
    unfold encG
    split
    · cases hx : n.kids[m]? with
      | none => simp
      | some x =>
        have := isRef_pos (r.refs m x hx)
        simp only [Option.getD_some]; omega
    · exact encG_lt r ok hb j m
theorem encP_lt {n : NodeP} (r : RightP n) (ok : n.Ok) (hb : ∀ b ∈ n.keys, b < 256) : ∀ x ∈ encP n, x < 18446744073709551616 := by
  intro x hx
  simp only [encP, List.mem_map] at hx
  obtain ⟨j, _, rfl⟩ := hx
  exact encG_lt r ok hb j _
end Go.Proofs.Ytpabmkicdcilpaa

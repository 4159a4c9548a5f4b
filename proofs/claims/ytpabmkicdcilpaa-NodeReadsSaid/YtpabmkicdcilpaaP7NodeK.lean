/- The reference's parts. -/
import Derived.Test.YtpabmkicdcilpaaP7NodeE
import Derived.Test.YtpabmkicdcilpaaP7NodeI
namespace Go.Proofs.Ytpabmkicdcilpaa
open Go.Vm
set_option linter.unusedSimpArgs false
set_option linter.unusedVariables false
set_option maxRecDepth 100000
variable {T : Vm.Prog} {h : AH}
/-- Two rows that grow: bytes and children. -/
structure Two (h h' : AH) (kv iv : AV) (L : List Nat) (K : List Int) : Prop where
  quiet : Quiet h h'
  low : Low h'
  rk : Row1 h' kv (kcells L)
  ri : Row1 h' iv (icells K)
  fk : ∀ o ∈ objs kv, h.next ≤ o
  fi : ∀ o ∈ objs iv, h.next ≤ o
  dj : ∀ o ∈ objs kv, o ∉ objs iv
theorem two_nil (hl : Low h) : Two h h .nilSlice .nilSlice [] [] := ⟨Quiet.refl _, hl, .inl ⟨rfl, rfl⟩, .inl ⟨rfl, rfl⟩, fun o ho => by simp [objs] at ho, fun o ho => by simp [objs] at ho, fun o ho => by simp [objs] at ho⟩
theorem Two.push {h1 : AH} {kv iv : AV} {L : List Nat} {K : List Int} (t : Two h h1 kv iv L K) (hL : L.length < 1000) (hK : K.length < 1000) (b : Nat) :
    ∃ kv' h2, appV 1 1 (h1.new (.cells [.int .u8 (b : Int)] true)) kv (.slice h1.next 0 1 1 1 true) = some (kv', h2) ∧ Quiet h h2 ∧
      ∀ y : Int, ∃ iv' h3, appV 1 8 (h2.new (.cells [.int .i64 y] true)) iv (.slice h2.next 0 1 1 1 true) = some (iv', h3) ∧ Two h h3 kv' iv' (L ++ [b]) (K ++ [y]) := by
  obtain ⟨q, lo, rk, ri, fk, fi, dj⟩ := t
  obtain ⟨kv', h2, ha, rk2, ko, m2, lo2⟩ := row_app (bytes := 1) (x := .int .u8 (b : Int)) lo rk (by decide) (by decide) (by rw [kcells, List.length_map]; omega) rfl
  have rk2' : Row1 h2 kv' (kcells (L ++ [b])) := by simpa [kcells] using rk2
  have kl := RowS.low rk2' lo2
  have il := RowS.low ri lo
  have q2 : Quiet h h2 := Mods.trans q m2 fun o ho => .inr (fk o ho)
  have ri2 : Row1 h2 iv (icells K) := RowS.keep ri fun o ho => m2.2 o (il o ho) fun hk => dj o hk ho
  refine ⟨kv', h2, ha, q2, fun y => ?_⟩
  obtain ⟨iv', h3, hb, ri3, io, m3, lo3⟩ := row_app (bytes := 8) (x := .int .i64 y) lo2 ri2 (by decide) (by decide) (by rw [icells, List.length_map]; omega) rfl
  have n2 := m2.1
  have dj2 : ∀ o ∈ objs kv', o ∉ objs iv := fun o ho hi => by
    rcases ko o ho with h5 | h5
    · exact dj o h5 hi
    · have := il o hi; omega
  refine ⟨iv', h3, hb, Mods.trans q2 m3 fun o ho => .inr (fi o ho), lo3, RowS.keep rk2' fun o ho => m3.2 o (kl o ho) (dj2 o ho), by simpa [icells] using ri3, fun o ho => ?_, fun o ho => ?_, fun o ho hi => ?_⟩
  · rcases ko o ho with h5 | h5
    · exact fk o h5
    · have := q.1; omega
  · rcases io o ho with h5 | h5
    · exact fi o h5
    · have := q2.1; omega
  · rcases io o hi with h5 | h5
    · exact dj2 o ho h5
    · have := kl o ho; omega
/-- What parts tells. -/
def IsParts (w : List Nat) (kd : Int) (many : Nat) (h : AH) (r : AV) (h' : AH) : Prop :=
  ∃ kv iv L K, r = .tuple [kv, iv] ∧ Two h h' kv iv L K ∧ (∀ b ∈ L, b < 256) ∧ L.length ≤ 256 ∧ K.length ≤ 256 ∧ ∀ N, Src w N → N.kind = kd → N.keys.length = many → L = N.keys ∧ K = N.kids
theorem below_take {l : List Nat} (hp : l.Pairwise (· < ·)) {i b : Nat} (hb : l[i]? = some b) : below l b = l.take i := by
  have hlt := (List.getElem?_eq_some_iff.1 hb).1
  rw [List.pairwise_iff_getElem] at hp
  unfold below
  conv => lhs; rw [← List.take_append_drop i l]
  rw [List.filter_append]
  have e1 : (l.take i).filter (fun y => decide (y < b)) = l.take i := by
    rw [List.filter_eq_self]
    intro y hy
    obtain ⟨j, hj⟩ := List.getElem?_of_mem hy
    rw [List.getElem?_take] at hj
    split at hj
    · rename_i hji
      have h1 := List.getElem?_eq_some_iff.1 hj
      have h2 := List.getElem?_eq_some_iff.1 hb
      have := hp j i h1.1 h2.1 hji
      rw [h1.2, h2.2] at this
      exact decide_eq_true this
    · cases hj
  have e2 : (l.drop i).filter (fun y => decide (y < b)) = [] := by
    rw [List.filter_eq_nil_iff]
    intro y hy
    obtain ⟨j, hj⟩ := List.getElem?_of_mem hy
    rw [List.getElem?_drop] at hj
    have h1 := List.getElem?_eq_some_iff.1 hj
    have h2 := List.getElem?_eq_some_iff.1 hb
    by_cases e : j = 0
    · subst e
      rw [Nat.add_zero, hb] at hj
      cases hj; simp
    · have := hp i (i + j) h2.1 h1.1 (by omega)
      rw [h1.2, h2.2] at this
      simp; omega
  rw [e1, e2, List.append_nil]
/-- The rows so far are those of the bytes below this one. -/
def Upto (w : List Nat) (kd : Int) (b : Nat) (L : List Nat) (K : List Int) : Prop := ∀ N, Src w N → N.kind = kd → L = below N.keys b ∧ K = N.kids.take L.length
theorem Upto.skip {w : List Nat} {kd : Int} {b : Nat} {L : List Nat} {K : List Int} (u : Upto w kd b L K) (hn : ∀ N, Src w N → N.kind = kd → b ∉ N.keys) : Upto w kd (b + 1) L K := fun N sN hk => by
  obtain ⟨h1, h2⟩ := u N sN hk
  exact ⟨by rw [below_out (hn N sN hk)]; exact h1, h2⟩
theorem Upto.put {w : List Nat} {kd : Int} {b x : Nat} {L : List Nat} {K : List Int} (u : Upto w kd b L K) (hx : ∀ N, Src w N → N.kind = kd → ∃ i, N.keys[i]? = some b ∧ w[plP kd i b]? = some x) : Upto w kd (b + 1) (L ++ [b]) (K ++ [IntKind.i64.wrap (x : Int)]) := fun N sN hk => by
  obtain ⟨h1, h2⟩ := u N sN hk
  obtain ⟨i, hi, hw⟩ := hx N sN hk
  have hlt := (List.getElem?_eq_some_iff.1 hi).1
  obtain ⟨z, hz⟩ : ∃ z, N.kids[i]? = some z := ⟨_, List.getElem?_eq_getElem (by have := sN.right.same; omega)⟩
  obtain ⟨g1, g2, g3⟩ := sN.kid hi hz
  rw [hk, hw] at g1
  have ex : x = z.toNat := Option.some.inj g1
  have ey : IntKind.i64.wrap (x : Int) = z := by rw [ex, wrap_i64 (by omega) (by omega)]; omega
  have hbt := below_take sN.right.pairsK hi
  have hl : L.length = i := by rw [h1, hbt, List.length_take]; omega
  refine ⟨by rw [below_in sN.right.pairsK (List.mem_of_getElem? hi), ← h1], ?_⟩
  rw [ey, h2, List.length_append, hl, List.length_singleton, List.take_add_one, hz]; rfl
theorem Upto.all {w : List Nat} {kd : Int} {L : List Nat} {K : List Int} (u : Upto w kd 256 L K) : ∀ N, Src w N → N.kind = kd → L = N.keys ∧ K = N.kids := fun N sN hk => by
  obtain ⟨h1, h2⟩ := u N sN hk
  have e : L = N.keys := by
    rw [h1]; unfold below
    rw [List.filter_eq_self]
    intro y hy
    exact decide_eq_true (sN.byte y hy)
  refine ⟨e, ?_⟩
  rw [h2, e, List.take_of_length_le (by rw [sN.right.same]; exact Nat.le_refl _)]
end Go.Proofs.Ytpabmkicdcilpaa
/- The reference's parts: the walk. -/
namespace Go.Proofs.Ytpabmkicdcilpaa
open Go.Vm
set_option linter.unusedSimpArgs false
set_option linter.unusedVariables false
set_option maxRecDepth 100000
variable {T : Vm.Prog} {h : AH}
theorem fillB (b : Nat) : fillV [AV.int .u8 0] [(0, 1, AV.int .u8 (b : Int))] = some [AV.int .u8 (b : Int)] := by simp [fillV, AV.isDef, AV.cells, setMany]
theorem fillI (y : Int) : fillV [AV.int .i64 0] [(0, 1, AV.int .i64 y)] = some [AV.int .i64 y] := by simp [fillV, AV.isDef, AV.cells, setMany]
theorem Src.key12 {w : List Nat} {N : NodeP} (s : Src w N) (hk : N.kind = 1 ∨ N.kind = 2) {i x b : Nat} (hb : N.keys[i]? = some b) (hx : w[4 + i / 8]? = some x) : x / 2 ^ (8 * (i % 8)) % 256 = b := by
  have hlt := (List.getElem?_eq_some_iff.1 hb).1
  have hf := s.right.few
  have h8 : i / 8 < (if N.kind = 1 then 1 else 2) := by
    rcases hk with e | e <;> rw [e] at hf ⊢ <;> simp [highP] at hf ⊢ <;> omega
  have hm := s.mid (j := i / 8) (by rcases hk with e | e <;> rw [e] <;> decide) (by rcases hk with e | e <;> rw [e] at h8 ⊢ <;> simp at h8 ⊢ <;> omega)
  rw [hx, if_neg (by rcases hk with e | e <;> rw [e] <;> decide)] at hm
  have hbw := byteAt_words (bs := N.keys) (n := i / 8 + 1) (k := i) s.byte (by omega)
  unfold byteAt at hbw
  rw [wordsN_get (by omega), hb] at hbw
  have e : x = dig (blk N.keys (i / 8)) := by simpa using hm
  rw [e]
  simpa using hbw
theorem parts12_ok (k : Fits T) (hl : Low h) {v : AV} {w : List Nat} (s : Sees h v (wcells w)) {kd : Int} {fst : Nat} (hk : (kd = 1 ∧ fst = 5) ∨ (kd = 2 ∧ fst = 6)) (hlen : w.length = sizeP kd) (hw : ∀ x ∈ w, x < 18446744073709551616) {many : Nat} (hmany : many < 100000) :
    Gives T 77 [.int .i64 kd, .int .i64 (many : Int), v] h (IsParts w kd many h) := by
  refine gives_func (k.env _ (by decide)) (k.at (fn := a77) rfl) rfl ?_
  have hkd : kd = 1 ∨ kd = 2 := by rcases hk with ⟨h, _⟩ | ⟨h, _⟩ <;> simp [h]
  have body : ∀ {f : Fr}, f.at 0 = .int .i64 kd → f.at 1 = .int .i64 (many : Int) → f.at 2 = v → f.at 8 = .nilSlice → f.at 9 = .nilSlice → f.at 10 = .int .i64 (fst : Int) → f.at 11 = .int .i64 0 → ∀ {Q : AExit → Fr → AH → Prop},
      (∀ f' h' kv iv L K, f'.at 8 = kv → f'.at 9 = iv → Two h h' kv iv L K → (∀ b ∈ L, b < 256) → L.length ≤ 256 → K.length ≤ 256 → (∀ N, Src w N → N.kind = kd → N.keys.length = many → L = N.keys ∧ K = N.kids) → Q (.exit 1) f' h') → Wp (code T (.loop c77l0) f h) Q := by
    intro f f0 f1 f2 f8 f9 f10 f11 Q hq
    refine wpc_loop (fun d f h' => ∃ i kv iv L K, d = many - i ∧ i ≤ many ∧ i ≤ highP kd ∧ Two h h' kv iv L K ∧ L.length = i ∧ K.length = i ∧ (∀ b ∈ L, b < 256) ∧ (∀ N, Src w N → N.kind = kd → N.keys.length = many → L = N.keys.take i ∧ K = N.kids.take i) ∧ f.at 0 = .int .i64 kd ∧ f.at 1 = .int .i64 (many : Int) ∧ f.at 2 = v ∧ f.at 8 = kv ∧ f.at 9 = iv ∧ f.at 10 = .int .i64 (fst : Int) ∧ f.at 11 = .int .i64 (i : Int)) ?_ many _ _
      ⟨0, .nilSlice, .nilSlice, [], [], by omega, by omega, by omega, two_nil hl, rfl, rfl, fun b hb => by simp at hb, fun N _ _ _ => by simp, f0, f1, f2, f8, f9, f10, f11⟩
    rintro d f h1 ⟨i, kv, iv, L, K, rfl, hi, hih, t, hL, hK, hb256, src, f0, f1, f2, f8, f9, f10, f11⟩
    have hh16 : highP kd ≤ 16 := by rcases hkd with rfl | rfl <;> decide
    by_cases h1m : i < many
    case neg =>
      have d1 : decide ((i : Int) < (many : Int)) = false := by rw [decide_eq_false_iff_not]; omega
      simp only [c77l0, vms, vmc, AOpd.val, Nat.reduceEqDiff, reduceCtorEq, Nat.reduceAdd, Nat.reduceBEq, f0, f1, f2, f8, f9, f10, f11, d1]
      refine hq _ _ kv iv L K (by simp only [vms, vmc, AOpd.val, Nat.reduceEqDiff, reduceCtorEq, Nat.reduceAdd, Nat.reduceBEq, f8]) (by simp only [vms, vmc, AOpd.val, Nat.reduceEqDiff, reduceCtorEq, Nat.reduceAdd, Nat.reduceBEq, f9]) t hb256 (by omega) (by omega) fun N sN e1 e2 => ?_
      obtain ⟨g1, g2⟩ := src N sN e1 e2
      have := sN.right.same
      rw [List.take_of_length_le (by omega)] at g1 g2
      exact ⟨g1, g2⟩
    have d1 : decide ((i : Int) < (many : Int)) = true := by rw [decide_eq_true_eq]; omega
    simp only [c77l0, vms, vmc, AOpd.val, Nat.reduceEqDiff, reduceCtorEq, Nat.reduceAdd, Nat.reduceBEq, f0, f1, f2, f8, f9, f10, f11, d1]
    refine Gives.bind ((high39_ok k).mono ?_)
    rintro _ _ ⟨rfl, rfl⟩
    rename_i h1
    by_cases h1h : i < highP kd
    case neg =>
      have d2 : decide ((i : Int) < (highP kd : Int)) = false := by rw [decide_eq_false_iff_not]; omega
      simp only [vms, vmc, AOpd.val, Nat.reduceEqDiff, reduceCtorEq, Nat.reduceAdd, Nat.reduceBEq, f8, f9, d2]
      refine hq _ _ kv iv L K (by simp only [vms, vmc, AOpd.val, Nat.reduceEqDiff, reduceCtorEq, Nat.reduceAdd, Nat.reduceBEq, f8]) (by simp only [vms, vmc, AOpd.val, Nat.reduceEqDiff, reduceCtorEq, Nat.reduceAdd, Nat.reduceBEq, f9]) t hb256 (by omega) (by omega) fun N sN e1 e2 => ?_
      obtain ⟨g1, g2⟩ := src N sN e1 e2
      have := sN.right.same
      have h3 := sN.right.few
      rw [e1] at h3
      rw [List.take_of_length_le (by omega)] at g1 g2
      exact ⟨g1, g2⟩
    have d2 : decide ((i : Int) < (highP kd : Int)) = true := by rw [decide_eq_true_eq]; omega
    have e1 : IntKind.i64.wrap ((i : Int).tdiv 8) = ((i / 8 : Nat) : Int) := by
      have e : (i : Int).tdiv 8 = ((i / 8 : Nat) : Int) := by rw [Int.tdiv_eq_ediv_of_nonneg (by omega)]; omega
      rw [e]; exact wrap_i64 (by omega) (by omega)
    have e2 : IntKind.i64.wrap (4 + ((i / 8 : Nat) : Int)) = ((4 + i / 8 : Nat) : Int) := by rw [wrap_i64 (by omega) (by omega)]; omega
    have e3 : (i : Int).tmod 8 = ((i % 8 : Nat) : Int) := by rw [Int.tmod_eq_emod_of_nonneg (by omega)]; omega
    have e4 : IntKind.i64.wrap (8 * ((i % 8 : Nat) : Int)) = ((8 * (i % 8) : Nat) : Int) := by rw [wrap_i64 (by omega) (by omega)]; omega
    have e5 : IntKind.i64.wrap ((fst : Int) + (i : Int)) = ((fst + i : Nat) : Int) := by rw [wrap_i64 (by omega) (by omega)]; omega
    have w2 : IntKind.i64.wrap ((i : Int) + 1) = ((i + 1 : Nat) : Int) := by rw [wrap_i64 (by omega) (by omega)]; omega
    have hpl : ∀ b, plP kd i b = fst + i := fun b => by rcases hk with ⟨rfl, rfl⟩ | ⟨rfl, rfl⟩ <;> rfl
    have hin : 4 + i / 8 < w.length ∧ fst + i < w.length := by
      rw [hlen]
      rcases hk with ⟨rfl, rfl⟩ | ⟨rfl, rfl⟩ <;> simp [highP, sizeP] at h1h ⊢ <;> omega
    obtain ⟨x, hx⟩ : ∃ x, w[4 + i / 8]? = some x := ⟨_, List.getElem?_eq_getElem hin.1⟩
    obtain ⟨z, hz⟩ : ∃ z, w[fst + i]? = some z := ⟨_, List.getElem?_eq_getElem hin.2⟩
    obtain ⟨p, hp1, hp2⟩ := (sees_keep s hl t.quiet).word hx .i64
    have e6 := bin_shr_u64 (a := x) (n := 8 * (i % 8)) (by omega) .i64
    have e7 : IntKind.u8.wrap ((x / 2 ^ (8 * (i % 8)) : Nat) : Int) = ((x / 2 ^ (8 * (i % 8)) % 256 : Nat) : Int) := wrap_u8
    obtain ⟨bv, hbv⟩ : ∃ bv, bv = x / 2 ^ (8 * (i % 8)) % 256 := ⟨_, rfl⟩
    have hbv256 : bv < 256 := by rw [hbv]; exact Nat.mod_lt _ (by decide)
    rw [← hbv] at e7
    obtain ⟨kv', h2, ha, q2, nxt⟩ := t.push (by omega) (by omega) bv
    obtain ⟨iv', h3, hc, t3⟩ := nxt (IntKind.i64.wrap (z : Int))
    obtain ⟨p', hr1, hr2⟩ := (sees_keep s hl q2).word hz .i64
    simp only [vms, vmc, AOpd.val, Nat.reduceEqDiff, reduceCtorEq, Nat.reduceAdd, Nat.reduceBEq, f0, f1, f2, f8, f9, f10, f11, d2, bin_quo8, e1, e2, hp1, hp2, bin_rem8, e3, e4, e6, toInt_int, e7, fillB, ha, e5, hr1, hr2, fillI, hc, w2]
    refine ⟨many - (i + 1), by omega, i + 1, kv', iv', L ++ [bv], K ++ [IntKind.i64.wrap (z : Int)], rfl, by omega, by omega, t3, by simp [hL], by simp [hK], fun b hb => ?_, fun N sN ek em => ?_, by trivial, by trivial, by trivial, by trivial, by trivial, by trivial, by trivial⟩
    · rcases List.mem_append.1 hb with h5 | h5
      · exact hb256 b h5
      · rw [List.mem_singleton.1 h5]; exact hbv256
    · obtain ⟨g1, g2⟩ := src N sN ek em
      obtain ⟨b, hb⟩ : ∃ b, N.keys[i]? = some b := ⟨_, List.getElem?_eq_getElem (by omega)⟩
      obtain ⟨c, hc'⟩ : ∃ c, N.kids[i]? = some c := ⟨_, List.getElem?_eq_getElem (by have := sN.right.same; omega)⟩
      obtain ⟨j1, j2, j3⟩ := sN.kid hb hc'
      rw [ek, hpl, hz] at j1
      have ez : z = c.toNat := Option.some.inj j1
      have ey : IntKind.i64.wrap (z : Int) = c := by rw [ez, wrap_i64 (by omega) (by omega)]; omega
      have eb := sN.key12 (by rw [ek]; exact hkd) hb hx
      rw [ey, hbv, eb, g1, g2, List.take_add_one, List.take_add_one, hb, hc']
      exact ⟨rfl, rfl⟩
  rcases hk with ⟨rfl, rfl⟩ | ⟨rfl, rfl⟩
  · simp only [a77, c77, vms, vmc, AOpd.val, Nat.reduceEqDiff, reduceCtorEq, Nat.reduceAdd, Nat.reduceBEq, eqI (rfl : (1 : Int) = 1), neI (show ¬ (1 : Int) = 2 by decide)]
    refine body (by simp only [vms, vmc, AOpd.val, Nat.reduceEqDiff, reduceCtorEq, Nat.reduceAdd, Nat.reduceBEq]) (by simp only [vms, vmc, AOpd.val, Nat.reduceEqDiff, reduceCtorEq, Nat.reduceAdd, Nat.reduceBEq]) (by simp only [vms, vmc, AOpd.val, Nat.reduceEqDiff, reduceCtorEq, Nat.reduceAdd, Nat.reduceBEq]) (by simp only [vms, vmc, AOpd.val, Nat.reduceEqDiff, reduceCtorEq, Nat.reduceAdd, Nat.reduceBEq]) (by simp only [vms, vmc, AOpd.val, Nat.reduceEqDiff, reduceCtorEq, Nat.reduceAdd, Nat.reduceBEq]) (by simp only [vms, vmc, AOpd.val, Nat.reduceEqDiff, reduceCtorEq, Nat.reduceAdd, Nat.reduceBEq]; rfl) (by simp only [vms, vmc, AOpd.val, Nat.reduceEqDiff, reduceCtorEq, Nat.reduceAdd, Nat.reduceBEq]) ?_
    intro f' h' kv iv L K e8 e9 t hb hl1 hl2 hsrc
    simp only [vms, vmc, AOpd.val, Nat.reduceEqDiff, reduceCtorEq, Nat.reduceAdd, Nat.reduceBEq, e8, e9]
    exact ⟨kv, iv, L, K, rfl, t, hb, hl1, hl2, hsrc⟩
  · simp only [a77, c77, vms, vmc, AOpd.val, Nat.reduceEqDiff, reduceCtorEq, Nat.reduceAdd, Nat.reduceBEq, eqI (rfl : (2 : Int) = 2), neI (show ¬ (2 : Int) = 1 by decide)]
    refine body (by simp only [vms, vmc, AOpd.val, Nat.reduceEqDiff, reduceCtorEq, Nat.reduceAdd, Nat.reduceBEq]) (by simp only [vms, vmc, AOpd.val, Nat.reduceEqDiff, reduceCtorEq, Nat.reduceAdd, Nat.reduceBEq]) (by simp only [vms, vmc, AOpd.val, Nat.reduceEqDiff, reduceCtorEq, Nat.reduceAdd, Nat.reduceBEq]) (by simp only [vms, vmc, AOpd.val, Nat.reduceEqDiff, reduceCtorEq, Nat.reduceAdd, Nat.reduceBEq]) (by simp only [vms, vmc, AOpd.val, Nat.reduceEqDiff, reduceCtorEq, Nat.reduceAdd, Nat.reduceBEq]) (by simp only [vms, vmc, AOpd.val, Nat.reduceEqDiff, reduceCtorEq, Nat.reduceAdd, Nat.reduceBEq]; rfl) (by simp only [vms, vmc, AOpd.val, Nat.reduceEqDiff, reduceCtorEq, Nat.reduceAdd, Nat.reduceBEq]) ?_
    intro f' h' kv iv L K e8 e9 t hb hl1 hl2 hsrc
    simp only [vms, vmc, AOpd.val, Nat.reduceEqDiff, reduceCtorEq, Nat.reduceAdd, Nat.reduceBEq, e8, e9]
    exact ⟨kv, iv, L, K, rfl, t, hb, hl1, hl2, hsrc⟩
end Go.Proofs.Ytpabmkicdcilpaa
/- The reference's parts of the kinds 3 and 4. -/
namespace Go.Proofs.Ytpabmkicdcilpaa
open Go.Vm
set_option linter.unusedSimpArgs false
set_option linter.unusedVariables false
set_option maxRecDepth 100000
variable {T : Vm.Prog} {h : AH}
theorem parts3_ok (k : Fits T) (hl : Low h) {v : AV} {w : List Nat} (s : Sees h v (wcells w)) (hlen : w.length = sizeP 3) (hw : ∀ x ∈ w, x < 18446744073709551616) {many : Nat} :
    Gives T 77 [.int .i64 3, .int .i64 (many : Int), v] h (IsParts w 3 many h) := by
  refine gives_func (k.env _ (by decide)) (k.at (fn := a77) rfl) rfl ?_
  have hw88 : w.length = 88 := hlen
  simp only [a77, c77, vms, vmc, AOpd.val, Nat.reduceEqDiff, reduceCtorEq, Nat.reduceAdd, Nat.reduceBEq, neI (show ¬ (3 : Int) = 1 by decide), neI (show ¬ (3 : Int) = 2 by decide), eqI (rfl : (3 : Int) = 3)]
  refine wpc_loop (fun d f h' => ∃ b kv iv L K, d = 256 - b ∧ b ≤ 256 ∧ Two h h' kv iv L K ∧ L.length ≤ b ∧ K.length ≤ b ∧ (∀ x ∈ L, x < 256) ∧ Upto w 3 b L K ∧ f.at 2 = v ∧ f.at 8 = kv ∧ f.at 9 = iv ∧ f.at 12 = .int .i64 (b : Int)) ?_ 256 _ _
    ⟨0, .nilSlice, .nilSlice, [], [], by omega, by omega, two_nil hl, by simp, by simp, fun x hx => by simp at hx, fun N sN _ => by simp [below], ?_⟩
  · rintro d f h1 ⟨b, kv, iv, L, K, rfl, hb, t, hL, hK, hb256, up, f2, f8, f9, f12⟩
    by_cases hlt : b < 256
    · have d1 : decide ((b : Int) < 256) = true := by rw [decide_eq_true_eq]; omega
      have e1 : IntKind.i64.wrap ((b : Int).tdiv 8) = ((b / 8 : Nat) : Int) := by
        have e : (b : Int).tdiv 8 = ((b / 8 : Nat) : Int) := by rw [Int.tdiv_eq_ediv_of_nonneg (by omega)]; omega
        rw [e]; exact wrap_i64 (by omega) (by omega)
      have e2 : IntKind.i64.wrap (4 + ((b / 8 : Nat) : Int)) = ((4 + b / 8 : Nat) : Int) := by rw [wrap_i64 (by omega) (by omega)]; omega
      have e3 : (b : Int).tmod 8 = ((b % 8 : Nat) : Int) := by rw [Int.tmod_eq_emod_of_nonneg (by omega)]; omega
      have e4 : IntKind.i64.wrap (8 * ((b % 8 : Nat) : Int)) = ((8 * (b % 8) : Nat) : Int) := by rw [wrap_i64 (by omega) (by omega)]; omega
      have w2 : IntKind.i64.wrap ((b : Int) + 1) = ((b + 1 : Nat) : Int) := by rw [wrap_i64 (by omega) (by omega)]; omega
      obtain ⟨x, hx⟩ : ∃ x, w[4 + b / 8]? = some x := ⟨_, List.getElem?_eq_getElem (by omega)⟩
      have hxb := hw x (List.mem_of_getElem? hx)
      obtain ⟨p, hp1, hp2⟩ := (sees_keep s hl t.quiet).word hx .i64
      have e6 := bin_shr_u64 (a := x) (n := 8 * (b % 8)) (by omega) .i64
      have hsm : x / 2 ^ (8 * (b % 8)) < 18446744073709551616 := Nat.lt_of_le_of_lt (Nat.div_le_self _ _) hxb
      have e7 := and255 hsm
      have tab : ∀ N, Src w N → N.kind = 3 → x / 2 ^ (8 * (b % 8)) % 256 = tabAt N.keys b := fun N sN h3 => sN.tab h3 hlt hx
      generalize hbv : x / 2 ^ (8 * (b % 8)) % 256 = bv at *
      have hbv256 : bv < 256 := by rw [← hbv]; exact Nat.mod_lt _ (by decide)
      have e8 : IntKind.i64.wrap (bv : Int) = (bv : Int) := wrap_i64 (by omega) (by omega)
      have hno : (bv = 0 ∨ 48 < bv) → ∀ N, Src w N → N.kind = 3 → b ∉ N.keys := fun hh N sN h3 hm => by
        have ht := tab N sN h3
        have h1 := tabAt_le N.keys b
        have h2 := sN.right.few
        rw [h3] at h2
        have : highP 3 = 48 := rfl
        rw [tabAt, if_pos hm] at ht
        have := List.idxOf_lt_length_of_mem hm
        omega
      by_cases h0 : bv = 0
      · have d3 : decide ((bv : Int) > 0) = false := by rw [decide_eq_false_iff_not]; omega
        simp only [c77l1, vms, vmc, AOpd.val, Nat.reduceEqDiff, reduceCtorEq, Nat.reduceAdd, Nat.reduceBEq, f2, f8, f9, f12, d1, bin_quo8, e1, e2, hp1, hp2, bin_rem8, e3, e4, e6, e7, toInt_int, e8, d3, w2]
        exact ⟨256 - (b + 1), by omega, b + 1, kv, iv, L, K, rfl, by omega, t, by omega, by omega, hb256, up.skip (hno (.inl h0)), by trivial, by trivial, by trivial, by trivial⟩
      have d3 : decide ((bv : Int) > 0) = true := by rw [decide_eq_true_eq]; omega
      by_cases h48 : bv ≤ 48
      · have d4 : decide ((bv : Int) ≤ 48) = true := by rw [decide_eq_true_eq]; omega
        have e9 : IntKind.i64.wrap (35 + (bv : Int)) = ((35 + bv : Nat) : Int) := by rw [wrap_i64 (by omega) (by omega)]; omega
        have e10 : IntKind.u8.wrap (b : Int) = (b : Int) := by rw [wrap_u8, Nat.mod_eq_of_lt hlt]
        obtain ⟨z, hz⟩ : ∃ z, w[35 + bv]? = some z := ⟨_, List.getElem?_eq_getElem (by omega)⟩
        obtain ⟨kv', h2, ha, q2, nxt⟩ := t.push (by omega) (by omega) b
        obtain ⟨iv', h3, hc, t3⟩ := nxt (IntKind.i64.wrap (z : Int))
        obtain ⟨p', hr1, hr2⟩ := (sees_keep s hl q2).word hz .i64
        simp only [c77l1, vms, vmc, AOpd.val, Nat.reduceEqDiff, reduceCtorEq, Nat.reduceAdd, Nat.reduceBEq, f2, f8, f9, f12, d1, bin_quo8, e1, e2, hp1, hp2, bin_rem8, e3, e4, e6, e7, toInt_int, e8, d3, d4, e10, fillB, ha, e9, hr1, hr2, fillI, hc, w2]
        refine ⟨256 - (b + 1), by omega, b + 1, kv', iv', _, _, rfl, by omega, t3, by simp; omega, by simp; omega, fun y hy => ?_, up.put fun N sN h3 => ?_, by trivial, by trivial, by trivial, by trivial⟩
        · rcases List.mem_append.1 hy with h5 | h5
          · exact hb256 y h5
          · rw [List.mem_singleton.1 h5]; exact hlt
        · have ht := tab N sN h3
          have hm : b ∈ N.keys := by
            refine Classical.byContradiction fun hn => ?_
            rw [tabAt, if_neg hn] at ht; exact h0 ht
          rw [tabAt, if_pos hm] at ht
          have hlt' := List.idxOf_lt_length_of_mem hm
          refine ⟨N.keys.idxOf b, by rw [List.getElem?_eq_getElem hlt', List.getElem_idxOf hlt'], ?_⟩
          show w[36 + N.keys.idxOf b]? = some z
          rw [← hz]; congr 1; omega
      · have d4 : decide ((bv : Int) ≤ 48) = false := by rw [decide_eq_false_iff_not]; omega
        simp only [c77l1, vms, vmc, AOpd.val, Nat.reduceEqDiff, reduceCtorEq, Nat.reduceAdd, Nat.reduceBEq, f2, f8, f9, f12, d1, bin_quo8, e1, e2, hp1, hp2, bin_rem8, e3, e4, e6, e7, toInt_int, e8, d3, d4, w2]
        exact ⟨256 - (b + 1), by omega, b + 1, kv, iv, L, K, rfl, by omega, t, by omega, by omega, hb256, up.skip (hno (.inr (by omega))), by trivial, by trivial, by trivial, by trivial⟩
    · have d1 : decide ((b : Int) < 256) = false := by rw [decide_eq_false_iff_not]; omega
      have hb' : b = 256 := by omega
      subst hb'
      simp only [c77l1, vms, vmc, AOpd.val, Nat.reduceEqDiff, reduceCtorEq, Nat.reduceAdd, Nat.reduceBEq, f2, f8, f9, f12, d1]
      exact ⟨kv, iv, L, K, rfl, t, hb256, hL, hK, fun N sN h3 _ => up.all N sN h3⟩
  · simp only [vms, vmc, AOpd.val, Nat.reduceEqDiff, reduceCtorEq, Nat.reduceAdd, Nat.reduceBEq]
    simp
theorem parts4_ok (k : Fits T) (hl : Low h) {v : AV} {w : List Nat} (s : Sees h v (wcells w)) (hlen : w.length = sizeP 4) {many : Nat} :
    Gives T 77 [.int .i64 4, .int .i64 (many : Int), v] h (IsParts w 4 many h) := by
  refine gives_func (k.env _ (by decide)) (k.at (fn := a77) rfl) rfl ?_
  have hw264 : w.length = 264 := hlen
  simp only [a77, c77, vms, vmc, AOpd.val, Nat.reduceEqDiff, reduceCtorEq, Nat.reduceAdd, Nat.reduceBEq, neI (show ¬ (4 : Int) = 1 by decide), neI (show ¬ (4 : Int) = 2 by decide), neI (show ¬ (4 : Int) = 3 by decide), eqI (rfl : (4 : Int) = 4)]
  refine wpc_loop (fun d f h' => ∃ b kv iv L K, d = 256 - b ∧ b ≤ 256 ∧ Two h h' kv iv L K ∧ L.length ≤ b ∧ K.length ≤ b ∧ (∀ x ∈ L, x < 256) ∧ Upto w 4 b L K ∧ f.at 2 = v ∧ f.at 8 = kv ∧ f.at 9 = iv ∧ f.at 14 = .int .i64 (b : Int)) ?_ 256 _ _
    ⟨0, .nilSlice, .nilSlice, [], [], by omega, by omega, two_nil hl, by simp, by simp, fun x hx => by simp at hx, fun N sN _ => by simp [below], ?_⟩
  · rintro d f h1 ⟨b, kv, iv, L, K, rfl, hb, t, hL, hK, hb256, up, f2, f8, f9, f14⟩
    by_cases hlt : b < 256
    · have d1 : decide ((b : Int) < 256) = true := by rw [decide_eq_true_eq]; omega
      have e2 : IntKind.i64.wrap (4 + (b : Int)) = ((4 + b : Nat) : Int) := by rw [wrap_i64 (by omega) (by omega)]; omega
      have w2 : IntKind.i64.wrap ((b : Int) + 1) = ((b + 1 : Nat) : Int) := by rw [wrap_i64 (by omega) (by omega)]; omega
      obtain ⟨x, hx⟩ : ∃ x, w[4 + b]? = some x := ⟨_, List.getElem?_eq_getElem (by omega)⟩
      obtain ⟨p, hp1, hp2⟩ := (sees_keep s hl t.quiet).word hx .i64
      have dir : ∀ N, Src w N → N.kind = 4 → (x ≠ 0 ↔ b ∈ N.keys) := fun N sN h4 => by
        obtain ⟨y, hy, h5⟩ := sN.direct h4 hlt
        rw [hx] at hy; cases hy; exact h5
      by_cases h0 : x = 0
      · have d2 : ((x : Int) != 0) = false := by simp [h0]
        simp only [c77l2, vms, vmc, AOpd.val, Nat.reduceEqDiff, reduceCtorEq, Nat.reduceAdd, Nat.reduceBEq, f2, f8, f9, f14, d1, e2, hp1, hp2, d2, w2]
        exact ⟨256 - (b + 1), by omega, b + 1, kv, iv, L, K, rfl, by omega, t, by omega, by omega, hb256, up.skip fun N sN h4 hm => (dir N sN h4).2 hm h0, by trivial, by trivial, by trivial, by trivial⟩
      · have d2 : ((x : Int) != 0) = true := by simp; omega
        have e10 : IntKind.u8.wrap (b : Int) = (b : Int) := by rw [wrap_u8, Nat.mod_eq_of_lt hlt]
        obtain ⟨kv', h2, ha, q2, nxt⟩ := t.push (by omega) (by omega) b
        obtain ⟨iv', h3, hc, t3⟩ := nxt (IntKind.i64.wrap (x : Int))
        obtain ⟨p', hr1, hr2⟩ := (sees_keep s hl q2).word hx .i64
        obtain rfl : p = p' := Option.some.inj (hp1.symm.trans hr1)
        simp only [c77l2, vms, vmc, AOpd.val, Nat.reduceEqDiff, reduceCtorEq, Nat.reduceAdd, Nat.reduceBEq, f2, f8, f9, f14, d1, e2, hp1, hp2, d2, toInt_int, e10, fillB, ha, hr1, hr2, fillI, hc, w2]
        refine ⟨256 - (b + 1), by omega, b + 1, kv', iv', _, _, rfl, by omega, t3, by simp; omega, by simp; omega, fun y hy => ?_, up.put fun N sN h4 => ?_, by trivial, by trivial, by trivial, by trivial⟩
        · rcases List.mem_append.1 hy with h5 | h5
          · exact hb256 y h5
          · rw [List.mem_singleton.1 h5]; exact hlt
        · obtain ⟨i, hi⟩ := List.getElem?_of_mem ((dir N sN h4).1 h0)
          exact ⟨i, hi, hx⟩
    · have d1 : decide ((b : Int) < 256) = false := by rw [decide_eq_false_iff_not]; omega
      have hb' : b = 256 := by omega
      subst hb'
      simp only [c77l2, vms, vmc, AOpd.val, Nat.reduceEqDiff, reduceCtorEq, Nat.reduceAdd, Nat.reduceBEq, f2, f8, f9, f14, d1]
      exact ⟨kv, iv, L, K, rfl, t, hb256, hL, hK, fun N sN h4 _ => up.all N sN h4⟩
  · simp only [vms, vmc, AOpd.val, Nat.reduceEqDiff, reduceCtorEq, Nat.reduceAdd, Nat.reduceBEq]
    simp
theorem refParts_ok (k : Fits T) (hl : Low h) {v : AV} {w : List Nat} (s : Sees h v (wcells w)) {kd : Int} (hk : kd = 1 ∨ kd = 2 ∨ kd = 3 ∨ kd = 4) (hlen : w.length = sizeP kd) (hw : ∀ x ∈ w, x < 18446744073709551616) {many : Nat} (hmany : many < 100000) :
    Gives T 77 [.int .i64 kd, .int .i64 (many : Int), v] h (IsParts w kd many h) := by
  rcases hk with rfl | rfl | rfl | rfl
  · exact parts12_ok k hl s (.inl ⟨rfl, rfl⟩) hlen hw hmany
  · exact parts12_ok k hl s (.inr ⟨rfl, rfl⟩) hlen hw hmany
  · exact parts3_ok k hl s hlen hw
  · exact parts4_ok k hl s hlen
end Go.Proofs.Ytpabmkicdcilpaa
/- The reference's Decode. -/
namespace Go.Proofs.Ytpabmkicdcilpaa
open Go.Vm
set_option linter.unusedSimpArgs false
set_option linter.unusedVariables false
set_option maxRecDepth 100000
variable {T : Vm.Prog} {h : AH}
def c51r : ACode := c7Tail 9 c51
theorem c51_eq : c51 = c7Put 9 c51 c51r := rfl
set_option maxHeartbeats 1600000 in
theorem refDec_end (k : Fits T) (hl : Low h) {h1 : AH} {v kv iv : AV} {w L : List Nat} {K : List Int} {kd : Int} {wd p : Nat} {pre : List UInt8} (s : Sees h v (wcells w)) (hlen : w.length = sizeP kd) (hk : kd = 1 ∨ kd = 2 ∨ kd = 3 ∨ kd = 4) (hL : L.length ≤ 256) (hK : K.length ≤ 256) (hL256 : ∀ b ∈ L, b < 256)
    (hwd : wd < 18446744073709551616) (hpre : pre.length < 1000000) (q : Quiet h h1) (lo : Low h1) (hz : h1.get h.next = some (.cells zl true)) (hp : h.next < p) (hg : h1.get p = some (.cells [.int .i64 kd, .int .u64 (wd : Int), .str pre, kv, iv] true)) (sk : Sees h1 kv (kcells L)) (si : Sees h1 iv (icells K)) (hko : h.next ∉ objs kv) (hio : h.next ∉ objs iv)
    (src : ∀ N, Src w N → N.kind = kd ∧ N.word = wd ∧ N.pre = pre ∧ N.keys = L ∧ N.kids = K) {f : Fr} (f0 : f.at 0 = v) (f2 : f.at 2 = .ptr h.next 0) (f4 : f.at 4 = .ptr p 0) :
    Wp (code T c51r f h1) (Vm.Ends [.cell 2 true 5, .tmp 3] (IsDec w h)) := by
  have bz : fillV [AV.int .i64 0, .int .u64 0, .str [], .nilSlice, .nilSlice] [] = some [AV.int .i64 0, .int .u64 0, .str [], .nilSlice, .nilSlice] := rfl
  have nv : NodeV h1 (.agg [.int .i64 kd, .int .u64 (wd : Int), .str pre, kv, iv]) ⟨kd, wd, pre, L, K⟩ := ⟨kv, iv, rfl, sk, si⟩
  have ok : NodeP.Ok ⟨kd, wd, pre, L, K⟩ := ⟨hwd, show L.length < 1000000 by omega, show K.length < 1000000 by omega, show pre.length < 9223372036854775808 by omega⟩
  have all : ∀ N, Src w N → N = ⟨kd, wd, pre, L, K⟩ := fun N sN => by
    obtain ⟨e1, e2, e3, e4, e5⟩ := src N sN
    cases N
    simp only at e1 e2 e3 e4 e5
    subst e1 e2 e3 e4 e5
    rfl
  simp only [c51r, c7Tail, c51, vms, vmc, AOpd.val, Nat.reduceEqDiff, reduceCtorEq, Nat.reduceAdd, Nat.reduceBEq, f4, load_all hg (n := 5) rfl]
  refine Gives.bind ((encode38_ok k lo (n := ⟨kd, wd, pre, L, K⟩) ok nv hL256).mono ?_)
  rintro ev h3 ⟨q3, lo3, rowE, _⟩
  have s3 := sees_keep s hl (q.trans q3)
  have q03 := q.trans q3
  have hz3 := q3.get hz (lo _ _ hz)
  have hg3 := q3.get hg (lo _ _ hg)
  have sE := rowE.sees
  have lne := sees_words sE
  have lnw := sees_words s3
  have stz : storeV h3 5 (.ptr h.next 0) (.agg [.int .i64 0, .int .u64 0, .str [], .nilSlice, .nilSlice]) = some (h3.set h.next (.cells zl true)) := store_all (n := 5) (l' := zl) hz3 rfl rfl rfl
  have ldz : loadV (h3.set h.next (.cells zl true)) true 5 (.ptr h.next 0) = some (.agg zl) := load_all get_set_same (n := 5) rfl
  have refuse : encW ⟨kd, wd, pre, L, K⟩ ≠ w → IsDec w h (.tuple [.agg zl, .bool false]) (h3.set h.next (.cells zl true)) := fun he => by
    refine ⟨q03.set (Nat.le_refl _) _, lo3.set (lo3 _ _ hz3) _, .inr ⟨rfl, fun N sN => he ?_⟩⟩
    have e := all N sN
    rw [← e]
    unfold encW
    rw [rightP_iff.2 sN.right]
    exact sN.enc
  have hel := encW_len ⟨kd, wd, pre, L, K⟩
  simp only [vms, vmc, AOpd.val, Nat.reduceEqDiff, reduceCtorEq, Nat.reduceAdd, Nat.reduceBEq, f0, f2, f4, lne, lnw]
  by_cases hll : (encW ⟨kd, wd, pre, L, K⟩).length = w.length
  case neg =>
    have d1 : (((encW ⟨kd, wd, pre, L, K⟩).length : Int) != (w.length : Int)) = true := by simp; omega
    simp only [vms, vmc, AOpd.val, Nat.reduceEqDiff, reduceCtorEq, Nat.reduceAdd, Nat.reduceBEq, d1, bz, f2, stz, res_cell, ldz]
    exact refuse fun e => hll (by rw [e])
  have d1 : (((encW ⟨kd, wd, pre, L, K⟩).length : Int) != (w.length : Int)) = false := by rw [hll]; simp
  have hw264 : w.length ≤ 264 := by rw [hlen]; rcases hk with rfl | rfl | rfl | rfl <;> decide
  simp only [vms, vmc, AOpd.val, Nat.reduceEqDiff, reduceCtorEq, Nat.reduceAdd, Nat.reduceBEq, d1, lne]
  generalize hE : encW ⟨kd, wd, pre, L, K⟩ = E at *
  refine wpc_loop (fun d f h' => ∃ i, d = E.length - i ∧ i ≤ E.length ∧ h' = h3 ∧ (∀ j, j < i → E[j]? = w[j]?) ∧ f.at 0 = v ∧ f.at 2 = .ptr h.next 0 ∧ f.at 4 = .ptr p 0 ∧ f.at 8 = ev ∧ f.at 82 = .int .i64 (E.length : Int) ∧ f.at 83 = .int .i64 (i : Int)) ?_ E.length _ _ ⟨0, by omega, by omega, rfl, fun j hj => by omega, ?_⟩
  · rintro d f h4 ⟨i, rfl, hi, rfl, hsame, f0, f2, f4, f8, f82, f83⟩
    by_cases hlt : i < E.length
    · have d2 : decide ((i : Int) < (E.length : Int)) = true := by rw [decide_eq_true_eq]; omega
      have w2 : IntKind.i64.wrap ((i : Int) + 1) = ((i + 1 : Nat) : Int) := by rw [wrap_i64 (by omega) (by omega)]; omega
      obtain ⟨x, hx⟩ : ∃ x, E[i]? = some x := ⟨_, List.getElem?_eq_getElem hlt⟩
      obtain ⟨y, hy⟩ : ∃ y, w[i]? = some y := ⟨_, List.getElem?_eq_getElem (by omega)⟩
      obtain ⟨a1, g1, g2⟩ := sE.word hx .i64
      obtain ⟨a2, g3, g4⟩ := s3.word hy .i64
      by_cases hxy : x = y
      · have d3 : ((x : Int) != (y : Int)) = false := by simp [hxy]
        simp only [c51l0, vms, vmc, AOpd.val, Nat.reduceEqDiff, reduceCtorEq, Nat.reduceAdd, Nat.reduceBEq, f0, f2, f4, f8, f82, f83, d2, g1, g2, g3, g4, d3, w2]
        refine ⟨E.length - (i + 1), by omega, i + 1, rfl, by omega, by trivial, fun j hj => ?_, by trivial, by trivial, by trivial, by trivial, by trivial, by trivial⟩
        by_cases e : j = i
        · subst e; rw [hx, hy, hxy]
        · exact hsame j (by omega)
      · have d3 : ((x : Int) != (y : Int)) = true := by simp; omega
        simp only [c51l0, vms, vmc, AOpd.val, Nat.reduceEqDiff, reduceCtorEq, Nat.reduceAdd, Nat.reduceBEq, f0, f2, f4, f8, f82, f83, d2, g1, g2, g3, g4, d3, bz, stz, res_cell, ldz]
        exact refuse fun e => hxy (by rw [e, hy] at hx; exact (Option.some.inj hx).symm)
    · have d2 : decide ((i : Int) < (E.length : Int)) = false := by rw [decide_eq_false_iff_not]; omega
      have he : E = w := by
        apply List.ext_getElem?
        intro j
        by_cases hj : j < E.length
        · exact hsame j (by omega)
        · rw [List.getElem?_eq_none (by omega), List.getElem?_eq_none (by omega)]
      have ck := sees_cell sk
      have ci := sees_cell si
      have hr : RightP ⟨kd, wd, pre, L, K⟩ := by
        refine Classical.byContradiction fun hn => ?_
        have h6 : encW ⟨kd, wd, pre, L, K⟩ = [] := by unfold encW; rw [rightP_no hn]; rfl
        rw [hE, he] at h6
        have h5 := hlen
        rw [h6] at h5
        rcases hk with rfl | rfl | rfl | rfl <;> simp [sizeP] at h5
      have hS : Src w ⟨kd, wd, pre, L, K⟩ := ⟨hr, ok, hL256, by
        have : encW ⟨kd, wd, pre, L, K⟩ = encP ⟨kd, wd, pre, L, K⟩ := by unfold encW; rw [rightP_iff.2 hr]; rfl
        rw [← this, hE]; exact he⟩
      have st : storeV h4 5 (.ptr h.next 0) (.agg [.int .i64 kd, .int .u64 (wd : Int), .str pre, kv, iv]) = some (h4.set h.next (.cells [.int .i64 kd, .int .u64 (wd : Int), .str pre, kv, iv] true)) := store_all (n := 5) (l' := [.int .i64 kd, .int .u64 (wd : Int), .str pre, kv, iv]) hz3 rfl rfl (by simp only [List.all_cons, List.all_nil, ck.2, ci.2]; rfl)
      have ld : loadV (h4.set h.next (.cells [.int .i64 kd, .int .u64 (wd : Int), .str pre, kv, iv] true)) true 5 (.ptr h.next 0) = some (.agg [.int .i64 kd, .int .u64 (wd : Int), .str pre, kv, iv]) := load_all get_set_same (n := 5) rfl
      simp only [c51l0, vms, vmc, AOpd.val, Nat.reduceEqDiff, reduceCtorEq, Nat.reduceAdd, Nat.reduceBEq, f0, f2, f4, f8, f82, f83, d2, load_all hg3 (n := 5) rfl, st, res_cell, ld]
      exact ⟨q03.set (Nat.le_refl _) _, lo3.set (lo3 _ _ hz3) _, .inl ⟨_, _, rfl, ⟨kv, iv, rfl, sees_set (sees_keep sk lo q3) hko _, sees_set (sees_keep si lo q3) hio _⟩, hS, all⟩⟩
  · simp only [vms, vmc, AOpd.val, Nat.reduceEqDiff, reduceCtorEq, Nat.reduceAdd, Nat.reduceBEq, f0, f2, f4, lne]
    simp
end Go.Proofs.Ytpabmkicdcilpaa

/- The law NodeFull. -/
import Derived.Test.YtpabmkicdcilpaaP7K
namespace Go.Proofs.Ytpabmkicdcilpaa
open Go.Vm
set_option linter.unusedSimpArgs false
set_option linter.unusedVariables false
set_option maxRecDepth 100000
variable {T : Vm.Prog} {h : AH}
def zcells : List AV := [.int .i64 0, .int .u64 0, .str [], .nilSlice, .nilSlice]
theorem zbeq : AV.beqs [.int .i64 0, .int .u64 0, .str [], .nilSlice, .nilSlice] [.int .i64 0, .int .u64 0, .str [], .nilSlice, .nilSlice] = true := by simp [AV.beqs, AV.beq]
theorem Held.beq {p : Nat} {kv iv : AV} {n : NodeP} (s : Held h p kv iv n) : AV.beq (.agg (n.cells kv iv)) (.agg (n.cells kv iv)) = true := by
  simp [AV.beq, AV.beqs, NodeP.cells, sees_beq s.sk, sees_beq s.si]
/-- A new node is kept where there is an empty one. -/
theorem keepAt {N q : Nat} {v : AV} {n : NodeP} (hl : Low h) (hq : q < N) (hz : h.get q = some (.cells [.int .i64 0, .int .u64 0, .str [], .nilSlice, .nilSlice] true)) (s : NodeN N h v n) : ∃ kv iv h', v = .agg (n.cells kv iv) ∧ storeV h 5 (.ptr q 0) v = some h' ∧
    Held h' q kv iv n ∧ (∀ p, p ≠ q → h'.get p = h.get p) ∧ h'.next = h.next ∧ Low h' ∧ (∀ o ∈ objs kv, N ≤ o) ∧ ∀ o ∈ objs iv, N ≤ o := by
  obtain ⟨kv, iv, rfl, r1, r2, f1, f2⟩ := s
  have st : storeV h 5 (.ptr q 0) (.agg (n.cells kv iv)) = some (h.set q (.cells (n.cells kv iv) true)) :=
    store_all hz rfl rfl (by simp only [NodeP.cells, List.all_cons, List.all_nil, (RowS.cell r1).2.1, (RowS.cell r2).2.1]; rfl)
  refine ⟨kv, iv, _, rfl, st, ⟨get_set_same, sees_get r1.sees fun o ho => ?_, sees_get r2.sees fun o ho => ?_, row_cap r1, row_cap r2⟩, fun p hp => by rw [AH.get_set, if_neg (Ne.symm hp)], rfl, hl.set (hl _ _ hz) _, f1, fun o ho => (f2 o ho).1⟩
  · have := f1 o ho; rw [AH.get_set, if_neg (by omega)]
  · have := (f2 o ho).1; rw [AH.get_set, if_neg (by omega)]
theorem Held.move {h' : AH} {p q : Nat} {kv iv : AV} {n : NodeP} (s : Held h p kv iv n) (hk : ∀ o, o ≠ q → h'.get o = h.get o) (hp : p ≠ q) (h1 : q ∉ objs kv) (h2 : q ∉ objs iv) : Held h' p kv iv n :=
  ⟨(hk p hp).trans s.get, sees_get s.sk fun o ho => hk o (fun e => h1 (e ▸ ho)), sees_get s.si fun o ho => hk o (fun e => h2 (e ▸ ho)), s.ck, s.ci⟩
/-- What the loop has made. -/
structure Filled (n : NodeP) (c : Int) (i : Nat) : Prop where
  kind : n.kind = c
  word : n.word = 0
  right : RightP n
  len : n.keys.length = i
  below : ∀ (j a : Nat), n.keys[j]? = some a → a < 4 * i
theorem Filled.with {n m : NodeP} {c kid : Int} {i : Nat} (f : Filled n c i) (w : WithIs n (4 * i) kid (some m)) : Filled m c (i + 1) := by
  obtain ⟨rm, hat, ek, ew, ep⟩ := with_right w
  refine ⟨ek.trans f.kind, ew.trans f.word, rm, ?_, fun j a ha => ?_⟩
  · obtain ⟨_, _, ⟨j, h1, rfl⟩ | ⟨_, j, hj, _, _, rfl⟩⟩ := w
    · have := f.below j _ h1; omega
    · have := f.len; simp; omega
  · obtain ⟨x, hx⟩ := rm.at_of ha
    rcases (hat a x).1 hx with ⟨h1, _⟩ | ⟨_, j', h1, _⟩
    · omega
    · have := f.below j' a h1; omega
theorem high_cases {c : Int} (h1 : 1 ≤ c) (h3 : c ≤ 3) : highP c ≤ 48 ∧ highP c < highP (c + 1) ∧ (highP (c - 1) < highP c) := by
  have : c = 1 ∨ c = 2 ∨ c = 3 := by omega
  rcases this with rfl | rfl | rfl <;> decide
theorem bin_mul4 {i : Nat} (hi : i < 48) : IntKind.u8.wrap (IntKind.i64.wrap (4 * (i : Int))) = ((4 * i : Nat) : Int) := by
  rw [wrap_i64 (by omega) (by omega)]
  unfold IntKind.wrap; simp [IntKind.bits, IntKind.signed]; omega
/-- One more child, where there is room. -/
theorem full_step (k : Fits T) (hl : Low h) {f : Fr} {p6 : Nat} {kv iv : AV} {n : NodeP} {c : Int} {i : Nat} (hc1 : 1 ≤ c) (hc3 : c ≤ 3) (fi : Filled n c i) (hi : i < highP c) (he : Held h p6 kv iv n) (f5 : f.at 5 = .int .i64 c) (f6 : f.at 6 = .ptr p6 0) (f7 : f.at 7 = .int .i64 (i : Int)) (hk : p6 ∉ objs kv) (hv : p6 ∉ objs iv) {Q : AExit → Fr → AH → Prop}
    (hq : ∀ f' g kv' iv' m, Filled m c (i + 1) → Held g p6 kv' iv' m → Low g → p6 ∉ objs kv' → p6 ∉ objs iv' → (f'.at 1 = f.at 1) → f'.at 5 = .int .i64 c → f'.at 6 = .ptr p6 0 → f'.at 7 = .int .i64 ((i + 1 : Nat) : Int) → Q .normal f' g) :
    Wp (code T c9l0 f h) Q := by
  obtain ⟨hh, _⟩ := high_cases hc1 hc3
  have ok := fi.right.ok (by rw [fi.word]; decide)
  have d1 : decide ((i : Int) < (highP c : Nat)) = true := by rw [decide_eq_true_eq]; omega
  have d2 : decide ((i : Int) < 60) = true := by rw [decide_eq_true_eq]; omega
  have w1 : IntKind.i64.wrap ((i : Int) + 1) = ((i + 1 : Nat) : Int) := by rw [wrap_i64 (by omega) (by omega)]; omega
  simp only [c9l0, vms, vmc, AOpd.val, Nat.reduceEqDiff, reduceCtorEq, Nat.reduceAdd, Nat.reduceBEq, f5, f6, f7]
  refine Gives.bind ((high_ok k).mono ?_)
  rintro _ _ ⟨rfl, rfl⟩
  rename_i h
  have q1 : Quiet h (h.new (.cells [.int .i64 0, .int .u64 0, .str [], .nilSlice, .nilSlice] true)) := (Quiet.refl _).new _
  have lo1 : Low (h.new (.cells [.int .i64 0, .int .u64 0, .str [], .nilSlice, .nilSlice] true)) := hl.new _
  have gz : (h.new (.cells [.int .i64 0, .int .u64 0, .str [], .nilSlice, .nilSlice] true)).get h.next = some (.cells [.int .i64 0, .int .u64 0, .str [], .nilSlice, .nilSlice] true) := get_new_same
  have he1 := he.keep hl q1
  have nx1 : (h.new (.cells [.int .i64 0, .int .u64 0, .str [], .nilSlice, .nilSlice] true)).next = h.next + 1 := rfl
  have hp6 : p6 < h.next := hl _ _ he.get
  simp only [vms, vmc, AOpd.val, Nat.reduceEqDiff, reduceCtorEq, Nat.reduceAdd, Nat.reduceBEq, d1, d2, f5, f6, f7, he.load, bin_mul4 (show i < 48 by omega)]
  generalize (h.new (.cells [.int .i64 0, .int .u64 0, .str [], .nilSlice, .nilSlice] true)) = h1 at *
  have lkn : ∀ {g : AH} {f : Fr} {t d : Nat}, Held g p6 kv iv n → f.at t = .ptr p6 0 → f.at d = .agg (n.cells kv iv) → AOper.lookAgain ⟨some d, .load true 5 (.tmp t), none⟩ f g = true := fun hg ht hd => look_load (v := .agg _) (by show loadV _ _ _ (Fr.at _ _) = _; rw [ht]; exact hg.load) hd hg.beq
  rw [items_look (lkn he1 (by simp only [vms, vmc, AOpd.val, Nat.reduceEqDiff, reduceCtorEq, Nat.reduceAdd, Nat.reduceBEq, f6]) (by simp only [vms, vmc, AOpd.val, Nat.reduceEqDiff, reduceCtorEq, Nat.reduceAdd, Nat.reduceBEq])), items_look (look_new (q := h.next) (by simp only [vms, vmc, AOpd.val, Nat.reduceEqDiff, reduceCtorEq, Nat.reduceAdd, Nat.reduceBEq]) gz zbeq)]
  have hv1 : Valid i 1 := ⟨by omega, by omega, by omega⟩
  simp only [vms, vmc, AOpd.val, Nat.reduceEqDiff, reduceCtorEq, Nat.reduceAdd, Nat.reduceBEq]
  refine Gives.bind ((ref_ok k (g := 1) (l := false) hv1).mono ?_)
  rintro _ _ ⟨rfl, rfl⟩
  rename_i h1
  simp only [vms, vmc, AOpd.val, Nat.reduceEqDiff, reduceCtorEq, Nat.reduceAdd, Nat.reduceBEq]
  rw [items_look (lkn he1 (by simp only [vms, vmc, AOpd.val, Nat.reduceEqDiff, reduceCtorEq, Nat.reduceAdd, Nat.reduceBEq, f6]) (by simp only [vms, vmc, AOpd.val, Nat.reduceEqDiff, reduceCtorEq, Nat.reduceAdd, Nat.reduceBEq])), items_look (look_new (q := h.next) (by simp only [vms, vmc, AOpd.val, Nat.reduceEqDiff, reduceCtorEq, Nat.reduceAdd, Nat.reduceBEq]) gz zbeq)]
  simp only [vms, vmc, AOpd.val, Nat.reduceEqDiff, reduceCtorEq, Nat.reduceAdd, Nat.reduceBEq]
  refine Gives.bind ((with_ok k lo1 ok he1.v (b := 4 * i) (kid := ((refN i 1 false : Nat) : Int))).mono ?_)
  rintro r h2 ⟨q2, lo2, hw⟩
  have gz2 := q2.get gz (lo1 _ _ gz)
  have he2 := he1.keep lo1 q2
  rcases hw with ⟨hW, rfl⟩ | ⟨m, mv, hW, hM, rfl⟩
  · exfalso
    rcases hW with h1 | h1 | ⟨_, h1⟩
    · exact h1 fi.right
    · rw [isRefP_ref hv1] at h1; cases h1
    · rw [fi.kind, fi.len] at h1; omega
  · obtain ⟨mk, mi, h3, rfl, st3, hm3, hoth, nx3, lo3, o1, o2⟩ := keepAt lo2 (show h.next < h1.next by omega) gz2 hM
    have fm := fi.with hW
    have he3 := he2.move hoth (by omega) (fun hm => by have := sees_low he.sk hl _ hm; omega) (fun hm => by have := sees_low he.si hl _ hm; omega)
    have st6 : storeV h3 5 (.ptr p6 0) (.agg (m.cells mk mi)) = some (h3.set p6 (.cells (m.cells mk mi) true)) := store_all he3.get rfl rfl (by
      have e1 := (sees_cell hm3.sk).2
      have e2 := (sees_cell hm3.si).2
      simp only [NodeP.cells, List.all_cons, List.all_nil, e1, e2]; rfl)
    have hk' : p6 ∉ objs mk := fun hm => by have := o1 _ hm; omega
    have hv' : p6 ∉ objs mi := fun hm => by have := o2 _ hm; omega
    have hF : Held (h3.set p6 (.cells (m.cells mk mi) true)) p6 mk mi m := ⟨get_set_same, sees_get hm3.sk fun o ho => by rw [AH.get_set, if_neg (fun e : p6 = o => hk' (by rw [e]; exact ho))], sees_get hm3.si fun o ho => by rw [AH.get_set, if_neg (fun e : p6 = o => hv' (by rw [e]; exact ho))], hm3.ck, hm3.ci⟩
    simp only [vms, vmc, AOpd.val, Nat.reduceEqDiff, reduceCtorEq, Nat.reduceAdd, Nat.reduceBEq]
    rw [items_look (look_new (q := h.next) (by simp only [vms, vmc, AOpd.val, Nat.reduceEqDiff, reduceCtorEq, Nat.reduceAdd, Nat.reduceBEq]) gz2 zbeq)]
    simp only [vms, vmc, AOpd.val, Nat.reduceEqDiff, reduceCtorEq, Nat.reduceAdd, Nat.reduceBEq, st3, Bool.not_true, hm3.load, f5, f6, f7, st6, w1]
    refine hq _ _ mk mi m fm hF (lo3.set (lo3 _ _ he3.get) _) hk' hv' ?_ ?_ ?_ ?_
    all_goals simp only [vms, vmc, AOpd.val, Nat.reduceEqDiff, reduceCtorEq, Nat.reduceAdd, Nat.reduceBEq, f5, f6]
def c9a : ACode := match c9 with
  | .seq a _ => a
  | c => c
def c9b : ACode := match c9 with
  | .seq _ (.seq a _) => a
  | c => c
def c9c : ACode := match c9 with
  | .seq _ (.seq _ (.seq a _)) => a
  | c => c
def c9d : ACode := match c9 with
  | .seq _ (.seq _ (.seq _ (.seq a _))) => a
  | c => c
def c9r : ACode := match c9 with
  | .seq _ (.seq _ (.seq _ (.seq _ r))) => r
  | c => c
theorem c9_parts : c9 = .seq c9a (.seq c9b (.seq c9c (.seq c9d c9r))) := rfl
theorem has_iff {n : NodeP} {b : Nat} (r : RightP n) : (∃ x, At n b x) ↔ ∃ i : Nat, n.keys[i]? = some b :=
  ⟨fun ⟨x, i, h1, _⟩ => ⟨i, h1⟩, fun ⟨i, h1⟩ => r.at_of h1⟩
theorem full_end (k : Fits T) (hl : Low h) {f : Fr} {p6 : Nat} {kv iv : AV} {n : NodeP} {c : Int} {b : Nat} (hc1 : 1 ≤ c) (hc3 : c ≤ 3) (fi : Filled n c (highP c)) (he : Held h p6 kv iv n) (f1 : f.at 1 = .int .u8 (b : Int)) (f5 : f.at 5 = .int .i64 c) (f6 : f.at 6 = .ptr p6 0) :
    Wp (code T c9r f h) (Vm.Ends [.tmp 4] fun r _ => r = .bool true) := by
  obtain ⟨hh, hup, hdn⟩ := high_cases hc1 hc3
  have fa : ∀ o j, fieldAddrV j (.ptr o 0) = some (.ptr o (0 + j)) := fun o j => rfl
  have ok := fi.right.ok (by rw [fi.word]; decide)
  have wup : IntKind.i64.wrap (c + 1) = c + 1 := wrap_i64 (by omega) (by omega)
  have wdn : IntKind.i64.wrap (c - 1) = c - 1 := wrap_i64 (by omega) (by omega)
  have hv9 : Valid 9 9 := ⟨by omega, by omega, by omega⟩
  have zst : ∀ {g : AH}, Quiet g (g.new (.cells [.int .i64 0, .int .u64 0, .str [], .nilSlice, .nilSlice] true)) := fun {g} => (Quiet.refl g).new _
  simp only [c9r, c9, vms, vmc, AOpd.val, Nat.reduceEqDiff, reduceCtorEq, Nat.reduceAdd, Nat.reduceBEq, f1, f5, f6, he.load]
  refine Gives.bind ((findR_ok k hl fi.right ok he.v).mono ?_)
  rintro r1 h1 ⟨q1, lo1, hr1⟩
  obtain ⟨x, there, rfl, hth⟩ : ∃ x p, r1 = .tuple [.int .i64 x, .bool p] ∧ (p = true ↔ ∃ y, At n b y) := by
    rcases hr1 with ⟨x, h1, rfl⟩ | ⟨h1, rfl⟩
    · exact ⟨x, true, rfl, by simp; exact ⟨x, h1⟩⟩
    · exact ⟨0, false, rfl, by simp; exact h1⟩
  have he1 := he.keep hl q1
  -- the full one
  simp only [vms, vmc, AOpd.val, Nat.reduceEqDiff, reduceCtorEq, Nat.reduceAdd, Nat.reduceBEq, f1, f5, f6, he1.load]
  have he2 := he1.keep lo1 zst
  have lo2 := lo1.new (.cells [.int .i64 0, .int .u64 0, .str [], .nilSlice, .nilSlice] true)
  have gz2 : (h1.new (.cells [.int .i64 0, .int .u64 0, .str [], .nilSlice, .nilSlice] true)).get h1.next = some (.cells [.int .i64 0, .int .u64 0, .str [], .nilSlice, .nilSlice] true) := get_new_same
  have nx2 : (h1.new (.cells [.int .i64 0, .int .u64 0, .str [], .nilSlice, .nilSlice] true)).next = h1.next + 1 := rfl
  have hp6 : p6 < h1.next := lo1 _ _ he1.get
  have ok1 : ∀ o, (o ∈ objs kv ∨ o ∈ objs iv) → o < h1.next := fun o ho => ho.elim (sees_low he1.sk lo1 o) (sees_low he1.si lo1 o)
  generalize (h1.new (.cells [.int .i64 0, .int .u64 0, .str [], .nilSlice, .nilSlice] true)) = h2 at *
  have lkn : ∀ {g : AH} {f : Fr} {t d p : Nat} {kv iv : AV} {n : NodeP}, Held g p kv iv n → f.at t = .ptr p 0 → f.at d = .agg (n.cells kv iv) → AOper.lookAgain ⟨some d, .load true 5 (.tmp t), none⟩ f g = true := fun hg ht hd => look_load (v := .agg _) (by show loadV _ _ _ (Fr.at _ _) = _; rw [ht]; exact hg.load) hd hg.beq
  rw [items_look (lkn he2 (by simp only [vms, vmc, AOpd.val, Nat.reduceEqDiff, reduceCtorEq, Nat.reduceAdd, Nat.reduceBEq, f6]) (by simp only [vms, vmc, AOpd.val, Nat.reduceEqDiff, reduceCtorEq, Nat.reduceAdd, Nat.reduceBEq])), items_look (look_new (q := h1.next) (by simp only [vms, vmc, AOpd.val, Nat.reduceEqDiff, reduceCtorEq, Nat.reduceAdd, Nat.reduceBEq]) gz2 zbeq)]
  simp only [vms, vmc, AOpd.val, Nat.reduceEqDiff, reduceCtorEq, Nat.reduceAdd, Nat.reduceBEq]
  refine Gives.bind ((ref_ok k (s := 9) (g := 9) (l := false) hv9).mono ?_)
  rintro _ _ ⟨rfl, rfl⟩
  rename_i h2
  simp only [vms, vmc, AOpd.val, Nat.reduceEqDiff, reduceCtorEq, Nat.reduceAdd, Nat.reduceBEq]
  rw [items_look (lkn he2 (by simp only [vms, vmc, AOpd.val, Nat.reduceEqDiff, reduceCtorEq, Nat.reduceAdd, Nat.reduceBEq, f6]) (by simp only [vms, vmc, AOpd.val, Nat.reduceEqDiff, reduceCtorEq, Nat.reduceAdd, Nat.reduceBEq])), items_look (look_new (q := h1.next) (by simp only [vms, vmc, AOpd.val, Nat.reduceEqDiff, reduceCtorEq, Nat.reduceAdd, Nat.reduceBEq]) gz2 zbeq)]
  simp only [vms, vmc, AOpd.val, Nat.reduceEqDiff, reduceCtorEq, Nat.reduceAdd, Nat.reduceBEq]
  refine Gives.bind ((with_ok k lo2 ok he2.v (b := b) (kid := ((refN 9 9 false : Nat) : Int))).mono ?_)
  rintro r2 h3 ⟨q3, lo3, hw⟩
  have he3 := he2.keep lo2 q3
  have gz3 := q3.get gz2 (lo2 _ _ gz2)
  obtain ⟨v2, m2, okw, rfl, hM2, hokw⟩ : ∃ v m o, r2 = .tuple [v, .bool o] ∧ NodeN h2.next h3 v m ∧ (o = true ↔ ∃ y, At n b y) := by
    rcases hw with ⟨hW, rfl⟩ | ⟨m, mv, hW, hM, rfl⟩
    · refine ⟨zeroNode, zeroP, false, rfl, zeroP_n, ?_⟩
      rcases hW with h1 | h1 | ⟨h1, _⟩
      · exact absurd fi.right h1
      · rw [isRefP_ref hv9] at h1; cases h1
      · simp only [Bool.false_eq_true, false_iff]
        rintro ⟨y, i, h2, _⟩; exact h1 i h2
    · refine ⟨mv, m, true, rfl, hM, ?_⟩
      simp only [true_iff]
      obtain ⟨_, _, ⟨i, h1, _⟩ | ⟨h1, _⟩⟩ := hW
      · exact fi.right.at_of h1
      · rw [fi.kind, fi.len] at h1; omega
  have hsame : okw = there := by rw [Bool.eq_iff_iff, hokw, hth]
  subst hsame
  obtain ⟨k2, i2, h4, rfl, st4, _, hoth4, nx4, lo4, _⟩ := keepAt lo3 (show h1.next < h2.next by omega) gz3 hM2
  have he4 := he3.move hoth4 (by omega) (fun hm => by have := ok1 _ (.inl hm); omega) (fun hm => by have := ok1 _ (.inr hm); omega)
  simp only [vms, vmc, AOpd.val, Nat.reduceEqDiff, reduceCtorEq, Nat.reduceAdd, Nat.reduceBEq]
  rw [items_look (look_new (q := h1.next) (by simp only [vms, vmc, AOpd.val, Nat.reduceEqDiff, reduceCtorEq, Nat.reduceAdd, Nat.reduceBEq]) gz3 zbeq)]
  simp only [vms, vmc, AOpd.val, Nat.reduceEqDiff, reduceCtorEq, Nat.reduceAdd, Nat.reduceBEq, st4, f1, f5, f6, he4.load, wup]
  -- as the next kind
  refine Gives.bind ((turn_ok k lo4 ok he4.v (kd := c + 1)).mono ?_)
  rintro r3 h5 ⟨q5, lo5, ht⟩
  rcases ht with ⟨hT, rfl⟩ | ⟨m, mv, hT, hM, rfl⟩
  · exfalso
    rcases hT with h1 | h1 | h1
    · exact h1 fi.right
    · omega
    · rw [fi.len] at h1; omega
  obtain ⟨_, hne, hfit, rfl⟩ := hT
  have hRm : RightP { n with kind := c + 1, word := 0 } := ⟨hne, by simp, fi.right.pre, fi.right.same, hfit, fi.right.refs, fi.right.rise⟩
  have okm := hRm.ok (by show 0 < _; decide)
  obtain ⟨mk, mi, h6, rfl, st6, hm6, q6, lo6, nx6, _⟩ := keepN lo5 hM
  have he6 := (he4.keep lo4 q5).keep lo5 q6
  simp only [vms, vmc, AOpd.val, Nat.reduceEqDiff, reduceCtorEq, Nat.reduceAdd, Nat.reduceBEq, st6, f1, f5, f6, hm6.load]
  have he7 := he6.keep lo6 zst
  have hm7 := hm6.keep lo6 zst
  have lo7 := lo6.new (.cells [.int .i64 0, .int .u64 0, .str [], .nilSlice, .nilSlice] true)
  have gz7 : (h6.new (.cells [.int .i64 0, .int .u64 0, .str [], .nilSlice, .nilSlice] true)).get h6.next = some (.cells [.int .i64 0, .int .u64 0, .str [], .nilSlice, .nilSlice] true) := get_new_same
  have nx7 : (h6.new (.cells [.int .i64 0, .int .u64 0, .str [], .nilSlice, .nilSlice] true)).next = h6.next + 1 := rfl
  have hp66 : p6 < h6.next := lo6 _ _ he6.get
  have ok6 : ∀ o, (o ∈ objs kv ∨ o ∈ objs iv) → o < h6.next := fun o ho => ho.elim (sees_low he6.sk lo6 o) (sees_low he6.si lo6 o)
  generalize (h6.new (.cells [.int .i64 0, .int .u64 0, .str [], .nilSlice, .nilSlice] true)) = h7 at *
  rw [items_look (lkn hm7 (by simp only [vms, vmc, AOpd.val, Nat.reduceEqDiff, reduceCtorEq, Nat.reduceAdd, Nat.reduceBEq]) (by simp only [vms, vmc, AOpd.val, Nat.reduceEqDiff, reduceCtorEq, Nat.reduceAdd, Nat.reduceBEq])), items_look (look_new (q := h6.next) (by simp only [vms, vmc, AOpd.val, Nat.reduceEqDiff, reduceCtorEq, Nat.reduceAdd, Nat.reduceBEq]) gz7 zbeq)]
  simp only [vms, vmc, AOpd.val, Nat.reduceEqDiff, reduceCtorEq, Nat.reduceAdd, Nat.reduceBEq]
  refine Gives.bind ((ref_ok k (s := 9) (g := 9) (l := false) hv9).mono ?_)
  rintro _ _ ⟨rfl, rfl⟩
  rename_i h7
  simp only [vms, vmc, AOpd.val, Nat.reduceEqDiff, reduceCtorEq, Nat.reduceAdd, Nat.reduceBEq]
  rw [items_look (lkn hm7 (by simp only [vms, vmc, AOpd.val, Nat.reduceEqDiff, reduceCtorEq, Nat.reduceAdd, Nat.reduceBEq]) (by simp only [vms, vmc, AOpd.val, Nat.reduceEqDiff, reduceCtorEq, Nat.reduceAdd, Nat.reduceBEq])), items_look (look_new (q := h6.next) (by simp only [vms, vmc, AOpd.val, Nat.reduceEqDiff, reduceCtorEq, Nat.reduceAdd, Nat.reduceBEq]) gz7 zbeq)]
  simp only [vms, vmc, AOpd.val, Nat.reduceEqDiff, reduceCtorEq, Nat.reduceAdd, Nat.reduceBEq]
  refine Gives.bind ((with_ok k lo7 okm hm7.v (b := b) (kid := ((refN 9 9 false : Nat) : Int))).mono ?_)
  rintro r4 h8 ⟨q8, lo8, hw⟩
  have he8 := he7.keep lo7 q8
  have gz8 := q8.get gz7 (lo7 _ _ gz7)
  rcases hw with ⟨hW, rfl⟩ | ⟨m8, mv8, hW, hM8, rfl⟩
  · exfalso
    rcases hW with h1 | h1 | ⟨_, h1⟩
    · exact h1 hRm
    · rw [isRefP_ref hv9] at h1; cases h1
    · have := fi.len; simp only at h1; omega
  obtain ⟨k8, i8, h9, rfl, st9, _, hoth9, nx9, lo9, _⟩ := keepAt lo8 (show h6.next < h7.next by omega) gz8 hM8
  have he9 := he8.move hoth9 (by omega) (fun hm => by have := ok6 _ (.inl hm); omega) (fun hm => by have := ok6 _ (.inr hm); omega)
  simp only [vms, vmc, AOpd.val, Nat.reduceEqDiff, reduceCtorEq, Nat.reduceAdd, Nat.reduceBEq]
  rw [items_look (look_new (q := h6.next) (by simp only [vms, vmc, AOpd.val, Nat.reduceEqDiff, reduceCtorEq, Nat.reduceAdd, Nat.reduceBEq]) gz8 zbeq)]
  simp only [vms, vmc, AOpd.val, Nat.reduceEqDiff, reduceCtorEq, Nat.reduceAdd, Nat.reduceBEq, st9, f1, f5, f6, he9.load, wdn]
  -- and as the one before
  refine Gives.bind ((turn_ok k lo9 ok he9.v (kd := c - 1)).mono ?_)
  rintro r5 h10 ⟨q10, lo10, ht⟩
  have he10 := he9.keep lo9 q10
  rcases ht with ⟨hT, rfl⟩ | ⟨m10, mv10, ⟨_, _, h1, _⟩, _, rfl⟩
  · obtain ⟨zk, zi, h11, hz0, st11, _, q11, lo11, _⟩ := keepN (N := 0) lo10 zeroP_n
    have he11 := he10.keep lo10 q11
    have d1 : ((n.keys.length : Int) == (highP c : Nat)) = true := by rw [fi.len]; simp
    have eb : eqBV false (.bool okw) (.bool okw) = some (.bool true) := by cases okw <;> rfl
    simp only [items_test, vms, vmc, AOpd.val, Nat.reduceEqDiff, reduceCtorEq, Nat.reduceAdd, Nat.reduceBEq, st11, f1, f5, f6, fa, Nat.zero_add, he11.keys, he11.len]
    refine Gives.bind ((high_ok k).mono ?_)
    rintro _ _ ⟨rfl, rfl⟩
    rename_i h11
    simp only [items_test, vms, vmc, AOpd.val, Nat.reduceEqDiff, reduceCtorEq, Nat.reduceAdd, Nat.reduceBEq, d1, eb, Bool.not_false]
    rw [items_look (look_load (v := kv) (by show loadV _ _ _ (Fr.at _ _) = _; simp only [vms, vmc, AOpd.val, Nat.reduceEqDiff, reduceCtorEq, Nat.reduceAdd, Nat.reduceBEq]; exact he11.keys) (by simp only [vms, vmc, AOpd.val, Nat.reduceEqDiff, reduceCtorEq, Nat.reduceAdd, Nat.reduceBEq]) (sees_beq he11.sk))]
    simp only [items_test, vms, vmc, AOpd.val, Nat.reduceEqDiff, reduceCtorEq, Nat.reduceAdd, Nat.reduceBEq]
    refine Gives.bind ((k.yes _).mono ?_)
    rintro _ _ ⟨rfl, rfl⟩
    simp only [vms, vmc, AOpd.val, Nat.reduceEqDiff, reduceCtorEq, Nat.reduceAdd, Nat.reduceBEq]
  · exfalso
    rw [fi.len] at h1; omega
theorem full_run (k : Fits T) (hl : Low h) {n0 : Int} {b : Nat} : Gives T 9 [.int .i64 n0, .int .u8 (b : Int)] h fun r _ => r = .bool true := by
  refine gives_func (k.env _ (by decide)) (k.at (fn := a9) rfl) rfl ?_
  show Wp (code T c9 _ _) _
  rw [c9_parts]
  simp only [c9a, c9b, c9c, c9d, c9, vms, vmc, AOpd.val, Nat.reduceEqDiff, reduceCtorEq, Nat.reduceAdd, Nat.reduceBEq]
  refine Gives.bind ((within_nat k (hi := 2) (by decide)).mono ?_)
  rintro _ _ ⟨c0, rfl, hc, rfl⟩
  rename_i h
  obtain ⟨c, hcd⟩ : ∃ c : Int, c = 1 + (c0 : Int) := ⟨_, rfl⟩
  have w1 : IntKind.i64.wrap (1 + (c0 : Int)) = c := by rw [wrap_i64 (by omega) (by omega)]; exact hcd.symm
  have hc1 : 1 ≤ c := by omega
  have hc3 : c ≤ 3 := by omega
  have fl : fillV [AV.int .i64 0, .int .u64 0, .str [], .nilSlice, .nilSlice] [(0, 1, .int .i64 c)] = some (({ kind := c, word := 0, pre := [], keys := [], kids := [] } : NodeP).cells .nilSlice .nilSlice) := by
    simp [fillV, AV.isDef, AV.cells, setMany, NodeP.cells]
  have st : storeV (h.new (.cells [.int .i64 0, .int .u64 0, .str [], .nilSlice, .nilSlice] true)) 5 (.ptr h.next 0) (.agg (({ kind := c, word := 0, pre := [], keys := [], kids := [] } : NodeP).cells .nilSlice .nilSlice)) = some ((h.new (.cells [.int .i64 0, .int .u64 0, .str [], .nilSlice, .nilSlice] true)).set h.next (.cells (({ kind := c, word := 0, pre := [], keys := [], kids := [] } : NodeP).cells .nilSlice .nilSlice) true)) :=
    store_all get_new_same rfl rfl rfl
  have lo1 := (hl.new (.cells [.int .i64 0, .int .u64 0, .str [], .nilSlice, .nilSlice] true)).set (o := h.next) (by rw [next_new]; omega) (.cells (({ kind := c, word := 0, pre := [], keys := [], kids := [] } : NodeP).cells .nilSlice .nilSlice) true)
  have he : Held ((h.new (.cells [.int .i64 0, .int .u64 0, .str [], .nilSlice, .nilSlice] true)).set h.next (.cells (({ kind := c, word := 0, pre := [], keys := [], kids := [] } : NodeP).cells .nilSlice .nilSlice) true)) h.next .nilSlice .nilSlice { kind := c, word := 0, pre := [], keys := [], kids := [] } :=
    ⟨get_set_same, .inl ⟨rfl, rfl⟩, .inl ⟨rfl, rfl⟩, trivial, trivial⟩
  have hk0 : highP c ≠ 0 := by
    have : c = 1 ∨ c = 2 ∨ c = 3 := by omega
    rcases this with rfl | rfl | rfl <;> decide
  have f0 : Filled { kind := c, word := 0, pre := [], keys := [], kids := [] } c 0 := ⟨rfl, rfl, ⟨hk0, by simp, by simp, rfl, by simp, fun i x h => by simp at h, fun i a b h => by simp at h⟩, rfl, fun j a h => by simp at h⟩
  simp only [vms, vmc, AOpd.val, Nat.reduceEqDiff, reduceCtorEq, Nat.reduceAdd, Nat.reduceBEq, w1, fl, st]
  generalize ((h.new (.cells [.int .i64 0, .int .u64 0, .str [], .nilSlice, .nilSlice] true)).set h.next (.cells (({ kind := c, word := 0, pre := [], keys := [], kids := [] } : NodeP).cells .nilSlice .nilSlice) true)) = h1 at *
  refine wpc_loop (fun d f' g => ∃ i n kv iv, d = highP c - i ∧ i ≤ highP c ∧ Filled n c i ∧ Held g h.next kv iv n ∧ Low g ∧ h.next ∉ objs kv ∧ h.next ∉ objs iv ∧ f'.at 1 = .int .u8 (b : Int) ∧ f'.at 5 = .int .i64 c ∧ f'.at 6 = .ptr h.next 0 ∧ f'.at 7 = .int .i64 (i : Nat)) ?_ (highP c) _ _ ⟨0, _, .nilSlice, .nilSlice, rfl, by omega, f0, he, lo1, by simp [objs], by simp [objs], ?_, ?_, ?_, ?_⟩
  · rintro _ f' g ⟨i, n, kv, iv, rfl, hi, fi, hg, lo, o1, o2, g1, g5, g6, g7⟩
    by_cases hlt : i < highP c
    · refine full_step k lo hc1 hc3 fi hlt hg g5 g6 g7 o1 o2 ?_
      intro f2 g2 kv' iv' m fm hm lo2 p1 p2 e1 e5 e6 e7
      exact ⟨highP c - (i + 1), by omega, i + 1, m, kv', iv', rfl, by omega, fm, hm, lo2, p1, p2, e1.trans g1, e5, e6, e7⟩
    · have e : i = highP c := by omega
      subst e
      have d1 : decide (((highP c : Nat) : Int) < (highP c : Nat)) = false := by simp
      simp only [c9l0, vms, vmc, AOpd.val, Nat.reduceEqDiff, reduceCtorEq, Nat.reduceAdd, Nat.reduceBEq, g5, g7]
      refine Gives.bind ((high_ok k).mono ?_)
      rintro _ _ ⟨rfl, rfl⟩
      rename_i g
      simp only [vms, vmc, AOpd.val, Nat.reduceEqDiff, reduceCtorEq, Nat.reduceAdd, Nat.reduceBEq, d1]
      refine full_end k (b := b) lo hc1 hc3 fi hg ?_ ?_ ?_
      all_goals simp only [vms, vmc, AOpd.val, Nat.reduceEqDiff, reduceCtorEq, Nat.reduceAdd, Nat.reduceBEq, g1, g5, g6]
  all_goals first | (simp only [vms, vmc, AOpd.val, Nat.reduceEqDiff, reduceCtorEq, Nat.reduceAdd, Nat.reduceBEq]; done) | (simp only [vms, vmc, AOpd.val, Nat.reduceEqDiff, reduceCtorEq, Nat.reduceAdd, Nat.reduceBEq]; rfl)
end Go.Proofs.Ytpabmkicdcilpaa

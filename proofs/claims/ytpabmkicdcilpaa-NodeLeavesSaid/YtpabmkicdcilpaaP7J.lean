/- Nodes that a law keeps; the law NodeTurns. -/
import Derived.Test.YtpabmkicdcilpaaP7NodeC
namespace Go.Proofs.Ytpabmkicdcilpaa
open Go.Vm
set_option linter.unusedSimpArgs false
set_option linter.unusedVariables false
set_option maxRecDepth 100000
variable {T : Vm.Prog} {h : AH}
/-- A node that lies at p. -/
structure Held (h : AH) (p : Nat) (kv iv : AV) (n : NodeP) : Prop where
  get : h.get p = some (.cells (n.cells kv iv) true)
  sk : Sees h kv (kcells n.keys)
  si : Sees h iv (icells n.kids)
  ck : capOk kv
  ci : capOk iv
theorem sees_low {v : AV} {xs : List AV} (s : Sees h v xs) (hl : Low h) : ∀ o ∈ objs v, o < h.next := by
  intro p hp
  rcases s with ⟨rfl, _⟩ | ⟨o, off, cap, ex, l, rw, rfl, hg, _⟩
  · simp [objs] at hp
  · simp [objs] at hp; subst hp; exact hl _ _ hg
theorem sees_get {h' : AH} {v : AV} {xs : List AV} (s : Sees h v xs) (hk : ∀ o ∈ objs v, h'.get o = h.get o) : Sees h' v xs := by
  rcases s with ⟨rfl, he⟩ | ⟨o, off, cap, ex, l, rw, rfl, hg, h1⟩
  · exact .inl ⟨rfl, he⟩
  · exact .inr ⟨o, off, cap, ex, l, rw, rfl, (hk o (by simp [objs])).trans hg, h1⟩
theorem Held.keep {h' : AH} {p : Nat} {kv iv : AV} {n : NodeP} (s : Held h p kv iv n) (hl : Low h) (q : Quiet h h') : Held h' p kv iv n :=
  ⟨q.get s.get (hl _ _ s.get), sees_keep s.sk hl q, sees_keep s.si hl q, s.ck, s.ci⟩
theorem Held.v {p : Nat} {kv iv : AV} {n : NodeP} (s : Held h p kv iv n) : NodeV h (.agg (n.cells kv iv)) n := ⟨kv, iv, rfl, s.sk, s.si⟩
theorem Held.capped {p : Nat} {kv iv : AV} {n : NodeP} (s : Held h p kv iv n) : Capped (.agg (n.cells kv iv)) := by
  intro m a c e
  simp only [AV.agg.injEq, NodeP.cells, List.cons.injEq, and_true] at e
  obtain ⟨_, _, _, rfl, rfl⟩ := e
  exact ⟨s.ck, s.ci⟩
theorem Held.load {p : Nat} {kv iv : AV} {n : NodeP} (s : Held h p kv iv n) : loadV h true 5 (.ptr p 0) = some (.agg (n.cells kv iv)) := load_all s.get rfl
theorem Held.kind {p : Nat} {kv iv : AV} {n : NodeP} (s : Held h p kv iv n) : loadV h false 1 (.ptr p 0) = some (.int .i64 n.kind) := load_at s.get rfl
theorem Held.word {p : Nat} {kv iv : AV} {n : NodeP} (s : Held h p kv iv n) : loadV h false 1 (.ptr p 1) = some (.int .u64 (n.word : Int)) := load_at s.get rfl
theorem Held.keys {p : Nat} {kv iv : AV} {n : NodeP} (s : Held h p kv iv n) : loadV h false 1 (.ptr p 3) = some kv := load_at s.get rfl
theorem Held.kids {p : Nat} {kv iv : AV} {n : NodeP} (s : Held h p kv iv n) : loadV h false 1 (.ptr p 4) = some iv := load_at s.get rfl
theorem Held.len {p : Nat} {kv iv : AV} {n : NodeP} (s : Held h p kv iv n) : lenOfV kv = some n.keys.length := by simpa [kcells] using s.sk.len
/-- Another object is written. -/
theorem Held.other {p q : Nat} {kv iv : AV} {n : NodeP} (s : Held h p kv iv n) (hq : p ≠ q) (h1 : q ∉ objs kv) (h2 : q ∉ objs iv) (x : AObj) : Held (h.set q x) p kv iv n :=
  ⟨by rw [AH.get_set, if_neg (Ne.symm hq)]; exact s.get, sees_get s.sk fun o ho => by rw [AH.get_set, if_neg (fun e : q = o => h1 (by rw [e]; exact ho))], sees_get s.si fun o ho => by rw [AH.get_set, if_neg (fun e : q = o => h2 (by rw [e]; exact ho))], s.ck, s.ci⟩
def zeroP : NodeP := ⟨0, 0, [], [], []⟩
theorem zeroP_n {N : Nat} : NodeN N h zeroNode zeroP := ⟨.nilSlice, .nilSlice, rfl, .inl ⟨rfl, rfl⟩, .inl ⟨rfl, rfl⟩, fun o ho => by simp [objs] at ho, fun o ho => by simp [objs] at ho⟩
/-- A new node is kept. -/
theorem keepN {N : Nat} {v : AV} {n : NodeP} (hl : Low h) (s : NodeN N h v n) : ∃ kv iv h', v = .agg (n.cells kv iv) ∧ storeV (h.new (.cells [.int .i64 0, .int .u64 0, .str [], .nilSlice, .nilSlice] true)) 5 (.ptr h.next 0) v = some h' ∧
    Held h' h.next kv iv n ∧ Quiet h h' ∧ Low h' ∧ h'.next = h.next + 1 ∧ (∀ o ∈ objs kv, N ≤ o ∧ o < h.next) ∧ (∀ o ∈ objs iv, N ≤ o ∧ o < h.next ∧ o ∉ objs kv) ∧ Row1 h' kv (kcells n.keys) ∧ Row1 h' iv (icells n.kids) := by
  obtain ⟨kv, iv, rfl, r1, r2, f1, f2⟩ := s
  have st : storeV (h.new (.cells [.int .i64 0, .int .u64 0, .str [], .nilSlice, .nilSlice] true)) 5 (.ptr h.next 0) (.agg (n.cells kv iv)) = some ((h.new (.cells [.int .i64 0, .int .u64 0, .str [], .nilSlice, .nilSlice] true)).set h.next (.cells (n.cells kv iv) true)) :=
    store_all get_new_same rfl rfl (by simp only [NodeP.cells, List.all_cons, List.all_nil, (RowS.cell r1).2.1, (RowS.cell r2).2.1]; rfl)
  have q : Quiet h ((h.new (.cells [.int .i64 0, .int .u64 0, .str [], .nilSlice, .nilSlice] true)).set h.next (.cells (n.cells kv iv) true)) := ((Quiet.refl _).new _).set (Nat.le_refl _) _
  refine ⟨kv, iv, _, rfl, st, ⟨get_set_same, sees_keep r1.sees hl q, sees_keep r2.sees hl q, row_cap r1, row_cap r2⟩, q, (hl.new _).set (by rw [next_new]; omega) _, by rw [next_set, next_new], fun o ho => ⟨f1 o ho, RowS.low r1 hl o ho⟩, fun o ho => ⟨(f2 o ho).1, RowS.low r2 hl o ho, (f2 o ho).2⟩, RowS.keep r1 fun o ho => q.2 o (RowS.low r1 hl o ho) id, RowS.keep r2 fun o ho => q.2 o (RowS.low r2 hl o ho) id⟩
theorem RightP.ok {n : NodeP} (r : RightP n) (hw : n.word < 18446744073709551616) : n.Ok := by
  have h1 := r.few
  have h2 := r.same
  have h3 := r.pre
  have hh : highP n.kind ≤ 256 := by unfold highP; (repeat' split) <;> omega
  exact ⟨hw, by omega, by omega, by omega⟩
theorem u64_in {x : Int} (w : (Lit.int .u64 x).wf = true) : ∃ n : Nat, x = n ∧ n < 18446744073709551616 := by
  have h : 0 ≤ x ∧ x ≤ 18446744073709551615 := by simpa [Lit.wf, IntKind.min, IntKind.max, IntKind.signed, IntKind.bits] using w
  exact ⟨x.toNat, by omega, by omega⟩
theorem u8_in {x : Int} (w : (Lit.int .u8 x).wf = true) : ∃ n : Nat, x = n ∧ n < 256 := by
  have h : 0 ≤ x ∧ x ≤ 255 := by simpa [Lit.wf, IntKind.min, IntKind.max, IntKind.signed, IntKind.bits] using w
  exact ⟨x.toNat, by omega, by omega⟩
/-- What nodes are made of, as it came in. -/
theorem kids_in {P : Program} {e : TypeId} {cs : List AV} (c : CellsAre P h [.int .i64, .int .u64, .str, .slice e, .int .i64] cs) :
    ∃ kd wd px v fr, cs = kidsCells kd wd px v fr ∧ wd < 18446744073709551616 ∧ px.length < 9223372036854775808 ∧ ∃ t, P.underlying t = some (.slice e) ∧ Came P h t [v] := by
  obtain ⟨b1, r1, rfl, ⟨kd, rfl, _⟩, c1⟩ := c.cons_inv
  obtain ⟨b2, r2, rfl, ⟨wd, rfl, hw⟩, c2⟩ := c1.cons_inv
  obtain ⟨b3, r3, rfl, ⟨px, rfl, hp⟩, c3⟩ := c2.cons_inv
  obtain ⟨b4, r4, rfl, ⟨t, ht, hc⟩, c4⟩ := c3.cons_inv
  obtain ⟨b5, r5, rfl, ⟨fr, rfl, _⟩, c5⟩ := c4.cons_inv
  cases c5.nil_inv
  obtain ⟨w, rfl, hw'⟩ := u64_in hw
  rw [maxLen_eq] at hp
  exact ⟨kd, w, px, b4, fr, rfl, hw', by omega, t, ht, hc⟩
theorem bytes_in {v : AV} {xs : List Int} (s : Sees h v (xs.map (.int .u8))) (hw : ∀ x ∈ xs, (Lit.int .u8 x).wf = true) : ∃ ks : List Nat, Sees h v (kcells ks) ∧ (∀ x ∈ ks, x < 256) ∧ ks.length = xs.length := by
  refine ⟨xs.map Int.toNat, ?_, fun x hx => ?_, by simp⟩
  · have e : kcells (xs.map Int.toNat) = xs.map (.int .u8) := by
      simp only [kcells, List.map_map]
      apply List.map_congr_left
      intro x hx
      obtain ⟨n, rfl, _⟩ := u8_in (hw x hx)
      rfl
    rw [e]; exact s
  · obtain ⟨y, hy, rfl⟩ := List.mem_map.1 hx
    obtain ⟨n, rfl, hn⟩ := u8_in (hw y hy)
    simpa using hn
theorem turns_run (k : Fits T) (hl : Low h) {kd : Int} {wd : Nat} {px : List UInt8} {skv : AV} {fr n0 : Int} {ks : List Nat} (hwd : wd < 18446744073709551616) (hpx : px.length < 9223372036854775808) (ss : Sees h skv (kcells ks)) (hks : ∀ x ∈ ks, x < 256) :
    Gives T 5 [.agg (kidsCells kd wd px skv fr), .int .i64 n0] h fun r _ => r = .bool true := by
  refine gives_func (k.env _ (by decide)) (k.at (fn := a5) rfl) rfl ?_
  have fa : ∀ o j, fieldAddrV j (.ptr o 0) = some (.ptr o (0 + j)) := fun o j => rfl
  have q1 : Quiet h (h.new (.cells (kidsCells kd wd px skv fr) true)) := (Quiet.refl _).new _
  have lo1 : Low (h.new (.cells (kidsCells kd wd px skv fr) true)) := hl.new _
  have g1 : (h.new (.cells (kidsCells kd wd px skv fr) true)).get h.next = some (.cells (kidsCells kd wd px skv fr) true) := get_new_same
  have ss1 := sees_keep ss hl q1
  simp only [a5, c5, vms, vmc, AOpd.val, Nat.reduceEqDiff, reduceCtorEq, Nat.reduceAdd, Nat.reduceBEq, box_agg]
  generalize (h.new (.cells (kidsCells kd wd px skv fr) true)) = h1 at *
  simp only [load_all g1 (n := 5) rfl, vms, vmc, AOpd.val, Nat.reduceEqDiff, reduceCtorEq, Nat.reduceAdd, Nat.reduceBEq]
  refine Gives.bind ((made_ok k lo1 hwd hpx ss1 hks).mono ?_)
  rintro mv h2 ⟨q2, lo2, n, hN, hR, ok, hk1, hk4, hby⟩
  obtain ⟨kv, iv, h3, rfl, st3, he3, q3, lo3, nx3, ob1, ob2, _⟩ := keepN lo2 hN
  simp only [vms, vmc, AOpd.val, Nat.reduceEqDiff, reduceCtorEq, Nat.reduceAdd, Nat.reduceBEq, st3]
  refine Gives.bind ((within_nat k (hi := 3) (by decide)).mono ?_)
  rintro _ _ ⟨c, rfl, hc, rfl⟩
  rename_i h3
  have w1 : IntKind.i64.wrap (1 + (c : Int)) = ((1 + c : Nat) : Int) := by rw [wrap_i64 (by omega) (by omega)]; omega
  simp only [vms, vmc, AOpd.val, Nat.reduceEqDiff, reduceCtorEq, Nat.reduceAdd, Nat.reduceBEq, w1, he3.load]
  refine Gives.bind ((turn_ok k lo3 ok he3.v (kd := ((1 + c : Nat) : Int))).mono ?_)
  rintro rt h4 ⟨q4, lo4, ht⟩
  have he4 := he3.keep lo3 q4
  have hcc : 1 ≤ ((1 + c : Nat) : Int) ∧ ((1 + c : Nat) : Int) ≤ 4 := by omega
  have hhc : highP ((1 + c : Nat) : Int) ≠ 0 := by
    have : c = 0 ∨ c = 1 ∨ c = 2 ∨ c = 3 := by omega
    rcases this with rfl | rfl | rfl | rfl <;> decide
  rcases ht with ⟨hT, rfl⟩ | ⟨m, mv, hT, hM, rfl⟩
  · -- too many
    obtain ⟨zk, zi, h5, hz0, st5, _, q5, lo5, _⟩ := keepN (N := 0) lo4 zeroP_n
    have he5 := he4.keep lo4 q5
    have hmany : highP ((1 + c : Nat) : Int) < n.keys.length := by
      rcases hT with h1 | h1 | h1
      · exact absurd hR h1
      · exact absurd h1 hhc
      · exact h1
    have d1 : decide ((n.keys.length : Int) ≤ (highP ((1 + c : Nat) : Int) : Nat)) = false := by rw [decide_eq_false_iff_not]; omega
    simp only [vms, vmc, AOpd.val, Nat.reduceEqDiff, reduceCtorEq, Nat.reduceAdd, Nat.reduceBEq, st5, fa, Nat.zero_add, he5.keys, he5.len]
    refine Gives.bind ((high_ok k).mono ?_)
    rintro _ _ ⟨rfl, rfl⟩
    rename_i h5
    have hlt : ((1 + c : Nat) : Int) < n.kind := by
      have h1 := hR.few
      have hk : n.kind = 1 ∨ n.kind = 2 ∨ n.kind = 3 ∨ n.kind = 4 := by omega
      have hcc : c = 0 ∨ c = 1 ∨ c = 2 ∨ c = 3 := by omega
      rcases hk with e | e | e | e <;> rcases hcc with rfl | rfl | rfl | rfl <;> rw [e] at h1 ⊢ <;> simp [highP] at h1 hmany ⊢ <;> omega
    have e1 : eqBV true (.bool false) (.bool false) = some (.bool false) := rfl
    simp only [vms, vmc, AOpd.val, Nat.reduceEqDiff, reduceCtorEq, Nat.reduceAdd, Nat.reduceBEq, d1, e1]
    rw [items_look (look_load (v := kv) (by show loadV _ _ _ (Fr.at _ _) = _; simp only [vms, vmc, AOpd.val, Nat.reduceEqDiff, reduceCtorEq, Nat.reduceAdd, Nat.reduceBEq]; exact he5.keys) (by simp only [vms, vmc, AOpd.val, Nat.reduceEqDiff, reduceCtorEq, Nat.reduceAdd, Nat.reduceBEq]) (sees_beq he5.sk))]
    simp only [vms, vmc, AOpd.val, Nat.reduceEqDiff, reduceCtorEq, Nat.reduceAdd, Nat.reduceBEq, fa, Nat.zero_add, he5.kind, Bool.not_false, decide_eq_true hlt]
    refine Gives.bind ((k.yes _).mono ?_)
    rintro _ _ ⟨rfl, rfl⟩
    simp only [vms, vmc, AOpd.val, Nat.reduceEqDiff, reduceCtorEq, Nat.reduceAdd, Nat.reduceBEq]
  · obtain ⟨mk, mi, h5, rfl, st5, hm5, q5, lo5, nx5, mo1, mo2, _⟩ := keepN lo4 hM
    obtain ⟨_, _, hfit, rfl⟩ := hT
    have he5 := he4.keep lo4 q5
    have d1 : decide ((n.keys.length : Int) ≤ (highP ((1 + c : Nat) : Int) : Nat)) = true := by rw [decide_eq_true_eq]; omega
    simp only [vms, vmc, AOpd.val, Nat.reduceEqDiff, reduceCtorEq, Nat.reduceAdd, Nat.reduceBEq, st5, fa, Nat.zero_add, he5.keys, he5.len]
    refine Gives.bind ((high_ok k).mono ?_)
    rintro _ _ ⟨rfl, rfl⟩
    rename_i h5
    have e1 : eqBV true (.bool true) (.bool true) = some (.bool false) := rfl
    simp only [vms, vmc, AOpd.val, Nat.reduceEqDiff, reduceCtorEq, Nat.reduceAdd, Nat.reduceBEq, d1, e1]
    rw [items_look (look_load (v := kv) (by show loadV _ _ _ (Fr.at _ _) = _; simp only [vms, vmc, AOpd.val, Nat.reduceEqDiff, reduceCtorEq, Nat.reduceAdd, Nat.reduceBEq]; exact he5.keys) (by simp only [vms, vmc, AOpd.val, Nat.reduceEqDiff, reduceCtorEq, Nat.reduceAdd, Nat.reduceBEq]) (sees_beq he5.sk))]
    have hRm : RightP { n with kind := ((1 + c : Nat) : Int), word := 0 } := ⟨hhc, by simp, hR.pre, hR.same, hfit, hR.refs, hR.rise⟩
    have okm := hRm.ok (by show 0 < _; decide)
    simp only [vms, vmc, AOpd.val, Nat.reduceEqDiff, reduceCtorEq, Nat.reduceAdd, Nat.reduceBEq, Bool.not_true, hm5.load, fa, Nat.zero_add, he5.kind]
    refine Gives.bind ((turn_ok k lo5 okm hm5.v (kd := n.kind)).mono ?_)
    rintro rt h6 ⟨q6, lo6, ht⟩
    rcases ht with ⟨hT, rfl⟩ | ⟨l, lv, hT, hL, rfl⟩
    · exfalso
      rcases hT with h1 | h1 | h1
      · exact h1 hRm
      · exact hR.kind h1
      · have := hR.few; simp only at h1; omega
    · obtain ⟨_, _, _, rfl⟩ := hT
      obtain ⟨lk, li, h7, rfl, st7, hl7, q7, lo7, nx7, lo1', lo2', _⟩ := keepN lo6 hL
      have he7 := (he5.keep lo5 q6).keep lo6 q7
      have hm7 := (hm5.keep lo5 q6).keep lo6 q7
      have n45 := q4.1
      have n56 := q5.1
      have n67 := q6.1
      have stw : storeV h7 1 (.ptr h2.next 1) (.int .u64 0) = some (h7.set h2.next (.cells (({ n with word := 0 } : NodeP).cells kv iv) true)) := store_int he7.get (by simp [NodeP.cells])
      have he8 : Held (h7.set h2.next (.cells (({ n with word := 0 } : NodeP).cells kv iv) true)) h2.next kv iv { n with word := 0 } :=
        ⟨get_set_same, sees_get he7.sk fun o ho => by have := (ob1 o ho).2; rw [AH.get_set, if_neg (by omega)], sees_get he7.si fun o ho => by have := (ob2 o ho).2.1; rw [AH.get_set, if_neg (by omega)], he7.ck, he7.ci⟩
      have hm8 := hm7.other (q := h2.next) (by omega) (fun hm => by have := (mo1 _ hm).1; omega) (fun hm => by have := (mo2 _ hm).1; omega) (.cells (({ n with word := 0 } : NodeP).cells kv iv) true)
      have hl8 := hl7.other (q := h2.next) (by omega) (fun hm => by have := (lo1' _ hm).1; omega) (fun hm => by have := (lo2' _ hm).1; omega) (.cells (({ n with word := 0 } : NodeP).cells kv iv) true)
      have lo8 := lo7.set (lo7 _ _ he7.get) (.cells (({ n with word := 0 } : NodeP).cells kv iv) true)
      have ok0 : ({ n with word := 0 } : NodeP).Ok := ⟨by show 0 < _; decide, ok.keys, ok.kids, ok.pre⟩
      simp only [vms, vmc, AOpd.val, Nat.reduceEqDiff, reduceCtorEq, Nat.reduceAdd, Nat.reduceBEq, st7, fa, Nat.zero_add, stw]
      generalize (h7.set h2.next (.cells (({ n with word := 0 } : NodeP).cells kv iv) true)) = h8 at *
      have ldl := hl8.load
      simp only [vms, vmc, AOpd.val, Nat.reduceEqDiff, reduceCtorEq, Nat.reduceAdd, Nat.reduceBEq, ldl, he8.load]
      refine Gives.bind ((same_ok k lo8 ok0 ok0 hl8.v he8.v).mono ?_)
      rintro _ h9 ⟨q9, lo9, b, rfl, hb⟩
      have hbt : b = true := hb.2 rfl
      subst hbt
      have he9 := he8.keep lo8 q9
      have hm9 := hm8.keep lo8 q9
      have kc : ∀ l : List Nat, kcells l = (l.map fun (b : Nat) => (b : Int)).map (.int .u8) := fun l => by simp [kcells]
      have e0 := ok.keys
      have e1 := ok.kids
      have t1 := hm9.sk
      have t3 := he9.sk
      rw [kc] at t1 t3
      simp only [vms, vmc, AOpd.val, Nat.reduceEqDiff, reduceCtorEq, Nat.reduceAdd, Nat.reduceBEq, fa, Nat.zero_add, hm9.kind, hm9.word, hm9.keys, he9.keys, show (((0 : Nat) : Int) == 0) = true from rfl]
      refine Gives.bind ((sameG_ok (k := .u8) (k.env _ (by decide)) (k.at (fn := a28) rfl) t1 t3 (by simp; omega) (by simp; omega)).mono ?_)
      rintro _ _ ⟨rfl, rfl⟩
      rename_i h9
      simp only [vms, vmc, AOpd.val, Nat.reduceEqDiff, reduceCtorEq, Nat.reduceAdd, Nat.reduceBEq, decide_true, fa, Nat.zero_add, hm9.kids, he9.kids]
      refine Gives.bind ((sameG_ok (k := .i64) (k.env _ (by decide)) (k.at (fn := a19) rfl) hm9.si he9.si (by show n.kids.length < _; omega) (by show n.kids.length < _; omega)).mono ?_)
      rintro _ _ ⟨rfl, rfl⟩
      simp only [vms, vmc, AOpd.val, Nat.reduceEqDiff, reduceCtorEq, Nat.reduceAdd, Nat.reduceBEq, decide_true]
      refine Gives.bind ((k.yes _).mono ?_)
      rintro _ _ ⟨rfl, rfl⟩
      simp only [vms, vmc, AOpd.val, Nat.reduceEqDiff, reduceCtorEq, Nat.reduceAdd, Nat.reduceBEq]
end Go.Proofs.Ytpabmkicdcilpaa

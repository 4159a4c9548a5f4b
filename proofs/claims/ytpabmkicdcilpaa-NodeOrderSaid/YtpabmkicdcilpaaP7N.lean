/- The law NodeOrder. -/
import Derived.Test.YtpabmkicdcilpaaP7M
namespace Go.Proofs.Ytpabmkicdcilpaa
open Go.Vm
set_option linter.unusedSimpArgs false
set_option linter.unusedVariables false
set_option maxRecDepth 100000
variable {T : Vm.Prog} {h : AH}
/-- The child at a byte. -/
def kidF (b : Nat) : Int := ((refN b (1 + b) false : Nat) : Int)
theorem kidF_ref {b : Nat} (hb : b < 256) : isRefP (kidF b) = true := isRefP_ref ⟨by omega, by omega, by omega⟩
theorem kid_ok (k : Fits T) {b : Nat} (hb : b < 256) : Gives T 20 [.int .u8 (b : Int)] h fun r h' => r = .int .i64 (kidF b) ∧ h' = h := by
  refine gives_func (k.env _ (by decide)) (k.at (fn := a20) rfl) rfl ?_
  have w1 : IntKind.i64.wrap (b : Int) = (b : Int) := wrap_i64 (by omega) (by omega)
  have w2 : IntKind.i64.wrap (1 + (b : Int)) = ((1 + b : Nat) : Int) := by rw [wrap_i64 (by omega) (by omega)]; omega
  simp only [a20, c20, vms, vmc, AOpd.val, Nat.reduceEqDiff, reduceCtorEq, Nat.reduceAdd, Nat.reduceBEq, w1, w2]
  refine Gives.bind ((ref_ok k (s := b) (g := 1 + b) (l := false) ⟨by omega, by omega, by omega⟩).mono ?_)
  rintro _ _ ⟨rfl, rfl⟩
  simp only [vms, vmc, AOpd.val, Nat.reduceEqDiff, reduceCtorEq, Nat.reduceAdd, Nat.reduceBEq]
  exact ⟨rfl, trivial⟩
/-- The node of these bytes. -/
structure NodeO (n : NodeP) (S : List Nat) : Prop where
  kind : n.kind = 4
  word : n.word = 0
  pre : n.pre = []
  right : RightP n
  len : n.keys.length ≤ S.length
  has : ∀ c x, At n c x ↔ c ∈ S ∧ x = kidF c
theorem NodeO.with {n m : NodeP} {S : List Nat} {b : Nat} (o : NodeO n S) (w : WithIs n b (kidF b) (some m)) : NodeO m (b :: S) := by
  obtain ⟨rm, hat, ek, ew, ep⟩ := with_right w
  refine ⟨ek.trans o.kind, ew.trans o.word, ep.trans o.pre, rm, ?_, fun c x => ?_⟩
  · have := o.len
    obtain ⟨_, _, ⟨j, h1, rfl⟩ | ⟨_, j, hj, _, _, rfl⟩⟩ := w
    · simp; omega
    · simp; omega
  · rw [hat, o.has, List.mem_cons]
    constructor
    · rintro (⟨rfl, rfl⟩ | ⟨_, h2, rfl⟩)
      · exact ⟨.inl rfl, rfl⟩
      · exact ⟨.inr h2, rfl⟩
    · rintro ⟨h1, rfl⟩
      by_cases hcb : c = b
      · subst hcb; exact .inl ⟨rfl, rfl⟩
      · exact .inr ⟨hcb, h1.resolve_left hcb, rfl⟩
theorem NodeO.some {n : NodeP} {S : List Nat} {b : Nat} (o : NodeO n S) (hb : b < 256) (hS : S.length < 200) : ¬ WithIs n b (kidF b) none := by
  rintro (h1 | h1 | ⟨_, h1⟩)
  · exact h1 o.right
  · rw [kidF_ref hb] at h1; cases h1
  · rw [o.kind] at h1
    have := o.len
    have : highP 4 = 256 := by decide
    omega
/-- Nothing but p's cells is another. -/
def But (h g : AH) (p : Nat) : Prop := h.next ≤ g.next ∧ ∀ o, o < h.next → o ≠ p → g.get o = h.get o
theorem But.held {g : AH} {p q : Nat} {kv iv : AV} {n : NodeP} (b : But h g p) (hl : Low h) (s : Held h q kv iv n) (hq : q ≠ p) (h1 : p ∉ objs kv) (h2 : p ∉ objs iv) : Held g q kv iv n :=
  ⟨(b.2 q (hl _ _ s.get) hq).trans s.get, sees_get s.sk fun o ho => b.2 o (sees_low s.sk hl o ho) (fun e => h1 (e ▸ ho)), sees_get s.si fun o ho => b.2 o (sees_low s.si hl o ho) (fun e => h2 (e ▸ ho)), s.ck, s.ci⟩
theorem But.sees {g : AH} {p : Nat} {v : AV} {xs : List AV} (b : But h g p) (hl : Low h) (s : Sees h v xs) (h1 : p ∉ objs v) : Sees g v xs :=
  sees_get s fun o ho => b.2 o (sees_low s hl o ho) (fun e => h1 (e ▸ ho))
theorem But.row {g : AH} {p : Nat} {v : AV} {xs : List AV} (b : But h g p) (hl : Low h) (s : Row1 h v xs) (h1 : p ∉ objs v) : Row1 g v xs :=
  RowS.keep s fun o ho => b.2 o (RowS.low s hl o ho) (fun e => h1 (e ▸ ho))
/-- With's answer in the place of the node. -/
theorem put_with {h1 h2 : AH} {q p : Nat} {mv kv iv : AV} {n m : NodeP} (hl : Low h) (he : Held h p kv iv n) (hpq : q = h.next) (lo1 : Low h1) (nx1 : h1.next = h.next + 1) (q1 : Quiet h h1) (gz : h1.get q = some (.cells [.int .i64 0, .int .u64 0, .str [], .nilSlice, .nilSlice] true))
    (hk : p ∉ objs kv) (hv : p ∉ objs iv) (q2 : Quiet h1 h2) (lo2 : Low h2) (hM : NodeN h1.next h2 mv m) : ∃ mk mi h3, mv = .agg (m.cells mk mi) ∧ storeV h2 5 (.ptr q 0) mv = some h3 ∧ Held h3 q mk mi m ∧ storeV h3 5 (.ptr p 0) (.agg (m.cells mk mi)) = some (h3.set p (.cells (m.cells mk mi) true)) ∧
      Held (h3.set p (.cells (m.cells mk mi) true)) p mk mi m ∧ Low (h3.set p (.cells (m.cells mk mi) true)) ∧ But h (h3.set p (.cells (m.cells mk mi) true)) p ∧ p ∉ objs mk ∧ p ∉ objs mi ∧ (∀ o ∈ objs mk, h.next ≤ o) ∧ ∀ o ∈ objs mi, h.next ≤ o := by
  have hp : p < h.next := hl _ _ he.get
  have gz2 := q2.get gz (lo1 _ _ gz)
  have he2 := (he.keep hl q1).keep lo1 q2
  obtain ⟨mk, mi, h3, rfl, st3, hm3, hoth, nx3, lo3, o1, o2⟩ := keepAt lo2 (show q < h1.next by omega) gz2 hM
  have he3 := he2.move hoth (by omega) (fun hm => by have := sees_low he.sk hl _ hm; omega) (fun hm => by have := sees_low he.si hl _ hm; omega)
  have st6 : storeV h3 5 (.ptr p 0) (.agg (m.cells mk mi)) = some (h3.set p (.cells (m.cells mk mi) true)) := store_all he3.get rfl rfl (by
    have e1 := (sees_cell hm3.sk).2
    have e2 := (sees_cell hm3.si).2
    simp only [NodeP.cells, List.all_cons, List.all_nil, e1, e2]; rfl)
  have hk' : p ∉ objs mk := fun hm => by have := o1 _ hm; omega
  have hv' : p ∉ objs mi := fun hm => by have := o2 _ hm; omega
  have n2 := q2.1
  refine ⟨mk, mi, h3, rfl, st3, hm3, st6, ⟨get_set_same, sees_get hm3.sk fun o ho => by rw [AH.get_set, if_neg (fun e : p = o => hk' (by rw [e]; exact ho))], sees_get hm3.si fun o ho => by rw [AH.get_set, if_neg (fun e : p = o => hv' (by rw [e]; exact ho))], hm3.ck, hm3.ci⟩, lo3.set (lo3 _ _ he3.get) _, ⟨by rw [next_set, nx3]; omega, fun o ho hop => ?_⟩, hk', hv', fun o ho => by have := o1 o ho; omega, fun o ho => by have := o2 o ho; omega⟩
  rw [AH.get_set, if_neg (Ne.symm hop), hoth o (by omega), q2.2 o (by omega) id, q1.2 o ho id]
theorem order_loop1 (k : Fits T) (hl : Low h) {L : List Nat} (hL : ∀ b ∈ L, b < 256) (hLl : L.length ≤ 40) {v7 : AV} {f : Fr} {p5 : Nat} {n0 : NodeP} {kv0 iv0 : AV} (r7 : Row1 h v7 (kcells L)) (h57 : p5 ∉ objs v7) (he0 : Held h p5 kv0 iv0 n0) (o0 : NodeO n0 []) (hk0 : p5 ∉ objs kv0) (hv0 : p5 ∉ objs iv0)
    (f5 : f.at 5 = .ptr p5 0) (f9 : f.at 9 = .func (.func 20) [] []) (f37 : f.at 37 = v7) (f38 : f.at 38 = .int .i64 (L.length : Int)) (f39 : f.at 39 = .int .i64 0) {Q : AExit → Fr → AH → Prop}
    (hq : ∀ f' g n kv iv S, NodeO n S → (∀ c, c ∈ S ↔ c ∈ L) → Held g p5 kv iv n → p5 ∉ objs kv → p5 ∉ objs iv → Low g → But h g p5 → (∀ o ∈ objs kv, o ∈ objs kv0 ∨ h.next ≤ o) → (∀ o ∈ objs iv, o ∈ objs iv0 ∨ h.next ≤ o) → f'.at 1 = f.at 1 → f'.at 5 = .ptr p5 0 → f'.at 6 = f.at 6 → f'.at 7 = f.at 7 → f'.at 9 = .func (.func 20) [] [] → Q (.exit 2) f' g) :
    Wp (code T (.loop c4l1) f h) Q := by
  refine wpc_loop (fun d f' g => ∃ i n kv iv S, d = L.length - i ∧ i ≤ L.length ∧ NodeO n S ∧ S.length ≤ i ∧ (∀ c, c ∈ S ↔ c ∈ L.take i) ∧ Held g p5 kv iv n ∧ p5 ∉ objs kv ∧ p5 ∉ objs iv ∧ Low g ∧ But h g p5 ∧ (∀ o ∈ objs kv, o ∈ objs kv0 ∨ h.next ≤ o) ∧ (∀ o ∈ objs iv, o ∈ objs iv0 ∨ h.next ≤ o) ∧ f'.at 1 = f.at 1 ∧ f'.at 5 = .ptr p5 0 ∧ f'.at 6 = f.at 6 ∧ f'.at 7 = f.at 7 ∧ f'.at 9 = .func (.func 20) [] [] ∧ f'.at 37 = v7 ∧ f'.at 38 = .int .i64 (L.length : Int) ∧ f'.at 39 = .int .i64 (i : Nat)) ?_ L.length _ _
    ⟨0, n0, kv0, iv0, [], rfl, by omega, o0, by simp, fun c => by simp, he0, hk0, hv0, hl, ⟨Nat.le_refl _, fun _ _ _ => rfl⟩, fun o ho => .inl ho, fun o ho => .inl ho, rfl, f5, rfl, rfl, f9, f37, f38, f39⟩
  rintro _ f' g ⟨i, n, kv, iv, S, rfl, hi, oN, hSl, hS, he, hk, hv, lo, but, ok1, ok2, g1, g5, g6, g7, g9, g37, g38, g39⟩
  by_cases hlt : i < L.length
  · have d1 : decide ((i : Int) < (L.length : Int)) = true := by rw [decide_eq_true_eq]; omega
    obtain ⟨b, hb⟩ : ∃ b, L[i]? = some b := ⟨_, List.getElem?_eq_getElem hlt⟩
    have hb256 := hL b (List.mem_of_getElem? hb)
    have r7g := but.row hl r7 h57
    obtain ⟨pp, hp1, hp2⟩ := r7g.sees.at (i := i) (x := .int .u8 (b : Int)) (by simp [kcells, hb]) .i64
    have w1 : IntKind.i64.wrap ((i : Int) + 1) = ((i + 1 : Nat) : Int) := by rw [wrap_i64 (by omega) (by omega)]; omega
    have okn := oN.right.ok (by rw [oN.word]; decide)
    simp only [c4l1, vms, vmc, AOpd.val, Nat.reduceEqDiff, reduceCtorEq, Nat.reduceAdd, Nat.reduceBEq, g1, g5, g6, g7, g9, g37, g38, g39, d1, hp1, hp2, he.load]
    have q1 : Quiet g (g.new (.cells [.int .i64 0, .int .u64 0, .str [], .nilSlice, .nilSlice] true)) := (Quiet.refl _).new _
    have lo1 : Low (g.new (.cells [.int .i64 0, .int .u64 0, .str [], .nilSlice, .nilSlice] true)) := lo.new _
    have gz : (g.new (.cells [.int .i64 0, .int .u64 0, .str [], .nilSlice, .nilSlice] true)).get g.next = some (.cells [.int .i64 0, .int .u64 0, .str [], .nilSlice, .nilSlice] true) := get_new_same
    have he1 := he.keep lo q1
    have nx1 : (g.new (.cells [.int .i64 0, .int .u64 0, .str [], .nilSlice, .nilSlice] true)).next = g.next + 1 := rfl
    generalize (g.new (.cells [.int .i64 0, .int .u64 0, .str [], .nilSlice, .nilSlice] true)) = h1 at *
    have lkn : ∀ {g : AH} {f : Fr} {t d : Nat}, Held g p5 kv iv n → f.at t = .ptr p5 0 → f.at d = .agg (n.cells kv iv) → AOper.lookAgain ⟨some d, .load true 5 (.tmp t), none⟩ f g = true := fun hg ht hd => look_load (v := .agg _) (by show loadV _ _ _ (Fr.at _ _) = _; rw [ht]; exact hg.load) hd hg.beq
    rw [items_look (lkn he1 (by simp only [vms, vmc, AOpd.val, Nat.reduceEqDiff, reduceCtorEq, Nat.reduceAdd, Nat.reduceBEq, g5]) (by simp only [vms, vmc, AOpd.val, Nat.reduceEqDiff, reduceCtorEq, Nat.reduceAdd, Nat.reduceBEq])), items_look (look_new (q := g.next) (by simp only [vms, vmc, AOpd.val, Nat.reduceEqDiff, reduceCtorEq, Nat.reduceAdd, Nat.reduceBEq]) gz zbeq)]
    simp only [vms, vmc, AOpd.val, Nat.reduceEqDiff, reduceCtorEq, Nat.reduceAdd, Nat.reduceBEq, step_callV, callVal_func]
    refine Gives.bind ((kid_ok k hb256).mono ?_)
    rintro _ _ ⟨rfl, rfl⟩
    rename_i h1
    simp only [vms, vmc, AOpd.val, Nat.reduceEqDiff, reduceCtorEq, Nat.reduceAdd, Nat.reduceBEq]
    rw [items_look (lkn he1 (by simp only [vms, vmc, AOpd.val, Nat.reduceEqDiff, reduceCtorEq, Nat.reduceAdd, Nat.reduceBEq, g5]) (by simp only [vms, vmc, AOpd.val, Nat.reduceEqDiff, reduceCtorEq, Nat.reduceAdd, Nat.reduceBEq])), items_look (look_new (q := g.next) (by simp only [vms, vmc, AOpd.val, Nat.reduceEqDiff, reduceCtorEq, Nat.reduceAdd, Nat.reduceBEq]) gz zbeq)]
    simp only [vms, vmc, AOpd.val, Nat.reduceEqDiff, reduceCtorEq, Nat.reduceAdd, Nat.reduceBEq]
    refine Gives.bind ((with_ok k lo1 okn he1.v (b := b) (kid := kidF b)).mono ?_)
    rintro r h2 ⟨q2, lo2, hw⟩
    rcases hw with ⟨hW, rfl⟩ | ⟨m, mv, hW, hM, rfl⟩
    · exact absurd hW (oN.some hb256 (by omega))
    · have gz2 := q2.get gz (lo1 _ _ gz)
      obtain ⟨mk, mi, h3, rfl, st3, hm3, st6, hF, loF, butF, a1, a2, a3, a4⟩ := put_with lo he rfl lo1 nx1 q1 gz hk hv q2 lo2 hM
      simp only [vms, vmc, AOpd.val, Nat.reduceEqDiff, reduceCtorEq, Nat.reduceAdd, Nat.reduceBEq]
      rw [items_look (look_new (q := g.next) (by simp only [vms, vmc, AOpd.val, Nat.reduceEqDiff, reduceCtorEq, Nat.reduceAdd, Nat.reduceBEq]) gz2 zbeq)]
      simp only [vms, vmc, AOpd.val, Nat.reduceEqDiff, reduceCtorEq, Nat.reduceAdd, Nat.reduceBEq, st3, Bool.not_true, hm3.load, g1, g5, g6, g7, g9, g37, g38, g39, st6, w1]
      have hb0 := but.1
      refine ⟨L.length - (i + 1), by omega, i + 1, m, mk, mi, b :: S, rfl, by omega, oN.with hW, by simp; omega, fun c => ?_, hF, a1, a2, loF, ⟨by have := butF.1; omega, fun o ho hop => (butF.2 o (by omega) hop).trans (but.2 o ho hop)⟩, fun o ho => .inr (by have := a3 o ho; omega), fun o ho => .inr (by have := a4 o ho; omega), ?_⟩
      · rw [List.take_add_one, hb, List.mem_cons, List.mem_append, hS]
        simp only [Option.toList_some, List.mem_singleton]
        exact Or.comm
      · simp only [vms, vmc, AOpd.val, Nat.reduceEqDiff, reduceCtorEq, Nat.reduceAdd, Nat.reduceBEq, g1, g5, g6, g7, g9, g37, g38]
        exact ⟨trivial, trivial, trivial, trivial, trivial, trivial, trivial, trivial⟩
  · have d1 : decide ((i : Int) < (L.length : Int)) = false := by rw [decide_eq_false_iff_not]; omega
    simp only [c4l1, vms, vmc, AOpd.val, Nat.reduceEqDiff, reduceCtorEq, Nat.reduceAdd, Nat.reduceBEq, g38, g39, d1]
    refine hq _ g n kv iv S oN (fun c => by rw [hS, List.take_of_length_le (by omega)]) he hk hv lo but ok1 ok2 ?_ ?_ ?_ ?_ ?_
    all_goals simp only [vms, vmc, AOpd.val, Nat.reduceEqDiff, reduceCtorEq, Nat.reduceAdd, Nat.reduceBEq, g1, g5, g6, g7, g9]
theorem order_loop0 (hl : Low h) {ks : List Nat} {skv : AV} {f : Fr} (ss : Sees h skv (kcells ks)) (hks : ks.length < 9223372036854775808) (f0 : f.at 0 = skv) (f7 : f.at 7 = .nilSlice) (f8 : f.at 8 = .int .i64 0) {Q : AExit → Fr → AH → Prop}
    (hq : ∀ f' g v7 L, Row1 g v7 (kcells L) → L.length ≤ 40 → (∀ b ∈ L, b ∈ ks) → Quiet h g → Low g → (∀ o ∈ objs v7, h.next ≤ o) → f'.at 1 = f.at 1 → f'.at 5 = f.at 5 → f'.at 6 = f.at 6 → f'.at 7 = v7 → Q (.exit 0) f' g) :
    Wp (code T (.loop c4l0) f h) Q := by
  refine wpc_loop (fun d f' g => ∃ i v7 L, d = 40 - i ∧ i ≤ 40 ∧ L.length = i ∧ (∀ b ∈ L, b ∈ ks) ∧ Row1 g v7 (kcells L) ∧ Quiet h g ∧ Low g ∧ (∀ o ∈ objs v7, h.next ≤ o) ∧ f'.at 0 = skv ∧ f'.at 1 = f.at 1 ∧ f'.at 5 = f.at 5 ∧ f'.at 6 = f.at 6 ∧ f'.at 7 = v7 ∧ f'.at 8 = .int .i64 (i : Nat)) ?_ 40 _ _
    ⟨0, .nilSlice, [], rfl, by omega, rfl, fun b h => by simp at h, .inl ⟨rfl, rfl⟩, Quiet.refl _, hl, fun o ho => by simp [objs] at ho, f0, rfl, rfl, rfl, f7, f8⟩
  rintro _ f' g ⟨i, v7, L, rfl, hi, hLl, hL, r7, q, lo, ob, g0, g1, g5, g6, g7, g8⟩
  have s1 := sees_keep ss hl q
  have ln : lenOfV skv = some ks.length := by simpa [kcells] using s1.len
  by_cases h1 : i < ks.length
  · have d1 : decide ((i : Int) < (ks.length : Int)) = true := by rw [decide_eq_true_eq]; omega
    by_cases h2 : i < 40
    · have d2 : decide ((i : Int) < 40) = true := by rw [decide_eq_true_eq]; omega
      obtain ⟨x, hx⟩ : ∃ x, ks[i]? = some x := ⟨_, List.getElem?_eq_getElem h1⟩
      obtain ⟨p, hp1, hp2⟩ := s1.at (i := i) (x := .int .u8 (x : Int)) (by simp [kcells, hx]) .i64
      have w1 : IntKind.i64.wrap ((i : Int) + 1) = ((i + 1 : Nat) : Int) := by rw [wrap_i64 (by omega) (by omega)]; omega
      have fb : fillV [AV.int .u8 0] [(0, 1, .int .u8 (x : Int))] = some [.int .u8 (x : Int)] := by simp [fillV, AV.isDef, AV.cells, setMany]
      have r70 : Row1 (g.new (.cells [.int .u8 (x : Int)] true)) v7 (kcells L) := RowS.keep r7 fun o ho => by have := RowS.low r7 lo o ho; rw [AH.get_new, if_neg (by omega)]
      obtain ⟨v8, g8', ha, hr, ho, hlt, on, lo8⟩ := row1_append (bytes := 1) (lo.new _) r70 (by decide) (by decide) (by simp [kcells]; omega) get_new_same rfl
      have nx := q.1
      have e : kcells L ++ [.int .u8 (x : Int)] = kcells (L ++ [x]) := by simp [kcells]
      rw [e] at hr
      simp only [c4l0, vms, vmc, AOpd.val, Nat.reduceEqDiff, reduceCtorEq, Nat.reduceAdd, Nat.reduceBEq, g0, g1, g5, g6, g7, g8, ln, d1, d2, hp1, hp2, fb, ha, w1]
      refine ⟨40 - (i + 1), by omega, i + 1, v8, L ++ [x], rfl, by omega, by simp [hLl], fun b hb => ?_, hr, ⟨by have := on.1; rw [next_new] at this; omega, fun o hoo hn => ?_⟩, lo8, fun o hoo => ?_, ?_⟩
      · rcases List.mem_append.1 hb with h3 | h3
        · exact hL b h3
        · simp at h3; subst h3; exact List.mem_of_getElem? hx
      · rw [on.2 o (by rw [next_new]; omega) (fun hm => by have := ob o hm; omega), AH.get_new, if_neg (by omega)]
        exact q.2 o hoo hn
      · rcases ho o hoo with h3 | h3
        · exact ob o h3
        · rw [next_new] at h3; omega
      · simp only [vms, vmc, AOpd.val, Nat.reduceEqDiff, reduceCtorEq, Nat.reduceAdd, Nat.reduceBEq, g0, g1, g5, g6]
        exact ⟨trivial, trivial, trivial, trivial, trivial, trivial⟩
    · have d2 : decide ((i : Int) < 40) = false := by rw [decide_eq_false_iff_not]; omega
      simp only [c4l0, vms, vmc, AOpd.val, Nat.reduceEqDiff, reduceCtorEq, Nat.reduceAdd, Nat.reduceBEq, g0, g8, ln, d1, d2]
      refine hq _ g v7 L r7 (by omega) hL q lo ob ?_ ?_ ?_ ?_
      all_goals simp only [vms, vmc, AOpd.val, Nat.reduceEqDiff, reduceCtorEq, Nat.reduceAdd, Nat.reduceBEq, g1, g5, g6, g7]
  · have d1 : decide ((i : Int) < (ks.length : Int)) = false := by rw [decide_eq_false_iff_not]; omega
    simp only [c4l0, vms, vmc, AOpd.val, Nat.reduceEqDiff, reduceCtorEq, Nat.reduceAdd, Nat.reduceBEq, g0, g8, ln, d1]
    refine hq _ g v7 L r7 (by omega) hL q lo ob ?_ ?_ ?_ ?_
    all_goals simp only [vms, vmc, AOpd.val, Nat.reduceEqDiff, reduceCtorEq, Nat.reduceAdd, Nat.reduceBEq, g1, g5, g6, g7]
def c4l2C : ACode := match c4l2 with
  | .seq a _ => a
  | c => c
def c4l2A : ACode := match c4l2 with
  | .seq _ (.seq (.block _ (.seq a _)) _) => a
  | c => c
def c4l2B : ACode := match c4l2 with
  | .seq _ (.seq (.block _ (.seq _ (.seq a _))) _) => a
  | c => c
def c4l2R : ACode := match c4l2 with
  | .seq _ (.seq (.block _ (.seq _ (.seq _ a))) _) => a
  | c => c
def c4l2I : ACode := match c4l2 with
  | .seq _ (.seq _ a) => a
  | c => c
theorem c4l2_parts : c4l2 = .seq c4l2C (.seq (.block 5 (.seq c4l2A (.seq c4l2B c4l2R))) c4l2I) := rfl
/-- One byte is taken out of the list, its child put into the node. -/
theorem order_rest (k : Fits T) (hl : Low h) {l S : List Nat} (hL : ∀ b ∈ l, b < 256) (hLl : l.length ≤ 40) (hSl : S.length ≤ 100) {v7 : AV} {f : Fr} {p6 i : Nat} {n : NodeP} {kv iv : AV} (hi : i < l.length) (r7 : Row1 h v7 (kcells l)) (h67 : p6 ∉ objs v7) (he : Held h p6 kv iv n) (oN : NodeO n S) (hk : p6 ∉ objs kv) (hv : p6 ∉ objs iv)
    (f6 : f.at 6 = .ptr p6 0) (f7 : f.at 7 = v7) (f9 : f.at 9 = .func (.func 20) [] []) (f15 : f.at 15 = .int .i64 (i : Int)) {Q : AExit → Fr → AH → Prop}
    (hq : ∀ f' g v7' m kv' iv' b, l[i]? = some b → NodeO m (b :: S) → Held g p6 kv' iv' m → p6 ∉ objs kv' → p6 ∉ objs iv' → Low g → But h g p6 → Row1 g v7' (kcells (l.take i ++ l.drop (i + 1))) → (∀ o ∈ objs v7', h.next ≤ o) → f'.at 1 = f.at 1 → f'.at 5 = f.at 5 → f'.at 6 = .ptr p6 0 → f'.at 7 = v7' → f'.at 9 = .func (.func 20) [] [] → f'.at 14 = f.at 14 → Q .normal f' g) :
    Wp (code T c4l2R f h) Q := by
  obtain ⟨b, hb⟩ : ∃ b, l[i]? = some b := ⟨_, List.getElem?_eq_getElem hi⟩
  have hb256 := hL b (List.mem_of_getElem? hb)
  obtain ⟨pp, hp1, hp2⟩ := r7.sees.at (i := i) (x := .int .u8 (b : Int)) (by simp [kcells, hb]) .i64
  have w1 : IntKind.i64.wrap ((i : Int) + 1) = ((i + 1 : Nat) : Int) := by rw [wrap_i64 (by omega) (by omega)]; omega
  have okn := oN.right.ok (by rw [oN.word]; decide)
  simp only [c4l2R, c4l2, vms, vmc, AOpd.val, Nat.reduceEqDiff, reduceCtorEq, Nat.reduceAdd, Nat.reduceBEq, f6, f7, f9, f15, he.load, hp1, hp2]
  have q1 : Quiet h (h.new (.cells [.int .i64 0, .int .u64 0, .str [], .nilSlice, .nilSlice] true)) := (Quiet.refl _).new _
  have lo1 : Low (h.new (.cells [.int .i64 0, .int .u64 0, .str [], .nilSlice, .nilSlice] true)) := hl.new _
  have gz : (h.new (.cells [.int .i64 0, .int .u64 0, .str [], .nilSlice, .nilSlice] true)).get h.next = some (.cells [.int .i64 0, .int .u64 0, .str [], .nilSlice, .nilSlice] true) := get_new_same
  have he1 := he.keep hl q1
  have nx1 : (h.new (.cells [.int .i64 0, .int .u64 0, .str [], .nilSlice, .nilSlice] true)).next = h.next + 1 := rfl
  have r71 : Row1 (h.new (.cells [.int .i64 0, .int .u64 0, .str [], .nilSlice, .nilSlice] true)) v7 (kcells l) := RowS.keep r7 fun o ho => q1.2 o (RowS.low r7 hl o ho) id
  generalize (h.new (.cells [.int .i64 0, .int .u64 0, .str [], .nilSlice, .nilSlice] true)) = h1 at *
  have lkn : ∀ {g : AH} {f : Fr} {t d : Nat}, Held g p6 kv iv n → f.at t = .ptr p6 0 → f.at d = .agg (n.cells kv iv) → AOper.lookAgain ⟨some d, .load true 5 (.tmp t), none⟩ f g = true := fun hg ht hd => look_load (v := .agg _) (by show loadV _ _ _ (Fr.at _ _) = _; rw [ht]; exact hg.load) hd hg.beq
  obtain ⟨pp', hp1', hp2'⟩ := r71.sees.at (i := i) (x := .int .u8 (b : Int)) (by simp [kcells, hb]) .i64
  have epp : pp' = pp := by rw [hp1] at hp1'; exact (Option.some.inj hp1').symm
  subst epp
  have bb : AV.beq (.int .u8 (b : Int)) (.int .u8 (b : Int)) = true := by simp [AV.beq]
  have lkb : ∀ {f : Fr} {t d : Nat}, f.at t = pp' → f.at d = .int .u8 (b : Int) → AOper.lookAgain ⟨some d, .load false 1 (.tmp t), none⟩ f h1 = true := fun ht hd => look_load (v := .int .u8 (b : Int)) (by show loadV _ _ _ (Fr.at _ _) = _; rw [ht]; exact hp2') hd bb
  rw [items_look (lkn he1 (by simp only [vms, vmc, AOpd.val, Nat.reduceEqDiff, reduceCtorEq, Nat.reduceAdd, Nat.reduceBEq, f6]) (by simp only [vms, vmc, AOpd.val, Nat.reduceEqDiff, reduceCtorEq, Nat.reduceAdd, Nat.reduceBEq])), items_look (lkb (by simp only [vms, vmc, AOpd.val, Nat.reduceEqDiff, reduceCtorEq, Nat.reduceAdd, Nat.reduceBEq]) (by simp only [vms, vmc, AOpd.val, Nat.reduceEqDiff, reduceCtorEq, Nat.reduceAdd, Nat.reduceBEq])), items_look (lkb (by simp only [vms, vmc, AOpd.val, Nat.reduceEqDiff, reduceCtorEq, Nat.reduceAdd, Nat.reduceBEq]) (by simp only [vms, vmc, AOpd.val, Nat.reduceEqDiff, reduceCtorEq, Nat.reduceAdd, Nat.reduceBEq])), items_look (look_new (q := h.next) (by simp only [vms, vmc, AOpd.val, Nat.reduceEqDiff, reduceCtorEq, Nat.reduceAdd, Nat.reduceBEq]) gz zbeq)]
  simp only [vms, vmc, AOpd.val, Nat.reduceEqDiff, reduceCtorEq, Nat.reduceAdd, Nat.reduceBEq, step_callV, callVal_func]
  refine Gives.bind ((kid_ok k hb256).mono ?_)
  rintro _ _ ⟨rfl, rfl⟩
  rename_i h1
  simp only [vms, vmc, AOpd.val, Nat.reduceEqDiff, reduceCtorEq, Nat.reduceAdd, Nat.reduceBEq]
  rw [items_look (lkn he1 (by simp only [vms, vmc, AOpd.val, Nat.reduceEqDiff, reduceCtorEq, Nat.reduceAdd, Nat.reduceBEq, f6]) (by simp only [vms, vmc, AOpd.val, Nat.reduceEqDiff, reduceCtorEq, Nat.reduceAdd, Nat.reduceBEq])), items_look (lkb (by simp only [vms, vmc, AOpd.val, Nat.reduceEqDiff, reduceCtorEq, Nat.reduceAdd, Nat.reduceBEq]) (by simp only [vms, vmc, AOpd.val, Nat.reduceEqDiff, reduceCtorEq, Nat.reduceAdd, Nat.reduceBEq])), items_look (look_new (q := h.next) (by simp only [vms, vmc, AOpd.val, Nat.reduceEqDiff, reduceCtorEq, Nat.reduceAdd, Nat.reduceBEq]) gz zbeq)]
  simp only [vms, vmc, AOpd.val, Nat.reduceEqDiff, reduceCtorEq, Nat.reduceAdd, Nat.reduceBEq]
  refine Gives.bind ((with_ok k lo1 okn he1.v (b := b) (kid := kidF b)).mono ?_)
  rintro r h2 ⟨q2, lo2, hw⟩
  rcases hw with ⟨hW, rfl⟩ | ⟨m, mv, hW, hM, rfl⟩
  · exact absurd hW (oN.some hb256 (by omega))
  · have gz2 := q2.get gz (lo1 _ _ gz)
    obtain ⟨mk, mi, h3, rfl, st3, hm3, st6, hF, loF, butF, a1, a2, a3, a4⟩ := put_with hl he rfl lo1 nx1 q1 gz hk hv q2 lo2 hM
    have r7F := butF.row hl r7 h67
    obtain ⟨la, sla, sa, ca, fa1, da⟩ := sees_head r7F.sees (row_cap r7) (n := i) (by simp [kcells]; omega) (k := .i64)
    obtain ⟨lb, slb, sb, cb, fb1, db⟩ := sees_tail r7F.sees (row_cap r7) (n := i + 1) (by simp [kcells]; omega) (k := .i64)
    simp only [vms, vmc, AOpd.val, Nat.reduceEqDiff, reduceCtorEq, Nat.reduceAdd, Nat.reduceBEq]
    rw [items_look (look_new (q := h.next) (by simp only [vms, vmc, AOpd.val, Nat.reduceEqDiff, reduceCtorEq, Nat.reduceAdd, Nat.reduceBEq]) gz2 zbeq)]
    have fe : fillV [] [] = some [] := rfl
    simp only [vms, vmc, AOpd.val, Nat.reduceEqDiff, reduceCtorEq, Nat.reduceAdd, Nat.reduceBEq, st3, Bool.not_true, hm3.load, f6, f7, f9, f15, st6, w1, sla, slb, fe]
    generalize hgF : (h3.set p6 (.cells (m.cells mk mi) true)) = gF at *
    have qe : Quiet gF (gF.new (.cells [] true)) := (Quiet.refl _).new _
    have loe : Low (gF.new (.cells [] true)) := loF.new _
    have re : Row1 (gF.new (.cells [] true)) (.slice gF.next 0 1 0 0 true) [] := row1_of get_new_same rfl rfl (Nat.le_refl _) (fun i x h => by simp at h)
    obtain ⟨v8, g8, ha8, hr8, ho8, hlt8, on8, lo8⟩ := row1_appendAll (bytes := 1) loe re (sees_keep sa loF qe) (by decide) (by decide) (by simp [kcells]; omega) (fun y hy => kflat y (List.mem_of_mem_take hy))
    have nxe : (gF.new (.cells [] true)).next = gF.next + 1 := rfl
    have hn8 := on8.1
    have sb8 : Sees g8 lb ((kcells l).drop (i + 1)) := sees_get (sees_keep sb loF qe) fun o ho => by
      have := sees_low sb loF o ho
      exact on8.2 o (by omega) (fun hm => by simp [objs] at hm; omega)
    obtain ⟨v9, g9, ha9, hr9, ho9, hlt9, on9, lo9⟩ := row1_appendAll (bytes := 1) lo8 hr8 sb8 (by decide) (by decide) (by simp [kcells]; omega) (fun y hy => kflat y (List.mem_of_mem_drop hy))
    have hn9 := on9.1
    have hnF := butF.1
    have keep : ∀ o, o < gF.next → g9.get o = gF.get o := fun o ho => by
      rw [on9.2 o (by omega) (fun hm => by
        rcases ho8 o hm with h1 | h1
        · simp [objs] at h1; omega
        · omega), on8.2 o (by omega) (fun hm => by simp [objs] at hm; omega), AH.get_new, if_neg (by omega)]
    have q9 : Quiet gF g9 := ⟨by omega, fun o ho _ => keep o ho⟩
    rw [items_look (look_build (o := gF.next) (l := []) (by simp only [vms, vmc, AOpd.val, Nat.reduceEqDiff, reduceCtorEq, Nat.reduceAdd, Nat.reduceBEq]) get_new_same (by simp only [vms, vmc, AOpd.val, Nat.reduceEqDiff, reduceCtorEq, Nat.reduceAdd, Nat.reduceBEq, fe]) rfl)]
    simp only [vms, vmc, AOpd.val, Nat.reduceEqDiff, reduceCtorEq, Nat.reduceAdd, Nat.reduceBEq, ha8, ha9]
    refine hq _ g9 v9 m mk mi b hb (oN.with hW) (hF.keep loF q9) a1 a2 lo9 ⟨by omega, fun o ho hop => (keep o (by omega)).trans (butF.2 o ho hop)⟩ ?_ (fun o ho => ?_) ?_ ?_ ?_ ?_ ?_ ?_
    · have e : kcells (l.take i ++ l.drop (i + 1)) = [] ++ (kcells l).take i ++ (kcells l).drop (i + 1) := by simp [kcells, List.map_take, List.map_drop]
      rw [e]; exact hr9
    · rcases ho9 o ho with h1 | h1
      · rcases ho8 o h1 with h2 | h2
        · simp [objs] at h2; omega
        · omega
      · omega
    all_goals simp only [vms, vmc, AOpd.val, Nat.reduceEqDiff, reduceCtorEq, Nat.reduceAdd, Nat.reduceBEq, f6, f7, f9]
/-- While the children are put in the other order. -/
def OrdI (h : AH) (L : List Nat) (ov v5 : AV) (p6 : Nat) (d : Nat) (f : Fr) (g : AH) : Prop :=
  ∃ (i : Nat) (l S : List Nat) (n : NodeP) (kv iv v : AV), d = l.length ∧ i + l.length = L.length ∧ S.length + l.length = L.length ∧ (∀ c, (c ∈ S ∨ c ∈ l) ↔ c ∈ L) ∧ Row1 g v (kcells l) ∧ p6 ∉ objs v ∧ NodeO n S ∧ Held g p6 kv iv n ∧ p6 ∉ objs kv ∧ p6 ∉ objs iv ∧ Low g ∧ But h g p6 ∧
    f.at 1 = ov ∧ f.at 5 = v5 ∧ f.at 6 = .ptr p6 0 ∧ f.at 7 = v ∧ f.at 9 = .func (.func 20) [] [] ∧ f.at 14 = .int .i64 (i : Int)
theorem mem_cut {l : List Nat} {i b : Nat} (hb : l[i]? = some b) (c : Nat) : (c = b ∨ c ∈ l.take i ++ l.drop (i + 1)) ↔ c ∈ l := by
  have hi : i < l.length := by
    rcases Nat.lt_or_ge i l.length with h | h
    · exact h
    · rw [List.getElem?_eq_none h] at hb; cases hb
  have e : l = l.take i ++ b :: l.drop (i + 1) := by
    rw [List.getElem?_eq_getElem hi] at hb
    have : l[i] = b := Option.some.inj hb
    rw [← this, ← List.drop_eq_getElem_cons hi, List.take_append_drop]
  conv => rhs; rw [e]
  simp only [List.mem_append, List.mem_cons]
  constructor
  · rintro (h | h | h)
    · exact .inr (.inl h)
    · exact .inl h
    · exact .inr (.inr h)
  · rintro (h | h | h)
    · exact .inr (.inl h)
    · exact .inl h
    · exact .inr (.inr h)
theorem order_loop2 (k : Fits T) (hl : Low h) {L : List Nat} {os : List Int} (hL : ∀ b ∈ L, b < 256) (hLl : L.length ≤ 40) {v7 ov : AV} {f : Fr} {p6 : Nat} {n0 : NodeP} {kv0 iv0 : AV} (r7 : Row1 h v7 (kcells L)) (h67 : p6 ∉ objs v7) (so : Sees h ov (icells os)) (hol : os.length < 9223372036854775808) (h6o : p6 ∉ objs ov)
    (he0 : Held h p6 kv0 iv0 n0) (o0 : NodeO n0 []) (hk0 : p6 ∉ objs kv0) (hv0 : p6 ∉ objs iv0)
    (f1 : f.at 1 = ov) (f6 : f.at 6 = .ptr p6 0) (f7 : f.at 7 = v7) (f9 : f.at 9 = .func (.func 20) [] []) (f14 : f.at 14 = .int .i64 0) {Q : AExit → Fr → AH → Prop}
    (hq : ∀ f' g n kv iv S, NodeO n S → (∀ c, c ∈ S ↔ c ∈ L) → Held g p6 kv iv n → Low g → But h g p6 → f'.at 5 = f.at 5 → f'.at 6 = .ptr p6 0 → Q (.exit 4) f' g) :
    Wp (code T (.loop c4l2) f h) Q := by
  refine wpc_loop (OrdI h L ov (f.at 5) p6) ?_ L.length _ _ ⟨0, L, [], n0, kv0, iv0, v7, rfl, by omega, by simp, fun c => by simp, r7, h67, o0, he0, hk0, hv0, hl, ⟨Nat.le_refl _, fun _ _ _ => rfl⟩, f1, rfl, f6, f7, f9, f14⟩
  rintro d f' g ⟨i, l, S, n, kv, iv, v, rfl, hi, hSl, hS, rv, h6v, oN, he, hk, hv, lo, but, g1, g5, g6, g7, g9, g14⟩
  have ln : lenOfV v = some l.length := by simpa [kcells] using rv.sees.len
  have sog := but.sees hl so h6o
  have lno : lenOfV ov = some os.length := by simpa [icells] using sog.len
  rw [c4l2_parts]
  by_cases h0 : l.length = 0
  · have d1 : decide ((l.length : Int) > 0) = false := by rw [decide_eq_false_iff_not]; omega
    have hl0 : l = [] := List.eq_nil_of_length_eq_zero h0
    simp only [c4l2C, c4l2, vms, vmc, AOpd.val, Nat.reduceEqDiff, reduceCtorEq, Nat.reduceAdd, Nat.reduceBEq, g7, ln, d1]
    refine hq _ g n kv iv S oN (fun c => by rw [← hS, hl0]; simp) he lo but ?_ ?_
    all_goals simp only [vms, vmc, AOpd.val, Nat.reduceEqDiff, reduceCtorEq, Nat.reduceAdd, Nat.reduceBEq, g5, g6]
  · have d1 : decide ((l.length : Int) > 0) = true := by rw [decide_eq_true_eq]; omega
    have hl256 : ∀ b ∈ l, b < 256 := fun b hb => hL b ((hS b).1 (.inr hb))
    have rest : ∀ (f2 : Fr) (j : Nat), j < l.length → f2.at 1 = ov → f2.at 5 = f.at 5 → f2.at 6 = .ptr p6 0 → f2.at 7 = v → f2.at 9 = .func (.func 20) [] [] → f2.at 14 = .int .i64 (i : Int) → f2.at 15 = .int .i64 (j : Int) →
        Wp (code T c4l2R f2 g) (InBlock 5 (ThenC T c4l2I (Then (fun f' h' => ∃ m, m < l.length ∧ OrdI h L ov (f.at 5) p6 m f' h') Q))) := by
      intro f2 j hj e1 e5 e6 e7 e9 e14 e15
      refine order_rest k lo hl256 (by omega) (S := S) (by omega) hj rv h6v he oN hk hv e6 e7 e9 e15 ?_
      intro f3 g3 v' m mk mi b hb oM hm o1 o2 lo3 but3 r3 fr3 a1 a5 a6 a7 a9 a14
      have w1 : IntKind.i64.wrap ((i : Int) + 1) = ((i + 1 : Nat) : Int) := by rw [wrap_i64 (by omega) (by omega)]; omega
      have b1 := but.1
      have hp6 : p6 < g.next := lo _ _ he.get
      simp only [c4l2I, c4l2, vms, vmc, AOpd.val, Nat.reduceEqDiff, reduceCtorEq, Nat.reduceAdd, Nat.reduceBEq, a14, e14, w1]
      have hlen : (l.take j ++ l.drop (j + 1)).length + 1 = l.length := by simp; omega
      refine ⟨(l.take j ++ l.drop (j + 1)).length, by omega, i + 1, _, b :: S, m, mk, mi, v', rfl, by omega, by simp only [List.length_cons]; omega, fun c => ?_, r3, fun hm => ?_, oM, hm, o1, o2, lo3, ⟨by have := but3.1; omega, fun o ho hop => (but3.2 o (by omega) hop).trans (but.2 o ho hop)⟩, ?_⟩
      · rw [List.mem_cons, ← hS, ← mem_cut hb c]
        constructor
        · rintro ((h | h) | h)
          · exact .inr (.inl h)
          · exact .inl h
          · exact .inr (.inr h)
        · rintro (h | h | h)
          · exact .inl (.inr h)
          · exact .inl (.inl h)
          · exact .inr h
      · have := fr3 _ hm; omega
      · simp only [vms, vmc, AOpd.val, Nat.reduceEqDiff, reduceCtorEq, Nat.reduceAdd, Nat.reduceBEq, a1, a5, a6, a7, a9, e1, e5]
        exact ⟨trivial, trivial, trivial, trivial, trivial, trivial⟩
    by_cases h1 : i < os.length
    · have d2 : decide ((i : Int) < (os.length : Int)) = true := by rw [decide_eq_true_eq]; omega
      obtain ⟨x, hx⟩ : ∃ x, os[i]? = some x := ⟨_, List.getElem?_eq_getElem h1⟩
      obtain ⟨p, hp1, hp2⟩ := sog.at (i := i) (x := .int .i64 x) (by simp [icells, hx]) .i64
      have w2 : IntKind.i64.wrap ((l.length : Int) - 1) = ((l.length - 1 : Nat) : Int) := by rw [wrap_i64 (by omega) (by omega)]; omega
      simp only [c4l2C, c4l2A, c4l2B, c4l2, vms, vmc, AOpd.val, Nat.reduceEqDiff, reduceCtorEq, Nat.reduceAdd, Nat.reduceBEq, g1, g7, g14, ln, lno, d1, d2, hp1, hp2, w2]
      refine Gives.bind ((within_nat k (hi := l.length - 1) (by omega)).mono ?_)
      rintro _ _ ⟨j, rfl, hj, rfl⟩
      simp only [vms, vmc, AOpd.val, Nat.reduceEqDiff, reduceCtorEq, Nat.reduceAdd, Nat.reduceBEq]
      refine rest _ j (by omega) ?_ ?_ ?_ ?_ ?_ ?_ ?_
      all_goals simp only [vms, vmc, AOpd.val, Nat.reduceEqDiff, reduceCtorEq, Nat.reduceAdd, Nat.reduceBEq, g1, g5, g6, g7, g9, g14]
    · have d2 : decide ((i : Int) < (os.length : Int)) = false := by rw [decide_eq_false_iff_not]; omega
      simp only [c4l2C, c4l2A, c4l2B, c4l2, vms, vmc, AOpd.val, Nat.reduceEqDiff, reduceCtorEq, Nat.reduceAdd, Nat.reduceBEq, g1, g7, g14, ln, lno, d1, d2]
      refine rest _ 0 (by omega) ?_ ?_ ?_ ?_ ?_ ?_ ?_
      all_goals first | (simp only [vms, vmc, AOpd.val, Nat.reduceEqDiff, reduceCtorEq, Nat.reduceAdd, Nat.reduceBEq, g1, g5, g6, g7, g9, g14]; done) | (simp only [vms, vmc, AOpd.val, Nat.reduceEqDiff, reduceCtorEq, Nat.reduceAdd, Nat.reduceBEq]; rfl)
theorem order_run (k : Fits T) (hl : Low h) {ks : List Nat} {skv ov : AV} {os : List Int} (ss : Sees h skv (kcells ks)) (hks : ∀ b ∈ ks, b < 256) (hkl : ks.length < 9223372036854775808) (so : Sees h ov (icells os)) (hol : os.length < 9223372036854775808) :
    Gives T 4 [skv, ov] h fun r _ => r = .bool true := by
  refine gives_func (k.env _ (by decide)) (k.at (fn := a4) rfl) rfl ?_
  obtain ⟨z, hz⟩ : ∃ z : NodeP, z = { kind := 4, word := 0, pre := [], keys := [], kids := [] } := ⟨_, rfl⟩
  have fl : fillV [AV.int .i64 0, .int .u64 0, .str [], .nilSlice, .nilSlice] [(0, 1, .int .i64 4)] = some (z.cells .nilSlice .nilSlice) := by
    subst hz; simp [fillV, AV.isDef, AV.cells, setMany, NodeP.cells]
  have st : ∀ g : AH, storeV (g.new (.cells [.int .i64 0, .int .u64 0, .str [], .nilSlice, .nilSlice] true)) 5 (.ptr g.next 0) (.agg (z.cells .nilSlice .nilSlice)) = some ((g.new (.cells [.int .i64 0, .int .u64 0, .str [], .nilSlice, .nilSlice] true)).set g.next (.cells (z.cells .nilSlice .nilSlice) true)) :=
    fun g => store_all get_new_same rfl rfl rfl
  have lo1 : ∀ g : AH, Low g → Low ((g.new (.cells [.int .i64 0, .int .u64 0, .str [], .nilSlice, .nilSlice] true)).set g.next (.cells (z.cells .nilSlice .nilSlice) true)) := fun g lg => (lg.new _).set (by rw [next_new]; omega) _
  have q1 : ∀ g : AH, Quiet g ((g.new (.cells [.int .i64 0, .int .u64 0, .str [], .nilSlice, .nilSlice] true)).set g.next (.cells (z.cells .nilSlice .nilSlice) true)) := fun g => ((Quiet.refl g).new _).set (Nat.le_refl _) _
  have he : ∀ g : AH, Held ((g.new (.cells [.int .i64 0, .int .u64 0, .str [], .nilSlice, .nilSlice] true)).set g.next (.cells (z.cells .nilSlice .nilSlice) true)) g.next .nilSlice .nilSlice z := fun g => by
    subst hz; exact ⟨get_set_same, .inl ⟨rfl, rfl⟩, .inl ⟨rfl, rfl⟩, trivial, trivial⟩
  have nx : ∀ g : AH, ((g.new (.cells [.int .i64 0, .int .u64 0, .str [], .nilSlice, .nilSlice] true)).set g.next (.cells (z.cells .nilSlice .nilSlice) true)).next = g.next + 1 := fun g => rfl
  have oz : NodeO z [] := by
    subst hz
    exact ⟨rfl, rfl, rfl, ⟨by decide, by simp, by simp, rfl, by simp, fun i x h => by simp at h, fun i a b h => by simp at h⟩, by simp, fun c x => ⟨fun ⟨i, h, _⟩ => by simp at h, fun ⟨h, _⟩ => by simp at h⟩⟩
  simp only [a4, c4, vms, vmc, AOpd.val, Nat.reduceEqDiff, reduceCtorEq, Nat.reduceAdd, Nat.reduceBEq, fl, st]
  have hea := he h
  have loa := lo1 h hl
  have qa := q1 h
  have nxa := nx h
  generalize ((h.new (.cells [.int .i64 0, .int .u64 0, .str [], .nilSlice, .nilSlice] true)).set h.next (.cells (z.cells .nilSlice .nilSlice) true)) = ha at *
  have heb := he ha
  have lob := lo1 ha loa
  have qb := q1 ha
  have nxb := nx ha
  have hea2 := hea.keep loa qb
  generalize ((ha.new (.cells [.int .i64 0, .int .u64 0, .str [], .nilSlice, .nilSlice] true)).set ha.next (.cells (z.cells .nilSlice .nilSlice) true)) = hb at *
  have ssb := sees_keep (sees_keep ss hl qa) loa qb
  have sob := sees_keep (sees_keep so hl qa) loa qb
  refine order_loop0 lob ssb hkl ?_ ?_ ?_ ?_
  · simp only [vms, vmc, AOpd.val, Nat.reduceEqDiff, reduceCtorEq, Nat.reduceAdd, Nat.reduceBEq]
  · simp only [vms, vmc, AOpd.val, Nat.reduceEqDiff, reduceCtorEq, Nat.reduceAdd, Nat.reduceBEq]
  · simp only [vms, vmc, AOpd.val, Nat.reduceEqDiff, reduceCtorEq, Nat.reduceAdd, Nat.reduceBEq]
  intro f1 h1 v7 L r7 hLl hLm qc loc hfr a1 a5 a6 a7
  simp only [vms, vmc, AOpd.val, Nat.reduceEqDiff, reduceCtorEq, Nat.reduceAdd, Nat.reduceBEq] at a1 a5 a6
  have hL : ∀ b ∈ L, b < 256 := fun b hb => hks b (hLm b hb)
  have ln7 : lenOfV v7 = some L.length := by simpa [kcells] using r7.sees.len
  have he5 := hea2.keep lob qc
  have he6 := heb.keep lob qc
  have so1 := sees_keep sob lob qc
  have hn5 : h.next < hb.next := by omega
  have hn6 : ha.next < hb.next := by omega
  simp only [vms, vmc, AOpd.val, Nat.reduceEqDiff, reduceCtorEq, Nat.reduceAdd, Nat.reduceBEq, a1, a5, a6, a7, ln7]
  refine order_loop1 k loc hL hLl r7 (fun hm => by have := hfr _ hm; omega) he5 oz (by simp [objs]) (by simp [objs]) ?_ ?_ ?_ ?_ ?_ ?_
  · simp only [vms, vmc, AOpd.val, Nat.reduceEqDiff, reduceCtorEq, Nat.reduceAdd, Nat.reduceBEq, a5]
  · simp only [vms, vmc, AOpd.val, Nat.reduceEqDiff, reduceCtorEq, Nat.reduceAdd, Nat.reduceBEq]
  · simp only [vms, vmc, AOpd.val, Nat.reduceEqDiff, reduceCtorEq, Nat.reduceAdd, Nat.reduceBEq, a7]
  · simp only [vms, vmc, AOpd.val, Nat.reduceEqDiff, reduceCtorEq, Nat.reduceAdd, Nat.reduceBEq]
  · simp only [vms, vmc, AOpd.val, Nat.reduceEqDiff, reduceCtorEq, Nat.reduceAdd, Nat.reduceBEq]
  intro f2 h2 n kv iv S oN hS heN hkN hvN lo2 but2 ok1 ok2 b1 b5 b6 b7 b9
  simp only [vms, vmc, AOpd.val, Nat.reduceEqDiff, reduceCtorEq, Nat.reduceAdd, Nat.reduceBEq, a1, a5, a6, a7] at b1 b6 b7
  have n1 := qc.1
  have n2 := but2.1
  have he62 := but2.held loc he6 (by omega) (by simp [objs]) (by simp [objs])
  have r72 := but2.row loc r7 (fun hm => by have := hfr _ hm; omega)
  have so2 := but2.sees loc so1 (fun hm => by have := sees_low so hl _ hm; omega)
  simp only [vms, vmc, AOpd.val, Nat.reduceEqDiff, reduceCtorEq, Nat.reduceAdd, Nat.reduceBEq, b1, b5, b6, b7, b9]
  refine order_loop2 k lo2 hL hLl r72 (fun hm => by have := hfr _ hm; omega) so2 hol (fun hm => by have := sees_low so hl _ hm; omega) he62 oz (by simp [objs]) (by simp [objs]) ?_ ?_ ?_ ?_ ?_ ?_
  · simp only [vms, vmc, AOpd.val, Nat.reduceEqDiff, reduceCtorEq, Nat.reduceAdd, Nat.reduceBEq, b1]
  · simp only [vms, vmc, AOpd.val, Nat.reduceEqDiff, reduceCtorEq, Nat.reduceAdd, Nat.reduceBEq, b6]
  · simp only [vms, vmc, AOpd.val, Nat.reduceEqDiff, reduceCtorEq, Nat.reduceAdd, Nat.reduceBEq, b7]
  · simp only [vms, vmc, AOpd.val, Nat.reduceEqDiff, reduceCtorEq, Nat.reduceAdd, Nat.reduceBEq, b9]
  · simp only [vms, vmc, AOpd.val, Nat.reduceEqDiff, reduceCtorEq, Nat.reduceAdd, Nat.reduceBEq]
  intro f3 h3 m mk mi S' oM hS' heM lo3 but3 d5 d6
  simp only [vms, vmc, AOpd.val, Nat.reduceEqDiff, reduceCtorEq, Nat.reduceAdd, Nat.reduceBEq, b5] at d5
  have n3 := but3.1
  have heN3 := but3.held lo2 heN (by omega) (fun hm => by
    rcases ok1 _ hm with h | h
    · simp [objs] at h
    · omega) (fun hm => by
    rcases ok2 _ hm with h | h
    · simp [objs] at h
    · omega)
  have okn := oN.right.ok (by rw [oN.word]; decide)
  have okm := oM.right.ok (by rw [oM.word]; decide)
  have hnm : n = m := node_ext oN.right oM.right (oN.kind.trans oM.kind.symm) (oN.word.trans oM.word.symm) (oN.pre.trans oM.pre.symm) fun c x => by rw [oN.has, oM.has, hS, hS']
  simp only [vms, vmc, AOpd.val, Nat.reduceEqDiff, reduceCtorEq, Nat.reduceAdd, Nat.reduceBEq, d5, d6, heN3.load, heM.load]
  refine Gives.bind ((same_ok k lo3 okn okm heN3.v heM.v).mono ?_)
  rintro _ h4 ⟨q4, lo4, bb, rfl, hbb⟩
  have : bb = true := hbb.2 hnm
  subst this
  have heN4 := heN3.keep lo3 q4
  simp only [vms, vmc, AOpd.val, Nat.reduceEqDiff, reduceCtorEq, Nat.reduceAdd, Nat.reduceBEq, d5, d6, heN4.load]
  refine Gives.bind ((right_ok k lo4 okn heN4.v).mono ?_)
  rintro _ h5 ⟨rfl, q5, lo5⟩
  simp only [vms, vmc, AOpd.val, Nat.reduceEqDiff, reduceCtorEq, Nat.reduceAdd, Nat.reduceBEq, rightP_iff.2 oN.right]
  refine Gives.bind ((k.yes _).mono ?_)
  rintro _ _ ⟨rfl, rfl⟩
  simp only [vms, vmc, AOpd.val, Nat.reduceEqDiff, reduceCtorEq, Nat.reduceAdd, Nat.reduceBEq]
end Go.Proofs.Ytpabmkicdcilpaa

/- With a child at a byte. -/
import Derived.Test.YtpabmkicdcilpaaP7NodeA
namespace Go.Proofs.Ytpabmkicdcilpaa
open Go.Vm
set_option linter.unusedSimpArgs false
set_option linter.unusedVariables false
set_option maxRecDepth 100000
variable {T : Vm.Prog} {h : AH}
theorem look_build {f : Fr} {d o sz len : Nat} {zero l : List AV} {parts : List (Nat × Nat × AOpd)} (hd : f.at d = .slice o 0 sz len len true) (ho : h.get o = some (.cells l true)) (hf : fillV zero (parts.map fun p => (p.1, p.2.1, p.2.2.val f)) = some l) (hb : AV.beqs l l = true) : AOper.lookAgain ⟨some d, .buildSlice sz len zero parts, none⟩ f h = true := by
  unfold AOper.lookAgain
  simp only [wantedV, AOp.eval, hf, Option.map_some]
  rw [if_neg (by rw [next_new]; omega), hd]
  simp only [objOf, get_new_same, ho, beqObj, hb]
  rfl
theorem row1_at {v : AV} {xs : List AV} (r : Row1 h v xs) {i : Nat} {x y : AV} (hx : xs[i]? = some x) (hc : y.cells = [y]) (hf : y.flat = true) : ∃ o p h', objs v = [o] ∧ idxAddrV 1 v (.int .i64 (i : Int)) = some p ∧ storeV h 1 p y = some h' ∧ Upd h h' o ∧ Row1 h' v (xs.set i y) := by
  obtain ⟨o, ho, hi, _, hs⟩ := RowS.at r (i := i) (x := [x]) (by rw [List.getElem?_map, hx]; rfl)
  obtain ⟨h', hst, hu, hr⟩ := hs 0 y (by decide) hc hf
  refine ⟨o, _, h', ho, hi, hst, hu, ?_⟩
  have : (xs.set i y).map (fun x => [x]) = (xs.map fun x => [x]).set i ([x].set 0 y) := by rw [List.map_set]; rfl
  unfold Row1
  rw [this]; exact hr
/-- A new node, in rows of its own. -/
def NodeN (N : Nat) (h : AH) (v : AV) (n : NodeP) : Prop := ∃ kv iv, v = .agg (n.cells kv iv) ∧ Row1 h kv (kcells n.keys) ∧ Row1 h iv (icells n.kids) ∧ (∀ o ∈ objs kv, N ≤ o) ∧ (∀ o ∈ objs iv, N ≤ o ∧ o ∉ objs kv)
theorem NodeN.v {N : Nat} {v : AV} {n : NodeP} (s : NodeN N h v n) : NodeV h v n := by
  obtain ⟨kv, iv, rfl, r1, r2, _⟩ := s
  exact ⟨kv, iv, rfl, r1.sees, r2.sees⟩
def zeroNode : AV := .agg [.int .i64 0, .int .u64 0, .str [], .nilSlice, .nilSlice]
theorem kflat {l : List Nat} : ∀ x ∈ kcells l, AV.flat x = true := by
  intro x hx; simp only [kcells, List.mem_map] at hx; obtain ⟨y, _, rfl⟩ := hx; rfl
theorem iflat {l : List Int} : ∀ x ∈ icells l, AV.flat x = true := by
  intro x hx; simp only [icells, List.mem_map] at hx; obtain ⟨y, _, rfl⟩ := hx; rfl
/-- What With comes to. -/
def WithIs (n : NodeP) (b : Nat) (kid : Int) : Option NodeP → Prop
  | none => ¬ RightP n ∨ isRefP kid = false ∨ ((∀ i : Nat, n.keys[i]? ≠ some b) ∧ highP n.kind ≤ n.keys.length)
  | some m => RightP n ∧ isRefP kid = true ∧ ((∃ i : Nat, n.keys[i]? = some b ∧ m = { n with kids := n.kids.set i kid }) ∨
      (n.keys.length < highP n.kind ∧ ∃ i : Nat, i ≤ n.keys.length ∧ (∀ (t a : Nat), t < i → n.keys[t]? = some a → a < b) ∧ (∀ (t a : Nat), i ≤ t → n.keys[t]? = some a → b < a) ∧
        m = { n with keys := n.keys.take i ++ [b] ++ n.keys.drop i, kids := n.kids.take i ++ [kid] ++ n.kids.drop i }))
theorem with_ok (k : Fits T) (hl : Low h) {v : AV} {n : NodeP} (ok : n.Ok) (s : NodeV h v n) {b : Nat} {kid : Int} : Gives T 16 [v, .int .u8 (b : Int), .int .i64 kid] h fun r h' => Quiet h h' ∧ Low h' ∧
    ((WithIs n b kid none ∧ r = .tuple [zeroNode, .bool false]) ∨ ∃ m mv, WithIs n b kid (some m) ∧ NodeN h.next h' mv m ∧ r = .tuple [mv, .bool true]) := by
  obtain ⟨kv, iv, rfl, s1, s2⟩ := s
  refine gives_func (k.env _ (by decide)) (k.at (fn := a16) rfl) rfl ?_
  have fa : ∀ o j, fieldAddrV j (.ptr o 0) = some (.ptr o (0 + j)) := fun o j => rfl
  have q1 : Quiet h ((h.new (.cells (n.cells kv iv) true)).new (.cells [.int .i64 0, .int .u64 0, .str [], .nilSlice, .nilSlice] true)) := ((Quiet.refl _).new _).new _
  have lo1 : Low ((h.new (.cells (n.cells kv iv) true)).new (.cells [.int .i64 0, .int .u64 0, .str [], .nilSlice, .nilSlice] true)) := (hl.new _).new _
  have hg : ((h.new (.cells (n.cells kv iv) true)).new (.cells [.int .i64 0, .int .u64 0, .str [], .nilSlice, .nilSlice] true)).get h.next = some (.cells (n.cells kv iv) true) := by
    rw [AH.get_new, if_neg (by rw [next_new]; omega), get_new_same]
  have hz : ((h.new (.cells (n.cells kv iv) true)).new (.cells [.int .i64 0, .int .u64 0, .str [], .nilSlice, .nilSlice] true)).get (h.next + 1) = some (.cells [.int .i64 0, .int .u64 0, .str [], .nilSlice, .nilSlice] true) := get_new_same
  have t1 := sees_keep s1 hl q1
  have t2 := sees_keep s2 hl q1
  have nx : ((h.new (.cells (n.cells kv iv) true)).new (.cells [.int .i64 0, .int .u64 0, .str [], .nilSlice, .nilSlice] true)).next = h.next + 2 := rfl
  simp only [a16, c16, vms, vmc, AOpd.val, Nat.reduceEqDiff, reduceCtorEq, Nat.reduceAdd, Nat.reduceBEq, box_agg, next_new]
  generalize ((h.new (.cells (n.cells kv iv) true)).new (.cells [.int .i64 0, .int .u64 0, .str [], .nilSlice, .nilSlice] true)) = h1 at *
  have hl5 : (n.cells kv iv).length = 5 := rfl
  have zf : ([AV.int .i64 0, .int .u64 0, .str [], .nilSlice, .nilSlice]).all AV.flat = true := rfl
  have bz : fillV [AV.int .i64 0, .int .u64 0, .str [], .nilSlice, .nilSlice] [] = some [AV.int .i64 0, .int .u64 0, .str [], .nilSlice, .nilSlice] := rfl
  -- what is refused
  have stz : ∀ {h2 : AH}, h2.get (h.next + 1) = some (.cells [.int .i64 0, .int .u64 0, .str [], .nilSlice, .nilSlice] true) → storeV h2 5 (.ptr (h.next + 1) 0) (.agg [.int .i64 0, .int .u64 0, .str [], .nilSlice, .nilSlice]) = some (h2.set (h.next + 1) (.cells [.int .i64 0, .int .u64 0, .str [], .nilSlice, .nilSlice] true)) := fun hz2 => store_all (n := 5) (l' := [AV.int .i64 0, .int .u64 0, .str [], .nilSlice, .nilSlice]) hz2 rfl rfl zf
  have ldz : ∀ {h2 : AH}, loadV (h2.set (h.next + 1) (.cells [.int .i64 0, .int .u64 0, .str [], .nilSlice, .nilSlice] true)) true 5 (.ptr (h.next + 1) 0) = some (.agg [.int .i64 0, .int .u64 0, .str [], .nilSlice, .nilSlice]) := fun {h2} => load_all (get_set_same (h := h2) (o := h.next + 1) (x := .cells [AV.int .i64 0, .int .u64 0, .str [], .nilSlice, .nilSlice] true)) (n := 5) rfl
  simp only [load_all hg hl5, vms, vmc, AOpd.val, Nat.reduceEqDiff, reduceCtorEq, Nat.reduceAdd, Nat.reduceBEq]
  refine Gives.bind ((right_ok k lo1 ok ⟨kv, iv, rfl, t1, t2⟩).mono ?_)
  rintro _ h2 ⟨rfl, q2, lo2⟩
  have hg2 := q2.get hg (lo1 _ _ hg)
  have hz2 := q2.get hz (lo1 _ _ hz)
  have q12 := q1.trans q2
  have nx2 := q2.1
  have outz : ∀ {h2 : AH}, WithIs n b kid none → Quiet h h2 → Low h2 → h2.get (h.next + 1) = some (.cells [.int .i64 0, .int .u64 0, .str [], .nilSlice, .nilSlice] true) → Quiet h (h2.set (h.next + 1) (.cells [.int .i64 0, .int .u64 0, .str [], .nilSlice, .nilSlice] true)) ∧ Low (h2.set (h.next + 1) (.cells [.int .i64 0, .int .u64 0, .str [], .nilSlice, .nilSlice] true)) ∧
    ((WithIs n b kid none ∧ AV.tuple [AV.agg [.int .i64 0, .int .u64 0, .str [], .nilSlice, .nilSlice], AV.bool false] = .tuple [zeroNode, .bool false]) ∨ ∃ m mv, WithIs n b kid (some m) ∧ NodeN h.next (h2.set (h.next + 1) (.cells [.int .i64 0, .int .u64 0, .str [], .nilSlice, .nilSlice] true)) mv m ∧ AV.tuple [AV.agg [.int .i64 0, .int .u64 0, .str [], .nilSlice, .nilSlice], AV.bool false] = .tuple [mv, .bool true]) :=
    fun hw q lo hz2 => ⟨q.set (by omega) _, lo.set (lo _ _ hz2) _, .inl ⟨hw, rfl⟩⟩
  by_cases hR' : ¬ RightP n
  · have hb := rightP_no hR'
    simp only [vms, vmc, AOpd.val, Nat.reduceEqDiff, reduceCtorEq, Nat.reduceAdd, Nat.reduceBEq, hb, Bool.not_false, bz, stz hz2, res_cell, ldz]
    exact outz (.inl hR') q12 lo2 hz2
  have hR : RightP n := Classical.not_not.1 hR'
  have hb := rightP_iff.2 hR
  simp only [vms, vmc, AOpd.val, Nat.reduceEqDiff, reduceCtorEq, Nat.reduceAdd, Nat.reduceBEq, hb, Bool.not_true]
  refine Gives.bind ((isRef_ok k).mono ?_)
  rintro _ _ ⟨rfl, rfl⟩
  rename_i h2
  by_cases hK : isRefP kid = false
  · simp only [vms, vmc, AOpd.val, Nat.reduceEqDiff, reduceCtorEq, Nat.reduceAdd, Nat.reduceBEq, hK, Bool.not_false, bz, stz hz2, res_cell, ldz]
    exact outz (.inr (.inl hK)) q12 lo2 hz2
  have hK1 : isRefP kid = true := by simpa using hK
  have l3 := load_at hg2 (i := 3) (v := kv) rfl
  have l4 := load_at hg2 (i := 4) (v := iv) rfl
  have kl := ok.keys
  have il := ok.kids
  have u1 := sees_keep t1 lo1 q2
  have u2 := sees_keep t2 lo1 q2
  simp only [vms, vmc, AOpd.val, Nat.reduceEqDiff, reduceCtorEq, Nat.reduceAdd, Nat.reduceBEq, hK1, Bool.not_true, fa, Nat.zero_add, l3, l4]
  refine Gives.bind ((clone1_ok (k.env _ (by decide)) (k.at (fn := a57) rfl) lo2 u1 (by decide) (by simp [kcells]; omega)).mono ?_)
  rintro kv' h3 ⟨r1, f1, q3, lo3⟩
  have hg3 := q3.get hg2 (lo2 _ _ hg2)
  have hz3 := q3.get hz2 (lo2 _ _ hz2)
  have l34 := load_at hg3 (i := 4) (v := iv) rfl
  have u3 := sees_keep u2 lo2 q3
  simp only [vms, vmc, AOpd.val, Nat.reduceEqDiff, reduceCtorEq, Nat.reduceAdd, Nat.reduceBEq, fa, Nat.zero_add]
  rw [items_look (look_load (v := iv) (by show loadV _ _ _ (Fr.at _ _) = _; simp only [vms, vmc, AOpd.val, Nat.reduceEqDiff, reduceCtorEq, Nat.reduceAdd, Nat.reduceBEq]; exact l34) (by simp only [vms, vmc, AOpd.val, Nat.reduceEqDiff, reduceCtorEq, Nat.reduceAdd, Nat.reduceBEq]) (sees_beq u3))]
  simp only [vms, vmc, AOpd.val, Nat.reduceEqDiff, reduceCtorEq, Nat.reduceAdd, Nat.reduceBEq]
  refine Gives.bind ((clone1_ok (k.env _ (by decide)) (k.at (fn := a58) rfl) lo3 u3 (by decide) (by simp [icells]; omega)).mono ?_)
  rintro iv' h4 ⟨r2, f2, q4, lo4⟩
  have hg4 := q4.get hg3 (lo3 _ _ hg3)
  have hz4 := q4.get hz3 (lo3 _ _ hz3)
  have r1' : Row1 h4 kv' (kcells n.keys) := RowS.keep r1 fun o ho => q4.2 o (RowS.low r1 lo3 o ho) id
  have w3 : ∀ {g : AH} {a c : AV}, g.get h.next = some (.cells (n.cells a c) true) → storeV g 1 (.ptr h.next 3) kv' = some (g.set h.next (.cells (n.cells kv' c) true)) := fun hg => store_at (l := n.cells _ _) hg (by simp [NodeP.cells]) (RowS.cell r1).1 (RowS.cell r1).2.1
  have w4 : ∀ {g : AH} {a c : AV}, g.get h.next = some (.cells (n.cells a c) true) → storeV g 1 (.ptr h.next 4) iv' = some (g.set h.next (.cells (n.cells a iv') true)) := fun hg => store_at (l := n.cells _ _) hg (by simp [NodeP.cells]) (RowS.cell r2).1 (RowS.cell r2).2.1
  simp only [vms, vmc, AOpd.val, Nat.reduceEqDiff, reduceCtorEq, Nat.reduceAdd, Nat.reduceBEq, fa, Nat.zero_add, w3 hg4, w4 (get_set_same (h := h4))]
  have hset : ∀ (A B : AObj), ∀ q, ((h4.set h.next A).set h.next B).get q = if h.next = q then some B else h4.get q := fun A B q => by
    rw [AH.get_set, AH.get_set]; split <;> rfl
  have hg5 : ((h4.set h.next (.cells (n.cells kv' iv) true)).set h.next (.cells (n.cells kv' iv') true)).get h.next = some (.cells (n.cells kv' iv') true) := get_set_same
  have hz5 : ((h4.set h.next (.cells (n.cells kv' iv) true)).set h.next (.cells (n.cells kv' iv') true)).get (h.next + 1) = some (.cells [.int .i64 0, .int .u64 0, .str [], .nilSlice, .nilSlice] true) := by rw [hset, if_neg (by omega)]; exact hz4
  have q5 : Quiet h ((h4.set h.next (.cells (n.cells kv' iv) true)).set h.next (.cells (n.cells kv' iv') true)) := (((q12.trans q3).trans q4).set (Nat.le_refl _) _).set (Nat.le_refl _) _
  have lo5 : Low ((h4.set h.next (.cells (n.cells kv' iv) true)).set h.next (.cells (n.cells kv' iv') true)) := (lo4.set (lo4 _ _ hg4) _).set (by rw [next_set]; exact lo4 _ _ hg4) _
  have nx3 := q3.1
  have nx4 := q4.1
  have f1' : ∀ o ∈ objs kv', h.next + 2 ≤ o := fun o ho => by have := f1 o ho; omega
  have f2' : ∀ o ∈ objs iv', h.next + 2 ≤ o ∧ o ∉ objs kv' := fun o ho => ⟨by have := f2 o ho; omega, fun hm => by have := f2 o ho; have := RowS.low r1 lo3 o hm; omega⟩
  have r15 : Row1 ((h4.set h.next (.cells (n.cells kv' iv) true)).set h.next (.cells (n.cells kv' iv') true)) kv' (kcells n.keys) := RowS.keep r1' fun o ho => by have := f1' o ho; rw [hset, if_neg (by omega)]
  have r25 : Row1 ((h4.set h.next (.cells (n.cells kv' iv) true)).set h.next (.cells (n.cells kv' iv') true)) iv' (icells n.kids) := RowS.keep r2 fun o ho => by have := (f2' o ho).1; rw [hset, if_neg (by omega)]
  generalize ((h4.set h.next (.cells (n.cells kv' iv) true)).set h.next (.cells (n.cells kv' iv') true)) = h5 at *
  have l53 := load_at hg5 (i := 3) (v := kv') rfl
  have l54 := load_at hg5 (i := 4) (v := iv') rfl
  have l50 := load_at hg5 (i := 0) (v := .int .i64 n.kind) rfl
  simp only [vms, vmc, AOpd.val, Nat.reduceEqDiff, reduceCtorEq, Nat.reduceAdd, Nat.reduceBEq, fa, Nat.zero_add, l53]
  refine Gives.bind ((bsearch_ok k r15.sees kl hR.rise).mono ?_)
  rintro _ _ ⟨rfl, i, hi, hlo, hhi, rfl⟩
  rename_i h5
  have hsame := hR.same
  have hl5' : ∀ {a c : AV}, (n.cells a c).length = 5 := rfl
  have finish : ∀ {h6 : AH} {m : NodeP} {a c : AV}, WithIs n b kid (some m) → Quiet h h6 → Low h6 → h6.get h.next = some (.cells (n.cells a c) true) → h6.get (h.next + 1) = some (.cells [.int .i64 0, .int .u64 0, .str [], .nilSlice, .nilSlice] true) → Row1 h6 a (kcells m.keys) → Row1 h6 c (icells m.kids) → (∀ o ∈ objs a, h.next + 2 ≤ o) → (∀ o ∈ objs c, h.next + 2 ≤ o ∧ o ∉ objs a) →
      storeV h6 5 (.ptr (h.next + 1) 0) (.agg (n.cells a c)) = some (h6.set (h.next + 1) (.cells (n.cells a c) true)) ∧ loadV (h6.set (h.next + 1) (.cells (n.cells a c) true)) true 5 (.ptr (h.next + 1) 0) = some (.agg (n.cells a c)) ∧
      (Quiet h (h6.set (h.next + 1) (.cells (n.cells a c) true)) ∧ Low (h6.set (h.next + 1) (.cells (n.cells a c) true)) ∧ ((WithIs n b kid none ∧ AV.tuple [AV.agg (n.cells a c), .bool true] = .tuple [zeroNode, .bool false]) ∨ ∃ m mv, WithIs n b kid (some m) ∧ NodeN h.next (h6.set (h.next + 1) (.cells (n.cells a c) true)) mv m ∧ AV.tuple [AV.agg (n.cells a c), .bool true] = .tuple [mv, .bool true])) := by
    intro h6 m a c hw q lo hgp hgz ra rc fa' fc
    have hm : m.cells a c = n.cells a c := by
      rcases hw.2.2 with ⟨_, _, rfl⟩ | ⟨_, _, _, _, _, rfl⟩ <;> rfl
    refine ⟨store_all hgz rfl rfl (by simp only [NodeP.cells, List.all_cons, List.all_nil, (RowS.cell ra).2.1, (RowS.cell rc).2.1]; rfl), load_all get_set_same rfl, q.set (by omega) _, lo.set (lo _ _ hgz) _, .inr ⟨m, _, hw, ⟨a, c, by rw [hm], RowS.keep ra fun o ho => ?_, RowS.keep rc fun o ho => ?_, fun o ho => by have := fa' o ho; omega, fun o ho => ⟨by have := (fc o ho).1; omega, (fc o ho).2⟩⟩, rfl⟩⟩
    · have := fa' o ho; rw [AH.get_set, if_neg (by omega)]
    · have := (fc o ho).1; rw [AH.get_set, if_neg (by omega)]
  by_cases hth : n.keys[i]? = some b
  · -- it is there
    have hil := (List.getElem?_eq_some_iff.1 hth).1
    obtain ⟨x, hx⟩ : ∃ x, n.kids[i]? = some x := ⟨_, List.getElem?_eq_getElem (by omega)⟩
    obtain ⟨o, p, h6, ho, hp, hst, hu, hr6⟩ := row1_at r25 (i := i) (x := .int .i64 x) (y := .int .i64 kid) (by simp [icells, hx]) rfl rfl
    have hoo := f2' o (by rw [ho]; simp)
    have hg6 : h6.get h.next = some (.cells (n.cells kv' iv') true) := by rw [hu.2 _ (by omega)]; exact hg5
    have hz6 : h6.get (h.next + 1) = some (.cells [.int .i64 0, .int .u64 0, .str [], .nilSlice, .nilSlice] true) := by rw [hu.2 _ (by omega)]; exact hz5
    have r16 : Row1 h6 kv' (kcells n.keys) := RowS.keep r15 fun q hq => hu.2 q (fun e => hoo.2 (e ▸ hq))
    have fin := finish (h6 := h6) (m := { n with kids := n.kids.set i kid }) (a := kv') (c := iv') ⟨hR, hK1, .inl ⟨i, hth, rfl⟩⟩ (by
      refine ⟨by rw [hu.1]; exact q5.1, fun q hq hF => ?_⟩
      rw [hu.2 q (by omega)]; exact q5.2 q hq hF) (by
      intro q x hq
      by_cases e : q = o
      · subst e; rw [hu.1]; exact RowS.low r25 lo5 _ (by rw [ho]; simp)
      · rw [hu.2 q e] at hq; rw [hu.1]; exact lo5 _ _ hq) hg6 hz6 r16 (by
      have : icells (n.kids.set i kid) = (icells n.kids).set i (.int .i64 kid) := by simp [icells, List.map_set]
      rw [this]; exact hr6) (fun o ho => f1' o ho) f2'
    obtain ⟨st, ld, res⟩ := fin
    simp only [vms, vmc, AOpd.val, Nat.reduceEqDiff, reduceCtorEq, Nat.reduceAdd, Nat.reduceBEq, hth, decide_true, fa, Nat.zero_add, l54, hp, hst, load_all hg6 hl5', st, res_cell, ld]
    exact res
  · -- it is not
    have hno : ∀ t : Nat, n.keys[t]? ≠ some b := fun t e => by
      by_cases ht : t < i
      · have := hlo t b ht e; omega
      · by_cases ht2 : t = i
        · subst ht2; exact hth e
        · obtain ⟨y, hy⟩ : ∃ y, n.keys[i]? = some y := ⟨_, List.getElem?_eq_getElem (by have := (List.getElem?_eq_some_iff.1 e).1; omega)⟩
          have h1 := hhi i y (Nat.le_refl _) hy
          have h2 := rise_of hR.rise (show i < t by omega) hy e
          omega
    have hhi' : ∀ (t a : Nat), i ≤ t → n.keys[t]? = some a → b < a := fun t a ht ha => by
      have := hhi t a ht ha
      have : a ≠ b := fun e => hno t (e ▸ ha)
      omega
    have n1 : lenOfV kv' = some n.keys.length := by simpa [kcells] using r15.sees.len
    simp only [vms, vmc, AOpd.val, Nat.reduceEqDiff, reduceCtorEq, Nat.reduceAdd, Nat.reduceBEq, hth, decide_false, fa, Nat.zero_add, l53, l50, n1]
    refine Gives.bind ((high_ok k).mono ?_)
    rintro _ _ ⟨rfl, rfl⟩
    rename_i h5
    by_cases hfull : highP n.kind ≤ n.keys.length
    · have d1 : decide ((n.keys.length : Int) ≥ (highP n.kind : Nat)) = true := by rw [decide_eq_true_eq]; omega
      simp only [vms, vmc, AOpd.val, Nat.reduceEqDiff, reduceCtorEq, Nat.reduceAdd, Nat.reduceBEq, d1]
      rw [items_look (look_load (v := kv') (by show loadV _ _ _ (Fr.at _ _) = _; simp only [vms, vmc, AOpd.val, Nat.reduceEqDiff, reduceCtorEq, Nat.reduceAdd, Nat.reduceBEq]; exact l53) (by simp only [vms, vmc, AOpd.val, Nat.reduceEqDiff, reduceCtorEq, Nat.reduceAdd, Nat.reduceBEq]) (sees_beq r15.sees))]
      simp only [vms, vmc, AOpd.val, Nat.reduceEqDiff, reduceCtorEq, Nat.reduceAdd, Nat.reduceBEq, bz, stz hz5, res_cell, ldz]
      exact outz (.inr (.inr ⟨hno, hfull⟩)) q5 lo5 hz5
    · have d1 : decide ((n.keys.length : Int) ≥ (highP n.kind : Nat)) = false := by rw [decide_eq_false_iff_not]; omega
      simp only [vms, vmc, AOpd.val, Nat.reduceEqDiff, reduceCtorEq, Nat.reduceAdd, Nat.reduceBEq, d1]
      rw [items_look (look_load (v := kv') (by show loadV _ _ _ (Fr.at _ _) = _; simp only [vms, vmc, AOpd.val, Nat.reduceEqDiff, reduceCtorEq, Nat.reduceAdd, Nat.reduceBEq]; exact l53) (by simp only [vms, vmc, AOpd.val, Nat.reduceEqDiff, reduceCtorEq, Nat.reduceAdd, Nat.reduceBEq]) (sees_beq r15.sees))]
      have fb : fillV [AV.int .u8 0] [(0, 1, .int .u8 (b : Int))] = some [.int .u8 (b : Int)] := by simp [fillV, AV.isDef, AV.cells, setMany]
      have fk : fillV [AV.int .i64 0] [(0, 1, .int .i64 kid)] = some [.int .i64 kid] := by simp [fillV, AV.isDef, AV.cells, setMany]
      have hg5n : (h5.new (.cells [.int .u8 (b : Int)] true)).get h.next = some (.cells (n.cells kv' iv') true) := by rw [AH.get_new, if_neg (by have := lo5 _ _ hg5; omega)]; exact hg5
      simp only [vms, vmc, AOpd.val, Nat.reduceEqDiff, reduceCtorEq, Nat.reduceAdd, Nat.reduceBEq, fa, Nat.zero_add, l53, fb, load_at hg5n (i := 4) (v := iv') rfl, fk]
      have lo6 : Low ((h5.new (.cells [.int .u8 (b : Int)] true)).new (.cells [.int .i64 kid] true)) := (lo5.new _).new _
      have q56 : Quiet h5 ((h5.new (.cells [.int .u8 (b : Int)] true)).new (.cells [.int .i64 kid] true)) := ((Quiet.refl _).new _).new _
      have gB1 : ((h5.new (.cells [.int .u8 (b : Int)] true)).new (.cells [.int .i64 kid] true)).get h5.next = some (.cells [.int .u8 (b : Int)] true) := by rw [AH.get_new, if_neg (by rw [next_new]; omega), get_new_same]
      have gB2 : ((h5.new (.cells [.int .u8 (b : Int)] true)).new (.cells [.int .i64 kid] true)).get (h5.next + 1) = some (.cells [.int .i64 kid] true) := get_new_same
      have nx6 : ((h5.new (.cells [.int .u8 (b : Int)] true)).new (.cells [.int .i64 kid] true)).next = h5.next + 2 := rfl
      have nx5 := q5.1
      simp only [next_new]
      generalize ((h5.new (.cells [.int .u8 (b : Int)] true)).new (.cells [.int .i64 kid] true)) = h6 at *
      have hg6 := q56.get hg5 (lo5 _ _ hg5)
      have hz6 := q56.get hz5 (lo5 _ _ hz5)
      have lk : ∀ {g : AH} {a c : AV}, g.get h.next = some (.cells (n.cells a c) true) → loadV g false 1 (.ptr h.next 3) = some a ∧ loadV g false 1 (.ptr h.next 4) = some c := fun hg => ⟨load_at hg rfl, load_at hg rfl⟩
      have bq1 : AV.beqs [.int .u8 (b : Int)] [.int .u8 (b : Int)] = true := by simp [AV.beqs, AV.beq]
      have bq2 : AV.beqs [.int .i64 kid] [.int .i64 kid] = true := by simp [AV.beqs, AV.beq]
      rw [items_look (look_load (v := kv') (by show loadV _ _ _ (Fr.at _ _) = _; simp only [vms, vmc, AOpd.val, Nat.reduceEqDiff, reduceCtorEq, Nat.reduceAdd, Nat.reduceBEq]; exact (lk hg6).1) (by simp only [vms, vmc, AOpd.val, Nat.reduceEqDiff, reduceCtorEq, Nat.reduceAdd, Nat.reduceBEq]) (sees_beq r15.sees)),
        items_look (look_build (o := h5.next) (l := [.int .u8 (b : Int)]) (by simp only [vms, vmc, AOpd.val, Nat.reduceEqDiff, reduceCtorEq, Nat.reduceAdd, Nat.reduceBEq]) gB1 (by simp only [vms, vmc, AOpd.val, Nat.reduceEqDiff, reduceCtorEq, Nat.reduceAdd, Nat.reduceBEq, fb]) bq1),
        items_look (look_load (v := iv') (by show loadV _ _ _ (Fr.at _ _) = _; simp only [vms, vmc, AOpd.val, Nat.reduceEqDiff, reduceCtorEq, Nat.reduceAdd, Nat.reduceBEq]; exact (lk hg6).2) (by simp only [vms, vmc, AOpd.val, Nat.reduceEqDiff, reduceCtorEq, Nat.reduceAdd, Nat.reduceBEq]) (sees_beq r25.sees)),
        items_look (look_build (o := h5.next + 1) (l := [.int .i64 kid]) (by simp only [vms, vmc, AOpd.val, Nat.reduceEqDiff, reduceCtorEq, Nat.reduceAdd, Nat.reduceBEq]) gB2 (by simp only [vms, vmc, AOpd.val, Nat.reduceEqDiff, reduceCtorEq, Nat.reduceAdd, Nat.reduceBEq, fk]) bq2)]
      have r16 : Row1 h6 kv' (kcells n.keys) := RowS.keep r15 fun o ho => q56.2 o (RowS.low r15 lo5 o ho) id
      have r26 : Row1 h6 iv' (icells n.kids) := RowS.keep r25 fun o ho => q56.2 o (RowS.low r25 lo5 o ho) id
      have kcl : (kcells n.keys).length = n.keys.length := by simp [kcells]
      have icl : (icells n.kids).length = n.kids.length := by simp [icells]
      have hh : highP n.kind ≤ 256 := by unfold highP; (repeat' split) <;> omega
      simp only [vms, vmc, AOpd.val, Nat.reduceEqDiff, reduceCtorEq, Nat.reduceAdd, Nat.reduceBEq]
      refine Gives.bind ((insert_ok (func := table) (v1 := 82) (v2 := 84) k.insB (by rfl) (by rfl) (by rfl) (by decide) (by decide) lo6 r16 kflat (i := i) (by omega) (by omega) gB1 rfl (fun hm => by have := RowS.low r15 lo5 _ hm; omega)).mono ?_)
      rintro kv2 h7 ⟨r17, f17, m17, on7, lo7⟩
      have hg7 : h7.get h.next = some (.cells (n.cells kv' iv') true) := by rw [on7.2 _ (lo6 _ _ hg6) (fun hm => by have := f1' _ hm; omega)]; exact hg6
      have hz7 : h7.get (h.next + 1) = some (.cells [.int .i64 0, .int .u64 0, .str [], .nilSlice, .nilSlice] true) := by rw [on7.2 _ (lo6 _ _ hz6) (fun hm => by have := f1' _ hm; omega)]; exact hz6
      have gB27 : h7.get (h5.next + 1) = some (.cells [.int .i64 kid] true) := by rw [on7.2 _ (lo6 _ _ gB2) (fun hm => by have := RowS.low r15 lo5 _ hm; omega)]; exact gB2
      have r27 : Row1 h7 iv' (icells n.kids) := RowS.keep r26 fun o ho => on7.2 o (RowS.low r26 lo6 o ho) (f2' o ho).2
      simp only [vms, vmc, AOpd.val, Nat.reduceEqDiff, reduceCtorEq, Nat.reduceAdd, Nat.reduceBEq, fa, Nat.zero_add]
      rw [items_look (look_load (v := iv') (by show loadV _ _ _ (Fr.at _ _) = _; simp only [vms, vmc, AOpd.val, Nat.reduceEqDiff, reduceCtorEq, Nat.reduceAdd, Nat.reduceBEq]; exact (lk hg7).2) (by simp only [vms, vmc, AOpd.val, Nat.reduceEqDiff, reduceCtorEq, Nat.reduceAdd, Nat.reduceBEq]) (sees_beq r27.sees)),
        items_look (look_build (o := h5.next + 1) (l := [.int .i64 kid]) (by simp only [vms, vmc, AOpd.val, Nat.reduceEqDiff, reduceCtorEq, Nat.reduceAdd, Nat.reduceBEq]) gB27 (by simp only [vms, vmc, AOpd.val, Nat.reduceEqDiff, reduceCtorEq, Nat.reduceAdd, Nat.reduceBEq, fk]) bq2)]
      simp only [vms, vmc, AOpd.val, Nat.reduceEqDiff, reduceCtorEq, Nat.reduceAdd, Nat.reduceBEq]
      refine Gives.bind ((insert_ok (func := table) (v1 := 82) (v2 := 84) k.insI (by rfl) (by rfl) (by rfl) (by decide) (by decide) lo7 r27 iflat (i := i) (by omega) (by omega) gB27 rfl (fun hm => by have := RowS.low r25 lo5 _ hm; omega)).mono ?_)
      rintro iv2 h8 ⟨r28, f28, m28, on8, lo8⟩
      have hn56 := q56.1
      have hn67 := on7.1
      have hn78 := on8.1
      have hg8 : h8.get h.next = some (.cells (n.cells kv' iv') true) := by rw [on8.2 _ (lo7 _ _ hg7) (fun hm => by have := (f2' _ hm).1; omega)]; exact hg7
      have hz8 : h8.get (h.next + 1) = some (.cells [.int .i64 0, .int .u64 0, .str [], .nilSlice, .nilSlice] true) := by rw [on8.2 _ (lo7 _ _ hz7) (fun hm => by have := (f2' _ hm).1; omega)]; exact hz7
      have k28 : ∀ o ∈ objs kv2, o ∉ objs iv' := fun o ho hm => by
        rcases f17 o ho with h1 | h1
        · exact (f2' o hm).2 h1
        · have := RowS.low r25 lo5 o hm; omega
      have r18 : Row1 h8 kv2 (kcells n.keys |>.take i |> (· ++ [.int .u8 (b : Int)] ++ (kcells n.keys).drop i)) := RowS.keep r17 fun o ho => on8.2 o (m17 o ho) (k28 o ho)
      have w3 : ∀ {g : AH} {a c : AV}, g.get h.next = some (.cells (n.cells a c) true) → storeV g 1 (.ptr h.next 3) kv2 = some (g.set h.next (.cells (n.cells kv2 c) true)) := fun hg => store_at (l := n.cells _ _) hg (by simp [NodeP.cells]) (RowS.cell r17).1 (RowS.cell r17).2.1
      have w4 : ∀ {g : AH} {a c : AV}, g.get h.next = some (.cells (n.cells a c) true) → storeV g 1 (.ptr h.next 4) iv2 = some (g.set h.next (.cells (n.cells a iv2) true)) := fun hg => store_at (l := n.cells _ _) hg (by simp [NodeP.cells]) (RowS.cell r28).1 (RowS.cell r28).2.1
      have hset8 : ∀ (A B : AObj), ∀ q, ((h8.set h.next A).set h.next B).get q = if h.next = q then some B else h8.get q := fun A B q => by
        rw [AH.get_set, AH.get_set]; split <;> rfl
      have fk2 : ∀ o ∈ objs kv2, h.next + 2 ≤ o := fun o ho => by
        rcases f17 o ho with h1 | h1
        · exact f1' o h1
        · omega
      have fi2 : ∀ o ∈ objs iv2, h.next + 2 ≤ o ∧ o ∉ objs kv2 := fun o ho => by
        rcases f28 o ho with h1 | h1
        · exact ⟨(f2' o h1).1, fun hm => k28 o hm h1⟩
        · exact ⟨by omega, fun hm => by have := m17 o hm; omega⟩
      have q8 : Quiet h h8 := ⟨by omega, fun q hq hF => by
        rw [on8.2 q (by omega) (fun hm => by have := (f2' _ hm).1; omega), on7.2 q (by omega) (fun hm => by have := f1' _ hm; omega), q56.2 q (by omega) hF]
        exact q5.2 q hq hF⟩
      have hgF : ((h8.set h.next (.cells (n.cells kv2 iv') true)).set h.next (.cells (n.cells kv2 iv2) true)).get h.next = some (.cells (n.cells kv2 iv2) true) := get_set_same
      have fin := finish (h6 := ((h8.set h.next (.cells (n.cells kv2 iv') true)).set h.next (.cells (n.cells kv2 iv2) true))) (m := { n with keys := n.keys.take i ++ [b] ++ n.keys.drop i, kids := n.kids.take i ++ [kid] ++ n.kids.drop i }) (a := kv2) (c := iv2)
        ⟨hR, hK1, .inr ⟨by omega, i, hi, hlo, hhi', rfl⟩⟩ ((q8.set (Nat.le_refl _) _).set (Nat.le_refl _) _) ((lo8.set (lo8 _ _ hg8) _).set (by rw [next_set]; exact lo8 _ _ hg8) _) hgF (by rw [hset8, if_neg (by omega)]; exact hz8) (by
          have e : kcells (n.keys.take i ++ [b] ++ n.keys.drop i) = (kcells n.keys).take i ++ [.int .u8 (b : Int)] ++ (kcells n.keys).drop i := by simp [kcells, List.map_take, List.map_drop]
          rw [e]
          exact RowS.keep r18 fun o ho => by have := fk2 o ho; rw [hset8, if_neg (by omega)]) (by
          have e : icells (n.kids.take i ++ [kid] ++ n.kids.drop i) = (icells n.kids).take i ++ [.int .i64 kid] ++ (icells n.kids).drop i := by simp [icells, List.map_take, List.map_drop]
          rw [e]
          exact RowS.keep r28 fun o ho => by have := (fi2 o ho).1; rw [hset8, if_neg (by omega)]) fk2 fi2
      obtain ⟨st, ld, res⟩ := fin
      simp only [vms, vmc, AOpd.val, Nat.reduceEqDiff, reduceCtorEq, Nat.reduceAdd, Nat.reduceBEq, fa, Nat.zero_add, w3 hg8, w4 (get_set_same (h := h8)), load_all hgF hl5', st, res_cell, ld]
      exact res
end Go.Proofs.Ytpabmkicdcilpaa
/- Without the child at a byte; a node of another kind; equal nodes. -/
namespace Go.Proofs.Ytpabmkicdcilpaa
open Go.Vm
set_option linter.unusedSimpArgs false
set_option linter.unusedVariables false
set_option maxRecDepth 100000
variable {T : Vm.Prog} {h : AH}
theorem sees_from {v : AV} {xs : List AV} (s : Sees h v xs) {n : Nat} (hn : n ≤ xs.length) {k : IntKind} : ∃ v', slcV 1 v (some (.int k (n : Int))) none none = some v' ∧ Sees h v' (xs.drop n) ∧ v'.cells = [v'] ∧ v'.flat = true ∧ AV.isDef v' = true ∨ ¬ capOk v := by
  by_cases hc : capOk v
  · rcases s with ⟨rfl, rfl⟩ | ⟨o, off, cap, ex, l, rw, rfl, hg, h1, h2⟩
    · have : n = 0 := by simpa using hn
      subst this
      exact ⟨.nilSlice, .inl ⟨by simp [slcV, bounds, boundM, boundH, boundL, natOf, Option.filter], .inl ⟨rfl, rfl⟩, rfl, rfl, rfl⟩⟩
    · have hc' : xs.length ≤ cap := hc
      refine ⟨.slice o (if (ex || false) && decide (cap = n) then off else off + n * 1) 1 (xs.length - n) (cap - n) (ex || false), .inl ⟨?_, .inr ⟨o, _, _, _, l, rw, by rw [List.length_drop], hg, ?_, ?_⟩, rfl, rfl, rfl⟩⟩
      · simp [slcV, bounds, boundM, boundH, boundL, natOf, Option.filter, hn]
      · rw [List.length_drop]; split <;> omega
      · intro i x hx
        have hi := (List.getElem?_eq_some_iff.1 hx).1
        rw [List.length_drop] at hi
        rw [List.getElem?_drop] at hx
        rw [if_neg (by simp; intro _; omega), show off + n * 1 + i = off + (n + i) by omega]
        exact h2 _ _ hx
  · exact ⟨.nilSlice, .inr hc⟩
theorem sees_tail {v : AV} {xs : List AV} (s : Sees h v xs) (hc : capOk v) {n : Nat} (hn : n ≤ xs.length) {k : IntKind} : ∃ v', slcV 1 v (some (.int k (n : Int))) none none = some v' ∧ Sees h v' (xs.drop n) ∧ v'.cells = [v'] ∧ v'.flat = true ∧ AV.isDef v' = true := by
  obtain ⟨v', h1 | h1⟩ := sees_from s hn (k := k)
  · exact ⟨v', h1⟩
  · exact absurd hc h1
theorem sees_head {v : AV} {xs : List AV} (s : Sees h v xs) (hc : capOk v) {n : Nat} (hn : n ≤ xs.length) {k : IntKind} : ∃ v', slcV 1 v none (some (.int k (n : Int))) none = some v' ∧ Sees h v' (xs.take n) ∧ v'.cells = [v'] ∧ v'.flat = true ∧ AV.isDef v' = true := by
  obtain ⟨v', h1, h2, _, h4, h5⟩ := s.upto hc hn (k := k)
  refine ⟨v', h1, h2, h4, h5, ?_⟩
  rcases h2 with ⟨rfl, _⟩ | ⟨_, _, _, _, _, _, rfl, _⟩ <;> rfl
theorem row_cap {v : AV} {xs : List AV} (r : Row1 h v xs) : capOk v := by
  rcases r with ⟨rfl, _⟩ | ⟨o, cap, ex, l, rfl, hg, h1, h2, h3⟩
  · trivial
  · exact h2
/-- Its slices are no longer than their room. -/
def Capped (v : AV) : Prop := ∀ (n : NodeP) (kv iv : AV), v = .agg (n.cells kv iv) → capOk kv ∧ capOk iv
theorem NodeN.capped {N : Nat} {v : AV} {n : NodeP} (s : NodeN N h v n) : Capped v := by
  obtain ⟨kv, iv, rfl, r1, r2, _⟩ := s
  intro m a c e
  simp only [AV.agg.injEq, NodeP.cells, List.cons.injEq, and_true] at e
  obtain ⟨_, _, _, rfl, rfl⟩ := e
  exact ⟨row_cap r1, row_cap r2⟩
/-- What Without comes to. -/
def WithoutIs (n : NodeP) (b : Nat) : Option NodeP → Prop
  | none => ¬ RightP n ∨ ∀ i : Nat, n.keys[i]? ≠ some b
  | some m => RightP n ∧ ∃ i : Nat, n.keys[i]? = some b ∧ m = { n with keys := n.keys.take i ++ n.keys.drop (i + 1), kids := n.kids.take i ++ n.kids.drop (i + 1) }
theorem without_ok (k : Fits T) (hl : Low h) {v : AV} {n : NodeP} (ok : n.Ok) (s : NodeV h v n) (cap : Capped v) {b : Nat} : Gives T 17 [v, .int .u8 (b : Int)] h fun r h' => Quiet h h' ∧ Low h' ∧
    ((WithoutIs n b none ∧ r = .tuple [zeroNode, .bool false]) ∨ ∃ m mv, WithoutIs n b (some m) ∧ NodeN h.next h' mv m ∧ r = .tuple [mv, .bool true]) := by
  obtain ⟨kv, iv, rfl, s1, s2⟩ := s
  obtain ⟨ck, ci⟩ := cap n kv iv rfl
  refine gives_func (k.env _ (by decide)) (k.at (fn := a17) rfl) rfl ?_
  have fa : ∀ o j, fieldAddrV j (.ptr o 0) = some (.ptr o (0 + j)) := fun o j => rfl
  have q1 : Quiet h ((h.new (.cells (n.cells kv iv) true)).new (.cells [.int .i64 0, .int .u64 0, .str [], .nilSlice, .nilSlice] true)) := ((Quiet.refl _).new _).new _
  have lo1 : Low ((h.new (.cells (n.cells kv iv) true)).new (.cells [.int .i64 0, .int .u64 0, .str [], .nilSlice, .nilSlice] true)) := (hl.new _).new _
  have hg : ((h.new (.cells (n.cells kv iv) true)).new (.cells [.int .i64 0, .int .u64 0, .str [], .nilSlice, .nilSlice] true)).get h.next = some (.cells (n.cells kv iv) true) := by
    rw [AH.get_new, if_neg (by rw [next_new]; omega), get_new_same]
  have hz : ((h.new (.cells (n.cells kv iv) true)).new (.cells [.int .i64 0, .int .u64 0, .str [], .nilSlice, .nilSlice] true)).get (h.next + 1) = some (.cells [.int .i64 0, .int .u64 0, .str [], .nilSlice, .nilSlice] true) := get_new_same
  have t1 := sees_keep s1 hl q1
  have t2 := sees_keep s2 hl q1
  have nx : ((h.new (.cells (n.cells kv iv) true)).new (.cells [.int .i64 0, .int .u64 0, .str [], .nilSlice, .nilSlice] true)).next = h.next + 2 := rfl
  simp only [a17, c17, vms, vmc, AOpd.val, Nat.reduceEqDiff, reduceCtorEq, Nat.reduceAdd, Nat.reduceBEq, box_agg, next_new]
  generalize ((h.new (.cells (n.cells kv iv) true)).new (.cells [.int .i64 0, .int .u64 0, .str [], .nilSlice, .nilSlice] true)) = h1 at *
  have hl5 : ∀ {a c : AV}, (n.cells a c).length = 5 := rfl
  have zf : ([AV.int .i64 0, .int .u64 0, .str [], .nilSlice, .nilSlice]).all AV.flat = true := rfl
  have bz : fillV [AV.int .i64 0, .int .u64 0, .str [], .nilSlice, .nilSlice] [] = some [AV.int .i64 0, .int .u64 0, .str [], .nilSlice, .nilSlice] := rfl
  have stz : ∀ {h2 : AH}, h2.get (h.next + 1) = some (.cells [.int .i64 0, .int .u64 0, .str [], .nilSlice, .nilSlice] true) → storeV h2 5 (.ptr (h.next + 1) 0) (.agg [.int .i64 0, .int .u64 0, .str [], .nilSlice, .nilSlice]) = some (h2.set (h.next + 1) (.cells [.int .i64 0, .int .u64 0, .str [], .nilSlice, .nilSlice] true)) := fun hz2 => store_all (n := 5) (l' := [AV.int .i64 0, .int .u64 0, .str [], .nilSlice, .nilSlice]) hz2 rfl rfl zf
  have ldz : ∀ {h2 : AH}, loadV (h2.set (h.next + 1) (.cells [.int .i64 0, .int .u64 0, .str [], .nilSlice, .nilSlice] true)) true 5 (.ptr (h.next + 1) 0) = some (.agg [.int .i64 0, .int .u64 0, .str [], .nilSlice, .nilSlice]) := fun {h2} => load_all (get_set_same (h := h2) (o := h.next + 1) (x := .cells [AV.int .i64 0, .int .u64 0, .str [], .nilSlice, .nilSlice] true)) (n := 5) rfl
  simp only [load_all hg hl5, vms, vmc, AOpd.val, Nat.reduceEqDiff, reduceCtorEq, Nat.reduceAdd, Nat.reduceBEq]
  refine Gives.bind ((at_ok k lo1 ok ⟨kv, iv, rfl, t1, t2⟩ (b := b)).mono ?_)
  rintro rat h2 ⟨q2, lo2, hat⟩
  have hg2 := q2.get hg (lo1 _ _ hg)
  have hz2 := q2.get hz (lo1 _ _ hz)
  have u1 := sees_keep t1 lo1 q2
  have u2 := sees_keep t2 lo1 q2
  have nx2 := q2.1
  simp only [vms, vmc, AOpd.val, Nat.reduceEqDiff, reduceCtorEq, Nat.reduceAdd, Nat.reduceBEq, load_all hg2 hl5]
  refine Gives.bind ((right_ok k lo2 ok ⟨kv, iv, rfl, u1, u2⟩).mono ?_)
  rintro _ h3 ⟨rfl, q3, lo3⟩
  have hg3 := q3.get hg2 (lo2 _ _ hg2)
  have hz3 := q3.get hz2 (lo2 _ _ hz2)
  have q13 := (q1.trans q2).trans q3
  have nx3 := q3.1
  have outz : WithoutIs n b none → Quiet h (h3.set (h.next + 1) (.cells [.int .i64 0, .int .u64 0, .str [], .nilSlice, .nilSlice] true)) ∧ Low (h3.set (h.next + 1) (.cells [.int .i64 0, .int .u64 0, .str [], .nilSlice, .nilSlice] true)) ∧
    ((WithoutIs n b none ∧ AV.tuple [AV.agg [.int .i64 0, .int .u64 0, .str [], .nilSlice, .nilSlice], AV.bool false] = .tuple [zeroNode, .bool false]) ∨ ∃ m mv, WithoutIs n b (some m) ∧ NodeN h.next (h3.set (h.next + 1) (.cells [.int .i64 0, .int .u64 0, .str [], .nilSlice, .nilSlice] true)) mv m ∧ AV.tuple [AV.agg [.int .i64 0, .int .u64 0, .str [], .nilSlice, .nilSlice], AV.bool false] = .tuple [mv, .bool true]) :=
    fun hw => ⟨q13.set (by omega) _, lo3.set (lo3 _ _ hz3) _, .inl ⟨hw, rfl⟩⟩
  by_cases hR' : ¬ RightP n
  · have hb := rightP_no hR'
    simp only [vms, vmc, AOpd.val, Nat.reduceEqDiff, reduceCtorEq, Nat.reduceAdd, Nat.reduceBEq, hb, Bool.not_false, bz, stz hz3, res_cell, ldz]
    exact outz (.inl hR')
  have hR : RightP n := Classical.not_not.1 hR'
  have hb := rightP_iff.2 hR
  simp only [vms, vmc, AOpd.val, Nat.reduceEqDiff, reduceCtorEq, Nat.reduceAdd, Nat.reduceBEq, hb, Bool.not_true]
  rcases hat with hat | ⟨hi, rfl⟩
  case' inr =>
    have hno : ∀ i : Nat, n.keys[i]? ≠ some b := fun i e => hi i (by have := (List.getElem?_eq_some_iff.1 e).1; have := hR.same; omega) e
    simp only [vms, vmc, AOpd.val, Nat.reduceEqDiff, reduceCtorEq, Nat.reduceAdd, Nat.reduceBEq, show decide ((-1 : Int) < 0) = true from rfl, bz, stz hz3, res_cell, ldz]
    exact outz (.inr hno)
  obtain ⟨i, hi, rfl⟩ := hat
  obtain ⟨hki, hil, _⟩ := hi
  have hkl := (List.getElem?_eq_some_iff.1 hki).1
  have d1 : decide ((i : Int) < 0) = false := by rw [decide_eq_false_iff_not]; omega
  have l3 := load_at hg3 (i := 3) (v := kv) rfl
  have l4 := load_at hg3 (i := 4) (v := iv) rfl
  have kl := ok.keys
  have il := ok.kids
  have u13 := sees_keep u1 lo2 q3
  have u23 := sees_keep u2 lo2 q3
  have w1 : IntKind.i64.wrap ((i : Int) + 1) = ((i + 1 : Nat) : Int) := by rw [wrap_i64 (by omega) (by omega)]; omega
  obtain ⟨ka, ska, sa, ca, fa1, da⟩ := sees_head u13 ck (n := i) (by simp [kcells]; omega) (k := .i64)
  obtain ⟨kb, skb, sb, cb, fb1, db⟩ := sees_tail u13 ck (n := i + 1) (by simp [kcells]; omega) (k := .i64)
  obtain ⟨ia, sia, sia', cia, fia, dia⟩ := sees_head u23 ci (n := i) (by simp [icells]; omega) (k := .i64)
  obtain ⟨ib, sib, sib', cib, fib, dib⟩ := sees_tail u23 ci (n := i + 1) (by simp [icells]; omega) (k := .i64)
  have fl : ∀ {a c : AV}, a.isDef = true → c.isDef = true → a.cells = [a] → c.cells = [c] → fillV [AV.nilSlice, .nilSlice] [(0, 1, a), (1, 1, c)] = some [a, c] := fun h1 h2 h3 h4 => by simp [fillV, h1, h2, h3, h4, setMany]
  have hg3n : ∀ {x : AObj}, (h3.new x).get h.next = some (.cells (n.cells kv iv) true) := fun {x} => by rw [AH.get_new, if_neg (by have := lo3 _ _ hg3; omega)]; exact hg3
  simp only [vms, vmc, AOpd.val, Nat.reduceEqDiff, reduceCtorEq, Nat.reduceAdd, Nat.reduceBEq, d1, fa, Nat.zero_add, l3, l4, w1, ska, skb, fl da db ca cb, load_at hg3n (i := 4) (v := iv) rfl, sia, sib, fl dia dib cia cib]
  have lo4 : Low ((h3.new (.cells [ka, kb] true)).new (.cells [ia, ib] true)) := (lo3.new _).new _
  have q34 : Quiet h3 ((h3.new (.cells [ka, kb] true)).new (.cells [ia, ib] true)) := ((Quiet.refl _).new _).new _
  have gB1 : ((h3.new (.cells [ka, kb] true)).new (.cells [ia, ib] true)).get h3.next = some (.cells [ka, kb] true) := by rw [AH.get_new, if_neg (by rw [next_new]; omega), get_new_same]
  have gB2 : ((h3.new (.cells [ka, kb] true)).new (.cells [ia, ib] true)).get (h3.next + 1) = some (.cells [ia, ib] true) := get_new_same
  have nx4 : ((h3.new (.cells [ka, kb] true)).new (.cells [ia, ib] true)).next = h3.next + 2 := rfl
  simp only [next_new]
  generalize ((h3.new (.cells [ka, kb] true)).new (.cells [ia, ib] true)) = h4 at *
  have hg4 := q34.get hg3 (lo3 _ _ hg3)
  have hz4 := q34.get hz3 (lo3 _ _ hz3)
  have lk : ∀ {g : AH} {a c : AV}, g.get h.next = some (.cells (n.cells a c) true) → loadV g false 1 (.ptr h.next 3) = some a ∧ loadV g false 1 (.ptr h.next 4) = some c := fun hg => ⟨load_at hg rfl, load_at hg rfl⟩
  have bq : ∀ {a c : AV}, AV.beq a a = true → AV.beq c c = true → AV.beqs [a, c] [a, c] = true := fun h1 h2 => by simp [AV.beqs, h1, h2]
  have bk := sees_beq u13
  have bi := sees_beq u23
  rw [items_look (look_load (v := kv) (by show loadV _ _ _ (Fr.at _ _) = _; simp only [vms, vmc, AOpd.val, Nat.reduceEqDiff, reduceCtorEq, Nat.reduceAdd, Nat.reduceBEq]; exact (lk hg4).1) (by simp only [vms, vmc, AOpd.val, Nat.reduceEqDiff, reduceCtorEq, Nat.reduceAdd, Nat.reduceBEq]) bk),
    items_look (look_load (v := kv) (by show loadV _ _ _ (Fr.at _ _) = _; simp only [vms, vmc, AOpd.val, Nat.reduceEqDiff, reduceCtorEq, Nat.reduceAdd, Nat.reduceBEq]; exact (lk hg4).1) (by simp only [vms, vmc, AOpd.val, Nat.reduceEqDiff, reduceCtorEq, Nat.reduceAdd, Nat.reduceBEq]) bk),
    items_look (look_build (o := h3.next) (l := [ka, kb]) (by simp only [vms, vmc, AOpd.val, Nat.reduceEqDiff, reduceCtorEq, Nat.reduceAdd, Nat.reduceBEq]) gB1 (by simp only [vms, vmc, AOpd.val, Nat.reduceEqDiff, reduceCtorEq, Nat.reduceAdd, Nat.reduceBEq, fl da db ca cb]) (bq (sees_beq sa) (sees_beq sb))),
    items_look (look_load (v := iv) (by show loadV _ _ _ (Fr.at _ _) = _; simp only [vms, vmc, AOpd.val, Nat.reduceEqDiff, reduceCtorEq, Nat.reduceAdd, Nat.reduceBEq]; exact (lk hg4).2) (by simp only [vms, vmc, AOpd.val, Nat.reduceEqDiff, reduceCtorEq, Nat.reduceAdd, Nat.reduceBEq]) bi),
    items_look (look_load (v := iv) (by show loadV _ _ _ (Fr.at _ _) = _; simp only [vms, vmc, AOpd.val, Nat.reduceEqDiff, reduceCtorEq, Nat.reduceAdd, Nat.reduceBEq]; exact (lk hg4).2) (by simp only [vms, vmc, AOpd.val, Nat.reduceEqDiff, reduceCtorEq, Nat.reduceAdd, Nat.reduceBEq]) bi),
    items_look (look_build (o := h3.next + 1) (l := [ia, ib]) (by simp only [vms, vmc, AOpd.val, Nat.reduceEqDiff, reduceCtorEq, Nat.reduceAdd, Nat.reduceBEq]) gB2 (by simp only [vms, vmc, AOpd.val, Nat.reduceEqDiff, reduceCtorEq, Nat.reduceAdd, Nat.reduceBEq, fl dia dib cia cib]) (bq (sees_beq sia') (sees_beq sib')))]
  have hh : highP n.kind ≤ 256 := by unfold highP; (repeat' split) <;> omega
  have hfew := hR.few
  have kcl : (kcells n.keys).length = n.keys.length := by simp [kcells]
  have icl : (icells n.kids).length = n.kids.length := by simp [icells]
  have hsame := hR.same
  simp only [vms, vmc, AOpd.val, Nat.reduceEqDiff, reduceCtorEq, Nat.reduceAdd, Nat.reduceBEq]
  refine Gives.bind ((concat2_ok (k.env _ (by decide)) (k.at (fn := a63) rfl) (k.env _ (by decide)) (k.at (fn := a86) rfl) (by decide) lo4 gB1 (sees_keep sa lo3 q34) (sees_keep sb lo3 q34) (by rw [List.length_take]; omega) (by rw [List.length_drop]; omega) (fun x hx => kflat x (List.mem_of_mem_take hx)) (fun x hx => kflat x (List.mem_of_mem_drop hx))).mono ?_)
  rintro kv2 h5 ⟨r1, f1, q5, lo5⟩
  have hg5 := q5.get hg4 (lo4 _ _ hg4)
  have hz5 := q5.get hz4 (lo4 _ _ hz4)
  have gB25 := q5.get gB2 (lo4 _ _ gB2)
  have q35 := q34.trans q5
  have nx5 := q5.1
  simp only [vms, vmc, AOpd.val, Nat.reduceEqDiff, reduceCtorEq, Nat.reduceAdd, Nat.reduceBEq, fa, Nat.zero_add]
  rw [items_look (look_load (v := iv) (by show loadV _ _ _ (Fr.at _ _) = _; simp only [vms, vmc, AOpd.val, Nat.reduceEqDiff, reduceCtorEq, Nat.reduceAdd, Nat.reduceBEq]; exact (lk hg5).2) (by simp only [vms, vmc, AOpd.val, Nat.reduceEqDiff, reduceCtorEq, Nat.reduceAdd, Nat.reduceBEq]) bi),
    items_look (look_load (v := iv) (by show loadV _ _ _ (Fr.at _ _) = _; simp only [vms, vmc, AOpd.val, Nat.reduceEqDiff, reduceCtorEq, Nat.reduceAdd, Nat.reduceBEq]; exact (lk hg5).2) (by simp only [vms, vmc, AOpd.val, Nat.reduceEqDiff, reduceCtorEq, Nat.reduceAdd, Nat.reduceBEq]) bi),
    items_look (look_build (o := h3.next + 1) (l := [ia, ib]) (by simp only [vms, vmc, AOpd.val, Nat.reduceEqDiff, reduceCtorEq, Nat.reduceAdd, Nat.reduceBEq]) gB25 (by simp only [vms, vmc, AOpd.val, Nat.reduceEqDiff, reduceCtorEq, Nat.reduceAdd, Nat.reduceBEq, fl dia dib cia cib]) (bq (sees_beq sia') (sees_beq sib')))]
  simp only [vms, vmc, AOpd.val, Nat.reduceEqDiff, reduceCtorEq, Nat.reduceAdd, Nat.reduceBEq]
  refine Gives.bind ((concat2_ok (k.env _ (by decide)) (k.at (fn := a64) rfl) (k.env _ (by decide)) (k.at (fn := a87) rfl) (by decide) lo5 gB25 (sees_keep sia' lo3 q35) (sees_keep sib' lo3 q35) (by rw [List.length_take]; omega) (by rw [List.length_drop]; omega) (fun x hx => iflat x (List.mem_of_mem_take hx)) (fun x hx => iflat x (List.mem_of_mem_drop hx))).mono ?_)
  rintro iv2 h6 ⟨r2, f2, q6, lo6⟩
  have hg6 := q6.get hg5 (lo5 _ _ hg5)
  have hz6 := q6.get hz5 (lo5 _ _ hz5)
  have nx6 := q6.1
  have r16 : Row1 h6 kv2 ((kcells n.keys).take i ++ (kcells n.keys).drop (i + 1)) := RowS.keep r1 fun o ho => q6.2 o (RowS.low r1 lo5 o ho) id
  have w3 : ∀ {g : AH} {a c : AV}, g.get h.next = some (.cells (n.cells a c) true) → storeV g 1 (.ptr h.next 3) kv2 = some (g.set h.next (.cells (n.cells kv2 c) true)) := fun hg => store_at (l := n.cells _ _) hg (by simp [NodeP.cells]) (RowS.cell r1).1 (RowS.cell r1).2.1
  have w4 : ∀ {g : AH} {a c : AV}, g.get h.next = some (.cells (n.cells a c) true) → storeV g 1 (.ptr h.next 4) iv2 = some (g.set h.next (.cells (n.cells a iv2) true)) := fun hg => store_at (l := n.cells _ _) hg (by simp [NodeP.cells]) (RowS.cell r2).1 (RowS.cell r2).2.1
  have hset6 : ∀ (A B C : AObj), ∀ q, (((h6.set h.next A).set h.next B).set (h.next + 1) C).get q = if h.next + 1 = q then some C else if h.next = q then some B else h6.get q := fun A B C q => by
    rw [AH.get_set, AH.get_set, AH.get_set]; split
    · rfl
    · split <;> rfl
  have hgF : ((h6.set h.next (.cells (n.cells kv2 iv) true)).set h.next (.cells (n.cells kv2 iv2) true)).get h.next = some (.cells (n.cells kv2 iv2) true) := get_set_same
  have hzF : ((h6.set h.next (.cells (n.cells kv2 iv) true)).set h.next (.cells (n.cells kv2 iv2) true)).get (h.next + 1) = some (.cells [.int .i64 0, .int .u64 0, .str [], .nilSlice, .nilSlice] true) := by
    rw [AH.get_set, if_neg (by omega), AH.get_set, if_neg (by omega)]; exact hz6
  have st : storeV ((h6.set h.next (.cells (n.cells kv2 iv) true)).set h.next (.cells (n.cells kv2 iv2) true)) 5 (.ptr (h.next + 1) 0) (.agg (n.cells kv2 iv2)) = some (((h6.set h.next (.cells (n.cells kv2 iv) true)).set h.next (.cells (n.cells kv2 iv2) true)).set (h.next + 1) (.cells (n.cells kv2 iv2) true)) :=
    store_all hzF rfl rfl (by simp only [NodeP.cells, List.all_cons, List.all_nil, (RowS.cell r1).2.1, (RowS.cell r2).2.1]; rfl)
  simp only [vms, vmc, AOpd.val, Nat.reduceEqDiff, reduceCtorEq, Nat.reduceAdd, Nat.reduceBEq, fa, Nat.zero_add, w3 hg6, w4 (get_set_same (h := h6)), load_all hgF hl5, st, res_cell, load_all (get_set_same (h := ((h6.set h.next (.cells (n.cells kv2 iv) true)).set h.next (.cells (n.cells kv2 iv2) true))) (o := h.next + 1)) hl5]
  have q16 : Quiet h h6 := ((q13.trans q34).trans q5).trans q6
  refine ⟨((q16.set (Nat.le_refl _) _).set (Nat.le_refl _) _).set (by omega) _, ((lo6.set (lo6 _ _ hg6) _).set (by rw [next_set]; exact lo6 _ _ hg6) _).set (by rw [next_set, next_set]; exact lo6 _ _ hz6) _,
    .inr ⟨{ n with keys := n.keys.take i ++ n.keys.drop (i + 1), kids := n.kids.take i ++ n.kids.drop (i + 1) }, _, ⟨hR, i, hki, rfl⟩, ⟨kv2, iv2, rfl, ?_, ?_, fun o ho => by have := f1 o ho; omega, fun o ho => ⟨by have := f2 o ho; omega, fun hm => by have := f2 o ho; have := RowS.low r1 lo5 o hm; omega⟩⟩, rfl⟩⟩
  · have e : kcells (n.keys.take i ++ n.keys.drop (i + 1)) = (kcells n.keys).take i ++ (kcells n.keys).drop (i + 1) := by simp [kcells, List.map_take, List.map_drop]
    rw [e]
    exact RowS.keep r16 fun o ho => by have := f1 o ho; rw [hset6, if_neg (by omega), if_neg (by omega)]
  · have e : icells (n.kids.take i ++ n.kids.drop (i + 1)) = (icells n.kids).take i ++ (icells n.kids).drop (i + 1) := by simp [icells, List.map_take, List.map_drop]
    rw [e]
    exact RowS.keep r2 fun o ho => by have := f2 o ho; rw [hset6, if_neg (by omega), if_neg (by omega)]
end Go.Proofs.Ytpabmkicdcilpaa
/- A node of another kind; equal nodes. -/
namespace Go.Proofs.Ytpabmkicdcilpaa
open Go.Vm
set_option linter.unusedSimpArgs false
set_option linter.unusedVariables false
set_option maxRecDepth 100000
variable {T : Vm.Prog} {h : AH}
/-- What Turn comes to. -/
def TurnIs (n : NodeP) (kd : Int) : Option NodeP → Prop
  | none => ¬ RightP n ∨ highP kd = 0 ∨ highP kd < n.keys.length
  | some m => RightP n ∧ highP kd ≠ 0 ∧ n.keys.length ≤ highP kd ∧ m = { n with kind := kd, word := 0 }
theorem turn_ok (k : Fits T) (hl : Low h) {v : AV} {n : NodeP} (ok : n.Ok) (s : NodeV h v n) {kd : Int} : Gives T 26 [v, .int .i64 kd] h fun r h' => Quiet h h' ∧ Low h' ∧
    ((TurnIs n kd none ∧ r = .tuple [zeroNode, .bool false]) ∨ ∃ m mv, TurnIs n kd (some m) ∧ NodeN h.next h' mv m ∧ r = .tuple [mv, .bool true]) := by
  obtain ⟨kv, iv, rfl, s1, s2⟩ := s
  refine gives_func (k.env _ (by decide)) (k.at (fn := a26) rfl) rfl ?_
  have fa : ∀ o j, fieldAddrV j (.ptr o 0) = some (.ptr o (0 + j)) := fun o j => rfl
  have q1 : Quiet h ((h.new (.cells (n.cells kv iv) true)).new (.cells [.int .i64 0, .int .u64 0, .str [], .nilSlice, .nilSlice] true)) := ((Quiet.refl _).new _).new _
  have lo1 : Low ((h.new (.cells (n.cells kv iv) true)).new (.cells [.int .i64 0, .int .u64 0, .str [], .nilSlice, .nilSlice] true)) := (hl.new _).new _
  have hg : ((h.new (.cells (n.cells kv iv) true)).new (.cells [.int .i64 0, .int .u64 0, .str [], .nilSlice, .nilSlice] true)).get h.next = some (.cells (n.cells kv iv) true) := by
    rw [AH.get_new, if_neg (by rw [next_new]; omega), get_new_same]
  have hz : ((h.new (.cells (n.cells kv iv) true)).new (.cells [.int .i64 0, .int .u64 0, .str [], .nilSlice, .nilSlice] true)).get (h.next + 1) = some (.cells [.int .i64 0, .int .u64 0, .str [], .nilSlice, .nilSlice] true) := get_new_same
  have t1 := sees_keep s1 hl q1
  have t2 := sees_keep s2 hl q1
  have nx : ((h.new (.cells (n.cells kv iv) true)).new (.cells [.int .i64 0, .int .u64 0, .str [], .nilSlice, .nilSlice] true)).next = h.next + 2 := rfl
  simp only [a26, c26, vms, vmc, AOpd.val, Nat.reduceEqDiff, reduceCtorEq, Nat.reduceAdd, Nat.reduceBEq, box_agg, next_new]
  generalize ((h.new (.cells (n.cells kv iv) true)).new (.cells [.int .i64 0, .int .u64 0, .str [], .nilSlice, .nilSlice] true)) = h1 at *
  have hl5 : ∀ {a c : AV}, (n.cells a c).length = 5 := rfl
  have zf : ([AV.int .i64 0, .int .u64 0, .str [], .nilSlice, .nilSlice]).all AV.flat = true := rfl
  have bz : fillV [AV.int .i64 0, .int .u64 0, .str [], .nilSlice, .nilSlice] [] = some [AV.int .i64 0, .int .u64 0, .str [], .nilSlice, .nilSlice] := rfl
  have stz : ∀ {h2 : AH}, h2.get (h.next + 1) = some (.cells [.int .i64 0, .int .u64 0, .str [], .nilSlice, .nilSlice] true) → storeV h2 5 (.ptr (h.next + 1) 0) (.agg [.int .i64 0, .int .u64 0, .str [], .nilSlice, .nilSlice]) = some (h2.set (h.next + 1) (.cells [.int .i64 0, .int .u64 0, .str [], .nilSlice, .nilSlice] true)) := fun hz2 => store_all (n := 5) (l' := [AV.int .i64 0, .int .u64 0, .str [], .nilSlice, .nilSlice]) hz2 rfl rfl zf
  have ldz : ∀ {h2 : AH}, loadV (h2.set (h.next + 1) (.cells [.int .i64 0, .int .u64 0, .str [], .nilSlice, .nilSlice] true)) true 5 (.ptr (h.next + 1) 0) = some (.agg [.int .i64 0, .int .u64 0, .str [], .nilSlice, .nilSlice]) := fun {h2} => load_all (get_set_same (h := h2) (o := h.next + 1) (x := .cells [AV.int .i64 0, .int .u64 0, .str [], .nilSlice, .nilSlice] true)) (n := 5) rfl
  simp only [load_all hg hl5, vms, vmc, AOpd.val, Nat.reduceEqDiff, reduceCtorEq, Nat.reduceAdd, Nat.reduceBEq]
  refine Gives.bind ((right_ok k lo1 ok ⟨kv, iv, rfl, t1, t2⟩).mono ?_)
  rintro _ h2 ⟨rfl, q2, lo2⟩
  have hg2 := q2.get hg (lo1 _ _ hg)
  have hz2 := q2.get hz (lo1 _ _ hz)
  have u1 := sees_keep t1 lo1 q2
  have u2 := sees_keep t2 lo1 q2
  have q12 := q1.trans q2
  have nx2 := q2.1
  have outz : TurnIs n kd none → Quiet h (h2.set (h.next + 1) (.cells [.int .i64 0, .int .u64 0, .str [], .nilSlice, .nilSlice] true)) ∧ Low (h2.set (h.next + 1) (.cells [.int .i64 0, .int .u64 0, .str [], .nilSlice, .nilSlice] true)) ∧
    ((TurnIs n kd none ∧ AV.tuple [AV.agg [.int .i64 0, .int .u64 0, .str [], .nilSlice, .nilSlice], AV.bool false] = .tuple [zeroNode, .bool false]) ∨ ∃ m mv, TurnIs n kd (some m) ∧ NodeN h.next (h2.set (h.next + 1) (.cells [.int .i64 0, .int .u64 0, .str [], .nilSlice, .nilSlice] true)) mv m ∧ AV.tuple [AV.agg [.int .i64 0, .int .u64 0, .str [], .nilSlice, .nilSlice], AV.bool false] = .tuple [mv, .bool true]) :=
    fun hw => ⟨q12.set (by omega) _, lo2.set (lo2 _ _ hz2) _, .inl ⟨hw, rfl⟩⟩
  have l3 := load_at hg2 (i := 3) (v := kv) rfl
  have l4 := load_at hg2 (i := 4) (v := iv) rfl
  have l2 := load_at hg2 (i := 2) (v := .str n.pre) rfl
  have n1 : lenOfV kv = some n.keys.length := by simpa [kcells] using u1.len
  have kl := ok.keys
  have il := ok.kids
  by_cases hR' : ¬ RightP n
  · have hb := rightP_no hR'
    simp only [items_test, vms, vmc, AOpd.val, Nat.reduceEqDiff, reduceCtorEq, Nat.reduceAdd, Nat.reduceBEq, hb, Bool.not_false]
    rw [items_look (look_skip (by simp only [vms, vmc, AOpd.val, Nat.reduceEqDiff, reduceCtorEq, Nat.reduceAdd, Nat.reduceBEq, Bool.not_false]) (by simp only [vms, vmc, AOpd.val, Nat.reduceEqDiff, reduceCtorEq, Nat.reduceAdd, Nat.reduceBEq]))]
    simp only [vms, vmc, AOpd.val, Nat.reduceEqDiff, reduceCtorEq, Nat.reduceAdd, Nat.reduceBEq, bz, stz hz2, res_cell, ldz]
    exact outz (.inl hR')
  have hR : RightP n := Classical.not_not.1 hR'
  have hb := rightP_iff.2 hR
  simp only [items_test, vms, vmc, AOpd.val, Nat.reduceEqDiff, reduceCtorEq, Nat.reduceAdd, Nat.reduceBEq, hb, Bool.not_true]
  refine Gives.bind ((high_ok k).mono ?_)
  rintro _ _ ⟨rfl, rfl⟩
  rename_i h2
  by_cases e1 : highP kd = 0
  · have d1 : (((highP kd : Nat) : Int) == 0) = true := by rw [e1]; rfl
    simp only [items_test, vms, vmc, AOpd.val, Nat.reduceEqDiff, reduceCtorEq, Nat.reduceAdd, Nat.reduceBEq, d1]
    rw [items_look (look_skip (by simp only [vms, vmc, AOpd.val, Nat.reduceEqDiff, reduceCtorEq, Nat.reduceAdd, Nat.reduceBEq, Bool.not_false]) (by simp only [vms, vmc, AOpd.val, Nat.reduceEqDiff, reduceCtorEq, Nat.reduceAdd, Nat.reduceBEq]))]
    simp only [vms, vmc, AOpd.val, Nat.reduceEqDiff, reduceCtorEq, Nat.reduceAdd, Nat.reduceBEq, bz, stz hz2, res_cell, ldz]
    exact outz (.inr (.inl e1))
  have d1 : (((highP kd : Nat) : Int) == 0) = false := by rw [beq_eq_false_iff_ne]; omega
  simp only [items_test, vms, vmc, AOpd.val, Nat.reduceEqDiff, reduceCtorEq, Nat.reduceAdd, Nat.reduceBEq, d1, fa, Nat.zero_add, l3, n1]
  refine Gives.bind ((high_ok k).mono ?_)
  rintro _ _ ⟨rfl, rfl⟩
  rename_i h2
  have lookk : ∀ {f : Fr}, f.at 15 = .ptr h.next 3 → f.at 14 = .bool false → f.at 16 = kv → AOper.lookAgain ⟨some 16, .load false 1 (.tmp 15), some (14, false)⟩ f h2 = true := fun f36 f35 f37 => look_want f35 (look_load (v := kv) (by show loadV _ _ _ (Fr.at _ _) = _; rw [f36]; exact l3) f37 (sees_beq u1))
  by_cases e2 : highP kd < n.keys.length
  · have d2 : decide ((n.keys.length : Int) > (highP kd : Nat)) = true := by rw [decide_eq_true_eq]; omega
    simp only [items_test, vms, vmc, AOpd.val, Nat.reduceEqDiff, reduceCtorEq, Nat.reduceAdd, Nat.reduceBEq, d2]
    rw [items_look (lookk (by simp only [vms, vmc, AOpd.val, Nat.reduceEqDiff, reduceCtorEq, Nat.reduceAdd, Nat.reduceBEq]) (by simp only [vms, vmc, AOpd.val, Nat.reduceEqDiff, reduceCtorEq, Nat.reduceAdd, Nat.reduceBEq]) (by simp only [vms, vmc, AOpd.val, Nat.reduceEqDiff, reduceCtorEq, Nat.reduceAdd, Nat.reduceBEq]))]
    simp only [vms, vmc, AOpd.val, Nat.reduceEqDiff, reduceCtorEq, Nat.reduceAdd, Nat.reduceBEq, bz, stz hz2, res_cell, ldz]
    exact outz (.inr (.inr e2))
  have d2 : decide ((n.keys.length : Int) > (highP kd : Nat)) = false := by rw [decide_eq_false_iff_not]; omega
  simp only [items_test, vms, vmc, AOpd.val, Nat.reduceEqDiff, reduceCtorEq, Nat.reduceAdd, Nat.reduceBEq, d2]
  rw [items_look (lookk (by simp only [vms, vmc, AOpd.val, Nat.reduceEqDiff, reduceCtorEq, Nat.reduceAdd, Nat.reduceBEq]) (by simp only [vms, vmc, AOpd.val, Nat.reduceEqDiff, reduceCtorEq, Nat.reduceAdd, Nat.reduceBEq]) (by simp only [vms, vmc, AOpd.val, Nat.reduceEqDiff, reduceCtorEq, Nat.reduceAdd, Nat.reduceBEq]))]
  simp only [vms, vmc, AOpd.val, Nat.reduceEqDiff, reduceCtorEq, Nat.reduceAdd, Nat.reduceBEq, fa, Nat.zero_add, l2, l3, l4]
  refine Gives.bind ((clone1_ok (k.env _ (by decide)) (k.at (fn := a57) rfl) lo2 u1 (by decide) (by simp [kcells]; omega)).mono ?_)
  rintro kv2 h3 ⟨r1, f1, q3, lo3⟩
  have hg3 := q3.get hg2 (lo2 _ _ hg2)
  have hz3 := q3.get hz2 (lo2 _ _ hz2)
  have u23 := sees_keep u2 lo2 q3
  have lk : ∀ {g : AH} {a c : AV}, g.get h.next = some (.cells (n.cells a c) true) → loadV g false 1 (.ptr h.next 2) = some (.str n.pre) ∧ loadV g false 1 (.ptr h.next 4) = some c := fun hg => ⟨load_at hg rfl, load_at hg rfl⟩
  have bs : AV.beq (.str n.pre) (.str n.pre) = true := by simp [AV.beq]
  simp only [vms, vmc, AOpd.val, Nat.reduceEqDiff, reduceCtorEq, Nat.reduceAdd, Nat.reduceBEq]
  rw [items_look (look_load (v := .str n.pre) (by show loadV _ _ _ (Fr.at _ _) = _; simp only [vms, vmc, AOpd.val, Nat.reduceEqDiff, reduceCtorEq, Nat.reduceAdd, Nat.reduceBEq]; exact (lk hg3).1) (by simp only [vms, vmc, AOpd.val, Nat.reduceEqDiff, reduceCtorEq, Nat.reduceAdd, Nat.reduceBEq]) bs),
    items_look (look_load (v := iv) (by show loadV _ _ _ (Fr.at _ _) = _; simp only [vms, vmc, AOpd.val, Nat.reduceEqDiff, reduceCtorEq, Nat.reduceAdd, Nat.reduceBEq]; exact (lk hg3).2) (by simp only [vms, vmc, AOpd.val, Nat.reduceEqDiff, reduceCtorEq, Nat.reduceAdd, Nat.reduceBEq]) (sees_beq u23))]
  simp only [vms, vmc, AOpd.val, Nat.reduceEqDiff, reduceCtorEq, Nat.reduceAdd, Nat.reduceBEq]
  refine Gives.bind ((clone1_ok (k.env _ (by decide)) (k.at (fn := a58) rfl) lo3 u23 (by decide) (by simp [icells]; omega)).mono ?_)
  rintro iv2 h4 ⟨r2, f2, q4, lo4⟩
  have hg4 := q4.get hg3 (lo3 _ _ hg3)
  have hz4 := q4.get hz3 (lo3 _ _ hz3)
  have nx3 := q3.1
  have nx4 := q4.1
  have isd : ∀ {a : AV} {xs : List AV}, Row1 h4 a xs → AV.isDef a = true := fun r => by
    rcases r with ⟨rfl, _⟩ | ⟨_, _, _, _, rfl, _⟩ <;> rfl
  have r14 : Row1 h4 kv2 (kcells n.keys) := RowS.keep r1 fun o ho => q4.2 o (RowS.low r1 lo3 o ho) id
  have fl : fillV [AV.int .i64 0, .int .u64 0, .str [], .nilSlice, .nilSlice] [(0, 1, .int .i64 kd), (2, 1, .str n.pre), (3, 1, kv2), (4, 1, iv2)] = some [.int .i64 kd, .int .u64 0, .str n.pre, kv2, iv2] := by
    have di : ∀ k n, AV.isDef (.int k n) = true := fun _ _ => rfl
    have ds : ∀ s, AV.isDef (.str s) = true := fun _ => rfl
    have ci : ∀ k n, AV.cells (.int k n) = [.int k n] := fun _ _ => rfl
    have cs : ∀ s, AV.cells (.str s) = [.str s] := fun _ => rfl
    simp [fillV, isd r14, isd r2, (RowS.cell r14).1, (RowS.cell r2).1, di, ds, ci, cs, setMany]
  have st : storeV h4 5 (.ptr (h.next + 1) 0) (.agg [.int .i64 kd, .int .u64 0, .str n.pre, kv2, iv2]) = some (h4.set (h.next + 1) (.cells [.int .i64 kd, .int .u64 0, .str n.pre, kv2, iv2] true)) :=
    store_all hz4 rfl rfl (by simp only [List.all_cons, List.all_nil, (RowS.cell r14).2.1, (RowS.cell r2).2.1]; rfl)
  simp only [vms, vmc, AOpd.val, Nat.reduceEqDiff, reduceCtorEq, Nat.reduceAdd, Nat.reduceBEq, fl]
  rw [items_look (look_load (v := .str n.pre) (by show loadV _ _ _ (Fr.at _ _) = _; simp only [vms, vmc, AOpd.val, Nat.reduceEqDiff, reduceCtorEq, Nat.reduceAdd, Nat.reduceBEq]; exact (lk hg4).1) (by simp only [vms, vmc, AOpd.val, Nat.reduceEqDiff, reduceCtorEq, Nat.reduceAdd, Nat.reduceBEq]) bs)]
  simp only [vms, vmc, AOpd.val, Nat.reduceEqDiff, reduceCtorEq, Nat.reduceAdd, Nat.reduceBEq, st, res_cell, load_all (get_set_same (h := h4) (o := h.next + 1) (x := .cells [.int .i64 kd, .int .u64 0, .str n.pre, kv2, iv2] true)) (n := 5) rfl]
  refine ⟨((q12.trans q3).trans q4).set (by omega) _, lo4.set (lo4 _ _ hz4) _, .inr ⟨{ n with kind := kd, word := 0 }, _, ⟨hR, e1, by omega, rfl⟩, ⟨kv2, iv2, rfl, RowS.keep r14 fun o ho => ?_, RowS.keep r2 fun o ho => ?_, fun o ho => by have := f1 o ho; omega, fun o ho => ⟨by have := f2 o ho; omega, fun hm => by have := f2 o ho; have := RowS.low r1 lo3 o hm; omega⟩⟩, rfl⟩⟩
  · have := f1 o ho; rw [AH.get_set, if_neg (by omega)]
  · have := f2 o ho; rw [AH.get_set, if_neg (by omega)]
/-- Have two nodes the same? -/
theorem same_ok (k : Fits T) (hl : Low h) {v w : AV} {n m : NodeP} (on : n.Ok) (om : m.Ok) (sn : NodeV h v n) (sm : NodeV h w m) : Gives T 23 [v, w] h fun r h' => Quiet h h' ∧ Low h' ∧ ∃ b : Bool, r = .bool b ∧ (b = true ↔ n = m) := by
  obtain ⟨kv, iv, rfl, s1, s2⟩ := sn
  obtain ⟨jv, lv, rfl, s3, s4⟩ := sm
  refine gives_func (k.env _ (by decide)) (k.at (fn := a23) rfl) rfl ?_
  have fa : ∀ o j, fieldAddrV j (.ptr o 0) = some (.ptr o (0 + j)) := fun o j => rfl
  have q1 : Quiet h ((h.new (.cells (n.cells kv iv) true)).new (.cells (m.cells jv lv) true)) := ((Quiet.refl _).new _).new _
  have lo1 : Low ((h.new (.cells (n.cells kv iv) true)).new (.cells (m.cells jv lv) true)) := (hl.new _).new _
  have hg : ((h.new (.cells (n.cells kv iv) true)).new (.cells (m.cells jv lv) true)).get h.next = some (.cells (n.cells kv iv) true) := by
    rw [AH.get_new, if_neg (by rw [next_new]; omega), get_new_same]
  have hz : ((h.new (.cells (n.cells kv iv) true)).new (.cells (m.cells jv lv) true)).get (h.next + 1) = some (.cells (m.cells jv lv) true) := get_new_same
  have t1 := sees_keep s1 hl q1
  have t2 := sees_keep s2 hl q1
  have t3 := sees_keep s3 hl q1
  have t4 := sees_keep s4 hl q1
  simp only [a23, c23, vms, vmc, AOpd.val, Nat.reduceEqDiff, reduceCtorEq, Nat.reduceAdd, Nat.reduceBEq, box_agg, next_new]
  generalize ((h.new (.cells (n.cells kv iv) true)).new (.cells (m.cells jv lv) true)) = h1 at *
  have l0 := load_at hg (i := 0) (v := .int .i64 n.kind) rfl
  have l1 := load_at hg (i := 1) (v := .int .u64 (n.word : Int)) rfl
  have l2 := load_at hg (i := 2) (v := .str n.pre) rfl
  have l3 := load_at hg (i := 3) (v := kv) rfl
  have l4 := load_at hg (i := 4) (v := iv) rfl
  have m0 := load_at hz (i := 0) (v := .int .i64 m.kind) rfl
  have m1 := load_at hz (i := 1) (v := .int .u64 (m.word : Int)) rfl
  have m2 := load_at hz (i := 2) (v := .str m.pre) rfl
  have m3 := load_at hz (i := 3) (v := jv) rfl
  have m4 := load_at hz (i := 4) (v := lv) rfl
  have e0 := on.keys
  have e1 := on.kids
  have e2 := om.keys
  have e3 := om.kids
  simp only [vms, vmc, AOpd.val, Nat.reduceEqDiff, reduceCtorEq, Nat.reduceAdd, Nat.reduceBEq, fa, Nat.zero_add, l0, m0]
  by_cases c0 : n.kind = m.kind
  · have d0 : (n.kind == m.kind) = true := by simpa using c0
    simp only [vms, vmc, AOpd.val, Nat.reduceEqDiff, reduceCtorEq, Nat.reduceAdd, Nat.reduceBEq, d0, fa, Nat.zero_add, l1, m1]
    by_cases c1 : n.word = m.word
    · have d1 : ((n.word : Int) == (m.word : Int)) = true := by simp [c1]
      simp only [vms, vmc, AOpd.val, Nat.reduceEqDiff, reduceCtorEq, Nat.reduceAdd, Nat.reduceBEq, d1, fa, Nat.zero_add, l2, m2]
      by_cases c2 : n.pre = m.pre
      · have d2 : (n.pre == m.pre) = true := by simpa using c2
        simp only [vms, vmc, AOpd.val, Nat.reduceEqDiff, reduceCtorEq, Nat.reduceAdd, Nat.reduceBEq, d2, fa, Nat.zero_add, l3, m3]
        have kc : ∀ l : List Nat, kcells l = (l.map fun (b : Nat) => (b : Int)).map (.int .u8) := fun l => by simp [kcells]
        rw [kc] at t1 t3
        refine Gives.bind ((sameG_ok (k := .u8) (k.env _ (by decide)) (k.at (fn := a28) rfl) t1 t3 (by simp; omega) (by simp; omega)).mono ?_)
        rintro _ _ ⟨rfl, rfl⟩
        rename_i h1
        by_cases c3 : n.keys = m.keys
        · have d3 : decide (n.keys.map (fun (b : Nat) => (b : Int)) = m.keys.map fun (b : Nat) => (b : Int)) = true := by simp [c3]
          simp only [vms, vmc, AOpd.val, Nat.reduceEqDiff, reduceCtorEq, Nat.reduceAdd, Nat.reduceBEq, d3, fa, Nat.zero_add, l4, m4]
          refine Gives.bind ((sameG_ok (k := .i64) (k.env _ (by decide)) (k.at (fn := a19) rfl) t2 t4 (by omega) (by omega)).mono ?_)
          rintro _ _ ⟨rfl, rfl⟩
          rename_i h1
          simp only [vms, vmc, AOpd.val, Nat.reduceEqDiff, reduceCtorEq, Nat.reduceAdd, Nat.reduceBEq]
          refine ⟨q1, lo1, _, rfl, ?_⟩
          rw [decide_eq_true_eq]
          obtain ⟨a, b, c, d, e⟩ := n
          obtain ⟨a', b', c', d', e'⟩ := m
          simp at c0 c1 c2 c3 ⊢
          simp [c0, c1, c2, c3]
        · have d3 : decide (n.keys.map (fun (b : Nat) => (b : Int)) = m.keys.map fun (b : Nat) => (b : Int)) = false := by
            rw [decide_eq_false_iff_not]
            intro e
            exact c3 ((List.map_inj_right (fun a b hab => by omega)).1 e)
          simp only [vms, vmc, AOpd.val, Nat.reduceEqDiff, reduceCtorEq, Nat.reduceAdd, Nat.reduceBEq, d3]
          exact ⟨q1, lo1, _, rfl, by simp; intro e; exact c3 (by rw [e])⟩
      · have d2 : (n.pre == m.pre) = false := by simpa using c2
        simp only [vms, vmc, AOpd.val, Nat.reduceEqDiff, reduceCtorEq, Nat.reduceAdd, Nat.reduceBEq, d2]
        exact ⟨q1, lo1, _, rfl, by simp; intro e; exact c2 (by rw [e])⟩
    · have d1 : ((n.word : Int) == (m.word : Int)) = false := by rw [beq_eq_false_iff_ne]; omega
      simp only [vms, vmc, AOpd.val, Nat.reduceEqDiff, reduceCtorEq, Nat.reduceAdd, Nat.reduceBEq, d1]
      exact ⟨q1, lo1, _, rfl, by simp; intro e; exact c1 (by rw [e])⟩
  · have d0 : (n.kind == m.kind) = false := by simpa using c0
    simp only [vms, vmc, AOpd.val, Nat.reduceEqDiff, reduceCtorEq, Nat.reduceAdd, Nat.reduceBEq, d0]
    exact ⟨q1, lo1, _, rfl, by simp; intro e; exact c0 (by rw [e])⟩
end Go.Proofs.Ytpabmkicdcilpaa

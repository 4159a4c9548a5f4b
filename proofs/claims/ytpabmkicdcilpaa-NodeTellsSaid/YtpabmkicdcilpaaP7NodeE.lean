/- The reference's nodes: Without. -/
import Derived.Test.YtpabmkicdcilpaaP7NodeD
import Derived.Test.YtpabmkicdcilpaaP7R
namespace Go.Proofs.Ytpabmkicdcilpaa
open Go.Vm
set_option linter.unusedSimpArgs false
set_option linter.unusedVariables false
set_option maxRecDepth 100000
variable {T : Vm.Prog} {h : AH}
/-- A node under way: the first keys and children. -/
def outP (n : NodeP) (l : List (Nat × Int)) : NodeP := { n with keys := l.map (·.1), kids := l.map (·.2) }
structure OutK (h0 h : AH) (N po p z : Nat) (n : NodeP) (kv0 iv0 : AV) (l : List (Nat × Int)) : Prop where
  low : Low h
  q : Quiet h0 h
  gp : h.get p = some (.cells (n.cells kv0 iv0) true)
  gz : h.get z = some (.cells [.int .i64 0, .int .u64 0, .str [], .nilSlice, .nilSlice] true)
  out : ∃ kv iv, h.get po = some (.cells ((outP n l).cells kv iv) true) ∧ Row1 h kv (kcells (l.map (·.1))) ∧ Row1 h iv (icells (l.map (·.2))) ∧ (∀ o ∈ objs kv, N ≤ o) ∧ (∀ o ∈ objs iv, N ≤ o) ∧ ∀ o ∈ objs kv, o ∉ objs iv
theorem pair_at {n : NodeP} {j y : Nat} {x : Int} (hy : n.keys[j]? = some y) (hx : n.kids[j]? = some x) : (n.keys.zip n.kids)[j]? = some (y, x) := by
  rw [List.getElem?_zip_eq_some]; exact ⟨hy, hx⟩
theorem without_list {n : NodeP} (r : RightP n) {i b : Nat} (hb : n.keys[i]? = some b) : outP n ((n.keys.zip n.kids).filter fun p => decide (p.1 ≠ b)) = { n with keys := n.keys.take i ++ n.keys.drop (i + 1), kids := n.kids.take i ++ n.kids.drop (i + 1) } := by
  have hi := (List.getElem?_eq_some_iff.1 hb).1
  have hs := r.same
  obtain ⟨x, hx⟩ : ∃ x, n.kids[i]? = some x := ⟨_, List.getElem?_eq_getElem (by omega)⟩
  have hz := pair_at hb hx
  have hsp : n.keys.zip n.kids = (n.keys.zip n.kids).take i ++ (b, x) :: (n.keys.zip n.kids).drop (i + 1) := by
    have hl := (List.getElem?_eq_some_iff.1 hz).1
    have e := (List.getElem?_eq_some_iff.1 hz).2
    rw [← e, ← List.drop_eq_getElem_cons hl, List.take_append_drop]
  have hlt : ((n.keys.zip n.kids).take i).filter (fun p => decide (p.1 ≠ b)) = (n.keys.zip n.kids).take i := by
    rw [List.filter_eq_self]
    intro p hp
    obtain ⟨t, ht⟩ := List.getElem?_of_mem hp
    rw [List.getElem?_take] at ht
    split at ht
    · rename_i hti
      obtain ⟨h1, h2⟩ := List.getElem?_zip_eq_some.1 ht
      have := rise_of r.rise hti h1 hb
      simp; omega
    · cases ht
  have hgt : ((n.keys.zip n.kids).drop (i + 1)).filter (fun p => decide (p.1 ≠ b)) = (n.keys.zip n.kids).drop (i + 1) := by
    rw [List.filter_eq_self]
    intro p hp
    obtain ⟨t, ht⟩ := List.getElem?_of_mem hp
    rw [List.getElem?_drop] at ht
    obtain ⟨h1, h2⟩ := List.getElem?_zip_eq_some.1 ht
    have := rise_of r.rise (show i < i + 1 + t by omega) hb h1
    simp; omega
  have hf : (n.keys.zip n.kids).filter (fun p => decide (p.1 ≠ b)) = (n.keys.zip n.kids).take i ++ (n.keys.zip n.kids).drop (i + 1) := by
    rw [hsp, List.filter_append, List.filter_cons_of_neg (by simp), ← hsp, hlt, hgt]
  rw [hf]
  unfold outP
  have e1 : ((n.keys.zip n.kids).map (·.1)) = n.keys := List.map_fst_zip (by omega)
  have e2 : ((n.keys.zip n.kids).map (·.2)) = n.kids := List.map_snd_zip (by omega)
  simp only [List.map_append, List.map_take, List.map_drop, e1, e2]
end Go.Proofs.Ytpabmkicdcilpaa
/- The reference's nodes: Without, the walk. -/
namespace Go.Proofs.Ytpabmkicdcilpaa
open Go.Vm
set_option linter.unusedSimpArgs false
set_option linter.unusedVariables false
set_option maxRecDepth 100000
variable {T : Vm.Prog} {h : AH}
theorem lk_load {g : AH} {f : Fr} {t d : Nat} {p v : AV} (hl : loadV g false 1 p = some v) (ht : f.at t = p) (hd : f.at d = v) (hb : AV.beq v v = true) : AOper.lookAgain ⟨some d, .load false 1 (.tmp t), none⟩ f g = true :=
  look_load (by show loadV _ _ _ (Fr.at _ _) = _; rw [ht]; exact hl) hd hb
theorem row_beq {v : AV} {xs : List AV} (r : Row1 h v xs) : AV.beq v v = true ∧ v.cells = [v] ∧ v.flat = true := by
  have := RowS.cell r
  exact ⟨this.2.2, this.1, this.2.1⟩
theorem fill1b (b : Nat) : fillV [AV.int .u8 0] [(0, 1, .int .u8 (b : Int))] = some [.int .u8 (b : Int)] := by simp [fillV, AV.isDef, AV.cells, setMany]
theorem fill1i (x : Int) : fillV [AV.int .i64 0] [(0, 1, .int .i64 x)] = some [.int .i64 x] := by simp [fillV, AV.isDef, AV.cells, setMany]
/-- One more pair. -/
theorem OutK.more {h0 : AH} {N po p z : Nat} {n : NodeP} {kv0 iv0 : AV} {l : List (Nat × Int)} (K : OutK h0 h N po p z n kv0 iv0 l) (hp : p < N) (hz : z < N) (hpo : po < N) (hN : h0.next ≤ po) (hNn : N ≤ h.next) (hne : p ≠ po ∧ z ≠ po) (hl : l.length < 1000) (b : Nat) (x : Int) :
    ∃ kv iv kv' h3 iv' h4 h5 h6, h.get po = some (.cells ((outP n l).cells kv iv) true) ∧ Row1 h kv (kcells (l.map (·.1))) ∧ Row1 h iv (icells (l.map (·.2))) ∧
      (∀ o, o < h.next → ((h.new (.cells [.int .u8 (b : Int)] true)).new (.cells [.int .i64 x] true)).get o = h.get o) ∧
      ((h.new (.cells [.int .u8 (b : Int)] true)).new (.cells [.int .i64 x] true)).get h.next = some (.cells [.int .u8 (b : Int)] true) ∧
      ((h.new (.cells [.int .u8 (b : Int)] true)).new (.cells [.int .i64 x] true)).get (h.next + 1) = some (.cells [.int .i64 x] true) ∧
      appV 1 1 ((h.new (.cells [.int .u8 (b : Int)] true)).new (.cells [.int .i64 x] true)) kv (.slice h.next 0 1 1 1 true) = some (kv', h3) ∧ h3.get (h.next + 1) = some (.cells [.int .i64 x] true) ∧
      (∀ o, o < h.next → o ∉ objs kv → h3.get o = h.get o) ∧ po ∉ objs kv ∧ p ∉ objs kv ∧ (∀ o ∈ objs kv, N ≤ o) ∧
      appV 1 8 h3 iv (.slice (h.next + 1) 0 1 1 1 true) = some (iv', h4) ∧ storeV h4 1 (.ptr po 3) kv' = some h5 ∧ storeV h5 1 (.ptr po 4) iv' = some h6 ∧ OutK h0 h6 N po p z n kv0 iv0 (l ++ [(b, x)]) ∧ h.next ≤ h6.next := by
  obtain ⟨kv, iv, go, rk, ri, nk, ni, dj⟩ := K.out
  have hpo1 : po ∉ objs kv := fun hm => by have := nk _ hm; omega
  have hpo2 : po ∉ objs iv := fun hm => by have := ni _ hm; omega
  obtain ⟨kv', h3, iv', h4, a1, g1, g2, k3, a2, g3, rk', ri', d1, d2, dj', ok', oi', lo4, k4, n4⟩ := push K.low go rk ri hpo1 hpo2 dj (by simpa using hl) (by simpa using hl) (b := b) (x := x)
  have hnx := K.q.1
  have lpo := K.low _ _ go
  have lp := K.low _ _ K.gp
  have lz := K.low _ _ K.gz
  obtain ⟨_, c1, f1⟩ := row_beq rk'
  obtain ⟨_, c2, f2⟩ := row_beq ri'
  have st1 : storeV h4 1 (.ptr po 3) kv' = some (h4.set po (.cells ((outP n l).cells kv' iv) true)) := store_at g3 (by simp [NodeP.cells]) c1 f1
  have st2 : storeV (h4.set po (.cells ((outP n l).cells kv' iv) true)) 1 (.ptr po 4) iv' = some ((h4.set po (.cells ((outP n l).cells kv' iv) true)).set po (.cells ((outP n (l ++ [(b, x)])).cells kv' iv') true)) := store_at get_set_same (by simp [NodeP.cells]) c2 f2
  have oth : ∀ o, o ≠ po → ((h4.set po (.cells ((outP n l).cells kv' iv) true)).set po (.cells ((outP n (l ++ [(b, x)])).cells kv' iv') true)).get o = h4.get o := fun o ho => by rw [AH.get_set, if_neg (Ne.symm ho), AH.get_set, if_neg (Ne.symm ho)]
  have old : ∀ o, o < N → o < h.next → h4.get o = h.get o := fun o ho hl => k4 o hl (fun hm => by have := nk o hm; omega) (fun hm => by have := ni o hm; omega)
  refine ⟨kv, iv, kv', h3, iv', h4, _, _, go, rk, ri, fun o ho => ?_, ?_, get_new_same, a1, g1, k3, hpo1, fun hm => by have := nk _ hm; omega, nk, a2, st1, st2, ?_, by rw [next_set, next_set]; omega⟩
  · rw [AH.get_new, if_neg (by rw [next_new]; omega), AH.get_new, if_neg (by omega)]
  · rw [AH.get_new, if_neg (by rw [next_new]; omega), get_new_same]
  · have hl4 : po < h4.next := by omega
    refine ⟨(lo4.set hl4 _).set (by rw [next_set]; exact hl4) _, ⟨?_, fun o ho _ => ?_⟩, ?_, ?_, ⟨kv', iv', get_set_same, ?_, ?_, ?_, ?_, dj'⟩⟩
    · rw [next_set, next_set]; omega
    · rw [oth o (by omega), old o (by omega) (by omega)]
      exact K.q.2 o ho id
    · rw [oth p hne.1, old p hp lp]; exact K.gp
    · rw [oth z hne.2, old z hz lz]; exact K.gz
    · rw [List.map_append]
      exact RowS.keep rk' fun o ho => oth o fun e => d1 (e ▸ ho)
    · rw [List.map_append]
      exact RowS.keep ri' fun o ho => oth o fun e => d2 (e ▸ ho)
    · intro o ho
      rcases ok' o ho with h7 | h7
      · exact nk o h7
      · omega
    · intro o ho
      rcases oi' o ho with h7 | h7
      · exact ni o h7
      · omega
end Go.Proofs.Ytpabmkicdcilpaa
/- The reference's nodes: Without, its loop. -/
namespace Go.Proofs.Ytpabmkicdcilpaa
open Go.Vm
set_option linter.unusedSimpArgs false
set_option linter.unusedVariables false
set_option maxRecDepth 100000
variable {T : Vm.Prog} {h : AH}
theorem sees_all {v : AV} {xs : List AV} {i : Nat} {x : AV} (s : Sees h v xs) (hx : xs[i]? = some x) : ∃ p, idxAddrV 1 v (.int .i64 (i : Int)) = some p ∧ ∀ g, Sees g v xs → loadV g false 1 p = some x := by
  obtain ⟨p, hp, _⟩ := s.at hx .i64
  refine ⟨p, hp, fun g sg => ?_⟩
  obtain ⟨p', hp', hl⟩ := sg.at hx .i64
  rw [hp] at hp'; cases hp'; exact hl
theorem sees_hold {h' : AH} {v : AV} {xs : List AV} (s : Sees h v xs) (hk : ∀ o ∈ objs v, h'.get o = h.get o) : Sees h' v xs := by
  rcases s with ⟨rfl, rfl⟩ | ⟨p, off, cap, ex, l, rw', rfl, hg, h1⟩
  · exact .inl ⟨rfl, rfl⟩
  · exact .inr ⟨p, off, cap, ex, l, rw', rfl, (hk p (by simp [objs])).trans hg, h1⟩
theorem filt_step {n : NodeP} {j y b : Nat} {x : Int} (hz : (n.keys.zip n.kids)[j]? = some (y, x)) : ((n.keys.zip n.kids).take (j + 1)).filter (fun p => decide (p.1 ≠ b)) = ((n.keys.zip n.kids).take j).filter (fun p => decide (p.1 ≠ b)) ++ (if y ≠ b then [(y, x)] else []) := by
  have hl := (List.getElem?_eq_some_iff.1 hz).1
  have e := (List.getElem?_eq_some_iff.1 hz).2
  rw [List.take_succ_eq_append_getElem hl, List.filter_append, e]
  congr 1
  by_cases hy : y = b
  · simp [hy]
  · simp [hy]
theorem without_loop {h0 : AH} {N po p z b : Nat} {n : NodeP} {kv0 iv0 : AV} (r : RightP n) (ok : n.Ok) (hl0 : Low h0) (s1 : Sees h0 kv0 (kcells n.keys)) (s2 : Sees h0 iv0 (icells n.kids)) (hp : p < N) (hz : z < N) (hpo : po < N) (hN : h0.next ≤ po) (hNn : N ≤ h.next) (hne : p ≠ po ∧ z ≠ po)
    (K : OutK h0 h N po p z n kv0 iv0 []) {f : Fr} (f1 : f.at 1 = .int .u8 (b : Int)) (f2 : f.at 2 = .ptr p 0) (f4 : f.at 4 = .ptr z 0) (f8 : f.at 8 = .ptr po 0) (f33 : f.at 33 = .int .i64 (n.keys.length : Int)) (f34 : f.at 34 = .int .i64 0) {Q : AExit → Fr → AH → Prop}
    (hq : ∀ f' h', OutK h0 h' N po p z n kv0 iv0 ((n.keys.zip n.kids).filter fun q => decide (q.1 ≠ b)) → f'.at 4 = .ptr z 0 → f'.at 8 = .ptr po 0 → Q (.exit 0) f' h') : Wp (code T (.loop c34l0) f h) Q := by
  have fa : ∀ o j, fieldAddrV j (.ptr o 0) = some (.ptr o (0 + j)) := fun o j => rfl
  have hsm := r.same
  have hfew := r.few
  have hh : highP n.kind ≤ 256 := by unfold highP; (repeat' split) <;> omega
  have lk0 := sees_low s1 hl0
  have li0 := sees_low s2 hl0
  refine wpc_loop (fun d f g => ∃ j, d = n.keys.length - j ∧ j ≤ n.keys.length ∧ N ≤ g.next ∧ OutK h0 g N po p z n kv0 iv0 (((n.keys.zip n.kids).take j).filter fun q => decide (q.1 ≠ b)) ∧ f.at 1 = .int .u8 (b : Int) ∧ f.at 2 = .ptr p 0 ∧ f.at 4 = .ptr z 0 ∧ f.at 8 = .ptr po 0 ∧ f.at 33 = .int .i64 (n.keys.length : Int) ∧ f.at 34 = .int .i64 (j : Nat)) ?_ n.keys.length _ _ ⟨0, rfl, Nat.zero_le _, hNn, K, f1, f2, f4, f8, f33, f34⟩
  rintro d f g ⟨j, rfl, hj, hNg, K, f1, f2, f4, f8, f33, f34⟩
  by_cases hlt : j < n.keys.length
  · have hd : decide ((j : Int) < (n.keys.length : Int)) = true := by rw [decide_eq_true_eq]; omega
    have w1 : IntKind.i64.wrap ((j : Int) + 1) = ((j + 1 : Nat) : Int) := by rw [wrap_i64 (by omega) (by omega)]; omega
    obtain ⟨x, hx⟩ : ∃ x, n.kids[j]? = some x := ⟨_, List.getElem?_eq_getElem (by omega)⟩
    obtain ⟨y, hy⟩ : ∃ y, n.keys[j]? = some y := ⟨_, List.getElem?_eq_getElem (by omega)⟩
    have hst := filt_step (b := b) (pair_at hy hx)
    obtain ⟨a2, i2, L2⟩ := sees_all s1 (i := j) (x := .int .u8 (y : Int)) (by simp [kcells, hy])
    obtain ⟨a1, i1, L1⟩ := sees_all s2 (i := j) (x := .int .i64 x) (by simp [icells, hx])
    have sg1 := sees_keep s1 hl0 K.q
    have sg2 := sees_keep s2 hl0 K.q
    have p3 : loadV g false 1 (.ptr p 3) = some kv0 := load_at K.gp rfl
    by_cases hb : y = b
    · have b1 : ((y : Int) != (b : Int)) = false := by rw [hb]; simp
      rw [if_neg (by simpa using hb), List.append_nil] at hst
      simp only [c34l0, vms, vmc, AOpd.val, Nat.reduceEqDiff, reduceCtorEq, Nat.reduceAdd, Nat.reduceBEq, f1, f2, f4, f8, f33, f34, hd, fa, Nat.zero_add, p3, i2, L2 g sg1, b1, w1]
      refine ⟨n.keys.length - (j + 1), by omega, j + 1, rfl, by omega, hNg, by rw [hst]; exact K, ?_, ?_, ?_, ?_, ?_, ?_⟩
      all_goals first | trivial | assumption | rfl
    · have b1 : ((y : Int) != (b : Int)) = true := by simp only [bne_iff_ne, ne_eq]; omega
      rw [if_pos (by simpa using hb)] at hst
      have hll : (((n.keys.zip n.kids).take j).filter fun q => decide (q.1 ≠ b)).length < 1000 := by
        have h1 := List.length_filter_le (fun q : Nat × Int => decide (q.1 ≠ b)) ((n.keys.zip n.kids).take j)
        have h2 : ((n.keys.zip n.kids).take j).length ≤ j := List.length_take_le _ _
        omega
      obtain ⟨kv, iv, kv', h3, iv', h4, h5, h6, go, rk, ri, oB, gB1, gB2, a3, g3, k3, n1, n2, nk, a4, st5, st6, K6, hn6⟩ := K.more hp hz hpo hN hNg hne hll y x
      have lpo := K.low _ _ go
      have lp := K.low _ _ K.gp
      have qA : Quiet g (g.new (.cells [.int .u8 (y : Int)] true)) := (Quiet.refl _).new _
      have qB : Quiet g ((g.new (.cells [.int .u8 (y : Int)] true)).new (.cells [.int .i64 x] true)) := qA.new _
      have sA2 := sees_keep sg2 K.low qA
      have sB1 := sees_keep sg1 K.low qB
      have sB2 := sees_keep sg2 K.low qB
      have goA := qA.get go lpo
      have gpA := qA.get K.gp lp
      have goB := qB.get go lpo
      have gpB := qB.get K.gp lp
      have go3 := (k3 po lpo n1).trans go
      have gp3 := (k3 p lp n2).trans K.gp
      have s32 : Sees h3 iv0 (icells n.kids) := sees_hold sg2 fun o ho => k3 o (by have := li0 o ho; have := K.q.1; omega) fun hm => by have := nk o hm; have := li0 o ho; omega
      obtain ⟨bk, ck, fk⟩ := row_beq rk
      obtain ⟨bi, ci, fi⟩ := row_beq ri
      have bk0 : AV.beq kv0 kv0 = true := sees_beq s1
      have bi0 : AV.beq iv0 iv0 = true := sees_beq s2
      have bI : ∀ (kk : IntKind) (m : Int), AV.beq (.int kk m) (.int kk m) = true := fun kk m => by simp [AV.beq]
      have e1 : loadV g false 1 (.ptr po 3) = some kv := load_at go rfl
      have e2 : loadV (g.new (.cells [.int .u8 (y : Int)] true)) false 1 (.ptr po 4) = some iv := load_at goA rfl
      have e3 : loadV (g.new (.cells [.int .u8 (y : Int)] true)) false 1 (.ptr p 4) = some iv0 := load_at gpA rfl
      simp only [c34l0, vms, vmc, AOpd.val, Nat.reduceEqDiff, reduceCtorEq, Nat.reduceAdd, Nat.reduceBEq, f1, f2, f4, f8, f33, f34, hd, fa, Nat.zero_add, p3, i2, L2 g sg1, b1, e1, fill1b, e2, e3, i1, L1 _ sA2, fill1i]
      have m1 : loadV ((g.new (.cells [.int .u8 (y : Int)] true)).new (.cells [.int .i64 x] true)) false 1 (.ptr po 3) = some kv := load_at goB rfl
      have m2 : loadV ((g.new (.cells [.int .u8 (y : Int)] true)).new (.cells [.int .i64 x] true)) false 1 (.ptr p 3) = some kv0 := load_at gpB rfl
      have m3 : loadV ((g.new (.cells [.int .u8 (y : Int)] true)).new (.cells [.int .i64 x] true)) false 1 (.ptr po 4) = some iv := load_at goB rfl
      have m4 : loadV ((g.new (.cells [.int .u8 (y : Int)] true)).new (.cells [.int .i64 x] true)) false 1 (.ptr p 4) = some iv0 := load_at gpB rfl
      have r1 : loadV h3 false 1 (.ptr po 4) = some iv := load_at go3 rfl
      have r2 : loadV h3 false 1 (.ptr p 4) = some iv0 := load_at gp3 rfl
      rw [items_look (lk_load m1 (by simp only [vms, vmc, AOpd.val, Nat.reduceEqDiff, reduceCtorEq, Nat.reduceAdd, Nat.reduceBEq]) (by simp only [vms, vmc, AOpd.val, Nat.reduceEqDiff, reduceCtorEq, Nat.reduceAdd, Nat.reduceBEq]) bk), items_look (lk_load m2 (by simp only [vms, vmc, AOpd.val, Nat.reduceEqDiff, reduceCtorEq, Nat.reduceAdd, Nat.reduceBEq]) (by simp only [vms, vmc, AOpd.val, Nat.reduceEqDiff, reduceCtorEq, Nat.reduceAdd, Nat.reduceBEq]) bk0), items_look (lk_load (L2 _ sB1) (by simp only [vms, vmc, AOpd.val, Nat.reduceEqDiff, reduceCtorEq, Nat.reduceAdd, Nat.reduceBEq]) (by simp only [vms, vmc, AOpd.val, Nat.reduceEqDiff, reduceCtorEq, Nat.reduceAdd, Nat.reduceBEq]) (bI _ _)),
        items_look (look_build (o := g.next) (l := [.int .u8 (y : Int)]) (by simp only [vms, vmc, AOpd.val, Nat.reduceEqDiff, reduceCtorEq, Nat.reduceAdd, Nat.reduceBEq]) gB1 (by simp only [vms, vmc, AOpd.val, Nat.reduceEqDiff, reduceCtorEq, Nat.reduceAdd, Nat.reduceBEq, fill1b]) (by simp [AV.beqs, AV.beq])),
        items_look (lk_load m3 (by simp only [vms, vmc, AOpd.val, Nat.reduceEqDiff, reduceCtorEq, Nat.reduceAdd, Nat.reduceBEq]) (by simp only [vms, vmc, AOpd.val, Nat.reduceEqDiff, reduceCtorEq, Nat.reduceAdd, Nat.reduceBEq]) bi), items_look (lk_load m4 (by simp only [vms, vmc, AOpd.val, Nat.reduceEqDiff, reduceCtorEq, Nat.reduceAdd, Nat.reduceBEq]) (by simp only [vms, vmc, AOpd.val, Nat.reduceEqDiff, reduceCtorEq, Nat.reduceAdd, Nat.reduceBEq]) bi0), items_look (lk_load (L1 _ sB2) (by simp only [vms, vmc, AOpd.val, Nat.reduceEqDiff, reduceCtorEq, Nat.reduceAdd, Nat.reduceBEq]) (by simp only [vms, vmc, AOpd.val, Nat.reduceEqDiff, reduceCtorEq, Nat.reduceAdd, Nat.reduceBEq]) (bI _ _)),
        items_look (look_build (o := g.next + 1) (l := [.int .i64 x]) (by simp only [vms, vmc, AOpd.val, Nat.reduceEqDiff, reduceCtorEq, Nat.reduceAdd, Nat.reduceBEq, next_new]) gB2 (by simp only [vms, vmc, AOpd.val, Nat.reduceEqDiff, reduceCtorEq, Nat.reduceAdd, Nat.reduceBEq, fill1i]) (by simp [AV.beqs, AV.beq]))]
      simp only [vms, vmc, AOpd.val, Nat.reduceEqDiff, reduceCtorEq, Nat.reduceAdd, Nat.reduceBEq, a3, f8, fa, Nat.zero_add]
      rw [items_look (lk_load r1 (by simp only [vms, vmc, AOpd.val, Nat.reduceEqDiff, reduceCtorEq, Nat.reduceAdd, Nat.reduceBEq]) (by simp only [vms, vmc, AOpd.val, Nat.reduceEqDiff, reduceCtorEq, Nat.reduceAdd, Nat.reduceBEq]) bi), items_look (lk_load r2 (by simp only [vms, vmc, AOpd.val, Nat.reduceEqDiff, reduceCtorEq, Nat.reduceAdd, Nat.reduceBEq]) (by simp only [vms, vmc, AOpd.val, Nat.reduceEqDiff, reduceCtorEq, Nat.reduceAdd, Nat.reduceBEq]) bi0), items_look (lk_load (L1 _ s32) (by simp only [vms, vmc, AOpd.val, Nat.reduceEqDiff, reduceCtorEq, Nat.reduceAdd, Nat.reduceBEq]) (by simp only [vms, vmc, AOpd.val, Nat.reduceEqDiff, reduceCtorEq, Nat.reduceAdd, Nat.reduceBEq]) (bI _ _)),
        items_look (look_build (o := g.next + 1) (l := [.int .i64 x]) (by simp only [vms, vmc, AOpd.val, Nat.reduceEqDiff, reduceCtorEq, Nat.reduceAdd, Nat.reduceBEq, next_new]) g3 (by simp only [vms, vmc, AOpd.val, Nat.reduceEqDiff, reduceCtorEq, Nat.reduceAdd, Nat.reduceBEq, fill1i]) (by simp [AV.beqs, AV.beq]))]
      simp only [vms, vmc, AOpd.val, Nat.reduceEqDiff, reduceCtorEq, Nat.reduceAdd, Nat.reduceBEq, next_new, a4, st5, st6, f8, f34, fa, Nat.zero_add, w1]
      refine ⟨n.keys.length - (j + 1), by omega, j + 1, rfl, by omega, ?_, by rw [hst]; exact K6, ?_, ?_, ?_, ?_, ?_, ?_⟩
      · omega
      all_goals first | trivial | assumption | rfl
  · have hd : decide ((j : Int) < (n.keys.length : Int)) = false := by rw [decide_eq_false_iff_not]; omega
    have hjl : (n.keys.zip n.kids).take j = n.keys.zip n.kids := List.take_of_length_le (by rw [List.length_zip]; omega)
    rw [hjl] at K
    simp only [c34l0, vms, vmc, AOpd.val, Nat.reduceEqDiff, reduceCtorEq, Nat.reduceAdd, Nat.reduceBEq, f4, f8, f33, f34, hd]
    refine hq _ _ K ?_ ?_ <;> simp only [vms, vmc, AOpd.val, Nat.reduceEqDiff, reduceCtorEq, Nat.reduceAdd, Nat.reduceBEq, f4, f8]
end Go.Proofs.Ytpabmkicdcilpaa
/- The reference's nodes: Without, the whole. -/
namespace Go.Proofs.Ytpabmkicdcilpaa
open Go.Vm
set_option linter.unusedSimpArgs false
set_option linter.unusedVariables false
set_option maxRecDepth 100000
variable {T : Vm.Prog} {h : AH}
theorem fillOut (n : NodeP) : fillV [AV.int .i64 0, .int .u64 0, .str [], .nilSlice, .nilSlice] [(0, 1, .int .i64 n.kind), (1, 1, .int .u64 (n.word : Int)), (2, 1, .str n.pre)] = some ((outP n []).cells .nilSlice .nilSlice) := by simp [fillV, AV.isDef, AV.cells, setMany, NodeP.cells, outP]
theorem store5 {g : AH} {q : Nat} {m : NodeP} {kv iv : AV} {l : List AV} (hz : g.get q = some (.cells l true)) (hl : l.length = 5) (f1 : kv.flat = true) (f2 : iv.flat = true) : storeV g 5 (.ptr q 0) (.agg (m.cells kv iv)) = some (g.set q (.cells (m.cells kv iv) true)) := store_all hz hl rfl (by simp only [NodeP.cells, List.all_cons, List.all_nil, f1, f2]; rfl)
theorem without34_ok (k : Fits T) (hl : Low h) {v : AV} {n : NodeP} (ok : n.Ok) (s : NodeV h v n) {b : Nat} : Gives T 34 [v, .int .u8 (b : Int)] h fun r h' => Quiet h h' ∧ Low h' ∧
    ((WithoutIs n b none ∧ r = .tuple [zeroNode, .bool false]) ∨ ∃ m mv, WithoutIs n b (some m) ∧ NodeV h' mv m ∧ r = .tuple [mv, .bool true]) := by
  obtain ⟨kv, iv, rfl, s1, s2⟩ := s
  refine gives_func (k.env _ (by decide)) (k.at (fn := a34) rfl) rfl ?_
  have fa : ∀ o j, fieldAddrV j (.ptr o 0) = some (.ptr o (0 + j)) := fun o j => rfl
  have q2 : Quiet h ((h.new (.cells (n.cells kv iv) true)).new (.cells [.int .i64 0, .int .u64 0, .str [], .nilSlice, .nilSlice] true)) := ((Quiet.refl _).new _).new _
  have lo2 : Low ((h.new (.cells (n.cells kv iv) true)).new (.cells [.int .i64 0, .int .u64 0, .str [], .nilSlice, .nilSlice] true)) := (hl.new _).new _
  have gp : ((h.new (.cells (n.cells kv iv) true)).new (.cells [.int .i64 0, .int .u64 0, .str [], .nilSlice, .nilSlice] true)).get h.next = some (.cells (n.cells kv iv) true) := by rw [AH.get_new, if_neg (by rw [next_new]; omega), get_new_same]
  have gz : ((h.new (.cells (n.cells kv iv) true)).new (.cells [.int .i64 0, .int .u64 0, .str [], .nilSlice, .nilSlice] true)).get (h.next + 1) = some (.cells [.int .i64 0, .int .u64 0, .str [], .nilSlice, .nilSlice] true) := get_new_same
  have nx : ((h.new (.cells (n.cells kv iv) true)).new (.cells [.int .i64 0, .int .u64 0, .str [], .nilSlice, .nilSlice] true)).next = h.next + 2 := rfl
  simp only [a34, c34, vms, vmc, AOpd.val, Nat.reduceEqDiff, reduceCtorEq, Nat.reduceAdd, Nat.reduceBEq, box_agg, next_new, load_all gp (n := 5) rfl]
  generalize ((h.new (.cells (n.cells kv iv) true)).new (.cells [.int .i64 0, .int .u64 0, .str [], .nilSlice, .nilSlice] true)) = h2 at *
  have t1 := sees_keep s1 hl q2
  have t2 := sees_keep s2 hl q2
  refine Gives.bind ((find36_ok k lo2 ok ⟨kv, iv, rfl, t1, t2⟩ (b := b)).mono ?_)
  rintro r h3 ⟨q3, lo3, ⟨i, x, hat, hx, rfl⟩ | ⟨hat, rfl⟩⟩
  rotate_left
  · have gz3 := q3.get gz (lo2 _ _ gz)
    have st := zN_set gz3
    have hr : (h3.set (h.next + 1) (.cells [.int .i64 0, .int .u64 0, .str [], .nilSlice, .nilSlice] true)).get (h.next + 1) = some (.cells [.int .i64 0, .int .u64 0, .str [], .nilSlice, .nilSlice] true) := get_set_same
    simp only [vms, vmc, AOpd.val, Nat.reduceEqDiff, reduceCtorEq, Nat.reduceAdd, Nat.reduceBEq, Bool.not_false, fill5, st, res_cell, load_all hr (n := 5) rfl]
    refine ⟨(q2.trans q3).set (by omega) _, lo3.set (lo3 _ _ gz3) _, .inl ⟨?_, rfl⟩⟩
    by_cases hR : RightP n
    · refine .inr fun i hi => ?_
      have := (List.getElem?_eq_some_iff.1 hi).1
      exact hat i (by have := hR.same; omega) hi
    · exact .inl hR
  have gp3 := q3.get gp (lo2 _ _ gp)
  have gz3 := q3.get gz (lo2 _ _ gz)
  simp only [vms, vmc, AOpd.val, Nat.reduceEqDiff, reduceCtorEq, Nat.reduceAdd, Nat.reduceBEq, Bool.not_true, load_all gp3 (n := 5) rfl]
  refine Gives.bind ((rightR_ok k lo3 ok ⟨kv, iv, rfl, sees_keep t1 lo2 q3, sees_keep t2 lo2 q3⟩).mono ?_)
  rintro _ h4 ⟨rfl, q4, lo4⟩
  have gp4 := q4.get gp3 (lo3 _ _ gp3)
  have gz4 := q4.get gz3 (lo3 _ _ gz3)
  have q14 := (q2.trans q3).trans q4
  by_cases hR : RightP n
  rotate_left
  · have st := zN_set gz4
    have hr : (h4.set (h.next + 1) (.cells [.int .i64 0, .int .u64 0, .str [], .nilSlice, .nilSlice] true)).get (h.next + 1) = some (.cells [.int .i64 0, .int .u64 0, .str [], .nilSlice, .nilSlice] true) := get_set_same
    simp only [vms, vmc, AOpd.val, Nat.reduceEqDiff, reduceCtorEq, Nat.reduceAdd, Nat.reduceBEq, rightP_no hR, Bool.not_false, fill5, st, res_cell, load_all hr (n := 5) rfl]
    exact ⟨q14.set (by omega) _, lo4.set (lo4 _ _ gz4) _, .inl ⟨.inl hR, rfl⟩⟩
  have l0 := load_at gp4 (i := 0) (v := .int .i64 n.kind) rfl
  have l1 := load_at gp4 (i := 1) (v := .int .u64 (n.word : Int)) rfl
  have l2 := load_at gp4 (i := 2) (v := .str n.pre) rfl
  have g5 : (h4.new (.cells [.int .i64 0, .int .u64 0, .str [], .nilSlice, .nilSlice] true)).get h4.next = some (.cells [.int .i64 0, .int .u64 0, .str [], .nilSlice, .nilSlice] true) := get_new_same
  have st5 := store5 (m := outP n []) (kv := .nilSlice) (iv := .nilSlice) g5 rfl rfl rfl
  have q5 : Quiet h4 ((h4.new (.cells [.int .i64 0, .int .u64 0, .str [], .nilSlice, .nilSlice] true)).set h4.next (.cells ((outP n []).cells .nilSlice .nilSlice) true)) := ((Quiet.refl _).new _).set (Nat.le_refl _) _
  have lo5 : Low ((h4.new (.cells [.int .i64 0, .int .u64 0, .str [], .nilSlice, .nilSlice] true)).set h4.next (.cells ((outP n []).cells .nilSlice .nilSlice) true)) := (lo4.new _).set (by rw [next_new]; omega) _
  have go5 : ((h4.new (.cells [.int .i64 0, .int .u64 0, .str [], .nilSlice, .nilSlice] true)).set h4.next (.cells ((outP n []).cells .nilSlice .nilSlice) true)).get h4.next = some (.cells ((outP n []).cells .nilSlice .nilSlice) true) := get_set_same
  have n5 : ((h4.new (.cells [.int .i64 0, .int .u64 0, .str [], .nilSlice, .nilSlice] true)).set h4.next (.cells ((outP n []).cells .nilSlice .nilSlice) true)).next = h4.next + 1 := rfl
  have gp5 := q5.get gp4 (lo4 _ _ gp4)
  have gz5 := q5.get gz4 (lo4 _ _ gz4)
  have n4 := (q3.trans q4).1
  have l53 := load_at gp5 (i := 3) (v := kv) rfl
  have lk : lenOfV kv = some n.keys.length := by simpa [kcells] using s1.len
  have K0 : OutK h _ (h4.next + 1) h4.next h.next (h.next + 1) n kv iv [] := ⟨lo5, q14.trans q5, gp5, gz5, .nilSlice, .nilSlice, go5, .inl ⟨rfl, rfl⟩, .inl ⟨rfl, rfl⟩, fun o ho => by simp [objs] at ho, fun o ho => by simp [objs] at ho, fun o ho => by simp [objs] at ho⟩
  simp only [vms, vmc, AOpd.val, Nat.reduceEqDiff, reduceCtorEq, Nat.reduceAdd, Nat.reduceBEq, rightP_iff.2 hR, Bool.not_true, fa, Nat.zero_add, l0, l1, l2, fillOut, st5, l53, lk]
  refine without_loop (b := b) hR ok hl s1 s2 (N := h4.next + 1) (by omega) (by omega) (by omega) (by omega) (by omega) (by omega) K0 ?_ ?_ ?_ ?_ ?_ ?_ (fun f' h' K f4 f8 => ?_)
  · simp only [vms, vmc, AOpd.val, Nat.reduceEqDiff, reduceCtorEq, Nat.reduceAdd, Nat.reduceBEq]
  · simp only [vms, vmc, AOpd.val, Nat.reduceEqDiff, reduceCtorEq, Nat.reduceAdd, Nat.reduceBEq]
  · simp only [vms, vmc, AOpd.val, Nat.reduceEqDiff, reduceCtorEq, Nat.reduceAdd, Nat.reduceBEq]
  · simp only [vms, vmc, AOpd.val, Nat.reduceEqDiff, reduceCtorEq, Nat.reduceAdd, Nat.reduceBEq]
  · simp only [vms, vmc, AOpd.val, Nat.reduceEqDiff, reduceCtorEq, Nat.reduceAdd, Nat.reduceBEq]
  · simp only [vms, vmc, AOpd.val, Nat.reduceEqDiff, reduceCtorEq, Nat.reduceAdd, Nat.reduceBEq]
  obtain ⟨kv', iv', go, rk, ri, nk, ni, dj⟩ := K.out
  obtain ⟨_, _, fk⟩ := row_beq rk
  obtain ⟨_, _, fi⟩ := row_beq ri
  have st6 := store5 (m := outP n ((n.keys.zip n.kids).filter fun q => decide (q.1 ≠ b))) (kv := kv') (iv := iv') K.gz rfl fk fi
  have hr : (h'.set (h.next + 1) (.cells ((outP n ((n.keys.zip n.kids).filter fun q => decide (q.1 ≠ b))).cells kv' iv') true)).get (h.next + 1) = some (.cells ((outP n ((n.keys.zip n.kids).filter fun q => decide (q.1 ≠ b))).cells kv' iv') true) := get_set_same
  simp only [vms, vmc, AOpd.val, Nat.reduceEqDiff, reduceCtorEq, Nat.reduceAdd, Nat.reduceBEq, f4, f8, load_all go (n := 5) rfl, st6, res_cell, load_all hr (n := 5) rfl]
  have lzz := K.low _ _ K.gz
  have hk6 : ∀ X, Row1 (h'.set (h.next + 1) X) kv' _ := fun X => RowS.keep rk fun o ho => by rw [AH.get_set, if_neg (by have := nk o ho; omega)]
  have hi6 : ∀ X, Row1 (h'.set (h.next + 1) X) iv' _ := fun X => RowS.keep ri fun o ho => by rw [AH.get_set, if_neg (by have := ni o ho; omega)]
  refine ⟨K.q.set (by omega) _, K.low.set lzz _, .inr ⟨outP n ((n.keys.zip n.kids).filter fun q => decide (q.1 ≠ b)), _, ⟨hR, i, hat.1, without_list hR hat.1⟩, ⟨kv', iv', rfl, ?_, ?_⟩, rfl⟩⟩
  · exact (hk6 _).sees
  · exact (hi6 _).sees
end Go.Proofs.Ytpabmkicdcilpaa

/- The reference's nodes: Without. -/
import Derived.Test.YtpabmkicdcilpaaP7NodeF
import Derived.Test.YtpabmkicdcilpaaP7R
namespace Go.Proofs.Ytpabmkicdcilpaa
open Go.Vm
set_option linter.unusedSimpArgs false
set_option linter.unusedVariables false
set_option maxRecDepth 100000
variable {T : Vm.Prog} {h : AH}
/-- A node under way: the first keys and children. -/
def outP (n : NodeP) (l : List (Nat × Int)) : NodeP := { n with keys := l.map (·.1), kids := l.map (·.2) }
structure OutK (h0 h : AH) (N po p z : Nat) (n : NodeP) (kv0 iv0 : AV) (l : List (Nat × Int)) : Prop where
  low : Low h
  q : Quiet h0 h
  gp : h.get p = some (.cells (n.cells kv0 iv0) true)
  gz : h.get z = some (.cells [.int .i64 0, .int .u64 0, .str [], .nilSlice, .nilSlice] true)
  out : ∃ kv iv, h.get po = some (.cells ((outP n l).cells kv iv) true) ∧ Row1 h kv (kcells (l.map (·.1))) ∧ Row1 h iv (icells (l.map (·.2))) ∧ (∀ o ∈ objs kv, N ≤ o) ∧ (∀ o ∈ objs iv, N ≤ o) ∧ ∀ o ∈ objs kv, o ∉ objs iv
end Go.Proofs.Ytpabmkicdcilpaa
/- The reference's nodes: Without, the walk. -/
namespace Go.Proofs.Ytpabmkicdcilpaa
open Go.Vm
set_option linter.unusedSimpArgs false
set_option linter.unusedVariables false
set_option maxRecDepth 100000
variable {T : Vm.Prog} {h : AH}
theorem row_beq {v : AV} {xs : List AV} (r : Row1 h v xs) : AV.beq v v = true ∧ v.cells = [v] ∧ v.flat = true := by
  have := RowS.cell r
  exact ⟨this.2.2, this.1, this.2.1⟩
/-- One more pair. -/
theorem OutK.more {h0 : AH} {N po p z : Nat} {n : NodeP} {kv0 iv0 : AV} {l : List (Nat × Int)} (K : OutK h0 h N po p z n kv0 iv0 l) (hp : p < N) (hz : z < N) (hpo : po < N) (hN : h0.next ≤ po) (hNn : N ≤ h.next) (hne : p ≠ po ∧ z ≠ po) (hl : l.length < 1000) (b : Nat) (x : Int) :
    ∃ kv iv kv' h3 iv' h4 h5 h6, h.get po = some (.cells ((outP n l).cells kv iv) true) ∧ Row1 h kv (kcells (l.map (·.1))) ∧ Row1 h iv (icells (l.map (·.2))) ∧
      (∀ o, o < h.next → ((h.new (.cells [.int .u8 (b : Int)] true)).new (.cells [.int .i64 x] true)).get o = h.get o) ∧
      ((h.new (.cells [.int .u8 (b : Int)] true)).new (.cells [.int .i64 x] true)).get h.next = some (.cells [.int .u8 (b : Int)] true) ∧
      ((h.new (.cells [.int .u8 (b : Int)] true)).new (.cells [.int .i64 x] true)).get (h.next + 1) = some (.cells [.int .i64 x] true) ∧
      appV 1 1 ((h.new (.cells [.int .u8 (b : Int)] true)).new (.cells [.int .i64 x] true)) kv (.slice h.next 0 1 1 1 true) = some (kv', h3) ∧ h3.get (h.next + 1) = some (.cells [.int .i64 x] true) ∧
      (∀ o, o < h.next → o ∉ objs kv → h3.get o = h.get o) ∧ po ∉ objs kv ∧ p ∉ objs kv ∧ (∀ o ∈ objs kv, N ≤ o) ∧
      appV 1 8 h3 iv (.slice (h.next + 1) 0 1 1 1 true) = some (iv', h4) ∧ storeV h4 1 (.ptr po 3) kv' = some h5 ∧ storeV h5 1 (.ptr po 4) iv' = some h6 ∧ OutK h0 h6 N po p z n kv0 iv0 (l ++ [(b, x)]) ∧ h.next ≤ h6.next := by
  obtain ⟨kv, iv, go, rk, ri, nk, ni, dj⟩ := K.out
  have hpo1 : po ∉ objs kv := fun hm => by have := nk _ hm; omega
  have hpo2 : po ∉ objs iv := fun hm => by have := ni _ hm; omega
  obtain ⟨kv', h3, iv', h4, a1, g1, g2, k3, a2, g3, rk', ri', d1, d2, dj', ok', oi', lo4, k4, n4⟩ := push K.low go rk ri hpo1 hpo2 dj (by simpa using hl) (by simpa using hl) (b := b) (x := x)
  have hnx := K.q.1
  have lpo := K.low _ _ go
  have lp := K.low _ _ K.gp
  have lz := K.low _ _ K.gz
  obtain ⟨_, c1, f1⟩ := row_beq rk'
  obtain ⟨_, c2, f2⟩ := row_beq ri'
  have st1 : storeV h4 1 (.ptr po 3) kv' = some (h4.set po (.cells ((outP n l).cells kv' iv) true)) := store_at g3 (by simp [NodeP.cells]) c1 f1
  have st2 : storeV (h4.set po (.cells ((outP n l).cells kv' iv) true)) 1 (.ptr po 4) iv' = some ((h4.set po (.cells ((outP n l).cells kv' iv) true)).set po (.cells ((outP n (l ++ [(b, x)])).cells kv' iv') true)) := store_at get_set_same (by simp [NodeP.cells]) c2 f2
  have oth : ∀ o, o ≠ po → ((h4.set po (.cells ((outP n l).cells kv' iv) true)).set po (.cells ((outP n (l ++ [(b, x)])).cells kv' iv') true)).get o = h4.get o := fun o ho => by rw [AH.get_set, if_neg (Ne.symm ho), AH.get_set, if_neg (Ne.symm ho)]
  have old : ∀ o, o < N → o < h.next → h4.get o = h.get o := fun o ho hl => k4 o hl (fun hm => by have := nk o hm; omega) (fun hm => by have := ni o hm; omega)
  refine ⟨kv, iv, kv', h3, iv', h4, _, _, go, rk, ri, fun o ho => ?_, ?_, get_new_same, a1, g1, k3, hpo1, fun hm => by have := nk _ hm; omega, nk, a2, st1, st2, ?_, by rw [next_set, next_set]; omega⟩
  · rw [AH.get_new, if_neg (by rw [next_new]; omega), AH.get_new, if_neg (by omega)]
  · rw [AH.get_new, if_neg (by rw [next_new]; omega), get_new_same]
  · have hl4 : po < h4.next := by omega
    refine ⟨(lo4.set hl4 _).set (by rw [next_set]; exact hl4) _, ⟨?_, fun o ho _ => ?_⟩, ?_, ?_, ⟨kv', iv', get_set_same, ?_, ?_, ?_, ?_, dj'⟩⟩
    · rw [next_set, next_set]; omega
    · rw [oth o (by omega), old o (by omega) (by omega)]
      exact K.q.2 o ho id
    · rw [oth p hne.1, old p hp lp]; exact K.gp
    · rw [oth z hne.2, old z hz lz]; exact K.gz
    · rw [List.map_append]
      exact RowS.keep rk' fun o ho => oth o fun e => d1 (e ▸ ho)
    · rw [List.map_append]
      exact RowS.keep ri' fun o ho => oth o fun e => d2 (e ▸ ho)
    · intro o ho
      rcases ok' o ho with h7 | h7
      · exact nk o h7
      · omega
    · intro o ho
      rcases oi' o ho with h7 | h7
      · exact ni o h7
      · omega
end Go.Proofs.Ytpabmkicdcilpaa
/- The reference's nodes: Without, its loop. -/
namespace Go.Proofs.Ytpabmkicdcilpaa
open Go.Vm
set_option linter.unusedSimpArgs false
set_option linter.unusedVariables false
set_option maxRecDepth 100000
variable {T : Vm.Prog} {h : AH}
end Go.Proofs.Ytpabmkicdcilpaa
/- The reference's nodes: Without, the whole. -/
namespace Go.Proofs.Ytpabmkicdcilpaa
open Go.Vm
set_option linter.unusedSimpArgs false
set_option linter.unusedVariables false
set_option maxRecDepth 100000
variable {T : Vm.Prog} {h : AH}
end Go.Proofs.Ytpabmkicdcilpaa

/- The node that the laws make of bytes. -/
import Derived.Test.YtpabmkicdcilpaaP7NodeB
namespace Go.Proofs.Ytpabmkicdcilpaa
open Go.Vm
set_option linter.unusedSimpArgs false
set_option linter.unusedVariables false
set_option maxRecDepth 100000
variable {T : Vm.Prog} {h : AH}
theorem high39_ok (k : Fits T) {x : Int} : Gives T 39 [.int .i64 x] h fun r h' => r = .int .i64 (highP x : Int) ∧ h' = h := by
  refine gives_func (k.env _ (by decide)) (k.at (fn := a39) rfl) rfl ?_
  unfold highP
  by_cases h1 : x = 1
  · simp only [a39, c39, vms, vmc, AOpd.val, Nat.reduceEqDiff, reduceCtorEq, Nat.reduceAdd, Nat.reduceBEq, eqI h1, if_pos h1]; exact ⟨rfl, trivial⟩
  · by_cases h2 : x = 2
    · simp only [a39, c39, vms, vmc, AOpd.val, Nat.reduceEqDiff, reduceCtorEq, Nat.reduceAdd, Nat.reduceBEq, neI h1, eqI h2, if_neg h1, if_pos h2]; exact ⟨rfl, trivial⟩
    · by_cases h3 : x = 3
      · simp only [a39, c39, vms, vmc, AOpd.val, Nat.reduceEqDiff, reduceCtorEq, Nat.reduceAdd, Nat.reduceBEq, neI h1, neI h2, eqI h3, if_neg h1, if_neg h2, if_pos h3]; exact ⟨rfl, trivial⟩
      · by_cases h4 : x = 4
        · simp only [a39, c39, vms, vmc, AOpd.val, Nat.reduceEqDiff, reduceCtorEq, Nat.reduceAdd, Nat.reduceBEq, neI h1, neI h2, neI h3, eqI h4, if_neg h1, if_neg h2, if_neg h3, if_pos h4]; exact ⟨rfl, trivial⟩
        · simp only [a39, c39, vms, vmc, AOpd.val, Nat.reduceEqDiff, reduceCtorEq, Nat.reduceAdd, Nat.reduceBEq, neI h1, neI h2, neI h3, neI h4, if_neg h1, if_neg h2, if_neg h3, if_neg h4]; exact ⟨rfl, trivial⟩
theorem row1_append {v : AV} {bytes : Nat} {xs : List AV} {x : AV} {o2 : Nat} (hlow : Low h) (r : Row1 h v xs) (hb : bytes ≤ 1048576) (hb0 : 0 < bytes) (hs : xs.length < 1000000) (h2 : h.get o2 = some (.cells [x] true)) (hfl : x.flat = true) :
    ∃ v' h', appV 1 bytes h v (.slice o2 0 1 1 1 true) = some (v', h') ∧ Row1 h' v' (xs ++ [x]) ∧ (∀ o ∈ objs v', o ∈ objs v ∨ h.next ≤ o) ∧ (∀ o ∈ objs v', o < h'.next) ∧ Only h h' (objs v) ∧ Low h' := by
  obtain ⟨v', h', h1, h3, h4⟩ := RowS.append hlow r (by decide) hb hb0 (by simpa using hs) h2 rfl (by simp [hfl])
  exact ⟨v', h', h1, by simpa [Row1] using h3, h4⟩
theorem andNot_u64 {a : Nat} (ha : a < 18446744073709551616) : ∃ m : Nat, m < 18446744073709551616 ∧ m &&& 2 = 0 ∧ m &&& 1 = 0 ∧ binV .andNot (.int .u64 (a : Int)) (.int .u64 3) = some (.int .u64 (m : Int)) := by
  refine ⟨(BitVec.ofInt 64 (a : Int) &&& ~~~(BitVec.ofInt 64 3)).toNat, (BitVec.isLt _), ?_, ?_, ?_⟩
  · rw [BitVec.toNat_and]
    apply Nat.eq_of_testBit_eq
    intro i
    rw [Nat.testBit_and, Nat.testBit_and]
    by_cases hi : i = 1
    · subst hi
      have : (BitVec.toNat (~~~(BitVec.ofInt 64 3))).testBit 1 = false := by decide
      rw [this]; simp
    · have : (2 : Nat).testBit i = false := by
        rw [show (2 : Nat) = 2 ^ 1 from rfl, Nat.testBit_two_pow]
        simp; omega
      rw [this]; simp
  · rw [BitVec.toNat_and]
    apply Nat.eq_of_testBit_eq
    intro i
    rw [Nat.testBit_and, Nat.testBit_and]
    by_cases hi : i = 0
    · subst hi
      have : (BitVec.toNat (~~~(BitVec.ofInt 64 3))).testBit 0 = false := by decide
      rw [this]; simp
    · have : (1 : Nat).testBit i = false := by
        rw [show (1 : Nat) = 2 ^ 0 from rfl, Nat.testBit_two_pow]
        simp; omega
      rw [this]; simp
  · show some (AV.int .u64 (IntKind.u64.wrap ((BitVec.ofInt 64 (a : Int) &&& ~~~(BitVec.ofInt 64 3)).toNat : Int))) = _
    rw [wrap_u64 (by exact BitVec.isLt _)]
/-- Bytes as cells of the array. -/
def bcells (t : List Bool) : List AV := t.map .bool
def kidsCells (kd : Int) (wd : Nat) (px : List UInt8) (kv : AV) (fr : Int) : List AV := [.int .i64 kd, .int .u64 (wd : Int), .str px, kv, .int .i64 fr]
/-- While the node is made: where all lies, and that nothing else is touched. -/
structure MadeS (h h' : AH) (kc : List AV) (t : List Bool) (n : NodeP) (kv iv : AV) : Prop where
  quiet : Quiet h h'
  low : Low h'
  src : h'.get h.next = some (.cells kc true)
  out : h'.get (h.next + 1) = some (.cells [.int .i64 0, .int .u64 0, .str [], .nilSlice, .nilSlice] true)
  node : h'.get (h.next + 2) = some (.cells (n.cells kv iv) true)
  arr : h'.get (h.next + 3) = some (.cells (bcells t) true)
  keys : Row1 h' kv (kcells n.keys)
  kids : Row1 h' iv (icells n.kids)
  fk : ∀ o ∈ objs kv, h.next + 4 ≤ o
  fi : ∀ o ∈ objs iv, h.next + 4 ≤ o ∧ o ∉ objs kv
theorem MadeS.rowk {h' : AH} {kc : List AV} {t : List Bool} {n : NodeP} {kv iv : AV} (s : MadeS h h' kc t n kv iv) {p : Nat} (hp : p < h.next + 4) (x : AObj) : Row1 (h'.set p x) kv (kcells n.keys) := RowS.keep s.keys fun o ho => by have := s.fk o ho; rw [AH.get_set, if_neg (by omega)]
theorem MadeS.rowi {h' : AH} {kc : List AV} {t : List Bool} {n : NodeP} {kv iv : AV} (s : MadeS h h' kc t n kv iv) {p : Nat} (hp : p < h.next + 4) (x : AObj) : Row1 (h'.set p x) iv (icells n.kids) := RowS.keep s.kids fun o ho => by have := (s.fi o ho).1; rw [AH.get_set, if_neg (by omega)]
/-- The array is written. -/
theorem MadeS.mark {h' : AH} {kc : List AV} {t : List Bool} {n : NodeP} {kv iv : AV} (s : MadeS h h' kc t n kv iv) (t' : List Bool) : MadeS h (h'.set (h.next + 3) (.cells (bcells t') true)) kc t' n kv iv where
  quiet := s.quiet.set (by omega) _
  low := s.low.set (s.low _ _ s.arr) _
  src := by rw [AH.get_set, if_neg (by omega)]; exact s.src
  out := by rw [AH.get_set, if_neg (by omega)]; exact s.out
  node := by rw [AH.get_set, if_neg (by omega)]; exact s.node
  arr := get_set_same
  keys := s.rowk (by omega) _
  kids := s.rowi (by omega) _
  fk := s.fk
  fi := s.fi
/-- The node's own cells are written. -/
theorem MadeS.kind {h' : AH} {kc : List AV} {t : List Bool} {n : NodeP} {kv iv : AV} (s : MadeS h h' kc t n kv iv) (m : NodeP) (e1 : m.keys = n.keys) (e2 : m.kids = n.kids) : MadeS h (h'.set (h.next + 2) (.cells (m.cells kv iv) true)) kc t m kv iv where
  quiet := s.quiet.set (by omega) _
  low := s.low.set (s.low _ _ s.node) _
  src := by rw [AH.get_set, if_neg (by omega)]; exact s.src
  out := by rw [AH.get_set, if_neg (by omega)]; exact s.out
  node := get_set_same
  arr := by rw [AH.get_set, if_neg (by omega)]; exact s.arr
  keys := by rw [e1]; exact s.rowk (by omega) _
  kids := by rw [e2]; exact s.rowi (by omega) _
  fk := s.fk
  fi := s.fi
theorem MadeS.only {h' g : AH} {kc : List AV} {t : List Bool} {n : NodeP} {kv iv : AV} (s : MadeS h h' kc t n kv iv) {x : AObj} {F : List Nat} (on : Only (h'.new x) g F) (hF : ∀ o ∈ F, h.next + 4 ≤ o) :
    (∀ p y, p < h.next + 4 → h'.get p = some y → g.get p = some y) ∧ Quiet h g := by
  have keep : ∀ p y, p < h.next + 4 → h'.get p = some y → g.get p = some y := fun p y hp hy => by
    have := s.low _ _ hy
    rw [on.2 p (by rw [next_new]; omega) (fun hm => by have := hF p hm; omega), AH.get_new, if_neg (by omega)]
    exact hy
  refine ⟨keep, ⟨by have := s.quiet.1; have := on.1; rw [next_new] at this; omega, fun q hq hn => ?_⟩⟩
  have := s.quiet.1
  rw [on.2 q (by rw [next_new]; omega) (fun hm => by have := hF q hm; omega), AH.get_new, if_neg (by omega)]
  exact s.quiet.2 q hq hn
theorem MadeS.addKey {h' : AH} {kc : List AV} {t : List Bool} {n : NodeP} {kv iv : AV} (s : MadeS h h' kc t n kv iv) (b : Nat) (hn : n.keys.length < 1000) : ∃ kv' g, appV 1 1 (h'.new (.cells [.int .u8 (b : Int)] true)) kv (.slice h'.next 0 1 1 1 true) = some (kv', g) ∧
    storeV g 1 (.ptr (h.next + 2) 3) kv' = some (g.set (h.next + 2) (.cells (n.cells kv' iv) true)) ∧ MadeS h (g.set (h.next + 2) (.cells (n.cells kv' iv) true)) kc t { n with keys := n.keys ++ [b] } kv' iv := by
  have r0 : Row1 (h'.new (.cells [.int .u8 (b : Int)] true)) kv (kcells n.keys) := RowS.keep s.keys fun o ho => by have := RowS.low s.keys s.low o ho; rw [AH.get_new, if_neg (by omega)]
  obtain ⟨kv', g, ha, hr, ho, hlt, on, lo⟩ := row1_append (bytes := 1) (s.low.new _) r0 (by decide) (by decide) (by simp [kcells]; omega) get_new_same rfl
  obtain ⟨keep, q⟩ := s.only on s.fk
  have hp2 := keep _ _ (by omega) s.node
  have nx := s.quiet.1
  have n3 : h.next + 3 < h'.next := s.low _ _ s.arr
  have e : kcells (n.keys ++ [b]) = kcells n.keys ++ [.int .u8 (b : Int)] := by simp [kcells]
  have fk' : ∀ o ∈ objs kv', h.next + 4 ≤ o := fun o hm => by
    rcases ho o hm with h1 | h1
    · exact s.fk o h1
    · rw [next_new] at h1; omega
  have ri : Row1 g iv (icells n.kids) := RowS.keep s.kids fun o hm => by
    have := RowS.low s.kids s.low o hm
    rw [on.2 o (by rw [next_new]; omega) (s.fi o hm).2, AH.get_new, if_neg (by omega)]
  refine ⟨kv', g, ha, store_at (l := n.cells kv iv) hp2 (by simp [NodeP.cells]) (RowS.cell hr).1 (RowS.cell hr).2.1, ⟨q.set (by omega) _, lo.set (lo _ _ hp2) _, ?_, ?_, get_set_same, ?_, ?_, ?_, fk', fun o hm => ⟨(s.fi o hm).1, fun hk => ?_⟩⟩⟩
  · rw [AH.get_set, if_neg (by omega)]; exact keep _ _ (by omega) s.src
  · rw [AH.get_set, if_neg (by omega)]; exact keep _ _ (by omega) s.out
  · rw [AH.get_set, if_neg (by omega)]; exact keep _ _ (by omega) s.arr
  · show Row1 _ kv' (kcells (n.keys ++ [b]))
    rw [e]
    exact RowS.keep hr fun o hm => by have := fk' o hm; rw [AH.get_set, if_neg (by omega)]
  · exact RowS.keep ri fun o hm => by have := (s.fi o hm).1; rw [AH.get_set, if_neg (by omega)]
  · rcases ho o hk with h1 | h1
    · exact (s.fi o hm).2 h1
    · have := RowS.low s.kids s.low o hm; rw [next_new] at h1; omega
theorem MadeS.addKid {h' : AH} {kc : List AV} {t : List Bool} {n : NodeP} {kv iv : AV} (s : MadeS h h' kc t n kv iv) (x : Int) (hn : n.kids.length < 1000) : ∃ iv' g, appV 1 8 (h'.new (.cells [.int .i64 x] true)) iv (.slice h'.next 0 1 1 1 true) = some (iv', g) ∧
    storeV g 1 (.ptr (h.next + 2) 4) iv' = some (g.set (h.next + 2) (.cells (n.cells kv iv') true)) ∧ MadeS h (g.set (h.next + 2) (.cells (n.cells kv iv') true)) kc t { n with kids := n.kids ++ [x] } kv iv' := by
  have r0 : Row1 (h'.new (.cells [.int .i64 x] true)) iv (icells n.kids) := RowS.keep s.kids fun o ho => by have := RowS.low s.kids s.low o ho; rw [AH.get_new, if_neg (by omega)]
  obtain ⟨iv', g, ha, hr, ho, hlt, on, lo⟩ := row1_append (bytes := 8) (s.low.new _) r0 (by decide) (by decide) (by simp [icells]; omega) get_new_same rfl
  obtain ⟨keep, q⟩ := s.only on (fun o hm => (s.fi o hm).1)
  have hp2 := keep _ _ (by omega) s.node
  have nx := s.quiet.1
  have n3 : h.next + 3 < h'.next := s.low _ _ s.arr
  have e : icells (n.kids ++ [x]) = icells n.kids ++ [.int .i64 x] := by simp [icells]
  have rk : Row1 g kv (kcells n.keys) := RowS.keep s.keys fun o hm => by
    have := RowS.low s.keys s.low o hm
    rw [on.2 o (by rw [next_new]; omega) (fun hi => (s.fi o hi).2 hm), AH.get_new, if_neg (by omega)]
  have fi' : ∀ o ∈ objs iv', h.next + 4 ≤ o ∧ o ∉ objs kv := fun o hm => by
    rcases ho o hm with h1 | h1
    · exact s.fi o h1
    · rw [next_new] at h1; exact ⟨by omega, fun hk => by have := RowS.low s.keys s.low o hk; omega⟩
  refine ⟨iv', g, ha, store_at (l := n.cells kv iv) hp2 (by simp [NodeP.cells]) (RowS.cell hr).1 (RowS.cell hr).2.1, ⟨q.set (by omega) _, lo.set (lo _ _ hp2) _, ?_, ?_, get_set_same, ?_, ?_, ?_, s.fk, fi'⟩⟩
  · rw [AH.get_set, if_neg (by omega)]; exact keep _ _ (by omega) s.src
  · rw [AH.get_set, if_neg (by omega)]; exact keep _ _ (by omega) s.out
  · rw [AH.get_set, if_neg (by omega)]; exact keep _ _ (by omega) s.arr
  · exact RowS.keep rk fun o hm => by have := s.fk o hm; rw [AH.get_set, if_neg (by omega)]
  · show Row1 _ iv' (icells (n.kids ++ [x]))
    rw [e]
    exact RowS.keep hr fun o hm => by have := (fi' o hm).1; rw [AH.get_set, if_neg (by omega)]
end Go.Proofs.Ytpabmkicdcilpaa
/- made: the node of some bytes. -/
namespace Go.Proofs.Ytpabmkicdcilpaa
open Go.Vm
set_option linter.unusedSimpArgs false
set_option linter.unusedVariables false
set_option maxRecDepth 100000
variable {T : Vm.Prog} {h : AH}
/-- Bytes that rise, below b. -/
structure Rises (n : NodeP) (b : Nat) : Prop where
  same : n.keys.length = n.kids.length
  few : n.keys.length ≤ b
  below : ∀ (i a : Nat), n.keys[i]? = some a → a < b
  rise : ∀ (i a c : Nat), n.keys[i]? = some a → n.keys[i + 1]? = some c → a < c
  refs : ∀ (i : Nat) (x : Int), n.kids[i]? = some x → isRefP x = true
theorem Rises.add {n : NodeP} {b : Nat} (r : Rises n b) {x : Int} (hx : isRefP x = true) : Rises { n with keys := n.keys ++ [b], kids := n.kids ++ [x] } (b + 1) where
  same := by simp [r.same]
  few := by have := r.few; simp; omega
  below := fun i a ha => by
    show a < b + 1
    have ha' : (n.keys ++ [b])[i]? = some a := ha
    rw [List.getElem?_append] at ha'
    split at ha'
    · have := r.below i a ha'; omega
    · have := List.mem_of_getElem? ha'; simp at this; omega
  rise := fun i a c ha hc => by
    have ha' : (n.keys ++ [b])[i]? = some a := ha
    have hc' : (n.keys ++ [b])[i + 1]? = some c := hc
    rw [List.getElem?_append] at ha' hc'
    by_cases h1 : i + 1 < n.keys.length
    · rw [if_pos (by omega)] at ha'
      rw [if_pos h1] at hc'
      exact r.rise i a c ha' hc'
    · rw [if_neg h1] at hc'
      have hb := List.mem_of_getElem? hc'
      simp at hb
      subst hb
      by_cases h2 : i < n.keys.length
      · rw [if_pos h2] at ha'; exact r.below i a ha'
      · have := (List.getElem?_eq_some_iff.1 hc').1
        simp at this; omega
  refs := fun i y hy => by
    have hy' : (n.kids ++ [x])[i]? = some y := hy
    rw [List.getElem?_append] at hy'
    split at hy'
    · exact r.refs i y hy'
    · have := List.mem_of_getElem? hy'; simp at this; subst this; exact hx
theorem Rises.next {n : NodeP} {b : Nat} (r : Rises n b) : Rises n (b + 1) := ⟨r.same, by have := r.few; omega, fun i a ha => by have := r.below i a ha; omega, r.rise, r.refs⟩
theorem mark_loop {f : Fr} {h' : AH} {kd : Int} {wd : Nat} {px : List UInt8} {skv : AV} {fr : Int} {ks : List Nat} {n : NodeP} {kv iv : AV} {t : List Bool} (hl : Low h) (ss : Sees h skv (kcells ks)) (hks : ∀ x ∈ ks, x < 256) (s : MadeS h h' (kidsCells kd wd px skv fr) t n kv iv) (ht : t.length = 256)
    (f1 : f.at 1 = .ptr h.next 0) (f2 : f.at 2 = .ptr (h.next + 1) 0) (f3 : f.at 3 = .ptr (h.next + 2) 0) (f4 : f.at 4 = .ptr (h.next + 3) 0) (f5 : f.at 5 = .int .i64 0) {Q : AExit → Fr → AH → Prop}
    (hq : ∀ f' g t', t'.length = 256 → MadeS h g (kidsCells kd wd px skv fr) t' n kv iv → f'.at 1 = .ptr h.next 0 → f'.at 2 = .ptr (h.next + 1) 0 → f'.at 3 = .ptr (h.next + 2) 0 → f'.at 4 = .ptr (h.next + 3) 0 → Q (.exit 0) f' g) :
    Wp (code T (.loop c25l0) f h') Q := by
  have fa : ∀ o j, fieldAddrV j (.ptr o 0) = some (.ptr o (0 + j)) := fun o j => rfl
  refine wpc_loop (fun d f' g => ∃ j t', d = 300 - j ∧ j ≤ 300 ∧ t'.length = 256 ∧ MadeS h g (kidsCells kd wd px skv fr) t' n kv iv ∧ f'.at 1 = .ptr h.next 0 ∧ f'.at 2 = .ptr (h.next + 1) 0 ∧ f'.at 3 = .ptr (h.next + 2) 0 ∧ f'.at 4 = .ptr (h.next + 3) 0 ∧ f'.at 5 = .int .i64 (j : Nat)) ?_ 300 _ _ ⟨0, t, rfl, by omega, ht, s, f1, f2, f3, f4, f5⟩
  rintro _ f' g ⟨j, t', rfl, hj, ht', s', g1, g2, g3, g4, g5⟩
  have l3 := load_at s'.src (i := 3) (v := skv) rfl
  have sk := sees_keep ss hl s'.quiet
  have ln : lenOfV skv = some ks.length := by simpa [kcells] using sk.len
  by_cases h1 : j < ks.length
  · have d1 : decide ((j : Int) < (ks.length : Int)) = true := by rw [decide_eq_true_eq]; omega
    by_cases h2 : j < 300
    · have d2 : decide ((j : Int) < 300) = true := by rw [decide_eq_true_eq]; omega
      obtain ⟨x, hx⟩ : ∃ x, ks[j]? = some x := ⟨_, List.getElem?_eq_getElem h1⟩
      obtain ⟨p, hp1, hp2⟩ := sk.at (i := j) (x := .int .u8 (x : Int)) (by simp [kcells, hx]) .i64
      have hx256 := hks x (List.mem_of_getElem? hx)
      have w1 : IntKind.i64.wrap ((j : Int) + 1) = ((j + 1 : Nat) : Int) := by rw [wrap_i64 (by omega) (by omega)]; omega
      have ia := idxRow_nat (o := h.next + 3) (off := 0) (n := 256) (i := x) (k := .u8) hx256
      have st := store_bool (b := true) s'.arr (i := x) (by simp [bcells, ht']; exact hx256)
      have e : (bcells t').set x (.bool true) = bcells (t'.set x true) := by simp [bcells, List.map_set]
      rw [e] at st
      simp only [c25l0, vms, vmc, AOpd.val, Nat.reduceEqDiff, reduceCtorEq, Nat.reduceAdd, Nat.reduceBEq, g1, g2, g3, g4, g5, fa, Nat.zero_add, l3, ln, d1, d2, hp1, hp2, ia, st, w1]
      refine ⟨300 - (j + 1), by omega, j + 1, t'.set x true, rfl, by omega, by simpa using ht', s'.mark _, ?_, ?_, ?_, ?_, ?_⟩
      all_goals simp only [vms, vmc, AOpd.val, Nat.reduceEqDiff, reduceCtorEq, Nat.reduceAdd, Nat.reduceBEq, g1, g2, g3, g4]
    · have d2 : decide ((j : Int) < 300) = false := by rw [decide_eq_false_iff_not]; omega
      simp only [c25l0, vms, vmc, AOpd.val, Nat.reduceEqDiff, reduceCtorEq, Nat.reduceAdd, Nat.reduceBEq, g1, g2, g3, g4, g5, fa, Nat.zero_add, l3, ln, d1, d2]
      refine hq _ _ t' ht' s' ?_ ?_ ?_ ?_
      all_goals simp only [vms, vmc, AOpd.val, Nat.reduceEqDiff, reduceCtorEq, Nat.reduceAdd, Nat.reduceBEq, g1, g2, g3, g4]
  · have d1 : decide ((j : Int) < (ks.length : Int)) = false := by rw [decide_eq_false_iff_not]; omega
    simp only [c25l0, vms, vmc, AOpd.val, Nat.reduceEqDiff, reduceCtorEq, Nat.reduceAdd, Nat.reduceBEq, g1, g2, g3, g4, g5, fa, Nat.zero_add, l3, ln, d1]
    refine hq _ _ t' ht' s' ?_ ?_ ?_ ?_
    all_goals simp only [vms, vmc, AOpd.val, Nat.reduceEqDiff, reduceCtorEq, Nat.reduceAdd, Nat.reduceBEq, g1, g2, g3, g4]
theorem fill_loop (k : Fits T) {f : Fr} {h' : AH} {kd : Int} {wd : Nat} {px : List UInt8} {skv : AV} {fr : Int} {n : NodeP} {kv iv : AV} {t : List Bool} (s : MadeS h h' (kidsCells kd wd px skv fr) t n kv iv) (r0 : Rises n 0) (ht : t.length = 256)
    (f1 : f.at 1 = .ptr h.next 0) (f2 : f.at 2 = .ptr (h.next + 1) 0) (f3 : f.at 3 = .ptr (h.next + 2) 0) (f4 : f.at 4 = .ptr (h.next + 3) 0) (f6 : f.at 6 = .int .i64 0) {Q : AExit → Fr → AH → Prop}
    (hq : ∀ f' g m kv' iv', MadeS h g (kidsCells kd wd px skv fr) t m kv' iv' → Rises m 256 → m.word = n.word → m.pre = n.pre → f'.at 1 = .ptr h.next 0 → f'.at 2 = .ptr (h.next + 1) 0 → f'.at 3 = .ptr (h.next + 2) 0 → Q (.exit 2) f' g) :
    Wp (code T (.loop c25l1) f h') Q := by
  have fa : ∀ o j, fieldAddrV j (.ptr o 0) = some (.ptr o (0 + j)) := fun o j => rfl
  refine wpc_loop (fun d f' g => ∃ b m kv' iv', d = 256 - b ∧ b ≤ 256 ∧ MadeS h g (kidsCells kd wd px skv fr) t m kv' iv' ∧ Rises m b ∧ m.word = n.word ∧ m.pre = n.pre ∧ f'.at 1 = .ptr h.next 0 ∧ f'.at 2 = .ptr (h.next + 1) 0 ∧ f'.at 3 = .ptr (h.next + 2) 0 ∧ f'.at 4 = .ptr (h.next + 3) 0 ∧ f'.at 6 = .int .i64 (b : Nat)) ?_ 256 _ _ ⟨0, n, kv, iv, rfl, by omega, s, r0, rfl, rfl, f1, f2, f3, f4, f6⟩
  rintro _ f' g ⟨b, m, kv', iv', rfl, hb, s', r, hw, hpx, g1, g2, g3, g4, g6⟩
  by_cases h1 : b < 256
  · have d1 : decide ((b : Int) < 256) = true := by rw [decide_eq_true_eq]; omega
    obtain ⟨y, hy⟩ : ∃ y, t[b]? = some y := ⟨_, List.getElem?_eq_getElem (by omega)⟩
    have ia := idxRow_nat (o := h.next + 3) (off := 0) (n := 256) (i := b) (k := .i64) h1
    have la := load_at s'.arr (i := b) (v := .bool y) (by simp [bcells, hy])
    have w1 : IntKind.i64.wrap ((b : Int) + 1) = ((b + 1 : Nat) : Int) := by rw [wrap_i64 (by omega) (by omega)]; omega
    cases y with
    | false =>
      simp only [c25l1, vms, vmc, AOpd.val, Nat.reduceEqDiff, reduceCtorEq, Nat.reduceAdd, Nat.reduceBEq, g1, g2, g3, g4, g6, d1, ia, Nat.zero_add, la, w1]
      refine ⟨256 - (b + 1), by omega, b + 1, m, kv', iv', rfl, by omega, s', r.next, hw, hpx, ?_, ?_, ?_, ?_, ?_⟩
      all_goals simp only [vms, vmc, AOpd.val, Nat.reduceEqDiff, reduceCtorEq, Nat.reduceAdd, Nat.reduceBEq, g1, g2, g3, g4]
    | true =>
      have hfew := r.few
      have hsame := r.same
      have l3 := load_at s'.node (i := 3) (v := kv') rfl
      have w2 : IntKind.u8.wrap (b : Int) = (b : Int) := by
        unfold IntKind.wrap; simp [IntKind.bits, IntKind.signed]; omega
      have fb : fillV [AV.int .u8 0] [(0, 1, .int .u8 (b : Int))] = some [.int .u8 (b : Int)] := by simp [fillV, AV.isDef, AV.cells, setMany]
      obtain ⟨kv2, g2', ha, hst, s2⟩ := s'.addKey b (by omega)
      simp only [c25l1, vms, vmc, AOpd.val, Nat.reduceEqDiff, reduceCtorEq, Nat.reduceAdd, Nat.reduceBEq, g1, g2, g3, g4, g6, d1, ia, fa, Nat.zero_add, la, l3, w2, fb, ha, hst]
      generalize (g2'.set (h.next + 2) (.cells (m.cells kv2 iv') true)) = g3' at *
      have l4 := load_at s2.node (i := 4) (v := iv') rfl
      have l5 := load_at s2.src (i := 4) (v := .int .i64 fr) rfl
      have w3 : IntKind.i64.wrap (1 + (b : Int)) = ((1 + b : Nat) : Int) := by rw [wrap_i64 (by omega) (by omega)]; omega
      have rm : binV .rem (.int .i64 (b : Int)) (.int .i64 3) = some (.int .i64 ((b : Int).tmod 3)) := bin_rem (by decide)
      simp only [vms, vmc, AOpd.val, Nat.reduceEqDiff, reduceCtorEq, Nat.reduceAdd, Nat.reduceBEq, fa, Nat.zero_add, g1, g3, g6, l4, l5, rm, w3]
      refine Gives.bind ((within_nat k (hi := 1023) (by decide)).mono ?_)
      rintro _ _ ⟨c, rfl, hc, rfl⟩
      rename_i g3'
      have hv : Valid c (1 + b) := ⟨by omega, by omega, by omega⟩
      have biv := sees_beq s2.kids.sees
      simp only [vms, vmc, AOpd.val, Nat.reduceEqDiff, reduceCtorEq, Nat.reduceAdd, Nat.reduceBEq]
      rw [items_look (look_load (v := iv') (by show loadV _ _ _ (Fr.at _ _) = _; simp only [vms, vmc, AOpd.val, Nat.reduceEqDiff, reduceCtorEq, Nat.reduceAdd, Nat.reduceBEq]; exact l4) (by simp only [vms, vmc, AOpd.val, Nat.reduceEqDiff, reduceCtorEq, Nat.reduceAdd, Nat.reduceBEq]) biv)]
      simp only [vms, vmc, AOpd.val, Nat.reduceEqDiff, reduceCtorEq, Nat.reduceAdd, Nat.reduceBEq]
      refine Gives.bind ((ref_ok k hv).mono ?_)
      rintro _ _ ⟨rfl, rfl⟩
      rename_i g3'
      obtain ⟨x, hx⟩ : ∃ x : Int, x = ((refN c (1 + b) ((b : Int).tmod 3 == 0) : Nat) : Int) := ⟨_, rfl⟩
      have hxr : isRefP x = true := by rw [hx]; exact isRefP_ref hv
      rw [← hx]
      have fk : fillV [AV.int .i64 0] [(0, 1, .int .i64 x)] = some [.int .i64 x] := by simp [fillV, AV.isDef, AV.cells, setMany]
      have gx : (g3'.new (.cells [.int .i64 x] true)).get (h.next + 2) = some (.cells (({ m with keys := m.keys ++ [b] } : NodeP).cells kv2 iv') true) := by
        have := s2.low _ _ s2.node
        rw [AH.get_new, if_neg (by omega)]; exact s2.node
      have bx : AV.beqs [.int .i64 x] [.int .i64 x] = true := by simp [AV.beqs, AV.beq]
      obtain ⟨iv2, g4', ha4, hst4, s4⟩ := s2.addKid x (by show m.kids.length < 1000; omega)
      simp only [vms, vmc, AOpd.val, Nat.reduceEqDiff, reduceCtorEq, Nat.reduceAdd, Nat.reduceBEq, fk]
      rw [items_look (look_load (v := iv') (by show loadV _ _ _ (Fr.at _ _) = _; simp only [vms, vmc, AOpd.val, Nat.reduceEqDiff, reduceCtorEq, Nat.reduceAdd, Nat.reduceBEq]; exact load_at gx rfl) (by simp only [vms, vmc, AOpd.val, Nat.reduceEqDiff, reduceCtorEq, Nat.reduceAdd, Nat.reduceBEq]) biv),
        items_look (look_build (o := g3'.next) (l := [.int .i64 x]) (by simp only [vms, vmc, AOpd.val, Nat.reduceEqDiff, reduceCtorEq, Nat.reduceAdd, Nat.reduceBEq]) get_new_same (by simp only [vms, vmc, AOpd.val, Nat.reduceEqDiff, reduceCtorEq, Nat.reduceAdd, Nat.reduceBEq, fk]) bx)]
      simp only [vms, vmc, AOpd.val, Nat.reduceEqDiff, reduceCtorEq, Nat.reduceAdd, Nat.reduceBEq, ha4, g3, g6, fa, Nat.zero_add, hst4, w1]
      refine ⟨256 - (b + 1), by omega, b + 1, { m with keys := m.keys ++ [b], kids := m.kids ++ [x] }, kv2, iv2, rfl, by omega, s4, r.add hxr, hw, hpx, ?_, ?_, ?_, ?_, ?_⟩
      all_goals simp only [vms, vmc, AOpd.val, Nat.reduceEqDiff, reduceCtorEq, Nat.reduceAdd, Nat.reduceBEq, g1, g2, g3, g4]
  · have d1 : decide ((b : Int) < 256) = false := by rw [decide_eq_false_iff_not]; omega
    have : b = 256 := by omega
    subst this
    simp only [c25l1, vms, vmc, AOpd.val, Nat.reduceEqDiff, reduceCtorEq, Nat.reduceAdd, Nat.reduceBEq, g1, g2, g3, g4, g6, d1]
    refine hq _ _ m kv' iv' s' r hw hpx ?_ ?_ ?_
    all_goals simp only [vms, vmc, AOpd.val, Nat.reduceEqDiff, reduceCtorEq, Nat.reduceAdd, Nat.reduceBEq, g1, g2, g3]
theorem kind_loop (k : Fits T) {f : Fr} {h' : AH} {kc : List AV} {n : NodeP} {kv iv : AV} {t : List Bool} (s : MadeS h h' kc t n kv iv) (r0 : Rises n 256) (hk1 : 1 ≤ n.kind) (hk2 : n.kind ≤ 4)
    (f2 : f.at 2 = .ptr (h.next + 1) 0) (f3 : f.at 3 = .ptr (h.next + 2) 0) {Q : AExit → Fr → AH → Prop}
    (hq : ∀ f' g c, 1 ≤ c → c ≤ 4 → n.keys.length ≤ highP c → MadeS h g kc t { n with kind := c } kv iv → f'.at 2 = .ptr (h.next + 1) 0 → f'.at 3 = .ptr (h.next + 2) 0 → Q (.exit 4) f' g) :
    Wp (code T (.loop c25l2) f h') Q := by
  have fa : ∀ o j, fieldAddrV j (.ptr o 0) = some (.ptr o (0 + j)) := fun o j => rfl
  refine wpc_loop (fun d f' g => ∃ c : Int, d = (4 - c).toNat ∧ 1 ≤ c ∧ c ≤ 4 ∧ MadeS h g kc t { n with kind := c } kv iv ∧ f'.at 2 = .ptr (h.next + 1) 0 ∧ f'.at 3 = .ptr (h.next + 2) 0) ?_ (4 - n.kind).toNat _ _ ⟨n.kind, rfl, hk1, hk2, s, f2, f3⟩
  rintro _ f' g ⟨c, rfl, hc1, hc4, s', g2, g3⟩
  have l0 := load_at s'.node (i := 0) (v := .int .i64 c) rfl
  have l3 := load_at s'.node (i := 3) (v := kv) rfl
  have ln : lenOfV kv = some n.keys.length := by simpa [kcells] using s'.keys.sees.len
  have hfew := r0.few
  by_cases h4 : c < 4
  · have d1 : decide (c < 4) = true := by simpa using h4
    simp only [c25l2, items_test, vms, vmc, AOpd.val, Nat.reduceEqDiff, reduceCtorEq, Nat.reduceAdd, Nat.reduceBEq, g2, g3, fa, Nat.zero_add, l0, l3, ln, d1]
    refine Gives.bind ((high39_ok k).mono ?_)
    rintro _ _ ⟨rfl, rfl⟩
    rename_i g
    have lookk : ∀ {f : Fr}, f.at 77 = .ptr (h.next + 2) 3 → f.at 76 = .bool true → f.at 78 = kv → AOper.lookAgain ⟨some 78, .load false 1 (.tmp 77), some (76, true)⟩ f g = true := fun f36 f35 f37 => look_want f35 (look_load (v := kv) (by show loadV _ _ _ (Fr.at _ _) = _; rw [f36]; exact l3) f37 (sees_beq s'.keys.sees))
    by_cases hle : n.keys.length ≤ highP c
    · have d2 : decide ((n.keys.length : Int) > (highP c : Nat)) = false := by rw [decide_eq_false_iff_not]; omega
      simp only [items_test, vms, vmc, AOpd.val, Nat.reduceEqDiff, reduceCtorEq, Nat.reduceAdd, Nat.reduceBEq, d2]
      rw [items_look (lookk (by simp only [vms, vmc, AOpd.val, Nat.reduceEqDiff, reduceCtorEq, Nat.reduceAdd, Nat.reduceBEq]) (by simp only [vms, vmc, AOpd.val, Nat.reduceEqDiff, reduceCtorEq, Nat.reduceAdd, Nat.reduceBEq]) (by simp only [vms, vmc, AOpd.val, Nat.reduceEqDiff, reduceCtorEq, Nat.reduceAdd, Nat.reduceBEq]))]
      simp only [vms, vmc, AOpd.val, Nat.reduceEqDiff, reduceCtorEq, Nat.reduceAdd, Nat.reduceBEq]
      refine hq _ _ c hc1 hc4 hle s' ?_ ?_
      all_goals simp only [vms, vmc, AOpd.val, Nat.reduceEqDiff, reduceCtorEq, Nat.reduceAdd, Nat.reduceBEq, g2, g3]
    · have d2 : decide ((n.keys.length : Int) > (highP c : Nat)) = true := by rw [decide_eq_true_eq]; omega
      have w1 : IntKind.i64.wrap (c + 1) = c + 1 := wrap_i64 (by omega) (by omega)
      have st : storeV g 1 (.ptr (h.next + 2) 0) (.int .i64 (c + 1)) = some (g.set (h.next + 2) (.cells (({ n with kind := c + 1 } : NodeP).cells kv iv) true)) := store_int s'.node (by simp [NodeP.cells])
      simp only [items_test, vms, vmc, AOpd.val, Nat.reduceEqDiff, reduceCtorEq, Nat.reduceAdd, Nat.reduceBEq, d2]
      rw [items_look (lookk (by simp only [vms, vmc, AOpd.val, Nat.reduceEqDiff, reduceCtorEq, Nat.reduceAdd, Nat.reduceBEq]) (by simp only [vms, vmc, AOpd.val, Nat.reduceEqDiff, reduceCtorEq, Nat.reduceAdd, Nat.reduceBEq]) (by simp only [vms, vmc, AOpd.val, Nat.reduceEqDiff, reduceCtorEq, Nat.reduceAdd, Nat.reduceBEq]))]
      simp only [vms, vmc, AOpd.val, Nat.reduceEqDiff, reduceCtorEq, Nat.reduceAdd, Nat.reduceBEq, g3, fa, Nat.zero_add, l0, w1, st]
      refine ⟨(4 - (c + 1)).toNat, by omega, c + 1, rfl, by omega, by omega, s'.kind { n with kind := c + 1 } rfl rfl, ?_, ?_⟩
      all_goals simp only [vms, vmc, AOpd.val, Nat.reduceEqDiff, reduceCtorEq, Nat.reduceAdd, Nat.reduceBEq, g2, g3]
  · have d1 : decide (c < 4) = false := by simpa using h4
    have hc : c = 4 := by omega
    subst hc
    simp only [c25l2, items_test, vms, vmc, AOpd.val, Nat.reduceEqDiff, reduceCtorEq, Nat.reduceAdd, Nat.reduceBEq, g2, g3, fa, Nat.zero_add, l0, d1]
    rw [items_look (look_skip (by simp only [vms, vmc, AOpd.val, Nat.reduceEqDiff, reduceCtorEq, Nat.reduceAdd, Nat.reduceBEq, Bool.not_true]) (by simp only [vms, vmc, AOpd.val, Nat.reduceEqDiff, reduceCtorEq, Nat.reduceAdd, Nat.reduceBEq]))]
    simp only [vms, vmc, AOpd.val, Nat.reduceEqDiff, reduceCtorEq, Nat.reduceAdd, Nat.reduceBEq]
    refine hq _ _ 4 (by omega) (by omega) (by simpa [highP] using hfew) s' ?_ ?_
    all_goals simp only [vms, vmc, AOpd.val, Nat.reduceEqDiff, reduceCtorEq, Nat.reduceAdd, Nat.reduceBEq, g2, g3]
def c25a : ACode := match c25 with
  | .seq a _ => a
  | c => c
def c25b : ACode := match c25 with
  | .seq _ (.seq a _) => a
  | c => c
def c25c : ACode := match c25 with
  | .seq _ (.seq _ (.seq a _)) => a
  | c => c
def c25r : ACode := match c25 with
  | .seq _ (.seq _ (.seq _ r)) => r
  | c => c
theorem c25_parts : c25 = .seq c25a (.seq c25b (.seq c25c c25r)) := rfl
theorem made_rest (k : Fits T) (hl : Low h) {kd : Int} {wd wd' : Nat} {px px' : List UInt8} {skv : AV} {fr : Int} {ks : List Nat} (ss : Sees h skv (kcells ks)) (hks : ∀ x ∈ ks, x < 256) (hw1 : wd' < 18446744073709551616) (hw2 : wd' &&& 2 = 0) (hp : px'.length ≤ 12)
    {g : AH} {f : Fr} (q : Quiet h g) (lo : Low g) (nx : g.next = h.next + 3) (gP : g.get h.next = some (.cells (kidsCells kd wd px skv fr) true)) (gQ : g.get (h.next + 1) = some (.cells [.int .i64 0, .int .u64 0, .str [], .nilSlice, .nilSlice] true))
    (gR : g.get (h.next + 2) = some (.cells (({ kind := 0, word := wd', pre := px', keys := [], kids := [] } : NodeP).cells .nilSlice .nilSlice) true)) (f1 : f.at 1 = .ptr h.next 0) (f2 : f.at 2 = .ptr (h.next + 1) 0) (f3 : f.at 3 = .ptr (h.next + 2) 0) :
    Wp (code T c25r f g) (Vm.Ends [.cell 2 true 5] fun r h' => Quiet h h' ∧ Low h' ∧ ∃ n, NodeN h.next h' r n ∧ RightP n ∧ n.Ok ∧ 1 ≤ n.kind ∧ n.kind ≤ 4 ∧ ∀ (i a : Nat), n.keys[i]? = some a → a < 256) := by
  have fa : ∀ o j, fieldAddrV j (.ptr o 0) = some (.ptr o (0 + j)) := fun o j => rfl
  have sA : MadeS h (g.new (.cells (bcells (List.replicate 256 false)) true)) (kidsCells kd wd px skv fr) (List.replicate 256 false) { kind := 0, word := wd', pre := px', keys := [], kids := [] } .nilSlice .nilSlice :=
    ⟨q.new _, lo.new _, by rw [AH.get_new, if_neg (by omega)]; exact gP, by rw [AH.get_new, if_neg (by omega)]; exact gQ, by rw [AH.get_new, if_neg (by omega)]; exact gR, by rw [← nx]; exact get_new_same, .inl ⟨rfl, rfl⟩, .inl ⟨rfl, rfl⟩, fun o ho => by simp [objs] at ho, fun o ho => by simp [objs] at ho⟩
  have hA : [AV.bool false, AV.bool false, AV.bool false, AV.bool false, AV.bool false, AV.bool false, AV.bool false, AV.bool false] = bcells (List.replicate 8 false) := rfl
  simp only [c25r, c25, vms, vmc, AOpd.val, Nat.reduceEqDiff, reduceCtorEq, Nat.reduceAdd, Nat.reduceBEq]
  have e256 : ∀ l : List AV, l = bcells (List.replicate 256 false) → MadeS h (g.new (.cells l true)) (kidsCells kd wd px skv fr) (List.replicate 256 false) { kind := 0, word := wd', pre := px', keys := [], kids := [] } .nilSlice .nilSlice := fun l e => by rw [e]; exact sA
  refine mark_loop hl ss hks (e256 _ rfl) (by simp) ?_ ?_ ?_ ?_ ?_ ?_
  · simp only [vms, vmc, AOpd.val, Nat.reduceEqDiff, reduceCtorEq, Nat.reduceAdd, Nat.reduceBEq, f1]
  · simp only [vms, vmc, AOpd.val, Nat.reduceEqDiff, reduceCtorEq, Nat.reduceAdd, Nat.reduceBEq, f2]
  · simp only [vms, vmc, AOpd.val, Nat.reduceEqDiff, reduceCtorEq, Nat.reduceAdd, Nat.reduceBEq, f3]
  · simp only [vms, vmc, AOpd.val, Nat.reduceEqDiff, reduceCtorEq, Nat.reduceAdd, Nat.reduceBEq, nx]
  · simp only [vms, vmc, AOpd.val, Nat.reduceEqDiff, reduceCtorEq, Nat.reduceAdd, Nat.reduceBEq]
  intro f4 g4 t4 ht4 s4 a1 a2 a3 a4
  simp only [vms, vmc, AOpd.val, Nat.reduceEqDiff, reduceCtorEq, Nat.reduceAdd, Nat.reduceBEq]
  refine fill_loop k s4 ⟨rfl, by simp, fun i a h => by simp at h, fun i a c h => by simp at h, fun i x h => by simp at h⟩ ht4 ?_ ?_ ?_ ?_ ?_ ?_
  · simp only [vms, vmc, AOpd.val, Nat.reduceEqDiff, reduceCtorEq, Nat.reduceAdd, Nat.reduceBEq, a1]
  · simp only [vms, vmc, AOpd.val, Nat.reduceEqDiff, reduceCtorEq, Nat.reduceAdd, Nat.reduceBEq, a2]
  · simp only [vms, vmc, AOpd.val, Nat.reduceEqDiff, reduceCtorEq, Nat.reduceAdd, Nat.reduceBEq, a3]
  · simp only [vms, vmc, AOpd.val, Nat.reduceEqDiff, reduceCtorEq, Nat.reduceAdd, Nat.reduceBEq, a4]
  · simp only [vms, vmc, AOpd.val, Nat.reduceEqDiff, reduceCtorEq, Nat.reduceAdd, Nat.reduceBEq]
  intro f5 g5 m kv5 iv5 s5 r5 hmw hmp b1 b2 b3
  have l0 := load_at s5.src (i := 0) (v := .int .i64 kd) rfl
  simp only [vms, vmc, AOpd.val, Nat.reduceEqDiff, reduceCtorEq, Nat.reduceAdd, Nat.reduceBEq, b1, b2, b3, fa, Nat.zero_add, l0]
  refine Gives.bind ((within_nat k (hi := 3) (by decide)).mono ?_)
  rintro _ _ ⟨c, rfl, hc, rfl⟩
  rename_i g5
  have w1 : IntKind.i64.wrap (1 + (c : Int)) = ((1 + c : Nat) : Int) := by rw [wrap_i64 (by omega) (by omega)]; omega
  have st : storeV g5 1 (.ptr (h.next + 2) 0) (.int .i64 ((1 + c : Nat) : Int)) = some (g5.set (h.next + 2) (.cells (({ m with kind := ((1 + c : Nat) : Int) } : NodeP).cells kv5 iv5) true)) := store_int s5.node (by simp [NodeP.cells])
  have s6 := s5.kind { m with kind := ((1 + c : Nat) : Int) } rfl rfl
  simp only [vms, vmc, AOpd.val, Nat.reduceEqDiff, reduceCtorEq, Nat.reduceAdd, Nat.reduceBEq, w1, b2, b3, fa, Nat.zero_add, st]
  generalize (g5.set (h.next + 2) (.cells (({ m with kind := ((1 + c : Nat) : Int) } : NodeP).cells kv5 iv5) true)) = g6 at *
  refine kind_loop k s6 ⟨r5.same, r5.few, r5.below, r5.rise, r5.refs⟩ (by show 1 ≤ ((1 + c : Nat) : Int); omega) (by show ((1 + c : Nat) : Int) ≤ 4; omega) ?_ ?_ ?_
  · simp only [vms, vmc, AOpd.val, Nat.reduceEqDiff, reduceCtorEq, Nat.reduceAdd, Nat.reduceBEq, b2]
  · simp only [vms, vmc, AOpd.val, Nat.reduceEqDiff, reduceCtorEq, Nat.reduceAdd, Nat.reduceBEq, b3]
  intro f7 g7 c7 hc1 hc4 hfit s7 d2 d3
  have ld := load_all s7.node (n := 5) rfl
  have st7 : storeV g7 5 (.ptr (h.next + 1) 0) (.agg (({ m with kind := c7 } : NodeP).cells kv5 iv5)) = some (g7.set (h.next + 1) (.cells (({ m with kind := c7 } : NodeP).cells kv5 iv5) true)) :=
    store_all s7.out rfl rfl (by simp only [NodeP.cells, List.all_cons, List.all_nil, (RowS.cell s7.keys).2.1, (RowS.cell s7.kids).2.1]; rfl)
  have ld7 := load_all (get_set_same (h := g7) (o := h.next + 1) (x := .cells (({ m with kind := c7 } : NodeP).cells kv5 iv5) true)) (n := 5) rfl
  simp only [vms, vmc, AOpd.val, Nat.reduceEqDiff, reduceCtorEq, Nat.reduceAdd, Nat.reduceBEq, d2, d3, ld, st7, res_cell, ld7]
  have hfew := r5.few
  have hsame := r5.same
  refine ⟨s7.quiet.set (by omega) _, s7.low.set (s7.low _ _ s7.out) _, { m with kind := c7 }, ⟨kv5, iv5, rfl, s7.rowk (by omega) _, s7.rowi (by omega) _, fun o ho => by have := s7.fk o ho; omega, fun o ho => ⟨by have := (s7.fi o ho).1; omega, (s7.fi o ho).2⟩⟩, ⟨?_, ?_, ?_, hsame, hfit, r5.refs, r5.rise⟩, ⟨?_, ?_, ?_, ?_⟩, hc1, hc4, r5.below⟩
  · show highP c7 ≠ 0
    have : c7 = 1 ∨ c7 = 2 ∨ c7 = 3 ∨ c7 = 4 := by omega
    rcases this with rfl | rfl | rfl | rfl <;> decide
  · show ¬ (m.word &&& 2 ≠ 0 ∧ m.word &&& 1 ≠ 0)
    rw [hmw]; exact fun ⟨h, _⟩ => h hw2
  · show m.pre.length ≤ 12
    rw [hmp]; exact hp
  · show m.word < 18446744073709551616
    rw [hmw]; exact hw1
  · show m.keys.length < 1000000
    omega
  · show m.kids.length < 1000000
    omega
  · show m.pre.length < 9223372036854775808
    rw [hmp]; show px'.length < _; omega
theorem made_ok (k : Fits T) (hl : Low h) {kd : Int} {wd : Nat} {px : List UInt8} {skv : AV} {fr : Int} {ks : List Nat} (hwd : wd < 18446744073709551616) (hpx : px.length < 9223372036854775808) (ss : Sees h skv (kcells ks)) (hks : ∀ x ∈ ks, x < 256) :
    Gives T 25 [.agg (kidsCells kd wd px skv fr)] h fun r h' => Quiet h h' ∧ Low h' ∧ ∃ n, NodeN h.next h' r n ∧ RightP n ∧ n.Ok ∧ 1 ≤ n.kind ∧ n.kind ≤ 4 ∧ ∀ (i a : Nat), n.keys[i]? = some a → a < 256 := by
  refine gives_func (k.env _ (by decide)) (k.at (fn := a25) rfl) rfl ?_
  have fa : ∀ o j, fieldAddrV j (.ptr o 0) = some (.ptr o (0 + j)) := fun o j => rfl
  obtain ⟨wd', hw1, hw2, hw3, han⟩ := andNot_u64 hwd
  have q2 : Quiet h ((h.new (.cells (kidsCells kd wd px skv fr) true)).new (.cells [.int .i64 0, .int .u64 0, .str [], .nilSlice, .nilSlice] true)) := ((Quiet.refl _).new _).new _
  have lo2 : Low ((h.new (.cells (kidsCells kd wd px skv fr) true)).new (.cells [.int .i64 0, .int .u64 0, .str [], .nilSlice, .nilSlice] true)) := (hl.new _).new _
  have gP : ((h.new (.cells (kidsCells kd wd px skv fr) true)).new (.cells [.int .i64 0, .int .u64 0, .str [], .nilSlice, .nilSlice] true)).get h.next = some (.cells (kidsCells kd wd px skv fr) true) := by
    rw [AH.get_new, if_neg (by rw [next_new]; omega), get_new_same]
  have gQ : ((h.new (.cells (kidsCells kd wd px skv fr) true)).new (.cells [.int .i64 0, .int .u64 0, .str [], .nilSlice, .nilSlice] true)).get (h.next + 1) = some (.cells [.int .i64 0, .int .u64 0, .str [], .nilSlice, .nilSlice] true) := get_new_same
  have nx2 : ((h.new (.cells (kidsCells kd wd px skv fr) true)).new (.cells [.int .i64 0, .int .u64 0, .str [], .nilSlice, .nilSlice] true)).next = h.next + 2 := rfl
  show Wp (code T c25 _ _) _
  rw [c25_parts]
  simp only [c25a, c25b, c25c, c25, vms, vmc, AOpd.val, Nat.reduceEqDiff, reduceCtorEq, Nat.reduceAdd, Nat.reduceBEq, box_agg, next_new]
  generalize ((h.new (.cells (kidsCells kd wd px skv fr) true)).new (.cells [.int .i64 0, .int .u64 0, .str [], .nilSlice, .nilSlice] true)) = g2 at *
  have l1 := load_at gP (i := 1) (v := .int .u64 (wd : Int)) rfl
  have l2 := load_at gP (i := 2) (v := .str px) rfl
  have fl : fillV [AV.int .i64 0, .int .u64 0, .str [], .nilSlice, .nilSlice] [(1, 1, .int .u64 (wd' : Int)), (2, 1, .str px)] = some (({ kind := 0, word := wd', pre := px, keys := [], kids := [] } : NodeP).cells .nilSlice .nilSlice) := by
    simp [fillV, AV.isDef, AV.cells, setMany, NodeP.cells]
  have st3 : storeV (g2.new (.cells [.int .i64 0, .int .u64 0, .str [], .nilSlice, .nilSlice] true)) 5 (.ptr g2.next 0) (.agg (({ kind := 0, word := wd', pre := px, keys := [], kids := [] } : NodeP).cells .nilSlice .nilSlice)) = some ((g2.new (.cells [.int .i64 0, .int .u64 0, .str [], .nilSlice, .nilSlice] true)).set g2.next (.cells (({ kind := 0, word := wd', pre := px, keys := [], kids := [] } : NodeP).cells .nilSlice .nilSlice) true)) :=
    store_all get_new_same rfl rfl rfl
  simp only [vms, vmc, AOpd.val, Nat.reduceEqDiff, reduceCtorEq, Nat.reduceAdd, Nat.reduceBEq, fa, Nat.zero_add, l1, l2, han, fl, st3]
  have q3 : Quiet h ((g2.new (.cells [.int .i64 0, .int .u64 0, .str [], .nilSlice, .nilSlice] true)).set g2.next (.cells (({ kind := 0, word := wd', pre := px, keys := [], kids := [] } : NodeP).cells .nilSlice .nilSlice) true)) := (q2.new _).set (by omega) _
  have lo3 : Low ((g2.new (.cells [.int .i64 0, .int .u64 0, .str [], .nilSlice, .nilSlice] true)).set g2.next (.cells (({ kind := 0, word := wd', pre := px, keys := [], kids := [] } : NodeP).cells .nilSlice .nilSlice) true)) := (lo2.new _).set (by rw [next_new]; omega) _
  have hget3 : ∀ (A B : AObj) q, ((g2.new A).set g2.next B).get q = if g2.next = q then some B else g2.get q := fun A B q => by
    rw [AH.get_set, AH.get_new]; split <;> rfl
  have gP3 : ((g2.new (.cells [.int .i64 0, .int .u64 0, .str [], .nilSlice, .nilSlice] true)).set g2.next (.cells (({ kind := 0, word := wd', pre := px, keys := [], kids := [] } : NodeP).cells .nilSlice .nilSlice) true)).get h.next = some (.cells (kidsCells kd wd px skv fr) true) := by rw [hget3, if_neg (by omega)]; exact gP
  have gQ3 : ((g2.new (.cells [.int .i64 0, .int .u64 0, .str [], .nilSlice, .nilSlice] true)).set g2.next (.cells (({ kind := 0, word := wd', pre := px, keys := [], kids := [] } : NodeP).cells .nilSlice .nilSlice) true)).get (h.next + 1) = some (.cells [.int .i64 0, .int .u64 0, .str [], .nilSlice, .nilSlice] true) := by rw [hget3, if_neg (by omega)]; exact gQ
  have gR3 : ((g2.new (.cells [.int .i64 0, .int .u64 0, .str [], .nilSlice, .nilSlice] true)).set g2.next (.cells (({ kind := 0, word := wd', pre := px, keys := [], kids := [] } : NodeP).cells .nilSlice .nilSlice) true)).get (h.next + 2) = some (.cells (({ kind := 0, word := wd', pre := px, keys := [], kids := [] } : NodeP).cells .nilSlice .nilSlice) true) := by rw [hget3, if_pos nx2]
  have nx3 : ((g2.new (.cells [.int .i64 0, .int .u64 0, .str [], .nilSlice, .nilSlice] true)).set g2.next (.cells (({ kind := 0, word := wd', pre := px, keys := [], kids := [] } : NodeP).cells .nilSlice .nilSlice) true)).next = h.next + 3 := by rw [next_set, next_new, nx2]
  rw [nx2]
  simp only [nx2] at gP3 gQ3 gR3 q3 lo3 nx3
  generalize ((g2.new (.cells [.int .i64 0, .int .u64 0, .str [], .nilSlice, .nilSlice] true)).set (h.next + 2) (.cells (({ kind := 0, word := wd', pre := px, keys := [], kids := [] } : NodeP).cells .nilSlice .nilSlice) true)) = g3 at *
  have l22 := load_at gR3 (i := 2) (v := .str px) rfl
  simp only [vms, vmc, AOpd.val, Nat.reduceEqDiff, reduceCtorEq, Nat.reduceAdd, Nat.reduceBEq, fa, Nat.zero_add, l22]
  by_cases hlong : px.length > 12
  · have d1 : decide ((px.length : Int) > 12) = true := by rw [decide_eq_true_eq]; omega
    have sl : slcStrV (.str px) none (some (.int .i64 12)) = some (.str (px.take 12)) := by
      have h12 : 12 ≤ px.length := by omega
      simp [slcStrV, bounds, boundM, boundH, boundL, natOf, Option.filter, h12]
    have st : storeV g3 1 (.ptr (h.next + 2) 2) (.str (px.take 12)) = some (g3.set (h.next + 2) (.cells (({ kind := 0, word := wd', pre := px.take 12, keys := [], kids := [] } : NodeP).cells .nilSlice .nilSlice) true)) := store_str gR3 (by simp [NodeP.cells])
    simp only [vms, vmc, AOpd.val, Nat.reduceEqDiff, reduceCtorEq, Nat.reduceAdd, Nat.reduceBEq, d1, fa, Nat.zero_add, l22, sl, st]
    refine made_rest k hl ss hks hw1 hw2 (px' := px.take 12) (by simp; omega) (q3.set (by omega) _) (lo3.set (lo3 _ _ gR3) _) nx3 (by rw [AH.get_set, if_neg (by omega)]; exact gP3) (by rw [AH.get_set, if_neg (by omega)]; exact gQ3) get_set_same ?_ ?_ ?_
    all_goals simp only [vms, vmc, AOpd.val, Nat.reduceEqDiff, reduceCtorEq, Nat.reduceAdd, Nat.reduceBEq, nx2]
  · have d1 : decide ((px.length : Int) > 12) = false := by rw [decide_eq_false_iff_not]; omega
    simp only [vms, vmc, AOpd.val, Nat.reduceEqDiff, reduceCtorEq, Nat.reduceAdd, Nat.reduceBEq, d1]
    refine made_rest k hl ss hks hw1 hw2 (px' := px) (by omega) q3 lo3 nx3 gP3 gQ3 gR3 ?_ ?_ ?_
    all_goals simp only [vms, vmc, AOpd.val, Nat.reduceEqDiff, reduceCtorEq, Nat.reduceAdd, Nat.reduceBEq, nx2]
end Go.Proofs.Ytpabmkicdcilpaa

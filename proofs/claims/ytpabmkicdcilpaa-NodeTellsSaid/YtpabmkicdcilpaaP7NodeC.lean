/- The node that the laws make of bytes. -/
import Derived.Test.YtpabmkicdcilpaaP7NodeB
namespace Go.Proofs.Ytpabmkicdcilpaa
open Go.Vm
set_option linter.unusedSimpArgs false
set_option linter.unusedVariables false
set_option maxRecDepth 100000
variable {T : Vm.Prog} {h : AH}
theorem high39_ok (k : Fits T) {x : Int} : Gives T 39 [.int .i64 x] h fun r h' => r = .int .i64 (highP x : Int) ∧ h' = h := by
  refine gives_func (k.env _ (by decide)) (k.at (fn := a39) rfl) rfl ?_
  unfold highP
  by_cases h1 : x = 1
  · simp only [a39, c39, vms, vmc, AOpd.val, Nat.reduceEqDiff, reduceCtorEq, Nat.reduceAdd, Nat.reduceBEq, eqI h1, if_pos h1]; exact ⟨rfl, trivial⟩
  · by_cases h2 : x = 2
    · simp only [a39, c39, vms, vmc, AOpd.val, Nat.reduceEqDiff, reduceCtorEq, Nat.reduceAdd, Nat.reduceBEq, neI h1, eqI h2, if_neg h1, if_pos h2]; exact ⟨rfl, trivial⟩
    · by_cases h3 : x = 3
      · simp only [a39, c39, vms, vmc, AOpd.val, Nat.reduceEqDiff, reduceCtorEq, Nat.reduceAdd, Nat.reduceBEq, neI h1, neI h2, eqI h3, if_neg h1, if_neg h2, if_pos h3]; exact ⟨rfl, trivial⟩
      · by_cases h4 : x = 4
        · simp only [a39, c39, vms, vmc, AOpd.val, Nat.reduceEqDiff, reduceCtorEq, Nat.reduceAdd, Nat.reduceBEq, neI h1, neI h2, neI h3, eqI h4, if_neg h1, if_neg h2, if_neg h3, if_pos h4]; exact ⟨rfl, trivial⟩
        · simp only [a39, c39, vms, vmc, AOpd.val, Nat.reduceEqDiff, reduceCtorEq, Nat.reduceAdd, Nat.reduceBEq, neI h1, neI h2, neI h3, neI h4, if_neg h1, if_neg h2, if_neg h3, if_neg h4]; exact ⟨rfl, trivial⟩
theorem row1_append {v : AV} {bytes : Nat} {xs : List AV} {x : AV} {o2 : Nat} (hlow : Low h) (r : Row1 h v xs) (hb : bytes ≤ 1048576) (hb0 : 0 < bytes) (hs : xs.length < 1000000) (h2 : h.get o2 = some (.cells [x] true)) (hfl : x.flat = true) :
    ∃ v' h', appV 1 bytes h v (.slice o2 0 1 1 1 true) = some (v', h') ∧ Row1 h' v' (xs ++ [x]) ∧ (∀ o ∈ objs v', o ∈ objs v ∨ h.next ≤ o) ∧ (∀ o ∈ objs v', o < h'.next) ∧ Only h h' (objs v) ∧ Low h' := by
  obtain ⟨v', h', h1, h3, h4⟩ := RowS.append hlow r (by decide) hb hb0 (by simpa using hs) h2 rfl (by simp [hfl])
  exact ⟨v', h', h1, by simpa [Row1] using h3, h4⟩
/-- Bytes as cells of the array. -/
def bcells (t : List Bool) : List AV := t.map .bool
def kidsCells (kd : Int) (wd : Nat) (px : List UInt8) (kv : AV) (fr : Int) : List AV := [.int .i64 kd, .int .u64 (wd : Int), .str px, kv, .int .i64 fr]
/-- While the node is made: where all lies, and that nothing else is touched. -/
structure MadeS (h h' : AH) (kc : List AV) (t : List Bool) (n : NodeP) (kv iv : AV) : Prop where
  quiet : Quiet h h'
  low : Low h'
  src : h'.get h.next = some (.cells kc true)
  out : h'.get (h.next + 1) = some (.cells [.int .i64 0, .int .u64 0, .str [], .nilSlice, .nilSlice] true)
  node : h'.get (h.next + 2) = some (.cells (n.cells kv iv) true)
  arr : h'.get (h.next + 3) = some (.cells (bcells t) true)
  keys : Row1 h' kv (kcells n.keys)
  kids : Row1 h' iv (icells n.kids)
  fk : ∀ o ∈ objs kv, h.next + 4 ≤ o
  fi : ∀ o ∈ objs iv, h.next + 4 ≤ o ∧ o ∉ objs kv
theorem MadeS.rowk {h' : AH} {kc : List AV} {t : List Bool} {n : NodeP} {kv iv : AV} (s : MadeS h h' kc t n kv iv) {p : Nat} (hp : p < h.next + 4) (x : AObj) : Row1 (h'.set p x) kv (kcells n.keys) := RowS.keep s.keys fun o ho => by have := s.fk o ho; rw [AH.get_set, if_neg (by omega)]
theorem MadeS.rowi {h' : AH} {kc : List AV} {t : List Bool} {n : NodeP} {kv iv : AV} (s : MadeS h h' kc t n kv iv) {p : Nat} (hp : p < h.next + 4) (x : AObj) : Row1 (h'.set p x) iv (icells n.kids) := RowS.keep s.kids fun o ho => by have := (s.fi o ho).1; rw [AH.get_set, if_neg (by omega)]
/-- The array is written. -/
theorem MadeS.mark {h' : AH} {kc : List AV} {t : List Bool} {n : NodeP} {kv iv : AV} (s : MadeS h h' kc t n kv iv) (t' : List Bool) : MadeS h (h'.set (h.next + 3) (.cells (bcells t') true)) kc t' n kv iv where
  quiet := s.quiet.set (by omega) _
  low := s.low.set (s.low _ _ s.arr) _
  src := by rw [AH.get_set, if_neg (by omega)]; exact s.src
  out := by rw [AH.get_set, if_neg (by omega)]; exact s.out
  node := by rw [AH.get_set, if_neg (by omega)]; exact s.node
  arr := get_set_same
  keys := s.rowk (by omega) _
  kids := s.rowi (by omega) _
  fk := s.fk
  fi := s.fi
/-- The node's own cells are written. -/
theorem MadeS.kind {h' : AH} {kc : List AV} {t : List Bool} {n : NodeP} {kv iv : AV} (s : MadeS h h' kc t n kv iv) (m : NodeP) (e1 : m.keys = n.keys) (e2 : m.kids = n.kids) : MadeS h (h'.set (h.next + 2) (.cells (m.cells kv iv) true)) kc t m kv iv where
  quiet := s.quiet.set (by omega) _
  low := s.low.set (s.low _ _ s.node) _
  src := by rw [AH.get_set, if_neg (by omega)]; exact s.src
  out := by rw [AH.get_set, if_neg (by omega)]; exact s.out
  node := get_set_same
  arr := by rw [AH.get_set, if_neg (by omega)]; exact s.arr
  keys := by rw [e1]; exact s.rowk (by omega) _
  kids := by rw [e2]; exact s.rowi (by omega) _
  fk := s.fk
  fi := s.fi
theorem MadeS.only {h' g : AH} {kc : List AV} {t : List Bool} {n : NodeP} {kv iv : AV} (s : MadeS h h' kc t n kv iv) {x : AObj} {F : List Nat} (on : Only (h'.new x) g F) (hF : ∀ o ∈ F, h.next + 4 ≤ o) :
    (∀ p y, p < h.next + 4 → h'.get p = some y → g.get p = some y) ∧ Quiet h g := by
  have keep : ∀ p y, p < h.next + 4 → h'.get p = some y → g.get p = some y := fun p y hp hy => by
    have := s.low _ _ hy
    rw [on.2 p (by rw [next_new]; omega) (fun hm => by have := hF p hm; omega), AH.get_new, if_neg (by omega)]
    exact hy
  refine ⟨keep, ⟨by have := s.quiet.1; have := on.1; rw [next_new] at this; omega, fun q hq hn => ?_⟩⟩
  have := s.quiet.1
  rw [on.2 q (by rw [next_new]; omega) (fun hm => by have := hF q hm; omega), AH.get_new, if_neg (by omega)]
  exact s.quiet.2 q hq hn
end Go.Proofs.Ytpabmkicdcilpaa
/- made: the node of some bytes. -/
namespace Go.Proofs.Ytpabmkicdcilpaa
open Go.Vm
set_option linter.unusedSimpArgs false
set_option linter.unusedVariables false
set_option maxRecDepth 100000
variable {T : Vm.Prog} {h : AH}
/-- Bytes that rise, below b. -/
structure Rises (n : NodeP) (b : Nat) : Prop where
  same : n.keys.length = n.kids.length
  few : n.keys.length ≤ b
  below : ∀ (i a : Nat), n.keys[i]? = some a → a < b
  rise : ∀ (i a c : Nat), n.keys[i]? = some a → n.keys[i + 1]? = some c → a < c
  refs : ∀ (i : Nat) (x : Int), n.kids[i]? = some x → isRefP x = true
theorem Rises.add {n : NodeP} {b : Nat} (r : Rises n b) {x : Int} (hx : isRefP x = true) : Rises { n with keys := n.keys ++ [b], kids := n.kids ++ [x] } (b + 1) where
  same := by simp [r.same]
  few := by have := r.few; simp; omega
  below := fun i a ha => by
    show a < b + 1
    have ha' : (n.keys ++ [b])[i]? = some a := ha
    rw [List.getElem?_append] at ha'
    split at ha'
    · have := r.below i a ha'; omega
    · have := List.mem_of_getElem? ha'; simp at this; omega
  rise := fun i a c ha hc => by
    have ha' : (n.keys ++ [b])[i]? = some a := ha
    have hc' : (n.keys ++ [b])[i + 1]? = some c := hc
    rw [List.getElem?_append] at ha' hc'
    by_cases h1 : i + 1 < n.keys.length
    · rw [if_pos (by omega)] at ha'
      rw [if_pos h1] at hc'
      exact r.rise i a c ha' hc'
    · rw [if_neg h1] at hc'
      have hb := List.mem_of_getElem? hc'
      simp at hb
      subst hb
      by_cases h2 : i < n.keys.length
      · rw [if_pos h2] at ha'; exact r.below i a ha'
      · have := (List.getElem?_eq_some_iff.1 hc').1
        simp at this; omega
  refs := fun i y hy => by
    have hy' : (n.kids ++ [x])[i]? = some y := hy
    rw [List.getElem?_append] at hy'
    split at hy'
    · exact r.refs i y hy'
    · have := List.mem_of_getElem? hy'; simp at this; subst this; exact hx
theorem Rises.next {n : NodeP} {b : Nat} (r : Rises n b) : Rises n (b + 1) := ⟨r.same, by have := r.few; omega, fun i a ha => by have := r.below i a ha; omega, r.rise, r.refs⟩
def c25a : ACode := match c25 with
  | .seq a _ => a
  | c => c
def c25b : ACode := match c25 with
  | .seq _ (.seq a _) => a
  | c => c
def c25c : ACode := match c25 with
  | .seq _ (.seq _ (.seq a _)) => a
  | c => c
def c25r : ACode := match c25 with
  | .seq _ (.seq _ (.seq _ r)) => r
  | c => c
end Go.Proofs.Ytpabmkicdcilpaa

/- With a child at a byte. -/
import Derived.Test.YtpabmkicdcilpaaP7NodeA
namespace Go.Proofs.Ytpabmkicdcilpaa
open Go.Vm
set_option linter.unusedSimpArgs false
set_option linter.unusedVariables false
set_option maxRecDepth 100000
variable {T : Vm.Prog} {h : AH}
theorem look_build {f : Fr} {d o sz len : Nat} {zero l : List AV} {parts : List (Nat × Nat × AOpd)} (hd : f.at d = .slice o 0 sz len len true) (ho : h.get o = some (.cells l true)) (hf : fillV zero (parts.map fun p => (p.1, p.2.1, p.2.2.val f)) = some l) (hb : AV.beqs l l = true) : AOper.lookAgain ⟨some d, .buildSlice sz len zero parts, none⟩ f h = true := by
  unfold AOper.lookAgain
  simp only [wantedV, AOp.eval, hf, Option.map_some]
  rw [if_neg (by rw [next_new]; omega), hd]
  simp only [objOf, get_new_same, ho, beqObj, hb]
  rfl
/-- A new node, in rows of its own. -/
def NodeN (N : Nat) (h : AH) (v : AV) (n : NodeP) : Prop := ∃ kv iv, v = .agg (n.cells kv iv) ∧ Row1 h kv (kcells n.keys) ∧ Row1 h iv (icells n.kids) ∧ (∀ o ∈ objs kv, N ≤ o) ∧ (∀ o ∈ objs iv, N ≤ o ∧ o ∉ objs kv)
theorem NodeN.v {N : Nat} {v : AV} {n : NodeP} (s : NodeN N h v n) : NodeV h v n := by
  obtain ⟨kv, iv, rfl, r1, r2, _⟩ := s
  exact ⟨kv, iv, rfl, r1.sees, r2.sees⟩
def zeroNode : AV := .agg [.int .i64 0, .int .u64 0, .str [], .nilSlice, .nilSlice]
/-- What With comes to. -/
def WithIs (n : NodeP) (b : Nat) (kid : Int) : Option NodeP → Prop
  | none => ¬ RightP n ∨ isRefP kid = false ∨ ((∀ i : Nat, n.keys[i]? ≠ some b) ∧ highP n.kind ≤ n.keys.length)
  | some m => RightP n ∧ isRefP kid = true ∧ ((∃ i : Nat, n.keys[i]? = some b ∧ m = { n with kids := n.kids.set i kid }) ∨
      (n.keys.length < highP n.kind ∧ ∃ i : Nat, i ≤ n.keys.length ∧ (∀ (t a : Nat), t < i → n.keys[t]? = some a → a < b) ∧ (∀ (t a : Nat), i ≤ t → n.keys[t]? = some a → b < a) ∧
        m = { n with keys := n.keys.take i ++ [b] ++ n.keys.drop i, kids := n.kids.take i ++ [kid] ++ n.kids.drop i }))
end Go.Proofs.Ytpabmkicdcilpaa
/- Without the child at a byte; a node of another kind; equal nodes. -/
namespace Go.Proofs.Ytpabmkicdcilpaa
open Go.Vm
set_option linter.unusedSimpArgs false
set_option linter.unusedVariables false
set_option maxRecDepth 100000
variable {T : Vm.Prog} {h : AH}
theorem row_cap {v : AV} {xs : List AV} (r : Row1 h v xs) : capOk v := by
  rcases r with ⟨rfl, _⟩ | ⟨o, cap, ex, l, rfl, hg, h1, h2, h3⟩
  · trivial
  · exact h2
/-- Its slices are no longer than their room. -/
def Capped (v : AV) : Prop := ∀ (n : NodeP) (kv iv : AV), v = .agg (n.cells kv iv) → capOk kv ∧ capOk iv
/-- What Without comes to. -/
def WithoutIs (n : NodeP) (b : Nat) : Option NodeP → Prop
  | none => ¬ RightP n ∨ ∀ i : Nat, n.keys[i]? ≠ some b
  | some m => RightP n ∧ ∃ i : Nat, n.keys[i]? = some b ∧ m = { n with keys := n.keys.take i ++ n.keys.drop (i + 1), kids := n.kids.take i ++ n.kids.drop (i + 1) }
end Go.Proofs.Ytpabmkicdcilpaa
/- A node of another kind; equal nodes. -/
namespace Go.Proofs.Ytpabmkicdcilpaa
open Go.Vm
set_option linter.unusedSimpArgs false
set_option linter.unusedVariables false
set_option maxRecDepth 100000
variable {T : Vm.Prog} {h : AH}
/-- What Turn comes to. -/
def TurnIs (n : NodeP) (kd : Int) : Option NodeP → Prop
  | none => ¬ RightP n ∨ highP kd = 0 ∨ highP kd < n.keys.length
  | some m => RightP n ∧ highP kd ≠ 0 ∧ n.keys.length ≤ highP kd ∧ m = { n with kind := kd, word := 0 }
/-- Have two nodes the same? -/
theorem same_ok (k : Fits T) (hl : Low h) {v w : AV} {n m : NodeP} (on : n.Ok) (om : m.Ok) (sn : NodeV h v n) (sm : NodeV h w m) : Gives T 23 [v, w] h fun r h' => Quiet h h' ∧ Low h' ∧ ∃ b : Bool, r = .bool b ∧ (b = true ↔ n = m) := by
  obtain ⟨kv, iv, rfl, s1, s2⟩ := sn
  obtain ⟨jv, lv, rfl, s3, s4⟩ := sm
  refine gives_func (k.env _ (by decide)) (k.at (fn := a23) rfl) rfl ?_
  have fa : ∀ o j, fieldAddrV j (.ptr o 0) = some (.ptr o (0 + j)) := fun o j => rfl
  have q1 : Quiet h ((h.new (.cells (n.cells kv iv) true)).new (.cells (m.cells jv lv) true)) := ((Quiet.refl _).new _).new _
  have lo1 : Low ((h.new (.cells (n.cells kv iv) true)).new (.cells (m.cells jv lv) true)) := (hl.new _).new _
  have hg : ((h.new (.cells (n.cells kv iv) true)).new (.cells (m.cells jv lv) true)).get h.next = some (.cells (n.cells kv iv) true) := by
    rw [AH.get_new, if_neg (by rw [next_new]; omega), get_new_same]
  have hz : ((h.new (.cells (n.cells kv iv) true)).new (.cells (m.cells jv lv) true)).get (h.next + 1) = some (.cells (m.cells jv lv) true) := get_new_same
  have t1 := sees_keep s1 hl q1
  have t2 := sees_keep s2 hl q1
  have t3 := sees_keep s3 hl q1
  have t4 := sees_keep s4 hl q1
  simp only [a23, c23, vms, vmc, AOpd.val, Nat.reduceEqDiff, reduceCtorEq, Nat.reduceAdd, Nat.reduceBEq, box_agg, next_new]
  generalize ((h.new (.cells (n.cells kv iv) true)).new (.cells (m.cells jv lv) true)) = h1 at *
  have l0 := load_at hg (i := 0) (v := .int .i64 n.kind) rfl
  have l1 := load_at hg (i := 1) (v := .int .u64 (n.word : Int)) rfl
  have l2 := load_at hg (i := 2) (v := .str n.pre) rfl
  have l3 := load_at hg (i := 3) (v := kv) rfl
  have l4 := load_at hg (i := 4) (v := iv) rfl
  have m0 := load_at hz (i := 0) (v := .int .i64 m.kind) rfl
  have m1 := load_at hz (i := 1) (v := .int .u64 (m.word : Int)) rfl
  have m2 := load_at hz (i := 2) (v := .str m.pre) rfl
  have m3 := load_at hz (i := 3) (v := jv) rfl
  have m4 := load_at hz (i := 4) (v := lv) rfl
  have e0 := on.keys
  have e1 := on.kids
  have e2 := om.keys
  have e3 := om.kids
  simp only [vms, vmc, AOpd.val, Nat.reduceEqDiff, reduceCtorEq, Nat.reduceAdd, Nat.reduceBEq, fa, Nat.zero_add, l0, m0]
  by_cases c0 : n.kind = m.kind
  · have d0 : (n.kind == m.kind) = true := by simpa using c0
    simp only [vms, vmc, AOpd.val, Nat.reduceEqDiff, reduceCtorEq, Nat.reduceAdd, Nat.reduceBEq, d0, fa, Nat.zero_add, l1, m1]
    by_cases c1 : n.word = m.word
    · have d1 : ((n.word : Int) == (m.word : Int)) = true := by simp [c1]
      simp only [vms, vmc, AOpd.val, Nat.reduceEqDiff, reduceCtorEq, Nat.reduceAdd, Nat.reduceBEq, d1, fa, Nat.zero_add, l2, m2]
      by_cases c2 : n.pre = m.pre
      · have d2 : (n.pre == m.pre) = true := by simpa using c2
        simp only [vms, vmc, AOpd.val, Nat.reduceEqDiff, reduceCtorEq, Nat.reduceAdd, Nat.reduceBEq, d2, fa, Nat.zero_add, l3, m3]
        have kc : ∀ l : List Nat, kcells l = (l.map fun (b : Nat) => (b : Int)).map (.int .u8) := fun l => by simp [kcells]
        rw [kc] at t1 t3
        refine Gives.bind ((sameG_ok (k := .u8) (k.env _ (by decide)) (k.at (fn := a28) rfl) t1 t3 (by simp; omega) (by simp; omega)).mono ?_)
        rintro _ _ ⟨rfl, rfl⟩
        rename_i h1
        by_cases c3 : n.keys = m.keys
        · have d3 : decide (n.keys.map (fun (b : Nat) => (b : Int)) = m.keys.map fun (b : Nat) => (b : Int)) = true := by simp [c3]
          simp only [vms, vmc, AOpd.val, Nat.reduceEqDiff, reduceCtorEq, Nat.reduceAdd, Nat.reduceBEq, d3, fa, Nat.zero_add, l4, m4]
          refine Gives.bind ((sameG_ok (k := .i64) (k.env _ (by decide)) (k.at (fn := a19) rfl) t2 t4 (by omega) (by omega)).mono ?_)
          rintro _ _ ⟨rfl, rfl⟩
          rename_i h1
          simp only [vms, vmc, AOpd.val, Nat.reduceEqDiff, reduceCtorEq, Nat.reduceAdd, Nat.reduceBEq]
          refine ⟨q1, lo1, _, rfl, ?_⟩
          rw [decide_eq_true_eq]
          obtain ⟨a, b, c, d, e⟩ := n
          obtain ⟨a', b', c', d', e'⟩ := m
          simp at c0 c1 c2 c3 ⊢
          simp [c0, c1, c2, c3]
        · have d3 : decide (n.keys.map (fun (b : Nat) => (b : Int)) = m.keys.map fun (b : Nat) => (b : Int)) = false := by
            rw [decide_eq_false_iff_not]
            intro e
            exact c3 ((List.map_inj_right (fun a b hab => by omega)).1 e)
          simp only [vms, vmc, AOpd.val, Nat.reduceEqDiff, reduceCtorEq, Nat.reduceAdd, Nat.reduceBEq, d3]
          exact ⟨q1, lo1, _, rfl, by simp; intro e; exact c3 (by rw [e])⟩
      · have d2 : (n.pre == m.pre) = false := by simpa using c2
        simp only [vms, vmc, AOpd.val, Nat.reduceEqDiff, reduceCtorEq, Nat.reduceAdd, Nat.reduceBEq, d2]
        exact ⟨q1, lo1, _, rfl, by simp; intro e; exact c2 (by rw [e])⟩
    · have d1 : ((n.word : Int) == (m.word : Int)) = false := by rw [beq_eq_false_iff_ne]; omega
      simp only [vms, vmc, AOpd.val, Nat.reduceEqDiff, reduceCtorEq, Nat.reduceAdd, Nat.reduceBEq, d1]
      exact ⟨q1, lo1, _, rfl, by simp; intro e; exact c1 (by rw [e])⟩
  · have d0 : (n.kind == m.kind) = false := by simpa using c0
    simp only [vms, vmc, AOpd.val, Nat.reduceEqDiff, reduceCtorEq, Nat.reduceAdd, Nat.reduceBEq, d0]
    exact ⟨q1, lo1, _, rfl, by simp; intro e; exact c0 (by rw [e])⟩
end Go.Proofs.Ytpabmkicdcilpaa

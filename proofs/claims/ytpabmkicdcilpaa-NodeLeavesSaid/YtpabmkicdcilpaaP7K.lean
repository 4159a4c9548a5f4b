/- Nodes, as what they have at each byte. -/
import Derived.Test.YtpabmkicdcilpaaP7J
namespace Go.Proofs.Ytpabmkicdcilpaa
open Go.Vm
set_option linter.unusedSimpArgs false
set_option linter.unusedVariables false
variable {T : Vm.Prog} {h : AH}
/-- At c there is x. -/
def At (n : NodeP) (c : Nat) (x : Int) : Prop := ∃ i : Nat, n.keys[i]? = some c ∧ n.kids[i]? = some x
theorem RightP.uniq {n : NodeP} (r : RightP n) {i j c : Nat} (hi : n.keys[i]? = some c) (hj : n.keys[j]? = some c) : i = j := by
  rcases Nat.lt_trichotomy i j with h1 | h1 | h1
  · have := rise_of r.rise h1 hi hj; omega
  · exact h1
  · have := rise_of r.rise h1 hj hi; omega
theorem RightP.at_eq {n : NodeP} (r : RightP n) {c : Nat} {x y : Int} (hx : At n c x) (hy : At n c y) : x = y := by
  obtain ⟨i, h1, h2⟩ := hx
  obtain ⟨j, h3, h4⟩ := hy
  have := r.uniq h1 h3
  subst this
  rw [h2] at h4
  exact Option.some.inj h4
theorem RightP.at_of {n : NodeP} (r : RightP n) {i c : Nat} (hi : n.keys[i]? = some c) : ∃ x, At n c x := by
  have h1 := (List.getElem?_eq_some_iff.1 hi).1
  have h2 := r.same
  exact ⟨_, i, hi, List.getElem?_eq_getElem (by omega)⟩
theorem pairs_ext : ∀ (l m : List (Nat × Int)), l.Pairwise (fun p q => p.1 < q.1) → m.Pairwise (fun p q => p.1 < q.1) → (∀ p, p ∈ l ↔ p ∈ m) → l = m
  | [], [], _, _, _ => rfl
  | [], p :: m, _, _, h => by have := (h p).2 (by simp); simp at this
  | p :: l, [], _, _, h => by have := (h p).1 (by simp); simp at this
  | p :: l, q :: m, hl, hm, h => by
    have hl' := List.pairwise_cons.1 hl
    have hm' := List.pairwise_cons.1 hm
    have hpq : p = q := by
      rcases List.mem_cons.1 ((h p).1 (by simp)) with h1 | h1
      · exact h1
      · rcases List.mem_cons.1 ((h q).2 (by simp)) with h2 | h2
        · exact h2.symm
        · have := hl'.1 q h2
          have := hm'.1 p h1
          omega
    subst hpq
    congr 1
    refine pairs_ext l m hl'.2 hm'.2 fun r => ⟨fun hr => ?_, fun hr => ?_⟩
    · rcases List.mem_cons.1 ((h r).1 (by simp [hr])) with h1 | h1
      · subst h1; have := hl'.1 r hr; omega
      · exact h1
    · rcases List.mem_cons.1 ((h r).2 (by simp [hr])) with h1 | h1
      · subst h1; have := hm'.1 r hr; omega
      · exact h1
theorem at_zip {n : NodeP} {c : Nat} {x : Int} : At n c x ↔ (c, x) ∈ n.keys.zip n.kids := by
  rw [List.mem_iff_getElem?]
  constructor
  · rintro ⟨i, h1, h2⟩; exact ⟨i, by rw [List.getElem?_zip_eq_some]; exact ⟨h1, h2⟩⟩
  · rintro ⟨i, h1⟩; rw [List.getElem?_zip_eq_some] at h1; exact ⟨i, h1⟩
theorem RightP.pairs {n : NodeP} (r : RightP n) : (n.keys.zip n.kids).Pairwise (fun p q => p.1 < q.1) := by
  rw [List.pairwise_iff_getElem]
  intro i j hi hj hij
  simp only [List.getElem_zip]
  simp only [List.length_zip] at hi hj
  exact rise_of r.rise hij (List.getElem?_eq_getElem (by omega)) (List.getElem?_eq_getElem (by omega))
/-- Who has the same at each byte is the same. -/
theorem node_ext {n m : NodeP} (rn : RightP n) (rm : RightP m) (h1 : n.kind = m.kind) (h2 : n.word = m.word) (h3 : n.pre = m.pre) (h4 : ∀ c x, At n c x ↔ At m c x) : n = m := by
  have hz := pairs_ext _ _ rn.pairs rm.pairs fun p => by rw [show p = (p.1, p.2) from rfl, ← at_zip, ← at_zip]; exact h4 _ _
  have k1 : n.keys = m.keys := by
    have := congrArg (List.map Prod.fst) hz
    rwa [List.map_fst_zip (by rw [rn.same]; exact Nat.le_refl _), List.map_fst_zip (by rw [rm.same]; exact Nat.le_refl _)] at this
  have k2 : n.kids = m.kids := by
    have := congrArg (List.map Prod.snd) hz
    rwa [List.map_snd_zip (by rw [rn.same]; exact Nat.le_refl _), List.map_snd_zip (by rw [rm.same]; exact Nat.le_refl _)] at this
  obtain ⟨a, b, c, d, e⟩ := n
  obtain ⟨a', b', c', d', e'⟩ := m
  simp at h1 h2 h3 k1 k2
  simp [h1, h2, h3, k1, k2]
theorem ins_get {α : Type} {l : List α} {i : Nat} {b : α} (hi : i ≤ l.length) (t : Nat) : (l.take i ++ [b] ++ l.drop i)[t]? = if t < i then l[t]? else if t = i then some b else l[t - 1]? := by
  by_cases h1 : t < i
  · rw [if_pos h1, List.append_assoc, List.getElem?_append_left (by simp; omega), List.getElem?_take, if_pos h1]
  · rw [if_neg h1]
    by_cases h2 : t = i
    · subst h2
      rw [if_pos rfl, List.append_assoc, List.getElem?_append_right (by simp; omega)]
      simp [Nat.min_eq_left hi]
    · rw [if_neg h2, List.getElem?_append_right (by simp; omega), List.getElem?_drop]
      congr 1
      simp [Nat.min_eq_left hi]
      omega
theorem del_get {α : Type} {l : List α} {i : Nat} (hi : i ≤ l.length) (t : Nat) : (l.take i ++ l.drop (i + 1))[t]? = if t < i then l[t]? else l[t + 1]? := by
  by_cases h1 : t < i
  · rw [if_pos h1, List.getElem?_append_left (by simp; omega), List.getElem?_take, if_pos h1]
  · rw [if_neg h1, List.getElem?_append_right (by simp; omega), List.getElem?_drop]
    congr 1
    simp [Nat.min_eq_left hi]
    omega
theorem with_right {n m : NodeP} {b : Nat} {kid : Int} (w : WithIs n b kid (some m)) : RightP m ∧ (∀ c x, At m c x ↔ (c = b ∧ x = kid) ∨ (c ≠ b ∧ At n c x)) ∧ m.kind = n.kind ∧ m.word = n.word ∧ m.pre = n.pre := by
  obtain ⟨r, hk, ⟨i, hi, rfl⟩ | ⟨hfew, i, hi, hlo, hhi, rfl⟩⟩ := w
  · have hil := (List.getElem?_eq_some_iff.1 hi).1
    have hs := r.same
    refine ⟨⟨r.kind, r.word, r.pre, by simp [hs], r.few, fun j x hx => ?_, r.rise⟩, fun c x => ⟨?_, ?_⟩, rfl, rfl, rfl⟩
    · have hx' : (n.kids.set i kid)[j]? = some x := hx
      rw [List.getElem?_set] at hx'
      split at hx'
      · split at hx'
        · cases hx'; exact hk
        · cases hx'
      · exact r.refs j x hx'
    · rintro ⟨j, h1, h2⟩
      have h2' : (n.kids.set i kid)[j]? = some x := h2
      rw [List.getElem?_set] at h2'
      split at h2'
      · rename_i e
        subst e
        rw [if_pos (by omega)] at h2'
        cases h2'
        rw [hi] at h1
        exact .inl ⟨(Option.some.inj h1).symm, rfl⟩
      · rename_i e
        exact .inr ⟨fun e2 => e (r.uniq hi (e2 ▸ h1)), j, h1, h2'⟩
    · rintro (⟨rfl, rfl⟩ | ⟨hne, j, h1, h2⟩)
      · exact ⟨i, hi, by show (n.kids.set i x)[i]? = _; rw [List.getElem?_set, if_pos rfl, if_pos (by omega)]⟩
      · exact ⟨j, h1, by show (n.kids.set i kid)[j]? = _; rw [List.getElem?_set, if_neg (fun e => hne (by subst e; rw [hi] at h1; exact (Option.some.inj h1).symm))]; exact h2⟩
  · have hs := r.same
    have kg := fun t => ins_get (l := n.keys) (b := b) hi t
    have ig := fun t => ins_get (l := n.kids) (b := kid) (i := i) (by omega) t
    refine ⟨⟨r.kind, r.word, r.pre, by simp [hs], by simp; omega, fun j x hx => ?_, fun j a c ha hc => ?_⟩, fun c x => ⟨?_, ?_⟩, rfl, rfl, rfl⟩
    · have hx' : (n.kids.take i ++ [kid] ++ n.kids.drop i)[j]? = some x := hx
      rw [ig] at hx'
      split at hx'
      · exact r.refs j x hx'
      · split at hx'
        · cases hx'; exact hk
        · exact r.refs _ x hx'
    · have ha' : (n.keys.take i ++ [b] ++ n.keys.drop i)[j]? = some a := ha
      have hc' : (n.keys.take i ++ [b] ++ n.keys.drop i)[j + 1]? = some c := hc
      rw [kg] at ha' hc'
      by_cases h1 : j + 1 < i
      · rw [if_pos (by omega)] at ha'; rw [if_pos h1] at hc'
        exact r.rise j a c ha' hc'
      · by_cases h2 : j + 1 = i
        · rw [if_pos (by omega)] at ha'; rw [if_neg h1, if_pos h2] at hc'
          cases hc'
          exact hlo j a (by omega) ha'
        · by_cases h3 : j = i
          · rw [if_neg (by omega), if_pos h3] at ha'
            rw [if_neg h1, if_neg h2] at hc'
            cases ha'
            exact hhi _ c (by omega) hc'
          · rw [if_neg (by omega), if_neg h3] at ha'
            rw [if_neg h1, if_neg h2] at hc'
            rw [show j + 1 - 1 = j - 1 + 1 by omega] at hc'
            exact r.rise _ a c ha' hc'
    · rintro ⟨j, h1, h2⟩
      have h1' : (n.keys.take i ++ [b] ++ n.keys.drop i)[j]? = some c := h1
      have h2' : (n.kids.take i ++ [kid] ++ n.kids.drop i)[j]? = some x := h2
      rw [kg] at h1'
      rw [ig] at h2'
      by_cases h3 : j < i
      · rw [if_pos h3] at h1' h2'
        exact .inr ⟨fun e => by have := hlo j c h3 h1'; omega, j, h1', h2'⟩
      · by_cases h4 : j = i
        · rw [if_neg h3, if_pos h4] at h1' h2'
          cases h1'; cases h2'
          exact .inl ⟨rfl, rfl⟩
        · rw [if_neg h3, if_neg h4] at h1' h2'
          exact .inr ⟨fun e => by have := hhi (j - 1) c (by omega) h1'; omega, _, h1', h2'⟩
    · rintro (⟨rfl, rfl⟩ | ⟨hne, j, h1, h2⟩)
      · exact ⟨i, by show (n.keys.take i ++ [c] ++ n.keys.drop i)[i]? = _; rw [kg]; simp, by show (n.kids.take i ++ [x] ++ n.kids.drop i)[i]? = _; rw [ig]; simp⟩
      · by_cases h3 : j < i
        · exact ⟨j, by show (n.keys.take i ++ [b] ++ n.keys.drop i)[j]? = _; rw [kg, if_pos h3]; exact h1, by show (n.kids.take i ++ [kid] ++ n.kids.drop i)[j]? = _; rw [ig, if_pos h3]; exact h2⟩
        · exact ⟨j + 1, by show (n.keys.take i ++ [b] ++ n.keys.drop i)[j + 1]? = _; rw [kg, if_neg (by omega), if_neg (by omega)]; exact h1, by show (n.kids.take i ++ [kid] ++ n.kids.drop i)[j + 1]? = _; rw [ig, if_neg (by omega), if_neg (by omega)]; exact h2⟩
theorem without_right {n m : NodeP} {b : Nat} (w : WithoutIs n b (some m)) : RightP m ∧ (∀ c x, At m c x ↔ c ≠ b ∧ At n c x) ∧ m.kind = n.kind ∧ m.word = n.word ∧ m.pre = n.pre := by
  obtain ⟨r, i, hi, rfl⟩ := w
  have hil := (List.getElem?_eq_some_iff.1 hi).1
  have hs := r.same
  have kg := fun t => del_get (l := n.keys) (i := i) (by omega) t
  have ig := fun t => del_get (l := n.kids) (i := i) (by omega) t
  have hfew := r.few
  refine ⟨⟨r.kind, r.word, r.pre, by simp [hs], by simp; omega, fun j x hx => ?_, fun j a c ha hc => ?_⟩, fun c x => ⟨?_, ?_⟩, rfl, rfl, rfl⟩
  · have hx' : (n.kids.take i ++ n.kids.drop (i + 1))[j]? = some x := hx
    rw [ig] at hx'
    split at hx'
    · exact r.refs j x hx'
    · exact r.refs _ x hx'
  · have ha' : (n.keys.take i ++ n.keys.drop (i + 1))[j]? = some a := ha
    have hc' : (n.keys.take i ++ n.keys.drop (i + 1))[j + 1]? = some c := hc
    rw [kg] at ha' hc'
    by_cases h1 : j + 1 < i
    · rw [if_pos (by omega)] at ha'; rw [if_pos h1] at hc'
      exact r.rise j a c ha' hc'
    · by_cases h2 : j < i
      · rw [if_pos h2] at ha'; rw [if_neg h1] at hc'
        exact rise_of r.rise (by omega) ha' hc'
      · rw [if_neg h2] at ha'; rw [if_neg h1] at hc'
        exact r.rise _ a c ha' hc'
  · rintro ⟨j, h1, h2⟩
    have h1' : (n.keys.take i ++ n.keys.drop (i + 1))[j]? = some c := h1
    have h2' : (n.kids.take i ++ n.kids.drop (i + 1))[j]? = some x := h2
    rw [kg] at h1'
    rw [ig] at h2'
    by_cases h3 : j < i
    · rw [if_pos h3] at h1' h2'
      exact ⟨fun e => by have := r.uniq hi (e ▸ h1'); omega, j, h1', h2'⟩
    · rw [if_neg h3] at h1' h2'
      exact ⟨fun e => by have := r.uniq hi (e ▸ h1'); omega, _, h1', h2'⟩
  · rintro ⟨hne, j, h1, h2⟩
    have hji : j ≠ i := fun e => hne (by subst e; rw [hi] at h1; exact (Option.some.inj h1).symm)
    by_cases h3 : j < i
    · exact ⟨j, by show (n.keys.take i ++ n.keys.drop (i + 1))[j]? = _; rw [kg, if_pos h3]; exact h1, by show (n.kids.take i ++ n.kids.drop (i + 1))[j]? = _; rw [ig, if_pos h3]; exact h2⟩
    · exact ⟨j - 1, by show (n.keys.take i ++ n.keys.drop (i + 1))[j - 1]? = _; rw [kg, if_neg (by omega), show j - 1 + 1 = j by omega]; exact h1, by show (n.kids.take i ++ n.kids.drop (i + 1))[j - 1]? = _; rw [ig, if_neg (by omega), show j - 1 + 1 = j by omega]; exact h2⟩
theorem findR_ok (k : Fits T) (hl : Low h) {v : AV} {n : NodeP} (r : RightP n) (ok : n.Ok) (s : NodeV h v n) {b : Nat} : Gives T 29 [v, .int .u8 (b : Int)] h fun q h' => Quiet h h' ∧ Low h' ∧ ((∃ x, At n b x ∧ q = .tuple [.int .i64 x, .bool true]) ∨ ((∀ x, ¬ At n b x) ∧ q = .tuple [.int .i64 0, .bool false])) := by
  refine (find_ok k hl ok s).mono ?_
  rintro q h' ⟨hq, lo, ⟨i, x, ⟨h1, h2, _⟩, h4, rfl⟩ | ⟨h1, rfl⟩⟩
  · exact ⟨hq, lo, .inl ⟨x, ⟨i, h1, h4⟩, rfl⟩⟩
  · exact ⟨hq, lo, .inr ⟨fun x ⟨i, h2, h3⟩ => h1 i (List.getElem?_eq_some_iff.1 h3).1 h2, rfl⟩⟩
end Go.Proofs.Ytpabmkicdcilpaa

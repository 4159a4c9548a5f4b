/- The reference's nodes: With, the plain law. -/
import Derived.Test.YtpabmkicdcilpaaP7NodeE
namespace Go.Proofs.Ytpabmkicdcilpaa
open Go.Vm
set_option linter.unusedSimpArgs false
set_option linter.unusedVariables false
set_option maxRecDepth 100000
/-- Is one of these at a byte or behind it? -/
def anyGe (b : Nat) (t : List (Nat × Int)) : Bool := t.any fun p => decide (b ≤ p.1)
def lowL (b : Nat) (t : List (Nat × Int)) : List (Nat × Int) := t.filter fun p => decide (p.1 < b)
def highL (b : Nat) (t : List (Nat × Int)) : List (Nat × Int) := t.filter fun p => decide (b < p.1)
/-- What With has behind the first ones. -/
def withL (b : Nat) (kid : Int) (t : List (Nat × Int)) : List (Nat × Int) := lowL b t ++ (if anyGe b t then [(b, kid)] else []) ++ highL b t
variable {n : NodeP} {b j y : Nat} {kid x : Int}
theorem any_false {t : List (Nat × Int)} (h : anyGe b t = false) : highL b t = [] := by
  unfold highL
  rw [List.filter_eq_nil_iff]
  intro p hp
  unfold anyGe at h
  rw [List.any_eq_false] at h
  have := h p hp
  simp at this ⊢; omega
theorem prefix_low (r : RightP n) (hz : (n.keys.zip n.kids)[j]? = some (y, x)) (hyb : y ≤ b) : anyGe b ((n.keys.zip n.kids).take j) = false := by
  unfold anyGe
  rw [List.any_eq_false]
  intro p hp
  obtain ⟨t, ht⟩ := List.getElem?_of_mem hp
  rw [List.getElem?_take] at ht
  split at ht
  · rename_i htj
    obtain ⟨h1, h2⟩ := List.getElem?_zip_eq_some.1 ht
    obtain ⟨h3, h4⟩ := List.getElem?_zip_eq_some.1 hz
    have := rise_of r.rise htj h1 h3
    simp; omega
  · cases ht
theorem take_next (hz : (n.keys.zip n.kids)[j]? = some (y, x)) : (n.keys.zip n.kids).take (j + 1) = (n.keys.zip n.kids).take j ++ [(y, x)] := by
  have hl := (List.getElem?_eq_some_iff.1 hz).1
  have e := (List.getElem?_eq_some_iff.1 hz).2
  rw [List.take_succ_eq_append_getElem hl, e]
theorem with_less (r : RightP n) (hz : (n.keys.zip n.kids)[j]? = some (y, x)) (hy : y < b) : withL b kid ((n.keys.zip n.kids).take (j + 1)) = withL b kid ((n.keys.zip n.kids).take j) ++ [(y, x)] ∧ anyGe b ((n.keys.zip n.kids).take (j + 1)) = false ∧ anyGe b ((n.keys.zip n.kids).take j) = false := by
  have h1 := prefix_low r hz (b := b) (by omega)
  have h2 : anyGe b ((n.keys.zip n.kids).take (j + 1)) = false := by
    rw [take_next hz]; unfold anyGe at *; rw [List.any_append, h1]; simp; omega
  refine ⟨?_, h2, h1⟩
  unfold withL
  rw [any_false h1, any_false h2, h1, h2, take_next hz]
  simp [lowL, hy]
theorem with_same (r : RightP n) (hz : (n.keys.zip n.kids)[j]? = some (b, x)) : withL b kid ((n.keys.zip n.kids).take (j + 1)) = withL b kid ((n.keys.zip n.kids).take j) ++ [(b, kid)] ∧ anyGe b ((n.keys.zip n.kids).take (j + 1)) = true ∧ anyGe b ((n.keys.zip n.kids).take j) = false := by
  have h1 := prefix_low r hz (b := b) (by omega)
  have h2 : anyGe b ((n.keys.zip n.kids).take (j + 1)) = true := by
    rw [take_next hz]; unfold anyGe; rw [List.any_append]; simp
  refine ⟨?_, h2, h1⟩
  unfold withL
  have h3 := any_false h1
  rw [h3, h1, h2, take_next hz]
  unfold highL at h3 ⊢
  rw [List.filter_append, h3]
  simp [lowL]
theorem with_more (hz : (n.keys.zip n.kids)[j]? = some (y, x)) (hy : b < y) : withL b kid ((n.keys.zip n.kids).take (j + 1)) = withL b kid ((n.keys.zip n.kids).take j) ++ (if anyGe b ((n.keys.zip n.kids).take j) then [] else [(b, kid)]) ++ [(y, x)] ∧ anyGe b ((n.keys.zip n.kids).take (j + 1)) = true := by
  have h2 : anyGe b ((n.keys.zip n.kids).take (j + 1)) = true := by
    rw [take_next hz]; unfold anyGe; rw [List.any_append]; simp; right; omega
  refine ⟨?_, h2⟩
  have hlow : lowL b ((n.keys.zip n.kids).take (j + 1)) = lowL b ((n.keys.zip n.kids).take j) := by
    rw [take_next hz]; unfold lowL; rw [List.filter_append]; simp; omega
  have hhigh : highL b ((n.keys.zip n.kids).take (j + 1)) = highL b ((n.keys.zip n.kids).take j) ++ [(y, x)] := by
    rw [take_next hz]; unfold highL; rw [List.filter_append]; simp [hy]
  unfold withL
  rw [hlow, hhigh, h2]
  cases h1 : anyGe b ((n.keys.zip n.kids).take j) with
  | true => simp
  | false => rw [any_false h1]; simp
/-- What With comes to. -/
def withF (n : NodeP) (b : Nat) (kid : Int) : List (Nat × Int) := lowL b (n.keys.zip n.kids) ++ [(b, kid)] ++ highL b (n.keys.zip n.kids)
theorem with_end : withL b kid (n.keys.zip n.kids) ++ (if anyGe b (n.keys.zip n.kids) then [] else [(b, kid)]) = withF n b kid := by
  unfold withL withF
  cases h1 : anyGe b (n.keys.zip n.kids) with
  | true => simp
  | false => rw [any_false h1]; simp
theorem split_at (r : RightP n) {i : Nat} (hi : i ≤ n.keys.length) (h1 : ∀ (t a : Nat), t < i → n.keys[t]? = some a → a < b) (h2 : ∀ (t a : Nat), i ≤ t → n.keys[t]? = some a → b ≤ a) : lowL b (n.keys.zip n.kids) = (n.keys.zip n.kids).take i ∧ highL b (n.keys.zip n.kids) = ((n.keys.zip n.kids).drop i).filter fun p => decide (p.1 ≠ b) := by
  have hL : ∀ p ∈ (n.keys.zip n.kids).take i, p.1 < b := by
    intro p hp
    obtain ⟨t, ht⟩ := List.getElem?_of_mem hp
    rw [List.getElem?_take] at ht
    split at ht
    · rename_i hti
      obtain ⟨h3, _⟩ := List.getElem?_zip_eq_some.1 ht
      exact h1 t _ hti h3
    · cases ht
  have hR : ∀ p ∈ (n.keys.zip n.kids).drop i, b ≤ p.1 := by
    intro p hp
    obtain ⟨t, ht⟩ := List.getElem?_of_mem hp
    rw [List.getElem?_drop] at ht
    obtain ⟨h3, _⟩ := List.getElem?_zip_eq_some.1 ht
    exact h2 (i + t) _ (by omega) h3
  have hz := List.take_append_drop i (n.keys.zip n.kids)
  constructor
  · unfold lowL
    rw [← hz, List.filter_append, List.filter_eq_self.2 (fun p hp => by simpa using hL p hp), List.filter_eq_nil_iff.2 (fun p hp => by have := hR p hp; simp; omega), List.append_nil, hz]
  · unfold highL
    conv => lhs; rw [← hz]
    rw [List.filter_append, List.filter_eq_nil_iff.2 (fun p hp => by have := hL p hp; simp; omega), List.nil_append]
    refine List.filter_congr fun p hp => ?_
    have := hR p hp
    rw [decide_eq_decide]; omega
end Go.Proofs.Ytpabmkicdcilpaa
/- The reference's nodes: what With comes to. -/
namespace Go.Proofs.Ytpabmkicdcilpaa
open Go.Vm
set_option linter.unusedSimpArgs false
set_option linter.unusedVariables false
set_option maxRecDepth 100000
variable {n : NodeP} {b : Nat} {kid : Int}
theorem set_split {α : Type} {l : List α} {i : Nat} {a : α} (h : i < l.length) : l.take i ++ [a] ++ l.drop (i + 1) = l.set i a := by
  rw [List.set_eq_take_append_cons_drop, if_pos h]; simp
theorem zip_keys (r : RightP n) : (n.keys.zip n.kids).map (·.1) = n.keys ∧ (n.keys.zip n.kids).map (·.2) = n.kids ∧ (n.keys.zip n.kids).length = n.keys.length := by
  have hs := r.same
  exact ⟨List.map_fst_zip (by omega), List.map_snd_zip (by omega), by rw [List.length_zip]; omega⟩
/-- Where a byte stands, or would. -/
theorem place_of (r : RightP n) (b : Nat) : ∃ i, i ≤ n.keys.length ∧ (∀ (t a : Nat), t < i → n.keys[t]? = some a → a < b) ∧ ∀ (t a : Nat), i ≤ t → n.keys[t]? = some a → b ≤ a := by
  refine ⟨n.keys.findIdx fun a => decide (b ≤ a), List.findIdx_le_length, fun t a ht ha => ?_, fun t a ht ha => ?_⟩
  · have := List.not_of_lt_findIdx ht
    obtain ⟨hl, rfl⟩ := List.getElem?_eq_some_iff.1 ha
    simp at this; omega
  · obtain ⟨hl, e⟩ := List.getElem?_eq_some_iff.1 ha
    have hi : n.keys.findIdx (fun a => decide (b ≤ a)) < n.keys.length := by omega
    have := List.findIdx_getElem (w := hi)
    simp at this
    by_cases he : n.keys.findIdx (fun a => decide (b ≤ a)) = t
    · have e2 : n.keys[n.keys.findIdx fun a => decide (b ≤ a)]'hi = a := by simp only [he]; exact e
      omega
    · have := rise_of r.rise (show n.keys.findIdx (fun a => decide (b ≤ a)) < t by omega) (List.getElem?_eq_getElem hi) ha
      omega
theorem with_is (r : RightP n) (hk : isRefP kid = true) : ((withF n b kid).length ≤ highP n.kind → WithIs n b kid (some (outP n (withF n b kid)))) ∧ (¬ (withF n b kid).length ≤ highP n.kind → WithIs n b kid none) := by
  obtain ⟨i, hi, h1, h2⟩ := place_of r b
  obtain ⟨e1, e2, e3⟩ := zip_keys r
  obtain ⟨s1, s2⟩ := split_at r hi h1 h2
  have hsm := r.same
  have hfew := r.few
  by_cases hb : n.keys[i]? = some b
  · have hil := (List.getElem?_eq_some_iff.1 hb).1
    obtain ⟨x, hx⟩ : ∃ x, n.kids[i]? = some x := ⟨_, List.getElem?_eq_getElem (by omega)⟩
    have hz := pair_at hb hx
    have hd : (n.keys.zip n.kids).drop i = (b, x) :: (n.keys.zip n.kids).drop (i + 1) := by
      have hl := (List.getElem?_eq_some_iff.1 hz).1
      have e := (List.getElem?_eq_some_iff.1 hz).2
      rw [← e, ← List.drop_eq_getElem_cons hl]
    have hf : ((n.keys.zip n.kids).drop i).filter (fun p => decide (p.1 ≠ b)) = (n.keys.zip n.kids).drop (i + 1) := by
      rw [hd, List.filter_cons_of_neg (by simp), List.filter_eq_self]
      intro p hp
      obtain ⟨t, ht⟩ := List.getElem?_of_mem hp
      rw [List.getElem?_drop] at ht
      obtain ⟨h3, _⟩ := List.getElem?_zip_eq_some.1 ht
      have := rise_of r.rise (show i < i + 1 + t by omega) hb h3
      simp; omega
    have hF : withF n b kid = (n.keys.zip n.kids).take i ++ [(b, kid)] ++ (n.keys.zip n.kids).drop (i + 1) := by
      unfold withF; rw [s1, s2, hf]
    have hlen : (withF n b kid).length = n.keys.length := by
      rw [hF]; simp only [List.length_append, List.length_take, List.length_drop, e3, List.length_singleton]; omega
    refine ⟨fun _ => ⟨r, hk, .inl ⟨i, hb, ?_⟩⟩, fun hn => absurd (by rw [hlen]; exact hfew) hn⟩
    have hkeys : (withF n b kid).map (·.1) = n.keys := by
      rw [hF]
      simp only [List.map_append, List.map_take, List.map_drop, e1, List.map_cons, List.map_nil]
      rw [set_split hil]
      apply List.ext_getElem?
      intro t
      rw [List.getElem?_set]
      by_cases e : i = t
      · subst e; rw [if_pos rfl, if_pos hil, hb]
      · rw [if_neg e]
    have hkids : (withF n b kid).map (·.2) = n.kids.set i kid := by
      rw [hF]
      simp only [List.map_append, List.map_take, List.map_drop, e2, List.map_cons, List.map_nil]
      exact set_split (by omega)
    unfold outP
    rw [hkeys, hkids]
  · have hne : ∀ (t a : Nat), i ≤ t → n.keys[t]? = some a → b < a := by
      intro t a ht ha
      have h3 := h2 t a ht ha
      by_cases e : a = b
      · subst e
        by_cases et : i = t
        · subst et; exact absurd ha hb
        · have hl := (List.getElem?_eq_some_iff.1 ha).1
          obtain ⟨c, hc⟩ : ∃ c, n.keys[i]? = some c := ⟨_, List.getElem?_eq_getElem (by omega)⟩
          have h4 := h2 i c (Nat.le_refl _) hc
          have h5 := rise_of r.rise (show i < t by omega) hc ha
          omega
      · omega
    have hf : ((n.keys.zip n.kids).drop i).filter (fun p => decide (p.1 ≠ b)) = (n.keys.zip n.kids).drop i := by
      rw [List.filter_eq_self]
      intro p hp
      obtain ⟨t, ht⟩ := List.getElem?_of_mem hp
      rw [List.getElem?_drop] at ht
      obtain ⟨h3, _⟩ := List.getElem?_zip_eq_some.1 ht
      have := hne (i + t) _ (by omega) h3
      simp; omega
    have hF : withF n b kid = (n.keys.zip n.kids).take i ++ [(b, kid)] ++ (n.keys.zip n.kids).drop i := by
      unfold withF; rw [s1, s2, hf]
    have hlen : (withF n b kid).length = n.keys.length + 1 := by
      rw [hF]; simp only [List.length_append, List.length_take, List.length_drop, e3, List.length_singleton]; omega
    have hkeys : (withF n b kid).map (·.1) = n.keys.take i ++ [b] ++ n.keys.drop i := by
      rw [hF]
      simp only [List.map_append, List.map_take, List.map_drop, e1, List.map_cons, List.map_nil]
    have hkids : (withF n b kid).map (·.2) = n.kids.take i ++ [kid] ++ n.kids.drop i := by
      rw [hF]
      simp only [List.map_append, List.map_take, List.map_drop, e2, List.map_cons, List.map_nil]
    refine ⟨fun hle => ⟨r, hk, .inr ⟨by omega, i, hi, h1, hne, ?_⟩⟩, fun hn => .inr (.inr ⟨fun t ht => ?_, by omega⟩)⟩
    · unfold outP
      rw [hkeys, hkids]
    · by_cases e : t < i
      · have := h1 t b e ht; omega
      · have := hne t b (by omega) ht; omega
end Go.Proofs.Ytpabmkicdcilpaa
/- The reference's nodes: With, one more pair. -/
namespace Go.Proofs.Ytpabmkicdcilpaa
open Go.Vm
set_option linter.unusedSimpArgs false
set_option linter.unusedVariables false
set_option maxRecDepth 100000
variable {T : Vm.Prog} {g : AH}
def c33d1 : ACode := match c33l0 with
  | .seq _ (.seq _ (.seq (.block _ (.seq _ (.seq (.seq _ (.cond _ (.seq d _) _)) _))) _)) => d
  | c => c
def c33d2 : ACode := match c33l0 with
  | .seq _ (.seq _ (.seq (.block _ (.seq _ (.seq _ (.seq _ (.cond _ d _))))) _)) => d
  | c => c
def c33d3 : ACode := match c33 with
  | .seq _ (.seq _ (.seq _ (.seq _ (.seq _ (.seq (.seq _ (.cond _ d _)) _))))) => d
  | c => c
section
variable {h0 : AH} {N po p z b : Nat} {kid : Int} {n : NodeP} {kv0 iv0 : AV} {l : List (Nat × Int)}
theorem with_draw1 (K : OutK h0 g N po p z n kv0 iv0 l) (hp : p < N) (hz : z < N) (hpo : po < N) (hN : h0.next ≤ po) (hNn : N ≤ g.next) (hne : p ≠ po ∧ z ≠ po) (hll : l.length < 1000) {f : Fr} (f1 : f.at 1 = .int .u8 (b : Int)) (f2 : f.at 2 = .int .i64 kid) (f12 : f.at 12 = .ptr po 0) {Q : AExit → Fr → AH → Prop}
    (hq : ∀ f' g', OutK h0 g' N po p z n kv0 iv0 (l ++ [(b, kid)]) → g.next ≤ g'.next → (∀ t, t < 54 → f'.at t = f.at t) → Q .normal f' g') : Wp (code T c33d1 f g) Q := by
  have fa : ∀ o j, fieldAddrV j (.ptr o 0) = some (.ptr o (0 + j)) := fun o j => rfl
  obtain ⟨kv, iv, kv', h3, iv', h4, h5, h6, go, rk, ri, oB, gB1, gB2, a3, g3, k3, n1, n2, nk, a4, st5, st6, K6, hn6⟩ := K.more hp hz hpo hN hNn hne hll b kid
  have lpo := K.low _ _ go
  have qA : Quiet g (g.new (.cells [.int .u8 (b : Int)] true)) := (Quiet.refl _).new _
  have qB : Quiet g ((g.new (.cells [.int .u8 (b : Int)] true)).new (.cells [.int .i64 kid] true)) := qA.new _
  have goA := qA.get go lpo
  have goB := qB.get go lpo
  have go3 := (k3 po lpo n1).trans go
  obtain ⟨bk, ck, fk⟩ := row_beq rk
  obtain ⟨bi, ci, fi⟩ := row_beq ri
  have e1 : loadV g false 1 (.ptr po 3) = some kv := load_at go rfl
  have e2 : loadV (g.new (.cells [.int .u8 (b : Int)] true)) false 1 (.ptr po 4) = some iv := load_at goA rfl
  have m1 : loadV ((g.new (.cells [.int .u8 (b : Int)] true)).new (.cells [.int .i64 kid] true)) false 1 (.ptr po 3) = some kv := load_at goB rfl
  have m3 : loadV ((g.new (.cells [.int .u8 (b : Int)] true)).new (.cells [.int .i64 kid] true)) false 1 (.ptr po 4) = some iv := load_at goB rfl
  have r1 : loadV h3 false 1 (.ptr po 4) = some iv := load_at go3 rfl
  simp only [c33d1, c33l0, vms, vmc, AOpd.val, Nat.reduceEqDiff, reduceCtorEq, Nat.reduceAdd, Nat.reduceBEq, f1, f2, f12, fa, Nat.zero_add, e1, fill1b, e2, fill1i]
  rw [items_look (lk_load m1 (by simp only [vms, vmc, AOpd.val, Nat.reduceEqDiff, reduceCtorEq, Nat.reduceAdd, Nat.reduceBEq]) (by simp only [vms, vmc, AOpd.val, Nat.reduceEqDiff, reduceCtorEq, Nat.reduceAdd, Nat.reduceBEq]) bk), items_look (look_build (o := g.next) (l := [.int .u8 (b : Int)]) (by simp only [vms, vmc, AOpd.val, Nat.reduceEqDiff, reduceCtorEq, Nat.reduceAdd, Nat.reduceBEq]) gB1 (by simp only [vms, vmc, AOpd.val, Nat.reduceEqDiff, reduceCtorEq, Nat.reduceAdd, Nat.reduceBEq, fill1b]) (by simp [AV.beqs, AV.beq])),
    items_look (lk_load m3 (by simp only [vms, vmc, AOpd.val, Nat.reduceEqDiff, reduceCtorEq, Nat.reduceAdd, Nat.reduceBEq]) (by simp only [vms, vmc, AOpd.val, Nat.reduceEqDiff, reduceCtorEq, Nat.reduceAdd, Nat.reduceBEq]) bi), items_look (look_build (o := g.next + 1) (l := [.int .i64 kid]) (by simp only [vms, vmc, AOpd.val, Nat.reduceEqDiff, reduceCtorEq, Nat.reduceAdd, Nat.reduceBEq, next_new]) gB2 (by simp only [vms, vmc, AOpd.val, Nat.reduceEqDiff, reduceCtorEq, Nat.reduceAdd, Nat.reduceBEq, fill1i]) (by simp [AV.beqs, AV.beq]))]
  simp only [vms, vmc, AOpd.val, Nat.reduceEqDiff, reduceCtorEq, Nat.reduceAdd, Nat.reduceBEq, a3, f12, fa, Nat.zero_add]
  rw [items_look (lk_load r1 (by simp only [vms, vmc, AOpd.val, Nat.reduceEqDiff, reduceCtorEq, Nat.reduceAdd, Nat.reduceBEq]) (by simp only [vms, vmc, AOpd.val, Nat.reduceEqDiff, reduceCtorEq, Nat.reduceAdd, Nat.reduceBEq]) bi), items_look (look_build (o := g.next + 1) (l := [.int .i64 kid]) (by simp only [vms, vmc, AOpd.val, Nat.reduceEqDiff, reduceCtorEq, Nat.reduceAdd, Nat.reduceBEq, next_new]) g3 (by simp only [vms, vmc, AOpd.val, Nat.reduceEqDiff, reduceCtorEq, Nat.reduceAdd, Nat.reduceBEq, fill1i]) (by simp [AV.beqs, AV.beq]))]
  simp only [vms, vmc, AOpd.val, Nat.reduceEqDiff, reduceCtorEq, Nat.reduceAdd, Nat.reduceBEq, next_new, a4, st5, st6, f12, fa, Nat.zero_add]
  refine hq _ _ K6 hn6 fun t ht => ?_
  simp only [vms, vmc, AOpd.val, Nat.reduceEqDiff, reduceCtorEq, Nat.reduceAdd, Nat.reduceBEq]
  repeat rw [if_neg (by omega)]
theorem with_draw3 (K : OutK h0 g N po p z n kv0 iv0 l) (hp : p < N) (hz : z < N) (hpo : po < N) (hN : h0.next ≤ po) (hNn : N ≤ g.next) (hne : p ≠ po ∧ z ≠ po) (hll : l.length < 1000) {f : Fr} (f1 : f.at 1 = .int .u8 (b : Int)) (f2 : f.at 2 = .int .i64 kid) (f12 : f.at 12 = .ptr po 0) {Q : AExit → Fr → AH → Prop}
    (hq : ∀ f' g', OutK h0 g' N po p z n kv0 iv0 (l ++ [(b, kid)]) → g.next ≤ g'.next → (∀ t, t < 54 → f'.at t = f.at t) → Q .normal f' g') : Wp (code T c33d3 f g) Q := by
  have fa : ∀ o j, fieldAddrV j (.ptr o 0) = some (.ptr o (0 + j)) := fun o j => rfl
  obtain ⟨kv, iv, kv', h3, iv', h4, h5, h6, go, rk, ri, oB, gB1, gB2, a3, g3, k3, n1, n2, nk, a4, st5, st6, K6, hn6⟩ := K.more hp hz hpo hN hNn hne hll b kid
  have lpo := K.low _ _ go
  have qA : Quiet g (g.new (.cells [.int .u8 (b : Int)] true)) := (Quiet.refl _).new _
  have qB : Quiet g ((g.new (.cells [.int .u8 (b : Int)] true)).new (.cells [.int .i64 kid] true)) := qA.new _
  have goA := qA.get go lpo
  have goB := qB.get go lpo
  have go3 := (k3 po lpo n1).trans go
  obtain ⟨bk, ck, fk⟩ := row_beq rk
  obtain ⟨bi, ci, fi⟩ := row_beq ri
  have e1 : loadV g false 1 (.ptr po 3) = some kv := load_at go rfl
  have e2 : loadV (g.new (.cells [.int .u8 (b : Int)] true)) false 1 (.ptr po 4) = some iv := load_at goA rfl
  have m1 : loadV ((g.new (.cells [.int .u8 (b : Int)] true)).new (.cells [.int .i64 kid] true)) false 1 (.ptr po 3) = some kv := load_at goB rfl
  have m3 : loadV ((g.new (.cells [.int .u8 (b : Int)] true)).new (.cells [.int .i64 kid] true)) false 1 (.ptr po 4) = some iv := load_at goB rfl
  have r1 : loadV h3 false 1 (.ptr po 4) = some iv := load_at go3 rfl
  simp only [c33d3, c33, vms, vmc, AOpd.val, Nat.reduceEqDiff, reduceCtorEq, Nat.reduceAdd, Nat.reduceBEq, f1, f2, f12, fa, Nat.zero_add, e1, fill1b, e2, fill1i]
  rw [items_look (lk_load m1 (by simp only [vms, vmc, AOpd.val, Nat.reduceEqDiff, reduceCtorEq, Nat.reduceAdd, Nat.reduceBEq]) (by simp only [vms, vmc, AOpd.val, Nat.reduceEqDiff, reduceCtorEq, Nat.reduceAdd, Nat.reduceBEq]) bk), items_look (look_build (o := g.next) (l := [.int .u8 (b : Int)]) (by simp only [vms, vmc, AOpd.val, Nat.reduceEqDiff, reduceCtorEq, Nat.reduceAdd, Nat.reduceBEq]) gB1 (by simp only [vms, vmc, AOpd.val, Nat.reduceEqDiff, reduceCtorEq, Nat.reduceAdd, Nat.reduceBEq, fill1b]) (by simp [AV.beqs, AV.beq])),
    items_look (lk_load m3 (by simp only [vms, vmc, AOpd.val, Nat.reduceEqDiff, reduceCtorEq, Nat.reduceAdd, Nat.reduceBEq]) (by simp only [vms, vmc, AOpd.val, Nat.reduceEqDiff, reduceCtorEq, Nat.reduceAdd, Nat.reduceBEq]) bi), items_look (look_build (o := g.next + 1) (l := [.int .i64 kid]) (by simp only [vms, vmc, AOpd.val, Nat.reduceEqDiff, reduceCtorEq, Nat.reduceAdd, Nat.reduceBEq, next_new]) gB2 (by simp only [vms, vmc, AOpd.val, Nat.reduceEqDiff, reduceCtorEq, Nat.reduceAdd, Nat.reduceBEq, fill1i]) (by simp [AV.beqs, AV.beq]))]
  simp only [vms, vmc, AOpd.val, Nat.reduceEqDiff, reduceCtorEq, Nat.reduceAdd, Nat.reduceBEq, a3, f12, fa, Nat.zero_add]
  rw [items_look (lk_load r1 (by simp only [vms, vmc, AOpd.val, Nat.reduceEqDiff, reduceCtorEq, Nat.reduceAdd, Nat.reduceBEq]) (by simp only [vms, vmc, AOpd.val, Nat.reduceEqDiff, reduceCtorEq, Nat.reduceAdd, Nat.reduceBEq]) bi), items_look (look_build (o := g.next + 1) (l := [.int .i64 kid]) (by simp only [vms, vmc, AOpd.val, Nat.reduceEqDiff, reduceCtorEq, Nat.reduceAdd, Nat.reduceBEq, next_new]) g3 (by simp only [vms, vmc, AOpd.val, Nat.reduceEqDiff, reduceCtorEq, Nat.reduceAdd, Nat.reduceBEq, fill1i]) (by simp [AV.beqs, AV.beq]))]
  simp only [vms, vmc, AOpd.val, Nat.reduceEqDiff, reduceCtorEq, Nat.reduceAdd, Nat.reduceBEq, next_new, a4, st5, st6, f12, fa, Nat.zero_add]
  refine hq _ _ K6 hn6 fun t ht => ?_
  simp only [vms, vmc, AOpd.val, Nat.reduceEqDiff, reduceCtorEq, Nat.reduceAdd, Nat.reduceBEq]
  repeat rw [if_neg (by omega)]
theorem with_draw2 (hl0 : Low h0) (s1 : Sees h0 kv0 (kcells n.keys)) (s2 : Sees h0 iv0 (icells n.kids)) (K : OutK h0 g N po p z n kv0 iv0 l) (hp : p < N) (hz : z < N) (hpo : po < N) (hN : h0.next ≤ po) (hNn : N ≤ g.next) (hne : p ≠ po ∧ z ≠ po) (hll : l.length < 1000) {j y : Nat} {x : Int} (hy : n.keys[j]? = some y) (hx : n.kids[j]? = some x) {f : Fr} (f3 : f.at 3 = .ptr p 0) (f12 : f.at 12 = .ptr po 0) (f14 : f.at 14 = .int .i64 (j : Nat)) {Q : AExit → Fr → AH → Prop}
    (hq : ∀ f' g', OutK h0 g' N po p z n kv0 iv0 (l ++ [(y, x)]) → g.next ≤ g'.next → (∀ t, t < 54 → f'.at t = f.at t) → Q .normal f' g') : Wp (code T c33d2 f g) Q := by
  have fa : ∀ o j, fieldAddrV j (.ptr o 0) = some (.ptr o (0 + j)) := fun o j => rfl
  obtain ⟨a2, i2, L2⟩ := sees_all s1 (i := j) (x := .int .u8 (y : Int)) (by simp [kcells, hy])
  obtain ⟨a1, i1, L1⟩ := sees_all s2 (i := j) (x := .int .i64 x) (by simp [icells, hx])
  have sg1 := sees_keep s1 hl0 K.q
  have sg2 := sees_keep s2 hl0 K.q
  have li0 := sees_low s2 hl0
  have p3 : loadV g false 1 (.ptr p 3) = some kv0 := load_at K.gp rfl
  obtain ⟨kv, iv, kv', h3, iv', h4, h5, h6, go, rk, ri, oB, gB1, gB2, a3, g3, k3, n1, n2, nk, a4, st5, st6, K6, hn6⟩ := K.more hp hz hpo hN hNn hne hll y x
  have lpo := K.low _ _ go
  have lp := K.low _ _ K.gp
  have qA : Quiet g (g.new (.cells [.int .u8 (y : Int)] true)) := (Quiet.refl _).new _
  have qB : Quiet g ((g.new (.cells [.int .u8 (y : Int)] true)).new (.cells [.int .i64 x] true)) := qA.new _
  have sA2 := sees_keep sg2 K.low qA
  have sB1 := sees_keep sg1 K.low qB
  have sB2 := sees_keep sg2 K.low qB
  have goA := qA.get go lpo
  have gpA := qA.get K.gp lp
  have goB := qB.get go lpo
  have gpB := qB.get K.gp lp
  have go3 := (k3 po lpo n1).trans go
  have gp3 := (k3 p lp n2).trans K.gp
  have s32 : Sees h3 iv0 (icells n.kids) := sees_hold sg2 fun o ho => k3 o (by have := li0 o ho; have := K.q.1; omega) fun hm => by have := nk o hm; have := li0 o ho; omega
  obtain ⟨bk, ck, fk⟩ := row_beq rk
  obtain ⟨bi, ci, fi⟩ := row_beq ri
  have bk0 : AV.beq kv0 kv0 = true := sees_beq s1
  have bi0 : AV.beq iv0 iv0 = true := sees_beq s2
  have bI : ∀ (kk : IntKind) (m : Int), AV.beq (.int kk m) (.int kk m) = true := fun kk m => by simp [AV.beq]
  have e1 : loadV g false 1 (.ptr po 3) = some kv := load_at go rfl
  have e2 : loadV (g.new (.cells [.int .u8 (y : Int)] true)) false 1 (.ptr po 4) = some iv := load_at goA rfl
  have e3 : loadV (g.new (.cells [.int .u8 (y : Int)] true)) false 1 (.ptr p 4) = some iv0 := load_at gpA rfl
  have m1 : loadV ((g.new (.cells [.int .u8 (y : Int)] true)).new (.cells [.int .i64 x] true)) false 1 (.ptr po 3) = some kv := load_at goB rfl
  have m2 : loadV ((g.new (.cells [.int .u8 (y : Int)] true)).new (.cells [.int .i64 x] true)) false 1 (.ptr p 3) = some kv0 := load_at gpB rfl
  have m3 : loadV ((g.new (.cells [.int .u8 (y : Int)] true)).new (.cells [.int .i64 x] true)) false 1 (.ptr po 4) = some iv := load_at goB rfl
  have m4 : loadV ((g.new (.cells [.int .u8 (y : Int)] true)).new (.cells [.int .i64 x] true)) false 1 (.ptr p 4) = some iv0 := load_at gpB rfl
  have r1 : loadV h3 false 1 (.ptr po 4) = some iv := load_at go3 rfl
  have r2 : loadV h3 false 1 (.ptr p 4) = some iv0 := load_at gp3 rfl
  simp only [c33d2, c33l0, vms, vmc, AOpd.val, Nat.reduceEqDiff, reduceCtorEq, Nat.reduceAdd, Nat.reduceBEq, f3, f12, f14, fa, Nat.zero_add, p3, i2, L2 g sg1, e1, fill1b, e2, e3, i1, L1 _ sA2, fill1i]
  rw [items_look (lk_load m1 (by simp only [vms, vmc, AOpd.val, Nat.reduceEqDiff, reduceCtorEq, Nat.reduceAdd, Nat.reduceBEq]) (by simp only [vms, vmc, AOpd.val, Nat.reduceEqDiff, reduceCtorEq, Nat.reduceAdd, Nat.reduceBEq]) bk), items_look (lk_load m2 (by simp only [vms, vmc, AOpd.val, Nat.reduceEqDiff, reduceCtorEq, Nat.reduceAdd, Nat.reduceBEq]) (by simp only [vms, vmc, AOpd.val, Nat.reduceEqDiff, reduceCtorEq, Nat.reduceAdd, Nat.reduceBEq]) bk0), items_look (lk_load (L2 _ sB1) (by simp only [vms, vmc, AOpd.val, Nat.reduceEqDiff, reduceCtorEq, Nat.reduceAdd, Nat.reduceBEq]) (by simp only [vms, vmc, AOpd.val, Nat.reduceEqDiff, reduceCtorEq, Nat.reduceAdd, Nat.reduceBEq]) (bI _ _)),
    items_look (look_build (o := g.next) (l := [.int .u8 (y : Int)]) (by simp only [vms, vmc, AOpd.val, Nat.reduceEqDiff, reduceCtorEq, Nat.reduceAdd, Nat.reduceBEq]) gB1 (by simp only [vms, vmc, AOpd.val, Nat.reduceEqDiff, reduceCtorEq, Nat.reduceAdd, Nat.reduceBEq, fill1b]) (by simp [AV.beqs, AV.beq])),
    items_look (lk_load m3 (by simp only [vms, vmc, AOpd.val, Nat.reduceEqDiff, reduceCtorEq, Nat.reduceAdd, Nat.reduceBEq]) (by simp only [vms, vmc, AOpd.val, Nat.reduceEqDiff, reduceCtorEq, Nat.reduceAdd, Nat.reduceBEq]) bi), items_look (lk_load m4 (by simp only [vms, vmc, AOpd.val, Nat.reduceEqDiff, reduceCtorEq, Nat.reduceAdd, Nat.reduceBEq]) (by simp only [vms, vmc, AOpd.val, Nat.reduceEqDiff, reduceCtorEq, Nat.reduceAdd, Nat.reduceBEq]) bi0), items_look (lk_load (L1 _ sB2) (by simp only [vms, vmc, AOpd.val, Nat.reduceEqDiff, reduceCtorEq, Nat.reduceAdd, Nat.reduceBEq]) (by simp only [vms, vmc, AOpd.val, Nat.reduceEqDiff, reduceCtorEq, Nat.reduceAdd, Nat.reduceBEq]) (bI _ _)),
    items_look (look_build (o := g.next + 1) (l := [.int .i64 x]) (by simp only [vms, vmc, AOpd.val, Nat.reduceEqDiff, reduceCtorEq, Nat.reduceAdd, Nat.reduceBEq, next_new]) gB2 (by simp only [vms, vmc, AOpd.val, Nat.reduceEqDiff, reduceCtorEq, Nat.reduceAdd, Nat.reduceBEq, fill1i]) (by simp [AV.beqs, AV.beq]))]
  simp only [vms, vmc, AOpd.val, Nat.reduceEqDiff, reduceCtorEq, Nat.reduceAdd, Nat.reduceBEq, a3, f12, fa, Nat.zero_add]
  rw [items_look (lk_load r1 (by simp only [vms, vmc, AOpd.val, Nat.reduceEqDiff, reduceCtorEq, Nat.reduceAdd, Nat.reduceBEq]) (by simp only [vms, vmc, AOpd.val, Nat.reduceEqDiff, reduceCtorEq, Nat.reduceAdd, Nat.reduceBEq]) bi), items_look (lk_load r2 (by simp only [vms, vmc, AOpd.val, Nat.reduceEqDiff, reduceCtorEq, Nat.reduceAdd, Nat.reduceBEq]) (by simp only [vms, vmc, AOpd.val, Nat.reduceEqDiff, reduceCtorEq, Nat.reduceAdd, Nat.reduceBEq]) bi0), items_look (lk_load (L1 _ s32) (by simp only [vms, vmc, AOpd.val, Nat.reduceEqDiff, reduceCtorEq, Nat.reduceAdd, Nat.reduceBEq]) (by simp only [vms, vmc, AOpd.val, Nat.reduceEqDiff, reduceCtorEq, Nat.reduceAdd, Nat.reduceBEq]) (bI _ _)),
    items_look (look_build (o := g.next + 1) (l := [.int .i64 x]) (by simp only [vms, vmc, AOpd.val, Nat.reduceEqDiff, reduceCtorEq, Nat.reduceAdd, Nat.reduceBEq, next_new]) g3 (by simp only [vms, vmc, AOpd.val, Nat.reduceEqDiff, reduceCtorEq, Nat.reduceAdd, Nat.reduceBEq, fill1i]) (by simp [AV.beqs, AV.beq]))]
  simp only [vms, vmc, AOpd.val, Nat.reduceEqDiff, reduceCtorEq, Nat.reduceAdd, Nat.reduceBEq, next_new, a4, st5, st6, f12, fa, Nat.zero_add]
  refine hq _ _ K6 hn6 fun t ht => ?_
  simp only [vms, vmc, AOpd.val, Nat.reduceEqDiff, reduceCtorEq, Nat.reduceAdd, Nat.reduceBEq]
  repeat rw [if_neg (by omega)]
end
end Go.Proofs.Ytpabmkicdcilpaa
/- The reference's nodes: With. -/
namespace Go.Proofs.Ytpabmkicdcilpaa
open Go.Vm
set_option linter.unusedSimpArgs false
set_option linter.unusedVariables false
set_option maxRecDepth 100000
variable {T : Vm.Prog} {h : AH}
theorem c33l0_parts : c33l0 = (.seq (.ops [⟨(some 41), .bin .lss (.tmp 40) (.tmp 39), none⟩])
  (.seq (.cond (.tmp 41)
  .skip
  (.exit 0))
  (.seq (.block 1 (.seq (.ops [⟨(some 42), .mov (.tmp 40), none⟩,
    ⟨(some 14), .mov (.tmp 42), none⟩])
  (.seq (.seq (.ops [⟨(some 43), .mov (.tmp 13), none⟩,
    ⟨(some 44), .un .not (.tmp 43), none⟩,
    ⟨(some 45), .mov (.tmp 44), none⟩,
    ⟨(some 46), .fieldAddr 3 (.tmp 3), (some (45, true))⟩,
    ⟨(some 47), .load false 1 (.tmp 46), (some (45, true))⟩,
    ⟨(some 48), .mov (.tmp 14), (some (45, true))⟩,
    ⟨(some 49), .idxAddr 1 (.tmp 47) (.tmp 48), (some (45, true))⟩,
    ⟨(some 50), .load false 1 (.tmp 49), (some (45, true))⟩,
    ⟨(some 51), .mov (.tmp 1), (some (45, true))⟩,
    ⟨(some 52), .bin .geq (.tmp 50) (.tmp 51), (some (45, true))⟩,
    ⟨(some 53), .pick (.tmp 45) (.tmp 52) (.con (.bool false)), none⟩])
  (.cond (.tmp 53)
  (.seq c33d1
  (.ops [⟨(some 13), .mov (.con (.bool true)), none⟩]))
  .skip))
  (.seq (.ops [⟨(some 66), .fieldAddr 3 (.tmp 3), none⟩,
    ⟨(some 67), .load false 1 (.tmp 66), none⟩,
    ⟨(some 68), .mov (.tmp 14), none⟩,
    ⟨(some 69), .idxAddr 1 (.tmp 67) (.tmp 68), none⟩,
    ⟨(some 70), .load false 1 (.tmp 69), none⟩,
    ⟨(some 71), .mov (.tmp 1), none⟩,
    ⟨(some 72), .bin .neq (.tmp 70) (.tmp 71), none⟩])
  (.cond (.tmp 72)
  c33d2
  .skip)))))
  (.ops [⟨(some 93), .bin .add (.tmp 40) (.con (.int .i64 1)), none⟩,
    ⟨(some 40), .mov (.tmp 93), none⟩])))) := rfl
def c33e : ACode := match c33 with
  | .seq _ (.seq _ (.seq _ (.seq _ (.seq _ (.seq _ e))))) => e
  | c => c
theorem c33e_is : c33e = (.seq (.seq (.draw [.op ⟨(some 108), .fieldAddr 3 (.tmp 12), none⟩,
    .op ⟨(some 109), .load false 1 (.tmp 108), none⟩,
    .op ⟨(some 110), .lenSlice (.tmp 109), none⟩,
    .op ⟨(some 111), .fieldAddr 0 (.tmp 3), none⟩,
    .op ⟨(some 112), .load false 1 (.tmp 111), none⟩,
    .op ⟨(some 113), .call 39 [(.tmp 112)], none⟩,
    .op ⟨(some 114), .bin .gtr (.tmp 110) (.tmp 113), none⟩,
    .look ⟨(some 109), .load false 1 (.tmp 108), none⟩])
  (.cond (.tmp 114)
  (.seq (.ops [⟨(some 115), .build [(.int .i64 0), (.int .u64 0), (.str []), .nilSlice, .nilSlice] [], none⟩,
    ⟨none, .store 5 (.tmp 6) (.tmp 115), none⟩,
    ⟨(some 7), .mov (.con (.bool false)), none⟩])
  .ret)
  .skip))
  (.seq (.ops [⟨(some 116), .load true 5 (.tmp 12), none⟩,
    ⟨none, .store 5 (.tmp 6) (.tmp 116), none⟩,
    ⟨(some 7), .mov (.con (.bool true)), none⟩])
  .ret)) := rfl
theorem c33_parts : c33 = (.seq (.ops [⟨(some 3), .box (.tmp 0), none⟩,
    ⟨(some 6), .new [(.int .i64 0), (.int .u64 0), (.str []), .nilSlice, .nilSlice], none⟩,
    ⟨(some 7), .mov (.con (.bool false)), none⟩])
  (.seq (.seq (.ops [⟨(some 16), .mov (.tmp 2), none⟩,
    ⟨(some 17), .call 66 [(.tmp 16)], none⟩,
    ⟨(some 15), .mov (.tmp 17), none⟩,
    ⟨(some 18), .extract (.tmp 15) 0, none⟩,
    ⟨(some 19), .extract (.tmp 15) 1, none⟩,
    ⟨(some 20), .extract (.tmp 15) 2, none⟩,
    ⟨(some 21), .extract (.tmp 15) 3, none⟩,
    ⟨(some 8), .mov (.tmp 18), none⟩,
    ⟨(some 9), .mov (.tmp 19), none⟩,
    ⟨(some 10), .mov (.tmp 20), none⟩,
    ⟨(some 11), .mov (.tmp 21), none⟩])
  (.seq (.ops [⟨(some 22), .mov (.tmp 11), none⟩,
    ⟨(some 23), .un .not (.tmp 22), none⟩,
    ⟨(some 24), .mov (.tmp 23), none⟩,
    ⟨(some 25), .load true 5 (.tmp 3), (some (24, false))⟩,
    ⟨(some 26), .call 37 [(.tmp 25)], (some (24, false))⟩,
    ⟨(some 27), .un .not (.tmp 26), (some (24, false))⟩,
    ⟨(some 28), .pick (.tmp 24) (.con (.bool true)) (.tmp 27), none⟩])
  (.cond (.tmp 28)
  (.seq (.ops [⟨(some 29), .build [(.int .i64 0), (.int .u64 0), (.str []), .nilSlice, .nilSlice] [], none⟩,
    ⟨none, .store 5 (.tmp 6) (.tmp 29), none⟩,
    ⟨(some 7), .mov (.con (.bool false)), none⟩])
  .ret)
  .skip)))
  (.seq (.ops [⟨(some 30), .fieldAddr 0 (.tmp 3), none⟩,
    ⟨(some 31), .load false 1 (.tmp 30), none⟩,
    ⟨(some 32), .fieldAddr 1 (.tmp 3), none⟩,
    ⟨(some 33), .load false 1 (.tmp 32), none⟩,
    ⟨(some 34), .fieldAddr 2 (.tmp 3), none⟩,
    ⟨(some 35), .load false 1 (.tmp 34), none⟩,
    ⟨(some 36), .build [(.int .i64 0), (.int .u64 0), (.str []), .nilSlice, .nilSlice] [(0, 1, (.tmp 31)), (1, 1, (.tmp 33)), (2, 1, (.tmp 35))], none⟩,
    ⟨(some 12), .new [(.int .i64 0), (.int .u64 0), (.str []), .nilSlice, .nilSlice], none⟩,
    ⟨none, .store 5 (.tmp 12) (.tmp 36), none⟩])
  (.seq (.ops [⟨(some 13), .mov (.con (.bool false)), none⟩])
  (.seq (.seq (.ops [⟨(some 37), .fieldAddr 3 (.tmp 3), none⟩,
    ⟨(some 38), .load false 1 (.tmp 37), none⟩,
    ⟨(some 39), .lenSlice (.tmp 38), none⟩,
    ⟨(some 40), .mov (.con (.int .i64 0)), none⟩])
  (.block 0 (.loop c33l0)))
  (.seq (.seq (.ops [⟨(some 94), .mov (.tmp 13), none⟩,
    ⟨(some 95), .un .not (.tmp 94), none⟩])
  (.cond (.tmp 95)
  c33d3
  .skip))
  c33e)))))) := rfl
theorem withL_len {n : NodeP} {b : Nat} {kid : Int} {t : List (Nat × Int)} : (withL b kid t).length ≤ 2 * t.length + 1 := by
  have h1 := List.length_filter_le (fun p : Nat × Int => decide (p.1 < b)) t
  have h2 := List.length_filter_le (fun p : Nat × Int => decide (b < p.1)) t
  unfold withL
  rw [List.length_append, List.length_append]
  have h3 : (if anyGe b t = true then [(b, kid)] else []).length ≤ 1 := by split <;> simp
  unfold lowL highL
  omega
theorem with_loop {h0 : AH} {N po p z b : Nat} {kid : Int} {n : NodeP} {kv0 iv0 : AV} (r : RightP n) (ok : n.Ok) (hl0 : Low h0) (s1 : Sees h0 kv0 (kcells n.keys)) (s2 : Sees h0 iv0 (icells n.kids)) (hp : p < N) (hz : z < N) (hpo : po < N) (hN : h0.next ≤ po) (hNn : N ≤ h.next) (hne : p ≠ po ∧ z ≠ po)
    (K : OutK h0 h N po p z n kv0 iv0 []) {f : Fr} (f1 : f.at 1 = .int .u8 (b : Int)) (f2 : f.at 2 = .int .i64 kid) (f3 : f.at 3 = .ptr p 0) (f6 : f.at 6 = .ptr z 0) (f12 : f.at 12 = .ptr po 0) (f13 : f.at 13 = .bool false) (f39 : f.at 39 = .int .i64 (n.keys.length : Int)) (f40 : f.at 40 = .int .i64 0) {Q : AExit → Fr → AH → Prop}
    (hq : ∀ f' h', OutK h0 h' N po p z n kv0 iv0 (withL b kid (n.keys.zip n.kids)) → N ≤ h'.next → f'.at 1 = .int .u8 (b : Int) → f'.at 2 = .int .i64 kid → f'.at 3 = .ptr p 0 → f'.at 6 = .ptr z 0 → f'.at 12 = .ptr po 0 → f'.at 13 = .bool (anyGe b (n.keys.zip n.kids)) → Q (.exit 0) f' h') : Wp (code T (.loop c33l0) f h) Q := by
  have fa : ∀ o j, fieldAddrV j (.ptr o 0) = some (.ptr o (0 + j)) := fun o j => rfl
  have hsm := r.same
  have hfew := r.few
  have hh : highP n.kind ≤ 256 := by unfold highP; (repeat' split) <;> omega
  refine wpc_loop (fun d f g => ∃ j, d = n.keys.length - j ∧ j ≤ n.keys.length ∧ N ≤ g.next ∧ OutK h0 g N po p z n kv0 iv0 (withL b kid ((n.keys.zip n.kids).take j)) ∧ f.at 1 = .int .u8 (b : Int) ∧ f.at 2 = .int .i64 kid ∧ f.at 3 = .ptr p 0 ∧ f.at 6 = .ptr z 0 ∧ f.at 12 = .ptr po 0 ∧ f.at 13 = .bool (anyGe b ((n.keys.zip n.kids).take j)) ∧ f.at 39 = .int .i64 (n.keys.length : Int) ∧ f.at 40 = .int .i64 (j : Nat)) ?_ n.keys.length _ _ ⟨0, rfl, Nat.zero_le _, hNn, K, f1, f2, f3, f6, f12, f13, f39, f40⟩
  rintro d f g ⟨j, rfl, hj, hNg, K, f1, f2, f3, f6, f12, f13, f39, f40⟩
  rw [c33l0_parts]
  by_cases hlt : j < n.keys.length
  · have hd : decide ((j : Int) < (n.keys.length : Int)) = true := by rw [decide_eq_true_eq]; omega
    have w1 : IntKind.i64.wrap ((j : Int) + 1) = ((j + 1 : Nat) : Int) := by rw [wrap_i64 (by omega) (by omega)]; omega
    obtain ⟨x, hx⟩ : ∃ x, n.kids[j]? = some x := ⟨_, List.getElem?_eq_getElem (by omega)⟩
    obtain ⟨y, hy⟩ : ∃ y, n.keys[j]? = some y := ⟨_, List.getElem?_eq_getElem (by omega)⟩
    have hzp := pair_at hy hx
    obtain ⟨a2, i2, L2⟩ := sees_all s1 (i := j) (x := .int .u8 (y : Int)) (by simp [kcells, hy])
    have hll : (withL b kid ((n.keys.zip n.kids).take j)).length < 999 := by
      have h1 := withL_len (n := n) (b := b) (kid := kid) (t := (n.keys.zip n.kids).take j)
      have h2 : ((n.keys.zip n.kids).take j).length ≤ j := List.length_take_le _ _
      omega
    by_cases hlow : y < b
    · obtain ⟨e1, e2, e3⟩ := with_less (kid := kid) r hzp hlow
      rw [e3] at f13
      have b1 : decide ((y : Int) ≥ (b : Int)) = false := by rw [decide_eq_false_iff_not]; omega
      have b2 : ((y : Int) != (b : Int)) = true := by simp only [bne_iff_ne, ne_eq]; omega
      have p3 : loadV g false 1 (.ptr p 3) = some kv0 := load_at K.gp rfl
      simp only [vms, vmc, AOpd.val, Nat.reduceEqDiff, reduceCtorEq, Nat.reduceAdd, Nat.reduceBEq, f1, f2, f3, f6, f12, f13, f39, f40, hd, Bool.not_false, fa, Nat.zero_add, p3, i2, L2 g (sees_keep s1 hl0 K.q), b1, b2]
      refine with_draw2 hl0 s1 s2 K hp hz hpo hN hNg hne (by omega) hy hx ?_ ?_ ?_ (fun f' g' K' hn' ft => ?_)
      · simp only [vms, vmc, AOpd.val, Nat.reduceEqDiff, reduceCtorEq, Nat.reduceAdd, Nat.reduceBEq, f3]
      · simp only [vms, vmc, AOpd.val, Nat.reduceEqDiff, reduceCtorEq, Nat.reduceAdd, Nat.reduceBEq, f12]
      · simp only [vms, vmc, AOpd.val, Nat.reduceEqDiff, reduceCtorEq, Nat.reduceAdd, Nat.reduceBEq]
      have u1 := ft 1 (by omega); have u2 := ft 2 (by omega); have u3 := ft 3 (by omega); have u6 := ft 6 (by omega); have u12 := ft 12 (by omega); have u13 := ft 13 (by omega); have u39 := ft 39 (by omega); have u40 := ft 40 (by omega)
      simp only [vms, vmc, AOpd.val, Nat.reduceEqDiff, reduceCtorEq, Nat.reduceAdd, Nat.reduceBEq, f1, f2, f3, f6, f12, f13, f39, f40] at u1 u2 u3 u6 u12 u13 u39 u40
      simp only [vms, vmc, AOpd.val, Nat.reduceEqDiff, reduceCtorEq, Nat.reduceAdd, Nat.reduceBEq, u40, w1]
      refine ⟨n.keys.length - (j + 1), by omega, j + 1, rfl, by omega, by omega, by rw [e1]; exact K', ?_, ?_, ?_, ?_, ?_, ?_, ?_, ?_⟩
      all_goals first | assumption | trivial | rfl | (rw [e2]; assumption)
    · by_cases hyb : y = b
      · subst hyb
        obtain ⟨e1, e2, e3⟩ := with_same (kid := kid) r hzp
        rw [e3] at f13
        have b1 : decide ((y : Int) ≥ (y : Int)) = true := by simp
        have b2 : ((y : Int) != (y : Int)) = false := by simp
        have p3 : loadV g false 1 (.ptr p 3) = some kv0 := load_at K.gp rfl
        simp only [vms, vmc, AOpd.val, Nat.reduceEqDiff, reduceCtorEq, Nat.reduceAdd, Nat.reduceBEq, f1, f2, f3, f6, f12, f13, f39, f40, hd, Bool.not_false, fa, Nat.zero_add, p3, i2, L2 g (sees_keep s1 hl0 K.q), b1]
        refine with_draw1 K hp hz hpo hN hNg hne (by omega) (b := y) (kid := kid) ?_ ?_ ?_ (fun f' g' K' hn' ft => ?_)
        · simp only [vms, vmc, AOpd.val, Nat.reduceEqDiff, reduceCtorEq, Nat.reduceAdd, Nat.reduceBEq, f1]
        · simp only [vms, vmc, AOpd.val, Nat.reduceEqDiff, reduceCtorEq, Nat.reduceAdd, Nat.reduceBEq, f2]
        · simp only [vms, vmc, AOpd.val, Nat.reduceEqDiff, reduceCtorEq, Nat.reduceAdd, Nat.reduceBEq, f12]
        have u1 := ft 1 (by omega); have u2 := ft 2 (by omega); have u3 := ft 3 (by omega); have u6 := ft 6 (by omega); have u12 := ft 12 (by omega); have u14 := ft 14 (by omega); have u39 := ft 39 (by omega); have u40 := ft 40 (by omega)
        simp only [vms, vmc, AOpd.val, Nat.reduceEqDiff, reduceCtorEq, Nat.reduceAdd, Nat.reduceBEq, f1, f2, f3, f6, f12, f13, f39, f40] at u1 u2 u3 u6 u12 u14 u39 u40
        have p3' : loadV g' false 1 (.ptr p 3) = some kv0 := load_at K'.gp rfl
        simp only [vms, vmc, AOpd.val, Nat.reduceEqDiff, reduceCtorEq, Nat.reduceAdd, Nat.reduceBEq, u1, u2, u3, u6, u12, u14, u39, u40, fa, Nat.zero_add, p3', i2, L2 g' (sees_keep s1 hl0 K'.q), b2, w1]
        refine ⟨n.keys.length - (j + 1), by omega, j + 1, rfl, by omega, by omega, by rw [e1]; exact K', ?_, ?_, ?_, ?_, ?_, ?_, ?_, ?_⟩
        all_goals first | assumption | trivial | rfl | (rw [e2])
      · have hgt : b < y := by omega
        obtain ⟨e1, e2⟩ := with_more (kid := kid) hzp hgt
        have b1 : decide ((y : Int) ≥ (b : Int)) = true := by rw [decide_eq_true_eq]; omega
        have b2 : ((y : Int) != (b : Int)) = true := by simp only [bne_iff_ne, ne_eq]; omega
        have p3 : loadV g false 1 (.ptr p 3) = some kv0 := load_at K.gp rfl
        cases hany : anyGe b ((n.keys.zip n.kids).take j) with
        | true =>
          rw [hany] at f13 e1
          simp only [if_true, List.append_nil] at e1
          simp only [vms, vmc, AOpd.val, Nat.reduceEqDiff, reduceCtorEq, Nat.reduceAdd, Nat.reduceBEq, f1, f2, f3, f6, f12, f13, f39, f40, hd, Bool.not_true, fa, Nat.zero_add, p3, i2, L2 g (sees_keep s1 hl0 K.q), b2]
          refine with_draw2 hl0 s1 s2 K hp hz hpo hN hNg hne (by omega) hy hx ?_ ?_ ?_ (fun f' g' K' hn' ft => ?_)
          · simp only [vms, vmc, AOpd.val, Nat.reduceEqDiff, reduceCtorEq, Nat.reduceAdd, Nat.reduceBEq, f3]
          · simp only [vms, vmc, AOpd.val, Nat.reduceEqDiff, reduceCtorEq, Nat.reduceAdd, Nat.reduceBEq, f12]
          · simp only [vms, vmc, AOpd.val, Nat.reduceEqDiff, reduceCtorEq, Nat.reduceAdd, Nat.reduceBEq]
          have u1 := ft 1 (by omega); have u2 := ft 2 (by omega); have u3 := ft 3 (by omega); have u6 := ft 6 (by omega); have u12 := ft 12 (by omega); have u13 := ft 13 (by omega); have u39 := ft 39 (by omega); have u40 := ft 40 (by omega)
          simp only [vms, vmc, AOpd.val, Nat.reduceEqDiff, reduceCtorEq, Nat.reduceAdd, Nat.reduceBEq, f1, f2, f3, f6, f12, f13, f39, f40] at u1 u2 u3 u6 u12 u13 u39 u40
          simp only [vms, vmc, AOpd.val, Nat.reduceEqDiff, reduceCtorEq, Nat.reduceAdd, Nat.reduceBEq, u40, w1]
          refine ⟨n.keys.length - (j + 1), by omega, j + 1, rfl, by omega, by omega, by rw [e1]; exact K', ?_, ?_, ?_, ?_, ?_, ?_, ?_, ?_⟩
          all_goals first | assumption | trivial | rfl | (rw [e2]; assumption)
        | false =>
          rw [hany] at f13 e1
          simp only [Bool.false_eq_true, if_false] at e1
          simp only [vms, vmc, AOpd.val, Nat.reduceEqDiff, reduceCtorEq, Nat.reduceAdd, Nat.reduceBEq, f1, f2, f3, f6, f12, f13, f39, f40, hd, Bool.not_false, fa, Nat.zero_add, p3, i2, L2 g (sees_keep s1 hl0 K.q), b1]
          refine with_draw1 K hp hz hpo hN hNg hne (by omega) (b := b) (kid := kid) ?_ ?_ ?_ (fun f' g' K' hn' ft => ?_)
          · simp only [vms, vmc, AOpd.val, Nat.reduceEqDiff, reduceCtorEq, Nat.reduceAdd, Nat.reduceBEq, f1]
          · simp only [vms, vmc, AOpd.val, Nat.reduceEqDiff, reduceCtorEq, Nat.reduceAdd, Nat.reduceBEq, f2]
          · simp only [vms, vmc, AOpd.val, Nat.reduceEqDiff, reduceCtorEq, Nat.reduceAdd, Nat.reduceBEq, f12]
          have u1 := ft 1 (by omega); have u2 := ft 2 (by omega); have u3 := ft 3 (by omega); have u6 := ft 6 (by omega); have u12 := ft 12 (by omega); have u14 := ft 14 (by omega); have u39 := ft 39 (by omega); have u40 := ft 40 (by omega)
          simp only [vms, vmc, AOpd.val, Nat.reduceEqDiff, reduceCtorEq, Nat.reduceAdd, Nat.reduceBEq, f1, f2, f3, f6, f12, f13, f39, f40] at u1 u2 u3 u6 u12 u14 u39 u40
          have p3' : loadV g' false 1 (.ptr p 3) = some kv0 := load_at K'.gp rfl
          simp only [vms, vmc, AOpd.val, Nat.reduceEqDiff, reduceCtorEq, Nat.reduceAdd, Nat.reduceBEq, u1, u2, u3, u6, u12, u14, u39, u40, fa, Nat.zero_add, p3', i2, L2 g' (sees_keep s1 hl0 K'.q), b2]
          refine with_draw2 hl0 s1 s2 K' hp hz hpo hN (by omega) hne (by simp; omega) hy hx ?_ ?_ ?_ (fun f'' g'' K'' hn'' ft' => ?_)
          · simp only [vms, vmc, AOpd.val, Nat.reduceEqDiff, reduceCtorEq, Nat.reduceAdd, Nat.reduceBEq, u3]
          · simp only [vms, vmc, AOpd.val, Nat.reduceEqDiff, reduceCtorEq, Nat.reduceAdd, Nat.reduceBEq, u12]
          · simp only [vms, vmc, AOpd.val, Nat.reduceEqDiff, reduceCtorEq, Nat.reduceAdd, Nat.reduceBEq, u14]
          have v1 := ft' 1 (by omega); have v2 := ft' 2 (by omega); have v3 := ft' 3 (by omega); have v6 := ft' 6 (by omega); have v12 := ft' 12 (by omega); have v13 := ft' 13 (by omega); have v39 := ft' 39 (by omega); have v40 := ft' 40 (by omega)
          simp only [vms, vmc, AOpd.val, Nat.reduceEqDiff, reduceCtorEq, Nat.reduceAdd, Nat.reduceBEq, u1, u2, u3, u6, u12, u14, u39, u40] at v1 v2 v3 v6 v12 v13 v39 v40
          simp only [vms, vmc, AOpd.val, Nat.reduceEqDiff, reduceCtorEq, Nat.reduceAdd, Nat.reduceBEq, v40, w1]
          refine ⟨n.keys.length - (j + 1), by omega, j + 1, rfl, by omega, by omega, by rw [e1]; exact K'', ?_, ?_, ?_, ?_, ?_, ?_, ?_, ?_⟩
          all_goals first | assumption | trivial | rfl | (rw [e2]; assumption)
  · have hd : decide ((j : Int) < (n.keys.length : Int)) = false := by rw [decide_eq_false_iff_not]; omega
    have hjl : (n.keys.zip n.kids).take j = n.keys.zip n.kids := List.take_of_length_le (by rw [List.length_zip]; omega)
    rw [hjl] at K f13
    simp only [vms, vmc, AOpd.val, Nat.reduceEqDiff, reduceCtorEq, Nat.reduceAdd, Nat.reduceBEq, f1, f2, f3, f6, f12, f13, f39, f40, hd]
    refine hq _ _ K hNg ?_ ?_ ?_ ?_ ?_ ?_ <;> simp only [vms, vmc, AOpd.val, Nat.reduceEqDiff, reduceCtorEq, Nat.reduceAdd, Nat.reduceBEq, f1, f2, f3, f6, f12, f13]
end Go.Proofs.Ytpabmkicdcilpaa
/- The reference's nodes: With, the whole. -/
namespace Go.Proofs.Ytpabmkicdcilpaa
open Go.Vm
set_option linter.unusedSimpArgs false
set_option linter.unusedVariables false
set_option maxRecDepth 100000
variable {T : Vm.Prog} {h : AH}
theorem ext4 (a b c d : AV) : extractV 0 (.tuple [a, b, c, d]) = some a ∧ extractV 1 (.tuple [a, b, c, d]) = some b ∧ extractV 2 (.tuple [a, b, c, d]) = some c := ⟨rfl, rfl, rfl⟩
theorem with33_ok (k : Fits T) (hl : Low h) {v : AV} {n : NodeP} (ok : n.Ok) (s : NodeV h v n) {b : Nat} {kid : Int} : Gives T 33 [v, .int .u8 (b : Int), .int .i64 kid] h fun r h' => Quiet h h' ∧ Low h' ∧
    ((WithIs n b kid none ∧ r = .tuple [zeroNode, .bool false]) ∨ ∃ m mv, WithIs n b kid (some m) ∧ NodeV h' mv m ∧ r = .tuple [mv, .bool true]) := by
  obtain ⟨kv, iv, rfl, s1, s2⟩ := s
  refine gives_func (k.env _ (by decide)) (k.at (fn := a33) rfl) rfl ?_
  have fa : ∀ o j, fieldAddrV j (.ptr o 0) = some (.ptr o (0 + j)) := fun o j => rfl
  have q2 : Quiet h ((h.new (.cells (n.cells kv iv) true)).new (.cells [.int .i64 0, .int .u64 0, .str [], .nilSlice, .nilSlice] true)) := ((Quiet.refl _).new _).new _
  have lo2 : Low ((h.new (.cells (n.cells kv iv) true)).new (.cells [.int .i64 0, .int .u64 0, .str [], .nilSlice, .nilSlice] true)) := (hl.new _).new _
  have gp : ((h.new (.cells (n.cells kv iv) true)).new (.cells [.int .i64 0, .int .u64 0, .str [], .nilSlice, .nilSlice] true)).get h.next = some (.cells (n.cells kv iv) true) := by rw [AH.get_new, if_neg (by rw [next_new]; omega), get_new_same]
  have gz : ((h.new (.cells (n.cells kv iv) true)).new (.cells [.int .i64 0, .int .u64 0, .str [], .nilSlice, .nilSlice] true)).get (h.next + 1) = some (.cells [.int .i64 0, .int .u64 0, .str [], .nilSlice, .nilSlice] true) := get_new_same
  have nx : ((h.new (.cells (n.cells kv iv) true)).new (.cells [.int .i64 0, .int .u64 0, .str [], .nilSlice, .nilSlice] true)).next = h.next + 2 := rfl
  show Wp (code T c33 _ _) _
  rw [c33_parts]
  simp only [a33, vms, vmc, AOpd.val, Nat.reduceEqDiff, reduceCtorEq, Nat.reduceAdd, Nat.reduceBEq, box_agg, next_new]
  generalize ((h.new (.cells (n.cells kv iv) true)).new (.cells [.int .i64 0, .int .u64 0, .str [], .nilSlice, .nilSlice] true)) = h2 at *
  have t1 := sees_keep s1 hl q2
  have t2 := sees_keep s2 hl q2
  refine Gives.bind ((isRefR k kid).mono ?_)
  rintro _ _ ⟨rfl, c1, c2, c3, rfl⟩
  rename_i h2
  have x0 := (ext4 c1 c2 c3 (.bool (isRefP kid))).1
  have x1 := (ext4 c1 c2 c3 (.bool (isRefP kid))).2.1
  have x2 := (ext4 c1 c2 c3 (.bool (isRefP kid))).2.2
  by_cases hK : isRefP kid = true
  rotate_left
  · have hK' : isRefP kid = false := by simpa using hK
    have st := zN_set gz
    have hr : (h2.set (h.next + 1) (.cells [.int .i64 0, .int .u64 0, .str [], .nilSlice, .nilSlice] true)).get (h.next + 1) = some (.cells [.int .i64 0, .int .u64 0, .str [], .nilSlice, .nilSlice] true) := get_set_same
    simp only [vms, vmc, AOpd.val, Nat.reduceEqDiff, reduceCtorEq, Nat.reduceAdd, Nat.reduceBEq, x0, x1, x2, ext3, hK', Bool.not_false, fill5, st, res_cell, load_all hr (n := 5) rfl]
    exact ⟨q2.set (by omega) _, lo2.set (lo2 _ _ gz) _, .inl ⟨.inr (.inl hK'), rfl⟩⟩
  simp only [vms, vmc, AOpd.val, Nat.reduceEqDiff, reduceCtorEq, Nat.reduceAdd, Nat.reduceBEq, x0, x1, x2, ext3, hK, Bool.not_true, load_all gp (n := 5) rfl]
  refine Gives.bind ((rightR_ok k lo2 ok ⟨kv, iv, rfl, t1, t2⟩).mono ?_)
  rintro _ h4 ⟨rfl, q4, lo4⟩
  have gp4 := q4.get gp (lo2 _ _ gp)
  have gz4 := q4.get gz (lo2 _ _ gz)
  have q14 := q2.trans q4
  by_cases hR : RightP n
  rotate_left
  · have st := zN_set gz4
    have hr : (h4.set (h.next + 1) (.cells [.int .i64 0, .int .u64 0, .str [], .nilSlice, .nilSlice] true)).get (h.next + 1) = some (.cells [.int .i64 0, .int .u64 0, .str [], .nilSlice, .nilSlice] true) := get_set_same
    simp only [vms, vmc, AOpd.val, Nat.reduceEqDiff, reduceCtorEq, Nat.reduceAdd, Nat.reduceBEq, rightP_no hR, Bool.not_false, fill5, st, res_cell, load_all hr (n := 5) rfl]
    exact ⟨q14.set (by omega) _, lo4.set (lo4 _ _ gz4) _, .inl ⟨.inl hR, rfl⟩⟩
  have l0 := load_at gp4 (i := 0) (v := .int .i64 n.kind) rfl
  have l1 := load_at gp4 (i := 1) (v := .int .u64 (n.word : Int)) rfl
  have l2 := load_at gp4 (i := 2) (v := .str n.pre) rfl
  have g5 : (h4.new (.cells [.int .i64 0, .int .u64 0, .str [], .nilSlice, .nilSlice] true)).get h4.next = some (.cells [.int .i64 0, .int .u64 0, .str [], .nilSlice, .nilSlice] true) := get_new_same
  have st5 := store5 (m := outP n []) (kv := .nilSlice) (iv := .nilSlice) g5 rfl rfl rfl
  have q5 : Quiet h4 ((h4.new (.cells [.int .i64 0, .int .u64 0, .str [], .nilSlice, .nilSlice] true)).set h4.next (.cells ((outP n []).cells .nilSlice .nilSlice) true)) := ((Quiet.refl _).new _).set (Nat.le_refl _) _
  have lo5 : Low ((h4.new (.cells [.int .i64 0, .int .u64 0, .str [], .nilSlice, .nilSlice] true)).set h4.next (.cells ((outP n []).cells .nilSlice .nilSlice) true)) := (lo4.new _).set (by rw [next_new]; omega) _
  have go5 : ((h4.new (.cells [.int .i64 0, .int .u64 0, .str [], .nilSlice, .nilSlice] true)).set h4.next (.cells ((outP n []).cells .nilSlice .nilSlice) true)).get h4.next = some (.cells ((outP n []).cells .nilSlice .nilSlice) true) := get_set_same
  have n5 : ((h4.new (.cells [.int .i64 0, .int .u64 0, .str [], .nilSlice, .nilSlice] true)).set h4.next (.cells ((outP n []).cells .nilSlice .nilSlice) true)).next = h4.next + 1 := rfl
  have gp5 := q5.get gp4 (lo4 _ _ gp4)
  have gz5 := q5.get gz4 (lo4 _ _ gz4)
  have n4 := q4.1
  have l53 := load_at gp5 (i := 3) (v := kv) rfl
  have lk : lenOfV kv = some n.keys.length := by simpa [kcells] using s1.len
  have K0 : OutK h _ (h4.next + 1) h4.next h.next (h.next + 1) n kv iv [] := ⟨lo5, q14.trans q5, gp5, gz5, .nilSlice, .nilSlice, go5, .inl ⟨rfl, rfl⟩, .inl ⟨rfl, rfl⟩, fun o ho => by simp [objs] at ho, fun o ho => by simp [objs] at ho, fun o ho => by simp [objs] at ho⟩
  simp only [vms, vmc, AOpd.val, Nat.reduceEqDiff, reduceCtorEq, Nat.reduceAdd, Nat.reduceBEq, rightP_iff.2 hR, Bool.not_true, fa, Nat.zero_add, l0, l1, l2, fillOut, st5, l53, lk]
  have hsm := hR.same
  have hfew := hR.few
  have hh : highP n.kind ≤ 256 := by unfold highP; (repeat' split) <;> omega
  obtain ⟨w1, w2⟩ := with_is (b := b) hR hK
  -- the end
  have fin : ∀ {f' : Fr} {h' : AH}, OutK h h' (h4.next + 1) h4.next h.next (h.next + 1) n kv iv (withF n b kid) → f'.at 3 = .ptr h.next 0 → f'.at 6 = .ptr (h.next + 1) 0 → f'.at 12 = .ptr h4.next 0 →
      Wp (code T c33e f' h') (Vm.Ends [.cell 6 true 5, .tmp 7] fun r h' => Quiet h h' ∧ Low h' ∧ ((WithIs n b kid none ∧ r = .tuple [zeroNode, .bool false]) ∨ ∃ m mv, WithIs n b kid (some m) ∧ NodeV h' mv m ∧ r = .tuple [mv, .bool true])) := by
    intro f' h' K f3 f6 f12
    obtain ⟨kv', iv', go, rk, ri, nk, ni, dj⟩ := K.out
    obtain ⟨bk, _, fk⟩ := row_beq rk
    obtain ⟨_, _, fi⟩ := row_beq ri
    have lz := K.low _ _ K.gz
    have a1 : loadV h' false 1 (.ptr h4.next 3) = some kv' := load_at go rfl
    have a2 : loadV h' false 1 (.ptr h.next 0) = some (.int .i64 n.kind) := load_at K.gp rfl
    have lk' : lenOfV kv' = some (withF n b kid).length := by have := rk.sees.len; simpa [kcells] using this
    rw [c33e_is]
    simp only [vms, vmc, AOpd.val, Nat.reduceEqDiff, reduceCtorEq, Nat.reduceAdd, Nat.reduceBEq, f3, f6, f12, fa, Nat.zero_add, a1, lk', a2]
    refine Gives.bind ((high39_ok k).mono ?_)
    rintro _ _ ⟨rfl, rfl⟩
    rename_i h'
    by_cases hle : (withF n b kid).length ≤ highP n.kind
    · have d1 : decide (((withF n b kid).length : Int) > (highP n.kind : Nat)) = false := by rw [decide_eq_false_iff_not]; omega
      simp only [vms, vmc, AOpd.val, Nat.reduceEqDiff, reduceCtorEq, Nat.reduceAdd, Nat.reduceBEq, d1]
      rw [items_look (lk_load a1 (by simp only [vms, vmc, AOpd.val, Nat.reduceEqDiff, reduceCtorEq, Nat.reduceAdd, Nat.reduceBEq]) (by simp only [vms, vmc, AOpd.val, Nat.reduceEqDiff, reduceCtorEq, Nat.reduceAdd, Nat.reduceBEq]) bk)]
      have st6 := store5 (m := outP n (withF n b kid)) (kv := kv') (iv := iv') K.gz rfl fk fi
      have hr : (h'.set (h.next + 1) (.cells ((outP n (withF n b kid)).cells kv' iv') true)).get (h.next + 1) = some (.cells ((outP n (withF n b kid)).cells kv' iv') true) := get_set_same
      simp only [vms, vmc, AOpd.val, Nat.reduceEqDiff, reduceCtorEq, Nat.reduceAdd, Nat.reduceBEq, f6, f12, load_all go (n := 5) rfl, st6, res_cell, load_all hr (n := 5) rfl]
      have hk6 : ∀ X, Row1 (h'.set (h.next + 1) X) kv' _ := fun X => RowS.keep rk fun o ho => by rw [AH.get_set, if_neg (by have := nk o ho; omega)]
      have hi6 : ∀ X, Row1 (h'.set (h.next + 1) X) iv' _ := fun X => RowS.keep ri fun o ho => by rw [AH.get_set, if_neg (by have := ni o ho; omega)]
      exact ⟨K.q.set (by omega) _, K.low.set lz _, .inr ⟨outP n (withF n b kid), _, w1 hle, ⟨kv', iv', rfl, (hk6 _).sees, (hi6 _).sees⟩, rfl⟩⟩
    · have d1 : decide (((withF n b kid).length : Int) > (highP n.kind : Nat)) = true := by rw [decide_eq_true_eq]; omega
      simp only [vms, vmc, AOpd.val, Nat.reduceEqDiff, reduceCtorEq, Nat.reduceAdd, Nat.reduceBEq, d1]
      rw [items_look (lk_load a1 (by simp only [vms, vmc, AOpd.val, Nat.reduceEqDiff, reduceCtorEq, Nat.reduceAdd, Nat.reduceBEq]) (by simp only [vms, vmc, AOpd.val, Nat.reduceEqDiff, reduceCtorEq, Nat.reduceAdd, Nat.reduceBEq]) bk)]
      have st6 := zN_set K.gz
      have hr : (h'.set (h.next + 1) (.cells [.int .i64 0, .int .u64 0, .str [], .nilSlice, .nilSlice] true)).get (h.next + 1) = some (.cells [.int .i64 0, .int .u64 0, .str [], .nilSlice, .nilSlice] true) := get_set_same
      simp only [vms, vmc, AOpd.val, Nat.reduceEqDiff, reduceCtorEq, Nat.reduceAdd, Nat.reduceBEq, f6, fill5, st6, res_cell, load_all hr (n := 5) rfl]
      exact ⟨K.q.set (by omega) _, K.low.set lz _, .inl ⟨w2 hle, rfl⟩⟩
  refine with_loop (b := b) (kid := kid) hR ok hl s1 s2 (N := h4.next + 1) (by omega) (by omega) (by omega) (by omega) (by omega) (by omega) K0 ?_ ?_ ?_ ?_ ?_ ?_ ?_ ?_ (fun f' h' K hN' f1 f2 f3 f6 f12 f13 => ?_)
  iterate 8 (· simp only [vms, vmc, AOpd.val, Nat.reduceEqDiff, reduceCtorEq, Nat.reduceAdd, Nat.reduceBEq])
  cases hany : anyGe b (n.keys.zip n.kids) with
  | true =>
    have he := with_end (n := n) (b := b) (kid := kid)
    rw [hany] at f13 he
    simp only [if_true, List.append_nil] at he
    rw [he] at K
    simp only [vms, vmc, AOpd.val, Nat.reduceEqDiff, reduceCtorEq, Nat.reduceAdd, Nat.reduceBEq, f13, Bool.not_true]
    refine fin K ?_ ?_ ?_ <;> simp only [vms, vmc, AOpd.val, Nat.reduceEqDiff, reduceCtorEq, Nat.reduceAdd, Nat.reduceBEq, f3, f6, f12]
  | false =>
    have he := with_end (n := n) (b := b) (kid := kid)
    rw [hany] at f13 he
    simp only [Bool.false_eq_true, if_false] at he
    simp only [vms, vmc, AOpd.val, Nat.reduceEqDiff, reduceCtorEq, Nat.reduceAdd, Nat.reduceBEq, f13, Bool.not_false]
    have hll : (withL b kid (n.keys.zip n.kids)).length < 1000 := by
      have h1 := withL_len (n := n) (b := b) (kid := kid) (t := n.keys.zip n.kids)
      have h2 := (zip_keys hR).2.2
      omega
    refine with_draw3 K (by omega) (by omega) (by omega) (by omega) hN' (by omega) hll (b := b) (kid := kid) ?_ ?_ ?_ (fun f'' g'' K'' hn'' ft => ?_)
    · simp only [vms, vmc, AOpd.val, Nat.reduceEqDiff, reduceCtorEq, Nat.reduceAdd, Nat.reduceBEq, f1]
    · simp only [vms, vmc, AOpd.val, Nat.reduceEqDiff, reduceCtorEq, Nat.reduceAdd, Nat.reduceBEq, f2]
    · simp only [vms, vmc, AOpd.val, Nat.reduceEqDiff, reduceCtorEq, Nat.reduceAdd, Nat.reduceBEq, f12]
    have u3 := ft 3 (by omega); have u6 := ft 6 (by omega); have u12 := ft 12 (by omega)
    simp only [vms, vmc, AOpd.val, Nat.reduceEqDiff, reduceCtorEq, Nat.reduceAdd, Nat.reduceBEq, f3, f6, f12] at u3 u6 u12
    rw [he] at K''
    simp only [vms, vmc, AOpd.val, Nat.reduceEqDiff, reduceCtorEq, Nat.reduceAdd, Nat.reduceBEq]
    refine fin K'' u3 u6 u12
end Go.Proofs.Ytpabmkicdcilpaa

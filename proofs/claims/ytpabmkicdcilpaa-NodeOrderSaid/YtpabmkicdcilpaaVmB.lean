/- The relation between the abstract machine's values and memory and the model's. -/
import Derived.Test.YtpabmkicdcilpaaVmA
import Derived.Below
import Derived.Orders
namespace Go.Vm
open Go.RowKit

/-! ### finite maps -/
theorem Tr.get_nil {α : Type} (n : Nat) : (Tr.nil : Tr α).get n = none := rfl
theorem Tr.get_setF {α : Type} (x : α) : ∀ (fuel : Nat) (t : Tr α) (n m : Nat), n < fuel → (Tr.setF fuel t n x).get m = if n = m then some x else t.get m := by
  intro fuel
  induction fuel with
  | zero => intro t n m h; omega
  | succ k ih =>
    intro t n m h
    have key : ∀ (l : Tr α) (v : Option α) (r : Tr α), (if n = 0 then Tr.node l (some x) r else if n % 2 = 1 then Tr.node (Tr.setF k l (n / 2) x) v r else Tr.node l v (Tr.setF k r (n / 2 - 1) x)).get m
        = if n = m then some x else (Tr.node l v r).get m := by
      intro l v r
      by_cases h0 : n = 0
      · subst h0
        by_cases hm : m = 0
        · subst hm; simp [Tr.get]
        · simp [Tr.get, hm, Ne.symm hm]
      · rw [if_neg h0]
        by_cases h1 : n % 2 = 1
        · rw [if_pos h1]
          by_cases hm0 : m = 0
          · subst hm0; simp [Tr.get, h0]
          · by_cases hm1 : m % 2 = 1
            · simp only [Tr.get, if_neg hm0, if_pos hm1]
              rw [ih l (n / 2) (m / 2) (by omega)]
              by_cases e : n = m
              · subst e; simp
              · rw [if_neg e, if_neg (by omega)]
            · simp only [Tr.get, if_neg hm0, if_neg hm1]
              rw [if_neg (by omega)]
        · rw [if_neg h1]
          by_cases hm0 : m = 0
          · subst hm0; simp [Tr.get, h0]
          · by_cases hm1 : m % 2 = 1
            · simp only [Tr.get, if_neg hm0, if_pos hm1]
              rw [if_neg (by omega)]
            · simp only [Tr.get, if_neg hm0, if_neg hm1]
              rw [ih r (n / 2 - 1) (m / 2 - 1) (by omega)]
              by_cases e : n = m
              · subst e; simp
              · rw [if_neg e, if_neg (by omega)]
    cases t with
    | nil =>
      have := key .nil none .nil
      simp only [Tr.setF]
      rw [this]
      by_cases e : n = m
      · simp [e]
      · simp only [if_neg e, Tr.get]; split
        · rfl
        · split <;> rfl
    | node l v r => exact key l v r
theorem Tr.get_set {α : Type} (t : Tr α) (n m : Nat) (x : α) : (t.set n x).get m = if n = m then some x else t.get m :=
  Tr.get_setF x (n + 1) t n m (by omega)

theorem AH.get_set (h : AH) (o p : Nat) (x : AObj) : (h.set o x).get p = if o = p then some x else h.get p := Tr.get_set ..
theorem AH.get_new (h : AH) (p : Nat) (x : AObj) : (h.new x).get p = if h.next = p then some x else h.get p := Tr.get_set ..
theorem AH.next_set (h : AH) (o : Nat) (x : AObj) : (h.set o x).next = h.next := rfl
theorem AH.next_new (h : AH) (x : AObj) : (h.new x).next = h.next + 1 := rfl
theorem AH.next_store {h h' : AH} {o i : Nat} {vs : List AV} (hs : h.store o i vs = some h') : h'.next = h.next := by
  unfold AH.store at hs
  split at hs
  · split at hs
    · cases hs; rfl
    · cases hs
  · split at hs
    · cases hs; rfl
    · cases hs
  · cases hs
theorem Fr.at_set (f : Fr) (i j : Nat) (v : AV) : Fr.at (Tr.set f i v) j = if i = j then v else f.at j := by
  unfold Fr.at; rw [Tr.get_set]; split <;> rfl
theorem Fr.at_put (f : Fr) (i j : Nat) (v : AV) : Fr.at (f.put (some i) v) j = if i = j then v else f.at j := Fr.at_set ..

/-! ### equality that is computed -/
mutual
theorem AV.eq_of_beq : ∀ (a b : AV), AV.beq a b = true → a = b
  | .undef, b, h => by cases b <;> simp_all [AV.beq]
  | .bool _, b, h => by cases b <;> simp_all [AV.beq]
  | .int _ _, b, h => by cases b <;> simp_all [AV.beq]
  | .str _, b, h => by cases b <;> simp_all [AV.beq]
  | .ptr _ _, b, h => by cases b <;> simp_all [AV.beq]
  | .nilPtr, b, h => by cases b <;> simp_all [AV.beq]
  | .slice .., b, h => by cases b <;> simp_all [AV.beq]
  | .nilSlice, b, h => by cases b <;> simp_all [AV.beq]
  | .map _, b, h => by cases b <;> simp_all [AV.beq]
  | .nilMap, b, h => by cases b <;> simp_all [AV.beq]
  | .func f x y, b, h => by
    cases b <;> simp only [AV.beq, Bool.and_eq_true, decide_eq_true_eq, Bool.false_eq_true] at h
    rw [h.1.1, AV.eq_of_beqs _ _ h.1.2, AV.eq_of_beqs _ _ h.2]
  | .nilFunc, b, h => by cases b <;> simp_all [AV.beq]
  | .iface t v, b, h => by
    cases b <;> simp only [AV.beq, Bool.and_eq_true, beq_iff_eq, Bool.false_eq_true] at h
    rw [h.1, AV.eq_of_beq _ _ h.2]
  | .nilIface, b, h => by cases b <;> simp_all [AV.beq]
  | .agg x, b, h => by
    cases b <;> simp only [AV.beq, Bool.false_eq_true] at h
    rw [AV.eq_of_beqs _ _ h]
  | .tuple x, b, h => by
    cases b <;> simp only [AV.beq, Bool.false_eq_true] at h
    rw [AV.eq_of_beqs _ _ h]
theorem AV.eq_of_beqs : ∀ (a b : List AV), AV.beqs a b = true → a = b
  | [], b, h => by cases b <;> simp_all [AV.beqs]
  | x :: r, b, h => by
    cases b <;> simp only [AV.beqs, Bool.and_eq_true, Bool.false_eq_true] at h
    rw [AV.eq_of_beq _ _ h.1, AV.eq_of_beqs _ _ h.2]
end
theorem eq_of_beqPairs : ∀ (a b : List (AV × AV)), beqPairs a b = true → a = b
  | [], b, h => by cases b <;> simp_all [beqPairs]
  | (x, y) :: r, b, h => by
    cases b with
    | nil => simp [beqPairs] at h
    | cons z s =>
      obtain ⟨z1, z2⟩ := z
      simp only [beqPairs, Bool.and_eq_true] at h
      rw [AV.eq_of_beq _ _ h.1.1, AV.eq_of_beq _ _ h.1.2, eq_of_beqPairs _ _ h.2]
theorem eq_of_beqObj {x y : AObj} (h : beqObj x y = true) : x = y := by
  cases x <;> cases y <;> simp only [beqObj, Bool.and_eq_true, beq_iff_eq, Bool.false_eq_true] at h
  · rw [h.1, AV.eq_of_beqs _ _ h.2]
  · rw [eq_of_beqPairs _ _ h]
  · rw [AV.eq_of_beqs _ _ h]

/-! ### the relation -/
/-- Where an object lies: block, first cell, the block's number of cells. -/
abbrev Inj := Nat → Option (Nat × Nat × Nat)
def Inj.le (μ ν : Inj) : Prop := ∀ o x, μ o = some x → ν o = some x
theorem Inj.le_refl (μ : Inj) : Inj.le μ μ := fun _ _ h => h
theorem Inj.le_trans {μ ν ρ : Inj} (h : Inj.le μ ν) (k : Inj.le ν ρ) : Inj.le μ ρ := fun o x hx => k o x (h o x hx)
def Inj.add (μ : Inj) (o : Nat) (x : Nat × Nat × Nat) : Inj := fun p => if p = o then some x else μ p
theorem Inj.add_self (μ : Inj) (o : Nat) (x : Nat × Nat × Nat) : Inj.add μ o x o = some x := by simp [Inj.add]
theorem Inj.le_add {μ : Inj} {o : Nat} (x : Nat × Nat × Nat) (h : μ o = none) : Inj.le μ (Inj.add μ o x) := by
  intro p y hy
  unfold Inj.add
  split
  · subst_vars; rw [h] at hy; cases hy
  · exact hy

/-- The map grows, but not at the old numbers. -/
def Inj.Ext (n n' : Nat) (μ μ' : Inj) : Prop := Inj.le μ μ' ∧ (∀ o, o < n → μ' o = μ o) ∧ n ≤ n'
theorem Inj.Ext.le {n n' : Nat} {μ μ' : Inj} (h : Inj.Ext n n' μ μ') : Inj.le μ μ' := h.1
theorem Inj.Ext.refl {n n' : Nat} {μ : Inj} (h : n ≤ n') : Inj.Ext n n' μ μ := ⟨Inj.le_refl _, fun _ _ => rfl, h⟩
theorem Inj.Ext.trans {n n' n2 : Nat} {μ μ' ν : Inj} (h : Inj.Ext n n' μ μ') (k : Inj.Ext n' n2 μ' ν) : Inj.Ext n n2 μ ν :=
  ⟨Inj.le_trans h.1 k.1, fun o ho => (k.2.1 o (Nat.lt_of_lt_of_le ho h.2.2)).trans (h.2.1 o ho), Nat.le_trans h.2.2 k.2.2⟩
theorem Inj.Ext.new {n : Nat} {μ : Inj} (x : Nat × Nat × Nat) (h : μ n = none) : Inj.Ext n (n + 1) μ (Inj.add μ n x) :=
  ⟨Inj.le_add x h, fun o ho => by unfold Inj.add; rw [if_neg (by omega)], by omega⟩

inductive VRel (μ : Inj) : AV → Value → Prop where
  | undef (v : Value) : VRel μ .undef v
  | bool (b : Bool) : VRel μ (.bool b) (.bool b)
  | int (k : IntKind) (n : Int) : VRel μ (.int k n) (.int k n)
  | str (s : ByteArray) : VRel μ (.str s.data.toList) (.string s)
  | ptr {o off b base size : Nat} (h : μ o = some (b, base, size)) : VRel μ (.ptr o off) (.pointer (some ⟨b, base + off, none⟩))
  | nilPtr : VRel μ .nilPtr (.pointer none)
  | slice {o off sz len cap : Nat} {ex : Bool} {b base size boff cap' : Nat} (h : μ o = some (b, base, size)) (hl : len ≤ cap') (hc : if ex then cap' = cap else cap ≤ cap')
      (hs : boff + cap' * sz ≤ size) (ha : boff = base + off ∨ (len = 0 ∧ cap' = 0)) : VRel μ (.slice o off sz len cap ex) (.slice (some ⟨b, boff, none⟩) len cap')
  | nilSlice : VRel μ .nilSlice (.slice none 0 0)
  | map {o b size : Nat} (h : μ o = some (b, 0, size)) : VRel μ (.map o) (.map (some b))
  | nilMap : VRel μ .nilMap (.map none)
  | func (fn : Fn) {a c : List AV} {a' c' : Array Value} (h1 : a.length = a'.size) (h2 : ∀ (i : Nat) (x : AV) (y : Value), a[i]? = some x → a'[i]? = some y → VRel μ x y)
      (h3 : c.length = c'.size) (h4 : ∀ (i : Nat) (x : AV) (y : Value), c[i]? = some x → c'[i]? = some y → VRel μ x y) : VRel μ (.func fn a c) (.func fn a' c')
  | nilFunc : VRel μ .nilFunc .nilFunc
  | iface (t : Nat) {v : AV} {v' : Value} (h : VRel μ v v') : VRel μ (.iface t v) (.iface t v')
  | nilIface : VRel μ .nilIface .nilIface
  | agg {a : List AV} {a' : Array Value} (h1 : a.length = a'.size) (h2 : ∀ (i : Nat) (x : AV) (y : Value), a[i]? = some x → a'[i]? = some y → VRel μ x y) : VRel μ (.agg a) (.agg a')
  | tuple {a : List AV} {a' : Array Value} (h1 : a.length = a'.size) (h2 : ∀ (i : Nat) (x : AV) (y : Value), a[i]? = some x → a'[i]? = some y → VRel μ x y) : VRel μ (.tuple a) (.tuple a')

theorem VRel.mono {μ ν : Inj} (hle : Inj.le μ ν) {a : AV} {v : Value} (h : VRel μ a v) : VRel ν a v := by
  induction h with
  | undef v => exact .undef v
  | bool b => exact .bool b
  | int k n => exact .int k n
  | str s => exact .str s
  | ptr h => exact .ptr (hle _ _ h)
  | nilPtr => exact .nilPtr
  | slice h hl hc hs ha => exact .slice (hle _ _ h) hl hc hs ha
  | nilSlice => exact .nilSlice
  | map h => exact .map (hle _ _ h)
  | nilMap => exact .nilMap
  | func fn h1 h2 h3 h4 ih2 ih4 => exact .func fn h1 ih2 h3 ih4
  | nilFunc => exact .nilFunc
  | iface t h ih => exact .iface t ih
  | nilIface => exact .nilIface
  | agg h1 h2 ih => exact .agg h1 ih
  | tuple h1 h2 ih => exact .tuple h1 ih

/-- Lists of values, pairwise. -/
def VRels (μ : Inj) (a : List AV) (a' : List Value) : Prop := a.length = a'.length ∧ ∀ (i : Nat) (x : AV) (y : Value), a[i]? = some x → a'[i]? = some y → VRel μ x y
theorem VRels.mono {μ ν : Inj} (hle : Inj.le μ ν) {a : List AV} {v : List Value} (h : VRels μ a v) : VRels ν a v := ⟨h.1, fun i x y hx hy => (h.2 i x y hx hy).mono hle⟩
theorem VRels.nil {μ : Inj} : VRels μ [] [] := ⟨rfl, by simp⟩
theorem VRels.cons {μ : Inj} {x : AV} {y : Value} {a : List AV} {a' : List Value} (h : VRel μ x y) (k : VRels μ a a') : VRels μ (x :: a) (y :: a') := by
  refine ⟨by simp [k.1], fun i u v hu hv => ?_⟩
  cases i with
  | zero => simp at hu hv; subst hu hv; exact h
  | succ i => simp at hu hv; exact k.2 i u v hu hv
theorem VRels.head {μ : Inj} {x : AV} {y : Value} {a : List AV} {a' : List Value} (h : VRels μ (x :: a) (y :: a')) : VRel μ x y := h.2 0 x y rfl rfl
theorem VRels.tail {μ : Inj} {x : AV} {y : Value} {a : List AV} {a' : List Value} (h : VRels μ (x :: a) (y :: a')) : VRels μ a a' :=
  ⟨by have := h.1; simp at this; exact this, fun i u v hu hv => h.2 (i + 1) u v (by simpa using hu) (by simpa using hv)⟩
theorem VRels.append {μ : Inj} {a b : List AV} {a' b' : List Value} (h : VRels μ a a') (k : VRels μ b b') : VRels μ (a ++ b) (a' ++ b') := by
  refine ⟨by simp [h.1, k.1], fun i u v hu hv => ?_⟩
  by_cases hi : i < a.length
  · rw [List.getElem?_append_left hi] at hu
    rw [List.getElem?_append_left (by rw [← h.1]; exact hi)] at hv
    exact h.2 i u v hu hv
  · rw [List.getElem?_append_right (by omega)] at hu
    rw [List.getElem?_append_right (by rw [← h.1]; omega), ← h.1] at hv
    exact k.2 _ u v hu hv
theorem VRels.get {μ : Inj} {a : List AV} {a' : List Value} (h : VRels μ a a') {i : Nat} {x : AV} (hx : a[i]? = some x) : ∃ y, a'[i]? = some y ∧ VRel μ x y := by
  have hi : i < a.length := by
    rcases Nat.lt_or_ge i a.length with h' | h'
    · exact h'
    · rw [List.getElem?_eq_none h'] at hx; cases hx
  have hi' : i < a'.length := h.1 ▸ hi
  exact ⟨a'[i], List.getElem?_eq_getElem hi', h.2 i x _ hx (List.getElem?_eq_getElem hi')⟩
theorem VRels.take {μ : Inj} {a : List AV} {a' : List Value} (h : VRels μ a a') (n : Nat) : VRels μ (a.take n) (a'.take n) := by
  refine ⟨by simp [h.1], fun i u v hu hv => ?_⟩
  rw [List.getElem?_take] at hu hv
  split at hu
  · rw [if_pos ‹_›] at hv; exact h.2 i u v hu hv
  · cases hu
theorem VRels.drop {μ : Inj} {a : List AV} {a' : List Value} (h : VRels μ a a') (n : Nat) : VRels μ (a.drop n) (a'.drop n) := by
  refine ⟨by simp [h.1], fun i u v hu hv => ?_⟩
  rw [List.getElem?_drop] at hu hv
  exact h.2 _ u v hu hv
theorem VRels.set {μ : Inj} {a : List AV} {a' : List Value} (h : VRels μ a a') (n : Nat) {x : AV} {y : Value} (hx : VRel μ x y) : VRels μ (a.set n x) (a'.set n y) := by
  refine ⟨by simp [h.1], fun i u v hu hv => ?_⟩
  rw [List.getElem?_set] at hu hv
  split at hu
  · rw [if_pos ‹_›] at hv
    split at hu
    · split at hv
      · cases hu; cases hv; exact hx
      · cases hv
    · cases hu
  · rw [if_neg ‹_›] at hv; exact h.2 i u v hu hv
theorem VRel.agg_iff {μ : Inj} {a : List AV} {v : Value} : VRel μ (.agg a) v ↔ ∃ a', v = .agg a' ∧ VRels μ a a'.toList := by
  constructor
  · intro h; cases h with | agg h1 h2 => exact ⟨_, rfl, by simpa using h1, fun i x y hx hy => h2 i x y hx (by simpa using hy)⟩
  · rintro ⟨a', rfl, h⟩; exact .agg (by simpa using h.1) fun i x y hx hy => h.2 i x y hx (by simpa using hy)
theorem VRel.tuple_iff {μ : Inj} {a : List AV} {v : Value} : VRel μ (.tuple a) v ↔ ∃ a', v = .tuple a' ∧ VRels μ a a'.toList := by
  constructor
  · intro h; cases h with | tuple h1 h2 => exact ⟨_, rfl, by simpa using h1, fun i x y hx hy => h2 i x y hx (by simpa using hy)⟩
  · rintro ⟨a', rfl, h⟩; exact .tuple (by simpa using h.1) fun i x y hx hy => h.2 i x y hx (by simpa using hy)
theorem VRel.none_undef {μ : Inj} : VRel μ .none Go.undef := VRel.tuple_iff.2 ⟨#[], rfl, VRels.nil⟩
/-- The cells of a value. -/
theorem VRel.cells {μ : Inj} {a : AV} {v : Value} (h : VRel μ a v) (hu : a ≠ .undef) : VRels μ a.cells v.cells.toList := by
  cases h with
  | undef => exact absurd rfl hu
  | agg h1 h2 => exact ⟨by simpa [AV.cells, Value.cells] using h1, fun i x y hx hy => h2 i x y hx (by simpa [Value.cells] using hy)⟩
  | bool => exact VRels.cons (.bool _) .nil
  | int => exact VRels.cons (.int _ _) .nil
  | str => exact VRels.cons (.str _) .nil
  | ptr h => exact VRels.cons (.ptr h) .nil
  | nilPtr => exact VRels.cons .nilPtr .nil
  | slice h hl hc hs ha => exact VRels.cons (.slice h hl hc hs ha) .nil
  | nilSlice => exact VRels.cons .nilSlice .nil
  | map h => exact VRels.cons (.map h) .nil
  | nilMap => exact VRels.cons .nilMap .nil
  | func fn h1 h2 h3 h4 => exact VRels.cons (.func fn h1 h2 h3 h4) .nil
  | nilFunc => exact VRels.cons .nilFunc .nil
  | iface t h => exact VRels.cons (.iface t h) .nil
  | nilIface => exact VRels.cons .nilIface .nil
  | tuple h1 h2 => exact VRels.cons (.tuple h1 h2) .nil

/-! ### memory -/
/-- An object and what lies in its block. -/
def ORel (μ : Inj) (N : Nat) (w : World) (x : AObj) (b base size : Nat) : Prop :=
  match x with
  | .cells l rw => ∃ C e fz, w.heap[b]? = some (.cells C e fz) ∧ C.size = size ∧ base + l.length ≤ size ∧
      (∀ (i : Nat) (u : AV) (v : Value), l[i]? = some u → C[base + i]? = some v → VRel μ u v) ∧
      (if rw then N ≤ b ∧ fz.1 = fz.2 else b < N)
  | .marked l => ∃ C e fz, w.heap[b]? = some (.cells C e fz) ∧ C.size = size ∧ base + l.length ≤ size ∧
      (∀ (i : Nat) (u : AV) (v : Value), l[i]? = some u → C[base + i]? = some v → VRel μ u v) ∧
      (N ≤ b ∧ (fz.1 = fz.2 ∨ size ≤ fz.1))
  | .map es => base = 0 ∧ N ≤ b ∧ ∃ ces clock, w.heap[b]? = some (.map ces clock) ∧ es.length = ces.size ∧
      ∀ (i : Nat) (p : AV × AV) (q : MapEntry), es[i]? = some p → ces[i]? = some q → VRel μ p.1 q.key ∧ VRel μ p.2 q.val
  | .dead => True

def AObj.solid : AObj → Bool
  | .cells _ rw => rw
  | .map _ => true
  | .dead => false
  | .marked _ => true
def AH.solid (h : AH) (o : Nat) : Bool :=
  match h.get o with
  | some x => x.solid
  | none => false
theorem solid_iff {h : AH} {o : Nat} : h.solid o = true ↔ ∃ x, h.get o = some x ∧ x.solid = true := by
  unfold AH.solid
  cases h.get o <;> simp
theorem solid_ne {x : AObj} (hx : x.solid = true) : x ≠ .dead := by intro e; subst e; cases hx

structure R (N : Nat) (w₀ : World) (μ : Inj) (h : AH) (w : World) : Prop where
  below : Below N w₀ w
  fresh : N ≤ w.heap.size
  dom : ∀ o x, μ o = some x → o < h.next
  obj : ∀ o b base size x, μ o = some (b, base, size) → h.get o = some x → ORel μ N w x b base size
  inj : ∀ o p x y, μ o = some x → μ p = some y → o ≠ p → h.solid o = true → h.solid p = true → x.1 ≠ y.1

theorem isRw_iff {h : AH} {o : Nat} : h.isRw o = true ↔ ∃ l, h.get o = some (.cells l true) := by
  unfold AH.isRw
  split
  · rename_i l hl; simp [hl]
  · rename_i hne; simp; intro l hl; exact hne l hl

theorem ORel.mono {μ ν : Inj} (hle : Inj.le μ ν) {N : Nat} {w : World} {x : AObj} {b base size : Nat} (h : ORel μ N w x b base size) : ORel ν N w x b base size := by
  cases x with
  | cells l rw =>
    obtain ⟨C, e, fz, h1, h2, h3, h4, h5⟩ := h
    exact ⟨C, e, fz, h1, h2, h3, fun i u v hu hv => (h4 i u v hu hv).mono hle, h5⟩
  | map es =>
    obtain ⟨h0, h0', ces, clock, h1, h2, h3⟩ := h
    exact ⟨h0, h0', ces, clock, h1, h2, fun i p q hp hq => ⟨(h3 i p q hp hq).1.mono hle, (h3 i p q hp hq).2.mono hle⟩⟩
  | dead => trivial
  | marked l =>
    obtain ⟨C, e, fz, h1, h2, h3, h4, h5⟩ := h
    exact ⟨C, e, fz, h1, h2, h3, fun i u v hu hv => (h4 i u v hu hv).mono hle, h5⟩
/-- Another world with the same block. -/
theorem ORel.of_block {μ : Inj} {N : Nat} {w w' : World} {x : AObj} {b base size : Nat} (h : ORel μ N w x b base size) (hb : w'.heap[b]? = w.heap[b]?) : ORel μ N w' x b base size := by
  cases x with
  | cells l rw =>
    obtain ⟨C, e, fz, h1, h2⟩ := h
    exact ⟨C, e, fz, hb.trans h1, h2⟩
  | map es =>
    obtain ⟨h0, h0', ces, clock, h1, h2⟩ := h
    exact ⟨h0, h0', ces, clock, hb.trans h1, h2⟩
  | dead => trivial
  | marked l =>
    obtain ⟨C, e, fz, h1, h2⟩ := h
    exact ⟨C, e, fz, hb.trans h1, h2⟩
/-- An object's cells, whatever else it is. -/
def AObj.row : AObj → Option (List AV)
  | .cells l _ => some l
  | .marked l => some l
  | _ => none
theorem ORel.row {μ : Inj} {N : Nat} {w : World} {x : AObj} {b base size : Nat} {l : List AV} (h : ORel μ N w x b base size) (hx : x.row = some l) : ∃ C e fz, w.heap[b]? = some (.cells C e fz) ∧ C.size = size ∧ base + l.length ≤ size ∧
      (∀ (i : Nat) (u : AV) (v : Value), l[i]? = some u → C[base + i]? = some v → VRel μ u v) := by
  cases x with
  | cells l' rw => cases hx; obtain ⟨C, e, fz, h1, h2, h3, h4, _⟩ := h; exact ⟨C, e, fz, h1, h2, h3, h4⟩
  | marked l' => cases hx; obtain ⟨C, e, fz, h1, h2, h3, h4, _⟩ := h; exact ⟨C, e, fz, h1, h2, h3, h4⟩
  | map es => cases hx
  | dead => cases hx

variable {N : Nat} {w₀ : World} {μ : Inj} {h : AH} {w : World}

/-- A draw. -/
theorem R.drawn (r : R N w₀ μ h w) (n : Nat) : R N w₀ μ h { w with drawn := n } where
  below := ⟨r.below.os, r.below.tape, r.below.output, r.below.size, r.below.block⟩
  fresh := r.fresh
  dom := r.dom
  obj := fun o b base size x ho hx => (r.obj o b base size x ho hx).of_block rfl
  inj := r.inj

/-- A new object in a new block. -/
theorem R.alloc (r : R N w₀ μ h w) {x : AObj} {X : Obj} {size : Nat}
    (hx : ∀ w' : World, w'.heap[w.heap.size]? = some X → ORel (Inj.add μ h.next (w.heap.size, 0, size)) N w' x w.heap.size 0 size) :
    Inj.le μ (Inj.add μ h.next (w.heap.size, 0, size)) ∧ R N w₀ (Inj.add μ h.next (w.heap.size, 0, size)) (h.new x) { w with heap := w.heap.push X } := by
  have hnone : μ h.next = none := by
    cases hm : μ h.next with
    | none => rfl
    | some y => have := r.dom _ _ hm; omega
  have hle := Inj.le_add (μ := μ) (o := h.next) (w.heap.size, 0, size) hnone
  have old : ∀ b, b < w.heap.size → (w.heap.push X)[b]? = w.heap[b]? := fun b hb => by
    rw [Array.getElem?_push, if_neg (by omega)]
  have oldb : ∀ o b base sz y, μ o = some (b, base, sz) → h.get o = some y → y ≠ .dead → b < w.heap.size := by
    intro o b base sz y ho hy hd
    have := r.obj o b base sz y ho hy
    rcases Nat.lt_or_ge b w.heap.size with hb | hb
    · exact hb
    · exfalso
      have hn : w.heap[b]? = none := Array.getElem?_eq_none hb
      cases y with
      | cells l rw => obtain ⟨C, e, fz, h1, _⟩ := this; rw [hn] at h1; cases h1
      | map es => obtain ⟨_, _, ces, clock, h1, _⟩ := this; rw [hn] at h1; cases h1
      | dead => exact hd rfl
      | marked l => obtain ⟨C, e, fz, h1, _⟩ := this; rw [hn] at h1; cases h1
  refine ⟨hle, ?_⟩
  constructor
  · exact r.below.trans ⟨rfl, rfl, rfl, by simp, fun k hk => old k (by have := r.fresh; omega)⟩
  · have := r.fresh; simp; omega
  · intro o y hy
    unfold Inj.add at hy
    split at hy
    · simp [AH.next_new]; omega
    · have := r.dom _ _ hy; simp [AH.next_new]; omega
  · intro o b base sz y ho hy
    unfold Inj.add at ho
    rw [AH.get_new] at hy
    split at ho
    · rename_i e
      subst e
      rw [if_pos rfl] at hy
      cases ho; cases hy
      exact hx _ (by simp)
    · rename_i e
      rw [if_neg (Ne.symm e)] at hy
      by_cases hd : y = .dead
      · subst hd; trivial
      · exact ((r.obj o b base sz y ho hy).mono hle).of_block (old b (oldb o b base sz y ho hy hd))
  · intro o p x' y' ho hp hne ro rp
    unfold Inj.add at ho hp
    have old' : ∀ q, q ≠ h.next → (h.new x).solid q = true → ∃ y, h.get q = some y ∧ y.solid = true := by
      intro q hqn hr
      obtain ⟨y, hy, hs⟩ := solid_iff.1 hr
      rw [AH.get_new, if_neg (Ne.symm hqn)] at hy
      exact ⟨y, hy, hs⟩
    have lt : ∀ q z, μ q = some z → q ≠ h.next → (h.new x).solid q = true → z.1 < w.heap.size := by
      intro q z hq hqn hr
      obtain ⟨y, hy, hs⟩ := old' q hqn hr
      obtain ⟨z1, z2, z3⟩ := z
      exact oldb q z1 z2 z3 _ hq hy (solid_ne hs)
    split at ho
    · rename_i e
      subst e
      cases ho
      rw [if_neg (Ne.symm hne)] at hp
      have := lt p y' hp (Ne.symm hne) rp
      simp; omega
    · rename_i e
      split at hp
      · rename_i e'
        subst e'
        cases hp
        have := lt o x' ho e ro
        simp; omega
      · rename_i e'
        exact r.inj o p x' y' ho hp hne (solid_iff.2 (old' o e ro)) (solid_iff.2 (old' p e' rp))


/-- A new object that nothing in the model stands for yet. -/
theorem R.skip (r : R N w₀ μ h w) (x : AObj) : R N w₀ μ (h.new x) w := by
  have hn : ∀ o y, μ o = some y → o ≠ h.next := fun o y ho e => by have := r.dom o y ho; omega
  have hs : ∀ o y, μ o = some y → (h.new x).solid o = h.solid o := by
    intro o y ho
    unfold AH.solid
    rw [AH.get_new, if_neg (Ne.symm (hn o y ho))]
  refine ⟨r.below, r.fresh, ?_, ?_, ?_⟩
  · intro o y ho; have := r.dom o y ho; simp [AH.next_new]; omega
  · intro o b base size y ho hy
    rw [AH.get_new, if_neg (Ne.symm (hn o _ ho))] at hy
    exact r.obj o b base size y ho hy
  · intro o p y z ho hp hne so sp
    rw [hs o y ho] at so
    rw [hs p z hp] at sp
    exact r.inj o p y z ho hp hne so sp

/-- A block for an object that lies there already. -/
theorem R.late (r : R N w₀ μ h w) {p : Nat} {x : AObj} {X : Obj} {size : Nat} (hp : p < h.next) (hn : μ p = none) (hg : h.get p = some x)
    (hx : ∀ w' : World, w'.heap[w.heap.size]? = some X → ORel (Inj.add μ p (w.heap.size, 0, size)) N w' x w.heap.size 0 size) :
    R N w₀ (Inj.add μ p (w.heap.size, 0, size)) h { w with heap := w.heap.push X } := by
  have hle := Inj.le_add (μ := μ) (o := p) (w.heap.size, 0, size) hn
  have old : ∀ b, b < w.heap.size → (w.heap.push X)[b]? = w.heap[b]? := fun b hb => by
    rw [Array.getElem?_push, if_neg (by omega)]
  have oldb : ∀ o b base sz y, μ o = some (b, base, sz) → h.get o = some y → y ≠ .dead → b < w.heap.size := by
    intro o b base sz y ho hy hd
    have := r.obj o b base sz y ho hy
    rcases Nat.lt_or_ge b w.heap.size with hb | hb
    · exact hb
    · exfalso
      have hn : w.heap[b]? = none := Array.getElem?_eq_none hb
      cases y with
      | cells l rw => obtain ⟨C, e, fz, h1, _⟩ := this; rw [hn] at h1; cases h1
      | map es => obtain ⟨_, _, ces, clock, h1, _⟩ := this; rw [hn] at h1; cases h1
      | dead => exact hd rfl
      | marked l => obtain ⟨C, e, fz, h1, _⟩ := this; rw [hn] at h1; cases h1
  have lt : ∀ q z, μ q = some z → h.solid q = true → z.1 < w.heap.size := by
    intro q z hq hr
    obtain ⟨y, hy, hs⟩ := solid_iff.1 hr
    obtain ⟨z1, z2, z3⟩ := z
    exact oldb q z1 z2 z3 _ hq hy (solid_ne hs)
  constructor
  · exact r.below.trans ⟨rfl, rfl, rfl, by simp, fun k hk => old k (by have := r.fresh; omega)⟩
  · have := r.fresh; simp; omega
  · intro o y hy
    unfold Inj.add at hy
    split at hy
    · rename_i e; subst e; exact hp
    · exact r.dom _ _ hy
  · intro o b base sz y ho hy
    unfold Inj.add at ho
    split at ho
    · rename_i e
      subst e
      rw [hg] at hy
      cases ho; cases hy
      exact hx _ (by simp)
    · by_cases hd : y = .dead
      · subst hd; trivial
      · exact ((r.obj o b base sz y ho hy).mono hle).of_block (old b (oldb o b base sz y ho hy hd))
  · intro o q x' y' ho hq hne ro rq
    unfold Inj.add at ho hq
    split at ho
    · rename_i e
      cases ho
      rw [if_neg (fun e' => hne (e.trans e'.symm))] at hq
      have := lt q y' hq rq
      simp; omega
    · split at hq
      · cases hq
        have := lt o x' ho ro
        simp; omega
      · exact r.inj o q x' y' ho hq hne ro rq

end Go.Vm

/- slices.Sort, slices.Compact of a row of one kind: what stands in for a function that turns a row. -/
import Derived.Test.YtjbkjffolnodjaaVmZy
import Derived.Test.YtjbkjffolnodjaaVmZw
import Derived.Sort.Grow
import Derived.Sort.EncStr
namespace Go.Vm
open Go.RowKit
set_option linter.unusedSimpArgs false
set_option linter.unusedVariables false
/-- How elements stand in cells. -/
structure Enc (α : Type) where
  av : α → AV
  val : α → Value
  dec : AV → Option α
  dec_av : ∀ x a, dec x = some a → x = av a
  av_dec : ∀ a, dec (av a) = some a
  rel : ∀ (μ : Inj) a, VRel μ (av a) (val a)
  inv : ∀ (μ : Inj) a v, VRel μ (av a) v → v = val a
def decS : AV → Option (List UInt8)
  | .str s => some s
  | _ => none
def decI : AV → Option Int
  | .int .i64 n => some n
  | _ => none
def encS : Enc (List UInt8) where
  av := .str
  val := fun l => Value.string ⟨l.toArray⟩
  dec := decS
  dec_av := fun x a h => by cases x <;> simp [decS] at h; rw [h]
  av_dec := fun _ => rfl
  rel := fun μ a => VRel.str ⟨a.toArray⟩
  inv := fun μ a v h => by
    generalize he : AV.str a = x at h
    cases h <;> cases he
    rfl
def encZ : Enc Int where
  av := .int .i64
  val := .int .i64
  dec := decI
  dec_av := fun x a h => by
    cases x with
    | int k n => cases k <;> simp [decI] at h; rw [h]
    | _ => simp [decI] at h
  av_dec := fun _ => rfl
  rel := fun μ a => .int _ _
  inv := fun μ a v h => by
    generalize he : AV.int .i64 a = x at h
    cases h <;> cases he
    rfl
def rowOf {α : Type} (E : Enc α) (h : AH) (o off len : Nat) : Option (List AV × List α) := match h.get o with
  | some (.cells l true) => if off + len ≤ l.length ∧ len < 4611686018427387904 then (((l.drop off).take len).mapM E.dec).map (l, ·) else none
  | _ => none
/-- What a function does that turns a row. -/
def turnV {α : Type} (E : Enc α) (f : List α → List α) (ret : Nat → Nat → Nat → Bool → List α → AV) (nil : AV) (args : List AV) (h : AH) : Option (AV × AH) := match args with
  | [.nilSlice] => some (nil, h)
  | [.slice o off 1 len cap ex] => match rowOf E h o off len with
    | some (l, zs) => some (ret o off cap ex zs, h.set o (.cells (l.take off ++ (f zs).map E.av ++ l.drop (off + len)) true))
    | none => none
  | _ => none
section
variable {P : Program} {π : Pin} {N : Keep π} {w₀ w : World} {μ : Inj} {h : AH}
/-- New blocks behind the world. -/
theorem R.more (r : R N w₀ μ h w) (os : Array Obj) : R N w₀ μ h (Sort.grow w os) := by
  have old : ∀ b, b < w.heap.size → (Sort.grow w os).heap[b]? = w.heap[b]? := fun b hb => Sort.heap_grow_old w os hb
  refine ⟨r.below.trans ⟨rfl, rfl, rfl, by simp, fun k hk => old k (r.fresh k hk)⟩, r.fresh.grow (by simp), r.dom, ?_, r.inj, r.pin⟩
  intro o b base sz y ho hy
  by_cases hd : y = .dead
  · subst hd; trivial
  · have := r.obj o b base sz y ho hy
    refine this.of_block (old b ?_)
    rcases Nat.lt_or_ge b w.heap.size with hb | hb
    · exact hb
    · exfalso
      have hn : w.heap[b]? = none := Array.getElem?_eq_none hb
      cases y with
      | cells l rw => obtain ⟨C, e, fz, h1, _⟩ := this; rw [hn] at h1; cases h1
      | map es => obtain ⟨_, _, ces, clock, h1, _⟩ := this; rw [hn] at h1; cases h1
      | dead => exact hd rfl
      | marked l => obtain ⟨C, e, fz, h1, _⟩ := this; rw [hn] at h1; cases h1
end
section
variable {T : Prog} {h : AH}
end
section
variable {h : AH}
theorem beqs1 {a : AV} (h1 : AV.beq a a = true) : AV.beqs [a] [a] = true := by simp [AV.beqs, h1]
theorem fill1 {a z : AV} (h1 : AV.isDef a = true) (c1 : a.cells = [a]) : fillV [z] [(0, 1, a)] = some [a] := by
  simp [fillV, h1, c1, setMany]
theorem slcTo {s : List UInt8} {n : Nat} {k : IntKind} (hn : n ≤ s.length) : slcStrV (.str s) none (some (.int k (n : Int))) = some (.str (s.take n)) := by
  simp [slcStrV, bounds, boundM, boundH, boundL, natOf, Option.filter, hn]
theorem slcFrom {s : List UInt8} {n : Nat} {k : IntKind} (hn : n ≤ s.length) : slcStrV (.str s) (some (.int k (n : Int))) none = some (.str (s.drop n)) := by
  simp [slcStrV, bounds, boundM, boundH, boundL, natOf, Option.filter, hn]
  rw [List.take_of_length_le (by simp)]
def toBytesV (h : AH) : AV → Option (AV × AH)
  | .str s => if s.length ≤ 9223372036854775807 then some (.slice h.next 0 1 s.length s.length false, h.new (.marked (bytesOf s))) else none
  | _ => none
theorem strOf_bytes : ∀ (s : List UInt8), strOf (bytesOf s) = some s
  | [] => rfl
  | c :: s => by
    simp only [bytesOf, List.map_cons, strOf]
    have := strOf_bytes s
    simp only [bytesOf] at this
    rw [this]
    simp
end
end Go.Vm

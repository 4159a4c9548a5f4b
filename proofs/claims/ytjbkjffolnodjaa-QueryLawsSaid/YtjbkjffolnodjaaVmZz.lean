/- slices.Sort, slices.Compact of a row of one kind: what stands in for a function that turns a row. -/
import Derived.Test.YtjbkjffolnodjaaVmZy
import Derived.Test.YtjbkjffolnodjaaVmZw
import Derived.Sort.Grow
import Derived.Sort.EncStr
namespace Go.Vm
open Go.RowKit
set_option linter.unusedSimpArgs false
set_option linter.unusedVariables false
/-- How elements stand in cells. -/
structure Enc (α : Type) where
  av : α → AV
  val : α → Value
  dec : AV → Option α
  dec_av : ∀ x a, dec x = some a → x = av a
  av_dec : ∀ a, dec (av a) = some a
  rel : ∀ (μ : Inj) a, VRel μ (av a) (val a)
  inv : ∀ (μ : Inj) a v, VRel μ (av a) v → v = val a
def decS : AV → Option (List UInt8)
  | .str s => some s
  | _ => none
def decI : AV → Option Int
  | .int .i64 n => some n
  | _ => none
def encS : Enc (List UInt8) where
  av := .str
  val := fun l => Value.string ⟨l.toArray⟩
  dec := decS
  dec_av := fun x a h => by cases x <;> simp [decS] at h; rw [h]
  av_dec := fun _ => rfl
  rel := fun μ a => VRel.str ⟨a.toArray⟩
  inv := fun μ a v h => by
    generalize he : AV.str a = x at h
    cases h <;> cases he
    rfl
def encZ : Enc Int where
  av := .int .i64
  val := .int .i64
  dec := decI
  dec_av := fun x a h => by
    cases x with
    | int k n => cases k <;> simp [decI] at h; rw [h]
    | _ => simp [decI] at h
  av_dec := fun _ => rfl
  rel := fun μ a => .int _ _
  inv := fun μ a v h => by
    generalize he : AV.int .i64 a = x at h
    cases h <;> cases he
    rfl
def rowOf {α : Type} (E : Enc α) (h : AH) (o off len : Nat) : Option (List AV × List α) := match h.get o with
  | some (.cells l true) => if off + len ≤ l.length ∧ len < 4611686018427387904 then (((l.drop off).take len).mapM E.dec).map (l, ·) else none
  | _ => none
/-- What a function does that turns a row. -/
def turnV {α : Type} (E : Enc α) (f : List α → List α) (ret : Nat → Nat → Nat → Bool → List α → AV) (nil : AV) (args : List AV) (h : AH) : Option (AV × AH) := match args with
  | [.nilSlice] => some (nil, h)
  | [.slice o off 1 len cap ex] => if cap = 0 ∧ ex = true then none else match rowOf E h o off len with
    | some (l, zs) => some (ret o off cap ex zs, h.set o (.cells (l.take off ++ (f zs).map E.av ++ l.drop (off + len)) true))
    | none => none
  | _ => none
theorem mapM_dec {α : Type} (E : Enc α) : ∀ {l : List AV} {zs : List α}, l.mapM E.dec = some zs → l = zs.map E.av
  | [], zs, h => by cases h; rfl
  | x :: l, zs, h => by
    rw [List.mapM_cons] at h
    cases hx : E.dec x with
    | none => simp [hx] at h
    | some a =>
      cases hl : l.mapM E.dec with
      | none => simp [hx, hl] at h
      | some r =>
        simp [hx, hl] at h
        subst h
        rw [E.dec_av x a hx, mapM_dec E hl]; rfl
theorem mapM_av {α : Type} (E : Enc α) : ∀ (zs : List α), (zs.map E.av).mapM E.dec = some zs
  | [] => rfl
  | a :: zs => by rw [List.map_cons, List.mapM_cons, E.av_dec, mapM_av E zs]; rfl
theorem rowOf_inv {α : Type} {E : Enc α} {h : AH} {o off len : Nat} {l : List AV} {zs : List α} (hr : rowOf E h o off len = some (l, zs)) : h.get o = some (.cells l true) ∧ off + len ≤ l.length ∧ len < 4611686018427387904 ∧ (l.drop off).take len = zs.map E.av := by
  unfold rowOf at hr
  split at hr
  · rename_i l' hg
    split at hr
    · rename_i hc
      cases hm : ((l'.drop off).take len).mapM E.dec with
      | none => simp [hm] at hr
      | some z =>
        simp [hm] at hr
        obtain ⟨rfl, rfl⟩ := hr
        exact ⟨hg, hc.1, hc.2, mapM_dec E hm⟩
    · cases hr
  · cases hr
section
variable {P : Program} {π : Pin} {N : Keep π} {w₀ w : World} {μ : Inj} {h : AH}
/-- New blocks behind the world. -/
theorem R.more (r : R N w₀ μ h w) (os : Array Obj) : R N w₀ μ h (Sort.grow w os) := by
  have old : ∀ b, b < w.heap.size → (Sort.grow w os).heap[b]? = w.heap[b]? := fun b hb => Sort.heap_grow_old w os hb
  refine ⟨r.below.trans ⟨rfl, rfl, rfl, by simp, fun k hk => old k (r.fresh k hk)⟩, r.fresh.grow (by simp), r.dom, ?_, r.inj, r.pin⟩
  intro o b base sz y ho hy
  by_cases hd : y = .dead
  · subst hd; trivial
  · have := r.obj o b base sz y ho hy
    refine this.of_block (old b ?_)
    rcases Nat.lt_or_ge b w.heap.size with hb | hb
    · exact hb
    · exfalso
      have hn : w.heap[b]? = none := Array.getElem?_eq_none hb
      cases y with
      | cells l rw => obtain ⟨C, e, fz, h1, _⟩ := this; rw [hn] at h1; cases h1
      | map es => obtain ⟨_, _, ces, clock, h1, _⟩ := this; rw [hn] at h1; cases h1
      | dead => exact hd rfl
      | marked l => obtain ⟨C, e, fz, h1, _⟩ := this; rw [hn] at h1; cases h1
theorem putRow_setRow {α : Type} [Inhabited α] (enc : α → Value) {b off : Nat} (d : Array α) {C : Array Value} {e : TypeId} {fz : Nat × Nat} (hb : w.heap[b]? = some (.cells C e fz)) : Sort.putRow enc w b off d = w.setRow b (Sort.putCells enc off d C) := by
  have hh : (Sort.putRow enc w b off d).heap = (w.setRow b (Sort.putCells enc off d C)).heap := by
    apply Array.ext_getElem?
    intro k
    by_cases hk : k = b
    · subst hk
      rw [setRow_heap w k C _ e fz hb]
      simp only [Sort.putRow, Sort.mapBlock, Array.getElem?_modify, if_true, hb, Option.map_some, Sort.onCells]
    · rw [setRow_other w b k _ hk]
      simp only [Sort.putRow, Sort.mapBlock, Array.getElem?_modify, if_neg (Ne.symm hk)]
  have e1 : Sort.putRow enc w b off d = { w with heap := (Sort.putRow enc w b off d).heap } := rfl
  have e2 : w.setRow b (Sort.putCells enc off d C) = { w with heap := (w.setRow b (Sort.putCells enc off d C)).heap } := rfl
  rw [e1, e2, hh]
theorem turnV_ok {α : Type} [Inhabited α] {E : Enc α} {f : List α → List α} {ret : Nat → Nat → Nat → Bool → List α → AV} {nil : AV} {g : Nat} {retV : Nat → Nat → Nat → List α → Value} {nilV : Value}
    (hcall : CallOk P g) (hN : ∀ w, Calls P g #[.slice none 0 0] w fun e w' => e = .returned nilV ∧ w' = w) (hnil : ∀ (μ : Inj), VRel μ nil nilV) (hlen : ∀ zs, (f zs).length = zs.length)
    (hC : ∀ blk off cap zs w, Sort.Holds E.val w blk off zs.toArray → blk < w.heap.size → zs.length < 4611686018427387904 → zs.length ≤ cap →
      Calls P g #[.slice (some ⟨blk, off, none⟩) zs.length cap] w fun e w' => e = .returned (retV blk off cap zs) ∧ ∃ n os, w' = Sort.grow (Sort.putRow E.val (Sort.ahead w n) blk off (f zs).toArray) os)
    (hret : ∀ (μ : Inj) o off cap ex b boff cap' zs, VRel μ (.slice o off 1 zs.length cap ex) (.slice (some ⟨b, boff, none⟩) zs.length cap') → VRel μ (ret o off cap ex zs) (retV b boff cap' zs)) :
    ∀ args h r h', turnV E f ret nil args h = some (r, h') → CSim P g args h r h' := by
  intro args h r h' hr
  unfold turnV at hr
  split at hr
  case h_3 => cases hr
  case h_1 =>
    cases hr
    refine .inl ⟨hcall, ?_⟩
    intro π N w₀ μ w vargs hR hv
    obtain ⟨v1, rfl⟩ : ∃ v1, vargs = #[v1] := by
      obtain ⟨l⟩ := vargs
      have h2 := hv.1
      match l, h2 with
      | [v1], _ => exact ⟨v1, rfl⟩
    have hv1 : VRel μ .nilSlice v1 := hv.head
    generalize hx : AV.nilSlice = x at hv1
    cases hv1 <;> cases hx
    refine (hN w).mono ?_
    rintro e w' ⟨rfl, rfl⟩
    exact ⟨μ, _, rfl, .refl (Nat.le_refl _), hR, hnil μ⟩
  rename_i o off len cap ex
  by_cases hce : cap = 0 ∧ ex = true
  · rw [if_pos hce] at hr; cases hr
  rw [if_neg hce] at hr
  split at hr
  case h_2 => cases hr
  rename_i l zs hrow
  cases hr
  obtain ⟨hg, hll, hbig, hseg⟩ := rowOf_inv hrow
  have hzl : zs.length = len := by
    have := congrArg List.length hseg
    simp at this; omega
  subst hzl
  refine .inl ⟨hcall, ?_⟩
  intro π N w₀ μ w vargs hR hv
  obtain ⟨v1, rfl⟩ : ∃ v1, vargs = #[v1] := by
    obtain ⟨l⟩ := vargs
    have h2 := hv.1
    match l, h2 with
    | [v1], _ => exact ⟨v1, rfl⟩
  have hv1 : VRel μ (.slice o off 1 zs.length cap ex) v1 := hv.head
  obtain ⟨b, base, size, boff, cap', hm, rfl, hlc, hcc, hbs, hba⟩ := hv1.slice_inv.resolve_right (fun hh => hce ⟨hh.2.1, hh.2.2.1⟩)
  have hobj := hR.obj o b base size _ hm hg
  obtain ⟨C, te, fz, hb, hCs, hl3, hrel, h5⟩ := hobj
  simp only [if_true] at h5
  have hblk : b < w.heap.size := (Array.getElem?_eq_some_iff.1 hb).1
  have hnf : ∀ j, w.frozen? ⟨b, j, none⟩ = false := fun j => by
    simp only [World.frozen?, hb]
    have := h5.2
    obtain ⟨lo, hi⟩ := fz
    simp at this
    subst this
    simp
  have hat : ∀ j, j < zs.length → boff = base + off ∧ ∃ a, zs[j]? = some a ∧ C[boff + j]? = some (E.val a) := by
    intro j hj
    have hbo : boff = base + off := by
      rcases hba with h6 | h6
      · exact h6
      · omega
    refine ⟨hbo, zs[j], List.getElem?_eq_getElem hj, ?_⟩
    have h7 : l[off + j]? = some (E.av zs[j]) := by
      have h8 : ((l.drop off).take zs.length)[j]? = (zs.map E.av)[j]? := by rw [hseg]
      rw [List.getElem?_take, if_pos hj, List.getElem?_drop, List.getElem?_map, List.getElem?_eq_getElem hj] at h8
      exact h8
    have h9 : base + (off + j) < C.size := by
      have : off + j < l.length := by omega
      omega
    have h10 : C[base + (off + j)]? = some C[base + (off + j)] := Array.getElem?_eq_getElem h9
    have := E.inv μ _ _ (hrel _ _ _ h7 h10)
    rw [hbo, show base + off + j = base + (off + j) by omega, h10, this]
  have hH : Sort.Holds E.val w b boff zs.toArray := by
    intro j hj
    have hj' : j < zs.length := by simpa using hj
    obtain ⟨_, a, ha, hc⟩ := hat j hj'
    refine ⟨?_, hnf _⟩
    rw [cell_row hb, hc]
    congr 2
    have : zs.toArray[j]! = zs[j] := by
      rw [getElem!_pos _ j hj]; simp
    rw [this]
    rw [List.getElem?_eq_getElem hj'] at ha
    exact (Option.some.inj ha).symm
  refine (hC b boff cap' zs w hH hblk hbig hlc).mono ?_
  rintro e w' ⟨rfl, n, os, rfl⟩
  refine ⟨μ, _, rfl, .refl (Nat.le_refl _), ?_, hret μ o off cap ex b boff cap' zs hv1⟩
  refine R.more ?_ os
  have hRa : R N w₀ μ h (Sort.ahead w n) := hR.drawn _
  have hba' : (Sort.ahead w n).heap[b]? = some (.cells C te fz) := hb
  rw [putRow_setRow (w := Sort.ahead w n) E.val (f zs).toArray hba']
  refine hRa.setRow hm hg hba' (by simp [Sort.putCells, hCs]) ?_ ?_
  · have := hlen zs
    simp; omega
  · intro i u v hu hv'
    have hfl := hlen zs
    simp only [Sort.putCells, Array.getElem?_mapIdx] at hv'
    rw [List.append_assoc, List.getElem?_append] at hu
    simp only [List.length_take] at hu
    rw [show min off l.length = off by omega] at hu
    by_cases h1 : i < off
    · rw [if_pos h1, List.getElem?_take, if_pos h1] at hu
      cases hcc' : C[base + i]? with
      | none => simp [hcc'] at hv'
      | some c =>
        simp only [hcc', Option.map_some, Option.some.injEq] at hv'
        have hno : ¬ (boff ≤ base + i ∧ base + i < boff + (f zs).toArray.size) := by
          rintro ⟨h6, h7⟩
          simp only [List.size_toArray, hfl] at h7
          rcases hba with h8 | h8
          · omega
          · omega
        rw [if_neg hno] at hv'
        subst hv'
        exact hrel i u c hu hcc'
    · rw [if_neg h1, List.getElem?_append] at hu
      simp only [List.length_map, hfl] at hu
      by_cases h2 : i - off < zs.length
      · rw [if_pos h2, List.getElem?_map] at hu
        obtain ⟨hbo, _⟩ := hat (i - off) h2
        have h3 : (f zs)[i - off]? = some (f zs)[i - off] := List.getElem?_eq_getElem (by omega)
        rw [h3] at hu
        cases hu
        cases hcc' : C[base + i]? with
        | none => simp [hcc'] at hv'
        | some c =>
          simp only [hcc', Option.map_some, Option.some.injEq] at hv'
          rw [if_pos (by simp only [List.size_toArray, hfl]; omega)] at hv'
          subst hv'
          have : (f zs).toArray[base + i - boff]! = (f zs)[i - off] := by
            rw [getElem!_pos _ _ (by simp only [List.size_toArray, hfl]; omega)]
            simp only [List.getElem_toArray]
            congr 1
            omega
          rw [this]
          exact E.rel μ _
      · rw [if_neg h2, List.getElem?_drop] at hu
        have hi : off + zs.length + (i - off - zs.length) = i := by omega
        rw [hi] at hu
        cases hcc' : C[base + i]? with
        | none => simp [hcc'] at hv'
        | some c =>
          simp only [hcc', Option.map_some, Option.some.injEq] at hv'
          have hno : ¬ (boff ≤ base + i ∧ base + i < boff + (f zs).toArray.size) := by
            rintro ⟨h6, h7⟩
            simp only [List.size_toArray, hfl] at h7
            rcases hba with h8 | h8
            · omega
            · omega
          rw [if_neg hno] at hv'
          subst hv'
          exact hrel i u c hu hcc'
end
section
variable {T : Prog} {h : AH}
theorem turn_gives {α : Type} {E : Enc α} {f : List α → List α} {ret : Nat → Nat → Nat → Bool → List α → AV} {nil : AV} {g : Nat} (he : T.env g = some (turnV E f ret nil)) {v : AV} {zs : List α} (row : Row1 h v (zs.map E.av)) (hs : zs.length < 1000000) (hx : ∀ o, v ≠ .slice o 0 1 0 0 true) :
    Gives T g [v] h fun r h' => (v = .nilSlice ∧ zs = [] ∧ r = nil ∧ h' = h) ∨ ∃ o cap ex l, v = .slice o 0 1 zs.length cap ex ∧ h.get o = some (.cells l true) ∧ l.length = cap ∧ zs.length ≤ cap ∧ r = ret o 0 cap ex zs ∧ h' = h.set o (.cells ((f zs).map E.av ++ l.drop zs.length) true) := by
  rcases row with ⟨rfl, e⟩ | ⟨o, cap, ex, l, rfl, hg, h1, h2, h3⟩
  · have hz : zs = [] := by simpa using e
    exact ⟨nil, h, by rw [run_env he]; rfl, .inl ⟨rfl, hz, rfl, rfl⟩⟩
  · have h3' := Row1.get h3
    simp only [List.length_map, Nat.mul_one] at h1 h2
    have hseg := Row1.seg (xs := zs.map E.av) (by simpa using (by omega : zs.length ≤ l.length)) h3'
    simp only [List.length_map] at hseg
    have hro : rowOf E h o 0 zs.length = some (l, zs) := by
      unfold rowOf
      rw [hg]
      simp only
      rw [if_pos ⟨by omega, by omega⟩, hseg, mapM_av]
      rfl
    refine ⟨ret o 0 cap ex zs, h.set o (.cells ((f zs).map E.av ++ l.drop zs.length) true), ?_, .inr ⟨o, cap, ex, l, by simp, hg, h1, h2, rfl, rfl⟩⟩
    rw [run_env he]
    have hce : ¬ (cap = 0 ∧ ex = true) := by
      rintro ⟨rfl, rfl⟩
      have : zs.length = 0 := by omega
      exact hx o (by simp [this])
    simp only [turnV, List.length_map, if_neg hce, hro, List.take_zero, List.nil_append, Nat.zero_add]
/-- A function that writes a row anew. -/
theorem turn_row {α : Type} {E : Enc α} {f : List α → List α} {ret : Nat → Nat → Nat → Bool → List α → AV} {nil : AV} {g : Nat} (he : T.env g = some (turnV E f ret nil)) (hf : ∀ zs, (f zs).length = zs.length) (hl : Low h) {v : AV} {zs : List α} (row : Row1 h v (zs.map E.av)) (hs : zs.length < 1000000) (hx : ∀ o, v ≠ .slice o 0 1 0 0 true) :
    Gives T g [v] h fun r h' => ((v = .nilSlice ∧ zs = [] ∧ r = nil) ∨ ∃ o cap ex, v = .slice o 0 1 zs.length cap ex ∧ r = ret o 0 cap ex zs ∧ ∃ l, h'.get o = some (.cells l true) ∧ l.length = cap ∧ zs.length ≤ cap ∧ (∀ (i : Nat) (x : AV), ((f zs).map E.av)[i]? = some x → l[i]? = some x))
      ∧ Row1 h' v ((f zs).map E.av) ∧ Mods h h' (fun o => o ∈ objs v) ∧ Low h' ∧ h'.next = h.next := by
  refine (turn_gives he row hs hx).mono ?_
  rintro r h' (⟨rfl, rfl, rfl, rfl⟩ | ⟨o, cap, ex, l, rfl, hg, h1, h2, rfl, rfl⟩)
  · have : f [] = [] := List.length_eq_zero_iff.1 (hf [])
    exact ⟨.inl ⟨rfl, rfl, rfl⟩, by rw [this]; exact row, Mods.refl _ _, hl, rfl⟩
  · have hl2 : ((f zs).map E.av ++ l.drop zs.length).length = cap := by simp [hf]; omega
    have hat : ∀ (i : Nat) (x : AV), ((f zs).map E.av)[i]? = some x → ((f zs).map E.av ++ l.drop zs.length)[i]? = some x := fun i x hx => by
      rw [List.getElem?_append_left (List.getElem?_eq_some_iff.1 hx).1]; exact hx
    refine ⟨.inr ⟨o, cap, ex, rfl, rfl, _, get_set_same, hl2, h2, hat⟩, row1_of get_set_same hl2 (by simp [hf]) (by simp [hf, h2]) hat, ?_, hl.set (hl _ _ hg) _, rfl⟩
    exact (Mods.refl h _).set (.inl (by simp [objs])) _
end
section
variable {h : AH}
theorem fill1 {a z : AV} (h1 : AV.isDef a = true) (c1 : a.cells = [a]) : fillV [z] [(0, 1, a)] = some [a] := by
  simp [fillV, h1, c1, setMany]
theorem slcFrom {s : List UInt8} {n : Nat} {k : IntKind} (hn : n ≤ s.length) : slcStrV (.str s) (some (.int k (n : Int))) none = some (.str (s.drop n)) := by
  simp [slcStrV, bounds, boundM, boundH, boundL, natOf, Option.filter, hn]
  rw [List.take_of_length_le (by simp)]
theorem box_one {v : AV} (hd : AV.isDef v = true) (hc : v.cells = [v]) : boxV h v = some (.ptr h.next 0, h.new (.cells [v] true)) := by simp [boxV, hd, hc]
def toBytesV (h : AH) : AV → Option (AV × AH)
  | .str s => if s.length ≤ 9223372036854775807 then some (.slice h.next 0 1 s.length s.length false, h.new (.marked (bytesOf s))) else none
  | _ => none
theorem strOf_bytes : ∀ (s : List UInt8), strOf (bytesOf s) = some s
  | [] => rfl
  | c :: s => by
    simp only [bytesOf, List.map_cons, strOf]
    have := strOf_bytes s
    simp only [bytesOf] at this
    rw [this]
    simp
end
end Go.Vm

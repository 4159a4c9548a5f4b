/- Rows of integers that came in as arguments. -/
import Derived.Test.YtpabmkicdcilpaaVmZ
import Derived.WideShapes
import Derived.DataReads
namespace Go.Vm
open Go.RowKit
set_option linter.unusedSimpArgs false
set_option linter.unusedVariables false
theorem rowAt_le {p : Program} {fits : TypeId → Bool} : ∀ {d : Nat} {e : TypeId} {count off n : Nat}, rowAt p fits d e count off n = true → off ≤ count * p.cellsOf e
  | 0, e, count, off, n, h => by cases h
  | d + 1, e, count, off, n, h => by
    simp only [rowAt] at h
    by_cases hs : p.cellsOf e = 0
    · rw [if_pos hs] at h; cases h
    · rw [if_neg hs] at h
      have hpos : 0 < p.cellsOf e := Nat.pos_of_ne_zero hs
      have hdm := Nat.div_add_mod off (p.cellsOf e)
      have hlt := Nat.mod_lt off hpos
      generalize off / p.cellsOf e = i at *
      generalize off % p.cellsOf e = r at *
      rw [Bool.or_eq_true] at h
      rcases h with h | h
      · simp only [Bool.and_eq_true, beq_iff_eq, decide_eq_true_eq] at h
        obtain ⟨⟨h1, h2⟩, _⟩ := h
        have : p.cellsOf e * i ≤ p.cellsOf e * count := Nat.mul_le_mul_left _ (by omega)
        rw [Nat.mul_comm count]; omega
      · simp only [Bool.and_eq_true, decide_eq_true_eq] at h
        have : p.cellsOf e * (i + 1) ≤ p.cellsOf e * count := Nat.mul_le_mul_left _ (by omega)
        rw [Nat.mul_add] at this
        rw [Nat.mul_comm count]; omega
theorem liesAt_le {p : Program} : ∀ {d : Nat} {e u : TypeId} {count off n : Nat}, liesAt p d e count off u n = true → off ≤ count * p.cellsOf e
  | 0, _, _, _, _, _, h => by cases h
  | d + 1, e, u, count, off, n, h => by
    simp only [liesAt, Bool.or_eq_true] at h
    rcases h with h | h
    · exact rowAt_le h
    · split at h
      · exact liesAt_le h
      · cases h
/-- Where a slice that came in lies. -/
theorem okWide_at {P : Program} {w : World} {r : Reach} {base : Nat} {t e : TypeId} {x : Addr} {len cap : Nat} (ht : P.underlying t = some (.slice e)) (h : Value.okWide P w r base t (.slice (some x) len cap)) :
    x.spot = none ∧ ∃ C te fz, w.heap[x.block]? = some (.cells C te fz) ∧ x.off ≤ C.size := by
  simp only [Value.okWide, ht, Cell.okWide, Cell.ok, World.has] at h
  obtain ⟨_, _, _, hs, row, cells, hsh, hl⟩ := h
  refine ⟨hs, ?_⟩
  unfold World.shape? at hsh
  split at hsh
  · rename_i c te fz hb
    cases hsh
    refine ⟨_, _, _, hb, Nat.le_trans (liesAt_le hl) (Nat.div_mul_le_self _ _)⟩
  · cases hsh
/-- A row of integers that came in. -/
def RowIn (k : IntKind) (w : World) (a : Option Addr) (len cap : Nat) (zs : List Int) : Prop :=
  (a = none ∧ len = 0 ∧ cap = 0 ∧ zs = []) ∨
  ∃ x C t fz, a = some x ∧ x.spot = none ∧ len ≤ cap ∧ zs.length = cap ∧ w.heap[x.block]? = some (.cells C t fz) ∧ x.off + cap ≤ C.size ∧ (∀ i, i < cap → C[x.off + i]? = some (.int k (zs.getD i 0))) ∧ ∀ n ∈ zs, (Lit.int k n).wf = true
theorem RowIn.of {P : Program} {w : World} {r : Reach} {base : Nat} {t e : TypeId} {k : IntKind} {a : Option Addr} {len cap : Nat} {zs : List Int} (ht : P.underlying t = some (.slice e)) (h : Value.okWide P w r base t (.slice a len cap))
    (hr : (a = none ∧ len = 0 ∧ cap = 0 ∧ zs = []) ∨ ∃ x, a = some x ∧ len ≤ cap ∧ cap ≤ maxLen ∧ zs.length = cap ∧ (∀ i, i < zs.length → w.cell? (x.add i) = some (.int k (zs.getD i 0))) ∧ ∀ n ∈ zs, (Lit.int k n).wf = true) : RowIn k w a len cap zs := by
  rcases hr with hr | ⟨x, rfl, h1, h2, h3, h4, h5⟩
  · exact .inl hr
  · obtain ⟨hs, C, te, fz, hb, ho⟩ := okWide_at ht h
    have hc : ∀ i, i < cap → C[x.off + i]? = some (.int k (zs.getD i 0)) := by
      intro i hi
      have := h4 i (by omega)
      have e1 : (x.add i).block = x.block := by unfold Addr.add; split <;> rfl
      have e2 : (x.add i).off = x.off + i := by
        unfold Addr.add; split
        · rename_i e; subst e; rfl
        · rfl
      have e3 : (x.add i).spot = none := by unfold Addr.add; split <;> first | exact hs | rfl
      unfold World.cell? at this
      rw [e1, hb] at this
      simp only [e2, e3, Option.isSome_none, Bool.false_eq_true, if_false] at this
      exact this
    refine .inr ⟨x, C, te, fz, rfl, hs, h1, h3, hb, ?_, hc, h5⟩
    cases hcap : cap with
    | zero => simpa using ho
    | succ n =>
      have := hc n (by omega)
      have := (Array.getElem?_eq_some_iff.1 this).1
      omega
variable {N : Nat} {w₀ w : World} {μ : Inj} {h : AH}
/-- What stands for it. -/
def cameV (h : AH) (a : Option Addr) (len cap : Nat) : AV := if a.isSome then .slice h.next 0 1 len cap true else .nilSlice
def cameH (h : AH) (k : IntKind) (a : Option Addr) (zs : List Int) : AH := if a.isSome then h.new (.cells (zs.map (.int k)) false) else h
theorem R.came (r : R N w₀ μ h w) (hN : w.heap.size ≤ N) {k : IntKind} {a : Option Addr} {len cap : Nat} {zs : List Int} (hr : RowIn k w a len cap zs) :
    ∃ μ', Inj.le μ μ' ∧ R N w₀ μ' (cameH h k a zs) w ∧ VRel μ' (cameV h a len cap) (.slice a len cap) := by
  rcases hr with ⟨rfl, rfl, rfl, rfl⟩ | ⟨x, C, t, fz, rfl, hs, h1, h2, hb, h3, h4, h5⟩
  · exact ⟨μ, fun _ _ h => h, r, .nilSlice⟩
  · have hlt : x.block < w.heap.size := (Array.getElem?_eq_some_iff.1 hb).1
    obtain ⟨hle, hR⟩ := r.row (l := zs.map (.int k)) (base := x.off) hb rfl (by simpa [h2] using h3) (by omega) (by
      intro i u v hu hv
      simp only [List.getElem?_map, Option.map_eq_some_iff] at hu
      obtain ⟨n, hn, rfl⟩ := hu
      have hi : i < cap := by
        have := (List.getElem?_eq_some_iff.1 hn).1
        omega
      rw [h4 i hi] at hv
      cases hv
      rw [List.getD_eq_getElem?_getD, hn]
      exact .int _ _)
    refine ⟨_, hle, hR, ?_⟩
    obtain ⟨xb, xo, xs⟩ := x
    simp only at hs
    subst hs
    exact .slice (μ := Inj.add μ h.next (xb, xo, C.size)) (base := xo) (size := C.size) (by simp [Inj.add]) h1 rfl (by simpa using h3) (.inl rfl)
/-- An array of integers that came in. -/
theorem okWide_ints {P : Program} {w : World} {r : Reach} {base : Nat} {t e : TypeId} {n : Nat} {k : IntKind} {v : Value} (ht : P.underlying t = some (.array n e)) (he : P.underlying e = some (.int k)) (hts : P.cellTypes P.depth t = some (List.replicate n e)) (hsz : P.cellsOf t = n) (hn : 0 < n)
    (h : Value.okWide P w r base t v) : ∃ l : List Int, v = .agg (l.map (Value.int k)).toArray ∧ l.length = n := by
  simp only [Value.okWide, ht] at h
  obtain ⟨cs, rfl, hc, ts, h1, _, h3⟩ := h
  rw [hts] at h1
  cases h1
  have each : ∀ (i : Nat) (v : Value), cs[i]? = some v → ∃ x, v = .int k x := by
    intro i v hv
    obtain ⟨u, hu, hk⟩ := h3 i v hv
    have hu' : u = e := by
      rw [List.length_replicate, List.getElem?_replicate, if_pos (Nat.mod_lt _ hn)] at hu
      exact (Option.some.inj hu).symm
    subst hu'
    simp only [Cell.okWide, he] at hk
    cases v <;> simp_all [Cell.ok]
  have hall : ∃ l : List Int, cs.toList = l.map (Value.int k) := by
    have : ∀ (m : List Value), (∀ v ∈ m, ∃ x, v = Value.int k x) → ∃ l : List Int, m = l.map (Value.int k) := by
      intro m
      induction m with
      | nil => intro _; exact ⟨[], rfl⟩
      | cons a m ih =>
        intro hm
        obtain ⟨x, hx⟩ := hm a (by simp)
        obtain ⟨l, hl⟩ := ih fun v hv => hm v (by simp [hv])
        exact ⟨x :: l, by rw [hx, hl]; rfl⟩
    refine this _ fun v hv => ?_
    obtain ⟨i, hi⟩ := List.getElem?_of_mem hv
    exact each i v (by simpa using hi)
  obtain ⟨l, hl⟩ := hall
  refine ⟨l, ?_, ?_⟩
  · rw [← hl]
  · have : cs.toList.length = n := by rw [Array.length_toList, hc, hsz]
    rw [hl] at this; simpa using this
theorem VRel.ints {μ : Inj} {k : IntKind} (l : List Int) : VRel μ (.agg (l.map (AV.int k))) (.agg (l.map (Value.int k)).toArray) := by
  refine VRel.agg_iff.2 ⟨_, rfl, ?_⟩
  refine ⟨by simp, fun i u v hu hv => ?_⟩
  simp only [List.getElem?_map, Option.map_eq_some_iff] at hu hv
  obtain ⟨x, hx, rfl⟩ := hu
  obtain ⟨y, hy, rfl⟩ := hv
  rw [hx] at hy; cases hy
  exact .int _ _
end Go.Vm

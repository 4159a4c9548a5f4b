/- The closed sentence of chapter 2, and the table that the laws stand on. -/
import Derived.Test.YtcnghmfmokmnpaaP2O
import Derived.Test.YtcnghmfmokmnpaaVmZb
namespace Go.Proofs.Ytcnghmfmokmnpaa
open Go.Vm
set_option maxRecDepth 100000
theorem ran : Vm.saysTrue (Vm.arunT table 1000 3 [] Vm.AH.empty) = true := by kernel_rfl
theorem tab_ok : TabOk Try.prog (withYes table 3) := ran_yes table_ok ran
theorem low_empty : Low AH.empty := fun o x h => by cases h
theorem low_came {h : AH} (k : Low h) {i : IntKind} {a : Option Addr} {zs : List Int} : Low (cameH h i a zs) := by
  unfold cameH; split
  · exact k.new _
  · exact k
theorem wf_i64 {n : Int} (h : (Lit.int .i64 n).wf = true) : -9223372036854775808 ≤ n ∧ n ≤ 9223372036854775807 := by
  simp [Lit.wf, IntKind.min, IntKind.max, IntKind.signed, IntKind.bits] at h
  omega
theorem wf_u64 {n : Int} (h : (Lit.int .u64 n).wf = true) : 0 ≤ n ∧ n ≤ 18446744073709551615 := by
  simp [Lit.wf, IntKind.min, IntKind.max, IntKind.signed, IntKind.bits] at h
  omega
/-- The words that came in. -/
def came (len : Nat) (zs : List Int) : List Nat := (zs.take len).map Int.toNat
theorem came_in {w : World} {a : Option Addr} {len cap : Nat} {zs : List Int} (hr : RowIn .u64 w a len cap zs) : CameIn (cameH AH.empty .u64 a zs) (cameV AH.empty a len cap) (came len zs) ∧ ∀ x ∈ came len zs, x < 18446744073709551616 := by
  rcases hr with ⟨rfl, rfl, rfl, rfl⟩ | ⟨x, C, t, fz, rfl, hs, h1, h2, hb, h3, h4, h5⟩
  · exact ⟨⟨.inl ⟨rfl, rfl⟩, fun n h => absurd h (by simp [came])⟩, fun x hx => by simp [came] at hx⟩
  · have hlen : (came len zs).length = len := by simp [came]; omega
    have hget : ∀ (i n : Nat), (came len zs)[i]? = some n → zs[i]? = some (n : Int) := by
      intro i n hi
      simp only [came, List.getElem?_map, Option.map_eq_some_iff] at hi
      obtain ⟨m, hm, rfl⟩ := hi
      rw [List.getElem?_take] at hm
      split at hm
      · have := wf_u64 (h5 m (List.mem_of_getElem? hm))
        rw [hm]; congr 1; omega
      · cases hm
    have sees : ∀ n, n ≤ len → Sees (cameH AH.empty .u64 (some x) zs) (.slice 0 0 1 n cap true) (cells ((came len zs).take n)) := by
      intro n hn
      refine .inr ⟨0, 0, cap, true, zs.map (.int .u64), false, ?_, rfl, ?_, ?_⟩
      · rw [cells_len, List.length_take, hlen, Nat.min_eq_left hn]
      · rw [cells_len, List.length_take, hlen]; simp; omega
      · intro i v hv
        simp only [cells, List.getElem?_map, Option.map_eq_some_iff] at hv
        obtain ⟨m, hm, rfl⟩ := hv
        rw [List.getElem?_take] at hm
        split at hm
        · rw [Nat.zero_add, List.getElem?_map, hget i m hm]; rfl
        · cases hm
    refine ⟨⟨?_, fun n hn => ?_⟩, ?_⟩
    · have := sees len (Nat.le_refl _)
      rw [List.take_of_length_le (by omega)] at this
      exact this
    · exact ⟨_, slc_to0 (show n ≤ cap by omega), sees n (by omega)⟩
    · intro y hy
      obtain ⟨i, hi⟩ := List.getElem?_of_mem hy
      have := wf_u64 (h5 _ (List.mem_of_getElem? (hget i y hi)))
      omega
end Go.Proofs.Ytcnghmfmokmnpaa

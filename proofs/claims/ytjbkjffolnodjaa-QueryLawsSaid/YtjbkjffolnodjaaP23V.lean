/- slices.Sort and slices.Compact of numbers, as the library of contracts has them, at this program. -/
import Derived.Test.YtjbkjffolnodjaaP23Ld
import Derived.Shelf.Sort.Plain
import Derived.Shelf.Slices.CompactI
import Derived.Shelf.Slices.In.SortNone
namespace Go.Proofs.Ytjbkjffolnodjaa
open Go.Shelf
set_option linter.unusedVariables false
set_option linter.unusedSimpArgs false
def lays189_ren : Go.Shelf.Ren := ⟨fun | 189 => 37 | 125 => 46 | 257 => 45 | 128 => 60 | 129 => 61 | 294 => 52 | 295 => 53 | 296 => 54 | 297 => 55 | 298 => 56 | 299 => 57 | 216 => 49 | 300 => 58 | 301 => 59 | 328 => 63 | 329 => 64 | 330 => 65 | 331 => 66 | 332 => 67 | 215 => 62 | 343 => 68 | n => n, fun | 28 => 26 | 3 => 3 | 46 => 72 | 0 => 0 | 51 => 89 | 53 => 91 | 4 => 4 | 183 => 83 | 182 => 82 | 131 => 68 | 5 => 5 | 9 => 9 | 218 => 92 | 222 => 96 | 228 => 98 | 229 => 99 | n => n, fun | n => n⟩
theorem lays189 : Go.Proofs.Lays.n189 Try.prog lays189_ren := {
  mixed := by kernel_rfl
  f125 := Try.func46.trans (congrArg some (by kernel_rfl))
  f128 := Try.func60.trans (congrArg some (by kernel_rfl))
  f129 := Try.func61.trans (congrArg some (by kernel_rfl))
  f189 := Try.func37.trans (congrArg some (by kernel_rfl))
  f215 := Try.func62.trans (congrArg some (by kernel_rfl))
  f216 := Try.func49.trans (congrArg some (by kernel_rfl))
  f257 := Try.func45.trans (congrArg some (by kernel_rfl))
  f294 := Try.func52.trans (congrArg some (by kernel_rfl))
  f295 := Try.func53.trans (congrArg some (by kernel_rfl))
  f296 := Try.func54.trans (congrArg some (by kernel_rfl))
  f297 := Try.func55.trans (congrArg some (by kernel_rfl))
  f298 := Try.func56.trans (congrArg some (by kernel_rfl))
  f299 := Try.func57.trans (congrArg some (by kernel_rfl))
  f300 := Try.func58.trans (congrArg some (by kernel_rfl))
  f301 := Try.func59.trans (congrArg some (by kernel_rfl))
  f328 := Try.func63.trans (congrArg some (by kernel_rfl))
  f329 := Try.func64.trans (congrArg some (by kernel_rfl))
  f330 := Try.func65.trans (congrArg some (by kernel_rfl))
  f331 := Try.func66.trans (congrArg some (by kernel_rfl))
  f332 := Try.func67.trans (congrArg some (by kernel_rfl))
  f343 := Try.func68.trans (congrArg some (by kernel_rfl))
  t0 := Try.underlying0
  a0 := Try.isAgg0
  z0 := Try.sizeOf0
  v0 := Try.zeroValue0
  t3 := Try.underlying3
  a3 := Try.isAgg3
  z3 := Try.sizeOf3
  v3 := Try.zeroValue3
  t4 := Try.underlying4
  a4 := Try.isAgg4
  z4 := Try.sizeOf4
  v4 := Try.zeroValue4
  t5 := Try.underlying5
  a5 := Try.isAgg5
  z5 := Try.sizeOf5
  v5 := Try.zeroValue5
  t9 := Try.underlying9
  a9 := Try.isAgg9
  z9 := Try.sizeOf9
  v9 := Try.zeroValue9
  t28 := Try.underlying26
  a28 := Try.isAgg26
  z28 := Try.sizeOf26
  v28 := Try.zeroValue26
  t46 := Try.underlying72
  a46 := Try.isAgg72
  z46 := Try.sizeOf72
  v46 := Try.zeroValue72
  t51 := Try.underlying89
  a51 := Try.isAgg89
  z51 := Try.sizeOf89
  v51 := Try.zeroValue89
  t53 := Try.underlying91
  a53 := Try.isAgg91
  z53 := Try.sizeOf91
  v53 := Try.zeroValue91
  t131 := Try.underlying68
  a131 := Try.isAgg68
  z131 := Try.sizeOf68
  v131 := Try.zeroValue68
  t182 := Try.underlying82
  a182 := Try.isAgg82
  z182 := Try.sizeOf82
  v182 := Try.zeroValue82
  t183 := Try.underlying83
  a183 := Try.isAgg83
  z183 := Try.sizeOf83
  v183 := Try.zeroValue83
  t218 := Try.underlying92
  a218 := Try.isAgg92
  z218 := Try.sizeOf92
  v218 := Try.zeroValue92
  t222 := Try.underlying96
  a222 := Try.isAgg96
  z222 := Try.sizeOf96
  v222 := Try.zeroValue96
  t228 := Try.underlying98
  a228 := Try.isAgg98
  z228 := Try.sizeOf98
  v228 := Try.zeroValue98
  t229 := Try.underlying99
  a229 := Try.isAgg99
  z229 := Try.sizeOf99
  v229 := Try.zeroValue99 }
def lays20_ren : Go.Shelf.Ren := ⟨fun | 20 => 38 | n => n, fun | 22 => 26 | 3 => 3 | 4 => 4 | 0 => 0 | n => n, fun | n => n⟩
theorem lays20 : Go.Proofs.Lays2.n20 Try.prog lays20_ren := {
  mixed := by kernel_rfl
  f20 := Try.func38.trans (congrArg some (by kernel_rfl))
  t0 := Try.underlying0
  a0 := Try.isAgg0
  z0 := Try.sizeOf0
  v0 := Try.zeroValue0
  t3 := Try.underlying3
  a3 := Try.isAgg3
  z3 := Try.sizeOf3
  v3 := Try.zeroValue3
  t4 := Try.underlying4
  a4 := Try.isAgg4
  z4 := Try.sizeOf4
  v4 := Try.zeroValue4
  t22 := Try.underlying26
  a22 := Try.isAgg26
  z22 := Try.sizeOf26
  v22 := Try.zeroValue26
  i3 := by kernel_rfl }
open Go.Vm in
theorem callOk37 : CallOk Try.prog 37 := ⟨Try.f37, Try.func37, by kernel_rfl, by kernel_rfl⟩
open Go.Vm in
theorem callOk38 : CallOk Try.prog 38 := ⟨Try.f38, Try.func38, by kernel_rfl, by kernel_rfl⟩
open Go.Vm in
/-- A slice of nothing, wherever it points. -/
theorem empty_ok {g o off : Nat} {r : AV} {h : AH} {rv : Option Addr → Nat → Value} (hcall : CallOk Try.prog g) (hc : ∀ a cap w, Calls Try.prog g #[.slice a 0 cap] w fun e w' => e = .returned (rv a cap) ∧ w' = w)
    (hr : ∀ (μ : Inj) a cap, VRel μ (.slice o off 1 0 0 true) (.slice a 0 cap) → VRel μ r (rv a cap)) : CSim Try.prog g [.slice o off 1 0 0 true] h r h := by
  refine .inl ⟨hcall, ?_⟩
  intro π N w₀ μ w vargs hR hv
  obtain ⟨v1, rfl⟩ : ∃ v1, vargs = #[v1] := by
    obtain ⟨l⟩ := vargs
    have h2 := hv.1
    match l, h2 with
    | [v1], _ => exact ⟨v1, rfl⟩
  have hv1 : VRel μ (.slice o off 1 0 0 true) v1 := hv.head
  obtain ⟨a, cap, rfl, _⟩ := hv1.slice_len
  refine (hc a cap w).mono ?_
  rintro e w' ⟨rfl, rfl⟩
  exact ⟨μ, _, rfl, .refl (Nat.le_refl _), hR, hr μ a cap hv1⟩
open Go.Vm in
theorem sortZ_ok : ∀ args h r h', sortZ args h = some (r, h') → CSim Try.prog 37 args h r h' := by
  intro args h r h' hr
  unfold sortZ at hr
  split at hr
  · cases hr
    exact empty_ok (rv := fun _ _ => .tuple #[]) callOk37 (fun a cap w => Any.slices_Sort_int_none lays189 a cap w) fun μ a cap _ => VRel.none_undef
  · exact turnV_ok (E := encZ) (f := sortI) (retV := fun _ _ _ _ => .tuple #[]) (nilV := .tuple #[]) callOk37 (fun w => Any.slices_Sort_int_none lays189 none 0 w) (fun μ => VRel.none_undef) sortI_len
      (fun blk off cap zs w hH hb hz _ => Any.slices_Sort_int lays189 blk off cap zs w hH hb hz) (fun _ _ _ _ _ _ _ _ _ _ => VRel.none_undef) _ _ _ _ hr
open Go.Vm in
theorem cptZ_ok : ∀ args h r h', cptZ args h = some (r, h') → CSim Try.prog 38 args h r h' := by
  intro args h r h' hr
  unfold cptZ at hr
  split at hr
  · cases hr
    exact empty_ok (rv := fun a cap => .slice a 0 cap) callOk38 (fun a cap w => Any.slices_Compact_int_empty lays20 a cap w) fun μ a cap hv => hv
  · exact turnV_ok (E := encZ) (f := cptI) (retV := fun blk off cap zs => .slice (some ⟨blk, off, none⟩) (Lib.compact zs).length cap) (nilV := .slice none 0 0) callOk38 (fun w => Any.slices_Compact_int_empty lays20 none 0 w) (fun μ => .nilSlice) cptI_len
      (fun blk off cap zs w hH hb hz hc => (Any.slices_Compact_int lays20 blk off cap zs w hH (by omega) hc).mono fun e w' ⟨h1, q, h2⟩ => ⟨h1, q, #[], by rw [h2, Sort.grow_empty]; rfl⟩)
      (fun μ o off cap ex b boff cap' zs h => by
        have hc : (Lib.compact zs).length ≤ zs.length := compactI_len zs
        show VRel μ (.slice o off 1 (Lib.compact zs).length cap ex) (.slice (some ⟨b, boff, none⟩) (Lib.compact zs).length cap')
        rcases h.slice_inv with ⟨b2, base, size, boff2, cap2, hm, heq, hl, hcc, hs, ha⟩ | ⟨h0, hc0, hex, x, heq⟩
        · simp only [Value.slice.injEq, Option.some.injEq, Addr.mk.injEq, true_and, and_true] at heq
          obtain ⟨⟨rfl, rfl⟩, rfl⟩ := heq
          refine .slice hm (by omega) hcc hs ?_
          rcases ha with h1 | ⟨h1, h2⟩
          · exact .inl h1
          · exact .inr ⟨by omega, h2⟩
        · simp only [Value.slice.injEq, Option.some.injEq] at heq
          obtain ⟨rfl, _, rfl⟩ := heq
          subst hc0
          subst hex
          rw [show (Lib.compact zs).length = 0 by omega]
          exact .empt) _ _ _ _ hr
end Go.Proofs.Ytjbkjffolnodjaa

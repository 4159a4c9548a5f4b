/- slices.Sort and slices.Compact of texts, as the library of contracts has them, at this program. -/
import Derived.Test.YteajnglncglmfaaDoorP22A
import Derived.Shelf.Sort.Plain
import Derived.Shelf.Slices.CompactS
import Derived.Shelf.Slices.In.SortNone
namespace Go.Proofs.YteajnglncglmfaaDoor
open Go.Shelf
set_option linter.unusedVariables false
set_option linter.unusedSimpArgs false
def lays190_ren : Go.Shelf.Ren := ⟨fun | 190 => 17 | 125 => 23 | 258 => 22 | 128 => 37 | 129 => 38 | 302 => 28 | 303 => 29 | 304 => 30 | 305 => 31 | 306 => 32 | 307 => 33 | 308 => 34 | 309 => 35 | 310 => 36 | 333 => 42 | 329 => 43 | 330 => 44 | 334 => 45 | 335 => 46 | 336 => 47 | 344 => 51 | n => n, fun | 31 => 22 | 9 => 9 | 3 => 3 | 46 => 48 | 0 => 0 | 51 => 61 | 53 => 63 | 4 => 4 | 183 => 54 | 182 => 53 | 131 => 58 | 5 => 5 | 218 => 64 | 222 => 68 | 228 => 75 | 229 => 76 | n => n, fun | n => n⟩
theorem lays190 : Go.Proofs.Lays.n190 Tryd.prog lays190_ren := {
  mixed := by kernel_rfl
  f125 := Tryd.func23.trans (congrArg some (by kernel_rfl))
  f128 := Tryd.func37.trans (congrArg some (by kernel_rfl))
  f129 := Tryd.func38.trans (congrArg some (by kernel_rfl))
  f190 := Tryd.func17.trans (congrArg some (by kernel_rfl))
  f258 := Tryd.func22.trans (congrArg some (by kernel_rfl))
  f302 := Tryd.func28.trans (congrArg some (by kernel_rfl))
  f303 := Tryd.func29.trans (congrArg some (by kernel_rfl))
  f304 := Tryd.func30.trans (congrArg some (by kernel_rfl))
  f305 := Tryd.func31.trans (congrArg some (by kernel_rfl))
  f306 := Tryd.func32.trans (congrArg some (by kernel_rfl))
  f307 := Tryd.func33.trans (congrArg some (by kernel_rfl))
  f308 := Tryd.func34.trans (congrArg some (by kernel_rfl))
  f309 := Tryd.func35.trans (congrArg some (by kernel_rfl))
  f310 := Tryd.func36.trans (congrArg some (by kernel_rfl))
  f329 := Tryd.func43.trans (congrArg some (by kernel_rfl))
  f330 := Tryd.func44.trans (congrArg some (by kernel_rfl))
  f333 := Tryd.func42.trans (congrArg some (by kernel_rfl))
  f334 := Tryd.func45.trans (congrArg some (by kernel_rfl))
  f335 := Tryd.func46.trans (congrArg some (by kernel_rfl))
  f336 := Tryd.func47.trans (congrArg some (by kernel_rfl))
  f344 := Tryd.func51.trans (congrArg some (by kernel_rfl))
  t0 := Tryd.underlying0
  a0 := Tryd.isAgg0
  z0 := Tryd.sizeOf0
  v0 := Tryd.zeroValue0
  t3 := Tryd.underlying3
  a3 := Tryd.isAgg3
  z3 := Tryd.sizeOf3
  v3 := Tryd.zeroValue3
  t4 := Tryd.underlying4
  a4 := Tryd.isAgg4
  z4 := Tryd.sizeOf4
  v4 := Tryd.zeroValue4
  t5 := Tryd.underlying5
  a5 := Tryd.isAgg5
  z5 := Tryd.sizeOf5
  v5 := Tryd.zeroValue5
  t9 := Tryd.underlying9
  a9 := Tryd.isAgg9
  z9 := Tryd.sizeOf9
  v9 := Tryd.zeroValue9
  t31 := Tryd.underlying22
  a31 := Tryd.isAgg22
  z31 := Tryd.sizeOf22
  v31 := Tryd.zeroValue22
  t46 := Tryd.underlying48
  a46 := Tryd.isAgg48
  z46 := Tryd.sizeOf48
  v46 := Tryd.zeroValue48
  t51 := Tryd.underlying61
  a51 := Tryd.isAgg61
  z51 := Tryd.sizeOf61
  v51 := Tryd.zeroValue61
  t53 := Tryd.underlying63
  a53 := Tryd.isAgg63
  z53 := Tryd.sizeOf63
  v53 := Tryd.zeroValue63
  t131 := Tryd.underlying58
  a131 := Tryd.isAgg58
  z131 := Tryd.sizeOf58
  v131 := Tryd.zeroValue58
  t182 := Tryd.underlying53
  a182 := Tryd.isAgg53
  z182 := Tryd.sizeOf53
  v182 := Tryd.zeroValue53
  t183 := Tryd.underlying54
  a183 := Tryd.isAgg54
  z183 := Tryd.sizeOf54
  v183 := Tryd.zeroValue54
  t218 := Tryd.underlying64
  a218 := Tryd.isAgg64
  z218 := Tryd.sizeOf64
  v218 := Tryd.zeroValue64
  t222 := Tryd.underlying68
  a222 := Tryd.isAgg68
  z222 := Tryd.sizeOf68
  v222 := Tryd.zeroValue68
  t228 := Tryd.underlying75
  a228 := Tryd.isAgg75
  z228 := Tryd.sizeOf75
  v228 := Tryd.zeroValue75
  t229 := Tryd.underlying76
  a229 := Tryd.isAgg76
  z229 := Tryd.sizeOf76
  v229 := Tryd.zeroValue76 }
def lays194_ren : Go.Shelf.Ren := ⟨fun | 194 => 18 | n => n, fun | 31 => 22 | 9 => 9 | 3 => 3 | 4 => 4 | 0 => 0 | n => n, fun | n => n⟩
theorem lays194 : Go.Proofs.Lays.n194 Tryd.prog lays194_ren := {
  mixed := by kernel_rfl
  f194 := Tryd.func18.trans (congrArg some (by kernel_rfl))
  t0 := Tryd.underlying0
  a0 := Tryd.isAgg0
  z0 := Tryd.sizeOf0
  v0 := Tryd.zeroValue0
  t3 := Tryd.underlying3
  a3 := Tryd.isAgg3
  z3 := Tryd.sizeOf3
  v3 := Tryd.zeroValue3
  t4 := Tryd.underlying4
  a4 := Tryd.isAgg4
  z4 := Tryd.sizeOf4
  v4 := Tryd.zeroValue4
  t9 := Tryd.underlying9
  a9 := Tryd.isAgg9
  z9 := Tryd.sizeOf9
  v9 := Tryd.zeroValue9
  t31 := Tryd.underlying22
  a31 := Tryd.isAgg22
  z31 := Tryd.sizeOf22
  v31 := Tryd.zeroValue22 }
open Go.Vm in
theorem callOk17 : CallOk Tryd.prog 17 := ⟨Tryd.f17, Tryd.func17, by kernel_rfl, by kernel_rfl⟩
open Go.Vm in
theorem callOk18 : CallOk Tryd.prog 18 := ⟨Tryd.f18, Tryd.func18, by kernel_rfl, by kernel_rfl⟩
theorem cptL_len' (zs : List Txt) : (cptL zs).length = zs.length := by
  have : (Lib.compact zs).length ≤ zs.length := by
    unfold Lib.compact Lib.compactUpTo
    rw [List.length_map]
    exact Nat.le_trans (List.length_filter_le _ _) (by simp)
  simp [cptL]; omega
open Go.Vm in
theorem sortV_ok : ∀ args h r h', sortV args h = some (r, h') → CSim Tryd.prog 17 args h r h' :=
  turnV_ok (E := Vm.encS) (f := sortT) (retV := fun _ _ _ _ => .tuple #[]) (nilV := .tuple #[]) callOk17 (fun w => Any.slices_Sort_string_none lays190 none 0 w) (fun μ => VRel.none_undef) sortT_len
    (fun blk off cap zs w hH hb hz _ => Any.slices_Sort_string lays190 blk off cap zs w hH hb hz) (fun _ _ _ _ _ _ _ _ _ _ => VRel.none_undef)
open Go.Vm in
theorem compactV_ok : ∀ args h r h', compactV args h = some (r, h') → CSim Tryd.prog 18 args h r h' :=
  turnV_ok (E := Vm.encS) (f := cptL) (retV := fun blk off cap zs => .slice (some ⟨blk, off, none⟩) (Lib.compact zs).length cap) (nilV := .slice none 0 0) callOk18 (fun w => Any.slices_Compact_string_empty lays194 none 0 w) (fun μ => .nilSlice) cptL_len'
    (fun blk off cap zs w hH hb hz hc => (Any.slices_Compact_string lays194 blk off cap zs w hH (by omega) hc).mono fun e w' ⟨h1, q, h2⟩ => ⟨h1, q, #[], by rw [h2, Sort.grow_empty]; rfl⟩)
    (fun μ o off cap ex b boff cap' zs h => by
      have hc : (Lib.compact zs).length ≤ zs.length := by
        unfold Lib.compact Lib.compactUpTo
        rw [List.length_map]
        exact Nat.le_trans (List.length_filter_le _ _) (by simp)
      cases h with
      | slice hm hl hcc hs ha =>
        refine .slice hm (by omega) hcc hs ?_
        rcases ha with h1 | ⟨h1, h2⟩
        · exact .inl h1
        · exact .inr ⟨by omega, h2⟩)
end Go.Proofs.YteajnglncglmfaaDoor

/- What the coder of leaves makes of a leaf, and of eight words, is what the reference makes of them; a right leaf comes back: the law is true for any leaf and any words. Conditions: none beyond the row's own. -/
import Derived.Test.YtpabmkicdcilpaaRows
import Derived.Test.YtpabmkicdcilpaaP7T
import Derived.Test.YtpabmkicdcilpaaP7J
import Derived.Test.YtpabmkicdcilpaaP7K
import Derived.Test.YtpabmkicdcilpaaP7O
import Derived.Test.YtpabmkicdcilpaaP7Q
import Derived.Test.YtpabmkicdcilpaaP7R
import Derived.Test.YtpabmkicdcilpaaP7S
import Derived.Test.YtpabmkicdcilpaaP7U
import Derived.Test.YtpabmkicdcilpaaP7V
import Derived.Test.YtpabmkicdcilpaaP7W
import Derived.Test.YtpabmkicdcilpaaP7X
import Derived.WalkKit
import Derived.ProofKit
import Derived.OpenShut
import Derived.ShutString
import Derived.ChangeOld
import Derived.Below
namespace Go.Proofs.Ytpabmkicdcilpaa.nodeLeaves
open Go.ChangeShapes Go.WideShapes Go.ChangeAt Go.RowKit
open Go.ChangeMaps (open_string shut_string)
set_option linter.unusedVariables false
set_option linter.unusedSimpArgs false
set_option linter.constructorNameAsVariable false
set_option maxRecDepth 20000

theorem own : ownKnob Try.prog.godebug = none := by kernel_rfl
theorem laidOut : laidOutB Try.prog = true := by kernel_rfl
theorem law (h : Vm.AH) (av : List Vm.AV) (lo : Vm.Low h) (hc : Vm.CameVs Try.prog h [60, 61, 4] av) : Vm.Gives lawProg 11 av h fun r _ => r = .bool true := by
  obtain ⟨x0, x1, x2, rfl, c0, c1, c2⟩ := Vm.cameVs3 hc
  obtain ⟨cs, rfl, s0⟩ := Vm.CameV.aggr (d := 12) (ks := [.str, .int .i64]) c0 (by kernel_rfl) (by kernel_rfl) (.inl ⟨_, Try.underlying60⟩)
  obtain ⟨ct, rfl, s1⟩ := Vm.CameV.aggr (d := 12) (ks := List.replicate 8 (.int .u64)) c1 (by kernel_rfl) (by kernel_rfl) (.inr ⟨_, _, Try.underlying61⟩)
  obtain ⟨b, rfl⟩ := Vm.came_bool Try.underlying4 c2
  obtain ⟨l, rfl, hk⟩ := leaf_in s0
  obtain ⟨ws, rfl, hw, h64⟩ := words_in s1
  exact leaves_run law_fits lo hk hw h64

set_option maxRecDepth 100000 in
theorem lifted (os : Os) (started : os.Started) (H : Type) (enc : TypeId × Value → H) :
    ReturnsInHanded {} Try.checked os 11 .any (Rows.nodeLeavesSpec.pre6 enc Try.prog Try.f11 Rows.nodeLeavesRow.domain false) (Rows.nodeLeavesSpec.post enc Try.prog Try.f11 false true false false) := by
  refine returnsInHanded_of_change (C := Try.checked) own started (by kernel_rfl) Try.func11
    (ChangeSpec.witness6 (enc := enc) (C := Try.checked) false ⟨#[], #[.agg #[.string ByteArray.empty, .int .i64 0], .agg #[.int .u64 0, .int .u64 0, .int .u64 0, .int .u64 0, .int .u64 0, .int .u64 0, .int .u64 0, .int .u64 0], .bool false], []⟩ 8 (by kernel_rfl) (by kernel_rfl) (by kernel_rfl) (by kernel_rfl)) ?_
  intro W base args ds gs before hval0 hW hcnd _
  have hval : ∀ (j : Nat) t v, Try.f11.params[j]? = some t → args[j]? = some v → Value.okWide Try.prog W .any base t v := hval0
  have hW' := hW
  obtain ⟨p, q, hA0, hV, rfl, hfz, hnd⟩ := hW
  have hA : DataW.TrodAll enc Try.prog W 0 (fun _ => true) true Try.f11.params.toList args.toList ds p := hA0
  rw [Try.params11] at hA hval
  have hcalls := Vm.row_calls (g := 11) (d := 12) law_ok hA (fun j t v h1 h2 => hval j t v (by simpa using h1) h2) (by kernel_rfl) law
  obtain ⟨v0, vs0, d0, ds0, p0, q0, hargs, rfl, rfl, h0, r0⟩ := trodAll_cons hA
  obtain ⟨v1, vs1, d1, ds1, p1, q1, rfl, rfl, rfl, h1, r1⟩ := trodAll_cons r0
  obtain ⟨v2, vs2, d2, ds2, p2, q2, rfl, rfl, rfl, h2, r2⟩ := trodAll_cons r1
  obtain ⟨rfl, rfl, rfl⟩ := trodAll_nil r2
  obtain rfl : args = #[v0, v1, v2] := by cases args; simp_all
  obtain ⟨rfl, rfl⟩ := trodVars_none hV
  have lt0 : ∀ x ∈ p0, x.block < W.heap.size := by obtain ⟨m, hm⟩ := h0; exact DataW.trod_lt m _ _ _ hm
  have lt1 : ∀ x ∈ p1, x.block < W.heap.size := by obtain ⟨m, hm⟩ := h1; exact DataW.trod_lt m _ _ _ hm
  have lt2 : ∀ x ∈ p2, x.block < W.heap.size := by obtain ⟨m, hm⟩ := h2; exact DataW.trod_lt m _ _ _ hm
  clear hA0 hval0
  refine hcalls.mono fun e W' ⟨he, bel⟩ => ?_
  subst he
  exact ⟨_, rfl, _, _, _, [], _, [], hW', trodAll_mk1 (shut_bool Try.underlying4 _), (trodAll_cons_mk (Below.trod laidOut (by kernel_rfl) (of_decide_eq_true (by kernel_rfl)) h0 bel lt0) (trodAll_cons_mk (Below.trod laidOut (by kernel_rfl) (of_decide_eq_true (by kernel_rfl)) h1 bel lt1) (trodAll_cons_mk (Below.trod laidOut (by kernel_rfl) (of_decide_eq_true (by kernel_rfl)) h2 bel lt2) trodAll_mk0))), rfl, bel.frame _, fun h => by cases h⟩

theorem over : Rows.nodeLeavesRow.holds Try.pinned (OpenSpec.ofChange Rows.nodeLeavesSpec) :=
  OpenClaim.holds_of_wide 11 Try.f11 rfl rfl rfl rfl rfl rfl rfl ⟨rfl, rfl, rfl, rfl, rfl⟩ rfl rfl rfl rfl rfl (by kernel_rfl) Try.func11 (by kernel_rfl)
    (of_decide_eq_true (by kernel_rfl)) (by unfold Func.isWrapper; first | (rw [if_pos (by decide +kernel)]; kernel_rfl) | (rw [if_neg (by decide +kernel)]; exact ⟨rfl, rfl⟩))
    (fun os started H enc _ => lifted os started H enc)

theorem proved : Rows.NodeLeavesSaid := over
end Go.Proofs.Ytpabmkicdcilpaa.nodeLeaves

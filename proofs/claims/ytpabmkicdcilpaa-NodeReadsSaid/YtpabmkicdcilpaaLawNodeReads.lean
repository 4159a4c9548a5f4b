/- Any words, most of them a node's with one turned, read as a node and as a leaf: both programs say the same, and the words stay: the law is true for any input. Conditions: none beyond the row's own. -/
import Derived.Test.YtpabmkicdcilpaaRows
import Derived.Test.YtpabmkicdcilpaaP7T
import Derived.Test.YtpabmkicdcilpaaP7J
import Derived.Test.YtpabmkicdcilpaaP7K
import Derived.Test.YtpabmkicdcilpaaP7O
import Derived.Test.YtpabmkicdcilpaaP7Q
import Derived.Test.YtpabmkicdcilpaaP7R
import Derived.Test.YtpabmkicdcilpaaP7S
import Derived.Test.YtpabmkicdcilpaaP7U
import Derived.Test.YtpabmkicdcilpaaP7NodeD
import Derived.Test.YtpabmkicdcilpaaP7NodeE
import Derived.Test.YtpabmkicdcilpaaP7NodeF
import Derived.Test.YtpabmkicdcilpaaP7NodeG
import Derived.Test.YtpabmkicdcilpaaP7NodeH
import Derived.Test.YtpabmkicdcilpaaP7NodeI
import Derived.Test.YtpabmkicdcilpaaP7NodeJ
import Derived.Test.YtpabmkicdcilpaaP7NodeK
import Derived.Test.YtpabmkicdcilpaaP7NodeL
import Derived.WalkKit
import Derived.ProofKit
import Derived.OpenShut
import Derived.ShutString
import Derived.ChangeOld
import Derived.Below
namespace Go.Proofs.Ytpabmkicdcilpaa.nodeReads
open Go.ChangeShapes Go.WideShapes Go.ChangeAt Go.RowKit
open Go.ChangeMaps (open_string shut_string)
set_option linter.unusedVariables false
set_option linter.unusedSimpArgs false
set_option linter.constructorNameAsVariable false
set_option maxRecDepth 20000

theorem own : ownKnob Try.prog.godebug = none := by kernel_rfl
theorem laidOut : laidOutB Try.prog = true := by kernel_rfl
theorem law (h : Vm.AH) (av : List Vm.AV) (lo : Vm.Low h) (hc : Vm.CameVs Try.prog h [42, 27, 3, 22, 3] av) : Vm.Gives lawProg 14 av h fun r _ => r = .bool true := by
  obtain ⟨x0, x1, x2, x3, x4, rfl, c0, c1, c2, c3, c4⟩ := cameVs5 hc
  obtain ⟨cs, rfl, s0⟩ := Vm.CameV.aggr (d := 12) (ks := [.int .i64, .int .u64, .str, .slice 5, .int .i64]) c0 (by kernel_rfl) (by kernel_rfl) (.inl ⟨_, Try.underlying42⟩)
  obtain ⟨kd, wd, px, v, fr, rfl, hw, hp, t, ht, cv⟩ := kids_in s0
  obtain ⟨xs, hs, _, hxw, _⟩ := Vm.came_intRow ht Try.underlying5 (by kernel_rfl) (Vm.came_one ht cv)
  obtain ⟨ks, hks, hb, _⟩ := bytes_in hs hxw
  obtain ⟨ys, hs2, _, hyw, _⟩ := Vm.came_intRow Try.underlying27 Try.underlying22 (by kernel_rfl) c1
  obtain ⟨ws, hws, hwb, _⟩ := words_in hs2 hyw
  obtain ⟨n2, rfl, _⟩ := Vm.came_int Try.underlying3 c2
  obtain ⟨n3, rfl, w3⟩ := Vm.came_int Try.underlying22 c3
  obtain ⟨to, rfl, hto⟩ := u64_in w3
  obtain ⟨n4, rfl, _⟩ := Vm.came_int Try.underlying3 c4
  exact reads_run law_fits lo hw hp hks hb hto hws (capV_in Try.underlying27 c1) hwb

set_option maxRecDepth 100000 in
theorem lifted (os : Os) (started : os.Started) (H : Type) (enc : TypeId × Value → H) :
    ReturnsInHanded {} Try.checked os 14 .any (Rows.nodeReadsSpec.pre6 enc Try.prog Try.f14 Rows.nodeReadsRow.domain false) (Rows.nodeReadsSpec.post enc Try.prog Try.f14 false true false false) := by
  refine returnsInHanded_of_change (C := Try.checked) own started (by kernel_rfl) Try.func14
    (ChangeSpec.witness6 (enc := enc) (C := Try.checked) false ⟨#[], #[.agg #[.int .i64 0, .int .u64 0, .string ByteArray.empty, .slice none 0 0, .int .i64 0], .slice none 0 0, .int .i64 0, .int .u64 0, .int .i64 0], []⟩ 8 (by kernel_rfl) (by kernel_rfl) (by kernel_rfl) (by kernel_rfl)) ?_
  intro W base args ds gs before hval0 hW hcnd _
  have hval : ∀ (j : Nat) t v, Try.f14.params[j]? = some t → args[j]? = some v → Value.okWide Try.prog W .any base t v := hval0
  have hW' := hW
  obtain ⟨p, q, hA0, hV, rfl, hfz, hnd⟩ := hW
  have hA : DataW.TrodAll enc Try.prog W 0 (fun _ => true) true Try.f14.params.toList args.toList ds p := hA0
  rw [Try.params14] at hA hval
  have hcalls := Vm.row_calls (g := 14) (d := 12) law_ok hA (fun j t v h1 h2 => hval j t v (by simpa using h1) h2) (by kernel_rfl) law
  obtain ⟨v0, vs0, d0, ds0, p0, q0, hargs, rfl, rfl, h0, r0⟩ := trodAll_cons hA
  obtain ⟨v1, vs1, d1, ds1, p1, q1, rfl, rfl, rfl, h1, r1⟩ := trodAll_cons r0
  obtain ⟨v2, vs2, d2, ds2, p2, q2, rfl, rfl, rfl, h2, r2⟩ := trodAll_cons r1
  obtain ⟨v3, vs3, d3, ds3, p3, q3, rfl, rfl, rfl, h3, r3⟩ := trodAll_cons r2
  obtain ⟨v4, vs4, d4, ds4, p4, q4, rfl, rfl, rfl, h4, r4⟩ := trodAll_cons r3
  obtain ⟨rfl, rfl, rfl⟩ := trodAll_nil r4
  obtain rfl : args = #[v0, v1, v2, v3, v4] := by cases args; simp_all
  obtain ⟨rfl, rfl⟩ := trodVars_none hV
  have lt0 : ∀ x ∈ p0, x.block < W.heap.size := by obtain ⟨m, hm⟩ := h0; exact DataW.trod_lt m _ _ _ hm
  have lt1 : ∀ x ∈ p1, x.block < W.heap.size := by obtain ⟨m, hm⟩ := h1; exact DataW.trod_lt m _ _ _ hm
  have lt2 : ∀ x ∈ p2, x.block < W.heap.size := by obtain ⟨m, hm⟩ := h2; exact DataW.trod_lt m _ _ _ hm
  have lt3 : ∀ x ∈ p3, x.block < W.heap.size := by obtain ⟨m, hm⟩ := h3; exact DataW.trod_lt m _ _ _ hm
  have lt4 : ∀ x ∈ p4, x.block < W.heap.size := by obtain ⟨m, hm⟩ := h4; exact DataW.trod_lt m _ _ _ hm
  clear hA0 hval0
  refine hcalls.mono fun e W' ⟨he, bel⟩ => ?_
  subst he
  exact ⟨_, rfl, _, _, _, [], _, [], hW', trodAll_mk1 (shut_bool Try.underlying4 _), (trodAll_cons_mk (Below.trod laidOut (by kernel_rfl) (of_decide_eq_true (by kernel_rfl)) h0 bel lt0) (trodAll_cons_mk (Below.trod laidOut (by kernel_rfl) (of_decide_eq_true (by kernel_rfl)) h1 bel lt1) (trodAll_cons_mk (Below.trod laidOut (by kernel_rfl) (of_decide_eq_true (by kernel_rfl)) h2 bel lt2) (trodAll_cons_mk (Below.trod laidOut (by kernel_rfl) (of_decide_eq_true (by kernel_rfl)) h3 bel lt3) (trodAll_cons_mk (Below.trod laidOut (by kernel_rfl) (of_decide_eq_true (by kernel_rfl)) h4 bel lt4) trodAll_mk0))))), rfl, bel.frame _, fun h => by cases h⟩

theorem over : Rows.nodeReadsRow.holds Try.pinned (OpenSpec.ofChange Rows.nodeReadsSpec) :=
  OpenClaim.holds_of_wide 14 Try.f14 rfl rfl rfl rfl rfl rfl rfl ⟨rfl, rfl, rfl, rfl, rfl⟩ rfl rfl rfl rfl rfl (by kernel_rfl) Try.func14 (by kernel_rfl)
    (of_decide_eq_true (by kernel_rfl)) (by unfold Func.isWrapper; first | (rw [if_pos (by decide +kernel)]; kernel_rfl) | (rw [if_neg (by decide +kernel)]; exact ⟨rfl, rfl⟩))
    (fun os started H enc _ => lifted os started H enc)

theorem proved : Rows.NodeReadsSaid := over
end Go.Proofs.Ytpabmkicdcilpaa.nodeReads

/- The reference's nodes: Turn. -/
import Derived.Test.YtpabmkicdcilpaaP7NodeH
import Derived.Test.YtpabmkicdcilpaaVmZw
import Derived.Test.YtpabmkicdcilpaaP7U
namespace Go.Proofs.Ytpabmkicdcilpaa
open Go.Vm
set_option linter.unusedSimpArgs false
set_option linter.unusedVariables false
set_option maxRecDepth 100000
variable {T : Vm.Prog} {h : AH}
end Go.Proofs.Ytpabmkicdcilpaa
/- The reference's nodes: the first words. -/
namespace Go.Proofs.Ytpabmkicdcilpaa
open Go.Vm
set_option linter.unusedSimpArgs false
set_option linter.unusedVariables false
set_option maxRecDepth 100000
variable {T : Vm.Prog} {h : AH}
theorem size71_ok (k : Fits T) {x : Int} : Gives T 71 [.int .i64 x] h fun r h' => r = .int .i64 (sizeP x : Int) ∧ h' = h := by
  refine gives_func (k.env _ (by decide)) (k.at (fn := a71) rfl) rfl ?_
  unfold sizeP
  by_cases h0 : x = 0
  · simp only [a71, c71, vms, vmc, AOpd.val, Nat.reduceEqDiff, reduceCtorEq, Nat.reduceAdd, Nat.reduceBEq, eqI h0, if_pos h0]; exact ⟨rfl, trivial⟩
  by_cases h1 : x = 1
  · simp only [a71, c71, vms, vmc, AOpd.val, Nat.reduceEqDiff, reduceCtorEq, Nat.reduceAdd, Nat.reduceBEq, neI h0, eqI h1, if_neg h0, if_pos h1]; exact ⟨rfl, trivial⟩
  by_cases h2 : x = 2
  · simp only [a71, c71, vms, vmc, AOpd.val, Nat.reduceEqDiff, reduceCtorEq, Nat.reduceAdd, Nat.reduceBEq, neI h0, neI h1, eqI h2, if_neg h0, if_neg h1, if_pos h2]; exact ⟨rfl, trivial⟩
  by_cases h3 : x = 3
  · simp only [a71, c71, vms, vmc, AOpd.val, Nat.reduceEqDiff, reduceCtorEq, Nat.reduceAdd, Nat.reduceBEq, neI h0, neI h1, neI h2, eqI h3, if_neg h0, if_neg h1, if_neg h2, if_pos h3]; exact ⟨rfl, trivial⟩
  by_cases h4 : x = 4
  · simp only [a71, c71, vms, vmc, AOpd.val, Nat.reduceEqDiff, reduceCtorEq, Nat.reduceAdd, Nat.reduceBEq, neI h0, neI h1, neI h2, neI h3, eqI h4, if_neg h0, if_neg h1, if_neg h2, if_neg h3, if_pos h4]; exact ⟨rfl, trivial⟩
  · simp only [a71, c71, vms, vmc, AOpd.val, Nat.reduceEqDiff, reduceCtorEq, Nat.reduceAdd, Nat.reduceBEq, neI h0, neI h1, neI h2, neI h3, neI h4, if_neg h0, if_neg h1, if_neg h2, if_neg h3, if_neg h4]; exact ⟨rfl, trivial⟩
/-- The first words. -/
def baseG (n : NodeP) (x : Nat) : Nat := if x = 0 then n.word else if x = 1 then hdN n else if x < 4 then dig (blk (nat8 n.pre) (x - 2)) else 0
theorem slcN {o N a b : Nat} (h1 : a < b) (h2 : b ≤ N) : slcV 1 (wordsV o N) (some (.int .i64 (a : Int))) (some (.int .i64 (b : Int))) none = some (.slice o a 1 (b - a) (N - a) true) := by
  have h3 : ¬ N = a := by omega
  have h4 : a ≤ b := by omega
  simp [wordsV, slcV, bounds, boundM, boundH, boundL, natOf, Option.filter, h3, h2, h4]
theorem head67_ok (k : Fits T) (hl : Low h) {kv iv : AV} {n : NodeP} (hr : RightP n) (s1 : Sees h kv (kcells n.keys)) (s2 : Sees h iv (icells n.kids)) (hw : n.word < 18446744073709551616) : Gives T 67 [.agg (n.cells kv iv)] h fun r h' => Quiet h h' ∧ Low h' ∧ ∃ o, r = wordsV o (sizeP n.kind) ∧ h.next ≤ o ∧ WordsAt h' o (sizeP n.kind) (baseG n) := by
  refine gives_func (k.env _ (by decide)) (k.at (fn := a67) rfl) rfl ?_
  have fa : ∀ o j, fieldAddrV j (.ptr o 0) = some (.ptr o (0 + j)) := fun o j => rfl
  have q1 : Quiet h (h.new (.cells (n.cells kv iv) true)) := (Quiet.refl _).new _
  have lo1 : Low (h.new (.cells (n.cells kv iv) true)) := hl.new _
  have L1 : Lies (h.new (.cells (n.cells kv iv) true)) h.next kv iv n := ⟨get_new_same, sees_keep s1 hl q1, sees_keep s2 hl q1⟩
  have nx1 : (h.new (.cells (n.cells kv iv) true)).next = h.next + 1 := rfl
  have lk : ∀ o ∈ objs kv, o < h.next := sees_low s1 hl
  have li : ∀ o ∈ objs iv, o < h.next := sees_low s2 hl
  simp only [a67, c67, vms, vmc, AOpd.val, Nat.reduceEqDiff, reduceCtorEq, Nat.reduceAdd, Nat.reduceBEq, box_agg, fa, Nat.zero_add, L1.kind]
  generalize (h.new (.cells (n.cells kv iv) true)) = h2 at *
  refine Gives.bind ((size71_ok k).mono ?_)
  rintro _ _ ⟨rfl, rfl⟩
  rename_i h2
  have hsz : 12 ≤ sizeP n.kind ∧ sizeP n.kind ≤ 264 := by rcases hr.kinds with e | e | e | e <;> rw [e] <;> decide
  obtain ⟨hmk, w3⟩ := WordsAt.make (h := h2) (N := sizeP n.kind) (by omega)
  have q3 : Quiet h2 (h2.new (.cells (rep [.int .u64 0] (sizeP n.kind)) true)) := (Quiet.refl _).new _
  have lo3 : Low (h2.new (.cells (rep [.int .u64 0] (sizeP n.kind)) true)) := lo1.new _
  have L3 := L1.keep lo1 q3
  obtain ⟨o, ho⟩ : ∃ o, o = h2.next := ⟨_, rfl⟩
  have hpo : h.next ≠ o := by omega
  have hok : o ∉ objs kv := fun hm => by have := lk o hm; omega
  have hoi : o ∉ objs iv := fun hm => by have := li o hm; omega
  simp only [vms, vmc, AOpd.val, Nat.reduceEqDiff, reduceCtorEq, Nat.reduceAdd, Nat.reduceBEq, hmk]
  rw [← ho] at w3 ⊢
  have q13 := q1.trans q3
  generalize (h2.new (.cells (rep [.int .u64 0] (sizeP n.kind)) true)) = h3 at *
  obtain ⟨h4, st4, u4, w4⟩ := w3.store (j := 0) (by omega) n.word
  have L4 := L3.upd u4 hpo hok hoi
  obtain ⟨h5, st5, u5, w5⟩ := w4.store (j := 1) (by omega) (hdN n)
  have L5 := L4.upd u5 hpo hok hoi
  have q5 := quiet_upd (quiet_upd q13 u4 (by omega)) u5 (by omega)
  have lo5 := (lo3.upd u4 (w3.low lo3)).upd u5 (w4.low (lo3.upd u4 (w3.low lo3)))
  have ix0 : idxAddrV 1 (wordsV o (sizeP n.kind)) (.int .i64 0) = some (.ptr o 0) := WordsAt.idx (j := 0) (by omega)
  have ix1 : idxAddrV 1 (wordsV o (sizeP n.kind)) (.int .i64 1) = some (.ptr o 1) := WordsAt.idx (j := 1) (by omega)
  obtain ⟨kd, hkd⟩ : ∃ kd : Nat, n.kind = kd := ⟨n.kind.toNat, by rcases hr.kinds with e | e | e | e <;> rw [e] <;> rfl⟩
  have hkd4 : kd ≤ 4 := by rcases hr.kinds with e | e | e | e <;> omega
  have hpl := hr.pre
  have hfew := hr.few
  have hhi : highP n.kind ≤ 256 := by rcases hr.kinds with e | e | e | e <;> rw [e] <;> decide
  have hlen : lenOfV kv = some n.keys.length := by simpa [kcells] using L4.sk.len
  have u1 : IntKind.u64.wrap n.kind = (kd : Int) := by rw [hkd]; exact wrap_u64 (by omega)
  have u2 : IntKind.u64.wrap (n.pre.length : Int) = (n.pre.length : Int) := wrap_u64 (by omega)
  have u3 : IntKind.u64.wrap (n.keys.length : Int) = (n.keys.length : Int) := wrap_u64 (by omega)
  have b1 : binV .shl (.int .u64 (n.pre.length : Int)) (.int .u64 8) = some (.int .u64 ((n.pre.length * 256 : Nat) : Int)) := bin_shl_w (k' := .u64) (n := 8) (by decide) (by omega)
  have b2 : binV .shl (.int .u64 (n.keys.length : Int)) (.int .u64 16) = some (.int .u64 ((n.keys.length * 65536 : Nat) : Int)) := bin_shl_w (k' := .u64) (n := 16) (by decide) (by omega)
  have hd1 := or_digits (k := kd) (p := n.pre.length) (c := 0) (by omega) (by omega)
  have hd2 := or_digits (k := kd) (p := n.pre.length) (c := n.keys.length) (by omega) (by omega)
  simp only [Nat.zero_mul, Nat.or_zero, Nat.add_zero] at hd1
  have b3 : binV .or (.int .u64 (kd : Int)) (.int .u64 ((n.pre.length * 256 : Nat) : Int)) = some (.int .u64 ((kd ||| n.pre.length * 256 : Nat) : Int)) := bin_or_u64 (by omega) (by omega) (by rw [hd1]; omega)
  have b4 : binV .or (.int .u64 ((kd ||| n.pre.length * 256 : Nat) : Int)) (.int .u64 ((n.keys.length * 65536 : Nat) : Int)) = some (.int .u64 (hdN n : Nat)) := by
    rw [bin_or_u64 (by rw [hd1]; omega) (by omega) (by rw [hd2]; omega), hd2]
    unfold hdN
    rw [hkd, Int.toNat_natCast]
  have sl2 : slcV 1 (wordsV o (sizeP n.kind)) (some (.int .i64 2)) (some (.int .i64 4)) none = some (.slice o 2 1 2 (sizeP n.kind - 2) true) := slcN (a := 2) (b := 4) (by decide) (by omega)
  simp only [vms, vmc, AOpd.val, Nat.reduceEqDiff, reduceCtorEq, Nat.reduceAdd, Nat.reduceBEq, fa, Nat.zero_add, L3.word, ix0, st4, L4.kind, L4.pre, L4.keys, hlen, u1, u2, u3, b1, b2, b3, b4, ix1, st5, sl2, L5.pre]
  refine Gives.bind ((words_ref (g := 68) (k.env _ (by decide)) (k.at rfl) lo5 (s := n.pre) (by omega)).mono ?_)
  intro r6 h6 iw
  have sw := isWords_sees iw
  obtain ⟨ex6, lo6, nx6, rfl, gw6⟩ := iw
  have q6 := ex6.quiet
  have w6 := w5.quiet lo5 q6
  have hcn : cntN n.pre.length ≤ 2 := by unfold cntN; omega
  obtain ⟨h7, cp7, u7, w7⟩ := w6.copy (i := 2) sw (by rw [wordsN_len]; omega)
  rw [copy_same (m' := 2) (c' := sizeP n.kind - 2) (e' := true) (n := cntN n.pre.length) (by rw [sw.len, wcells_len, wordsN_len]) (by omega) hcn] at cp7
  have q7 := quiet_upd (q5.trans q6) u7 (by omega)
  have lo7 := lo6.upd u7 (w6.low lo6)
  have w7' : WordsAt h7 o (sizeP n.kind) (headG n) := w7.eq fun j hj => by unfold headG; rw [wordsN_len]
  simp only [vms, vmc, AOpd.val, Nat.reduceEqDiff, reduceCtorEq, Nat.reduceAdd, Nat.reduceBEq, cp7]
  exact ⟨q7, lo7, o, rfl, by omega, w7'.eq fun j hj => (headG_eq n hpl j).symm⟩
end Go.Proofs.Ytpabmkicdcilpaa
/- The reference's nodes: Encode, its loops. -/
namespace Go.Proofs.Ytpabmkicdcilpaa
open Go.Vm
set_option linter.unusedSimpArgs false
set_option linter.unusedVariables false
set_option maxRecDepth 100000
variable {T : Vm.Prog} {h : AH}
theorem quo8 {i : Nat} (hi : i < 1000) : binV .quo (.int .i64 (i : Int)) (.int .i64 8) = some (.int .i64 ((i / 8 : Nat) : Int)) := by
  show some (AV.int .i64 (IntKind.i64.wrap ((i : Int).tdiv 8))) = _
  rw [Int.tdiv_eq_ediv_of_nonneg (by omega), wrap_i64 (by omega) (by omega)]; rfl
theorem rem8 {i : Nat} (hi : i < 1000) : binV .rem (.int .i64 (i : Int)) (.int .i64 8) = some (.int .i64 ((i % 8 : Nat) : Int)) := by
  show some (AV.int .i64 ((i : Int).tmod 8)) = _
  rw [Int.tmod_eq_emod_of_nonneg (by omega)]; rfl
section
variable {n : NodeP} {p o : Nat} {kv iv : AV}
/-- A child as a word. -/
theorem kid_word (r : RightP n) {i : Nat} (hi : i < n.keys.length) : ∃ x X, n.kids[i]? = some x ∧ x = ((X : Nat) : Int) ∧ X < 18446744073709551616 := by
  obtain ⟨x, hx⟩ : ∃ x, n.kids[i]? = some x := ⟨_, List.getElem?_eq_getElem (by rw [← r.same]; exact hi)⟩
  obtain ⟨s', g', l', hv, hxr⟩ := isRefP_iff.1 (r.refs i x hx)
  have hxl := refN_lt (l := l') hv
  exact ⟨x, _, hx, hxr, by omega⟩
theorem enc_next {i b : Nat} {x : Int} {X : Nat} (hb : n.keys[i]? = some b) (hx : n.kids[i]? = some x) (hX : x = (X : Int)) : (fun y => if y = plP n.kind i b then X else encG n i y) = encG n (i + 1) := by
  funext j
  simp only [encG, hb, hx, Option.getD_some]
  rw [hX, Int.toNat_natCast]
theorem enc38_l0 (r : RightP n) (hkd : n.kind = 1) (he : Lies h p kv iv n) (w : WordsAt h o (sizeP n.kind) (encG n 0)) (hpo : p ≠ o) (hok : o ∉ objs kv) (hoi : o ∉ objs iv) {f : Fr}
    (f3 : f.at 3 = wordsV o (sizeP n.kind)) (f29 : f.at 29 = iv) (f30 : f.at 30 = .int .i64 (n.keys.length : Int)) (f31 : f.at 31 = .int .i64 0) {Q : AExit → Fr → AH → Prop}
    (hq : ∀ f' g, Upd h g o → WordsAt g o (sizeP n.kind) (encG n n.keys.length) → f'.at 3 = wordsV o (sizeP n.kind) → Q (.exit 1) f' g) : Wp (code T (.loop c38l0) f h) Q := by
  have hfew := r.few
  have hh : highP n.kind = 4 := by rw [hkd]; rfl
  have hsz : sizeP n.kind = 12 := by rw [hkd]; rfl
  refine wpc_loop (fun d f' g => ∃ i, d = n.keys.length - i ∧ i ≤ n.keys.length ∧ Upd h g o ∧ WordsAt g o (sizeP n.kind) (encG n i) ∧ f'.at 3 = wordsV o (sizeP n.kind) ∧ f'.at 29 = iv ∧ f'.at 30 = .int .i64 (n.keys.length : Int) ∧ f'.at 31 = .int .i64 (i : Nat)) ?_ n.keys.length _ _ ⟨0, rfl, Nat.zero_le _, Upd.refl _ _, w, f3, f29, f30, f31⟩
  rintro d f' g ⟨i, rfl, hi, u, wg, g3, g29, g30, g31⟩
  by_cases hlt : i < n.keys.length
  · have d1 : decide ((i : Int) < (n.keys.length : Int)) = true := by rw [decide_eq_true_eq]; omega
    obtain ⟨b, hb⟩ : ∃ b, n.keys[i]? = some b := ⟨_, List.getElem?_eq_getElem hlt⟩
    obtain ⟨x, X, hx, hX, hX64⟩ := kid_word r hlt
    have heg : Lies g p kv iv n := he.upd u hpo hok hoi
    obtain ⟨pp, hp1, hp2⟩ := heg.si.at (i := i) (x := .int .i64 x) (by simp [icells, hx]) .i64
    have w1 : IntKind.i64.wrap ((i : Int) + 1) = ((i + 1 : Nat) : Int) := by rw [wrap_i64 (by omega) (by omega)]; omega
    have w2 : IntKind.i64.wrap (5 + (i : Int)) = ((5 + i : Nat) : Int) := by rw [wrap_i64 (by omega) (by omega)]; omega
    have w5 : IntKind.u64.wrap x = (X : Int) := by rw [hX]; exact wrap_u64 hX64
    have hpl : plP n.kind i b = 5 + i := by rw [hkd]; rfl
    have hlp : 5 + i < sizeP n.kind := by omega
    obtain ⟨g2, hst, u2, wg2⟩ := wg.store hlp X
    rw [← hpl, enc_next hb hx hX] at wg2
    simp only [c38l0, vms, vmc, AOpd.val, Nat.reduceEqDiff, reduceCtorEq, Nat.reduceAdd, Nat.reduceBEq, g3, g29, g30, g31, d1, hp1, hp2, w1, w2, w5, WordsAt.idx hlp, hst]
    refine ⟨n.keys.length - (i + 1), by omega, i + 1, rfl, by omega, u.trans u2, wg2, ?_, ?_, ?_, ?_⟩
    all_goals first | trivial | assumption | rfl
  · have d1 : decide ((i : Int) < (n.keys.length : Int)) = false := by rw [decide_eq_false_iff_not]; omega
    have e : i = n.keys.length := by omega
    subst e
    simp only [c38l0, vms, vmc, AOpd.val, Nat.reduceEqDiff, reduceCtorEq, Nat.reduceAdd, Nat.reduceBEq, g30, g31, d1]
    exact hq _ g u wg (by simp only [vms, vmc, AOpd.val, Nat.reduceEqDiff, reduceCtorEq, Nat.reduceAdd, Nat.reduceBEq, g3])
theorem enc38_l1 (r : RightP n) (hkd : n.kind = 2) (he : Lies h p kv iv n) (w : WordsAt h o (sizeP n.kind) (encG n 0)) (hpo : p ≠ o) (hok : o ∉ objs kv) (hoi : o ∉ objs iv) {f : Fr}
    (f3 : f.at 3 = wordsV o (sizeP n.kind)) (f29 : f.at 53 = iv) (f30 : f.at 54 = .int .i64 (n.keys.length : Int)) (f31 : f.at 55 = .int .i64 0) {Q : AExit → Fr → AH → Prop}
    (hq : ∀ f' g, Upd h g o → WordsAt g o (sizeP n.kind) (encG n n.keys.length) → f'.at 3 = wordsV o (sizeP n.kind) → Q (.exit 3) f' g) : Wp (code T (.loop c38l1) f h) Q := by
  have hfew := r.few
  have hh : highP n.kind = 16 := by rw [hkd]; rfl
  have hsz : sizeP n.kind = 24 := by rw [hkd]; rfl
  refine wpc_loop (fun d f' g => ∃ i, d = n.keys.length - i ∧ i ≤ n.keys.length ∧ Upd h g o ∧ WordsAt g o (sizeP n.kind) (encG n i) ∧ f'.at 3 = wordsV o (sizeP n.kind) ∧ f'.at 53 = iv ∧ f'.at 54 = .int .i64 (n.keys.length : Int) ∧ f'.at 55 = .int .i64 (i : Nat)) ?_ n.keys.length _ _ ⟨0, rfl, Nat.zero_le _, Upd.refl _ _, w, f3, f29, f30, f31⟩
  rintro d f' g ⟨i, rfl, hi, u, wg, g3, g29, g30, g31⟩
  by_cases hlt : i < n.keys.length
  · have d1 : decide ((i : Int) < (n.keys.length : Int)) = true := by rw [decide_eq_true_eq]; omega
    obtain ⟨b, hb⟩ : ∃ b, n.keys[i]? = some b := ⟨_, List.getElem?_eq_getElem hlt⟩
    obtain ⟨x, X, hx, hX, hX64⟩ := kid_word r hlt
    have heg : Lies g p kv iv n := he.upd u hpo hok hoi
    obtain ⟨pp, hp1, hp2⟩ := heg.si.at (i := i) (x := .int .i64 x) (by simp [icells, hx]) .i64
    have w1 : IntKind.i64.wrap ((i : Int) + 1) = ((i + 1 : Nat) : Int) := by rw [wrap_i64 (by omega) (by omega)]; omega
    have w2 : IntKind.i64.wrap (6 + (i : Int)) = ((6 + i : Nat) : Int) := by rw [wrap_i64 (by omega) (by omega)]; omega
    have w5 : IntKind.u64.wrap x = (X : Int) := by rw [hX]; exact wrap_u64 hX64
    have hpl : plP n.kind i b = 6 + i := by rw [hkd]; rfl
    have hlp : 6 + i < sizeP n.kind := by omega
    obtain ⟨g2, hst, u2, wg2⟩ := wg.store hlp X
    rw [← hpl, enc_next hb hx hX] at wg2
    simp only [c38l1, vms, vmc, AOpd.val, Nat.reduceEqDiff, reduceCtorEq, Nat.reduceAdd, Nat.reduceBEq, g3, g29, g30, g31, d1, hp1, hp2, w1, w2, w5, WordsAt.idx hlp, hst]
    refine ⟨n.keys.length - (i + 1), by omega, i + 1, rfl, by omega, u.trans u2, wg2, ?_, ?_, ?_, ?_⟩
    all_goals first | trivial | assumption | rfl
  · have d1 : decide ((i : Int) < (n.keys.length : Int)) = false := by rw [decide_eq_false_iff_not]; omega
    have e : i = n.keys.length := by omega
    subst e
    simp only [c38l1, vms, vmc, AOpd.val, Nat.reduceEqDiff, reduceCtorEq, Nat.reduceAdd, Nat.reduceBEq, g30, g31, d1]
    exact hq _ g u wg (by simp only [vms, vmc, AOpd.val, Nat.reduceEqDiff, reduceCtorEq, Nat.reduceAdd, Nat.reduceBEq, g3])
theorem enc38_l3 (r : RightP n) (hk : ∀ b ∈ n.keys, b < 256) (hkd : n.kind = 4) (he : Lies h p kv iv n) (w : WordsAt h o (sizeP n.kind) (encG n 0)) (hpo : p ≠ o) (hok : o ∉ objs kv) (hoi : o ∉ objs iv) {f : Fr}
    (f1 : f.at 1 = .ptr p 0) (f3 : f.at 3 = wordsV o (sizeP n.kind)) (f29 : f.at 113 = kv) (f30 : f.at 114 = .int .i64 (n.keys.length : Int)) (f31 : f.at 115 = .int .i64 0) {Q : AExit → Fr → AH → Prop}
    (hq : ∀ f' g, Upd h g o → WordsAt g o (sizeP n.kind) (encG n n.keys.length) → f'.at 3 = wordsV o (sizeP n.kind) → Q (.exit 7) f' g) : Wp (code T (.loop c38l3) f h) Q := by
  have fa : ∀ o j, fieldAddrV j (.ptr o 0) = some (.ptr o (0 + j)) := fun o j => rfl
  have hfew := r.few
  have hh : highP n.kind = 256 := by rw [hkd]; rfl
  have hsz : sizeP n.kind = 264 := by rw [hkd]; rfl
  refine wpc_loop (fun d f' g => ∃ i, d = n.keys.length - i ∧ i ≤ n.keys.length ∧ Upd h g o ∧ WordsAt g o (sizeP n.kind) (encG n i) ∧ f'.at 1 = .ptr p 0 ∧ f'.at 3 = wordsV o (sizeP n.kind) ∧ f'.at 113 = kv ∧ f'.at 114 = .int .i64 (n.keys.length : Int) ∧ f'.at 115 = .int .i64 (i : Nat)) ?_ n.keys.length _ _ ⟨0, rfl, Nat.zero_le _, Upd.refl _ _, w, f1, f3, f29, f30, f31⟩
  rintro d f' g ⟨i, rfl, hi, u, wg, g1, g3, g29, g30, g31⟩
  by_cases hlt : i < n.keys.length
  · have d1 : decide ((i : Int) < (n.keys.length : Int)) = true := by rw [decide_eq_true_eq]; omega
    obtain ⟨b, hb⟩ : ∃ b, n.keys[i]? = some b := ⟨_, List.getElem?_eq_getElem hlt⟩
    have hb256 := hk b (List.mem_of_getElem? hb)
    obtain ⟨x, X, hx, hX, hX64⟩ := kid_word r hlt
    have heg : Lies g p kv iv n := he.upd u hpo hok hoi
    obtain ⟨pp, hp1, hp2⟩ := heg.si.at (i := i) (x := .int .i64 x) (by simp [icells, hx]) .i64
    obtain ⟨pk, hk1, hk2⟩ := heg.sk.at (i := i) (x := .int .u8 (b : Int)) (by simp [kcells, hb]) .i64
    have w1 : IntKind.i64.wrap ((i : Int) + 1) = ((i + 1 : Nat) : Int) := by rw [wrap_i64 (by omega) (by omega)]; omega
    have w3 : IntKind.i64.wrap (b : Int) = (b : Int) := wrap_i64 (by omega) (by omega)
    have w2 : IntKind.i64.wrap (4 + (b : Int)) = ((4 + b : Nat) : Int) := by rw [wrap_i64 (by omega) (by omega)]; omega
    have w5 : IntKind.u64.wrap x = (X : Int) := by rw [hX]; exact wrap_u64 hX64
    have hpl : plP n.kind i b = 4 + b := by rw [hkd]; rfl
    have hlp : 4 + b < sizeP n.kind := by omega
    obtain ⟨g2, hst, u2, wg2⟩ := wg.store hlp X
    rw [← hpl, enc_next hb hx hX] at wg2
    simp only [c38l3, vms, vmc, AOpd.val, Nat.reduceEqDiff, reduceCtorEq, Nat.reduceAdd, Nat.reduceBEq, g1, g3, g29, g30, g31, d1, hk1, hk2, fa, Nat.zero_add, heg.kids, hp1, hp2, w1, w2, w3, w5, WordsAt.idx hlp, hst]
    refine ⟨n.keys.length - (i + 1), by omega, i + 1, rfl, by omega, u.trans u2, wg2, ?_, ?_, ?_, ?_, ?_⟩
    all_goals first | trivial | assumption | rfl
  · have d1 : decide ((i : Int) < (n.keys.length : Int)) = false := by rw [decide_eq_false_iff_not]; omega
    have e : i = n.keys.length := by omega
    subst e
    simp only [c38l3, vms, vmc, AOpd.val, Nat.reduceEqDiff, reduceCtorEq, Nat.reduceAdd, Nat.reduceBEq, g30, g31, d1]
    exact hq _ g u wg (by simp only [vms, vmc, AOpd.val, Nat.reduceEqDiff, reduceCtorEq, Nat.reduceAdd, Nat.reduceBEq, g3])
end
end Go.Proofs.Ytpabmkicdcilpaa
/- The reference's nodes: Encode, forty-eight children. -/
namespace Go.Proofs.Ytpabmkicdcilpaa
open Go.Vm
set_option linter.unusedSimpArgs false
set_option linter.unusedVariables false
set_option maxRecDepth 100000
variable {T : Vm.Prog} {h : AH}
/-- Words with the first keys and children, the third kind. -/
def encT (n : NodeP) (j x : Nat) : Nat := if x < 4 then baseG n x else if x < 36 then dig (blk (tabN (n.keys.take j)) (x - 4)) else if x < 36 + j then ((n.kids[x - 36]?).getD 0).toNat else 0
section
variable {n : NodeP} {p o : Nat} {kv iv : AV}
theorem tab_small {ks : List Nat} (h : ks.length < 256) : ∀ x ∈ tabN ks, x < 256 := by
  intro x hx
  simp only [tabN, List.mem_map] at hx
  obtain ⟨b, _, rfl⟩ := hx
  have := tabAt_le ks b
  omega
theorem take_key {i b : Nat} (hb : n.keys[i]? = some b) : n.keys.take (i + 1) = n.keys.take i ++ [b] ∧ (n.keys.take i).length = i := by
  have hl := (List.getElem?_eq_some_iff.1 hb).1
  exact ⟨by rw [List.take_add_one, hb]; rfl, by rw [List.length_take]; omega⟩
theorem key_new (r : RightP n) {i b : Nat} (hb : n.keys[i]? = some b) : b ∉ n.keys.take i := by
  intro hm
  obtain ⟨j, hj⟩ := List.getElem?_of_mem hm
  rw [List.getElem?_take] at hj
  split at hj
  · rename_i hji
    have := rise_of r.rise hji hj hb
    omega
  · cases hj
/-- A table's word, one key more. -/
theorem tab_word (r : RightP n) {i b j : Nat} (hb : n.keys[i]? = some b) (hb256 : b < 256) (hi : i < 255) : dig (blk (tabN (n.keys.take (i + 1))) j) = if b / 8 = j then dig (blk (tabN (n.keys.take i)) j) ||| (i + 1) * 2 ^ (8 * (b % 8)) else dig (blk (tabN (n.keys.take i)) j) := by
  obtain ⟨e1, e2⟩ := take_key hb
  have hn := key_new r hb
  rw [e1, tabN_snoc hb256 hn, e2, blk_set]
  split
  · rename_i hj
    subst hj
    refine dig_set (by omega) _ _ (blk_small (tab_small (by omega)) _) ?_
    rw [blk_get, tabN_get hb256]
    unfold tabAt
    rw [if_neg hn]
  · rfl
theorem encT_next (r : RightP n) (hkd : n.kind = 3) {i b : Nat} {x : Int} {X : Nat} (hb : n.keys[i]? = some b) (hx : n.kids[i]? = some x) (hX : x = (X : Int)) (hb256 : b < 256) (hi : i < 48) :
    (fun y => if y = 36 + i then X else if y = 4 + b / 8 then dig (blk (tabN (n.keys.take i)) (b / 8)) ||| (i + 1) * 2 ^ (8 * (b % 8)) else encT n i y) = encT n (i + 1) := by
  funext y
  unfold encT
  by_cases y1 : y = 36 + i
  · subst y1
    rw [if_pos rfl, if_neg (by omega), if_neg (by omega), if_pos (by omega), show 36 + i - 36 = i by omega, hx, Option.getD_some, hX, Int.toNat_natCast]
  rw [if_neg y1]
  by_cases y2 : y = 4 + b / 8
  · subst y2
    rw [if_pos rfl, if_neg (by omega), if_pos (by omega), tab_word r hb hb256 (by omega), show 4 + b / 8 - 4 = b / 8 by omega, if_pos rfl]
  rw [if_neg y2]
  by_cases y3 : y < 4
  · rw [if_pos y3, if_pos y3]
  rw [if_neg y3, if_neg y3]
  by_cases y4 : y < 36
  · rw [if_pos y4, if_pos y4, tab_word r hb hb256 (by omega), if_neg (by omega)]
  rw [if_neg y4, if_neg y4]
  by_cases y5 : y < 36 + i
  · rw [if_pos y5, if_pos (by omega)]
  · rw [if_neg y5, if_neg (by omega)]
theorem encG_three (hkd : n.kind = 3) : ∀ (m x : Nat), m ≤ n.keys.length → encG n m x = if x < 36 then encH n x else if x < 36 + m then ((n.kids[x - 36]?).getD 0).toNat else 0
  | 0, x, _ => by
    simp only [encG, Nat.add_zero]
    by_cases h : x < 36
    · rw [if_pos h]
    · rw [if_neg h, if_neg h]
      unfold encH
      rw [if_neg (by omega), if_neg (by omega), if_neg (by omega), if_neg (by omega), if_neg (by omega), if_pos hkd, if_neg h]
  | m + 1, x, hm => by
    have ih := encG_three hkd m x (by omega)
    simp only [encG, ih]
    have hp : plP n.kind m ((n.keys[m]?).getD 0) = 36 + m := by rw [hkd]; rfl
    rw [hp]
    by_cases e : x = 36 + m
    · subst e
      rw [if_pos rfl, if_neg (by omega), if_pos (by omega), show 36 + m - 36 = m by omega]
    · rw [if_neg e]
      by_cases h : x < 36
      · rw [if_pos h, if_pos h]
      · rw [if_neg h, if_neg h]
        by_cases h2 : x < 36 + m
        · rw [if_pos h2, if_pos (by omega)]
        · rw [if_neg h2, if_neg (by omega)]
theorem encT_end (hkd : n.kind = 3) (x : Nat) : encG n n.keys.length x = encT n n.keys.length x := by
  rw [encG_three hkd _ x (Nat.le_refl _)]
  unfold encT
  rw [List.take_of_length_le (Nat.le_refl _)]
  by_cases h : x < 36
  · rw [if_pos h]
    by_cases h4 : x < 4
    · rw [if_pos h4]
      unfold encH baseG
      by_cases h0 : x = 0
      · simp [h0]
      · by_cases h1 : x = 1
        · simp [h1]
        · simp [h0, h1, h4]
    · rw [if_neg h4, if_pos h]
      unfold encH
      rw [if_neg (by omega), if_neg (by omega), if_neg h4, if_neg (by omega), if_neg (by omega), if_pos hkd, if_pos h]
  · simp only [if_neg h, if_neg (show ¬ x < 4 by omega)]
theorem encT_zero (x : Nat) : encT n 0 x = baseG n x := by
  unfold encT
  by_cases h4 : x < 4
  · rw [if_pos h4]
  · rw [if_neg h4]
    have hb : baseG n x = 0 := by unfold baseG; rw [if_neg (by omega), if_neg (by omega), if_neg h4]
    rw [hb]
    split
    · have e : tabN (n.keys.take 0) = List.replicate 256 0 := by
        apply List.ext_getElem?
        intro i
        by_cases hi : i < 256
        · rw [tabN_get hi, List.getElem?_replicate, if_pos hi]; rfl
        · rw [List.getElem?_eq_none (by rw [tabN_len]; omega), List.getElem?_eq_none (by simp; omega)]
      have d0 : ∀ n, dig (List.replicate n 0) = 0 := by
        intro n
        induction n with
        | zero => rfl
        | succ n ih => rw [List.replicate_succ, dig, ih]
      rw [e]
      unfold blk
      rw [List.drop_replicate, List.take_replicate, d0]
    · first | rfl | (split <;> first | omega | rfl)
theorem enc38_l2 (r : RightP n) (hk : ∀ b ∈ n.keys, b < 256) (hkd : n.kind = 3) (he : Lies h p kv iv n) (w : WordsAt h o (sizeP n.kind) (encT n 0)) (hpo : p ≠ o) (hok : o ∉ objs kv) (hoi : o ∉ objs iv) {f : Fr}
    (f1 : f.at 1 = .ptr p 0) (f3 : f.at 3 = wordsV o (sizeP n.kind)) (f29 : f.at 70 = kv) (f30 : f.at 71 = .int .i64 (n.keys.length : Int)) (f31 : f.at 72 = .int .i64 0) {Q : AExit → Fr → AH → Prop}
    (hq : ∀ f' g, Upd h g o → WordsAt g o (sizeP n.kind) (encG n n.keys.length) → f'.at 3 = wordsV o (sizeP n.kind) → Q (.exit 5) f' g) : Wp (code T (.loop c38l2) f h) Q := by
  have fa : ∀ o j, fieldAddrV j (.ptr o 0) = some (.ptr o (0 + j)) := fun o j => rfl
  have hfew := r.few
  have hh : highP n.kind = 48 := by rw [hkd]; rfl
  have hsz : sizeP n.kind = 88 := by rw [hkd]; rfl
  refine wpc_loop (fun d f' g => ∃ i, d = n.keys.length - i ∧ i ≤ n.keys.length ∧ Upd h g o ∧ WordsAt g o (sizeP n.kind) (encT n i) ∧ f'.at 1 = .ptr p 0 ∧ f'.at 3 = wordsV o (sizeP n.kind) ∧ f'.at 70 = kv ∧ f'.at 71 = .int .i64 (n.keys.length : Int) ∧ f'.at 72 = .int .i64 (i : Nat)) ?_ n.keys.length _ _ ⟨0, rfl, Nat.zero_le _, Upd.refl _ _, w, f1, f3, f29, f30, f31⟩
  rintro d f' g ⟨i, rfl, hi, u, wg, g1, g3, g29, g30, g31⟩
  by_cases hlt : i < n.keys.length
  · have d1 : decide ((i : Int) < (n.keys.length : Int)) = true := by rw [decide_eq_true_eq]; omega
    obtain ⟨b, hb⟩ : ∃ b, n.keys[i]? = some b := ⟨_, List.getElem?_eq_getElem hlt⟩
    have hb256 := hk b (List.mem_of_getElem? hb)
    obtain ⟨x, X, hx, hX, hX64⟩ := kid_word r hlt
    have heg : Lies g p kv iv n := he.upd u hpo hok hoi
    obtain ⟨pk, hk1, hk2⟩ := heg.sk.at (i := i) (x := .int .u8 (b : Int)) (by simp [kcells, hb]) .i64
    have w1 : IntKind.i64.wrap ((i : Int) + 1) = ((i + 1 : Nat) : Int) := by rw [wrap_i64 (by omega) (by omega)]; omega
    have wb : IntKind.i64.wrap (b : Int) = (b : Int) := wrap_i64 (by omega) (by omega)
    have w4 : IntKind.i64.wrap (4 + ((b / 8 : Nat) : Int)) = ((4 + b / 8 : Nat) : Int) := by rw [wrap_i64 (by omega) (by omega)]; omega
    have w36 : IntKind.i64.wrap (36 + (i : Int)) = ((36 + i : Nat) : Int) := by rw [wrap_i64 (by omega) (by omega)]; omega
    have wi : IntKind.u64.wrap ((i + 1 : Nat) : Int) = ((i + 1 : Nat) : Int) := wrap_u64 (by omega)
    have wm : IntKind.i64.wrap (8 * ((b % 8 : Nat) : Int)) = ((8 * (b % 8) : Nat) : Int) := by rw [wrap_i64 (by omega) (by omega)]; omega
    have w5 : IntKind.u64.wrap x = (X : Int) := by rw [hX]; exact wrap_u64 hX64
    have hp8 := pow8 (m := b % 8) (b := i + 1) (Nat.mod_lt _ (by decide)) (by omega)
    have hsh := bin_shl_w (k' := .i64) (a := i + 1) (n := 8 * (b % 8)) (by omega) hp8
    have hl4 : 4 + b / 8 < sizeP n.kind := by omega
    have hl36 : 36 + i < sizeP n.kind := by omega
    have hold := wg.load hl4
    have heT : encT n i (4 + b / 8) = dig (blk (tabN (n.keys.take i)) (b / 8)) := by
      unfold encT; rw [if_neg (by omega), if_pos (by omega), show 4 + b / 8 - 4 = b / 8 by omega]
    rw [heT] at hold
    have dl : ∀ ks : List Nat, ks.length < 256 → ∀ j, dig (blk (tabN ks) j) < 18446744073709551616 := fun ks hks j => Nat.lt_of_lt_of_le (dig_lt _ (blk_small (tab_small hks) j)) (Nat.le_trans (Nat.pow_le_pow_right (by decide) (blk_len _ j)) (by decide))
    have htw := tab_word r (j := b / 8) hb hb256 (by omega)
    rw [if_pos rfl] at htw
    have hor := bin_or_u64 (dl (n.keys.take i) (by rw [List.length_take]; omega) (b / 8)) hp8 (by rw [← htw]; exact dl _ (by rw [List.length_take]; omega) _)
    obtain ⟨g2, hst, u2, wg2⟩ := wg.store hl4 (dig (blk (tabN (n.keys.take i)) (b / 8)) ||| (i + 1) * 2 ^ (8 * (b % 8)))
    have heg2 : Lies g2 p kv iv n := heg.upd u2 hpo hok hoi
    obtain ⟨pp, hp1, hp2⟩ := heg2.si.at (i := i) (x := .int .i64 x) (by simp [icells, hx]) .i64
    obtain ⟨g3', hst3, u3, wg3⟩ := wg2.store hl36 X
    have hnx := encT_next r hkd hb hx hX hb256 (by omega)
    rw [hnx] at wg3
    simp only [c38l2, vms, vmc, AOpd.val, Nat.reduceEqDiff, reduceCtorEq, Nat.reduceAdd, Nat.reduceBEq, g1, g3, g29, g30, g31, d1, hk1, hk2, wb, quo8 (show b < 1000 by omega), rem8 (show b < 1000 by omega), w4, WordsAt.idx hl4, hold, w1, wi, wm, hsh, hor, hst, w36, fa, Nat.zero_add, heg2.kids, hp1, hp2, w5, WordsAt.idx hl36, hst3]
    refine ⟨n.keys.length - (i + 1), by omega, i + 1, rfl, by omega, (u.trans u2).trans u3, wg3, ?_, ?_, ?_, ?_, ?_⟩
    all_goals first | trivial | assumption | rfl
  · have d1 : decide ((i : Int) < (n.keys.length : Int)) = false := by rw [decide_eq_false_iff_not]; omega
    have e : i = n.keys.length := by omega
    subst e
    simp only [c38l2, vms, vmc, AOpd.val, Nat.reduceEqDiff, reduceCtorEq, Nat.reduceAdd, Nat.reduceBEq, g30, g31, d1]
    exact hq _ g u (wg.eq fun j _ => encT_end hkd j) (by simp only [vms, vmc, AOpd.val, Nat.reduceEqDiff, reduceCtorEq, Nat.reduceAdd, Nat.reduceBEq, g3])
end
end Go.Proofs.Ytpabmkicdcilpaa
/- The reference's nodes: Encode, the whole. -/
namespace Go.Proofs.Ytpabmkicdcilpaa
open Go.Vm
set_option linter.unusedSimpArgs false
set_option linter.unusedVariables false
set_option maxRecDepth 100000
variable {T : Vm.Prog} {h : AH}
theorem encode38_ok (k : Fits T) (hl : Low h) {v : AV} {n : NodeP} (ok : n.Ok) (s : NodeV h v n) (hk : ∀ b ∈ n.keys, b < 256) :
    Gives T 38 [v] h fun r h' => Quiet h h' ∧ Low h' ∧ Row1 h' r (wcells (encW n)) ∧ ∀ o ∈ objs r, h.next ≤ o := by
  obtain ⟨kv, iv, rfl, s1, s2⟩ := s
  refine gives_func (k.env _ (by decide)) (k.at (fn := a38) rfl) rfl ?_
  have fa : ∀ o j, fieldAddrV j (.ptr o 0) = some (.ptr o (0 + j)) := fun o j => rfl
  have q1 : Quiet h (h.new (.cells (n.cells kv iv) true)) := (Quiet.refl _).new _
  have lo1 : Low (h.new (.cells (n.cells kv iv) true)) := hl.new _
  have L1 : Lies (h.new (.cells (n.cells kv iv) true)) h.next kv iv n := ⟨get_new_same, sees_keep s1 hl q1, sees_keep s2 hl q1⟩
  have nx1 : (h.new (.cells (n.cells kv iv) true)).next = h.next + 1 := rfl
  have lk : ∀ o ∈ objs kv, o < h.next := sees_low s1 hl
  have li : ∀ o ∈ objs iv, o < h.next := sees_low s2 hl
  simp only [a38, c38, vms, vmc, AOpd.val, Nat.reduceEqDiff, reduceCtorEq, Nat.reduceAdd, Nat.reduceBEq, box_agg, load_all L1.get (n := 5) rfl]
  generalize (h.new (.cells (n.cells kv iv) true)) = h1 at *
  refine Gives.bind ((rightR_ok k lo1 ok ⟨kv, iv, rfl, L1.sk, L1.si⟩).mono ?_)
  rintro _ h2 ⟨rfl, q2, lo2⟩
  have n2 := q2.1
  have L2 := L1.keep lo1 q2
  by_cases hr : RightP n
  rotate_left
  · have hw : encW n = [] := by unfold encW; rw [rightP_no hr]; rfl
    simp only [vms, vmc, AOpd.val, Nat.reduceEqDiff, reduceCtorEq, Nat.reduceAdd, Nat.reduceBEq, rightP_no hr, Bool.not_false]
    exact ⟨q1.trans q2, lo2, .inl ⟨rfl, by rw [hw]; rfl⟩, fun o ho => by simp [objs] at ho⟩
  have hw : encW n = encP n := by unfold encW; rw [rightP_iff.2 hr]; rfl
  simp only [vms, vmc, AOpd.val, Nat.reduceEqDiff, reduceCtorEq, Nat.reduceAdd, Nat.reduceBEq, rightP_iff.2 hr, Bool.not_true, load_all L2.get (n := 5) rfl]
  refine Gives.bind ((head67_ok k lo2 hr L2.sk L2.si ok.word).mono ?_)
  rintro _ h7 ⟨q7, lo7, o, rfl, hno, w8⟩
  have L7 := L2.keep lo2 q7
  have hpo : h.next ≠ o := by omega
  have hok : o ∉ objs kv := fun hm => by have := lk o hm; omega
  have hoi : o ∉ objs iv := fun hm => by have := li o hm; omega
  have q07 := (q1.trans q2).trans q7
  have hho : h.next ≤ o := by omega
  have hfew := hr.few
  have hsm := hr.same
  have lenk : lenOfV kv = some n.keys.length := by simpa [kcells] using L7.sk.len
  have leni : lenOfV iv = some n.keys.length := by rw [hsm]; simpa [icells] using L7.si.len
  have hE : ∀ j, encG n 0 j = encH n j := fun j => rfl
  have done : ∀ {g : AH}, Upd h7 g o → WordsAt g o (sizeP n.kind) (encG n n.keys.length) → Quiet h g ∧ Low g ∧ Row1 g (wordsV o (sizeP n.kind)) (wcells (encW n)) ∧ ∀ o' ∈ objs (wordsV o (sizeP n.kind)), h.next ≤ o' := fun u w => ⟨quiet_upd q07 u hho, lo7.upd u (w8.low lo7), by rw [hw]; exact w.row, fun x hx => by simp [wordsV, objs] at hx; omega⟩
  have done2 : ∀ {g9 g : AH}, Quiet h7 g9 → Low g9 → o < g9.next → Upd g9 g o → WordsAt g o (sizeP n.kind) (encG n n.keys.length) → Quiet h g ∧ Low g ∧ Row1 g (wordsV o (sizeP n.kind)) (wcells (encW n)) ∧ ∀ o' ∈ objs (wordsV o (sizeP n.kind)), h.next ≤ o' := fun q9 lo9 ho9 u w => ⟨quiet_upd (q07.trans q9) u hho, lo9.upd u ho9, by rw [hw]; exact w.row, fun x hx => by simp [wordsV, objs] at hx; omega⟩
  rcases hr.kinds with e | e | e | e
  · have hf5 : n.keys.length ≤ 4 := by rw [e] at hfew; exact hfew
    have hs12 : sizeP n.kind = 12 := by rw [e]; rfl
    obtain ⟨t, ht1, ht2, ht3⟩ := sees_str L7.sk hk
    have sl4 : slcV 1 (wordsV o (sizeP n.kind)) (some (.int .i64 4)) (some (.int .i64 5)) none = some (.slice o 4 1 1 (sizeP n.kind - 4) true) := slcN (a := 4) (b := 5) (by decide) (by omega)
    simp only [vms, vmc, AOpd.val, Nat.reduceEqDiff, reduceCtorEq, Nat.reduceAdd, Nat.reduceBEq, fa, Nat.zero_add, L7.kind, eqI e, sl4, L7.keys, ht1]
    refine Gives.bind ((words_ref (g := 68) (k.env _ (by decide)) (k.at rfl) lo7 (s := t) (by omega)).mono ?_)
    intro r9 h9 iw9
    have sw9 := isWords_sees iw9
    obtain ⟨ex9, lo9, nx9, rfl, gw9⟩ := iw9
    have q9 := ex9.quiet
    have w9 := w8.quiet lo7 q9
    have L9 := L7.keep lo7 q9
    have hct : cntN t.length ≤ 1 := by unfold cntN; omega
    obtain ⟨h10, cp10, u10, w10⟩ := w9.copy (i := 4) sw9 (by rw [wordsN_len]; omega)
    rw [copy_same (m' := 1) (c' := sizeP n.kind - 4) (e' := true) (n := cntN t.length) (by rw [sw9.len, wcells_len, wordsN_len]) (by omega) hct] at cp10
    have L10 := L9.upd u10 hpo hok hoi
    simp only [vms, vmc, AOpd.val, Nat.reduceEqDiff, reduceCtorEq, Nat.reduceAdd, Nat.reduceBEq, cp10, fa, Nat.zero_add, L10.kids, leni]
    refine enc38_l0 hr e L10 (w10.eq fun j hj => ?_) hpo hok hoi ?_ ?_ ?_ ?_ (fun f' g u w f3 => ?_)
    · rw [hE, wordsN_len, words_getD (by rw [nat8_len]; exact cnt_room _), ht2]
      unfold encH baseG
      rw [if_pos e]
      have hz : n.keys.length ≤ 8 * cntN t.length := by rw [← ht3]; exact cnt_room _
      by_cases c4 : j < 4
      · rw [if_pos c4]
        have : ¬ (4 ≤ j ∧ j < 4 + cntN t.length) := by omega
        rw [if_neg this, if_pos c4]
      · have e0 : ¬ j = 0 := by omega
        have e1 : ¬ j = 1 := by omega
        simp only [if_neg e0, if_neg e1, if_neg c4]
        by_cases c5 : 4 ≤ j ∧ j < 4 + cntN t.length
        · rw [if_pos c5, if_pos (show j < 5 by omega)]
        · simp only [if_neg c5]
          split
          · rw [blk_out (by omega)]
          · rfl
    iterate 4 (· first | (simp only [vms, vmc, AOpd.val, Nat.reduceEqDiff, reduceCtorEq, Nat.reduceAdd, Nat.reduceBEq]; done) | (simp only [vms, vmc, AOpd.val, Nat.reduceEqDiff, reduceCtorEq, Nat.reduceAdd, Nat.reduceBEq]; rfl))
    simp only [vms, vmc, AOpd.val, Nat.reduceEqDiff, reduceCtorEq, Nat.reduceAdd, Nat.reduceBEq, f3]
    exact done2 q9 lo9 (w9.low lo9) (u10.trans u) w
  · have hf5 : n.keys.length ≤ 16 := by rw [e] at hfew; exact hfew
    have hs12 : sizeP n.kind = 24 := by rw [e]; rfl
    have ne1 : n.kind ≠ 1 := by omega
    obtain ⟨t, ht1, ht2, ht3⟩ := sees_str L7.sk hk
    have sl4 : slcV 1 (wordsV o (sizeP n.kind)) (some (.int .i64 4)) (some (.int .i64 6)) none = some (.slice o 4 1 2 (sizeP n.kind - 4) true) := slcN (a := 4) (b := 6) (by decide) (by omega)
    simp only [vms, vmc, AOpd.val, Nat.reduceEqDiff, reduceCtorEq, Nat.reduceAdd, Nat.reduceBEq, fa, Nat.zero_add, L7.kind, neI ne1, eqI e, sl4, L7.keys, ht1]
    refine Gives.bind ((words_ref (g := 68) (k.env _ (by decide)) (k.at rfl) lo7 (s := t) (by omega)).mono ?_)
    intro r9 h9 iw9
    have sw9 := isWords_sees iw9
    obtain ⟨ex9, lo9, nx9, rfl, gw9⟩ := iw9
    have q9 := ex9.quiet
    have w9 := w8.quiet lo7 q9
    have L9 := L7.keep lo7 q9
    have hct : cntN t.length ≤ 2 := by unfold cntN; omega
    obtain ⟨h10, cp10, u10, w10⟩ := w9.copy (i := 4) sw9 (by rw [wordsN_len]; omega)
    rw [copy_same (m' := 2) (c' := sizeP n.kind - 4) (e' := true) (n := cntN t.length) (by rw [sw9.len, wcells_len, wordsN_len]) (by omega) hct] at cp10
    have L10 := L9.upd u10 hpo hok hoi
    simp only [vms, vmc, AOpd.val, Nat.reduceEqDiff, reduceCtorEq, Nat.reduceAdd, Nat.reduceBEq, cp10, fa, Nat.zero_add, L10.kids, leni]
    refine enc38_l1 hr e L10 (w10.eq fun j hj => ?_) hpo hok hoi ?_ ?_ ?_ ?_ (fun f' g u w f3 => ?_)
    · rw [hE, wordsN_len, words_getD (by rw [nat8_len]; exact cnt_room _), ht2]
      unfold encH baseG
      rw [if_neg ne1, if_pos e]
      have hz : n.keys.length ≤ 8 * cntN t.length := by rw [← ht3]; exact cnt_room _
      by_cases c4 : j < 4
      · rw [if_pos c4]
        have : ¬ (4 ≤ j ∧ j < 4 + cntN t.length) := by omega
        rw [if_neg this, if_pos c4]
      · have e0 : ¬ j = 0 := by omega
        have e1 : ¬ j = 1 := by omega
        simp only [if_neg e0, if_neg e1, if_neg c4]
        by_cases c5 : 4 ≤ j ∧ j < 4 + cntN t.length
        · rw [if_pos c5, if_pos (show j < 6 by omega)]
        · simp only [if_neg c5]
          split
          · rw [blk_out (by omega)]
          · rfl
    iterate 4 (· first | (simp only [vms, vmc, AOpd.val, Nat.reduceEqDiff, reduceCtorEq, Nat.reduceAdd, Nat.reduceBEq]; done) | (simp only [vms, vmc, AOpd.val, Nat.reduceEqDiff, reduceCtorEq, Nat.reduceAdd, Nat.reduceBEq]; rfl))
    simp only [vms, vmc, AOpd.val, Nat.reduceEqDiff, reduceCtorEq, Nat.reduceAdd, Nat.reduceBEq, f3]
    exact done2 q9 lo9 (w9.low lo9) (u10.trans u) w
  · have ne1 : n.kind ≠ 1 := by omega
    have ne2 : n.kind ≠ 2 := by omega
    simp only [vms, vmc, AOpd.val, Nat.reduceEqDiff, reduceCtorEq, Nat.reduceAdd, Nat.reduceBEq, fa, Nat.zero_add, L7.kind, neI ne1, neI ne2, eqI e, L7.keys, lenk]
    refine enc38_l2 hr hk e L7 (w8.eq fun j _ => encT_zero j) hpo hok hoi ?_ ?_ ?_ ?_ ?_ (fun f' g u w f3 => ?_)
    iterate 5 (· first | (simp only [vms, vmc, AOpd.val, Nat.reduceEqDiff, reduceCtorEq, Nat.reduceAdd, Nat.reduceBEq]; done) | (simp only [vms, vmc, AOpd.val, Nat.reduceEqDiff, reduceCtorEq, Nat.reduceAdd, Nat.reduceBEq]; rfl))
    simp only [vms, vmc, AOpd.val, Nat.reduceEqDiff, reduceCtorEq, Nat.reduceAdd, Nat.reduceBEq, f3]
    exact done u w
  · have ne1 : n.kind ≠ 1 := by omega
    have ne2 : n.kind ≠ 2 := by omega
    have ne3 : n.kind ≠ 3 := by omega
    simp only [vms, vmc, AOpd.val, Nat.reduceEqDiff, reduceCtorEq, Nat.reduceAdd, Nat.reduceBEq, fa, Nat.zero_add, L7.kind, neI ne1, neI ne2, neI ne3, eqI e, L7.keys, lenk]
    refine enc38_l3 hr hk e L7 (w8.eq fun j _ => ?_) hpo hok hoi ?_ ?_ ?_ ?_ ?_ (fun f' g u w f3 => ?_)
    · rw [hE]
      unfold encH baseG
      rw [if_neg ne1, if_neg ne2, if_neg ne3]
    iterate 5 (· first | (simp only [vms, vmc, AOpd.val, Nat.reduceEqDiff, reduceCtorEq, Nat.reduceAdd, Nat.reduceBEq]; done) | (simp only [vms, vmc, AOpd.val, Nat.reduceEqDiff, reduceCtorEq, Nat.reduceAdd, Nat.reduceBEq]; rfl))
    simp only [vms, vmc, AOpd.val, Nat.reduceEqDiff, reduceCtorEq, Nat.reduceAdd, Nat.reduceBEq, f3]
    exact done u w
end Go.Proofs.Ytpabmkicdcilpaa

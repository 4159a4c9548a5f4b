/- TokenJoins: its loops. -/
import Derived.Test.YteajnglncglmfaaDoorP22I
namespace Go.Proofs.YteajnglncglmfaaDoor
open Go.Vm
set_option linter.unusedSimpArgs false
set_option linter.unusedVariables false
set_option maxRecDepth 100000
variable {T : Vm.Prog} {h : AH}
theorem right_ok (k : Base T) {t : Txt} (hg : GoodT t) : Gives T 15 [.str t] h fun r h' => r = .bool true ∧ h' = h := by
  have ib : Gives T 20 [.str t, .int .u8 0] h fun r h' => r = .int .i64 (idxB t 0) ∧ h' = h := by
    refine gives_func (k.env 20 (by decide)) (k.at (n := 20) rfl) rfl ?_
    simp only [a20, c20, vms, vmc, AOpd.val, Nat.reduceEqDiff, reduceCtorEq, Nat.reduceAdd, Nat.reduceBEq]
    refine Gives.bind ((idxByte_ok k (s := t) (c := 0)).mono ?_)
    rintro _ _ ⟨rfl, rfl⟩
    simp only [vms, vmc, AOpd.val, Nat.reduceEqDiff, reduceCtorEq, Nat.reduceAdd, Nat.reduceBEq]
    exact ⟨by trivial, by trivial⟩
  refine gives_func (k.env 15 (by decide)) (k.at (n := 15) rfl) rfl ?_
  have e1 : (t == ([] : Txt)) = false := by simpa using hg.1
  have hl := hg.2.1
  have d1 : decide ((t.length : Int) ≤ 12) = true := by rw [decide_eq_true_eq]; omega
  have d2 : decide (idxB t 0 < 0) = true := by
    rw [decide_eq_true_eq]
    exact idxB_neg.2 fun h0 => (hg.2.2 0 h0).2 rfl
  simp only [a15, c15, vms, vmc, AOpd.val, Nat.reduceEqDiff, reduceCtorEq, Nat.reduceAdd, Nat.reduceBEq, e1, d1]
  refine Gives.bind (ib.mono ?_)
  rintro _ _ ⟨rfl, rfl⟩
  simp only [vms, vmc, AOpd.val, Nat.reduceEqDiff, reduceCtorEq, Nat.reduceAdd, Nat.reduceBEq, d2]
  exact ⟨by trivial, by trivial⟩
theorem leq_false {a b : Txt} (hl : b < a) : binV .leq (.str a) (.str b) = some (.bool false) := by
  have h1 : Op.bytesLess a b = false := by rw [Go.Proofs.bytesLess_eq]; exact decide_eq_false fun hh => tlt_asymm hh hl
  have h2 : (a == b) = false := by
    have : a ≠ b := fun e => tlt_irrefl b (e ▸ hl)
    simpa using this
  simp [binV, strBin, h1, h2]
/-- Each term of the whole is one of the parts', right, and above the one ahead. -/
theorem all_loop (k : Base T) {X Y Z : List Txt} {vx vy vz : AV} {f : Fr} (sx : Sees h vx (X.map .str)) (sy : Sees h vy (Y.map .str)) (sz : Sees h vz (Z.map .str)) (hx : X.length < 1000000) (hy : Y.length < 1000000) (hz : Z.length < 1000000)
    (hr : Ris Z) (hin : ∀ t ∈ Z, t ∈ X ∨ t ∈ Y) (hg : ∀ t ∈ Z, GoodT t) (f5 : f.at 5 = vx) (f7 : f.at 7 = vy) (f9 : f.at 9 = vz) (f63 : f.at 63 = vz) (f64 : f.at 64 = .int .i64 (Z.length : Int)) (f65 : f.at 65 = .int .i64 0) :
    Wp (code T (.loop c8l2) f h) fun e f' h' => e = .exit 0 ∧ h' = h ∧ ∀ r, r < 11 → f'.at r = f.at r := by
  refine wpc_loop (fun m f' h' => ∃ i, m = Z.length - i ∧ i ≤ Z.length ∧ h' = h ∧ f'.at 65 = .int .i64 (i : Nat) ∧ ∀ r, (r < 11 ∨ r = 63 ∨ r = 64) → f'.at r = f.at r) ?_ Z.length f h ⟨0, by omega, by omega, rfl, f65, fun _ _ => rfl⟩
  rintro m f' h' ⟨i, rfl, hi, rfl, fi, fr⟩
  have f5' := (fr 5 (by decide)).trans f5
  have f7' := (fr 7 (by decide)).trans f7
  have f9' := (fr 9 (by decide)).trans f9
  have f63' := (fr 63 (by decide)).trans f63
  have f64' := (fr 64 (by decide)).trans f64
  have lx : lenOfV vx = some X.length := by simpa using sx.len
  have ly : lenOfV vy = some Y.length := by simpa using sy.len
  by_cases hlt : i < Z.length
  · have d1 : decide ((i : Int) < (Z.length : Int)) = true := by rw [decide_eq_true_eq]; omega
    obtain ⟨t, ht⟩ : ∃ t, Z[i]? = some t := ⟨_, List.getElem?_eq_getElem hlt⟩
    obtain ⟨p, hp1, hp2⟩ := sz.at (i := i) (x := .str t) (by simp [ht]) .i64
    have w2 : IntKind.i64.wrap ((i : Int) + 1) = ((i + 1 : Nat) : Int) := by rw [wrap_i64 (by omega) (by omega)]; omega
    have htm := List.mem_of_getElem? ht
    simp only [c8l2, vms, vmc, AOpd.val, Nat.reduceEqDiff, reduceCtorEq, Nat.reduceAdd, Nat.reduceBEq, f5', f63', f64', fi, d1, hp1, hp2, lx]
    refine (mem0 (T := T) sx hx (t := t) (b := false) (v := vx) (by simp only [vms, vmc, AOpd.val, Nat.reduceEqDiff, reduceCtorEq, Nat.reduceAdd, Nat.reduceBEq]) (by simp only [vms, vmc, AOpd.val, Nat.reduceEqDiff, reduceCtorEq, Nat.reduceAdd, Nat.reduceBEq]) (by simp only [vms, vmc, AOpd.val, Nat.reduceEqDiff, reduceCtorEq, Nat.reduceAdd, Nat.reduceBEq]) (by simp only [vms, vmc, AOpd.val, Nat.reduceEqDiff, reduceCtorEq, Nat.reduceAdd, Nat.reduceBEq]) (by simp only [vms, vmc, AOpd.val, Nat.reduceEqDiff, reduceCtorEq, Nat.reduceAdd, Nat.reduceBEq])).mono ?_
    rintro e g h'' ⟨rfl, rfl, g13, gr⟩
    have g7 : g.at 7 = vy := (gr 7 (by decide) (by decide) (by decide)).trans (by simp only [vms, vmc, AOpd.val, Nat.reduceEqDiff, reduceCtorEq, Nat.reduceAdd, Nat.reduceBEq]; exact f7')
    have g11 : g.at 11 = .int .i64 (i : Nat) := (gr 11 (by decide) (by decide) (by decide)).trans (by simp only [vms, vmc, AOpd.val, Nat.reduceEqDiff, reduceCtorEq, Nat.reduceAdd, Nat.reduceBEq])
    have g12 : g.at 12 = .str t := (gr 12 (by decide) (by decide) (by decide)).trans (by simp only [vms, vmc, AOpd.val, Nat.reduceEqDiff, reduceCtorEq, Nat.reduceAdd, Nat.reduceBEq])
    have g9 : g.at 9 = vz := (gr 9 (by decide) (by decide) (by decide)).trans (by simp only [vms, vmc, AOpd.val, Nat.reduceEqDiff, reduceCtorEq, Nat.reduceAdd, Nat.reduceBEq]; exact f9')
    have g65 : g.at 65 = .int .i64 (i : Nat) := (gr 65 (by decide) (by decide) (by decide)).trans (by simp only [vms, vmc, AOpd.val, Nat.reduceEqDiff, reduceCtorEq, Nat.reduceAdd, Nat.reduceBEq]; exact fi)
    simp only [vms, vmc, AOpd.val, Nat.reduceEqDiff, reduceCtorEq, Nat.reduceAdd, Nat.reduceBEq, g7, ly]
    refine (mem1 (T := T) sy hy (t := t) (b := (false || decide (t ∈ X))) (v := vy) (by simp only [vms, vmc, AOpd.val, Nat.reduceEqDiff, reduceCtorEq, Nat.reduceAdd, Nat.reduceBEq]) (by simp only [vms, vmc, AOpd.val, Nat.reduceEqDiff, reduceCtorEq, Nat.reduceAdd, Nat.reduceBEq]) (by simp only [vms, vmc, AOpd.val, Nat.reduceEqDiff, reduceCtorEq, Nat.reduceAdd, Nat.reduceBEq]) (by simp only [vms, vmc, AOpd.val, Nat.reduceEqDiff, reduceCtorEq, Nat.reduceAdd, Nat.reduceBEq]; exact g13) (by simp only [vms, vmc, AOpd.val, Nat.reduceEqDiff, reduceCtorEq, Nat.reduceAdd, Nat.reduceBEq]; exact g12)).mono ?_
    rintro e k' h'' ⟨rfl, rfl, k13, kr⟩
    have kk13 : k'.at 13 = .bool true := by
      rw [k13]; congr 1
      rcases hin t htm with h1 | h1 <;> simp [h1]
    have k11 : k'.at 11 = .int .i64 (i : Nat) := (kr 11 (by decide) (by decide) (by decide)).trans (by simp only [vms, vmc, AOpd.val, Nat.reduceEqDiff, reduceCtorEq, Nat.reduceAdd, Nat.reduceBEq]; exact g11)
    have k12 : k'.at 12 = .str t := (kr 12 (by decide) (by decide) (by decide)).trans (by simp only [vms, vmc, AOpd.val, Nat.reduceEqDiff, reduceCtorEq, Nat.reduceAdd, Nat.reduceBEq]; exact g12)
    have k9 : k'.at 9 = vz := (kr 9 (by decide) (by decide) (by decide)).trans (by simp only [vms, vmc, AOpd.val, Nat.reduceEqDiff, reduceCtorEq, Nat.reduceAdd, Nat.reduceBEq]; exact g9)
    have k65 : k'.at 65 = .int .i64 (i : Nat) := (kr 65 (by decide) (by decide) (by decide)).trans (by simp only [vms, vmc, AOpd.val, Nat.reduceEqDiff, reduceCtorEq, Nat.reduceAdd, Nat.reduceBEq]; exact g65)
    have frk : ∀ r, (r < 11 ∨ r = 63 ∨ r = 64) → k'.at r = f.at r := fun r hrr => by
      rw [kr r (by omega) (by omega) (by omega)]
      simp only [Fr.at_put]
      repeat rw [if_neg (by omega)]
      rw [gr r (by omega) (by omega) (by omega)]
      simp only [Fr.at_put]
      repeat rw [if_neg (by omega)]
      exact fr r hrr
    simp only [vms, vmc, AOpd.val, Nat.reduceEqDiff, reduceCtorEq, Nat.reduceAdd, Nat.reduceBEq, kk13, k12]
    refine Gives.bind ((right_ok k (hg t htm)).mono ?_)
    rintro _ _ ⟨rfl, rfl⟩
    by_cases h0 : i = 0
    · have d2 : decide ((i : Int) > 0) = false := by rw [decide_eq_false_iff_not]; omega
      simp only [vms, vmc, AOpd.val, Nat.reduceEqDiff, reduceCtorEq, Nat.reduceAdd, Nat.reduceBEq, k11, d2, k65, w2]
      refine ⟨Z.length - (i + 1), by omega, i + 1, rfl, by omega, by trivial, by trivial, fun r hrr => ?_⟩
      repeat rw [if_neg (by omega)]
      exact frk r hrr
    · have d2 : decide ((i : Int) > 0) = true := by rw [decide_eq_true_eq]; omega
      have w3 : IntKind.i64.wrap ((i : Int) - 1) = ((i - 1 : Nat) : Int) := by rw [wrap_i64 (by omega) (by omega)]; omega
      obtain ⟨y, hyy⟩ : ∃ y, Z[i - 1]? = some y := ⟨_, List.getElem?_eq_getElem (by omega)⟩
      obtain ⟨p', hq1, hq2⟩ := sz.at (i := i - 1) (x := .str y) (by simp [hyy]) .i64
      have hlt2 : y < t := by
        obtain ⟨h1, h2⟩ := List.getElem?_eq_some_iff.1 hyy
        obtain ⟨h3, h4⟩ := List.getElem?_eq_some_iff.1 ht
        have := List.pairwise_iff_getElem.1 hr (i - 1) i h1 h3 (by omega)
        rwa [h2, h4] at this
      simp only [vms, vmc, AOpd.val, Nat.reduceEqDiff, reduceCtorEq, Nat.reduceAdd, Nat.reduceBEq, k11, d2, k12, k9, w3, hq1, hq2, leq_false hlt2, k65, w2]
      refine ⟨Z.length - (i + 1), by omega, i + 1, rfl, by omega, by trivial, by trivial, fun r hrr => ?_⟩
      repeat rw [if_neg (by omega)]
      exact frk r hrr
  · have d1 : decide ((i : Int) < (Z.length : Int)) = false := by rw [decide_eq_false_iff_not]; omega
    simp only [c8l2, vms, vmc, AOpd.val, Nat.reduceEqDiff, reduceCtorEq, Nat.reduceAdd, Nat.reduceBEq, f64', fi, d1]
    refine ⟨by trivial, by trivial, fun r hrr => ?_⟩
    repeat rw [if_neg (by omega)]
    exact fr r (.inl hrr)
/-- Each term of the parts is one of the whole. -/
theorem back_loop {L Z : List Txt} {vl vz : AV} {f : Fr} (sl : Sees h vl (L.map .str)) (sz : Sees h vz (Z.map .str)) (hl : L.length < 1000000) (hz : Z.length < 1000000)
    (hin : ∀ t ∈ L, t ∈ Z) (f9 : f.at 9 = vz) (f121 : f.at 121 = vl) (f122 : f.at 122 = .int .i64 (L.length : Int)) (f123 : f.at 123 = .int .i64 0) :
    Wp (code T (.loop c8l4) f h) fun e f' h' => e = .exit 6 ∧ h' = h ∧ ∀ r, r < 19 → f'.at r = f.at r := by
  refine wpc_loop (fun m f' h' => ∃ i, m = L.length - i ∧ i ≤ L.length ∧ h' = h ∧ f'.at 123 = .int .i64 (i : Nat) ∧ ∀ r, (r < 19 ∨ r = 121 ∨ r = 122) → f'.at r = f.at r) ?_ L.length f h ⟨0, by omega, by omega, rfl, f123, fun _ _ => rfl⟩
  rintro m f' h' ⟨i, rfl, hi, rfl, fi, fr⟩
  have f9' := (fr 9 (by decide)).trans f9
  have f121' := (fr 121 (by decide)).trans f121
  have f122' := (fr 122 (by decide)).trans f122
  have lz : lenOfV vz = some Z.length := by simpa using sz.len
  by_cases hlt : i < L.length
  · have d1 : decide ((i : Int) < (L.length : Int)) = true := by rw [decide_eq_true_eq]; omega
    obtain ⟨t, ht⟩ : ∃ t, L[i]? = some t := ⟨_, List.getElem?_eq_getElem hlt⟩
    obtain ⟨p, hp1, hp2⟩ := sl.at (i := i) (x := .str t) (by simp [ht]) .i64
    have w2 : IntKind.i64.wrap ((i : Int) + 1) = ((i + 1 : Nat) : Int) := by rw [wrap_i64 (by omega) (by omega)]; omega
    have htm := hin t (List.mem_of_getElem? ht)
    simp only [c8l4, vms, vmc, AOpd.val, Nat.reduceEqDiff, reduceCtorEq, Nat.reduceAdd, Nat.reduceBEq, f9', f121', f122', fi, d1, hp1, hp2, lz]
    refine (mem3 (T := T) sz hz (t := t) (b := false) (v := vz) (by simp only [vms, vmc, AOpd.val, Nat.reduceEqDiff, reduceCtorEq, Nat.reduceAdd, Nat.reduceBEq]) (by simp only [vms, vmc, AOpd.val, Nat.reduceEqDiff, reduceCtorEq, Nat.reduceAdd, Nat.reduceBEq]) (by simp only [vms, vmc, AOpd.val, Nat.reduceEqDiff, reduceCtorEq, Nat.reduceAdd, Nat.reduceBEq]) (by simp only [vms, vmc, AOpd.val, Nat.reduceEqDiff, reduceCtorEq, Nat.reduceAdd, Nat.reduceBEq]) (by simp only [vms, vmc, AOpd.val, Nat.reduceEqDiff, reduceCtorEq, Nat.reduceAdd, Nat.reduceBEq])).mono ?_
    rintro e g h'' ⟨rfl, rfl, g20, gr⟩
    have gg20 : g.at 20 = .bool true := by rw [g20]; simp [htm]
    have g123 : g.at 123 = .int .i64 (i : Nat) := (gr 123 (by decide) (by decide) (by decide)).trans (by simp only [vms, vmc, AOpd.val, Nat.reduceEqDiff, reduceCtorEq, Nat.reduceAdd, Nat.reduceBEq]; exact fi)
    have frk : ∀ r, (r < 19 ∨ r = 121 ∨ r = 122) → g.at r = f.at r := fun r hrr => by
      rw [gr r (by omega) (by omega) (by omega)]
      simp only [Fr.at_put]
      repeat rw [if_neg (by omega)]
      exact fr r hrr
    simp only [vms, vmc, AOpd.val, Nat.reduceEqDiff, reduceCtorEq, Nat.reduceAdd, Nat.reduceBEq, gg20, g123, w2]
    refine ⟨L.length - (i + 1), by omega, i + 1, rfl, by omega, by trivial, by trivial, fun r hrr => ?_⟩
    repeat rw [if_neg (by omega)]
    exact frk r hrr
  · have d1 : decide ((i : Int) < (L.length : Int)) = false := by rw [decide_eq_false_iff_not]; omega
    simp only [c8l4, vms, vmc, AOpd.val, Nat.reduceEqDiff, reduceCtorEq, Nat.reduceAdd, Nat.reduceBEq, f122', fi, d1]
    refine ⟨by trivial, by trivial, fun r hrr => ?_⟩
    repeat rw [if_neg (by omega)]
    exact fr r (.inl hrr)
/-- A capital for a small letter. -/
def upper (c : UInt8) : UInt8 := if 97 ≤ c ∧ c ≤ 122 then c - 32 else c
theorem letter_upper (b : UInt8) : letter (upper b) = letter b := by
  have : ∀ n : Fin 256, letter (upper (UInt8.ofNat n.val)) = letter (UInt8.ofNat n.val) := by decide +kernel
  have h := this ⟨b.toNat, b.toNat_lt⟩
  simpa using h
theorem terms_upper (s : Txt) : terms (s.map upper) = terms s := by
  unfold terms words
  rw [List.map_map]
  congr 4
  funext b
  exact letter_upper b
theorem row_str {v : AV} {x : Txt} (r : Row1 h v (bytesOf x)) : toStrV h v = some (.str x) := by
  rcases r with ⟨rfl, e⟩ | ⟨o, cap, ex, l, rfl, hg, h1, h2, h3⟩
  · have : bytesOf x = [] := by simpa using e
    have : x = [] := by simpa [bytesOf] using this
    subst this; rfl
  · have h3' := Row1.get h3
    simp only [List.length_map, Nat.mul_one] at h1 h2
    have hseg := Row1.seg (xs := bytesOf x) (by omega) h3'
    simp only [toStrV, if_true, AH.load, hg, Nat.zero_add, List.length_map]
    rw [if_pos (by omega), hseg]
    simp only [Option.bind_some, strOf_bytes, Option.map_some]
theorem upper_loop (hl : Low h) {a : Txt} {f : Fr} (ha : a.length < 100000) (f0 : f.at 0 = .str a) (f23 : f.at 23 = .nilSlice) (f24 : f.at 24 = .int .i64 0) :
    Wp (code T (.loop c8l5) f h) fun e f' h' => e = .exit 10 ∧ Quiet h h' ∧ Low h' ∧ Row1 h' (f'.at 23) (bytesOf (a.map upper)) ∧ ∀ r, r < 23 → f'.at r = f.at r := by
  refine wpc_loop (fun m f' h' => ∃ i, m = a.length - i ∧ i ≤ a.length ∧ Quiet h h' ∧ Low h' ∧ Row1 h' (f'.at 23) (bytesOf ((a.take i).map upper)) ∧ (∀ o ∈ objs (f'.at 23), h.next ≤ o) ∧ f'.at 24 = .int .i64 (i : Nat) ∧ ∀ r, r < 23 → f'.at r = f.at r) ?_ a.length f h ⟨0, by omega, by omega, Quiet.refl _, hl, by rw [f23]; exact .inl ⟨rfl, rfl⟩, by rw [f23]; intro o ho; simp [objs] at ho, f24, fun _ _ => rfl⟩
  rintro m f' h' ⟨i, rfl, hi, q, lo, r1, fo, fi, fr⟩
  have f0' := (fr 0 (by decide)).trans f0
  by_cases hlt : i < a.length
  · have d1 : decide ((i : Int) < (a.length : Int)) = true := by rw [decide_eq_true_eq]; omega
    have ix : idxStrV (.str a) (.int .i64 (i : Int)) = some (.int .u8 (a[i].toNat : Int)) := by simp [idxStrV, hlt]
    have w2 : IntKind.i64.wrap ((i : Int) + 1) = ((i + 1 : Nat) : Int) := by rw [wrap_i64 (by omega) (by omega)]; omega
    have htk : bytesOf ((a.take (i + 1)).map upper) = bytesOf ((a.take i).map upper) ++ [.int .u8 ((upper a[i]).toNat : Int)] := by
      rw [List.take_succ_eq_append_getElem hlt]; simp only [bytesOf, List.map_append, List.map_cons, List.map_nil]
    have hb := a[i].toNat_lt
    obtain ⟨v', h2, ap, r2, ho, hm, lo2⟩ := row_app (bytes := 1) lo r1 (by decide) (by decide) (by simp [bytesOf]; omega) (x := .int .u8 ((upper a[i]).toNat : Int)) rfl
    have bf : fillV [.int .u8 0] [(0, 1, .int .u8 ((upper a[i]).toNat : Int))] = some [.int .u8 ((upper a[i]).toNat : Int)] := fillB
    have q2 : Quiet h h2 := Mods.trans q hm fun o ho' => .inr (fo o ho')
    have ho2 : ∀ o ∈ objs v', h.next ≤ o := fun o hoo => by
      rcases ho o hoo with h1 | h1
      · exact fo o h1
      · have := q.1; omega
    rw [← htk] at r2
    by_cases h1 : (a[i].toNat : Int) ≥ 97
    · have d2 : decide ((a[i].toNat : Int) ≥ 97) = true := decide_eq_true h1
      by_cases h3 : (a[i].toNat : Int) ≤ 122
      · have d3 : decide ((a[i].toNat : Int) ≤ 122) = true := decide_eq_true h3
        have e : upper a[i] = a[i] - 32 := by
          unfold upper
          rw [if_pos ⟨UInt8.le_iff_toNat_le.2 (by show 97 ≤ a[i].toNat; omega), UInt8.le_iff_toNat_le.2 (by show a[i].toNat ≤ 122; omega)⟩]
        have et : (a[i] - 32).toNat = a[i].toNat - 32 := by rw [UInt8.toNat_sub]; simp; omega
        have w3 : IntKind.u8.wrap ((a[i].toNat : Int) - 32) = ((upper a[i]).toNat : Int) := by
          rw [e, et, show (a[i].toNat : Int) - 32 = ((a[i].toNat - 32 : Nat) : Int) by omega, wrap_u8, Nat.mod_eq_of_lt (by omega)]
        simp only [c8l5, vms, vmc, AOpd.val, Nat.reduceEqDiff, reduceCtorEq, Nat.reduceAdd, Nat.reduceBEq, f0', fi, d1, ix, d2, d3, w3, bf, ap, w2]
        refine ⟨a.length - (i + 1), by omega, i + 1, rfl, by omega, q2, lo2, r2, ho2, by trivial, fun r hrr => ?_⟩
        repeat rw [if_neg (by omega)]
        exact fr r hrr
      · have d3 : decide ((a[i].toNat : Int) ≤ 122) = false := decide_eq_false h3
        have e : upper a[i] = a[i] := by
          unfold upper
          rw [if_neg]
          rintro ⟨_, h⟩; have : a[i].toNat ≤ 122 := UInt8.le_iff_toNat_le.1 h; omega
        rw [e] at bf ap
        simp only [c8l5, vms, vmc, AOpd.val, Nat.reduceEqDiff, reduceCtorEq, Nat.reduceAdd, Nat.reduceBEq, f0', fi, d1, ix, d2, d3, bf, ap, w2]
        refine ⟨a.length - (i + 1), by omega, i + 1, rfl, by omega, q2, lo2, r2, ho2, by trivial, fun r hrr => ?_⟩
        repeat rw [if_neg (by omega)]
        exact fr r hrr
    · have d2 : decide ((a[i].toNat : Int) ≥ 97) = false := decide_eq_false h1
      have e : upper a[i] = a[i] := by
        unfold upper
        rw [if_neg]
        rintro ⟨h, _⟩; have : 97 ≤ a[i].toNat := UInt8.le_iff_toNat_le.1 h; omega
      rw [e] at bf ap
      simp only [c8l5, vms, vmc, AOpd.val, Nat.reduceEqDiff, reduceCtorEq, Nat.reduceAdd, Nat.reduceBEq, f0', fi, d1, ix, d2, bf, ap, w2]
      refine ⟨a.length - (i + 1), by omega, i + 1, rfl, by omega, q2, lo2, r2, ho2, by trivial, fun r hrr => ?_⟩
      repeat rw [if_neg (by omega)]
      exact fr r hrr
  · have d1 : decide ((i : Int) < (a.length : Int)) = false := by rw [decide_eq_false_iff_not]; omega
    rw [List.take_of_length_le (by omega)] at r1
    simp only [c8l5, vms, vmc, AOpd.val, Nat.reduceEqDiff, reduceCtorEq, Nat.reduceAdd, Nat.reduceBEq, f0', fi, d1]
    refine ⟨by trivial, q, lo, r1, fun r hrr => ?_⟩
    repeat rw [if_neg (by omega)]
    exact fr r hrr
end Go.Proofs.YteajnglncglmfaaDoor

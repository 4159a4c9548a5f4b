/- Asks that came in; blocks that are written into. -/
import Derived.Test.YteokopjiaiflnaaP20Q
namespace Go.Proofs.Yteokopjiaiflnaa
open Go.Vm
set_option linter.unusedSimpArgs false
set_option linter.unusedVariables false
set_option maxRecDepth 100000
variable {T : Vm.Prog} {h : AH}
/-- Calls that came in: kind, number, how far back. -/
def Asks (h : AH) (v : AV) (l : List (Int × Int × Int)) : Prop := SeesS h 3 v (l.map fun a => [.int .i64 a.1, .int .i64 a.2.1, .int .i64 a.2.2])
theorem Asks.keep {h' : AH} {v : AV} {l : List (Int × Int × Int)} (s : Asks h v l) (hl : Low h) (q : Quiet h h') : Asks h' v l := SeesS.keep s fun o ho => q.2 o (SeesS.low s hl o ho) id
theorem Asks.len {v : AV} {l : List (Int × Int × Int)} (s : Asks h v l) : lenOfV v = some l.length := by
  have := SeesS.len s; simpa using this
theorem Asks.at {v : AV} {l : List (Int × Int × Int)} (s : Asks h v l) {i : Nat} {a : Int × Int × Int} (ha : l[i]? = some a) : ∃ o off, idxAddrV 3 v (.int .i64 (i : Int)) = some (.ptr o off) ∧ loadV h false 1 (.ptr o off) = some (.int .i64 a.1) ∧ loadV h false 1 (.ptr o (off + 1)) = some (.int .i64 a.2.1) ∧ loadV h false 1 (.ptr o (off + 2)) = some (.int .i64 a.2.2) := by
  obtain ⟨o, off, _, h1, h2⟩ := SeesS.at s (i := i) (x := [.int .i64 a.1, .int .i64 a.2.1, .int .i64 a.2.2]) (by simp [ha]) .i64
  exact ⟨o, off, h1, by simpa using h2 0 _ rfl, h2 1 _ rfl, h2 2 _ rfl⟩
theorem asks_in {P : Program} {v : AV} {t e : TypeId} (ht : P.underlying t = some (.slice e)) (h3 : P.cellsOf e = 3) (hp : plainT P false 12 e = true) (hs : shapeT P 12 e = [.int .i64, .int .i64, .int .i64]) (c : CameV P h t v) : ∃ l, Asks h v l ∧ l.length ≤ maxLen := by
  obtain ⟨xs, s, hl, hx, _⟩ := came_slice ht c
  rw [h3] at s
  have : ∃ l : List (Int × Int × Int), xs = l.map fun a => [.int .i64 a.1, .int .i64 a.2.1, .int .i64 a.2.2] := by
    clear s hl
    induction xs with
    | nil => exact ⟨[], rfl⟩
    | cons x xs ih =>
      obtain ⟨l, rfl⟩ := ih fun y hy => hx y (List.mem_cons_of_mem _ hy)
      have k := came_shape 12 e x hp (hx x (List.mem_cons_self ..))
      rw [hs] at k
      obtain ⟨z, rfl, hz, _⟩ := cells_ints (n := 3) k
      match z, hz with
      | [a, b, c], _ => exact ⟨(a, b, c) :: l, rfl⟩
  obtain ⟨l, rfl⟩ := this
  exact ⟨l, s, by simpa using hl⟩
/-- A slice of so many cells, whatever stands there. -/
def Wide (h : AH) (x : AV) (n : Nat) : Prop := (x = .nilSlice ∧ n = 0) ∨ ∃ o cap ex l, x = .slice o 0 1 n cap ex ∧ h.get o = some (.cells l true) ∧ n ≤ l.length
theorem Row1.wide {x : AV} {xs : List AV} (r : Row1 h x xs) : Wide h x xs.length := by
  rcases r with ⟨rfl, h0⟩ | ⟨o, cap, ex, l, rfl, hg, h1, h2, h3⟩
  · exact .inl ⟨rfl, by simpa using h0⟩
  · exact .inr ⟨o, cap, ex, l, by simp, hg, by simp at h1 h2; omega⟩
theorem Wide.len {x : AV} {n : Nat} (w : Wide h x n) : lenOfV x = some n := by
  rcases w with ⟨rfl, rfl⟩ | ⟨o, cap, ex, l, rfl, _⟩ <;> rfl
/-- What was wide is. -/
def Wides (h h' : AH) : Prop := ∀ x n, Wide h x n → Wide h' x n
theorem Wides.refl (h : AH) : Wides h h := fun _ _ w => w
theorem Wides.trans {h h' h'' : AH} (a : Wides h h') (b : Wides h' h'') : Wides h h'' := fun x n w => b x n (a x n w)
theorem Wide.store {x : AV} {n : Nat} (w : Wide h x n) (hl : Low h) {i : Nat} (hi : i < n) (z : Int) : ∃ p h', idxAddrV 1 x (.int .i64 (i : Int)) = some p ∧ storeV h 1 p (.int .i64 z) = some h' ∧ Mods h h' (fun o => o ∈ objs x) ∧ Low h' ∧ Wides h h' := by
  rcases w with ⟨rfl, rfl⟩ | ⟨o, cap, ex, l, rfl, hg, h1⟩
  · omega
  · refine ⟨.ptr o i, _, by simp [idxAddrV, hi], store_int hg (by omega), (Mods.refl _ _).set (.inl (by simp [objs])) _, hl.set (hl _ _ hg) _, ?_⟩
    rintro x' n' (⟨rfl, rfl⟩ | ⟨o', cap', ex', l', rfl, hg', h2⟩)
    · exact .inl ⟨rfl, rfl⟩
    · by_cases e : o' = o
      · subst e
        rw [hg] at hg'; cases hg'
        exact .inr ⟨o', cap', ex', _, rfl, get_set_same, by simpa using h2⟩
      · exact .inr ⟨o', cap', ex', l', rfl, by rw [AH.get_set, if_neg (Ne.symm e)]; exact hg', h2⟩
def faC : ACode := .seq (.ops [⟨(some 86), .mov (.tmp 16), none⟩, ⟨(some 87), .lenSlice (.tmp 86), none⟩, ⟨(some 88), .mov (.con (.int .i64 0)), none⟩]) (.block 6 (.loop c5l1))
theorem fa_ok {x : AV} {n : Nat} (w : Wide h x n) (hl : Low h) (hn : n < 100000) {f : Fr} (f16 : f.at 16 = x) {Q : AExit → Fr → AH → Prop}
    (hq : ∀ f' h3, Mods h h3 (fun o => o ∈ objs x) → Low h3 → Wides h h3 → f'.at 1 = f.at 1 → f'.at 5 = f.at 5 → f'.at 7 = f.at 7 → f'.at 9 = f.at 9 → f'.at 13 = f.at 13 → f'.at 80 = f.at 80 → f'.at 81 = f.at 81 → f'.at 82 = f.at 82 → Q .normal f' h3) : Wp (code T faC f h) Q := by
  have ln := w.len
  simp only [faC, vms, vmc, AOpd.val, Nat.reduceEqDiff, reduceCtorEq, Nat.reduceAdd, Nat.reduceBEq, f16, ln]
  refine wpc_loop (fun d f' h' => ∃ i, d = n - i ∧ i ≤ n ∧ Mods h h' (fun o => o ∈ objs x) ∧ Low h' ∧ Wides h h' ∧ f'.at 16 = x ∧ f'.at 87 = .int .i64 (n : Int) ∧ f'.at 88 = .int .i64 (i : Int) ∧ f'.at 1 = f.at 1 ∧ f'.at 5 = f.at 5 ∧ f'.at 7 = f.at 7 ∧ f'.at 9 = f.at 9 ∧ f'.at 13 = f.at 13 ∧ f'.at 80 = f.at 80 ∧ f'.at 81 = f.at 81 ∧ f'.at 82 = f.at 82) ?_ n _ _ ⟨0, by omega, by omega, Mods.refl _ _, hl, Wides.refl _, ?_⟩
  · rintro d f' h' ⟨i, rfl, hi, m, lo, ws, f16, f87, f88, e1, e5, e7, e9, e13, e80, e81, e82⟩
    by_cases hlt : i < n
    · have d1 : decide ((i : Int) < (n : Int)) = true := by rw [decide_eq_true_eq]; omega
      have w2 : IntKind.i64.wrap ((i : Int) + 1) = ((i + 1 : Nat) : Int) := by rw [wrap_i64 (by omega) (by omega)]; omega
      obtain ⟨p, h4, hp1, hp2, m4, lo4, ws4⟩ := (ws x n w).store lo hlt (-1)
      simp only [c5l1, vms, vmc, AOpd.val, Nat.reduceEqDiff, reduceCtorEq, Nat.reduceAdd, Nat.reduceBEq, f16, f87, f88, d1, w2, hp1, hp2]
      exact ⟨n - (i + 1), by omega, i + 1, rfl, by omega, m.trans m4 fun o ho => .inl ho, lo4, ws.trans ws4, by trivial, by trivial, by trivial, e1, e5, e7, e9, e13, e80, e81, e82⟩
    · have d1 : decide ((i : Int) < (n : Int)) = false := by rw [decide_eq_false_iff_not]; omega
      simp only [c5l1, vms, vmc, AOpd.val, Nat.reduceEqDiff, reduceCtorEq, Nat.reduceAdd, Nat.reduceBEq, f16, f87, f88, d1]
      exact hq _ _ m lo ws (by simp only [vms, vmc, AOpd.val, Nat.reduceEqDiff, reduceCtorEq, Nat.reduceAdd, Nat.reduceBEq, e1]) (by simp only [vms, vmc, AOpd.val, Nat.reduceEqDiff, reduceCtorEq, Nat.reduceAdd, Nat.reduceBEq, e5]) (by simp only [vms, vmc, AOpd.val, Nat.reduceEqDiff, reduceCtorEq, Nat.reduceAdd, Nat.reduceBEq, e7]) (by simp only [vms, vmc, AOpd.val, Nat.reduceEqDiff, reduceCtorEq, Nat.reduceAdd, Nat.reduceBEq, e9]) (by simp only [vms, vmc, AOpd.val, Nat.reduceEqDiff, reduceCtorEq, Nat.reduceAdd, Nat.reduceBEq, e13]) (by simp only [vms, vmc, AOpd.val, Nat.reduceEqDiff, reduceCtorEq, Nat.reduceAdd, Nat.reduceBEq, e80]) (by simp only [vms, vmc, AOpd.val, Nat.reduceEqDiff, reduceCtorEq, Nat.reduceAdd, Nat.reduceBEq, e81]) (by simp only [vms, vmc, AOpd.val, Nat.reduceEqDiff, reduceCtorEq, Nat.reduceAdd, Nat.reduceBEq, e82])
  · simp only [vms, vmc, AOpd.val, Nat.reduceEqDiff, reduceCtorEq, Nat.reduceAdd, Nat.reduceBEq, f16]
    simp
theorem c5l2_eq : c5l2 = (.seq (.ops [⟨(some 83), .bin .lss (.tmp 82) (.tmp 81), none⟩]) (.seq (.cond (.tmp 83) .skip (.exit 4)) (.seq (.block 5 (.seq (.ops [⟨(some 84), .idxAddr 1 (.tmp 80) (.tmp 82), none⟩, ⟨(some 85), .load false 1 (.tmp 84), none⟩, ⟨(some 16), .mov (.tmp 85), none⟩]) faC)) (.ops [⟨(some 95), .bin .add (.tmp 82) (.con (.int .i64 1)), none⟩, ⟨(some 82), .mov (.tmp 95), none⟩])))) := rfl
def baC : ACode := .block 4 (.loop c5l2)
theorem ba_ok {r : AV} {bs : List (List Int)} {N : Nat} (fr : Fresh N h r bs) (hl : Low h) (hn : bs.length < 100000) (hb : ∀ b ∈ bs, b.length < 100000) {f : Fr} (f80 : f.at 80 = r) (f81 : f.at 81 = .int .i64 (bs.length : Int)) (f82 : f.at 82 = .int .i64 0) {Q : AExit → Fr → AH → Prop}
    (hq : ∀ f' h3, Mods h h3 (fun o => N ≤ o) → Low h3 → f'.at 1 = f.at 1 → f'.at 5 = f.at 5 → f'.at 7 = f.at 7 → f'.at 9 = f.at 9 → f'.at 13 = f.at 13 → Q .normal f' h3) : Wp (code T baC f h) Q := by
  obtain ⟨xs, rr, hr, hlen, hx⟩ := fr
  simp only [baC, vms, vmc, AOpd.val, Nat.reduceEqDiff, reduceCtorEq, Nat.reduceAdd, Nat.reduceBEq]
  refine wpc_loop (fun d f' h' => ∃ i, d = bs.length - i ∧ i ≤ bs.length ∧ Mods h h' (fun o => N ≤ o ∧ o ∉ objs r) ∧ Low h' ∧ Wides h h' ∧ f'.at 80 = r ∧ f'.at 81 = .int .i64 (bs.length : Int) ∧ f'.at 82 = .int .i64 (i : Int) ∧ f'.at 1 = f.at 1 ∧ f'.at 5 = f.at 5 ∧ f'.at 7 = f.at 7 ∧ f'.at 9 = f.at 9 ∧ f'.at 13 = f.at 13) ?_ bs.length _ _ ⟨0, by omega, by omega, Mods.refl _ _, hl, Wides.refl _, ?_⟩
  · rintro d f' h' ⟨i, rfl, hi, m, lo, ws, f80', f81', f82', e1, e5, e7, e9, e13⟩
    by_cases hlt : i < bs.length
    · have d1 : decide ((i : Int) < (bs.length : Int)) = true := by rw [decide_eq_true_eq]; omega
      have w2 : IntKind.i64.wrap ((i : Int) + 1) = ((i + 1 : Nat) : Int) := by rw [wrap_i64 (by omega) (by omega)]; omega
      obtain ⟨b, hbi⟩ : ∃ b, bs[i]? = some b := ⟨_, List.getElem?_eq_getElem hlt⟩
      obtain ⟨x, hxi⟩ : ∃ x, xs[i]? = some x := ⟨_, List.getElem?_eq_getElem (by omega)⟩
      obtain ⟨rx, hxo⟩ := hx i x b hxi hbi
      have rr' : Row1 h' r xs := RowS.keep rr fun o ho => m.2 o (RowS.low rr hl o ho) fun hh => hh.2 ho
      obtain ⟨p, hp1, hp2⟩ := rr'.sees.at hxi .i64
      have wx := ws x _ (Row1.wide rx)
      have hbl : (izs b).length < 100000 := by rw [izs, List.length_map]; exact hb b (List.mem_of_getElem? hbi)
      simp only [c5l2_eq, vms, vmc, AOpd.val, Nat.reduceEqDiff, reduceCtorEq, Nat.reduceAdd, Nat.reduceBEq, f80', f81', f82', d1, hp1, hp2]
      refine fa_ok wx lo hbl (by simp only [vms, vmc, AOpd.val, Nat.reduceEqDiff, reduceCtorEq, Nat.reduceAdd, Nat.reduceBEq]) ?_
      intro f'' h4 m4 lo4 ws4 g1 g5 g7 g9 g13 g80 g81 g82
      simp only [vms, vmc, AOpd.val, Nat.reduceEqDiff, reduceCtorEq, Nat.reduceAdd, Nat.reduceBEq, f80', f81', f82'] at g1 g5 g7 g9 g13 g80 g81 g82
      simp only [vms, vmc, AOpd.val, Nat.reduceEqDiff, reduceCtorEq, Nat.reduceAdd, Nat.reduceBEq, g80, g81, g82, w2]
      exact ⟨bs.length - (i + 1), by omega, i + 1, rfl, by omega, m.trans m4 fun o ho => .inl (hxo o ho), lo4, ws.trans ws4, by trivial, by trivial, by trivial, by rw [g1, e1], by rw [g5, e5], by rw [g7, e7], by rw [g9, e9], by rw [g13, e13]⟩
    · have d1 : decide ((i : Int) < (bs.length : Int)) = false := by rw [decide_eq_false_iff_not]; omega
      simp only [c5l2_eq, vms, vmc, AOpd.val, Nat.reduceEqDiff, reduceCtorEq, Nat.reduceAdd, Nat.reduceBEq, f80', f81', f82', d1]
      exact hq _ _ (m.mono fun o ho => .inl ho.1) lo (by simp only [vms, vmc, AOpd.val, Nat.reduceEqDiff, reduceCtorEq, Nat.reduceAdd, Nat.reduceBEq, e1]) (by simp only [vms, vmc, AOpd.val, Nat.reduceEqDiff, reduceCtorEq, Nat.reduceAdd, Nat.reduceBEq, e5]) (by simp only [vms, vmc, AOpd.val, Nat.reduceEqDiff, reduceCtorEq, Nat.reduceAdd, Nat.reduceBEq, e7]) (by simp only [vms, vmc, AOpd.val, Nat.reduceEqDiff, reduceCtorEq, Nat.reduceAdd, Nat.reduceBEq, e9]) (by simp only [vms, vmc, AOpd.val, Nat.reduceEqDiff, reduceCtorEq, Nat.reduceAdd, Nat.reduceBEq, e13])
  · simp only [vms, vmc, AOpd.val, Nat.reduceEqDiff, reduceCtorEq, Nat.reduceAdd, Nat.reduceBEq, f80, f81, f82]
    simp
def fbC : ACode := .seq (.ops [⟨(some 103), .mov (.tmp 19), none⟩, ⟨(some 104), .lenSlice (.tmp 103), none⟩, ⟨(some 105), .mov (.con (.int .i64 0)), none⟩]) (.block 10 (.loop c5l3))
theorem fb_ok {x : AV} {n : Nat} (w : Wide h x n) (hl : Low h) (hn : n < 100000) {f : Fr} (f19 : f.at 19 = x) {Q : AExit → Fr → AH → Prop}
    (hq : ∀ f' h3, Mods h h3 (fun o => o ∈ objs x) → Low h3 → Wides h h3 → f'.at 1 = f.at 1 → f'.at 5 = f.at 5 → f'.at 7 = f.at 7 → f'.at 9 = f.at 9 → f'.at 13 = f.at 13 → f'.at 97 = f.at 97 → f'.at 98 = f.at 98 → f'.at 99 = f.at 99 → Q .normal f' h3) : Wp (code T fbC f h) Q := by
  have ln := w.len
  simp only [fbC, vms, vmc, AOpd.val, Nat.reduceEqDiff, reduceCtorEq, Nat.reduceAdd, Nat.reduceBEq, f19, ln]
  refine wpc_loop (fun d f' h' => ∃ i, d = n - i ∧ i ≤ n ∧ Mods h h' (fun o => o ∈ objs x) ∧ Low h' ∧ Wides h h' ∧ f'.at 19 = x ∧ f'.at 104 = .int .i64 (n : Int) ∧ f'.at 105 = .int .i64 (i : Int) ∧ f'.at 1 = f.at 1 ∧ f'.at 5 = f.at 5 ∧ f'.at 7 = f.at 7 ∧ f'.at 9 = f.at 9 ∧ f'.at 13 = f.at 13 ∧ f'.at 97 = f.at 97 ∧ f'.at 98 = f.at 98 ∧ f'.at 99 = f.at 99) ?_ n _ _ ⟨0, by omega, by omega, Mods.refl _ _, hl, Wides.refl _, ?_⟩
  · rintro d f' h' ⟨i, rfl, hi, m, lo, ws, f19, f104, f105, e1, e5, e7, e9, e13, e97, e98, e99⟩
    by_cases hlt : i < n
    · have d1 : decide ((i : Int) < (n : Int)) = true := by rw [decide_eq_true_eq]; omega
      have w2 : IntKind.i64.wrap ((i : Int) + 1) = ((i + 1 : Nat) : Int) := by rw [wrap_i64 (by omega) (by omega)]; omega
      obtain ⟨p, h4, hp1, hp2, m4, lo4, ws4⟩ := (ws x n w).store lo hlt (-2)
      simp only [c5l3, vms, vmc, AOpd.val, Nat.reduceEqDiff, reduceCtorEq, Nat.reduceAdd, Nat.reduceBEq, f19, f104, f105, d1, w2, hp1, hp2]
      exact ⟨n - (i + 1), by omega, i + 1, rfl, by omega, m.trans m4 fun o ho => .inl ho, lo4, ws.trans ws4, by trivial, by trivial, by trivial, e1, e5, e7, e9, e13, e97, e98, e99⟩
    · have d1 : decide ((i : Int) < (n : Int)) = false := by rw [decide_eq_false_iff_not]; omega
      simp only [c5l3, vms, vmc, AOpd.val, Nat.reduceEqDiff, reduceCtorEq, Nat.reduceAdd, Nat.reduceBEq, f19, f104, f105, d1]
      exact hq _ _ m lo ws (by simp only [vms, vmc, AOpd.val, Nat.reduceEqDiff, reduceCtorEq, Nat.reduceAdd, Nat.reduceBEq, e1]) (by simp only [vms, vmc, AOpd.val, Nat.reduceEqDiff, reduceCtorEq, Nat.reduceAdd, Nat.reduceBEq, e5]) (by simp only [vms, vmc, AOpd.val, Nat.reduceEqDiff, reduceCtorEq, Nat.reduceAdd, Nat.reduceBEq, e7]) (by simp only [vms, vmc, AOpd.val, Nat.reduceEqDiff, reduceCtorEq, Nat.reduceAdd, Nat.reduceBEq, e9]) (by simp only [vms, vmc, AOpd.val, Nat.reduceEqDiff, reduceCtorEq, Nat.reduceAdd, Nat.reduceBEq, e13]) (by simp only [vms, vmc, AOpd.val, Nat.reduceEqDiff, reduceCtorEq, Nat.reduceAdd, Nat.reduceBEq, e97]) (by simp only [vms, vmc, AOpd.val, Nat.reduceEqDiff, reduceCtorEq, Nat.reduceAdd, Nat.reduceBEq, e98]) (by simp only [vms, vmc, AOpd.val, Nat.reduceEqDiff, reduceCtorEq, Nat.reduceAdd, Nat.reduceBEq, e99])
  · simp only [vms, vmc, AOpd.val, Nat.reduceEqDiff, reduceCtorEq, Nat.reduceAdd, Nat.reduceBEq, f19]
    simp
theorem c5l4_eq : c5l4 = (.seq (.ops [⟨(some 100), .bin .lss (.tmp 99) (.tmp 98), none⟩]) (.seq (.cond (.tmp 100) .skip (.exit 8)) (.seq (.block 9 (.seq (.ops [⟨(some 101), .idxAddr 1 (.tmp 97) (.tmp 99), none⟩, ⟨(some 102), .load false 1 (.tmp 101), none⟩, ⟨(some 19), .mov (.tmp 102), none⟩]) fbC)) (.ops [⟨(some 112), .bin .add (.tmp 99) (.con (.int .i64 1)), none⟩, ⟨(some 99), .mov (.tmp 112), none⟩])))) := rfl
def bbC : ACode := .block 8 (.loop c5l4)
theorem bb_ok {r : AV} {bs : List (List Int)} {N : Nat} (fr : Fresh N h r bs) (hl : Low h) (hn : bs.length < 100000) (hb : ∀ b ∈ bs, b.length < 100000) {f : Fr} (f97 : f.at 97 = r) (f98 : f.at 98 = .int .i64 (bs.length : Int)) (f99 : f.at 99 = .int .i64 0) {Q : AExit → Fr → AH → Prop}
    (hq : ∀ f' h3, Mods h h3 (fun o => N ≤ o) → Low h3 → f'.at 1 = f.at 1 → f'.at 5 = f.at 5 → f'.at 7 = f.at 7 → f'.at 9 = f.at 9 → f'.at 13 = f.at 13 → Q .normal f' h3) : Wp (code T bbC f h) Q := by
  obtain ⟨xs, rr, hr, hlen, hx⟩ := fr
  simp only [bbC, vms, vmc, AOpd.val, Nat.reduceEqDiff, reduceCtorEq, Nat.reduceAdd, Nat.reduceBEq]
  refine wpc_loop (fun d f' h' => ∃ i, d = bs.length - i ∧ i ≤ bs.length ∧ Mods h h' (fun o => N ≤ o ∧ o ∉ objs r) ∧ Low h' ∧ Wides h h' ∧ f'.at 97 = r ∧ f'.at 98 = .int .i64 (bs.length : Int) ∧ f'.at 99 = .int .i64 (i : Int) ∧ f'.at 1 = f.at 1 ∧ f'.at 5 = f.at 5 ∧ f'.at 7 = f.at 7 ∧ f'.at 9 = f.at 9 ∧ f'.at 13 = f.at 13) ?_ bs.length _ _ ⟨0, by omega, by omega, Mods.refl _ _, hl, Wides.refl _, ?_⟩
  · rintro d f' h' ⟨i, rfl, hi, m, lo, ws, f97', f98', f99', e1, e5, e7, e9, e13⟩
    by_cases hlt : i < bs.length
    · have d1 : decide ((i : Int) < (bs.length : Int)) = true := by rw [decide_eq_true_eq]; omega
      have w2 : IntKind.i64.wrap ((i : Int) + 1) = ((i + 1 : Nat) : Int) := by rw [wrap_i64 (by omega) (by omega)]; omega
      obtain ⟨b, hbi⟩ : ∃ b, bs[i]? = some b := ⟨_, List.getElem?_eq_getElem hlt⟩
      obtain ⟨x, hxi⟩ : ∃ x, xs[i]? = some x := ⟨_, List.getElem?_eq_getElem (by omega)⟩
      obtain ⟨rx, hxo⟩ := hx i x b hxi hbi
      have rr' : Row1 h' r xs := RowS.keep rr fun o ho => m.2 o (RowS.low rr hl o ho) fun hh => hh.2 ho
      obtain ⟨p, hp1, hp2⟩ := rr'.sees.at hxi .i64
      have wx := ws x _ (Row1.wide rx)
      have hbl : (izs b).length < 100000 := by rw [izs, List.length_map]; exact hb b (List.mem_of_getElem? hbi)
      simp only [c5l4_eq, vms, vmc, AOpd.val, Nat.reduceEqDiff, reduceCtorEq, Nat.reduceAdd, Nat.reduceBEq, f97', f98', f99', d1, hp1, hp2]
      refine fb_ok wx lo hbl (by simp only [vms, vmc, AOpd.val, Nat.reduceEqDiff, reduceCtorEq, Nat.reduceAdd, Nat.reduceBEq]) ?_
      intro f'' h4 m4 lo4 ws4 g1 g5 g7 g9 g13 g97 g98 g99
      simp only [vms, vmc, AOpd.val, Nat.reduceEqDiff, reduceCtorEq, Nat.reduceAdd, Nat.reduceBEq, f97', f98', f99'] at g1 g5 g7 g9 g13 g97 g98 g99
      simp only [vms, vmc, AOpd.val, Nat.reduceEqDiff, reduceCtorEq, Nat.reduceAdd, Nat.reduceBEq, g97, g98, g99, w2]
      exact ⟨bs.length - (i + 1), by omega, i + 1, rfl, by omega, m.trans m4 fun o ho => .inl (hxo o ho), lo4, ws.trans ws4, by trivial, by trivial, by trivial, by rw [g1, e1], by rw [g5, e5], by rw [g7, e7], by rw [g9, e9], by rw [g13, e13]⟩
    · have d1 : decide ((i : Int) < (bs.length : Int)) = false := by rw [decide_eq_false_iff_not]; omega
      simp only [c5l4_eq, vms, vmc, AOpd.val, Nat.reduceEqDiff, reduceCtorEq, Nat.reduceAdd, Nat.reduceBEq, f97', f98', f99', d1]
      exact hq _ _ (m.mono fun o ho => .inl ho.1) lo (by simp only [vms, vmc, AOpd.val, Nat.reduceEqDiff, reduceCtorEq, Nat.reduceAdd, Nat.reduceBEq, e1]) (by simp only [vms, vmc, AOpd.val, Nat.reduceEqDiff, reduceCtorEq, Nat.reduceAdd, Nat.reduceBEq, e5]) (by simp only [vms, vmc, AOpd.val, Nat.reduceEqDiff, reduceCtorEq, Nat.reduceAdd, Nat.reduceBEq, e7]) (by simp only [vms, vmc, AOpd.val, Nat.reduceEqDiff, reduceCtorEq, Nat.reduceAdd, Nat.reduceBEq, e9]) (by simp only [vms, vmc, AOpd.val, Nat.reduceEqDiff, reduceCtorEq, Nat.reduceAdd, Nat.reduceBEq, e13])
  · simp only [vms, vmc, AOpd.val, Nat.reduceEqDiff, reduceCtorEq, Nat.reduceAdd, Nat.reduceBEq, f97, f98, f99]
    simp
def fcC : ACode := .seq (.ops [⟨(some 115), .mov (.tmp 21), none⟩, ⟨(some 116), .lenSlice (.tmp 115), none⟩, ⟨(some 117), .mov (.con (.int .i64 0)), none⟩]) (.block 12 (.loop c5l5))
theorem fc_ok {x : AV} {n : Nat} (w : Wide h x n) (hl : Low h) (hn : n < 100000) {f : Fr} (f21 : f.at 21 = x) {Q : AExit → Fr → AH → Prop}
    (hq : ∀ f' h3, Mods h h3 (fun o => o ∈ objs x) → Low h3 → Wides h h3 → f'.at 1 = f.at 1 → f'.at 5 = f.at 5 → f'.at 7 = f.at 7 → f'.at 9 = f.at 9 → f'.at 13 = f.at 13 → Q .normal f' h3) : Wp (code T fcC f h) Q := by
  have ln := w.len
  simp only [fcC, vms, vmc, AOpd.val, Nat.reduceEqDiff, reduceCtorEq, Nat.reduceAdd, Nat.reduceBEq, f21, ln]
  refine wpc_loop (fun d f' h' => ∃ i, d = n - i ∧ i ≤ n ∧ Mods h h' (fun o => o ∈ objs x) ∧ Low h' ∧ Wides h h' ∧ f'.at 21 = x ∧ f'.at 116 = .int .i64 (n : Int) ∧ f'.at 117 = .int .i64 (i : Int) ∧ f'.at 1 = f.at 1 ∧ f'.at 5 = f.at 5 ∧ f'.at 7 = f.at 7 ∧ f'.at 9 = f.at 9 ∧ f'.at 13 = f.at 13) ?_ n _ _ ⟨0, by omega, by omega, Mods.refl _ _, hl, Wides.refl _, ?_⟩
  · rintro d f' h' ⟨i, rfl, hi, m, lo, ws, f21, f116, f117, e1, e5, e7, e9, e13⟩
    by_cases hlt : i < n
    · have d1 : decide ((i : Int) < (n : Int)) = true := by rw [decide_eq_true_eq]; omega
      have w2 : IntKind.i64.wrap ((i : Int) + 1) = ((i + 1 : Nat) : Int) := by rw [wrap_i64 (by omega) (by omega)]; omega
      obtain ⟨p, h4, hp1, hp2, m4, lo4, ws4⟩ := (ws x n w).store lo hlt (-3)
      simp only [c5l5, vms, vmc, AOpd.val, Nat.reduceEqDiff, reduceCtorEq, Nat.reduceAdd, Nat.reduceBEq, f21, f116, f117, d1, w2, hp1, hp2]
      exact ⟨n - (i + 1), by omega, i + 1, rfl, by omega, m.trans m4 fun o ho => .inl ho, lo4, ws.trans ws4, by trivial, by trivial, by trivial, e1, e5, e7, e9, e13⟩
    · have d1 : decide ((i : Int) < (n : Int)) = false := by rw [decide_eq_false_iff_not]; omega
      simp only [c5l5, vms, vmc, AOpd.val, Nat.reduceEqDiff, reduceCtorEq, Nat.reduceAdd, Nat.reduceBEq, f21, f116, f117, d1]
      exact hq _ _ m lo ws (by simp only [vms, vmc, AOpd.val, Nat.reduceEqDiff, reduceCtorEq, Nat.reduceAdd, Nat.reduceBEq, e1]) (by simp only [vms, vmc, AOpd.val, Nat.reduceEqDiff, reduceCtorEq, Nat.reduceAdd, Nat.reduceBEq, e5]) (by simp only [vms, vmc, AOpd.val, Nat.reduceEqDiff, reduceCtorEq, Nat.reduceAdd, Nat.reduceBEq, e7]) (by simp only [vms, vmc, AOpd.val, Nat.reduceEqDiff, reduceCtorEq, Nat.reduceAdd, Nat.reduceBEq, e9]) (by simp only [vms, vmc, AOpd.val, Nat.reduceEqDiff, reduceCtorEq, Nat.reduceAdd, Nat.reduceBEq, e13])
  · simp only [vms, vmc, AOpd.val, Nat.reduceEqDiff, reduceCtorEq, Nat.reduceAdd, Nat.reduceBEq, f21]
    simp
end Go.Proofs.Yteokopjiaiflnaa

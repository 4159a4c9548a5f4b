/- Plays of both arenas: what is kept; one call. -/
import Derived.Test.YtejjkienklaghaaB4RefN
import Derived.Test.YtejjkienklaghaaVmZt
import Derived.Test.YtejjkienklaghaaVmZn
import Derived.Test.YtejjkienklaghaaVmZx
namespace Go.Proofs.Ytejjkienklaghaa
open Go.Vm
set_option linter.unusedSimpArgs false
set_option linter.unusedVariables false
set_option maxRecDepth 20000
variable {T : Vm.Prog} {h h0 h' : AH} {a w : Nat} {Fa Fw Fa' Fw' : Nat → Prop} {sa sw st st' : List SlotP} {vr : AV} {R : List Int}
theorem fillI (n : Int) : fillV [AV.int .i64 0] [(0, 1, .int .i64 n)] = some [.int .i64 n] := by simp [fillV, AV.isDef, AV.cells, setMany]
/-- Both arenas, the refs so far, what came in. -/
structure PlayS (h0 h : AH) (a w : Nat) (Fa Fw : Nat → Prop) (sa sw : List SlotP) (vr : AV) (R : List Int) : Prop where
  lo : Low h
  qt : Quiet h0 h
  ra : ArR a sa Fa h
  rw : RefR w sw Fw h
  fa : ∀ o, Fa o → h0.next ≤ o
  fw : ∀ o, Fw o → h0.next ≤ o
  dis : ∀ o, Fa o → ¬ Fw o
  rr : Row1 h vr (lcells R)
  rf : ∀ o ∈ objs vr, h0.next ≤ o ∧ ¬ Fa o ∧ ¬ Fw o
theorem row1_same {v : AV} {xs : List AV} (r : Row1 h v xs) (hk : ∀ o ∈ objs v, h'.get o = h.get o) : Row1 h' v xs := RowS.keep r hk
theorem row1_low {v : AV} {xs : List AV} (r : Row1 h v xs) (hl : Low h) : ∀ o ∈ objs v, o < h.next := RowS.low r hl
/-- A step that touches none of it. -/
theorem PlayS.step (p : PlayS h0 h a w Fa Fw sa sw vr R) (hn : h.next ≤ h'.next) (lo : Low h') (hk : ∀ o, o < h.next → (o < h0.next ∨ Fa o ∨ Fw o ∨ o ∈ objs vr) → h'.get o = h.get o) : PlayS h0 h' a w Fa Fw sa sw vr R where
  lo := lo
  qt := ⟨Nat.le_trans p.qt.1 hn, fun o ho hf => (hk o (Nat.lt_of_lt_of_le ho p.qt.1) (.inl ho)).trans (p.qt.2 o ho hf)⟩
  ra := (p.ra.res p.lo).loc h' hn fun o ho => hk o ((p.ra.res p.lo).low o ho) (.inr (.inl ho))
  rw := (p.rw.res p.lo).loc h' hn fun o ho => hk o ((p.rw.res p.lo).low o ho) (.inr (.inr (.inl ho)))
  fa := p.fa
  fw := p.fw
  dis := p.dis
  rr := row1_same p.rr fun o ho => hk o (row1_low p.rr p.lo o ho) (.inr (.inr (.inr ho)))
  rf := p.rf
theorem PlayS.quiet (p : PlayS h0 h a w Fa Fw sa sw vr R) (q : Quiet h h') (lo : Low h') : PlayS h0 h' a w Fa Fw sa sw vr R :=
  p.step q.1 lo fun o ho _ => q.2 o ho id
/-- An object of the round's own. -/
def Own (h0 : AH) (Fa Fw : Nat → Prop) (vr : AV) (o : Nat) : Prop := h0.next ≤ o ∧ ¬ Fa o ∧ ¬ Fw o ∧ o ∉ objs vr
theorem PlayS.fresh (p : PlayS h0 h a w Fa Fw sa sw vr R) {o : Nat} (ho : h.next ≤ o) : Own h0 Fa Fw vr o :=
  ⟨Nat.le_trans p.qt.1 ho, fun e => by have := (p.ra.res p.lo).low o e; omega, fun e => by have := (p.rw.res p.lo).low o e; omega, fun e => by have := row1_low p.rr p.lo o e; omega⟩
theorem PlayS.upd (p : PlayS h0 h a w Fa Fw sa sw vr R) {o : Nat} (u : Upd h h' o) (lo : Low h') (own : Own h0 Fa Fw vr o) : PlayS h0 h' a w Fa Fw sa sw vr R :=
  p.step (by rw [u.1]; exact Nat.le_refl _) lo fun q _ hq => u.2 q fun e => by
    subst e
    rcases hq with h1 | h1 | h1 | h1
    · have := own.1; omega
    · exact own.2.1 h1
    · exact own.2.2.1 h1
    · exact own.2.2.2 h1
theorem PlayS.acta (p : PlayS h0 h a w Fa Fw sa sw vr R) (t : Acts h Fa h' Fa') (ra : ArR a st' Fa' h') : PlayS h0 h' a w Fa' Fw st' sw vr R := by
  have hn := p.qt.1
  have hwl := (p.rw.res p.lo).low
  have hrl := row1_low p.rr p.lo
  refine ⟨t.low, ⟨Nat.le_trans hn t.mods.1, fun o ho hf => (t.mods.2 o (by omega) (fun e => by have := p.fa o e; omega)).trans (p.qt.2 o ho hf)⟩, ra, (p.rw.res p.lo).loc h' t.mods.1 (fun o ho => t.mods.2 o (hwl o ho) (fun e => p.dis o e ho)), ?_, p.fw, ?_, row1_same p.rr (fun o ho => t.mods.2 o (hrl o ho) (p.rf o ho).2.1), ?_⟩
  · intro o ho
    rcases t.grow o ho with h1 | h1
    · exact p.fa o h1
    · omega
  · intro o ho e
    rcases t.grow o ho with h1 | h1
    · exact p.dis o h1 e
    · have := hwl o e; omega
  · intro o ho
    refine ⟨(p.rf o ho).1, fun e => ?_, (p.rf o ho).2.2⟩
    rcases t.grow o e with h1 | h1
    · exact (p.rf o ho).2.1 h1
    · have := hrl o ho; omega
theorem PlayS.actw (p : PlayS h0 h a w Fa Fw sa sw vr R) (t : Acts h Fw h' Fw') (rw : RefR w st' Fw' h') : PlayS h0 h' a w Fa Fw' sa st' vr R := by
  have hn := p.qt.1
  have hal := (p.ra.res p.lo).low
  have hrl := row1_low p.rr p.lo
  refine ⟨t.low, ⟨Nat.le_trans hn t.mods.1, fun o ho hf => (t.mods.2 o (by omega) (fun e => by have := p.fw o e; omega)).trans (p.qt.2 o ho hf)⟩, (p.ra.res p.lo).loc h' t.mods.1 (fun o ho => t.mods.2 o (hal o ho) (p.dis o ho)), rw, p.fa, ?_, ?_, row1_same p.rr (fun o ho => t.mods.2 o (hrl o ho) (p.rf o ho).2.2), ?_⟩
  · intro o ho
    rcases t.grow o ho with h1 | h1
    · exact p.fw o h1
    · omega
  · intro o ho e
    rcases t.grow o e with h1 | h1
    · exact p.dis o ho h1
    · have := hal o ho; omega
  · intro o ho
    refine ⟨(p.rf o ho).1, (p.rf o ho).2.1, fun e => ?_⟩
    rcases t.grow o e with h1 | h1
    · exact (p.rf o ho).2.2 h1
    · have := hrl o ho; omega
theorem Own.acta {vr : AV} {o : Nat} (own : Own h0 Fa Fw vr o) (t : Acts h Fa h' Fa') (ho : o < h.next) : Own h0 Fa' Fw vr o :=
  ⟨own.1, fun e => (t.grow o e).elim own.2.1 (by omega), own.2.2⟩
theorem Own.actw {vr : AV} {o : Nat} (own : Own h0 Fa Fw vr o) (t : Acts h Fw h' Fw') (ho : o < h.next) : Own h0 Fa Fw' vr o :=
  ⟨own.1, own.2.1, fun e => (t.grow o e).elim own.2.2.1 (by omega), own.2.2.2⟩
/-- Words that came in, at a later time. -/
structure InW (h0 : AH) (v : AV) (ws : List Nat) : Prop where
  src : Src h0 v ws
  low : ∀ o ∈ objs v, o < h0.next
  short : ws.length < 1000000
theorem PlayS.srca (p : PlayS h0 h a w Fa Fw sa sw vr R) {v : AV} {ws : List Nat} (i : InW h0 v ws) : SrcB h Fa v ws :=
  ⟨i.src.keep fun o ho => p.qt.2 o (i.low o ho) id, fun o ho => ⟨fun e => by have := p.fa o e; have := i.low o ho; omega, Nat.lt_of_lt_of_le (i.low o ho) p.qt.1⟩, i.short⟩
theorem PlayS.srcw (p : PlayS h0 h a w Fa Fw sa sw vr R) {v : AV} {ws : List Nat} (i : InW h0 v ws) : SrcB h Fw v ws :=
  ⟨i.src.keep fun o ho => p.qt.2 o (i.low o ho) id, fun o ho => ⟨fun e => by have := p.fw o e; have := i.low o ho; omega, Nat.lt_of_lt_of_le (i.low o ho) p.qt.1⟩, i.short⟩
theorem PlayS.refs (p : PlayS h0 h a w Fa Fw sa sw vr R) {vr' : AV} {R' : List Int} (m : Mods h h' (fun o => o ∈ objs vr)) (lo : Low h') (r : Row1 h' vr' (lcells R')) (ho : ∀ o ∈ objs vr', o ∈ objs vr ∨ h.next ≤ o) : PlayS h0 h' a w Fa Fw sa sw vr' R' := by
  have hn := p.qt.1
  have hal := (p.ra.res p.lo).low
  have hwl := (p.rw.res p.lo).low
  refine ⟨lo, ⟨Nat.le_trans hn m.1, fun o h1 hf => (m.2 o (by omega) (fun e => by have := (p.rf o e).1; omega)).trans (p.qt.2 o h1 hf)⟩, (p.ra.res p.lo).loc h' m.1 (fun o h1 => m.2 o (hal o h1) (fun e => (p.rf o e).2.1 h1)), (p.rw.res p.lo).loc h' m.1 (fun o h1 => m.2 o (hwl o h1) (fun e => (p.rf o e).2.2 h1)), p.fa, p.fw, p.dis, r, ?_⟩
  intro o h1
  rcases ho o h1 with h2 | h2
  · exact p.rf o h2
  · exact ⟨by omega, fun e => by have := hal o e; omega, fun e => by have := hwl o e; omega⟩
theorem Copy.sees {v : AV} {ws : List Nat} (c : Copy h v ws) : Sees h v ((ws.map Int.ofNat).map (.int .u64)) := by
  obtain ⟨o, rfl, hg⟩ := c
  refine .inr ⟨o, 0, ws.length, false, wcells ws, some true, by simp, hg, by rw [wcells_len]; simp, fun i x hx => ?_⟩
  rw [Nat.zero_add]
  rw [List.map_map] at hx
  exact hx
theorem src_beq {v : AV} {ws : List Nat} (s : Src h v ws) : AV.beq v v = true := by
  rcases s with ⟨rfl, _⟩ | ⟨o, off, cap, ex, l, rw, rfl, _⟩ <;> simp [AV.beq]
/-! ### plain: one call makes one slot new at most -/
def OneSet (st st' : List SlotP) : Prop := st' = st ∨ ∃ n x y, st[n]? = some x ∧ st' = st.set n y ∧ y.gen ≤ x.gen + 1
theorem allocI_one {st : List SlotP} {c : Int} {ws : List Nat} : OneSet st (allocI st c ws).2.2 := by
  unfold allocI
  split
  · unfold allocP
    split
    · exact .inl rfl
    · split
      · exact .inl rfl
      · rename_i n _ _ x hx
        exact .inr ⟨n, x, _, hx, rfl, Nat.le_succ _⟩
  · exact .inl rfl
theorem freeP_one {st : List SlotP} {ref : Int} : OneSet st (freeP st ref).2 := by
  unfold freeP
  split
  · exact .inl rfl
  · split
    · exact .inl rfl
    · rename_i n _ _ x hx
      exact .inr ⟨n, x, _, hx, rfl, Nat.le_refl _⟩
theorem storeP_one {st : List SlotP} {ref : Int} {ws : List Nat} : OneSet st (storeP st ref ws).2 := by
  unfold storeP
  split
  · exact .inl rfl
  · split
    · exact .inl rfl
    · rename_i n _ _ x hx
      split
      · exact .inl rfl
      · exact .inr ⟨n, x, _, hx, rfl, Nat.le_succ _⟩
theorem swapP_one {st : List SlotP} {ref was : Int} {ws : List Nat} : OneSet st (swapP st ref was ws).2.2 := by
  unfold swapP
  split
  · exact .inl rfl
  · split
    · exact .inl rfl
    · rename_i n _ _ x hx
      split
      · exact .inl rfl
      · split
        · exact .inl rfl
        · exact .inr ⟨n, x, _, hx, rfl, Nat.le_succ _⟩
theorem OneSet.gens {st st' : List SlotP} (o : OneSet st st') {g : Nat} (hg : ∀ x ∈ st, x.gen ≤ g) : ∀ x ∈ st', x.gen ≤ g + 1 := by
  rcases o with rfl | ⟨n, x, y, hx, rfl, hy⟩
  · intro x hx; have := hg x hx; omega
  · intro z hz
    rcases List.mem_or_eq_of_mem_set hz with h1 | rfl
    · have := hg z h1; omega
    · have := hg x (List.mem_of_getElem? hx); omega
/-! ### one call -/
/-- What a round asks, in its object. -/
def QCell (h : AH) (p : Nat) (kd cls n ref : Int) (was : Int) (fits : Bool) (v : AV) : Prop := h.get p = some (.cells [.int .i64 kd, .int .i64 cls, .int .i64 n, .int .i64 ref, .int .u64 was, .bool fits, v] true)
structure FrP (f : Fr) (lv : AV) (a w : Nat) (vr : AV) (i : Nat) : Prop where
  f2 : f.at 2 = lv
  f7 : f.at 7 = .ptr a 0
  f9 : f.at 9 = .ptr w 0
  f11 : f.at 11 = vr
  f12 : f.at 12 = .int .i64 (i : Nat)
def sq : ACode → ACode
  | .seq a _ => a
  | c => c
def sr : ACode → ACode
  | .seq _ b => b
  | c => c
def c6b : ACode := match c6l2 with
  | .seq _ (.seq (.block _ b) _) => b
  | c => c
/-- The switch. -/
def c6s : ACode := sq (sr (sr (sr (sr (sr c6b)))))
theorem eqi_self (x : Int) : (x == x) = true := by simp
theorem plays_switch (k : Fits T) {i : Nat} {lv v : AV} {ws : List Nat} {p : Nat} {kd cls n ref was : Int} {fits : Bool} {F : Fr} (P : PlayS h0 h a w Fa Fw st st vr R) (q : QCell h p kd cls n ref was fits v) (own : Own h0 Fa Fw vr p) (iw : InW h0 v ws) (fp : FrP F lv a w vr i) (f13 : F.at 13 = .ptr p 0) (f16 : F.at 16 = .bool true) (hR : R.length ≤ 1000) {Q : AExit → Fr → AH → Prop}
    (hq : ∀ f' h' Fa' Fw' st' vr' R', PlayS h0 h' a w Fa' Fw' st' st' vr' R' → OneSet st st' → R'.length ≤ R.length + 1 → FrP f' lv a w vr' i → f'.at 16 = .bool true → Q .normal f' h') : Wp (code T c6s F h) Q := by
  obtain ⟨f2, f7, f9, f11, f12⟩ := fp
  have hp : p < h.next := P.lo _ _ q
  have fa : ∀ j, fieldAddrV j (.ptr p 0) = some (.ptr p (0 + j)) := fun j => rfl
  have q0 : loadV h false 1 (.ptr p 0) = some (.int .i64 kd) := load_at q rfl
  have q1 : loadV h false 1 (.ptr p 1) = some (.int .i64 cls) := load_at q rfl
  have q3 : loadV h false 1 (.ptr p 3) = some (.int .i64 ref) := load_at q rfl
  have q4 : loadV h false 1 (.ptr p 4) = some (.int .u64 was) := load_at q rfl
  have q6 : loadV h false 1 (.ptr p 6) = some v := load_at q rfl
  have qk : ∀ {g : AH}, g.get p = h.get p → QCell g p kd cls n ref was fits v := fun e => e.trans q
  simp only [c6s, c6b, c6l2, sq, sr, vms, vmc, AOpd.val, Nat.reduceEqDiff, reduceCtorEq, Nat.reduceAdd, Nat.reduceBEq, f13, fa, Nat.zero_add, q0]
  by_cases k1 : kd = 1
  · subst k1
    simp only [show ((1 : Int) == 1) = true from rfl, vms, vmc, AOpd.val, Nat.reduceEqDiff, reduceCtorEq, Nat.reduceAdd, Nat.reduceBEq, f7, f13, fa, Nat.zero_add, q1, q6]
    refine Gives.bind ((ar_alloc k P.ra P.lo cls (P.srca iw)).mono ?_)
    rintro _ h1 ⟨rfl, Fa1, ra1, ac1⟩
    have P1 := P.acta ac1 ra1
    have own1 := own.acta ac1 hp
    have e1 : h1.get p = h.get p := ac1.mods.2 p hp own.2.1
    have q1' : loadV h1 false 1 (.ptr p 1) = some (.int .i64 cls) := load_at (qk e1) rfl
    have q6' : loadV h1 false 1 (.ptr p 6) = some v := load_at (qk e1) rfl
    simp only [vms, vmc, AOpd.val, Nat.reduceEqDiff, reduceCtorEq, Nat.reduceAdd, Nat.reduceBEq, f9, f13, fa, Nat.zero_add, q1', q6']
    refine Gives.bind ((ref_alloc k P1.rw P1.lo cls (P1.srcw iw)).mono ?_)
    rintro _ h2 ⟨rfl, Fw2, rw2, ac2⟩
    have P2 := P1.actw ac2 rw2
    simp only [vms, vmc, AOpd.val, Nat.reduceEqDiff, reduceCtorEq, Nat.reduceAdd, Nat.reduceBEq, eqi_self]
    by_cases hz : (allocI st cls ws).2.1 = 0
    · have d : ((((allocI st cls ws).2.1 : Nat) : Int) == 0) = true := by rw [hz]; rfl
      obtain ⟨v3, h3, ha3, r3, o3, m3, lo3⟩ := row_app (bytes := 8) (x := .int .i64 (allocI st cls ws).1) P2.lo P2.rr (by decide) (by decide) (by simp [lcells]; omega) rfl
      have P3 := P2.refs (R' := R ++ [(allocI st cls ws).1]) m3 lo3 (by simpa [lcells] using r3) o3
      simp only [d, vms, vmc, AOpd.val, Nat.reduceEqDiff, reduceCtorEq, Nat.reduceAdd, Nat.reduceBEq, f11, fillI, ha3]
      refine hq _ h3 Fa1 Fw2 _ v3 _ P3 allocI_one (by simp) ⟨?_, ?_, ?_, ?_, ?_⟩ ?_
      all_goals simp only [vms, vmc, AOpd.val, Nat.reduceEqDiff, reduceCtorEq, Nat.reduceAdd, Nat.reduceBEq, f2, f7, f9, f11, f12]
    · have d : ((((allocI st cls ws).2.1 : Nat) : Int) == 0) = false := by rw [beq_eq_false_iff_ne]; omega
      simp only [d, vms, vmc, AOpd.val, Nat.reduceEqDiff, reduceCtorEq, Nat.reduceAdd, Nat.reduceBEq]
      refine hq _ h2 Fa1 Fw2 _ vr R P2 allocI_one (by omega) ⟨?_, ?_, ?_, ?_, ?_⟩ ?_
      all_goals simp only [vms, vmc, AOpd.val, Nat.reduceEqDiff, reduceCtorEq, Nat.reduceAdd, Nat.reduceBEq, f2, f7, f9, f11, f12]
  have n1 : (kd == 1) = false := by rw [beq_eq_false_iff_ne]; exact k1
  by_cases k2 : kd = 2
  · subst k2
    simp only [n1, show ((2 : Int) == 2) = true from rfl, vms, vmc, AOpd.val, Nat.reduceEqDiff, reduceCtorEq, Nat.reduceAdd, Nat.reduceBEq, f7, f9, f13, fa, Nat.zero_add, q3]
    refine Gives.bind ((ar_free k P.ra P.lo ref).mono ?_)
    rintro _ h1 ⟨rfl, Fa1, ra1, ac1⟩
    have P1 := P.acta ac1 ra1
    have e1 : h1.get p = h.get p := ac1.mods.2 p hp own.2.1
    have q3' : loadV h1 false 1 (.ptr p 3) = some (.int .i64 ref) := load_at (qk e1) rfl
    simp only [vms, vmc, AOpd.val, Nat.reduceEqDiff, reduceCtorEq, Nat.reduceAdd, Nat.reduceBEq]
    rw [items_look (look_load (v := .int .i64 ref) (by simp only [vms, vmc, AOpd.val, Nat.reduceEqDiff, reduceCtorEq, Nat.reduceAdd, Nat.reduceBEq]; exact q3') (by simp only [vms, vmc, AOpd.val, Nat.reduceEqDiff, reduceCtorEq, Nat.reduceAdd, Nat.reduceBEq]) (by simp [AV.beq]))]
    simp only [vms, vmc, AOpd.val, Nat.reduceEqDiff, reduceCtorEq, Nat.reduceAdd, Nat.reduceBEq]
    refine Gives.bind ((ref_free k P1.rw P1.lo ref).mono ?_)
    rintro _ h2 ⟨rfl, Fw2, rw2, ac2⟩
    have P2 := P1.actw ac2 rw2
    simp only [vms, vmc, AOpd.val, Nat.reduceEqDiff, reduceCtorEq, Nat.reduceAdd, Nat.reduceBEq, eqi_self]
    refine hq _ h2 Fa1 Fw2 _ vr R P2 freeP_one (by omega) ⟨?_, ?_, ?_, ?_, ?_⟩ ?_
    all_goals simp only [vms, vmc, AOpd.val, Nat.reduceEqDiff, reduceCtorEq, Nat.reduceAdd, Nat.reduceBEq, f2, f7, f9, f11, f12]
  have n2 : (kd == 2) = false := by rw [beq_eq_false_iff_ne]; exact k2
  by_cases k3 : kd = 3
  · subst k3
    simp only [n1, n2, show ((3 : Int) == 3) = true from rfl, vms, vmc, AOpd.val, Nat.reduceEqDiff, reduceCtorEq, Nat.reduceAdd, Nat.reduceBEq, f7, f9, f13, fa, Nat.zero_add, q3]
    refine Gives.bind ((ar_load k P.ra P.lo ref).mono ?_)
    rintro _ h1 ⟨qt1, lo1, v1, rfl, hv1⟩
    have P1 := P.quiet qt1 lo1
    have e1 : h1.get p = h.get p := qt1.2 p hp id
    have q3' : loadV h1 false 1 (.ptr p 3) = some (.int .i64 ref) := load_at (qk e1) rfl
    simp only [vms, vmc, AOpd.val, Nat.reduceEqDiff, reduceCtorEq, Nat.reduceAdd, Nat.reduceBEq, f9, f13, fa, Nat.zero_add, q3']
    refine Gives.bind ((ref_load k P1.rw P1.lo ref).mono ?_)
    rintro _ h2 ⟨qt2, lo2, v2, rfl, hv2⟩
    have P2 := P1.quiet qt2 lo2
    have s1 : Sees h1 v1 (((loadP st ref).2.map Int.ofNat).map (.int .u64)) := by
      rcases hv1 with ⟨rfl, e, _⟩ | ⟨c, _⟩
      · rw [e]; exact .inl ⟨rfl, rfl⟩
      · exact c.sees
    have s1' := sees_keep s1 lo1 qt2
    have s2 : Sees h2 v2 (((loadP st ref).2.map Int.ofNat).map (.int .u64)) := by
      rcases hv2 with ⟨rfl, e, _⟩ | ⟨_, _, c, _⟩
      · rw [e]; exact .inl ⟨rfl, rfl⟩
      · exact c.sees
    have hlen : ((loadP st ref).2.map Int.ofNat).length < 9223372036854775807 := by
      rcases hv2 with ⟨_, e, _⟩ | ⟨_, _, ⟨o, _, hg⟩, _⟩
      · rw [e]; decide
      · have := s2.len
        unfold loadP
        split
        · simp
        · split
          · simp
          · rename_i n _ _ x hx
            obtain ⟨sv, S, Q, A, rfl, inv, _⟩ := P2.rw
            have h5 := (inv.each n x hx).2.2.2.2
            have := sizeN_le x.cls
            simp; omega
    simp only [vms, vmc, AOpd.val, Nat.reduceEqDiff, reduceCtorEq, Nat.reduceAdd, Nat.reduceBEq, eqi_self]
    refine Gives.bind ((sameG_ok (g := 13) (k.env _ (by decide)) (k.at rfl) s1' s2 hlen hlen).mono ?_)
    rintro _ _ ⟨rfl, rfl⟩
    rename_i h2
    simp only [vms, vmc, AOpd.val, Nat.reduceEqDiff, reduceCtorEq, Nat.reduceAdd, Nat.reduceBEq]
    refine hq _ h2 Fa Fw _ vr R P2 (.inl rfl) (by omega) ⟨?_, ?_, ?_, ?_, ?_⟩ ?_
    all_goals simp only [vms, vmc, AOpd.val, Nat.reduceEqDiff, reduceCtorEq, Nat.reduceAdd, Nat.reduceBEq, f2, f7, f9, f11, f12]
  have n3 : (kd == 3) = false := by rw [beq_eq_false_iff_ne]; exact k3
  by_cases k4 : kd = 4
  · subst k4
    simp only [n1, n2, n3, show ((4 : Int) == 4) = true from rfl, vms, vmc, AOpd.val, Nat.reduceEqDiff, reduceCtorEq, Nat.reduceAdd, Nat.reduceBEq, f7, f9, f13, fa, Nat.zero_add, q3, q6]
    refine Gives.bind ((ar_store k P.ra P.lo ref (P.srca iw)).mono ?_)
    rintro _ h1 ⟨rfl, Fa1, ra1, ac1⟩
    have P1 := P.acta ac1 ra1
    have e1 : h1.get p = h.get p := ac1.mods.2 p hp own.2.1
    have q3' : loadV h1 false 1 (.ptr p 3) = some (.int .i64 ref) := load_at (qk e1) rfl
    have q6' : loadV h1 false 1 (.ptr p 6) = some v := load_at (qk e1) rfl
    simp only [vms, vmc, AOpd.val, Nat.reduceEqDiff, reduceCtorEq, Nat.reduceAdd, Nat.reduceBEq]
    rw [items_look (look_load (v := .int .i64 ref) (by simp only [vms, vmc, AOpd.val, Nat.reduceEqDiff, reduceCtorEq, Nat.reduceAdd, Nat.reduceBEq]; exact q3') (by simp only [vms, vmc, AOpd.val, Nat.reduceEqDiff, reduceCtorEq, Nat.reduceAdd, Nat.reduceBEq]) (by simp [AV.beq]))]
    rw [items_look (look_load (v := v) (by simp only [vms, vmc, AOpd.val, Nat.reduceEqDiff, reduceCtorEq, Nat.reduceAdd, Nat.reduceBEq]; exact q6') (by simp only [vms, vmc, AOpd.val, Nat.reduceEqDiff, reduceCtorEq, Nat.reduceAdd, Nat.reduceBEq]) (src_beq iw.src))]
    simp only [vms, vmc, AOpd.val, Nat.reduceEqDiff, reduceCtorEq, Nat.reduceAdd, Nat.reduceBEq]
    refine Gives.bind ((ref_store k P1.rw P1.lo ref (P1.srcw iw)).mono ?_)
    rintro _ h2 ⟨rfl, Fw2, rw2, ac2⟩
    have P2 := P1.actw ac2 rw2
    simp only [vms, vmc, AOpd.val, Nat.reduceEqDiff, reduceCtorEq, Nat.reduceAdd, Nat.reduceBEq, eqi_self]
    refine hq _ h2 Fa1 Fw2 _ vr R P2 storeP_one (by omega) ⟨?_, ?_, ?_, ?_, ?_⟩ ?_
    all_goals simp only [vms, vmc, AOpd.val, Nat.reduceEqDiff, reduceCtorEq, Nat.reduceAdd, Nat.reduceBEq, f2, f7, f9, f11, f12]
  have n4 : (kd == 4) = false := by rw [beq_eq_false_iff_ne]; exact k4
  by_cases k5 : kd = 5
  · subst k5
    simp only [n1, n2, n3, n4, show ((5 : Int) == 5) = true from rfl, vms, vmc, AOpd.val, Nat.reduceEqDiff, reduceCtorEq, Nat.reduceAdd, Nat.reduceBEq, f7, f13, fa, Nat.zero_add, q3, q4, q6]
    refine Gives.bind ((ar_swap k P.ra P.lo ref (was := was) (P.srca iw)).mono ?_)
    rintro _ h1 ⟨rfl, Fa1, ra1, ac1⟩
    have P1 := P.acta ac1 ra1
    have e1 : h1.get p = h.get p := ac1.mods.2 p hp own.2.1
    have q3' : loadV h1 false 1 (.ptr p 3) = some (.int .i64 ref) := load_at (qk e1) rfl
    have q4' : loadV h1 false 1 (.ptr p 4) = some (.int .u64 was) := load_at (qk e1) rfl
    have q6' : loadV h1 false 1 (.ptr p 6) = some v := load_at (qk e1) rfl
    simp only [vms, vmc, AOpd.val, Nat.reduceEqDiff, reduceCtorEq, Nat.reduceAdd, Nat.reduceBEq, f9, f13, fa, Nat.zero_add, q3', q4', q6']
    refine Gives.bind ((ref_swap k P1.rw P1.lo ref (was := was) (P1.srcw iw)).mono ?_)
    rintro _ h2 ⟨rfl, Fw2, rw2, ac2⟩
    have P2 := P1.actw ac2 rw2
    have hb : ∀ b : Bool, eqBV false (.bool b) (.bool b) = some (.bool true) := fun b => by cases b <;> rfl
    simp only [vms, vmc, AOpd.val, Nat.reduceEqDiff, reduceCtorEq, Nat.reduceAdd, Nat.reduceBEq, eqi_self, hb]
    refine hq _ h2 Fa1 Fw2 _ vr R P2 swapP_one (by omega) ⟨?_, ?_, ?_, ?_, ?_⟩ ?_
    all_goals simp only [vms, vmc, AOpd.val, Nat.reduceEqDiff, reduceCtorEq, Nat.reduceAdd, Nat.reduceBEq, f2, f7, f9, f11, f12]
  have n5 : (kd == 5) = false := by rw [beq_eq_false_iff_ne]; exact k5
  simp only [n1, n2, n3, n4, n5, vms, vmc, AOpd.val, Nat.reduceEqDiff, reduceCtorEq, Nat.reduceAdd, Nat.reduceBEq]
  refine hq _ h Fa Fw _ vr R P (.inl rfl) (by omega) ⟨?_, ?_, ?_, ?_, ?_⟩ ?_
  all_goals simp only [vms, vmc, AOpd.val, Nat.reduceEqDiff, reduceCtorEq, Nat.reduceAdd, Nat.reduceBEq, f2, f7, f9, f11, f12, f16]
end Go.Proofs.Ytejjkienklaghaa
/- Plays of both arenas: what is live, what is free. -/
namespace Go.Proofs.Ytejjkienklaghaa
open Go.Vm
set_option linter.unusedSimpArgs false
set_option linter.unusedVariables false
set_option maxRecDepth 20000
variable {T : Vm.Prog} {h h0 h' : AH} {a w : Nat} {Fa Fw Fa' Fw' : Nat → Prop} {sa sw st st' : List SlotP} {vr : AV} {R : List Int}
/-- Some cells of a row, in one piece. -/
theorem load_part {o i n : Nat} {l xs : List AV} {r : Option Bool} (hg : h.get o = some (AObj.of l r)) (hx : xs.length = n) (hin : i + n ≤ l.length) (hall : ∀ (j : Nat) (y : AV), xs[j]? = some y → l[i + j]? = some y) : loadV h true n (.ptr o i) = some (.agg xs) := by
  have e : (l.drop i).take n = xs := by
    apply List.ext_getElem?
    intro j
    by_cases hj : j < n
    · rw [List.getElem?_take, if_pos hj, List.getElem?_drop, List.getElem?_eq_getElem (by omega : j < xs.length)]
      exact hall j _ (List.getElem?_eq_getElem (by omega))
    · rw [List.getElem?_eq_none (by rw [List.length_take]; omega), List.getElem?_eq_none (by omega)]
  simp only [loadV, load_of hg, if_true]
  rw [if_pos hin, e]; rfl
theorem slots_agg {v : AV} {S : List Slot} (r : SlotsV h v S) {i : Nat} {s : Slot} (hs : S[i]? = some s) : ∃ so, idxAddrV 4 v (.int .i64 (i : Int)) = some (.ptr so (i * 4)) ∧ loadV h true 4 (.ptr so (i * 4)) = some (.agg s.cells) := by
  rcases r with ⟨rfl, rfl⟩ | ⟨so, cap, l, rfl, hg, h1, h2, h3⟩
  · simp at hs
  · have hi := (List.getElem?_eq_some_iff.1 hs).1
    exact ⟨so, by simp [idxAddrV, hi], load_part (r := some true) hg rfl (by omega) (h3 i s hs)⟩
theorem store_slot {s : Slot} {ws : List Nat} (hw : Words h s.wv ws) {p : Nat} {g : AH} (hg : g.get p = some (.cells [.int .i64 0, .int .i64 0, .bool false, .nilSlice] true)) : storeV g 4 (.ptr p 0) (.agg s.cells) = some (g.set p (.cells s.cells true)) := by
  refine store_all hg rfl rfl ?_
  obtain ⟨o, e, _⟩ := hw
  simp [Slot.cells, e, AV.flat]
theorem live_loop (k : Fits T) {F : Fr} {sv : AV} {S : List Slot} {Qs : List RP} (A : RAr h w sv S Qs) (lo : Low h) (f29 : F.at 29 = .int .i64 0) (f239 : F.at 239 = sv) (f240 : F.at 240 = .int .i64 (S.length : Nat)) (f241 : F.at 241 = .int .i64 0) {Q : AExit → Fr → AH → Prop}
    (hq : ∀ f' h', Only h h' [] → Low h' → (∀ t, t < 29 → f'.at t = F.at t) → f'.at 29 = .int .i64 (S.countP (·.live) : Nat) → Q (.exit 3) f' h') : Wp (code T (.loop c6l0) F h) Q := by
  have hsm := A.small
  refine wpc_loop (fun m f h' => ∃ i, m = S.length - i ∧ i ≤ S.length ∧ Only h h' [] ∧ Low h' ∧ (∀ t, t < 29 → f.at t = F.at t) ∧ f.at 29 = .int .i64 ((S.take i).countP (·.live) : Nat) ∧ f.at 239 = sv ∧ f.at 240 = .int .i64 (S.length : Nat) ∧ f.at 241 = .int .i64 (i : Nat)) ?_ S.length F h
    ⟨0, rfl, by omega, Only.refl _ _, lo, fun _ _ => rfl, by simpa using f29, f239, f240, f241⟩
  rintro m f h' ⟨i, rfl, hi, on, lo', hf, g29, g239, g240, g241⟩
  simp only [c6l0, vms, vmc, AOpd.val, Nat.reduceEqDiff, reduceCtorEq, Nat.reduceAdd, Nat.reduceBEq, g240, g241]
  by_cases hlt : i < S.length
  · have hd : decide ((i : Int) < (S.length : Int)) = true := by rw [decide_eq_true_eq]; omega
    obtain ⟨s, hs⟩ : ∃ s, S[i]? = some s := ⟨_, List.getElem?_eq_getElem hlt⟩
    have A' := A.grow lo on
    obtain ⟨so, hi1, hld⟩ := slots_agg A'.slots hs
    have hst := store_slot (A'.words s (List.mem_of_getElem? hs)) (get_new_same (h := h') (x := .cells [.int .i64 0, .int .i64 0, .bool false, .nilSlice] true))
    have hlv : loadV ((h'.new (.cells [.int .i64 0, .int .i64 0, .bool false, .nilSlice] true)).set h'.next (.cells s.cells true)) false 1 (.ptr h'.next 2) = some (.bool s.live) := load_at get_set_same rfl
    have on2 : Only h ((h'.new (.cells [.int .i64 0, .int .i64 0, .bool false, .nilSlice] true)).set h'.next (.cells s.cells true)) [] := (on.new _).set (.inr on.1) _
    have lo2 : Low ((h'.new (.cells [.int .i64 0, .int .i64 0, .bool false, .nilSlice] true)).set h'.next (.cells s.cells true)) := (lo'.new _).set (by rw [next_new]; omega) _
    have hcount : (S.take (i + 1)).countP (·.live) = (S.take i).countP (·.live) + if s.live = true then 1 else 0 := by
      rw [List.take_add_one, hs, List.countP_append]; simp [List.countP_cons]
    have hle : (S.take i).countP (·.live) ≤ i := by
      refine Nat.le_trans List.countP_le_length ?_
      rw [List.length_take]; omega
    have w2 : IntKind.i64.wrap ((i : Int) + 1) = ((i + 1 : Nat) : Int) := by rw [wrap_i64 (by omega) (by omega)]; rfl
    have w3 : IntKind.i64.wrap (((S.take i).countP (·.live) : Nat) + 1) = (((S.take i).countP (·.live) + 1 : Nat) : Int) := by rw [wrap_i64 (by omega) (by omega)]; rfl
    simp only [hd, vms, vmc, AOpd.val, Nat.reduceEqDiff, reduceCtorEq, Nat.reduceAdd, Nat.reduceBEq, g239, g241, hi1, hld, hst, show fieldAddrV 2 (.ptr h'.next 0) = some (.ptr h'.next 2) from rfl, hlv]
    cases hl : s.live
    · rw [hl, if_neg (by simp)] at hcount
      simp only [vms, vmc, AOpd.val, Nat.reduceEqDiff, reduceCtorEq, Nat.reduceAdd, Nat.reduceBEq, g241, w2]
      refine ⟨S.length - (i + 1), by omega, i + 1, rfl, by omega, on2, lo2, fun t ht => ?_, by rw [hcount]; exact g29, by first | trivial | exact g239, by first | trivial | exact g240, rfl⟩
      try simp only [Fr.at_put]
      repeat rw [if_neg (by omega)]
      exact hf t ht
    · rw [hl, if_pos rfl] at hcount
      simp only [vms, vmc, AOpd.val, Nat.reduceEqDiff, reduceCtorEq, Nat.reduceAdd, Nat.reduceBEq, g29, g241, w2, w3]
      refine ⟨S.length - (i + 1), by omega, i + 1, rfl, by omega, on2, lo2, fun t ht => ?_, by rw [hcount], by first | trivial | exact g239, by first | trivial | exact g240, rfl⟩
      try simp only [Fr.at_put]
      repeat rw [if_neg (by omega)]
      exact hf t ht
  · have hd : decide ((i : Int) < (S.length : Int)) = false := by rw [decide_eq_false_iff_not]; omega
    have : i = S.length := by omega
    subst this
    simp only [hd, vms, vmc, AOpd.val, Nat.reduceEqDiff, reduceCtorEq, Nat.reduceAdd, Nat.reduceBEq]
    rw [List.take_length] at g29
    refine hq _ h' on lo' (fun t ht => ?_) ?_
    · simp only [Fr.at_put]
      rw [if_neg (by omega)]
      exact hf t ht
    · simp only [vms, vmc, AOpd.val, Nat.reduceEqDiff, reduceCtorEq, Nat.reduceAdd, Nat.reduceBEq]; exact g29
/-- The classes, and one on each side. -/
theorem class_loop (k : Fits T) {F : Fr} (P : PlayS h0 h a w Fa Fw st st vr R) (f7 : F.at 7 = .ptr a 0) (f9 : F.at 9 = .ptr w 0) (f32 : F.at 32 = .int .i64 (-1)) {Q : AExit → Fr → AH → Prop}
    (hq : ∀ f', (∀ t, t < 32 → f'.at t = F.at t) → Q (.exit 5) f' h) : Wp (code T (.loop c6l1) F h) Q := by
  obtain ⟨sv, S, Qs, A, hS, inv, hfr, hF⟩ := P.rw
  refine wpc_loop (fun m f h' => ∃ i : Nat, m = 7 - i ∧ i ≤ 7 ∧ h' = h ∧ (∀ t, t < 32 → f.at t = F.at t) ∧ f.at 32 = .int .i64 ((i : Int) - 1)) ?_ 7 F h ⟨0, rfl, by omega, rfl, fun _ _ => rfl, by simpa using f32⟩
  rintro m f h ⟨i, rfl, hi, rfl, hf, g32⟩
  have g7 := (hf 7 (by omega)).trans f7
  have g9 := (hf 9 (by omega)).trans f9
  simp only [c6l1, vms, vmc, AOpd.val, Nat.reduceEqDiff, reduceCtorEq, Nat.reduceAdd, Nat.reduceBEq, g32]
  by_cases hlt : i < 7
  · have hd : decide ((i : Int) - 1 ≤ 5) = true := by rw [decide_eq_true_eq]; omega
    have w2 : IntKind.i64.wrap ((i : Int) - 1 + 1) = ((i + 1 : Nat) : Int) - 1 := by rw [wrap_i64 (by omega) (by omega)]; omega
    have nc : nilChkV (.ptr w 0) = some (.ptr w 0) := rfl
    have fa1 : fieldAddrV 1 (.ptr w 0) = some (.ptr w 1) := rfl
    by_cases hc : 1 ≤ i ∧ i < 6
    · obtain ⟨c, rfl⟩ : ∃ c, i = c + 1 := ⟨i - 1, by omega⟩
      have hc5 : c < 5 := by omega
      have ec : ((c + 1 : Nat) : Int) - 1 = (c : Int) := by omega
      rw [ec] at hd w2
      obtain ⟨q, hqq⟩ : ∃ q, Qs[c]? = some q := ⟨_, List.getElem?_eq_getElem (by rw [A.five]; omega)⟩
      have d1 : decide ((c : Int) ≥ 0) = true := by rw [decide_eq_true_eq]; omega
      have d2 : decide ((c : Int) < 5) = true := by rw [decide_eq_true_eq]; omega
      have hlen : lenOfV q.v = some (roomP st c) := by
        have := (A.lists q (List.mem_of_getElem? hqq)).len
        rw [this, lcells, List.length_map, (hfr c q hqq).1, freeL_len]
      have hlv := (A.list_load hqq).2
      have fb : fieldAddrV 1 (.ptr w (1 + c * 2)) = some (.ptr w (1 + c * 2 + 1)) := rfl
      simp only [ec, hd, vms, vmc, AOpd.val, Nat.reduceEqDiff, reduceCtorEq, Nat.reduceAdd, Nat.reduceBEq, g32, d1, d2, g7, g9, nc, fa1, idxRow_two hc5, fb, hlv, hlen]
      have er : (if 0 ≤ (c : Int) ∧ (c : Int) < 5 then roomP st (c : Int).toNat else 0) = roomP st c := by rw [if_pos ⟨by omega, by omega⟩, Int.toNat_natCast]
      refine Gives.bind ((ar_room k P.ra (c : Int)).mono ?_)
      rw [er]
      rintro _ _ ⟨rfl, rfl⟩
      rename_i h
      have e0 : (((roomP st c : Nat) : Int) != ((roomP st c : Nat) : Int)) = false := by simp
      simp only [vms, vmc, AOpd.val, Nat.reduceEqDiff, reduceCtorEq, Nat.reduceAdd, Nat.reduceBEq, g32, ec, e0]
      refine Gives.bind ((size_ok k hc5).mono ?_)
      rintro _ _ ⟨rfl, rfl⟩
      rename_i h
      simp only [vms, vmc, AOpd.val, Nat.reduceEqDiff, reduceCtorEq, Nat.reduceAdd, Nat.reduceBEq, g32, ec]
      refine Gives.bind ((rsize_ok k hc5).mono ?_)
      rintro _ _ ⟨rfl, rfl⟩
      rename_i h
      have e1 : (((sizeN c : Nat) : Int) != ((sizeN c : Nat) : Int)) = false := by simp
      simp only [vms, vmc, AOpd.val, Nat.reduceEqDiff, reduceCtorEq, Nat.reduceAdd, Nat.reduceBEq, g32, ec, e1, w2]
      refine ⟨7 - (c + 1 + 1), by omega, c + 1 + 1, rfl, by omega, trivial, fun t ht => ?_, rfl⟩
      try simp only [Fr.at_put]
      repeat rw [if_neg (by omega)]
      exact hf t ht
    · have hno : (i : Int) - 1 < 0 ∨ 5 ≤ (i : Int) - 1 := by omega
      have key : (decide ((i : Int) - 1 ≥ 0) = false) ∨ (decide ((i : Int) - 1 ≥ 0) = true ∧ decide ((i : Int) - 1 < 5) = false) := by
        rcases hno with h1 | h1
        · left; rw [decide_eq_false_iff_not]; omega
        · right; rw [decide_eq_true_eq, decide_eq_false_iff_not]; omega
      have e1 : ((0 : Int) != 0) = false := rfl
      rcases key with d1 | ⟨d1, d2⟩
      · simp only [hd, vms, vmc, AOpd.val, Nat.reduceEqDiff, reduceCtorEq, Nat.reduceAdd, Nat.reduceBEq, g32, d1, g7, g9]
        refine Gives.bind ((room_no k hno).mono ?_)
        rintro _ _ ⟨rfl, rfl⟩
        rename_i h
        simp only [vms, vmc, AOpd.val, Nat.reduceEqDiff, reduceCtorEq, Nat.reduceAdd, Nat.reduceBEq, g32, e1]
        refine Gives.bind ((size_no k hno).mono ?_)
        rintro _ _ ⟨rfl, rfl⟩
        rename_i h
        simp only [vms, vmc, AOpd.val, Nat.reduceEqDiff, reduceCtorEq, Nat.reduceAdd, Nat.reduceBEq, g32]
        refine Gives.bind ((rsize_no k hno).mono ?_)
        rintro _ _ ⟨rfl, rfl⟩
        rename_i h
        simp only [vms, vmc, AOpd.val, Nat.reduceEqDiff, reduceCtorEq, Nat.reduceAdd, Nat.reduceBEq, g32, e1, w2]
        refine ⟨7 - (i + 1), by omega, i + 1, rfl, by omega, trivial, fun t ht => ?_, rfl⟩
        try simp only [Fr.at_put]
        repeat rw [if_neg (by omega)]
        exact hf t ht
      · simp only [hd, vms, vmc, AOpd.val, Nat.reduceEqDiff, reduceCtorEq, Nat.reduceAdd, Nat.reduceBEq, g32, d1, d2, g7, g9]
        refine Gives.bind ((room_no k hno).mono ?_)
        rintro _ _ ⟨rfl, rfl⟩
        rename_i h
        simp only [vms, vmc, AOpd.val, Nat.reduceEqDiff, reduceCtorEq, Nat.reduceAdd, Nat.reduceBEq, g32, e1]
        refine Gives.bind ((size_no k hno).mono ?_)
        rintro _ _ ⟨rfl, rfl⟩
        rename_i h
        simp only [vms, vmc, AOpd.val, Nat.reduceEqDiff, reduceCtorEq, Nat.reduceAdd, Nat.reduceBEq, g32]
        refine Gives.bind ((rsize_no k hno).mono ?_)
        rintro _ _ ⟨rfl, rfl⟩
        rename_i h
        simp only [vms, vmc, AOpd.val, Nat.reduceEqDiff, reduceCtorEq, Nat.reduceAdd, Nat.reduceBEq, g32, e1, w2]
        refine ⟨7 - (i + 1), by omega, i + 1, rfl, by omega, trivial, fun t ht => ?_, rfl⟩
        try simp only [Fr.at_put]
        repeat rw [if_neg (by omega)]
        exact hf t ht
  · have hd : decide ((i : Int) - 1 ≤ 5) = false := by rw [decide_eq_false_iff_not]; omega
    simp only [hd, vms, vmc, AOpd.val, Nat.reduceEqDiff, reduceCtorEq, Nat.reduceAdd, Nat.reduceBEq]
    refine hq _ fun t ht => ?_
    try simp only [Fr.at_put]
    repeat rw [if_neg (by omega)]
    exact hf t ht
end Go.Proofs.Ytejjkienklaghaa
/- Plays of both arenas: what a round asks. -/
namespace Go.Proofs.Ytejjkienklaghaa
open Go.Vm
set_option linter.unusedSimpArgs false
set_option linter.unusedVariables false
set_option maxRecDepth 20000
variable {T : Vm.Prog} {h h0 h' : AH} {a w : Nat} {Fa Fw Fa' Fw' : Nat → Prop} {sa sw st st' : List SlotP} {vr : AV} {R : List Int}
def c6q : ACode := sq c6l2
def c6n : ACode := sr (sr c6l2)
def c6p1 : ACode := sq c6b
def c6p2 : ACode := sq (sr c6b)
def c6p3 : ACode := sq (sr (sr c6b))
def c6p4 : ACode := sq (sr (sr (sr c6b)))
def c6p5 : ACode := sq (sr (sr (sr (sr c6b))))
def c6t : ACode := sr (sr (sr (sr (sr (sr c6b)))))
theorem c6l2_parts : c6l2 = .seq c6q (.seq (.block 1 (.seq c6p1 (.seq c6p2 (.seq c6p3 (.seq c6p4 (.seq c6p5 (.seq c6s c6t))))))) c6n) := rfl
/-- Words that came in, of any length. -/
structure InA (h0 : AH) (v : AV) (ws : List Nat) : Prop where
  src : Src h0 v ws
  low : ∀ o ∈ objs v, o < h0.next
  cap : capOk v
  len : (ws.length : Int) < 9223372036854775808
theorem src_cells {v : AV} {ws : List Nat} (s : Src h v ws) : v.cells = [v] ∧ v.flat = true := by
  rcases s with ⟨rfl, _⟩ | ⟨o, off, cap, ex, l, rw, rfl, _⟩ <;> exact ⟨rfl, rfl⟩
theorem InA.cut {v : AV} {ws : List Nat} (i : InA h0 v ws) (h1 : 270 < ws.length) : ∃ v', slcV 1 v none (some (.int .i64 270)) none = some v' ∧ InW h0 v' (ws.take 270) := by
  rcases i.src with ⟨rfl, rfl⟩ | ⟨o, off, cap, ex, l, rw, rfl, hg, e1, e2⟩
  · simp at h1
  · have hc : ws.length ≤ cap := i.cap
    refine ⟨.slice o off 1 270 cap ex, slcE_to (n := 270) (by omega), .inr ⟨o, off, cap, ex, l, rw, by rw [List.length_take]; congr 1; omega, hg, by rw [List.length_take]; omega, ?_⟩, i.low, by rw [List.length_take]; omega⟩
    rw [List.length_take, show min 270 ws.length = 270 by omega]
    have : (l.drop off).take 270 = ((l.drop off).take ws.length).take 270 := by rw [List.take_take]; congr 1; omega
    rw [this, e2]; simp [wcells, List.map_take]
theorem pick2 (k : Fits T) {i : Nat} {lv v : AV} {ws : List Nat} {p : Nat} {kd cls n ref was : Int} {fits : Bool} {F : Fr} (P : PlayS h0 h a w Fa Fw st st vr R) (q : QCell h p kd cls n ref was fits v) (own : Own h0 Fa Fw vr p) (iw : InA h0 v ws) (fp : FrP F lv a w vr i) (f13 : F.at 13 = .ptr p 0) {Q : AExit → Fr → AH → Prop}
    (hq : ∀ f' h' v' ws', PlayS h0 h' a w Fa Fw st st vr R → QCell h' p kd cls n ref was fits v' → InW h0 v' ws' → FrP f' lv a w vr i → f'.at 13 = .ptr p 0 → Q .normal f' h') : Wp (code T c6p2 F h) Q := by
  obtain ⟨f2, f7, f9, f11, f12⟩ := fp
  have hp : p < h.next := P.lo _ _ q
  have fa : ∀ j, fieldAddrV j (.ptr p 0) = some (.ptr p (0 + j)) := fun j => rfl
  have q6 : loadV h false 1 (.ptr p 6) = some v := load_at q rfl
  simp only [c6p2, c6b, c6l2, sq, sr, vms, vmc, AOpd.val, Nat.reduceEqDiff, reduceCtorEq, Nat.reduceAdd, Nat.reduceBEq, f13, fa, Nat.zero_add, q6, iw.src.len]
  by_cases hgt : 270 < ws.length
  · have d : decide (((ws.length : Nat) : Int) > 270) = true := by rw [decide_eq_true_eq]; omega
    obtain ⟨v', hs, iw'⟩ := iw.cut hgt
    obtain ⟨e1, e2⟩ := src_cells iw'.src
    have hst := store_at (i := 6) q (by simp) e1 e2
    have u : Upd h (h.set p (.cells ([AV.int .i64 kd, .int .i64 cls, .int .i64 n, .int .i64 ref, .int .u64 was, .bool fits, v].set 6 v') true)) p := (Upd.refl h p).set _
    simp only [d, vms, vmc, AOpd.val, Nat.reduceEqDiff, reduceCtorEq, Nat.reduceAdd, Nat.reduceBEq, f13, fa, Nat.zero_add, q6, hs, hst]
    refine hq _ _ v' _ (P.upd u (P.lo.set hp _) own) get_set_same iw' ⟨?_, ?_, ?_, ?_, ?_⟩ ?_
    all_goals simp only [vms, vmc, AOpd.val, Nat.reduceEqDiff, reduceCtorEq, Nat.reduceAdd, Nat.reduceBEq, f2, f7, f9, f11, f12, f13]
  · have d : decide (((ws.length : Nat) : Int) > 270) = false := by rw [decide_eq_false_iff_not]; omega
    simp only [d, vms, vmc, AOpd.val, Nat.reduceEqDiff, reduceCtorEq, Nat.reduceAdd, Nat.reduceBEq]
    refine hq _ h v ws P q ⟨iw.src, iw.low, by omega⟩ ⟨?_, ?_, ?_, ?_, ?_⟩ ?_
    all_goals simp only [vms, vmc, AOpd.val, Nat.reduceEqDiff, reduceCtorEq, Nat.reduceAdd, Nat.reduceBEq, f2, f7, f9, f11, f12, f13]
theorem pick3 (k : Fits T) {i : Nat} {lv v : AV} {p : Nat} {kd cls n ref was : Int} {fits : Bool} {F : Fr} (P : PlayS h0 h a w Fa Fw st st vr R) (q : QCell h p kd cls n ref was fits v) (own : Own h0 Fa Fw vr p) (fp : FrP F lv a w vr i) (f13 : F.at 13 = .ptr p 0) (hR : R.length ≤ 1000) {Q : AExit → Fr → AH → Prop}
    (hq : ∀ f' h' ref', PlayS h0 h' a w Fa Fw st st vr R → QCell h' p kd cls n ref' was fits v → FrP f' lv a w vr i → f'.at 13 = .ptr p 0 → Q .normal f' h') : Wp (code T c6p3 F h) Q := by
  obtain ⟨f2, f7, f9, f11, f12⟩ := fp
  have hp : p < h.next := P.lo _ _ q
  have fa : ∀ j, fieldAddrV j (.ptr p 0) = some (.ptr p (0 + j)) := fun j => rfl
  have q2 : loadV h false 1 (.ptr p 2) = some (.int .i64 n) := load_at q rfl
  have ln : lenOfV vr = some R.length := by rw [P.rr.sees.len]; simp [lcells]
  simp only [c6p3, c6b, c6l2, sq, sr, vms, vmc, AOpd.val, Nat.reduceEqDiff, reduceCtorEq, Nat.reduceAdd, Nat.reduceBEq, f13, fa, Nat.zero_add, q2, f11, ln]
  by_cases hn : n ≥ 0
  · have d1 : decide (n ≥ 0) = true := by simpa using hn
    by_cases hl : 0 < R.length
    · have d2 : decide (((R.length : Nat) : Int) > 0) = true := by rw [decide_eq_true_eq]; omega
      obtain ⟨m, rfl⟩ : ∃ m : Nat, n = m := ⟨n.toNat, by omega⟩
      have hm : m % R.length < R.length := Nat.mod_lt _ hl
      obtain ⟨y, hy⟩ : ∃ y, R[m % R.length]? = some y := ⟨_, List.getElem?_eq_getElem hm⟩
      obtain ⟨pa, hi1, hld⟩ := P.rr.sees.at (i := m % R.length) (x := .int .i64 y) (by simp [lcells, hy]) .i64
      have er : binV .rem (.int .i64 (m : Int)) (.int .i64 (R.length : Int)) = some (.int .i64 ((m % R.length : Nat) : Int)) := by
        rw [bin_rem (by omega)]; rfl
      have hst := store_at (i := 3) (v := AV.int .i64 y) q (by simp) rfl rfl
      have u : Upd h (h.set p (.cells ([AV.int .i64 kd, .int .i64 cls, .int .i64 (m : Int), .int .i64 ref, .int .u64 was, .bool fits, v].set 3 (.int .i64 y)) true)) p := (Upd.refl h p).set _
      simp only [d1, d2, vms, vmc, AOpd.val, Nat.reduceEqDiff, reduceCtorEq, Nat.reduceAdd, Nat.reduceBEq, f13, fa, Nat.zero_add, q2, f11, ln, er, hi1, hld, hst]
      refine hq _ _ y (P.upd u (P.lo.set hp _) own) get_set_same ⟨?_, ?_, ?_, ?_, ?_⟩ ?_
      all_goals simp only [vms, vmc, AOpd.val, Nat.reduceEqDiff, reduceCtorEq, Nat.reduceAdd, Nat.reduceBEq, f2, f7, f9, f11, f12, f13]
    · have d2 : decide (((R.length : Nat) : Int) > 0) = false := by rw [decide_eq_false_iff_not]; omega
      simp only [d1, d2, vms, vmc, AOpd.val, Nat.reduceEqDiff, reduceCtorEq, Nat.reduceAdd, Nat.reduceBEq, f11, ln]
      refine hq _ h ref P q ⟨?_, ?_, ?_, ?_, ?_⟩ ?_
      all_goals simp only [vms, vmc, AOpd.val, Nat.reduceEqDiff, reduceCtorEq, Nat.reduceAdd, Nat.reduceBEq, f2, f7, f9, f11, f12, f13]
  · have d1 : decide (n ≥ 0) = false := by simpa using hn
    simp only [d1, vms, vmc, AOpd.val, Nat.reduceEqDiff, reduceCtorEq, Nat.reduceAdd, Nat.reduceBEq]
    refine hq _ h ref P q ⟨?_, ?_, ?_, ?_, ?_⟩ ?_
    all_goals simp only [vms, vmc, AOpd.val, Nat.reduceEqDiff, reduceCtorEq, Nat.reduceAdd, Nat.reduceBEq, f2, f7, f9, f11, f12, f13]
theorem pick4 (k : Fits T) {i : Nat} {lv v : AV} {p : Nat} {kd cls n ref was : Int} {fits : Bool} {F : Fr} (P : PlayS h0 h a w Fa Fw st st vr R) (q : QCell h p kd cls n ref was fits v) (own : Own h0 Fa Fw vr p) (fp : FrP F lv a w vr i) (f13 : F.at 13 = .ptr p 0) {Q : AExit → Fr → AH → Prop}
    (hq : ∀ f' h' was', PlayS h0 h' a w Fa Fw st st vr R → QCell h' p kd cls n ref was' fits v → FrP f' lv a w vr i → f'.at 13 = .ptr p 0 → Q .normal f' h') : Wp (code T c6p4 F h) Q := by
  obtain ⟨f2, f7, f9, f11, f12⟩ := fp
  have hp : p < h.next := P.lo _ _ q
  have fa : ∀ j, fieldAddrV j (.ptr p 0) = some (.ptr p (0 + j)) := fun j => rfl
  have q3 : loadV h false 1 (.ptr p 3) = some (.int .i64 ref) := load_at q rfl
  simp only [c6p4, c6b, c6l2, sq, sr, vms, vmc, AOpd.val, Nat.reduceEqDiff, reduceCtorEq, Nat.reduceAdd, Nat.reduceBEq, f9, f13, fa, Nat.zero_add, q3]
  refine Gives.bind ((ref_load k P.rw P.lo ref).mono ?_)
  rintro _ h1 ⟨qt1, lo1, v1, rfl, hv1⟩
  have P1 := P.quiet qt1 lo1
  have e1 : h1.get p = h.get p := qt1.2 p hp id
  have q' : QCell h1 p kd cls n ref was fits v := e1.trans q
  have q5 : loadV h1 false 1 (.ptr p 5) = some (.bool fits) := load_at q' rfl
  simp only [vms, vmc, AOpd.val, Nat.reduceEqDiff, reduceCtorEq, Nat.reduceAdd, Nat.reduceBEq, f13, fa, Nat.zero_add, q5]
  cases fits
  · simp only [vms, vmc, AOpd.val, Nat.reduceEqDiff, reduceCtorEq, Nat.reduceAdd, Nat.reduceBEq]
    refine hq _ h1 was P1 q' ⟨?_, ?_, ?_, ?_, ?_⟩ ?_
    all_goals simp only [vms, vmc, AOpd.val, Nat.reduceEqDiff, reduceCtorEq, Nat.reduceAdd, Nat.reduceBEq, f2, f7, f9, f11, f12, f13]
  · rcases hv1 with ⟨rfl, _, hne, rfl⟩ | ⟨hz, h8, ⟨o, rfl, hg⟩, ho⟩
    · have d : ((((loadP st ref).1 : Nat) : Int) == 0) = false := by rw [beq_eq_false_iff_ne]; omega
      simp only [d, vms, vmc, AOpd.val, Nat.reduceEqDiff, reduceCtorEq, Nat.reduceAdd, Nat.reduceBEq]
      refine hq _ _ was P1 q' ⟨?_, ?_, ?_, ?_, ?_⟩ ?_
      all_goals simp only [vms, vmc, AOpd.val, Nat.reduceEqDiff, reduceCtorEq, Nat.reduceAdd, Nat.reduceBEq, f2, f7, f9, f11, f12, f13]
    · have d : ((((loadP st ref).1 : Nat) : Int) == 0) = true := by rw [hz]; rfl
      obtain ⟨x0, hx0⟩ : ∃ x0, (loadP st ref).2[0]? = some x0 := ⟨_, List.getElem?_eq_getElem (by omega)⟩
      have hidx : idxAddrV 1 (.slice o 0 1 (loadP st ref).2.length (loadP st ref).2.length false) (.int .i64 0) = some (.ptr o 0) := by
        show (if 1 = 1 ∧ (0 : Int) ≤ 0 ∧ (0 : Int).toNat < (loadP st ref).2.length then some (AV.ptr o (0 + (0 : Int).toNat * 1)) else none) = _
        rw [if_pos ⟨rfl, Int.le_refl _, by show 0 < (loadP st ref).2.length; omega⟩]; rfl
      have hld : loadV h1 false 1 (.ptr o 0) = some (.int .u64 (x0 : Int)) := load_at hg (by simp [wcells, hx0])
      have hst := store_at (i := 4) (v := AV.int .u64 (x0 : Int)) q' (by simp) rfl rfl
      have u : Upd h1 (h1.set p (.cells ([AV.int .i64 kd, .int .i64 cls, .int .i64 n, .int .i64 ref, .int .u64 was, .bool true, v].set 4 (.int .u64 (x0 : Int))) true)) p := (Upd.refl h1 p).set _
      simp only [d, vms, vmc, AOpd.val, Nat.reduceEqDiff, reduceCtorEq, Nat.reduceAdd, Nat.reduceBEq, f13, fa, Nat.zero_add, hidx, hld, hst]
      refine hq _ _ x0 (P1.upd u (lo1.set (lo1 _ _ q') _) own) get_set_same ⟨?_, ?_, ?_, ?_, ?_⟩ ?_
      all_goals simp only [vms, vmc, AOpd.val, Nat.reduceEqDiff, reduceCtorEq, Nat.reduceAdd, Nat.reduceBEq, f2, f7, f9, f11, f12, f13]
end Go.Proofs.Ytejjkienklaghaa
/- Plays of both arenas: the law. -/
namespace Go.Proofs.Ytejjkienklaghaa
open Go.Vm
set_option linter.unusedSimpArgs false
set_option linter.unusedVariables false
set_option maxRecDepth 20000
variable {T : Vm.Prog} {h h0 h' : AH} {a w : Nat} {Fa Fw Fa' Fw' : Nat → Prop} {sa sw st st' : List SlotP} {vr : AV} {R : List Int}
/-- What a round asks, as it came in. -/
def AskIn (h0 : AH) (x : List AV) : Prop := ∃ kd cls n ref was fits v ws, x = [.int .i64 kd, .int .i64 cls, .int .i64 n, .int .i64 ref, .int .u64 was, .bool fits, v] ∧ InA h0 v ws
theorem pure_live (S : List Slot) : (S.map Slot.pure).countP (·.live) = S.countP (·.live) := by
  rw [List.countP_map]; rfl
/-- The end of a round. -/
theorem plays_tail (k : Fits T) {i : Nat} {lv : AV} {F : Fr} (P : PlayS h0 h a w Fa Fw st st vr R) (fp : FrP F lv a w vr i) (f16 : F.at 16 = .bool true) (hg : ∀ x ∈ st, x.gen ≤ 1073741824) {Q : AExit → Fr → AH → Prop}
    (hq : ∀ f' h', PlayS h0 h' a w Fa Fw st st vr R → FrP f' lv a w vr i → Q .normal f' h') : Wp (code T c6t F h) Q := by
  obtain ⟨f2, f7, f9, f11, f12⟩ := fp
  obtain ⟨sv, S, Qs, A, hS, inv, hfr, hF⟩ := P.rw
  have nc : nilChkV (.ptr w 0) = some (.ptr w 0) := rfl
  have fa0 : fieldAddrV 0 (.ptr w 0) = some (.ptr w 0) := rfl
  simp only [c6t, c6b, c6l2, sr, vms, vmc, AOpd.val, Nat.reduceEqDiff, reduceCtorEq, Nat.reduceAdd, Nat.reduceBEq, f9, nc, fa0, A.sv_load, A.slots.len]
  refine live_loop k A P.lo (by simp only [vms, vmc, AOpd.val, Nat.reduceEqDiff, reduceCtorEq, Nat.reduceAdd, Nat.reduceBEq]) (by simp only [vms, vmc, AOpd.val, Nat.reduceEqDiff, reduceCtorEq, Nat.reduceAdd, Nat.reduceBEq]) (by simp only [vms, vmc, AOpd.val, Nat.reduceEqDiff, reduceCtorEq, Nat.reduceAdd, Nat.reduceBEq]) (by simp only [vms, vmc, AOpd.val, Nat.reduceEqDiff, reduceCtorEq, Nat.reduceAdd, Nat.reduceBEq]) ?_
  intro F1 h1 on1 lo1 ft1 e29
  have P1 := P.quiet on1.quiet lo1
  have g2 : F1.at 2 = lv := by rw [ft1 2 (by omega)]; simp only [vms, vmc, AOpd.val, Nat.reduceEqDiff, reduceCtorEq, Nat.reduceAdd, Nat.reduceBEq, f2]
  have g7 : F1.at 7 = .ptr a 0 := by rw [ft1 7 (by omega)]; simp only [vms, vmc, AOpd.val, Nat.reduceEqDiff, reduceCtorEq, Nat.reduceAdd, Nat.reduceBEq, f7]
  have g9 : F1.at 9 = .ptr w 0 := by rw [ft1 9 (by omega)]; simp only [vms, vmc, AOpd.val, Nat.reduceEqDiff, reduceCtorEq, Nat.reduceAdd, Nat.reduceBEq, f9]
  have g11 : F1.at 11 = vr := by rw [ft1 11 (by omega)]; simp only [vms, vmc, AOpd.val, Nat.reduceEqDiff, reduceCtorEq, Nat.reduceAdd, Nat.reduceBEq, f11]
  have g12 : F1.at 12 = .int .i64 (i : Nat) := by rw [ft1 12 (by omega)]; simp only [vms, vmc, AOpd.val, Nat.reduceEqDiff, reduceCtorEq, Nat.reduceAdd, Nat.reduceBEq, f12]
  have g16 : F1.at 16 = .bool true := by rw [ft1 16 (by omega)]; simp only [vms, vmc, AOpd.val, Nat.reduceEqDiff, reduceCtorEq, Nat.reduceAdd, Nat.reduceBEq, f16]
  simp only [vms, vmc, AOpd.val, Nat.reduceEqDiff, reduceCtorEq, Nat.reduceAdd, Nat.reduceBEq, g16, g7]
  refine Gives.bind ((ar_live k P1.ra).mono ?_)
  rintro _ _ ⟨rfl, rfl⟩
  rename_i h1
  have hlc : liveP st = (S.countP (·.live) : Nat) := by
    rw [live_count (fun x hx => ?_), ← hS, pure_live]
    obtain ⟨n, hn⟩ := List.getElem?_of_mem hx
    exact ⟨(inv.each n x hn).1, hg x hx⟩
  have d : ((liveP st : Int) != ((S.countP (·.live) : Nat) : Int)) = false := by rw [hlc]; simp
  simp only [vms, vmc, AOpd.val, Nat.reduceEqDiff, reduceCtorEq, Nat.reduceAdd, Nat.reduceBEq, e29, d]
  refine class_loop k P1 (by simp only [vms, vmc, AOpd.val, Nat.reduceEqDiff, reduceCtorEq, Nat.reduceAdd, Nat.reduceBEq, g7]) (by simp only [vms, vmc, AOpd.val, Nat.reduceEqDiff, reduceCtorEq, Nat.reduceAdd, Nat.reduceBEq, g9]) (by simp only [vms, vmc, AOpd.val, Nat.reduceEqDiff, reduceCtorEq, Nat.reduceAdd, Nat.reduceBEq]) ?_
  intro F2 ft2
  simp only [vms, vmc, AOpd.val, Nat.reduceEqDiff, reduceCtorEq, Nat.reduceAdd, Nat.reduceBEq]
  refine hq _ h1 P1 ⟨?_, ?_, ?_, ?_, ?_⟩
  · rw [ft2 2 (by omega)]; simp only [vms, vmc, AOpd.val, Nat.reduceEqDiff, reduceCtorEq, Nat.reduceAdd, Nat.reduceBEq, g2]
  · rw [ft2 7 (by omega)]; simp only [vms, vmc, AOpd.val, Nat.reduceEqDiff, reduceCtorEq, Nat.reduceAdd, Nat.reduceBEq, g7]
  · rw [ft2 9 (by omega)]; simp only [vms, vmc, AOpd.val, Nat.reduceEqDiff, reduceCtorEq, Nat.reduceAdd, Nat.reduceBEq, g9]
  · rw [ft2 11 (by omega)]; simp only [vms, vmc, AOpd.val, Nat.reduceEqDiff, reduceCtorEq, Nat.reduceAdd, Nat.reduceBEq, g11]
  · rw [ft2 12 (by omega)]; simp only [vms, vmc, AOpd.val, Nat.reduceEqDiff, reduceCtorEq, Nat.reduceAdd, Nat.reduceBEq, g12]
theorem plays_loop (k : Fits T) {lv : AV} {asks : List (List AV)} (hl0 : Low h0) (sa : SeesS h0 7 lv asks) (hla : (asks.length : Int) < 9223372036854775808) (ax : ∀ x ∈ asks, AskIn h0 x) {F : Fr} (P : PlayS h0 h a w Fa Fw st st vr R) (fp : FrP F lv a w vr 0) (hR : R = []) (hg : ∀ x ∈ st, x.gen ≤ 1) {Q : AExit → Fr → AH → Prop}
    (hq : ∀ f' h', Q (.exit 0) f' h') : Wp (code T (.loop c6l2) F h) Q := by
  refine wpc_loop (fun m f h' => ∃ i Fa Fw st vr R, m = 60 - i ∧ i ≤ 60 ∧ PlayS h0 h' a w Fa Fw st st vr R ∧ R.length ≤ i ∧ (∀ x ∈ st, x.gen ≤ i + 1) ∧ FrP f lv a w vr i) ?_ 60 F h ⟨0, Fa, Fw, st, vr, R, rfl, by omega, P, by rw [hR]; simp, hg, fp⟩
  rintro m f h ⟨i, Fa, Fw, st, vr, R, rfl, hi, P, hR, hg, fp⟩
  obtain ⟨f2, f7, f9, f11, f12⟩ := fp
  rw [c6l2_parts]
  have lla : lenOfV lv = some asks.length := sa.len
  by_cases h1 : i < asks.length
  · have d1 : decide ((i : Int) < (asks.length : Int)) = true := by rw [decide_eq_true_eq]; omega
    by_cases h2 : i < 60
    · have d2 : decide ((i : Int) < 60) = true := by rw [decide_eq_true_eq]; omega
      obtain ⟨x, hx⟩ : ∃ x, asks[i]? = some x := ⟨_, List.getElem?_eq_getElem h1⟩
      obtain ⟨kd, cls, n, ref, was, fits, v, ws, rfl, iw⟩ := ax x (List.mem_of_getElem? hx)
      obtain ⟨lo', off, hlo, hix, hld⟩ : ∃ o off, objs lv = [o] ∧ idxAddrV 7 lv (.int .i64 (i : Int)) = some (.ptr o off) ∧ loadV h true 7 (.ptr o off) = some (.agg [.int .i64 kd, .int .i64 cls, .int .i64 n, .int .i64 ref, .int .u64 was, .bool fits, v]) := by
        have sah : SeesS h 7 lv asks := sa.keep fun o ho => P.qt.2 o (sa.low hl0 o ho) id
        rcases sah with ⟨rfl, rfl⟩ | ⟨o, off, cap, ex, l, rw', rfl, hg', e1, e2⟩
        · simp at hx
        · obtain ⟨_, e3⟩ := e2 i _ hx
          have e4 : (i + 1) * 7 ≤ asks.length * 7 := Nat.mul_le_mul_right 7 h1
          exact ⟨o, off + i * 7, rfl, by simp [idxAddrV, h1], load_part hg' rfl (by omega) e3⟩
      obtain ⟨c1, c2⟩ := src_cells iw.src
      have hst := store_all (get_new_same (h := h) (x := .cells [.int .i64 0, .int .i64 0, .int .i64 0, .int .i64 0, .int .u64 0, .bool false, .nilSlice] true)) (n := 7) (l' := [.int .i64 kd, .int .i64 cls, .int .i64 n, .int .i64 ref, .int .u64 was, .bool fits, v]) rfl rfl (by simp [AV.flat] at c2 ⊢; exact c2)
      have own := P.fresh (Nat.le_refl h.next)
      have Pn := P.quiet ((Quiet.refl h).new (.cells [.int .i64 0, .int .i64 0, .int .i64 0, .int .i64 0, .int .u64 0, .bool false, .nilSlice] true)) (P.lo.new _)
      have Pq := Pn.upd (h' := (h.new (.cells [.int .i64 0, .int .i64 0, .int .i64 0, .int .i64 0, .int .u64 0, .bool false, .nilSlice] true)).set h.next (.cells [.int .i64 kd, .int .i64 cls, .int .i64 n, .int .i64 ref, .int .u64 was, .bool fits, v] true)) ((Upd.refl _ _).set _) (Pn.lo.set (by rw [next_new]; omega) _) own
      simp only [c6q, c6p1, c6b, c6l2, sq, sr, vms, vmc, AOpd.val, Nat.reduceEqDiff, reduceCtorEq, Nat.reduceAdd, Nat.reduceBEq, f2, f7, f12, lla, d1, d2, show eqNilV 0 (.ptr a 0) .nilPtr = some false from rfl, hix, hld, hst]
      refine pick2 (i := i) (lv := lv) k Pq get_set_same own iw ⟨?_, ?_, ?_, ?_, ?_⟩ ?_ ?_
      rotate_right
      · intro F2 h2 v2 ws2 P2 q2 iw2 fp2 e2
        simp only [vms, vmc, AOpd.val, Nat.reduceEqDiff, reduceCtorEq, Nat.reduceAdd, Nat.reduceBEq]
        refine pick3 k P2 q2 own fp2 e2 (by omega) ?_
        intro F3 h3 ref3 P3 q3 fp3 e3
        simp only [vms, vmc, AOpd.val, Nat.reduceEqDiff, reduceCtorEq, Nat.reduceAdd, Nat.reduceBEq]
        refine pick4 k P3 q3 own fp3 e3 ?_
        intro F4 h4 was4 P4 q4 fp4 e4
        simp only [c6p5, c6b, c6l2, sq, sr, vms, vmc, AOpd.val, Nat.reduceEqDiff, reduceCtorEq, Nat.reduceAdd, Nat.reduceBEq]
        refine plays_switch (i := i) (lv := lv) k P4 q4 own iw2 ⟨?_, ?_, ?_, ?_, ?_⟩ ?_ ?_ (by omega) ?_
        rotate_right
        · intro F5 h5 Fa5 Fw5 st5 vr5 R5 P5 one hR5 fp5 e16
          have hg5 := one.gens hg
          simp only [vms, vmc, AOpd.val, Nat.reduceEqDiff, reduceCtorEq, Nat.reduceAdd, Nat.reduceBEq]
          refine plays_tail k P5 fp5 e16 (fun x hx => by have := hg5 x hx; omega) ?_
          intro F6 h6 P6 fp6
          have w1 : IntKind.i64.wrap ((i : Int) + 1) = ((i + 1 : Nat) : Int) := by rw [wrap_i64 (by omega) (by omega)]; rfl
          simp only [c6n, c6l2, sr, vms, vmc, AOpd.val, Nat.reduceEqDiff, reduceCtorEq, Nat.reduceAdd, Nat.reduceBEq, fp6.f12, w1]
          refine ⟨60 - (i + 1), by omega, i + 1, Fa5, Fw5, st5, vr5, R5, rfl, by omega, P6, by omega, hg5, ⟨?_, ?_, ?_, ?_, ?_⟩⟩
          all_goals simp only [vms, vmc, AOpd.val, Nat.reduceEqDiff, reduceCtorEq, Nat.reduceAdd, Nat.reduceBEq, fp6.f2, fp6.f7, fp6.f9, fp6.f11]
        all_goals simp only [vms, vmc, AOpd.val, Nat.reduceEqDiff, reduceCtorEq, Nat.reduceAdd, Nat.reduceBEq, fp4.f2, fp4.f7, fp4.f9, fp4.f11, fp4.f12, e4]
      all_goals simp only [vms, vmc, AOpd.val, Nat.reduceEqDiff, reduceCtorEq, Nat.reduceAdd, Nat.reduceBEq, f2, f7, f9, f11, f12]
    · have d2 : decide ((i : Int) < 60) = false := by rw [decide_eq_false_iff_not]; omega
      simp only [c6q, c6l2, sq, vms, vmc, AOpd.val, Nat.reduceEqDiff, reduceCtorEq, Nat.reduceAdd, Nat.reduceBEq, f2, f7, f12, lla, d1, d2]
      exact hq _ _
  · have d1 : decide ((i : Int) < (asks.length : Int)) = false := by rw [decide_eq_false_iff_not]; omega
    simp only [c6q, c6l2, sq, vms, vmc, AOpd.val, Nat.reduceEqDiff, reduceCtorEq, Nat.reduceAdd, Nat.reduceBEq, f2, f7, f12, lla, d1]
    exact hq _ _
def c6r : ACode := sr (sr c6)
theorem plays_good (k : Fits T) {lv : AV} {asks : List (List AV)} {p : Nat} {ns : List Nat} (hl0 : Low h0) (sa : SeesS h0 7 lv asks) (hla : (asks.length : Int) < 9223372036854775808) (ax : ∀ x ∈ asks, AskIn h0 x) (h5 : ns.length = 5) (hsum : ns.sum ≤ 1024) (lo : Low h) (qt : Quiet h0 h) (hg : h.get p = some (.cells (ints ns) true)) {F : Fr} (f2 : F.at 2 = lv) (f3 : F.at 3 = .ptr p 0) {Q : AExit → Fr → AH → Prop}
    (hq : ∀ f' h', f'.at 6 = .bool true → Q .ret f' h') : Wp (code T c6r F h) Q := by
  have hli : (ints ns).length = 5 := by simp [ints, h5]
  simp only [c6r, c6, sr, vms, vmc, AOpd.val, Nat.reduceEqDiff, reduceCtorEq, Nat.reduceAdd, Nat.reduceBEq, f3, load_all hg hli]
  refine Gives.bind ((ar_newS k lo h5 hsum).mono ?_)
  rintro _ h1 ⟨a, Fa, rfl, ra, q1, hFa, lo1⟩
  have hg1 : h1.get p = some (.cells (ints ns) true) := (q1.2 p (lo _ _ hg) id).trans hg
  simp only [vms, vmc, AOpd.val, Nat.reduceEqDiff, reduceCtorEq, Nat.reduceAdd, Nat.reduceBEq, f3, load_all hg1 hli]
  refine Gives.bind ((ref_new k lo1 h5 hsum).mono ?_)
  rintro _ h2 ⟨w, Fw, rfl, rw2, q2, hFw, lo2⟩
  have hal := (ra.res lo1).low
  have P : PlayS h0 h2 a w Fa Fw (newSt ns) (newSt ns) .nilSlice [] := by
    refine ⟨lo2, (qt.trans q1).trans q2, (ra.res lo1).loc h2 q2.1 (fun o ho => q2.2 o (hal o ho) id), rw2, fun o ho => Nat.le_trans qt.1 (hFa o ho), fun o ho => Nat.le_trans qt.1 (Nat.le_trans q1.1 (hFw o ho)), fun o h1 h2 => by have := hal o h1; have := hFw o h2; omega, .inl ⟨rfl, rfl⟩, fun o ho => by simp [objs] at ho⟩
  simp only [vms, vmc, AOpd.val, Nat.reduceEqDiff, reduceCtorEq, Nat.reduceAdd, Nat.reduceBEq, show eqNilV 0 (.ptr a 0) .nilPtr = some false from rfl, show eqNilV 0 (.ptr w 0) .nilPtr = some false from rfl, show eqBV true (.bool false) (.bool false) = some (.bool false) from rfl, show ((0 : Int) != 0) = false from rfl]
  refine plays_loop k hl0 sa hla ax P ⟨?_, ?_, ?_, ?_, ?_⟩ rfl (fun x hx => ?_) ?_
  rotate_right
  · intro F3 h3
    simp only [vms, vmc, AOpd.val, Nat.reduceEqDiff, reduceCtorEq, Nat.reduceAdd, Nat.reduceBEq]
    refine Gives.bind ((k.yes _).mono ?_)
    rintro _ _ ⟨rfl, rfl⟩
    simp only [vms, vmc, AOpd.val, Nat.reduceEqDiff, reduceCtorEq, Nat.reduceAdd, Nat.reduceBEq]
    exact hq _ _ (by simp only [vms, vmc, AOpd.val, Nat.reduceEqDiff, reduceCtorEq, Nat.reduceAdd, Nat.reduceBEq])
  rotate_right
  · simp only [newSt, newP, List.mem_map] at hx
    obtain ⟨c, _, rfl⟩ := hx
    exact Nat.le_refl _
  all_goals (simp only [vms, vmc, AOpd.val, Nat.reduceEqDiff, reduceCtorEq, Nat.reduceAdd, Nat.reduceBEq, f2] <;> rfl)
theorem plays_bad (k : Fits T) {lv : AV} {asks : List (List AV)} {p : Nat} {zs : List Int} (sa : lenOfV lv = some asks.length) (h5 : zs.length = 5) (hbad : ¬ okZ zs) (lo : Low h) (hg : h.get p = some (.cells (izs zs) true)) {F : Fr} (f2 : F.at 2 = lv) (f3 : F.at 3 = .ptr p 0) {Q : AExit → Fr → AH → Prop}
    (hq : ∀ f' h', f'.at 6 = .bool true → Q .ret f' h') : Wp (code T c6r F h) Q := by
  have hli : (izs zs).length = 5 := by simp [izs, h5]
  simp only [c6r, c6, sr, vms, vmc, AOpd.val, Nat.reduceEqDiff, reduceCtorEq, Nat.reduceAdd, Nat.reduceBEq, f3, load_all hg hli]
  refine Gives.bind ((ar_new_no k lo h5 hbad).mono ?_)
  rintro _ h1 ⟨rfl, q1, lo1⟩
  have hg1 : h1.get p = some (.cells (izs zs) true) := (q1.2 p (lo _ _ hg) id).trans hg
  simp only [vms, vmc, AOpd.val, Nat.reduceEqDiff, reduceCtorEq, Nat.reduceAdd, Nat.reduceBEq, f3, load_all hg1 hli]
  refine Gives.bind ((ref_new_no k lo1 h5 hbad).mono ?_)
  rintro _ h2 ⟨rfl, q2, lo2⟩
  simp only [vms, vmc, AOpd.val, Nat.reduceEqDiff, reduceCtorEq, Nat.reduceAdd, Nat.reduceBEq, show eqNilV 0 .nilPtr .nilPtr = some true from rfl, show eqBV true (.bool true) (.bool true) = some (.bool false) from rfl, show ((1 : Int) != 1) = false from rfl]
  refine wpc_loop (fun m f h' => f.at 2 = lv ∧ f.at 7 = .nilPtr ∧ f.at 12 = .int .i64 0) ?_ 0 _ _ ⟨?_, ?_, ?_⟩
  · rintro m f h3 ⟨e2, e7, e12⟩
    rw [c6l2_parts]
    by_cases hl : (0 : Int) < (asks.length : Int)
    · have d1 : decide ((0 : Int) < (asks.length : Int)) = true := by simpa using hl
      simp only [c6q, c6l2, sq, vms, vmc, AOpd.val, Nat.reduceEqDiff, reduceCtorEq, Nat.reduceAdd, Nat.reduceBEq, e2, e7, e12, sa, d1, show decide ((0 : Int) < 60) = true from rfl, show eqNilV 0 .nilPtr .nilPtr = some true from rfl]
      refine Gives.bind ((k.yes _).mono ?_)
      rintro _ _ ⟨rfl, rfl⟩
      simp only [vms, vmc, AOpd.val, Nat.reduceEqDiff, reduceCtorEq, Nat.reduceAdd, Nat.reduceBEq]
      exact hq _ _ (by simp only [vms, vmc, AOpd.val, Nat.reduceEqDiff, reduceCtorEq, Nat.reduceAdd, Nat.reduceBEq])
    · have d1 : decide ((0 : Int) < (asks.length : Int)) = false := by simpa using hl
      simp only [c6q, c6l2, sq, vms, vmc, AOpd.val, Nat.reduceEqDiff, reduceCtorEq, Nat.reduceAdd, Nat.reduceBEq, e2, e7, e12, sa, d1]
      refine Gives.bind ((k.yes _).mono ?_)
      rintro _ _ ⟨rfl, rfl⟩
      simp only [vms, vmc, AOpd.val, Nat.reduceEqDiff, reduceCtorEq, Nat.reduceAdd, Nat.reduceBEq]
      exact hq _ _ (by simp only [vms, vmc, AOpd.val, Nat.reduceEqDiff, reduceCtorEq, Nat.reduceAdd, Nat.reduceBEq])
  all_goals (simp only [vms, vmc, AOpd.val, Nat.reduceEqDiff, reduceCtorEq, Nat.reduceAdd, Nat.reduceBEq, f2] <;> rfl)
theorem c6_parts : c6 = .seq (.ops [⟨(some 3), .box (.tmp 0), none⟩, ⟨(some 6), .mov (.con (.bool false)), none⟩]) (.seq (.seq (.ops [⟨(some 34), .mov (.tmp 1), none⟩, ⟨(some 35), .un .not (.tmp 34), none⟩])
    (.cond (.tmp 35) (.ops [⟨(some 36), .load true 5 (.tmp 3), none⟩, ⟨(some 37), .call 19 [(.tmp 36)], none⟩, ⟨none, .store 5 (.tmp 3) (.tmp 37), none⟩]) .skip)) c6r) := rfl
theorem plays_run (k : Fits T) {lv : AV} {asks : List (List AV)} {zs : List Int} {raw : Bool} (hl : Low h) (sa : SeesS h 7 lv asks) (hla : (asks.length : Int) < 9223372036854775808) (ax : ∀ x ∈ asks, AskIn h x) (h5 : zs.length = 5) :
    Gives T 6 [.agg (izs zs), .bool raw, lv] h fun r _ => r = .bool true := by
  refine gives_func (k.env _ (by decide)) (k.at (fn := a6) rfl) rfl ?_
  have hz5 : (izs zs).length = 5 := by simp [izs, h5]
  have lo1 := hl.new (.cells (izs zs) true)
  have q1 : Quiet h (h.new (.cells (izs zs) true)) := (Quiet.refl h).new _
  have g1 : (h.new (.cells (izs zs) true)).get h.next = some (.cells (izs zs) true) := get_new_same
  have nx1 : (h.new (.cells (izs zs) true)).next = h.next + 1 := next_new
  simp only [a6, c6_parts, vms, vmc, AOpd.val, Nat.reduceEqDiff, reduceCtorEq, Nat.reduceAdd, Nat.reduceBEq, box_agg]
  generalize h.new (.cells (izs zs) true) = h1 at lo1 q1 g1 nx1
  cases raw
  · simp only [vms, vmc, AOpd.val, Nat.reduceEqDiff, reduceCtorEq, Nat.reduceAdd, Nat.reduceBEq, load_all g1 hz5]
    refine Gives.bind ((counts_ok k lo1 h5).mono ?_)
    rintro _ h2 ⟨ns, rfl, n5, hn5, on2, lo2⟩
    have hsum : ns.sum ≤ 1024 := by
      match ns, n5 with
      | [a, b, c, d, e], _ =>
        have := hn5 a (by simp); have := hn5 b (by simp); have := hn5 c (by simp); have := hn5 d (by simp); have := hn5 e (by simp)
        simp; omega
    have g2 : h2.get h.next = some (.cells (izs zs) true) := (on2.2 _ (by omega) (by simp)).trans g1
    have hni : (ints ns).length = 5 := by simp [ints, n5]
    have hfl : (ints ns).all AV.flat = true := by
      simp only [ints, List.all_eq_true, List.mem_map]
      rintro x ⟨n, _, rfl⟩; rfl
    simp only [vms, vmc, AOpd.val, Nat.reduceEqDiff, reduceCtorEq, Nat.reduceAdd, Nat.reduceBEq, store_all g2 hz5 hni hfl]
    refine plays_good k (h0 := h) (p := h.next) hl sa hla ax n5 hsum (lo2.set (lo2 _ _ g2) _) ((q1.trans on2.quiet).set (Nat.le_refl _) _) get_set_same (by simp only [vms, vmc, AOpd.val, Nat.reduceEqDiff, reduceCtorEq, Nat.reduceAdd, Nat.reduceBEq]) (by simp only [vms, vmc, AOpd.val, Nat.reduceEqDiff, reduceCtorEq, Nat.reduceAdd, Nat.reduceBEq]) ?_
    intro f' h' e
    simp only [vms, vmc, AOpd.val, Nat.reduceEqDiff, reduceCtorEq, Nat.reduceAdd, Nat.reduceBEq, e]
  · simp only [vms, vmc, AOpd.val, Nat.reduceEqDiff, reduceCtorEq, Nat.reduceAdd, Nat.reduceBEq]
    by_cases hok : okZ zs
    · obtain ⟨ns, e, n5, hsum⟩ := okZ_ints h5 hok
      rw [e] at g1
      refine plays_good k (h0 := h) (p := h.next) hl sa hla ax n5 hsum lo1 q1 g1 (by simp only [vms, vmc, AOpd.val, Nat.reduceEqDiff, reduceCtorEq, Nat.reduceAdd, Nat.reduceBEq]) (by simp only [vms, vmc, AOpd.val, Nat.reduceEqDiff, reduceCtorEq, Nat.reduceAdd, Nat.reduceBEq]) ?_
      intro f' h' e
      simp only [vms, vmc, AOpd.val, Nat.reduceEqDiff, reduceCtorEq, Nat.reduceAdd, Nat.reduceBEq, e]
    · refine plays_bad k (p := h.next) sa.len h5 hok lo1 g1 (by simp only [vms, vmc, AOpd.val, Nat.reduceEqDiff, reduceCtorEq, Nat.reduceAdd, Nat.reduceBEq]) (by simp only [vms, vmc, AOpd.val, Nat.reduceEqDiff, reduceCtorEq, Nat.reduceAdd, Nat.reduceBEq]) ?_
      intro f' h' e
      simp only [vms, vmc, AOpd.val, Nat.reduceEqDiff, reduceCtorEq, Nat.reduceAdd, Nat.reduceBEq, e]
end Go.Proofs.Ytejjkienklaghaa
/- Plays of both arenas: what came in. -/
namespace Go.Proofs.Ytejjkienklaghaa
open Go.Vm
set_option linter.unusedSimpArgs false
set_option linter.unusedVariables false
variable {h : AH}
theorem u64_nat {x : Int} (w : (Lit.int .u64 x).wf = true) : ∃ n : Nat, x = n ∧ n < 18446744073709551616 := by
  have h : 0 ≤ x ∧ x ≤ 18446744073709551615 := by simpa [Lit.wf, IntKind.min, IntKind.max, IntKind.signed, IntKind.bits] using w
  exact ⟨x.toNat, by omega, by omega⟩
theorem nats_of : ∀ {xs : List Int}, (∀ x ∈ xs, (Lit.int .u64 x).wf = true) → ∃ ws : List Nat, xs.map (AV.int .u64) = wcells ws ∧ ws.length = xs.length
  | [], _ => ⟨[], rfl, rfl⟩
  | x :: xs, hx => by
    obtain ⟨ws, e, hl⟩ := nats_of (xs := xs) fun y hy => hx y (by simp [hy])
    obtain ⟨n, rfl, _⟩ := u64_nat (hx x (by simp))
    exact ⟨n :: ws, by rw [List.map_cons, e]; rfl, by simp [hl]⟩
theorem words_in {P : Program} {t e : TypeId} {v : AV} (hl : Low h) (ht : P.underlying t = some (.slice e)) (he : P.underlying e = some (.int .u64)) (h1 : P.cellsOf e = 1) (c : Came P h t [v]) : ∃ ws, InA h v ws := by
  have cv : CameV P h t v := ⟨[v], c, by unfold avOf; rw [ht]; rfl⟩
  obtain ⟨xs, s, hlen, hw, hob⟩ := came_intRow ht he h1 cv
  obtain ⟨ws, e1, e2⟩ := nats_of hw
  rw [e1] at s
  have hmax := maxLen_eq
  refine ⟨ws, ?_, fun o ho => ?_, Came.capOk ht c, by omega⟩
  · rcases s with ⟨rfl, h0⟩ | ⟨o, off, cap, ex, l, r, rfl, hg, h2, h3⟩
    · refine .inl ⟨rfl, ?_⟩
      cases ws with
      | nil => rfl
      | cons w ws => simp [wcells] at h0
    · obtain ⟨l', hg'⟩ := hob o (by simp [objs])
      rw [hg'] at hg
      have hr : l' = l := by
        cases r with
        | none => simp [AObj.of] at hg
        | some b => simp [AObj.of] at hg; exact hg.1
      subst hr
      rw [wcells_len] at h2
      refine .inr ⟨o, off, cap, ex, l', false, by rw [wcells_len], hg', h2, ?_⟩
      apply List.ext_getElem?
      intro i
      by_cases hi : i < ws.length
      · rw [List.getElem?_take, if_pos hi, List.getElem?_drop, List.getElem?_eq_getElem (l := wcells ws) (by rw [wcells_len]; exact hi)]
        exact h3 i _ (List.getElem?_eq_getElem (by rw [wcells_len]; exact hi))
      · rw [List.getElem?_eq_none (by rw [List.length_take]; omega), List.getElem?_eq_none (by rw [wcells_len]; omega)]
  · obtain ⟨l, hg⟩ := hob o ho
    exact hl _ _ hg
theorem askIn_of {P : Program} {e : TypeId} {cs : List AV} (hl : Low h) (he : P.underlying e = some (.int .u64)) (h1 : P.cellsOf e = 1) (c : CellsAre P h [.int .i64, .int .i64, .int .i64, .int .i64, .int .u64, .bool, .slice e] cs) : AskIn h cs := by
  obtain ⟨b1, r1, rfl, ⟨kd, rfl, _⟩, c1⟩ := c.cons_inv
  obtain ⟨b2, r2, rfl, ⟨cls, rfl, _⟩, c2⟩ := c1.cons_inv
  obtain ⟨b3, r3, rfl, ⟨n, rfl, _⟩, c3⟩ := c2.cons_inv
  obtain ⟨b4, r4, rfl, ⟨ref, rfl, _⟩, c4⟩ := c3.cons_inv
  obtain ⟨b5, r5, rfl, ⟨was, rfl, _⟩, c5⟩ := c4.cons_inv
  obtain ⟨b6, r6, rfl, ⟨fits, rfl⟩, c6⟩ := c5.cons_inv
  obtain ⟨b7, r7, rfl, ⟨t, ht, cw⟩, c7⟩ := c6.cons_inv
  cases c7.nil_inv
  obtain ⟨ws, iw⟩ := words_in hl ht he h1 cw
  exact ⟨kd, cls, n, ref, was, fits, b7, ws, rfl, iw⟩
theorem five_in {P : Program} {cs : List AV} (c : CellsAre P h [.int .i64, .int .i64, .int .i64, .int .i64, .int .i64] cs) : ∃ zs : List Int, cs = izs zs ∧ zs.length = 5 := by
  obtain ⟨b1, r1, rfl, ⟨x1, rfl, _⟩, c1⟩ := c.cons_inv
  obtain ⟨b2, r2, rfl, ⟨x2, rfl, _⟩, c2⟩ := c1.cons_inv
  obtain ⟨b3, r3, rfl, ⟨x3, rfl, _⟩, c3⟩ := c2.cons_inv
  obtain ⟨b4, r4, rfl, ⟨x4, rfl, _⟩, c4⟩ := c3.cons_inv
  obtain ⟨b5, r5, rfl, ⟨x5, rfl, _⟩, c5⟩ := c4.cons_inv
  cases c5.nil_inv
  exact ⟨[x1, x2, x3, x4, x5], rfl, rfl⟩
end Go.Proofs.Ytejjkienklaghaa

/- PostingPlays: what stands between the calls; the answers. -/
import Derived.Test.YteokopjiaiflnaaP20Yg
namespace Go.Proofs.Yteokopjiaiflnaa
open Go.Vm
set_option linter.unusedSimpArgs false
set_option linter.unusedVariables false
set_option maxRecDepth 100000
variable {T : Vm.Prog} {h : AH}
theorem load_group {a v : AV} (hl : loadV h false 1 a = some v) : loadV h true 1 a = some (.agg [v]) := by
  cases a with
  | ptr o off =>
    simp only [loadV, if_true, Bool.false_eq_true, if_false] at hl ⊢
    cases hx : h.load o off 1 with
    | none => rw [hx] at hl; cases hl
    | some l =>
      rw [hx] at hl
      match l, hl with
      | [w], hl => simp at hl; subst hl; rfl
  | _ => simp [loadV] at hl
theorem BlksG.low {G : Nat → Prop} {v : AV} {bs : List (List Int)} (s : BlksG G h v bs) (hl : Low h) : BlksG (fun o => G o ∧ o < h.next) h v bs := by
  obtain ⟨vs, s, c, hv, he, hg⟩ := s
  refine ⟨vs, s, c, fun o ho => ⟨hv o ho, sees_low s hl o ho⟩, he, fun x hx o ho => ⟨hg x hx o ho, ?_⟩⟩
  obtain ⟨i, hi⟩ := List.getElem?_of_mem hx
  have hlt := (List.getElem?_eq_some_iff.1 hi).1
  exact sees_low (he.2 i x _ hi (List.getElem?_eq_getElem (he.1 ▸ hlt))).1 hl o ho
/-- The lists so far, and the reference's. -/
structure PI (h h' : AH) (xv yv : AV) (L : List (List (List Int))) : Prop where
  quiet : Quiet h h'
  low : Low h'
  rx : ∃ vs, Row1 h' xv vs ∧ vs.length = L.length ∧ ∀ (j : Nat) v bs, vs[j]? = some v → L[j]? = some bs → BlksG (fun o => o ∉ objs xv ∧ o ∉ objs yv) h' v bs
  ry : ∃ ws, Row1 h' yv ws ∧ ws.length = L.length ∧ ∀ (j : Nat) v bs, ws[j]? = some v → L[j]? = some bs → BlksG (fun o => o ∉ objs xv ∧ o ∉ objs yv) h' v bs
  fx : ∀ o ∈ objs xv, h.next ≤ o
  fy : ∀ o ∈ objs yv, h.next ≤ o
  dj : ∀ o ∈ objs xv, o ∉ objs yv
  fine : ∀ bs ∈ L, Fine bs (100 + L.length)
theorem PI.keep {h' h'' : AH} {xv yv : AV} {L : List (List (List Int))} (p : PI h h' xv yv L) (q : Quiet h' h'') (lo : Low h'') : PI h h'' xv yv L := by
  obtain ⟨q0, l0, ⟨vs, r1, r2, r3⟩, ⟨ws, s1, s2, s3⟩, fx, fy, dj, fine⟩ := p
  exact ⟨q0.trans q, lo, ⟨vs, row_quiet r1 l0 q, r2, fun j v bs hv hb => (r3 j v bs hv hb).keep l0 q⟩, ⟨ws, row_quiet s1 l0 q, s2, fun j v bs hv hb => (s3 j v bs hv hb).keep l0 q⟩, fx, fy, dj, fine⟩
theorem PI.lenX {h' : AH} {xv yv : AV} {L : List (List (List Int))} (p : PI h h' xv yv L) : lenOfV xv = some L.length := by
  obtain ⟨vs, r1, r2, _⟩ := p.rx; rw [r1.sees.len, r2]
theorem PI.lenY {h' : AH} {xv yv : AV} {L : List (List (List Int))} (p : PI h h' xv yv L) : lenOfV yv = some L.length := by
  obtain ⟨vs, r1, r2, _⟩ := p.ry; rw [r1.sees.len, r2]
theorem PI.atX {h' : AH} {xv yv : AV} {L : List (List (List Int))} (p : PI h h' xv yv L) {j : Nat} {bs : List (List Int)} (hj : L[j]? = some bs) : ∃ a v, idxAddrV 1 xv (.int .i64 (j : Int)) = some a ∧ loadV h' true 1 a = some (.agg [v]) ∧ BlksG (fun o => o ∉ objs xv ∧ o ∉ objs yv) h' v bs := by
  obtain ⟨vs, r1, r2, r3⟩ := p.rx
  have hlt := (List.getElem?_eq_some_iff.1 hj).1
  obtain ⟨v, hv⟩ : ∃ v, vs[j]? = some v := ⟨_, List.getElem?_eq_getElem (by omega)⟩
  obtain ⟨a, h1, h2⟩ := r1.sees.at hv .i64
  exact ⟨a, v, h1, load_group h2, r3 j v bs hv hj⟩
theorem PI.atY {h' : AH} {xv yv : AV} {L : List (List (List Int))} (p : PI h h' xv yv L) {j : Nat} {bs : List (List Int)} (hj : L[j]? = some bs) : ∃ a v, idxAddrV 1 yv (.int .i64 (j : Int)) = some a ∧ loadV h' false 1 a = some v ∧ BlksG (fun o => o ∉ objs xv ∧ o ∉ objs yv) h' v bs := by
  obtain ⟨vs, r1, r2, r3⟩ := p.ry
  have hlt := (List.getElem?_eq_some_iff.1 hj).1
  obtain ⟨v, hv⟩ : ∃ v, vs[j]? = some v := ⟨_, List.getElem?_eq_getElem (by omega)⟩
  obtain ⟨a, h1, h2⟩ := r1.sees.at hv .i64
  exact ⟨a, v, h1, h2, r3 j v bs hv hj⟩
theorem row_putX {h' : AH} {r r' : AV} {vs : List AV} {v : AV} {L : List (List (List Int))} {bs : List (List Int)} {G : Nat → Prop} (hr : Row1 h' r' (vs ++ [v])) (hlen : vs.length = L.length)
    (old : ∀ (j : Nat) z cs, vs[j]? = some z → L[j]? = some cs → BlksG G h' z cs) (new : BlksG G h' v bs) : ∃ ws, Row1 h' r' ws ∧ ws.length = (L ++ [bs]).length ∧ ∀ (j : Nat) z cs, ws[j]? = some z → (L ++ [bs])[j]? = some cs → BlksG G h' z cs := by
  refine ⟨_, hr, by simp [hlen], fun j z cs hz hc => ?_⟩
  rw [List.getElem?_append] at hz hc
  rw [hlen] at hz
  by_cases hj : j < L.length
  · rw [if_pos hj] at hz hc; exact old j z cs hz hc
  · rw [if_neg hj] at hz hc
    have h0 : j - L.length = 0 := by
      have := (List.getElem?_eq_some_iff.1 hc).1
      simp at this; omega
    rw [h0] at hz hc
    simp at hz hc
    subst hz hc
    exact new
/-- One list more, on both sides. -/
theorem PI.push {h1 h2 : AH} {xv yv v w : AV} {L : List (List (List Int))} {bs : List (List Int)} (p : PI h h1 xv yv L) (q : Quiet h1 h2) (lo : Low h2) (sv : BlksG (fun o => (o ∉ objs xv ∧ o ∉ objs yv) ∨ h1.next ≤ o) h2 v bs) (sw : BlksG (fun o => (o ∉ objs xv ∧ o ∉ objs yv) ∨ h1.next ≤ o) h2 w bs) (hf : Fine bs (100 + L.length + 1)) (hL : L.length < 1000) :
    ∃ xv' h3 yv' h4, appV 1 24 (h2.new (.cells [v] true)) xv (.slice h2.next 0 1 1 1 true) = some (xv', h3) ∧ appV 1 24 (h3.new (.cells [w] true)) yv (.slice h3.next 0 1 1 1 true) = some (yv', h4) ∧ PI h h4 xv' yv' (L ++ [bs]) := by
  have p2 := p.keep q lo
  have xl : ∀ o ∈ objs xv, o < h1.next := by obtain ⟨vs, r1, _⟩ := p.rx; exact RowS.low r1 p.low
  have yl : ∀ o ∈ objs yv, o < h1.next := by obtain ⟨vs, r1, _⟩ := p.ry; exact RowS.low r1 p.low
  obtain ⟨q0, l0, ⟨vs, r1, r2, r3⟩, ⟨ws, s1, s2, s3⟩, fx, fy, dj, fine⟩ := p2
  have cv := sv.v.cell
  have cw := sw.v.cell
  obtain ⟨xv', h3, ha, hr, ho, hm, lo3⟩ := row_app (bytes := 24) lo r1 (by decide) (by decide) (by omega) cv.2.1
  have s1' : Row1 h3 yv ws := RowS.keep s1 fun o hoy => hm.2 o (by have := yl o hoy; have := q.1; omega) fun hx => dj o hx hoy
  obtain ⟨yv', h4, hb, hs, hp, hn, lo4⟩ := row_app (bytes := 24) lo3 s1' (by decide) (by decide) (by omega) cw.2.1
  have x3 := RowS.low hr lo3
  have qn := q.1
  have mn := hm.1
  have keyO : ∀ {z : AV} {cs : List (List Int)}, BlksG (fun o => (o ∉ objs xv ∧ o ∉ objs yv) ∨ h1.next ≤ o) h2 z cs → BlksG (fun o => o ∉ objs xv' ∧ o ∉ objs yv') h4 z cs := fun {z cs} s => by
    have s' := s.low lo
    have k1 : ∀ o, ((o ∉ objs xv ∧ o ∉ objs yv) ∨ h1.next ≤ o) ∧ o < h2.next → o ∉ objs xv ∧ o ∉ objs yv := fun o ⟨h5, h6⟩ => by
      rcases h5 with h5 | h5
      · exact h5
      · exact ⟨fun hx => by have := xl o hx; omega, fun hy => by have := yl o hy; omega⟩
    refine (s'.turn (h' := h4) fun o hG => ?_).mono fun o hG => ?_
    · obtain ⟨n1, n2⟩ := k1 o hG
      rw [hn.2 o (by omega) n2, hm.2 o hG.2 n1]
    · obtain ⟨n1, n2⟩ := k1 o hG
      refine ⟨fun hx => ?_, fun hy => ?_⟩
      · rcases ho o hx with h5 | h5
        · exact n1 h5
        · have := hG.2; omega
      · rcases hp o hy with h5 | h5
        · exact n2 h5
        · have := hG.2; omega
  have oldO : ∀ {z : AV} {cs : List (List Int)}, BlksG (fun o => o ∉ objs xv ∧ o ∉ objs yv) h2 z cs → BlksG (fun o => o ∉ objs xv' ∧ o ∉ objs yv') h4 z cs := fun s => keyO (s.mono fun o h => .inl h)
  have hr4 : Row1 h4 xv' (vs ++ [v]) := RowS.keep hr fun o hox => hn.2 o (x3 o hox) fun hy => by
    rcases ho o hox with h5 | h5
    · exact dj o h5 hy
    · have := yl o hy; omega
  refine ⟨xv', h3, yv', h4, ha, hb, ⟨mods_quiet (mods_quiet q0 hm fx) hn fy, lo4, row_putX (r := xv) hr4 r2 (fun j z cs hz hc => oldO (r3 j z cs hz hc)) (keyO sv), row_putX (r := yv) hs s2 (fun j z cs hz hc => oldO (s3 j z cs hz hc)) (keyO sw), fun o hox => ?_, fun o hoy => ?_, fun o hox hoy => ?_, fun cs hcs => ?_⟩⟩
  · rcases ho o hox with h5 | h5
    · exact fx o h5
    · have := q0.1; omega
  · rcases hp o hoy with h5 | h5
    · exact fy o h5
    · have := q0.1; omega
  · rcases hp o hoy with h5 | h5
    · rcases ho o hox with h6 | h6
      · exact dj o h6 h5
      · have := yl o h5; omega
    · have := x3 o hox; omega
  · rw [List.length_append]
    rcases List.mem_append.1 hcs with h5 | h5
    · have := fine cs h5; exact ⟨this.good, this.small, by have h6 := this.len; rw [List.length_singleton]; omega⟩
    · rw [List.mem_singleton.1 h5]; exact hf
theorem fillA {v : AV} (hd : AV.isDef (.agg [v]) = true) : fillV [.nilSlice] [(0, 1, .agg [v])] = some [v] := by
  simp [fillV, hd, AV.cells, setMany]
theorem look_new {d q : Nat} {l : List AV} {f : Fr} (hd : f.at d = .ptr q 0) (hq : h.get q = some (.cells l true)) (hl : AV.beqs l l = true) : AOper.lookAgain ⟨some d, .new l, none⟩ f h = true := by
  unfold AOper.lookAgain
  simp only [wantedV, AOp.eval]
  rw [if_neg (by rw [next_new]; omega), hd]
  simp only [objOf, get_new_same, hq, beqObj, hl]
  rfl
def c9B : ACode := match cFst (cSnd c9l0) with
  | .block _ c => c
  | c => c
def c9u : ACode := cTail 2 c9B
theorem plays_tail (k : Base T) {h1 : AH} {xv yv lv : AV} {L : List (List (List Int))} {asks : List (Int × Int × Int)} {i kk : Nat} {a : Int × Int × Int} (p : PI h h1 xv yv L) (sa : Asks h1 lv asks) (ha : asks[i]? = some a) (hk : kk < L.length) (hL : L.length < 1000)
    {f : Fr} (f1 : f.at 1 = lv) (f10 : f.at 10 = xv) (f11 : f.at 11 = yv) (f12 : f.at 12 = .int .i64 (i : Int)) (f13 : f.at 13 = .int .i64 (kk : Int)) {Q : AExit → Fr → AH → Prop}
    (hq : ∀ f' h2, PI h h2 xv yv L → Quiet h1 h2 → f'.at 1 = lv → f'.at 10 = xv → f'.at 11 = yv → f'.at 12 = .int .i64 (i : Int) → Q .normal f' h2) : Wp (code T c9u f h1) Q := by
  obtain ⟨bs, hbs⟩ : ∃ bs, L[kk]? = some bs := ⟨_, List.getElem?_eq_getElem hk⟩
  obtain ⟨bz, hbz⟩ : ∃ bz, L[L.length - 1]? = some bz := ⟨_, List.getElem?_eq_getElem (by omega)⟩
  have fi := p.fine bs (List.mem_of_getElem? hbs)
  have fz := p.fine bz (List.mem_of_getElem? hbz)
  have fl := fi.len
  have gl := fi.good.len
  obtain ⟨o, off, hi1, _, hi3, _⟩ := sa.at ha
  obtain ⟨py, w, hy1, hy2, sw⟩ := p.atY hbs
  obtain ⟨px, v, hx1, hx2, sv⟩ := p.atX hbs
  have lnx := p.lenX
  have lny := p.lenY
  have wl : IntKind.i64.wrap ((L.length : Int) - 1) = ((L.length - 1 : Nat) : Int) := by rw [wrap_i64 (by omega) (by omega)]; omega
  simp only [c9u, cTail, c9B, cFst, cSnd, c9l0, vms, vmc, AOpd.val, Nat.reduceEqDiff, reduceCtorEq, Nat.reduceAdd, Nat.reduceBEq, f1, f10, f11, f12, f13, hy1, hy2]
  refine Gives.bind ((refIds_ok k p.low sw.v (by omega) gl).mono ?_)
  rintro all h2 ⟨rall, _, q2, lo2⟩
  have lnall : lenOfV all = some bs.flatten.length := by have := rall.sees.len; rwa [izs, List.length_map] at this
  have k2 : loadV h2 true 1 px = some (.agg [v]) := load_keep hx2 p.low q2
  have sv2 := sv.keep p.low q2
  have sa2 := sa.keep p.low q2
  obtain ⟨o', off', hj1, _, hj3, _⟩ := sa2.at ha
  obtain ⟨rfl, rfl⟩ : o = o' ∧ off = off' := by rw [hi1] at hj1; simpa using hj1
  simp only [vms, vmc, AOpd.val, Nat.reduceEqDiff, reduceCtorEq, Nat.reduceAdd, Nat.reduceBEq, f1, f10, f11, f12, f13, hx1, k2, hi1, faddr, hj3]
  refine Gives.bind ((seek_ok k lo2 (v := .agg [v]) ⟨v, rfl, sv2.v⟩ fi.good).mono ?_)
  rintro _ h3 ⟨rfl, q3, lo3⟩
  have q13 := q2.trans q3
  have hy3 := load_keep hy2 p.low q13
  have hj3' := load_keep hj3 lo2 q3
  simp only [vms, vmc, AOpd.val, Nat.reduceEqDiff, reduceCtorEq, Nat.reduceAdd, Nat.reduceBEq, f1, f10, f11, f12, f13, hy1, hy3, hi1, faddr, hj3']
  refine Gives.bind ((refSeek_ok k lo3 (sw.v.keep p.low q13) fi.good).mono ?_)
  rintro _ h4 ⟨rfl, q4, lo4⟩
  have q14 := q13.trans q4
  have hx4 := load_keep hx2 p.low q14
  have hj4 := load_keep hj3' lo3 q4
  simp only [vms, vmc, AOpd.val, Nat.reduceEqDiff, reduceCtorEq, Nat.reduceAdd, Nat.reduceBEq, f1, f10, f11, f12, f13, hx1, hx4, hi1, faddr, hj4]
  refine Gives.bind ((has_ok k lo4 (v := .agg [v]) ⟨v, rfl, (sv.keep p.low q14).v⟩ fi.good).mono ?_)
  rintro _ h5 ⟨rfl, q5, lo5⟩
  have hj5 := load_keep hj4 lo4 q5
  simp only [vms, vmc, AOpd.val, Nat.reduceEqDiff, reduceCtorEq, Nat.reduceAdd, Nat.reduceBEq, items_test]
  rw [items_look (look_load (v := .int .i64 a.2.1) (by show loadV _ _ _ (Fr.at _ _) = _; simp only [vms, vmc, AOpd.val, Nat.reduceEqDiff, reduceCtorEq, Nat.reduceAdd, Nat.reduceBEq]; exact hj5) (by simp only [vms, vmc, AOpd.val, Nat.reduceEqDiff, reduceCtorEq, Nat.reduceAdd, Nat.reduceBEq]) (by simp [AV.beq]))]
  simp only [vms, vmc, AOpd.val, Nat.reduceEqDiff, reduceCtorEq, Nat.reduceAdd, Nat.reduceBEq, items_test]
  refine Gives.bind ((refHas_ok k (sees_keep rall.sees lo2 ((q3.trans q4).trans q5)) (by omega)).mono ?_)
  rintro _ _ ⟨rfl, rfl⟩
  rename_i h5
  have q15 := q14.trans q5
  have hx5 := load_keep hx2 p.low q15
  have eb : ∀ b : Bool, eqBV true (.bool b) (.bool b) = some (.bool false) := fun b => by cases b <;> rfl
  have en : ∀ n : Int, (n != n) = false := fun n => by simp
  simp only [vms, vmc, AOpd.val, Nat.reduceEqDiff, reduceCtorEq, Nat.reduceAdd, Nat.reduceBEq, items_test, f10, f11, f12, f13, eb, en, hx1, hx5, lnall]
  refine Gives.bind ((len_ok k lo5 (v := .agg [v]) ⟨v, rfl, (sv.keep p.low q15).v⟩ (by omega) gl).mono ?_)
  rintro _ h6 ⟨rfl, q6, lo6⟩
  have q16 := q15.trans q6
  have hx6 := load_keep hx2 p.low q16
  simp only [vms, vmc, AOpd.val, Nat.reduceEqDiff, reduceCtorEq, Nat.reduceAdd, Nat.reduceBEq, items_test, f10, f11, f12, f13, en, hx1, hx6]
  refine Gives.bind ((ids_ok k lo6 (v := .agg [v]) ⟨v, rfl, (sv.keep p.low q16).v⟩ (by omega) gl).mono ?_)
  rintro ids h7 ⟨rids, _, q7, lo7⟩
  have q17 := q16.trans q7
  have hx7 := load_keep hx2 p.low q17
  have hy7 := load_keep hy2 p.low q17
  simp only [vms, vmc, AOpd.val, Nat.reduceEqDiff, reduceCtorEq, Nat.reduceAdd, Nat.reduceBEq, items_test, f10, f11, f12, f13]
  refine Gives.bind ((same_ok k rids.sees (sees_keep rall.sees lo2 ((((q3.trans q4).trans q5).trans q6).trans q7)) (by omega) (by omega)).mono ?_)
  rintro _ _ ⟨rfl, rfl⟩
  rename_i h7
  have p7 := p.keep q17 lo7
  obtain ⟨pz, vz, hz1, hz2, sz⟩ := p7.atX hbz
  obtain ⟨pw, wz, hw1, hw2, swz⟩ := p7.atY hbz
  have ed : decide (bs.flatten = bs.flatten) = true := decide_eq_true rfl
  simp only [vms, vmc, AOpd.val, Nat.reduceEqDiff, reduceCtorEq, Nat.reduceAdd, Nat.reduceBEq, items_test, f10, f11, f12, f13, ed, lnx, lny, wl, hz1, hz2, hw1, hw2]
  refine Gives.bind ((blocks_yes k lo7 (v := .agg [vz]) ⟨vz, rfl, sz.v⟩ swz.v fz.good).mono ?_)
  rintro _ h8 ⟨rfl, q8, lo8⟩
  have q18 := q17.trans q8
  have hx8 := load_keep hx2 p.low q18
  have hy8 := load_keep hy2 p.low q18
  simp only [vms, vmc, AOpd.val, Nat.reduceEqDiff, reduceCtorEq, Nat.reduceAdd, Nat.reduceBEq, items_test, f10, f11, f12, f13, hx1, hx8, hy1, hy8]
  refine Gives.bind ((blocks_yes k lo8 (v := .agg [v]) ⟨v, rfl, (sv.keep p.low q18).v⟩ (sw.keep p.low q18).v fi.good).mono ?_)
  rintro _ h9 ⟨rfl, q9, lo9⟩
  simp only [vms, vmc, AOpd.val, Nat.reduceEqDiff, reduceCtorEq, Nat.reduceAdd, Nat.reduceBEq, items_test]
  refine hq _ _ (p.keep (q18.trans q9) lo9) (q18.trans q9) ?_ ?_ ?_ ?_ <;> simp only [vms, vmc, AOpd.val, Nat.reduceEqDiff, reduceCtorEq, Nat.reduceAdd, Nat.reduceBEq, f1, f10, f11, f12]
end Go.Proofs.Yteokopjiaiflnaa

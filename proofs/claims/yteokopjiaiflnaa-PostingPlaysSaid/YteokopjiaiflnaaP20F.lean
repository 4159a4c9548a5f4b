/- with, Blocks, Delete. -/
import Derived.Test.YteokopjiaiflnaaP20E
namespace Go.Proofs.Yteokopjiaiflnaa
open Go.Vm
set_option linter.unusedSimpArgs false
set_option linter.unusedVariables false
set_option maxRecDepth 100000
variable {T : Vm.Prog} {h : AH}
theorem sees_lit {q n : Nat} {xs : List AV} {ex : Bool} (hg : h.get q = some (.cells xs true)) (hn : n = xs.length) : Sees h (.slice q 0 1 n n ex) xs := by
  subst hn
  exact .inr ⟨q, 0, xs.length, ex, xs, some true, rfl, hg, by omega, fun i x hx => by rw [Nat.zero_add]; exact hx⟩
/-- The values of a list's row, one by one. -/
def Elts (h : AH) (vs : List AV) (bs : List (List Int)) : Prop := vs.length = bs.length ∧ ∀ (i : Nat) x b, vs[i]? = some x → bs[i]? = some b → BlkV h x b
theorem Elts.append {vs ws : List AV} {bs cs : List (List Int)} (s : Elts h vs bs) (t : Elts h ws cs) : Elts h (vs ++ ws) (bs ++ cs) := by
  refine ⟨by simp [s.1, t.1], fun i x b hx hb => ?_⟩
  rw [List.getElem?_append] at hx hb
  rw [s.1] at hx
  split at hx
  · rw [if_pos ‹_›] at hb; exact s.2 i x b hx hb
  · rw [if_neg ‹_›] at hb; exact t.2 _ x b hx hb
theorem Elts.take {vs : List AV} {bs : List (List Int)} (s : Elts h vs bs) (n : Nat) : Elts h (vs.take n) (bs.take n) := by
  refine ⟨by simp [s.1], fun i x b hx hb => ?_⟩
  rw [List.getElem?_take] at hx hb
  split at hx
  · rw [if_pos ‹_›] at hb; exact s.2 i x b hx hb
  · cases hx
theorem Elts.drop {vs : List AV} {bs : List (List Int)} (s : Elts h vs bs) (n : Nat) : Elts h (vs.drop n) (bs.drop n) := by
  refine ⟨by simp [s.1], fun i x b hx hb => ?_⟩
  rw [List.getElem?_drop] at hx hb
  exact s.2 _ x b hx hb
theorem Elts.keep {h' : AH} {vs : List AV} {bs : List (List Int)} (s : Elts h vs bs) (hl : Low h) (q : Quiet h h') : Elts h' vs bs := ⟨s.1, fun i x b hx hb => (s.2 i x b hx hb).keep hl q⟩
theorem Elts.flat {vs : List AV} {bs : List (List Int)} (s : Elts h vs bs) : ∀ y ∈ vs, AV.flat y = true := by
  intro y hy
  obtain ⟨i, hi⟩ := List.getElem?_of_mem hy
  have hlt := (List.getElem?_eq_some_iff.1 hi).1
  exact (sees_cell (s.2 i y _ hi (List.getElem?_eq_getElem (s.1 ▸ hlt))).1).2
theorem BlksV.elts {v : AV} {bs : List (List Int)} (s : BlksV h v bs) : ∃ vs, Sees h v vs ∧ capOk v ∧ Elts h vs bs := by
  obtain ⟨vs, h1, h2, h3, h4⟩ := s; exact ⟨vs, h1, h2, h3, h4⟩
theorem BlksV.of {v : AV} {vs : List AV} {bs : List (List Int)} (s : Sees h v vs) (c : capOk v) (e : Elts h vs bs) : BlksV h v bs := ⟨vs, s, c, e.1, e.2⟩
theorem beqs3 {a b c : AV} (h1 : AV.beq a a = true) (h2 : AV.beq b b = true) (h3 : AV.beq c c = true) : AV.beqs [a, b, c] [a, b, c] = true := by simp [AV.beqs, h1, h2, h3]
theorem beqs2 {a b : AV} (h1 : AV.beq a a = true) (h2 : AV.beq b b = true) : AV.beqs [a, b] [a, b] = true := by simp [AV.beqs, h1, h2]
theorem beqs1 {a : AV} (h1 : AV.beq a a = true) : AV.beqs [a] [a] = true := by simp [AV.beqs, h1]
theorem fill3 {a b c : AV} (h1 : AV.isDef a = true) (h2 : AV.isDef b = true) (h3 : AV.isDef c = true) (c1 : a.cells = [a]) (c2 : b.cells = [b]) (c3 : c.cells = [c]) : fillV [.nilSlice, .nilSlice, .nilSlice] [(0, 1, a), (1, 1, b), (2, 1, c)] = some [a, b, c] := by
  simp [fillV, h1, h2, h3, c1, c2, c3, setMany]
theorem fill2 {a b : AV} (h1 : AV.isDef a = true) (h2 : AV.isDef b = true) (c1 : a.cells = [a]) (c2 : b.cells = [b]) : fillV [.nilSlice, .nilSlice] [(0, 1, a), (1, 1, b)] = some [a, b] := by
  simp [fillV, h1, h2, c1, c2, setMany]
theorem fill1 {a z : AV} (h1 : AV.isDef a = true) (c1 : a.cells = [a]) : fillV [z] [(0, 1, a)] = some [a] := by
  simp [fillV, h1, c1, setMany]
theorem sees_def {v : AV} {xs : List AV} (s : Sees h v xs) : AV.isDef v = true := by
  rcases s with ⟨rfl, _⟩ | ⟨_, _, _, _, _, _, rfl, _⟩ <;> rfl
theorem store_res {p : Nat} {x a : AV} (hg : h.get p = some (.cells [a] true)) (hf : x.flat = true) : storeV h 1 (.ptr p 0) (.agg [x]) = some (h.set p (.cells [x] true)) := store_all hg rfl rfl (by simp [hf])
/-- The same, where all that is read lies in G. -/
def EltsG (G : Nat → Prop) (h : AH) (vs : List AV) (bs : List (List Int)) : Prop := Elts h vs bs ∧ ∀ x ∈ vs, ∀ o ∈ objs x, G o
def BlksG (G : Nat → Prop) (h : AH) (v : AV) (bs : List (List Int)) : Prop := ∃ vs, Sees h v vs ∧ capOk v ∧ (∀ o ∈ objs v, G o) ∧ EltsG G h vs bs
def ListG (G : Nat → Prop) (h : AH) (v : AV) (bs : List (List Int)) : Prop := ∃ sl, v = .agg [sl] ∧ BlksG G h sl bs
theorem BlksG.v {G : Nat → Prop} {v : AV} {bs : List (List Int)} (s : BlksG G h v bs) : BlksV h v bs := by
  obtain ⟨vs, h1, h2, _, h3, _⟩ := s; exact .of h1 h2 h3
theorem ListG.v {G : Nat → Prop} {v : AV} {bs : List (List Int)} (s : ListG G h v bs) : ListV h v bs := by
  obtain ⟨sl, rfl, h1⟩ := s; exact ⟨sl, rfl, h1.v⟩
theorem BlksV.g {v : AV} {bs : List (List Int)} (s : BlksV h v bs) (hl : Low h) : BlksG (fun o => o < h.next) h v bs := by
  obtain ⟨vs, h1, h2, h3⟩ := s.elts
  refine ⟨vs, h1, h2, sees_low h1 hl, h3, fun x hx o ho => ?_⟩
  obtain ⟨i, hi⟩ := List.getElem?_of_mem hx
  have hlt := (List.getElem?_eq_some_iff.1 hi).1
  exact sees_low (h3.2 i x _ hi (List.getElem?_eq_getElem (h3.1 ▸ hlt))).1 hl o ho
theorem ListV.g {v : AV} {bs : List (List Int)} (s : ListV h v bs) (hl : Low h) : ListG (fun o => o < h.next) h v bs := by
  obtain ⟨sl, rfl, h1⟩ := s; exact ⟨sl, rfl, h1.g hl⟩
theorem BlksG.turn {G : Nat → Prop} {h' : AH} {v : AV} {bs : List (List Int)} (s : BlksG G h v bs) (hk : ∀ o, G o → h'.get o = h.get o) : BlksG G h' v bs := by
  obtain ⟨vs, h1, h2, hv, h3, h4⟩ := s
  refine ⟨vs, sees_get h1 fun o ho => hk o (hv o ho), h2, hv, ⟨h3.1, fun i x b hx hb => ?_⟩, h4⟩
  have := h3.2 i x b hx hb
  exact ⟨sees_get this.1 fun o ho => hk o (h4 x (List.mem_of_getElem? hx) o ho), this.2⟩
theorem ListG.turn {G : Nat → Prop} {h' : AH} {v : AV} {bs : List (List Int)} (s : ListG G h v bs) (hk : ∀ o, G o → h'.get o = h.get o) : ListG G h' v bs := by
  obtain ⟨sl, rfl, h1⟩ := s; exact ⟨sl, rfl, h1.turn hk⟩
theorem BlksG.mono {G H : Nat → Prop} {v : AV} {bs : List (List Int)} (s : BlksG G h v bs) (hg : ∀ o, G o → H o) : BlksG H h v bs := by
  obtain ⟨vs, h1, h2, hv, h3, h4⟩ := s
  exact ⟨vs, h1, h2, fun o ho => hg o (hv o ho), h3, fun x hx o ho => hg o (h4 x hx o ho)⟩
theorem ListG.mono {G H : Nat → Prop} {v : AV} {bs : List (List Int)} (s : ListG G h v bs) (hg : ∀ o, G o → H o) : ListG H h v bs := by
  obtain ⟨sl, rfl, h1⟩ := s; exact ⟨sl, rfl, h1.mono hg⟩
theorem BlksG.keep {G : Nat → Prop} {h' : AH} {v : AV} {bs : List (List Int)} (s : BlksG G h v bs) (hl : Low h) (q : Quiet h h') : BlksG G h' v bs := by
  obtain ⟨vs, h1, h2, hv, h3, h4⟩ := s
  exact ⟨vs, sees_keep h1 hl q, h2, hv, h3.keep hl q, h4⟩
theorem ListG.keep {G : Nat → Prop} {h' : AH} {v : AV} {bs : List (List Int)} (s : ListG G h v bs) (hl : Low h) (q : Quiet h h') : ListG G h' v bs := by
  obtain ⟨sl, rfl, h1⟩ := s; exact ⟨sl, rfl, h1.keep hl q⟩
theorem with_ok (k : Base T) (hl : Low h) {G : Nat → Prop} {v w : AV} {bs cs : List (List Int)} {a b : Nat} (s : ListG G h v bs) (sc : BlksG G h w cs) (ha : a ≤ bs.length) (hb : b ≤ bs.length) (hn : (bs.take a ++ cs ++ bs.drop b).length < 400000) :
    Gives T 34 [v, .int .i64 (a : Int), .int .i64 (b : Int), w] h fun r h' => ListG (fun o => G o ∨ h.next ≤ o) h' r (bs.take a ++ cs ++ bs.drop b) ∧ Quiet h h' ∧ Low h' := by
  refine gives_func (k.env 34 (by decide)) (k.at (n := 34) rfl) rfl ?_
  obtain ⟨sl, rfl, sb⟩ := s
  have q1 : Quiet h ((h.new (.cells [sl] true)).new (.cells [.nilSlice] true)) := ((Quiet.refl h).new _).new _
  have lo1 : Low ((h.new (.cells [sl] true)).new (.cells [.nilSlice] true)) := (hl.new _).new _
  have hg : ((h.new (.cells [sl] true)).new (.cells [.nilSlice] true)).get h.next = some (.cells [sl] true) := by
    rw [AH.get_new, if_neg (by rw [next_new]; omega), get_new_same]
  have hz : ((h.new (.cells [sl] true)).new (.cells [.nilSlice] true)).get (h.next + 1) = some (.cells [.nilSlice] true) := get_new_same
  have nx : ((h.new (.cells [sl] true)).new (.cells [.nilSlice] true)).next = h.next + 2 := rfl
  have bsl := sb.v.cell.2.2
  obtain ⟨vs, s1', s2, _, s3', s4'⟩ := sb
  obtain ⟨ws, t1', t2, _, t3', t4'⟩ := sc
  have s1 := sees_keep s1' hl q1
  have t1 := sees_keep t1' hl q1
  have s3 := s3'.keep hl q1
  have t3 := t3'.keep hl q1
  simp only [a34, c34, vms, vmc, AOpd.val, Nat.reduceEqDiff, reduceCtorEq, Nat.reduceAdd, Nat.reduceBEq, box_list, next_new]
  generalize ((h.new (.cells [sl] true)).new (.cells [.nilSlice] true)) = h1 at *
  obtain ⟨va, sa1, sa2, sa3, sa4, sa5⟩ := sees_head s1 s2 (n := a) (by rw [s3.1]; exact ha) (k := .i64)
  obtain ⟨vb, sb1, sb2, sb3, sb4, sb5⟩ := sees_tail s1 s2 (n := b) (by rw [s3.1]; exact hb) (k := .i64)
  have hf := fill3 sa5 (sees_def t1) sb5 sa3 (sees_cell t1).1 sb3
  simp only [vms, vmc, AOpd.val, Nat.reduceEqDiff, reduceCtorEq, Nat.reduceAdd, Nat.reduceBEq, fa0, load_box hg, sa1, sb1, hf]
  have q2 : Quiet h1 (h1.new (.cells [va, w, vb] true)) := (Quiet.refl _).new _
  have lo2 := lo1.new (.cells [va, w, vb] true)
  have hg2 := q2.get hg (by omega)
  have hz2 := q2.get hz (by omega)
  have hq : (h1.new (.cells [va, w, vb] true)).get h1.next = some (.cells [va, w, vb] true) := get_new_same
  rw [items_look (look_load (v := sl) (by show loadV _ _ _ (Fr.at _ _) = _; simp only [vms, vmc, AOpd.val, Nat.reduceEqDiff, reduceCtorEq, Nat.reduceAdd, Nat.reduceBEq]; exact load_box hg2) (by simp only [vms, vmc, AOpd.val, Nat.reduceEqDiff, reduceCtorEq, Nat.reduceAdd, Nat.reduceBEq]) bsl),
    items_look (look_load (v := sl) (by show loadV _ _ _ (Fr.at _ _) = _; simp only [vms, vmc, AOpd.val, Nat.reduceEqDiff, reduceCtorEq, Nat.reduceAdd, Nat.reduceBEq]; exact load_box hg2) (by simp only [vms, vmc, AOpd.val, Nat.reduceEqDiff, reduceCtorEq, Nat.reduceAdd, Nat.reduceBEq]) bsl),
    items_look (look_build (q := h1.next) (l := [va, w, vb]) (by simp only [vms, vmc, AOpd.val, Nat.reduceEqDiff, reduceCtorEq, Nat.reduceAdd, Nat.reduceBEq]; exact hf) (by simp only [vms, vmc, AOpd.val, Nat.reduceEqDiff, reduceCtorEq, Nat.reduceAdd, Nat.reduceBEq]; rfl) hq (beqs3 (sees_beq sa2) (sees_beq t1) (sees_beq sb2)))]
  simp only [vms, vmc, AOpd.val, Nat.reduceEqDiff, reduceCtorEq, Nat.reduceAdd, Nat.reduceBEq]
  have sall : Sees (h1.new (.cells [va, w, vb] true)) (.slice h1.next 0 1 3 3 true) [va, w, vb] := sees_lit hq rfl
  have e3 : ([vs.take a, ws, vs.drop b] : List (List AV)).flatten = vs.take a ++ ws ++ vs.drop b := by simp
  have el : Elts h1 (vs.take a ++ ws ++ vs.drop b) (bs.take a ++ cs ++ bs.drop b) := ((s3.take a).append t3).append (s3.drop b)
  refine Gives.bind ((concatN_ok (xss := [vs.take a, ws, vs.drop b]) (k.env 45 (by decide)) (k.at (n := 45) rfl) (k.env 53 (by decide)) (k.at (n := 53) rfl) (by decide) lo2 sall rfl ?_ ?_ ?_ (by simp)).mono ?_)
  · intro i x xs hx hxs
    match i with
    | 0 => simp at hx hxs; subst hx hxs; exact sees_keep sa2 lo1 q2
    | 1 => simp at hx hxs; subst hx hxs; exact sees_keep t1 lo1 q2
    | 2 => simp at hx hxs; subst hx hxs; exact sees_keep sb2 lo1 q2
    | i + 3 => simp at hx
  · intro xs hxs y hy
    refine el.flat y ?_
    rw [← e3]; exact List.mem_flatten.2 ⟨xs, hxs, hy⟩
  · rw [e3, el.1]; exact hn
  · rintro r h3 ⟨r1, fr, q3, lo3⟩
    rw [e3] at r1
    have q13 : Quiet h1 h3 := q2.trans q3
    have hz3 := q13.get hz (by omega)
    have rc := sees_cell r1.sees
    have hst := store_res hz3 rc.2
    have bf : fillV [AV.nilSlice] [(0, 1, r)] = some [r] := fill1 (sees_def r1.sees) rc.1
    simp only [vms, vmc, AOpd.val, Nat.reduceEqDiff, reduceCtorEq, Nat.reduceAdd, Nat.reduceBEq, bf, hst, res_cell]
    rw [load_all (get_set_same (h := h3) (o := h.next + 1) (x := .cells [r] true)) (n := 1) rfl]
    simp only [vms, vmc, AOpd.val, Nat.reduceEqDiff, reduceCtorEq, Nat.reduceAdd, Nat.reduceBEq]
    have hne : ∀ o ∈ objs r, o ≠ h.next + 1 := fun o ho => by have := fr o ho; rw [next_new] at this; omega
    have q4 : Quiet h (h3.set (h.next + 1) (.cells [r] true)) := (q1.trans q13).set (by omega) _
    have lo4 : Low (h3.set (h.next + 1) (.cells [r] true)) := lo3.set (by have := q13.1; omega) _
    refine ⟨⟨r, rfl, vs.take a ++ ws ++ vs.drop b, ?_, row_cap r1, fun o ho => ?_, ?_, fun x hx o ho => ?_⟩, q4, lo4⟩
    · exact sees_get r1.sees fun o ho => by rw [AH.get_set, if_neg (fun e => hne o ho e.symm)]
    · right; have := fr o ho; rw [next_new] at this; omega
    · exact (((s3'.take a).append t3').append (s3'.drop b)).keep hl q4
    · left
      rcases List.mem_append.1 hx with hx | hx
      · rcases List.mem_append.1 hx with hx | hx
        · exact s4' x (List.mem_of_mem_take hx) o ho
        · exact t4' x hx o ho
      · exact s4' x (List.mem_of_mem_drop hx) o ho
/-- Blocks in memory of their own. -/
def Fresh (N : Nat) (h : AH) (r : AV) (bs : List (List Int)) : Prop := ∃ xs, Row1 h r xs ∧ (∀ o ∈ objs r, N ≤ o) ∧ xs.length = bs.length ∧ ∀ (i : Nat) x b, xs[i]? = some x → bs[i]? = some b → Row1 h x (izs b) ∧ (∀ o ∈ objs x, N ≤ o ∧ o ∉ objs r)
theorem Fresh.blks {N : Nat} {r : AV} {bs : List (List Int)} (f : Fresh N h r bs) : BlksV h r bs := by
  obtain ⟨xs, r1, _, e, hx⟩ := f
  exact ⟨xs, r1.sees, row_cap r1, e, fun i x b h1 h2 => ⟨(hx i x b h1 h2).1.sees, row_cap (hx i x b h1 h2).1⟩⟩
theorem clone_ok (k : Base T) (hl : Low h) {v : AV} {xs : List AV} (s : Sees h v xs) (hs : xs.length < 1000000) :
    Gives T 31 [v] h fun r h' => Row1 h' r xs ∧ (∀ o ∈ objs r, h.next ≤ o) ∧ Quiet h h' ∧ Low h' :=
  clone1_ok (bytes := 8) (k.env 31 (by decide)) (k.at (n := 31) rfl) hl s (by decide) hs
theorem blocks_ok (k : Base T) (hl : Low h) {v : AV} {bs : List (List Int)} (s : ListV h v bs) (h1 : bs.flatten.length < 100000) (h2 : bs.length < 100000) :
    Gives T 17 [v] h fun r h' => Fresh h.next h' r bs ∧ Quiet h h' ∧ Low h' := by
  refine gives_func (k.env 17 (by decide)) (k.at (n := 17) rfl) rfl ?_
  obtain ⟨sl, rfl, sb⟩ := s
  have q1 := (Quiet.refl h).new (.cells [sl] true)
  have lo1 := hl.new (.cells [sl] true)
  have hg : (h.new (.cells [sl] true)).get h.next = some (.cells [sl] true) := get_new_same
  have sb1 := sb.keep hl q1
  have ln := sb1.len
  simp only [a17, c17, vms, vmc, AOpd.val, Nat.reduceEqDiff, reduceCtorEq, Nat.reduceAdd, Nat.reduceBEq, box_list, fa0, load_box hg, ln]
  refine wpc_loop (fun m f h' => ∃ i r, m = bs.length - i ∧ i ≤ bs.length ∧ Quiet h h' ∧ Low h' ∧ Fresh h.next h' r (bs.take i) ∧ f.at 3 = r ∧ f.at 7 = sl ∧ f.at 8 = .int .i64 (bs.length : Int) ∧ f.at 9 = .int .i64 (i : Int)) ?_ bs.length _ _ ⟨0, .nilSlice, by omega, by omega, q1, lo1, ⟨[], .inl ⟨rfl, rfl⟩, fun o ho => by simp [objs] at ho, rfl, fun i x b hx => by simp at hx⟩, ?_⟩
  · rintro m f h' ⟨i, r, rfl, hi, q, lo, ⟨xs, r1, fr, ex, hxs⟩, f3, f7, f8, f9⟩
    by_cases hlt : i < bs.length
    · have d1 : decide ((i : Int) < (bs.length : Int)) = true := by rw [decide_eq_true_eq]; omega
      obtain ⟨b, hb⟩ : ∃ b, bs[i]? = some b := ⟨_, List.getElem?_eq_getElem hlt⟩
      obtain ⟨p, x, hp1, hp2, hx⟩ := (sb.keep hl q).at hb .i64
      have hbl : b.length < 1000000 := by
        have := split_at hb
        have h3 : bs.flatten.length = (bs.take i).flatten.length + (b.length + (bs.drop (i + 1)).flatten.length) := by rw [this, List.length_append, List.length_append]
        omega
      simp only [c17l0, vms, vmc, AOpd.val, Nat.reduceEqDiff, reduceCtorEq, Nat.reduceAdd, Nat.reduceBEq, f3, f7, f8, f9, d1, hp1, hp2]
      refine Gives.bind ((clone_ok k lo hx.1 (by simpa [izs] using hbl)).mono ?_)
      rintro y h3 ⟨ry, fry, q3, lo3⟩
      have cy := sees_cell ry.sees
      have bf : fillV [AV.nilSlice] [(0, 1, y)] = some [y] := fill1 (sees_def ry.sees) cy.1
      have r3 := row_quiet r1 lo q3
      have exl : xs.length = i := by rw [ex, List.length_take]; omega
      obtain ⟨r', h4, ha, hr, ho, hm, lo4⟩ := row_app (bytes := 24) lo3 r3 (by decide) (by decide) (by omega) cy.2
      have w2 : IntKind.i64.wrap ((i : Int) + 1) = ((i + 1 : Nat) : Int) := by rw [wrap_i64 (by omega) (by omega)]; omega
      simp only [vms, vmc, AOpd.val, Nat.reduceEqDiff, reduceCtorEq, Nat.reduceAdd, Nat.reduceBEq, f3, f7, f8, f9, bf, ha, w2]
      have hrl := RowS.low r1 lo
      have q4 : Quiet h h4 := by
        refine Mods.trans (q.trans q3) hm fun o hor => .inr ?_
        exact fr o hor
      refine ⟨bs.length - (i + 1), by omega, i + 1, r', rfl, by omega, q4, lo4, ⟨xs ++ [y], hr, fun o hor => ?_, ?_, fun j z c hz hc => ?_⟩, by trivial, by trivial, by trivial, by trivial⟩
      · rcases ho o hor with h5 | h5
        · exact fr o h5
        · have := (q.trans q3).1; omega
      · rw [List.length_append, exl, List.length_take, Nat.min_eq_left (by omega)]; rfl
      · rw [List.getElem?_take] at hc
        have hj : j < i + 1 := by
          split at hc
          · assumption
          · cases hc
        rw [if_pos hj] at hc
        rw [List.getElem?_append, exl] at hz
        by_cases hji : j < i
        · rw [if_pos hji] at hz
          obtain ⟨g1, g2⟩ := hxs j z c hz (by rw [List.getElem?_take, if_pos hji]; exact hc)
          have hzl := RowS.low g1 lo
          have g3 := row_quiet g1 lo q3
          refine ⟨RowS.keep g3 fun o hoz => hm.2 o (by have := hzl o hoz; have := q3.1; omega) (g2 o hoz).2, fun o hoz => ⟨(g2 o hoz).1, fun hor => ?_⟩⟩
          rcases ho o hor with h5 | h5
          · exact (g2 o hoz).2 h5
          · have := hzl o hoz; have := q3.1; omega
        · have : j = i := by omega
          subst this
          rw [if_neg (by omega), Nat.sub_self] at hz
          simp at hz
          subst hz
          rw [hb] at hc
          cases hc
          have hyl := RowS.low ry lo3
          refine ⟨RowS.keep ry fun o hoy => hm.2 o (hyl o hoy) fun hor => ?_, fun o hoy => ⟨?_, fun hor => ?_⟩⟩
          · have := fry o hoy; have := hrl o hor; omega
          · have := fry o hoy; have := q.1; omega
          · rcases ho o hor with h5 | h5
            · have := fry o hoy; have := hrl o h5; omega
            · have := hyl o hoy; omega
    · have d1 : decide ((i : Int) < (bs.length : Int)) = false := by rw [decide_eq_false_iff_not]; omega
      have hi' : i = bs.length := by omega
      subst hi'
      rw [List.take_length] at ex
      simp only [c17l0, vms, vmc, AOpd.val, Nat.reduceEqDiff, reduceCtorEq, Nat.reduceAdd, Nat.reduceBEq, f3, f7, f8, f9, d1]
      refine ⟨⟨xs, r1, fr, ex, fun j z c hz hc => hxs j z c hz (by rw [List.take_length]; exact hc)⟩, q, lo⟩
  · simp only [vms, vmc, AOpd.val, Nat.reduceEqDiff, reduceCtorEq, Nat.reduceAdd, Nat.reduceBEq]
    simp
end Go.Proofs.Yteokopjiaiflnaa

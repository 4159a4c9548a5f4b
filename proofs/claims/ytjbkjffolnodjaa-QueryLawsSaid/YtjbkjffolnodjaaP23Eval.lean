/- Chapter 23: Eval of a query. -/
import Derived.Test.YtjbkjffolnodjaaP23Ld
import Derived.Test.YtjbkjffolnodjaaP23Lr
namespace Go.Proofs.Ytjbkjffolnodjaa
open Go.Vm
set_option linter.unusedSimpArgs false
set_option linter.unusedVariables false
set_option maxRecDepth 100000
variable {T : Vm.Prog} {h h0 h' : AH}
/-! ### plain -/
theorem sub_len {R x : List Int} (hR : Up R) (h : Sub R x) : x.length ≤ R.length := by
  have e : x = R.filter fun z => decide (z ∈ x) := by
    refine up_ext h.1 (List.Pairwise.filter _ hR) fun z => ?_
    rw [List.mem_filter, decide_eq_true_eq]
    exact ⟨fun hz => ⟨h.2 z hz, hz⟩, fun hz => hz.2⟩
  rw [e]
  exact List.length_filter_le _ _
theorem runV_step {st : List Int → List Int} {U : List Int} {q : List Part} {V ss : List (List Int)} {z : List (List Int) × List (List Int)} (h : runV st U V ss q = some z) {i : Nat} {p : Part} (hp : q[i]? = some p) :
    ∃ V1 s1 V2 s2, runV st U V ss (q.take i) = some (V1, s1) ∧ stepV st U V1 s1 p = some (V2, s2) ∧ runV st U V ss (q.take (i + 1)) = some (V2, s2) := by
  have hi := (List.getElem?_eq_some_iff.1 hp).1
  have e : q = q.take i ++ p :: q.drop (i + 1) := by
    have h1 : q.drop i = p :: q.drop (i + 1) := by
      rw [List.drop_eq_getElem_cons hi]
      congr 1
      exact (List.getElem?_eq_some_iff.1 hp).2
    rw [← h1, List.take_append_drop]
  rw [e, runV_append] at h
  cases h1 : runV st U V ss (q.take i) with
  | none => rw [h1] at h; cases h
  | some z1 =>
    obtain ⟨V1, s1⟩ := z1
    rw [h1] at h
    simp only [Option.bind_some, runV] at h
    cases h2 : stepV st U V1 s1 p with
    | none => rw [h2] at h; cases h
    | some z2 =>
      obtain ⟨V2, s2⟩ := z2
      refine ⟨V1, s1, V2, s2, rfl, h2, ?_⟩
      rw [List.take_add_one, hp, runV_append, h1]
      simp [runV, h2]
theorem stepV_sub {st : List Int → List Int} {U : List Int} {V1 s1 V2 s2 : List (List Int)} {p : Part} (h : stepV st U V1 s1 p = some (V2, s2)) (hV : ∀ x ∈ V1, Sub (ris U) x) : ∀ x ∈ V2, Sub (ris U) x := by
  unfold stepV at h
  split at h
  · cases h
    intro x hx
    rcases List.mem_cons.1 hx with rfl | hx
    · exact inter_first
    · exact hV x hx
  · cases h
    intro x hx
    rcases List.mem_cons.1 hx with rfl | hx
    · exact minus_sub
    · exact hV x (by simp [hx])
  · cases h
    intro x hx
    rcases List.mem_cons.1 hx with rfl | hx
    · exact inter_sub (hV _ (by simp))
    · exact hV x (by simp [hx])
  · cases h
    intro x hx
    rcases List.mem_cons.1 hx with rfl | hx
    · exact union_sub (hV _ (by simp)) (hV _ (by simp))
    · exact hV x (by simp [hx])
  · cases h
/-! ### in memory -/
/-- A row of lists of ids that is seen. -/
def SS (h : AH) (v : AV) (ss : List (List Int)) : Prop := ∃ xs, Sees h v xs ∧ capOk v ∧ xs.length = ss.length ∧ ∀ (i : Nat) (x : AV) (s : List Int), xs[i]? = some x → ss[i]? = some s → Sees h x (izs s) ∧ s.length ≤ 1000
theorem SS.keep {v : AV} {ss : List (List Int)} (s : SS h v ss) (hl : Low h) (q : Quiet h h') : SS h' v ss := by
  obtain ⟨xs, h1, h2, h3, h4⟩ := s
  exact ⟨xs, sees_keep h1 hl q, h2, h3, fun i x t hx ht => ⟨sees_keep (h4 i x t hx ht).1 hl q, (h4 i x t hx ht).2⟩⟩
theorem SS.nil : SS h .nilSlice [] := ⟨[], .inl ⟨rfl, rfl⟩, trivial, rfl, fun i x s hx => by simp at hx⟩
theorem sees_tailA {v x : AV} {xs : List AV} (s : Sees h v (x :: xs)) (hcap : capOk v) : ∃ v', slcV 1 v (some (.int .i64 1)) none none = some v' ∧ Sees h v' xs ∧ capOk v' := by
  rcases s with ⟨rfl, h⟩ | ⟨o, off, cap, ex, l, rw, rfl, hg, h1, h2⟩
  · cases h
  · have hlc : (x :: xs).length ≤ cap := hcap
    have hlen : (x :: xs).length = xs.length + 1 := rfl
    refine ⟨.slice o (if (ex || false) && decide (cap = 1) then off else off + 1 * 1) 1 ((x :: xs).length - 1) (cap - 1) (ex || false), ?_, .inr ⟨o, _, _, _, l, rw, by rw [hlen]; congr 1, hg, ?_, ?_⟩, ?_⟩
    · have h5 : (1 : Int) = ((1 : Nat) : Int) := rfl
      rw [h5]
      simp [slcV, bounds, boundM, boundH, boundL, natOf, Option.filter, hlen]
    · split <;> omega
    · intro i y hy
      have hi := (List.getElem?_eq_some_iff.1 hy).1
      by_cases he : ((ex || false) && decide (cap = 1)) = true
      · exfalso
        simp at he
        omega
      · rw [if_neg he, show off + 1 * 1 + i = off + (i + 1) by omega]
        exact h2 (i + 1) y (by simpa using hy)
    · show (x :: xs).length - 1 ≤ cap - 1
      omega
/-- The stack of what was told, top first. -/
def VS (h0 h : AH) (lv : AV) (V : List (List Int)) : Prop := ∃ vs, Row1 h lv vs ∧ vs.length = V.length ∧ (∀ o ∈ objs lv, h0.next ≤ o) ∧ ∀ (i : Nat) (v : AV) (A : List Int), vs[i]? = some v → V.reverse[i]? = some A → Sees h v (izs A) ∧ ∀ o ∈ objs v, h0.next ≤ o ∧ o ∉ objs lv
theorem VS.keep {lv : AV} {V : List (List Int)} (s : VS h0 h lv V) (hl : Low h) (q : Quiet h h') : VS h0 h' lv V := by
  obtain ⟨vs, h1, h2, h3, h4⟩ := s
  exact ⟨vs, row_quiet h1 hl q, h2, h3, fun i v A hv hA => ⟨sees_keep (h4 i v A hv hA).1 hl q, (h4 i v A hv hA).2⟩⟩
theorem VS.nil : VS h0 h .nilSlice [] := ⟨[], .inl ⟨rfl, rfl⟩, rfl, fun o ho => by simp [objs] at ho, fun i v A hv => by simp at hv⟩
theorem VS.len {lv : AV} {V : List (List Int)} (s : VS h0 h lv V) : lenOfV lv = some V.length := by
  obtain ⟨vs, h1, h2, _⟩ := s
  rw [h1.sees.len, h2]
/-- One more on top. -/
theorem VS.push {lv r : AV} {V : List (List Int)} {A : List Int} {hb : AH} (s : VS h0 h lv V) (hl : Low h) (hn : h0.next ≤ h.next) (hsz : V.length < 1000) (sr : Sees h r (izs A)) (nr : ∀ o ∈ objs r, hb.next ≤ o) (hb0 : h0.next ≤ hb.next) (hlb : ∀ o ∈ objs lv, o < hb.next) :
    ∃ lv' h2, appV 1 24 (h.new (.cells [r] true)) lv (.slice h.next 0 1 1 1 true) = some (lv', h2) ∧ VS h0 h2 lv' (A :: V) ∧ Low h2 ∧ Mods h h2 (fun o => o ∈ objs lv) := by
  obtain ⟨vs, h1, h2, h3, h4⟩ := s
  obtain ⟨_, rf⟩ := sees_cell sr
  obtain ⟨lv', g, ha, row, ob, m, lo⟩ := row_app (bytes := 24) (x := r) hl h1 (by decide) (by decide) (by omega) rf
  refine ⟨lv', g, ha, ⟨vs ++ [r], row, by simp [h2], fun o ho => ?_, fun i v B hv hB => ?_⟩, lo, m⟩
  · rcases ob o ho with h5 | h5
    · exact h3 o h5
    · omega
  · have keep : ∀ {w : AV} {C : List Int}, Sees h w (izs C) → (∀ o ∈ objs w, h0.next ≤ o ∧ o ∉ objs lv) → Sees g w (izs C) ∧ ∀ o ∈ objs w, h0.next ≤ o ∧ o ∉ objs lv' := by
      intro w C sw ow
      have wl := sees_low sw hl
      refine ⟨sees_same sw fun o ho => m.2 o (wl o ho) (ow o ho).2, fun o ho => ⟨(ow o ho).1, fun e => ?_⟩⟩
      rcases ob o e with h5 | h5
      · exact (ow o ho).2 h5
      · have := wl o ho; omega
    rw [List.reverse_cons] at hB
    by_cases hlt : i < vs.length
    · rw [List.getElem?_append_left hlt] at hv
      rw [List.getElem?_append_left (by rw [List.length_reverse]; omega)] at hB
      obtain ⟨sv, ov⟩ := h4 i v B hv hB
      exact keep sv ov
    · rw [List.getElem?_append_right (by omega)] at hv
      rw [List.getElem?_append_right (by rw [List.length_reverse]; omega)] at hB
      have e0 : i - vs.length = 0 := by
        have := (List.getElem?_eq_some_iff.1 hv).1
        simp at this; omega
      rw [e0] at hv
      rw [List.length_reverse, show i - V.length = 0 by omega] at hB
      simp at hv hB
      subst hv; subst hB
      exact keep sr fun o ho => ⟨by have := nr o ho; omega, fun e => by have := hlb o e; have := nr o ho; omega⟩
/-- The last one of the row is the top. -/
theorem VS.top {lv : AV} {V : List (List Int)} {A : List Int} (s : VS h0 h lv (A :: V)) : ∃ o v, objs lv = [o] ∧ idxAddrV 1 lv (.int .i64 (V.length : Int)) = some (.ptr o V.length) ∧ loadV h false 1 (.ptr o V.length) = some v ∧ Sees h v (izs A) ∧ (∀ o ∈ objs v, h0.next ≤ o ∧ o ∉ objs lv) ∧ AV.beq v v = true := by
  obtain ⟨vs, h1, h2, h3, h4⟩ := s
  obtain ⟨v, hv⟩ : ∃ v, vs[V.length]? = some v := ⟨_, List.getElem?_eq_getElem (by simp at h2; omega)⟩
  obtain ⟨o, ho, hi, hld, _⟩ := row1_put h1 hv
  have hA : (A :: V).reverse[V.length]? = some A := by rw [List.reverse_cons, List.getElem?_append_right (by simp)]; simp
  obtain ⟨sv, ov⟩ := h4 _ v A hv hA
  exact ⟨o, v, ho, hi, hld, sv, ov, sees_beq sv⟩
theorem VS.below {lv : AV} {V : List (List Int)} {A B : List Int} (s : VS h0 h lv (B :: A :: V)) : ∃ o v, objs lv = [o] ∧ idxAddrV 1 lv (.int .i64 (V.length : Int)) = some (.ptr o V.length) ∧ loadV h false 1 (.ptr o V.length) = some v ∧ Sees h v (izs A) ∧ (∀ o ∈ objs v, h0.next ≤ o ∧ o ∉ objs lv) ∧ AV.beq v v = true := by
  obtain ⟨vs, h1, h2, h3, h4⟩ := s
  obtain ⟨v, hv⟩ : ∃ v, vs[V.length]? = some v := ⟨_, List.getElem?_eq_getElem (by simp at h2; omega)⟩
  obtain ⟨o, ho, hi, hld, _⟩ := row1_put h1 hv
  have hA : (B :: A :: V).reverse[V.length]? = some A := by
    rw [List.reverse_cons, List.reverse_cons, List.append_assoc, List.getElem?_append_right (by simp)]; simp
  obtain ⟨sv, ov⟩ := h4 _ v A hv hA
  exact ⟨o, v, ho, hi, hld, sv, ov, sees_beq sv⟩
/-- The top is another one. -/
theorem VS.set {lv r : AV} {V : List (List Int)} {A B : List Int} (s : VS h0 h lv (A :: V)) (hl : Low h) (sr : Sees h r (izs B)) (nr : ∀ o ∈ objs r, h0.next ≤ o ∧ o ∉ objs lv) :
    ∃ o h2, objs lv = [o] ∧ idxAddrV 1 lv (.int .i64 (V.length : Int)) = some (.ptr o V.length) ∧ storeV h 1 (.ptr o V.length) r = some h2 ∧ VS h0 h2 lv (B :: V) ∧ Upd h h2 o := by
  obtain ⟨vs, h1, h2, h3, h4⟩ := s
  have hlen : V.length < vs.length := by simp at h2; omega
  obtain ⟨v, hv⟩ : ∃ v, vs[V.length]? = some v := ⟨_, List.getElem?_eq_getElem hlen⟩
  obtain ⟨o, ho, hi, hld, put⟩ := row1_put h1 hv
  obtain ⟨c1, c2⟩ := sees_cell sr
  obtain ⟨g, st, u, row⟩ := put r c1 c2
  refine ⟨o, g, ho, hi, st, ⟨vs.set V.length r, row, by simpa using h2, h3, fun i w C hw hC => ?_⟩, u⟩
  have keep : ∀ {w : AV} {C : List Int}, Sees h w (izs C) → (∀ o ∈ objs w, h0.next ≤ o ∧ o ∉ objs lv) → Sees g w (izs C) ∧ ∀ o ∈ objs w, h0.next ≤ o ∧ o ∉ objs lv :=
    fun sw ow => ⟨sees_same sw fun q hq => u.2 q fun e => (ow q hq).2 (by rw [ho, e]; simp), ow⟩
  rw [List.getElem?_set] at hw
  rw [List.reverse_cons] at hC
  by_cases e : V.length = i
  · subst e
    rw [if_pos rfl, if_pos hlen] at hw
    cases hw
    rw [List.getElem?_append_right (by simp)] at hC
    simp at hC; subst hC
    exact keep sr nr
  · rw [if_neg e] at hw
    have hil := (List.getElem?_eq_some_iff.1 hw).1
    have hi2 : i < V.length := by simp at h2; omega
    obtain ⟨sw, ow⟩ := h4 i w C hw (by rw [List.reverse_cons, List.getElem?_append_left (by simpa using hi2)]; rw [List.getElem?_append_left (by simpa using hi2)] at hC; exact hC)
    exact keep sw ow
/-- The two on top are left off. -/
theorem VS.cut {lv : AV} {V : List (List Int)} {A B : List Int} (s : VS h0 h lv (B :: A :: V)) : ∃ lv', slcV 1 lv none (some (.int .i64 (V.length : Int))) none = some lv' ∧ VS h0 h lv' V ∧ objs lv' = objs lv := by
  obtain ⟨vs, h1, h2, h3, h4⟩ := s
  have hlen : vs.length = V.length + 2 := by simpa using h2
  obtain ⟨lv', hs, row, hob⟩ := row_upto h1 (k := V.length) (by omega) (by intro e; rw [e] at hlen; simp at hlen)
  refine ⟨lv', hs, ⟨vs.take V.length, row, by rw [List.length_take]; omega, fun o ho => h3 o (hob ▸ ho), fun i v C hv hC => ?_⟩, hob⟩
  have hiV : i < V.length := by have := (List.getElem?_eq_some_iff.1 hC).1; simpa using this
  rw [List.getElem?_take, if_pos hiV] at hv
  obtain ⟨sv, ov⟩ := h4 i v C hv (by
    rw [List.reverse_cons, List.reverse_cons, List.append_assoc, List.getElem?_append_left (by simpa using hiV)]; exact hC)
  exact ⟨sv, fun o ho => ⟨(ov o ho).1, by rw [hob]; exact (ov o ho).2⟩⟩
end Go.Proofs.Ytjbkjffolnodjaa
/- Chapter 23: Eval of a query, on the machine. -/
namespace Go.Proofs.Ytjbkjffolnodjaa
open Go.Vm
set_option linter.unusedSimpArgs false
set_option linter.unusedVariables false
set_option maxRecDepth 100000
variable {T : Vm.Prog} {h h0 h' : AH}
theorem stepV_inv {st : List Int → List Int} {U : List Int} {V s V2 s2 : List (List Int)} {p : Part} (h : stepV st U V s p = some (V2, s2)) :
    (p.1 = 1 ∧ V2 = inter U (st (s.headD [])) :: V ∧ s2 = s.tail) ∨ (p.1 = 4 ∧ ∃ x V', V = x :: V' ∧ V2 = minus U x :: V' ∧ s2 = s) ∨
    (p.1 = 2 ∧ ∃ y x V', V = y :: x :: V' ∧ V2 = inter x y :: V' ∧ s2 = s) ∨ (p.1 = 3 ∧ ∃ y x V', V = y :: x :: V' ∧ V2 = union2 x y :: V' ∧ s2 = s) := by
  unfold stepV at h
  split at h
  · cases h; exact .inl ⟨rfl, rfl, rfl⟩
  · cases h; exact .inr (.inl ⟨rfl, _, _, rfl, rfl, rfl⟩)
  · cases h; exact .inr (.inr (.inl ⟨rfl, _, _, _, rfl, rfl, rfl⟩))
  · cases h; exact .inr (.inr (.inr ⟨rfl, _, _, _, rfl, rfl, rfl⟩))
  · cases h
theorem VS.low {lv : AV} {V : List (List Int)} (s : VS h0 h lv V) (hl : Low h) : ∀ o ∈ objs lv, o < h.next := by
  obtain ⟨vs, h1, _⟩ := s
  exact RowS.low h1 hl
theorem fillTwo {a b : AV} (ha : AV.isDef a = true) (hb : AV.isDef b = true) (ca : a.cells = [a]) (cb : b.cells = [b]) : fillV [AV.nilSlice, .nilSlice] [(0, 1, a), (1, 1, b)] = some [a, b] := by
  simp [fillV, ha, hb, ca, cb, setMany]
theorem VS.pushQ {lv r : AV} {V : List (List Int)} {A : List Int} {hb : AH} (s : VS h0 h lv V) (hl : Low h) (q : Quiet h0 h) (hsz : V.length < 1000) (sr : Sees h r (izs A)) (nr : ∀ o ∈ objs r, hb.next ≤ o) (hb0 : h0.next ≤ hb.next) (hlb : ∀ o ∈ objs lv, o < hb.next) :
    ∃ lv' h2, appV 1 24 (h.new (.cells [r] true)) lv (.slice h.next 0 1 1 1 true) = some (lv', h2) ∧ VS h0 h2 lv' (A :: V) ∧ Low h2 ∧ Quiet h0 h2 := by
  obtain ⟨lv', h2, ha, v2, lo2, m2⟩ := s.push hl q.1 hsz sr nr hb0 hlb
  obtain ⟨vs, _, _, h3, _⟩ := s
  exact ⟨lv', h2, ha, v2, lo2, Nat.le_trans q.1 m2.1, fun o ho hf => (m2.2 o (Nat.lt_of_lt_of_le ho q.1) fun e => by have := h3 o e; omega).trans (q.2 o ho hf)⟩
theorem load_keep {o i n : Nat} {b : Bool} (hk : h'.get o = h.get o) : loadV h' b n (.ptr o i) = loadV h b n (.ptr o i) := by
  simp only [loadV, AH.load, hk]
theorem eval_ok (k : BaseS T) (hl : Low h) {qv sv av : AV} {e : Ex} {ss : List (List Int)} {U : List Int} (ok : OkE e) (hlen : (post e).length ≤ 64) (sq : SeesS h 2 qv (parts (post e))) (s1 : SS h sv ss) (sa : Sees h av (izs U)) (hU : U.length ≤ 1000) :
    Gives T 9 [qv, sv, av] h fun r h' => Sees h' r (izs (val setI (setI U) e ss)) ∧ Quiet h h' ∧ Low h' := by
  refine gives_func (k.base.env _ (by decide)) (k.base.at (fn := a9) rfl) rfl ?_
  have ln : lenOfV qv = some (post e).length := by have := SeesS.len sq; simpa [parts] using this
  simp only [a9, c9, vms, vmc, AOpd.val, Nat.reduceEqDiff, reduceCtorEq, Nat.reduceAdd, Nat.reduceBEq]
  refine Gives.bind ((right_sees k.base hl ok hlen sq).mono ?_)
  rintro _ h1 ⟨rfl, q1, lo1⟩
  simp only [vms, vmc, AOpd.val, Nat.reduceEqDiff, reduceCtorEq, Nat.reduceAdd, Nat.reduceBEq]
  refine Gives.bind ((set_ok k lo1 (sees_keep sa hl q1) (by omega)).mono ?_)
  intro uv h2 nu
  have hUl := setI_len U
  generalize setI U = W at nu hUl
  have q2 := q1.trans nu.qt
  have total := runV_post setI W e [] ss
  have sq2 : SeesS h2 2 qv (parts (post e)) := SeesS.keep sq fun o ho => q2.2 o (SeesS.low sq hl o ho) id
  have hrl := ris_len W
  simp only [vms, vmc, AOpd.val, Nat.reduceEqDiff, reduceCtorEq, Nat.reduceAdd, Nat.reduceBEq, ln]
  refine wpc_loop (fun m f h' => ∃ (i : Nat) (lv sv' : AV) (V ss' : List (List Int)), m = (post e).length - i ∧ i ≤ (post e).length ∧ runV setI W [] ss ((post e).take i) = some (V, ss') ∧ (∀ x ∈ V, Sub (ris W) x) ∧ VS h2 h' lv V ∧ SS h2 sv' ss' ∧ V.length ≤ i ∧ Quiet h2 h' ∧ Low h' ∧ f.at 1 = sv' ∧ f.at 7 = uv ∧ f.at 8 = lv ∧ f.at 18 = qv ∧ f.at 19 = .int .i64 ((post e).length : Nat) ∧ f.at 20 = .int .i64 (i : Nat)) ?_ (post e).length _ _ ⟨0, .nilSlice, sv, [], ss, rfl, Nat.zero_le _, rfl, by simp, VS.nil, s1.keep hl q2, by simp, Quiet.refl _, nu.lo, ?_, ?_, ?_, ?_, ?_, ?_⟩
  · rintro m f h3 ⟨i, lv, sv', V, ss', rfl, hi, hrun, hsub, vs, sss, hVl, q3, lo3, f1, f7, f8, f18, f19, f20⟩
    by_cases hlt : i < (post e).length
    · have d1 : decide ((i : Int) < ((post e).length : Int)) = true := by rw [decide_eq_true_eq]; omega
      obtain ⟨p, hp⟩ : ∃ p, (post e)[i]? = some p := ⟨_, List.getElem?_eq_getElem hlt⟩
      obtain ⟨V1, t1, V2, t2, hr1, hstep, hr2⟩ := runV_step total hp
      rw [hrun] at hr1
      simp only [Option.some.injEq, Prod.mk.injEq] at hr1
      obtain ⟨rfl, rfl⟩ := hr1
      have hsub2 := stepV_sub hstep hsub
      have sq3 : SeesS h3 2 qv (parts (post e)) := SeesS.keep sq2 fun o ho => q3.2 o (SeesS.low sq2 nu.lo o ho) id
      obtain ⟨ad, ha1, ha2⟩ := part_sees sq3 hp
      have g1 : Quiet h3 (h3.new (.cells [AV.int .i64 0, AV.str []] true)) := (Quiet.refl _).new _
      have hg : (h3.new (.cells [AV.int .i64 0, AV.str []] true)).get h3.next = some (.cells [AV.int .i64 0, AV.str []] true) := get_new_same
      have st : storeV (h3.new (.cells [AV.int .i64 0, AV.str []] true)) 2 (.ptr h3.next 0) (.agg [.int .i64 p.1, .str p.2]) = some ((h3.new (.cells [AV.int .i64 0, AV.str []] true)).set h3.next (.cells [.int .i64 p.1, .str p.2] true)) := store_all hg rfl rfl rfl
      have g2 : Quiet h3 ((h3.new (.cells [AV.int .i64 0, AV.str []] true)).set h3.next (.cells [.int .i64 p.1, .str p.2] true)) := g1.set (Nat.le_refl _) _
      have lo4 : Low ((h3.new (.cells [AV.int .i64 0, AV.str []] true)).set h3.next (.cells [.int .i64 p.1, .str p.2] true)) := (lo3.new _).set (by rw [next_new]; omega) _
      have l0 : loadV ((h3.new (.cells [AV.int .i64 0, AV.str []] true)).set h3.next (.cells [.int .i64 p.1, .str p.2] true)) false 1 (.ptr h3.next 0) = some (.int .i64 p.1) := load_at get_set_same rfl
      have w2 : IntKind.i64.wrap ((i : Int) + 1) = ((i + 1 : Nat) : Int) := by rw [wrap_i64 (by omega) (by omega)]; omega
      have vs4 := vs.keep lo3 g2
      have q4 := q3.trans g2
      simp only [c9l0, vms, vmc, AOpd.val, Nat.reduceEqDiff, reduceCtorEq, Nat.reduceAdd, Nat.reduceBEq, f8, f18, f19, f20, d1, ha1, ha2, st, vs.len, fa, l0]
      generalize ((h3.new (.cells [AV.int .i64 0, AV.str []] true)).set h3.next (.cells [.int .i64 p.1, .str p.2] true)) = h4 at *
      have su : Sees h4 uv (izs W) := sees_keep nu.sees nu.lo q4
      have hsz : ∀ x ∈ V, x.length ≤ 1000 := fun x hx => by have := sub_len (ris_up W) (hsub x hx); omega
      have ud := sees_isDef su
      have uc := (sees_cell su).1
      -- the next round
      have next : ∀ {y1 y7 y8 y18 y19 y20 : AV} {hB : AH} {lw sw : AV}, VS h2 hB lw V2 → SS h2 sw t2 → V2.length ≤ i + 1 → Quiet h2 hB → Low hB → y1 = sw → y7 = uv → y8 = lw → y18 = qv → y19 = .int .i64 ((post e).length : Nat) → y20 = .int .i64 ((i + 1 : Nat) : Int) → ∃ k', k' < (post e).length - i ∧ ∃ (i : Nat) (lv sv' : AV) (V ss' : List (List Int)), k' = (post e).length - i ∧ i ≤ (post e).length ∧ runV setI W [] ss ((post e).take i) = some (V, ss') ∧ (∀ x ∈ V, Sub (ris W) x) ∧ VS h2 hB lv V ∧ SS h2 sv' ss' ∧ V.length ≤ i ∧ Quiet h2 hB ∧ Low hB ∧ y1 = sv' ∧ y7 = uv ∧ y8 = lv ∧ y18 = qv ∧ y19 = .int .i64 ((post e).length : Nat) ∧ y20 = .int .i64 (i : Nat) :=
        fun a b c d e1 g1 g2 g3 g4 g5 g6 => ⟨(post e).length - (i + 1), by omega, i + 1, _, _, V2, t2, rfl, by omega, hr2, hsub2, a, b, c, d, e1, g1, g2, g3, g4, g5, g6⟩
      rcases stepV_inv hstep with ⟨h1', rfl, rfl⟩ | ⟨h4', x, V', rfl, rfl, rfl⟩ | ⟨h2', y, x, V', rfl, rfl, rfl⟩ | ⟨h3', y, x, V', rfl, rfl, rfl⟩
      · -- a term: what is behind the set that is taken
        have e1 : (p.1 == 1) = true := by simpa using h1'
        have term : ∀ {tv : AV} {t : List Int}, Sees h4 tv (izs t) → t.length ≤ 1000 → Gives T 25 [tv] h4 fun sv5 h5 => NewI h4 h5 sv5 (setI t) ∧ ∃ h6, h6 = h5.new (.cells [uv, sv5] true) ∧ fillV [AV.nilSlice, .nilSlice] [(0, 1, uv), (1, 1, sv5)] = some [uv, sv5] ∧ Gives T 21 [.slice h5.next 0 1 2 2 true] h6 fun r h7 => fillV [AV.nilSlice] [(0, 1, r)] = some [r] ∧ ∃ lw h8, appV 1 24 (h7.new (.cells [r] true)) lv (.slice h7.next 0 1 1 1 true) = some (lw, h8) ∧ VS h2 h8 lw (inter W (setI t) :: V) ∧ Low h8 ∧ Quiet h2 h8 := by
          intro tv t st ht
          refine (set_ok k lo4 st (by omega)).mono ?_
          intro sv5 h5 nt
          have htl := setI_len t
          have g6 : Quiet h5 (h5.new (.cells [uv, sv5] true)) := (Quiet.refl _).new _
          refine ⟨nt, _, rfl, fillTwo ud (sees_isDef nt.sees) uc (sees_cell nt.sees).1, ?_⟩
          have su5 := sees_keep (sees_keep su lo4 nt.qt) nt.lo g6
          refine (inter_ok k.base (nt.lo.new _) (o := h5.next) (va := uv) (vb := sv5) get_new_same su5 (sees_keep nt.sees nt.lo g6) (by omega) (by omega)).mono ?_
          intro r h7 nr
          have q47 : Quiet h4 h7 := (nt.qt.trans g6).trans nr.qt
          refine ⟨fillN1 r (sees_isDef nr.sees) (sees_cell nr.sees).1, ?_⟩
          exact (vs4.keep lo4 q47).pushQ (hb := h5.new (.cells [uv, sv5] true)) nr.lo (q4.trans q47) (by omega) nr.sees nr.new (by have := q4.1; have := nt.qt.1; rw [next_new]; omega) (fun o ho => by have := vs4.low lo4 o ho; have := nt.qt.1; rw [next_new]; omega)
        obtain ⟨xs, sx, cx, lx, ex⟩ := id sss
        have lsv : lenOfV sv' = some ss'.length := by rw [sx.len, lx]
        cases ss' with
        | nil =>
          have d0 : decide (((([] : List (List Int)).length : Nat) : Int) > 0) = false := rfl
          simp only [e1, vms, vmc, AOpd.val, Nat.reduceEqDiff, reduceCtorEq, Nat.reduceAdd, Nat.reduceBEq, f1, lsv, d0, f7, f8]
          refine Gives.bind ((term (tv := .nilSlice) (t := []) (.inl ⟨rfl, rfl⟩) (by decide)).mono ?_)
          rintro sv5 h5 ⟨nt, h6, rfl, hf2, G⟩
          simp only [vms, vmc, AOpd.val, Nat.reduceEqDiff, reduceCtorEq, Nat.reduceAdd, Nat.reduceBEq, hf2]
          refine Gives.bind (G.mono ?_)
          rintro r h7 ⟨hf1, lw, h8, happ, vs8, lo8, q8⟩
          simp only [vms, vmc, AOpd.val, Nat.reduceEqDiff, reduceCtorEq, Nat.reduceAdd, Nat.reduceBEq, hf1, happ, f20, w2]
          refine next vs8 sss (by simp; omega) q8 lo8 ?_ ?_ ?_ ?_ ?_ ?_
          all_goals first | rfl | assumption | simp only [vms, vmc, AOpd.val, Nat.reduceEqDiff, reduceCtorEq, Nat.reduceAdd, Nat.reduceBEq, f1, f7, f8, f18, f19]
        | cons t r0 =>
          obtain ⟨tv, xs', rfl⟩ : ∃ tv xs', xs = tv :: xs' := by
            match xs, lx with
            | tv :: xs', _ => exact ⟨tv, xs', rfl⟩
          have d0 : decide ((((t :: r0).length : Nat) : Int) > 0) = true := by rw [decide_eq_true_eq]; simp only [List.length_cons]; omega
          obtain ⟨pa, hi0, hl0⟩ := (sees_keep sx nu.lo q4).at (i := 0) (x := tv) rfl .i64
          have hi0' : idxAddrV 1 sv' (.int .i64 0) = some pa := hi0
          obtain ⟨sw, hsl, ssw, csw⟩ := sees_tailA sx cx
          obtain ⟨stv, htl⟩ := ex 0 tv t rfl rfl
          have stail : SS h2 sw r0 := ⟨xs', ssw, csw, by simpa using lx, fun j z u hz hu => ex (j + 1) z u (by simpa using hz) (by simpa using hu)⟩
          simp only [e1, vms, vmc, AOpd.val, Nat.reduceEqDiff, reduceCtorEq, Nat.reduceAdd, Nat.reduceBEq, f1, lsv, d0, f7, f8, hi0', hl0, Option.map_none, hsl]
          refine Gives.bind ((term (sees_keep stv nu.lo q4) htl).mono ?_)
          rintro sv5 h5 ⟨nt, h6, rfl, hf2, G⟩
          simp only [vms, vmc, AOpd.val, Nat.reduceEqDiff, reduceCtorEq, Nat.reduceAdd, Nat.reduceBEq, hf2]
          refine Gives.bind (G.mono ?_)
          rintro r h7 ⟨hf1, lw, h8, happ, vs8, lo8, q8⟩
          simp only [vms, vmc, AOpd.val, Nat.reduceEqDiff, reduceCtorEq, Nat.reduceAdd, Nat.reduceBEq, hf1, happ, f20, w2]
          refine next vs8 stail (by simp; omega) q8 lo8 ?_ ?_ ?_ ?_ ?_ ?_
          all_goals first | rfl | assumption | simp only [vms, vmc, AOpd.val, Nat.reduceEqDiff, reduceCtorEq, Nat.reduceAdd, Nat.reduceBEq, f1, f7, f8, f18, f19]
      · -- a contrary
        have e1 : (p.1 == 1) = false := by rw [h4']; rfl
        have e4 : (p.1 == 4) = true := by rw [h4']; rfl
        have wn : IntKind.i64.wrap (((x :: V').length : Nat) - 1) = (V'.length : Int) := by simp only [List.length_cons]; rw [wrap_i64 (by omega) (by simp at hVl; omega)]; omega
        obtain ⟨o, v, ho, hix, hld, svx, ovx, _⟩ := vs4.top
        simp only [e1, e4, vms, vmc, AOpd.val, Nat.reduceEqDiff, reduceCtorEq, Nat.reduceAdd, Nat.reduceBEq, f7, f8, wn, hix, hld]
        refine Gives.bind ((minus_ok k.base lo4 su svx (by omega) (by have := hsz x (by simp); omega)).mono ?_)
        intro r h5 nr
        obtain ⟨o2, h6, ho2, hix2, hst, vs6, u6⟩ := (vs4.keep lo4 nr.qt).set nr.lo nr.sees (fun q hq => ⟨by have := nr.new q hq; have := q4.1; omega, fun e => by have := nr.new q hq; have := vs4.low lo4 q e; omega⟩)
        have q6 : Quiet h2 h6 := by
          obtain ⟨_, _, _, h3', _⟩ := vs4
          refine ⟨by rw [u6.1]; exact Nat.le_trans q4.1 nr.qt.1, fun q hq hf => ?_⟩
          rw [u6.2 q fun e => by have := h3' o2 (by rw [ho2]; simp); omega]
          exact (q4.trans nr.qt).2 q hq hf
        have lo6 : Low h6 := nr.lo.upd u6 (by have := vs4.low lo4 o2 (by rw [ho2]; simp); have := nr.qt.1; omega)
        simp only [vms, vmc, AOpd.val, Nat.reduceEqDiff, reduceCtorEq, Nat.reduceAdd, Nat.reduceBEq, hix2, hst, f20, w2]
        refine next vs6 sss (by simp at hVl ⊢; omega) q6 lo6 ?_ ?_ ?_ ?_ ?_ ?_
        all_goals first | rfl | assumption | simp only [vms, vmc, AOpd.val, Nat.reduceEqDiff, reduceCtorEq, Nat.reduceAdd, Nat.reduceBEq, f1, f7, f8, f18, f19]
      · -- an and
        have e1 : (p.1 == 1) = false := by rw [h2']; rfl
        have e4 : (p.1 == 4) = false := by rw [h2']; rfl
        have e2 : (p.1 == 2) = true := by rw [h2']; rfl
        have wn : IntKind.i64.wrap (((y :: x :: V').length : Nat) - 2) = (V'.length : Int) := by simp only [List.length_cons]; rw [wrap_i64 (by omega) (by simp at hVl; omega)]; omega
        have wm : IntKind.i64.wrap (((y :: x :: V').length : Nat) - 1) = ((V'.length + 1 : Nat) : Int) := by simp only [List.length_cons]; rw [wrap_i64 (by omega) (by simp at hVl; omega)]; omega
        obtain ⟨lc, hcut, vsc, hobc⟩ := vs4.cut
        obtain ⟨o, vx, ho, hix, hld, svx, ovx, bx⟩ := vs4.below
        obtain ⟨o2, vy, ho2, hiy, hldy, svy, ovy, by'⟩ := vs4.top
        have hiy' : idxAddrV 1 lv (.int .i64 ((V'.length + 1 : Nat) : Int)) = some (.ptr o2 (V'.length + 1)) := hiy
        have hldy' : loadV h4 false 1 (.ptr o2 (V'.length + 1)) = some vy := hldy
        have hf2 := fillTwo (sees_isDef svx) (sees_isDef svy) (sees_cell svx).1 (sees_cell svy).1
        have g5 : Quiet h4 (h4.new (.cells [vx, vy] true)) := (Quiet.refl _).new _
        have vs5 := vs4.keep lo4 g5
        have lo5 := lo4.new (.cells [vx, vy] true)
        have lx5 : loadV (h4.new (.cells [vx, vy] true)) false 1 (.ptr o V'.length) = some vx := (load_keep (g5.2 o (vs4.low lo4 o (by rw [ho]; simp)) id)).trans hld
        have ly5 : loadV (h4.new (.cells [vx, vy] true)) false 1 (.ptr o2 (V'.length + 1)) = some vy := (load_keep (g5.2 o2 (vs4.low lo4 o2 (by rw [ho2]; simp)) id)).trans hldy'
        simp only [e1, e4, e2, vms, vmc, AOpd.val, Nat.reduceEqDiff, reduceCtorEq, Nat.reduceAdd, Nat.reduceBEq, f8, wn, wm, hcut, hix, hld, hiy', hldy', hf2]
        rw [items_look (look_load (v := vx) (by simp only [vms, vmc, AOpd.val, Nat.reduceEqDiff, reduceCtorEq, Nat.reduceAdd, Nat.reduceBEq]; exact lx5) (by simp only [vms, vmc, AOpd.val, Nat.reduceEqDiff, reduceCtorEq, Nat.reduceAdd, Nat.reduceBEq]) bx)]
        rw [items_look (look_load (v := vy) (by simp only [vms, vmc, AOpd.val, Nat.reduceEqDiff, reduceCtorEq, Nat.reduceAdd, Nat.reduceBEq]; exact ly5) (by simp only [vms, vmc, AOpd.val, Nat.reduceEqDiff, reduceCtorEq, Nat.reduceAdd, Nat.reduceBEq]) by')]
        rw [items_look (look_build (l := [vx, vy]) (q := h4.next) (by simp only [vms, vmc, AOpd.val, Nat.reduceEqDiff, reduceCtorEq, Nat.reduceAdd, Nat.reduceBEq]; exact hf2) (by simp only [vms, vmc, AOpd.val, Nat.reduceEqDiff, reduceCtorEq, Nat.reduceAdd, Nat.reduceBEq]; rfl) get_new_same (by simp [AV.beqs, bx, by']))]
        simp only [vms, vmc, AOpd.val, Nat.reduceEqDiff, reduceCtorEq, Nat.reduceAdd, Nat.reduceBEq]
        refine Gives.bind ((inter_ok k.base lo5 (o := h4.next) (va := vx) (vb := vy) get_new_same (sees_keep svx lo4 g5) (sees_keep svy lo4 g5) (by have := hsz x (by simp); omega) (by have := hsz y (by simp); omega)).mono ?_)
        intro r h7 nr
        have q47 : Quiet h4 h7 := g5.trans nr.qt
        have hf1 := fillN1 r (sees_isDef nr.sees) (sees_cell nr.sees).1
        obtain ⟨lw, h8, happ, vs8, lo8, q8⟩ := (vsc.keep lo4 q47).pushQ (hb := h4.new (.cells [vx, vy] true)) nr.lo (q4.trans q47) (by simp at hVl; omega) nr.sees nr.new (by have := q4.1; rw [next_new]; omega) (fun o ho => by have := vsc.low lo4 o ho; rw [next_new]; omega)
        simp only [vms, vmc, AOpd.val, Nat.reduceEqDiff, reduceCtorEq, Nat.reduceAdd, Nat.reduceBEq, hf1]
        rw [items_look (look_build (l := [r]) (q := h7.next) (by simp only [vms, vmc, AOpd.val, Nat.reduceEqDiff, reduceCtorEq, Nat.reduceAdd, Nat.reduceBEq]; exact hf1) (by simp only [vms, vmc, AOpd.val, Nat.reduceEqDiff, reduceCtorEq, Nat.reduceAdd, Nat.reduceBEq]; rfl) get_new_same (by simp [AV.beqs, sees_beq nr.sees]))]
        simp only [vms, vmc, AOpd.val, Nat.reduceEqDiff, reduceCtorEq, Nat.reduceAdd, Nat.reduceBEq, happ, f20, w2]
        refine next vs8 sss (by simp at hVl ⊢; omega) q8 lo8 ?_ ?_ ?_ ?_ ?_ ?_
        all_goals first | rfl | assumption | simp only [vms, vmc, AOpd.val, Nat.reduceEqDiff, reduceCtorEq, Nat.reduceAdd, Nat.reduceBEq, f1, f7, f8, f18, f19]
      · -- an or
        have e1 : (p.1 == 1) = false := by rw [h3']; rfl
        have e4 : (p.1 == 4) = false := by rw [h3']; rfl
        have e2 : (p.1 == 2) = false := by rw [h3']; rfl
        have e3 : (p.1 == 3) = true := by rw [h3']; rfl
        have wn : IntKind.i64.wrap (((y :: x :: V').length : Nat) - 2) = (V'.length : Int) := by simp only [List.length_cons]; rw [wrap_i64 (by omega) (by simp at hVl; omega)]; omega
        have wm : IntKind.i64.wrap (((y :: x :: V').length : Nat) - 1) = ((V'.length + 1 : Nat) : Int) := by simp only [List.length_cons]; rw [wrap_i64 (by omega) (by simp at hVl; omega)]; omega
        obtain ⟨lc, hcut, vsc, hobc⟩ := vs4.cut
        obtain ⟨o, vx, ho, hix, hld, svx, ovx, bx⟩ := vs4.below
        obtain ⟨o2, vy, ho2, hiy, hldy, svy, ovy, by'⟩ := vs4.top
        have hiy' : idxAddrV 1 lv (.int .i64 ((V'.length + 1 : Nat) : Int)) = some (.ptr o2 (V'.length + 1)) := hiy
        have hldy' : loadV h4 false 1 (.ptr o2 (V'.length + 1)) = some vy := hldy
        have hf2 := fillTwo (sees_isDef svx) (sees_isDef svy) (sees_cell svx).1 (sees_cell svy).1
        have g5 : Quiet h4 (h4.new (.cells [vx, vy] true)) := (Quiet.refl _).new _
        have vs5 := vs4.keep lo4 g5
        have lo5 := lo4.new (.cells [vx, vy] true)
        have lx5 : loadV (h4.new (.cells [vx, vy] true)) false 1 (.ptr o V'.length) = some vx := (load_keep (g5.2 o (vs4.low lo4 o (by rw [ho]; simp)) id)).trans hld
        have ly5 : loadV (h4.new (.cells [vx, vy] true)) false 1 (.ptr o2 (V'.length + 1)) = some vy := (load_keep (g5.2 o2 (vs4.low lo4 o2 (by rw [ho2]; simp)) id)).trans hldy'
        simp only [e1, e4, e2, e3, vms, vmc, AOpd.val, Nat.reduceEqDiff, reduceCtorEq, Nat.reduceAdd, Nat.reduceBEq, f8, wn, wm, hcut, hix, hld, hiy', hldy', hf2]
        rw [items_look (look_load (v := vx) (by simp only [vms, vmc, AOpd.val, Nat.reduceEqDiff, reduceCtorEq, Nat.reduceAdd, Nat.reduceBEq]; exact lx5) (by simp only [vms, vmc, AOpd.val, Nat.reduceEqDiff, reduceCtorEq, Nat.reduceAdd, Nat.reduceBEq]) bx)]
        rw [items_look (look_load (v := vy) (by simp only [vms, vmc, AOpd.val, Nat.reduceEqDiff, reduceCtorEq, Nat.reduceAdd, Nat.reduceBEq]; exact ly5) (by simp only [vms, vmc, AOpd.val, Nat.reduceEqDiff, reduceCtorEq, Nat.reduceAdd, Nat.reduceBEq]) by')]
        rw [items_look (look_build (l := [vx, vy]) (q := h4.next) (by simp only [vms, vmc, AOpd.val, Nat.reduceEqDiff, reduceCtorEq, Nat.reduceAdd, Nat.reduceBEq]; exact hf2) (by simp only [vms, vmc, AOpd.val, Nat.reduceEqDiff, reduceCtorEq, Nat.reduceAdd, Nat.reduceBEq]; rfl) get_new_same (by simp [AV.beqs, bx, by']))]
        simp only [vms, vmc, AOpd.val, Nat.reduceEqDiff, reduceCtorEq, Nat.reduceAdd, Nat.reduceBEq]
        refine Gives.bind ((union2_ok k.base lo5 (o := h4.next) (va := vx) (vb := vy) get_new_same (sees_keep svx lo4 g5) (sees_keep svy lo4 g5) (by have := hsz x (by simp); omega) (by have := hsz y (by simp); omega)).mono ?_)
        intro r h7 nr
        have q47 : Quiet h4 h7 := g5.trans nr.qt
        have hf1 := fillN1 r (sees_isDef nr.sees) (sees_cell nr.sees).1
        obtain ⟨lw, h8, happ, vs8, lo8, q8⟩ := (vsc.keep lo4 q47).pushQ (hb := h4.new (.cells [vx, vy] true)) nr.lo (q4.trans q47) (by simp at hVl; omega) nr.sees nr.new (by have := q4.1; rw [next_new]; omega) (fun o ho => by have := vsc.low lo4 o ho; rw [next_new]; omega)
        simp only [vms, vmc, AOpd.val, Nat.reduceEqDiff, reduceCtorEq, Nat.reduceAdd, Nat.reduceBEq, hf1]
        rw [items_look (look_build (l := [r]) (q := h7.next) (by simp only [vms, vmc, AOpd.val, Nat.reduceEqDiff, reduceCtorEq, Nat.reduceAdd, Nat.reduceBEq]; exact hf1) (by simp only [vms, vmc, AOpd.val, Nat.reduceEqDiff, reduceCtorEq, Nat.reduceAdd, Nat.reduceBEq]; rfl) get_new_same (by simp [AV.beqs, sees_beq nr.sees]))]
        simp only [vms, vmc, AOpd.val, Nat.reduceEqDiff, reduceCtorEq, Nat.reduceAdd, Nat.reduceBEq, happ, f20, w2]
        refine next vs8 sss (by simp at hVl ⊢; omega) q8 lo8 ?_ ?_ ?_ ?_ ?_ ?_
        all_goals first | rfl | assumption | simp only [vms, vmc, AOpd.val, Nat.reduceEqDiff, reduceCtorEq, Nat.reduceAdd, Nat.reduceBEq, f1, f7, f8, f18, f19]
    · have d1 : decide ((i : Int) < ((post e).length : Int)) = false := by rw [decide_eq_false_iff_not]; omega
      rw [List.take_of_length_le (by omega), total] at hrun
      simp only [Option.some.injEq, Prod.mk.injEq] at hrun
      obtain ⟨rfl, rfl⟩ := hrun
      obtain ⟨o, v, ho, hix, hld, sv, _, _⟩ := vs.top
      have hix' : idxAddrV 1 lv (.int .i64 0) = some (.ptr o 0) := hix
      have hld' : loadV h3 false 1 (.ptr o 0) = some v := hld
      simp only [c9l0, vms, vmc, AOpd.val, Nat.reduceEqDiff, reduceCtorEq, Nat.reduceAdd, Nat.reduceBEq, f8, f19, f20, d1, hix', hld']
      exact ⟨sv, q2.trans q3, lo3⟩
  all_goals (simp only [vms, vmc, AOpd.val, Nat.reduceEqDiff, reduceCtorEq, Nat.reduceAdd, Nat.reduceBEq] <;> rfl)
end Go.Proofs.Ytjbkjffolnodjaa
/- Chapter 23: queries that are made of others. -/
namespace Go.Proofs.Ytjbkjffolnodjaa
open Go.Vm
set_option linter.unusedSimpArgs false
set_option linter.unusedVariables false
set_option maxRecDepth 100000
variable {T : Vm.Prog} {h h0 h' : AH}
theorem flat_at : ∀ {ys : List (List AV)} {i j : Nat} {y : List AV} {z : AV}, (∀ y ∈ ys, y.length = 2) → ys[i]? = some y → y[j]? = some z → ys.flatten[i * 2 + j]? = some z
  | [], i, j, y, z, _, h, _ => by simp at h
  | x :: ys, 0, j, y, z, hl, h, hz => by
    simp at h; subst h
    have hj := (List.getElem?_eq_some_iff.1 hz).1
    rw [List.flatten_cons, List.getElem?_append_left (by omega)]
    simpa using hz
  | x :: ys, i + 1, j, y, z, hl, h, hz => by
    have h2 := hl x (by simp)
    rw [List.flatten_cons, List.getElem?_append_right (by omega), h2, show (i + 1) * 2 + j - 2 = i * 2 + j by omega]
    exact flat_at (fun y hy => hl y (by simp [hy])) (by simpa using h) hz
theorem flat_len : ∀ {ys : List (List AV)}, (∀ y ∈ ys, y.length = 2) → ys.flatten.length = ys.length * 2
  | [], _ => rfl
  | x :: ys, hl => by
    rw [List.flatten_cons, List.length_append, flat_len fun y hy => hl y (by simp [hy]), hl x (by simp), List.length_cons]; omega
theorem seg_flat {l : List AV} {off : Nat} : ∀ {ys : List (List AV)}, off + ys.length * 2 ≤ l.length → (∀ i y, ys[i]? = some y → y.length = 2 ∧ ∀ j z, y[j]? = some z → l[off + i * 2 + j]? = some z) → (l.drop off).take (ys.length * 2) = ys.flatten := by
  intro ys h1 h2
  have hl : ∀ y ∈ ys, y.length = 2 := fun y hy => by
    obtain ⟨i, hi⟩ := List.getElem?_of_mem hy
    exact (h2 i y hi).1
  apply List.ext_getElem?
  intro t
  by_cases ht : t < ys.length * 2
  · obtain ⟨y, hy⟩ : ∃ y, ys[t / 2]? = some y := ⟨_, List.getElem?_eq_getElem (by omega)⟩
    obtain ⟨g1, g2⟩ := h2 _ y hy
    obtain ⟨z, hz⟩ : ∃ z, y[t % 2]? = some z := ⟨_, List.getElem?_eq_getElem (by omega)⟩
    have e : t / 2 * 2 + t % 2 = t := by omega
    have h3 := g2 _ z hz
    have h4 := flat_at hl hy hz
    rw [e] at h4
    rw [List.getElem?_take, if_pos ht, List.getElem?_drop, h4, show off + t = off + t / 2 * 2 + t % 2 by omega]
    exact h3
  · rw [List.getElem?_eq_none (by rw [List.length_take]; omega), List.getElem?_eq_none (by rw [flat_len hl]; omega)]
theorem seesS2_elems {v : AV} {ys : List (List AV)} (s : SeesS h 2 v ys) : h.elems 2 ys.length v = some ys.flatten := by
  rcases s with ⟨rfl, rfl⟩ | ⟨o, off, cap, ex, l, rw', rfl, hg, h1, h2⟩
  · rfl
  · simp only [AH.elems, true_and, Nat.le_refl, if_true]
    rw [load_of hg, if_pos h1, seg_flat h1 h2]
theorem seesS2_len {v : AV} {ys : List (List AV)} (s : SeesS h 2 v ys) : ∀ y ∈ ys, y.length = 2 := fun y hy => by
  obtain ⟨i, hi⟩ := List.getElem?_of_mem hy
  rcases s with ⟨rfl, rfl⟩ | ⟨o, off, cap, ex, l, rw', rfl, hg, h1, h2⟩
  · simp at hi
  · exact (h2 i y hi).1
/-- Pairs of cells in an object of their own, to its end. -/
structure RX (h : AH) (o : Nat) (ex : Bool) (zs : List (List AV)) : Prop where
  obj : h.get o = some (.cells zs.flatten true)
  two : ∀ z ∈ zs, z.length = 2
  fl : ∀ z ∈ zs, z.all AV.flat = true
def rx (o : Nat) (zs : List (List AV)) (ex : Bool) : AV := .slice o 0 2 zs.length zs.length ex
theorem RX.sees {o : Nat} {ex : Bool} {zs : List (List AV)} (r : RX h o ex zs) : SeesS h 2 (rx o zs ex) zs :=
  .inr ⟨o, 0, zs.length, ex, zs.flatten, some true, rfl, r.obj, by rw [flat_len r.two]; omega, fun i x hx => ⟨r.two x (List.mem_of_getElem? hx), fun j y hy => by rw [Nat.zero_add]; exact flat_at r.two hx hy⟩⟩
theorem appX {o : Nat} {ex : Bool} {zs ys : List (List AV)} {w : AV} (hl : Low h) (r : RX h o ex zs) (s : SeesS h 2 w ys) (hf : ∀ y ∈ ys, y.all AV.flat = true) (hs : zs.length + ys.length < 1000000) :
    ∃ o' ex' h', appV 2 24 h (rx o zs ex) w = some (rx o' (zs ++ ys) ex', h') ∧ RX h' o' ex' (zs ++ ys) ∧ (o' = o ∨ h.next ≤ o') ∧ Mods h h' (fun q => q = o) ∧ Low h' := by
  have hel := seesS2_elems s
  have ln := s.len
  have hol : o < h.next := hl _ _ r.obj
  have hfl : ys.flatten.all AV.flat = true := by
    rw [List.all_eq_true]
    intro x hx
    obtain ⟨y, hy, hxy⟩ := List.mem_flatten.1 hx
    exact List.all_eq_true.1 (hf y hy) x hxy
  by_cases h0 : ys.length = 0
  · have hy : ys = [] := List.eq_nil_of_length_eq_zero h0
    subst hy
    refine ⟨o, ex, h, ?_, by rw [List.append_nil]; exact r, .inl rfl, Mods.refl _ _, hl⟩
    simp only [appV, ln, Option.bind_some, hel, appendV, rx, if_true]
    rw [if_pos (by simp)]
    simp
  · have hroom : roomOk (zs.length + ys.length) 24 zs.length ex = true := by
      have : (zs.length + ys.length) * 24 ≤ 1000000 * 24 := Nat.mul_le_mul_right 24 (by omega)
      simp only [roomOk, Bool.or_eq_true, Bool.and_eq_true, decide_eq_true_eq]
      left; omega
    have hload : h.load o 0 (zs.length * 2) = some zs.flatten := by
      simp only [AH.load, r.obj, List.drop_zero, Nat.zero_add]
      rw [if_pos (by rw [flat_len r.two]; exact Nat.le_refl _), List.take_of_length_le (by rw [flat_len r.two]; exact Nat.le_refl _)]
    have hnot : ¬ zs.length + ys.length ≤ zs.length := by omega
    have two : ∀ z ∈ zs ++ ys, z.length = 2 := fun z hz => (List.mem_append.1 hz).elim (r.two z) (seesS2_len s z)
    have fl : ∀ z ∈ zs ++ ys, z.all AV.flat = true := fun z hz => (List.mem_append.1 hz).elim (r.fl z) (hf z)
    cases ex with
    | true =>
      refine ⟨h.next, false, h.new (.cells (zs.flatten ++ ys.flatten) true), ?_, ⟨by rw [get_new_same, List.flatten_append], two, fl⟩, .inr (Nat.le_refl _), (Mods.refl _ _).new _, hl.new _⟩
      simp only [appV, ln, Option.bind_some, hel, appendV, rx, if_true]
      rw [if_neg hnot, if_pos hroom, hload]
      simp
    | false =>
      have hrw : h.isRw o = true := by simp [AH.isRw, r.obj]
      refine ⟨h.next, false, (h.set o .dead).new (.cells (zs.flatten ++ ys.flatten) true), ?_, ⟨?_, two, fl⟩, .inr (Nat.le_refl _), ((Mods.refl h (fun q => q = o)).set (.inl rfl) _).new _, (hl.set hol _).new _⟩
      · simp only [appV, ln, Option.bind_some, hel, appendV, rx, if_true]
        rw [if_neg hnot, if_pos hroom, hload]
        simp [hrw, hfl, next_set]
      · have := get_new_same (h := h.set o .dead) (x := .cells (zs.flatten ++ ys.flatten) true)
        rw [next_set] at this
        rw [this, List.flatten_append]
theorem parts_flat (q : List Part) : ∀ y ∈ parts q, y.all AV.flat = true := by
  intro y hy
  simp only [parts, List.mem_map] at hy
  obtain ⟨p, _, rfl⟩ := hy
  rfl
theorem parts_append (a b : List Part) : parts (a ++ b) = parts a ++ parts b := by simp [parts]
theorem parts_len (a : List Part) : (parts a).length = a.length := by simp [parts]
/-- A part without a term. -/
theorem part1_ok (k : Base T) (hl : Low h) (kd : Int) : Gives T 18 [.int .i64 kd] h fun r h' => r = .agg [.int .i64 kd, .str []] ∧ Quiet h h' ∧ Low h' := by
  refine gives_func (k.env _ (by decide)) (k.at (fn := a18) rfl) rfl ?_
  have hf : fillV [AV.int .i64 0, .str []] [(0, 1, .int .i64 kd)] = some [.int .i64 kd, .str []] := by simp [fillV, AV.isDef, AV.cells, setMany]
  have st : storeV (h.new (.cells [AV.int .i64 0, AV.str []] true)) 2 (.ptr h.next 0) (.agg [.int .i64 kd, .str []]) = some ((h.new (.cells [AV.int .i64 0, AV.str []] true)).set h.next (.cells [.int .i64 kd, .str []] true)) := store_all get_new_same rfl rfl rfl
  have ld : loadV ((h.new (.cells [AV.int .i64 0, AV.str []] true)).set h.next (.cells [.int .i64 kd, .str []] true)) true 2 (.ptr h.next 0) = some (.agg [.int .i64 kd, .str []]) := load_all get_set_same rfl
  have hr : ∀ g : Fr, g.at 2 = .ptr h.next 0 → resultsV g ((h.new (.cells [AV.int .i64 0, AV.str []] true)).set h.next (.cells [.int .i64 kd, .str []] true)) [.cell 2 true 2] = some [.agg [.int .i64 kd, .str []]] := by
    intro g hg
    simp only [res_cell, hg, ld, vms, vmc, AOpd.val, Nat.reduceEqDiff, reduceCtorEq, Nat.reduceAdd, Nat.reduceBEq]
  simp only [a18, c18, vms, vmc, AOpd.val, Nat.reduceEqDiff, reduceCtorEq, Nat.reduceAdd, Nat.reduceBEq, hf, st]
  refine ⟨_, hr _ (by simp only [vms, vmc, AOpd.val, Nat.reduceEqDiff, reduceCtorEq, Nat.reduceAdd, Nat.reduceBEq]), rfl, ((Quiet.refl h).new _).set (Nat.le_refl _) _, (hl.new _).set (by rw [next_new]; omega) _⟩
/-- Some parts, one behind the other. -/
theorem join_ok (k : Base T) (hl : Low h) {va vb vc : AV} {a b c : List Part} (sa : SeesS h 2 va (parts a)) (sb : SeesS h 2 vb (parts b)) (sc : SeesS h 2 vc (parts c)) (hs : a.length + b.length + c.length < 1000) :
    Gives T 19 [va, vb, vc] h fun r h' => SeesS h' 2 r (parts (a ++ b ++ c)) ∧ Quiet h h' ∧ Low h' := by
  refine gives_func (k.env _ (by decide)) (k.at (fn := a19) rfl) rfl ?_
  have hb0 : fillV ([] : List AV) [] = some [] := rfl
  have r0 : RX (h.new (.cells [] true)) h.next true [] := ⟨get_new_same, by simp, by simp⟩
  have lo0 := hl.new (.cells [] true)
  have q0 : Quiet h (h.new (.cells [] true)) := (Quiet.refl h).new _
  have keep : ∀ {g : AH} {v : AV} {q : List Part}, Quiet h g → SeesS h 2 v (parts q) → SeesS g 2 v (parts q) := fun q s => SeesS.keep s fun o ho => q.2 o (SeesS.low s hl o ho) id
  obtain ⟨o1, e1, h1, ap1, r1, n1, m1, lo1⟩ := appX lo0 r0 (keep q0 sa) (parts_flat a) (by rw [parts_len]; simp; omega)
  rw [List.nil_append] at ap1 r1
  have q1 : Quiet h h1 := ⟨Nat.le_trans q0.1 m1.1, fun o ho hf => (m1.2 o (Nat.lt_of_lt_of_le ho q0.1) (by omega)).trans (q0.2 o ho hf)⟩
  have g1 : h.next ≤ o1 := n1.elim (fun e => e ▸ Nat.le_refl _) fun h5 => Nat.le_trans q0.1 h5
  obtain ⟨o2, e2, h2, ap2, r2, n2, m2, lo2⟩ := appX lo1 r1 (keep q1 sb) (parts_flat b) (by rw [parts_len, parts_len]; omega)
  have q2 : Quiet h h2 := ⟨Nat.le_trans q1.1 m2.1, fun o ho hf => (m2.2 o (Nat.lt_of_lt_of_le ho q1.1) (by omega)).trans (q1.2 o ho hf)⟩
  have g2 : h.next ≤ o2 := n2.elim (fun e => e ▸ g1) fun h5 => Nat.le_trans q1.1 h5
  obtain ⟨o3, e3, h3, ap3, r3, n3, m3, lo3⟩ := appX lo2 r2 (keep q2 sc) (parts_flat c) (by rw [List.length_append, parts_len, parts_len, parts_len]; omega)
  have q3 : Quiet h h3 := ⟨Nat.le_trans q2.1 m3.1, fun o ho hf => (m3.2 o (Nat.lt_of_lt_of_le ho q2.1) (by omega)).trans (q2.2 o ho hf)⟩
  have ap1' : appV 2 24 (h.new (.cells [] true)) (.slice h.next 0 2 0 0 true) va = some (rx o1 (parts a) e1, h1) := ap1
  simp only [a19, c19, vms, vmc, AOpd.val, Nat.reduceEqDiff, reduceCtorEq, Nat.reduceAdd, Nat.reduceBEq, hb0, ap1', ap2, ap3]
  exact ⟨by rw [parts_append, parts_append]; exact r3.sees, q3, lo3⟩
end Go.Proofs.Ytjbkjffolnodjaa

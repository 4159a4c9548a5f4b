/- Slices of structs that hold slices: what is known of their plain cells; of the slices in them, nothing. -/
import Derived.Test.YteokopjiaiflnaaVmZj
namespace Go.Vm
open Go.RowKit
set_option linter.unusedSimpArgs false
set_option linter.unusedVariables false
def looseC (P : Program) (t : TypeId) : Option CK := match P.underlying t with
  | some .bool => some .bool
  | some (.int k) => some (.int k)
  | some .string => some .str
  | some (.slice _) => some .bad
  | _ => none
def looseFs (P : Program) : Nat → List Field → Option (List CK)
  | _, [] => some []
  | o, f :: fs => if f.offset = o ∧ P.cellsOf f.type = 1 then (looseC P f.type).bind fun k => (looseFs P (o + 1) fs).map (k :: ·) else none
def looseE (P : Program) (e : TypeId) : Option (List CK) := match P.underlying e with
  | some (.struct fs) => if P.cellsOf e = fs.toList.length then looseFs P 0 fs.toList else none
  | _ => none
/-- A slice of such. -/
def looseT (P : Program) (t : TypeId) : Bool := match P.underlying t with
  | some (.slice e) => (looseE P e).isSome && decide (0 < P.cellsOf e)
  | _ => false
section
variable {H : Type} {enc : TypeId × Value → H} {P : Program} {W : World} {held : Bool}
theorem loose_cell {fuel : Nat} {t : TypeId} {c : Value} {y : DataW H × List MemPlace} {k : CK} (hy : DataW.trod enc P W 0 (fun _ => true) held fuel t [c] = some y) (hk : looseC P t = some k) : ∃ a, (∀ μ, VRel μ a c) ∧ ∀ h, CellIs P h k a := by
  cases fuel with
  | zero => simp [DataW.trod] at hy
  | succ fuel =>
  unfold looseC at hk
  split at hk
  · rename_i ht
    cases hk
    cases c <;> simp [DataW.trod, ht] at hy
    rename_i b
    exact ⟨.bool b, fun μ => .bool _, fun h => ⟨b, rfl⟩⟩
  · rename_i k' ht
    cases hk
    cases c <;> simp [DataW.trod, ht] at hy
    rename_i k2 n
    obtain ⟨⟨rfl, hw⟩, _⟩ := hy
    exact ⟨.int _ n, fun μ => .int _ _, fun h => ⟨n, rfl, hw⟩⟩
  · rename_i ht
    cases hk
    cases c <;> simp [DataW.trod, ht] at hy
    rename_i s
    exact ⟨.str s.data.toList, fun μ => .str _, fun h => ⟨_, rfl, by simpa using hy.1⟩⟩
  · cases hk
    exact ⟨.undef, fun μ => .undef _, fun h => trivial⟩
  · cases hk
theorem loose_fields {fuel : Nat} {cs : List Value} : ∀ (fs : List Field) (o : Nat) (ks : List CK), looseFs P o fs = some ks → (∀ f ∈ fs, ∃ y, DataW.trod enc P W 0 (fun _ => true) held fuel f.type ((cs.drop f.offset).take (P.cellsOf f.type)) = some y) → cs.length = o + fs.length → ∃ as, (∀ μ, VRels μ as (cs.drop o)) ∧ ∀ h, CellsAre P h ks as
  | [], o, ks, hf, _, hl => by
    cases hf
    refine ⟨[], fun μ => ?_, fun h => trivial⟩
    rw [List.drop_eq_nil_of_le (by simp at hl; omega)]
    exact .nil
  | f :: fs, o, ks, hf, ht, hl => by
    unfold looseFs at hf
    split at hf
    · rename_i hc
      obtain ⟨ho, h1⟩ := hc
      obtain ⟨k, hk, hr⟩ := Option.bind_eq_some_iff.1 hf
      obtain ⟨ks', hks, rfl⟩ := Option.map_eq_some_iff.1 hr
      obtain ⟨as, hv, hc⟩ := loose_fields fs (o + 1) ks' hks (fun g hg => ht g (List.mem_cons_of_mem _ hg)) (by simp at hl; omega)
      have hlt : o < cs.length := by simp at hl; omega
      have hd : cs.drop o = cs[o] :: cs.drop (o + 1) := List.drop_eq_getElem_cons hlt
      obtain ⟨y, hy⟩ := ht f (by simp)
      rw [ho, h1, hd, List.take_succ_cons, List.take_zero] at hy
      obtain ⟨a, ha, hca⟩ := loose_cell hy hk
      exact ⟨a :: as, fun μ => by rw [hd]; exact .cons (ha μ) (hv μ), fun h => ⟨hca h, hc h⟩⟩
    · cases hf
theorem loose_elem {fuel : Nat} {e : TypeId} {cs : List Value} {y : DataW H × List MemPlace} {ks : List CK} (hy : DataW.trod enc P W 0 (fun _ => true) held fuel e cs = some y) (hk : looseE P e = some ks) : cs.length = P.cellsOf e → ∃ as, (∀ μ, VRels μ as cs) ∧ ∀ h, CellsAre P h ks as := by
  intro hcl
  cases fuel with
  | zero => simp [DataW.trod] at hy
  | succ fuel =>
  unfold looseE at hk
  split at hk
  · rename_i fs ht
    split at hk
    · rename_i hn
      simp only [DataW.trod, ht] at hy
      rw [if_pos hcl] at hy
      simp only [Option.map_eq_some_iff] at hy
      obtain ⟨xs, hxs, _⟩ := hy
      have := loose_fields (enc := enc) (W := W) (held := held) (fuel := fuel) (cs := cs) fs.toList 0 ks hk (fun f hf => by
          obtain ⟨i, hi⟩ := List.getElem?_of_mem hf
          have hx := mapM_some_get hxs i f hi
          have hln := mapM_some_length hxs
          have := (List.getElem?_eq_some_iff.1 hi).1
          exact ⟨_, hx.trans (List.getElem?_eq_getElem (by omega))⟩) (by omega)
      simpa using this
    · cases hk
  · cases hk
theorem loose_many {fuel : Nat} {e : TypeId} {ks : List CK} (hk : looseE P e = some ks) (b off : Nat) : ∀ (n : Nat), (∀ i, i < n → ∃ cs y, W.cells? 0 ⟨b, off + i * P.cellsOf e, none⟩ (P.cellsOf e) = some cs ∧ DataW.trod enc P W 0 (fun _ => true) held fuel e cs = some y) →
    ∃ l : List AV, l.length = n * P.cellsOf e ∧ (∀ i u v, l[i]? = some u → W.cell? ⟨b, off + i, none⟩ = some v → ∀ μ, VRel μ u v) ∧ (∀ i, i < l.length → ∃ v, W.cell? ⟨b, off + i, none⟩ = some v) ∧ ∀ i, i < n → ∀ h, CellsAre P h ks ((l.drop (i * P.cellsOf e)).take (P.cellsOf e))
  | 0, _ => ⟨[], by simp, fun i u v hu => by simp at hu, fun i hi => by simp at hi, fun i hi => by omega⟩
  | n + 1, hs => by
    obtain ⟨l, ll, hv, hx, hc⟩ := loose_many hk b off n (fun i hi => hs i (by omega))
    obtain ⟨cs, y, hcs, hy⟩ := hs n (by omega)
    obtain ⟨g1, g2⟩ := cells_get hcs
    have hat : ∀ j, j < P.cellsOf e → W.cell? ⟨b, off + (n * P.cellsOf e + j), none⟩ = cs[j]? := by
      intro j hj
      have := g2 j hj
      rw [add_plain] at this
      rw [← this]
      congr 2
      omega
    obtain ⟨as, hrel, hca⟩ := loose_elem hy hk g1
    have hal : as.length = P.cellsOf e := by rw [(hrel (fun _ => none)).1, g1]
    refine ⟨l ++ as, by rw [List.length_append, ll, hal, Nat.add_mul, Nat.one_mul], ?_, ?_, ?_⟩
    · intro i u v hu hw μ
      by_cases hi : i < l.length
      · rw [List.getElem?_append_left hi] at hu
        exact hv i u v hu hw μ
      · rw [List.getElem?_append_right (by omega)] at hu
        have hj : i - l.length < P.cellsOf e := by have := (List.getElem?_eq_some_iff.1 hu).1; omega
        have := hat (i - l.length) hj
        rw [show off + (n * P.cellsOf e + (i - l.length)) = off + i by omega, hw] at this
        exact (hrel μ).2 _ u v hu this.symm
    · intro i hi
      by_cases hi2 : i < l.length
      · exact hx i hi2
      · rw [List.length_append] at hi
        have hj : i - l.length < P.cellsOf e := by omega
        have := hat (i - l.length) hj
        rw [show off + (n * P.cellsOf e + (i - l.length)) = off + i by omega] at this
        exact ⟨_, this.trans (List.getElem?_eq_getElem (by omega))⟩
    · intro i hi h
      by_cases e2 : i = n
      · subst e2
        rw [← ll, List.drop_left, ← hal, List.take_length]
        exact hca h
      · have hlt : i < n := by omega
        have hm : (i + 1) * P.cellsOf e ≤ n * P.cellsOf e := Nat.mul_le_mul_right _ (by omega)
        rw [Nat.add_mul, Nat.one_mul] at hm
        rw [List.drop_append_of_le_length (by omega), List.take_append_of_le_length (by rw [List.length_drop]; omega)]
        exact hc i hlt h
/-- What is known of a slice of such. -/
def LooseV (P : Program) (h : AH) (t : TypeId) (a : AV) : Prop := ∃ (e : TypeId) (ks : List CK) (xs : List (List AV)), P.underlying t = some (.slice e) ∧ looseE P e = some ks ∧ SeesS h (P.cellsOf e) a xs ∧ xs.length ≤ maxLen ∧ ∀ x ∈ xs, ∀ h', CellsAre P h' ks x
theorem LooseV.quiet {h h' : AH} (hl : Low h) (q : Quiet h h') {t : TypeId} {a : AV} (c : LooseV P h t a) : LooseV P h' t a := by
  obtain ⟨e, ks, xs, h1, h2, h3, h4, h5⟩ := c
  exact ⟨e, ks, xs, h1, h2, h3.keep fun o ho => q.2 o (h3.low hl o ho) id, h4, h5⟩
theorem bring_loose {base : Nat} {t : TypeId} {v : Value} {y : DataW H} {ps : List MemPlace} (ht : DataW.Trod enc P W 0 (fun _ => true) held t v y ps) (hok : Value.okWide P W .any base t v) (hp : looseT P t = true) {μ : Inj} {h : AH} (r : R (till W.heap.size) W μ h W) (lo : Low h) :
    ∃ μ' h' a, Inj.le μ μ' ∧ R (till W.heap.size) W μ' h' W ∧ VRel μ' a v ∧ LooseV P h' t a ∧ Quiet h h' ∧ Low h' := by
  obtain ⟨fuel, hy⟩ := ht
  unfold looseT at hp
  split at hp
  · rename_i e htt
    simp only [Bool.and_eq_true, decide_eq_true_eq] at hp
    obtain ⟨hks, hpos⟩ := hp
    obtain ⟨ks, hks⟩ := Option.isSome_iff_exists.1 hks
    unfold Value.okWide at hok
    rw [htt] at hok
    simp only at hok
    have hs := cell_spotOk hok
    cases fuel with
    | zero => simp [DataW.trod] at hy
    | succ fuel =>
    cases v with
    | slice oa len cap =>
      have hy2 : DataW.trod enc P W 0 (fun _ => true) held (fuel + 1) t [.slice oa len cap] = some (y, ps) := hy
      clear hy
      cases oa with
      | none =>
        simp only [DataW.trod, htt] at hy2
        have hz : len = 0 ∧ cap = 0 := by
          split at hy2 <;> simp_all
        obtain ⟨rfl, rfl⟩ := hz
        exact ⟨μ, h, .nilSlice, Inj.le_refl _, r, .nilSlice, ⟨e, ks, [], htt, hks, .inl ⟨rfl, rfl⟩, Nat.zero_le _, fun x hx => by simp at hx⟩, Quiet.refl _, lo⟩
      | some a =>
        simp only [DataW.trod, htt] at hy2
        obtain ⟨hnone, C, te, fz, hb, hoff⟩ := hs a len cap rfl
        obtain ⟨b, off, spot⟩ := a
        simp only at hnone
        subst hnone
        split at hy2
        · rename_i hk
          obtain ⟨_, hlc, hcm⟩ := hk
          simp only [if_true, Option.map_eq_some_iff, Option.bind_eq_some_iff] at hy2
          obtain ⟨elems, he, rest, hr, _⟩ := hy2
          have hel : ∀ i, i < cap → ∃ cs y, W.cells? 0 ⟨b, off + i * P.cellsOf e, none⟩ (P.cellsOf e) = some cs ∧ DataW.trod enc P W 0 (fun _ => true) held fuel e cs = some y := by
            intro i hi
            have key : ∃ z, (W.cells? 0 (Addr.add ⟨b, off, none⟩ (i * P.cellsOf e)) (P.cellsOf e)).bind (DataW.trod enc P W 0 (fun _ => true) held fuel e) = some z := by
              by_cases hi2 : i < len
              · have hx := mapM_some_get he i i (by rw [List.getElem?_range hi2])
                have hln := mapM_some_length he
                rw [List.length_range] at hln
                exact ⟨_, hx.trans (List.getElem?_eq_getElem (by omega))⟩
              · have hx := mapM_some_get hr (i - len) (i - len) (by rw [List.getElem?_range (by omega)])
                have hln := mapM_some_length hr
                rw [List.length_range] at hln
                rw [show len + (i - len) = i by omega] at hx
                exact ⟨_, hx.trans (List.getElem?_eq_getElem (by omega))⟩
            obtain ⟨z, hz⟩ := key
            obtain ⟨cs, h1, h2⟩ := Option.bind_eq_some_iff.1 hz
            rw [add_plain] at h1
            exact ⟨cs, z, h1, h2⟩
          obtain ⟨l, ll, hv, hx, hc⟩ := loose_many hks b off cap hel
          have hbl : b < W.heap.size := (Array.getElem?_eq_some_iff.1 hb).1
          have hsz : off + l.length ≤ C.size := by
            rcases Nat.eq_zero_or_pos l.length with h0 | h0
            · have : off ≤ C.size := hoff
              omega
            · obtain ⟨v, hvv⟩ := hx (l.length - 1) (by omega)
              obtain ⟨_, C', te', fz', hb', hat⟩ := cell_spot hvv
              rw [hb] at hb'; cases hb'
              have hlast : off + (l.length - 1) < C.size := (Array.getElem?_eq_some_iff.1 hat).1
              omega
          have hnone : μ h.next = none := by
            cases hm : μ h.next with
            | none => rfl
            | some y => have := r.dom _ _ hm; omega
          have hle2 := Inj.le_add (μ := μ) (o := h.next) (b, off, C.size) hnone
          obtain ⟨_, r2⟩ := r.row (l := l) (base := off) hb rfl hsz hbl (fun i u v hu hcv => by
            refine hv i u v hu ?_ _
            unfold World.cell?
            rw [hb]; simpa using hcv)
          have hsz2 : off + cap * P.cellsOf e ≤ C.size := by rw [← ll]; exact hsz
          refine ⟨_, _, .slice h.next 0 (P.cellsOf e) len cap true, hle2, r2, .slice (μ := Inj.add μ h.next (b, off, C.size)) (base := off) (size := C.size) (by simp [Inj.add]) hlc rfl hsz2 (.inl rfl), ?_, (Quiet.refl h).new _, lo.new _⟩
          refine ⟨e, ks, (List.range len).map fun i => (l.drop (i * P.cellsOf e)).take (P.cellsOf e), htt, hks, .inr ⟨h.next, 0, cap, true, l, false, by simp, get_new_same, ?_, ?_⟩, by simp; omega, ?_⟩
          · simp only [List.length_map, List.length_range]
            have : len * P.cellsOf e ≤ cap * P.cellsOf e := Nat.mul_le_mul_right _ hlc
            omega
          · intro i x hx
            simp only [List.getElem?_map, Option.map_eq_some_iff] at hx
            obtain ⟨j, hj, rfl⟩ := hx
            have hjn : j = i ∧ i < len := by
              have := (List.getElem?_eq_some_iff.1 hj)
              obtain ⟨h1, h2⟩ := this
              simp at h1 h2
              exact ⟨h2.symm, h1⟩
            obtain ⟨rfl, hjn⟩ := hjn
            have : (j + 1) * P.cellsOf e ≤ cap * P.cellsOf e := Nat.mul_le_mul_right _ (by omega)
            rw [Nat.add_mul, Nat.one_mul] at this
            refine ⟨by rw [List.length_take, List.length_drop]; omega, fun m y hy => ?_⟩
            rw [List.getElem?_take] at hy
            split at hy
            · rw [List.getElem?_drop] at hy
              rw [Nat.zero_add]; exact hy
            · cases hy
          · intro x hx
            simp only [List.mem_map, List.mem_range] at hx
            obtain ⟨i, hi, rfl⟩ := hx
            exact hc i (by omega)
        · cases hy2
    | _ =>
      exfalso
      simp only [Cell.okWide] at hok
      split at hok <;> first | (simp_all; done) | skip
      simp only [Cell.ok] at hok
      split at hok <;> simp_all
  · cases hp
/-- What is known of an argument that came in. -/
def CameL (P : Program) (d : Nat) (h : AH) (t : TypeId) (a : AV) : Prop := if plainT P false d t = true then CameV P h t a else LooseV P h t a
def CameLs (P : Program) (d : Nat) (h : AH) : List TypeId → List AV → Prop
  | [], [] => True
  | t :: ts, a :: as => CameL P d h t a ∧ CameLs P d h ts as
  | _, _ => False
theorem CameL.quiet {d : Nat} {h h' : AH} (hl : Low h) (q : Quiet h h') {t : TypeId} {a : AV} (c : CameL P d h t a) : CameL P d h' t a := by
  unfold CameL at *
  split <;> rename_i hp
  · rw [if_pos hp] at c; exact c.quiet hl q
  · rw [if_neg hp] at c; exact c.quiet hl q
theorem CameL.v {d : Nat} {h : AH} {t : TypeId} {a : AV} (c : CameL P d h t a) (hp : plainT P false d t = true) : CameV P h t a := by
  unfold CameL at c; rwa [if_pos hp] at c
theorem CameL.l {d : Nat} {h : AH} {t : TypeId} {a : AV} (c : CameL P d h t a) (hp : plainT P false d t = false) : LooseV P h t a := by
  unfold CameL at c; rwa [if_neg (by rw [hp]; decide)] at c
theorem LooseV.row {h : AH} {t e : TypeId} {a : AV} {n : Nat} {ks : List CK} (c : LooseV P h t a) (ht : P.underlying t = some (.slice e)) (hk : looseE P e = some ks) (hn : P.cellsOf e = n) : ∃ xs, SeesS h n a xs ∧ (xs.length : Int) < 9223372036854775808 ∧ ∀ x ∈ xs, CellsAre P h ks x := by
  obtain ⟨e', ks', xs, h1, h2, h3, h4, h5⟩ := c
  rw [ht] at h1
  cases h1
  rw [hk] at h2; cases h2
  rw [hn] at h3
  rw [maxLen_eq] at h4
  exact ⟨xs, h3, by omega, fun x hx => h5 x hx h⟩
theorem bring_allL {base d : Nat} : ∀ {ts : List TypeId} {vs : List Value} {ys : List (DataW H)} {ps : List MemPlace}, DataW.TrodAll enc P W 0 (fun _ => true) held ts vs ys ps → (∀ (j : Nat) t v, ts[j]? = some t → vs[j]? = some v → Value.okWide P W .any base t v) → ts.all (fun t => plainT P false d t || looseT P t) = true →
    ∀ {μ : Inj} {h : AH}, R (till W.heap.size) W μ h W → Low h → ∃ μ' h' as, Inj.le μ μ' ∧ R (till W.heap.size) W μ' h' W ∧ VRels μ' as vs ∧ CameLs P d h' ts as ∧ Quiet h h' ∧ Low h'
  | [], [], [], _, _, _, _, μ, h, r, lo => ⟨μ, h, [], Inj.le_refl _, r, .nil, trivial, Quiet.refl _, lo⟩
  | t :: ts, v :: vs, y :: ys, ps, ht, hok, hp, μ, h, r, lo => by
    obtain ⟨p, q, h1, h2, _⟩ := ht
    simp only [List.all_cons, Bool.and_eq_true, Bool.or_eq_true] at hp
    have one : ∃ μ' h' a, Inj.le μ μ' ∧ R (till W.heap.size) W μ' h' W ∧ VRel μ' a v ∧ CameL P d h' t a ∧ Quiet h h' ∧ Low h' := by
      by_cases hpl : plainT P false d t = true
      · obtain ⟨μ1, g1, a, e1, r1, v1, c1, q1, lo1⟩ := bring_value h1 (hok 0 t v rfl rfl) hpl r lo
        exact ⟨μ1, g1, a, e1, r1, v1, by unfold CameL; rwa [if_pos hpl], q1, lo1⟩
      · obtain ⟨μ1, g1, a, e1, r1, v1, c1, q1, lo1⟩ := bring_loose h1 (hok 0 t v rfl rfl) (hp.1.resolve_left hpl) r lo
        exact ⟨μ1, g1, a, e1, r1, v1, by unfold CameL; rwa [if_neg hpl], q1, lo1⟩
    obtain ⟨μ1, g1, a, e1, r1, v1, c1, q1, lo1⟩ := one
    obtain ⟨μ2, g2, as, e2, r2, v2, c2, q2, lo2⟩ := bring_allL h2 (fun j t v ht hv => hok (j + 1) t v ht hv) hp.2 r1 lo1
    exact ⟨μ2, g2, a :: as, Inj.le_trans e1 e2, r2, .cons (v1.mono e2) v2, ⟨c1.quiet lo1 q2, c2⟩, q1.trans q2, lo2⟩
theorem row_callsL {T : Prog} (hT : TabOk P T) {g base d : Nat} {ts : List TypeId} {vs : Array Value} {ys : List (DataW H)} {ps : List MemPlace} (ht : DataW.TrodAll enc P W 0 (fun _ => true) held ts vs.toList ys ps) (hok : ∀ (j : Nat) t v, ts[j]? = some t → vs[j]? = some v → Value.okWide P W .any base t v) (hp : ts.all (fun t => plainT P false d t || looseT P t) = true)
    (hlaw : ∀ (h : AH) (as : List AV), Low h → CameLs P d h ts as → Gives T g as h fun r _ => r = .bool true) (he : T.env g = none := by rfl) : Calls P g vs W fun e w' => e = .returned (.bool true) ∧ Below W.heap.size W w' := by
  obtain ⟨μ, h, as, _, r, hv, c, _, lo⟩ := bring_allL ht (fun j t v h1 h2 => hok j t v h1 (by simpa using h2)) hp (R.start W) low_none
  exact law_calls hT r hv (hlaw h as lo c) he
theorem cameLs2 {d : Nat} {h : AH} {t u : TypeId} {as : List AV} (c : CameLs P d h [t, u] as) : ∃ a b, as = [a, b] ∧ CameL P d h t a ∧ CameL P d h u b := by
  match as, c with
  | [a, b], c => exact ⟨a, b, rfl, c.1, c.2.1⟩
theorem cameLs3 {d : Nat} {h : AH} {t u v : TypeId} {as : List AV} (c : CameLs P d h [t, u, v] as) : ∃ x y z, as = [x, y, z] ∧ CameL P d h t x ∧ CameL P d h u y ∧ CameL P d h v z := by
  match as, c with
  | [a, b, x], c => exact ⟨a, b, x, rfl, c.1, c.2.1, c.2.2.1⟩
end
end Go.Vm

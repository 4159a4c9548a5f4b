/- A law's arguments, whatever their plain types: brought in; the law asked. -/
import Derived.Test.YtpabmkicdcilpaaVmZj
import Derived.ChangeShapes
namespace Go.Vm
open Go.RowKit
set_option linter.unusedSimpArgs false
set_option linter.unusedVariables false
theorem cell_spotOk {P : Program} {W : World} {r : Reach} {base : Nat} {t : TypeId} {v : Value} (h : Cell.okWide P W r base t v) : SpotOk W v := by
  rintro x len cap rfl
  have h2 : ∃ e, W.has P r base x e cap := by
    revert h
    simp only [Cell.okWide]
    split <;> intro hc <;> first | (simp_all; done) | skip
    simp only [Cell.ok] at hc
    split at hc <;> first | (simp_all; done) | skip
    rename_i hv
    cases hv
    exact ⟨_, hc.2.2⟩
  obtain ⟨e, _, hs, row, cells, hsh, hl⟩ := h2
  refine ⟨hs, ?_⟩
  unfold World.shape? at hsh
  split at hsh
  · rename_i c te fz hb
    cases hsh
    exact ⟨_, _, _, hb, Nat.le_trans (liesAt_le hl) (Nat.div_mul_le_self _ _)⟩
  · cases hsh
theorem all_cons {α : Type} {Q : α → Prop} {y a : α} {l : List α} (h : y ∈ a :: l) (h1 : Q a) (h2 : ∀ z ∈ l, Q z) : Q y := by
  rcases List.mem_cons.1 h with rfl | h3
  · exact h1
  · exact h2 y h3
/-- The cells of a value in one piece. -/
def avOf (P : Program) (t : TypeId) (as : List AV) : AV := match P.underlying t with
  | some (.struct _) | some (.array _ _) => .agg as
  | _ => as.headD .undef
def CameV (P : Program) (h : AH) (t : TypeId) (a : AV) : Prop := ∃ as, Came P h t as ∧ a = avOf P t as
def CameVs (P : Program) (h : AH) : List TypeId → List AV → Prop
  | [], [] => True
  | t :: ts, a :: as => CameV P h t a ∧ CameVs P h ts as
  | _, _ => False
theorem CameV.quiet {P : Program} {h h' : AH} (hl : Low h) (q : Quiet h h') {t : TypeId} {a : AV} (c : CameV P h t a) : CameV P h' t a := by
  obtain ⟨as, c, e⟩ := c; exact ⟨as, c.quiet hl q, e⟩
theorem CameVs.quiet {P : Program} {h h' : AH} (hl : Low h) (q : Quiet h h') : ∀ {ts : List TypeId} {as : List AV}, CameVs P h ts as → CameVs P h' ts as
  | [], [], _ => trivial
  | t :: ts, a :: as, c => ⟨c.1.quiet hl q, CameVs.quiet hl q c.2⟩
  | [], _ :: _, c => c.elim
  | _ :: _, [], c => c.elim
section
variable {H : Type} {enc : TypeId × Value → H} {P : Program} {W : World} {held : Bool}
theorem bring_value {base d : Nat} {t : TypeId} {v : Value} {y : DataW H} {ps : List MemPlace} (ht : DataW.Trod enc P W 0 (fun _ => true) held t v y ps) (hok : Value.okWide P W .any base t v) (hp : plainT P false d t = true) {μ : Inj} {h : AH} (r : R W.heap.size W μ h W) (lo : Low h) :
    ∃ μ' h' a, Inj.le μ μ' ∧ R W.heap.size W μ' h' W ∧ VRel μ' a v ∧ CameV P h' t a ∧ Quiet h h' ∧ Low h' := by
  obtain ⟨fuel, ht⟩ := ht
  have spots : ∀ c ∈ v.cells.toList, SpotOk W c := by
    intro c hc
    unfold Value.okWide at hok
    split at hok
    · obtain ⟨cs, rfl, _, ts, _, _, h3⟩ := hok
      obtain ⟨i, hi⟩ := List.getElem?_of_mem hc
      obtain ⟨u, _, hk⟩ := h3 i c (by simpa [Value.cells] using hi)
      exact cell_spotOk hk
    · obtain ⟨cs, rfl, _, ts, _, _, h3⟩ := hok
      obtain ⟨i, hi⟩ := List.getElem?_of_mem hc
      obtain ⟨u, _, hk⟩ := h3 i c (by simpa [Value.cells] using hi)
      exact cell_spotOk hk
    · have hs := cell_spotOk hok
      rintro x len cap rfl
      cases v <;> simp [Value.cells] at hc
      case slice => obtain ⟨rfl, rfl, rfl⟩ := hc; exact hs _ _ _ rfl
      case agg l =>
        exfalso
        rename_i hn1 hn2
        cases d with
        | zero => simp [plainT] at hp
        | succ d =>
          simp only [Cell.okWide] at hok
          simp only [plainT] at hp
          split at hok <;> first | (simp_all; done) | skip
          simp only [Cell.ok] at hok
          split at hok <;> simp_all
  obtain ⟨μ', h', as, G⟩ := brings (dp := false) (fun h => by cases h) fuel d t _ _ ht hp (.inr spots) μ h r lo
  refine ⟨μ', h', avOf P t as, G.le, G.r, ?_, ⟨as, G.came, rfl⟩, G.quiet, G.low⟩
  have hrel := G.rel
  unfold Value.okWide at hok
  unfold avOf
  split at hok
  · rename_i fs hu
    obtain ⟨cs, rfl, _⟩ := hok
    rw [hu]
    exact VRel.agg_iff.2 ⟨cs, rfl, hrel⟩
  · rename_i n e hu
    obtain ⟨cs, rfl, _⟩ := hok
    rw [hu]
    exact VRel.agg_iff.2 ⟨cs, rfl, hrel⟩
  · rename_i hn1 hn2
    have hv : v.cells.toList = [v] := by
      cases v with
      | agg l =>
        exfalso
        cases d with
        | zero => simp [plainT] at hp
        | succ d =>
          simp only [Cell.okWide] at hok
          simp only [plainT] at hp
          split at hok <;> first | (simp_all; done) | skip
          simp only [Cell.ok] at hok
          split at hok <;> simp_all
      | _ => rfl
    rw [hv] at hrel
    match as, hrel with
    | [a], hrel =>
      have : VRel μ' a v := hrel.head
      split
      · rename_i fs hu; exact absurd hu (hn1 fs)
      · rename_i n e hu; exact absurd hu (hn2 n e)
      · exact this
    | [], hrel => have := hrel.1; simp at this
    | _ :: _ :: _, hrel => have := hrel.1; simp at this
theorem bring_all {base d : Nat} : ∀ {ts : List TypeId} {vs : List Value} {ys : List (DataW H)} {ps : List MemPlace}, DataW.TrodAll enc P W 0 (fun _ => true) held ts vs ys ps → (∀ (j : Nat) t v, ts[j]? = some t → vs[j]? = some v → Value.okWide P W .any base t v) → ts.all (plainT P false d) = true →
    ∀ {μ : Inj} {h : AH}, R W.heap.size W μ h W → Low h → ∃ μ' h' as, Inj.le μ μ' ∧ R W.heap.size W μ' h' W ∧ VRels μ' as vs ∧ CameVs P h' ts as ∧ Quiet h h' ∧ Low h'
  | [], [], [], _, _, _, _, μ, h, r, lo => ⟨μ, h, [], Inj.le_refl _, r, .nil, trivial, Quiet.refl _, lo⟩
  | t :: ts, v :: vs, y :: ys, ps, ht, hok, hp, μ, h, r, lo => by
    obtain ⟨p, q, h1, h2, _⟩ := ht
    simp only [List.all_cons, Bool.and_eq_true] at hp
    obtain ⟨μ1, g1, a, e1, r1, v1, c1, q1, lo1⟩ := bring_value h1 (hok 0 t v rfl rfl) hp.1 r lo
    obtain ⟨μ2, g2, as, e2, r2, v2, c2, q2, lo2⟩ := bring_all h2 (fun j t v ht hv => hok (j + 1) t v ht hv) hp.2 r1 lo1
    exact ⟨μ2, g2, a :: as, Inj.le_trans e1 e2, r2, .cons (v1.mono e2) v2, ⟨c1.quiet lo1 q2, c2⟩, q1.trans q2, lo2⟩
theorem low_none : Low AH.empty := by intro o x h; simp [AH.empty, AH.get, Tr.get] at h
/-- The law, asked of arguments that came in. -/
theorem row_calls {T : Prog} (hT : TabOk P T) {g base d : Nat} {ts : List TypeId} {vs : Array Value} {ys : List (DataW H)} {ps : List MemPlace} (ht : DataW.TrodAll enc P W 0 (fun _ => true) held ts vs.toList ys ps) (hok : ∀ (j : Nat) t v, ts[j]? = some t → vs[j]? = some v → Value.okWide P W .any base t v) (hp : ts.all (plainT P false d) = true)
    (hlaw : ∀ (h : AH) (as : List AV), Low h → CameVs P h ts as → Gives T g as h fun r _ => r = .bool true) (he : T.env g = none := by rfl) : Calls P g vs W fun e w' => e = .returned (.bool true) ∧ Below W.heap.size W w' := by
  obtain ⟨μ, h, as, _, r, hv, c, _, lo⟩ := bring_all ht (fun j t v h1 h2 => hok j t v h1 (by simpa using h2)) hp (R.start W) low_none
  exact law_calls hT r hv (hlaw h as lo c) he
end
theorem maxLen_eq : maxLen = 9223372036854775807 := rfl
/-! ### what came in, by its type -/
section
variable {P : Program} {h : AH} {t e : TypeId} {a : AV}
theorem came_int {k : IntKind} (ht : P.underlying t = some (.int k)) (c : CameV P h t a) : ∃ n, a = .int k n ∧ (Lit.int k n).wf = true := by
  obtain ⟨as, c, rfl⟩ := c
  cases c <;> simp_all [avOf]
theorem came_bool (ht : P.underlying t = some .bool) (c : CameV P h t a) : ∃ b, a = .bool b := by
  obtain ⟨as, c, rfl⟩ := c
  cases c <;> simp_all [avOf]
theorem came_str (ht : P.underlying t = some .string) (c : CameV P h t a) : ∃ s, a = .str s ∧ s.length ≤ maxLen := by
  obtain ⟨as, c, rfl⟩ := c
  cases c <;> simp_all [avOf]
/-- A slice's elements, each as its cells. -/
theorem came_slice (ht : P.underlying t = some (.slice e)) (c : CameV P h t a) : ∃ xs : List (List AV), SeesS h (P.cellsOf e) a xs ∧ xs.length ≤ maxLen ∧ (∀ x ∈ xs, Came P h e x) ∧ ∀ o ∈ objs a, ∃ l, h.get o = some (.cells l false) := by
  obtain ⟨as, c, rfl⟩ := c
  cases c with
  | bool b hu => simp_all
  | int hu hw => simp_all
  | str hu hl => simp_all
  | struct hu => simp_all
  | array hu => simp_all
  | nil hu => exact ⟨[], .inl ⟨by simp [avOf, ht], rfl⟩, Nat.zero_le _, fun x hx => by simp at hx, fun o ho => by simp [avOf, ht, objs] at ho⟩
  | @slice _ e' o n cap l hu hg hl hn hc each =>
    have : e' = e := by rw [ht] at hu; simpa using hu.symm
    subst this
    refine ⟨(List.range n).map fun i => (l.drop (i * P.cellsOf e')).take (P.cellsOf e'), .inr ⟨o, 0, cap, true, l, false, by simp [avOf, ht], hg, ?_, ?_⟩, by simp; omega, ?_, ?_⟩
    · simp only [List.length_map, List.length_range]
      have : n * P.cellsOf e' ≤ cap * P.cellsOf e' := Nat.mul_le_mul_right _ hn
      omega
    · intro i x hx
      simp only [List.getElem?_map, Option.map_eq_some_iff] at hx
      obtain ⟨j, hj, rfl⟩ := hx
      have hjn : j = i ∧ i < n := by
        have := (List.getElem?_eq_some_iff.1 hj)
        obtain ⟨h1, h2⟩ := this
        simp at h1 h2
        exact ⟨h2.symm, h1⟩
      obtain ⟨rfl, hjn⟩ := hjn
      have : (j + 1) * P.cellsOf e' ≤ cap * P.cellsOf e' := Nat.mul_le_mul_right _ (by omega)
      rw [Nat.add_mul, Nat.one_mul] at this
      refine ⟨by rw [List.length_take, List.length_drop]; omega, fun m y hy => ?_⟩
      rw [List.getElem?_take] at hy
      split at hy
      · rw [List.getElem?_drop] at hy
        rw [Nat.zero_add]; exact hy
      · cases hy
    · intro x hx
      simp only [List.mem_map, List.mem_range] at hx
      obtain ⟨i, hi, rfl⟩ := hx
      exact each i (by omega)
    · intro p hp
      simp [avOf, ht, objs] at hp
      subst hp
      exact ⟨l, hg⟩
theorem SeesS.one {xs : List (List AV)} {ys : List AV} (s : SeesS h 1 a xs) (he : xs = ys.map fun y => [y]) : Sees h a ys := by
  subst he
  rcases s with ⟨rfl, hx⟩ | ⟨o, off, cap, ex, l, rw, rfl, hg, h1, h2⟩
  · exact .inl ⟨rfl, by simpa using hx⟩
  · refine .inr ⟨o, off, cap, ex, l, rw, by simp, hg, by simpa using h1, fun i y hy => ?_⟩
    have := (h2 i [y] (by simp [hy])).2 0 y rfl
    simpa using this
theorem came_row {Q : AV → Prop} (ht : P.underlying t = some (.slice e)) (h1 : P.cellsOf e = 1) (hQ : ∀ x, Came P h e x → ∃ y, x = [y] ∧ Q y) (c : CameV P h t a) : ∃ ys : List AV, Sees h a ys ∧ ys.length ≤ maxLen ∧ (∀ y ∈ ys, Q y) ∧ ∀ o ∈ objs a, ∃ l, h.get o = some (.cells l false) := by
  obtain ⟨xs, s, hl, hx, ho⟩ := came_slice ht c
  rw [h1] at s
  have : ∃ ys : List AV, xs = ys.map (fun y => [y]) ∧ ∀ y ∈ ys, Q y := by
    clear s hl ho
    induction xs with
    | nil => exact ⟨[], rfl, fun y hy => by simp at hy⟩
    | cons x xs ih =>
      obtain ⟨ys, rfl, hy⟩ := ih fun z hz => hx z (by simp [hz])
      obtain ⟨y, rfl, hq⟩ := hQ x (hx x (by simp))
      exact ⟨y :: ys, rfl, fun z hz => all_cons hz hq hy⟩
  obtain ⟨ys, rfl, hy⟩ := this
  exact ⟨ys, s.one rfl, by simpa using hl, hy, ho⟩
theorem list_of {β : Type} {f : β → AV} {R : β → Prop} : ∀ {ys : List AV}, (∀ y ∈ ys, ∃ b, y = f b ∧ R b) → ∃ bs : List β, ys = bs.map f ∧ ∀ b ∈ bs, R b
  | [], _ => ⟨[], rfl, fun b hb => by simp at hb⟩
  | y :: ys, h => by
    obtain ⟨b, rfl, hr⟩ := h y (by simp)
    obtain ⟨bs, rfl, hbs⟩ := list_of (ys := ys) fun z hz => h z (List.mem_cons_of_mem _ hz)
    exact ⟨b :: bs, rfl, fun c hc => all_cons hc hr hbs⟩
theorem came_intRow {k : IntKind} (ht : P.underlying t = some (.slice e)) (he : P.underlying e = some (.int k)) (h1 : P.cellsOf e = 1) (c : CameV P h t a) : ∃ xs : List Int, Sees h a (xs.map (.int k)) ∧ xs.length ≤ maxLen ∧ (∀ x ∈ xs, (Lit.int k x).wf = true) ∧ ∀ o ∈ objs a, ∃ l, h.get o = some (.cells l false) := by
  obtain ⟨ys, s, hl, hy, ho⟩ := came_row (Q := fun y => ∃ n, y = .int k n ∧ (Lit.int k n).wf = true) ht h1 (fun x hx => by cases hx <;> simp_all) c
  obtain ⟨xs, rfl, hx⟩ := list_of hy
  exact ⟨xs, s, by simpa using hl, hx, ho⟩
theorem came_boolRow (ht : P.underlying t = some (.slice e)) (he : P.underlying e = some .bool) (h1 : P.cellsOf e = 1) (c : CameV P h t a) : ∃ xs : List Bool, Sees h a (xs.map .bool) ∧ xs.length ≤ maxLen ∧ ∀ o ∈ objs a, ∃ l, h.get o = some (.cells l false) := by
  obtain ⟨ys, s, hl, hy, ho⟩ := came_row (Q := fun y => ∃ b, y = .bool b ∧ True) ht h1 (fun x hx => by cases hx <;> simp_all) c
  obtain ⟨xs, rfl, hx⟩ := list_of hy
  exact ⟨xs, s, by simpa using hl, ho⟩
theorem came_strRow (ht : P.underlying t = some (.slice e)) (he : P.underlying e = some .string) (h1 : P.cellsOf e = 1) (c : CameV P h t a) : ∃ xs : List (List UInt8), Sees h a (xs.map .str) ∧ xs.length ≤ maxLen ∧ (∀ x ∈ xs, x.length ≤ maxLen) ∧ ∀ o ∈ objs a, ∃ l, h.get o = some (.cells l false) := by
  obtain ⟨ys, s, hl, hy, ho⟩ := came_row (Q := fun y => ∃ b, y = .str b ∧ b.length ≤ maxLen) ht h1 (fun x hx => by cases hx <;> simp_all) c
  obtain ⟨xs, rfl, hx⟩ := list_of hy
  exact ⟨xs, s, by simpa using hl, hx, ho⟩
end
theorem cameVs1 {P : Program} {h : AH} {t : TypeId} {as : List AV} (c : CameVs P h [t] as) : ∃ a, as = [a] ∧ CameV P h t a := by
  match as, c with
  | [a], c => exact ⟨a, rfl, c.1⟩
theorem cameVs2 {P : Program} {h : AH} {t u : TypeId} {as : List AV} (c : CameVs P h [t, u] as) : ∃ a b, as = [a, b] ∧ CameV P h t a ∧ CameV P h u b := by
  match as, c with
  | [a, b], c => exact ⟨a, b, rfl, c.1, c.2.1⟩
theorem cameVs3 {P : Program} {h : AH} {t u v : TypeId} {as : List AV} (c : CameVs P h [t, u, v] as) : ∃ x y z, as = [x, y, z] ∧ CameV P h t x ∧ CameV P h u y ∧ CameV P h v z := by
  match as, c with
  | [a, b, x], c => exact ⟨a, b, x, rfl, c.1, c.2.1, c.2.2.1⟩
theorem cameVs4 {P : Program} {h : AH} {t u v w : TypeId} {as : List AV} (c : CameVs P h [t, u, v, w] as) : ∃ x y z q, as = [x, y, z, q] ∧ CameV P h t x ∧ CameV P h u y ∧ CameV P h v z ∧ CameV P h w q := by
  match as, c with
  | [a, b, x, y], c => exact ⟨a, b, x, y, rfl, c.1, c.2.1, c.2.2.1, c.2.2.2.1⟩
end Go.Vm

/- Regions whose order is drawn: the proof. -/
import Derived.Test.YtpabmkicdcilpaaVmP
namespace Go.Vm
open Go.RowKit
set_option linter.unusedSimpArgs false
set_option linter.unusedVariables false
section
variable {P : Program} {n : Nat} {ops : Array Oper} {call : Handler} {M : List Nat} {xs : List AOper} {f₀ : Fr} {n₀ E G : Nat} {F : Fr} {H : AH} {pid : Nat → Option Nat}

theorem Agree.eq {i : Nat} {f g : Fr} (h : Agree M xs f₀ F i f) (k : Agree M xs f₀ F i g) : ∀ t ∈ (nth xs i).reads, f.at t = g.at t := by
  intro t ht
  by_cases e : ∃ y, y < xs.length ∧ (nth xs y).dst = some t ∧ has M i y = false
  · rw [(h t ht).1 e, (k t ht).1 e]
  · have e' : ∀ y, y < xs.length → (nth xs y).dst = some t → has M i y = true := by
      intro y hy hd
      cases hm : has M i y
      · exact absurd ⟨y, hy, hd, hm⟩ e
      · rfl
    rw [(h t ht).2 e', (k t ht).2 e']
theorem CI.agree_late (c : CI M xs call f₀ n₀ E G F H pid) {i : Nat} (hi : E.testBit i = true) (hc : (nth xs i).op.cls ≠ 0 ∧ (nth xs i).op.cls ≠ 3) : Agree M xs f₀ F i F := by
  intro t ht
  refine ⟨?_, fun _ => rfl⟩
  rintro ⟨y, hy, hd, hm⟩
  rcases c.rd i hi t ht y hy hd with ⟨h1, _⟩ | ⟨_, h2, _⟩
  · rw [hm] at h1; cases h1
  · rcases h2 with h2 | h2
    · exact absurd h2 hc.1
    · exact absurd h2 hc.2

/-- What an operation that writes nothing comes to. -/
theorem canon_step {oi : Oper} {F' : Fr} {H' : AH} (hr : (cOper P n ops oi).run call F H = some (F', H')) (hc : (cOper P n ops oi).op.cls < 3) :
    ∃ v, F' = F.put (cOper P n ops oi).dst v ∧
      ((H' = H ∧ ((cOper P n ops oi).op.cls = 0 → ∀ H2, (cOper P n ops oi).run call F H2 = some (F.put (cOper P n ops oi).dst v, H2)) ∧ ((cOper P n ops oi).op.cls = 2 → wantedV F (cOper P n ops oi).guard = some false ∧ v = .none)) ∨
       ((cOper P n ops oi).op.cls = 2 ∧ wantedV F (cOper P n ops oi).guard = some true ∧ ∃ (mk : Nat → AV) (obj : AObj), (∀ q, objOf (mk q) = some q) ∧
          (∀ h₂, (cOper P n ops oi).op.eval F h₂ = some (.val (mk h₂.next) (h₂.new obj))) ∧ v = mk H.next ∧ H' = H.new obj)) := by
  obtain ⟨g, x, hg, hx, hd, he⟩ := cOper_inv hr
  rw [he] at hr hc ⊢
  simp only at hc ⊢
  have hok : ClsOk P oi x := cOp_ok hx
  unfold AOper.run at hr
  simp only at hr
  cases hw : wantedV F g with
  | none => simp [hw] at hr
  | some b =>
    cases b
    · simp only [hw, Option.some.injEq, Prod.mk.injEq] at hr
      obtain ⟨rfl, rfl⟩ := hr
      exact ⟨.none, rfl, .inl ⟨rfl, fun _ H2 => by simp [AOper.run, hw], fun _ => ⟨rfl, rfl⟩⟩⟩
    · simp only [hw] at hr
      cases hev : x.eval F H with
      | none => simp [hev] at hr
      | some res =>
        unfold ClsOk at hok
        split at hok
        · rename_i hcl
          obtain ⟨v, rfl, hv2, _⟩ := hok F H res hev
          simp only [hev, Option.some.injEq, Prod.mk.injEq] at hr
          obtain ⟨rfl, rfl⟩ := hr
          exact ⟨v, rfl, .inl ⟨rfl, fun _ H2 => by simp [AOper.run, hw, hv2 H2], fun h2 => by rw [hcl] at h2; cases h2⟩⟩
        · rename_i hcl
          obtain ⟨v, rfl, _⟩ := hok F H res hev
          simp only [hev, Option.some.injEq, Prod.mk.injEq] at hr
          obtain ⟨rfl, rfl⟩ := hr
          exact ⟨v, rfl, .inl ⟨rfl, (fun h0 => by rw [hcl] at h0; cases h0), (fun h2 => by rw [hcl] at h2; cases h2)⟩⟩
        · rename_i hcl
          obtain ⟨mk, obj, rfl, h1, h2, _⟩ := hok F H res hev
          simp only [hev, Option.some.injEq, Prod.mk.injEq] at hr
          obtain ⟨rfl, rfl⟩ := hr
          exact ⟨_, rfl, .inr ⟨hcl, rfl, mk, obj, h1, h2, rfl, rfl⟩⟩
        · rename_i h0 h1 h2
          exfalso
          have : x.cls = 0 ∨ x.cls = 1 ∨ x.cls = 2 := by omega
          rcases this with e | e | e
          · exact h0 e
          · exact h1 e
          · exact h2 e

/-- The run in some order, beside the one order. -/
structure CC (n : Nat) (N : Nat) (w₀ : World) (M : List Nat) (xs : List AOper) (call : Handler) (f₀ : Fr) (n₀ : Nat) (μ₀ : Inj) (E G : Nat) (F : Fr) (H : AH) (pid : Nat → Option Nat) (L : Nat → Prop) (fl : Fr) (μ : Inj) (a : Act) (w : World) : Prop where
  ci : CI M xs call f₀ n₀ E G F H pid
  fle : FL xs E L f₀ F fl
  r : R N w₀ μ H w
  fr : FRel n μ fl a
  sub : ∀ i, L i → E.testBit i = true
  pend : ∀ i p, ¬ L i → pid i = some p → μ p = none
  ext : Inj.Ext n₀ H.next μ₀ μ
  wr : ∀ i, E.testBit i = true → (nth xs i).op.cls = 3 → L i

variable {N : Nat} {w₀ : World} {μ₀ μ : Inj} {L : Nat → Prop} {fl : Fr} {a : Act} {w : World}

theorem opOk_spec {prev : Option Nat} {i : Nat} (h : opOk M xs prev E i = true) : i < xs.length ∧ E.testBit i = false ∧ readsOk M xs E i = true ∧ prevOk M prev i = true := by
  simp only [opOk, Bool.and_eq_true, decide_eq_true_eq, Bool.not_eq_true'] at h
  exact ⟨h.1.1.1, h.1.1.2, h.1.2, h.2⟩
theorem FL.step (c : CI M xs call f₀ n₀ E G F H pid) (hD : dstsOk xs = true) {i : Nat} (hlt : i < xs.length) (hE : E.testBit i = false) (hL : ¬ L i) {v : AV} (h : FL xs E L f₀ F fl) : FL xs (E ||| 1 <<< i) L f₀ (F.put (nth xs i).dst v) fl := by
  intro t
  have hz : (nth xs i).dst = some t → fl.at t = f₀.at t := by
    intro hd
    have hno : ¬ ∃ j, E.testBit j = true ∧ ¬ L j ∧ (nth xs j).dst = some t := by
      rintro ⟨j, hj, _, hdj⟩
      have := dstsOk_spec hD hlt (c.lt j hj) hd hdj
      subst this
      rw [hE] at hj; cases hj
    rw [(h t).2 hno]
    refine c.z t fun j hj hdj => ?_
    have := dstsOk_spec hD hlt (c.lt j hj) hd hdj
    subst this
    rw [hE] at hj; cases hj
  constructor
  · rintro ⟨j, hj, hl, hd⟩
    rcases testBit_add.1 hj with h' | h'
    · exact (h t).1 ⟨j, h', hl, hd⟩
    · subst h'; exact hz hd
  · intro hno
    by_cases hd : (nth xs i).dst = some t
    · exact absurd ⟨i, testBit_add.2 (.inr rfl), hL, hd⟩ hno
    · rw [Fr.at_put_ne hd]
      exact (h t).2 fun ⟨j, hj, hl, hdj⟩ => hno ⟨j, testBit_add.2 (.inl hj), hl, hdj⟩

theorem nth_inv (hxs : xs = comp P n ops) {i : Nat} (hi : i < xs.length) : ∃ oi, ops[i]? = some oi ∧ nth xs i = cOper P n ops oi := by
  subst hxs
  rw [comp_length] at hi
  exact ⟨ops[i], Array.getElem?_eq_getElem hi, nth_comp (Array.getElem?_eq_getElem hi)⟩

theorem CC.op (c : CC n N w₀ M xs call f₀ n₀ μ₀ E G F H pid L fl μ a w) (hxs : xs = comp P n ops) (hD : dstsOk xs = true) {prev : Option Nat} {i : Nat} (ho : opOk M xs prev E i = true) (hc : (nth xs i).op.cls < 3) {F' : Fr} {H' : AH}
    (hr : (nth xs i).run call F H = some (F', H')) : ∃ pid', CC n N w₀ M xs call f₀ n₀ μ₀ (E ||| 1 <<< i) (nextG xs G i) F' H' pid' L fl μ a w := by
  obtain ⟨hlt, hE, hrd, _⟩ := opOk_spec ho
  have hL : ¬ L i := fun h => by have := c.sub i h; rw [hE] at this; cases this
  have hwr : ∀ j, (E ||| 1 <<< i).testBit j = true → (nth xs j).op.cls = 3 → L j := by
    intro j hj h3
    rcases testBit_add.1 hj with h | h
    · exact c.wr j h h3
    · subst h; omega
  obtain ⟨oi, hoi, hn⟩ := nth_inv hxs hlt
  rw [hn] at hr hc
  obtain ⟨v, hF, hcase⟩ := canon_step hr hc
  rw [← hn] at hF hcase
  have hself := c.ci.agree hD hrd
  have hpidE : pid i = none := by
    cases hp : pid i with
    | none => rfl
    | some p => have := (c.ci.pi i p hp).1; rw [hE] at this; cases this
  subst hF
  rcases hcase with ⟨rfl, hpu, hma⟩ | ⟨hcl, hw, mk, obj, hobj, hev, rfl, rfl⟩
  · refine ⟨pid, c.ci.step hD hlt hE hrd (Nat.le_refl _) ?_ ?_ (fun _ _ => rfl) (fun p hp => by rw [hpidE] at hp; cases hp) ?_, c.fle.step c.ci hD hlt hE hL, c.r, c.fr, fun j hj => testBit_add.2 (.inl (c.sub j hj)), c.pend, c.ext, hwr⟩
    · intro j hj
      unfold nextG at hj
      split at hj
      · rcases testBit_add.1 hj with h | h
        · exact .inl ⟨h, rfl⟩
        · subst h
          refine .inr ⟨rfl, fun fr ha => ?_⟩
          obtain ⟨v', h1, h2⟩ := AOper.run_congr (call := call) (h := H') (f' := F.put (nth xs i).dst v) (h' := H') (hself.eq ha) (by rw [hn] at hr ⊢; exact hr)
          rw [h2]
          by_cases hd : (nth xs i).dst = none
          · simp [hd, Fr.put]
          · obtain ⟨d, hd⟩ := Option.ne_none_iff_exists'.1 hd
            have : v = v' := by
              have := congrArg (fun z => Fr.at z d) h1
              simp only [Fr.at_put_self hd] at this
              exact this
            rw [this]
      · split at hj
        · exact .inl ⟨hj, rfl⟩
        · simp at hj
    · intro hc0 fr ha H2
      obtain ⟨v', h1, h2⟩ := AOper.run_congr (hself.eq ha) (hpu hc0 H2)
      have := AOper.run_congr (ha.eq hself) h2
      -- the same value
      obtain ⟨v2, h3, h4⟩ := this
      rw [h2]
      by_cases hd : (nth xs i).dst = none
      · simp [hd, Fr.put]
      · obtain ⟨d, hd⟩ := Option.ne_none_iff_exists'.1 hd
        have : v = v' := by
          have := congrArg (fun z => Fr.at z d) h1
          simp only [Fr.at_put_self hd] at this
          exact this
        rw [this]
    · intro hc2 fr ha
      obtain ⟨h1, h2⟩ := hma hc2
      exact .inl ⟨by rw [← AOper.wanted_congr (hself.eq ha)]; exact h1, h2⟩
  · refine ⟨fun j => if j = i then some H.next else pid j, c.ci.step hD hlt hE hrd (by simp [AH.next_new]) (fun j hj => by simp [nextG, hcl] at hj) ?_ (fun j hj => by simp [hj]) (fun p hp => by simp at hp; subst hp; simp [AH.next_new]) ?_, c.fle.step c.ci hD hlt hE hL, c.r.skip obj, c.fr, fun j hj => testBit_add.2 (.inl (c.sub j hj)), ?_, ?_, ?_⟩
    · intro h0; rw [hcl] at h0; cases h0
    · intro _ fr ha
      refine .inr ⟨by rw [← AOper.wanted_congr (hself.eq ha)]; exact hw, mk, obj, H.next, hobj, fun h₂ => by rw [← AOper.eval_congr (hself.eq ha)]; exact hev h₂, rfl, by simp⟩
    · intro j p hj hp
      change (if j = i then some H.next else pid j) = some p at hp
      split at hp
      · cases hp
        cases hm : μ H.next with
        | none => rfl
        | some y => have := c.r.dom _ _ hm; omega
      · exact c.pend j p hj hp
    · exact ⟨c.ext.1, c.ext.2.1, by have := c.ext.2.2; simp [AH.next_new]; omega⟩
    · exact hwr

theorem CC.opsRun (hxs : xs = comp P n ops) (hD : dstsOk xs = true) {prev : Option Nat} : ∀ {is : List Nat} {E E' G G' : Nat} {F F' : Fr} {H H' : AH} {pid : Nat → Option Nat}, CC n N w₀ M xs call f₀ n₀ μ₀ E G F H pid L fl μ a w →
    stageOk M xs prev is E G = some (E', G') → runItems call (is.map fun i => .op (nth xs i)) F H = some (F', H') → ∃ pid', CC n N w₀ M xs call f₀ n₀ μ₀ E' G' F' H' pid' L fl μ a w
  | [], E, E', G, G', F, F', H, H', pid, c, hs, hr => by
    cases hs; cases hr; exact ⟨pid, c⟩
  | i :: is, E, E', G, G', F, F', H, H', pid, c, hs, hr => by
    simp only [stageOk] at hs
    split at hs
    · rename_i hc
      simp only [Bool.and_eq_true, decide_eq_true_eq] at hc
      simp only [List.map_cons, runItems] at hr
      cases h1 : (nth xs i).run call F H with
      | none => simp [h1] at hr
      | some p =>
        obtain ⟨F1, H1⟩ := p
        simp only [h1] at hr
        obtain ⟨pid1, c1⟩ := c.op hxs hD hc.1 hc.2 h1
        exact CC.opsRun hxs hD c1 hs hr
    · cases hs

/-- What holds at the end of a stage of what floats. -/
structure LK (M : List Nat) (xs : List AOper) (call : Handler) (f₀ : Fr) (E : Nat) (F : Fr) (H : AH) (pid : Nat → Option Nat) (L : Nat → Prop) : Prop where
  look : ∀ i, E.testBit i = true → ¬ L i → (nth xs i).op.cls = 1 → ∀ fr, Agree M xs f₀ F i fr → ∃ v, (nth xs i).run call fr H = some (fr.put (nth xs i).dst v, H) ∧ ∀ d, (nth xs i).dst = some d → v = F.at d
  make : ∀ i, E.testBit i = true → ¬ L i → (nth xs i).op.cls = 2 → ∀ fr, Agree M xs f₀ F i fr →
    (wantedV fr (nth xs i).guard = some false ∧ ∀ d, (nth xs i).dst = some d → F.at d = .none) ∨
    (wantedV fr (nth xs i).guard = some true ∧ ∃ (mk : Nat → AV) (obj : AObj) (p : Nat), (∀ h₂, (nth xs i).op.eval fr h₂ = some (.val (mk h₂.next) (h₂.new obj))) ∧ (∀ d, (nth xs i).dst = some d → F.at d = mk p) ∧ pid i = some p ∧ H.get p = some obj)
theorem LK.weaken {L' : Nat → Prop} (h : LK M xs call f₀ E F H pid L) (hl : ∀ i, L i → L' i) : LK M xs call f₀ E F H pid L' :=
  ⟨fun i h1 h2 => h.look i h1 fun h3 => h2 (hl i h3), fun i h1 h2 => h.make i h1 fun h3 => h2 (hl i h3)⟩

theorem looksOk_spec {prev : Option Nat} {looks : List Nat} (h : looksOk M xs prev E G looks = true) {i : Nat} (hlt : i < xs.length) (hi : E.testBit i = true) (hc : (nth xs i).op.cls ≠ 0 ∧ (nth xs i).op.cls ≠ 3) : G.testBit i = true ∨ i ∈ looks ∨ ∃ v, prev = some v ∧ has M v i = true := by
  unfold looksOk at h
  rw [List.all_eq_true] at h
  have := h i (by simpa using hlt)
  simp only [hi, Bool.not_true, Bool.false_or, Bool.or_eq_true, beq_iff_eq, hc.1, hc.2, false_or, List.contains_iff_mem] at this
  rcases this with (h1 | h1) | h1
  · exact .inl h1
  · exact .inr (.inl h1)
  · cases prev with
    | none => cases h1
    | some v => exact .inr (.inr ⟨v, rfl, h1⟩)

theorem cls_lt (x : AOp) : x.cls < 4 := by cases x <;> simp [AOp.cls]

theorem CI.looks (c : CI M xs call f₀ n₀ E G F H pid) (hxs : xs = comp P n ops) {prev : Option Nat} {looks : List Nat} (hlk : looksOk M xs prev E G looks = true) (hG : ∀ i, G.testBit i = true → (nth xs i).op.cls = 1) (hprev : ∀ v i, prev = some v → has M v i = true → L i) (hrun : ∀ i ∈ looks, (nth xs i).lookAgain F H = true) :
    LK M xs call f₀ E F H pid L := by
  have mem : ∀ i, E.testBit i = true → ¬ L i → (nth xs i).op.cls ≠ 0 ∧ (nth xs i).op.cls ≠ 3 → G.testBit i = false → (nth xs i).lookAgain F H = true := by
    intro i hi hl hc hg
    rcases looksOk_spec hlk (c.lt i hi) hi hc with h | h | ⟨v, hv, hm⟩
    · rw [hg] at h; cases h
    · exact hrun i h
    · exact absurd (hprev v i hv hm) hl
  constructor
  · intro i hi hl hc fr ha
    cases hg : G.testBit i
    case true => exact (c.ge i hg).2 fr ha
    have hla := mem i hi hl (by rw [hc]; simp) hg
    have hself := c.agree_late hi (by rw [hc]; simp)
    have heq := hself.eq ha
    suffices h : ∃ v, (nth xs i).run call F H = some (F.put (nth xs i).dst v, H) ∧ ∀ d, (nth xs i).dst = some d → v = F.at d by
      obtain ⟨v, h1, h2⟩ := h
      obtain ⟨v', h3, h4⟩ := AOper.run_congr heq h1
      refine ⟨v', h4, fun d hd => ?_⟩
      have := congrArg (fun z => Fr.at z d) h3
      simp only [Fr.at_put_self hd] at this
      rw [← this]; exact h2 d hd
    obtain ⟨oi, hoi, hn⟩ := nth_inv hxs (c.lt i hi)
    unfold AOper.lookAgain at hla
    unfold AOper.run
    cases hw : wantedV F (nth xs i).guard with
    | none => simp [hw] at hla
    | some b =>
      cases b
      · simp only [hw] at hla ⊢
        refine ⟨.none, rfl, fun d hd => ?_⟩
        simp only [hd] at hla
        exact AV.eq_of_beq _ _ hla
      · simp only [hw] at hla ⊢
        cases hd : (nth xs i).dst with
        | none => simp [hd] at hla
        | some d =>
          simp only [hd] at hla
          cases hev : (nth xs i).op.eval F H with
          | none => simp [hev] at hla
          | some res =>
            have hrn : ∃ v, res = .val v H := by
              rw [hn] at hev hc
              by_cases hst : ∃ g x, cGuard n ops oi.guard = some g ∧ cOp P oi.op = some x ∧ cOper P n ops oi = ⟨oi.dst, x, g⟩
              · obtain ⟨g, x, _, hx, he⟩ := hst
                rw [he] at hev hc
                have hok : ClsOk P oi x := cOp_ok hx
                unfold ClsOk at hok
                simp only at hc
                rw [hc] at hok
                obtain ⟨v, rfl, _⟩ := hok F H res hev
                exact ⟨v, rfl⟩
              · exfalso
                unfold cOper at hev hst
                split at hev
                · rename_i g x hg hx
                  split at hev
                  · rename_i hdd; exact hst ⟨g, x, hg, hx, by simp [hg, hx, hdd]⟩
                  · cases hev
                · cases hev
            obtain ⟨v, rfl⟩ := hrn
            simp only [hev, if_true] at hla
            exact ⟨v, rfl, fun d' hd' => by cases hd'; exact AV.eq_of_beq _ _ hla⟩
  · intro i hi hl hc fr ha
    have hla := mem i hi hl (by rw [hc]; simp) (by
      cases hg : G.testBit i
      · rfl
      · have := hG i hg; rw [hc] at this; cases this)
    have hself := c.agree_late hi (by rw [hc]; simp)
    have heq := hself.eq ha
    rcases c.ma i hi hc fr ha with h1 | ⟨h1, mk, obj, p, h2, h3, h4, h5⟩
    · exact .inl h1
    · refine .inr ⟨h1, mk, obj, p, h3, h4, h5, ?_⟩
      unfold AOper.lookAgain at hla
      rw [AOper.wanted_congr heq, h1] at hla
      simp only at hla
      cases hd : (nth xs i).dst with
      | none => simp [hd] at hla
      | some d =>
        simp only [hd, AOper.eval_congr heq, h3] at hla
        rw [if_neg (by simp [AH.next_new]), h2, h4 d hd, h2] at hla
        simp only [AH.get_new, if_true] at hla
        cases hg : H.get p with
        | none => simp [hg] at hla
        | some y =>
          simp only [hg] at hla
          rw [eq_of_beqObj hla]
end
end Go.Vm

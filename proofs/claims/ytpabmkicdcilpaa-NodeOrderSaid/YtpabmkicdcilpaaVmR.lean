/- Regions whose order is drawn: every order. -/
import Derived.Test.YtpabmkicdcilpaaVmQ
namespace Go.Vm
open Go.RowKit
set_option linter.unusedSimpArgs false
set_option linter.unusedVariables false
section
variable {P : Program} {n : Nat} {ops : Array Oper} {call : Handler} {M : List Nat} {xs : List AOper} {f₀ : Fr} {n₀ E G : Nat} {F : Fr} {H : AH} {pid : Nat → Option Nat}
variable {N : Nat} {w₀ : World} {μ₀ μ : Inj} {L : Nat → Prop} {fl : Fr} {a : Act} {w : World}

theorem FRel.congr {f g : Fr} (h : FRel n μ f a) (he : ∀ t, f.at t = g.at t) : FRel n μ g a := ⟨h.defers, h.size, fun t => he t ▸ h.vals t⟩

/-- The listed ones. -/
def Lof (listed : Array Bool) (j : Nat) : Prop := listed.getD j false = true
theorem Lof_set {listed : Array Bool} {i j : Nat} (hi : i < listed.size) : Lof (listed.setIfInBounds i true) j ↔ Lof listed j ∨ j = i := by
  unfold Lof
  by_cases e : i = j
  · subst e; simp [hi]
  · rw [getD_set_ne false e]
    constructor
    · exact .inl
    · rintro (h | h)
      · exact h
      · exact absurd h.symm e
theorem Lof_not {listed : Array Bool} {i : Nat} (h : listed.getD i true = false) : ¬ Lof listed i ∧ i < listed.size := by
  have hlt : i < listed.size := by
    rcases Nat.lt_or_ge i listed.size with h' | h'
    · exact h'
    · simp [Array.getElem?_eq_none h'] at h
  refine ⟨?_, hlt⟩
  unfold Lof
  simp [hlt] at h ⊢
  exact h
theorem not_Lof {listed : Array Bool} {i : Nat} (h : ¬ Lof listed i) (hlt : i < listed.size) : listed.getD i true = false := by
  unfold Lof at h
  simp [hlt] at h ⊢
  exact h
theorem ready_iff {listed : Array Bool} {i : Nat} : i ∈ Region.ready .any ops listed ↔ listed.getD i true = false ∧ Ready ops (Lof listed) i := mem_ready
theorem Closed.set {listed : Array Bool} (hs : listed.size = ops.size) (hc : Closed ops (Lof listed)) {i : Nat} (hi : i < listed.size) (hr : Ready ops (Lof listed) i) : Closed ops (Lof (listed.setIfInBounds i true)) := by
  intro j o ho hj e he hb
  rw [Lof_set hi] at hj ⊢
  rcases hj with hj | hj
  · exact .inl (hc j o ho hj e he hb)
  · subst hj
    obtain ⟨o', ho', hd⟩ := hr
    rw [ho] at ho'
    cases ho'
    exact .inl (hd e he hb)
theorem edgesOk_spec (h : edgesOk ops = true) {i : Nat} {o : Oper} (ho : ops[i]? = some o) {e : Edge} (he : e ∈ o.after) (hb : Region.binds .any e = true) : e.on < i := by
  unfold edgesOk at h
  rw [List.all_eq_true] at h
  have := h i (by simpa using (Array.getElem?_eq_some_iff.1 ho).1)
  rw [ho] at this
  simp only at this
  rw [Array.all_eq_true_iff_forall_mem] at this
  have := this e he
  simpa [hb] using this
/-- Nothing is ready: all has run. -/
theorem all_listed (hE : edgesOk ops = true) {listed : Array Bool} (hs : listed.size = ops.size) (hr : Region.ready .any ops listed = []) : ∀ i, i < ops.size → Lof listed i := by
  intro i
  induction i using Nat.strongRecOn with
  | _ i ih =>
    intro hi
    refine Classical.byContradiction fun hn => ?_
    have : i ∈ Region.ready .any ops listed := by
      rw [ready_iff]
      refine ⟨not_Lof hn (by omega), ops[i], Array.getElem?_eq_getElem hi, fun e he hb => ?_⟩
      have := edgesOk_spec hE (Array.getElem?_eq_getElem hi) he hb
      exact ih e.on this (by omega)
    rw [hr] at this
    cases this
theorem count_set {listed : Array Bool} {i : Nat} (h : listed.getD i true = false) {fuel : Nat} (hf : listed.toList.countP (!·) ≤ fuel + 1) : (listed.setIfInBounds i true).toList.countP (!·) ≤ fuel := by
  obtain ⟨_, hlt⟩ := Lof_not h
  have hl : i < listed.toList.length := by simpa using hlt
  rw [Array.toList_setIfInBounds, List.countP_set hl]
  have : listed.toList[i] = false := by simpa [hlt] using h
  have hp := List.countP_pos_iff (p := fun x => !x).2 ⟨listed.toList[i], List.getElem_mem hl, by rw [this]; rfl⟩
  rw [this]
  rw [if_pos (by rfl), if_neg (by simp)]
  omega
theorem count_pos {listed : Array Bool} {i : Nat} (h : listed.getD i true = false) : 0 < listed.toList.countP (!·) := by
  obtain ⟨_, hlt⟩ := Lof_not h
  rw [List.countP_pos_iff]
  have hl : i < listed.toList.length := by simpa using hlt
  refine ⟨listed.toList[i], List.getElem_mem hl, ?_⟩
  have : listed.toList[i] = false := by simpa [hlt] using h
  simp [this]

/-! ### who is ready -/
theorem stage_mem {prev : Option Nat} : ∀ {is : List Nat} {E E' G G' : Nat}, stageOk M xs prev is E G = some (E', G') → ∀ i, E'.testBit i = true → E.testBit i = true ∨ prevOk M prev i = true
  | [], E, E', G, G', hs, i, hi => by cases hs; exact .inl hi
  | j :: is, E, E', G, G', hs, i, hi => by
    simp only [stageOk] at hs
    split at hs
    · rename_i hc
      simp only [Bool.and_eq_true, decide_eq_true_eq] at hc
      rcases stage_mem hs i hi with h | h
      · rcases testBit_add.1 h with h | h
        · exact .inl h
        · subst h; exact .inr (opOk_spec hc.1).2.2.2
      · exact .inr h
    · cases hs
theorem stage_looks {prev : Option Nat} : ∀ {is : List Nat} {E E' G G' : Nat}, stageOk M xs prev is E G = some (E', G') → (∀ i, G.testBit i = true → (nth xs i).op.cls = 1) → ∀ i, G'.testBit i = true → (nth xs i).op.cls = 1
  | [], E, E', G, G', hs, hG, i, hi => by cases hs; exact hG i hi
  | j :: is, E, E', G, G', hs, hG, i, hi => by
    simp only [stageOk] at hs
    split at hs
    · refine stage_looks hs (fun k hk => ?_) i hi
      unfold nextG at hk
      split at hk
      · rename_i hc
        rcases testBit_add.1 hk with h | h
        · exact hG k h
        · subst h; exact hc
      · split at hk
        · exact hG k hk
        · simp at hk
    · cases hs
theorem plan_ready (hM : M = masks ops) (hxs : xs = comp P n ops) (hc : Closed ops L) : ∀ {p : Plan} {v E : Nat}, planOk M xs p (some v) E = true → v < xs.length → ∀ {i : Nat}, i < xs.length → E.testBit i = false → Ready ops L i → L v
  | .last is looks, v, E, hp, hv, i, hi, hE, hr => by
    simp only [planOk] at hp
    split at hp
    · rename_i E' G' hs
      simp only [Bool.and_eq_true, List.all_eq_true] at hp
      have hEi := hp.2 i (by simpa using hi)
      rcases stage_mem hs i hEi with h | h
      · rw [hE] at h; cases h
      · subst hM; exact masks_spec hc hr h
    · cases hp
  | .stage is looks w rest, v, E, hp, hv, i, hi, hE, hr => by
    simp only [planOk] at hp
    split at hp
    · rename_i E' G' hs
      simp only [Bool.and_eq_true] at hp
      obtain ⟨hw1, hw2, _, hw4⟩ := opOk_spec hp.1.1.2
      cases hEi : E'.testBit i
      · by_cases hiw : w = i
        · subst hiw; subst hM; exact masks_spec hc hr hw4
        · have hE2 : (E' ||| 1 <<< w).testBit i = false := by
            cases h2 : (E' ||| 1 <<< w).testBit i
            · rfl
            · rcases testBit_add.1 h2 with h | h
              · rw [hEi] at h; cases h
              · exact absurd h hiw
          have hLw := plan_ready hM hxs hc hp.2 hw1 hi hE2 hr
          subst hM
          have : ops.size = xs.length := by rw [hxs, comp_length]
          exact masks_closed hc (by omega) hLw hw4
      · rcases stage_mem hs i hEi with h | h
        · rw [hE] at h; cases h
        · subst hM; exact masks_spec hc hr h
    · cases hp

/-! ### a maker, late -/
theorem make_wp {oi : Oper} {i : Nat} (hoi : ops[i]? = some oi) {mk : Nat → AV} {obj : AObj} {p : Nat} (hcl : (cOper P n ops oi).op.cls = 2) (hw : wantedV fl (cOper P n ops oi).guard = some true)
    (hev : ∀ h₂, (cOper P n ops oi).op.eval fl h₂ = some (.val (mk h₂.next) (h₂.new obj))) (hp : p < H.next) (hn : μ p = none) (hg : H.get p = some obj) (hf : FRel n μ fl a) (hR : R N w₀ μ H w)
    {K : Act → World → Prop} {Q : Exit → Act → World → Prop} (hK : ∀ μ' a' w', Inj.le μ μ' → (∀ o, o ≠ p → μ' o = μ o) → FRel n μ' (fl.put (cOper P n ops oi).dst (mk p)) a' → R N w₀ μ' H w' → K a' w') : wpOp P ops Q i K a w := by
  unfold wpOp
  simp only [hoi]
  have hrun : (cOper P n ops oi).run (fun _ _ _ => none) fl H = some (fl.put (cOper P n ops oi).dst (mk H.next), H.new obj) := by simp [AOper.run, hw, hev H]
  obtain ⟨g, x, hgd, hx, hd, he⟩ := cOper_inv hrun
  rw [he] at hcl hw hev hK
  simp only at hcl hw hev hK
  rw [wanted_rel hgd hf hw]
  simp only [if_true]
  refine .inl ?_
  have hok : ClsOk P oi x := cOp_ok hx
  unfold ClsOk at hok
  rw [hcl] at hok
  obtain ⟨mk', obj', h1, h2, h3, h4⟩ := hok fl H _ (hev H)
  have hobj : obj' = obj := by
    simp only [ARes.val.injEq] at h1
    have e1 := congrArg (fun g => AH.get g H.next) h1.2
    simp only [AH.get_new, if_true, Option.some.injEq] at e1
    exact e1.symm
  have hmk : mk' p = mk p := by
    have e1 := h3 ⟨p, .nil⟩
    rw [hev ⟨p, .nil⟩] at e1
    simp only [Option.some.injEq, ARes.val.injEq] at e1
    exact e1.1.symm
  subst hobj
  obtain ⟨X, size, d, v', hr, k1, k2⟩ := h4 N μ a w hR.fresh hf.vals
  unfold Oper.wp
  rw [hr, Oper.upon_value]
  have hle := Inj.le_add (μ := μ) (o := p) (w.heap.size, 0, size) hn
  refine hK (Inj.add μ p (w.heap.size, 0, size)) _ _ hle (fun o ho => by unfold Inj.add; rw [if_neg ho]) ((hf.mono hle).put hd ?_) ((hR.late hp hn hg fun w' hw' => k2 p w' hn hw').drawn d)
  rw [← hmk]
  exact k1 p hn

/-! ### every order -/
def Rem (M : List Nat) (xs : List AOper) (call : Handler) (E : Nat) (F : Fr) (H : AH) (Ff : Fr) (Hf : AH) : Prop :=
  ((∀ i, i < xs.length → E.testBit i = true) ∧ Ff = F ∧ Hf = H) ∨
  ∃ (w : Nat) (rest : Plan) (F2 : Fr) (H2 : AH) (prev : Option Nat), opOk M xs prev E w = true ∧ (nth xs w).op.cls = 3 ∧ planOk M xs rest (some w) (E ||| 1 <<< w) = true ∧ (nth xs w).run call F H = some (F2, H2) ∧ runItems call (rest.items xs) F2 H2 = some (Ff, Hf)

theorem CC.enter (hxs : xs = comp P n ops) (hD : dstsOk xs = true) {p : Plan} {prev : Option Nat} {Ff : Fr} {Hf : AH} (c : CC n N w₀ M xs call f₀ n₀ μ₀ E 0 F H pid L fl μ a w)
    (hp : planOk M xs p prev E = true) (hr : runItems call (p.items xs) F H = some (Ff, Hf)) (hprev : ∀ v i, prev = some v → has M v i = true → L i) :
    ∃ E' G' F' H' pid', CC n N w₀ M xs call f₀ n₀ μ₀ E' G' F' H' pid' L fl μ a w ∧ LK M xs call f₀ E' F' H' pid' L ∧ Rem M xs call E' F' H' Ff Hf := by
  cases p with
  | last is looks =>
    simp only [planOk] at hp
    split at hp
    · rename_i E' G' hs
      simp only [Bool.and_eq_true, List.all_eq_true] at hp
      simp only [Plan.items, runItems_append] at hr
      cases h1 : runItems call (is.map fun i => .op (nth xs i)) F H with
      | none => simp [h1] at hr
      | some q =>
        obtain ⟨F1, H1⟩ := q
        simp only [h1, Option.bind_some] at hr
        obtain ⟨pid', c'⟩ := CC.opsRun hxs hD c hs h1
        obtain ⟨e1, e2, e3⟩ := runItems_looks hr
        subst e1; subst e2
        exact ⟨E', G', Ff, Hf, pid', c', c'.ci.looks hxs hp.1 (stage_looks hs (by simp)) hprev e3, .inl ⟨fun i hi => hp.2 i (by simpa using hi), rfl, rfl⟩⟩
    · cases hp
  | stage is looks v rest =>
    simp only [planOk] at hp
    split at hp
    · rename_i E' G' hs
      simp only [Bool.and_eq_true, beq_iff_eq] at hp
      simp only [Plan.items, runItems_append] at hr
      cases h1 : runItems call (is.map fun i => .op (nth xs i)) F H with
      | none => simp [h1] at hr
      | some q =>
        obtain ⟨F1, H1⟩ := q
        simp only [h1, Option.bind_some] at hr
        obtain ⟨pid', c'⟩ := CC.opsRun hxs hD c hs h1
        cases h2 : runItems call (looks.map fun i => .look (nth xs i)) F1 H1 with
        | none => simp [h2] at hr
        | some q2 =>
          obtain ⟨F2, H2⟩ := q2
          simp only [h2, Option.bind_some] at hr
          obtain ⟨e1, e2, e3⟩ := runItems_looks h2
          subst e1; subst e2
          simp only [runItems] at hr
          cases h3 : (nth xs v).run call F2 H2 with
          | none => simp [h3] at hr
          | some q3 =>
            obtain ⟨F3, H3⟩ := q3
            simp only [h3] at hr
            exact ⟨E', G', F2, H2, pid', c', c'.ci.looks hxs hp.1.1.1 (stage_looks hs (by simp)) hprev e3, .inr ⟨v, rest, F3, H3, prev, hp.1.1.2, hp.1.2, hp.2, h3, hr⟩⟩
    · cases hp

/-- What a pending operation sees. -/
theorem CC.agree (c : CC n N w₀ M xs call f₀ n₀ μ₀ E G F H pid L fl μ a w) (hM : M = masks ops) (hxs : xs = comp P n ops) (hD : dstsOk xs = true) (hc : Closed ops L) {i : Nat} (hi : E.testBit i = true) (hL : ¬ L i) (hr : Ready ops L i) : Agree M xs f₀ F i fl := by
  have hsz : ops.size = xs.length := by rw [hxs, comp_length]
  intro t ht
  constructor
  · rintro ⟨y, hy, hd, hm⟩
    have hnl : ¬ L y := by
      intro hl
      rcases c.ci.rd i hi t ht y hy hd with ⟨h1, _⟩ | ⟨_, _, h2⟩
      · rw [hm] at h1; cases h1
      · rcases h2 with h2 | h2
        · subst h2; exact hL hl
        · subst hM; exact hL (masks_closed hc (by omega) hl h2)
    cases hEy : E.testBit y
    · have hno : ∀ j, E.testBit j = true → (nth xs j).dst ≠ some t := by
        intro j hj hdj
        have := dstsOk_spec hD hy (c.ci.lt j hj) hd hdj
        subst this
        rw [hj] at hEy; cases hEy
      rw [(c.fle t).2 (fun ⟨j, hj, _, hdj⟩ => hno j hj hdj)]
      exact c.ci.z t hno
    · exact (c.fle t).1 ⟨y, hEy, hnl, hd⟩
  · intro hall
    refine (c.fle t).2 ?_
    rintro ⟨j, hj, hl, hd⟩
    have hm := hall j (c.ci.lt j hj) hd
    subst hM
    exact hl (masks_spec hc hr hm)

theorem FL.take (c : CI M xs call f₀ n₀ E G F H pid) (hD : dstsOk xs = true) {i : Nat} (hlt : i < xs.length) {v : AV} (hv : ∀ d, (nth xs i).dst = some d → v = F.at d) {L' : Nat → Prop} (hL' : ∀ j, L' j ↔ L j ∨ j = i) (h : FL xs E L f₀ F fl) : FL xs E L' f₀ F (fl.put (nth xs i).dst v) := by
  intro t
  constructor
  · rintro ⟨j, hj, hl, hd⟩
    have hji : j ≠ i := fun e => hl ((hL' j).2 (.inr e))
    rw [Fr.at_put_ne (fun hdi => hji (dstsOk_spec hD (c.lt j hj) hlt hd hdi))]
    exact (h t).1 ⟨j, hj, fun h' => hl ((hL' j).2 (.inl h')), hd⟩
  · intro hno
    by_cases hd : (nth xs i).dst = some t
    · rw [Fr.at_put_self hd]; exact hv t hd
    · rw [Fr.at_put_ne hd]
      refine (h t).2 ?_
      rintro ⟨j, hj, hl, hdj⟩
      refine hno ⟨j, hj, fun h' => ?_, hdj⟩
      rcases (hL' j).1 h' with h' | h'
      · exact hl h'
      · subst h'; exact hd hdj

theorem draw_any (hcall : HOk P call) (hM : M = masks ops) (hxs : xs = comp P n ops) (hD : dstsOk xs = true) (hE : edgesOk ops = true) {Q : Exit → Act → World → Prop} {Ff : Fr} {Hf : AH}
    (hQ : ∀ μ' a' w', Inj.Ext n₀ Hf.next μ₀ μ' → FRel n μ' Ff a' → R N w₀ μ' Hf w' → Q .normal a' w') :
    ∀ (fuel : Nat) (listed : Array Bool) (E G : Nat) (F : Fr) (H : AH) (pid : Nat → Option Nat) (fl : Fr) (μ : Inj) (a : Act) (w : World), listed.size = ops.size → listed.toList.countP (!·) ≤ fuel → Closed ops (Lof listed) →
      CC n N w₀ M xs call f₀ n₀ μ₀ E G F H pid (Lof listed) fl μ a w → LK M xs call f₀ E F H pid (Lof listed) → Rem M xs call E F H Ff Hf → wpAny P .any ops Q fuel listed a w := by
  have hsz : ops.size = xs.length := by rw [hxs, comp_length]
  have fin : ∀ (listed : Array Bool) (E G : Nat) (F : Fr) (H : AH) (pid : Nat → Option Nat) (fl : Fr) (μ : Inj) (a : Act) (w : World), listed.size = ops.size → Region.ready .any ops listed = [] →
      CC n N w₀ M xs call f₀ n₀ μ₀ E G F H pid (Lof listed) fl μ a w → Rem M xs call E F H Ff Hf → Q .normal a w := by
    intro listed E G F H pid fl μ a w hs hr c hrem
    have hall := all_listed hE hs hr
    rcases hrem with ⟨_, rfl, rfl⟩ | ⟨v, rest, F2, H2, prev, ho, _⟩
    · refine hQ μ a w c.ext (c.fr.congr fun t => (c.fle t).2 ?_) c.r
      rintro ⟨j, hj, hl, _⟩
      exact hl (hall j (by have := c.ci.lt j hj; omega))
    · obtain ⟨h1, h2, _⟩ := opOk_spec ho
      have := c.sub v (hall v (by omega))
      rw [h2] at this; cases this
  intro fuel
  induction fuel with
  | zero =>
    intro listed E G F H pid fl μ a w hs hf hcl c lk hrem
    have hr : Region.ready .any ops listed = [] := by
      cases hr : Region.ready .any ops listed with
      | nil => rfl
      | cons i r =>
        have : i ∈ Region.ready .any ops listed := by rw [hr]; exact List.mem_cons_self ..
        have := count_pos (ready_iff.1 this).1
        omega
    exact ⟨hr, fin listed E G F H pid fl μ a w hs hr c hrem⟩
  | succ fuel ih =>
    intro listed E G F H pid fl μ a w hs hf hcl c lk hrem
    refine ⟨fun hr => fin listed E G F H pid fl μ a w hs hr c hrem, fun i hi => ?_⟩
    obtain ⟨hun, hready⟩ := ready_iff.1 hi
    obtain ⟨hnl, hil⟩ := Lof_not hun
    have hix : i < xs.length := by omega
    have hs' : (listed.setIfInBounds i true).size = ops.size := by simpa using hs
    have hf' := count_set hun hf
    have hcl' := hcl.set hs hil hready
    have hL' : ∀ j, Lof (listed.setIfInBounds i true) j ↔ Lof listed j ∨ j = i := fun j => Lof_set hil
    obtain ⟨oi, hoi, hn⟩ := nth_inv hxs hix
    cases hEi : E.testBit i
    · -- the writer of this stage
      rcases hrem with ⟨hall, _⟩ | ⟨v, rest, F2, H2, prev, ho, hc3, hp, hrun, hrest⟩
      · have := hall i hix; rw [hEi] at this; cases this
      · obtain ⟨hv1, hv2, hv3, hv4⟩ := opOk_spec ho
        have hvi : v = i := by
          refine Classical.byContradiction fun hne => ?_
          have hE2 : (E ||| 1 <<< v).testBit i = false := by
            cases h2 : (E ||| 1 <<< v).testBit i
            · rfl
            · rcases testBit_add.1 h2 with h | h
              · rw [hEi] at h; cases h
              · exact absurd h hne
          have := c.sub v (plan_ready hM hxs hcl hp hv1 hix hE2 hready)
          rw [hv2] at this; cases this
        subst hvi
        have hself := c.ci.agree hD hv3
        have heq : ∀ t ∈ (nth xs v).reads, F.at t = fl.at t := by
          intro t ht
          refine ((c.fle t).2 ?_).symm
          rintro ⟨j, hj, hl, hd⟩
          rcases readsOk_spec hv3 ht (c.ci.lt j hj) hd with ⟨h1, _⟩ | ⟨_, h2, _⟩
          · subst hM; exact hl (masks_spec hcl hready h1)
          · rw [hj] at h2; cases h2
        obtain ⟨u, hu1, hu2⟩ := AOper.run_congr heq hrun
        unfold wpOp
        simp only [hoi]
        rw [hn] at hu2
        refine oper_wp hcall hu2 c.fr c.r fun μ' a' w' hext hfr hR => ?_
        rw [← hn] at hfr
        have hci : CI M xs call f₀ n₀ (E ||| 1 <<< v) 0 F2 H2 pid := by
          rw [hu1]
          refine c.ci.step hD hv1 hv2 hv3 hext.2.2 (fun j hj => by simp at hj) (fun h0 => by rw [hc3] at h0; cases h0) (fun _ _ => rfl) (fun p hp => ?_) (fun h2 => by rw [hc3] at h2; cases h2)
          have := (c.ci.pi v p hp).1
          rw [hv2] at this; cases this
        have hcc : CC n N w₀ M xs call f₀ n₀ μ₀ (E ||| 1 <<< v) 0 F2 H2 pid (Lof (listed.setIfInBounds v true)) (fl.put (nth xs v).dst u) μ' a' w' := by
          refine ⟨hci, ?_, hR, hfr, ?_, ?_, c.ext.trans hext, ?_⟩
          · rw [hu1]
            have hfl := c.fle.step (v := u) c.ci hD hv1 hv2 hnl
            have hci' := hci
            rw [hu1] at hci'
            exact hfl.take hci' hD hv1 (fun d hd => (Fr.at_put_self hd).symm) hL'
          · intro j hj
            rcases (hL' j).1 hj with h | h
            · exact testBit_add.2 (.inl (c.sub j h))
            · exact testBit_add.2 (.inr h.symm)
          · intro j p hj hpj
            have hj' : ¬ Lof listed j := fun h => hj ((hL' j).2 (.inl h))
            rw [hext.2.1 p (c.ci.pi j p hpj).2.2]
            exact c.pend j p hj' hpj
          · intro j hj h3
            rcases testBit_add.1 hj with h | h
            · exact (hL' j).2 (.inl (c.wr j h h3))
            · exact (hL' j).2 (.inr h.symm)
        obtain ⟨E', G', F', H', pid', c', lk', rem'⟩ := hcc.enter hxs hD hp hrest (by
          intro v' j hv' hm
          cases hv'
          subst hM
          exact masks_closed hcl' (by omega) ((hL' v).2 (.inr rfl)) hm)
        exact ih _ _ _ _ _ _ _ _ _ _ hs' hf' hcl' c' lk' rem'
    · -- one that floats
      have hag := c.agree hM hxs hD hcl hEi hnl hready
      have pend' : ∀ μ' : Inj, (∀ j p, ¬ Lof (listed.setIfInBounds i true) j → pid j = some p → μ' p = μ p) → ∀ j p, ¬ Lof (listed.setIfInBounds i true) j → pid j = some p → μ' p = none := by
        intro μ' h j p hj hpj
        rw [h j p hj hpj]
        exact c.pend j p (fun h => hj ((hL' j).2 (.inl h))) hpj
      have sub' : ∀ j, Lof (listed.setIfInBounds i true) j → E.testBit j = true := by
        intro j hj
        rcases (hL' j).1 hj with h | h
        · exact c.sub j h
        · exact h ▸ hEi
      have lk' := lk.weaken fun j h => (hL' j).2 (.inl h)
      have simple : (∃ u, (nth xs i).run call fl H = some (fl.put (nth xs i).dst u, H) ∧ ∀ d, (nth xs i).dst = some d → u = F.at d) → wpOp P ops Q i (wpAny P .any ops Q fuel (listed.setIfInBounds i true)) a w := by
        rintro ⟨u, hu1, hu2⟩
        unfold wpOp
        simp only [hoi]
        have hu1' := hu1
        rw [hn] at hu1
        refine oper_wp hcall hu1 c.fr c.r fun μ' a' w' hext hfr hR => ?_
        rw [← hn] at hfr
        exact ih _ _ _ _ _ _ _ _ _ _ hs' hf' hcl' ⟨c.ci, c.fle.take c.ci hD hix hu2 hL', hR, hfr, sub', pend' μ' fun j p hj hpj => hext.2.1 p (c.ci.pi j p hpj).2.2, c.ext.trans hext, fun j hj h3 => (hL' j).2 (.inl (c.wr j hj h3))⟩ lk' hrem
      have hcls : (nth xs i).op.cls = 0 ∨ (nth xs i).op.cls = 1 ∨ (nth xs i).op.cls = 2 ∨ (nth xs i).op.cls = 3 := by have := cls_lt (nth xs i).op; omega
      rcases hcls with h0 | h1 | h2 | h3
      · obtain ⟨u, hu1, hu2⟩ := c.ci.pu i hEi h0 fl hag H
        exact simple ⟨u, hu1, hu2⟩
      · exact simple (lk.look i hEi hnl h1 fl hag)
      · rcases lk.make i hEi hnl h2 fl hag with ⟨hw, hd⟩ | ⟨hw, mk, obj, p, hev, hd, hp, hg⟩
        · exact simple ⟨.none, by simp [AOper.run, hw], fun d hdd => (hd d hdd).symm⟩
        · obtain ⟨hp1, hp2, hp3⟩ := c.ci.pi i p hp
          have hmun := c.pend i p hnl hp
          rw [hn] at h2 hw hev
          refine make_wp hoi h2 hw hev hp3 hmun hg c.fr c.r fun μ' a' w' hle ho hfr hR => ?_
          rw [← hn] at hfr
          refine ih _ _ _ _ _ _ _ _ _ _ hs' hf' hcl' ⟨c.ci, c.fle.take c.ci hD hix (fun d hdd => (hd d hdd).symm) hL', hR, hfr, sub', pend' μ' ?_, ?_, ?_⟩ lk' hrem
          · intro j q hj hq
            refine ho q ?_
            intro e
            subst e
            exact hj ((hL' j).2 (.inr (c.ci.pd j i q hq hp)))
          · exact ⟨Inj.le_trans c.ext.1 hle, fun o ho' => (ho o (by omega)).trans (c.ext.2.1 o ho'), c.ext.2.2⟩
          · intro j hj h3; exact (hL' j).2 (.inl (c.wr j hj h3))
      · exact absurd (c.wr i hEi h3) hnl
end
end Go.Vm

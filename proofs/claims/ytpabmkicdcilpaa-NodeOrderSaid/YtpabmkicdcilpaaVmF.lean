/- New objects, loads and stores, maps. -/
import Derived.Test.YtpabmkicdcilpaaVmE
namespace Go.Vm
open Go.RowKit
set_option linter.unusedSimpArgs false
set_option linter.unusedVariables false
section
variable {P : Program} {o : Oper}

/-! ### new objects -/
theorem cells_new {N : Nat} {μ : Inj} {w : World} (hN : N ≤ w.heap.size) {l : List AV} {C : Array Value} (hr : VRels μ l C.toList) {size : Nat} (hs : C.size = size) {e : TypeId} {fz : Nat × Nat} (hfz : fz.1 = fz.2)
    (id : Nat) (w' : World) (hid : μ id = none) (hw : w'.heap[w.heap.size]? = some (.cells C e fz)) : ORel (Inj.add μ id (w.heap.size, 0, size)) N w' (.cells l true) w.heap.size 0 size := by
  have hl : l.length = size := by have := hr.1; simp at this; omega
  refine ⟨C, e, fz, hw, hs, by omega, fun i u v hu hv => ?_, by rw [if_pos rfl]; exact ⟨hN, hfz⟩⟩
  rw [Nat.zero_add] at hv
  exact (hr.2 i u v hu (by simpa using hv)).mono (Inj.le_add _ hid)
theorem cells_new_more {N : Nat} {μ : Inj} {w : World} (hN : N ≤ w.heap.size) {l : List AV} {C : Array Value} {us : List Value} (hr : VRels μ l us) (hC : ∀ (i : Nat) (u : Value), us[i]? = some u → C[i]? = some u) {size : Nat} (hs : C.size = size) (hlen : us.length ≤ size)
    {e : TypeId} {fz : Nat × Nat} (hfz : fz.1 = fz.2)
    (id : Nat) (w' : World) (hid : μ id = none) (hw : w'.heap[w.heap.size]? = some (.cells C e fz)) : ORel (Inj.add μ id (w.heap.size, 0, size)) N w' (.cells l true) w.heap.size 0 size := by
  have hl := hr.1
  refine ⟨C, e, fz, hw, hs, by omega, fun i u v hu hv => ?_, by rw [if_pos rfl]; exact ⟨hN, hfz⟩⟩
  rw [Nat.zero_add] at hv
  obtain ⟨y, hy, hyr⟩ := hr.get hu
  rw [hC i y hy] at hv
  cases hv
  exact hyr.mono (Inj.le_add _ hid)
theorem marked_new_more {N : Nat} {μ : Inj} {w : World} (hN : N ≤ w.heap.size) {l : List AV} {C : Array Value} {us : List Value} (hr : VRels μ l us) (hC : ∀ (i : Nat) (u : Value), us[i]? = some u → C[i]? = some u) {size : Nat} (hs : C.size = size) (hlen : us.length ≤ size)
    {e : TypeId} {fz : Nat × Nat} (hfz : fz.1 = fz.2 ∨ size ≤ fz.1)
    (id : Nat) (w' : World) (hid : μ id = none) (hw : w'.heap[w.heap.size]? = some (.cells C e fz)) : ORel (Inj.add μ id (w.heap.size, 0, size)) N w' (.marked l) w.heap.size 0 size := by
  have hl := hr.1
  refine ⟨C, e, fz, hw, hs, by omega, fun i u v hu hv => ?_, ⟨hN, hfz⟩⟩
  rw [Nat.zero_add] at hv
  obtain ⟨y, hy, hyr⟩ := hr.get hu
  rw [hC i y hy] at hv
  cases hv
  exact hyr.mono (Inj.le_add _ hid)
theorem ok_new {e : TypeId} {inf : TypeInfo} {z : Value} {l : List AV} (ho : o.op = .alloc e) (hi : P.info? e = some inf) (hz : inf.zero = some z) (hl : cLeaves z.cells.toList = some l) : MakeOk P o (.new l) := by
  intro f h res he
  cases he
  refine ⟨fun id => .ptr id 0, .cells l true, rfl, fun _ => rfl, fun _ => rfl, fun N μ a w hN hr => ⟨.cells z.cells e (0, 0), z.cells.size, w.drawn, .pointer (some ⟨w.heap.size, 0, none⟩), ?_, fun id hid => ?_, ?_⟩⟩
  · simp [execOp, ho, Instr.alloc, zeroValue, typeInfo, hi, hz, newVar, newRow]
  · exact .ptr (off := 0) (Inj.add_self _ _ _)
  · exact cells_new hN (cLeaves_rel hl μ) rfl rfl
theorem ok_box {e : TypeId} {x : Operand} {x' : AOpd} (ho : o.op = .box e x) (hx : cOpd x = some x') : MakeOk P o (.box x') := by
  intro f h res he
  simp only [AOp.eval] at he
  split at he
  · rename_i hd
    cases he
    refine ⟨fun id => .ptr id 0, .cells (x'.val f).cells true, rfl, fun _ => rfl, fun h₂ => by simp [AOp.eval, hd], fun N μ a w hN hr => ⟨.cells (a.eval x).cells e (0, 0), (a.eval x).cells.size, w.drawn, .pointer (some ⟨w.heap.size, 0, none⟩), ?_, fun id hid => ?_, ?_⟩⟩
    · simp [execOp, ho, Instr.box, newVar, newRow]
    · exact .ptr (off := 0) (Inj.add_self _ _ _)
    · exact cells_new hN ((cOpd_rel hx hr).cells (isDef_ne hd)) rfl rfl
  · cases he

/-- The parts of a literal. -/
def cParts (place : Nat → Option (Nat × Nat)) : List (Nat × Operand) → Option (List (Nat × Nat × AOpd))
  | [] => some []
  | (i, x) :: r => match place i, cOpd x, cParts place r with
    | some (off, n), some y, some l => some ((off, n, y) :: l)
    | _, _, _ => none
theorem cParts_rel {place : Nat → Option (Nat × Nat)} : ∀ {ps : List (Nat × Operand)} {qs : List (Nat × Nat × AOpd)}, cParts place ps = some qs → ∀ {μ : Inj} {f : Fr} {a : Act}, ORels μ f a →
    (qs.map fun p => (p.1, p.2.1, p.2.2.val f)).length = (ps.map fun p => (p.1, a.eval p.2)).length ∧
    ∀ (i : Nat) (p : Nat × Nat × AV) (q : Nat × Value), (qs.map fun p => (p.1, p.2.1, p.2.2.val f))[i]? = some p → (ps.map fun p => (p.1, a.eval p.2))[i]? = some q → place q.1 = some (p.1, p.2.1) ∧ VRel μ p.2.2 q.2
  | [], qs, hq, μ, f, a, hr => by cases hq; exact ⟨rfl, by simp⟩
  | (i, x) :: r, qs, hq, μ, f, a, hr => by
    simp only [cParts] at hq
    split at hq
    · rename_i off n y l hp hx hl
      cases hq
      obtain ⟨h1, h2⟩ := cParts_rel hl hr
      refine ⟨by simpa using h1, fun j p q hp' hq' => ?_⟩
      cases j with
      | zero => simp at hp' hq'; subst hp' hq'; exact ⟨hp, cOpd_rel hx hr⟩
      | succ j => simp at hp' hq'; exact h2 j p q (by simpa using hp') (by simpa using hq')
    · cases hq
def structPlaces (P : Program) (fs : Array Field) : Option (List (Nat × Nat)) := fs.toList.mapM fun f => (P.info? f.type).map fun i => (f.offset, i.size)
theorem ok_build {t : TypeId} {parts : Array (Nat × Operand)} {qs : List (Nat × Nat × AOpd)} {inf : TypeInfo} {z : Value} {l : List AV} {place : Nat → Option (Nat × Nat)} (ho : o.op = .build t parts)
    (hi : P.info? t = some inf) (hz : inf.zero = some z) (hl : cLeaves z.cells.toList = some l) (hp : cParts place parts.toList = some qs)
    (hpl : (∃ fs places, P.underlying t = some (.struct fs) ∧ structPlaces P fs = some places ∧ place = fun i => places[i]?) ∨ (∃ n e ie, P.underlying t = some (.array n e) ∧ P.info? e = some ie ∧ place = fun i => some (i * ie.size, ie.size))) :
    PureOk P o (.build l qs) := by
  intro f h res he
  simp only [AOp.eval] at he
  cases hf : fillV l (qs.map fun p => (p.1, p.2.1, p.2.2.val f)) with
  | none => simp [hf] at he
  | some r =>
    simp [hf] at he
    subst he
    refine ⟨_, rfl, fun h₂ => by simp [AOp.eval, hf], fun μ a w hr => ?_⟩
    obtain ⟨h1, h2⟩ := cParts_rel hp hr
    obtain ⟨C', hC, hrel⟩ := fill_rel _ _ _ _ _ h1 h2 (cLeaves_rel hl μ) hf
    refine ⟨.agg C', VRel.agg_iff.2 ⟨_, rfl, hrel⟩, run_value (s := Instr.build t (parts.map fun (i, x) => (i, a.eval x))) ?_ (by simp only [execOp, ho])⟩
    refine run_build w t _ _ ?_
    have e : (parts.map fun (i, x) => (i, a.eval x)).toList = parts.toList.map fun p => (p.1, a.eval p.2) := by simp
    rw [e]
    unfold Program.built
    rcases hpl with ⟨fs, places, hu, hpp, rfl⟩ | ⟨n, e', ie, hu, hie, rfl⟩
    · unfold structPlaces at hpp
      simp only [hi, hu, hz, hpp]
      simpa using hC
    · simp only [hi, hu, hz, hie]
      exact hC
theorem ok_buildSlice {t e : TypeId} {len : Nat} {parts : Array (Nat × Operand)} {qs : List (Nat × Nat × AOpd)} {inf : TypeInfo} {zc : Array Value} {l : List AV} (ho : o.op = .buildSlice t len parts)
    (ht : P.underlying t = some (.slice e)) (hi : P.info? e = some inf) (hz : len * inf.size = 0 ∧ zc = #[] ∨ len * inf.size ≠ 0 ∧ inf.zero.map Value.cells = some zc) (hle : len * inf.size ≤ 2 ^ 24)
    (hl : cLeaves ((Array.range (len * inf.size)).map (zc[· % zc.size]!)).toList = some l) (hp : cParts (fun i => some (i * inf.size, inf.size)) parts.toList = some qs) :
    MakeOk P o (.buildSlice inf.size len l qs) := by
  intro f h res he
  simp only [AOp.eval] at he
  cases hf : fillV l (qs.map fun p => (p.1, p.2.1, p.2.2.val f)) with
  | none => simp [hf] at he
  | some r =>
    simp [hf] at he
    subst he
    refine ⟨fun id => .slice id 0 inf.size len len true, .cells r true, rfl, fun _ => rfl, fun h₂ => by simp [AOp.eval, hf], fun N μ a w hN hr => ?_⟩
    obtain ⟨h1, h2⟩ := cParts_rel hp hr
    obtain ⟨C', hC, hrel⟩ := fill_rel (place := fun i => some (i * inf.size, inf.size)) _ _ _ _ _ h1 h2 (cLeaves_rel hl μ) hf
    have hlenr : ∀ (ps : List (Nat × Nat × AV)) (l r : List AV), fillV l ps = some r → r.length = l.length := by
      intro ps
      induction ps with
      | nil => intro l r hf; simp only [fillV, Option.some.injEq] at hf; subst hf; rfl
      | cons p ps ih =>
        intro l r hf
        obtain ⟨off, n, v⟩ := p
        simp only [fillV] at hf
        split at hf
        · rename_i hc
          have := ih _ _ hf
          have hset : ∀ (vs l : List AV) (i : Nat), (setMany l i vs).length = l.length := by
            intro vs
            induction vs with
            | nil => intro l i; rfl
            | cons v vs ih2 => intro l i; simp only [setMany]; rw [ih2]; simp
          rw [this, hset]
        · cases hf
    have hCs : C'.size = len * inf.size := by
      have e1 := hrel.1
      have e2 := hlenr _ _ _ hf
      have e3 := (cLeaves_rel hl (fun _ => none)).1
      simp at e1 e3
      omega
    refine ⟨.cells C' e (0, 0), C'.size, w.drawn, .slice (some ⟨w.heap.size, 0, none⟩) len len, ?_, fun id hid => ?_, ?_⟩
    · refine run_value2 (s := Instr.buildSlice t len (parts.map fun (i, x) => (i, a.eval x))) ?_ (by simp only [execOp, ho])
      have e1 : (parts.map fun (i, x) => (i, a.eval x)).toList = parts.toList.map fun p => (p.1, a.eval p.2) := by simp
      unfold Instr.buildSlice
      rcases hz with ⟨h0, rfl⟩ | ⟨h0, hzz⟩
      · simp only [Sem.run_bind, run_underlying ht, Result.andThen_ok, run_sizeOf' hi, Sem.run_ite, if_neg (show ¬ len * inf.size > 2 ^ 24 by omega), if_pos h0, Sem.run_pure, e1, hC, newRow, run_newObj]
      · cases hzv : inf.zero with
        | none => simp [hzv] at hzz
        | some z =>
          simp [hzv] at hzz
          subst hzz
          have hzr : ∀ w, (zeroValue e).run P w = .ok z w := fun w => by simp [zeroValue, typeInfo, hi, hzv]
          simp only [Sem.run_bind, run_underlying ht, Result.andThen_ok, run_sizeOf' hi, Sem.run_ite, if_neg (show ¬ len * inf.size > 2 ^ 24 by omega), if_neg h0, Sem.run_pure, hzr, e1, hC, newRow, run_newObj]
    · exact .slice (Inj.add_self _ _ _) (Nat.le_refl _) (by simp) (by rw [hCs]; omega) (.inl rfl)
    · exact cells_new hN hrel rfl rfl
end
end Go.Vm

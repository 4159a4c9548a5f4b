/- More steps: methods by interface values, assertions, maps, fields of arrays, regions whose order is drawn. -/
import Derived.Test.YtpabmkicdcilpaaVmZ
namespace Go.Vm
open Go.RowKit
set_option linter.unusedSimpArgs false
set_option linter.unusedVariables false
section
variable {call : Handler} {f : Fr} {h : AH} {T : Prog}
def meth (call : Handler) (h : AH) (m : Option (Nat × Nat × Recv)) (v : AV) (args : List AV) : Option (AV × AH) :=
  match m with
  | some (_, g, .self) => call g (v :: args) h
  | some (_, g, .deref agg n) => (loadV h agg n v).bind fun u => call g (u :: args) h
  | none => none
def callMV (call : Handler) (h : AH) (table : List (Nat × Nat × Recv)) (r : AV) (args : List AV) : Option (AV × AH) :=
  match r with
  | .iface t v => meth call h (table.find? fun r => r.1 == t) v args
  | _ => none
theorem step_callM {table : List (Nat × Nat × Recv)} {recv : AOpd} {args : List AOpd} : stepV call (.callM table recv args) f h = callMV call h table (recv.val f) (args.map (·.val f)) := by
  unfold stepV callMV
  simp only [AOp.eval]
  generalize recv.val f = r
  cases r <;> try rfl
  rename_i t v
  simp only
  generalize table.find? (fun r => r.1 == t) = m
  cases m with
  | none => rfl
  | some m =>
    obtain ⟨a, g, r⟩ := m
    cases r with
    | self => rfl
    | deref agg n =>
      simp only [meth]
      cases v <;> try rfl
      rename_i o off
      simp only [loadV]
      cases agg
      · simp only [Bool.false_eq_true, if_false]
        generalize h.load o off 1 = l
        cases l with
        | none => rfl
        | some l =>
          cases l with
          | nil => rfl
          | cons x r => cases r <;> rfl
      · simp only [if_true]
        generalize h.load o off n = l
        cases l <;> rfl
theorem callMV_iface {table : List (Nat × Nat × Recv)} {t : Nat} {v : AV} {args : List AV} : callMV call h table (.iface t v) args = meth call h (table.find? fun r => r.1 == t) v args := rfl
theorem meth_self {t g : Nat} {v : AV} {args : List AV} : meth call h (some (t, g, .self)) v args = call g (v :: args) h := rfl
theorem meth_deref {t g n : Nat} {b : Bool} {v : AV} {args : List AV} : meth call h (some (t, g, .deref b n)) v args = (loadV h b n v).bind fun u => call g (u :: args) h := rfl
theorem find_cons {p : Nat × Nat × Recv → Bool} {a : Nat × Nat × Recv} {l : List (Nat × Nat × Recv)} : (a :: l).find? p = bif p a then some a else l.find? p := by
  rw [List.find?_cons]; cases p a <;> rfl
theorem bif_true {α : Type} {a b : α} : (bif true then a else b) = a := rfl
theorem bif_false {α : Type} {a b : α} : (bif false then a else b) = b := rfl
theorem step_mkIface {t : Nat} {x : AOpd} : stepV call (.mkIface t x) f h = some (.iface t (x.val f), h) := rfl
theorem step_mkMap : stepV call .mkMap f h = some (.map h.next, h.new (.map [])) := rfl
def assertV (t : Nat) (zero : AV) (ok : Bool) (v : AV) : Option AV :=
  match v with
  | .iface u w => if u = t then some (if ok then .tuple [w, .bool true] else w) else if ok then some (.tuple [zero, .bool false]) else none
  | .nilIface => if ok then some (.tuple [zero, .bool false]) else none
  | _ => none
theorem step_assertT {t : Nat} {zero : AV} {ok : Bool} {x : AOpd} : stepV call (.assertT t zero ok x) f h = (assertV t zero ok (x.val f)).map fun v => (v, h) :=
  stepV_map (by
    simp only [AOp.eval]; generalize x.val f = p
    cases p <;> try rfl
    · rename_i u w
      simp only [assertV]
      by_cases e : u = t
      · simp only [e, if_true]; cases ok <;> rfl
      · simp only [e, if_false]; cases ok <;> rfl
    · simp only [assertV]; cases ok <;> rfl)
theorem assert_same {t : Nat} {zero w : AV} : assertV t zero false (.iface t w) = some w := by simp [assertV]
theorem assert_same_ok {t : Nat} {zero w : AV} : assertV t zero true (.iface t w) = some (.tuple [w, .bool true]) := by simp [assertV]
def lookV (zero : AV) (ok : Bool) (r : Option (Nat × AV)) : AV :=
  match r with
  | some (_, v) => if ok then .tuple [v, .bool true] else v
  | none => if ok then .tuple [zero, .bool false] else zero
def lookupV (h : AH) (kk : Nat) (zero : AV) (ok : Bool) (m k : AV) : Option AV :=
  match m with
  | .nilMap => some (lookV zero ok none)
  | .map o => match h.get o with
    | some (.map es) => (findV kk k es 0).map (lookV zero ok)
    | _ => none
  | _ => none
theorem step_lookup {kk : Nat} {zero : AV} {ok : Bool} {m k : AOpd} : stepV call (.lookup kk zero ok m k) f h = (lookupV h kk zero ok (m.val f) (k.val f)).map fun v => (v, h) :=
  stepV_map (by
    have hl : ∀ r : Option (Nat × AV), (match r with
        | some (_, v) => ARes.val (if ok then .tuple [v, .bool true] else v) h
        | none => .val (if ok then .tuple [zero, .bool false] else zero) h) = .val (lookV zero ok r) h := by
      intro r; cases r <;> rfl
    simp only [AOp.eval]; generalize m.val f = p
    cases p <;> try rfl
    rename_i o
    simp only [lookupV]
    generalize h.get o = x
    cases x with
    | none => rfl
    | some x =>
      cases x <;> try rfl
      rename_i es
      simp only
      generalize findV kk (k.val f) es 0 = r
      cases r with
      | none => rfl
      | some r => simp only [Option.map_some]; rw [← hl r]; cases r <;> rfl)
def mapUpdV (h : AH) (kk : Nat) (m k v : AV) : Option AH :=
  match m with
  | .map o => match h.get o with
    | some (.map es) => (findV kk k es 0).map fun r => match r with
      | some (i, _) => h.set o (.map (es.set i (k, v)))
      | none => h.set o (.map (es ++ [(k, v)]))
    | _ => none
  | _ => none
theorem step_mapUpd {kk : Nat} {m k v : AOpd} : stepV call (.mapUpd kk m k v) f h = (mapUpdV h kk (m.val f) (k.val f) (v.val f)).map fun h' => (.none, h') :=
  stepV_val (by
    simp only [AOp.eval]; generalize m.val f = p
    cases p <;> try rfl
    rename_i o
    simp only [mapUpdV]
    generalize h.get o = x
    cases x with
    | none => rfl
    | some x =>
      cases x <;> try rfl
      rename_i es
      simp only
      generalize findV kk (k.val f) es 0 = r
      cases r with
      | none => rfl
      | some r => cases r <;> rfl)
def delV (h : AH) (kk : Nat) (m k : AV) : Option AH :=
  match m with
  | .map o => match h.get o with
    | some (.map es) => (findV kk k es 0).map fun r => match r with
      | some (i, _) => h.set o (.map (es.eraseIdx i))
      | none => h
    | _ => none
  | _ => none
theorem step_del {kk : Nat} {m k : AOpd} : stepV call (.del kk m k) f h = (delV h kk (m.val f) (k.val f)).map fun h' => (.none, h') :=
  stepV_val (by
    simp only [AOp.eval]; generalize m.val f = p
    cases p <;> try rfl
    rename_i o
    simp only [delV]
    generalize h.get o = x
    cases x with
    | none => rfl
    | some x =>
      cases x <;> try rfl
      rename_i es
      simp only
      generalize findV kk (k.val f) es 0 = r
      cases r with
      | none => rfl
      | some r => cases r <;> rfl)
def idxArrV (g : Bool) (n sz : Nat) : AV → AV → Option AV
  | .agg l, .int _ i => if 0 ≤ i ∧ i.toNat < n then partV g l (i.toNat * sz) sz else none
  | _, _ => none
theorem step_idxArr {g : Bool} {n sz : Nat} {x i : AOpd} : stepV call (.idxArr g n sz x i) f h = (idxArrV g n sz (x.val f) (i.val f)).map fun v => (v, h) :=
  stepV_map (by
    simp only [AOp.eval]; generalize x.val f = p; generalize i.val f = q
    cases p <;> try rfl
    cases q <;> try rfl
    rename_i l k i
    simp only [natOf, idxArrV]
    by_cases h1 : 0 ≤ i
    · simp only [h1, if_true, true_and]
      by_cases h2 : i.toNat < n
      · rw [if_pos h2, if_pos h2]
      · rw [if_neg h2, if_neg h2]; rfl
    · simp only [h1, if_false, false_and]; rfl)
def idxRowV (n sz : Nat) : AV → AV → Option AV
  | .ptr o off, .int _ i => if 0 ≤ i ∧ i.toNat < n then some (.ptr o (off + i.toNat * sz)) else none
  | _, _ => none
theorem step_idxAddrArr {n sz : Nat} {x i : AOpd} : stepV call (.idxAddrArr n sz x i) f h = (idxRowV n sz (x.val f) (i.val f)).map fun v => (v, h) :=
  stepV_map (by
    simp only [AOp.eval]; generalize x.val f = p; generalize i.val f = q
    cases p <;> try rfl
    cases q <;> try rfl
    rename_i o off k i
    simp only [natOf, idxRowV]
    by_cases h1 : 0 ≤ i
    · simp only [h1, if_true, true_and]
      by_cases h2 : i.toNat < n
      · rw [if_pos h2, if_pos h2]; rfl
      · rw [if_neg h2, if_neg h2]; rfl
    · simp only [h1, if_false, false_and]; rfl)

/-! ### regions whose order is drawn -/
def restI (call : Handler) (r : List DItem) (d : Option Nat) (f : Fr) (p : AV × AH) : Option (Fr × AH) := runItems call r (f.put d p.1) p.2
theorem restI_mk {r : List DItem} {d : Option Nat} {v : AV} : restI call r d f (v, h) = runItems call r (f.put d v) h := rfl
theorem items_nil : runItems call [] f h = some (f, h) := rfl
theorem items_next {d : Option Nat} {o : AOp} {r : List DItem} : runItems call (.op ⟨d, o, none⟩ :: r) f h = (stepV call o f h).bind (restI call r d f) := by
  have h1 := ops_next (call := call) (f := f) (h := h) (d := d) (o := o) (r := [])
  simp only [runOps] at h1
  simp only [runItems]
  cases ho : AOper.run call ⟨d, o, none⟩ f h with
  | none =>
    rw [ho] at h1
    cases hs : stepV call o f h with
    | none => rfl
    | some p => rw [hs] at h1; cases h1
  | some p =>
    rw [ho] at h1
    cases hs : stepV call o f h with
    | none => rw [hs] at h1; cases h1
    | some q =>
      rw [hs] at h1
      have h2 : p = (f.put d q.1, q.2) := by
        simp only [Option.bind_some, rest, runOps] at h1
        exact Option.some.inj h1
      subst h2
      rfl
theorem items_look {o : AOper} {r : List DItem} (hl : o.lookAgain f h = true) : runItems call (.look o :: r) f h = runItems call r f h := by
  simp only [runItems, hl, if_true]
theorem wpc_draw {l : List DItem} {Q : AExit → Fr → AH → Prop} : Wp (code T (.draw l) f h) Q ↔ Wo (runItems (run T) l f h) (Q .normal) := by
  rw [code_draw]
  constructor
  · rintro ⟨e, f', h', hr, hq⟩
    cases hc : runItems (run T) l f h with
    | none => simp [hc] at hr
    | some p => simp [hc] at hr; obtain ⟨rfl, rfl, rfl⟩ := hr; exact ⟨p, rfl, hq⟩
  · rintro ⟨p, hp, hq⟩
    exact ⟨_, _, _, by rw [hp]; rfl, hq⟩
theorem look_load {d n : Nat} {g : Bool} {a : AOpd} {v : AV} (hl : loadV h g n (a.val f) = some v) (hd : f.at d = v) (hv : AV.beq v v = true) : AOper.lookAgain ⟨some d, .load g n a, none⟩ f h = true := by
  have := step_load (call := fun _ _ _ => none) (f := f) (h := h) (g := g) (n := n) (a := a)
  rw [hl] at this
  unfold stepV at this
  unfold AOper.lookAgain
  simp only [wantedV]
  cases he : AOp.eval f h (.load g n a) with
  | none => rw [he] at this; cases this
  | some r =>
    rw [he] at this
    cases r with
    | val u h2 =>
      simp only [Option.map_some, Option.some.injEq, Prod.mk.injEq] at this
      obtain ⟨rfl, rfl⟩ := this
      simp [hd, hv]
    | call g args => cases this
theorem look_build {d sz len : Nat} {zero l : List AV} {parts : List (Nat × Nat × AOpd)} {q : Nat} (hf : fillV zero (parts.map fun p => (p.1, p.2.1, p.2.2.val f)) = some l) (hd : objOf (f.at d) = some q) (hq : h.get q = some (.cells l true)) (hl : AV.beqs l l = true) :
    AOper.lookAgain ⟨some d, .buildSlice sz len zero parts, none⟩ f h = true := by
  unfold AOper.lookAgain
  simp only [wantedV, AOp.eval, hf, Option.map_some]
  rw [if_neg (by rw [next_new]; omega), hd, show objOf (.slice h.next 0 sz len len true) = some h.next from rfl]
  simp only [get_new_same, hq, beqObj, hl]
  rfl
end
end Go.Vm

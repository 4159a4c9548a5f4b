/- Rules for proofs about the machine's code: steps, branches, loops, slices. -/
import Derived.Test.YtpabmkicdcilpaaVmU
namespace Go.Vm
open Go.RowKit
set_option linter.unusedSimpArgs false
set_option linter.unusedVariables false

/-! ### steps -/
def stepV (call : Handler) (o : AOp) (f : Fr) (h : AH) : Option (AV × AH) :=
  match o.eval f h with
  | some (.val v h') => some (v, h')
  | some (.call g args) => call g args h
  | none => none
def guardV (f : Fr) (t : Nat) (want : Bool) (x : Option (AV × AH)) (h : AH) : Option (AV × AH) :=
  match f.at t with
  | .bool b => if b = want then x else some (.none, h)
  | .tuple _ => some (.none, h)
  | _ => none
section
variable {call : Handler} {f : Fr} {h : AH} {T : Prog}
theorem ops_nil : runOps call [] f h = some (f, h) := rfl
theorem ops_cons {d : Option Nat} {o : AOp} {r : List AOper} : runOps call (⟨d, o, none⟩ :: r) f h = (stepV call o f h).bind fun p => runOps call r (f.put d p.1) p.2 := by
  simp only [runOps, AOper.run, wantedV, stepV]
  cases he : o.eval f h with
  | none => simp
  | some res =>
    cases res with
    | val v h2 => simp
    | call g args => simp only [Option.map]; cases call g args h <;> rfl
theorem ops_guard {d : Option Nat} {o : AOp} {t : Nat} {w : Bool} {r : List AOper} : runOps call (⟨d, o, some (t, w)⟩ :: r) f h = (guardV f t w (stepV call o f h) h).bind fun p => runOps call r (f.put d p.1) p.2 := by
  simp only [runOps, AOper.run, wantedV, stepV, guardV]
  cases hv : f.at t with
  | bool b =>
    simp only
    by_cases e : b = w
    · subst e
      simp only [beq_self_eq_true, if_true]
      cases he : o.eval f h with
      | none => simp
      | some res =>
        cases res with
        | val v h2 => simp
        | call g args => simp only [Option.map]; cases call g args h <;> rfl
    · have : (b == w) = false := by simpa using e
      simp only [this, if_neg e, Option.bind_some]
  | tuple l => simp
  | _ => simp
theorem guardV_bool {t : Nat} {b w : Bool} {x : Option (AV × AH)} (hf : f.at t = .bool b) : guardV f t w x h = if b = w then x else some (.none, h) := by simp [guardV, hf]

/-! what each operation does -/
def idxAddrV (sz : Nat) : AV → AV → Option AV
  | .slice o off z len _ _, .int _ i => if z = sz ∧ 0 ≤ i ∧ i.toNat < len then some (.ptr o (off + i.toNat * sz)) else none
  | _, _ => none
def loadV (h : AH) (g : Bool) (n : Nat) : AV → Option AV
  | .ptr o off => if g then (h.load o off n).map .agg
    else match h.load o off 1 with
      | some [v] => some v
      | _ => none
  | _ => none
def storeV (h : AH) (n : Nat) (a v : AV) : Option AH :=
  match a with
  | .ptr o off => if v.cells.length = n then h.store o off v.cells else none
  | _ => none
def pickV (c a b : AV) : Option AV :=
  match c with
  | .bool t => some (if t then a else b)
  | _ => none
def eqBV (neg : Bool) : AV → AV → Option AV
  | .bool a, .bool b => some (.bool (if neg then !(a == b) else (a == b)))
  | _, _ => none
def toIntV (k : IntKind) : AV → Option AV
  | .int _ n => some (.int k (k.wrap n))
  | _ => none
def lenStrV : AV → Option AV
  | .str s => some (.int .i64 s.length)
  | _ => none
def extractV (i : Nat) : AV → Option AV
  | .tuple l => l[i]?
  | _ => none
def fieldAddrV (off : Nat) : AV → Option AV
  | .ptr o i => some (.ptr o (i + off))
  | _ => none
def fieldV (g : Bool) (off n : Nat) : AV → Option AV
  | .agg l => partV g l off n
  | _ => none
def idxStrV : AV → AV → Option AV
  | .str s, .int _ i => if 0 ≤ i then (s[i.toNat]?).map fun b => .int .u8 b.toNat else none
  | _, _ => none
def slcV (sz : Nat) (x : AV) (lo hi mx : Option AV) : Option AV :=
  match x with
  | .nilSlice => (bounds 0 0 lo hi mx).map fun _ => .nilSlice
  | .slice o off z len cap ex => if z = sz then
      (bounds len cap lo hi mx).map fun (l, e, m) =>
        .slice o (if (ex || mx.isSome) && decide (m = l) then off else off + l * sz) sz (e - l) (m - l) (ex || mx.isSome)
    else none
  | _ => none
def slcStrV (x : AV) (lo hi : Option AV) : Option AV :=
  match x with
  | .str s => (bounds s.length s.length lo hi none).map fun (l, e, _) => .str ((s.drop l).take (e - l))
  | _ => none
def mkSliceV (h : AH) (sz bytes : Nat) (zero : List AV) (l c : AV) : Option (AV × AH) :=
  match natOf l, natOf c with
  | some l, some c => if l ≤ c ∧ c ≤ 9223372036854775807 ∧ bytes * c ≤ 281474976710656 then some (.slice h.next 0 sz l c true, h.new (.cells (rep zero c) true)) else none
  | _, _ => none
def toStrV (h : AH) : AV → Option AV
  | .nilSlice => some (.str [])
  | .slice o off z len _ _ => if z = 1 then (h.load o off len).bind fun l => (strOf l).map .str else none
  | _ => none
def nilChkV : AV → Option AV
  | .ptr o i => some (.ptr o i)
  | .slice o i s l c e => some (.slice o i s l c e)
  | .map o => some (.map o)
  | .nilMap => some .nilMap
  | .func (.func g) a b => some (.func (.func g) a b)
  | _ => none
def appV (sz bytes : Nat) (h : AH) (s x : AV) : Option (AV × AH) := (lenOfV x).bind fun n => (h.elems sz n x).bind fun new => appendV sz bytes s new n h
def copyV (sz : Nat) (h : AH) (d s : AV) : Option (AV × AH) := (lenOfV d).bind fun nd => (lenOfV s).bind fun ns =>
  (h.elems sz (min ns nd) s).bind fun l =>
    match d with
    | .slice o off z _ _ _ => if z = sz then
        if l.isEmpty then some (.int .i64 (min ns nd : Nat), h) else (h.store o off l).map fun h' => (.int .i64 (min ns nd : Nat), h')
      else none
    | _ => some (.int .i64 0, h)

theorem stepV_val {o : AOp} {r : Option (AV × AH)} (he : o.eval f h = r.map fun p => .val p.1 p.2) : stepV call o f h = r := by
  unfold stepV; rw [he]; cases r <;> rfl
theorem stepV_map {o : AOp} {r : Option AV} (he : o.eval f h = r.map fun v => .val v h) : stepV call o f h = r.map fun v => (v, h) :=
  stepV_val (by rw [he]; cases r <;> rfl)
theorem step_mov {x : AOpd} : stepV call (.mov x) f h = some (x.val f, h) := rfl
theorem step_bin {op : BinOp} {x y : AOpd} : stepV call (.bin op x y) f h = (binV op (x.val f) (y.val f)).map fun v => (v, h) := stepV_map (by simp only [AOp.eval])
theorem step_un {op : UnOp} {x : AOpd} : stepV call (.un op x) f h = (unV op (x.val f)).map fun v => (v, h) := stepV_map (by simp only [AOp.eval])
theorem step_pick {c x y : AOpd} : stepV call (.pick c x y) f h = (pickV (c.val f) (x.val f) (y.val f)).map fun v => (v, h) :=
  stepV_map (by simp only [AOp.eval]; generalize c.val f = p; cases p <;> rfl)
theorem step_eqB {n : Bool} {x y : AOpd} : stepV call (.eqB n x y) f h = (eqBV n (x.val f) (y.val f)).map fun v => (v, h) :=
  stepV_map (by
    simp only [AOp.eval]; generalize x.val f = p; generalize y.val f = q
    cases p with
    | bool a => cases q <;> rfl
    | _ => rfl)
theorem step_eqNil {k : Nat} {n : Bool} {x y : AOpd} : stepV call (.eqNil k n x y) f h = (eqNilV k (x.val f) (y.val f)).map fun b => (.bool (if n then !b else b), h) :=
  stepV_val (by simp only [AOp.eval]; generalize eqNilV k (x.val f) (y.val f) = p; cases p <;> rfl)
theorem step_toInt {k : IntKind} {x : AOpd} : stepV call (.toInt k x) f h = (toIntV k (x.val f)).map fun v => (v, h) :=
  stepV_map (by simp only [AOp.eval]; generalize x.val f = p; cases p <;> rfl)
theorem step_lenStr {x : AOpd} : stepV call (.lenStr x) f h = (lenStrV (x.val f)).map fun v => (v, h) :=
  stepV_map (by simp only [AOp.eval]; generalize x.val f = p; cases p <;> rfl)
theorem step_lenSlice {x : AOpd} : stepV call (.lenSlice x) f h = (lenOfV (x.val f)).map fun (n : Nat) => (.int .i64 n, h) :=
  stepV_val (by simp only [AOp.eval]; generalize lenOfV (x.val f) = p; cases p <;> rfl)
theorem step_extract {x : AOpd} {i : Nat} : stepV call (.extract x i) f h = (extractV i (x.val f)).map fun v => (v, h) :=
  stepV_map (by simp only [AOp.eval]; generalize x.val f = p; cases p <;> rfl)
theorem step_fieldAddr {o : Nat} {x : AOpd} : stepV call (.fieldAddr o x) f h = (fieldAddrV o (x.val f)).map fun v => (v, h) :=
  stepV_map (by simp only [AOp.eval]; generalize x.val f = p; cases p <;> rfl)
theorem step_field {g : Bool} {o n : Nat} {x : AOpd} : stepV call (.field g o n x) f h = (fieldV g o n (x.val f)).map fun v => (v, h) :=
  stepV_map (by simp only [AOp.eval]; generalize x.val f = p; cases p <;> rfl)
theorem step_nilChk {x : AOpd} : stepV call (.nilChk x) f h = (nilChkV (x.val f)).map fun v => (v, h) :=
  stepV_map (by
    simp only [AOp.eval]; generalize x.val f = p
    cases p with
    | func fn a b => cases fn <;> rfl
    | _ => rfl)
theorem step_idxAddr {sz : Nat} {x i : AOpd} : stepV call (.idxAddr sz x i) f h = (idxAddrV sz (x.val f) (i.val f)).map fun v => (v, h) :=
  stepV_map (by
    simp only [AOp.eval]; generalize x.val f = p; generalize i.val f = q
    cases p with
    | slice o off z len c e =>
      cases q with
      | int k n =>
        simp only [natOf, idxAddrV]
        by_cases h1 : 0 ≤ n
        · simp only [h1, if_true, true_and]
          by_cases h2 : z = sz ∧ n.toNat < len
          · rw [if_pos h2, if_pos h2]; rfl
          · rw [if_neg h2, if_neg h2]; rfl
        · simp only [h1, if_false, false_and, and_false]; rfl
      | _ => rfl
    | _ => rfl)
theorem step_idxStr {x i : AOpd} : stepV call (.idxStr x i) f h = (idxStrV (x.val f) (i.val f)).map fun v => (v, h) :=
  stepV_map (by
    simp only [AOp.eval]; generalize x.val f = p; generalize i.val f = q
    cases p with
    | str s =>
      cases q with
      | int k n =>
        simp only [natOf, idxStrV]
        by_cases h1 : 0 ≤ n
        · simp only [h1, if_true]
          cases s[n.toNat]? <;> rfl
        · simp only [h1, if_false]; rfl
      | _ => rfl
    | _ => rfl)
theorem step_load {g : Bool} {n : Nat} {a : AOpd} : stepV call (.load g n a) f h = (loadV h g n (a.val f)).map fun v => (v, h) :=
  stepV_map (by
    simp only [AOp.eval]; generalize a.val f = p
    cases p with
    | ptr o off =>
      simp only [loadV]
      cases g
      · simp only [Bool.false_eq_true, if_false]
        generalize h.load o off 1 = l
        cases l with
        | none => rfl
        | some l =>
          cases l with
          | nil => rfl
          | cons x r => cases r <;> rfl
      · simp only [if_true]
        generalize h.load o off n = l
        cases l <;> rfl
    | _ => rfl)
theorem step_store {n : Nat} {a v : AOpd} : stepV call (.store n a v) f h = (storeV h n (a.val f) (v.val f)).map fun h' => (.none, h') :=
  stepV_val (by
    simp only [AOp.eval]; generalize a.val f = p; generalize v.val f = q
    cases p with
    | ptr o off =>
      simp only [storeV]
      by_cases h1 : q.cells.length = n
      · rw [if_pos h1, if_pos h1]
        generalize h.store o off q.cells = l
        cases l <;> rfl
      · rw [if_neg h1, if_neg h1]; rfl
    | _ => rfl)
theorem step_slc {sz : Nat} {x : AOpd} {lo hi mx : Option AOpd} : stepV call (.slc sz x lo hi mx) f h = (slcV sz (x.val f) (lo.map (·.val f)) (hi.map (·.val f)) (mx.map (·.val f))).map fun v => (v, h) :=
  stepV_map (by
    simp only [AOp.eval]; generalize x.val f = p
    cases p with
    | slice o off z len cap ex =>
      simp only [slcV, Option.isSome_map]
      by_cases h1 : z = sz
      · rw [if_pos h1, if_pos h1]
        generalize bounds len cap _ _ _ = b
        cases b <;> rfl
      · rw [if_neg h1, if_neg h1]; rfl
    | nilSlice =>
      simp only [slcV]
      generalize bounds 0 0 _ _ _ = b
      cases b <;> rfl
    | _ => rfl)
theorem step_slcStr {x : AOpd} {lo hi : Option AOpd} : stepV call (.slcStr x lo hi) f h = (slcStrV (x.val f) (lo.map (·.val f)) (hi.map (·.val f))).map fun v => (v, h) :=
  stepV_map (by
    simp only [AOp.eval]; generalize x.val f = p
    cases p with
    | str s =>
      simp only [slcStrV]
      generalize bounds s.length s.length _ _ _ = b
      cases b <;> rfl
    | _ => rfl)
theorem step_mkSlice {sz bytes : Nat} {zero : List AV} {l c : AOpd} : stepV call (.mkSlice sz bytes zero l c) f h = mkSliceV h sz bytes zero (l.val f) (c.val f) :=
  stepV_val (by
    simp only [AOp.eval, mkSliceV]; generalize natOf (l.val f) = p; generalize natOf (c.val f) = q
    cases p with
    | none => rfl
    | some l =>
      cases q with
      | none => rfl
      | some c =>
        simp only
        by_cases h1 : l ≤ c ∧ c ≤ 9223372036854775807 ∧ bytes * c ≤ 281474976710656
        · rw [if_pos h1, if_pos h1]; rfl
        · rw [if_neg h1, if_neg h1]; rfl)
theorem step_toStr {x : AOpd} : stepV call (.toStr x) f h = (toStrV h (x.val f)).map fun v => (v, h) :=
  stepV_map (by
    simp only [AOp.eval]; generalize x.val f = p
    cases p with
    | slice o off z len cap ex =>
      simp only [toStrV]
      by_cases h1 : z = 1
      · rw [if_pos h1, if_pos h1]
        generalize h.load o off len = l
        cases l with
        | none => rfl
        | some l =>
          simp only [Option.bind_some]
          generalize strOf l = s
          cases s <;> rfl
      · rw [if_neg h1, if_neg h1]; rfl
    | _ => rfl)
theorem step_append {sz bytes : Nat} {s x : AOpd} : stepV call (.append sz bytes s x) f h = appV sz bytes h (s.val f) (x.val f) :=
  stepV_val (by
    simp only [AOp.eval, appV]
    generalize x.val f = p; generalize s.val f = q
    generalize lenOfV p = n
    cases n with
    | none => rfl
    | some n =>
      simp only [Option.bind_some]
      generalize h.elems sz n p = l
      cases l with
      | none => rfl
      | some new => simp only [Option.bind_some])
theorem step_copy {sz : Nat} {d s : AOpd} : stepV call (.copy sz d s) f h = copyV sz h (d.val f) (s.val f) :=
  stepV_val (by
    simp only [AOp.eval, copyV]
    generalize d.val f = p; generalize s.val f = q
    generalize lenOfV p = n
    cases n with
    | none => rfl
    | some nd =>
      generalize lenOfV q = m
      cases m with
      | none => rfl
      | some ns =>
        simp only [Option.bind_some]
        generalize h.elems sz (min ns nd) q = l
        cases l with
        | none => rfl
        | some l =>
          simp only [Option.bind_some]
          cases p with
          | slice o off z len cap ex =>
            simp only
            by_cases h1 : z = sz
            · rw [if_pos h1, if_pos h1]
              cases hl : l.isEmpty
              · simp only [Bool.false_eq_true, if_false]
                generalize h.store o off l = st
                cases st <;> rfl
              · simp only [if_true]; rfl
            · rw [if_neg h1, if_neg h1]; rfl
          | _ => rfl)
theorem step_buildSlice {sz len : Nat} {zero : List AV} {parts : List (Nat × Nat × AOpd)} : stepV call (.buildSlice sz len zero parts) f h =
    (fillV zero (parts.map fun p => (p.1, p.2.1, p.2.2.val f))).map fun l => (.slice h.next 0 sz len len true, h.new (.cells l true)) :=
  stepV_val (by simp only [AOp.eval]; generalize fillV zero _ = b; cases b <;> rfl)
theorem step_build {zero : List AV} {parts : List (Nat × Nat × AOpd)} : stepV call (.build zero parts) f h =
    (fillV zero (parts.map fun p => (p.1, p.2.1, p.2.2.val f))).map fun l => (.agg l, h) :=
  stepV_val (by simp only [AOp.eval]; generalize fillV zero _ = b; cases b <;> rfl)
theorem step_new {zero : List AV} : stepV call (.new zero) f h = some (.ptr h.next 0, h.new (.cells zero true)) := rfl
theorem step_call {g : Nat} {args : List AOpd} : stepV call (.call g args) f h = call g (args.map (·.val f)) h := rfl

/-! ### code -/
/-- Where code comes to. -/
def Wp (r : Out) (Q : AExit → Fr → AH → Prop) : Prop := ∃ e f h, r = some (e, f, h) ∧ Q e f h
theorem Wp_some {e : AExit} {Q : AExit → Fr → AH → Prop} : Wp (some (e, f, h)) Q ↔ Q e f h :=
  ⟨fun ⟨_, _, _, he, hq⟩ => by cases he; exact hq, fun hq => ⟨_, _, _, rfl, hq⟩⟩
theorem Wp.mono {r : Out} {Q Q' : AExit → Fr → AH → Prop} (hw : Wp r Q) (hq : ∀ e f h, Q e f h → Q' e f h) : Wp r Q' := by
  obtain ⟨e, f, h, hr, hq'⟩ := hw
  exact ⟨e, f, h, hr, hq _ _ _ hq'⟩
/-- Behind a normal end the rest. -/
def Then (k : Fr → AH → Prop) (Q : AExit → Fr → AH → Prop) : AExit → Fr → AH → Prop
  | .normal, f, h => k f h
  | e, f, h => Q e f h
theorem Wp_then {r : Out} {k : Fr → AH → Out} {Q : AExit → Fr → AH → Prop} : Wp (thenN r k) Q ↔ Wp r (Then (fun f h => Wp (k f h) Q) Q) := by
  constructor
  · rintro ⟨e, f, h, hr, hq⟩
    cases r with
    | none => cases hr
    | some p =>
      obtain ⟨e', f', h'⟩ := p
      refine ⟨e', f', h', rfl, ?_⟩
      cases e' with
      | normal => exact ⟨e, f, h, hr, hq⟩
      | exit i => cases hr; exact hq
      | ret => cases hr; exact hq
  · rintro ⟨e, f, h, rfl, hq⟩
    cases e with
    | normal => exact hq
    | exit i => exact ⟨_, _, _, rfl, hq⟩
    | ret => exact ⟨_, _, _, rfl, hq⟩
theorem wpc_seq {a b : ACode} {Q : AExit → Fr → AH → Prop} : Wp (code T (.seq a b) f h) Q ↔ Wp (code T a f h) (Then (fun f h => Wp (code T b f h) Q) Q) := by
  rw [code_seq, Wp_then]
/-- Where a list of operations comes to. -/
def Wo (r : Option (Fr × AH)) (Q : Fr → AH → Prop) : Prop := ∃ p, r = some p ∧ Q p.1 p.2
theorem Wo_some {p : Fr × AH} {Q : Fr → AH → Prop} : Wo (some p) Q ↔ Q p.1 p.2 :=
  ⟨fun ⟨_, he, hq⟩ => by cases he; exact hq, fun hq => ⟨_, rfl, hq⟩⟩
theorem Wo_bind {α : Type} {x : Option α} {k : α → Option (Fr × AH)} {Q : Fr → AH → Prop} : Wo (x.bind k) Q ↔ ∃ y, x = some y ∧ Wo (k y) Q := by
  cases x with
  | none => exact ⟨fun ⟨_, he, _⟩ => by (cases he), fun ⟨_, he, _⟩ => by (cases he)⟩
  | some y => exact ⟨fun hq => ⟨y, rfl, hq⟩, fun ⟨_, he, hq⟩ => by cases he; exact hq⟩
theorem wpc_ops {l : List AOper} {Q : AExit → Fr → AH → Prop} : Wp (code T (.ops l) f h) Q ↔ Wo (runOps (run T) l f h) (Q .normal) := by
  rw [code_ops]
  constructor
  · rintro ⟨e, f', h', hr, hq⟩
    cases hc : runOps (run T) l f h with
    | none => simp [hc] at hr
    | some p => simp [hc] at hr; obtain ⟨rfl, rfl, rfl⟩ := hr; exact ⟨p, rfl, hq⟩
  · rintro ⟨p, hp, hq⟩
    exact ⟨_, _, _, by rw [hp]; rfl, hq⟩
theorem wpc_skip {Q : AExit → Fr → AH → Prop} : Wp (code T .skip f h) Q ↔ Q .normal f h := by rw [code_skip, Wp_some]
theorem wpc_exit {id : Nat} {Q : AExit → Fr → AH → Prop} : Wp (code T (.exit id) f h) Q ↔ Q (.exit id) f h := by rw [code_exit, Wp_some]
theorem wpc_ret {Q : AExit → Fr → AH → Prop} : Wp (code T .ret f h) Q ↔ Q .ret f h := by rw [code_ret, Wp_some]
theorem Then_normal {k : Fr → AH → Prop} {Q : AExit → Fr → AH → Prop} : Then k Q .normal f h ↔ k f h := Iff.rfl
theorem Then_exit {k : Fr → AH → Prop} {Q : AExit → Fr → AH → Prop} {id : Nat} : Then k Q (.exit id) f h ↔ Q (.exit id) f h := Iff.rfl
theorem Then_ret {k : Fr → AH → Prop} {Q : AExit → Fr → AH → Prop} : Then k Q .ret f h ↔ Q .ret f h := Iff.rfl
theorem wpc_cond {c : AOpd} {a b : ACode} {t : Bool} {Q : AExit → Fr → AH → Prop} (hc : c.val f = .bool t) (h1 : t = true → Wp (code T a f h) Q) (h2 : t = false → Wp (code T b f h) Q) : Wp (code T (.cond c a b) f h) Q := by
  rw [code_cond, hc, condV_bool]
  cases t
  · exact h2 rfl
  · exact h1 rfl
/-- The end of a block. -/
def InBlock (id : Nat) (Q : AExit → Fr → AH → Prop) : AExit → Fr → AH → Prop
  | .exit i, f, h => if i = id then Q .normal f h else Q (.exit i) f h
  | e, f, h => Q e f h
theorem wpc_block {id : Nat} {c : ACode} {Q : AExit → Fr → AH → Prop} : Wp (code T (.block id c) f h) Q ↔ Wp (code T c f h) (InBlock id Q) := by
  rw [code_block]
  constructor
  · rintro ⟨e, f', h', hr, hq⟩
    cases hc : code T c f h with
    | none => rw [hc] at hr; cases hr
    | some p =>
      obtain ⟨e1, f1, h1⟩ := p
      rw [hc] at hr
      refine ⟨e1, f1, h1, rfl, ?_⟩
      cases e1 with
      | normal => cases hr; exact hq
      | ret => cases hr; exact hq
      | exit i =>
        simp only [leave, Option.some.injEq, Prod.mk.injEq] at hr
        obtain ⟨rfl, rfl, rfl⟩ := hr
        change if i = id then Q .normal f1 h1 else Q (.exit i) f1 h1
        by_cases e : i = id
        · rw [if_pos e] at hq ⊢; exact hq
        · rw [if_neg e] at hq ⊢; exact hq
  · rintro ⟨e, f', h', hr, hq⟩
    rw [hr]
    cases e with
    | normal => exact ⟨_, _, _, rfl, hq⟩
    | ret => exact ⟨_, _, _, rfl, hq⟩
    | exit i =>
      refine ⟨_, _, _, rfl, ?_⟩
      change if i = id then Q .normal f' h' else Q (.exit i) f' h' at hq
      by_cases e : i = id
      · rw [if_pos e] at hq ⊢; exact hq
      · rw [if_neg e] at hq ⊢; exact hq
theorem InBlock_normal {id : Nat} {Q : AExit → Fr → AH → Prop} : InBlock id Q .normal f h ↔ Q .normal f h := Iff.rfl
theorem InBlock_ret {id : Nat} {Q : AExit → Fr → AH → Prop} : InBlock id Q .ret f h ↔ Q .ret f h := Iff.rfl
theorem InBlock_exit {id i : Nat} {Q : AExit → Fr → AH → Prop} : InBlock id Q (.exit i) f h ↔ if i = id then Q .normal f h else Q (.exit i) f h := Iff.rfl
theorem wpc_cond_iff {c : AOpd} {a b : ACode} {t : Bool} {Q : AExit → Fr → AH → Prop} (hc : c.val f = .bool t) : Wp (code T (.cond c a b) f h) Q ↔ if t = true then Wp (code T a f h) Q else Wp (code T b f h) Q := by
  rw [code_cond, hc, condV_bool]
  cases t <;> rfl
/-- A loop with a number that falls. -/
theorem wpc_loop {c : ACode} {Q : AExit → Fr → AH → Prop} (I : Nat → Fr → AH → Prop) (hstep : ∀ n f h, I n f h → Wp (code T c f h) (Then (fun f' h' => ∃ m, m < n ∧ I m f' h') Q)) : ∀ (n : Nat) (f : Fr) (h : AH), I n f h → Wp (code T (.loop c) f h) Q := by
  intro n
  induction n using Nat.strongRecOn with
  | _ n ih =>
    intro f h hI
    rw [code_loop, Wp_then]
    refine (hstep n f h hI).mono ?_
    intro e f' h' hq
    cases e with
    | normal => obtain ⟨m, hm, hI'⟩ := hq; exact ih m hm f' h' hI'
    | exit i => exact hq
    | ret => exact hq

/-- A branch's two ways. -/
def CondW (v : AV) (p q : Prop) : Prop :=
  match v with
  | .bool true => p
  | .bool false => q
  | _ => False
theorem CondW_bool {t : Bool} {p q : Prop} : CondW (.bool t) p q ↔ if t = true then p else q := by cases t <;> rfl
theorem wpc_if {c : AOpd} {a b : ACode} {Q : AExit → Fr → AH → Prop} : Wp (code T (.cond c a b) f h) Q ↔ CondW (c.val f) (Wp (code T a f h) Q) (Wp (code T b f h) Q) := by
  rw [code_cond]
  generalize c.val f = v
  cases v with
  | bool t => cases t <;> rfl
  | _ => exact ⟨(fun ⟨_, _, _, he, _⟩ => by cases he), (fun he => he.elim)⟩
/-- A function's end. -/
def Ends (rs : List AResult) (Q : AV → AH → Prop) : AExit → Fr → AH → Prop
  | .normal, f, h => ∃ l, resultsV f h rs = some l ∧ Q (tupleV l) h
  | .ret, f, h => ∃ l, resultsV f h rs = some l ∧ Q (tupleV l) h
  | .exit _, _, _ => False
theorem Ends_ret {rs : List AResult} {Q : AV → AH → Prop} : Ends rs Q .ret f h ↔ ∃ l, resultsV f h rs = some l ∧ Q (tupleV l) h := Iff.rfl
theorem Ends_normal {rs : List AResult} {Q : AV → AH → Prop} : Ends rs Q .normal f h ↔ ∃ l, resultsV f h rs = some l ∧ Q (tupleV l) h := Iff.rfl
theorem res_nil : resultsV f h [] = some [] := rfl
theorem res_tmp {t : Nat} {r : List AResult} : resultsV f h (.tmp t :: r) = (resultsV f h r).map (f.at t :: ·) := rfl
theorem tuple_one {v : AV} : tupleV [v] = v := rfl
theorem tuple_two {u v : AV} {r : List AV} : tupleV (u :: v :: r) = .tuple (u :: v :: r) := rfl
theorem some_one {α : Type} {x : α} {p : α → Prop} : (∃ y, some x = some y ∧ p y) ↔ p x := ⟨fun ⟨_, he, hq⟩ => by cases he; exact hq, fun hq => ⟨_, rfl, hq⟩⟩

/-! values -/
theorem bin_add {k : IntKind} {a b : Int} : binV .add (.int k a) (.int k b) = some (.int k (k.wrap (a + b))) := by simp [binV, isShift, intBin]
theorem bin_sub {k : IntKind} {a b : Int} : binV .sub (.int k a) (.int k b) = some (.int k (k.wrap (a - b))) := by simp [binV, isShift, intBin]
theorem bin_mul {k : IntKind} {a b : Int} : binV .mul (.int k a) (.int k b) = some (.int k (k.wrap (a * b))) := by simp [binV, isShift, intBin]
theorem bin_quo {k : IntKind} {a b : Int} (hb : b ≠ 0) : binV .quo (.int k a) (.int k b) = some (.int k (k.wrap (a.tdiv b))) := by simp [binV, isShift, intBin, hb]
theorem bin_rem {k : IntKind} {a b : Int} (hb : b ≠ 0) : binV .rem (.int k a) (.int k b) = some (.int k (a.tmod b)) := by simp [binV, isShift, intBin, hb]
theorem bin_eql {k : IntKind} {a b : Int} : binV .eql (.int k a) (.int k b) = some (.bool (a == b)) := by simp [binV, isShift, intBin]
theorem bin_neq {k : IntKind} {a b : Int} : binV .neq (.int k a) (.int k b) = some (.bool (a != b)) := by simp [binV, isShift, intBin]
theorem bin_lss {k : IntKind} {a b : Int} : binV .lss (.int k a) (.int k b) = some (.bool (decide (a < b))) := by simp [binV, isShift, intBin]
theorem bin_leq {k : IntKind} {a b : Int} : binV .leq (.int k a) (.int k b) = some (.bool (decide (a ≤ b))) := by simp [binV, isShift, intBin]
theorem bin_gtr {k : IntKind} {a b : Int} : binV .gtr (.int k a) (.int k b) = some (.bool (decide (a > b))) := by simp [binV, isShift, intBin]
theorem bin_geq {k : IntKind} {a b : Int} : binV .geq (.int k a) (.int k b) = some (.bool (decide (a ≥ b))) := by simp [binV, isShift, intBin]
theorem bin_str_eql {a b : List UInt8} : binV .eql (.str a) (.str b) = some (.bool (a == b)) := by simp [binV, strBin]
theorem bin_str_neq {a b : List UInt8} : binV .neq (.str a) (.str b) = some (.bool (!(a == b))) := by simp [binV, strBin]
theorem un_not {b : Bool} : unV .not (.bool b) = some (.bool (!b)) := rfl
theorem toInt_int {k k' : IntKind} {a : Int} : toIntV k (.int k' a) = some (.int k (k.wrap a)) := rfl
theorem lenStr_str {s : List UInt8} : lenStrV (.str s) = some (.int .i64 s.length) := rfl
theorem pick_bool {t : Bool} {a b : AV} : pickV (.bool t) a b = some (if t then a else b) := rfl

/-- What a call comes to. -/
def Gives (T : Prog) (g : Nat) (args : List AV) (h : AH) (Q : AV → AH → Prop) : Prop := ∃ r h', run T g args h = some (r, h') ∧ Q r h'
theorem gives_func {g : Nat} {fn : AFunc} {args : List AV} {Q : AV → AH → Prop} (he : T.env g = none) (hf : T.func g = some fn) (hl : args.length = fn.nargs)
    (hw : Wp (code T fn.body (Fr.ofArgs 0 args .nil) h) (Ends fn.results Q)) : Gives T g args h Q := by
  obtain ⟨e, f, h', hc, hx⟩ := hw
  cases e with
  | normal =>
    obtain ⟨l, hl', hq⟩ := hx
    exact ⟨tupleV l, h', by rw [run_func he hf hl, hc, finish_normal, hl']; rfl, hq⟩
  | ret =>
    obtain ⟨l, hl', hq⟩ := hx
    exact ⟨tupleV l, h', by rw [run_func he hf hl, hc, finish_ret, hl']; rfl, hq⟩
  | exit i => exact hx.elim
/-- A call in the midst of operations. -/
theorem Gives.bind {g : Nat} {args : List AV} {k : AV × AH → Option (Fr × AH)} {Q : Fr → AH → Prop} (hw : Gives T g args h fun r h' => Wo (k (r, h')) Q) : Wo ((run T g args h).bind k) Q := by
  obtain ⟨r, h', hr, hq⟩ := hw
  rw [hr]; exact hq
theorem Gives.mono {g : Nat} {args : List AV} {Q Q' : AV → AH → Prop} (hw : Gives T g args h Q) (hq : ∀ r h', Q r h' → Q' r h') : Gives T g args h Q' := by
  obtain ⟨r, h', hr, hq'⟩ := hw
  exact ⟨r, h', hr, hq _ _ hq'⟩
theorem at_ofArgs {args : List AV} {t : Nat} : (Fr.ofArgs 0 args .nil).at t = (args[t]?).getD .none := by
  rw [ofArgs_at]
  by_cases ht : t < args.length
  · rw [if_pos (by omega)]; rfl
  · rw [if_neg (by omega), List.getElem?_eq_none (by omega)]; rfl

/-! ### numbers -/
theorem natOf_cast (k : IntKind) (n : Nat) : natOf (.int k (n : Int)) = some n := by simp [natOf]
theorem toNat_cast (n : Nat) : (n : Int).toNat = n := rfl
end

/-! ### heaps that grew -/
/-- What was there is as it was. -/
def Ext (h h' : AH) : Prop := h.next ≤ h'.next ∧ ∀ o, o < h.next → h'.get o = h.get o
theorem Ext.refl (h : AH) : Ext h h := ⟨Nat.le_refl _, fun _ _ => rfl⟩
theorem Ext.trans {a b c : AH} (h : Ext a b) (k : Ext b c) : Ext a c := ⟨Nat.le_trans h.1 k.1, fun o ho => (k.2 o (Nat.lt_of_lt_of_le ho h.1)).trans (h.2 o ho)⟩
theorem Ext.new (h : AH) (x : AObj) : Ext h (h.new x) := ⟨by simp [AH.next_new], fun o ho => by rw [AH.get_new, if_neg (by omega)]⟩
theorem Ext.set {a h : AH} (k : Ext a h) {o : Nat} (ho : a.next ≤ o) (x : AObj) : Ext a (h.set o x) :=
  ⟨k.1, fun p hp => by rw [AH.get_set, if_neg (by omega)]; exact k.2 p hp⟩
end Go.Vm

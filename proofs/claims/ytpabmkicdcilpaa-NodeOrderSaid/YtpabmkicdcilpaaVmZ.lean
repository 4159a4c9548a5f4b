/- Laws with arguments: the objects that came in; a closed sentence behind others; what the book's small functions come to. -/
import Derived.Test.YtpabmkicdcilpaaVmY
namespace Go.Vm
open Go.RowKit
set_option linter.unusedSimpArgs false
set_option linter.unusedVariables false

/-! ### closed sentences -/
section
variable {N : Nat} {w₀ w w' : World} {μ : Inj} {h : AH}
/-- The world grew. -/
theorem R.grow (r : R N w₀ μ h w) (hb : Below w.heap.size w w') : R N w₀ μ h w' where
  below := r.below.trans (hb.mono r.fresh)
  fresh := Nat.le_trans r.fresh hb.size
  dom := r.dom
  obj := fun o b base size x ho hx => by
    by_cases hd : x = .dead
    · subst hd; trivial
    · have hlt : b < w.heap.size := by
        have := r.obj o b base size x ho hx
        rcases Nat.lt_or_ge b w.heap.size with hb | hb
        · exact hb
        · exfalso
          have hn : w.heap[b]? = none := Array.getElem?_eq_none hb
          cases x with
          | cells l rw => obtain ⟨C, e, fz, h1, _⟩ := this; rw [hn] at h1; cases h1
          | map es => obtain ⟨_, _, ces, clock, h1, _⟩ := this; rw [hn] at h1; cases h1
          | dead => exact hd rfl
          | marked l => obtain ⟨C, e, fz, h1, _⟩ := this; rw [hn] at h1; cases h1
      exact (r.obj o b base size x ho hx).of_block (hb.block b hlt)
  inj := r.inj
/-- A row that came in: read, never written. -/
theorem R.row (r : R N w₀ μ h w) {l : List AV} {b base size : Nat} {C : Array Value} {e : TypeId} {fz : Nat × Nat} (hb : w.heap[b]? = some (.cells C e fz)) (hs : C.size = size) (hl : base + l.length ≤ size) (hN : b < N)
    (hv : ∀ (i : Nat) (u : AV) (v : Value), l[i]? = some u → C[base + i]? = some v → VRel (Inj.add μ h.next (b, base, size)) u v) :
    Inj.le μ (Inj.add μ h.next (b, base, size)) ∧ R N w₀ (Inj.add μ h.next (b, base, size)) (h.new (.cells l false)) w := by
  have hnone : μ h.next = none := by
    cases hm : μ h.next with
    | none => rfl
    | some y => have := r.dom _ _ hm; omega
  have hle := Inj.le_add (μ := μ) (o := h.next) (b, base, size) hnone
  have hns : ∀ q, (h.new (.cells l false)).solid q = true → q ≠ h.next ∧ h.solid q = true := by
    intro q hq
    obtain ⟨y, hy, hs⟩ := solid_iff.1 hq
    rw [AH.get_new] at hy
    split at hy
    · cases hy; cases hs
    · rename_i e; exact ⟨Ne.symm e, solid_iff.2 ⟨y, hy, hs⟩⟩
  refine ⟨hle, ⟨r.below, r.fresh, ?_, ?_, ?_⟩⟩
  · intro o y hy
    unfold Inj.add at hy
    split at hy
    · simp [AH.next_new]; omega
    · have := r.dom _ _ hy; simp [AH.next_new]; omega
  · intro o b' base' size' y ho hy
    unfold Inj.add at ho
    rw [AH.get_new] at hy
    split at ho
    · rename_i e
      subst e
      rw [if_pos rfl] at hy
      cases ho; cases hy
      refine ⟨C, _, fz, hb, hs, hl, hv, ?_⟩
      simp only [Bool.false_eq_true, if_false]
      exact hN
    · rename_i e
      rw [if_neg (Ne.symm e)] at hy
      exact (r.obj o b' base' size' y ho hy).mono hle
  · intro o p x' y' ho hp hne ro rp
    obtain ⟨eo, so⟩ := hns o ro
    obtain ⟨ep, sp⟩ := hns p rp
    unfold Inj.add at ho hp
    rw [if_neg eo] at ho
    rw [if_neg ep] at hp
    exact r.inj o p x' y' ho hp hne so sp
end

/-- A sentence that is true wherever it is asked. -/
def yes : List AV → AH → Option (AV × AH) := fun args h => if args.isEmpty then some (.bool true, h) else none
theorem yes_ok {P : Program} {g : Nat} (hc : CallOk P g) (hcl : ∀ w, Calls P g #[] w fun e w' => e = .returned (.bool true) ∧ Below w.heap.size w w') :
    ∀ args h r h', yes args h = some (r, h') → CallOk P g ∧ ASim P g args h r h' := by
  intro args h r h' hr
  unfold yes at hr
  split at hr
  · rename_i he
    cases hr
    have hargs : args = [] := List.isEmpty_iff.1 he
    subst hargs
    refine ⟨hc, ?_⟩
    intro N w₀ μ w vargs hR hv
    have hva : vargs = #[] := by
      have := hv.1
      simp at this
      exact Array.eq_empty_of_size_eq_zero (by omega)
    subst hva
    refine (hcl w).mono ?_
    rintro e w' ⟨rfl, hb⟩
    exact ⟨μ, _, rfl, Inj.Ext.refl (Nat.le_refl _), hR.grow hb, .bool _⟩
  · cases hr
theorem closed_yes {P : Program} {T : Prog} (hT : TabOk P T) {k g : Nat} (hr : saysTrue (arun T k g [] AH.empty) = true) (he : T.env g = none := by rfl) : ∀ args h r h', yes args h = some (r, h') → CallOk P g ∧ ASim P g args h r h' := by
  obtain ⟨h', hr'⟩ := saysTrue_inv hr
  exact yes_ok (arun_body hT he hr').1 (fun w => calls_closed hT hr w he)
/-- A table, and one closed sentence that stands by its answer. -/
def withYes (func : Nat → Option AFunc) (g : Nat) : Prog := ⟨func, fun n => if n = g then some yes else none⟩
theorem withYes_ok {P : Program} {func : Nat → Option AFunc} (hf : ∀ g af, func g = some af → ∃ fn, P.funcs[g]? = some fn ∧ cFunc P fn = some af) {g : Nat}
    (hy : ∀ args h r h', yes args h = some (r, h') → CallOk P g ∧ ASim P g args h r h') : TabOk P (withYes func g) where
  func := hf
  env := fun n e he => by
    simp only [withYes] at he
    split at he
    · rename_i e'; subst e'; cases he; exact fun args h r h' hr => .inl (hy args h r h' hr)
    · cases he
theorem bare_ok {P : Program} {func : Nat → Option AFunc} (hf : ∀ g af, func g = some af → ∃ fn, P.funcs[g]? = some fn ∧ cFunc P fn = some af) : TabOk P ⟨func, fun _ => none⟩ where
  func := hf
  env := fun n e he => by cases he
theorem ran_closed {P : Program} {func : Nat → Option AFunc} (hf : ∀ g af, func g = some af → ∃ fn, P.funcs[g]? = some fn ∧ cFunc P fn = some af) {k g : Nat} (hr : saysTrue (arunT func k g [] AH.empty) = true) (w : World) :
    Calls P g #[] w fun e w' => e = .returned (.bool true) ∧ Below w.heap.size w w' :=
  calls_closed (bare_ok hf) (k := k) (by rw [← arunT_eq]; exact hr) w
theorem ran_yes {P : Program} {func : Nat → Option AFunc} (hf : ∀ g af, func g = some af → ∃ fn, P.funcs[g]? = some fn ∧ cFunc P fn = some af) {k g : Nat} (hr : saysTrue (arunT func k g [] AH.empty) = true) :
    TabOk P (withYes func g) := withYes_ok hf (closed_yes (bare_ok hf) (k := k) (by rw [← arunT_eq]; exact hr))

theorem yes_gives {func : Nat → Option AFunc} {g : Nat} {h : AH} : Gives (withYes func g) g [] h fun r h' => r = .bool true ∧ h' = h :=
  ⟨_, _, by rw [run_env (e := yes) (by simp [withYes])]; rfl, rfl, rfl⟩
theorem withYes_func {func : Nat → Option AFunc} {g : Nat} : (withYes func g).func = func := rfl
theorem withYes_env {func : Nat → Option AFunc} {g n : Nat} (h : n ≠ g) : (withYes func g).env n = none := by simp [withYes, h]
/-- The law, as the row's walk asks it. -/
theorem law_calls {P : Program} {T : Prog} (hT : TabOk P T) {g : Nat} {args : List AV} {h : AH} {w : World} {μ : Inj} {vargs : Array Value} (hR : R w.heap.size w μ h w) (hv : VRels μ args vargs.toList)
    (hr : Gives T g args h fun r _ => r = .bool true) (he : T.env g = none := by rfl) : Calls P g vargs w fun e w' => e = .returned (.bool true) ∧ Below w.heap.size w w' := by
  obtain ⟨r, h', hr, rfl⟩ := hr
  refine ((run_body hT he hr).2 w.heap.size w μ w vargs hR hv).mono ?_
  rintro e w' ⟨μ', v', rfl, _, hR', hv'⟩
  rw [hv'.bool_inv]
  exact ⟨rfl, hR'.below⟩

/-! ### runs beside a closed sentence -/
noncomputable section
def callY (func : Nat → Option AFunc) (y : Nat) (ih : Handler) (lf : Nat) (g : Nat) (args : List AV) (h : AH) : Option (AV × AH) := Bool.rec (callT func ih lf g args h) (yes args h) (Nat.beq g y)
def arunY (func : Nat → Option AFunc) (y : Nat) (n : Nat) : Handler := @Nat.rec (fun _ => Handler) (fun _ _ _ => none) (fun n ih => callY func y ih (Nat.succ n)) n
theorem arunY_eq (func : Nat → Option AFunc) (y : Nat) : ∀ (n : Nat), arunY func y n = arun (withYes func y) n
  | 0 => rfl
  | n + 1 => by
    funext g args h
    show callY func y (arunY func y n) (n + 1) g args h = _
    rw [arunY_eq func y n]
    simp only [arun, callY, withYes]
    by_cases e : g = y
    · subst e; rw [Nat.beq_refl, if_pos rfl]
    · rw [if_neg e, show Nat.beq g y = false from Bool.eq_false_iff.2 fun hb => e (Nat.eq_of_beq_eq_true hb)]
      simp only [callT]
      cases func g with
      | none => rfl
      | some fn => exact funT_eq _ _ _ _ _
end
/-- A run that says true. -/
theorem ran_gives {func : Nat → Option AFunc} {y k g : Nat} {args : List AV} {h : AH} (hr : saysTrue (arunY func y k g args h) = true) : Gives (withYes func y) g args h fun r _ => r = .bool true := by
  rw [arunY_eq] at hr
  obtain ⟨h', hr⟩ := saysTrue_inv hr
  exact ⟨_, h', run_iff.2 ⟨k, hr⟩, rfl⟩

/-! ### steps behind a test -/
def guardB (v : AV) (w : Bool) (x : Option (AV × AH)) (h : AH) : Option (AV × AH) :=
  match v with
  | .bool b => if b = w then x else some (.none, h)
  | .tuple _ => some (.none, h)
  | _ => none
section
variable {f : Fr} {h : AH} {x : Option (AV × AH)}
theorem guard_eq {t : Nat} {w : Bool} : guardV f t w x h = guardB (f.at t) w x h := by
  unfold guardV guardB
  cases f.at t <;> rfl
theorem guardB_bool {b w : Bool} : guardB (.bool b) w x h = if b = w then x else some (.none, h) := rfl
theorem guardB_tt : guardB (.bool true) true x h = x := rfl
theorem guardB_ff : guardB (.bool false) false x h = x := rfl
theorem guardB_tf : guardB (.bool true) false x h = some (.none, h) := rfl
theorem guardB_ft : guardB (.bool false) true x h = some (.none, h) := rfl
theorem guardB_none {w : Bool} : guardB .none w x h = some (.none, h) := rfl
theorem extract_0 {a : AV} {l : List AV} : extractV 0 (.tuple (a :: l)) = some a := rfl
theorem extract_1 {a b : AV} {l : List AV} : extractV 1 (.tuple (a :: b :: l)) = some b := rfl
theorem extract_2 {a b c : AV} {l : List AV} : extractV 2 (.tuple (a :: b :: c :: l)) = some c := rfl
theorem len_slice {o off z len cap : Nat} {ex : Bool} : lenOfV (.slice o off z len cap ex) = some len := rfl
theorem len_nil : lenOfV .nilSlice = some 0 := rfl
theorem put_none {f : Fr} {v : AV} : f.put none v = f := rfl
theorem pick_t {a b : AV} : pickV (.bool true) a b = some a := rfl
theorem pick_f {a b : AV} : pickV (.bool false) a b = some b := rfl

/-! ### what comes behind: named, so that it is not looked into before it is reached -/
def rest (call : Handler) (r : List AOper) (d : Option Nat) (f : Fr) (p : AV × AH) : Option (Fr × AH) := runOps call r (f.put d p.1) p.2
theorem rest_mk {call : Handler} {r : List AOper} {d : Option Nat} {v : AV} : rest call r d f (v, h) = runOps call r (f.put d v) h := rfl
theorem ops_next {call : Handler} {d : Option Nat} {o : AOp} {r : List AOper} : runOps call (⟨d, o, none⟩ :: r) f h = (stepV call o f h).bind (rest call r d f) := ops_cons
theorem ops_test {call : Handler} {d : Option Nat} {o : AOp} {t : Nat} {w : Bool} {r : List AOper} : runOps call (⟨d, o, some (t, w)⟩ :: r) f h = (guardB (f.at t) w (stepV call o f h) h).bind (rest call r d f) := by
  rw [ops_guard, guard_eq]; rfl
def ThenC (T : Prog) (b : ACode) (Q : AExit → Fr → AH → Prop) : AExit → Fr → AH → Prop := Then (fun f h => Wp (code T b f h) Q) Q
theorem ThenC_normal {T : Prog} {b : ACode} {Q : AExit → Fr → AH → Prop} : ThenC T b Q .normal f h ↔ Wp (code T b f h) Q := Iff.rfl
theorem ThenC_exit {T : Prog} {b : ACode} {Q : AExit → Fr → AH → Prop} {i : Nat} : ThenC T b Q (.exit i) f h ↔ Q (.exit i) f h := Iff.rfl
theorem ThenC_ret {T : Prog} {b : ACode} {Q : AExit → Fr → AH → Prop} : ThenC T b Q .ret f h ↔ Q .ret f h := Iff.rfl
theorem wpc_first {T : Prog} {a b : ACode} {Q : AExit → Fr → AH → Prop} : Wp (code T (.seq a b) f h) Q ↔ Wp (code T a f h) (ThenC T b Q) := wpc_seq
def CondC (T : Prog) (a b : ACode) (f : Fr) (h : AH) (Q : AExit → Fr → AH → Prop) (v : AV) : Prop := CondW v (Wp (code T a f h) Q) (Wp (code T b f h) Q)
theorem wpc_test {T : Prog} {c : AOpd} {a b : ACode} {Q : AExit → Fr → AH → Prop} : Wp (code T (.cond c a b) f h) Q ↔ CondC T a b f h Q (c.val f) := wpc_if
theorem CondC_true {T : Prog} {a b : ACode} {Q : AExit → Fr → AH → Prop} : CondC T a b f h Q (.bool true) ↔ Wp (code T a f h) Q := Iff.rfl
theorem CondC_false {T : Prog} {a b : ACode} {Q : AExit → Fr → AH → Prop} : CondC T a b f h Q (.bool false) ↔ Wp (code T b f h) Q := Iff.rfl
theorem CondC_both {T : Prog} {a b : ACode} {Q : AExit → Fr → AH → Prop} {t : Bool} : CondC T a b f h Q (.bool t) ↔ if t = true then Wp (code T a f h) Q else Wp (code T b f h) Q := CondW_bool

def boxV (h : AH) (v : AV) : Option (AV × AH) := if v.isDef then some (.ptr h.next 0, h.new (.cells v.cells true)) else none
theorem step_box {call : Handler} {x : AOpd} : stepV call (.box x) f h = boxV h (x.val f) :=
  stepV_val (by simp only [AOp.eval, boxV]; split <;> rfl)
theorem box_agg {l : List AV} : boxV h (.agg l) = some (.ptr h.next 0, h.new (.cells l true)) := rfl
def eqAggV (ks : List Nat) (neg : Bool) : AV → AV → Option AV
  | .agg l, .agg m => (leavesEq ks l m).map fun b => .bool (if neg then !b else b)
  | _, _ => none
theorem step_eqAgg {call : Handler} {ks : List Nat} {n : Bool} {x y : AOpd} : stepV call (.eqAgg ks n x y) f h = (eqAggV ks n (x.val f) (y.val f)).map fun v => (v, h) :=
  stepV_map (by
    simp only [AOp.eval]; generalize x.val f = p; generalize y.val f = q
    cases p with
    | agg l =>
      cases q with
      | agg m => simp only [eqAggV]; cases leavesEq ks l m <;> rfl
      | _ => rfl
    | _ => rfl)
theorem load_all {h : AH} {o n : Nat} {l : List AV} {rw' : Bool} (hg : h.get o = some (.cells l rw')) (hl : l.length = n) : loadV h true n (.ptr o 0) = some (.agg l) := by
  subst hl
  simp [loadV, AH.load, hg]
theorem step_mnx {call : Handler} {m : Bool} {x : AOpd} {r : List AOpd} : stepV call (.mnx m (x :: r)) f h = (mnxAll m (x.val f) (r.map (·.val f))).map fun v => (v, h) := stepV_map (by simp only [AOp.eval, List.map_cons])

/-! ### one cell of a row -/
theorem load_at {h : AH} {o i : Nat} {l : List AV} {rw' : Bool} {v : AV} (hg : h.get o = some (.cells l rw')) (hl : l[i]? = some v) : loadV h false 1 (.ptr o i) = some v := by
  have hi : i < l.length := by
    rcases Nat.lt_or_ge i l.length with h' | h'
    · exact h'
    · rw [List.getElem?_eq_none h'] at hl; cases hl
  simp only [loadV, AH.load, hg, Bool.false_eq_true, if_false]
  rw [if_pos (by omega), List.drop_eq_getElem_cons hi]
  rw [List.getElem?_eq_getElem hi] at hl
  simp only [Option.some.injEq] at hl
  simp [hl]
theorem store_at {h : AH} {o i : Nat} {l : List AV} {v : AV} (hg : h.get o = some (.cells l true)) (hi : i < l.length) (hv : v.cells = [v]) (hf : v.flat = true) : storeV h 1 (.ptr o i) v = some (h.set o (.cells (l.set i v) true)) := by
  simp only [storeV, hv, List.length_cons, List.length_nil, AH.store, hg, List.all_cons, List.all_nil, hf, Bool.and_true, setMany]
  rw [if_pos trivial, if_pos ⟨by omega, trivial⟩]
theorem store_int {h : AH} {o i : Nat} {l : List AV} {k : IntKind} {n : Int} (hg : h.get o = some (.cells l true)) (hi : i < l.length) : storeV h 1 (.ptr o i) (.int k n) = some (h.set o (.cells (l.set i (.int k n)) true)) := store_at hg hi rfl rfl
theorem store_bool {h : AH} {o i : Nat} {l : List AV} {b : Bool} (hg : h.get o = some (.cells l true)) (hi : i < l.length) : storeV h 1 (.ptr o i) (.bool b) = some (h.set o (.cells (l.set i (.bool b)) true)) := store_at hg hi rfl rfl
theorem store_str {h : AH} {o i : Nat} {l : List AV} {s : List UInt8} (hg : h.get o = some (.cells l true)) (hi : i < l.length) : storeV h 1 (.ptr o i) (.str s) = some (h.set o (.cells (l.set i (.str s)) true)) := store_at hg hi rfl rfl
theorem get_set_same {h : AH} {o : Nat} {x : AObj} : (h.set o x).get o = some x := by rw [AH.get_set, if_pos rfl]
theorem get_new_same {h : AH} {x : AObj} : (h.new x).get h.next = some x := by rw [AH.get_new, if_pos rfl]
theorem next_set {h : AH} {o : Nat} {x : AObj} : (h.set o x).next = h.next := rfl
theorem next_new {h : AH} {x : AObj} : (h.new x).next = h.next + 1 := rfl
/-- One object was turned, or made, that was not there. -/
theorem Ext.get {a b : AH} (k : Ext a b) {o : Nat} {x : AObj} (hx : a.get o = some x) (ho : o < a.next) : b.get o = some x := (k.2 o ho).trans hx
end

/-! ### the book's small functions -/
def cWithin : ACode := (.seq (.ops [⟨(some 6), .mov (.con (.int .i64 0)), none⟩])
  (.seq (.ops [⟨(some 7), .mov (.tmp 0), none⟩,
    ⟨(some 8), .mov (.tmp 2), none⟩,
    ⟨(some 9), .mov (.tmp 1), none⟩,
    ⟨(some 10), .bin .sub (.tmp 8) (.tmp 9), none⟩,
    ⟨(some 11), .bin .add (.tmp 10) (.con (.int .i64 1)), none⟩,
    ⟨(some 12), .bin .rem (.tmp 7) (.tmp 11), none⟩,
    ⟨(some 0), .mov (.tmp 12), none⟩])
  (.seq (.seq (.ops [⟨(some 13), .mov (.tmp 0), none⟩,
    ⟨(some 14), .bin .lss (.tmp 13) (.con (.int .i64 0)), none⟩])
  (.cond (.tmp 14)
  (.ops [⟨(some 15), .mov (.tmp 0), none⟩,
    ⟨(some 16), .mov (.tmp 2), none⟩,
    ⟨(some 17), .bin .add (.tmp 15) (.tmp 16), none⟩,
    ⟨(some 18), .mov (.tmp 1), none⟩,
    ⟨(some 19), .bin .sub (.tmp 17) (.tmp 18), none⟩,
    ⟨(some 20), .bin .add (.tmp 19) (.con (.int .i64 1)), none⟩,
    ⟨(some 0), .mov (.tmp 20), none⟩])
  .skip))
  (.seq (.ops [⟨(some 21), .mov (.tmp 1), none⟩,
    ⟨(some 22), .mov (.tmp 0), none⟩,
    ⟨(some 23), .bin .add (.tmp 21) (.tmp 22), none⟩,
    ⟨(some 6), .mov (.tmp 23), none⟩])
  .ret))))
def aWithin : AFunc := ⟨3, cWithin, [.tmp 6]⟩
theorem bin_quo8 {k : IntKind} {a : Int} : binV .quo (.int k a) (.int k 8) = some (.int k (k.wrap (a.tdiv 8))) := bin_quo (by decide)
theorem bin_rem8 {k : IntKind} {a : Int} : binV .rem (.int k a) (.int k 8) = some (.int k (a.tmod 8)) := bin_rem (by decide)

variable {T : Prog} {h : AH}
/-- A number brought into lo .. hi. -/
theorem within_ok {g : Nat} (he : T.env g = none) (hf : T.func g = some aWithin) {n lo hi : Int} (h1 : lo ≤ hi) (h2 : -1152921504606846976 ≤ lo) (h3 : hi ≤ 1152921504606846976) :
    Gives T g [.int .i64 n, .int .i64 lo, .int .i64 hi] h fun r h' => ∃ m, r = .int .i64 m ∧ lo ≤ m ∧ m ≤ hi ∧ h' = h := by
  refine gives_func he hf rfl ?_
  have e1 : IntKind.i64.wrap (hi - lo) = hi - lo := wrap_i64 (by omega) (by omega)
  have e2 : IntKind.i64.wrap (hi - lo + 1) = hi - lo + 1 := wrap_i64 (by omega) (by omega)
  have hb : hi - lo + 1 ≠ 0 := by omega
  have r1 := Int.tmod_lt_of_pos n (show 0 < hi - lo + 1 by omega)
  have r2 : -(hi - lo + 1) < n.tmod (hi - lo + 1) := Int.lt_tmod_of_pos n (by omega)
  simp only [aWithin, cWithin, wpc_first, wpc_ops, wpc_skip, wpc_exit, wpc_ret, wpc_block, wpc_test, ops_next, ops_nil, ops_test, step_mov, step_bin, step_un, step_pick, step_eqB, step_eqNil, step_toInt, step_lenStr, step_lenSlice, step_extract, step_fieldAddr, step_field, step_nilChk, step_idxAddr, step_idxStr, step_load, step_store, step_slc, step_slcStr, step_mkSlice, step_toStr, step_append, step_copy, step_buildSlice, step_build, step_new, step_call, Option.bind_some, Option.map_some, AOpd.val, Fr.at_put, at_ofArgs, Wo_some, Then_normal, Then_exit, Then_ret, InBlock_normal, InBlock_ret, InBlock_exit, Ends_ret, Ends_normal, res_nil, res_tmp, tuple_one, tuple_two, some_one, CondC_true, bin_add, bin_sub, bin_mul, bin_eql, bin_neq, bin_lss, bin_leq, bin_gtr, bin_geq, bin_str_eql, bin_str_neq, un_not, toInt_int, lenStr_str, pick_bool, List.getElem?_cons_zero, List.getElem?_cons_succ, Option.getD_some, Option.getD_none, List.map_cons, List.map_nil, Option.map_none, List.length_map, Nat.reduceEqDiff, if_true, if_false, reduceCtorEq, Nat.reduceAdd, Nat.reduceBEq, guardB_tt, guardB_ff, guardB_tf, guardB_ft, guardB_none, pick_t, pick_f, beq_self_eq_true, bne_self_eq_false, decide_true, decide_false, Bool.not_true, Bool.not_false, put_none, len_slice, len_nil, rest_mk, ThenC_normal, ThenC_exit, ThenC_ret, CondC_false, CondC_both, extract_0, extract_1, extract_2, e1, e2, bin_rem hb]
  generalize n.tmod (hi - lo + 1) = m at r1 r2
  by_cases hm : m < 0
  · simp only [hm, decide_true, if_true]
    have e3 : IntKind.i64.wrap (m + hi) = m + hi := wrap_i64 (by omega) (by omega)
    have e4 : IntKind.i64.wrap (m + hi - lo) = m + hi - lo := wrap_i64 (by omega) (by omega)
    have e5 : IntKind.i64.wrap (m + hi - lo + 1) = m + hi - lo + 1 := wrap_i64 (by omega) (by omega)
    have e6 : IntKind.i64.wrap (lo + (m + hi - lo + 1)) = lo + (m + hi - lo + 1) := wrap_i64 (by omega) (by omega)
    simp only [wpc_first, wpc_ops, wpc_skip, wpc_exit, wpc_ret, wpc_block, wpc_test, ops_next, ops_nil, ops_test, step_mov, step_bin, step_un, step_pick, step_eqB, step_eqNil, step_toInt, step_lenStr, step_lenSlice, step_extract, step_fieldAddr, step_field, step_nilChk, step_idxAddr, step_idxStr, step_load, step_store, step_slc, step_slcStr, step_mkSlice, step_toStr, step_append, step_copy, step_buildSlice, step_build, step_new, step_call, Option.bind_some, Option.map_some, AOpd.val, Fr.at_put, at_ofArgs, Wo_some, Then_normal, Then_exit, Then_ret, InBlock_normal, InBlock_ret, InBlock_exit, Ends_ret, Ends_normal, res_nil, res_tmp, tuple_one, tuple_two, some_one, CondC_true, bin_add, bin_sub, bin_mul, bin_eql, bin_neq, bin_lss, bin_leq, bin_gtr, bin_geq, bin_str_eql, bin_str_neq, un_not, toInt_int, lenStr_str, pick_bool, List.getElem?_cons_zero, List.getElem?_cons_succ, Option.getD_some, Option.getD_none, List.map_cons, List.map_nil, Option.map_none, List.length_map, Nat.reduceEqDiff, if_true, if_false, reduceCtorEq, Nat.reduceAdd, Nat.reduceBEq, guardB_tt, guardB_ff, guardB_tf, guardB_ft, guardB_none, pick_t, pick_f, beq_self_eq_true, bne_self_eq_false, decide_true, decide_false, Bool.not_true, Bool.not_false, put_none, len_slice, len_nil, rest_mk, ThenC_normal, ThenC_exit, ThenC_ret, CondC_false, CondC_both, extract_0, extract_1, extract_2, e3, e4, e5, e6]
    exact ⟨_, rfl, by omega, by omega, trivial⟩
  · simp only [hm, decide_false, if_false]
    have e6 : IntKind.i64.wrap (lo + m) = lo + m := wrap_i64 (by omega) (by omega)
    simp only [wpc_first, wpc_ops, wpc_skip, wpc_exit, wpc_ret, wpc_block, wpc_test, ops_next, ops_nil, ops_test, step_mov, step_bin, step_un, step_pick, step_eqB, step_eqNil, step_toInt, step_lenStr, step_lenSlice, step_extract, step_fieldAddr, step_field, step_nilChk, step_idxAddr, step_idxStr, step_load, step_store, step_slc, step_slcStr, step_mkSlice, step_toStr, step_append, step_copy, step_buildSlice, step_build, step_new, step_call, Option.bind_some, Option.map_some, AOpd.val, Fr.at_put, at_ofArgs, Wo_some, Then_normal, Then_exit, Then_ret, InBlock_normal, InBlock_ret, InBlock_exit, Ends_ret, Ends_normal, res_nil, res_tmp, tuple_one, tuple_two, some_one, CondC_true, bin_add, bin_sub, bin_mul, bin_eql, bin_neq, bin_lss, bin_leq, bin_gtr, bin_geq, bin_str_eql, bin_str_neq, un_not, toInt_int, lenStr_str, pick_bool, List.getElem?_cons_zero, List.getElem?_cons_succ, Option.getD_some, Option.getD_none, List.map_cons, List.map_nil, Option.map_none, List.length_map, Nat.reduceEqDiff, if_true, if_false, reduceCtorEq, Nat.reduceAdd, Nat.reduceBEq, guardB_tt, guardB_ff, guardB_tf, guardB_ft, guardB_none, pick_t, pick_f, beq_self_eq_true, bne_self_eq_false, decide_true, decide_false, Bool.not_true, Bool.not_false, put_none, len_slice, len_nil, rest_mk, ThenC_normal, ThenC_exit, ThenC_ret, CondC_false, CondC_both, extract_0, extract_1, extract_2, e6]
    exact ⟨_, rfl, by omega, by omega, trivial⟩
end Go.Vm

/- A tick under way: its functions. -/
import Derived.Test.YtgecjbbdaahilaaD4T
import Derived.Test.YtgecjbbdaahilaaVmZf
import Derived.Test.YtgecjbbdaahilaaVmZj
namespace Go.Proofs.Ytgecjbbdaahilaa
open Go.Vm
set_option linter.unusedSimpArgs false
set_option linter.unusedVariables false
set_option maxRecDepth 100000
variable {T : Vm.Prog} {h : AH}
/-! ### calls of function values -/
def callFV (call : Handler) (v : AV) (args : List AV) (h : AH) : Option (AV × AH) := match v with
  | .func (.func g) first caps => call g (first ++ args ++ caps) h
  | _ => none
theorem step_callV {call : Handler} {f : Fr} {x : AOpd} {args : List AOpd} : stepV call (.callV x args) f h = callFV call (x.val f) (args.map (·.val f)) h := by
  unfold stepV callFV
  simp only [AOp.eval]
  generalize x.val f = r
  cases r <;> try rfl
  rename_i fn a b
  cases fn <;> rfl
theorem callFV_func {call : Handler} {g : Nat} {args : List AV} : callFV call (.func (.func g) [] []) args h = call g args h := by
  simp [callFV]
theorem callFV_caps {call : Handler} {g : Nat} {args caps : List AV} : callFV call (.func (.func g) [] caps) args h = call g (args ++ caps) h := by
  simp [callFV]
theorem step_mkFunc {call : Handler} {f : Fr} {fn : Fn} {first caps : List AOpd} : stepV call (.mkFunc fn first caps) f h = some (.func fn (first.map (·.val f)) (caps.map (·.val f)), h) := rfl
/-! ### a tick -/
def tkC (n x m : Int) (nx : AV) (e : Int) (tk : Bool) : List AV := [.int .i64 n, .int .i64 x, .int .i64 0, .int .i64 0, .int .i64 m, .int .u64 0, .nilSlice, nx, .int .i64 e, .bool tk]
def accV (x m : Int) : AV := .agg [.int .i64 x, .int .i64 0, .int .i64 0, .int .i64 m, .int .u64 0, .nilSlice]
def fnV (g : Nat) : AV := .func (.func g) [] []
theorem fn_cells (g : Nat) : (fnV g).cells = [fnV g] ∧ (fnV g).flat = true := ⟨rfl, rfl⟩
variable {to : Nat} {n x m e : Int} {nx : AV} {tk : Bool}
theorem tk_store {x' m' : Int} (hg : h.get to = some (.cells (tkC n x m nx e tk) true)) : storeV h 6 (.ptr to 1) (accV x' m') = some (h.set to (.cells (tkC n x' m' nx e tk) true)) := by
  simp [storeV, accV, AV.cells, AH.store, hg, tkC, AV.flat, setMany]
theorem tk_next {nx' : AV} (hg : h.get to = some (.cells (tkC n x m nx e tk) true)) (hc : nx'.cells = [nx'] ∧ nx'.flat = true) : storeV h 1 (.ptr to 7) nx' = some (h.set to (.cells (tkC n x m nx' e tk) true)) := by
  rw [store_at hg (by simp [tkC]) hc.1 hc.2]; rfl
theorem tk_epoch {e' : Int} (hg : h.get to = some (.cells (tkC n x m nx e tk) true)) : storeV h 1 (.ptr to 8) (.int .i64 e') = some (h.set to (.cells (tkC n x m nx e' tk) true)) := by
  rw [store_int hg (by simp [tkC])]; rfl
theorem tk_took {t : Bool} (hg : h.get to = some (.cells (tkC n x m nx e tk) true)) : storeV h 1 (.ptr to 9) (.bool t) = some (h.set to (.cells (tkC n x m nx e t) true)) := by
  rw [store_bool hg (by simp [tkC])]; rfl
theorem tk_want (hg : h.get to = some (.cells (tkC n x m nx e tk) true)) : loadV h true 6 (.ptr to 1) = some (accV x m) := by
  simp [loadV, AH.load, hg, tkC, accV]
/-- The tick alone was turned. -/
structure TkS (h h' : AH) (to : Nat) (l : List AV) : Prop where
  mods : Mods h h' (fun o => o = to)
  low : Low h'
  get : h'.get to = some (.cells l true)
theorem TkS.trans {h1 h2 : AH} {l l' : List AV} (a : TkS h h1 to l) (b : TkS h1 h2 to l') : TkS h h2 to l' := ⟨a.mods.trans b.mods fun o ho => .inl ho, b.low, b.get⟩
theorem TkS.set {l l' : List AV} (hl : Low h) (hg : h.get to = some (.cells l true)) : TkS h (h.set to (.cells l' true)) to l' := ⟨(Mods.refl h (fun o => o = to)).set (.inl rfl) _, hl.set (hl _ _ hg) _, get_set_same⟩
theorem TkS.new {l : List AV} {x : AObj} (hl : Low h) (hg : h.get to = some (.cells l true)) : TkS h (h.new x) to l := ⟨(Mods.refl _ _).new _, hl.new _, by rw [AH.get_new, if_neg (by have := hl _ _ hg; omega)]; exact hg⟩
theorem tfa (o j i : Nat) : fieldAddrV j (.ptr o i) = some (.ptr o (i + j)) := rfl
theorem tnilC (o i : Nat) : nilChkV (.ptr o i) = some (.ptr o i) := rfl
theorem wants_ok (k : Fits T) (hl : Low h) (hg : h.get to = some (.cells (tkC n x m nx e tk) true)) {x' m' : Int} {nx' : AV} (hc : nx'.cells = [nx'] ∧ nx'.flat = true) :
    Gives T 24 [.ptr to 0, accV x' m', nx'] h fun r h' => r = .tuple [] ∧ TkS h h' to (tkC n x' m' nx' e tk) := by
  refine gives_func (k.env _ (by decide)) (k.at (fn := a24) rfl) rfl ?_
  have t1 := TkS.new (x := .cells [.int .i64 x', .int .i64 0, .int .i64 0, .int .i64 m', .int .u64 0, .nilSlice] true) hl hg
  have l6 : loadV (h.new (.cells [.int .i64 x', .int .i64 0, .int .i64 0, .int .i64 m', .int .u64 0, .nilSlice] true)) true 6 (.ptr h.next 0) = some (accV x' m') := load_all get_new_same rfl
  have s1 := tk_store (x' := x') (m' := m') t1.get
  have t2 := TkS.set (l' := tkC n x' m' nx e tk) t1.low t1.get
  have s2 := tk_next t2.get hc
  have t3 := TkS.set (l' := tkC n x' m' nx' e tk) t2.low t2.get
  simp only [a24, c24, vms, vmc, AOpd.val, Nat.reduceEqDiff, reduceCtorEq, Nat.reduceAdd, Nat.reduceBEq, accV, box_agg] at l6 s1 ⊢
  simp only [vms, vmc, AOpd.val, Nat.reduceEqDiff, reduceCtorEq, Nat.reduceAdd, Nat.reduceBEq, accV, box_agg, l6, tnilC, tfa, Nat.zero_add, s1, s2]
  exact ⟨rfl, (t1.trans t2).trans t3⟩
theorem tfill0 (x : Int) : fillV [AV.int .i64 0, .int .i64 0, .int .i64 0, .int .i64 0, .int .u64 0, .nilSlice] [(0, 1, .int .i64 x)] = some [.int .i64 x, .int .i64 0, .int .i64 0, .int .i64 0, .int .u64 0, .nilSlice] := by simp [fillV, AV.isDef, AV.cells, setMany]
theorem tfill3 (x m : Int) : fillV [AV.int .i64 0, .int .i64 0, .int .i64 0, .int .i64 0, .int .u64 0, .nilSlice] [(0, 1, .int .i64 x), (3, 1, .int .i64 m)] = some [.int .i64 x, .int .i64 0, .int .i64 0, .int .i64 m, .int .u64 0, .nilSlice] := by simp [fillV, AV.isDef, AV.cells, setMany]
theorem tfillN : fillV [AV.int .i64 0, .int .i64 0, .int .i64 0, .int .i64 0, .int .u64 0, .nilSlice] [] = some [.int .i64 0, .int .i64 0, .int .i64 0, .int .i64 0, .int .u64 0, .nilSlice] := rfl
theorem tcollect_ok (k : Fits T) (hl : Low h) (hg : h.get to = some (.cells (tkC n x m nx e tk) true)) :
    Gives T 64 [.ptr to 0] h fun r h' => r = .tuple [] ∧ TkS h h' to (tkC n 12 0 (fnV 73) e tk) := by
  refine gives_func (k.env _ (by decide)) (k.at (fn := a64) rfl) rfl ?_
  simp only [a64, c64, vms, vmc, AOpd.val, Nat.reduceEqDiff, reduceCtorEq, Nat.reduceAdd, Nat.reduceBEq, tfill0]
  refine Gives.bind ((wants_ok k hl hg (x' := 12) (m' := 0) (fn_cells 73)).mono ?_)
  rintro _ h1 ⟨rfl, t1⟩
  simp only [vms, vmc, AOpd.val, Nat.reduceEqDiff, reduceCtorEq, Nat.reduceAdd, Nat.reduceBEq]
  exact ⟨rfl, t1⟩
/-- What a result is in memory. -/
def resV (er m : Int) (ok : Bool) (wv : AV) : AV := .agg [.int .i64 er, .int .i64 m, .bool ok, wv]
variable {er rn : Int} {ok : Bool} {wv : AV}
theorem atEpoch_ok (k : Fits T) (hl : Low h) (hg : h.get to = some (.cells (tkC n x m nx e tk) true)) :
    Gives T 25 [.ptr to 0, resV er rn ok wv] h fun r h' => r = .tuple [] ∧ TkS h h' to (tkC n 10 0 (fnV 47) rn tk) := by
  refine gives_func (k.env _ (by decide)) (k.at (fn := a25) rfl) rfl ?_
  have t1 := TkS.new (x := .cells [.int .i64 er, .int .i64 rn, .bool ok, wv] true) hl hg
  have l1 : loadV (h.new (.cells [.int .i64 er, .int .i64 rn, .bool ok, wv] true)) false 1 (.ptr h.next 1) = some (.int .i64 rn) := load_at get_new_same rfl
  have s1 := tk_epoch (e' := rn) t1.get
  have t2 := TkS.set (l' := tkC n x m nx rn tk) t1.low t1.get
  simp only [a25, c25, vms, vmc, AOpd.val, Nat.reduceEqDiff, reduceCtorEq, Nat.reduceAdd, Nat.reduceBEq, resV, box_agg, tfa, Nat.zero_add, l1, tnilC, s1, tfill0]
  refine Gives.bind ((wants_ok k t2.low t2.get (x' := 10) (m' := 0) (fn_cells 47)).mono ?_)
  rintro _ h1 ⟨rfl, t3⟩
  simp only [vms, vmc, AOpd.val, Nat.reduceEqDiff, reduceCtorEq, Nat.reduceAdd, Nat.reduceBEq]
  exact ⟨rfl, (t1.trans t2).trans t3⟩
theorem atPin_ok (k : Fits T) (hl : Low h) (hg : h.get to = some (.cells (tkC n x m nx e tk) true)) (hm : 0 ≤ m ∧ m < 100) :
    Gives T 47 [.ptr to 0, resV er rn ok wv] h fun r h' => r = .tuple [] ∧ TkS h h' to (if 0 ≤ rn ∧ rn ≠ e then tkC n 12 0 (fnV 73) e tk else if m + 1 < n then tkC n 10 (m + 1) (fnV 47) e tk else tkC n 11 e (fnV 65) e tk) := by
  refine gives_func (k.env _ (by decide)) (k.at (fn := a47) rfl) rfl ?_
  have t1 := TkS.new (x := .cells [.int .i64 er, .int .i64 rn, .bool ok, wv] true) hl hg
  have l1 : loadV (h.new (.cells [.int .i64 er, .int .i64 rn, .bool ok, wv] true)) false 1 (.ptr h.next 1) = some (.int .i64 rn) := load_at get_new_same rfl
  have lm : loadV (h.new (.cells [.int .i64 er, .int .i64 rn, .bool ok, wv] true)) false 1 (.ptr to 4) = some (.int .i64 m) := load_at t1.get rfl
  have le : loadV (h.new (.cells [.int .i64 er, .int .i64 rn, .bool ok, wv] true)) false 1 (.ptr to 8) = some (.int .i64 e) := load_at t1.get rfl
  have ln : loadV (h.new (.cells [.int .i64 er, .int .i64 rn, .bool ok, wv] true)) false 1 (.ptr to 0) = some (.int .i64 n) := load_at t1.get rfl
  have w1 : IntKind.i64.wrap (m + 1) = m + 1 := wrap_i64 (by omega) (by omega)
  simp only [a47, c47, vms, vmc, AOpd.val, Nat.reduceEqDiff, reduceCtorEq, Nat.reduceAdd, Nat.reduceBEq, resV, box_agg, tfa, Nat.zero_add, tnilC, l1, lm, le, ln, w1]
  by_cases h1 : 0 ≤ rn
  · have d1 : decide (rn ≥ 0) = true := by simpa using h1
    by_cases h2 : rn = e
    · have d2 : (rn != e) = false := by simp [h2]
      rw [if_neg (by omega)]
      by_cases h3 : m + 1 < n
      · have d3 : decide (m + 1 < n) = true := by simpa using h3
        rw [if_pos h3]
        simp only [vms, vmc, AOpd.val, Nat.reduceEqDiff, reduceCtorEq, Nat.reduceAdd, Nat.reduceBEq, d1, d2, d3, tfa, Nat.zero_add, tnilC, l1, lm, le, ln, w1, tfill3]
        refine Gives.bind ((wants_ok k t1.low t1.get (x' := 10) (m' := m + 1) (fn_cells 47)).mono ?_)
        rintro _ h1 ⟨rfl, t3⟩
        simp only [vms, vmc, AOpd.val, Nat.reduceEqDiff, reduceCtorEq, Nat.reduceAdd, Nat.reduceBEq]
        exact ⟨rfl, t1.trans t3⟩
      · have d3 : decide (m + 1 < n) = false := by simpa using h3
        rw [if_neg h3]
        simp only [vms, vmc, AOpd.val, Nat.reduceEqDiff, reduceCtorEq, Nat.reduceAdd, Nat.reduceBEq, d1, d2, d3, tfa, Nat.zero_add, tnilC, l1, lm, le, ln, w1, tfill3]
        refine Gives.bind ((wants_ok k t1.low t1.get (x' := 11) (m' := e) (fn_cells 65)).mono ?_)
        rintro _ h1 ⟨rfl, t3⟩
        simp only [vms, vmc, AOpd.val, Nat.reduceEqDiff, reduceCtorEq, Nat.reduceAdd, Nat.reduceBEq]
        exact ⟨rfl, t1.trans t3⟩
    · have d2 : (rn != e) = true := by simp [h2]
      rw [if_pos ⟨h1, h2⟩]
      simp only [vms, vmc, AOpd.val, Nat.reduceEqDiff, reduceCtorEq, Nat.reduceAdd, Nat.reduceBEq, d1, d2, tfa, Nat.zero_add, tnilC, l1, lm, le, ln, w1, tfill3]
      refine Gives.bind ((tcollect_ok k t1.low t1.get).mono ?_)
      rintro _ h1 ⟨rfl, t3⟩
      simp only [vms, vmc, AOpd.val, Nat.reduceEqDiff, reduceCtorEq, Nat.reduceAdd, Nat.reduceBEq]
      exact ⟨rfl, t1.trans t3⟩
  · have d1 : decide (rn ≥ 0) = false := by simpa using h1
    rw [if_neg (by omega)]
    by_cases h3 : m + 1 < n
    · have d3 : decide (m + 1 < n) = true := by simpa using h3
      rw [if_pos h3]
      simp only [vms, vmc, AOpd.val, Nat.reduceEqDiff, reduceCtorEq, Nat.reduceAdd, Nat.reduceBEq, d1, d3, tfa, Nat.zero_add, tnilC, l1, lm, le, ln, w1, tfill3]
      refine Gives.bind ((wants_ok k t1.low t1.get (x' := 10) (m' := m + 1) (fn_cells 47)).mono ?_)
      rintro _ h1 ⟨rfl, t3⟩
      simp only [vms, vmc, AOpd.val, Nat.reduceEqDiff, reduceCtorEq, Nat.reduceAdd, Nat.reduceBEq]
      exact ⟨rfl, t1.trans t3⟩
    · have d3 : decide (m + 1 < n) = false := by simpa using h3
      rw [if_neg h3]
      simp only [vms, vmc, AOpd.val, Nat.reduceEqDiff, reduceCtorEq, Nat.reduceAdd, Nat.reduceBEq, d1, d3, tfa, Nat.zero_add, tnilC, l1, lm, le, ln, w1, tfill3]
      refine Gives.bind ((wants_ok k t1.low t1.get (x' := 11) (m' := e) (fn_cells 65)).mono ?_)
      rintro _ h1 ⟨rfl, t3⟩
      simp only [vms, vmc, AOpd.val, Nat.reduceEqDiff, reduceCtorEq, Nat.reduceAdd, Nat.reduceBEq]
      exact ⟨rfl, t1.trans t3⟩
theorem atAdv_ok (k : Fits T) (hl : Low h) (hg : h.get to = some (.cells (tkC n x m nx e tk) true)) :
    Gives T 65 [.ptr to 0, resV er rn ok wv] h fun r h' => r = .tuple [] ∧ TkS h h' to (tkC n 12 0 (fnV 73) e tk) := by
  refine gives_func (k.env _ (by decide)) (k.at (fn := a65) rfl) rfl ?_
  have t1 := TkS.new (x := .cells [.int .i64 er, .int .i64 rn, .bool ok, wv] true) hl hg
  simp only [a65, c65, vms, vmc, AOpd.val, Nat.reduceEqDiff, reduceCtorEq, Nat.reduceAdd, Nat.reduceBEq, resV, box_agg]
  refine Gives.bind ((tcollect_ok k t1.low t1.get).mono ?_)
  rintro _ h1 ⟨rfl, t3⟩
  simp only [vms, vmc, AOpd.val, Nat.reduceEqDiff, reduceCtorEq, Nat.reduceAdd, Nat.reduceBEq]
  exact ⟨rfl, t1.trans t3⟩
theorem atCollect_ok (k : Fits T) (hl : Low h) (hg : h.get to = some (.cells (tkC n x m nx e tk) true)) :
    Gives T 73 [.ptr to 0, resV er rn ok wv] h fun r h' => r = .tuple [] ∧ TkS h h' to (if ok then tkC n x m nx e tk else tkC n 0 0 .nilFunc e true) := by
  refine gives_func (k.env _ (by decide)) (k.at (fn := a73) rfl) rfl ?_
  have t1 := TkS.new (x := .cells [.int .i64 er, .int .i64 rn, .bool ok, wv] true) hl hg
  have l1 : loadV (h.new (.cells [.int .i64 er, .int .i64 rn, .bool ok, wv] true)) false 1 (.ptr h.next 2) = some (.bool ok) := load_at get_new_same rfl
  simp only [a73, c73, vms, vmc, AOpd.val, Nat.reduceEqDiff, reduceCtorEq, Nat.reduceAdd, Nat.reduceBEq, resV, box_agg, tfa, Nat.zero_add, l1]
  cases ok with
  | true =>
    simp only [vms, vmc, AOpd.val, Nat.reduceEqDiff, reduceCtorEq, Nat.reduceAdd, Nat.reduceBEq]
    exact ⟨rfl, t1⟩
  | false =>
    have s1 := tk_took (t := true) t1.get
    have t2 := TkS.set (l' := tkC n x m nx e true) t1.low t1.get
    simp only [vms, vmc, AOpd.val, Nat.reduceEqDiff, reduceCtorEq, Nat.reduceAdd, Nat.reduceBEq, tfa, Nat.zero_add, tnilC, s1, tfillN]
    refine Gives.bind ((wants_ok k t2.low t2.get (x' := 0) (m' := 0) (nx' := .nilFunc) ⟨rfl, rfl⟩).mono ?_)
    rintro _ h1 ⟨rfl, t3⟩
    simp only [vms, vmc, AOpd.val, Nat.reduceEqDiff, reduceCtorEq, Nat.reduceAdd, Nat.reduceBEq]
    exact ⟨rfl, (t1.trans t2).trans t3⟩
end Go.Proofs.Ytgecjbbdaahilaa
/- A tick: made, asked, told. -/
namespace Go.Proofs.Ytgecjbbdaahilaa
open Go.Vm
set_option linter.unusedSimpArgs false
set_option linter.unusedVariables false
set_option maxRecDepth 100000
variable {T : Vm.Prog} {h : AH} {to : Nat} {n x m e : Int} {nx : AV} {tk : Bool} {er rn : Int} {ok : Bool} {wv : AV}
theorem callFV_fn {call : Handler} {g : Nat} {args : List AV} : callFV call (fnV g) args h = call g args h := callFV_func
theorem got_ok (k : Fits T) {g : Nat} {l' : List AV} (hl : Low h) (hg : h.get to = some (.cells (tkC n x m (fnV g) e tk) true))
    (hcall : ∀ h2, Low h2 → h2.get to = some (.cells (tkC n x m (fnV g) e false) true) → Gives T g [.ptr to 0, resV er rn ok wv] h2 fun r h' => r = .tuple [] ∧ TkS h2 h' to l') :
    Gives T 10 [.ptr to 0, resV er rn ok wv] h fun r h' => r = .tuple [] ∧ TkS h h' to l' := by
  refine gives_func (k.env _ (by decide)) (k.at (fn := a10) rfl) rfl ?_
  have t1 := TkS.new (x := .cells [.int .i64 er, .int .i64 rn, .bool ok, wv] true) hl hg
  have s1 := tk_took (t := false) t1.get
  have t2 := TkS.set (l' := tkC n x m (fnV g) e false) t1.low t1.get
  have ln : loadV ((h.new (.cells [.int .i64 er, .int .i64 rn, .bool ok, wv] true)).set to (.cells (tkC n x m (fnV g) e false) true)) false 1 (.ptr to 7) = some (fnV g) := load_at t2.get rfl
  have hlt := hl _ _ hg
  have lr : loadV ((h.new (.cells [.int .i64 er, .int .i64 rn, .bool ok, wv] true)).set to (.cells (tkC n x m (fnV g) e false) true)) true 4 (.ptr h.next 0) = some (resV er rn ok wv) := load_all (by rw [AH.get_set, if_neg (by omega)]; exact get_new_same) rfl
  simp only [a10, c10, vms, vmc, AOpd.val, Nat.reduceEqDiff, reduceCtorEq, Nat.reduceAdd, Nat.reduceBEq, resV, box_agg, tfa, Nat.zero_add, tnilC, s1, ln, show eqNilV 3 (fnV g) .nilFunc = some false from rfl, step_callV, callFV_fn] at lr ⊢
  simp only [vms, vmc, AOpd.val, Nat.reduceEqDiff, reduceCtorEq, Nat.reduceAdd, Nat.reduceBEq, lr, step_callV, callFV_fn]
  refine Gives.bind ((hcall _ t2.low t2.get).mono ?_)
  rintro _ h3 ⟨rfl, t3⟩
  simp only [vms, vmc, AOpd.val, Nat.reduceEqDiff, reduceCtorEq, Nat.reduceAdd, Nat.reduceBEq]
  exact ⟨rfl, (t1.trans t2).trans t3⟩
theorem next_some (k : Fits T) {g : Nat} (hl : Low h) (hg : h.get to = some (.cells (tkC n x m (fnV g) e tk) true)) :
    Gives T 9 [.ptr to 0] h fun r h' => r = .tuple [accV x m, .bool true] ∧ Quiet h h' ∧ Low h' := by
  refine gives_func (k.env _ (by decide)) (k.at (fn := a9) rfl) rfl ?_
  have t1 := TkS.new (x := .cells [.int .i64 0, .int .i64 0, .int .i64 0, .int .i64 0, .int .u64 0, .nilSlice] true) hl hg
  have ln : loadV (h.new (.cells [.int .i64 0, .int .i64 0, .int .i64 0, .int .i64 0, .int .u64 0, .nilSlice] true)) false 1 (.ptr to 7) = some (fnV g) := load_at t1.get rfl
  have lw := tk_want t1.get
  have st := store_all (h := h.new (.cells [.int .i64 0, .int .i64 0, .int .i64 0, .int .i64 0, .int .u64 0, .nilSlice] true)) (o := h.next) (n := 6) (l' := [.int .i64 x, .int .i64 0, .int .i64 0, .int .i64 m, .int .u64 0, .nilSlice]) get_new_same rfl rfl rfl
  have q : Quiet h ((h.new (.cells [.int .i64 0, .int .i64 0, .int .i64 0, .int .i64 0, .int .u64 0, .nilSlice] true)).set h.next (.cells [.int .i64 x, .int .i64 0, .int .i64 0, .int .i64 m, .int .u64 0, .nilSlice] true)) := ((Quiet.refl _).new _).set (Nat.le_refl _) _
  have lo : Low ((h.new (.cells [.int .i64 0, .int .i64 0, .int .i64 0, .int .i64 0, .int .u64 0, .nilSlice] true)).set h.next (.cells [.int .i64 x, .int .i64 0, .int .i64 0, .int .i64 m, .int .u64 0, .nilSlice] true)) := (hl.new _).set (by rw [next_new]; omega) _
  have lr : loadV ((h.new (.cells [.int .i64 0, .int .i64 0, .int .i64 0, .int .i64 0, .int .u64 0, .nilSlice] true)).set h.next (.cells [.int .i64 x, .int .i64 0, .int .i64 0, .int .i64 m, .int .u64 0, .nilSlice] true)) true 6 (.ptr h.next 0) = some (accV x m) := load_all get_set_same rfl
  simp only [accV] at lw lr
  simp only [a9, c9, vms, vmc, AOpd.val, Nat.reduceEqDiff, reduceCtorEq, Nat.reduceAdd, Nat.reduceBEq, tnilC, tfa, Nat.zero_add, ln, show eqNilV 3 (fnV g) .nilFunc = some false from rfl, lw, st, res_cell, lr]
  exact ⟨rfl, q, lo⟩
theorem next_none (k : Fits T) (hl : Low h) (hg : h.get to = some (.cells (tkC n x m .nilFunc e tk) true)) :
    Gives T 9 [.ptr to 0] h fun r h' => r = .tuple [accV 0 0, .bool false] ∧ Quiet h h' ∧ Low h' := by
  refine gives_func (k.env _ (by decide)) (k.at (fn := a9) rfl) rfl ?_
  have t1 := TkS.new (x := .cells [.int .i64 0, .int .i64 0, .int .i64 0, .int .i64 0, .int .u64 0, .nilSlice] true) hl hg
  have ln : loadV (h.new (.cells [.int .i64 0, .int .i64 0, .int .i64 0, .int .i64 0, .int .u64 0, .nilSlice] true)) false 1 (.ptr to 7) = some .nilFunc := load_at t1.get rfl
  have st := store_all (h := h.new (.cells [.int .i64 0, .int .i64 0, .int .i64 0, .int .i64 0, .int .u64 0, .nilSlice] true)) (o := h.next) (n := 6) (l' := [.int .i64 0, .int .i64 0, .int .i64 0, .int .i64 0, .int .u64 0, .nilSlice]) get_new_same rfl rfl rfl
  have q : Quiet h ((h.new (.cells [.int .i64 0, .int .i64 0, .int .i64 0, .int .i64 0, .int .u64 0, .nilSlice] true)).set h.next (.cells [.int .i64 0, .int .i64 0, .int .i64 0, .int .i64 0, .int .u64 0, .nilSlice] true)) := ((Quiet.refl _).new _).set (Nat.le_refl _) _
  have lo : Low ((h.new (.cells [.int .i64 0, .int .i64 0, .int .i64 0, .int .i64 0, .int .u64 0, .nilSlice] true)).set h.next (.cells [.int .i64 0, .int .i64 0, .int .i64 0, .int .i64 0, .int .u64 0, .nilSlice] true)) := (hl.new _).set (by rw [next_new]; omega) _
  have lr : loadV ((h.new (.cells [.int .i64 0, .int .i64 0, .int .i64 0, .int .i64 0, .int .u64 0, .nilSlice] true)).set h.next (.cells [.int .i64 0, .int .i64 0, .int .i64 0, .int .i64 0, .int .u64 0, .nilSlice] true)) true 6 (.ptr h.next 0) = some (accV 0 0) := load_all get_set_same rfl
  simp only [accV] at lr
  simp only [a9, c9, vms, vmc, AOpd.val, Nat.reduceEqDiff, reduceCtorEq, Nat.reduceAdd, Nat.reduceBEq, tnilC, tfa, Nat.zero_add, ln, show eqNilV 3 .nilFunc .nilFunc = some true from rfl, tfillN, st, res_cell, lr]
  exact ⟨rfl, q, lo⟩
def opV : AV := .agg [.int .i64 5, .str [], .str [], .int .i64 0]
theorem tfill10 (y : Int) : fillV [AV.int .i64 0, .int .i64 0, .int .i64 0, .int .i64 0, .int .i64 0, .int .u64 0, .nilSlice, .nilFunc, .int .i64 0, .bool false] [(0, 1, .int .i64 y)] = some (tkC y 0 0 .nilFunc 0 false) := by simp [fillV, AV.isDef, AV.cells, setMany, tkC]
theorem tnew_ok (k : Fits T) (hl : Low h) {c : Int} (hc : 1 ≤ c ∧ c ≤ 8) :
    Gives T 8 [opV, .int .i64 c] h fun r h' => ∃ to, r = .tuple [.ptr to 0, .int .i64 0] ∧ h'.get to = some (.cells (tkC c 7 0 (fnV 25) 0 false) true) ∧ Quiet h h' ∧ Low h' ∧ h.next ≤ to ∧ to < h'.next := by
  refine gives_func (k.env _ (by decide)) (k.at (fn := a8) rfl) rfl ?_
  have lo : loadV (h.new (.cells [.int .i64 5, .str [], .str [], .int .i64 0] true)) true 4 (.ptr h.next 0) = some opV := load_all get_new_same rfl
  have hb : fillV [AV.int .i64 0, .str [], .str [], .int .i64 0] [(0, 1, .int .i64 5)] = some [.int .i64 5, .str [], .str [], .int .i64 0] := rfl
  have heq : eqAggV [0, 1, 1, 0] true (.agg [.int .i64 5, .str [], .str [], .int .i64 0]) (.agg [.int .i64 5, .str [], .str [], .int .i64 0]) = some (.bool false) := rfl
  have d1 : decide (c < 1) = false := by rw [decide_eq_false_iff_not]; omega
  have d2 : decide (c > 8) = false := by rw [decide_eq_false_iff_not]; omega
  have lo1 : Low (h.new (.cells [.int .i64 5, .str [], .str [], .int .i64 0] true)) := hl.new _
  have q1 : Quiet h (h.new (.cells [.int .i64 5, .str [], .str [], .int .i64 0] true)) := (Quiet.refl _).new _
  simp only [a8, c8, vms, vmc, AOpd.val, Nat.reduceEqDiff, reduceCtorEq, Nat.reduceAdd, Nat.reduceBEq, opV, box_agg] at lo ⊢
  simp only [vms, vmc, AOpd.val, Nat.reduceEqDiff, reduceCtorEq, Nat.reduceAdd, Nat.reduceBEq, lo, hb, heq, d1, d2, tfill10, box_agg, tfill0]
  generalize hgen : h.new (.cells [.int .i64 5, .str [], .str [], .int .i64 0] true) = h1 at lo1 q1
  have hg : (h1.new (.cells (tkC c 0 0 .nilFunc 0 false) true)).get h1.next = some (.cells (tkC c 0 0 .nilFunc 0 false) true) := get_new_same
  refine Gives.bind ((wants_ok k (lo1.new _) hg (x' := 7) (m' := 0) (fn_cells 25)).mono ?_)
  rintro _ h3 ⟨rfl, t3⟩
  simp only [vms, vmc, AOpd.val, Nat.reduceEqDiff, reduceCtorEq, Nat.reduceAdd, Nat.reduceBEq]
  have hn := q1.1
  have hq : Quiet h h3 := ⟨by have := t3.mods.1; rw [next_new] at this; omega, fun o ho _ => by
    rw [t3.mods.2 o (by rw [next_new]; omega) (by omega), AH.get_new, if_neg (by omega)]
    exact q1.2 o ho id⟩
  exact ⟨h1.next, rfl, t3.get, hq, t3.low, hn, t3.low _ _ t3.get⟩
end Go.Proofs.Ytgecjbbdaahilaa

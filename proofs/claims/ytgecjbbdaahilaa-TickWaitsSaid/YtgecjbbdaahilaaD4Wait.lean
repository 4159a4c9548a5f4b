/- A tick, run to its end on a memory. -/
import Derived.Test.YtgecjbbdaahilaaD4Tick
import Derived.Test.YtgecjbbdaahilaaD4Mg
namespace Go.Proofs.Ytgecjbbdaahilaa
open Go.Vm
set_option linter.unusedSimpArgs false
set_option linter.unusedVariables false
set_option maxRecDepth 100000
variable {T : Vm.Prog} {h : AH} {to : Nat}
/-- Where a tick is. -/
inductive Ph where
  | E
  | P (c : Nat)
  | A
  | C
  | D
def Ph.cells (n e : Int) (tk : Bool) : Ph → List AV
  | .E => tkC n 7 0 (fnV 25) e tk
  | .P c => tkC n 10 (c : Int) (fnV 47) e tk
  | .A => tkC n 11 e (fnV 65) e tk
  | .C => tkC n 12 0 (fnV 73) e tk
  | .D => tkC n 0 0 .nilFunc e tk
def Ph.want (e : Int) : Ph → AccP
  | .E => nA 7 0
  | .P c => nA 10 (c : Int)
  | .A => nA 11 e
  | .C => nA 12 0
  | .D => nA 0 0
def Ph.ok : Ph → Prop
  | .P c => c < 100
  | .D => False
  | _ => True
def Ph.next (n e rn : Int) (ok : Bool) : Ph → Ph × Int
  | .E => (.P 0, rn)
  | .P c => if 0 ≤ rn ∧ rn ≠ e then (.C, e) else if (c : Int) + 1 < n then (.P (c + 1), e) else (.A, e)
  | .A => (.C, e)
  | .C => if ok then (.C, e) else (.D, e)
  | .D => (.D, e)
inductive TkRun (n : Int) : Nat → Ph → Int → MemP → MemP → Prop
  | done {e : Int} {M : MemP} : TkRun n 0 .D e M M
  | step {s : Nat} {p : Ph} {e : Int} {M M' Mf : MemP} {r : ResP} (hp : p.ok) (hd : doP M 0 (p.want e) = (r, M')) (t : TkRun n s (p.next n e r.n r.ok).1 (p.next n e r.n r.ok).2 M' Mf) : TkRun n (s + 1) p e M Mf
theorem got_step (k : Fits T) {p : Ph} (hp : p.ok) {n e : Int} {tk : Bool} {er rn : Int} {ok : Bool} {wv : AV} (hl : Low h) (hg : h.get to = some (.cells (p.cells n e tk) true)) :
    Gives T 10 [.ptr to 0, resV er rn ok wv] h fun r h' => r = .tuple [] ∧ ∃ tk', TkS h h' to ((p.next n e rn ok).1.cells n (p.next n e rn ok).2 tk') := by
  cases p with
  | E => exact (got_ok k hl hg fun h2 lo hg2 => atEpoch_ok k lo hg2).mono fun r h' ⟨h1, h2⟩ => ⟨h1, false, h2⟩
  | P c =>
    have hc : c < 100 := hp
    refine (got_ok k hl hg fun h2 lo hg2 => atPin_ok k lo hg2 (by omega)).mono fun r h' ⟨h1, h2⟩ => ⟨h1, false, ?_⟩
    simp only [Ph.next]
    split
    · rename_i hc; rw [if_pos hc] at h2; exact h2
    · rename_i hc; rw [if_neg hc] at h2
      split
      · rename_i hc; rw [if_pos hc] at h2; exact h2
      · rename_i hc; rw [if_neg hc] at h2; exact h2
  | A => exact (got_ok k hl hg fun h2 lo hg2 => atAdv_ok k lo hg2).mono fun r h' ⟨h1, h2⟩ => ⟨h1, false, h2⟩
  | C =>
    cases ok with
    | true => exact (got_ok k hl hg fun h2 lo hg2 => atCollect_ok k lo hg2).mono fun r h' ⟨h1, h2⟩ => ⟨h1, false, h2⟩
    | false => exact (got_ok k hl hg fun h2 lo hg2 => atCollect_ok k lo hg2).mono fun r h' ⟨h1, h2⟩ => ⟨h1, true, h2⟩
  | D => exact hp.elim
theorem next_step (k : Fits T) {p : Ph} (hp : p.ok) {n e : Int} {tk : Bool} (hl : Low h) (hg : h.get to = some (.cells (p.cells n e tk) true)) :
    Gives T 9 [.ptr to 0] h fun r h' => r = .tuple [accV (p.want e).kind (p.want e).n, .bool true] ∧ Quiet h h' ∧ Low h' := by
  cases p with
  | E => exact next_some k hl hg
  | P c => exact next_some k hl hg
  | A => exact next_some k hl hg
  | C => exact next_some k hl hg
  | D => exact hp.elim
theorem want_is {p : Ph} (e : Int) : (p.want e).v .nilSlice = accV (p.want e).kind (p.want e).n := by cases p <;> rfl
theorem want_ws {p : Ph} (e : Int) : (p.want e).ws = [] := by cases p <;> rfl
theorem run17 (k : Fits T) {mo co po n s : Nat} {M Mf : MemP} {F : Nat → Prop} {cc : List AV} (hl : Low h) (R : MemR mo M F h) (hco : h.get co = some (.cells cc true)) (h5 : cc[5]? = some (.int .i64 (n : Int))) (hpo : h.get po = some (.cells [.ptr mo 0] true)) (npo : ¬ F po) (hn : 1 ≤ n ∧ n ≤ 8) (t : TkRun n s .E 0 M Mf) (hs : s ≤ 59) :
    Gives T 17 [.ptr co 0, .ptr po 0] h fun r h' => r = .bool true ∧ ∃ F', MemR mo Mf F' h' ∧ Acts h F h' F' := by
  refine gives_func (k.env _ (by decide)) (k.at (fn := a17) rfl) rfl ?_
  have hb : fillV [AV.int .i64 0, .str [], .str [], .int .i64 0] [(0, 1, .int .i64 5)] = some [.int .i64 5, .str [], .str [], .int .i64 0] := rfl
  simp only [a17, c17, vms, vmc, AOpd.val, Nat.reduceEqDiff, reduceCtorEq, Nat.reduceAdd, Nat.reduceBEq, hb, tfa, Nat.zero_add, load_at hco h5]
  refine Gives.bind ((tnew_ok k hl (c := (n : Int)) (by omega)).mono ?_)
  rintro _ h1 ⟨to, rfl, hto, q1, lo1, hn1, hn2⟩
  simp only [vms, vmc, AOpd.val, Nat.reduceEqDiff, reduceCtorEq, Nat.reduceAdd, Nat.reduceBEq, show eqNilV 0 (.ptr to 0) .nilPtr = some false from rfl, show ((0 : Int) != 0) = false from rfl]
  have a1 : Acts h F h1 F := Acts.same (q1.mods _) lo1
  refine wpc_loop (fun d f g => ∃ i p e M' F' tk, d + i ≤ 59 ∧ TkRun n d p e M' Mf ∧ MemR mo M' F' g ∧ Acts h F g F' ∧ g.get to = some (.cells (p.cells (n : Int) e tk) true) ∧ ¬ F' to ∧ f.at 1 = .ptr po 0 ∧ f.at 3 = .ptr to 0 ∧ f.at 5 = .int .i64 (i : Nat)) ?_ s _ _
    ⟨0, .E, 0, M, F, false, by omega, t, ((R.res hl).quiet q1).holds, a1, hto, (R.res hl).not hn1, ?_⟩
  · rintro d f g ⟨i, p, e, M', F', tk, hd, t, R', act, hg, nto, f1, f3, f5⟩
    have lo := act.low
    have d1 : decide ((i : Int) < 60) = true := by rw [decide_eq_true_eq]; omega
    have w1 : IntKind.i64.wrap ((i : Int) + 1) = ((i + 1 : Nat) : Int) := by rw [wrap_i64 (by omega) (by omega)]; omega
    cases t with
    | done =>
      simp only [c17l0, vms, vmc, AOpd.val, Nat.reduceEqDiff, reduceCtorEq, Nat.reduceAdd, Nat.reduceBEq, f1, f3, f5, d1]
      refine Gives.bind ((next_none k lo hg).mono ?_)
      rintro _ g2 ⟨rfl, q2, lo2⟩
      have st := store_all (h := g2.new (.cells [.int .i64 0, .int .i64 0, .int .i64 0, .int .i64 0, .int .u64 0, .nilSlice] true)) (o := g2.next) (n := 6) (l' := [.int .i64 0, .int .i64 0, .int .i64 0, .int .i64 0, .int .u64 0, .nilSlice]) get_new_same rfl rfl rfl
      have q3 : Quiet g ((g2.new (.cells [.int .i64 0, .int .i64 0, .int .i64 0, .int .i64 0, .int .u64 0, .nilSlice] true)).set g2.next (.cells [.int .i64 0, .int .i64 0, .int .i64 0, .int .i64 0, .int .u64 0, .nilSlice] true)) := (q2.new _).set q2.1 _
      have lo3 : Low ((g2.new (.cells [.int .i64 0, .int .i64 0, .int .i64 0, .int .i64 0, .int .u64 0, .nilSlice] true)).set g2.next (.cells [.int .i64 0, .int .i64 0, .int .i64 0, .int .i64 0, .int .u64 0, .nilSlice] true)) := (lo2.new _).set (by rw [next_new]; omega) _
      simp only [vms, vmc, AOpd.val, Nat.reduceEqDiff, reduceCtorEq, Nat.reduceAdd, Nat.reduceBEq, accV, st]
      exact ⟨trivial, F', ((R'.res lo).quiet q3).holds, act.trans (Acts.same (q3.mods _) lo3)⟩
    | @step s _ _ _ M2 _ r hp hdo t =>
      simp only [c17l0, vms, vmc, AOpd.val, Nat.reduceEqDiff, reduceCtorEq, Nat.reduceAdd, Nat.reduceBEq, f1, f3, f5, d1]
      refine Gives.bind ((next_step k hp lo hg).mono ?_)
      rintro _ g2 ⟨rfl, q2, lo2⟩
      have st := store_all (h := g2.new (.cells [.int .i64 0, .int .i64 0, .int .i64 0, .int .i64 0, .int .u64 0, .nilSlice] true)) (o := g2.next) (n := 6) (l' := [.int .i64 (p.want e).kind, .int .i64 0, .int .i64 0, .int .i64 (p.want e).n, .int .u64 0, .nilSlice]) get_new_same rfl rfl rfl
      have q3 : Quiet g ((g2.new (.cells [.int .i64 0, .int .i64 0, .int .i64 0, .int .i64 0, .int .u64 0, .nilSlice] true)).set g2.next (.cells [.int .i64 (p.want e).kind, .int .i64 0, .int .i64 0, .int .i64 (p.want e).n, .int .u64 0, .nilSlice] true)) := (q2.new _).set q2.1 _
      have lo3 : Low ((g2.new (.cells [.int .i64 0, .int .i64 0, .int .i64 0, .int .i64 0, .int .u64 0, .nilSlice] true)).set g2.next (.cells [.int .i64 (p.want e).kind, .int .i64 0, .int .i64 0, .int .i64 (p.want e).n, .int .u64 0, .nilSlice] true)) := (lo2.new _).set (by rw [next_new]; omega) _
      have l6 : loadV ((g2.new (.cells [.int .i64 0, .int .i64 0, .int .i64 0, .int .i64 0, .int .u64 0, .nilSlice] true)).set g2.next (.cells [.int .i64 (p.want e).kind, .int .i64 0, .int .i64 0, .int .i64 (p.want e).n, .int .u64 0, .nilSlice] true)) true 6 (.ptr g2.next 0) = some (.agg [.int .i64 (p.want e).kind, .int .i64 0, .int .i64 0, .int .i64 (p.want e).n, .int .u64 0, .nilSlice]) := load_all get_set_same rfl
      simp only [vms, vmc, AOpd.val, Nat.reduceEqDiff, reduceCtorEq, Nat.reduceAdd, Nat.reduceBEq, accV, st, f3, f1]
      generalize ((g2.new (.cells [.int .i64 0, .int .i64 0, .int .i64 0, .int .i64 0, .int .u64 0, .nilSlice] true)).set g2.next (.cells [.int .i64 (p.want e).kind, .int .i64 0, .int .i64 0, .int .i64 (p.want e).n, .int .u64 0, .nilSlice] true)) = g3 at *
      have R3 := ((R'.res lo).quiet q3).holds
      have a3 : Acts h F g3 F' := act.trans (Acts.same (q3.mods _) lo3)
      have hg3 := q3.get hg (lo _ _ hg)
      have hpo3 := a3.get hpo (hl _ _ hpo) npo
      have hdo' := do_ok k R3 lo3 0 (p.want e) (wv := .nilSlice) (by rw [want_ws]; exact SrcB.nil)
      rw [hdo, want_is] at hdo'
      simp only [vms, vmc, AOpd.val, Nat.reduceEqDiff, reduceCtorEq, Nat.reduceAdd, Nat.reduceBEq, l6, load_at hpo3 (i := 0) rfl]
      refine Gives.bind (hdo'.mono ?_)
      rintro _ g4 ⟨⟨wv, rfl, hw⟩, F4, R4, act4⟩
      have hg4 := act4.get hg3 (lo3 _ _ hg3) nto
      have nto4 := act4.not (lo3 _ _ hg3) nto
      simp only [vms, vmc, AOpd.val, Nat.reduceEqDiff, reduceCtorEq, Nat.reduceAdd, Nat.reduceBEq]
      refine Gives.bind ((got_step k hp (er := (r.err : Int)) (rn := r.n) (ok := r.ok) (wv := wv) act4.low hg4).mono ?_)
      rintro _ g5 ⟨rfl, tk', t5⟩
      simp only [vms, vmc, AOpd.val, Nat.reduceEqDiff, reduceCtorEq, Nat.reduceAdd, Nat.reduceBEq, f5, w1]
      have a4 := a3.trans act4
      have hto2 : h.next ≤ to := hn1
      have a5 : Acts h F g5 F4 := ⟨a4.mods.trans t5.mods fun o ho => .inr (by omega), a4.grow, t5.low⟩
      exact ⟨s, by omega, i + 1, _, _, M2, F4, tk', by omega, t, ((R4.res act4.low).frame t5.mods fun o ho e => nto4 (e ▸ ho)).holds, a5, t5.get, nto4, f1, f3, rfl⟩
  · simp only [vms, vmc, AOpd.val, Nat.reduceEqDiff, reduceCtorEq, Nat.reduceAdd, Nat.reduceBEq]
    exact ⟨trivial, trivial, rfl⟩
end Go.Proofs.Ytgecjbbdaahilaa
/- The law TickWaits in plain terms: ticks on a memory whose first client has a slot in limbo. -/
namespace Go.Proofs.Ytgecjbbdaahilaa
open Go.Vm
set_option linter.unusedSimpArgs false
set_option linter.unusedVariables false
/-- A memory of n clients at epoch t: what is pinned, what lies in the first one's limbo since t0. -/
structure TkM (M : MemP) (n : Nat) (J L D : List Nat) (t0 t : Int) (pl : List Int) (room0 nr : Nat) : Prop where
  ar : FrS M.ar 0 J D room0 1 nr
  cl : ∃ x, M.ep.cl 0 = some x ∧ x.limbo = L.map fun j => (((refN j 1 ((0 : Nat) == 0) : Nat) : Int), t0)
  pins : pinsOf M.ep = pl
  len : M.ep.cls.length = n
  pos : 1 ≤ n ∧ n ≤ 8
  now : M.ep.now = t
  room : 8 ≤ M.ep.room
  root : M.root = (refN nr 1 false : Nat)
  nr : nr < 1024
variable {M : MemP} {n : Nat} {J L D : List Nat} {t0 t : Int} {pl : List Int} {room0 nr : Nat}
theorem tcl0_set {ep : EpP} {x : ClP} (hl : 1 ≤ ep.cls.length) : (ep.setCl 0 x).cl 0 = some x := by
  simp only [EpP.cl, EpP.setCl, if_pos (show (0 : Int) ≤ 0 by decide), show (0 : Int).toNat = 0 from rfl, List.getElem?_set, if_true]
  rw [if_pos (by omega)]
theorem pins_limbo {ep : EpP} {x : ClP} {l : List (Int × Int)} (hx : ep.cl 0 = some x) : pinsOf (ep.setCl 0 { x with limbo := l }) = pinsOf ep := by
  have hx' : ep.cls[0]? = some x := by simpa [EpP.cl] using hx
  unfold pinsOf EpP.setCl
  apply List.ext_getElem?
  intro j
  simp only [show (0 : Int).toNat = 0 from rfl, List.getElem?_map, List.getElem?_set]
  by_cases e : 0 = j
  · subst e
    have := (List.getElem?_eq_some_iff.1 hx').1
    rw [if_pos rfl, if_pos this, hx']; rfl
  · rw [if_neg e]
theorem TkM.alloc (s : TkM M n [] [] [] t0 t pl room0 nr) (hr : 0 < room0) : ∃ i M', doP M 0 ⟨4, 0, 0, 0, 0, []⟩ = (⟨0, ((refN i 1 ((0 : Nat) == 0) : Nat) : Int), false, []⟩, M') ∧ TkM M' n [i] [] [] t0 t pl room0 nr ∧ i < 1024 ∧ i ≠ nr := by
  obtain ⟨i, st', ha, s', hi, hn⟩ := s.ar.alloc (by decide) (by simpa using hr)
  refine ⟨i, { M with ar := st' }, ?_, ⟨by simpa using s', s.cl, s.pins, s.len, s.pos, s.now, s.room, s.root, s.nr⟩, hi, hn⟩
  rw [doP_ar ⟨by decide, by have := s.len; have := s.pos; omega⟩ (kind_in (x := 4) rfl (by decide))]
  have ha' : allocI M.ar 0 [] = _ := ha
  simp [slotsP, ha']
theorem TkM.retire {i : Nat} (s : TkM M n [i] [] [] t0 t pl room0 nr) (hi : i < 1024) (hn : i ≠ nr) : ∃ M', doP M 0 ⟨6, ((refN i 1 ((0 : Nat) == 0) : Nat) : Int), 0, 0, 0, []⟩ = (⟨0, 0, false, []⟩, M') ∧ TkM M' n [i] [i] [] t t pl room0 nr := by
  obtain ⟨x, hx, hxl⟩ := s.cl
  have hv : Valid i 1 := ⟨by omega, by omega, by omega⟩
  have hp := s.pos
  have hne : ((refN i 1 ((0 : Nat) == 0) : Nat) : Int) ≠ M.root := by
    rw [s.root]
    intro e
    have := refN_inj hv ⟨s.nr, by omega, by omega⟩ (Int.ofNat.inj e)
    exact hn this.1
  have hr := s.room
  refine ⟨{ M with ep := M.ep.setCl 0 { x with limbo := x.limbo ++ [(((refN i 1 ((0 : Nat) == 0) : Nat) : Int), M.ep.now)] } }, ?_, ⟨s.ar, ⟨_, tcl0_set (by have := s.len; omega), ?_⟩, (pins_limbo hx).trans s.pins, by show (EpP.setCl _ _ _).cls.length = n; rw [setCl_len]; exact s.len, s.pos, s.now, s.room, s.root, s.nr⟩⟩
  · rw [doP_6 ⟨by decide, by have := s.len; omega⟩ rfl, if_neg hne]
    unfold retireE
    simp only [hx]
    rw [if_neg (by rw [Classical.not_not]; exact ⟨i, 1, _, hv, rfl⟩), if_neg (by rw [hxl, List.length_map]; simp; omega)]
  · simp only [hxl, s.now, List.map_append, List.map_cons, List.map_nil, List.nil_append]
theorem TkM.turn {k : Nat} {y : Int} (s : TkM M n J L D t0 t pl room0 nr) (hk : k < n) : ∃ x, M.ep.cl (k : Int) = some x ∧ TkM { M with ep := M.ep.setCl (k : Int) { x with pin := y } } n J L D t0 t (pl.set k y) room0 nr := by
  obtain ⟨x, hx, hx2⟩ := cl_some (ep := M.ep) (n := k) (by rw [s.len]; exact hk)
  obtain ⟨z, hz, hzl⟩ := s.cl
  have hp := s.pos
  refine ⟨x, hx, ⟨s.ar, ?_, by rw [← s.pins]; exact pins_set _, by show (EpP.setCl _ _ _).cls.length = n; rw [setCl_len]; exact s.len, s.pos, s.now, s.room, s.root, s.nr⟩⟩
  by_cases e : k = 0
  · subst e
    have hzx : z = x := by
      have : M.ep.cl 0 = some x := hx
      rw [hz] at this; exact (Option.some.inj this)
    subst hzx
    exact ⟨_, tcl0_set (by have := s.len; omega), hzl⟩
  · refine ⟨z, ?_, hzl⟩
    have hz' : M.ep.cls[0]? = some z := by simpa [EpP.cl] using hz
    simp only [EpP.cl, EpP.setCl, if_pos (show (0 : Int) ≤ 0 by decide), show (0 : Int).toNat = 0 from rfl, Int.toNat_natCast, List.getElem?_set, if_neg e]
    exact hz'
theorem TkM.pin {k : Nat} (s : TkM M n J L D t0 t pl room0 nr) (hk : k < n) (ht : 0 ≤ t) : ∃ M', doP M (k : Int) (nA 8 t) = (⟨0, 0, true, []⟩, M') ∧ TkM M' n J L D t0 t (pl.set k t) room0 nr := by
  obtain ⟨x, hx, s'⟩ := s.turn (y := t) hk
  refine ⟨_, ?_, s'⟩
  rw [doP_8 ⟨by omega, by have := s.len; omega⟩ rfl, show (nA 8 t).n = t from rfl, pinE_yes hx ht (by have := s.now; omega)]
theorem TkM.unpin {k : Nat} (s : TkM M n J L D t0 t pl room0 nr) (hk : k < n) : ∃ M', doP M (k : Int) (kA 9) = (⟨0, 0, true, []⟩, M') ∧ TkM M' n J L D t0 t (pl.set k (-1)) room0 nr := by
  obtain ⟨x, hx, s'⟩ := s.turn (y := -1) hk
  refine ⟨_, ?_, s'⟩
  rw [doP_9 ⟨by omega, by have := s.len; omega⟩ rfl]
  simp only [unpinE, hx]
theorem TkM.adv (s : TkM M n J L D t0 t pl room0 nr) (ht : t < 1000) : ∃ M', doP M 0 (nA 11 t) = (⟨0, 0, true, []⟩, M') ∧ TkM M' n J L D t0 (t + 1) pl room0 nr := by
  have hp := s.pos
  have := do_adv (M := M) (c := 0) (by have := s.len; omega) (by have := s.now; omega)
  rw [s.now] at this
  refine ⟨_, this, ⟨s.ar, s.cl, s.pins, s.len, s.pos, rfl, s.room, s.root, s.nr⟩⟩
theorem TkM.keep (s : TkM M n J L D t0 t pl room0 nr) (ht : L = [] ∨ t < t0 + 2) : doP M 0 (nA 12 0) = (⟨0, 0, false, []⟩, M) := by
  obtain ⟨x, hx, hxl⟩ := s.cl
  have hp := s.pos
  have hE : collectE M.ep 0 = (0, false, M.ep) := by
    unfold collectE
    simp only [hx, hxl]
    rcases ht with rfl | ht
    · rfl
    · cases L with
      | nil => rfl
      | cons j r =>
        simp only [List.map_cons]
        rw [if_pos (by have := s.now; omega)]
  rw [doP_12 ⟨by decide, by have := s.len; omega⟩ rfl]
  unfold collectP
  rw [hE, if_pos rfl]
theorem TkM.collect {j : Nat} (s : TkM M n (j :: J) (j :: L) D t0 t pl room0 nr) (ht : t0 + 2 ≤ t) : ∃ M', doP M 0 (nA 12 0) = (⟨0, ((refN j 1 ((0 : Nat) == 0) : Nat) : Int), true, []⟩, M') ∧ TkM M' n J L (D ++ [j]) t0 t pl room0 nr := by
  obtain ⟨x, hx, hxl⟩ := s.cl
  have hp := s.pos
  obtain ⟨st', hf, s'⟩ := s.ar.free (by decide)
  have hE : collectE M.ep 0 = (((refN j 1 ((0 : Nat) == 0) : Nat) : Int), true, M.ep.setCl 0 { x with limbo := L.map fun j => (((refN j 1 ((0 : Nat) == 0) : Nat) : Int), t0) }) := by
    unfold collectE
    simp only [hx, hxl, List.map_cons]
    rw [if_neg (by have := s.now; omega)]
  refine ⟨{ M with ep := M.ep.setCl 0 { x with limbo := L.map fun j => (((refN j 1 ((0 : Nat) == 0) : Nat) : Int), t0) }, ar := st' }, ?_, ⟨s', ⟨_, tcl0_set (by have := s.len; omega), rfl⟩, (pins_limbo hx).trans s.pins, by show (EpP.setCl _ _ _).cls.length = n; rw [setCl_len]; exact s.len, s.pos, s.now, s.room, s.root, s.nr⟩⟩
  rw [doP_12 ⟨by decide, by have := s.len; omega⟩ rfl]
  unfold collectP
  rw [hE]
  simp only [hf]
  rfl
/-! ### ticks -/
theorem run_keep {e : Int} (s : TkM M n J L D t0 t pl room0 nr) (ht : L = [] ∨ t < t0 + 2) : TkRun n 1 .C e M M :=
  .step (p := .C) trivial (s.keep ht) .done
theorem run_free {j : Nat} {e : Int} (s : TkM M n [j] [j] D t0 t pl room0 nr) (ht : t0 + 2 ≤ t) : ∃ M', TkRun n 2 .C e M M' ∧ TkM M' n [] [] (D ++ [j]) t0 t pl room0 nr := by
  obtain ⟨M', hd, s'⟩ := s.collect ht
  exact ⟨M', .step (p := .C) trivial hd (run_keep s' (.inl rfl)), s'⟩
theorem pin_at (s : TkM M n J L D t0 t pl room0 nr) {c : Nat} (hc : c < n) : ∃ x, pl[c]? = some x ∧ doP M 0 (nA 10 (c : Int)) = (⟨0, x, false, []⟩, M) := by
  have hp := s.pos
  have hlen : pl.length = n := by rw [← s.pins]; simp [pinsOf, s.len]
  have := do_pinOf (M := M) (c := 0) (j := c) (by have := s.len; omega) (by have := s.len; omega)
  refine ⟨pl[c]'(by omega), List.getElem?_eq_getElem (by omega), ?_⟩
  rw [s.pins, at0_of (List.getElem?_eq_getElem (by omega))] at this
  exact this
theorem run_pass (s : TkM M n J L D t0 t pl room0 nr) {Mf : MemP} {st : Nat} (hrun : TkRun n st .A t M Mf) (hp : ∀ x ∈ pl, x < 0 ∨ x = t) : ∀ (d c : Nat), d = n - c → c < n → TkRun n (st + d) (.P c) t M Mf
  | 0, c, hd, hc => by omega
  | d + 1, c, hd, hc => by
    obtain ⟨x, hx, hdo⟩ := pin_at s hc
    have hx2 := hp x (List.mem_of_getElem? hx)
    have hpos := s.pos
    refine .step (p := .P c) (show c < 100 by omega) hdo ?_
    simp only [Ph.next]
    rw [if_neg (by omega)]
    by_cases hlt : c + 1 < n
    · rw [if_pos (by omega)]
      exact run_pass s hrun hp d (c + 1) (by omega) hlt
    · rw [if_neg (by omega), show d = 0 by omega]
      exact hrun
theorem run_block (s : TkM M n J L D t0 t pl room0 nr) {Mf : MemP} {st : Nat} (hrun : TkRun n st .C t M Mf) {j : Nat} {y : Int} (hj : pl[j]? = some y) (hy : 0 ≤ y ∧ y ≠ t) (hjn : j < n) : ∀ (d c : Nat), d = n - c → c ≤ j → ∃ s', s' ≤ st + d ∧ TkRun n s' (.P c) t M Mf
  | 0, c, hd, hc => by omega
  | d + 1, c, hd, hc => by
    obtain ⟨x, hx, hdo⟩ := pin_at s (show c < n by omega)
    have hpos := s.pos
    by_cases hb : 0 ≤ x ∧ x ≠ t
    · refine ⟨st + 1, by omega, .step (p := .P c) (show c < 100 by omega) hdo ?_⟩
      simp only [Ph.next]
      rw [if_pos hb]
      exact hrun
    · have hne : c ≠ j := fun e => by subst e; rw [hj] at hx; cases hx; exact hb hy
      obtain ⟨s', hs', hr⟩ := run_block s hrun hj hy hjn d (c + 1) (by omega) (by omega)
      refine ⟨s' + 1, by omega, .step (p := .P c) (show c < 100 by omega) hdo ?_⟩
      simp only [Ph.next]
      rw [if_neg hb, if_pos (by omega)]
      exact hr
theorem run_epoch (s : TkM M n J L D t0 t pl room0 nr) {Mf : MemP} {st : Nat} (hrun : TkRun n st (.P 0) t M Mf) : TkRun n (st + 1) .E 0 M Mf := by
  have hpos := s.pos
  have := do_epoch (M := M) (c := 0) (by have := s.len; omega)
  rw [s.now] at this
  exact .step (p := .E) trivial this hrun
/-- The epoch goes on; nothing is freed. -/
theorem TkM.goes (s : TkM M n J L D t0 t pl room0 nr) (hp : ∀ x ∈ pl, x < 0 ∨ x = t) (ht : t < 1000) (hk : L = [] ∨ t + 1 < t0 + 2) : ∃ st M', st ≤ 59 ∧ TkRun n st .E 0 M M' ∧ TkM M' n J L D t0 (t + 1) pl room0 nr := by
  obtain ⟨M', hd, s'⟩ := s.adv ht
  have hpos := s.pos
  have r1 : TkRun n 2 .A t M M' := .step (p := .A) trivial hd (run_keep s' hk)
  exact ⟨_, M', by omega, run_epoch s (run_pass s r1 hp (n - 0) 0 rfl (by omega)), s'⟩
/-- The epoch goes on; what lay in limbo is freed. -/
theorem TkM.frees {j : Nat} (s : TkM M n [j] [j] D t0 t pl room0 nr) (hp : ∀ x ∈ pl, x < 0 ∨ x = t) (ht : t < 1000) (hk : t0 + 2 ≤ t + 1) : ∃ st M', st ≤ 59 ∧ TkRun n st .E 0 M M' ∧ TkM M' n [] [] (D ++ [j]) t0 (t + 1) pl room0 nr := by
  obtain ⟨M1, hd, s1⟩ := s.adv ht
  obtain ⟨M', r0, s'⟩ := run_free (e := t) s1 hk
  have hpos := s.pos
  have r1 : TkRun n 3 .A t M M' := .step (p := .A) trivial hd r0
  exact ⟨_, M', by omega, run_epoch s (run_pass s r1 hp (n - 0) 0 rfl (by omega)), s'⟩
/-- The epoch waits. -/
theorem TkM.waits (s : TkM M n J L D t0 t pl room0 nr) {j : Nat} {y : Int} (hj : pl[j]? = some y) (hy : 0 ≤ y ∧ y ≠ t) (hjn : j < n) (hk : L = [] ∨ t < t0 + 2) : ∃ st, st ≤ 59 ∧ TkRun n st .E 0 M M := by
  have hpos := s.pos
  obtain ⟨s', hs', r⟩ := run_block s (run_keep (e := t) s hk) hj hy hjn (n - 0) 0 rfl (by omega)
  exact ⟨_, by omega, run_epoch s r⟩
/-- A new memory. -/
theorem StartP.tk {c : CfgP} {st : List SlotP} {k : Nat} {x : SlotP} (s : StartP c M st k x) (hc : CfgOk c) : ∃ room0, TkM M c.clients [] [] [] 1 0 (List.replicate c.clients (-1)) room0 k ∧ 0 < room0 := by
  obtain ⟨har, hn, hcx, hs⟩ := s.ar
  obtain ⟨rk, hrk, hrk4⟩ := hc.roomy (m := 0) (by decide)
  have hcl := hc.clients
  have h4 : 4 ≤ roomP M.ar 0 := by rw [s.room (by decide), s.new.2.2 0 rk hrk]; exact hrk4
  have hxf : isFree 4 x = true := by
    have h1 := s.idx
    rw [List.findIdx?_eq_some_iff_getElem] at h1
    obtain ⟨h2, h3, _⟩ := h1
    have hx := s.slot
    rw [List.getElem?_eq_getElem h2] at hx
    cases hx
    exact h3
  have hl0 : liveP st = 0 := by
    obtain ⟨a, b, d, e, f, he, _⟩ := hc.slots
    have h := s.new.2.2
    have hln := s.new.2.1
    rw [he] at h hln
    have r0 := h 0 a rfl
    have r1 := h 1 b rfl
    have r2 := h 2 d rfl
    have r3 := h 3 e rfl
    have r4 := h 4 f rfl
    simp only [List.sum_cons, List.sum_nil] at hln
    unfold liveP
    rw [r0, r1, r2, r3, r4, hln]
    omega
  have hfz : isFree 4 ⟨4, 1, true, rootW⟩ = false := by simp [isFree]
  have ht := room_take s.slot hxf hfz
  have hlv := live_turn (m := 4) (by decide) s.slot hcx (z := ⟨4, 1, true, rootW⟩) rfl
  have hM : liveP M.ar = 1 := by rw [har, hlv, hl0]; omega
  refine ⟨roomP M.ar 0, ⟨⟨by rw [har]; simpa using hs, fun j hj => by simp at hj, fun j hj => by simp at hj, List.nodup_nil, fun j y _ hy hf => ?_, by simp, by simpa using hM, ⟨⟨4, 1, true, rootW⟩, by rw [har, List.getElem?_set, if_pos rfl, if_pos hn], rfl⟩⟩, ⟨⟨-1, []⟩, ?_, rfl⟩, ?_, ?_, hcl, ?_, ?_, ?_, by omega⟩, by omega⟩
  · rw [har, List.getElem?_set] at hy
    by_cases e : k = j
    · rw [if_pos e, if_pos hn] at hy; cases hy; rfl
    · rw [if_neg e] at hy; exact (s.new.1 j y hy).1
  · rw [s.is]
    simp only [newEp, EpP.cl]
    simp only [if_pos (show (0 : Int) ≤ 0 by decide), show (0 : Int).toNat = 0 from rfl, List.getElem?_replicate]
    rw [if_pos (by omega)]
  · rw [s.is]; simp [pinsOf, newEp]
  · rw [s.is]; simp [newEp]
  · rw [s.is]; rfl
  · rw [s.is]; exact hc.limbo.1
  · rw [s.is]
end Go.Proofs.Ytgecjbbdaahilaa
/- The law TickWaits. -/
namespace Go.Proofs.Ytgecjbbdaahilaa
open Go.Vm
set_option linter.unusedSimpArgs false
set_option linter.unusedVariables false
set_option maxRecDepth 100000
variable {T : Vm.Prog} {h : AH}
/-- A memory, a configuration, what holds the memory. -/
structure TwS (h : AH) (mo co po n : Nat) (cc : List AV) (M : MemP) (F : Nat → Prop) : Prop where
  mem : MemR mo M F h
  low : Low h
  cfg : h.get co = some (.cells cc true)
  five : cc[5]? = some (.int .i64 (n : Int))
  nco : ¬ F co
  box : h.get po = some (.cells [.ptr mo 0] true)
  npo : ¬ F po
  pos : 1 ≤ n ∧ n ≤ 8
variable {mo co po n : Nat} {cc : List AV} {M : MemP} {F : Nat → Prop}
theorem TwS.act (s : TwS h mo co po n cc M F) {h' : AH} {M' : MemP} {F' : Nat → Prop} (R : MemR mo M' F' h') (a : Acts h F h' F') : TwS h' mo co po n cc M' F' :=
  ⟨R, a.low, a.get s.cfg (s.low _ _ s.cfg) s.nco, s.five, a.not (s.low _ _ s.cfg) s.nco, a.get s.box (s.low _ _ s.box) s.npo, a.not (s.low _ _ s.box) s.npo, s.pos⟩
theorem TwS.quiet (s : TwS h mo co po n cc M F) {h' : AH} (q : Quiet h h') (lo : Low h') : TwS h' mo co po n cc M F :=
  s.act ((s.mem.res s.low).quiet q).holds (Acts.same (q.mods _) lo)
theorem tick_run (k : Fits T) (s : TwS h mo co po n cc M F) {st : Nat} {Mf : MemP} (hs : st ≤ 59) (t : TkRun n st .E 0 M Mf) : Gives T 17 [.ptr co 0, .ptr po 0] h fun r h' => r = .bool true ∧ ∃ F', TwS h' mo co po n cc Mf F' := by
  refine (run17 k s.low s.mem s.cfg s.five s.box s.npo s.pos t hs).mono ?_
  rintro _ h' ⟨rfl, F', R', a⟩
  exact ⟨rfl, F', s.act R' a⟩
theorem fillRef (k0 : Int) (x : Int) : fillV [AV.int .i64 0, .int .i64 0, .int .i64 0, .int .i64 0, .int .u64 0, .nilSlice] [(0, 1, .int .i64 k0), (1, 1, .int .i64 x)] = some [.int .i64 k0, .int .i64 x, .int .i64 0, .int .i64 0, .int .u64 0, .nilSlice] := by simp [fillV, AV.isDef, AV.cells, setMany]
theorem fillCls (k0 : Int) (x : Int) : fillV [AV.int .i64 0, .int .i64 0, .int .i64 0, .int .i64 0, .int .u64 0, .nilSlice] [(0, 1, .int .i64 k0), (2, 1, .int .i64 x)] = some [.int .i64 k0, .int .i64 0, .int .i64 x, .int .i64 0, .int .u64 0, .nilSlice] := by simp [fillV, AV.isDef, AV.cells, setMany]
theorem tw_box (s : TwS h mo co po n cc M F) : loadV h false 1 (.ptr po 0) = some (.ptr mo 0) := load_at s.box rfl
theorem TkM.limbo {J L D : List Nat} {t0 t : Int} {pl : List Int} {room0 nr : Nat} (s : TkM M n J L D t0 t pl room0 nr) : limboE M.ep 0 = L.length := by
  obtain ⟨x, hx, hl⟩ := s.cl
  unfold limboE
  rw [hx]
  simp [hl]
/-- What the clients' pins are, one being pinned. -/
theorem pins_in {m kk : Nat} {y : Int} : ∀ x ∈ (List.replicate (1 + m) (-1 : Int)).set kk y, x = -1 ∨ x = y := by
  intro x hx
  rcases List.mem_or_eq_of_mem_set hx with h | h
  · simp at h; exact .inl h
  · exact .inr h
theorem wait_or_go {m kk i : Nat} {room0 nr : Nat} (hkk : kk ≤ m) {t : Int} (ht : t = 1 ∨ t = 2) (s : TkM M (1 + m) [i] [i] [] 1 t ((List.replicate (1 + m) (-1 : Int)).set kk 1) room0 nr) : ∃ st M', st ≤ 59 ∧ TkRun ((1 + m : Nat) : Int) st .E 0 M M' ∧ TkM M' (1 + m) [i] [i] [] 1 2 ((List.replicate (1 + m) (-1 : Int)).set kk 1) room0 nr := by
  rcases ht with rfl | rfl
  · exact s.goes (fun x hx => by rcases pins_in x hx with h | h <;> omega) (by decide) (.inr (by decide))
  · obtain ⟨st, hs, r⟩ := s.waits (j := kk) (y := 1) (by rw [List.getElem?_set]; simp; omega) (by decide) (by omega) (.inr (by decide))
    exact ⟨st, M, hs, r, s⟩
theorem three {m kk i : Nat} {room0 nr : Nat} {t : Int} (ht : t = 1 ∨ t = 2) (s : TkM M (1 + m) [i] [i] [] 1 t (((List.replicate (1 + m) (-1 : Int)).set kk 1).set kk (-1)) room0 nr) :
    ∃ s1 s2 s3 M1 M2 M3, s1 ≤ 59 ∧ s2 ≤ 59 ∧ s3 ≤ 59 ∧ TkRun ((1 + m : Nat) : Int) s1 .E 0 M M1 ∧ TkRun ((1 + m : Nat) : Int) s2 .E 0 M1 M2 ∧ TkRun ((1 + m : Nat) : Int) s3 .E 0 M2 M3 ∧ liveP M3.ar = 1 ∧ limboE M3.ep 0 = 0 := by
  have hp : ∀ x ∈ (((List.replicate (1 + m) (-1 : Int)).set kk 1).set kk (-1)), x < 0 := by
    intro x hx
    rw [List.set_set] at hx
    rcases pins_in x hx with h | h <;> omega
  rcases ht with rfl | rfl
  · obtain ⟨s1, M1, h1, r1, t1⟩ := s.goes (fun x hx => .inl (hp x hx)) (by decide) (.inr (by decide))
    obtain ⟨s2, M2, h2, r2, t2⟩ := t1.frees (fun x hx => .inl (hp x hx)) (by decide) (by decide)
    obtain ⟨s3, M3, h3, r3, t3⟩ := t2.goes (fun x hx => .inl (hp x hx)) (by decide) (.inl rfl)
    exact ⟨s1, s2, s3, M1, M2, M3, h1, h2, h3, r1, r2, r3, by simpa using t3.ar.liveN, t3.limbo⟩
  · obtain ⟨s1, M1, h1, r1, t1⟩ := s.frees (fun x hx => .inl (hp x hx)) (by decide) (by decide)
    obtain ⟨s2, M2, h2, r2, t2⟩ := t1.goes (fun x hx => .inl (hp x hx)) (by decide) (.inl rfl)
    obtain ⟨s3, M3, h3, r3, t3⟩ := t2.goes (fun x hx => .inl (hp x hx)) (by decide) (.inl rfl)
    exact ⟨s1, s2, s3, M1, M2, M3, h1, h2, h3, r1, r2, r3, by simpa using t3.ar.liveN, t3.limbo⟩
theorem waits_run (k : Fits T) (hl : Low h) {a0 a1 a2 : Int} : Gives T 5 [.int .i64 a0, .int .i64 a1, .int .i64 a2] h fun r _ => r = .bool true := by
  refine gives_func (k.env _ (by decide)) (k.at (fn := a5) rfl) rfl ?_
  have hb : fillV [AV.int .i64 0, .int .i64 0, .int .i64 0, .int .i64 0, .int .i64 0, .int .i64 0, .int .i64 0, .int .i64 0] [] = some (izs [0, 0, 0, 0, 0, 0, 0, 0]) := rfl
  simp only [a5, c5, vms, vmc, AOpd.val, Nat.reduceEqDiff, reduceCtorEq, Nat.reduceAdd, Nat.reduceBEq, hb]
  refine Gives.bind ((cfg_in k hl (z := [0, 0, 0, 0, 0, 0, 0, 0]) rfl).mono ?_)
  rintro _ h1 ⟨c, rfl, hc, hc4, q1, lo1⟩
  have st1 := store_all (h := h1.new (.cells zero8 true)) (o := h1.next) (n := 8) (l' := c.cells) get_new_same rfl hc.len (cfg_flat c)
  have st1' : storeV (h1.new (.cells [.int .i64 0, .int .i64 0, .int .i64 0, .int .i64 0, .int .i64 0, .int .i64 0, .int .i64 0, .int .i64 0] true)) 8 (.ptr h1.next 0) (.agg c.cells) = _ := st1
  simp only [vms, vmc, AOpd.val, Nat.reduceEqDiff, reduceCtorEq, Nat.reduceAdd, Nat.reduceBEq, st1']
  refine Gives.bind ((within_nat k (hi := 7) (by decide)).mono ?_)
  rintro _ _ ⟨m, rfl, hm, rfl⟩
  have ha : binV .add (.int .i64 1) (.int .i64 (m : Int)) = some (.int .i64 ((1 + m : Nat) : Int)) := by
    rw [addI (by decide) (by decide) (by omega) (by omega)]; rfl
  have st2 := store_int (h := (h1.new (.cells zero8 true)).set h1.next (.cells c.cells true)) (o := h1.next) (i := 5) (k := .i64) (n := ((1 + m : Nat) : Int)) get_set_same (by rw [hc.len]; decide)
  rw [hc.set5] at st2
  have lo2 : Low (((h1.new (.cells zero8 true)).set h1.next (.cells c.cells true)).set h1.next (.cells ({ c with clients := 1 + m } : CfgP).cells true)) := ((lo1.new _).set (by rw [next_new]; omega) _).set (by rw [next_set, next_new]; omega) _
  have g2 : (((h1.new (.cells zero8 true)).set h1.next (.cells c.cells true)).set h1.next (.cells ({ c with clients := 1 + m } : CfgP).cells true)).get h1.next = some (.cells ({ c with clients := 1 + m } : CfgP).cells true) := get_set_same
  have n2 : (((h1.new (.cells zero8 true)).set h1.next (.cells c.cells true)).set h1.next (.cells ({ c with clients := 1 + m } : CfgP).cells true)).next = h1.next + 1 := rfl
  have hc2 := hc.setClients (n := 1 + m) (by omega) (by omega)
  simp only [vms, vmc, AOpd.val, Nat.reduceEqDiff, reduceCtorEq, Nat.reduceAdd, Nat.reduceBEq, ha, tfa, Nat.zero_add, st2, load_all g2 hc2.len]
  generalize (((h1.new (.cells zero8 true)).set h1.next (.cells c.cells true)).set h1.next (.cells ({ c with clients := 1 + m } : CfgP).cells true)) = h2 at *
  refine Gives.bind ((mem_new k lo2 hc2).mono ?_)
  rintro _ h3 ⟨mo, M, F, st, sn, sx, rfl, R, hS, q3, hF, lo3⟩
  obtain ⟨room0, s0, hr0⟩ := hS.tk hc2
  change TkM M (1 + m) [] [] [] 1 0 (List.replicate (1 + m) (-1)) room0 sn at s0
  have stp : storeV (h3.new (.cells [.nilPtr] true)) 1 (.ptr h3.next 0) (.ptr mo 0) = some ((h3.new (.cells [.nilPtr] true)).set h3.next (.cells [.ptr mo 0] true)) := store_at get_new_same (by decide) rfl rfl
  have q4 : Quiet h3 ((h3.new (.cells [.nilPtr] true)).set h3.next (.cells [.ptr mo 0] true)) := ((Quiet.refl _).new _).set (Nat.le_refl _) _
  have lo4 : Low ((h3.new (.cells [.nilPtr] true)).set h3.next (.cells [.ptr mo 0] true)) := (lo3.new _).set (by rw [next_new]; omega) _
  have hnF : ¬ F h1.next := fun hf => by have := hF _ hf; omega
  have tw : TwS ((h3.new (.cells [.nilPtr] true)).set h3.next (.cells [.ptr mo 0] true)) mo h1.next h3.next (1 + m) ({ c with clients := 1 + m } : CfgP).cells M F :=
    ⟨((R.res lo3).quiet q4).holds, lo4, q4.get (q3.get g2 (by omega)) (by have := q3.1; omega), hc2.five_get, hnF, get_set_same, (R.res lo3).not (Nat.le_refl _), by omega⟩
  have lb := tw_box tw
  have l5 : loadV ((h3.new (.cells [.nilPtr] true)).set h3.next (.cells [.ptr mo 0] true)) false 1 (.ptr h1.next 5) = some (.int .i64 ((1 + m : Nat) : Int)) := load_at tw.cfg tw.five
  have hsub : binV .sub (.int .i64 ((1 + m : Nat) : Int)) (.int .i64 1) = some (.int .i64 (m : Int)) := by
    rw [bin_sub, wrap_i64 (by omega) (by omega)]; congr 2; omega
  simp only [vms, vmc, AOpd.val, Nat.reduceEqDiff, reduceCtorEq, Nat.reduceAdd, Nat.reduceBEq, stp, lb, show eqNilV 0 (.ptr mo 0) .nilPtr = some false from rfl, show ((0 : Int) != 0) = false from rfl, tfa, Nat.zero_add, l5, hsub]
  generalize ((h3.new (.cells [.nilPtr] true)).set h3.next (.cells [.ptr mo 0] true)) = h4 at *
  refine Gives.bind ((within_nat k (hi := m) (by omega)).mono ?_)
  rintro _ _ ⟨kk, rfl, hkk, rfl⟩
  rename_i h4
  generalize h1.next = co at *
  generalize h3.next = po at *
  -- the first tick
  obtain ⟨e1, M1, he1, r1, s1⟩ := s0.goes (fun x hx => by simp at hx; omega) (by omega) (.inl rfl)
  simp only [vms, vmc, AOpd.val, Nat.reduceEqDiff, reduceCtorEq, Nat.reduceAdd, Nat.reduceBEq, items_test, step_mkFunc, step_callV, callFV_caps, List.nil_append]
  refine Gives.bind ((tick_run k tw he1 r1).mono ?_)
  rintro _ h5 ⟨rfl, F5, tw5⟩
  have lb5 := tw_box tw5
  simp only [vms, vmc, AOpd.val, Nat.reduceEqDiff, reduceCtorEq, Nat.reduceAdd, Nat.reduceBEq, items_test, lb5]
  refine Gives.bind ((mem_now k tw5.mem).mono ?_)
  rintro _ _ ⟨rfl, rfl⟩
  rename_i h5
  obtain ⟨M2, hd2, s2⟩ := s1.pin (k := kk) (by omega) (by omega)
  rw [s1.now]
  simp only [vms, vmc, AOpd.val, Nat.reduceEqDiff, reduceCtorEq, Nat.reduceAdd, Nat.reduceBEq, items_test, tfill3]
  rw [items_look (look_want (w := false) (by simp only [vms, vmc, AOpd.val, Nat.reduceEqDiff, reduceCtorEq, Nat.reduceAdd, Nat.reduceBEq]) (look_load (v := .ptr mo 0) (by simp only [vms, vmc, AOpd.val, Nat.reduceEqDiff, reduceCtorEq, Nat.reduceAdd, Nat.reduceBEq]; exact lb5) (by simp only [vms, vmc, AOpd.val, Nat.reduceEqDiff, reduceCtorEq, Nat.reduceAdd, Nat.reduceBEq]) (by simp [AV.beq])))]
  have hdo2 := do_num k tw5.mem tw5.low (kk : Int) 8 (0 + 1)
  rw [hd2] at hdo2
  simp only [vms, vmc, AOpd.val, Nat.reduceEqDiff, reduceCtorEq, Nat.reduceAdd, Nat.reduceBEq, items_test]
  refine Gives.bind (hdo2.mono ?_)
  rintro _ h6 ⟨⟨w6, rfl, hw6⟩, F6, R6, act6⟩
  have tw6 := tw5.act R6 act6
  have lb6 := tw_box tw6
  simp only [vms, vmc, AOpd.val, Nat.reduceEqDiff, reduceCtorEq, Nat.reduceAdd, Nat.reduceBEq, items_test, field_ok, lb6, fillCls]
  -- one is allocated and retired
  obtain ⟨i, M3, hd3, s3, hi, hin⟩ := s2.alloc hr0
  rw [show ((0 : Nat) == 0) = true from rfl] at hd3
  have hdo3 := do_src k tw6.mem tw6.low 0 ⟨4, 0, 0, 0, 0, []⟩ SrcB.nil
  rw [hd3] at hdo3
  refine Gives.bind (hdo3.mono ?_)
  rintro _ h7 ⟨hr7, F7, R7, act7⟩
  obtain ⟨w7, h8, rfl, st7, q8, lo8, gg8, hn8, _⟩ := keepR act7.low hr7
  have tw8 := (tw6.act R7 act7).quiet q8 lo8
  obtain ⟨M4, hd4, s4⟩ := s3.retire hi hin
  rw [show ((0 : Nat) == 0) = true from rfl] at hd4
  have hdo4 := do_src k tw8.mem tw8.low 0 ⟨6, ((refN i 1 true : Nat) : Int), 0, 0, 0, []⟩ SrcB.nil
  rw [hd4] at hdo4
  simp only [vms, vmc, AOpd.val, Nat.reduceEqDiff, reduceCtorEq, Nat.reduceAdd, Nat.reduceBEq, st7, tfa, Nat.zero_add, load_at gg8 (i := 0) rfl, load_at gg8 (i := 1) rfl, show (((0 : Nat) : Int) != 0) = false from rfl, tw_box tw8, fillRef]
  refine Gives.bind (hdo4.mono ?_)
  rintro _ h9 ⟨⟨w9, rfl, hw9⟩, F9, R9, act9⟩
  have tw9 := tw8.act R9 act9
  simp only [vms, vmc, AOpd.val, Nat.reduceEqDiff, reduceCtorEq, Nat.reduceAdd, Nat.reduceBEq, field_err, show (((0 : Nat) : Int) != 0) = false from rfl]
  refine Gives.bind ((within_nat k (hi := 9) (by decide)).mono ?_)
  rintro _ _ ⟨tt, rfl, htt, rfl⟩
  rename_i h9
  simp only [vms, vmc, AOpd.val, Nat.reduceEqDiff, reduceCtorEq, Nat.reduceAdd, Nat.reduceBEq]
  have s4' : TkM M4 (1 + m) [i] [i] [] 1 1 ((List.replicate (1 + m) (-1 : Int)).set kk 1) room0 sn := s4
  refine wpc_loop (fun d f g => ∃ j M F t, d = j ∧ j ≤ 9 ∧ (t = 1 ∨ t = 2) ∧ TkM M (1 + m) [i] [i] [] 1 t ((List.replicate (1 + m) (-1 : Int)).set kk 1) room0 sn ∧ TwS g mo co po (1 + m) ({ c with clients := 1 + m } : CfgP).cells M F ∧ f.at 8 = .ptr po 0 ∧ f.at 10 = .int .i64 (kk : Int) ∧ f.at 11 = .func (.func 17) [] [.ptr co 0, .ptr po 0] ∧ f.at 13 = .int .i64 (j : Nat)) ?_ tt _ _
    ⟨tt, M4, F9, 1, rfl, htt, .inl rfl, s4', tw9, ?_⟩
  · rintro d f g ⟨j, M5, F5, t, rfl, hj, ht, s5, tw5, f8, f10, f11, f13⟩
    by_cases h0 : 0 < d
    · have d1 : decide ((d : Int) > 0) = true := by rw [decide_eq_true_eq]; omega
      have w1 : IntKind.i64.wrap ((d : Int) - 1) = ((d - 1 : Nat) : Int) := by rw [wrap_i64 (by omega) (by omega)]; omega
      obtain ⟨st6, M6, hst6, r6, s6⟩ := wait_or_go hkk ht s5
      simp only [c5l0, vms, vmc, AOpd.val, Nat.reduceEqDiff, reduceCtorEq, Nat.reduceAdd, Nat.reduceBEq, f8, f11, f13, d1, step_callV, callFV_caps, List.nil_append]
      refine Gives.bind ((tick_run k tw5 hst6 r6).mono ?_)
      rintro _ g6 ⟨rfl, F6, tw6⟩
      simp only [vms, vmc, AOpd.val, Nat.reduceEqDiff, reduceCtorEq, Nat.reduceAdd, Nat.reduceBEq, f8, tw_box tw6]
      refine Gives.bind ((mem_now k tw6.mem).mono ?_)
      rintro _ _ ⟨rfl, rfl⟩
      rename_i g6
      have hlv : liveP M6.ar = 2 := by have := s6.ar.liveN; simpa using this
      simp only [vms, vmc, AOpd.val, Nat.reduceEqDiff, reduceCtorEq, Nat.reduceAdd, Nat.reduceBEq, f8, tw_box tw6, s6.now, show ((2 : Int) != 2) = false from rfl]
      refine Gives.bind ((mem_live k tw6.mem).mono ?_)
      rintro _ _ ⟨rfl, rfl⟩
      rename_i g6
      simp only [vms, vmc, AOpd.val, Nat.reduceEqDiff, reduceCtorEq, Nat.reduceAdd, Nat.reduceBEq, f8, tw_box tw6, hlv, show ((2 : Int) != 2) = false from rfl]
      refine Gives.bind ((mem_limbo k tw6.mem 0).mono ?_)
      rintro _ _ ⟨rfl, rfl⟩
      rename_i g6
      simp only [vms, vmc, AOpd.val, Nat.reduceEqDiff, reduceCtorEq, Nat.reduceAdd, Nat.reduceBEq, f8, f13, s6.limbo, List.length_singleton, show (((1 : Nat) : Int) != 1) = false from rfl, w1]
      refine ⟨d - 1, by omega, d - 1, M6, F6, 2, rfl, by omega, .inr rfl, s6, tw6, ?_, ?_, ?_, ?_⟩ <;> first | trivial | assumption | rfl
    · have d1 : decide ((d : Int) > 0) = false := by rw [decide_eq_false_iff_not]; omega
      obtain ⟨M6, hd6, s6⟩ := s5.unpin (k := kk) (by omega)
      have hdo6 := do_kind k tw5.mem tw5.low (kk : Int) 9
      rw [hd6] at hdo6
      simp only [c5l0, vms, vmc, AOpd.val, Nat.reduceEqDiff, reduceCtorEq, Nat.reduceAdd, Nat.reduceBEq, f8, f10, f13, d1, tw_box tw5, accK]
      refine Gives.bind (hdo6.mono ?_)
      rintro _ g6 ⟨⟨w6, rfl, hw6⟩, F6, R6, act6⟩
      have tw6 := tw5.act R6 act6
      obtain ⟨e1, e2, e3, M7, M8, M9, he1, he2, he3, r1, r2, r3, hlv, hlb⟩ := three ht s6
      simp only [vms, vmc, AOpd.val, Nat.reduceEqDiff, reduceCtorEq, Nat.reduceAdd, Nat.reduceBEq, f11, step_callV, callFV_caps, List.nil_append]
      refine Gives.bind ((tick_run k tw6 he1 r1).mono ?_)
      rintro _ g7 ⟨rfl, F7, tw7⟩
      simp only [vms, vmc, AOpd.val, Nat.reduceEqDiff, reduceCtorEq, Nat.reduceAdd, Nat.reduceBEq, f11, step_callV, callFV_caps, List.nil_append]
      refine Gives.bind ((tick_run k tw7 he2 r2).mono ?_)
      rintro _ g8 ⟨rfl, F8, tw8⟩
      simp only [vms, vmc, AOpd.val, Nat.reduceEqDiff, reduceCtorEq, Nat.reduceAdd, Nat.reduceBEq, f11, step_callV, callFV_caps, List.nil_append]
      refine Gives.bind ((tick_run k tw8 he3 r3).mono ?_)
      rintro _ g9 ⟨rfl, F9, tw9⟩
      simp only [vms, vmc, AOpd.val, Nat.reduceEqDiff, reduceCtorEq, Nat.reduceAdd, Nat.reduceBEq, f8, tw_box tw9]
      refine Gives.bind ((mem_live k tw9.mem).mono ?_)
      rintro _ _ ⟨rfl, rfl⟩
      rename_i g9
      simp only [vms, vmc, AOpd.val, Nat.reduceEqDiff, reduceCtorEq, Nat.reduceAdd, Nat.reduceBEq, f8, tw_box tw9, hlv, show ((1 : Int) == 1) = true from rfl]
      refine Gives.bind ((mem_limbo k tw9.mem 0).mono ?_)
      rintro _ _ ⟨rfl, rfl⟩
      rename_i g9
      simp only [vms, vmc, AOpd.val, Nat.reduceEqDiff, reduceCtorEq, Nat.reduceAdd, Nat.reduceBEq, hlb, show (((0 : Nat) : Int) == 0) = true from rfl]
      refine Gives.bind ((k.yes _).mono ?_)
      rintro _ _ ⟨rfl, rfl⟩
      simp only [vms, vmc, AOpd.val, Nat.reduceEqDiff, reduceCtorEq, Nat.reduceAdd, Nat.reduceBEq]
  · simp only [vms, vmc, AOpd.val, Nat.reduceEqDiff, reduceCtorEq, Nat.reduceAdd, Nat.reduceBEq]
    refine ⟨?_, ?_, ?_, ?_⟩ <;> first | trivial | rfl
end Go.Proofs.Ytgecjbbdaahilaa

/- The law MemEpochs. -/
import Derived.Test.YtagcnjhpdopkiaaP9Me
namespace Go.Proofs.Ytagcnjhpdopkiaa
open Go.Vm
set_option linter.unusedSimpArgs false
set_option linter.unusedVariables false
variable {T : Vm.Prog} {h : AH}
def nA (x n : Int) : AccP := ⟨x, 0, 0, n, 0, []⟩
theorem accN {x0 x3 : Int} : fillV [AV.int .i64 0, .int .i64 0, .int .i64 0, .int .i64 0, .int .u64 0, .nilSlice] [(0, 1, .int .i64 x0), (3, 1, .int .i64 x3)] = some [.int .i64 x0, .int .i64 0, .int .i64 0, .int .i64 x3, .int .u64 0, .nilSlice] := by simp [fillV, AV.isDef, AV.cells, setMany]
theorem do_num (k : Fits T) {m : Nat} {M : MemP} {F : Nat → Prop} (R : MemR m M F h) (hl : Low h) (c x n : Int) :
    Gives T 12 [.ptr m 0, .int .i64 c, .agg [.int .i64 x, .int .i64 0, .int .i64 0, .int .i64 n, .int .u64 0, .nilSlice]] h fun r h' => ResOk h.next h' r (doP M c (nA x n)).1 ∧ ∃ F', MemR m (doP M c (nA x n)).2 F' h' ∧ Acts h F h' F' :=
  do_ok k R hl c (nA x n) (wv := .nilSlice) SrcB.nil
/-- Where clients are pinned. -/
def pinsOf (ep : EpP) : List Int := ep.cls.map (·.pin)
theorem cl_some {ep : EpP} {n : Nat} (hn : n < ep.cls.length) : ∃ x, ep.cl (n : Int) = some x ∧ ep.cls[n]? = some x := ⟨_, by rw [cl_nat]; exact List.getElem?_eq_getElem hn, List.getElem?_eq_getElem hn⟩
theorem pins_set {ep : EpP} {n : Nat} {x : ClP} (y : Int) : pinsOf (ep.setCl (n : Int) { x with pin := y }) = (pinsOf ep).set n y := by
  simp [pinsOf, EpP.setCl, List.map_set]
theorem doP_ar {M : MemP} {c : Int} {a : AccP} (hv : 0 ≤ c ∧ c < M.ep.cls.length) (hk : 1 ≤ a.kind ∧ a.kind ≤ 5) : doP M c a = ((slotsP M.root M.ar a).1, { M with ar := (slotsP M.root M.ar a).2 }) := by
  unfold doP; rw [if_neg (by omega), if_pos hk]
theorem doP_6 {M : MemP} {c : Int} {a : AccP} (hv : 0 ≤ c ∧ c < M.ep.cls.length) (hk : a.kind = 6) : doP M c a = if a.ref = M.root then (⟨1, 0, false, []⟩, M) else (⟨(retireE M.ep c a.ref).1, 0, false, []⟩, { M with ep := (retireE M.ep c a.ref).2 }) := by
  unfold doP; rw [if_neg (by omega), if_neg (by omega), if_pos hk]
theorem doP_7 {M : MemP} {c : Int} {a : AccP} (hv : 0 ≤ c ∧ c < M.ep.cls.length) (hk : a.kind = 7) : doP M c a = (⟨0, M.ep.now, false, []⟩, M) := by
  unfold doP; rw [if_neg (by omega), if_neg (by omega), if_neg (by omega), if_pos hk]
theorem doP_8 {M : MemP} {c : Int} {a : AccP} (hv : 0 ≤ c ∧ c < M.ep.cls.length) (hk : a.kind = 8) : doP M c a = (⟨0, 0, (pinE M.ep c a.n).1, []⟩, { M with ep := (pinE M.ep c a.n).2 }) := by
  unfold doP; rw [if_neg (by omega), if_neg (by omega), if_neg (by omega), if_neg (by omega), if_pos hk]
theorem doP_9 {M : MemP} {c : Int} {a : AccP} (hv : 0 ≤ c ∧ c < M.ep.cls.length) (hk : a.kind = 9) : doP M c a = (⟨0, 0, (unpinE M.ep c).1, []⟩, { M with ep := (unpinE M.ep c).2 }) := by
  unfold doP; rw [if_neg (by omega), if_neg (by omega), if_neg (by omega), if_neg (by omega), if_neg (by omega), if_pos hk]
theorem doP_10 {M : MemP} {c : Int} {a : AccP} (hv : 0 ≤ c ∧ c < M.ep.cls.length) (hk : a.kind = 10) : doP M c a = (⟨0, pinOfE M.ep a.n, false, []⟩, M) := by
  unfold doP; rw [if_neg (by omega), if_neg (by omega), if_neg (by omega), if_neg (by omega), if_neg (by omega), if_neg (by omega), if_pos hk]
theorem doP_11 {M : MemP} {c : Int} {a : AccP} (hv : 0 ≤ c ∧ c < M.ep.cls.length) (hk : a.kind = 11) : doP M c a = (⟨0, 0, (advE M.ep a.n).1, []⟩, { M with ep := (advE M.ep a.n).2 }) := by
  unfold doP; rw [if_neg (by omega), if_neg (by omega), if_neg (by omega), if_neg (by omega), if_neg (by omega), if_neg (by omega), if_neg (by omega), if_pos hk]
theorem doP_12 {M : MemP} {c : Int} {a : AccP} (hv : 0 ≤ c ∧ c < M.ep.cls.length) (hk : a.kind = 12) : doP M c a = collectP M c := by
  unfold doP; rw [if_neg (by omega), if_neg (by omega), if_neg (by omega), if_neg (by omega), if_neg (by omega), if_neg (by omega), if_neg (by omega), if_neg (by omega), if_pos hk]
theorem doP_bad {M : MemP} {c : Int} {a : AccP} (hv : c < 0 ∨ (M.ep.cls.length : Int) ≤ c) : doP M c a = (⟨1, 0, false, []⟩, M) := by
  unfold doP; rw [if_pos hv]
theorem doP_none {M : MemP} {c : Int} {a : AccP} (hk : a.kind < 1 ∨ 15 < a.kind) : doP M c a = (⟨1, 0, false, []⟩, M) := by
  unfold doP
  by_cases hv : c < 0 ∨ (M.ep.cls.length : Int) ≤ c
  · rw [if_pos hv]
  · rw [if_neg hv, if_neg (by omega), if_neg (by omega), if_neg (by omega), if_neg (by omega), if_neg (by omega), if_neg (by omega), if_neg (by omega), if_neg (by omega), if_neg (by omega)]
theorem pinE_yes {ep : EpP} {c : Nat} {n : Int} {x : ClP} (hx : ep.cl (c : Int) = some x) (h0 : 0 ≤ n) (h1 : n ≤ ep.now) : pinE ep (c : Int) n = (true, ep.setCl (c : Int) { x with pin := n }) := by
  unfold pinE; rw [hx]; simp only; rw [if_neg (by omega)]
theorem pinE_no {ep : EpP} {c : Nat} {n : Int} {x : ClP} (hx : ep.cl (c : Int) = some x) (h1 : ep.now < n) : pinE ep (c : Int) n = (false, ep) := by
  unfold pinE; rw [hx]; simp only; rw [if_pos (by omega)]
theorem do_pin {M : MemP} {c : Nat} {n : Int} (hc : c < M.ep.cls.length) (h0 : 0 ≤ n) (h1 : n ≤ M.ep.now) : ∃ M', doP M (c : Int) (nA 8 n) = (⟨0, 0, true, []⟩, M') ∧ pinsOf M'.ep = (pinsOf M.ep).set c n ∧ M'.ep.now = M.ep.now ∧ M'.ep.cls.length = M.ep.cls.length ∧ M'.ar = M.ar ∧ M'.root = M.root := by
  obtain ⟨x, hx, _⟩ := cl_some hc
  refine ⟨{ M with ep := M.ep.setCl (c : Int) { x with pin := n } }, ?_, pins_set _, rfl, setCl_len, rfl, rfl⟩
  rw [doP_8 ⟨by omega, by omega⟩ rfl, show (nA 8 n).n = n from rfl, pinE_yes hx h0 h1]
theorem do_pin_no {M : MemP} {c : Nat} {n : Int} (hc : c < M.ep.cls.length) (h1 : M.ep.now < n) : doP M (c : Int) (nA 8 n) = (⟨0, 0, false, []⟩, M) := by
  obtain ⟨x, hx, _⟩ := cl_some hc
  rw [doP_8 ⟨by omega, by omega⟩ rfl, show (nA 8 n).n = n from rfl, pinE_no hx h1]
theorem do_unpin {M : MemP} {c : Nat} (hc : c < M.ep.cls.length) : ∃ M', doP M (c : Int) (kA 9) = (⟨0, 0, true, []⟩, M') ∧ pinsOf M'.ep = (pinsOf M.ep).set c (-1) ∧ M'.ep.now = M.ep.now ∧ M'.ep.cls.length = M.ep.cls.length ∧ M'.ar = M.ar ∧ M'.root = M.root := by
  obtain ⟨x, hx, _⟩ := cl_some hc
  refine ⟨{ M with ep := M.ep.setCl (c : Int) { x with pin := -1 } }, ?_, pins_set _, rfl, setCl_len, rfl, rfl⟩
  rw [doP_9 ⟨by omega, by omega⟩ rfl]
  simp only [unpinE, hx]
theorem do_adv {M : MemP} {c : Nat} (hc : c < M.ep.cls.length) (h1 : M.ep.now < 1073741824) : doP M (c : Int) (nA 11 M.ep.now) = (⟨0, 0, true, []⟩, { M with ep := { M.ep with now := M.ep.now + 1 } }) := by
  rw [doP_11 ⟨by omega, by omega⟩ rfl]
  unfold advE
  rw [show (nA 11 M.ep.now).n = M.ep.now from rfl, if_neg (by omega)]
theorem do_adv_no {M : MemP} {c : Nat} {n : Int} (hc : c < M.ep.cls.length) (h1 : M.ep.now ≠ n) : doP M (c : Int) (nA 11 n) = (⟨0, 0, false, []⟩, M) := by
  rw [doP_11 ⟨by omega, by omega⟩ rfl]
  unfold advE
  rw [if_pos (.inl h1)]
theorem do_pinOf {M : MemP} {c j : Nat} (hc : c < M.ep.cls.length) (hj : j < M.ep.cls.length) : doP M (c : Int) (nA 10 (j : Int)) = (⟨0, at0 (pinsOf M.ep) j, false, []⟩, M) := by
  obtain ⟨x, hx, hx2⟩ := cl_some hj
  have : at0 (pinsOf M.ep) j = x.pin := at0_of (by simp [pinsOf, hx2])
  rw [doP_10 ⟨by omega, by omega⟩ rfl, this]
  simp only [pinOfE, nA, hx]
theorem do_epoch {M : MemP} {c : Nat} (hc : c < M.ep.cls.length) : doP M (c : Int) (kA 7) = (⟨0, M.ep.now, false, []⟩, M) := doP_7 ⟨by omega, by omega⟩ rfl
def c7q : ACode := match c7l2 with
  | .seq q _ => q
  | c => c
def c7a : ACode := match c7l2 with
  | .seq _ (.seq (.block _ (.seq a _)) _) => a
  | c => c
def c7b : ACode := match c7l2 with
  | .seq _ (.seq (.block _ (.seq _ (.seq b _))) _) => b
  | c => c
def c7t : ACode := match c7l2 with
  | .seq _ (.seq (.block _ (.seq _ (.seq _ t))) _) => t
  | c => c
def c7n : ACode := match c7l2 with
  | .seq _ (.seq _ n) => n
  | c => c
theorem c7l2_parts : c7l2 = .seq c7q (.seq (.block 3 (.seq c7a (.seq c7b c7t))) c7n) := rfl
/-- A memory of clients, a row of pins as they are, and what stands beside both. -/
structure EpSt (h : AH) (mo po : Nat) (M : MemP) (F G : Nat → Prop) (φ : AH → Prop) : Prop where
  mem : MemR mo M F h
  low : Low h
  pins : h.get po = some (.cells ((pinsOf M.ep).map (.int .i64)) true)
  nF : ¬ F po
  side : Res φ G h
  apart : ∀ o, G o → ¬ F o ∧ o ≠ po
theorem EpSt.same {mo po : Nat} {M : MemP} {F G : Nat → Prop} {φ : AH → Prop} (s : EpSt h mo po M F G φ) {h' : AH} {M' : MemP} {F' : Nat → Prop} (R : MemR mo M' F' h') (act : Acts h F h' F') (he : pinsOf M'.ep = pinsOf M.ep) : EpSt h' mo po M' F' G φ := by
  have hpl := s.low _ _ s.pins
  obtain ⟨r, d⟩ := s.side.act act fun o ho => (s.apart o ho).1
  exact ⟨R, act.low, by rw [he]; exact act.get s.pins hpl s.nF, act.not hpl s.nF, r, fun o ho => ⟨d o ho, (s.apart o ho).2⟩⟩
/-- A pin was changed; now in the row, too. -/
theorem EpSt.turn {mo po : Nat} {M : MemP} {F G : Nat → Prop} {φ : AH → Prop} (s : EpSt h mo po M F G φ) {h' : AH} {M' : MemP} {F' : Nat → Prop} (R : MemR mo M' F' h') (act : Acts h F h' F') {n : Nat} {y : Int} (hn : n < M.ep.cls.length) (he : pinsOf M'.ep = (pinsOf M.ep).set n y) :
    ∃ h2, storeV h' 1 (.ptr po n) (.int .i64 y) = some h2 ∧ EpSt h2 mo po M' F' G φ := by
  have hpl := s.low _ _ s.pins
  obtain ⟨r, d⟩ := s.side.act act fun o ho => (s.apart o ho).1
  have g := act.get s.pins hpl s.nF
  have nF' := act.not hpl s.nF
  have hpl' : po < h'.next := act.low _ _ g
  refine ⟨_, store_int g (by simp [pinsOf, hn]), ((R.res act.low).set nF' _).holds, act.low.set hpl' _, ?_, nF', r.set (fun hg => (s.apart po hg).2 rfl) _, fun o ho => ⟨d o ho, (s.apart o ho).2⟩⟩
  rw [get_set_same, he]
  simp [List.map_set]
/-- The end of a round: each pin is told, and the epoch. -/
theorem epochs_tail (k : Fits T) {mo po kk n : Nat} {M : MemP} {F G : Nat → Prop} {φ : AH → Prop} (s : EpSt h mo po M F G φ) (hk : kk < M.ep.cls.length) (hn : M.ep.cls.length = n) (hn8 : n ≤ 8) {f : Fr} (f8 : f.at 8 = .ptr mo 0) (f10 : f.at 10 = .slice po 0 1 n n true) (f12 : f.at 12 = .int .i64 M.ep.now) (f14 : f.at 14 = .int .i64 (kk : Int)) {Q : AExit → Fr → AH → Prop}
    (hQ : ∀ f' h' F', (∀ t, t < 15 → f'.at t = f.at t) → EpSt h' mo po M F' G φ → Q .normal f' h') : Wp (code T c7t f h) Q := by
  simp only [c7t, c7l2, vms, vmc, AOpd.val, Nat.reduceEqDiff, reduceCtorEq, Nat.reduceAdd, Nat.reduceBEq, f10]
  refine wpc_loop (fun d f' h' => ∃ j F', d = n - j ∧ j ≤ n ∧ (∀ t, t < 15 → f'.at t = f.at t) ∧ f'.at 127 = .int .i64 (n : Int) ∧ f'.at 128 = .int .i64 (j : Nat) ∧ EpSt h' mo po M F' G φ) ?_ n _ _ ⟨0, F, rfl, Nat.zero_le _, ?_, ?_, ?_, s⟩
  · rintro d f' h' ⟨j, F', rfl, hj, hf, f127, f128, s'⟩
    simp only [c7l1, vms, vmc, AOpd.val, Nat.reduceEqDiff, reduceCtorEq, Nat.reduceAdd, Nat.reduceBEq, f127, f128]
    by_cases hlt : j < n
    · have hd : decide ((j : Int) < (n : Int)) = true := by rw [decide_eq_true_eq]; omega
      have hdo := do_num k s'.mem s'.low (kk : Int) 10 (j : Int)
      rw [do_pinOf hk (by omega)] at hdo
      have hld : loadV h' false 1 (.ptr po j) = some (.int .i64 (at0 (pinsOf M.ep) j)) := load_at s'.pins (by
        rw [List.getElem?_map, at0_some (show j < (pinsOf M.ep).length by simp [pinsOf]; omega)]; rfl)
      have hix : idxAddrV 1 (.slice po 0 1 n n true) (.int .i64 (j : Int)) = some (.ptr po j) := by rw [idx_nat hlt, Nat.zero_add]
      have w1 : IntKind.i64.wrap ((j : Int) + 1) = ((j + 1 : Nat) : Int) := by rw [wrap_i64 (by omega) (by omega)]; rfl
      simp only [hd, vms, vmc, AOpd.val, Nat.reduceEqDiff, reduceCtorEq, Nat.reduceAdd, Nat.reduceBEq, f127, f128, hf 8 (by omega), hf 10 (by omega), hf 14 (by omega), f8, f10, f14, accN, hix, hld]
      refine Gives.bind (hdo.mono ?_)
      rintro _ h2 ⟨⟨wv, rfl, _⟩, F2, R2, act⟩
      have s2 := s'.same R2 act rfl
      have hld2 : loadV h2 false 1 (.ptr po j) = some (.int .i64 (at0 (pinsOf M.ep) j)) := load_at s2.pins (by
        rw [List.getElem?_map, at0_some (show j < (pinsOf M.ep).length by simp [pinsOf]; omega)]; rfl)
      simp only [vms, vmc, AOpd.val, Nat.reduceEqDiff, reduceCtorEq, Nat.reduceAdd, Nat.reduceBEq, field_n]
      rw [items_look (look_load (v := .int .i64 (at0 (pinsOf M.ep) j)) (by simp only [vms, vmc, AOpd.val, Nat.reduceEqDiff, reduceCtorEq, Nat.reduceAdd, Nat.reduceBEq]; exact hld2) (by simp only [vms, vmc, AOpd.val, Nat.reduceEqDiff, reduceCtorEq, Nat.reduceAdd, Nat.reduceBEq]) (by simp [AV.beq]))]
      simp only [vms, vmc, AOpd.val, Nat.reduceEqDiff, reduceCtorEq, Nat.reduceAdd, Nat.reduceBEq, bne_self_eq_false, f127, f128, w1]
      refine ⟨n - (j + 1), by omega, j + 1, F2, rfl, by omega, ?_, trivial, rfl, s2⟩
      intro t ht
      repeat rw [if_neg (by omega)]
      exact hf t ht
    · have hd : decide ((j : Int) < (n : Int)) = false := by rw [decide_eq_false_iff_not]; omega
      have hdo := do_kind k s'.mem s'.low (kk : Int) 7
      rw [do_epoch hk] at hdo
      simp only [hd, vms, vmc, AOpd.val, Nat.reduceEqDiff, reduceCtorEq, Nat.reduceAdd, Nat.reduceBEq, hf 8 (by omega), hf 12 (by omega), hf 14 (by omega), f8, f12, f14, accK]
      refine Gives.bind (hdo.mono ?_)
      rintro _ h2 ⟨⟨wv, rfl, _⟩, F2, R2, act⟩
      have s2 := s'.same R2 act rfl
      simp only [vms, vmc, AOpd.val, Nat.reduceEqDiff, reduceCtorEq, Nat.reduceAdd, Nat.reduceBEq, field_n, bne_self_eq_false, hf 8 (by omega), hf 12 (by omega), f8, f12]
      refine Gives.bind ((mem_now k R2).mono ?_)
      rintro _ _ ⟨rfl, rfl⟩
      simp only [vms, vmc, AOpd.val, Nat.reduceEqDiff, reduceCtorEq, Nat.reduceAdd, Nat.reduceBEq, bne_self_eq_false, hf 8 (by omega), hf 12 (by omega), f8, f12]
      refine hQ _ _ F2 ?_ s2
      intro t ht
      simp only [Fr.at_put]
      repeat rw [if_neg (by omega)]
      exact hf t ht
  · intro t ht
    simp only [Fr.at_put]
    repeat rw [if_neg (by omega)]
  · simp only [vms, vmc, AOpd.val, Nat.reduceEqDiff, reduceCtorEq, Nat.reduceAdd, Nat.reduceBEq]
  · simp only [vms, vmc, AOpd.val, Nat.reduceEqDiff, reduceCtorEq, Nat.reduceAdd, Nat.reduceBEq]; rfl
theorem set_rep {j n : Nat} (hj : j < n) : (List.replicate j (AV.int .i64 (-1)) ++ List.replicate (n - j) (AV.int .i64 0)).set j (.int .i64 (-1)) = List.replicate (j + 1) (AV.int .i64 (-1)) ++ List.replicate (n - (j + 1)) (AV.int .i64 0) := by
  rw [List.set_append_right _ _ (by simp), List.length_replicate, Nat.sub_self]
  rw [show n - j = (n - (j + 1)) + 1 by omega, List.replicate_succ, List.set_cons_zero, List.replicate_succ', List.append_assoc]
  rfl
set_option maxHeartbeats 1600000 in
theorem epochs_run (k : Fits T) (hl : Low h) {n0 : Int} {v1 v2 : AV} {xs ys : List Int} (s1 : Sees h v1 (xs.map (.int .i64))) (s2 : Sees h v2 (ys.map (.int .i64))) :
    Gives T 7 [.int .i64 n0, v1, v2] h fun r _ => r = .bool true := by
  refine gives_func (k.env _ (by decide)) (k.at (fn := a7) rfl) rfl ?_
  have hb : fillV [AV.int .i64 0, .int .i64 0, .int .i64 0, .int .i64 0, .int .i64 0, .int .i64 0, .int .i64 0, .int .i64 0] [] = some (izs [0, 0, 0, 0, 0, 0, 0, 0]) := rfl
  simp only [a7, c7, vms, vmc, AOpd.val, Nat.reduceEqDiff, reduceCtorEq, Nat.reduceAdd, Nat.reduceBEq, hb]
  refine Gives.bind ((config_ok k hl (z := [0, 0, 0, 0, 0, 0, 0, 0]) rfl).mono ?_)
  rintro _ h1 ⟨c, rfl, hc, hc4, q1, lo1⟩
  have st1 := store_all (h := h1.new (.cells zero8 true)) (o := h1.next) (n := 8) (l' := c.cells) get_new_same rfl hc.len (cfg_flat c)
  have st1' : storeV (h1.new (.cells [.int .i64 0, .int .i64 0, .int .i64 0, .int .i64 0, .int .i64 0, .int .i64 0, .int .i64 0, .int .i64 0] true)) 8 (.ptr h1.next 0) c.v = _ := st1
  simp only [vms, vmc, AOpd.val, Nat.reduceEqDiff, reduceCtorEq, Nat.reduceAdd, Nat.reduceBEq, st1']
  refine Gives.bind ((within_nat k (hi := 7) (by decide)).mono ?_)
  rintro _ _ ⟨m, rfl, hm, rfl⟩
  have ha : binV .add (.int .i64 1) (.int .i64 (m : Int)) = some (.int .i64 ((1 + m : Nat) : Int)) := by
    rw [addI (by decide) (by decide) (by omega) (by omega)]; rfl
  have fa : fieldAddrV 5 (.ptr h1.next 0) = some (.ptr h1.next 5) := rfl
  have st2 := store_int (h := (h1.new (.cells zero8 true)).set h1.next (.cells c.cells true)) (o := h1.next) (i := 5) (k := .i64) (n := ((1 + m : Nat) : Int)) get_set_same (by rw [hc.len]; decide)
  rw [hc.set5] at st2
  have q2 : Quiet h1 (((h1.new (.cells zero8 true)).set h1.next (.cells c.cells true)).set h1.next (.cells ({ c with clients := 1 + m } : CfgP).cells true)) := (((Quiet.refl h1).new _).set (Nat.le_refl _) _).set (Nat.le_refl _) _
  have lo2 : Low (((h1.new (.cells zero8 true)).set h1.next (.cells c.cells true)).set h1.next (.cells ({ c with clients := 1 + m } : CfgP).cells true)) := ((lo1.new _).set (by rw [next_new]; omega) _).set (by rw [next_set, next_new]; omega) _
  have g2 : (((h1.new (.cells zero8 true)).set h1.next (.cells c.cells true)).set h1.next (.cells ({ c with clients := 1 + m } : CfgP).cells true)).get h1.next = some (.cells ({ c with clients := 1 + m } : CfgP).cells true) := get_set_same
  have hc2 := hc.setClients (n := 1 + m) (by omega) (by omega)
  simp only [vms, vmc, AOpd.val, Nat.reduceEqDiff, reduceCtorEq, Nat.reduceAdd, Nat.reduceBEq, ha, fa, st2, load_all g2 hc2.len]
  generalize (((h1.new (.cells zero8 true)).set h1.next (.cells c.cells true)).set h1.next (.cells ({ c with clients := 1 + m } : CfgP).cells true)) = h2 at *
  refine Gives.bind ((mem_new k lo2 hc2).mono ?_)
  rintro _ h3 ⟨mo, M, F, st, sn, sx, rfl, R, hS, q3, hF, lo3⟩
  have side2 : Res (fun h => h.get h1.next = some (.cells ({ c with clients := 1 + m } : CfgP).cells true) ∧ Sees h v1 (xs.map (.int .i64)) ∧ Sees h v2 (ys.map (.int .i64))) _ h2 :=
    (res_obj lo2 g2).and ((((s1.res hl).quiet (q1.trans q2))).and ((s2.res hl).quiet (q1.trans q2)))
  obtain ⟨G, side3, dis⟩ := (Side.new side2 hF).quiet q3
  have hM : M.ep.cls.length = 1 + m := by rw [hS.is]; simp [newEp]
  have hP : pinsOf M.ep = List.replicate (1 + m) (-1) := by rw [hS.is]; simp [newEp, pinsOf]
  have hN : M.ep.now = 0 := by rw [hS.is]; rfl
  obtain ⟨g3, _, _⟩ := side3.holds
  have hmk := mkSlice_nat (h := h3) (sz := 1) (bytes := 8) (zero := [.int .i64 0]) (k := .i64) (k' := .i64) (l := 1 + m) (c := 1 + m) (Nat.le_refl _) (by omega) (by omega)
  rw [rep_one] at hmk
  simp only [vms, vmc, AOpd.val, Nat.reduceEqDiff, reduceCtorEq, Nat.reduceAdd, Nat.reduceBEq, show eqNilV 0 (.ptr mo 0) .nilPtr = some false from rfl, show ((0 : Int) != 0) = false from rfl, fa, load_at g3 hc2.five_get, hmk]
  -- the row of pins is made
  refine wpc_loop (fun d f h' => ∃ j, d = (1 + m) - j ∧ j ≤ 1 + m ∧ Quiet h3 h' ∧ Low h' ∧ h'.get h3.next = some (.cells (List.replicate j (.int .i64 (-1)) ++ List.replicate ((1 + m) - j) (.int .i64 0)) true) ∧
    f.at 1 = v1 ∧ f.at 2 = v2 ∧ f.at 7 = .ptr h1.next 0 ∧ f.at 8 = .ptr mo 0 ∧ f.at 10 = .slice h3.next 0 1 (1 + m) (1 + m) true ∧ f.at 37 = .int .i64 ((1 + m : Nat) : Int) ∧ f.at 38 = .int .i64 (j : Nat)) ?_ (1 + m) _ _ ⟨0, rfl, Nat.zero_le _, (Quiet.refl _).new _, lo3.new _, ?_, ?_⟩
  rotate_left
  · rw [get_new_same]; rfl
  · simp only [vms, vmc, AOpd.val, Nat.reduceEqDiff, reduceCtorEq, Nat.reduceAdd, Nat.reduceBEq]
    exact ⟨trivial, trivial, trivial, trivial, trivial, trivial, rfl⟩
  rintro d f h4 ⟨j, rfl, hj, q4, lo4, g4, f1, f2, f7, f8, f10, f37, f38⟩
  simp only [c7l0, vms, vmc, AOpd.val, Nat.reduceEqDiff, reduceCtorEq, Nat.reduceAdd, Nat.reduceBEq, f37, f38]
  by_cases hlt : j < 1 + m
  · have hd : decide ((j : Int) < ((1 + m : Nat) : Int)) = true := by rw [decide_eq_true_eq]; omega
    have hix : idxAddrV 1 (.slice h3.next 0 1 (1 + m) (1 + m) true) (.int .i64 (j : Int)) = some (.ptr h3.next j) := by rw [idx_nat hlt, Nat.zero_add]
    have w1 : IntKind.i64.wrap ((j : Int) + 1) = ((j + 1 : Nat) : Int) := by rw [wrap_i64 (by omega) (by omega)]; rfl
    have st3 := store_int (k := .i64) (n := -1) g4 (i := j) (by simp; omega)
    rw [set_rep hlt] at st3
    simp only [hd, vms, vmc, AOpd.val, Nat.reduceEqDiff, reduceCtorEq, Nat.reduceAdd, Nat.reduceBEq, f1, f2, f7, f8, f10, f37, f38, hix, st3, w1]
    exact ⟨(1 + m) - (j + 1), by omega, j + 1, rfl, by omega, q4.set (Nat.le_refl _) _, lo4.set (lo4 _ _ g4) _, get_set_same, trivial, trivial, trivial, trivial, trivial, trivial, rfl⟩
  · have hd : decide ((j : Int) < ((1 + m : Nat) : Int)) = false := by rw [decide_eq_false_iff_not]; omega
    have : j = 1 + m := by omega
    subst this
    have hFl := (R.res lo3).low
    have hGl := side3.low
    have S0 : EpSt h4 mo h3.next M F G (fun h => h.get h1.next = some (.cells ({ c with clients := 1 + m } : CfgP).cells true) ∧ Sees h v1 (xs.map (.int .i64)) ∧ Sees h v2 (ys.map (.int .i64))) :=
      ⟨((R.res lo3).quiet q4).holds, lo4, by rw [hP, g4]; simp, fun hf => by have := hFl _ hf; omega, side3.quiet q4, fun o ho => ⟨dis o ho, by have := hGl o ho; omega⟩⟩
    clear g4 q4 lo4 g3
    simp only [hd, vms, vmc, AOpd.val, Nat.reduceEqDiff, reduceCtorEq, Nat.reduceAdd, Nat.reduceBEq, f1, f2, f7, f8, f10]
    refine wpc_loop (fun d f h' => ∃ (i : Nat) (M : MemP) (F : Nat → Prop), d = 60 - i ∧ i ≤ 60 ∧ M.ep.cls.length = 1 + m ∧ 0 ≤ M.ep.now ∧ M.ep.now ≤ (i : Int) ∧ EpSt h' mo h3.next M F G (fun h => h.get h1.next = some (.cells ({ c with clients := 1 + m } : CfgP).cells true) ∧ Sees h v1 (xs.map (.int .i64)) ∧ Sees h v2 (ys.map (.int .i64))) ∧
      f.at 1 = v1 ∧ f.at 2 = v2 ∧ f.at 7 = .ptr h1.next 0 ∧ f.at 8 = .ptr mo 0 ∧ f.at 10 = .slice h3.next 0 1 (1 + m) (1 + m) true ∧ f.at 12 = .int .i64 M.ep.now ∧ f.at 13 = .int .i64 (i : Nat)) ?_ 60 _ _ ⟨0, M, F, rfl, by omega, hM, by omega, by omega, S0, ?_⟩
    rotate_left
    · simp only [vms, vmc, AOpd.val, Nat.reduceEqDiff, reduceCtorEq, Nat.reduceAdd, Nat.reduceBEq, f1, f2, f7, f8, f10, hN]
      exact ⟨trivial, trivial, trivial, trivial, trivial, trivial, rfl⟩
    clear S0 hP hN hM f1 f2 f7 f8 f10 f37 f38 R hS hF dis hFl
    rintro d f h4 ⟨i, M, F, rfl, hi, hM, hn0, hni, S, f1, f2, f7, f8, f10, f12, f13⟩
    obtain ⟨g4, s1', s2'⟩ := S.side.holds
    have done : Gives T 3 [] h4 fun r h' => r = .bool true ∧ h' = h4 := k.yes h4
    simp only [c7l2_parts, vms, vmc, AOpd.val, Nat.reduceEqDiff, reduceCtorEq, Nat.reduceAdd, Nat.reduceBEq]
    simp only [c7q, c7l2, vms, vmc, AOpd.val, Nat.reduceEqDiff, reduceCtorEq, Nat.reduceAdd, Nat.reduceBEq, f1, f2, f13, s1'.len, s2'.len]
    by_cases e1 : i < xs.length
    rotate_left
    · have d1 : decide ((i : Int) < (xs.length : Int)) = false := by rw [decide_eq_false_iff_not]; omega
      simp only [vms, vmc, AOpd.val, Nat.reduceEqDiff, reduceCtorEq, Nat.reduceAdd, Nat.reduceBEq, d1]
      refine Gives.bind (done.mono ?_)
      rintro _ _ ⟨rfl, rfl⟩
      simp only [vms, vmc, AOpd.val, Nat.reduceEqDiff, reduceCtorEq, Nat.reduceAdd, Nat.reduceBEq]
    have d1 : decide ((i : Int) < (xs.length : Int)) = true := by rw [decide_eq_true_eq]; omega
    by_cases e2 : i < ys.length
    rotate_left
    · have d2 : decide ((i : Int) < (ys.length : Int)) = false := by rw [decide_eq_false_iff_not]; omega
      simp only [vms, vmc, AOpd.val, Nat.reduceEqDiff, reduceCtorEq, Nat.reduceAdd, Nat.reduceBEq, d1, d2, f2, f13, s2'.len]
      refine Gives.bind (done.mono ?_)
      rintro _ _ ⟨rfl, rfl⟩
      simp only [vms, vmc, AOpd.val, Nat.reduceEqDiff, reduceCtorEq, Nat.reduceAdd, Nat.reduceBEq]
    have d2 : decide ((i : Int) < (ys.length : Int)) = true := by rw [decide_eq_true_eq]; omega
    by_cases e3 : i < 60
    rotate_left
    · have d3 : decide ((i : Int) < 60) = false := by rw [decide_eq_false_iff_not]; omega
      simp only [vms, vmc, AOpd.val, Nat.reduceEqDiff, reduceCtorEq, Nat.reduceAdd, Nat.reduceBEq, d1, d2, d3, f2, f13, s2'.len]
      refine Gives.bind (done.mono ?_)
      rintro _ _ ⟨rfl, rfl⟩
      simp only [vms, vmc, AOpd.val, Nat.reduceEqDiff, reduceCtorEq, Nat.reduceAdd, Nat.reduceBEq]
    have d3 : decide ((i : Int) < 60) = true := by rw [decide_eq_true_eq]; omega
    obtain ⟨p1, i1, ld1⟩ := s1'.at (i := i) (x := .int .i64 xs[i]) (by rw [List.getElem?_map, List.getElem?_eq_getElem e1]; rfl) .i64
    obtain ⟨p2, i2, ld2⟩ := s2'.at (i := i) (x := .int .i64 ys[i]) (by rw [List.getElem?_map, List.getElem?_eq_getElem e2]; rfl) .i64
    have hsub : binV .sub (.int .i64 ((1 + m : Nat) : Int)) (.int .i64 1) = some (.int .i64 (m : Int)) := by
      rw [bin_sub, wrap_i64 (by omega) (by omega)]; congr 2; omega
    simp only [vms, vmc, AOpd.val, Nat.reduceEqDiff, reduceCtorEq, Nat.reduceAdd, Nat.reduceBEq, d1, d2, d3, f1, f2, f7, f8, f13, s2'.len, c7a, c7l2, i1, ld1, fa, load_at g4 hc2.five_get, hsub]
    refine Gives.bind ((within_nat k (hi := m) (by omega)).mono ?_)
    rintro _ _ ⟨kk, rfl, hkk, rfl⟩
    rename_i h4
    have hck : kk < M.ep.cls.length := by omega
    have w1 : IntKind.i64.wrap ((i : Int) + 1) = ((i + 1 : Nat) : Int) := by rw [wrap_i64 (by omega) (by omega)]; rfl
    simp only [c7b, c7l2, vms, vmc, AOpd.val, Nat.reduceEqDiff, reduceCtorEq, Nat.reduceAdd, Nat.reduceBEq, f1, f2, f7, f8, f10, f12, f13, i2, ld2]
    refine Gives.bind ((within_nat k (hi := 3) (by omega)).mono ?_)
    rintro _ _ ⟨wh, rfl, hwh, rfl⟩
    rename_i h4
    -- the end of a round
    have fin : ∀ {h5 : AH} {M' : MemP} {F' : Nat → Prop} {f : Fr}, M'.ep.cls.length = 1 + m → 0 ≤ M'.ep.now → M'.ep.now ≤ i + 1 → EpSt h5 mo h3.next M' F' G (fun h => h.get h1.next = some (.cells ({ c with clients := 1 + m } : CfgP).cells true) ∧ Sees h v1 (xs.map (.int .i64)) ∧ Sees h v2 (ys.map (.int .i64))) →
        f.at 1 = v1 → f.at 2 = v2 → f.at 7 = .ptr h1.next 0 → f.at 8 = .ptr mo 0 → f.at 10 = .slice h3.next 0 1 (1 + m) (1 + m) true → f.at 12 = .int .i64 M'.ep.now → f.at 13 = .int .i64 (i : Nat) → f.at 14 = .int .i64 (kk : Int) →
        ∀ {Q}, Wp (code T c7t f h5) (InBlock 3 (ThenC T c7n (Then (fun f' h' => ∃ m_1, m_1 < 60 - i ∧ ∃ (i : Nat) (M : MemP) (F : Nat → Prop), m_1 = 60 - i ∧ i ≤ 60 ∧ M.ep.cls.length = 1 + m ∧ 0 ≤ M.ep.now ∧ M.ep.now ≤ (i : Int) ∧ EpSt h' mo h3.next M F G (fun h => h.get h1.next = some (.cells ({ c with clients := 1 + m } : CfgP).cells true) ∧ Sees h v1 (xs.map (.int .i64)) ∧ Sees h v2 (ys.map (.int .i64))) ∧
      f'.at 1 = v1 ∧ f'.at 2 = v2 ∧ f'.at 7 = .ptr h1.next 0 ∧ f'.at 8 = .ptr mo 0 ∧ f'.at 10 = .slice h3.next 0 1 (1 + m) (1 + m) true ∧ f'.at 12 = .int .i64 M.ep.now ∧ f'.at 13 = .int .i64 (i : Nat)) Q))) := by
      intro h5 M' F' f hM5 hn5 hni5 S5 g1 g2 g7 g8 g10 g12 g13 g14 Q
      refine epochs_tail k S5 (by omega) hM5 (by omega) g8 g10 g12 g14 ?_
      intro f6 h6 F6 hf S6
      simp only [c7n, c7l2, vms, vmc, AOpd.val, Nat.reduceEqDiff, reduceCtorEq, Nat.reduceAdd, Nat.reduceBEq, hf 13 (by omega), g13, w1]
      exact ⟨60 - (i + 1), by omega, i + 1, M', F6, rfl, by omega, hM5, hn5, by omega, S6, (hf 1 (by omega)).trans g1, (hf 2 (by omega)).trans g2, (hf 7 (by omega)).trans g7, (hf 8 (by omega)).trans g8, (hf 10 (by omega)).trans g10, (hf 12 (by omega)).trans g12, rfl⟩
    have hcases : wh = 0 ∨ wh = 1 ∨ wh = 2 ∨ wh = 3 := by omega
    have hix : idxAddrV 1 (.slice h3.next 0 1 (1 + m) (1 + m) true) (.int .i64 (kk : Int)) = some (.ptr h3.next kk) := by rw [idx_nat (show kk < 1 + m by omega), Nat.zero_add]
    rcases hcases with rfl | rfl | rfl | rfl
    · obtain ⟨M', hd, hp, hn', hl', _⟩ := do_pin hck hn0 (Int.le_refl M.ep.now)
      have hdo := do_num k S.mem S.low (kk : Int) 8 M.ep.now
      rw [hd] at hdo
      simp only [vms, vmc, AOpd.val, Nat.reduceEqDiff, reduceCtorEq, Nat.reduceAdd, Nat.reduceBEq, show (((0 : Nat) : Int) == 0) = true from rfl, f1, f2, f7, f8, f10, f12, f13, accN]
      refine Gives.bind (hdo.mono ?_)
      rintro _ h5 ⟨⟨wv, rfl, _⟩, F5, R5, act⟩
      obtain ⟨h6, st6, S6⟩ := S.turn R5 act hck hp
      simp only [vms, vmc, AOpd.val, Nat.reduceEqDiff, reduceCtorEq, Nat.reduceAdd, Nat.reduceBEq, field_ok, f1, f2, f7, f8, f10, f12, f13, hix, st6]
      refine fin (M' := M') (by omega) (by omega) (by omega) S6 ?_ ?_ ?_ ?_ ?_ ?_ ?_ ?_ <;> simp only [vms, vmc, AOpd.val, Nat.reduceEqDiff, reduceCtorEq, Nat.reduceAdd, Nat.reduceBEq, f1, f2, f7, f8, f10, f12, f13, hn']
    · obtain ⟨M', hd, hp, hn', hl', _⟩ := do_unpin hck
      have hdo := do_kind k S.mem S.low (kk : Int) 9
      rw [hd] at hdo
      simp only [vms, vmc, AOpd.val, Nat.reduceEqDiff, reduceCtorEq, Nat.reduceAdd, Nat.reduceBEq, show (((1 : Nat) : Int) == 0) = false from rfl, show (((1 : Nat) : Int) == 1) = true from rfl, f1, f2, f7, f8, f10, f12, f13, accK]
      refine Gives.bind (hdo.mono ?_)
      rintro _ h5 ⟨⟨wv, rfl, _⟩, F5, R5, act⟩
      obtain ⟨h6, st6, S6⟩ := S.turn R5 act hck hp
      simp only [vms, vmc, AOpd.val, Nat.reduceEqDiff, reduceCtorEq, Nat.reduceAdd, Nat.reduceBEq, field_ok, f1, f2, f7, f8, f10, f12, f13, hix, st6]
      refine fin (M' := M') (by omega) (by omega) (by omega) S6 ?_ ?_ ?_ ?_ ?_ ?_ ?_ ?_ <;> simp only [vms, vmc, AOpd.val, Nat.reduceEqDiff, reduceCtorEq, Nat.reduceAdd, Nat.reduceBEq, f1, f2, f7, f8, f10, f12, f13, hn']
    · have hdo := do_num k S.mem S.low (kk : Int) 11 M.ep.now
      rw [do_adv hck (by omega)] at hdo
      simp only [vms, vmc, AOpd.val, Nat.reduceEqDiff, reduceCtorEq, Nat.reduceAdd, Nat.reduceBEq, show (((2 : Nat) : Int) == 0) = false from rfl, show (((2 : Nat) : Int) == 1) = false from rfl, show (((2 : Nat) : Int) == 2) = true from rfl, f1, f2, f7, f8, f10, f12, f13, accN]
      refine Gives.bind (hdo.mono ?_)
      rintro _ h5 ⟨⟨wv, rfl, _⟩, F5, R5, act⟩
      have S5 := S.same R5 act rfl
      have hdo2 := do_num k S5.mem S5.low (kk : Int) 11 M.ep.now
      rw [do_adv_no (M := { M with ep := { M.ep with now := M.ep.now + 1 } }) hck (by show M.ep.now + 1 ≠ M.ep.now; omega)] at hdo2
      simp only [vms, vmc, AOpd.val, Nat.reduceEqDiff, reduceCtorEq, Nat.reduceAdd, Nat.reduceBEq, field_ok, f1, f2, f7, f8, f10, f12, f13, accN]
      refine Gives.bind (hdo2.mono ?_)
      rintro _ h6 ⟨⟨wv, rfl, _⟩, F6, R6, act6⟩
      have S6 := S5.same R6 act6 rfl
      have w2 : IntKind.i64.wrap (M.ep.now + 1) = M.ep.now + 1 := wrap_i64 (by omega) (by omega)
      simp only [vms, vmc, AOpd.val, Nat.reduceEqDiff, reduceCtorEq, Nat.reduceAdd, Nat.reduceBEq, field_ok, f1, f2, f7, f8, f10, f12, f13, w2]
      refine fin (by exact hM) (by show 0 ≤ M.ep.now + 1; omega) (by show M.ep.now + 1 ≤ _; omega) S6 ?_ ?_ ?_ ?_ ?_ ?_ ?_ ?_ <;> simp only [vms, vmc, AOpd.val, Nat.reduceEqDiff, reduceCtorEq, Nat.reduceAdd, Nat.reduceBEq, f1, f2, f7, f8, f10, f12, f13]
    · have hdo := do_num k S.mem S.low (kk : Int) 8 (M.ep.now + 1)
      rw [do_pin_no hck (by omega)] at hdo
      have w2 : IntKind.i64.wrap (M.ep.now + 1) = M.ep.now + 1 := wrap_i64 (by omega) (by omega)
      simp only [vms, vmc, AOpd.val, Nat.reduceEqDiff, reduceCtorEq, Nat.reduceAdd, Nat.reduceBEq, show (((3 : Nat) : Int) == 0) = false from rfl, show (((3 : Nat) : Int) == 1) = false from rfl, show (((3 : Nat) : Int) == 2) = false from rfl, show (((3 : Nat) : Int) == 3) = true from rfl, f1, f2, f7, f8, f10, f12, f13, w2, accN]
      refine Gives.bind (hdo.mono ?_)
      rintro _ h5 ⟨⟨wv, rfl, _⟩, F5, R5, act⟩
      have S5 := S.same R5 act rfl
      simp only [vms, vmc, AOpd.val, Nat.reduceEqDiff, reduceCtorEq, Nat.reduceAdd, Nat.reduceBEq, field_ok, f1, f2, f7, f8, f10, f12, f13]
      refine fin hM hn0 (by omega) S5 ?_ ?_ ?_ ?_ ?_ ?_ ?_ ?_ <;> simp only [vms, vmc, AOpd.val, Nat.reduceEqDiff, reduceCtorEq, Nat.reduceAdd, Nat.reduceBEq, f1, f2, f7, f8, f10, f12, f13]
end Go.Proofs.Ytagcnjhpdopkiaa

/- The laws of chapter 9 begin: a configuration, what clients share. The law MemTurns. -/
import Derived.Test.YtagcnjhpdopkiaaP9Mem
namespace Go.Proofs.Ytagcnjhpdopkiaa
open Go.Vm
set_option linter.unusedSimpArgs false
set_option linter.unusedVariables false
variable {T : Vm.Prog} {h : AH}
def CfgP.cells (c : CfgP) : List AV := ints c.s ++ [.int .i64 (c.clients : Int), .int .i64 c.limbo, .int .i64 c.tries]
theorem CfgOk.five {c : CfgP} (h : CfgOk c) : (ints c.s).length = 5 := by obtain ⟨a, b, d, e, f, hs, _⟩ := h.slots; rw [hs]; rfl
theorem CfgOk.len {c : CfgP} (h : CfgOk c) : c.cells.length = 8 := by simp [CfgP.cells, h.five]
theorem cfg_flat (c : CfgP) : c.cells.all AV.flat = true := by
  simp only [CfgP.cells, List.all_append, ints_flat, Bool.true_and]
  rfl
theorem CfgOk.five_get {c : CfgP} (h : CfgOk c) : c.cells[5]? = some (.int .i64 (c.clients : Int)) := by
  obtain ⟨a, b, d, e, f, hs, _⟩ := h.slots; simp only [CfgP.cells, hs]; rfl
theorem CfgOk.setClients {c : CfgP} (h : CfgOk c) {n : Nat} (h1 : 1 ≤ n) (h2 : n ≤ 8) : CfgOk { c with clients := n } := ⟨h.slots, ⟨h1, h2⟩, h.limbo, h.tries⟩
theorem CfgOk.set5 {c : CfgP} (h : CfgOk c) (n : Nat) : c.cells.set 5 (.int .i64 (n : Int)) = ({ c with clients := n } : CfgP).cells := by
  obtain ⟨a, b, d, e, f, hs, _⟩ := h.slots; simp only [CfgP.cells, hs]; rfl
def zero8 : List AV := [.int .i64 0, .int .i64 0, .int .i64 0, .int .i64 0, .int .i64 0, .int .i64 0, .int .i64 0, .int .i64 0]
theorem within_nat (k : Fits T) {n : Int} {hi : Nat} (h1 : hi ≤ 1000) : Gives T 16 [.int .i64 n, .int .i64 0, .int .i64 (hi : Int)] h fun r h' => ∃ m : Nat, r = .int .i64 (m : Int) ∧ m ≤ hi ∧ h' = h := by
  refine (within_ok (g := 16) (k.env _ (by decide)) (k.at rfl) (show (0 : Int) ≤ (hi : Int) by omega) (by decide) (by omega)).mono ?_
  rintro _ _ ⟨m, rfl, h2, h3, rfl⟩
  exact ⟨m.toNat, by rw [Int.toNat_of_nonneg h2], by omega, rfl⟩
theorem accK {x0 : Int} : fillV [AV.int .i64 0, .int .i64 0, .int .i64 0, .int .i64 0, .int .u64 0, .nilSlice] [(0, 1, .int .i64 x0)] = some [.int .i64 x0, .int .i64 0, .int .i64 0, .int .i64 0, .int .u64 0, .nilSlice] := by simp [fillV, AV.isDef, AV.cells, setMany]
def kA (x : Int) : AccP := ⟨x, 0, 0, 0, 0, []⟩
/-- An access of its kind alone. -/
theorem do_kind (k : Fits T) {m : Nat} {M : MemP} {F : Nat → Prop} (R : MemR m M F h) (hl : Low h) (c x : Int) :
    Gives T 12 [.ptr m 0, .int .i64 c, .agg [.int .i64 x, .int .i64 0, .int .i64 0, .int .i64 0, .int .u64 0, .nilSlice]] h fun r h' => ResOk h.next h' r (doP M c (kA x)).1 ∧ ∃ F', MemR m (doP M c (kA x)).2 F' h' ∧ Acts h F h' F' :=
  do_ok k R hl c (kA x) (wv := .nilSlice) SrcB.nil
theorem field_n {a b c d : AV} : fieldV false 1 1 (.agg [a, b, c, d]) = some b := rfl
theorem field_ok {a b c d : AV} : fieldV false 2 1 (.agg [a, b, c, d]) = some c := rfl
theorem field_err {a b c d : AV} : fieldV false 0 1 (.agg [a, b, c, d]) = some a := rfl
/-- Who holds the turnstile alone is another. -/
theorem do_give {M : MemP} {c : Int} (hc : 0 ≤ c ∧ c < M.ep.cls.length) : doP M c (kA 15) = if M.holder = c then (⟨0, 0, true, []⟩, { M with holder := -1 }) else (⟨0, 0, false, []⟩, M) := by
  unfold doP turnP
  rw [if_neg (by omega)]
  simp [kA]
theorem do_take {M : MemP} {c : Int} (hc : 0 ≤ c ∧ c < M.ep.cls.length) : doP M c (kA 14) = if M.holder < 0 then (⟨0, 0, true, []⟩, { M with holder := c }) else (⟨0, 0, false, []⟩, M) := by
  unfold doP turnP
  rw [if_neg (by omega)]
  simp [kA]
theorem do_turn {M : MemP} {c : Int} (hc : 0 ≤ c ∧ c < M.ep.cls.length) : doP M c (kA 13) = (⟨0, M.holder, false, []⟩, M) := by
  unfold doP turnP
  rw [if_neg (by omega)]
  simp [kA]
/-- Behind an access: the result put into a new object. -/
theorem eqB_bool {n a b : Bool} : eqBV n (.bool a) (.bool b) = some (.bool (if n then !(a == b) else (a == b))) := rfl
def c4q : ACode := match c4l0 with
  | .seq q _ => q
  | c => c
def c4a : ACode := match c4l0 with
  | .seq _ (.seq (.block _ (.seq a _)) _) => a
  | c => c
def c4b : ACode := match c4l0 with
  | .seq _ (.seq (.block _ (.seq _ (.seq b _))) _) => b
  | c => c
def c4t : ACode := match c4l0 with
  | .seq _ (.seq (.block _ (.seq _ (.seq _ t))) _) => t
  | c => c
def c4n : ACode := match c4l0 with
  | .seq _ (.seq _ n) => n
  | c => c
theorem c4l0_parts : c4l0 = .seq c4q (.seq (.block 1 (.seq c4a (.seq c4b c4t))) c4n) := rfl
/-- The end of a round: who holds the turnstile is told. -/
theorem turns_tail (k : Fits T) {m : Nat} {M : MemP} {F : Nat → Prop} (R : MemR m M F h) (hl : Low h) {φ : AH → Prop} (side : Side h F φ) {kk : Nat} (hk : kk < M.ep.cls.length) {f : Fr} (f8 : f.at 8 = .ptr m 0) (f10 : f.at 10 = .int .i64 M.holder) (f12 : f.at 12 = .int .i64 (kk : Int)) {Q : AExit → Fr → AH → Prop}
    (hQ : ∀ f' h' F', (∀ t, t < 13 → f'.at t = f.at t) → MemR m M F' h' → Low h' → Side h' F' φ → Q .normal f' h') : Wp (code T c4t f h) Q := by
  simp only [c4t, c4l0, vms, vmc, AOpd.val, Nat.reduceEqDiff, reduceCtorEq, Nat.reduceAdd, Nat.reduceBEq, f8, f10, f12, accK]
  have hdo := do_kind k R hl (kk : Int) 13
  rw [do_turn ⟨by omega, by omega⟩] at hdo
  refine Gives.bind (hdo.mono ?_)
  rintro _ h2 ⟨⟨wv, rfl, hw⟩, F', R2, act⟩
  have hwf : wv.flat = true := by
    rcases hw with ⟨rfl, _⟩ | ⟨⟨_, rfl, _⟩, _⟩ <;> rfl
  have st := store_all (h := h2.new (.cells [.int .i64 0, .int .i64 0, .bool false, .nilSlice] true)) (o := h2.next) (n := 4) (l' := [.int .i64 0, .int .i64 M.holder, .bool false, wv]) get_new_same rfl rfl (by simp only [List.all_cons, List.all_nil, hwf]; rfl)
  have q : Quiet h2 ((h2.new (.cells [.int .i64 0, .int .i64 0, .bool false, .nilSlice] true)).set h2.next (.cells [.int .i64 0, .int .i64 M.holder, .bool false, wv] true)) := ((Quiet.refl _).new _).set (Nat.le_refl _) _
  have lo : Low ((h2.new (.cells [.int .i64 0, .int .i64 0, .bool false, .nilSlice] true)).set h2.next (.cells [.int .i64 0, .int .i64 M.holder, .bool false, wv] true)) := (act.low.new _).set (by rw [next_new]; omega) _
  have g : ((h2.new (.cells [.int .i64 0, .int .i64 0, .bool false, .nilSlice] true)).set h2.next (.cells [.int .i64 0, .int .i64 M.holder, .bool false, wv] true)).get h2.next = some (.cells [.int .i64 0, .int .i64 M.holder, .bool false, wv] true) := get_set_same
  have fa : ∀ j, fieldAddrV j (.ptr h2.next 0) = some (.ptr h2.next (0 + j)) := fun j => rfl
  have st' : storeV (h2.new (.cells [.int .i64 0, .int .i64 0, .bool false, .nilSlice] true)) 4 (.ptr h2.next 0) (.agg [.int .i64 ((0 : Nat) : Int), .int .i64 M.holder, .bool false, wv]) = _ := st
  simp only [vms, vmc, AOpd.val, Nat.reduceEqDiff, reduceCtorEq, Nat.reduceAdd, Nat.reduceBEq, st', fa, Nat.zero_add, load_at g (i := 1) rfl, load_at g (i := 0) rfl, f10, bne_self_eq_false]
  refine hQ _ _ F' ?_ ((R2.res act.low).quiet q).holds lo ((side.act act).quiet q)
  intro t ht
  simp only [Fr.at_put, put_none]
  repeat rw [if_neg (by omega)]
theorem turns_run (k : Fits T) (hl : Low h) {n0 : Int} {v1 v2 : AV} {xs : List Int} {bs : List Bool} (s1 : Sees h v1 (xs.map (.int .i64))) (s2 : Sees h v2 (bs.map .bool)) :
    Gives T 4 [.int .i64 n0, v1, v2] h fun r _ => r = .bool true := by
  refine gives_func (k.env _ (by decide)) (k.at (fn := a4) rfl) rfl ?_
  have hb : fillV [AV.int .i64 0, .int .i64 0, .int .i64 0, .int .i64 0, .int .i64 0, .int .i64 0, .int .i64 0, .int .i64 0] [] = some (izs [0, 0, 0, 0, 0, 0, 0, 0]) := rfl
  simp only [a4, c4, vms, vmc, AOpd.val, Nat.reduceEqDiff, reduceCtorEq, Nat.reduceAdd, Nat.reduceBEq, hb]
  refine Gives.bind ((config_ok k hl (z := [0, 0, 0, 0, 0, 0, 0, 0]) rfl).mono ?_)
  rintro _ h1 ⟨c, rfl, hc, hc4, q1, lo1⟩
  have hcv : c.v = .agg c.cells := rfl
  have st1 := store_all (h := h1.new (.cells zero8 true)) (o := h1.next) (n := 8) (l' := c.cells) get_new_same rfl hc.len (cfg_flat c)
  have st1' : storeV (h1.new (.cells [.int .i64 0, .int .i64 0, .int .i64 0, .int .i64 0, .int .i64 0, .int .i64 0, .int .i64 0, .int .i64 0] true)) 8 (.ptr h1.next 0) c.v = _ := st1
  simp only [vms, vmc, AOpd.val, Nat.reduceEqDiff, reduceCtorEq, Nat.reduceAdd, Nat.reduceBEq, st1']
  refine Gives.bind ((within_nat k (hi := 7) (by decide)).mono ?_)
  rintro _ _ ⟨m, rfl, hm, rfl⟩
  have ha : binV .add (.int .i64 1) (.int .i64 (m : Int)) = some (.int .i64 ((1 + m : Nat) : Int)) := by
    rw [addI (by decide) (by decide) (by omega) (by omega)]; rfl
  have fa : fieldAddrV 5 (.ptr h1.next 0) = some (.ptr h1.next 5) := rfl
  have st2 := store_int (h := (h1.new (.cells zero8 true)).set h1.next (.cells c.cells true)) (o := h1.next) (i := 5) (k := .i64) (n := ((1 + m : Nat) : Int)) get_set_same (by rw [hc.len]; decide)
  rw [hc.set5] at st2
  have q2 : Quiet h1 (((h1.new (.cells zero8 true)).set h1.next (.cells c.cells true)).set h1.next (.cells ({ c with clients := 1 + m } : CfgP).cells true)) := (((Quiet.refl h1).new _).set (Nat.le_refl _) _).set (Nat.le_refl _) _
  have lo2 : Low (((h1.new (.cells zero8 true)).set h1.next (.cells c.cells true)).set h1.next (.cells ({ c with clients := 1 + m } : CfgP).cells true)) := ((lo1.new _).set (by rw [next_new]; omega) _).set (by rw [next_set, next_new]; omega) _
  have g2 : (((h1.new (.cells zero8 true)).set h1.next (.cells c.cells true)).set h1.next (.cells ({ c with clients := 1 + m } : CfgP).cells true)).get h1.next = some (.cells ({ c with clients := 1 + m } : CfgP).cells true) := get_set_same
  have hc2 := hc.setClients (n := 1 + m) (by omega) (by omega)
  simp only [vms, vmc, AOpd.val, Nat.reduceEqDiff, reduceCtorEq, Nat.reduceAdd, Nat.reduceBEq, ha, fa, st2, load_all g2 hc2.len]
  generalize (((h1.new (.cells zero8 true)).set h1.next (.cells c.cells true)).set h1.next (.cells ({ c with clients := 1 + m } : CfgP).cells true)) = h2 at *
  refine Gives.bind ((mem_new k lo2 hc2).mono ?_)
  rintro _ h3 ⟨mo, M, F, st, sn, sx, rfl, R, hS, q3, hF, lo3⟩
  have side2 : Res (fun h => h.get h1.next = some (.cells ({ c with clients := 1 + m } : CfgP).cells true) ∧ Sees h v1 (xs.map (.int .i64)) ∧ Sees h v2 (bs.map .bool)) _ h2 :=
    (res_obj lo2 g2).and ((((s1.res hl).quiet (q1.trans q2))).and ((s2.res hl).quiet (q1.trans q2)))
  have side3 := (Side.new side2 hF).quiet q3
  have hM : M.ep.cls.length = 1 + m := by rw [hS.is]; simp [newEp]
  have hH : M.holder = -1 := by rw [hS.is]
  simp only [vms, vmc, AOpd.val, Nat.reduceEqDiff, reduceCtorEq, Nat.reduceAdd, Nat.reduceBEq, show eqNilV 0 (.ptr mo 0) .nilPtr = some false from rfl, show ((0 : Int) != 0) = false from rfl]
  refine wpc_loop (fun d f h' => ∃ i M F, d = 60 - i ∧ i ≤ 60 ∧ MemR mo M F h' ∧ Low h' ∧ M.ep.cls.length = 1 + m ∧ Side h' F (fun h => h.get h1.next = some (.cells ({ c with clients := 1 + m } : CfgP).cells true) ∧ Sees h v1 (xs.map (.int .i64)) ∧ Sees h v2 (bs.map .bool)) ∧
    f.at 1 = v1 ∧ f.at 2 = v2 ∧ f.at 7 = .ptr h1.next 0 ∧ f.at 8 = .ptr mo 0 ∧ f.at 10 = .int .i64 M.holder ∧ f.at 11 = .int .i64 (i : Nat)) ?_ 60 _ _ ⟨0, M, F, rfl, by omega, R, lo3, hM, side3, ?_⟩
  · rintro d f h4 ⟨i, M, F, rfl, hi, R, lo4, hM, side, f1, f2, f7, f8, f10, f11⟩
    obtain ⟨g4, s1', s2'⟩ := side.holds
    have done : Gives T 3 [] h4 fun r h' => r = .bool true ∧ h' = h4 := k.yes h4
    simp only [c4l0_parts, vms, vmc, AOpd.val, Nat.reduceEqDiff, reduceCtorEq, Nat.reduceAdd, Nat.reduceBEq]
    simp only [c4q, c4l0, vms, vmc, AOpd.val, Nat.reduceEqDiff, reduceCtorEq, Nat.reduceAdd, Nat.reduceBEq, f1, f2, f7, f8, f10, f11, s1'.len, s2'.len]
    by_cases e1 : i < xs.length
    rotate_left
    · have d1 : decide ((i : Int) < (xs.length : Int)) = false := by rw [decide_eq_false_iff_not]; omega
      simp only [vms, vmc, AOpd.val, Nat.reduceEqDiff, reduceCtorEq, Nat.reduceAdd, Nat.reduceBEq, d1]
      refine Gives.bind (done.mono ?_)
      rintro _ _ ⟨rfl, rfl⟩
      simp only [vms, vmc, AOpd.val, Nat.reduceEqDiff, reduceCtorEq, Nat.reduceAdd, Nat.reduceBEq]
    have d1 : decide ((i : Int) < (xs.length : Int)) = true := by rw [decide_eq_true_eq]; omega
    by_cases e2 : i < bs.length
    rotate_left
    · have d2 : decide ((i : Int) < (bs.length : Int)) = false := by rw [decide_eq_false_iff_not]; omega
      simp only [vms, vmc, AOpd.val, Nat.reduceEqDiff, reduceCtorEq, Nat.reduceAdd, Nat.reduceBEq, d1, d2, f2, f11, s2'.len]
      refine Gives.bind (done.mono ?_)
      rintro _ _ ⟨rfl, rfl⟩
      simp only [vms, vmc, AOpd.val, Nat.reduceEqDiff, reduceCtorEq, Nat.reduceAdd, Nat.reduceBEq]
    have d2 : decide ((i : Int) < (bs.length : Int)) = true := by rw [decide_eq_true_eq]; omega
    by_cases e3 : i < 60
    rotate_left
    · have d3 : decide ((i : Int) < 60) = false := by rw [decide_eq_false_iff_not]; omega
      simp only [vms, vmc, AOpd.val, Nat.reduceEqDiff, reduceCtorEq, Nat.reduceAdd, Nat.reduceBEq, d1, d2, d3, f2, f11, s2'.len]
      refine Gives.bind (done.mono ?_)
      rintro _ _ ⟨rfl, rfl⟩
      simp only [vms, vmc, AOpd.val, Nat.reduceEqDiff, reduceCtorEq, Nat.reduceAdd, Nat.reduceBEq]
    have d3 : decide ((i : Int) < 60) = true := by rw [decide_eq_true_eq]; omega
    obtain ⟨p1, i1, ld1⟩ := s1'.at (i := i) (x := .int .i64 xs[i]) (by rw [List.getElem?_map, List.getElem?_eq_getElem e1]; rfl) .i64
    obtain ⟨p2, i2, ld2⟩ := s2'.at (i := i) (x := .bool bs[i]) (by rw [List.getElem?_map, List.getElem?_eq_getElem e2]; rfl) .i64
    have hsub : binV .sub (.int .i64 ((1 + m : Nat) : Int)) (.int .i64 1) = some (.int .i64 (m : Int)) := by
      rw [bin_sub, wrap_i64 (by omega) (by omega)]; congr 2; omega
    simp only [vms, vmc, AOpd.val, Nat.reduceEqDiff, reduceCtorEq, Nat.reduceAdd, Nat.reduceBEq, d1, d2, d3, f1, f2, f7, f8, f10, f11, s2'.len, c4a, c4l0, i1, ld1, fa, load_at g4 hc2.five_get, hsub]
    refine Gives.bind ((within_nat k (hi := m) (by omega)).mono ?_)
    rintro _ _ ⟨kk, rfl, hkk, rfl⟩
    rename_i h4
    have hck : (0 : Int) ≤ (kk : Int) ∧ (kk : Int) < (M.ep.cls.length : Int) := by omega
    have w1 : IntKind.i64.wrap ((i : Int) + 1) = ((i + 1 : Nat) : Int) := by rw [wrap_i64 (by omega) (by omega)]; rfl
    have fin : ∀ {h5 : AH} {M' : MemP} {F' : Nat → Prop} {f : Fr}, MemR mo M' F' h5 → Low h5 → M'.ep.cls.length = 1 + m → Side h5 F' (fun h => h.get h1.next = some (.cells ({ c with clients := 1 + m } : CfgP).cells true) ∧ Sees h v1 (xs.map (.int .i64)) ∧ Sees h v2 (bs.map .bool)) →
        f.at 1 = v1 → f.at 2 = v2 → f.at 7 = .ptr h1.next 0 → f.at 8 = .ptr mo 0 → f.at 10 = .int .i64 M'.holder → f.at 11 = .int .i64 (i : Nat) → f.at 12 = .int .i64 (kk : Int) → Wp (code T c4t f h5) (InBlock 1 (ThenC T c4n (Then (fun f' h' => ∃ m_1, m_1 < 60 - i ∧ ∃ i M F, m_1 = 60 - i ∧ i ≤ 60 ∧ MemR mo M F h' ∧ Low h' ∧ M.ep.cls.length = 1 + m ∧ Side h' F (fun h => h.get h1.next = some (.cells ({ c with clients := 1 + m } : CfgP).cells true) ∧ Sees h v1 (xs.map (.int .i64)) ∧ Sees h v2 (bs.map .bool)) ∧
    f'.at 1 = v1 ∧ f'.at 2 = v2 ∧ f'.at 7 = .ptr h1.next 0 ∧ f'.at 8 = .ptr mo 0 ∧ f'.at 10 = .int .i64 M.holder ∧ f'.at 11 = .int .i64 (i : Nat)) (InBlock 0 (ThenC T (.seq (.ops [⟨(some 95), .call 3 [], none⟩, ⟨(some 6), .mov (.tmp 95), none⟩]) .ret) (Vm.Ends [.tmp 6] fun r _ => r = .bool true)))))) := by
      intro h5 M' F' f R5 lo5 hM5 side5 g1 g2 g7 g8 g10 g11 g12
      refine turns_tail k R5 lo5 side5 (by omega) g8 g10 g12 ?_
      intro f6 h6 F6 hf R6 lo6 side6
      simp only [c4n, c4l0, vms, vmc, AOpd.val, Nat.reduceEqDiff, reduceCtorEq, Nat.reduceAdd, Nat.reduceBEq, hf 11 (by omega), g11, w1]
      exact ⟨60 - (i + 1), by omega, i + 1, M', F6, rfl, by omega, R6, lo6, hM5, side6, (hf 1 (by omega)).trans g1, (hf 2 (by omega)).trans g2, (hf 7 (by omega)).trans g7, (hf 8 (by omega)).trans g8, (hf 10 (by omega)).trans g10, rfl⟩
    cases hbi : bs[i] with
    | true =>
      rw [hbi] at ld2
      have hdo := do_kind k R lo4 (kk : Int) 15
      rw [do_give hck] at hdo
      simp only [vms, vmc, AOpd.val, Nat.reduceEqDiff, reduceCtorEq, Nat.reduceAdd, Nat.reduceBEq, f1, f2, f7, f8, f10, f11, i1, i2, ld2, c4b, c4l0, accK]
      by_cases hh : M.holder = (kk : Int)
      · have e : (M.holder == (kk : Int)) = true := by simpa using hh
        rw [if_pos hh] at hdo
        refine Gives.bind (hdo.mono ?_)
        rintro _ h5 ⟨⟨wv, rfl, _⟩, F5, R5, act⟩
        simp only [vms, vmc, AOpd.val, Nat.reduceEqDiff, reduceCtorEq, Nat.reduceAdd, Nat.reduceBEq, field_ok, f1, f2, f7, f8, f10, f11, e, eqB_bool, show (!(true == true)) = false from rfl]
        refine fin R5 act.low hM (side.act act) ?_ ?_ ?_ ?_ ?_ ?_ ?_ <;> simp only [vms, vmc, AOpd.val, Nat.reduceEqDiff, reduceCtorEq, Nat.reduceAdd, Nat.reduceBEq, f1, f2, f7, f8, f10, f11]
      · have e : (M.holder == (kk : Int)) = false := by simpa using hh
        rw [if_neg hh] at hdo
        refine Gives.bind (hdo.mono ?_)
        rintro _ h5 ⟨⟨wv, rfl, _⟩, F5, R5, act⟩
        simp only [vms, vmc, AOpd.val, Nat.reduceEqDiff, reduceCtorEq, Nat.reduceAdd, Nat.reduceBEq, field_ok, f1, f2, f7, f8, f10, f11, e, eqB_bool, show (!(false == false)) = false from rfl]
        refine fin R5 act.low hM (side.act act) ?_ ?_ ?_ ?_ ?_ ?_ ?_ <;> simp only [vms, vmc, AOpd.val, Nat.reduceEqDiff, reduceCtorEq, Nat.reduceAdd, Nat.reduceBEq, f1, f2, f7, f8, f10, f11]
    | false =>
      rw [hbi] at ld2
      have hdo := do_kind k R lo4 (kk : Int) 14
      rw [do_take hck] at hdo
      simp only [vms, vmc, AOpd.val, Nat.reduceEqDiff, reduceCtorEq, Nat.reduceAdd, Nat.reduceBEq, f1, f2, f7, f8, f10, f11, i1, i2, ld2, c4b, c4l0, accK]
      by_cases hh : M.holder < 0
      · have e : decide (M.holder < 0) = true := by simpa using hh
        rw [if_pos hh] at hdo
        refine Gives.bind (hdo.mono ?_)
        rintro _ h5 ⟨⟨wv, rfl, _⟩, F5, R5, act⟩
        simp only [vms, vmc, AOpd.val, Nat.reduceEqDiff, reduceCtorEq, Nat.reduceAdd, Nat.reduceBEq, field_ok, f1, f2, f7, f8, f10, f11, e, eqB_bool, show (!(true == true)) = false from rfl]
        refine fin R5 act.low hM (side.act act) ?_ ?_ ?_ ?_ ?_ ?_ ?_ <;> simp only [vms, vmc, AOpd.val, Nat.reduceEqDiff, reduceCtorEq, Nat.reduceAdd, Nat.reduceBEq, f1, f2, f7, f8, f10, f11]
      · have e : decide (M.holder < 0) = false := by simpa using hh
        rw [if_neg hh] at hdo
        refine Gives.bind (hdo.mono ?_)
        rintro _ h5 ⟨⟨wv, rfl, _⟩, F5, R5, act⟩
        simp only [vms, vmc, AOpd.val, Nat.reduceEqDiff, reduceCtorEq, Nat.reduceAdd, Nat.reduceBEq, field_ok, f1, f2, f7, f8, f10, f11, e, eqB_bool, show (!(false == false)) = false from rfl]
        refine fin R5 act.low hM (side.act act) ?_ ?_ ?_ ?_ ?_ ?_ ?_ <;> simp only [vms, vmc, AOpd.val, Nat.reduceEqDiff, reduceCtorEq, Nat.reduceAdd, Nat.reduceBEq, f1, f2, f7, f8, f10, f11]
  · simp only [vms, vmc, AOpd.val, Nat.reduceEqDiff, reduceCtorEq, Nat.reduceAdd, Nat.reduceBEq, hH]
    exact ⟨trivial, trivial, trivial, trivial, trivial, rfl⟩
end Go.Proofs.Ytagcnjhpdopkiaa

/- The laws of chapter 9 begin: a configuration, what clients share. The law MemTurns. -/
import Derived.Test.YtgecjbbdaahilaaD4Mem
namespace Go.Proofs.Ytgecjbbdaahilaa
open Go.Vm
set_option linter.unusedSimpArgs false
set_option linter.unusedVariables false
variable {T : Vm.Prog} {h : AH}
def CfgP.cells (c : CfgP) : List AV := ints c.s ++ [.int .i64 (c.clients : Int), .int .i64 c.limbo, .int .i64 c.tries]
theorem CfgOk.five {c : CfgP} (h : CfgOk c) : (ints c.s).length = 5 := by obtain ⟨a, b, d, e, f, hs, _⟩ := h.slots; rw [hs]; rfl
theorem CfgOk.len {c : CfgP} (h : CfgOk c) : c.cells.length = 8 := by simp [CfgP.cells, h.five]
theorem cfg_flat (c : CfgP) : c.cells.all AV.flat = true := by
  simp only [CfgP.cells, List.all_append, ints_flat, Bool.true_and]
  rfl
theorem CfgOk.five_get {c : CfgP} (h : CfgOk c) : c.cells[5]? = some (.int .i64 (c.clients : Int)) := by
  obtain ⟨a, b, d, e, f, hs, _⟩ := h.slots; simp only [CfgP.cells, hs]; rfl
theorem CfgOk.setClients {c : CfgP} (h : CfgOk c) {n : Nat} (h1 : 1 ≤ n) (h2 : n ≤ 8) : CfgOk { c with clients := n } := ⟨h.slots, ⟨h1, h2⟩, h.limbo, h.tries⟩
theorem CfgOk.set5 {c : CfgP} (h : CfgOk c) (n : Nat) : c.cells.set 5 (.int .i64 (n : Int)) = ({ c with clients := n } : CfgP).cells := by
  obtain ⟨a, b, d, e, f, hs, _⟩ := h.slots; simp only [CfgP.cells, hs]; rfl
def zero8 : List AV := [.int .i64 0, .int .i64 0, .int .i64 0, .int .i64 0, .int .i64 0, .int .i64 0, .int .i64 0, .int .i64 0]
theorem within_nat (k : Fits T) {n : Int} {hi : Nat} (h1 : hi ≤ 1000) : Gives T 16 [.int .i64 n, .int .i64 0, .int .i64 (hi : Int)] h fun r h' => ∃ m : Nat, r = .int .i64 (m : Int) ∧ m ≤ hi ∧ h' = h := by
  refine (within_ok (g := 16) (k.env _ (by decide)) (k.at rfl) (show (0 : Int) ≤ (hi : Int) by omega) (by decide) (by omega)).mono ?_
  rintro _ _ ⟨m, rfl, h2, h3, rfl⟩
  exact ⟨m.toNat, by rw [Int.toNat_of_nonneg h2], by omega, rfl⟩
theorem accK {x0 : Int} : fillV [AV.int .i64 0, .int .i64 0, .int .i64 0, .int .i64 0, .int .u64 0, .nilSlice] [(0, 1, .int .i64 x0)] = some [.int .i64 x0, .int .i64 0, .int .i64 0, .int .i64 0, .int .u64 0, .nilSlice] := by simp [fillV, AV.isDef, AV.cells, setMany]
def kA (x : Int) : AccP := ⟨x, 0, 0, 0, 0, []⟩
/-- An access of its kind alone. -/
theorem do_kind (k : Fits T) {m : Nat} {M : MemP} {F : Nat → Prop} (R : MemR m M F h) (hl : Low h) (c x : Int) :
    Gives T 11 [.ptr m 0, .int .i64 c, .agg [.int .i64 x, .int .i64 0, .int .i64 0, .int .i64 0, .int .u64 0, .nilSlice]] h fun r h' => ResOk h.next h' r (doP M c (kA x)).1 ∧ ∃ F', MemR m (doP M c (kA x)).2 F' h' ∧ Acts h F h' F' :=
  do_ok k R hl c (kA x) (wv := .nilSlice) SrcB.nil
theorem field_n {a b c d : AV} : fieldV false 1 1 (.agg [a, b, c, d]) = some b := rfl
theorem field_ok {a b c d : AV} : fieldV false 2 1 (.agg [a, b, c, d]) = some c := rfl
theorem field_err {a b c d : AV} : fieldV false 0 1 (.agg [a, b, c, d]) = some a := rfl
/-- Who holds the turnstile alone is another. -/
theorem do_give {M : MemP} {c : Int} (hc : 0 ≤ c ∧ c < M.ep.cls.length) : doP M c (kA 15) = if M.holder = c then (⟨0, 0, true, []⟩, { M with holder := -1 }) else (⟨0, 0, false, []⟩, M) := by
  unfold doP turnP
  rw [if_neg (by omega)]
  simp [kA]
theorem do_take {M : MemP} {c : Int} (hc : 0 ≤ c ∧ c < M.ep.cls.length) : doP M c (kA 14) = if M.holder < 0 then (⟨0, 0, true, []⟩, { M with holder := c }) else (⟨0, 0, false, []⟩, M) := by
  unfold doP turnP
  rw [if_neg (by omega)]
  simp [kA]
theorem do_turn {M : MemP} {c : Int} (hc : 0 ≤ c ∧ c < M.ep.cls.length) : doP M c (kA 13) = (⟨0, M.holder, false, []⟩, M) := by
  unfold doP turnP
  rw [if_neg (by omega)]
  simp [kA]
/-- Behind an access: the result put into a new object. -/
theorem eqB_bool {n a b : Bool} : eqBV n (.bool a) (.bool b) = some (.bool (if n then !(a == b) else (a == b))) := rfl
end Go.Proofs.Ytgecjbbdaahilaa
/- The law MemEpochs. -/
namespace Go.Proofs.Ytgecjbbdaahilaa
open Go.Vm
set_option linter.unusedSimpArgs false
set_option linter.unusedVariables false
variable {T : Vm.Prog} {h : AH}
def nA (x n : Int) : AccP := ⟨x, 0, 0, n, 0, []⟩
theorem accN {x0 x3 : Int} : fillV [AV.int .i64 0, .int .i64 0, .int .i64 0, .int .i64 0, .int .u64 0, .nilSlice] [(0, 1, .int .i64 x0), (3, 1, .int .i64 x3)] = some [.int .i64 x0, .int .i64 0, .int .i64 0, .int .i64 x3, .int .u64 0, .nilSlice] := by simp [fillV, AV.isDef, AV.cells, setMany]
theorem do_num (k : Fits T) {m : Nat} {M : MemP} {F : Nat → Prop} (R : MemR m M F h) (hl : Low h) (c x n : Int) :
    Gives T 11 [.ptr m 0, .int .i64 c, .agg [.int .i64 x, .int .i64 0, .int .i64 0, .int .i64 n, .int .u64 0, .nilSlice]] h fun r h' => ResOk h.next h' r (doP M c (nA x n)).1 ∧ ∃ F', MemR m (doP M c (nA x n)).2 F' h' ∧ Acts h F h' F' :=
  do_ok k R hl c (nA x n) (wv := .nilSlice) SrcB.nil
/-- Where clients are pinned. -/
def pinsOf (ep : EpP) : List Int := ep.cls.map (·.pin)
theorem cl_some {ep : EpP} {n : Nat} (hn : n < ep.cls.length) : ∃ x, ep.cl (n : Int) = some x ∧ ep.cls[n]? = some x := ⟨_, by rw [cl_nat]; exact List.getElem?_eq_getElem hn, List.getElem?_eq_getElem hn⟩
theorem pins_set {ep : EpP} {n : Nat} {x : ClP} (y : Int) : pinsOf (ep.setCl (n : Int) { x with pin := y }) = (pinsOf ep).set n y := by
  simp [pinsOf, EpP.setCl, List.map_set]
theorem doP_ar {M : MemP} {c : Int} {a : AccP} (hv : 0 ≤ c ∧ c < M.ep.cls.length) (hk : 1 ≤ a.kind ∧ a.kind ≤ 5) : doP M c a = ((slotsP M.root M.ar a).1, { M with ar := (slotsP M.root M.ar a).2 }) := by
  unfold doP; rw [if_neg (by omega), if_pos hk]
theorem doP_6 {M : MemP} {c : Int} {a : AccP} (hv : 0 ≤ c ∧ c < M.ep.cls.length) (hk : a.kind = 6) : doP M c a = if a.ref = M.root then (⟨1, 0, false, []⟩, M) else (⟨(retireE M.ep c a.ref).1, 0, false, []⟩, { M with ep := (retireE M.ep c a.ref).2 }) := by
  unfold doP; rw [if_neg (by omega), if_neg (by omega), if_pos hk]
theorem doP_7 {M : MemP} {c : Int} {a : AccP} (hv : 0 ≤ c ∧ c < M.ep.cls.length) (hk : a.kind = 7) : doP M c a = (⟨0, M.ep.now, false, []⟩, M) := by
  unfold doP; rw [if_neg (by omega), if_neg (by omega), if_neg (by omega), if_pos hk]
theorem doP_8 {M : MemP} {c : Int} {a : AccP} (hv : 0 ≤ c ∧ c < M.ep.cls.length) (hk : a.kind = 8) : doP M c a = (⟨0, 0, (pinE M.ep c a.n).1, []⟩, { M with ep := (pinE M.ep c a.n).2 }) := by
  unfold doP; rw [if_neg (by omega), if_neg (by omega), if_neg (by omega), if_neg (by omega), if_pos hk]
theorem doP_9 {M : MemP} {c : Int} {a : AccP} (hv : 0 ≤ c ∧ c < M.ep.cls.length) (hk : a.kind = 9) : doP M c a = (⟨0, 0, (unpinE M.ep c).1, []⟩, { M with ep := (unpinE M.ep c).2 }) := by
  unfold doP; rw [if_neg (by omega), if_neg (by omega), if_neg (by omega), if_neg (by omega), if_neg (by omega), if_pos hk]
theorem doP_10 {M : MemP} {c : Int} {a : AccP} (hv : 0 ≤ c ∧ c < M.ep.cls.length) (hk : a.kind = 10) : doP M c a = (⟨0, pinOfE M.ep a.n, false, []⟩, M) := by
  unfold doP; rw [if_neg (by omega), if_neg (by omega), if_neg (by omega), if_neg (by omega), if_neg (by omega), if_neg (by omega), if_pos hk]
theorem doP_11 {M : MemP} {c : Int} {a : AccP} (hv : 0 ≤ c ∧ c < M.ep.cls.length) (hk : a.kind = 11) : doP M c a = (⟨0, 0, (advE M.ep a.n).1, []⟩, { M with ep := (advE M.ep a.n).2 }) := by
  unfold doP; rw [if_neg (by omega), if_neg (by omega), if_neg (by omega), if_neg (by omega), if_neg (by omega), if_neg (by omega), if_neg (by omega), if_pos hk]
theorem doP_12 {M : MemP} {c : Int} {a : AccP} (hv : 0 ≤ c ∧ c < M.ep.cls.length) (hk : a.kind = 12) : doP M c a = collectP M c := by
  unfold doP; rw [if_neg (by omega), if_neg (by omega), if_neg (by omega), if_neg (by omega), if_neg (by omega), if_neg (by omega), if_neg (by omega), if_neg (by omega), if_pos hk]
theorem doP_bad {M : MemP} {c : Int} {a : AccP} (hv : c < 0 ∨ (M.ep.cls.length : Int) ≤ c) : doP M c a = (⟨1, 0, false, []⟩, M) := by
  unfold doP; rw [if_pos hv]
theorem doP_none {M : MemP} {c : Int} {a : AccP} (hk : a.kind < 1 ∨ 15 < a.kind) : doP M c a = (⟨1, 0, false, []⟩, M) := by
  unfold doP
  by_cases hv : c < 0 ∨ (M.ep.cls.length : Int) ≤ c
  · rw [if_pos hv]
  · rw [if_neg hv, if_neg (by omega), if_neg (by omega), if_neg (by omega), if_neg (by omega), if_neg (by omega), if_neg (by omega), if_neg (by omega), if_neg (by omega), if_neg (by omega)]
theorem pinE_yes {ep : EpP} {c : Nat} {n : Int} {x : ClP} (hx : ep.cl (c : Int) = some x) (h0 : 0 ≤ n) (h1 : n ≤ ep.now) : pinE ep (c : Int) n = (true, ep.setCl (c : Int) { x with pin := n }) := by
  unfold pinE; rw [hx]; simp only; rw [if_neg (by omega)]
theorem pinE_no {ep : EpP} {c : Nat} {n : Int} {x : ClP} (hx : ep.cl (c : Int) = some x) (h1 : ep.now < n) : pinE ep (c : Int) n = (false, ep) := by
  unfold pinE; rw [hx]; simp only; rw [if_pos (by omega)]
theorem do_pin {M : MemP} {c : Nat} {n : Int} (hc : c < M.ep.cls.length) (h0 : 0 ≤ n) (h1 : n ≤ M.ep.now) : ∃ M', doP M (c : Int) (nA 8 n) = (⟨0, 0, true, []⟩, M') ∧ pinsOf M'.ep = (pinsOf M.ep).set c n ∧ M'.ep.now = M.ep.now ∧ M'.ep.cls.length = M.ep.cls.length ∧ M'.ar = M.ar ∧ M'.root = M.root := by
  obtain ⟨x, hx, _⟩ := cl_some hc
  refine ⟨{ M with ep := M.ep.setCl (c : Int) { x with pin := n } }, ?_, pins_set _, rfl, setCl_len, rfl, rfl⟩
  rw [doP_8 ⟨by omega, by omega⟩ rfl, show (nA 8 n).n = n from rfl, pinE_yes hx h0 h1]
theorem do_pin_no {M : MemP} {c : Nat} {n : Int} (hc : c < M.ep.cls.length) (h1 : M.ep.now < n) : doP M (c : Int) (nA 8 n) = (⟨0, 0, false, []⟩, M) := by
  obtain ⟨x, hx, _⟩ := cl_some hc
  rw [doP_8 ⟨by omega, by omega⟩ rfl, show (nA 8 n).n = n from rfl, pinE_no hx h1]
theorem do_unpin {M : MemP} {c : Nat} (hc : c < M.ep.cls.length) : ∃ M', doP M (c : Int) (kA 9) = (⟨0, 0, true, []⟩, M') ∧ pinsOf M'.ep = (pinsOf M.ep).set c (-1) ∧ M'.ep.now = M.ep.now ∧ M'.ep.cls.length = M.ep.cls.length ∧ M'.ar = M.ar ∧ M'.root = M.root := by
  obtain ⟨x, hx, _⟩ := cl_some hc
  refine ⟨{ M with ep := M.ep.setCl (c : Int) { x with pin := -1 } }, ?_, pins_set _, rfl, setCl_len, rfl, rfl⟩
  rw [doP_9 ⟨by omega, by omega⟩ rfl]
  simp only [unpinE, hx]
theorem do_adv {M : MemP} {c : Nat} (hc : c < M.ep.cls.length) (h1 : M.ep.now < 1073741824) : doP M (c : Int) (nA 11 M.ep.now) = (⟨0, 0, true, []⟩, { M with ep := { M.ep with now := M.ep.now + 1 } }) := by
  rw [doP_11 ⟨by omega, by omega⟩ rfl]
  unfold advE
  rw [show (nA 11 M.ep.now).n = M.ep.now from rfl, if_neg (by omega)]
theorem do_adv_no {M : MemP} {c : Nat} {n : Int} (hc : c < M.ep.cls.length) (h1 : M.ep.now ≠ n) : doP M (c : Int) (nA 11 n) = (⟨0, 0, false, []⟩, M) := by
  rw [doP_11 ⟨by omega, by omega⟩ rfl]
  unfold advE
  rw [if_pos (.inl h1)]
theorem do_pinOf {M : MemP} {c j : Nat} (hc : c < M.ep.cls.length) (hj : j < M.ep.cls.length) : doP M (c : Int) (nA 10 (j : Int)) = (⟨0, at0 (pinsOf M.ep) j, false, []⟩, M) := by
  obtain ⟨x, hx, hx2⟩ := cl_some hj
  have : at0 (pinsOf M.ep) j = x.pin := at0_of (by simp [pinsOf, hx2])
  rw [doP_10 ⟨by omega, by omega⟩ rfl, this]
  simp only [pinOfE, nA, hx]
theorem do_epoch {M : MemP} {c : Nat} (hc : c < M.ep.cls.length) : doP M (c : Int) (kA 7) = (⟨0, M.ep.now, false, []⟩, M) := doP_7 ⟨by omega, by omega⟩ rfl
end Go.Proofs.Ytgecjbbdaahilaa
/- The law MemSwaps. -/
namespace Go.Proofs.Ytgecjbbdaahilaa
open Go.Vm
set_option linter.unusedSimpArgs false
set_option linter.unusedVariables false
set_option maxRecDepth 100000
variable {T : Vm.Prog} {h : AH}
/-! ### a new memory: what can be had of it -/
theorem StartP.ar {c : CfgP} {M : MemP} {st : List SlotP} {n : Nat} {x : SlotP} (s : StartP c M st n x) : M.ar = st.set n ⟨4, 1, true, rootW⟩ ∧ n < st.length ∧ x.cls = 4 ∧ st.length ≤ 1024 := by
  have h1 := s.idx
  rw [List.findIdx?_eq_some_iff_getElem] at h1
  obtain ⟨h2, h3, _⟩ := h1
  have hx := s.slot
  rw [List.getElem?_eq_getElem h2] at hx
  cases hx
  have hc := (isFree_iff.1 h3).1
  have hg := (s.new.1 n _ (List.getElem?_eq_getElem h2)).1
  exact ⟨by rw [s.is, hc, hg], h2, hc, s.inv.small⟩
theorem room_set {st : List SlotP} {n m : Nat} {z : SlotP} (hz : isFree m z = false) (hn : ∀ y, st[n]? = some y → isFree m y = false) : roomP (st.set n z) m = roomP st m := by
  unfold roomP
  by_cases hl : n < st.length
  · rw [List.countP_set hl]
    have := hn _ (List.getElem?_eq_getElem hl)
    simp [this, hz]
  · rw [List.set_eq_of_length_le (by omega)]
theorem StartP.room {c : CfgP} {M : MemP} {st : List SlotP} {n : Nat} {x : SlotP} (s : StartP c M st n x) {m : Nat} (hm : m < 4) : roomP M.ar m = roomP st m := by
  obtain ⟨e, _, hc, _⟩ := s.ar
  rw [e]
  refine room_set ?_ fun y hy => ?_
  · simp [isFree]
  · rw [s.slot] at hy; cases hy
    cases hf : isFree m x with
    | false => rfl
    | true => have := (isFree_iff.1 hf).1; omega
theorem CfgOk.roomy {c : CfgP} (h : CfgOk c) {m : Nat} (hm : m < 4) : ∃ k, c.s[m]? = some k ∧ 4 ≤ k := by
  obtain ⟨a, b, d, e, f, hs, _⟩ := h.slots
  rw [hs]
  have : m = 0 ∨ m = 1 ∨ m = 2 ∨ m = 3 := by omega
  rcases this with rfl | rfl | rfl | rfl
  · exact ⟨a, rfl, by omega⟩
  · exact ⟨b, rfl, by omega⟩
  · exact ⟨d, rfl, by omega⟩
  · exact ⟨e, rfl, by omega⟩
/-- Slots that are all free but some. -/
theorem alloc_room {st : List SlotP} {m : Nat} {ws : List Nat} (hm : m < 5) (hr : 1 ≤ roomP st m) (hw : ws.length ≤ sizeN m) : ∃ i y, st[i]? = some y ∧ isFree m y = true ∧ allocI st (m : Int) ws = (((refN i y.gen (m == 0) : Nat) : Int), 0, st.set i ⟨m, y.gen, true, padW ws (sizeN m)⟩) := by
  obtain ⟨i, y, hi, hy, hf⟩ := find_of_room hr
  refine ⟨i, y, hy, hf, ?_⟩
  unfold allocI allocP
  rw [if_pos ⟨by omega, by omega, by rw [Int.toNat_natCast]; exact hw⟩, Int.toNat_natCast, hi]
  simp only [hy]
  rw [(isFree_iff.1 hf).1]
theorem find_set {st : List SlotP} {i : Nat} {z : SlotP} (hi : i < st.length) (hv : Valid i z.gen) (hl : z.live = true) : findP (st.set i z) (refN i z.gen (z.cls == 0) : Nat) = .ok i := by
  rw [findP_ref hv]
  unfold outP
  rw [List.getElem?_set, if_pos rfl, if_pos hi]
  simp [hl]
theorem pad_head {a : Nat} {r : List Nat} {n : Nat} : ((padW (a :: r) n)[0]?).getD 0 = a := by simp [padW]
theorem padW_pad {ws : List Nat} {n : Nat} : (padW ws n).length ≥ ws.length := by simp [padW]
theorem sizeN_ge {m : Nat} (hm : m < 5) : 8 ≤ sizeN m := by
  have : m = 0 ∨ m = 1 ∨ m = 2 ∨ m = 3 ∨ m = 4 := by omega
  rcases this with rfl | rfl | rfl | rfl | rfl <;> decide
/-- A result is kept in an object of its own. -/
theorem keep4 (hl : Low h) {w0 w1 w2 w3 : AV} (hf : w3.flat = true) (h0 : w0.flat = true) (h1 : w1.flat = true) (h2 : w2.flat = true) : ∃ h3, storeV (h.new (.cells [.int .i64 0, .int .i64 0, .bool false, .nilSlice] true)) 4 (.ptr h.next 0) (.agg [w0, w1, w2, w3]) = some h3 ∧ Quiet h h3 ∧ Low h3 ∧ h3.get h.next = some (.cells [w0, w1, w2, w3] true) ∧ h.next < h3.next :=
  ⟨_, store_all get_new_same rfl rfl (by simp only [List.all_cons, List.all_nil, hf, h0, h1, h2]; rfl), ((Quiet.refl _).new _).set (Nat.le_refl _) _, (hl.new _).set (by rw [next_new]; omega) _, get_set_same, by rw [next_set, next_new]; omega⟩
theorem keepR (hl : Low h) {N : Nat} {v : AV} {r : ResP} (ho : ResOk N h v r) : ∃ wv h3, v = .agg [.int .i64 (r.err : Int), .int .i64 r.n, .bool r.ok, wv] ∧ storeV (h.new (.cells [.int .i64 0, .int .i64 0, .bool false, .nilSlice] true)) 4 (.ptr h.next 0) v = some h3 ∧ Quiet h h3 ∧ Low h3 ∧ h3.get h.next = some (.cells [.int .i64 (r.err : Int), .int .i64 r.n, .bool r.ok, wv] true) ∧ h.next < h3.next ∧ ((wv = .nilSlice ∧ r.ws = []) ∨ (Copy h3 wv r.ws ∧ ∀ o ∈ objs wv, N ≤ o ∧ o < h.next)) := by
  obtain ⟨wv, rfl, hw⟩ := ho
  have hwf : wv.flat = true := by
    rcases hw with ⟨rfl, _⟩ | ⟨⟨_, rfl, _⟩, _⟩ <;> rfl
  obtain ⟨h3, s, q, lo, g, hn⟩ := keep4 hl (w0 := .int .i64 (r.err : Int)) (w1 := .int .i64 r.n) (w2 := .bool r.ok) hwf rfl rfl rfl
  refine ⟨wv, h3, rfl, s, q, lo, g, hn, ?_⟩
  rcases hw with ⟨rfl, hw⟩ | ⟨⟨o, rfl, hg⟩, ho⟩
  · exact .inl ⟨rfl, hw⟩
  · exact .inr ⟨⟨o, rfl, q.get hg (hl _ _ hg)⟩, fun p hp => ⟨ho p hp, by simp [objs] at hp; subst hp; exact hl _ _ hg⟩⟩
/-- Words that a literal makes. -/
theorem lit_src {F : Nat → Prop} (hl : Low h) (hF : ∀ o, F o → o < h.next) (ws : List Nat) (hs : ws.length < 1000000) : SrcB (h.new (.cells (wcells ws) true)) F (.slice h.next 0 1 ws.length ws.length true) ws :=
  ⟨.inr ⟨h.next, 0, ws.length, true, wcells ws, true, rfl, get_new_same, by rw [wcells_len, Nat.zero_add]; exact Nat.le_refl _, by rw [List.drop_zero, List.take_of_length_le (by rw [wcells_len]; exact Nat.le_refl _)]⟩,
    fun o ho => by simp [objs] at ho; subst ho; exact ⟨fun hf => by have := hF _ hf; omega, by rw [next_new]; omega⟩, hs⟩
theorem do_src (k : Fits T) {m : Nat} {M : MemP} {F : Nat → Prop} (R : MemR m M F h) (hl : Low h) (c : Int) (acc : AccP) {wv : AV} (s : SrcB h F wv acc.ws) :
    Gives T 11 [.ptr m 0, .int .i64 c, .agg [.int .i64 acc.kind, .int .i64 acc.ref, .int .i64 acc.cls, .int .i64 acc.n, .int .u64 acc.was, wv]] h fun r h' => ResOk h.next h' r (doP M c acc).1 ∧ ∃ F', MemR m (doP M c acc).2 F' h' ∧ Acts h F h' F' := do_ok k R hl c acc s
theorem wrap_u64' (x : Int) : 0 ≤ IntKind.u64.wrap x ∧ IntKind.u64.wrap x < 18446744073709551616 := by
  have : IntKind.u64.wrap x = x % 18446744073709551616 := rfl
  rw [this]; omega
theorem kind_in {a : AccP} {x : Int} (e : a.kind = x) (h : 1 ≤ x ∧ x ≤ 5) : 1 ≤ a.kind ∧ a.kind ≤ 5 := by rw [e]; exact h
/-! ### the law -/
theorem cfg_in (k : Fits T) (hl : Low h) {z : List Int} (h8 : z.length = 8) : Gives T 6 [.agg (izs z)] h fun r h' => ∃ c, r = .agg c.cells ∧ CfgOk c ∧ c.clients ≤ 4 ∧ Quiet h h' ∧ Low h' := config_ok k hl h8
end Go.Proofs.Ytgecjbbdaahilaa
/- Slots that are taken and given back: the plain law behind MemFrees and TickWaits. -/
namespace Go.Proofs.Ytgecjbbdaahilaa
open Go.Vm
set_option linter.unusedSimpArgs false
set_option linter.unusedVariables false
theorem live_turn {st : List SlotP} {i m : Nat} {y z : SlotP} (hm : m < 5) (hy : st[i]? = some y) (cy : y.cls = m) (cz : z.cls = m) : liveP (st.set i z) = liveP st + (roomP st m : Int) - (roomP (st.set i z) m : Int) := by
  have oth : ∀ c, c ≠ m → roomP (st.set i z) c = roomP st c := fun c hc => room_set (by
      cases hf : isFree c z with
      | false => rfl
      | true => have := (isFree_iff.1 hf).1; omega) fun y' hy' => by
      rw [hy] at hy'; cases hy'
      cases hf : isFree c y with
      | false => rfl
      | true => have := (isFree_iff.1 hf).1; omega
  unfold liveP
  rw [List.length_set]
  have hcs : m = 0 ∨ m = 1 ∨ m = 2 ∨ m = 3 ∨ m = 4 := by omega
  rcases hcs with rfl | rfl | rfl | rfl | rfl
  · rw [oth 1 (by decide), oth 2 (by decide), oth 3 (by decide), oth 4 (by decide)]; omega
  · rw [oth 0 (by decide), oth 2 (by decide), oth 3 (by decide), oth 4 (by decide)]; omega
  · rw [oth 0 (by decide), oth 1 (by decide), oth 3 (by decide), oth 4 (by decide)]; omega
  · rw [oth 0 (by decide), oth 1 (by decide), oth 2 (by decide), oth 4 (by decide)]; omega
  · rw [oth 0 (by decide), oth 1 (by decide), oth 2 (by decide), oth 3 (by decide)]; omega
theorem live_bound {st : List SlotP} (hs : st.length ≤ 1024) : -8000 ≤ liveP st ∧ liveP st ≤ 1024 := by
  have h : ∀ c, roomP st c ≤ st.length := fun c => List.countP_le_length
  have h0 := h 0
  have h1 := h 1
  have h2 := h 2
  have h3 := h 3
  have h4 := h 4
  unfold liveP
  omega
theorem room_take {st : List SlotP} {i m : Nat} {y z : SlotP} (hy : st[i]? = some y) (fy : isFree m y = true) (fz : isFree m z = false) : roomP (st.set i z) m + 1 = roomP st m := by
  have hi := (List.getElem?_eq_some_iff.1 hy).1
  have e : st[i] = y := (List.getElem?_eq_some_iff.1 hy).2
  unfold roomP
  have hp : 0 < st.countP (isFree m) := List.countP_pos_iff.2 ⟨y, List.mem_of_getElem? hy, fy⟩
  rw [List.countP_set hi, e, fy, fz]
  simp; omega
theorem room_give {st : List SlotP} {i m : Nat} {y z : SlotP} (hy : st[i]? = some y) (fy : isFree m y = false) (fz : isFree m z = true) : roomP (st.set i z) m = roomP st m + 1 := by
  have hi := (List.getElem?_eq_some_iff.1 hy).1
  have e : st[i] = y := (List.getElem?_eq_some_iff.1 hy).2
  unfold roomP
  rw [List.countP_set hi, e, fy, fz]
  simp
/-- Slots of a class that were taken and, some of them, given back. -/
structure FrS (st : List SlotP) (m : Nat) (J D : List Nat) (room0 : Nat) (live0 : Int) (nr : Nat) : Prop where
  small : st.length ≤ 1024
  live : ∀ j ∈ J, ∃ x, st[j]? = some x ∧ x.cls = m ∧ x.gen = 1 ∧ x.live = true
  dead : ∀ j ∈ D, ∃ x, st[j]? = some x ∧ x.cls = m ∧ x.gen = 2 ∧ x.live = false
  nd : J.Nodup
  fresh : ∀ (j : Nat) (x : SlotP), D = [] → st[j]? = some x → isFree m x = true → x.gen = 1
  room : roomP st m + J.length = room0
  liveN : liveP st = live0 + (J.length : Int)
  root : ∃ x, st[nr]? = some x ∧ x.cls = 4
variable {st : List SlotP} {m : Nat} {J D : List Nat} {room0 : Nat} {live0 : Int} {nr : Nat}
theorem FrS.alloc (s : FrS st m J [] room0 live0 nr) (hm : m < 4) (hr : J.length < room0) : ∃ i st', allocI st (m : Int) [] = (((refN i 1 (m == 0) : Nat) : Int), 0, st') ∧ FrS st' m (J ++ [i]) [] room0 live0 nr ∧ i < 1024 ∧ i ≠ nr := by
  obtain ⟨i, y, hy, hf, ha⟩ := alloc_room (st := st) (m := m) (ws := []) (by omega) (by have := s.room; omega) (Nat.zero_le _)
  have hi := (List.getElem?_eq_some_iff.1 hy).1
  have hg := s.fresh i y rfl hy hf
  obtain ⟨c1, c2, c3⟩ := isFree_iff.1 hf
  rw [hg] at ha
  have hfz : isFree m ⟨m, 1, true, padW [] (sizeN m)⟩ = false := by simp [isFree]
  have hr' := room_take hy hf hfz
  have hl' := live_turn (by omega) hy c1 (z := ⟨m, 1, true, padW [] (sizeN m)⟩) rfl
  have hnot : ∀ j ∈ J, j ≠ i := fun j hj e => by
    obtain ⟨x, hx, _, _, hl⟩ := s.live j hj
    subst e; rw [hy] at hx; cases hx; rw [c2] at hl; cases hl
  have hroot : i ≠ nr := fun e => by
    obtain ⟨x, hx, hc⟩ := s.root
    rw [← e, hy] at hx; cases hx; omega
  have := s.small
  refine ⟨i, _, ha, ⟨by simpa using s.small, fun j hj => ?_, fun j hj => by simp at hj, ?_, fun j x _ hx hfx => ?_, ?_, ?_, ?_⟩, by omega, hroot⟩
  · rcases List.mem_append.1 hj with h1 | h1
    · obtain ⟨x, hx, hc⟩ := s.live j h1
      exact ⟨x, by rw [List.getElem?_set, if_neg (Ne.symm (hnot j h1))]; exact hx, hc⟩
    · simp at h1; subst h1
      exact ⟨_, by rw [List.getElem?_set, if_pos rfl, if_pos hi], rfl, rfl, rfl⟩
  · rw [List.nodup_append]
    exact ⟨s.nd, by simp, fun a ha' b hb => by simp at hb; subst hb; exact hnot a ha'⟩
  · rw [List.getElem?_set] at hx
    by_cases e : i = j
    · rw [if_pos e, if_pos hi] at hx; cases hx; exact absurd hfx (by rw [hfz]; decide)
    · rw [if_neg e] at hx; exact s.fresh j x rfl hx hfx
  · have := s.room; simp; omega
  · have := s.liveN; simp; omega
  · obtain ⟨x, hx, hc⟩ := s.root
    exact ⟨x, by rw [List.getElem?_set, if_neg hroot]; exact hx, hc⟩
theorem find_live {j : Nat} {x : SlotP} (hs : st.length ≤ 1024) (hx : st[j]? = some x) (hc : x.cls = m) (hg : x.gen = 1) (hl : x.live = true) : findP st (refN j 1 (m == 0) : Nat) = .ok j := by
  have hj := (List.getElem?_eq_some_iff.1 hx).1
  rw [findP_ref ⟨by omega, by omega, by omega⟩]
  unfold outP
  simp [hx, hc, hg, hl]
theorem FrS.free {j : Nat} (s : FrS st m (j :: J) D room0 live0 nr) (hm : m < 4) : ∃ st', freeP st (refN j 1 (m == 0) : Nat) = (0, st') ∧ FrS st' m J (D ++ [j]) room0 live0 nr := by
  obtain ⟨x, hx, hc, hg, hl⟩ := s.live j (by simp)
  have hj := (List.getElem?_eq_some_iff.1 hx).1
  have hff : freeP st (refN j 1 (m == 0) : Nat) = (0, st.set j ⟨m, 2, false, poisonP m⟩) := by
    unfold freeP
    rw [find_live s.small hx hc hg hl]
    simp only [hx, hc, hg]
  have hfx : isFree m x = false := by simp [isFree, hl]
  have hfz : isFree m ⟨m, 2, false, poisonP m⟩ = true := isFree_iff.2 ⟨rfl, rfl, show (2 : Nat) ≤ 1073741824 by decide⟩
  have hr' := room_give hx hfx hfz
  have hl' := live_turn (by omega) hx hc (z := ⟨m, 2, false, poisonP m⟩) rfl
  have hnd := List.nodup_cons.1 s.nd
  have hroot : j ≠ nr := fun e => by
    obtain ⟨y, hy, hc'⟩ := s.root
    rw [← e, hx] at hy; cases hy; omega
  refine ⟨_, hff, ⟨by simpa using s.small, fun i hi => ?_, fun i hi => ?_, hnd.2, fun i y h => by simp at h, ?_, ?_, ?_⟩⟩
  · obtain ⟨y, hy, hr⟩ := s.live i (by simp [hi])
    exact ⟨y, by rw [List.getElem?_set, if_neg (fun e : j = i => hnd.1 (by rw [e]; exact hi))]; exact hy, hr⟩
  · rcases List.mem_append.1 hi with h1 | h1
    · obtain ⟨y, hy, h2, h3, h4⟩ := s.dead i h1
      exact ⟨y, by rw [List.getElem?_set, if_neg (fun e : j = i => by subst e; rw [hx] at hy; cases hy; omega)]; exact hy, h2, h3, h4⟩
    · simp at h1; subst h1
      exact ⟨_, by rw [List.getElem?_set, if_pos rfl, if_pos hj], rfl, rfl, rfl⟩
  · have := s.room; simp at this; omega
  · have := s.liveN; simp at this; omega
  · obtain ⟨y, hy, hc'⟩ := s.root
    exact ⟨y, by rw [List.getElem?_set, if_neg hroot]; exact hy, hc'⟩
theorem FrS.gone {j : Nat} (s : FrS st m J D room0 live0 nr) (hj : j ∈ D) : loadP st (refN j 1 (m == 0) : Nat) = (4, []) := by
  obtain ⟨x, hx, hc, hg, hl⟩ := s.dead j hj
  have := (List.getElem?_eq_some_iff.1 hx).1
  have := s.small
  unfold loadP
  rw [findP_ref ⟨by omega, by omega, by omega⟩]
  unfold outP
  simp [hx, hc, hg]
end Go.Proofs.Ytgecjbbdaahilaa

/- The law MemSwaps. -/
import Derived.Test.YtagcnjhpdopkiaaP9Mf
namespace Go.Proofs.Ytagcnjhpdopkiaa
open Go.Vm
set_option linter.unusedSimpArgs false
set_option linter.unusedVariables false
set_option maxRecDepth 100000
variable {T : Vm.Prog} {h : AH}
/-! ### a new memory: what can be had of it -/
theorem StartP.ar {c : CfgP} {M : MemP} {st : List SlotP} {n : Nat} {x : SlotP} (s : StartP c M st n x) : M.ar = st.set n ⟨4, 1, true, rootW⟩ ∧ n < st.length ∧ x.cls = 4 ∧ st.length ≤ 1024 := by
  have h1 := s.idx
  rw [List.findIdx?_eq_some_iff_getElem] at h1
  obtain ⟨h2, h3, _⟩ := h1
  have hx := s.slot
  rw [List.getElem?_eq_getElem h2] at hx
  cases hx
  have hc := (isFree_iff.1 h3).1
  have hg := (s.new.1 n _ (List.getElem?_eq_getElem h2)).1
  exact ⟨by rw [s.is, hc, hg], h2, hc, s.inv.small⟩
theorem room_set {st : List SlotP} {n m : Nat} {z : SlotP} (hz : isFree m z = false) (hn : ∀ y, st[n]? = some y → isFree m y = false) : roomP (st.set n z) m = roomP st m := by
  unfold roomP
  by_cases hl : n < st.length
  · rw [List.countP_set hl]
    have := hn _ (List.getElem?_eq_getElem hl)
    simp [this, hz]
  · rw [List.set_eq_of_length_le (by omega)]
theorem StartP.room {c : CfgP} {M : MemP} {st : List SlotP} {n : Nat} {x : SlotP} (s : StartP c M st n x) {m : Nat} (hm : m < 4) : roomP M.ar m = roomP st m := by
  obtain ⟨e, _, hc, _⟩ := s.ar
  rw [e]
  refine room_set ?_ fun y hy => ?_
  · simp [isFree]
  · rw [s.slot] at hy; cases hy
    cases hf : isFree m x with
    | false => rfl
    | true => have := (isFree_iff.1 hf).1; omega
theorem CfgOk.roomy {c : CfgP} (h : CfgOk c) {m : Nat} (hm : m < 4) : ∃ k, c.s[m]? = some k ∧ 4 ≤ k := by
  obtain ⟨a, b, d, e, f, hs, _⟩ := h.slots
  rw [hs]
  have : m = 0 ∨ m = 1 ∨ m = 2 ∨ m = 3 := by omega
  rcases this with rfl | rfl | rfl | rfl
  · exact ⟨a, rfl, by omega⟩
  · exact ⟨b, rfl, by omega⟩
  · exact ⟨d, rfl, by omega⟩
  · exact ⟨e, rfl, by omega⟩
/-- Slots that are all free but some. -/
theorem alloc_room {st : List SlotP} {m : Nat} {ws : List Nat} (hm : m < 5) (hr : 1 ≤ roomP st m) (hw : ws.length ≤ sizeN m) : ∃ i y, st[i]? = some y ∧ isFree m y = true ∧ allocI st (m : Int) ws = (((refN i y.gen (m == 0) : Nat) : Int), 0, st.set i ⟨m, y.gen, true, padW ws (sizeN m)⟩) := by
  obtain ⟨i, y, hi, hy, hf⟩ := find_of_room hr
  refine ⟨i, y, hy, hf, ?_⟩
  unfold allocI allocP
  rw [if_pos ⟨by omega, by omega, by rw [Int.toNat_natCast]; exact hw⟩, Int.toNat_natCast, hi]
  simp only [hy]
  rw [(isFree_iff.1 hf).1]
theorem find_set {st : List SlotP} {i : Nat} {z : SlotP} (hi : i < st.length) (hv : Valid i z.gen) (hl : z.live = true) : findP (st.set i z) (refN i z.gen (z.cls == 0) : Nat) = .ok i := by
  rw [findP_ref hv]
  unfold outP
  rw [List.getElem?_set, if_pos rfl, if_pos hi]
  simp [hl]
theorem pad_head {a : Nat} {r : List Nat} {n : Nat} : ((padW (a :: r) n)[0]?).getD 0 = a := by simp [padW]
theorem padW_pad {ws : List Nat} {n : Nat} : (padW ws n).length ≥ ws.length := by simp [padW]
theorem sizeN_ge {m : Nat} (hm : m < 5) : 8 ≤ sizeN m := by
  have : m = 0 ∨ m = 1 ∨ m = 2 ∨ m = 3 ∨ m = 4 := by omega
  rcases this with rfl | rfl | rfl | rfl | rfl <;> decide
/-- A result is kept in an object of its own. -/
theorem keep4 (hl : Low h) {w0 w1 w2 w3 : AV} (hf : w3.flat = true) (h0 : w0.flat = true) (h1 : w1.flat = true) (h2 : w2.flat = true) : ∃ h3, storeV (h.new (.cells [.int .i64 0, .int .i64 0, .bool false, .nilSlice] true)) 4 (.ptr h.next 0) (.agg [w0, w1, w2, w3]) = some h3 ∧ Quiet h h3 ∧ Low h3 ∧ h3.get h.next = some (.cells [w0, w1, w2, w3] true) ∧ h.next < h3.next :=
  ⟨_, store_all get_new_same rfl rfl (by simp only [List.all_cons, List.all_nil, hf, h0, h1, h2]; rfl), ((Quiet.refl _).new _).set (Nat.le_refl _) _, (hl.new _).set (by rw [next_new]; omega) _, get_set_same, by rw [next_set, next_new]; omega⟩
theorem keepR (hl : Low h) {N : Nat} {v : AV} {r : ResP} (ho : ResOk N h v r) : ∃ wv h3, v = .agg [.int .i64 (r.err : Int), .int .i64 r.n, .bool r.ok, wv] ∧ storeV (h.new (.cells [.int .i64 0, .int .i64 0, .bool false, .nilSlice] true)) 4 (.ptr h.next 0) v = some h3 ∧ Quiet h h3 ∧ Low h3 ∧ h3.get h.next = some (.cells [.int .i64 (r.err : Int), .int .i64 r.n, .bool r.ok, wv] true) ∧ h.next < h3.next ∧ ((wv = .nilSlice ∧ r.ws = []) ∨ (Copy h3 wv r.ws ∧ ∀ o ∈ objs wv, N ≤ o ∧ o < h.next)) := by
  obtain ⟨wv, rfl, hw⟩ := ho
  have hwf : wv.flat = true := by
    rcases hw with ⟨rfl, _⟩ | ⟨⟨_, rfl, _⟩, _⟩ <;> rfl
  obtain ⟨h3, s, q, lo, g, hn⟩ := keep4 hl (w0 := .int .i64 (r.err : Int)) (w1 := .int .i64 r.n) (w2 := .bool r.ok) hwf rfl rfl rfl
  refine ⟨wv, h3, rfl, s, q, lo, g, hn, ?_⟩
  rcases hw with ⟨rfl, hw⟩ | ⟨⟨o, rfl, hg⟩, ho⟩
  · exact .inl ⟨rfl, hw⟩
  · exact .inr ⟨⟨o, rfl, q.get hg (hl _ _ hg)⟩, fun p hp => ⟨ho p hp, by simp [objs] at hp; subst hp; exact hl _ _ hg⟩⟩
/-- Words that a literal makes. -/
theorem lit_src {F : Nat → Prop} (hl : Low h) (hF : ∀ o, F o → o < h.next) (ws : List Nat) (hs : ws.length < 1000000) : SrcB (h.new (.cells (wcells ws) true)) F (.slice h.next 0 1 ws.length ws.length true) ws :=
  ⟨.inr ⟨h.next, 0, ws.length, true, wcells ws, true, rfl, get_new_same, by rw [wcells_len, Nat.zero_add]; exact Nat.le_refl _, by rw [List.drop_zero, List.take_of_length_le (by rw [wcells_len]; exact Nat.le_refl _)]⟩,
    fun o ho => by simp [objs] at ho; subst ho; exact ⟨fun hf => by have := hF _ hf; omega, by rw [next_new]; omega⟩, hs⟩
theorem do_src (k : Fits T) {m : Nat} {M : MemP} {F : Nat → Prop} (R : MemR m M F h) (hl : Low h) (c : Int) (acc : AccP) {wv : AV} (s : SrcB h F wv acc.ws) :
    Gives T 12 [.ptr m 0, .int .i64 c, .agg [.int .i64 acc.kind, .int .i64 acc.ref, .int .i64 acc.cls, .int .i64 acc.n, .int .u64 acc.was, wv]] h fun r h' => ResOk h.next h' r (doP M c acc).1 ∧ ∃ F', MemR m (doP M c acc).2 F' h' ∧ Acts h F h' F' := do_ok k R hl c acc s
theorem wrap_u64' (x : Int) : 0 ≤ IntKind.u64.wrap x ∧ IntKind.u64.wrap x < 18446744073709551616 := by
  have : IntKind.u64.wrap x = x % 18446744073709551616 := rfl
  rw [this]; omega
theorem kind_in {a : AccP} {x : Int} (e : a.kind = x) (h : 1 ≤ x ∧ x ≤ 5) : 1 ≤ a.kind ∧ a.kind ≤ 5 := by rw [e]; exact h
/-! ### the law -/
theorem cfg_in (k : Fits T) (hl : Low h) {z : List Int} (h8 : z.length = 8) : Gives T 15 [.agg (izs z)] h fun r h' => ∃ c, r = .agg c.cells ∧ CfgOk c ∧ c.clients ≤ 4 ∧ Quiet h h' ∧ Low h' := config_ok k hl h8
set_option maxHeartbeats 1600000 in
theorem swaps_run (k : Fits T) (hl : Low h) {z : List Int} (h8 : z.length = 8) {a b n0 : Int} (ha0 : 0 ≤ a) (ha1 : a < 18446744073709551616) (hb0 : 0 ≤ b) (hb1 : b < 18446744073709551616) :
    Gives T 5 [.agg (izs z), .int .u64 a, .int .u64 b, .int .i64 n0] h fun r _ => r = .bool true := by
  refine gives_func (k.env _ (by decide)) (k.at (fn := a5) rfl) rfl ?_
  have hz8 : (izs z).length = 8 := by simp [izs, h8]
  simp only [a5, c5, vms, vmc, AOpd.val, Nat.reduceEqDiff, reduceCtorEq, Nat.reduceAdd, Nat.reduceBEq, box_agg, load_all get_new_same hz8]
  refine Gives.bind ((cfg_in k (hl.new _) h8).mono ?_)
  rintro _ h1 ⟨c, rfl, hc, hc4, q1, lo1⟩
  have st1 := store_all (h := h1.new (.cells zero8 true)) (o := h1.next) (n := 8) (l' := c.cells) get_new_same rfl hc.len (cfg_flat c)
  have st1' : storeV (h1.new (.cells [.int .i64 0, .int .i64 0, .int .i64 0, .int .i64 0, .int .i64 0, .int .i64 0, .int .i64 0, .int .i64 0] true)) 8 (.ptr h1.next 0) (.agg c.cells) = _ := st1
  have lo2 : Low ((h1.new (.cells zero8 true)).set h1.next (.cells c.cells true)) := (lo1.new _).set (by rw [next_new]; omega) _
  have g2 : ((h1.new (.cells zero8 true)).set h1.next (.cells c.cells true)).get h1.next = some (.cells c.cells true) := get_set_same
  simp only [vms, vmc, AOpd.val, Nat.reduceEqDiff, reduceCtorEq, Nat.reduceAdd, Nat.reduceBEq, st1', load_all g2 hc.len]
  generalize ((h1.new (.cells zero8 true)).set h1.next (.cells c.cells true)) = h2 at *
  refine Gives.bind ((mem_new k lo2 hc).mono ?_)
  rintro _ h3 ⟨mo, M, F, st, sn, sx, rfl, R, hS, q3, hF, lo3⟩
  have hlen : M.ep.cls.length = c.clients := by rw [hS.is]; simp [newEp]
  have sideC := (Side.new (res_obj lo2 g2) hF).quiet q3
  simp only [vms, vmc, AOpd.val, Nat.reduceEqDiff, reduceCtorEq, Nat.reduceAdd, Nat.reduceBEq, show eqNilV 0 (.ptr mo 0) .nilPtr = some false from rfl, show ((0 : Int) != 0) = false from rfl]
  refine Gives.bind ((within_nat k (hi := 3) (by decide)).mono ?_)
  rintro _ _ ⟨m, rfl, hm, rfl⟩
  rename_i h3
  obtain ⟨har, hsn, _, hsl⟩ := hS.ar
  obtain ⟨rk, hrk, hrk4⟩ := hc.roomy (m := m) (by omega)
  have hroom : 1 ≤ roomP M.ar m := by rw [hS.room (by omega), hS.new.2.2 m rk hrk]; omega
  obtain ⟨A, rfl⟩ : ∃ A : Nat, a = A := ⟨a.toNat, by omega⟩
  obtain ⟨i, y, hy, hfy, hal⟩ := alloc_room (st := M.ar) (m := m) (ws := [A]) (by omega) hroom (by have := sizeN_ge (m := m) (by omega); simp; omega)
  have hi := (List.getElem?_eq_some_iff.1 hy).1
  have hMl : M.ar.length ≤ 1024 := by rw [har]; simpa using hsl
  have hyg := isFree_iff.1 hfy
  have inv : InvP M.ar := by obtain ⟨_, _, _, _, K, _⟩ := R; obtain ⟨_, _, _, _, _, _, hi, _⟩ := K.ar; exact hi
  have hyi := inv.each i y hy
  have hv : Valid i y.gen := ⟨by omega, hyi.2.1, hyg.2.2⟩
  -- the first access: a slot
  have hFl3 := (R.res lo3).low
  have hs1 := lit_src (h := h3) (F := F) lo3 hFl3 [A] (by simp)
  have q4 : Quiet h3 (h3.new (.cells (wcells [A]) true)) := (Quiet.refl _).new _
  have lo4 : Low (h3.new (.cells (wcells [A]) true)) := lo3.new _
  have R4 := ((R.res lo3).quiet q4).holds
  have hb1' : fillV [AV.int .u64 0] [(0, 1, .int .u64 (A : Int))] = some (wcells [A]) := by simp [fillV, AV.isDef, AV.cells, setMany, wcells]
  have hb2 : fillV [AV.int .i64 0, .int .i64 0, .int .i64 0, .int .i64 0, .int .u64 0, .nilSlice] [(0, 1, .int .i64 4), (2, 1, .int .i64 (m : Int)), (5, 1, .slice h3.next 0 1 1 1 true)] = some [.int .i64 4, .int .i64 0, .int .i64 (m : Int), .int .i64 0, .int .u64 0, .slice h3.next 0 1 1 1 true] := by simp [fillV, AV.isDef, AV.cells, setMany]
  have hdo := do_src k R4 lo4 0 ⟨4, 0, m, 0, 0, [A]⟩ hs1
  rw [doP_ar ⟨by decide, by rw [hlen]; have := hc.clients; omega⟩ (kind_in (x := 4) rfl (by decide))] at hdo
  have hsl1 : slotsP M.root M.ar ⟨4, 0, m, 0, 0, [A]⟩ = (⟨0, ((refN i y.gen (m == 0) : Nat) : Int), false, []⟩, M.ar.set i ⟨m, y.gen, true, padW [A] (sizeN m)⟩) := by
    unfold slotsP; simp [hal]
  rw [hsl1] at hdo
  simp only [vms, vmc, AOpd.val, Nat.reduceEqDiff, reduceCtorEq, Nat.reduceAdd, Nat.reduceBEq, hb1', hb2]
  refine Gives.bind (hdo.mono ?_)
  rintro _ h5 ⟨hr5, F5, R5, act5⟩
  obtain ⟨w5, h6, rfl, st5, q6, lo6, g6, hn6, _⟩ := keepR act5.low hr5
  have R6 := ((R5.res act5.low).quiet q6).holds
  have hF5l := (R5.res act5.low).low
  have n6 : ¬ F5 h5.next := fun hf => by have := hF5l _ hf; omega
  have fa : ∀ o j, fieldAddrV j (.ptr o 0) = some (.ptr o (0 + j)) := fun o j => rfl
  simp only [vms, vmc, AOpd.val, Nat.reduceEqDiff, reduceCtorEq, Nat.reduceAdd, Nat.reduceBEq, st5, fa, Nat.zero_add, load_at g6 (i := 0) rfl, load_at g6 (i := 1) rfl, show (((0 : Nat) : Int) != 0) = false from rfl]
  -- the second: a swap that is done
  obtain ⟨hw0, hw1⟩ := wrap_u64' ((A : Int) + 4)
  obtain ⟨B, hB⟩ : ∃ B : Nat, IntKind.u64.wrap ((A : Int) + 4) = B := ⟨(IntKind.u64.wrap ((A : Int) + 4)).toNat, by omega⟩
  have hAB : A ≠ B := by
    have : IntKind.u64.wrap ((A : Int) + 4) = ((A : Int) + 4) % 18446744073709551616 := rfl
    omega
  have hs7 := lit_src (h := h6) (F := F5) lo6 (fun o ho => by have := hF5l o ho; have := q6.1; omega) [B, 1] (by simp)
  have q7 : Quiet h6 (h6.new (.cells (wcells [B, 1]) true)) := (Quiet.refl _).new _
  have lo7 : Low (h6.new (.cells (wcells [B, 1]) true)) := lo6.new _
  have R7 := ((R6.res lo6).quiet q7).holds
  have hb3 : fillV [AV.int .u64 0, .int .u64 0] [(0, 1, .int .u64 (B : Int)), (1, 1, .int .u64 1)] = some (wcells [B, 1]) := by simp [fillV, AV.isDef, AV.cells, setMany, wcells]
  have hb4 : ∀ (r1 w4 : Int), fillV [AV.int .i64 0, .int .i64 0, .int .i64 0, .int .i64 0, .int .u64 0, .nilSlice] [(0, 1, .int .i64 2), (1, 1, .int .i64 r1), (4, 1, .int .u64 w4), (5, 1, .slice h6.next 0 1 2 2 true)] = some [.int .i64 2, .int .i64 r1, .int .i64 0, .int .i64 0, .int .u64 w4, .slice h6.next 0 1 2 2 true] := by intro r1 w4; simp [fillV, AV.isDef, AV.cells, setMany]
  have hM5 : ∀ (x : List SlotP), ({ M with ar := x } : MemP).ep.cls.length = c.clients := fun x => hlen
  have hset1 : i < M.ar.length := hi
  have hz1 := find_set (st := M.ar) (i := i) (z := ⟨m, y.gen, true, padW [A] (sizeN m)⟩) hi hv rfl
  have hdo7 := do_src k R7 lo7 0 ⟨2, ((refN i y.gen (m == 0) : Nat) : Int), 0, 0, (A : Int), [B, 1]⟩ hs7
  rw [doP_ar ⟨by decide, by rw [hM5]; have := hc.clients; omega⟩ (kind_in (x := 2) rfl (by decide))] at hdo7
  have h2le : ¬ sizeN m < ([B, 1] : List Nat).length := by have := sizeN_ge (m := m) (by omega); simp; omega
  have hget1 : (M.ar.set i ⟨m, y.gen, true, padW [A] (sizeN m)⟩)[i]? = some ⟨m, y.gen, true, padW [A] (sizeN m)⟩ := by rw [List.getElem?_set, if_pos rfl, if_pos hi]
  have hsw1 : swapP (M.ar.set i ⟨m, y.gen, true, padW [A] (sizeN m)⟩) ((refN i y.gen (m == 0) : Nat) : Int) (A : Int) [B, 1] = (true, 0, (M.ar.set i ⟨m, y.gen, true, padW [A] (sizeN m)⟩).set i ⟨m, y.gen, true, padW [B, 1] (sizeN m)⟩) := by
    unfold swapP
    rw [hz1]
    simp only [hget1]
    rw [if_neg h2le, if_neg (by rw [pad_head]; exact fun e => e rfl)]
    rfl
  have hsl7 : slotsP M.root (M.ar.set i ⟨m, y.gen, true, padW [A] (sizeN m)⟩) ⟨2, ((refN i y.gen (m == 0) : Nat) : Int), 0, 0, (A : Int), [B, 1]⟩ = (⟨0, 0, true, []⟩, M.ar.set i ⟨m, y.gen, true, padW [B, 1] (sizeN m)⟩) := by
    unfold slotsP; simp [hsw1, List.set_set]
  rw [show ({ M with ar := M.ar.set i ⟨m, y.gen, true, padW [A] (sizeN m)⟩ } : MemP).root = M.root from rfl, show ({ M with ar := M.ar.set i ⟨m, y.gen, true, padW [A] (sizeN m)⟩ } : MemP).ar = M.ar.set i ⟨m, y.gen, true, padW [A] (sizeN m)⟩ from rfl, hsl7] at hdo7
  simp only [vms, vmc, AOpd.val, Nat.reduceEqDiff, reduceCtorEq, Nat.reduceAdd, Nat.reduceBEq, hB, hb3, hb4]
  refine Gives.bind (hdo7.mono ?_)
  rintro _ h8' ⟨hr8, F8, R8, act8⟩
  have sd6 := (((sideC.quiet q4).act act5).quiet q6).and (Side.obj lo6 g6 n6)
  obtain ⟨w8, h9, rfl, st9, q9, lo9, g9, hn9, _⟩ := keepR act8.low hr8
  have R9 := ((R8.res act8.low).quiet q9).holds
  have hF8l := (R8.res act8.low).low
  have n9 : ¬ F8 h8'.next := fun hf => by have := hF8l _ hf; omega
  have sd9 := (((sd6.quiet q7).act act8).quiet q9).and (Side.obj lo9 g9 n9)
  obtain ⟨⟨gc9, g6'⟩, _⟩ := sd9.holds
  simp only [vms, vmc, AOpd.val, Nat.reduceEqDiff, reduceCtorEq, Nat.reduceAdd, Nat.reduceBEq, st9, fa, Nat.zero_add, load_at gc9 hc.five_get, load_at g6' (i := 1) rfl]
  -- the third: a swap that is not done
  obtain ⟨Bb, rfl⟩ : ∃ Bb : Nat, b = Bb := ⟨b.toNat, by omega⟩
  have hcl := hc.clients
  have hsub : IntKind.i64.wrap ((c.clients : Int) - 1) = ((c.clients - 1 : Nat) : Int) := by
    rw [wrap_i64 (by omega) (by omega)]; omega
  have hs10 := lit_src (h := h9) (F := F8) lo9 (fun o ho => by have := hF8l o ho; have := q9.1; omega) [Bb, 2] (by simp)
  have q10 : Quiet h9 (h9.new (.cells (wcells [Bb, 2]) true)) := (Quiet.refl _).new _
  have lo10 : Low (h9.new (.cells (wcells [Bb, 2]) true)) := lo9.new _
  have R10 := ((R9.res lo9).quiet q10).holds
  have hb5 : fillV [AV.int .u64 0, .int .u64 0] [(0, 1, .int .u64 (Bb : Int)), (1, 1, .int .u64 2)] = some (wcells [Bb, 2]) := by simp [fillV, AV.isDef, AV.cells, setMany, wcells]
  have hb6 : ∀ (r1 w4 : Int), fillV [AV.int .i64 0, .int .i64 0, .int .i64 0, .int .i64 0, .int .u64 0, .nilSlice] [(0, 1, .int .i64 2), (1, 1, .int .i64 r1), (4, 1, .int .u64 w4), (5, 1, .slice h9.next 0 1 2 2 true)] = some [.int .i64 2, .int .i64 r1, .int .i64 0, .int .i64 0, .int .u64 w4, .slice h9.next 0 1 2 2 true] := by intro r1 w4; simp [fillV, AV.isDef, AV.cells, setMany]
  have hz2 := find_set (st := M.ar) (i := i) (z := ⟨m, y.gen, true, padW [B, 1] (sizeN m)⟩) hi hv rfl
  have hget2 : (M.ar.set i ⟨m, y.gen, true, padW [B, 1] (sizeN m)⟩)[i]? = some ⟨m, y.gen, true, padW [B, 1] (sizeN m)⟩ := by rw [List.getElem?_set, if_pos rfl, if_pos hi]
  have h2le' : ¬ sizeN m < ([Bb, 2] : List Nat).length := by have := sizeN_ge (m := m) (by omega); simp; omega
  have hsw2 : swapP (M.ar.set i ⟨m, y.gen, true, padW [B, 1] (sizeN m)⟩) ((refN i y.gen (m == 0) : Nat) : Int) (A : Int) [Bb, 2] = (false, 0, M.ar.set i ⟨m, y.gen, true, padW [B, 1] (sizeN m)⟩) := by
    unfold swapP
    rw [hz2]
    simp only [hget2]
    rw [if_neg h2le', if_pos (by rw [pad_head]; omega)]
  have hsl10 : slotsP M.root (M.ar.set i ⟨m, y.gen, true, padW [B, 1] (sizeN m)⟩) ⟨2, ((refN i y.gen (m == 0) : Nat) : Int), 0, 0, (A : Int), [Bb, 2]⟩ = (⟨0, 0, false, []⟩, M.ar.set i ⟨m, y.gen, true, padW [B, 1] (sizeN m)⟩) := by
    unfold slotsP; simp [hsw2]
  have hdo10 := do_src k R10 lo10 ((c.clients - 1 : Nat) : Int) ⟨2, ((refN i y.gen (m == 0) : Nat) : Int), 0, 0, (A : Int), [Bb, 2]⟩ hs10
  rw [doP_ar ⟨by omega, by show _ < ((M.ep.cls.length : Nat) : Int); rw [hlen]; omega⟩ (kind_in (x := 2) rfl (by decide))] at hdo10
  simp only [hsl10] at hdo10
  simp only [vms, vmc, AOpd.val, Nat.reduceEqDiff, reduceCtorEq, Nat.reduceAdd, Nat.reduceBEq, hsub, hb5, hb6]
  refine Gives.bind (hdo10.mono ?_)
  rintro _ h11 ⟨hr11, F11, R11, act11⟩
  obtain ⟨w11, h12, rfl, st12, q12, lo12, g12, hn12, _⟩ := keepR act11.low hr11
  have R12 := ((R11.res act11.low).quiet q12).holds
  have hF11l := (R11.res act11.low).low
  have n12 : ¬ F11 h11.next := fun hf => by have := hF11l _ hf; omega
  have sd12 := (((sd9.quiet q10).act act11).quiet q12).and (Side.obj lo12 g12 n12)
  obtain ⟨⟨⟨_, g6''⟩, _⟩, _⟩ := sd12.holds
  -- the fourth: what stands there
  have hb7 : ∀ r1 : Int, fillV [AV.int .i64 0, .int .i64 0, .int .i64 0, .int .i64 0, .int .u64 0, .nilSlice] [(0, 1, .int .i64 1), (1, 1, .int .i64 r1)] = some [.int .i64 1, .int .i64 r1, .int .i64 0, .int .i64 0, .int .u64 0, .nilSlice] := by intro r1; simp [fillV, AV.isDef, AV.cells, setMany]
  have hsl13 : slotsP M.root (M.ar.set i ⟨m, y.gen, true, padW [B, 1] (sizeN m)⟩) ⟨1, ((refN i y.gen (m == 0) : Nat) : Int), 0, 0, 0, []⟩ = (⟨0, 0, false, padW [B, 1] (sizeN m)⟩, M.ar.set i ⟨m, y.gen, true, padW [B, 1] (sizeN m)⟩) := by
    unfold slotsP loadP; simp [hz2, hget2]
  have hdo13 := do_src k R12 lo12 0 ⟨1, ((refN i y.gen (m == 0) : Nat) : Int), 0, 0, 0, []⟩ SrcB.nil
  rw [doP_ar ⟨by decide, by show _ < ((M.ep.cls.length : Nat) : Int); rw [hlen]; omega⟩ (kind_in (x := 1) rfl (by decide))] at hdo13
  simp only [hsl13] at hdo13
  simp only [vms, vmc, AOpd.val, Nat.reduceEqDiff, reduceCtorEq, Nat.reduceAdd, Nat.reduceBEq, st12, fa, Nat.zero_add, load_at g6'' (i := 1) rfl, hb7]
  refine Gives.bind (hdo13.mono ?_)
  rintro _ h14 ⟨hr14, F14, R14, act14⟩
  obtain ⟨w14, h15, rfl, st15, q15, lo15, g15, hn15, hw15⟩ := keepR act14.low hr14
  have sd15 := (sd12.act act14).quiet q15
  obtain ⟨⟨_, g9'⟩, g12'⟩ := sd15.holds
  have hwl : 2 ≤ (padW [B, 1] (sizeN m)).length := padW_pad (ws := [B, 1])
  have hw15 : Copy h15 w14 (padW [B, 1] (sizeN m)) := by
    rcases hw15 with ⟨_, hw⟩ | ⟨hw, _⟩
    · have : (padW [B, 1] (sizeN m)) = [] := hw
      rw [this] at hwl; simp at hwl
    · exact hw
  obtain ⟨wo, rfl, gw⟩ := hw15
  have hix0 : idxAddrV 1 (.slice wo 0 1 (padW [B, 1] (sizeN m)).length (padW [B, 1] (sizeN m)).length false) (.int .i64 0) = some (.ptr wo 0) := by
    have := idx_nat (o := wo) (off := 0) (cap := (padW [B, 1] (sizeN m)).length) (ex := false) (k := .i64) (i := 0) (show 0 < (padW [B, 1] (sizeN m)).length by omega)
    exact this
  have hix1 : idxAddrV 1 (.slice wo 0 1 (padW [B, 1] (sizeN m)).length (padW [B, 1] (sizeN m)).length false) (.int .i64 1) = some (.ptr wo 1) := by
    have := idx_nat (o := wo) (off := 0) (cap := (padW [B, 1] (sizeN m)).length) (ex := false) (k := .i64) (i := 1) (show 1 < (padW [B, 1] (sizeN m)).length by omega)
    exact this
  have hld0 : loadV h15 false 1 (.ptr wo 0) = some (.int .u64 (B : Int)) := load_at gw (by simp [wcells, padW])
  have hld1 : loadV h15 false 1 (.ptr wo 1) = some (.int .u64 1) := load_at gw (by simp [wcells, padW])
  have hgt : decide ((((padW [B, 1] (sizeN m)).length : Nat) : Int) > 1) = true := by rw [decide_eq_true_eq]; omega
  simp only [vms, vmc, AOpd.val, Nat.reduceEqDiff, reduceCtorEq, Nat.reduceAdd, Nat.reduceBEq, st15, fa, Nat.zero_add, load_at g9' (i := 2) rfl, load_at g9' (i := 0) rfl, load_at g12' (i := 2) rfl, load_at g12' (i := 0) rfl, load_at g15 (i := 3) rfl, show (((0 : Nat) : Int) == 0) = true from rfl, hgt, hix0, hix1, hld0, hld1, hB, show ((1 : Int) == 1) = true from rfl]
  refine Gives.bind ((k.yes _).mono ?_)
  rintro _ _ ⟨rfl, rfl⟩
  simp only [vms, vmc, AOpd.val, Nat.reduceEqDiff, reduceCtorEq, Nat.reduceAdd, Nat.reduceBEq]
end Go.Proofs.Ytagcnjhpdopkiaa

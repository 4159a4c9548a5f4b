/- The law MemStrangers. -/
import Derived.Test.YtagcnjhpdopkiaaP9Mg
import Derived.Test.YtagcnjhpdopkiaaVmZm
namespace Go.Proofs.Ytagcnjhpdopkiaa
open Go.Vm
set_option linter.unusedSimpArgs false
set_option linter.unusedVariables false
set_option maxRecDepth 100000
variable {T : Vm.Prog} {h : AH}
/-- Of a new memory the root alone is live. -/
theorem StartP.live {c : CfgP} (hc : CfgOk c) {M : MemP} {st : List SlotP} {n : Nat} {x : SlotP} (s : StartP c M st n x) : liveP M.ar = 1 := by
  obtain ⟨a, b, d, e, f, hs, h1, h2, h3, h4, h5, h6, h7, h8, h9, h10⟩ := hc.slots
  obtain ⟨har, hn, hx4, _⟩ := s.ar
  have r0 := s.room (m := 0) (by decide)
  have r1 := s.room (m := 1) (by decide)
  have r2 := s.room (m := 2) (by decide)
  have r3 := s.room (m := 3) (by decide)
  have n0 := s.new.2.2 0 a (by rw [hs]; rfl)
  have n1 := s.new.2.2 1 b (by rw [hs]; rfl)
  have n2 := s.new.2.2 2 d (by rw [hs]; rfl)
  have n3 := s.new.2.2 3 e (by rw [hs]; rfl)
  have n4 := s.new.2.2 4 f (by rw [hs]; rfl)
  have hl : st.length = a + b + d + e + f := by rw [s.new.2.1, hs]; simp; omega
  have r4 : roomP M.ar 4 = f - 1 := by
    have hf : isFree 4 x = true := by
      have hi := s.idx
      rw [List.findIdx?_eq_some_iff_getElem] at hi
      obtain ⟨g1, g2, _⟩ := hi
      have hx := s.slot
      rw [List.getElem?_eq_getElem g1] at hx
      cases hx; exact g2
    rw [har]
    unfold roomP
    rw [List.countP_set hn]
    have hxn : st[n] = x := by have := s.slot; rw [List.getElem?_eq_getElem hn] at this; exact Option.some.inj this
    have : st.countP (isFree 4) = f := n4
    rw [hxn, hf, this]
    simp [isFree]
  have hlen : M.ar.length = st.length := by rw [har]; simp
  unfold liveP
  rw [r0, r1, r2, r3, r4, n0, n1, n2, n3, hlen, hl]
  omega
theorem beqs4 : AV.beqs [AV.int .i64 0, .int .i64 0, .bool false, .nilSlice] [AV.int .i64 0, .int .i64 0, .bool false, .nilSlice] = true := by simp [AV.beqs, AV.beq]
theorem src_of {v : AV} {xs : List Int} (s : Sees h v (xs.map (.int .u64))) (hx : ∀ x ∈ xs, 0 ≤ x) : Src h v (xs.map Int.toNat) := by
  have hw : wcells (xs.map Int.toNat) = xs.map (AV.int .u64) := by
    simp only [wcells, List.map_map]
    apply List.map_congr_left
    intro x hx'
    simp only [Function.comp]
    rw [Int.toNat_of_nonneg (hx x hx')]
  rcases s with ⟨rfl, he⟩ | ⟨o, off, cap, ex, l, rw', rfl, hg, h1, h2⟩
  · exact .inl ⟨rfl, by simpa using he⟩
  · refine .inr ⟨o, off, cap, ex, l, rw', by simp, hg, by simpa using h1, ?_⟩
    rw [hw]
    apply List.ext_getElem?
    intro i
    simp only [List.length_map] at h1 ⊢
    by_cases hi : i < xs.length
    · have := h2 i (.int .u64 xs[i]) (by rw [List.getElem?_map, List.getElem?_eq_getElem hi]; rfl)
      rw [List.getElem?_take, if_pos hi, List.getElem?_drop, this, List.getElem?_map, List.getElem?_eq_getElem hi]; rfl
    · rw [List.getElem?_eq_none (by simp; omega), List.getElem?_eq_none (by simp; omega)]
def accCells (kd rf cl n ws : Int) (wv : AV) : List AV := [.int .i64 kd, .int .i64 rf, .int .i64 cl, .int .i64 n, .int .u64 ws, wv]
theorem acc_beq {kd rf cl n ws : Int} {wv : AV} (hw : AV.beq wv wv = true) : AV.beq (.agg (accCells kd rf cl n ws wv)) (.agg (accCells kd rf cl n ws wv)) = true := by
  simp [accCells, AV.beq, AV.beqs, hw]
theorem sees_beq {v : AV} {xs : List AV} (s : Sees h v xs) : AV.beq v v = true := by
  rcases s with ⟨rfl, _⟩ | ⟨o, off, cap, ex, l, rw, rfl, _⟩ <;> simp [AV.beq]
theorem sees_cell {v : AV} {xs : List AV} (s : Sees h v xs) : v.cells = [v] ∧ v.flat = true := by
  rcases s with ⟨rfl, _⟩ | ⟨o, off, cap, ex, l, rw, rfl, _⟩ <;> exact ⟨rfl, rfl⟩
def c6a : ACode := match c6 with
  | .seq a _ => a
  | c => c
def c6b : ACode := match c6 with
  | .seq _ (.seq a _) => a
  | c => c
def c6c : ACode := match c6 with
  | .seq _ (.seq _ (.seq a _)) => a
  | c => c
def c6d : ACode := match c6 with
  | .seq _ (.seq _ (.seq _ (.seq a _))) => a
  | c => c
def c6e : ACode := match c6 with
  | .seq _ (.seq _ (.seq _ (.seq _ (.seq a _)))) => a
  | c => c
def c6r : ACode := match c6 with
  | .seq _ (.seq _ (.seq _ (.seq _ (.seq _ r)))) => r
  | c => c
def c6z : ACode := match c6 with
  | .seq _ (.seq _ (.seq _ (.seq _ (.seq _ (.seq _ (.seq _ (.seq _ (.seq _ z)))))))) => z
  | c => c
def c6r1 : ACode := match c6 with
  | .seq _ (.seq _ (.seq _ (.seq _ (.seq _ (.seq a _))))) => a
  | c => c
def c6r2 : ACode := match c6 with
  | .seq _ (.seq _ (.seq _ (.seq _ (.seq _ (.seq _ (.seq a _)))))) => a
  | c => c
def c6r3 : ACode := match c6 with
  | .seq _ (.seq _ (.seq _ (.seq _ (.seq _ (.seq _ (.seq _ (.seq a _))))))) => a
  | c => c
def c6r4 : ACode := match c6 with
  | .seq _ (.seq _ (.seq _ (.seq _ (.seq _ (.seq _ (.seq _ (.seq _ (.seq a _)))))))) => a
  | c => c
theorem c6r_parts : c6r = .seq c6r1 (.seq c6r2 (.seq c6r3 (.seq c6r4 c6z))) := rfl
theorem c6_parts : c6 = .seq c6a (.seq c6b (.seq c6c (.seq c6d (.seq c6e c6r)))) := rfl
/-- Three accesses that are refused. -/
theorem strangers_rest (k : Fits T) {mo p po : Nat} {c : CfgP} (hc : CfgOk c) {M : MemP} (hlen : M.ep.cls.length = c.clients) (hlive : liveP M.ar = 1) (hnow : M.ep.now = 0) {F : Nat → Prop} {L : List (Nat × AObj)} {kd rf cl n ws n0 : Int} {v : AV} {xs : List Int} (hx0 : ∀ x ∈ xs, 0 ≤ x) (hxl : xs.length < 1000000)
    (R : MemR mo M F h) (lo : Low h) (kp : Kept h F ((p, .cells (accCells kd rf cl n ws v) true) :: (po, .cells c.cells true) :: L)) (hs : ∀ h' : AH, (∀ p ∈ L, h'.get p.1 = some p.2) → Sees h' v (xs.map (.int .u64))) (hv : ∀ o ∈ objs v, ∃ q ∈ L, q.1 = o) (hp : ∀ q ∈ L, q.1 ≠ p) (hpo : po ≠ p) (hkd : -9223372036854775808 ≤ kd ∧ kd ≤ 9223372036854775807)
    {f : Fr} (f1 : f.at 1 = .int .i64 n0) (f5 : f.at 5 = .ptr p 0) (f7 : f.at 7 = .ptr po 0) (f8 : f.at 8 = .ptr mo 0) :
    Wp (code T c6r f h) (Vm.Ends [.tmp 6] fun r _ => r = .bool true) := by
  have fa : ∀ o j, fieldAddrV j (.ptr o 0) = some (.ptr o (0 + j)) := fun o j => rfl
  have hl6 : ∀ {a : Int}, (accCells a rf cl n ws v).length = 6 := rfl
  have hvb : AV.beq v v = true := sees_beq (hs h fun q hq => (kp q (by simp [hq])).1)
  have hcl := hc.clients
  -- an access is as its object says
  have doit : ∀ {h : AH} {kd : Int} {F : Nat → Prop} {L' : List (Nat × AObj)}, MemR mo M F h → Low h → Kept h F L' → (∀ q ∈ L, q ∈ L') → ∀ c : Int, doP M c ⟨kd, rf, cl, n, ws, xs.map Int.toNat⟩ = (⟨1, 0, false, []⟩, M) → Gives T 12 [.ptr mo 0, .int .i64 c, .agg (accCells kd rf cl n ws v)] h fun r h' => ResOk h.next h' r ⟨1, 0, false, []⟩ ∧ ∃ F', MemR mo M F' h' ∧ Acts h F h' F' := by
    intro h kd F L' R lo kp' hsub c hd
    have := do_src k R lo c ⟨kd, rf, cl, n, ws, xs.map Int.toNat⟩ (wv := v) ⟨src_of (hs h fun q hq => (kp' q (hsub q hq)).1) hx0, fun o ho => by
      obtain ⟨q, hq, rfl⟩ := hv o ho
      exact ⟨(kp' q (hsub q hq)).2, kp'.low lo q (hsub q hq)⟩, by simpa using hxl⟩
    rw [hd] at this
    exact this
  have resv : ∀ {N : Nat} {h : AH} {r : AV}, ResOk N h r ⟨1, 0, false, []⟩ → ∃ wv, r = .agg [.int .i64 1, .int .i64 0, .bool false, wv] ∧ wv.flat = true ∧ lenOfV wv = some 0 := by
    rintro N h r ⟨wv, rfl, hw⟩
    refine ⟨wv, rfl, ?_⟩
    rcases hw with ⟨rfl, _⟩ | ⟨⟨o, rfl, _⟩, _⟩ <;> exact ⟨rfl, rfl⟩
  have hz : AV.beq (.agg (accCells kd rf cl n ws v)) (.agg (accCells kd rf cl n ws v)) = true := acc_beq hvb
  have lk38 : ∀ {h : AH} {g : Fr} {d : Nat}, h.get p = some (.cells (accCells kd rf cl n ws v) true) → g.at 5 = .ptr p 0 → g.at d = .agg (accCells kd rf cl n ws v) → AOper.lookAgain ⟨some d, .load true 6 (.tmp 5), none⟩ g h = true := fun hg h5 hd => look_load (v := .agg _) (by show loadV _ _ _ (Fr.at _ _) = _; rw [h5]; exact load_all hg hl6) hd hz
  have lowK : ∀ {h : AH} {F : Nat → Prop} {L' : List (Nat × AObj)}, Kept h F L' → Low h → ∀ q ∈ L', q.1 ≠ h.next := fun kp lo q hq => by have := kp.low lo q hq; omega
  -- the first
  have lo1 : Low (h.new (.cells [.int .i64 0, .int .i64 0, .bool false, .nilSlice] true)) := lo.new _
  have q1 : Quiet h (h.new (.cells [.int .i64 0, .int .i64 0, .bool false, .nilSlice] true)) := (Quiet.refl _).new _
  have R1 := ((R.res lo).quiet q1).holds
  have kq := lowK kp lo
  have k1 := (kp.quiet lo q1).cons (o := h.next) get_new_same (fun hf => by have := (R.res lo).low _ hf; omega)
  rw [c6r_parts]
  simp only [c6r1, c6r2, c6r3, c6r4, c6, vms, vmc, AOpd.val, Nat.reduceEqDiff, reduceCtorEq, Nat.reduceAdd, Nat.reduceBEq, f1, f5, f8, load_all kp.head hl6]
  generalize (h.new (.cells [.int .i64 0, .int .i64 0, .bool false, .nilSlice] true)) = h1 at *
  rw [items_look (lk38 k1.tail.head (by simp only [vms, vmc, AOpd.val, Nat.reduceEqDiff, reduceCtorEq, Nat.reduceAdd, Nat.reduceBEq, f5]) (by simp only [vms, vmc, AOpd.val, Nat.reduceEqDiff, reduceCtorEq, Nat.reduceAdd, Nat.reduceBEq])), items_look (look_new (q := h.next) (by simp only [vms, vmc, AOpd.val, Nat.reduceEqDiff, reduceCtorEq, Nat.reduceAdd, Nat.reduceBEq]) k1.head beqs4)]
  simp only [vms, vmc, AOpd.val, Nat.reduceEqDiff, reduceCtorEq, Nat.reduceAdd, Nat.reduceBEq, f1, f5, f8]
  refine Gives.bind ((within_nat k (hi := 9) (by decide)).mono ?_)
  rintro _ _ ⟨m1, rfl, hm1, rfl⟩
  rename_i h1
  have w1 : IntKind.i64.wrap (-1 - (m1 : Int)) = -1 - (m1 : Int) := wrap_i64 (by omega) (by omega)
  simp only [vms, vmc, AOpd.val, Nat.reduceEqDiff, reduceCtorEq, Nat.reduceAdd, Nat.reduceBEq, w1, f5]
  rw [items_look (lk38 k1.tail.head (by simp only [vms, vmc, AOpd.val, Nat.reduceEqDiff, reduceCtorEq, Nat.reduceAdd, Nat.reduceBEq, f5]) (by simp only [vms, vmc, AOpd.val, Nat.reduceEqDiff, reduceCtorEq, Nat.reduceAdd, Nat.reduceBEq])), items_look (look_new (q := h.next) (by simp only [vms, vmc, AOpd.val, Nat.reduceEqDiff, reduceCtorEq, Nat.reduceAdd, Nat.reduceBEq]) k1.head beqs4)]
  simp only [vms, vmc, AOpd.val, Nat.reduceEqDiff, reduceCtorEq, Nat.reduceAdd, Nat.reduceBEq, f8]
  refine Gives.bind ((doit R1 lo1 k1 (fun q hq => by simp [hq]) (-1 - (m1 : Int)) (doP_bad (.inl (by omega)))).mono ?_)
  rintro _ h2 ⟨hr2, F2, R2, act2⟩
  obtain ⟨wv2, rfl, hf2, hl2⟩ := resv hr2
  have k2 := k1.acts lo1 act2
  have st2 := store_all (n := 4) (l' := [.int .i64 1, .int .i64 0, .bool false, wv2]) k2.head rfl rfl (by simp only [List.all_cons, List.all_nil, hf2]; rfl)
  have k3 := k2.turn kq (.cells [.int .i64 1, .int .i64 0, .bool false, wv2] true)
  have R3 := ((R2.res act2.low).set k2.headF (.cells [.int .i64 1, .int .i64 0, .bool false, wv2] true)).holds
  have lo3 := act2.low.set (act2.low _ _ k2.head) (.cells [.int .i64 1, .int .i64 0, .bool false, wv2] true)
  simp only [vms, vmc, AOpd.val, Nat.reduceEqDiff, reduceCtorEq, Nat.reduceAdd, Nat.reduceBEq]
  rw [items_look (look_new (q := h.next) (by simp only [vms, vmc, AOpd.val, Nat.reduceEqDiff, reduceCtorEq, Nat.reduceAdd, Nat.reduceBEq]) k2.head beqs4)]
  simp only [vms, vmc, AOpd.val, Nat.reduceEqDiff, reduceCtorEq, Nat.reduceAdd, Nat.reduceBEq, st2, f1, f5, f7, f8, fa, Nat.zero_add]
  generalize (h2.set h.next (.cells [.int .i64 1, .int .i64 0, .bool false, wv2] true)) = h3 at *
  -- the second
  have hcv := k3.tail.tail.head
  have lo4 : Low (h3.new (.cells [.int .i64 0, .int .i64 0, .bool false, .nilSlice] true)) := lo3.new _
  have q4 : Quiet h3 (h3.new (.cells [.int .i64 0, .int .i64 0, .bool false, .nilSlice] true)) := (Quiet.refl _).new _
  have R4 := ((R3.res lo3).quiet q4).holds
  have kq4 := lowK k3 lo3
  have k4 := (k3.quiet lo3 q4).cons (o := h3.next) get_new_same (fun hf => by have := (R3.res lo3).low _ hf; omega)
  simp only [load_at hcv hc.five_get, load_all k3.tail.head hl6, vms, vmc, AOpd.val, Nat.reduceEqDiff, reduceCtorEq, Nat.reduceAdd, Nat.reduceBEq, f1, f5, f7, f8]
  generalize (h3.new (.cells [.int .i64 0, .int .i64 0, .bool false, .nilSlice] true)) = h4 at *
  have hld4 : ∀ {g : Fr}, g.at 41 = .ptr po 5 → loadV h4 false 1 ((AOpd.tmp 41).val g) = some (.int .i64 (c.clients : Int)) := fun hg => by show loadV _ _ _ (Fr.at _ _) = _; rw [hg]; exact load_at k4.tail.tail.tail.head hc.five_get
  rw [items_look (look_load (v := .int .i64 (c.clients : Int)) (hld4 (by simp only [vms, vmc, AOpd.val, Nat.reduceEqDiff, reduceCtorEq, Nat.reduceAdd, Nat.reduceBEq])) (by simp only [vms, vmc, AOpd.val, Nat.reduceEqDiff, reduceCtorEq, Nat.reduceAdd, Nat.reduceBEq]) (by simp [AV.beq])), items_look (lk38 k4.tail.tail.head (by simp only [vms, vmc, AOpd.val, Nat.reduceEqDiff, reduceCtorEq, Nat.reduceAdd, Nat.reduceBEq, f5]) (by simp only [vms, vmc, AOpd.val, Nat.reduceEqDiff, reduceCtorEq, Nat.reduceAdd, Nat.reduceBEq])), items_look (look_new (q := h3.next) (by simp only [vms, vmc, AOpd.val, Nat.reduceEqDiff, reduceCtorEq, Nat.reduceAdd, Nat.reduceBEq]) k4.head beqs4)]
  simp only [vms, vmc, AOpd.val, Nat.reduceEqDiff, reduceCtorEq, Nat.reduceAdd, Nat.reduceBEq, f1, f5, f7, f8]
  refine Gives.bind ((within_nat k (hi := 9) (by decide)).mono ?_)
  rintro _ _ ⟨m2, rfl, hm2, rfl⟩
  rename_i h4
  have w2 : IntKind.i64.wrap ((c.clients : Int) + (m2 : Int)) = (c.clients : Int) + (m2 : Int) := wrap_i64 (by omega) (by omega)
  simp only [vms, vmc, AOpd.val, Nat.reduceEqDiff, reduceCtorEq, Nat.reduceAdd, Nat.reduceBEq, w2, f5]
  rw [items_look (look_load (v := .int .i64 (c.clients : Int)) (hld4 (by simp only [vms, vmc, AOpd.val, Nat.reduceEqDiff, reduceCtorEq, Nat.reduceAdd, Nat.reduceBEq])) (by simp only [vms, vmc, AOpd.val, Nat.reduceEqDiff, reduceCtorEq, Nat.reduceAdd, Nat.reduceBEq]) (by simp [AV.beq])), items_look (lk38 k4.tail.tail.head (by simp only [vms, vmc, AOpd.val, Nat.reduceEqDiff, reduceCtorEq, Nat.reduceAdd, Nat.reduceBEq, f5]) (by simp only [vms, vmc, AOpd.val, Nat.reduceEqDiff, reduceCtorEq, Nat.reduceAdd, Nat.reduceBEq])), items_look (look_new (q := h3.next) (by simp only [vms, vmc, AOpd.val, Nat.reduceEqDiff, reduceCtorEq, Nat.reduceAdd, Nat.reduceBEq]) k4.head beqs4)]
  simp only [vms, vmc, AOpd.val, Nat.reduceEqDiff, reduceCtorEq, Nat.reduceAdd, Nat.reduceBEq, f8]
  refine Gives.bind ((doit R4 lo4 k4 (fun q hq => by simp [hq]) ((c.clients : Int) + (m2 : Int)) (doP_bad (.inr (by rw [hlen]; omega)))).mono ?_)
  rintro _ h5 ⟨hr5, F5, R5, act5⟩
  obtain ⟨wv5, rfl, hf5, hl5⟩ := resv hr5
  have k5 := k4.acts lo4 act5
  have st5 := store_all (n := 4) (l' := [.int .i64 1, .int .i64 0, .bool false, wv5]) k5.head rfl rfl (by simp only [List.all_cons, List.all_nil, hf5]; rfl)
  have k6 := k5.turn kq4 (.cells [.int .i64 1, .int .i64 0, .bool false, wv5] true)
  have R6 := ((R5.res act5.low).set k5.headF (.cells [.int .i64 1, .int .i64 0, .bool false, wv5] true)).holds
  have lo6 := act5.low.set (act5.low _ _ k5.head) (.cells [.int .i64 1, .int .i64 0, .bool false, wv5] true)
  simp only [vms, vmc, AOpd.val, Nat.reduceEqDiff, reduceCtorEq, Nat.reduceAdd, Nat.reduceBEq]
  rw [items_look (look_new (q := h3.next) (by simp only [vms, vmc, AOpd.val, Nat.reduceEqDiff, reduceCtorEq, Nat.reduceAdd, Nat.reduceBEq]) k5.head beqs4)]
  simp only [vms, vmc, AOpd.val, Nat.reduceEqDiff, reduceCtorEq, Nat.reduceAdd, Nat.reduceBEq, st5, f1, f5, f7, f8, fa, Nat.zero_add]
  generalize (h5.set h3.next (.cells [.int .i64 1, .int .i64 0, .bool false, wv5] true)) = h6 at *
  -- the kind is turned
  have hgp := k6.tail.tail.head
  have hpn : p ≠ h.next := kq _ (List.mem_cons_self)
  have hpn3 : p ≠ h3.next := kq4 (p, _) (.tail _ (.head _))
  have h31 : h3.next ≠ h.next := fun e => kq4 (h.next, _) (List.mem_cons_self) e.symm
  have hpo1 : po ≠ h.next := kq (po, _) (.tail _ (.head _))
  have hpo3 : po ≠ h3.next := kq4 (po, _) (.tail _ (.tail _ (.head _)))
  have hperm : Kept h6 F5 ((p, .cells (accCells kd rf cl n ws v) true) :: (h3.next, .cells [.int .i64 1, .int .i64 0, .bool false, wv5] true) :: (h.next, .cells [.int .i64 1, .int .i64 0, .bool false, wv2] true) :: L) := k6.mono fun q hq => by
    simp only [List.mem_cons] at hq ⊢
    rcases hq with h1 | h1 | h1 | h1
    · exact .inr (.inr (.inl h1))
    · exact .inl h1
    · exact .inr (.inl h1)
    · exact .inr (.inr (.inr (.inr h1)))
  have hne : ∀ q ∈ (h3.next, AObj.cells [.int .i64 1, .int .i64 0, .bool false, wv5] true) :: (h.next, AObj.cells [.int .i64 1, .int .i64 0, .bool false, wv2] true) :: L, q.1 ≠ p := by
    intro q hq
    simp only [List.mem_cons] at hq
    rcases hq with rfl | rfl | h1
    · exact Ne.symm hpn3
    · exact Ne.symm hpn
    · exact hp q h1
  -- the third, of whatever kind that is none
  have fin : ∀ {h7 : AH} {kd' : Int} {f : Fr}, (kd' < 1 ∨ 15 < kd') → MemR mo M F5 h7 → Low h7 → Kept h7 F5 ((p, .cells (accCells kd' rf cl n ws v) true) :: (h3.next, .cells [.int .i64 1, .int .i64 0, .bool false, wv5] true) :: (h.next, .cells [.int .i64 1, .int .i64 0, .bool false, wv2] true) :: L) →
      f.at 5 = .ptr p 0 → f.at 8 = .ptr mo 0 → f.at 10 = .ptr h.next 0 → f.at 11 = .ptr h3.next 0 → Wp (code T c6z f h7) (Vm.Ends [.tmp 6] fun r _ => r = .bool true) := by
    intro h7 kd' f hk R7 lo7 k7 g5 g8 g10 g11
    simp only [c6z, c6, vms, vmc, AOpd.val, Nat.reduceEqDiff, reduceCtorEq, Nat.reduceAdd, Nat.reduceBEq, g5, g8, load_all k7.head hl6]
    refine Gives.bind ((doit R7 lo7 k7 (fun q hq => by simp [hq]) 0 (doP_none hk)).mono ?_)
    rintro _ h8 ⟨hr8, F8, R8, act8⟩
    obtain ⟨wv8, rfl, hf8, hl8⟩ := resv hr8
    have k8 := k7.acts lo7 act8
    obtain ⟨h9, st9, q9, lo9, g9, hn9⟩ := keep4 act8.low (w0 := .int .i64 1) (w1 := .int .i64 0) (w2 := .bool false) hf8 rfl rfl rfl
    have k9 := k8.quiet act8.low q9
    have R9 := ((R8.res act8.low).quiet q9).holds
    simp only [vms, vmc, AOpd.val, Nat.reduceEqDiff, reduceCtorEq, Nat.reduceAdd, Nat.reduceBEq, st9, fa, Nat.zero_add, g8, g10, g11, load_at k9.tail.head (i := 0) rfl, load_at k9.tail.tail.head (i := 0) rfl, load_at g9 (i := 0) rfl, show ((1 : Int) == 1) = true from rfl, load_at k9.tail.tail.head (i := 2) rfl, load_at k9.tail.tail.head (i := 1) rfl, load_at k9.tail.tail.head (i := 3) rfl, hl2, show ((0 : Int) == 0) = true from rfl, show (((0 : Nat) : Int) == 0) = true from rfl, load_at g9 (i := 2) rfl, load_at g9 (i := 1) rfl]
    refine Gives.bind ((mem_live k R9).mono ?_)
    rintro _ _ ⟨rfl, rfl⟩
    simp only [vms, vmc, AOpd.val, Nat.reduceEqDiff, reduceCtorEq, Nat.reduceAdd, Nat.reduceBEq, hlive, show ((1 : Int) == 1) = true from rfl, g8]
    refine Gives.bind ((mem_now k R9).mono ?_)
    rintro _ _ ⟨rfl, rfl⟩
    simp only [vms, vmc, AOpd.val, Nat.reduceEqDiff, reduceCtorEq, Nat.reduceAdd, Nat.reduceBEq, hnow, show ((0 : Int) == 0) = true from rfl, g8]
    refine Gives.bind ((k.yes _).mono ?_)
    rintro _ _ ⟨rfl, rfl⟩
    simp only [vms, vmc, AOpd.val, Nat.reduceEqDiff, reduceCtorEq, Nat.reduceAdd, Nat.reduceBEq]
  have hneg : unV .neg (.int .i64 kd) = some (.int .i64 (IntKind.i64.wrap (0 - kd))) := rfl
  have stk := fun x : Int => store_int (h := h6) (o := p) (i := 0) (k := .i64) (n := x) (l := accCells kd rf cl n ws v) hgp (by simp [accCells])
  have ld0 := load_at hgp (i := 0) (v := .int .i64 kd) rfl
  have hwr : (kd ≥ 0 → IntKind.i64.wrap (0 - kd) ≤ 0) ∧ (kd < 0 → kd ≠ -9223372036854775808 → IntKind.i64.wrap (0 - kd) = - kd) ∧ (kd = -9223372036854775808 → IntKind.i64.wrap (0 - kd) = -9223372036854775808) := by
    refine ⟨fun h => by rw [wrap_i64 (by omega) (by omega)]; omega, fun h h2 => by rw [wrap_i64 (by omega) (by omega)]; omega, fun h => by rw [h]; rfl⟩
  rw [ld0]
  have hst : ∀ a b : Int, (accCells a rf cl n ws v).set 0 (.int .i64 b) = accCells b rf cl n ws v := fun _ _ => rfl
  simp only [hneg, vms, vmc, AOpd.val, Nat.reduceEqDiff, reduceCtorEq, Nat.reduceAdd, Nat.reduceBEq, f5, fa, Nat.zero_add, stk, hst]
  have kpne : ∀ q ∈ (h3.next, AObj.cells [.int .i64 1, .int .i64 0, .bool false, wv5] true) :: (h.next, AObj.cells [.int .i64 1, .int .i64 0, .bool false, wv2] true) :: L, q.1 ≠ p := hne
  generalize hkd1 : IntKind.i64.wrap (0 - kd) = kd1 at *
  have k7 := hperm.turn hne (.cells (accCells kd1 rf cl n ws v) true)
  have R7 := ((R6.res lo6).set hperm.headF (.cells (accCells kd1 rf cl n ws v) true)).holds
  have lo7 := lo6.set (lo6 _ _ hperm.head) (.cells (accCells kd1 rf cl n ws v) true)
  generalize (h6.set p (.cells (accCells kd1 rf cl n ws v) true)) = h7 at *
  simp only [load_at k7.head (i := 0) (v := .int .i64 kd1) rfl, vms, vmc, AOpd.val, Nat.reduceEqDiff, reduceCtorEq, Nat.reduceAdd, Nat.reduceBEq, f5, fa, Nat.zero_add]
  by_cases hpos : kd1 > 0
  · have stk7 := store_int (h := h7) (o := p) (i := 0) (k := .i64) (n := 99) (l := accCells kd1 rf cl n ws v) k7.head (by simp [accCells])
    have k8 := k7.turn hne (.cells (accCells 99 rf cl n ws v) true)
    have R8 := ((R7.res lo7).set k7.headF (.cells (accCells 99 rf cl n ws v) true)).holds
    have lo8 := lo7.set (lo7 _ _ k7.head) (.cells (accCells 99 rf cl n ws v) true)
    simp only [decide_eq_true hpos, vms, vmc, AOpd.val, Nat.reduceEqDiff, reduceCtorEq, Nat.reduceAdd, Nat.reduceBEq, f5, fa, Nat.zero_add, stk7, hst]
    refine fin (.inr (by decide)) R8 lo8 k8 ?_ ?_ ?_ ?_ <;> simp only [vms, vmc, AOpd.val, Nat.reduceEqDiff, reduceCtorEq, Nat.reduceAdd, Nat.reduceBEq, f5, f8]
  · simp only [decide_eq_false hpos, vms, vmc, AOpd.val, Nat.reduceEqDiff, reduceCtorEq, Nat.reduceAdd, Nat.reduceBEq, f5, fa, Nat.zero_add]
    refine fin (.inl (by omega)) R7 lo7 k7 ?_ ?_ ?_ ?_ <;> simp only [vms, vmc, AOpd.val, Nat.reduceEqDiff, reduceCtorEq, Nat.reduceAdd, Nat.reduceBEq, f5, f8]
theorem strangers_run (k : Fits T) (hl : Low h) {z : List Int} (h8 : z.length = 8) {n0 kd rf cl n ws : Int} {v : AV} {xs : List Int} (s : Sees h v (xs.map (.int .u64))) (hcap : capOk v) (hx0 : ∀ x ∈ xs, 0 ≤ x) (hkd : -9223372036854775808 ≤ kd ∧ kd ≤ 9223372036854775807) :
    Gives T 6 [.agg (izs z), .int .i64 n0, .agg (accCells kd rf cl n ws v)] h fun r _ => r = .bool true := by
  refine gives_func (k.env _ (by decide)) (k.at (fn := a6) rfl) rfl ?_
  have hz8 : (izs z).length = 8 := by simp [izs, h8]
  have fa : ∀ o j, fieldAddrV j (.ptr o 0) = some (.ptr o (0 + j)) := fun o j => rfl
  have q0 : Quiet h ((h.new (.cells (izs z) true)).new (.cells (accCells kd rf cl n ws v) true)) := ((Quiet.refl _).new _).new _
  have lo0 : Low ((h.new (.cells (izs z) true)).new (.cells (accCells kd rf cl n ws v) true)) := (hl.new _).new _
  have gz : ((h.new (.cells (izs z) true)).new (.cells (accCells kd rf cl n ws v) true)).get h.next = some (.cells (izs z) true) := by
    rw [AH.get_new, if_neg (by simp only [next_new]; omega), get_new_same]
  have ga : ((h.new (.cells (izs z) true)).new (.cells (accCells kd rf cl n ws v) true)).get (h.next + 1) = some (.cells (accCells kd rf cl n ws v) true) := get_new_same
  show Wp (code T c6 _ _) _
  rw [c6_parts]
  simp only [c6a, c6b, c6c, c6d, c6e, c6, vms, vmc, AOpd.val, Nat.reduceEqDiff, reduceCtorEq, Nat.reduceAdd, Nat.reduceBEq, box_agg, next_new]
  obtain ⟨L, hL1, hL2, hL3⟩ := s.kept
  have hLl : ∀ q ∈ L, q.1 < h.next := fun q hq => hl _ _ (hL1 q hq).1
  have kL : Kept ((h.new (.cells (izs z) true)).new (.cells (accCells kd rf cl n ws v) true)) (fun _ => False) L := fun q hq => ⟨q0.get (hL1 q hq).1 (hLl q hq), fun h => h⟩
  have s0 := hL3 _ fun q hq => (kL q hq).1
  have n0' : ((h.new (.cells (izs z) true)).new (.cells (accCells kd rf cl n ws v) true)).next = h.next + 2 := rfl
  generalize ((h.new (.cells (izs z) true)).new (.cells (accCells kd rf cl n ws v) true)) = h0 at *
  simp only [load_all gz hz8, vms, vmc, AOpd.val, Nat.reduceEqDiff, reduceCtorEq, Nat.reduceAdd, Nat.reduceBEq]
  have kA : Kept h0 (fun _ => False) ((h.next + 1, .cells (accCells kd rf cl n ws v) true) :: L) := kL.cons ga (fun h => h)
  refine Gives.bind ((cfg_in k lo0 h8).mono ?_)
  rintro _ h1 ⟨c, rfl, hc, hc4, q1, lo1⟩
  have st1 := store_all (h := h1.new (.cells zero8 true)) (o := h1.next) (n := 8) (l' := c.cells) get_new_same rfl hc.len (cfg_flat c)
  have st1' : storeV (h1.new (.cells [.int .i64 0, .int .i64 0, .int .i64 0, .int .i64 0, .int .i64 0, .int .i64 0, .int .i64 0, .int .i64 0] true)) 8 (.ptr h1.next 0) (.agg c.cells) = _ := st1
  have q2 : Quiet h1 ((h1.new (.cells zero8 true)).set h1.next (.cells c.cells true)) := ((Quiet.refl _).new _).set (Nat.le_refl _) _
  have lo2 : Low ((h1.new (.cells zero8 true)).set h1.next (.cells c.cells true)) := (lo1.new _).set (by rw [next_new]; omega) _
  have g2 : ((h1.new (.cells zero8 true)).set h1.next (.cells c.cells true)).get h1.next = some (.cells c.cells true) := get_set_same
  have k2 := ((kA.quiet lo0 q1).quiet lo1 q2).cons g2 (fun h => h)
  have n1 : h0.next ≤ h1.next := q1.1
  simp only [vms, vmc, AOpd.val, Nat.reduceEqDiff, reduceCtorEq, Nat.reduceAdd, Nat.reduceBEq, st1', load_all g2 hc.len]
  generalize ((h1.new (.cells zero8 true)).set h1.next (.cells c.cells true)) = h2 at *
  refine Gives.bind ((mem_new k lo2 hc).mono ?_)
  rintro _ h3 ⟨mo, M, F, st, sn, sx, rfl, R, hS, q3, hF, lo3⟩
  have hlen : M.ep.cls.length = c.clients := by rw [hS.is]; simp [newEp]
  have hnow : M.ep.now = 0 := by rw [hS.is]; rfl
  have k3 := Kept.begin (fun q hq => (k2 q hq).1) lo2 hF q3
  have hlv := s0.len
  have hfive : ∀ v, (accCells kd rf cl n ws v)[5]? = some v := fun v => rfl
  simp only [vms, vmc, AOpd.val, Nat.reduceEqDiff, reduceCtorEq, Nat.reduceAdd, Nat.reduceBEq, show eqNilV 0 (.ptr mo 0) .nilPtr = some false from rfl, show ((0 : Int) != 0) = false from rfl, fa, Nat.zero_add, load_at k3.tail.head (hfive v), hlv, List.length_map]
  have hne : ∀ q ∈ L, q.1 ≠ h.next + 1 := fun q hq => by have := hLl q hq; omega
  have hpo : h1.next ≠ h.next + 1 := by omega
  have kp3 : Kept h3 F ((h.next + 1, .cells (accCells kd rf cl n ws v) true) :: (h1.next, .cells c.cells true) :: L) := k3.mono fun q hq => by
    simp only [List.mem_cons] at hq ⊢
    rcases hq with h1 | h1 | h1
    · exact .inr (.inl h1)
    · exact .inl h1
    · exact .inr (.inr h1)
  by_cases hlong : (xs.length : Int) > 20
  · obtain ⟨v', hslc, s', ho', hc5, hf'⟩ := (hL3 h3 fun q hq => (k3 q (by simp [hq])).1).upto hcap (n := 20) (by simp; omega) (k := .i64)
    have st3 : storeV h3 1 (.ptr (h.next + 1) 5) v' = some (h3.set (h.next + 1) (.cells (accCells kd rf cl n ws v') true)) := store_at (l := accCells kd rf cl n ws v) kp3.head (by simp [accCells]) hc5 hf'
    have hslc' : slcV 1 v none (some (.int .i64 20)) none = some v' := hslc
    have k4 := kp3.turn (by
      intro q hq
      rcases List.mem_cons.1 hq with rfl | h1
      · exact hpo
      · exact hne q h1) (.cells (accCells kd rf cl n ws v') true)
    simp only [decide_eq_true hlong, vms, vmc, AOpd.val, Nat.reduceEqDiff, reduceCtorEq, Nat.reduceAdd, Nat.reduceBEq, fa, Nat.zero_add, load_at k3.tail.head (hfive v), hslc', st3]
    refine strangers_rest k hc hlen (hS.live hc) hnow (L := L) (n0 := n0) (xs := xs.take 20) (fun x hx => hx0 x (List.mem_of_mem_take hx)) (by simp; omega) ((R.res lo3).set kp3.headF _).holds (lo3.set (lo3 _ _ kp3.head) _) k4 ?_ (fun o ho => hL2 o (ho' o ho)) hne hpo hkd ?_ ?_ ?_ ?_

    · intro h' hq
      obtain ⟨v2, hslc2, s2, _⟩ := (hL3 h' hq).upto hcap (n := 20) (by simp; omega) (k := .i64)
      rw [hslc] at hslc2
      cases hslc2
      rw [List.map_take]
      exact s2
    all_goals simp only [vms, vmc, AOpd.val, Nat.reduceEqDiff, reduceCtorEq, Nat.reduceAdd, Nat.reduceBEq]
  · simp only [decide_eq_false hlong, vms, vmc, AOpd.val, Nat.reduceEqDiff, reduceCtorEq, Nat.reduceAdd, Nat.reduceBEq]
    refine strangers_rest k hc hlen (hS.live hc) hnow (L := L) (n0 := n0) (xs := xs) hx0 (by omega) R lo3 kp3 hL3 hL2 hne hpo hkd ?_ ?_ ?_ ?_

    all_goals simp only [vms, vmc, AOpd.val, Nat.reduceEqDiff, reduceCtorEq, Nat.reduceAdd, Nat.reduceBEq]
/-- An access that came in. -/
theorem acc_in {P : Program} {e : TypeId} {cs : List AV} (c : CellsAre P h [.int .i64, .int .i64, .int .i64, .int .i64, .int .u64, .slice e] cs) :
    ∃ kd rf cl n ws v, cs = accCells kd rf cl n ws v ∧ (Lit.int .i64 kd).wf = true ∧ ∃ t, P.underlying t = some (.slice e) ∧ Came P h t [v] := by
  obtain ⟨b1, r1, rfl, ⟨kd, rfl, hk⟩, c1⟩ := c.cons_inv
  obtain ⟨b2, r2, rfl, ⟨rf, rfl, _⟩, c2⟩ := c1.cons_inv
  obtain ⟨b3, r3, rfl, ⟨cl, rfl, _⟩, c3⟩ := c2.cons_inv
  obtain ⟨b4, r4, rfl, ⟨n, rfl, _⟩, c4⟩ := c3.cons_inv
  obtain ⟨b5, r5, rfl, ⟨ws, rfl, _⟩, c5⟩ := c4.cons_inv
  obtain ⟨b6, r6, rfl, ⟨t, ht, hc⟩, c6⟩ := c5.cons_inv
  cases c6.nil_inv
  exact ⟨kd, rf, cl, n, ws, b6, rfl, hk, t, ht, hc⟩
end Go.Proofs.Ytagcnjhpdopkiaa

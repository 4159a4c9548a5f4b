/- The law MemRoot. -/
import Derived.Test.YtagcnjhpdopkiaaP9Rb
import Derived.Test.YtagcnjhpdopkiaaP9Fa
namespace Go.Proofs.Ytagcnjhpdopkiaa
open Go.Vm
set_option linter.unusedSimpArgs false
set_option linter.unusedVariables false
set_option maxRecDepth 100000
variable {T : Vm.Prog} {h : AH}
theorem fillRt (k0 : Int) (x : Int) : fillV [AV.int .i64 0, .int .i64 0, .int .i64 0, .int .i64 0, .int .u64 0, .nilSlice] [(0, 1, .int .i64 k0), (1, 1, .int .i64 x)] = some [.int .i64 k0, .int .i64 x, .int .i64 0, .int .i64 0, .int .u64 0, .nilSlice] := by simp [fillV, AV.isDef, AV.cells, setMany]
variable {M : MemP} {n : Nat} {x : SlotP} {st : List SlotP} {c : CfgP}
theorem StartP.live (s : StartP c M st n x) (hc : CfgOk c) : liveP M.ar = 1 := by
  obtain ⟨har, hn, hcx, hs⟩ := s.ar
  have hxf : isFree 4 x = true := by
    have h1 := s.idx
    rw [List.findIdx?_eq_some_iff_getElem] at h1
    obtain ⟨h2, h3, _⟩ := h1
    have hx := s.slot
    rw [List.getElem?_eq_getElem h2] at hx
    cases hx
    exact h3
  have hl0 : liveP st = 0 := by
    obtain ⟨a, b, d, e, f, he, _⟩ := hc.slots
    have h := s.new.2.2
    have hln := s.new.2.1
    rw [he] at h hln
    have r0 := h 0 a rfl
    have r1 := h 1 b rfl
    have r2 := h 2 d rfl
    have r3 := h 3 e rfl
    have r4 := h 4 f rfl
    simp only [List.sum_cons, List.sum_nil] at hln
    unfold liveP
    rw [r0, r1, r2, r3, r4, hln]
    omega
  have hfz : isFree 4 ⟨4, 1, true, rootW⟩ = false := by simp [isFree]
  have ht := room_take s.slot hxf hfz
  have hlv := live_turn (m := 4) (by decide) s.slot hcx (z := ⟨4, 1, true, rootW⟩) rfl
  rw [har, hlv, hl0]; omega
theorem StartP.limbo (s : StartP c M st n x) {k : Nat} (hk : k < c.clients) : limboE M.ep (k : Int) = 0 := by
  rw [s.is]
  unfold limboE
  rw [cl_nat]
  simp [newEp, List.getElem?_replicate, hk]
theorem StartP.load (s : StartP c M st n x) : loadP M.ar M.root = (0, rootW) := by
  obtain ⟨har, hn, hcx, hs⟩ := s.ar
  have hr : M.root = (refN n 1 false : Nat) := by rw [s.is]
  have hf := find_set (st := st) (i := n) (z := ⟨4, 1, true, rootW⟩) hn ⟨by omega, by decide, by decide⟩ rfl
  unfold loadP
  rw [har, hr]
  have hf' : findP (st.set n ⟨4, 1, true, rootW⟩) ((refN n 1 false : Nat) : Int) = .ok n := hf
  rw [hf']
  simp [List.getElem?_set, hn]
theorem root_free {k : Int} (hk : 0 ≤ k ∧ k < M.ep.cls.length) : doP M k ⟨5, M.root, 0, 0, 0, []⟩ = (⟨1, 0, false, []⟩, M) := by
  rw [doP_ar hk (kind_in (x := 5) rfl (by decide))]
  simp [slotsP]
theorem root_retire {k : Int} (hk : 0 ≤ k ∧ k < M.ep.cls.length) : doP M k ⟨6, M.root, 0, 0, 0, []⟩ = (⟨1, 0, false, []⟩, M) := by
  rw [doP_6 hk rfl, if_pos rfl]
theorem root_load {k : Int} (hk : 0 ≤ k ∧ k < M.ep.cls.length) (s : StartP c M st n x) : doP M k ⟨1, M.root, 0, 0, 0, []⟩ = (⟨0, 0, false, rootW⟩, M) := by
  rw [doP_ar hk (kind_in (x := 1) rfl (by decide))]
  simp [slotsP, s.load]
theorem root_run (k : Fits T) (hl : Low h) {z : List Int} (h8 : z.length = 8) {n0 : Int} : Gives T 8 [.agg (izs z), .int .i64 n0] h fun r _ => r = .bool true := by
  refine gives_func (k.env _ (by decide)) (k.at (fn := a8) rfl) rfl ?_
  have fa : ∀ o j, fieldAddrV j (.ptr o 0) = some (.ptr o (0 + j)) := fun o j => rfl
  have hz8 : (izs z).length = 8 := by simp [izs, h8]
  have g0 : (h.new (.cells (izs z) true)).get h.next = some (.cells (izs z) true) := get_new_same
  have lo0 : Low (h.new (.cells (izs z) true)) := hl.new _
  simp only [a8, c8, vms, vmc, AOpd.val, Nat.reduceEqDiff, reduceCtorEq, Nat.reduceAdd, Nat.reduceBEq, box_agg, load_all g0 hz8]
  generalize (h.new (.cells (izs z) true)) = h0 at *
  refine Gives.bind ((cfg_in k lo0 h8).mono ?_)
  rintro _ h1 ⟨c, rfl, hc, hc4, q1, lo1⟩
  have st1 := store_all (h := h1.new (.cells zero8 true)) (o := h1.next) (n := 8) (l' := c.cells) get_new_same rfl hc.len (cfg_flat c)
  have st1' : storeV (h1.new (.cells [.int .i64 0, .int .i64 0, .int .i64 0, .int .i64 0, .int .i64 0, .int .i64 0, .int .i64 0, .int .i64 0] true)) 8 (.ptr h1.next 0) (.agg c.cells) = _ := st1
  have lo2 : Low ((h1.new (.cells zero8 true)).set h1.next (.cells c.cells true)) := (lo1.new _).set (by rw [next_new]; omega) _
  have g2 : ((h1.new (.cells zero8 true)).set h1.next (.cells c.cells true)).get h1.next = some (.cells c.cells true) := get_set_same
  simp only [vms, vmc, AOpd.val, Nat.reduceEqDiff, reduceCtorEq, Nat.reduceAdd, Nat.reduceBEq, st1', load_all g2 hc.len]
  obtain ⟨co, hco⟩ : ∃ co, co = h1.next := ⟨_, rfl⟩
  rw [← hco] at g2 lo2 ⊢
  have hcn : co < ((h1.new (.cells zero8 true)).set co (.cells c.cells true)).next := lo2 _ _ g2
  generalize ((h1.new (.cells zero8 true)).set co (.cells c.cells true)) = h2 at *
  refine Gives.bind ((mem_new k lo2 hc).mono ?_)
  rintro _ h3 ⟨mo, M, F, st, sn, sx, rfl, R, hS, q3, hF, lo3⟩
  have hlen : M.ep.cls.length = c.clients := by rw [hS.is]; simp [newEp]
  have hcl := hc.clients
  have g3 := q3.get g2 hcn
  have hsub : binV .sub (.int .i64 (c.clients : Int)) (.int .i64 1) = some (.int .i64 ((c.clients - 1 : Nat) : Int)) := by
    rw [bin_sub, wrap_i64 (by omega) (by omega)]; congr 2; omega
  simp only [vms, vmc, AOpd.val, Nat.reduceEqDiff, reduceCtorEq, Nat.reduceAdd, Nat.reduceBEq, show eqNilV 0 (.ptr mo 0) .nilPtr = some false from rfl, show ((0 : Int) != 0) = false from rfl, fa, Nat.zero_add, load_at g3 hc.five_get, hsub]
  refine Gives.bind ((within_nat k (hi := c.clients - 1) (by omega)).mono ?_)
  rintro _ _ ⟨kk, rfl, hkk, rfl⟩
  rename_i h3
  have hck : (0 : Int) ≤ (kk : Int) ∧ (kk : Int) < (M.ep.cls.length : Int) := by omega
  simp only [vms, vmc, AOpd.val, Nat.reduceEqDiff, reduceCtorEq, Nat.reduceAdd, Nat.reduceBEq]
  refine Gives.bind ((mem_root k R).mono ?_)
  rintro _ _ ⟨rfl, rfl⟩
  rename_i h3
  have do1 := do_src k R lo3 (kk : Int) ⟨5, M.root, 0, 0, 0, []⟩ SrcB.nil
  rw [root_free hck] at do1
  simp only [vms, vmc, AOpd.val, Nat.reduceEqDiff, reduceCtorEq, Nat.reduceAdd, Nat.reduceBEq, fillRt]
  refine Gives.bind (do1.mono ?_)
  rintro _ h4 ⟨hr4, F4, R4, act4⟩
  obtain ⟨w4, h5, rfl, st5, q5, lo5, gg5, hn5, _⟩ := keepR act4.low hr4
  have R5 := ((R4.res act4.low).quiet q5).holds
  have nF5 : ¬ F4 h4.next := (R4.res act4.low).not (Nat.le_refl _)
  simp only [vms, vmc, AOpd.val, Nat.reduceEqDiff, reduceCtorEq, Nat.reduceAdd, Nat.reduceBEq, st5]
  refine Gives.bind ((mem_root k R5).mono ?_)
  rintro _ _ ⟨rfl, rfl⟩
  rename_i h5
  have do2 := do_src k R5 lo5 (kk : Int) ⟨6, M.root, 0, 0, 0, []⟩ SrcB.nil
  rw [root_retire hck] at do2
  simp only [vms, vmc, AOpd.val, Nat.reduceEqDiff, reduceCtorEq, Nat.reduceAdd, Nat.reduceBEq, fillRt]
  refine Gives.bind (do2.mono ?_)
  rintro _ h6 ⟨hr6, F6, R6, act6⟩
  have gg6 := act6.get gg5 hn5 nF5
  have nF6 := act6.not hn5 nF5
  obtain ⟨w6, h7, rfl, st7, q7, lo7, gg7, hn7, _⟩ := keepR act6.low hr6
  have R7 := ((R6.res act6.low).quiet q7).holds
  have g67 := q7.get gg6 (act6.low _ _ gg6)
  have nF7 : ¬ F6 h6.next := (R6.res act6.low).not (Nat.le_refl _)
  have l67 := lo7 _ _ g67
  simp only [vms, vmc, AOpd.val, Nat.reduceEqDiff, reduceCtorEq, Nat.reduceAdd, Nat.reduceBEq, st7]
  refine Gives.bind ((mem_root k R7).mono ?_)
  rintro _ _ ⟨rfl, rfl⟩
  rename_i h7
  have do3 := do_src k R7 lo7 (kk : Int) ⟨1, M.root, 0, 0, 0, []⟩ SrcB.nil
  rw [root_load hck hS] at do3
  simp only [vms, vmc, AOpd.val, Nat.reduceEqDiff, reduceCtorEq, Nat.reduceAdd, Nat.reduceBEq, fillRt]
  refine Gives.bind (do3.mono ?_)
  rintro _ h8 ⟨hr8, F8, R8, act8⟩
  have g68 := act8.get g67 l67 nF6
  have gg8 := act8.get gg7 hn7 nF7
  obtain ⟨w8, h9, rfl, st9, q9, lo9, gg9, hn9, hw9⟩ := keepR act8.low hr8
  have rv9 : RootV h9 w8 := by
    rcases hw9 with ⟨_, hx⟩ | ⟨⟨o, hx, hg⟩, _⟩
    · have hx' : rootW = [] := hx
      exact absurd hx' (by unfold rootW; simp)
    · have hx' : w8 = .slice o 0 1 rootW.length rootW.length false := hx
      rw [root_len] at hx'
      exact ⟨o, false, hx', hg⟩
  have R9 := ((R8.res act8.low).quiet q9).holds
  have g69 := q9.get g68 (act8.low _ _ g68)
  have g79 := q9.get gg8 (act8.low _ _ gg8)
  have l3 : loadV h9 false 1 (.ptr h8.next 3) = some w8 := load_at gg9 rfl
  simp only [vms, vmc, AOpd.val, Nat.reduceEqDiff, reduceCtorEq, Nat.reduceAdd, Nat.reduceBEq, st9, fa, Nat.zero_add, l3]
  refine Gives.bind ((decode_ref k lo9 rv9).mono ?_)
  rintro _ h10 ⟨rfl, q10, lo10⟩
  have R10 := ((R9.res lo9).quiet q10).holds
  have g610 := q10.get g69 (lo9 _ _ g69)
  have g710 := q10.get g79 (lo9 _ _ g79)
  have g810 := q10.get gg9 (lo9 _ _ gg9)
  have st11 := store_all (h := h10.new (.cells [.int .i64 0, .int .u64 0, .str [], .nilSlice, .nilSlice] true)) (o := h10.next) (n := 5) (l' := rootC) get_new_same rfl rfl rfl
  have q11 : Quiet h10 ((h10.new (.cells [.int .i64 0, .int .u64 0, .str [], .nilSlice, .nilSlice] true)).set h10.next (.cells rootC true)) := ((Quiet.refl _).new _).set (Nat.le_refl _) _
  have gN : ((h10.new (.cells [.int .i64 0, .int .u64 0, .str [], .nilSlice, .nilSlice] true)).set h10.next (.cells rootC true)).get h10.next = some (.cells rootC true) := get_set_same
  have R11 := ((R10.res lo10).quiet q11).holds
  have a6 := load_at (q11.get g610 (lo10 _ _ g610)) (i := 0) (v := .int .i64 1) rfl
  have a7 := load_at (q11.get g710 (lo10 _ _ g710)) (i := 0) (v := .int .i64 1) rfl
  have a8' := load_at (q11.get g810 (lo10 _ _ g810)) (i := 0) (v := .int .i64 0) rfl
  have b0 := load_at gN (i := 0) (v := .int .i64 4) rfl
  have b1 := load_at gN (i := 1) (v := .int .u64 0) rfl
  have b2 := load_at gN (i := 2) (v := .str []) rfl
  have b3 := load_at gN (i := 3) (v := .nilSlice) rfl
  simp only [vms, vmc, AOpd.val, Nat.reduceEqDiff, reduceCtorEq, Nat.reduceAdd, Nat.reduceBEq, st11, fa, Nat.zero_add, a6, a7, a8', b0, b1, b2, b3, show ((1 : Int) == 1) = true from rfl, show ((0 : Int) == 0) = true from rfl, show ((4 : Int) == 4) = true from rfl, show (([] : List UInt8) == []) = true from rfl, show (((0 : Nat) : Int) == 0) = true from rfl]
  refine Gives.bind ((mem_live k R11).mono ?_)
  rintro _ _ ⟨rfl, rfl⟩
  simp only [vms, vmc, AOpd.val, Nat.reduceEqDiff, reduceCtorEq, Nat.reduceAdd, Nat.reduceBEq, hS.live hc, show ((1 : Int) == 1) = true from rfl]
  refine Gives.bind ((mem_limbo k R11 (kk : Int)).mono ?_)
  rintro _ _ ⟨rfl, rfl⟩
  simp only [vms, vmc, AOpd.val, Nat.reduceEqDiff, reduceCtorEq, Nat.reduceAdd, Nat.reduceBEq, hS.limbo (show kk < c.clients by omega), show (((0 : Nat) : Int) == 0) = true from rfl]
  refine Gives.bind ((k.yes _).mono ?_)
  rintro _ _ ⟨rfl, rfl⟩
  simp only [vms, vmc, AOpd.val, Nat.reduceEqDiff, reduceCtorEq, Nat.reduceAdd, Nat.reduceBEq]
end Go.Proofs.Ytagcnjhpdopkiaa

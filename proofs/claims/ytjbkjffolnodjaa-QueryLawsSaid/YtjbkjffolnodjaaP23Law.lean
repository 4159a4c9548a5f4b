/- Chapter 23: the law of queries on sets, on the machine: what stands behind its loops. -/
import Derived.Test.YtjbkjffolnodjaaP23Eval
import Derived.Test.YtjbkjffolnodjaaVmZn
namespace Go.Proofs.Ytjbkjffolnodjaa
open Go.Vm
set_option linter.unusedSimpArgs false
set_option linter.unusedVariables false
set_option maxRecDepth 100000
variable {T : Vm.Prog} {h h0 h' : AH}
def cFst : ACode → ACode
  | .seq a _ => a
  | c => c
def t6 : ACode := cSnd (cSnd (cSnd (cSnd (cSnd (cSnd c7)))))
def t8 : ACode := cSnd (cSnd t6)
def t9 : ACode := cSnd t8
def t10 : ACode := cSnd t9
def t11 : ACode := cSnd t10
def t12 : ACode := cSnd t11
def t13 : ACode := cSnd t12
def t14 : ACode := cSnd t13
def t15 : ACode := cSnd t14
/-- What the law keeps in memory. -/
structure LS (h : AH) (va vb al mi ot : AV) (a b : Ex) (U : List Int) (ms os : List (List Int)) : Prop where
  sa : SeesS h 2 va (parts (post a))
  sb : SeesS h 2 vb (parts (post b))
  su : Sees h al (izs U)
  sm : SS h mi ms
  so : SS h ot os
  lo : Low h
theorem seesS_quiet {v : AV} {xs : List (List AV)} (s : SeesS h 2 v xs) (hl : Low h) (q : Quiet h h') : SeesS h' 2 v xs := SeesS.keep s fun o ho => q.2 o (SeesS.low s hl o ho) id
theorem LS.keep {va vb al mi ot : AV} {a b : Ex} {U : List Int} {ms os : List (List Int)} (s : LS h va vb al mi ot a b U ms os) (q : Quiet h h') (lo : Low h') : LS h' va vb al mi ot a b U ms os :=
  ⟨seesS_quiet s.sa s.lo q, seesS_quiet s.sb s.lo q, sees_keep s.su s.lo q, s.sm.keep s.lo q, s.so.keep s.lo q, lo⟩
/-- The law's registers. -/
structure FS (f : Fr) (va vb al mi ot : AV) : Prop where
  f0 : f.at 0 = va
  f1 : f.at 1 = vb
  f3 : f.at 3 = al
  f11 : f.at 11 = mi
  f12 : f.at 12 = ot
  f15 : f.at 15 = .func (.func 18) [] []
  f16 : f.at 16 = .func (.func 19) [] []
theorem fillP (kd : Int) : fillV [AV.int .i64 0, .str []] [(0, 2, .agg [.int .i64 kd, .str []])] = some [.int .i64 kd, .str []] := by simp [fillV, AV.isDef, AV.cells, setMany]
theorem fillPP (k1 k2 : Int) : fillV [AV.int .i64 0, .str [], .int .i64 0, .str []] [(0, 2, .agg [.int .i64 k1, .str []]), (2, 2, .agg [.int .i64 k2, .str []])] = some [.int .i64 k1, .str [], .int .i64 k2, .str []] := by simp [fillV, AV.isDef, AV.cells, setMany]
theorem own_parts (q : List Part) : SeesS (h.new (.cells (parts q).flatten true)) 2 (.slice h.next 0 2 q.length q.length true) (parts q) := by
  have two : ∀ z ∈ parts q, z.length = 2 := fun z hz => by
    simp only [parts, List.mem_map] at hz
    obtain ⟨p, _, rfl⟩ := hz
    rfl
  have := RX.sees (ex := true) ⟨get_new_same (h := h) (x := .cells (parts q).flatten true), two, parts_flat q⟩
  rw [rx, parts_len] at this
  exact this
theorem good97 : GoodT [97] := ⟨by simp, by decide, fun b hb => by simp at hb; subst hb; exact ⟨rfl, by decide⟩⟩
theorem same_eq (k : Base T) {va vb : AV} {xs ys : List Int} (hx : Sees h va (izs xs)) (hy : Sees h vb (izs ys)) (e : xs = ys) (hl : xs.length < 1000000) : Gives T 11 [va, vb] h fun r h' => r = .bool true ∧ h' = h := by
  subst e
  refine (sameG_ok (g := 11) (k := .i64) (k.env _ (by decide)) (k.at (fn := a11) rfl) hx hy (by omega) (by omega)).mono ?_
  rintro _ _ ⟨rfl, rfl⟩
  exact ⟨by simp, rfl⟩
theorem val_len {U : List Int} (hU : U.length ≤ 40) (e : Ex) (ss : List (List Int)) : (val setI (setI U) e ss).length ≤ 40 := by
  have h1 := sub_len (ris_up (setI U)) (val_sub setI (setI U) e ss)
  have h2 := ris_len (setI U)
  have h3 := setI_len U
  omega
theorem own_two (u v : AV) : Two (h.new (.cells [u, v] true)) h.next u v := get_new_same
variable {va vb al mi ot : AV} {a b : Ex} {U : List Int} {ms os : List (List Int)} {f : Fr} {rest : ACode} {Q : AExit → Fr → AH → Prop}
abbrev vl (U : List Int) (e : Ex) (ss : List (List Int)) : List Int := val setI (setI U) e ss

theorem seg8 (k : BaseS T) (ls : LS h va vb al mi ot a b U ms os) (fs : FS f va vb al mi ot) (hU : U.length ≤ 40)
    (go : ∀ f' h' v, FS f' va vb al mi ot → LS h' va vb al mi ot a b U ms os → Sees h' v (izs (ris (setI U))) → f'.at 17 = v → Wp (code T rest f' h') Q) : Wp (code T (.seq (cFst t8) rest) f h) Q := by
  obtain ⟨f0, f1, f3, f11, f12, f15, f16⟩ := fs
  have hb1 : fillV [AV.int .i64 0, .str []] [(0, 1, .int .i64 1), (1, 1, .str [97])] = some [.int .i64 1, .str [97]] := by simp [fillV, AV.isDef, AV.cells, setMany]
  have hb2 : fillV [AV.int .i64 0, .str [], .int .i64 0, .str [], .int .i64 0, .str [], .int .i64 0, .str []] [(0, 2, .agg [.int .i64 1, .str [97]]), (2, 2, .agg [.int .i64 1, .str [97]]), (4, 2, .agg [.int .i64 4, .str []]), (6, 2, .agg [.int .i64 3, .str []])] = some [.int .i64 1, .str [97], .int .i64 1, .str [97], .int .i64 4, .str [], .int .i64 3, .str []] := by simp [fillV, AV.isDef, AV.cells, setMany]
  simp only [t8, t6, cFst, cSnd, c7, vms, vmc, AOpd.val, Nat.reduceEqDiff, reduceCtorEq, Nat.reduceAdd, Nat.reduceBEq, f0, f1, f3, f11, f12, f15, f16, hb1, step_callV, callVal_func]
  refine Gives.bind ((part1_ok k.base ls.lo 4).mono ?_)
  rintro _ h1 ⟨rfl, q1, lo1⟩
  simp only [vms, vmc, AOpd.val, Nat.reduceEqDiff, reduceCtorEq, Nat.reduceAdd, Nat.reduceBEq, f15, step_callV, callVal_func]
  refine Gives.bind ((part1_ok k.base lo1 3).mono ?_)
  rintro _ h2 ⟨rfl, q2, lo2⟩
  simp only [vms, vmc, AOpd.val, Nat.reduceEqDiff, reduceCtorEq, Nat.reduceAdd, Nat.reduceBEq, f3, hb2]
  have sq := own_parts (h := h2) (post (.o (.w [97]) (.n (.w [97]))))
  have q3 := (q1.trans q2).new (.cells (parts (post (.o (.w [97]) (.n (.w [97]))))).flatten true)
  have lo3 := lo2.new (.cells (parts (post (.o (.w [97]) (.n (.w [97]))))).flatten true)
  refine Gives.bind ((eval_ok k lo3 (e := .o (.w [97]) (.n (.w [97]))) ⟨good97, good97⟩ (by decide) sq SS.nil (sees_keep ls.su ls.lo q3) (by omega)).mono ?_)
  rintro u h4 ⟨s4, q4, lo4⟩
  have hv : val setI (setI U) (.o (.w [97]) (.n (.w [97]))) [] = ris (setI U) := by simp only [val, List.headD_nil, List.drop_nil, setI_nil, inter_nil, minus_nil, union_nil]
  rw [hv] at s4
  simp only [vms, vmc, AOpd.val, Nat.reduceEqDiff, reduceCtorEq, Nat.reduceAdd, Nat.reduceBEq, fillN1 u (sees_isDef s4) (sees_cell s4).1]
  have q5 : Quiet h4 (h4.new (.cells [u] true)) := (Quiet.refl _).new _
  refine Gives.bind ((union1_ok k.base (lo4.new _) (o := h4.next) get_new_same (sees_keep s4 lo4 q5) (by have := ris_len (setI U); have := setI_len U; omega)).mono ?_)
  intro v h5 n5
  simp only [vms, vmc, AOpd.val, Nat.reduceEqDiff, reduceCtorEq, Nat.reduceAdd, Nat.reduceBEq]
  have s5 := n5.sees
  rw [ris_ris] at s5
  refine go _ _ v ⟨by simp only [vms, vmc, AOpd.val, Nat.reduceEqDiff, reduceCtorEq, Nat.reduceAdd, Nat.reduceBEq, f0], by simp only [vms, vmc, AOpd.val, Nat.reduceEqDiff, reduceCtorEq, Nat.reduceAdd, Nat.reduceBEq, f1], by simp only [vms, vmc, AOpd.val, Nat.reduceEqDiff, reduceCtorEq, Nat.reduceAdd, Nat.reduceBEq, f3], by simp only [vms, vmc, AOpd.val, Nat.reduceEqDiff, reduceCtorEq, Nat.reduceAdd, Nat.reduceBEq, f11], by simp only [vms, vmc, AOpd.val, Nat.reduceEqDiff, reduceCtorEq, Nat.reduceAdd, Nat.reduceBEq, f12], by simp only [vms, vmc, AOpd.val, Nat.reduceEqDiff, reduceCtorEq, Nat.reduceAdd, Nat.reduceBEq, f15], by simp only [vms, vmc, AOpd.val, Nat.reduceEqDiff, reduceCtorEq, Nat.reduceAdd, Nat.reduceBEq, f16]⟩ (ls.keep (((q3.trans q4).trans q5).trans n5.qt) n5.lo) s5 ?_
  simp only [vms, vmc, AOpd.val, Nat.reduceEqDiff, reduceCtorEq, Nat.reduceAdd, Nat.reduceBEq]
theorem seg9 (k : BaseS T) (ls : LS h va vb al mi ot a b U ms os) (fs : FS f va vb al mi ot) (hU : U.length ≤ 40) (oka : OkE a) (okb : OkE b) (hab : (post a).length + (post b).length ≤ 40)
    (go : ∀ f' h' x y, FS f' va vb al mi ot → LS h' va vb al mi ot a b U ms os → Quiet h h' → Sees h' x (izs (vl U a ms)) → Sees h' y (izs (vl U b os)) → f'.at 17 = f.at 17 → f'.at 18 = x → f'.at 19 = y → Wp (code T rest f' h') Q) : Wp (code T (.seq (cFst t9) rest) f h) Q := by
  obtain ⟨f0, f1, f3, f11, f12, f15, f16⟩ := fs
  simp only [t9, t8, t6, cFst, cSnd, c7, vms, vmc, AOpd.val, Nat.reduceEqDiff, reduceCtorEq, Nat.reduceAdd, Nat.reduceBEq, f0, f1, f3, f11, f12, f15, f16]
  refine Gives.bind ((eval_ok k ls.lo oka (by omega) ls.sa ls.sm ls.su (by omega)).mono ?_)
  rintro x h1 ⟨s1, q1, lo1⟩
  simp only [vms, vmc, AOpd.val, Nat.reduceEqDiff, reduceCtorEq, Nat.reduceAdd, Nat.reduceBEq, f0, f1, f3, f11, f12, f15, f16]
  have ls1 := ls.keep q1 lo1
  refine Gives.bind ((eval_ok k lo1 okb (by omega) ls1.sb ls1.so ls1.su (by omega)).mono ?_)
  rintro y h2 ⟨s2, q2, lo2⟩
  simp only [vms, vmc, AOpd.val, Nat.reduceEqDiff, reduceCtorEq, Nat.reduceAdd, Nat.reduceBEq]
  refine go _ _ x y ⟨by simp only [vms, vmc, AOpd.val, Nat.reduceEqDiff, reduceCtorEq, Nat.reduceAdd, Nat.reduceBEq, f0], by simp only [vms, vmc, AOpd.val, Nat.reduceEqDiff, reduceCtorEq, Nat.reduceAdd, Nat.reduceBEq, f1], by simp only [vms, vmc, AOpd.val, Nat.reduceEqDiff, reduceCtorEq, Nat.reduceAdd, Nat.reduceBEq, f3], by simp only [vms, vmc, AOpd.val, Nat.reduceEqDiff, reduceCtorEq, Nat.reduceAdd, Nat.reduceBEq, f11], by simp only [vms, vmc, AOpd.val, Nat.reduceEqDiff, reduceCtorEq, Nat.reduceAdd, Nat.reduceBEq, f12], by simp only [vms, vmc, AOpd.val, Nat.reduceEqDiff, reduceCtorEq, Nat.reduceAdd, Nat.reduceBEq, f15], by simp only [vms, vmc, AOpd.val, Nat.reduceEqDiff, reduceCtorEq, Nat.reduceAdd, Nat.reduceBEq, f16]⟩ (ls1.keep q2 lo2) (q1.trans q2) (sees_keep s1 lo1 q2) s2 ?_ ?_ ?_
  all_goals simp only [vms, vmc, AOpd.val, Nat.reduceEqDiff, reduceCtorEq, Nat.reduceAdd, Nat.reduceBEq]
theorem seg10 (k : BaseS T) (ls : LS h va vb al mi ot a b U ms os) (fs : FS f va vb al mi ot) (hU : U.length ≤ 40) (oka : OkE a) (okb : OkE b) (hab : (post a).length + (post b).length ≤ 40)
    (go : ∀ f' h' w, FS f' va vb al mi ot → LS h' va vb al mi ot a b U ms os → Quiet h h' → Sees h' w (izs (vl U (.n a) ms)) → f'.at 17 = f.at 17 → f'.at 18 = f.at 18 → f'.at 19 = f.at 19 → f'.at 20 = w → Wp (code T rest f' h') Q) : Wp (code T (.seq (cFst t10) rest) f h) Q := by
  obtain ⟨f0, f1, f3, f11, f12, f15, f16⟩ := fs
  simp only [t10, t9, t8, t6, cFst, cSnd, c7, vms, vmc, AOpd.val, Nat.reduceEqDiff, reduceCtorEq, Nat.reduceAdd, Nat.reduceBEq, f0, f1, f3, f11, f12, f15, f16, step_callV, callVal_func]
  refine Gives.bind ((part1_ok k.base ls.lo 4).mono ?_)
  rintro _ p1 ⟨rfl, pq1, pl1⟩
  simp only [vms, vmc, AOpd.val, Nat.reduceEqDiff, reduceCtorEq, Nat.reduceAdd, Nat.reduceBEq, fillP, f0, f1, f3, f11, f12, f15, f16, step_callV, callVal_func]
  have pq3 := pq1.new (.cells [.int .i64 4, .str []] true)
  have pl3 := pl1.new (.cells [.int .i64 4, .str []] true)
  have ps3 := ls.keep pq3 pl3
  refine Gives.bind ((join_ok k.base pl3 ps3.sa (b := []) (.inl ⟨rfl, rfl⟩) (own_parts (h := p1) [(4, [])]) (by simp; try omega)).mono ?_)
  rintro pv p4 ⟨ps4, pq4, pl4⟩
  rw [show post a ++ [] ++ [(4, [])] = post (.n a) by simp [post]] at ps4
  have ps5 := ps3.keep pq4 pl4
  simp only [vms, vmc, AOpd.val, Nat.reduceEqDiff, reduceCtorEq, Nat.reduceAdd, Nat.reduceBEq, f0, f1, f3, f11, f12, f15, f16]
  refine Gives.bind ((eval_ok k pl4 (e := (.n a)) oka (by simp [post]; try omega) ps4 ps5.sm ps5.su (by omega)).mono ?_)
  rintro pw p6 ⟨ps6, pq6, pl6⟩
  have pq := (pq3.trans pq4).trans pq6
  have pls := ps5.keep pq6 pl6
  simp only [vms, vmc, AOpd.val, Nat.reduceEqDiff, reduceCtorEq, Nat.reduceAdd, Nat.reduceBEq]
  refine go _ _ pw ⟨by simp only [vms, vmc, AOpd.val, Nat.reduceEqDiff, reduceCtorEq, Nat.reduceAdd, Nat.reduceBEq, f0], by simp only [vms, vmc, AOpd.val, Nat.reduceEqDiff, reduceCtorEq, Nat.reduceAdd, Nat.reduceBEq, f1], by simp only [vms, vmc, AOpd.val, Nat.reduceEqDiff, reduceCtorEq, Nat.reduceAdd, Nat.reduceBEq, f3], by simp only [vms, vmc, AOpd.val, Nat.reduceEqDiff, reduceCtorEq, Nat.reduceAdd, Nat.reduceBEq, f11], by simp only [vms, vmc, AOpd.val, Nat.reduceEqDiff, reduceCtorEq, Nat.reduceAdd, Nat.reduceBEq, f12], by simp only [vms, vmc, AOpd.val, Nat.reduceEqDiff, reduceCtorEq, Nat.reduceAdd, Nat.reduceBEq, f15], by simp only [vms, vmc, AOpd.val, Nat.reduceEqDiff, reduceCtorEq, Nat.reduceAdd, Nat.reduceBEq, f16]⟩ pls pq ps6 ?_ ?_ ?_ ?_
  all_goals simp only [vms, vmc, AOpd.val, Nat.reduceEqDiff, reduceCtorEq, Nat.reduceAdd, Nat.reduceBEq]
theorem seg11 (k : BaseS T) (ls : LS h va vb al mi ot a b U ms os) (fs : FS f va vb al mi ot) (hU : U.length ≤ 40) (oka : OkE a) (okb : OkE b) (hab : (post a).length + (post b).length ≤ 40)
    (go : ∀ f' h' w, FS f' va vb al mi ot → LS h' va vb al mi ot a b U ms os → Quiet h h' → Sees h' w (izs (vl U (.n b) os)) → f'.at 17 = f.at 17 → f'.at 18 = f.at 18 → f'.at 19 = f.at 19 → f'.at 20 = f.at 20 → f'.at 21 = w → Wp (code T rest f' h') Q) : Wp (code T (.seq (cFst t11) rest) f h) Q := by
  obtain ⟨f0, f1, f3, f11, f12, f15, f16⟩ := fs
  simp only [t11, t10, t9, t8, t6, cFst, cSnd, c7, vms, vmc, AOpd.val, Nat.reduceEqDiff, reduceCtorEq, Nat.reduceAdd, Nat.reduceBEq, f0, f1, f3, f11, f12, f15, f16, step_callV, callVal_func]
  refine Gives.bind ((part1_ok k.base ls.lo 4).mono ?_)
  rintro _ p1 ⟨rfl, pq1, pl1⟩
  simp only [vms, vmc, AOpd.val, Nat.reduceEqDiff, reduceCtorEq, Nat.reduceAdd, Nat.reduceBEq, fillP, f0, f1, f3, f11, f12, f15, f16, step_callV, callVal_func]
  have pq3 := pq1.new (.cells [.int .i64 4, .str []] true)
  have pl3 := pl1.new (.cells [.int .i64 4, .str []] true)
  have ps3 := ls.keep pq3 pl3
  refine Gives.bind ((join_ok k.base pl3 ps3.sb (b := []) (.inl ⟨rfl, rfl⟩) (own_parts (h := p1) [(4, [])]) (by simp; try omega)).mono ?_)
  rintro pv p4 ⟨ps4, pq4, pl4⟩
  rw [show post b ++ [] ++ [(4, [])] = post (.n b) by simp [post]] at ps4
  have ps5 := ps3.keep pq4 pl4
  simp only [vms, vmc, AOpd.val, Nat.reduceEqDiff, reduceCtorEq, Nat.reduceAdd, Nat.reduceBEq, f0, f1, f3, f11, f12, f15, f16]
  refine Gives.bind ((eval_ok k pl4 (e := (.n b)) okb (by simp [post]; try omega) ps4 ps5.so ps5.su (by omega)).mono ?_)
  rintro pw p6 ⟨ps6, pq6, pl6⟩
  have pq := (pq3.trans pq4).trans pq6
  have pls := ps5.keep pq6 pl6
  simp only [vms, vmc, AOpd.val, Nat.reduceEqDiff, reduceCtorEq, Nat.reduceAdd, Nat.reduceBEq]
  refine go _ _ pw ⟨by simp only [vms, vmc, AOpd.val, Nat.reduceEqDiff, reduceCtorEq, Nat.reduceAdd, Nat.reduceBEq, f0], by simp only [vms, vmc, AOpd.val, Nat.reduceEqDiff, reduceCtorEq, Nat.reduceAdd, Nat.reduceBEq, f1], by simp only [vms, vmc, AOpd.val, Nat.reduceEqDiff, reduceCtorEq, Nat.reduceAdd, Nat.reduceBEq, f3], by simp only [vms, vmc, AOpd.val, Nat.reduceEqDiff, reduceCtorEq, Nat.reduceAdd, Nat.reduceBEq, f11], by simp only [vms, vmc, AOpd.val, Nat.reduceEqDiff, reduceCtorEq, Nat.reduceAdd, Nat.reduceBEq, f12], by simp only [vms, vmc, AOpd.val, Nat.reduceEqDiff, reduceCtorEq, Nat.reduceAdd, Nat.reduceBEq, f15], by simp only [vms, vmc, AOpd.val, Nat.reduceEqDiff, reduceCtorEq, Nat.reduceAdd, Nat.reduceBEq, f16]⟩ pls pq ps6 ?_ ?_ ?_ ?_ ?_
  all_goals simp only [vms, vmc, AOpd.val, Nat.reduceEqDiff, reduceCtorEq, Nat.reduceAdd, Nat.reduceBEq]
theorem seg12 (k : BaseS T) (ls : LS h va vb al mi ot a b U ms os) (fs : FS f va vb al mi ot) (hU : U.length ≤ 40) (oka : OkE a) (okb : OkE b) (hab : (post a).length + (post b).length ≤ 40)
    (go : ∀ f' h' w z, FS f' va vb al mi ot → LS h' va vb al mi ot a b U ms os → Quiet h h' → Sees h' w (izs (vl U (.a a b) ms)) → Sees h' z (izs (vl U (.o a b) ms)) → f'.at 17 = f.at 17 → f'.at 18 = f.at 18 → f'.at 19 = f.at 19 → f'.at 20 = f.at 20 → f'.at 21 = f.at 21 → f'.at 22 = w → f'.at 23 = z → Wp (code T rest f' h') Q) : Wp (code T (.seq (cFst t12) rest) f h) Q := by
  obtain ⟨f0, f1, f3, f11, f12, f15, f16⟩ := fs
  simp only [t12, t11, t10, t9, t8, t6, cFst, cSnd, c7, vms, vmc, AOpd.val, Nat.reduceEqDiff, reduceCtorEq, Nat.reduceAdd, Nat.reduceBEq, f0, f1, f3, f11, f12, f15, f16, step_callV, callVal_func]
  refine Gives.bind ((part1_ok k.base ls.lo 2).mono ?_)
  rintro _ p1 ⟨rfl, pq1, pl1⟩
  simp only [vms, vmc, AOpd.val, Nat.reduceEqDiff, reduceCtorEq, Nat.reduceAdd, Nat.reduceBEq, fillP, f0, f1, f3, f11, f12, f15, f16, step_callV, callVal_func]
  have pq3 := pq1.new (.cells [.int .i64 2, .str []] true)
  have pl3 := pl1.new (.cells [.int .i64 2, .str []] true)
  have ps3 := ls.keep pq3 pl3
  refine Gives.bind ((join_ok k.base pl3 ps3.sa ps3.sb (own_parts (h := p1) [(2, [])]) (by simp; try omega)).mono ?_)
  rintro pv p4 ⟨ps4, pq4, pl4⟩
  rw [show post a ++ post b ++ [(2, [])] = post (.a a b) by simp [post]] at ps4
  have ps5 := ps3.keep pq4 pl4
  simp only [vms, vmc, AOpd.val, Nat.reduceEqDiff, reduceCtorEq, Nat.reduceAdd, Nat.reduceBEq, f0, f1, f3, f11, f12, f15, f16]
  refine Gives.bind ((eval_ok k pl4 (e := (.a a b)) ⟨oka, okb⟩ (by simp [post]; try omega) ps4 ps5.sm ps5.su (by omega)).mono ?_)
  rintro pw p6 ⟨ps6, pq6, pl6⟩
  have pq := (pq3.trans pq4).trans pq6
  have pls := ps5.keep pq6 pl6
  simp only [vms, vmc, AOpd.val, Nat.reduceEqDiff, reduceCtorEq, Nat.reduceAdd, Nat.reduceBEq, f0, f1, f3, f11, f12, f15, f16, step_callV, callVal_func]
  refine Gives.bind ((part1_ok k.base pl6 3).mono ?_)
  rintro _ r1 ⟨rfl, rq1, rl1⟩
  simp only [vms, vmc, AOpd.val, Nat.reduceEqDiff, reduceCtorEq, Nat.reduceAdd, Nat.reduceBEq, fillP, f0, f1, f3, f11, f12, f15, f16, step_callV, callVal_func]
  have rq3 := rq1.new (.cells [.int .i64 3, .str []] true)
  have rl3 := rl1.new (.cells [.int .i64 3, .str []] true)
  have rs3 := pls.keep rq3 rl3
  refine Gives.bind ((join_ok k.base rl3 rs3.sa rs3.sb (own_parts (h := r1) [(3, [])]) (by simp; try omega)).mono ?_)
  rintro rv r4 ⟨rs4, rq4, rl4⟩
  rw [show post a ++ post b ++ [(3, [])] = post (.o a b) by simp [post]] at rs4
  have rs5 := rs3.keep rq4 rl4
  simp only [vms, vmc, AOpd.val, Nat.reduceEqDiff, reduceCtorEq, Nat.reduceAdd, Nat.reduceBEq, f0, f1, f3, f11, f12, f15, f16]
  refine Gives.bind ((eval_ok k rl4 (e := (.o a b)) ⟨oka, okb⟩ (by simp [post]; try omega) rs4 rs5.sm rs5.su (by omega)).mono ?_)
  rintro rw r6 ⟨rs6, rq6, rl6⟩
  have rq := (rq3.trans rq4).trans rq6
  have rls := rs5.keep rq6 rl6
  simp only [vms, vmc, AOpd.val, Nat.reduceEqDiff, reduceCtorEq, Nat.reduceAdd, Nat.reduceBEq]
  refine go _ _ pw rw ⟨by simp only [vms, vmc, AOpd.val, Nat.reduceEqDiff, reduceCtorEq, Nat.reduceAdd, Nat.reduceBEq, f0], by simp only [vms, vmc, AOpd.val, Nat.reduceEqDiff, reduceCtorEq, Nat.reduceAdd, Nat.reduceBEq, f1], by simp only [vms, vmc, AOpd.val, Nat.reduceEqDiff, reduceCtorEq, Nat.reduceAdd, Nat.reduceBEq, f3], by simp only [vms, vmc, AOpd.val, Nat.reduceEqDiff, reduceCtorEq, Nat.reduceAdd, Nat.reduceBEq, f11], by simp only [vms, vmc, AOpd.val, Nat.reduceEqDiff, reduceCtorEq, Nat.reduceAdd, Nat.reduceBEq, f12], by simp only [vms, vmc, AOpd.val, Nat.reduceEqDiff, reduceCtorEq, Nat.reduceAdd, Nat.reduceBEq, f15], by simp only [vms, vmc, AOpd.val, Nat.reduceEqDiff, reduceCtorEq, Nat.reduceAdd, Nat.reduceBEq, f16]⟩ rls (pq.trans rq) (sees_keep ps6 pl6 rq) rs6 ?_ ?_ ?_ ?_ ?_ ?_ ?_
  all_goals simp only [vms, vmc, AOpd.val, Nat.reduceEqDiff, reduceCtorEq, Nat.reduceAdd, Nat.reduceBEq]
theorem seg14 (k : BaseS T) (ls : LS h va vb al mi ot a b U ms os) (fs : FS f va vb al mi ot) (hU : U.length ≤ 40) (oka : OkE a) (okb : OkE b) (hab : (post a).length + (post b).length ≤ 40)
    (go : ∀ f' h' w, FS f' va vb al mi ot → LS h' va vb al mi ot a b U ms os → Quiet h h' → Sees h' w (izs (vl U (.n (.a a b)) ms)) → f'.at 17 = f.at 17 → f'.at 18 = f.at 18 → f'.at 19 = f.at 19 → f'.at 20 = f.at 20 → f'.at 21 = f.at 21 → f'.at 24 = w → Wp (code T rest f' h') Q) : Wp (code T (.seq (cFst t14) rest) f h) Q := by
  obtain ⟨f0, f1, f3, f11, f12, f15, f16⟩ := fs
  simp only [t14, t13, t12, t11, t10, t9, t8, t6, cFst, cSnd, c7, vms, vmc, AOpd.val, Nat.reduceEqDiff, reduceCtorEq, Nat.reduceAdd, Nat.reduceBEq, f0, f1, f3, f11, f12, f15, f16, step_callV, callVal_func]
  refine Gives.bind ((part1_ok k.base ls.lo 2).mono ?_)
  rintro _ p1 ⟨rfl, pq1, pl1⟩
  simp only [vms, vmc, AOpd.val, Nat.reduceEqDiff, reduceCtorEq, Nat.reduceAdd, Nat.reduceBEq, f0, f1, f3, f11, f12, f15, f16, step_callV, callVal_func]
  refine Gives.bind ((part1_ok k.base pl1 4).mono ?_)
  rintro _ p2 ⟨rfl, pq2, pl2⟩
  simp only [vms, vmc, AOpd.val, Nat.reduceEqDiff, reduceCtorEq, Nat.reduceAdd, Nat.reduceBEq, fillPP, f0, f1, f3, f11, f12, f15, f16, step_callV, callVal_func]
  have pq3 := (pq1.trans pq2).new (.cells [.int .i64 2, .str [], .int .i64 4, .str []] true)
  have pl3 := pl2.new (.cells [.int .i64 2, .str [], .int .i64 4, .str []] true)
  have ps3 := ls.keep pq3 pl3
  refine Gives.bind ((join_ok k.base pl3 ps3.sa ps3.sb (own_parts (h := p2) [(2, []), (4, [])]) (by simp; try omega)).mono ?_)
  rintro pv p4 ⟨ps4, pq4, pl4⟩
  rw [show post a ++ post b ++ [(2, []), (4, [])] = post (.n (.a a b)) by simp [post]] at ps4
  have ps5 := ps3.keep pq4 pl4
  simp only [vms, vmc, AOpd.val, Nat.reduceEqDiff, reduceCtorEq, Nat.reduceAdd, Nat.reduceBEq, f0, f1, f3, f11, f12, f15, f16]
  refine Gives.bind ((eval_ok k pl4 (e := (.n (.a a b))) ⟨oka, okb⟩ (by simp [post]; try omega) ps4 ps5.sm ps5.su (by omega)).mono ?_)
  rintro pw p6 ⟨ps6, pq6, pl6⟩
  have pq := (pq3.trans pq4).trans pq6
  have pls := ps5.keep pq6 pl6
  simp only [vms, vmc, AOpd.val, Nat.reduceEqDiff, reduceCtorEq, Nat.reduceAdd, Nat.reduceBEq]
  refine go _ _ pw ⟨by simp only [vms, vmc, AOpd.val, Nat.reduceEqDiff, reduceCtorEq, Nat.reduceAdd, Nat.reduceBEq, f0], by simp only [vms, vmc, AOpd.val, Nat.reduceEqDiff, reduceCtorEq, Nat.reduceAdd, Nat.reduceBEq, f1], by simp only [vms, vmc, AOpd.val, Nat.reduceEqDiff, reduceCtorEq, Nat.reduceAdd, Nat.reduceBEq, f3], by simp only [vms, vmc, AOpd.val, Nat.reduceEqDiff, reduceCtorEq, Nat.reduceAdd, Nat.reduceBEq, f11], by simp only [vms, vmc, AOpd.val, Nat.reduceEqDiff, reduceCtorEq, Nat.reduceAdd, Nat.reduceBEq, f12], by simp only [vms, vmc, AOpd.val, Nat.reduceEqDiff, reduceCtorEq, Nat.reduceAdd, Nat.reduceBEq, f15], by simp only [vms, vmc, AOpd.val, Nat.reduceEqDiff, reduceCtorEq, Nat.reduceAdd, Nat.reduceBEq, f16]⟩ pls pq ps6 ?_ ?_ ?_ ?_ ?_ ?_
  all_goals simp only [vms, vmc, AOpd.val, Nat.reduceEqDiff, reduceCtorEq, Nat.reduceAdd, Nat.reduceBEq]
end Go.Proofs.Ytjbkjffolnodjaa
/- Chapter 23: the law of queries on sets: what is compared. -/
namespace Go.Proofs.Ytjbkjffolnodjaa
open Go.Vm
set_option linter.unusedSimpArgs false
set_option linter.unusedVariables false
set_option maxRecDepth 100000
variable {T : Vm.Prog} {h h0 h' : AH}
variable {va vb al mi ot : AV} {a b : Ex} {U : List Int} {ms os : List (List Int)} {f : Fr} {rest : ACode} {Q : AExit → Fr → AH → Prop}
theorem z0 : (((0 : Nat) : Int) != 0) = false := rfl
/-- Two lists in a row, what comes of it, as the machine has it. -/
theorem fill2 {x y : AV} {xs ys : List AV} (sx : Sees h x xs) (sy : Sees h' y ys) : fillV [AV.nilSlice, .nilSlice] [(0, 1, x), (1, 1, y)] = some [x, y] := fillTwo (sees_isDef sx) (sees_isDef sy) (sees_cell sx).1 (sees_cell sy).1
theorem interQ (k : Base T) (hl : Low h) {x y : AV} {X Y : List Int} (sx : Sees h x (izs X)) (sy : Sees h y (izs Y)) (hx : X.length ≤ 40) (hy : Y.length ≤ 40) : Gives T 21 [.slice h.next 0 1 2 2 true] (h.new (.cells [x, y] true)) fun r h' => Sees h' r (izs (inter X Y)) ∧ Quiet h h' ∧ Low h' := by
  have q1 : Quiet h (h.new (.cells [x, y] true)) := (Quiet.refl _).new _
  refine (inter_ok k (hl.new _) (own_two x y) (sees_keep sx hl q1) (sees_keep sy hl q1) (by omega) (by omega)).mono ?_
  intro r h' n
  exact ⟨n.sees, q1.trans n.qt, n.lo⟩
theorem unionQ (k : Base T) (hl : Low h) {x y : AV} {X Y : List Int} (sx : Sees h x (izs X)) (sy : Sees h y (izs Y)) (hx : X.length ≤ 40) (hy : Y.length ≤ 40) : Gives T 20 [.slice h.next 0 1 2 2 true] (h.new (.cells [x, y] true)) fun r h' => Sees h' r (izs (union2 X Y)) ∧ Quiet h h' ∧ Low h' := by
  have q1 : Quiet h (h.new (.cells [x, y] true)) := (Quiet.refl _).new _
  refine (union2_ok k (hl.new _) (own_two x y) (sees_keep sx hl q1) (sees_keep sy hl q1) (by omega) (by omega)).mono ?_
  intro r h' n
  exact ⟨n.sees, q1.trans n.qt, n.lo⟩
theorem seg13 (k : BaseS T) (ls : LS h va vb al mi ot a b U ms os) (fs : FS f va vb al mi ot) (hU : U.length ≤ 40) {u x y nx w z : AV} {X Y : List Int} (hX : Sub (ris (setI U)) X) (lX : X.length ≤ 40) (lY : Y.length ≤ 40)
    (s17 : Sees h u (izs (ris (setI U)))) (s18 : Sees h x (izs X)) (s19 : Sees h y (izs Y)) (s20 : Sees h nx (izs (minus (setI U) X))) (s22 : Sees h w (izs (inter X Y))) (s23 : Sees h z (izs (union2 X Y)))
    (f17 : f.at 17 = u) (f18 : f.at 18 = x) (f19 : f.at 19 = y) (f20 : f.at 20 = nx) (f22 : f.at 22 = w) (f23 : f.at 23 = z)
    (go : ∀ f' h', FS f' va vb al mi ot → LS h' va vb al mi ot a b U ms os → Quiet h h' → f'.at 18 = f.at 18 → f'.at 20 = f.at 20 → f'.at 21 = f.at 21 → Wp (code T rest f' h') Q) : Wp (code T (.seq (cFst t13) rest) f h) Q := by
  obtain ⟨f0, f1, f3, f11, f12, f15, f16⟩ := fs
  have lU : (ris (setI U)).length ≤ 40 := by have := ris_len (setI U); have := setI_len U; omega
  have lN : (minus (setI U) X).length ≤ 40 := by have := sub_len (ris_up _) (minus_sub (U := setI U) (x := X)); omega
  have lI : (inter X Y).length ≤ 40 := by have := sub_len (ris_up _) (inter_sub (y := Y) hX); omega
  have lV : (union2 X Y).length ≤ 80 := by have := mer_len (ris X) (ris Y); have := ris_len X; have := ris_len Y; unfold union2; omega
  have lW : (union2 X (minus (setI U) X)).length ≤ 40 := by rw [law_all hX]; exact lU
  simp only [t13, t12, t11, t10, t9, t8, t6, cFst, cSnd, c7, vms, vmc, AOpd.val, Nat.reduceEqDiff, reduceCtorEq, Nat.reduceAdd, Nat.reduceBEq, f18, f19, f22, fill2 s18 s19]
  refine Gives.bind ((interQ k.base ls.lo s18 s19 lX lY).mono ?_)
  rintro r1 h1 ⟨n1, q1, lo1⟩
  simp only [vms, vmc, AOpd.val, Nat.reduceEqDiff, reduceCtorEq, Nat.reduceAdd, Nat.reduceBEq]
  refine Gives.bind ((same_eq k.base (sees_keep s22 ls.lo q1) n1 rfl (by omega)).mono ?_)
  rintro _ _ ⟨rfl, rfl⟩
  simp only [vms, vmc, AOpd.val, Nat.reduceEqDiff, reduceCtorEq, Nat.reduceAdd, Nat.reduceBEq, f18, f19, f23, fill2 s18 s19]
  refine Gives.bind ((unionQ k.base lo1 (sees_keep s18 ls.lo q1) (sees_keep s19 ls.lo q1) lX lY).mono ?_)
  rintro r2 h2 ⟨n2, q2, lo2⟩
  have g2 := q1.trans q2
  simp only [vms, vmc, AOpd.val, Nat.reduceEqDiff, reduceCtorEq, Nat.reduceAdd, Nat.reduceBEq]
  refine Gives.bind ((same_eq k.base (sees_keep s23 ls.lo g2) n2 rfl (by omega)).mono ?_)
  rintro _ _ ⟨rfl, rfl⟩
  simp only [vms, vmc, AOpd.val, Nat.reduceEqDiff, reduceCtorEq, Nat.reduceAdd, Nat.reduceBEq, f18, f20, fill2 s18 s20]
  refine Gives.bind ((interQ k.base lo2 (sees_keep s18 ls.lo g2) (sees_keep s20 ls.lo g2) lX lN).mono ?_)
  rintro r3 h3 ⟨n3, q3, lo3⟩
  have g3 := g2.trans q3
  have ln3 : lenOfV r3 = some 0 := by rw [n3.len, law_none hX]; rfl
  simp only [vms, vmc, AOpd.val, Nat.reduceEqDiff, reduceCtorEq, Nat.reduceAdd, Nat.reduceBEq, ln3, z0, f17, f18, f20, fill2 s18 s20]
  refine Gives.bind ((unionQ k.base lo3 (sees_keep s18 ls.lo g3) (sees_keep s20 ls.lo g3) lX lN).mono ?_)
  rintro r4 h4 ⟨n4, q4, lo4⟩
  have g4 := g3.trans q4
  simp only [vms, vmc, AOpd.val, Nat.reduceEqDiff, reduceCtorEq, Nat.reduceAdd, Nat.reduceBEq, f17]
  refine Gives.bind ((same_eq k.base n4 (sees_keep s17 ls.lo g4) (law_all hX) (by omega)).mono ?_)
  rintro _ _ ⟨rfl, rfl⟩
  simp only [vms, vmc, AOpd.val, Nat.reduceEqDiff, reduceCtorEq, Nat.reduceAdd, Nat.reduceBEq]
  refine go _ _ ⟨by simp only [vms, vmc, AOpd.val, Nat.reduceEqDiff, reduceCtorEq, Nat.reduceAdd, Nat.reduceBEq, f0], by simp only [vms, vmc, AOpd.val, Nat.reduceEqDiff, reduceCtorEq, Nat.reduceAdd, Nat.reduceBEq, f1], by simp only [vms, vmc, AOpd.val, Nat.reduceEqDiff, reduceCtorEq, Nat.reduceAdd, Nat.reduceBEq, f3], by simp only [vms, vmc, AOpd.val, Nat.reduceEqDiff, reduceCtorEq, Nat.reduceAdd, Nat.reduceBEq, f11], by simp only [vms, vmc, AOpd.val, Nat.reduceEqDiff, reduceCtorEq, Nat.reduceAdd, Nat.reduceBEq, f12], by simp only [vms, vmc, AOpd.val, Nat.reduceEqDiff, reduceCtorEq, Nat.reduceAdd, Nat.reduceBEq, f15], by simp only [vms, vmc, AOpd.val, Nat.reduceEqDiff, reduceCtorEq, Nat.reduceAdd, Nat.reduceBEq, f16]⟩ (ls.keep g4 lo4) g4 ?_ ?_ ?_
  all_goals simp only [vms, vmc, AOpd.val, Nat.reduceEqDiff, reduceCtorEq, Nat.reduceAdd, Nat.reduceBEq]
theorem seg15 (k : BaseS T) (yes : ∀ h, Gives T 3 [] h fun r h' => r = .bool true ∧ h' = h) (ls : LS h va vb al mi ot a b U ms os) (fs : FS f va vb al mi ot) (hU : U.length ≤ 40) (oka : OkE a) (okb : OkE b) (hab : (post a).length + (post b).length ≤ 40) (e : os = ms.drop (leaves a)) {x nx ny c : AV}
    (s18 : Sees h x (izs (vl U a ms))) (s20 : Sees h nx (izs (vl U (.n a) ms))) (s21 : Sees h ny (izs (vl U (.n b) os))) (s24 : Sees h c (izs (vl U (.n (.a a b)) ms)))
    (f18 : f.at 18 = x) (f20 : f.at 20 = nx) (f21 : f.at 21 = ny) (f24 : f.at 24 = c) : Wp (code T t15 f h) (Vm.Ends [.tmp 8] fun r _ => r = .bool true) := by
  obtain ⟨f0, f1, f3, f11, f12, f15, f16⟩ := fs
  have l1 := val_len hU (.n a) ms
  have l2 := val_len hU (.n b) os
  have l3 := val_len hU (.n (.a a b)) ms
  have law1 : vl U (.n (.a a b)) ms = union2 (vl U (.n a) ms) (vl U (.n b) os) := by
    rw [e]
    exact law_and (val_sub setI (setI U) a ms) (val_sub setI (setI U) b _)
  have law2 : vl U (.n (.n a)) ms = vl U a ms := law_twice (val_sub setI (setI U) a ms)
  simp only [t15, t14, t13, t12, t11, t10, t9, t8, t6, cFst, cSnd, c7, vms, vmc, AOpd.val, Nat.reduceEqDiff, reduceCtorEq, Nat.reduceAdd, Nat.reduceBEq, f20, f21, f24, fill2 s20 s21]
  refine Gives.bind ((unionQ k.base ls.lo s20 s21 l1 l2).mono ?_)
  rintro r1 h1 ⟨n1, q1, lo1⟩
  simp only [vms, vmc, AOpd.val, Nat.reduceEqDiff, reduceCtorEq, Nat.reduceAdd, Nat.reduceBEq]
  refine Gives.bind ((same_eq k.base (sees_keep s24 ls.lo q1) n1 law1 (Nat.lt_of_le_of_lt l3 (by decide))).mono ?_)
  rintro _ _ ⟨rfl, rfl⟩
  have ls1 := ls.keep q1 lo1
  simp only [vms, vmc, AOpd.val, Nat.reduceEqDiff, reduceCtorEq, Nat.reduceAdd, Nat.reduceBEq, f0, f1, f3, f11, f12, f15, f16, step_callV, callVal_func]
  refine Gives.bind ((part1_ok k.base lo1 4).mono ?_)
  rintro _ p1 ⟨rfl, pq1, pl1⟩
  simp only [vms, vmc, AOpd.val, Nat.reduceEqDiff, reduceCtorEq, Nat.reduceAdd, Nat.reduceBEq, f0, f1, f3, f11, f12, f15, f16, step_callV, callVal_func]
  refine Gives.bind ((part1_ok k.base pl1 4).mono ?_)
  rintro _ p2 ⟨rfl, pq2, pl2⟩
  simp only [vms, vmc, AOpd.val, Nat.reduceEqDiff, reduceCtorEq, Nat.reduceAdd, Nat.reduceBEq, fillPP, f0, f1, f3, f11, f12, f15, f16, step_callV, callVal_func]
  have pq3 := (pq1.trans pq2).new (.cells [.int .i64 4, .str [], .int .i64 4, .str []] true)
  have pl3 := pl2.new (.cells [.int .i64 4, .str [], .int .i64 4, .str []] true)
  have ps3 := ls1.keep pq3 pl3
  refine Gives.bind ((join_ok k.base pl3 ps3.sa (b := []) (.inl ⟨rfl, rfl⟩) (own_parts (h := p2) [(4, []), (4, [])]) (by simp; try omega)).mono ?_)
  rintro pv p4 ⟨ps4, pq4, pl4⟩
  rw [show post a ++ [] ++ [(4, []), (4, [])] = post (.n (.n a)) by simp [post]] at ps4
  have ps5 := ps3.keep pq4 pl4
  simp only [vms, vmc, AOpd.val, Nat.reduceEqDiff, reduceCtorEq, Nat.reduceAdd, Nat.reduceBEq, f0, f1, f3, f11, f12, f15, f16]
  refine Gives.bind ((eval_ok k pl4 (e := (.n (.n a))) oka (by simp [post]; try omega) ps4 ps5.sm ps5.su (by omega)).mono ?_)
  rintro pw p6 ⟨ps6, pq6, pl6⟩
  have pq := (pq3.trans pq4).trans pq6
  have pls := ps5.keep pq6 pl6
  rw [show val setI (setI U) (.n (.n a)) ms = vl U a ms from law2] at ps6
  simp only [vms, vmc, AOpd.val, Nat.reduceEqDiff, reduceCtorEq, Nat.reduceAdd, Nat.reduceBEq, f18]
  refine Gives.bind ((same_eq k.base ps6 (sees_keep s18 ls.lo (q1.trans pq)) rfl (Nat.lt_of_le_of_lt (val_len hU a ms) (by decide))).mono ?_)
  rintro _ _ ⟨rfl, rfl⟩
  simp only [vms, vmc, AOpd.val, Nat.reduceEqDiff, reduceCtorEq, Nat.reduceAdd, Nat.reduceBEq]
  refine Gives.bind ((yes _).mono ?_)
  rintro _ _ ⟨rfl, rfl⟩
  simp only [vms, vmc, AOpd.val, Nat.reduceEqDiff, reduceCtorEq, Nat.reduceAdd, Nat.reduceBEq]
/-- Behind the loops. -/
theorem laws_tail (k : BaseS T) (yes : ∀ h, Gives T 3 [] h fun r h' => r = .bool true ∧ h' = h) (ls : LS h va vb al mi ot a b U ms os) (hU : U.length ≤ 40) (oka : OkE a) (okb : OkE b) (hab : (post a).length + (post b).length ≤ 40) (e : os = ms.drop (leaves a))
    (f0 : f.at 0 = va) (f1 : f.at 1 = vb) (f3 : f.at 3 = al) (f11 : f.at 11 = mi) (f12 : f.at 12 = ot) : Wp (code T t6 f h) (Vm.Ends [.tmp 8] fun r _ => r = .bool true) := by
  have e6 : t6 = .seq (cFst t6) (.seq (cFst (cSnd t6)) (.seq (cFst t8) t9)) := rfl
  rw [e6]
  have h9 : t9 = .seq (cFst t9) t10 := rfl
  have h10 : t10 = .seq (cFst t10) t11 := rfl
  have h11 : t11 = .seq (cFst t11) t12 := rfl
  have h12 : t12 = .seq (cFst t12) t13 := rfl
  have h13 : t13 = .seq (cFst t13) t14 := rfl
  have h14 : t14 = .seq (cFst t14) t15 := rfl
  have b9 : ∀ (f : Fr) (h : AH) v, FS f va vb al mi ot → LS h va vb al mi ot a b U ms os → Sees h v (izs (ris (setI U))) → f.at 17 = v → Wp (code T t9 f h) (Vm.Ends [.tmp 8] fun r _ => r = .bool true) := by
    intro f h v fs ls s17 g17
    rw [h9]
    refine seg9 k ls fs hU oka okb hab fun f1 h1 x y fs1 ls1 q1 s18 s19 a17 g18 g19 => ?_
    rw [g17] at a17
    have s17 := sees_keep s17 ls.lo q1
    rw [h10]
    refine seg10 k ls1 fs1 hU oka okb hab fun f2 h2 nx fs2 ls2 q2 s20 b17 b18 b19 g20 => ?_
    rw [a17] at b17; rw [g18] at b18; rw [g19] at b19
    have s17 := sees_keep s17 ls1.lo q2
    have s18 := sees_keep s18 ls1.lo q2
    have s19 := sees_keep s19 ls1.lo q2
    rw [h11]
    refine seg11 k ls2 fs2 hU oka okb hab fun f3 h3 ny fs3 ls3 q3 s21 c17 c18 c19 c20 g21 => ?_
    rw [b17] at c17; rw [b18] at c18; rw [b19] at c19; rw [g20] at c20
    have s17 := sees_keep s17 ls2.lo q3
    have s18 := sees_keep s18 ls2.lo q3
    have s19 := sees_keep s19 ls2.lo q3
    have s20 := sees_keep s20 ls2.lo q3
    rw [h12]
    refine seg12 k ls3 fs3 hU oka okb hab fun f4 h4 w z fs4 ls4 q4 s22 s23 d17 d18 d19 d20 d21 g22 g23 => ?_
    rw [c17] at d17; rw [c18] at d18; rw [c19] at d19; rw [c20] at d20; rw [g21] at d21
    have s17 := sees_keep s17 ls3.lo q4
    have s18 := sees_keep s18 ls3.lo q4
    have s19 := sees_keep s19 ls3.lo q4
    have s20 := sees_keep s20 ls3.lo q4
    have s21 := sees_keep s21 ls3.lo q4
    have e22 : vl U (.a a b) ms = inter (vl U a ms) (vl U b os) := by rw [e]; rfl
    have e23 : vl U (.o a b) ms = union2 (vl U a ms) (vl U b os) := by rw [e]; rfl
    rw [e22] at s22
    rw [e23] at s23
    rw [h13]
    refine seg13 k ls4 fs4 hU (val_sub setI (setI U) a ms) (val_len hU a ms) (val_len hU b os) s17 s18 s19 s20 s22 s23 d17 d18 d19 d20 g22 g23 fun f5 h5 fs5 ls5 q5 i18 i20 i21 => ?_
    rw [d18] at i18; rw [d20] at i20; rw [d21] at i21
    have s18 := sees_keep s18 ls4.lo q5
    have s20 := sees_keep s20 ls4.lo q5
    have s21 := sees_keep s21 ls4.lo q5
    rw [h14]
    refine seg14 k ls5 fs5 hU oka okb hab fun f6 h6 c fs6 ls6 q6 s24 j17 j18 j19 j20 j21 g24 => ?_
    rw [i18] at j18; rw [i20] at j20; rw [i21] at j21
    exact seg15 k yes ls6 fs6 hU oka okb hab e (sees_keep s18 ls5.lo q6) (sees_keep s20 ls5.lo q6) (sees_keep s21 ls5.lo q6) s24 j18 j20 j21 g24
  have b8 : ∀ (f : Fr) (h : AH), FS f va vb al mi ot → LS h va vb al mi ot a b U ms os → Wp (code T (.seq (cFst t8) t9) f h) (Vm.Ends [.tmp 8] fun r _ => r = .bool true) := fun f h fs ls => seg8 k ls fs hU b9
  generalize (ACode.seq (cFst t8) t9) = rest at *
  simp only [t6, cFst, cSnd, c7, vms, vmc, AOpd.val, Nat.reduceEqDiff, reduceCtorEq, Nat.reduceAdd, Nat.reduceBEq]
  refine b8 _ _ ⟨?_, ?_, ?_, ?_, ?_, ?_, ?_⟩ ls
  all_goals simp only [vms, vmc, AOpd.val, Nat.reduceEqDiff, reduceCtorEq, Nat.reduceAdd, Nat.reduceBEq, f0, f1, f3, f11, f12]
end Go.Proofs.Ytjbkjffolnodjaa
/- Chapter 23: the law of queries on sets, on the machine: what stands ahead. -/
namespace Go.Proofs.Ytjbkjffolnodjaa
open Go.Vm
set_option linter.unusedSimpArgs false
set_option linter.unusedVariables false
set_option maxRecDepth 100000
variable {T : Vm.Prog} {h h0 h' : AH}
/-- Lists of ids, as they came. -/
def SW (h : AH) (v : AV) (ss : List (List Int)) : Prop := ∃ xs, Sees h v xs ∧ xs.length = ss.length ∧ ∀ (i : Nat) (x : AV) (s : List Int), xs[i]? = some x → ss[i]? = some s → Sees h x (izs s)
theorem SW.keep {v : AV} {ss : List (List Int)} (s : SW h v ss) (hl : Low h) (q : Quiet h h') : SW h' v ss := by
  obtain ⟨xs, h1, h2, h3⟩ := s
  exact ⟨xs, sees_keep h1 hl q, h2, fun i x t hx ht => sees_keep (h3 i x t hx ht) hl q⟩
theorem SW.len {v : AV} {ss : List (List Int)} (s : SW h v ss) : lenOfV v = some ss.length := by
  obtain ⟨xs, h1, h2, _⟩ := s
  rw [h1.len, h2]
def pickA (xs : List AV) (j : Nat) : AV := xs.getD (j % xs.length) .nilSlice
def pickL (ss : List (List Int)) (j : Nat) : List Int := ss.getD (j % ss.length) []
def rowA (xs : List AV) (n : Nat) : List AV := (List.range n).map (pickA xs)
def rowL (ss : List (List Int)) (n : Nat) : List (List Int) := (List.range n).map (pickL ss)
theorem rowA_len (xs : List AV) (n : Nat) : (rowA xs n).length = n := by simp [rowA]
theorem rowL_len (ss : List (List Int)) (n : Nat) : (rowL ss n).length = n := by simp [rowL]
theorem rowA_snoc (xs : List AV) (n : Nat) : rowA xs (n + 1) = rowA xs n ++ [pickA xs n] := by simp [rowA, List.range_succ]
theorem rowA_at {xs : List AV} {n j : Nat} {x : AV} (h : (rowA xs n)[j]? = some x) : x = pickA xs j := by
  have hj : j < n := by have := (List.getElem?_eq_some_iff.1 h).1; rwa [rowA_len] at this
  simp [rowA, hj] at h
  exact h.symm
theorem rowL_at {ss : List (List Int)} {n j : Nat} {x : List Int} (h : (rowL ss n)[j]? = some x) : x = pickL ss j := by
  have hj : j < n := by have := (List.getElem?_eq_some_iff.1 h).1; rwa [rowL_len] at this
  simp [rowL, hj] at h
  exact h.symm
theorem pick_empty {xs : List AV} {ss : List (List Int)} (hn : ss.length = 0) (hl : xs.length = ss.length) (j : Nat) : pickA xs j = .nilSlice ∧ pickL ss j = [] := by
  have h1 : ss = [] := List.eq_nil_of_length_eq_zero hn
  have h2 : xs = [] := List.eq_nil_of_length_eq_zero (by omega)
  subst h1; subst h2
  exact ⟨rfl, rfl⟩
theorem pick_some {xs : List AV} {ss : List (List Int)} (hn : ss.length ≠ 0) (hl : xs.length = ss.length) (j : Nat) : xs[j % ss.length]? = some (pickA xs j) ∧ ss[j % ss.length]? = some (pickL ss j) := by
  have h1 : j % ss.length < ss.length := Nat.mod_lt _ (by omega)
  have h2 : j % ss.length < xs.length := by omega
  constructor
  · rw [pickA, hl, List.getD_eq_getElem?_getD, List.getElem?_eq_getElem h2]; rfl
  · rw [pickL, List.getD_eq_getElem?_getD, List.getElem?_eq_getElem h1]; rfl
/-- One row and what of it stands behind k, on the way. -/
structure Grow (h hh : AH) (k : Nat) (A : List AV) (m o : AV) : Prop where
  rm : Row1 hh m A
  ro : Row1 hh o (A.drop k)
  om : ∀ p ∈ objs m, h.next ≤ p
  oo : ∀ p ∈ objs o, h.next ≤ p ∧ p ∉ objs m
  qt : Quiet h hh
  lo : Low hh
theorem drop_snoc_lt {A : List AV} {k : Nat} {x : AV} (hk : A.length < k) : (A ++ [x]).drop k = A.drop k := by
  rw [List.drop_of_length_le (by simp; omega), List.drop_of_length_le (by omega)]
theorem drop_snoc_le {A : List AV} {k : Nat} {x : AV} (hk : k ≤ A.length) : (A ++ [x]).drop k = A.drop k ++ [x] := List.drop_append_of_le_length hk
theorem grow_ok {k : Nat} {A : List AV} {m o x : AV} (g : Grow h h' k A m o) (hs : A.length < 1000) (hx : x.flat = true) :
    ∃ m' h3, appV 1 24 (h'.new (.cells [x] true)) m (.slice h'.next 0 1 1 1 true) = some (m', h3) ∧ (A.length < k → Grow h h3 k (A ++ [x]) m' o) ∧ (k ≤ A.length → ∃ o' h4, appV 1 24 (h3.new (.cells [x] true)) o (.slice h3.next 0 1 1 1 true) = some (o', h4) ∧ Grow h h4 k (A ++ [x]) m' o') := by
  obtain ⟨m', h3, ha, r3, o3, m3, lo3⟩ := row_app (bytes := 24) (x := x) g.lo g.rm (by decide) (by decide) (by omega) hx
  have n1 := g.qt.1
  have lowo : ∀ p ∈ objs o, p < h'.next := RowS.low g.ro g.lo
  have ro3 : Row1 h3 o (A.drop k) := RowS.keep g.ro fun p hp => m3.2 p (lowo p hp) (g.oo p hp).2
  have om3 : ∀ p ∈ objs m', h.next ≤ p := fun p hp => by
    rcases o3 p hp with h5 | h5
    · exact g.om p h5
    · omega
  have oo3 : ∀ p ∈ objs o, h.next ≤ p ∧ p ∉ objs m' := fun p hp => ⟨(g.oo p hp).1, fun hm => by
    rcases o3 p hm with h5 | h5
    · exact (g.oo p hp).2 h5
    · have := lowo p hp; omega⟩
  have q3 : Quiet h h3 := ⟨Nat.le_trans g.qt.1 m3.1, fun p hp hf => (m3.2 p (Nat.lt_of_lt_of_le hp g.qt.1) fun e => by have := g.om p e; omega).trans (g.qt.2 p hp hf)⟩
  refine ⟨m', h3, ha, fun hk => ⟨r3, by rw [drop_snoc_lt hk]; exact ro3, om3, oo3, q3, lo3⟩, fun hk => ?_⟩
  obtain ⟨o', h4, hb, r4, o4, m4, lo4⟩ := row_app (bytes := 24) (x := x) lo3 ro3 (by decide) (by decide) (by rw [List.length_drop]; omega) hx
  have low3 : ∀ p ∈ objs m', p < h3.next := RowS.low r3 lo3
  have n3 := q3.1
  refine ⟨o', h4, hb, RowS.keep r3 fun p hp => m4.2 p (low3 p hp) fun e => (oo3 p e).2 hp, by rw [drop_snoc_le hk]; exact r4, om3, fun p hp => ?_, ⟨Nat.le_trans q3.1 m4.1, fun p hp hf => (m4.2 p (Nat.lt_of_lt_of_le hp q3.1) fun e => by have := (oo3 p e).1; omega).trans (q3.2 p hp hf)⟩, lo4⟩
  rcases o4 p hp with h5 | h5
  · exact oo3 p h5
  · exact ⟨by omega, fun e => by have := low3 p e; omega⟩
theorem irem {i n : Nat} (hn : n ≠ 0) : binV .rem (.int .i64 (i : Int)) (.int .i64 (n : Int)) = some (.int .i64 ((i % n : Nat) : Int)) := by
  rw [bin_rem (by omega), Int.ofNat_tmod]
variable {va vb vs al : AV} {a b : Ex} {U : List Int} {ss : List (List Int)} {f : Fr}
def u1 : ACode := cSnd c7
def u2 : ACode := cSnd u1
def u3 : ACode := cSnd u2
def u4 : ACode := cSnd u3
def u5 : ACode := cSnd u4
/-- The rows of sets are built, then the law. -/
theorem laws5 (k : BaseS T) (yes : ∀ h, Gives T 3 [] h fun r h' => r = .bool true ∧ h' = h) (hl : Low h) (sa : SeesS h 2 va (parts (post a))) (sb : SeesS h 2 vb (parts (post b))) (su : Sees h al (izs U)) (sw : SW h vs ss)
    (hU : U.length ≤ 40) (hss : ss.length ≤ 40) (h40 : ∀ s ∈ ss, s.length ≤ 40) (oka : OkE a) (okb : OkE b) (hab : (post a).length + (post b).length ≤ 40)
    (f0 : f.at 0 = va) (f1 : f.at 1 = vb) (f2 : f.at 2 = vs) (f3 : f.at 3 = al) (f10 : f.at 10 = .int .i64 (leaves a : Nat)) (f11 : f.at 11 = .nilSlice) (f12 : f.at 12 = .nilSlice) : Wp (code T u5 f h) (Vm.Ends [.tmp 8] fun r _ => r = .bool true) := by
  have hk : leaves a ≤ (post a).length := by rw [← leaves_count]; exact List.countP_le_length
  generalize hke : leaves a = kk at *
  have lnb : lenOfV vb = some (post b).length := by have := SeesS.len sb; simpa [parts] using this
  generalize hlb : (post b).length = lb at *
  obtain ⟨xs, sx, lx, ex⟩ := sw
  have lnv : lenOfV vs = some ss.length := by rw [sx.len, lx]
  have picks : ∀ j, Sees h (pickA xs j) (izs (pickL ss j)) ∧ (pickL ss j).length ≤ 40 := fun j => by
    by_cases hn : ss.length = 0
    · obtain ⟨e1, e2⟩ := pick_empty hn lx j
      rw [e1, e2]
      exact ⟨.inl ⟨rfl, rfl⟩, by decide⟩
    · obtain ⟨e1, e2⟩ := pick_some hn lx j
      exact ⟨ex _ _ _ e1 e2, h40 _ (List.mem_of_getElem? e2)⟩
  have e5 : u5 = .seq (cFst u5) t6 := rfl
  have tail : ∀ (F : Fr) (hh : AH) (m o : AV), Grow h hh kk (rowA xs (2 * kk + 2 * lb)) m o → F.at 0 = va → F.at 1 = vb → F.at 3 = al → F.at 11 = m → F.at 12 = o → Wp (code T t6 F hh) (Vm.Ends [.tmp 8] fun r _ => r = .bool true) := by
    intro F hh m o g g0 g1 g3 g11 g12
    have each : ∀ j, Sees hh (pickA xs j) (izs (pickL ss j)) ∧ (pickL ss j).length ≤ 1000 := fun j => ⟨sees_keep (picks j).1 hl g.qt, by have := (picks j).2; omega⟩
    have sm : SS hh m (rowL ss (2 * kk + 2 * lb)) := ⟨rowA xs (2 * kk + 2 * lb), g.rm.sees, row_cap g.rm, by rw [rowA_len, rowL_len], fun i x s hx hs => by
      rw [rowA_at hx, rowL_at hs]; exact each i⟩
    have so : SS hh o ((rowL ss (2 * kk + 2 * lb)).drop kk) := ⟨(rowA xs (2 * kk + 2 * lb)).drop kk, g.ro.sees, row_cap g.ro, by rw [List.length_drop, List.length_drop, rowA_len, rowL_len], fun i x s hx hs => by
      rw [List.getElem?_drop] at hx hs
      rw [rowA_at hx, rowL_at hs]; exact each _⟩
    exact laws_tail k yes ⟨seesS_quiet sa hl g.qt, seesS_quiet sb hl g.qt, sees_keep su hl g.qt, sm, so, g.lo⟩ hU oka okb (by omega) (by rw [hke]) g0 g1 g3 g11 g12
  rw [e5]
  generalize t6 = rest at *
  have w1 : IntKind.i64.wrap (2 * (kk : Int)) = 2 * (kk : Int) := wrap_i64 (by omega) (by omega)
  have w2 : IntKind.i64.wrap (2 * (lb : Int)) = 2 * (lb : Int) := wrap_i64 (by omega) (by omega)
  have w3 : IntKind.i64.wrap (2 * (kk : Int) + 2 * (lb : Int)) = 2 * (kk : Int) + 2 * (lb : Int) := wrap_i64 (by omega) (by omega)
  simp only [u5, u4, u3, u2, u1, cFst, cSnd, c7, vms, vmc, AOpd.val, Nat.reduceEqDiff, reduceCtorEq, Nat.reduceAdd, Nat.reduceBEq]
  refine wpc_loop (fun m f h' => ∃ (i : Nat) (mi ot : AV), m = 2 * kk + 2 * lb - i ∧ i ≤ 2 * kk + 2 * lb ∧ Grow h h' kk (rowA xs i) mi ot ∧ f.at 0 = va ∧ f.at 1 = vb ∧ f.at 2 = vs ∧ f.at 3 = al ∧ f.at 10 = .int .i64 (kk : Nat) ∧ f.at 11 = mi ∧ f.at 12 = ot ∧ f.at 13 = .int .i64 (i : Nat)) ?_ (2 * kk + 2 * lb) _ _ ⟨0, .nilSlice, .nilSlice, rfl, Nat.zero_le _, ⟨.inl ⟨rfl, rfl⟩, .inl ⟨rfl, by simp [rowA]⟩, fun p hp => by simp [objs] at hp, fun p hp => by simp [objs] at hp, Quiet.refl _, hl⟩, ?_⟩
  · rintro m f h' ⟨i, mi, ot, rfl, hi, g, f0, f1, f2, f3, f10, f11, f12, f13⟩
    by_cases hlt : i < 2 * kk + 2 * lb
    · have d1 : decide ((i : Int) < 2 * (kk : Int) + 2 * (lb : Int)) = true := by rw [decide_eq_true_eq]; omega
      have w4 : IntKind.i64.wrap ((i : Int) + 1) = ((i + 1 : Nat) : Int) := by rw [wrap_i64 (by omega) (by omega)]; omega
      have sp := sees_keep (picks i).1 hl g.qt
      have alen := rowA_len xs i
      obtain ⟨mi', h3, ha, gl, gr⟩ := grow_ok (x := pickA xs i) g (by omega) (sees_cell sp).2
      rw [← rowA_snoc] at gl gr
      have hf1 := fillN1 (pickA xs i) (sees_isDef sp) (sees_cell sp).1
      by_cases hn : ss.length = 0
      · have d0 : decide (((ss.length : Nat) : Int) > 0) = false := by rw [hn]; rfl
        have ep := (pick_empty hn lx i).1
        rw [ep] at ha hf1 gr
        by_cases hkk : kk ≤ i
        · have d2 : decide ((i : Int) ≥ (kk : Int)) = true := by rw [decide_eq_true_eq]; omega
          obtain ⟨ot', h4, hb, g4⟩ := gr (by omega)
          simp only [c7l1, vms, vmc, AOpd.val, Nat.reduceEqDiff, reduceCtorEq, Nat.reduceAdd, Nat.reduceBEq, f0, f1, f2, f3, f10, f11, f12, f13, w1, w2, w3, w4, lnb, lnv, d0, d1, d2, ha, hb, hf1]
          exact ⟨2 * kk + 2 * lb - (i + 1), by omega, i + 1, _, _, rfl, by omega, g4, trivial, trivial, trivial, trivial, trivial, rfl, rfl, rfl⟩
        · have d2 : decide ((i : Int) ≥ (kk : Int)) = false := by rw [decide_eq_false_iff_not]; omega
          simp only [c7l1, vms, vmc, AOpd.val, Nat.reduceEqDiff, reduceCtorEq, Nat.reduceAdd, Nat.reduceBEq, f0, f1, f2, f3, f10, f11, f12, f13, w1, w2, w3, w4, lnb, lnv, d0, d1, d2, ha, hf1]
          exact ⟨2 * kk + 2 * lb - (i + 1), by omega, i + 1, _, _, rfl, by omega, gl (by omega), trivial, trivial, trivial, trivial, trivial, rfl, rfl, rfl⟩
      · have d0 : decide (((ss.length : Nat) : Int) > 0) = true := by rw [decide_eq_true_eq]; omega
        obtain ⟨e1, e2⟩ := pick_some hn lx i
        obtain ⟨pa, hp1, hp2⟩ := (sees_keep sx hl g.qt).at e1 .i64
        have hr := irem (i := i) hn
        by_cases hkk : kk ≤ i
        · have d2 : decide ((i : Int) ≥ (kk : Int)) = true := by rw [decide_eq_true_eq]; omega
          obtain ⟨ot', h4, hb, g4⟩ := gr (by omega)
          simp only [c7l1, vms, vmc, AOpd.val, Nat.reduceEqDiff, reduceCtorEq, Nat.reduceAdd, Nat.reduceBEq, f0, f1, f2, f3, f10, f11, f12, f13, w1, w2, w3, w4, lnb, lnv, d0, d1, d2, hr, hp1, hp2, ha, hb, hf1]
          exact ⟨2 * kk + 2 * lb - (i + 1), by omega, i + 1, _, _, rfl, by omega, g4, trivial, trivial, trivial, trivial, trivial, rfl, rfl, rfl⟩
        · have d2 : decide ((i : Int) ≥ (kk : Int)) = false := by rw [decide_eq_false_iff_not]; omega
          simp only [c7l1, vms, vmc, AOpd.val, Nat.reduceEqDiff, reduceCtorEq, Nat.reduceAdd, Nat.reduceBEq, f0, f1, f2, f3, f10, f11, f12, f13, w1, w2, w3, w4, lnb, lnv, d0, d1, d2, hr, hp1, hp2, ha, hf1]
          exact ⟨2 * kk + 2 * lb - (i + 1), by omega, i + 1, _, _, rfl, by omega, gl (by omega), trivial, trivial, trivial, trivial, trivial, rfl, rfl, rfl⟩
    · have d1 : decide ((i : Int) < 2 * (kk : Int) + 2 * (lb : Int)) = false := by rw [decide_eq_false_iff_not]; omega
      obtain rfl : i = 2 * kk + 2 * lb := by omega
      simp only [c7l1, vms, vmc, AOpd.val, Nat.reduceEqDiff, reduceCtorEq, Nat.reduceAdd, Nat.reduceBEq, f1, f10, f13, w1, w2, w3, lnb, d1]
      refine tail _ _ _ _ g ?_ ?_ ?_ ?_ ?_
      all_goals simp only [vms, vmc, AOpd.val, Nat.reduceEqDiff, reduceCtorEq, Nat.reduceAdd, Nat.reduceBEq, f0, f1, f3, f11, f12]
  · simp only [vms, vmc, AOpd.val, Nat.reduceEqDiff, reduceCtorEq, Nat.reduceAdd, Nat.reduceBEq, f0, f1, f2, f3, f10, f11, f12]
    simp
/-- The terms, then the rows. -/
theorem laws3 (k : BaseS T) (yes : ∀ h, Gives T 3 [] h fun r h' => r = .bool true ∧ h' = h) (hl : Low h) (sa : SeesS h 2 va (parts (post a))) (sb : SeesS h 2 vb (parts (post b))) (su : Sees h al (izs U)) (sw : SW h vs ss)
    (hU : U.length ≤ 40) (hss : ss.length ≤ 40) (h40 : ∀ s ∈ ss, s.length ≤ 40) (oka : OkE a) (okb : OkE b) (hab : (post a).length + (post b).length ≤ 40)
    (f0 : f.at 0 = va) (f1 : f.at 1 = vb) (f2 : f.at 2 = vs) (f3 : f.at 3 = al) : Wp (code T u3 f h) (Vm.Ends [.tmp 8] fun r _ => r = .bool true) := by
  have e3 : u3 = .seq (cFst u3) (.seq (cFst u4) u5) := rfl
  have b5 : ∀ (F : Fr) (hh : AH), Quiet h hh → Low hh → F.at 0 = va → F.at 1 = vb → F.at 2 = vs → F.at 3 = al → F.at 10 = .int .i64 (leaves a : Nat) → F.at 11 = .nilSlice → F.at 12 = .nilSlice → Wp (code T u5 F hh) (Vm.Ends [.tmp 8] fun r _ => r = .bool true) :=
    fun F hh q lo g0 g1 g2 g3 g10 g11 g12 => laws5 k yes lo (seesS_quiet sa hl q) (seesS_quiet sb hl q) (sees_keep su hl q) (sw.keep hl q) hU hss h40 oka okb hab g0 g1 g2 g3 g10 g11 g12
  rw [e3]
  generalize u5 = rest at *
  simp only [u4, u3, u2, u1, cFst, cSnd, c7, vms, vmc, AOpd.val, Nat.reduceEqDiff, reduceCtorEq, Nat.reduceAdd, Nat.reduceBEq, f0]
  refine Gives.bind ((terms_ok k.base hl sa (by omega)).mono ?_)
  rintro tv h1 ⟨lt, q1, lo1⟩
  rw [leaves_count] at lt
  simp only [vms, vmc, AOpd.val, Nat.reduceEqDiff, reduceCtorEq, Nat.reduceAdd, Nat.reduceBEq, lt]
  refine b5 _ _ q1 lo1 ?_ ?_ ?_ ?_ ?_ ?_ ?_
  all_goals simp only [vms, vmc, AOpd.val, Nat.reduceEqDiff, reduceCtorEq, Nat.reduceAdd, Nat.reduceBEq, f0, f1, f2, f3]
/-- The sets' lengths, then the terms. -/
theorem laws2 (k : BaseS T) (yes : ∀ h, Gives T 3 [] h fun r h' => r = .bool true ∧ h' = h) (hl : Low h) (sa : SeesS h 2 va (parts (post a))) (sb : SeesS h 2 vb (parts (post b))) (su : Sees h al (izs U)) (sw : SW h vs ss)
    (hU : U.length ≤ 40) (hss : ss.length ≤ 40) (oka : OkE a) (okb : OkE b) (hab : (post a).length + (post b).length ≤ 40)
    (f0 : f.at 0 = va) (f1 : f.at 1 = vb) (f2 : f.at 2 = vs) (f3 : f.at 3 = al) : Wp (code T u2 f h) (Vm.Ends [.tmp 8] fun r _ => r = .bool true) := by
  have e2 : u2 = .seq (cFst u2) u3 := rfl
  have b3 : (∀ s ∈ ss, s.length ≤ 40) → ∀ (F : Fr), F.at 0 = va → F.at 1 = vb → F.at 2 = vs → F.at 3 = al → Wp (code T u3 F h) (Vm.Ends [.tmp 8] fun r _ => r = .bool true) :=
    fun h40 F g0 g1 g2 g3 => laws3 k yes hl sa sb su sw hU hss h40 oka okb hab g0 g1 g2 g3
  have ln := sw.len
  obtain ⟨xs, sx, lx, ex⟩ := sw
  rw [e2]
  generalize u3 = rest at *
  simp only [u2, u1, cFst, cSnd, c7, vms, vmc, AOpd.val, Nat.reduceEqDiff, reduceCtorEq, Nat.reduceAdd, Nat.reduceBEq, f2, ln]
  refine wpc_loop (fun m f h' => ∃ i : Nat, m = ss.length - i ∧ i ≤ ss.length ∧ h' = h ∧ (∀ j s, j < i → ss[j]? = some s → s.length ≤ 40) ∧ f.at 0 = va ∧ f.at 1 = vb ∧ f.at 2 = vs ∧ f.at 3 = al ∧ f.at 53 = .int .i64 (ss.length : Nat) ∧ f.at 54 = .int .i64 (i : Nat)) ?_ ss.length _ _ ⟨0, rfl, Nat.zero_le _, rfl, fun j s hj => absurd hj (by omega), ?_⟩
  · rintro m f h' ⟨i, rfl, hi, rfl, hall, f0, f1, f2, f3, f53, f54⟩
    by_cases hlt : i < ss.length
    · have d1 : decide ((i : Int) < (ss.length : Int)) = true := by rw [decide_eq_true_eq]; omega
      obtain ⟨s, hs⟩ : ∃ s, ss[i]? = some s := ⟨_, List.getElem?_eq_getElem hlt⟩
      obtain ⟨x, hx⟩ : ∃ x, xs[i]? = some x := ⟨_, List.getElem?_eq_getElem (by omega)⟩
      have s1 := ex i x s hx hs
      have lns : lenOfV x = some s.length := by have := s1.len; rwa [izs_len] at this
      obtain ⟨pa, hp1, hp2⟩ := sx.at hx .i64
      have w2 : IntKind.i64.wrap ((i : Int) + 1) = ((i + 1 : Nat) : Int) := by rw [wrap_i64 (by omega) (by omega)]; omega
      by_cases h40 : s.length ≤ 40
      · have d2 : decide (((s.length : Nat) : Int) > 40) = false := by rw [decide_eq_false_iff_not]; omega
        simp only [c7l0, vms, vmc, AOpd.val, Nat.reduceEqDiff, reduceCtorEq, Nat.reduceAdd, Nat.reduceBEq, f0, f1, f2, f3, f53, f54, d1, hp1, hp2, lns, d2, w2]
        refine ⟨ss.length - (i + 1), by omega, i + 1, rfl, by omega, trivial, ?_, ?_⟩
        · intro j t hj ht
          by_cases e : j = i
          · subst e
            rw [hs] at ht
            cases ht
            exact h40
          · exact hall j t (by omega) ht
        · simp
      · have d2 : decide (((s.length : Nat) : Int) > 40) = true := by rw [decide_eq_true_eq]; omega
        simp only [c7l0, vms, vmc, AOpd.val, Nat.reduceEqDiff, reduceCtorEq, Nat.reduceAdd, Nat.reduceBEq, f0, f1, f2, f3, f53, f54, d1, hp1, hp2, lns, d2]
        refine Gives.bind ((yes _).mono ?_)
        rintro _ _ ⟨rfl, rfl⟩
        simp only [vms, vmc, AOpd.val, Nat.reduceEqDiff, reduceCtorEq, Nat.reduceAdd, Nat.reduceBEq]
    · have d1 : decide ((i : Int) < (ss.length : Int)) = false := by rw [decide_eq_false_iff_not]; omega
      simp only [c7l0, vms, vmc, AOpd.val, Nat.reduceEqDiff, reduceCtorEq, Nat.reduceAdd, Nat.reduceBEq, f53, f54, d1]
      refine b3 (fun s hs => ?_) _ ?_ ?_ ?_ ?_
      · obtain ⟨j, hj⟩ := List.getElem?_of_mem hs
        exact hall j s (by have := (List.getElem?_eq_some_iff.1 hj).1; omega) hj
      all_goals simp only [vms, vmc, AOpd.val, Nat.reduceEqDiff, reduceCtorEq, Nat.reduceAdd, Nat.reduceBEq, f0, f1, f2, f3]
  · simp only [vms, vmc, AOpd.val, Nat.reduceEqDiff, reduceCtorEq, Nat.reduceAdd, Nat.reduceBEq, f0, f1, f2, f3]
    simp
end Go.Proofs.Ytjbkjffolnodjaa
/- Chapter 23: the law of queries on sets, whole. -/
namespace Go.Proofs.Ytjbkjffolnodjaa
open Go.Vm
set_option linter.unusedSimpArgs false
set_option linter.unusedVariables false
set_option maxRecDepth 100000
variable {T : Vm.Prog} {h h0 h' : AH} {va vb vs al : AV} {U : List Int} {ss : List (List Int)} {q r : List Part}
theorem laws_run (k : BaseS T) (yes : ∀ h, Gives T 3 [] h fun r h' => r = .bool true ∧ h' = h) (hl : Low h) (sa : SeesS h 2 va (parts q)) (sb : SeesS h 2 vb (parts r)) (sw : SW h vs ss) (su : Sees h al (izs U))
    (hq : q.length ≤ 9223372036854775807) (hr : r.length ≤ 9223372036854775807) (tq : ∀ p ∈ q, p.2.length ≤ 9223372036854775807) (tr : ∀ p ∈ r, p.2.length ≤ 9223372036854775807) : Gives T 7 [va, vb, vs, al] h fun r _ => r = .bool true := by
  refine gives_func (k.base.env _ (by decide)) (k.base.at (fn := a7) rfl) rfl ?_
  have lq : lenOfV va = some q.length := by have := SeesS.len sa; simpa [parts] using this
  have lr : lenOfV vb = some r.length := by have := SeesS.len sb; simpa [parts] using this
  have lu : lenOfV al = some U.length := by have := su.len; rwa [izs_len] at this
  have ls := sw.len
  have e7 : c7 = .seq (cFst c7) (.seq (cFst u1) u2) := rfl
  have tail : ∀ (F : Fr) (hh : AH), Quiet h hh → Low hh → (∃ e, OkE e ∧ q = post e ∧ q.length ≤ 64) → (∃ e, OkE e ∧ r = post e ∧ r.length ≤ 64) → q.length + r.length ≤ 40 → U.length ≤ 40 → ss.length ≤ 40 → F.at 0 = va → F.at 1 = vb → F.at 2 = vs → F.at 3 = al → Wp (code T u2 F hh) (Vm.Ends [.tmp 8] fun r _ => r = .bool true) := by
    rintro F hh qt lo ⟨a, oka, rfl, _⟩ ⟨b, okb, rfl, _⟩ hab hU hss g0 g1 g2 g3
    exact laws2 k yes lo (seesS_quiet sa hl qt) (seesS_quiet sb hl qt) (sees_keep su hl qt) (sw.keep hl qt) hU hss oka okb hab g0 g1 g2 g3
  simp only [a7]
  rw [e7]
  generalize u2 = rest at *
  simp only [u1, cFst, cSnd, c7, vms, vmc, AOpd.val, Nat.reduceEqDiff, reduceCtorEq, Nat.reduceAdd, Nat.reduceBEq]
  refine Gives.bind ((right_any k.base hl sa hq tq).mono ?_)
  rintro _ h1 ⟨⟨b1, rfl, hb1⟩, q1, lo1⟩
  have no : ∀ (F : Fr) (hh : AH), True := fun _ _ => trivial
  cases b1 with
  | false =>
    simp only [vms, vmc, AOpd.val, Nat.reduceEqDiff, reduceCtorEq, Nat.reduceAdd, Nat.reduceBEq]
    refine Gives.bind ((yes _).mono ?_)
    rintro _ _ ⟨rfl, rfl⟩
    simp only [vms, vmc, AOpd.val, Nat.reduceEqDiff, reduceCtorEq, Nat.reduceAdd, Nat.reduceBEq]
  | true =>
    simp only [vms, vmc, AOpd.val, Nat.reduceEqDiff, reduceCtorEq, Nat.reduceAdd, Nat.reduceBEq]
    refine Gives.bind ((right_any k.base lo1 (seesS_quiet sb hl q1) hr tr).mono ?_)
    rintro _ h2 ⟨⟨b2, rfl, hb2⟩, q2, lo2⟩
    cases b2 with
    | false =>
      simp only [vms, vmc, AOpd.val, Nat.reduceEqDiff, reduceCtorEq, Nat.reduceAdd, Nat.reduceBEq]
      refine Gives.bind ((yes _).mono ?_)
      rintro _ _ ⟨rfl, rfl⟩
      simp only [vms, vmc, AOpd.val, Nat.reduceEqDiff, reduceCtorEq, Nat.reduceAdd, Nat.reduceBEq]
    | true =>
      obtain ⟨_, _, _, lq64⟩ := hb1 rfl
      obtain ⟨_, _, _, lr64⟩ := hb2 rfl
      have w1 : IntKind.i64.wrap ((q.length : Int) + (r.length : Int)) = (q.length : Int) + (r.length : Int) := wrap_i64 (by omega) (by omega)
      by_cases c1 : q.length + r.length ≤ 40
      case neg =>
        have d1 : decide ((q.length : Int) + (r.length : Int) > 40) = true := by rw [decide_eq_true_eq]; omega
        simp only [vms, vmc, AOpd.val, Nat.reduceEqDiff, reduceCtorEq, Nat.reduceAdd, Nat.reduceBEq, lq, lr, w1, d1]
        refine Gives.bind ((yes _).mono ?_)
        rintro _ _ ⟨rfl, rfl⟩
        simp only [vms, vmc, AOpd.val, Nat.reduceEqDiff, reduceCtorEq, Nat.reduceAdd, Nat.reduceBEq]
      have d1 : decide ((q.length : Int) + (r.length : Int) > 40) = false := by rw [decide_eq_false_iff_not]; omega
      by_cases c2 : U.length ≤ 40
      case neg =>
        have d2 : decide ((U.length : Int) > 40) = true := by rw [decide_eq_true_eq]; omega
        simp only [vms, vmc, AOpd.val, Nat.reduceEqDiff, reduceCtorEq, Nat.reduceAdd, Nat.reduceBEq, lq, lr, w1, d1, lu, d2]
        refine Gives.bind ((yes _).mono ?_)
        rintro _ _ ⟨rfl, rfl⟩
        simp only [vms, vmc, AOpd.val, Nat.reduceEqDiff, reduceCtorEq, Nat.reduceAdd, Nat.reduceBEq]
      have d2 : decide ((U.length : Int) > 40) = false := by rw [decide_eq_false_iff_not]; omega
      by_cases c3 : ss.length ≤ 40
      case neg =>
        have d3 : decide ((ss.length : Int) > 40) = true := by rw [decide_eq_true_eq]; omega
        simp only [vms, vmc, AOpd.val, Nat.reduceEqDiff, reduceCtorEq, Nat.reduceAdd, Nat.reduceBEq, lq, lr, w1, d1, lu, d2, ls, d3]
        refine Gives.bind ((yes _).mono ?_)
        rintro _ _ ⟨rfl, rfl⟩
        simp only [vms, vmc, AOpd.val, Nat.reduceEqDiff, reduceCtorEq, Nat.reduceAdd, Nat.reduceBEq]
      have d3 : decide ((ss.length : Int) > 40) = false := by rw [decide_eq_false_iff_not]; omega
      simp only [vms, vmc, AOpd.val, Nat.reduceEqDiff, reduceCtorEq, Nat.reduceAdd, Nat.reduceBEq, lq, lr, w1, d1, lu, d2, ls, d3]
      refine tail _ _ (q1.trans q2) lo2 (hb1 rfl) (hb2 rfl) c1 c2 c3 ?_ ?_ ?_ ?_
      all_goals simp only [vms, vmc, AOpd.val, Nat.reduceEqDiff, reduceCtorEq, Nat.reduceAdd, Nat.reduceBEq]
end Go.Proofs.Ytjbkjffolnodjaa

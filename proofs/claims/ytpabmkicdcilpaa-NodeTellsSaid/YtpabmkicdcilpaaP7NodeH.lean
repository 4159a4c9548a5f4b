/- NodeTells: the last draw. -/
import Derived.Test.YtpabmkicdcilpaaP7NodeG
namespace Go.Proofs.Ytpabmkicdcilpaa
open Go.Vm
set_option linter.unusedSimpArgs false
set_option linter.unusedVariables false
set_option maxRecDepth 100000
variable {T : Vm.Prog} {h : AH}
def c10Z : ACode := match c10 with
  | .seq _ (.seq _ (.seq _ (.seq _ (.seq _ (.seq _ (.seq _ (.seq _ (.seq _ (.seq _ (.seq _ (.seq _ (.seq _ (.seq _ (.seq _ (.seq _ r))))))))))))))) => r
  | c => c
theorem encW_few {n : NodeP} : (encW n).length ≤ 264 := by
  unfold encW
  by_cases hr : rightP n = true
  · rw [if_pos hr]
    simp only [encP, List.length_map, List.length_range]
    rcases (rightP_iff.1 hr).kinds with e | e | e | e <;> rw [e] <;> decide
  · rw [if_neg hr]; decide
theorem held_beq {p : Nat} {kv iv : AV} {n : NodeP} (s : Held h p kv iv n) : AV.beq (.agg (n.cells kv iv)) (.agg (n.cells kv iv)) = true := by
  simp [NodeP.cells, AV.beq, AV.beqs, sees_beq s.sk, sees_beq s.si]
/-- A roomy row that lies. -/
structure Roomy (h : AH) (o : Nat) (xs : List AV) (m : AV) : Prop where
  ex : ∃ l, h.get o = some (.cells l true) ∧ l.length = xs.length + 80 ∧ (∀ (j : Nat) (x : AV), xs[j]? = some x → l[j]? = some x) ∧ ∀ (j : Nat), xs.length ≤ j → j < xs.length + 80 → l[j]? = some m
theorem Roomy.keep {h' : AH} {o : Nat} {xs : List AV} {m : AV} (s : Roomy h o xs m) (hl : Low h) (q : Quiet h h') : Roomy h' o xs m := by
  obtain ⟨l, hg, h1⟩ := s.ex
  exact ⟨l, q.get hg (hl _ _ hg), h1⟩
theorem kc_i {ks : List Nat} : kcells ks = (ks.map Int.ofNat).map (.int .u8) := by simp [kcells]
theorem wc_i {ws : List Nat} : wcells ws = (ws.map Int.ofNat).map (.int .u64) := by simp [wcells]
theorem tells_end (k : Fits T) (hl : Low h) {n : NodeP} (ok : n.Ok) (hb : ∀ b ∈ n.keys, b < 256) {p o ro so : Nat} {kv iv kw iw : AV} {kd x y : Int} {t u : Bool} (L : Held h p kv iv n) (M : Held h o kw iw n) (R : Roomy h ro (kcells n.keys) (.int .u8 7)) (S : Roomy h so (icells n.kids) (.int .i64 8)) (hk4 : n.keys.length < 1000) (hi4 : n.kids.length < 1000)
    {f : Fr} (f3 : f.at 3 = .int .i64 kd) (f4 : f.at 4 = .ptr p 0) (f9 : f.at 9 = .slice ro 0 1 (n.keys.length + 80) (n.keys.length + 80) true) (f10 : f.at 10 = .slice so 0 1 (n.kids.length + 80) (n.kids.length + 80) true) (f11 : f.at 11 = .ptr o 0) (f24 : f.at 24 = .int .i64 x) (f26 : f.at 26 = .int .i64 x) (f25 : f.at 25 = .bool t) (f27 : f.at 27 = .bool t) :
    Wp (code T c10Z f h) (Vm.Ends [.tmp 8] fun r _ => r = .bool true) := by
  have fa : ∀ o j, fieldAddrV j (.ptr o 0) = some (.ptr o (0 + j)) := fun o j => rfl
  have e1 : ∀ t : Bool, eqBV false (.bool t) (.bool t) = some (.bool true) := by intro t; cases t <;> rfl
  have few := encW_few (n := n)
  have bL := held_beq L
  simp only [c10Z, c10, items_test, vms, vmc, AOpd.val, Nat.reduceEqDiff, reduceCtorEq, Nat.reduceAdd, Nat.reduceBEq, f24, f26, f25, f27, f11, f4, e1, decide_true, M.load, L.load]
  refine Gives.bind ((right_ok k hl ok M.v).mono ?_)
  rintro _ h1 ⟨rfl, q1, lo1⟩
  have L1 := L.keep hl q1
  have M1 := M.keep hl q1
  simp only [vms, vmc, AOpd.val, Nat.reduceEqDiff, reduceCtorEq, Nat.reduceAdd, Nat.reduceBEq]
  rw [items_look (look_want (w := true) (by simp only [vms, vmc, AOpd.val, Nat.reduceEqDiff, reduceCtorEq, Nat.reduceAdd, Nat.reduceBEq]) (look_load (v := .agg (n.cells kv iv)) (by show loadV _ _ _ (Fr.at _ _) = _; simp only [vms, vmc, AOpd.val, Nat.reduceEqDiff, reduceCtorEq, Nat.reduceAdd, Nat.reduceBEq, f4]; exact L1.load) (by simp only [vms, vmc, AOpd.val, Nat.reduceEqDiff, reduceCtorEq, Nat.reduceAdd, Nat.reduceBEq]) bL))]
  simp only [items_test, vms, vmc, AOpd.val, Nat.reduceEqDiff, reduceCtorEq, Nat.reduceAdd, Nat.reduceBEq]
  refine Gives.bind ((rightR_ok k lo1 ok L1.v).mono ?_)
  rintro _ h2 ⟨rfl, q2, lo2⟩
  have L2 := L1.keep lo1 q2
  have M2 := M1.keep lo1 q2
  simp only [items_test, vms, vmc, AOpd.val, Nat.reduceEqDiff, reduceCtorEq, Nat.reduceAdd, Nat.reduceBEq, f11, f4, e1, M2.load, L2.load]
  refine Gives.bind ((encode_ok k lo2 ok M2.v hb).mono ?_)
  rintro w1 h3 ⟨q3, lo3, r3, _⟩
  have L3 := L2.keep lo2 q3
  simp only [vms, vmc, AOpd.val, Nat.reduceEqDiff, reduceCtorEq, Nat.reduceAdd, Nat.reduceBEq]
  rw [items_look (look_want (w := true) (by simp only [vms, vmc, AOpd.val, Nat.reduceEqDiff, reduceCtorEq, Nat.reduceAdd, Nat.reduceBEq]) (look_load (v := .agg (n.cells kv iv)) (by show loadV _ _ _ (Fr.at _ _) = _; simp only [vms, vmc, AOpd.val, Nat.reduceEqDiff, reduceCtorEq, Nat.reduceAdd, Nat.reduceBEq, f4]; exact L3.load) (by simp only [vms, vmc, AOpd.val, Nat.reduceEqDiff, reduceCtorEq, Nat.reduceAdd, Nat.reduceBEq]) bL))]
  simp only [items_test, vms, vmc, AOpd.val, Nat.reduceEqDiff, reduceCtorEq, Nat.reduceAdd, Nat.reduceBEq]
  refine Gives.bind ((encode38_ok k lo3 ok L3.v hb).mono ?_)
  rintro w2 h4 ⟨q4, lo4, r4, _⟩
  have L4 := L3.keep lo3 q4
  have s3 := (row_quiet r3 lo3 q4).sees
  have s4 := r4.sees
  rw [wc_i] at s3 s4
  simp only [items_test, vms, vmc, AOpd.val, Nat.reduceEqDiff, reduceCtorEq, Nat.reduceAdd, Nat.reduceBEq]
  refine Gives.bind ((sameG_ok (k := .u64) (k.env _ (by decide)) (k.at (fn := a18) rfl) s3 s4 (by simp; omega) (by simp; omega)).mono ?_)
  rintro _ _ ⟨rfl, rfl⟩
  rename_i h4
  simp only [items_test, vms, vmc, AOpd.val, Nat.reduceEqDiff, reduceCtorEq, Nat.reduceAdd, Nat.reduceBEq, decide_true, f3]
  refine Gives.bind ((high_ok k).mono ?_)
  rintro _ _ ⟨rfl, rfl⟩
  rename_i h4
  simp only [items_test, vms, vmc, AOpd.val, Nat.reduceEqDiff, reduceCtorEq, Nat.reduceAdd, Nat.reduceBEq]
  refine Gives.bind ((high39_ok k).mono ?_)
  rintro _ _ ⟨rfl, rfl⟩
  rename_i h4
  simp only [items_test, vms, vmc, AOpd.val, Nat.reduceEqDiff, reduceCtorEq, Nat.reduceAdd, Nat.reduceBEq, decide_true, f3]
  refine Gives.bind ((low_ok k).mono ?_)
  rintro _ _ ⟨rfl, rfl⟩
  rename_i h4
  simp only [items_test, vms, vmc, AOpd.val, Nat.reduceEqDiff, reduceCtorEq, Nat.reduceAdd, Nat.reduceBEq]
  refine Gives.bind ((low40_ok k).mono ?_)
  rintro _ _ ⟨rfl, rfl⟩
  rename_i h4
  have q04 : Quiet h h4 := ((q1.trans q2).trans q3).trans q4
  obtain ⟨l1, g1, a1, a2, a3⟩ := (R.keep hl q04).ex
  obtain ⟨l2, g2, b1, b2, b3⟩ := (S.keep hl q04).ex
  simp only [items_test, vms, vmc, AOpd.val, Nat.reduceEqDiff, reduceCtorEq, Nat.reduceAdd, Nat.reduceBEq, decide_true, f4, f9, fa, Nat.zero_add, L4.keys]
  have sk := L4.sk
  rw [kc_i] at sk a1 a2 a3
  have i1 := intact_ok (g := 41) (gs := 28) (k := .u8) (m := 7) (k.env _ (by decide)) (k.at (fn := aIntact 28) rfl) (k.env _ (by decide)) (k.at (fn := aSame) rfl) sk (by simp; omega) g1 (by simpa using a1) a2 (by simpa using a3)
  simp only [List.length_map] at i1
  refine Gives.bind (i1.mono ?_)
  rintro _ _ ⟨rfl, rfl⟩
  rename_i h4
  simp only [items_test, vms, vmc, AOpd.val, Nat.reduceEqDiff, reduceCtorEq, Nat.reduceAdd, Nat.reduceBEq, f4, f10, fa, Nat.zero_add, L4.kids]
  refine Gives.bind ((intact_ok (g := 42) (gs := 19) (k := .i64) (xs := n.kids) (m := 8) (k.env _ (by decide)) (k.at (fn := aIntact 19) rfl) (k.env _ (by decide)) (k.at (fn := aSame) rfl) L4.si (by omega) g2 (by simpa [icells] using b1) b2 (by simpa [icells] using b3)).mono ?_)
  rintro _ _ ⟨rfl, rfl⟩
  simp only [items_test, vms, vmc, AOpd.val, Nat.reduceEqDiff, reduceCtorEq, Nat.reduceAdd, Nat.reduceBEq]
  refine Gives.bind ((k.yes _).mono ?_)
  rintro _ _ ⟨rfl, rfl⟩
  simp only [vms, vmc, AOpd.val, Nat.reduceEqDiff, reduceCtorEq, Nat.reduceAdd, Nat.reduceBEq]
end Go.Proofs.Ytpabmkicdcilpaa
/- NodeTells: the calls. -/
namespace Go.Proofs.Ytpabmkicdcilpaa
open Go.Vm
set_option linter.unusedSimpArgs false
set_option linter.unusedVariables false
set_option maxRecDepth 100000
variable {T : Vm.Prog} {h : AH}
def c10q0 : ACode := match c10 with
  | .seq a _ => a
  | c => c
def c10q1 : ACode := match c10 with
  | .seq _ (.seq a _) => a
  | c => c
def c10q2 : ACode := match c10 with
  | .seq _ (.seq _ (.seq a _)) => a
  | c => c
def c10q3 : ACode := match c10 with
  | .seq _ (.seq _ (.seq _ (.seq a _))) => a
  | c => c
def c10q4 : ACode := match c10 with
  | .seq _ (.seq _ (.seq _ (.seq _ (.seq a _)))) => a
  | c => c
def c10q5 : ACode := match c10 with
  | .seq _ (.seq _ (.seq _ (.seq _ (.seq _ (.seq a _))))) => a
  | c => c
def c10q6 : ACode := match c10 with
  | .seq _ (.seq _ (.seq _ (.seq _ (.seq _ (.seq _ (.seq a _)))))) => a
  | c => c
def c10q7 : ACode := match c10 with
  | .seq _ (.seq _ (.seq _ (.seq _ (.seq _ (.seq _ (.seq _ (.seq a _))))))) => a
  | c => c
def c10q8 : ACode := match c10 with
  | .seq _ (.seq _ (.seq _ (.seq _ (.seq _ (.seq _ (.seq _ (.seq _ (.seq a _)))))))) => a
  | c => c
def c10q9 : ACode := match c10 with
  | .seq _ (.seq _ (.seq _ (.seq _ (.seq _ (.seq _ (.seq _ (.seq _ (.seq _ (.seq a _))))))))) => a
  | c => c
def c10q10 : ACode := match c10 with
  | .seq _ (.seq _ (.seq _ (.seq _ (.seq _ (.seq _ (.seq _ (.seq _ (.seq _ (.seq _ (.seq a _)))))))))) => a
  | c => c
def c10q11 : ACode := match c10 with
  | .seq _ (.seq _ (.seq _ (.seq _ (.seq _ (.seq _ (.seq _ (.seq _ (.seq _ (.seq _ (.seq _ (.seq a _))))))))))) => a
  | c => c
def c10q12 : ACode := match c10 with
  | .seq _ (.seq _ (.seq _ (.seq _ (.seq _ (.seq _ (.seq _ (.seq _ (.seq _ (.seq _ (.seq _ (.seq _ (.seq a _)))))))))))) => a
  | c => c
def c10q13 : ACode := match c10 with
  | .seq _ (.seq _ (.seq _ (.seq _ (.seq _ (.seq _ (.seq _ (.seq _ (.seq _ (.seq _ (.seq _ (.seq _ (.seq _ (.seq a _))))))))))))) => a
  | c => c
def c10q14 : ACode := match c10 with
  | .seq _ (.seq _ (.seq _ (.seq _ (.seq _ (.seq _ (.seq _ (.seq _ (.seq _ (.seq _ (.seq _ (.seq _ (.seq _ (.seq _ (.seq a _)))))))))))))) => a
  | c => c
def c10q15 : ACode := match c10 with
  | .seq _ (.seq _ (.seq _ (.seq _ (.seq _ (.seq _ (.seq _ (.seq _ (.seq _ (.seq _ (.seq _ (.seq _ (.seq _ (.seq _ (.seq _ (.seq a _))))))))))))))) => a
  | c => c
def c10R : ACode := .seq c10q14 (.seq c10q15 c10Z)
def c10T : ACode := .seq c10q7 (.seq c10q8 (.seq c10q9 (.seq c10q10 (.seq c10q11 (.seq c10q12 (.seq c10q13 c10R))))))
/-- An answer is kept. -/
theorem keepV {v : AV} {n : NodeP} (hl : Low h) (s : NodeV h v n) : ∃ kv iv h', v = .agg (n.cells kv iv) ∧ storeV (h.new (.cells [.int .i64 0, .int .u64 0, .str [], .nilSlice, .nilSlice] true)) 5 (.ptr h.next 0) v = some h' ∧
    Lies h' h.next kv iv n ∧ Quiet h h' ∧ Low h' ∧ h'.next = h.next + 1 := by
  obtain ⟨kv, iv, rfl, r1, r2⟩ := s
  have fl : ∀ {v : AV} {xs : List AV}, Sees h v xs → v.flat = true := by
    intro v xs s
    rcases s with ⟨rfl, _⟩ | ⟨_, _, _, _, _, _, rfl, _⟩ <;> rfl
  have st : storeV (h.new (.cells [.int .i64 0, .int .u64 0, .str [], .nilSlice, .nilSlice] true)) 5 (.ptr h.next 0) (.agg (n.cells kv iv)) = some ((h.new (.cells [.int .i64 0, .int .u64 0, .str [], .nilSlice, .nilSlice] true)).set h.next (.cells (n.cells kv iv) true)) :=
    store_all get_new_same rfl rfl (by simp only [NodeP.cells, List.all_cons, List.all_nil, fl r1, fl r2]; rfl)
  have q : Quiet h ((h.new (.cells [.int .i64 0, .int .u64 0, .str [], .nilSlice, .nilSlice] true)).set h.next (.cells (n.cells kv iv) true)) := ((Quiet.refl _).new _).set (Nat.le_refl _) _
  exact ⟨kv, iv, _, rfl, st, ⟨get_set_same, sees_keep r1 hl q, sees_keep r2 hl q⟩, q, (hl.new _).set (by rw [next_new]; omega) _, by rw [next_set, next_new]⟩
theorem Lies.load {p : Nat} {kv iv : AV} {n : NodeP} (s : Lies h p kv iv n) : loadV h true 5 (.ptr p 0) = some (.agg (n.cells kv iv)) := load_all s.get rfl
theorem Lies.v {p : Nat} {kv iv : AV} {n : NodeP} (s : Lies h p kv iv n) : NodeV h (.agg (n.cells kv iv)) n := ⟨kv, iv, rfl, s.sk, s.si⟩
theorem same_yes (k : Fits T) (hl : Low h) {v w : AV} {n : NodeP} (on : n.Ok) (sn : NodeV h v n) (sm : NodeV h w n) : Gives T 23 [v, w] h fun r h' => r = .bool true ∧ Quiet h h' ∧ Low h' :=
  (same_ok k hl on on sn sm).mono (by
    rintro r h' ⟨q, lo, b, rfl, hb⟩
    exact ⟨by rw [hb.2 rfl], q, lo⟩)
theorem tells_finds (k : Fits T) (hl : Low h) {n : NodeP} (ok : n.Ok) (hb : ∀ b ∈ n.keys, b < 256) {p o ro so b : Nat} {kv iv kw iw : AV} {kd : Int} (L : Held h p kv iv n) (M : Held h o kw iw n) (R : Roomy h ro (kcells n.keys) (.int .u8 7)) (S : Roomy h so (icells n.kids) (.int .i64 8)) (hk4 : n.keys.length < 1000) (hi4 : n.kids.length < 1000)
    {f : Fr} (f1 : f.at 1 = .int .u8 (b : Int)) (f3 : f.at 3 = .int .i64 kd) (f4 : f.at 4 = .ptr p 0) (f9 : f.at 9 = .slice ro 0 1 (n.keys.length + 80) (n.keys.length + 80) true) (f10 : f.at 10 = .slice so 0 1 (n.kids.length + 80) (n.kids.length + 80) true) (f11 : f.at 11 = .ptr o 0) :
    Wp (code T c10R f h) (Vm.Ends [.tmp 8] fun r _ => r = .bool true) := by
  simp only [c10R, c10q14, c10q15, c10, vms, vmc, AOpd.val, Nat.reduceEqDiff, reduceCtorEq, Nat.reduceAdd, Nat.reduceBEq, f11, f1, M.load]
  refine Gives.bind ((find_ok k hl ok M.v).mono ?_)
  rintro r1 h1 ⟨q1, lo1, d1⟩
  have L1 := L.keep hl q1
  obtain ⟨x, t, rfl⟩ : ∃ (x : Int) (t : Bool), r1 = .tuple [.int .i64 x, .bool t] := by
    rcases d1 with ⟨i, x, _, _, rfl⟩ | ⟨_, rfl⟩ <;> exact ⟨_, _, rfl⟩
  simp only [vms, vmc, AOpd.val, Nat.reduceEqDiff, reduceCtorEq, Nat.reduceAdd, Nat.reduceBEq, f4, f1, L1.load]
  refine Gives.bind ((find36_ok k lo1 ok L1.v).mono ?_)
  rintro r2 h2 ⟨q2, lo2, d2⟩
  obtain rfl : r2 = .tuple [.int .i64 x, .bool t] := by
    rcases d1 with ⟨i, y, a1, a2, e1⟩ | ⟨a1, e1⟩ <;> rcases d2 with ⟨j, z, b1, b2, e2⟩ | ⟨b1, e2⟩
    · have := atIs_same a1 b1
      cases this
      rw [a2] at b2; cases b2
      rw [e1, e2]
    · have := atIs_same a1 b1; cases this
    · have := atIs_same a1 b1; cases this
    · rw [e1, e2]
  have L2 := L1.keep lo1 q2
  have q02 := q1.trans q2
  simp only [vms, vmc, AOpd.val, Nat.reduceEqDiff, reduceCtorEq, Nat.reduceAdd, Nat.reduceBEq]
  exact tells_end k lo2 ok hb (t := t) (u := t) (y := x) (x := x) (kd := kd) L2 (M.keep hl q02) (R.keep hl q02) (S.keep hl q02) hk4 hi4 (by simp only [vms, vmc, AOpd.val, Nat.reduceEqDiff, reduceCtorEq, Nat.reduceAdd, Nat.reduceBEq, f3]) (by simp only [vms, vmc, AOpd.val, Nat.reduceEqDiff, reduceCtorEq, Nat.reduceAdd, Nat.reduceBEq, f4]) (by simp only [vms, vmc, AOpd.val, Nat.reduceEqDiff, reduceCtorEq, Nat.reduceAdd, Nat.reduceBEq, f9]) (by simp only [vms, vmc, AOpd.val, Nat.reduceEqDiff, reduceCtorEq, Nat.reduceAdd, Nat.reduceBEq, f10]) (by simp only [vms, vmc, AOpd.val, Nat.reduceEqDiff, reduceCtorEq, Nat.reduceAdd, Nat.reduceBEq, f11]) (by simp only [vms, vmc, AOpd.val, Nat.reduceEqDiff, reduceCtorEq, Nat.reduceAdd, Nat.reduceBEq]) (by simp only [vms, vmc, AOpd.val, Nat.reduceEqDiff, reduceCtorEq, Nat.reduceAdd, Nat.reduceBEq]) (by simp only [vms, vmc, AOpd.val, Nat.reduceEqDiff, reduceCtorEq, Nat.reduceAdd, Nat.reduceBEq]) (by simp only [vms, vmc, AOpd.val, Nat.reduceEqDiff, reduceCtorEq, Nat.reduceAdd, Nat.reduceBEq])
theorem tells_turns (k : Fits T) (hl : Low h) {n : NodeP} (ok : n.Ok) (hb : ∀ b ∈ n.keys, b < 256) {p o ro so b : Nat} {kv iv kw iw : AV} {kd kid : Int} (L : Held h p kv iv n) (M : Held h o kw iw n) (R : Roomy h ro (kcells n.keys) (.int .u8 7)) (S : Roomy h so (icells n.kids) (.int .i64 8)) (hk4 : n.keys.length < 1000) (hi4 : n.kids.length < 1000)
    {f : Fr} (f1 : f.at 1 = .int .u8 (b : Int)) (f2 : f.at 2 = .int .i64 kid) (f3 : f.at 3 = .int .i64 kd) (f4 : f.at 4 = .ptr p 0) (f9 : f.at 9 = .slice ro 0 1 (n.keys.length + 80) (n.keys.length + 80) true) (f10 : f.at 10 = .slice so 0 1 (n.kids.length + 80) (n.kids.length + 80) true) (f11 : f.at 11 = .ptr o 0) :
    Wp (code T c10T f h) (Vm.Ends [.tmp 8] fun r _ => r = .bool true) := by
  have e1 : ∀ t : Bool, eqBV true (.bool t) (.bool t) = some (.bool false) := by intro t; cases t <;> rfl
  simp only [c10T, c10q7, c10, vms, vmc, AOpd.val, Nat.reduceEqDiff, reduceCtorEq, Nat.reduceAdd, Nat.reduceBEq, f11, f1, f2, M.load]
  refine Gives.bind ((with_ok k hl ok M.v (b := b) (kid := kid)).mono ?_)
  rintro r1 h1 ⟨q1, lo1, d1⟩
  obtain ⟨o1, w1, mv1, rfl, v1⟩ := ans_ofN d1
  obtain ⟨a1, b1, g1, rfl, st1, L1, qq1, ll1, _⟩ := keepV lo1 v1
  have t1 := q1.trans qq1
  have P1 := L.keep hl t1
  simp only [c10q8, c10, vms, vmc, AOpd.val, Nat.reduceEqDiff, reduceCtorEq, Nat.reduceAdd, Nat.reduceBEq, st1, f4, f1, f2, P1.load]
  refine Gives.bind ((with33_ok k ll1 ok P1.v (b := b) (kid := kid)).mono ?_)
  rintro r2 h2 ⟨q2, lo2, d2⟩
  obtain ⟨o2, w2, mv2, rfl, v2⟩ := ans_of d2
  obtain rfl := withIs_same w1 w2
  obtain ⟨a2, b2, g2, rfl, st2, L2, qq2, ll2, _⟩ := keepV lo2 v2
  have t2 := t1.trans (q2.trans qq2)
  have M2 := M.keep hl t2
  have L1' := L1.keep ll1 (q2.trans qq2)
  simp only [c10q9, c10, vms, vmc, AOpd.val, Nat.reduceEqDiff, reduceCtorEq, Nat.reduceAdd, Nat.reduceBEq, st2, f11, f1, f2, M2.load]
  refine Gives.bind ((without_ok k ll2 ok M2.v M2.capped (b := b)).mono ?_)
  rintro r3 h3 ⟨q3, lo3, d3⟩
  obtain ⟨o3, w3, mv3, rfl, v3⟩ := ans_ofN d3
  obtain ⟨a3, b3, g3, rfl, st3, L3, qq3, ll3, _⟩ := keepV lo3 v3
  have t3 := t2.trans (q3.trans qq3)
  have P3 := L.keep hl t3
  simp only [c10q10, c10, vms, vmc, AOpd.val, Nat.reduceEqDiff, reduceCtorEq, Nat.reduceAdd, Nat.reduceBEq, st3, f4, f1, f2, P3.load]
  refine Gives.bind ((without34_ok k ll3 ok P3.v (b := b)).mono ?_)
  rintro r4 h4 ⟨q4, lo4, d4⟩
  obtain ⟨o4, w4, mv4, rfl, v4⟩ := ans_of d4
  obtain rfl := withoutIs_same w3 w4
  obtain ⟨a4, b4, g4, rfl, st4, L4, qq4, ll4, _⟩ := keepV lo4 v4
  have t4 := t3.trans (q4.trans qq4)
  have M4 := M.keep hl t4
  simp only [c10q11, c10, vms, vmc, AOpd.val, Nat.reduceEqDiff, reduceCtorEq, Nat.reduceAdd, Nat.reduceBEq, st4, f11, f1, f2, f3, M4.load]
  refine Gives.bind ((turn_ok k ll4 ok M4.v (kd := kd)).mono ?_)
  rintro r5 h5 ⟨q5, lo5, d5⟩
  obtain ⟨o5, w5, mv5, rfl, v5⟩ := ans_ofN d5
  obtain ⟨a5, b5, g5, rfl, st5, L5, qq5, ll5, _⟩ := keepV lo5 v5
  have t5 := t4.trans (q5.trans qq5)
  have P5 := L.keep hl t5
  simp only [c10q12, c10, vms, vmc, AOpd.val, Nat.reduceEqDiff, reduceCtorEq, Nat.reduceAdd, Nat.reduceBEq, st5, f4, f1, f2, f3, P5.load]
  refine Gives.bind ((turn35_ok k ll5 ok P5.v (kd := kd)).mono ?_)
  rintro r6 h6 ⟨q6, lo6, d6⟩
  obtain ⟨o6, w6, mv6, rfl, v6⟩ := ans_of d6
  obtain rfl := turnIs_same w5 w6
  obtain ⟨a6, b6, g6, rfl, st6, L6, qq6, ll6, _⟩ := keepV lo6 v6
  have t6 := t5.trans (q6.trans qq6)
  have z12 := (((L1'.keep ll2 (q3.trans qq3)).keep ll3 (q4.trans qq4)).keep ll4 (q5.trans qq5)).keep ll5 (q6.trans qq6)
  have z14 := (((L2.keep ll2 (q3.trans qq3)).keep ll3 (q4.trans qq4)).keep ll4 (q5.trans qq5)).keep ll5 (q6.trans qq6)
  have z16 := ((L3.keep ll3 (q4.trans qq4)).keep ll4 (q5.trans qq5)).keep ll5 (q6.trans qq6)
  have z18 := (L4.keep ll4 (q5.trans qq5)).keep ll5 (q6.trans qq6)
  have z20 := L5.keep ll5 (q6.trans qq6)
  simp only [c10q13, c10, vms, vmc, AOpd.val, Nat.reduceEqDiff, reduceCtorEq, Nat.reduceAdd, Nat.reduceBEq, st6, z12.load, z14.load]
  refine Gives.bind ((same_yes k ll6 (with_okP ok w1) z12.v z14.v).mono ?_)
  rintro _ h7 ⟨rfl, q7, lo7⟩
  have y16 := z16.keep ll6 q7
  have y18 := z18.keep ll6 q7
  simp only [ops_test, vms, vmc, AOpd.val, Nat.reduceEqDiff, reduceCtorEq, Nat.reduceAdd, Nat.reduceBEq, e1, Bool.not_true, y16.load, y18.load]
  refine Gives.bind ((same_yes k lo7 (without_okP ok w3) y16.v y18.v).mono ?_)
  rintro _ h8 ⟨rfl, q8, lo8⟩
  have x20 := z20.keep ll6 (q7.trans q8)
  have x22 := L6.keep ll6 (q7.trans q8)
  simp only [ops_test, vms, vmc, AOpd.val, Nat.reduceEqDiff, reduceCtorEq, Nat.reduceAdd, Nat.reduceBEq, e1, Bool.not_true, x20.load, x22.load]
  refine Gives.bind ((same_yes k lo8 (turn_okP ok w5) x20.v x22.v).mono ?_)
  rintro _ h9 ⟨rfl, q9, lo9⟩
  have q09 := t6.trans ((q7.trans q8).trans q9)
  simp only [ops_test, vms, vmc, AOpd.val, Nat.reduceEqDiff, reduceCtorEq, Nat.reduceAdd, Nat.reduceBEq, e1, Bool.not_true]
  exact tells_finds k lo9 ok hb (kd := kd) (b := b) (L.keep hl q09) (M.keep hl q09) (R.keep hl q09) (S.keep hl q09) hk4 hi4 (by simp only [vms, vmc, AOpd.val, Nat.reduceEqDiff, reduceCtorEq, Nat.reduceAdd, Nat.reduceBEq, f1]) (by simp only [vms, vmc, AOpd.val, Nat.reduceEqDiff, reduceCtorEq, Nat.reduceAdd, Nat.reduceBEq, f3]) (by simp only [vms, vmc, AOpd.val, Nat.reduceEqDiff, reduceCtorEq, Nat.reduceAdd, Nat.reduceBEq, f4]) (by simp only [vms, vmc, AOpd.val, Nat.reduceEqDiff, reduceCtorEq, Nat.reduceAdd, Nat.reduceBEq, f9]) (by simp only [vms, vmc, AOpd.val, Nat.reduceEqDiff, reduceCtorEq, Nat.reduceAdd, Nat.reduceBEq, f10]) (by simp only [vms, vmc, AOpd.val, Nat.reduceEqDiff, reduceCtorEq, Nat.reduceAdd, Nat.reduceBEq, f11])
end Go.Proofs.Ytpabmkicdcilpaa
/- NodeTells: rows with room. -/
namespace Go.Proofs.Ytpabmkicdcilpaa
open Go.Vm
set_option linter.unusedSimpArgs false
set_option linter.unusedVariables false
set_option maxRecDepth 100000
variable {T : Vm.Prog} {h : AH}
def c10O : ACode := .seq c10q4 (.seq c10q5 (.seq c10q6 c10T))
theorem Roomy.sees {o : Nat} {xs : List AV} {m : AV} (s : Roomy h o xs m) : Sees h (.slice o 0 1 xs.length (xs.length + 80) true) xs := by
  obtain ⟨l, hg, h1, h2, h3⟩ := s.ex
  exact .inr ⟨o, 0, xs.length + 80, true, l, true, rfl, hg, by omega, fun i x hx => by rw [Nat.zero_add]; exact h2 i x hx⟩
theorem tells_own (k : Fits T) (hl : Low h) {n : NodeP} (ok : n.Ok) (hb : ∀ b ∈ n.keys, b < 256) {p b : Nat} {kv iv : AV} {kd kid : Int} (L : Held h p kv iv n) (hk4 : n.keys.length < 1000) (hi4 : n.kids.length < 1000)
    {f : Fr} (f1 : f.at 1 = .int .u8 (b : Int)) (f2 : f.at 2 = .int .i64 kid) (f3 : f.at 3 = .int .i64 kd) (f4 : f.at 4 = .ptr p 0) :
    Wp (code T c10O f h) (Vm.Ends [.tmp 8] fun r _ => r = .bool true) := by
  have fa : ∀ o j, fieldAddrV j (.ptr o 0) = some (.ptr o (0 + j)) := fun o j => rfl
  simp only [c10O, c10q4, c10, vms, vmc, AOpd.val, Nat.reduceEqDiff, reduceCtorEq, Nat.reduceAdd, Nat.reduceBEq, f4, fa, Nat.zero_add, L.keys, L.kids]
  have hfk : (kcells n.keys).all AV.flat = true := by simp [kcells, AV.flat]
  have hfi : (icells n.kids).all AV.flat = true := by simp [icells, AV.flat]
  refine Gives.bind ((roomy_ok (bytes := 1) (z := .int .u8 0) (k.env _ (by decide)) (k.at (fn := aRoomy 1 (.int .u8 0)) rfl) (by decide) hl L.sk (by simp [kcells]; omega) hfk rfl rfl).mono ?_)
  rintro _ h1 ⟨x1, lo1, rfl, n1, l1, g1, a1, a2, a3⟩
  have q1 := x1.quiet
  have L1 := L.keep hl q1
  have R1 : Roomy h1 h.next (kcells n.keys) (.int .u8 7) := ⟨l1, g1, a1, a2, a3⟩
  simp only [vms, vmc, AOpd.val, Nat.reduceEqDiff, reduceCtorEq, Nat.reduceAdd, Nat.reduceBEq]
  rw [items_look (look_load (v := iv) (by show loadV _ _ _ (Fr.at _ _) = _; simp only [vms, vmc, AOpd.val, Nat.reduceEqDiff, reduceCtorEq, Nat.reduceAdd, Nat.reduceBEq]; exact L1.kids) (by simp only [vms, vmc, AOpd.val, Nat.reduceEqDiff, reduceCtorEq, Nat.reduceAdd, Nat.reduceBEq]) (sees_beq L1.si))]
  simp only [vms, vmc, AOpd.val, Nat.reduceEqDiff, reduceCtorEq, Nat.reduceAdd, Nat.reduceBEq]
  refine Gives.bind ((roomy_ok (bytes := 8) (z := .int .i64 0) (k.env _ (by decide)) (k.at (fn := aRoomy 8 (.int .i64 0)) rfl) (by decide) lo1 L1.si (by simp [icells]; omega) hfi rfl rfl).mono ?_)
  rintro _ h2 ⟨x2, lo2, rfl, n2, l2, g2, b1, b2, b3⟩
  have q2 := x2.quiet
  have L2 := L1.keep lo1 q2
  have R2 := R1.keep lo1 q2
  have S2 : Roomy h2 h1.next (icells n.kids) (.int .i64 8) := ⟨l2, g2, b1, b2, b3⟩
  obtain ⟨_, _, h3, e, st, O3, q3, lo3, n3⟩ := keepV lo2 L2.v
  simp only [AV.agg.injEq, NodeP.cells, List.cons.injEq, true_and, and_true] at e
  obtain ⟨rfl, rfl⟩ := e
  have L3 := L2.keep lo2 q3
  have kl : (kcells n.keys).length = n.keys.length := by simp [kcells]
  have il : (icells n.kids).length = n.kids.length := by simp [icells]
  have c1 := slc_to0 (o := h.next) (len := n.keys.length + 80) (cap := n.keys.length + 80) (ex := true) (n := n.keys.length) (by omega)
  have c2 := slc_to0 (o := h1.next) (len := n.kids.length + 80) (cap := n.kids.length + 80) (ex := true) (n := n.kids.length) (by omega)
  have ll1 : lenOfV kv = some n.keys.length := by simpa [kcells] using L.sk.len
  have ll2 : lenOfV iv = some n.kids.length := by simpa [icells] using L.si.len
  have st3 : storeV h3 1 (.ptr h2.next 3) (.slice h.next 0 1 n.keys.length (n.keys.length + 80) true) = some (h3.set h2.next (.cells (n.cells (.slice h.next 0 1 n.keys.length (n.keys.length + 80) true) iv) true)) := store_at O3.get (show 3 < 5 by decide) rfl rfl
  have q4 : Quiet h2 (h3.set h2.next (.cells (n.cells (.slice h.next 0 1 n.keys.length (n.keys.length + 80) true) iv) true)) := q3.set (Nat.le_refl _) _
  have lo4 : Low (h3.set h2.next (.cells (n.cells (.slice h.next 0 1 n.keys.length (n.keys.length + 80) true) iv) true)) := lo3.set (by omega) _
  have O4 : (h3.set h2.next (.cells (n.cells (.slice h.next 0 1 n.keys.length (n.keys.length + 80) true) iv) true)).get h2.next = some (.cells (n.cells (.slice h.next 0 1 n.keys.length (n.keys.length + 80) true) iv) true) := get_set_same
  have n4 : (h3.set h2.next (.cells (n.cells (.slice h.next 0 1 n.keys.length (n.keys.length + 80) true) iv) true)).next = h2.next + 1 := n3
  simp only [kl, il, vms, vmc, AOpd.val, Nat.reduceEqDiff, reduceCtorEq, Nat.reduceAdd, Nat.reduceBEq, c10q5, c10q6, c10, f4, L2.load, st, fa, Nat.zero_add, L3.keys, L3.kids, ll1, ll2, c1, c2, st3]
  generalize (h3.set h2.next (.cells (n.cells (.slice h.next 0 1 n.keys.length (n.keys.length + 80) true) iv) true)) = h4 at *
  have L4 := L2.keep lo2 q4
  rw [items_look (look_load (v := iv) (by show loadV _ _ _ (Fr.at _ _) = _; simp only [vms, vmc, AOpd.val, Nat.reduceEqDiff, reduceCtorEq, Nat.reduceAdd, Nat.reduceBEq]; exact L4.kids) (by simp only [vms, vmc, AOpd.val, Nat.reduceEqDiff, reduceCtorEq, Nat.reduceAdd, Nat.reduceBEq]) (sees_beq L4.si))]
  have st4 : storeV h4 1 (.ptr h2.next 4) (.slice h1.next 0 1 n.kids.length (n.kids.length + 80) true) = some (h4.set h2.next (.cells (n.cells (.slice h.next 0 1 n.keys.length (n.keys.length + 80) true) (.slice h1.next 0 1 n.kids.length (n.kids.length + 80) true)) true)) := store_at O4 (show 4 < 5 by decide) rfl rfl
  have q5 : Quiet h2 (h4.set h2.next (.cells (n.cells (.slice h.next 0 1 n.keys.length (n.keys.length + 80) true) (.slice h1.next 0 1 n.kids.length (n.kids.length + 80) true)) true)) := q4.set (Nat.le_refl _) _
  have lo5 : Low (h4.set h2.next (.cells (n.cells (.slice h.next 0 1 n.keys.length (n.keys.length + 80) true) (.slice h1.next 0 1 n.kids.length (n.kids.length + 80) true)) true)) := lo4.set (by omega) _
  have O5 : (h4.set h2.next (.cells (n.cells (.slice h.next 0 1 n.keys.length (n.keys.length + 80) true) (.slice h1.next 0 1 n.kids.length (n.kids.length + 80) true)) true)).get h2.next = some (.cells (n.cells (.slice h.next 0 1 n.keys.length (n.keys.length + 80) true) (.slice h1.next 0 1 n.kids.length (n.kids.length + 80) true)) true) := get_set_same
  simp only [vms, vmc, AOpd.val, Nat.reduceEqDiff, reduceCtorEq, Nat.reduceAdd, Nat.reduceBEq, st4]
  generalize (h4.set h2.next (.cells (n.cells (.slice h.next 0 1 n.keys.length (n.keys.length + 80) true) (.slice h1.next 0 1 n.kids.length (n.kids.length + 80) true)) true)) = h5 at *
  have R5 := R2.keep lo2 q5
  have S5 := S2.keep lo2 q5
  have kr := R5.sees
  have ir := S5.sees
  rw [kl] at kr
  rw [il] at ir
  exact tells_turns k lo5 ok hb (kd := kd) (b := b) (kid := kid) (L2.keep lo2 q5) ⟨O5, kr, ir, by show _ ≤ _; omega, by show _ ≤ _; omega⟩ R5 S5 hk4 hi4 (by simp only [vms, vmc, AOpd.val, Nat.reduceEqDiff, reduceCtorEq, Nat.reduceAdd, Nat.reduceBEq, f1]) (by simp only [vms, vmc, AOpd.val, Nat.reduceEqDiff, reduceCtorEq, Nat.reduceAdd, Nat.reduceBEq, f2]) (by simp only [vms, vmc, AOpd.val, Nat.reduceEqDiff, reduceCtorEq, Nat.reduceAdd, Nat.reduceBEq, f3]) (by simp only [vms, vmc, AOpd.val, Nat.reduceEqDiff, reduceCtorEq, Nat.reduceAdd, Nat.reduceBEq, f4]) (by simp only [vms, vmc, AOpd.val, Nat.reduceEqDiff, reduceCtorEq, Nat.reduceAdd, Nat.reduceBEq]) (by simp only [vms, vmc, AOpd.val, Nat.reduceEqDiff, reduceCtorEq, Nat.reduceAdd, Nat.reduceBEq]) (by simp only [vms, vmc, AOpd.val, Nat.reduceEqDiff, reduceCtorEq, Nat.reduceAdd, Nat.reduceBEq])
end Go.Proofs.Ytpabmkicdcilpaa
/- NodeTells: what comes in is cut; the law. -/
namespace Go.Proofs.Ytpabmkicdcilpaa
open Go.Vm
set_option linter.unusedSimpArgs false
set_option linter.unusedVariables false
set_option maxRecDepth 100000
variable {T : Vm.Prog} {h : AH}
theorem c10_cut : c10 = .seq c10q0 (.seq c10q1 (.seq c10q2 (.seq c10q3 c10O))) := rfl
theorem head_all {v : AV} {xs : List AV} (s : Sees h v xs) (hcap : capOk v) {n : Nat} (hn : n ≤ xs.length) {k : IntKind} : ∃ v', slcV 1 v none (some (.int k (n : Int))) none = some v' ∧ Sees h v' (xs.take n) ∧ capOk v' ∧ v'.cells = [v'] ∧ v'.flat = true := by
  rcases s with ⟨rfl, rfl⟩ | ⟨o, off, cap, ex, l, rw, rfl, hg, h1, h2⟩
  · have : n = 0 := by simpa using hn
    subst this
    exact ⟨.nilSlice, by simp [slcV, bounds, boundM, boundH, boundL, natOf, Option.filter], .inl ⟨rfl, rfl⟩, trivial, rfl, rfl⟩
  · have hc : n ≤ cap := Nat.le_trans hn hcap
    · refine ⟨.slice o off 1 n cap ex, ?_, .inr ⟨o, off, cap, ex, l, rw, by rw [List.length_take, Nat.min_eq_left hn], hg, by rw [List.length_take]; omega, fun i x hx => ?_⟩, hc, rfl, rfl⟩
      · simp [slcV, bounds, boundM, boundH, boundL, natOf, Option.filter, hc]
      · rw [List.getElem?_take] at hx
        split at hx
        · exact h2 i x hx
        · cases hx
theorem kc_take {ks : List Nat} {n : Nat} : (kcells ks).take n = kcells (ks.take n) := by simp [kcells, List.map_take]
theorem ic_take {ks : List Int} {n : Nat} : (icells ks).take n = icells (ks.take n) := by simp [icells, List.map_take]
theorem cut_keys {h0 g : AH} (hl0 : Low h0) (lo : Low g) (q : Quiet h0 g) {p : Nat} (hp : h0.next ≤ p) (pg : p < g.next) {n : NodeP} {kv iv : AV} (hg : g.get p = some (.cells (n.cells kv iv) true)) (s : Sees h0 kv (kcells n.keys)) (c : capOk kv) {f : Fr} (f4 : f.at 4 = .ptr p 0) {Q : AExit → Fr → AH → Prop}
    (hq : ∀ f' g' kv1, Quiet h0 g' → Low g' → p < g'.next → g'.get p = some (.cells (({ n with keys := n.keys.take 260 } : NodeP).cells kv1 iv) true) → Sees h0 kv1 (kcells (n.keys.take 260)) → capOk kv1 → (f'.at 1 = f.at 1 ∧ f'.at 2 = f.at 2 ∧ f'.at 3 = f.at 3 ∧ f'.at 4 = f.at 4) → Q .normal f' g') : Wp (code T c10q1 f g) Q := by
  have fa : ∀ o j, fieldAddrV j (.ptr o 0) = some (.ptr o (0 + j)) := fun o j => rfl
  have l3 := load_at hg (i := 3) (v := kv) rfl
  have ll : lenOfV kv = some n.keys.length := by simpa [kcells] using s.len
  by_cases h260 : n.keys.length ≤ 260
  · have d1 : decide ((n.keys.length : Int) > 260) = false := by rw [decide_eq_false_iff_not]; omega
    have tk : n.keys.take 260 = n.keys := List.take_of_length_le h260
    simp only [c10q1, c10, vms, vmc, AOpd.val, Nat.reduceEqDiff, reduceCtorEq, Nat.reduceAdd, Nat.reduceBEq, f4, fa, Nat.zero_add, l3, ll, d1]
    exact hq _ _ kv q lo pg (by rw [tk]; exact hg) (by rw [tk]; exact s) c (by simp only [vms, vmc, AOpd.val, Nat.reduceEqDiff, reduceCtorEq, Nat.reduceAdd, Nat.reduceBEq]; exact ⟨trivial, trivial, trivial, trivial⟩)
  · have d1 : decide ((n.keys.length : Int) > 260) = true := by rw [decide_eq_true_eq]; omega
    obtain ⟨v', sl, s', c', e1, e2⟩ := head_all s c (n := 260) (by simp [kcells]; omega) (k := .i64)
    rw [kc_take] at s'
    have sl' : slcV 1 kv none (some (.int .i64 260)) none = some v' := sl
    have st : storeV g 1 (.ptr p 3) v' = some (g.set p (.cells (({ n with keys := n.keys.take 260 } : NodeP).cells v' iv) true)) := store_at hg (show 3 < 5 by decide) e1 e2
    simp only [c10q1, c10, vms, vmc, AOpd.val, Nat.reduceEqDiff, reduceCtorEq, Nat.reduceAdd, Nat.reduceBEq, f4, fa, Nat.zero_add, l3, ll, d1, sl', st]
    exact hq _ _ v' (q.set hp _) (lo.set pg _) pg get_set_same s' c' (by simp only [vms, vmc, AOpd.val, Nat.reduceEqDiff, reduceCtorEq, Nat.reduceAdd, Nat.reduceBEq]; exact ⟨trivial, trivial, trivial, trivial⟩)
theorem cut_kids {h0 g : AH} (hl0 : Low h0) (lo : Low g) (q : Quiet h0 g) {p : Nat} (hp : h0.next ≤ p) (pg : p < g.next) {n : NodeP} {kv iv : AV} (hg : g.get p = some (.cells (n.cells kv iv) true)) (s : Sees h0 iv (icells n.kids)) (c : capOk iv) {f : Fr} (f4 : f.at 4 = .ptr p 0) {Q : AExit → Fr → AH → Prop}
    (hq : ∀ f' g' iv1, Quiet h0 g' → Low g' → p < g'.next → g'.get p = some (.cells (({ n with kids := n.kids.take 260 } : NodeP).cells kv iv1) true) → Sees h0 iv1 (icells (n.kids.take 260)) → capOk iv1 → (f'.at 1 = f.at 1 ∧ f'.at 2 = f.at 2 ∧ f'.at 3 = f.at 3 ∧ f'.at 4 = f.at 4) → Q .normal f' g') : Wp (code T c10q2 f g) Q := by
  have fa : ∀ o j, fieldAddrV j (.ptr o 0) = some (.ptr o (0 + j)) := fun o j => rfl
  have l3 := load_at hg (i := 4) (v := iv) rfl
  have ll : lenOfV iv = some n.kids.length := by simpa [icells] using s.len
  by_cases h260 : n.kids.length ≤ 260
  · have d1 : decide ((n.kids.length : Int) > 260) = false := by rw [decide_eq_false_iff_not]; omega
    have tk : n.kids.take 260 = n.kids := List.take_of_length_le h260
    simp only [c10q2, c10, vms, vmc, AOpd.val, Nat.reduceEqDiff, reduceCtorEq, Nat.reduceAdd, Nat.reduceBEq, f4, fa, Nat.zero_add, l3, ll, d1]
    exact hq _ _ iv q lo pg (by rw [tk]; exact hg) (by rw [tk]; exact s) c (by simp only [vms, vmc, AOpd.val, Nat.reduceEqDiff, reduceCtorEq, Nat.reduceAdd, Nat.reduceBEq]; exact ⟨trivial, trivial, trivial, trivial⟩)
  · have d1 : decide ((n.kids.length : Int) > 260) = true := by rw [decide_eq_true_eq]; omega
    obtain ⟨v', sl, s', c', e1, e2⟩ := head_all s c (n := 260) (by simp [icells]; omega) (k := .i64)
    rw [ic_take] at s'
    have sl' : slcV 1 iv none (some (.int .i64 260)) none = some v' := sl
    have st : storeV g 1 (.ptr p 4) v' = some (g.set p (.cells (({ n with kids := n.kids.take 260 } : NodeP).cells kv v') true)) := store_at hg (show 4 < 5 by decide) e1 e2
    simp only [c10q2, c10, vms, vmc, AOpd.val, Nat.reduceEqDiff, reduceCtorEq, Nat.reduceAdd, Nat.reduceBEq, f4, fa, Nat.zero_add, l3, ll, d1, sl', st]
    exact hq _ _ v' (q.set hp _) (lo.set pg _) pg get_set_same s' c' (by simp only [vms, vmc, AOpd.val, Nat.reduceEqDiff, reduceCtorEq, Nat.reduceAdd, Nat.reduceBEq]; exact ⟨trivial, trivial, trivial, trivial⟩)
theorem tells_run (k : Fits T) (hl : Low h) {n : NodeP} {kv iv : AV} {b : Nat} {kid kd : Int} (hw : n.word < 18446744073709551616) (hp : n.pre.length < 9223372036854775808) (s1 : Sees h kv (kcells n.keys)) (s2 : Sees h iv (icells n.kids)) (c1 : capOk kv) (c2 : capOk iv) (hb : ∀ x ∈ n.keys, x < 256) :
    Gives T 10 [.agg (n.cells kv iv), .int .u8 (b : Int), .int .i64 kid, .int .i64 kd] h fun r _ => r = .bool true := by
  refine gives_func (k.env _ (by decide)) (k.at (fn := a10) rfl) rfl ?_
  have fa : ∀ o j, fieldAddrV j (.ptr o 0) = some (.ptr o (0 + j)) := fun o j => rfl
  show Wp (code T c10 _ _) _
  rw [c10_cut]
  have q1 : Quiet h (h.new (.cells (n.cells kv iv) true)) := (Quiet.refl _).new _
  have lo1 : Low (h.new (.cells (n.cells kv iv) true)) := hl.new _
  have g1 : (h.new (.cells (n.cells kv iv) true)).get h.next = some (.cells (n.cells kv iv) true) := get_new_same
  have nx : h.next < (h.new (.cells (n.cells kv iv) true)).next := by rw [next_new]; omega
  rw [wpc_seq]
  simp only [c10q0, c10, vms, vmc, AOpd.val, Nat.reduceEqDiff, reduceCtorEq, Nat.reduceAdd, Nat.reduceBEq, box_agg]
  generalize (h.new (.cells (n.cells kv iv) true)) = h1 at *
  refine cut_keys hl lo1 q1 (Nat.le_refl _) nx g1 s1 c1 (by simp only [vms, vmc, AOpd.val, Nat.reduceEqDiff, reduceCtorEq, Nat.reduceAdd, Nat.reduceBEq]) (fun f2 h2 kv2 q2 lo2 nx2 g2 t1 d1 e2 => ?_)
  obtain ⟨a1, a2, a3, a4⟩ := e2
  simp only [vms, vmc, AOpd.val, Nat.reduceEqDiff, reduceCtorEq, Nat.reduceAdd, Nat.reduceBEq] at a1 a2 a3 a4
  simp only [vms, vmc, AOpd.val, Nat.reduceEqDiff, reduceCtorEq, Nat.reduceAdd, Nat.reduceBEq]
  refine cut_kids hl lo2 q2 (Nat.le_refl _) nx2 g2 s2 c2 a4 (fun f3 h3 iv3 q3 lo3 nx3 g3 t2 d2 e3 => ?_)
  obtain ⟨b1, b2, b3, b4⟩ := e3
  have b1 := b1.trans a1
  have b2 := b2.trans a2
  have b3 := b3.trans a3
  have b4 := b4.trans a4
  have l2 := load_at g3 (i := 2) (v := .str n.pre) rfl
  have k260 : (n.keys.take 260).length ≤ 260 := by simp; omega
  have i260 : (n.kids.take 260).length ≤ 260 := by simp; omega
  have hb' : ∀ x ∈ n.keys.take 260, x < 256 := fun x hx => hb x (List.mem_of_mem_take hx)
  by_cases h40 : n.pre.length ≤ 40
  · have d1' : decide ((n.pre.length : Int) > 40) = false := by rw [decide_eq_false_iff_not]; omega
    simp only [c10q3, c10, vms, vmc, AOpd.val, Nat.reduceEqDiff, reduceCtorEq, Nat.reduceAdd, Nat.reduceBEq, b4, fa, Nat.zero_add, l2, d1']
    refine tells_own k lo3 (n := { n with keys := n.keys.take 260, kids := n.kids.take 260 }) (kd := kd) (b := b) (kid := kid) ⟨hw, by show (n.keys.take 260).length < _; omega, by show (n.kids.take 260).length < _; omega, by show n.pre.length < _; omega⟩ hb' (p := h.next) (kv := kv2) (iv := iv3) ⟨g3, sees_keep t1 hl q3, sees_keep t2 hl q3, d1, d2⟩ (by show (n.keys.take 260).length < _; omega) (by show (n.kids.take 260).length < _; omega) ?_ ?_ ?_ ?_ <;> simp only [vms, vmc, AOpd.val, Nat.reduceEqDiff, reduceCtorEq, Nat.reduceAdd, Nat.reduceBEq, b1, b2, b3, b4]
  · have d1' : decide ((n.pre.length : Int) > 40) = true := by rw [decide_eq_true_eq]; omega
    have sl : slcStrV (.str n.pre) none (some (.int .i64 40)) = some (.str (n.pre.take 40)) := slcStr_to (n := 40) (by omega)
    have st : storeV h3 1 (.ptr h.next 2) (.str (n.pre.take 40)) = some (h3.set h.next (.cells (({ n with keys := n.keys.take 260, kids := n.kids.take 260, pre := n.pre.take 40 } : NodeP).cells kv2 iv3) true)) := store_at g3 (show 2 < 5 by decide) rfl rfl
    have q4 : Quiet h (h3.set h.next (.cells (({ n with keys := n.keys.take 260, kids := n.kids.take 260, pre := n.pre.take 40 } : NodeP).cells kv2 iv3) true)) := q3.set (Nat.le_refl _) _
    simp only [c10q3, c10, vms, vmc, AOpd.val, Nat.reduceEqDiff, reduceCtorEq, Nat.reduceAdd, Nat.reduceBEq, b4, fa, Nat.zero_add, l2, d1', sl, st]
    refine tells_own k (lo3.set nx3 _) (n := { n with keys := n.keys.take 260, kids := n.kids.take 260, pre := n.pre.take 40 }) (kd := kd) (b := b) (kid := kid) ⟨hw, by show (n.keys.take 260).length < _; omega, by show (n.kids.take 260).length < _; omega, by show (n.pre.take 40).length < _; simp; omega⟩ hb' (p := h.next) (kv := kv2) (iv := iv3) ⟨get_set_same, sees_keep t1 hl q4, sees_keep t2 hl q4, d1, d2⟩ (by show (n.keys.take 260).length < _; omega) (by show (n.kids.take 260).length < _; omega) ?_ ?_ ?_ ?_ <;> simp only [vms, vmc, AOpd.val, Nat.reduceEqDiff, reduceCtorEq, Nat.reduceAdd, Nat.reduceBEq, b1, b2, b3, b4]
/-- A node, as it came in. -/
theorem node_in {P : Program} {e e' : TypeId} {cs : List AV} (c : CellsAre P h [.int .i64, .int .u64, .str, .slice e, .slice e'] cs) :
    ∃ kd wd px v w, cs = [.int .i64 kd, .int .u64 ((wd : Nat) : Int), .str px, v, w] ∧ wd < 18446744073709551616 ∧ px.length < 9223372036854775808 ∧ (∃ t, P.underlying t = some (.slice e) ∧ Came P h t [v]) ∧ ∃ t, P.underlying t = some (.slice e') ∧ Came P h t [w] := by
  obtain ⟨b1, r1, rfl, ⟨kd, rfl, _⟩, c1⟩ := c.cons_inv
  obtain ⟨b2, r2, rfl, ⟨wd, rfl, hw⟩, c2⟩ := c1.cons_inv
  obtain ⟨b3, r3, rfl, ⟨px, rfl, hp⟩, c3⟩ := c2.cons_inv
  obtain ⟨b4, r4, rfl, ⟨t, ht, hc⟩, c4⟩ := c3.cons_inv
  obtain ⟨b5, r5, rfl, ⟨t', ht', hc'⟩, c5⟩ := c4.cons_inv
  cases c5.nil_inv
  obtain ⟨w, rfl, hw'⟩ := u64_in hw
  rw [maxLen_eq] at hp
  exact ⟨kd, w, px, b4, b5, rfl, hw', by omega, ⟨t, ht, hc⟩, t', ht', hc'⟩
theorem tells_cells (k : Fits T) (hl : Low h) {kv iv : AV} {b wd : Nat} {kid kd kind : Int} {px : List UInt8} {ks : List Nat} {is : List Int} (hw : wd < 18446744073709551616) (hp : px.length < 9223372036854775808) (s1 : Sees h kv (kcells ks)) (s2 : Sees h iv (is.map (.int .i64))) (c1 : capOk kv) (c2 : capOk iv) (hb : ∀ x ∈ ks, x < 256) :
    Gives T 10 [.agg [.int .i64 kind, .int .u64 (wd : Int), .str px, kv, iv], .int .u8 (b : Int), .int .i64 kid, .int .i64 kd] h fun r _ => r = .bool true :=
  tells_run (n := ⟨kind, wd, px, ks, is⟩) k hl hw hp s1 s2 c1 c2 hb
end Go.Proofs.Ytpabmkicdcilpaa

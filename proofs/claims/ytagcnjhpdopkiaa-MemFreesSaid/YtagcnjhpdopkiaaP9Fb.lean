/- The law MemFrees. -/
import Derived.Test.YtagcnjhpdopkiaaP9Fa
import Derived.Test.YtagcnjhpdopkiaaVmZt
namespace Go.Proofs.Ytagcnjhpdopkiaa
open Go.Vm
set_option linter.unusedSimpArgs false
set_option linter.unusedVariables false
set_option maxRecDepth 100000
variable {T : Vm.Prog} {h : AH}
def refA (m j : Nat) : AV := .int .i64 ((refN j 1 (m == 0) : Nat) : Int)
def refsC (m : Nat) (J : List Nat) : List AV := J.map (refA m)
theorem fillRef (k0 : Int) (x : Int) : fillV [AV.int .i64 0, .int .i64 0, .int .i64 0, .int .i64 0, .int .u64 0, .nilSlice] [(0, 1, .int .i64 k0), (1, 1, .int .i64 x)] = some [.int .i64 k0, .int .i64 x, .int .i64 0, .int .i64 0, .int .u64 0, .nilSlice] := by simp [fillV, AV.isDef, AV.cells, setMany]
theorem fillCls (k0 : Int) (x : Int) : fillV [AV.int .i64 0, .int .i64 0, .int .i64 0, .int .i64 0, .int .u64 0, .nilSlice] [(0, 1, .int .i64 k0), (2, 1, .int .i64 x)] = some [.int .i64 k0, .int .i64 0, .int .i64 x, .int .i64 0, .int .u64 0, .nilSlice] := by simp [fillV, AV.isDef, AV.cells, setMany]
theorem fillOne (x : Int) : fillV [AV.int .i64 0] [(0, 1, .int .i64 x)] = some [.int .i64 x] := by simp [fillV, AV.isDef, AV.cells, setMany]
theorem ne00 : (((0 : Nat) : Int) != 0) = false := rfl
theorem frees_loop0 (k : Fits T) {mo m n : Nat} {M : MemP} {F : Nat → Prop} {room0 nr : Nat} {live0 : Int} (hl : Low h) (R : MemR mo M F h) (s : FrM M m [] [] [] 0 room0 live0 nr) (hm : m < 4) (hn : n ≤ 4) (hroom : 4 ≤ room0) {f : Fr}
    (f8 : f.at 8 = .ptr mo 0) (f10 : f.at 10 = .int .i64 (m : Int)) (f11 : f.at 11 = .int .i64 (n : Int)) (f14 : f.at 14 = .nilSlice) (f15 : f.at 15 = .int .i64 0) {Q : AExit → Fr → AH → Prop}
    (hq : ∀ f' g M' F' v J, J.length = n → MemR mo M' F' g → Low g → FrM M' m J J [] 0 room0 live0 nr → Row1 g v (refsC m J) → (∀ o ∈ objs v, ¬ F' o) → f'.at 1 = f.at 1 → f'.at 8 = .ptr mo 0 → f'.at 10 = .int .i64 (m : Int) → f'.at 11 = .int .i64 (n : Int) → f'.at 12 = f.at 12 → f'.at 13 = f.at 13 → f'.at 14 = v → Q (.exit 0) f' g) :
    Wp (code T (.loop c10l0) f h) Q := by
  refine wpc_loop (fun d f' g => ∃ M' F' v J, d = n - J.length ∧ J.length ≤ n ∧ MemR mo M' F' g ∧ Low g ∧ FrM M' m J J [] 0 room0 live0 nr ∧ Row1 g v (refsC m J) ∧ (∀ o ∈ objs v, ¬ F' o) ∧ f'.at 1 = f.at 1 ∧ f'.at 8 = .ptr mo 0 ∧ f'.at 10 = .int .i64 (m : Int) ∧ f'.at 11 = .int .i64 (n : Int) ∧ f'.at 12 = f.at 12 ∧ f'.at 13 = f.at 13 ∧ f'.at 14 = v ∧ f'.at 15 = .int .i64 (J.length : Nat)) ?_ n _ _
    ⟨M, F, .nilSlice, [], rfl, by simp, R, hl, s, .inl ⟨rfl, rfl⟩, fun o ho => by simp [objs] at ho, rfl, f8, f10, f11, rfl, rfl, f14, f15⟩
  rintro _ f' g ⟨M', F', v, J, rfl, hJ, R', lo, s', rv, nF, g1, g8, g10, g11, g12, g13, g14, g15⟩
  by_cases h1 : J.length < n
  · have d1 : decide ((J.length : Int) < (n : Int)) = true := by rw [decide_eq_true_eq]; omega
    have fa : ∀ o j, fieldAddrV j (.ptr o 0) = some (.ptr o (0 + j)) := fun o j => rfl
    obtain ⟨i, M1, hd1, s1, hi, hin⟩ := s'.alloc hm (by omega)
    have hdo := do_src k R' lo 0 ⟨4, 0, m, 0, 0, []⟩ SrcB.nil
    rw [hd1] at hdo
    simp only [c10l0, vms, vmc, AOpd.val, Nat.reduceEqDiff, reduceCtorEq, Nat.reduceAdd, Nat.reduceBEq, g8, g10, g11, g14, g15, d1, fillCls]
    refine Gives.bind (hdo.mono ?_)
    rintro _ h5 ⟨hr5, F5, R5, act5⟩
    obtain ⟨w5, h6, rfl, st5, q6, lo6, gg6, hn6, _⟩ := keepR act5.low hr5
    have R6 := ((R5.res act5.low).quiet q6).holds
    have n6 : ¬ F5 h5.next := fun hf => by have := (R5.res act5.low).low _ hf; omega
    obtain ⟨r5, nF5⟩ := row_act rv lo nF act5
    have r6 := row_quiet r5 act5.low q6
    obtain ⟨M2, hd2, s2⟩ := s1.retire hi hin (by omega)
    have hdo2 := do_src k R6 lo6 0 ⟨6, ((refN i 1 (m == 0) : Nat) : Int), 0, 0, 0, []⟩ SrcB.nil
    rw [hd2] at hdo2
    simp only [vms, vmc, AOpd.val, Nat.reduceEqDiff, reduceCtorEq, Nat.reduceAdd, Nat.reduceBEq, st5, fa, Nat.zero_add, load_at gg6 (i := 0) rfl, load_at gg6 (i := 1) rfl, ne00, g8, g14, fillRef]
    refine Gives.bind (hdo2.mono ?_)
    rintro _ h7 ⟨⟨w7, rfl, hw7⟩, F7, R7, act7⟩
    have gg7 := act7.get gg6 hn6 n6
    obtain ⟨r7, nF7⟩ := row_act r6 lo6 nF5 act7
    obtain ⟨v', h9, ha, hr9, ho9, md9, lo9⟩ := row_app (bytes := 8) (x := refA m i) act7.low r7 (by decide) (by decide) (by simp [refsC]; omega) rfl
    have ha' : appV 1 8 (h7.new (.cells [AV.int .i64 ((refN i 1 (m == 0) : Nat) : Int)] true)) v (.slice h7.next 0 1 1 1 true) = some (v', h9) := ha
    have w1 : IntKind.i64.wrap ((J.length : Int) + 1) = ((J.length + 1 : Nat) : Int) := by rw [wrap_i64 (by omega) (by omega)]; omega
    have R9 := ((R7.res act7.low).frame md9 fun o hf ho => nF7 o ho hf).holds
    simp only [vms, vmc, AOpd.val, Nat.reduceEqDiff, reduceCtorEq, Nat.reduceAdd, Nat.reduceBEq, field_err, ne00, fa, Nat.zero_add, load_at gg7 (i := 1) rfl, fillOne, ha', g14, g15, w1]
    refine ⟨n - (J.length + 1), by omega, M2, F7, v', J ++ [i], by simp, by simp; omega, R9, lo9, s2, by simpa [refsC] using hr9, fun o ho => ?_, ?_⟩
    · rcases ho9 o ho with h10 | h10
      · exact nF7 o h10
      · exact fun hf => by have := (R7.res act7.low).low _ hf; omega
    · simp only [vms, vmc, AOpd.val, Nat.reduceEqDiff, reduceCtorEq, Nat.reduceAdd, Nat.reduceBEq, g1, g8, g10, g11, g12, g13, List.length_append, List.length_singleton]
      exact ⟨trivial, trivial, trivial, trivial, trivial, trivial, trivial, trivial⟩
  · have d1 : decide ((J.length : Int) < (n : Int)) = false := by rw [decide_eq_false_iff_not]; omega
    simp only [c10l0, vms, vmc, AOpd.val, Nat.reduceEqDiff, reduceCtorEq, Nat.reduceAdd, Nat.reduceBEq, g11, g15, d1]
    refine hq _ g M' F' v J (by omega) R' lo s' rv nF ?_ ?_ ?_ ?_ ?_ ?_ ?_
    all_goals simp only [vms, vmc, AOpd.val, Nat.reduceEqDiff, reduceCtorEq, Nat.reduceAdd, Nat.reduceBEq, g1, g8, g10, g11, g12, g13, g14]
theorem frees_loop1 (k : Fits T) {mo m t : Nat} {J : List Nat} {M : MemP} {F : Nat → Prop} {room0 nr : Nat} {live0 : Int} {v : AV} (hl : Low h) (R : MemR mo M F h) (s : FrM M m J J [] 0 room0 live0 nr) (ht : t ≤ 4) (rv : Row1 h v (refsC m J)) (nF : ∀ o ∈ objs v, ¬ F o) {f : Fr}
    (f8 : f.at 8 = .ptr mo 0) (f14 : f.at 14 = v) (f17 : f.at 17 = .int .i64 (t : Int)) (f18 : f.at 18 = .int .i64 0) {Q : AExit → Fr → AH → Prop}
    (hq : ∀ f' g M' F', MemR mo M' F' g → Low g → FrM M' m J J [] (t : Int) room0 live0 nr → Row1 g v (refsC m J) → (∀ o ∈ objs v, ¬ F' o) → f'.at 8 = .ptr mo 0 → f'.at 10 = f.at 10 → f'.at 11 = f.at 11 → f'.at 12 = f.at 12 → f'.at 13 = f.at 13 → f'.at 14 = v → f'.at 17 = .int .i64 (t : Int) → Q (.exit 2) f' g) :
    Wp (code T (.loop c10l1) f h) Q := by
  refine wpc_loop (fun d f' g => ∃ i M' F', d = t - i ∧ i ≤ t ∧ MemR mo M' F' g ∧ Low g ∧ FrM M' m J J [] (i : Nat) room0 live0 nr ∧ Row1 g v (refsC m J) ∧ (∀ o ∈ objs v, ¬ F' o) ∧ f'.at 8 = .ptr mo 0 ∧ f'.at 10 = f.at 10 ∧ f'.at 11 = f.at 11 ∧ f'.at 12 = f.at 12 ∧ f'.at 13 = f.at 13 ∧ f'.at 14 = v ∧ f'.at 17 = .int .i64 (t : Int) ∧ f'.at 18 = .int .i64 (i : Nat)) ?_ t _ _
    ⟨0, M, F, rfl, by omega, R, hl, s, rv, nF, f8, rfl, rfl, rfl, rfl, f14, f17, f18⟩
  rintro _ f' g ⟨i, M', F', rfl, hi, R', lo, s', rv', nF', g8, g10, g11, g12, g13, g14, g17, g18⟩
  by_cases h1 : i < t
  · have d1 : decide ((i : Int) < (t : Int)) = true := by rw [decide_eq_true_eq]; omega
    simp only [c10l1, vms, vmc, AOpd.val, Nat.reduceEqDiff, reduceCtorEq, Nat.reduceAdd, Nat.reduceBEq, g8, g17, g18, d1]
    refine Gives.bind ((mem_now k R').mono ?_)
    rintro _ _ ⟨rfl, rfl⟩
    rename_i g
    obtain ⟨M1, hd1, s1⟩ := s'.adv (by omega)
    have hdo := do_num k R' lo 0 11 M'.ep.now
    rw [hd1] at hdo
    simp only [vms, vmc, AOpd.val, Nat.reduceEqDiff, reduceCtorEq, Nat.reduceAdd, Nat.reduceBEq, accN, g8]
    refine Gives.bind (hdo.mono ?_)
    rintro _ h5 ⟨⟨w5, rfl, hw5⟩, F5, R5, act5⟩
    obtain ⟨r5, nF5⟩ := row_act rv' lo nF' act5
    have w1 : IntKind.i64.wrap ((i : Int) + 1) = ((i + 1 : Nat) : Int) := by rw [wrap_i64 (by omega) (by omega)]; omega
    simp only [vms, vmc, AOpd.val, Nat.reduceEqDiff, reduceCtorEq, Nat.reduceAdd, Nat.reduceBEq, field_ok, Bool.not_true, g18, w1]
    refine ⟨t - (i + 1), by omega, i + 1, M1, F5, rfl, by omega, R5, act5.low, by simpa using s1, r5, nF5, ?_⟩
    simp only [vms, vmc, AOpd.val, Nat.reduceEqDiff, reduceCtorEq, Nat.reduceAdd, Nat.reduceBEq, g8, g10, g11, g12, g13, g14, g17]
    exact ⟨trivial, trivial, trivial, trivial, trivial, trivial, trivial, trivial⟩
  · have d1 : decide ((i : Int) < (t : Int)) = false := by rw [decide_eq_false_iff_not]; omega
    have e : i = t := by omega
    subst e
    simp only [c10l1, vms, vmc, AOpd.val, Nat.reduceEqDiff, reduceCtorEq, Nat.reduceAdd, Nat.reduceBEq, g17, g18, d1]
    refine hq _ g M' F' R' lo s' rv' nF' ?_ ?_ ?_ ?_ ?_ ?_ ?_
    all_goals simp only [vms, vmc, AOpd.val, Nat.reduceEqDiff, reduceCtorEq, Nat.reduceAdd, Nat.reduceBEq, g8, g10, g11, g12, g13, g14, g17]
theorem frees_loop2 (k : Fits T) {mo m t : Nat} {J : List Nat} {M : MemP} {F : Nat → Prop} {room0 nr : Nat} {live0 : Int} {v : AV} (hl : Low h) (R : MemR mo M F h) (s : FrM M m J J [] (t : Int) room0 live0 nr) (hm : m < 4) (hJ : J.length ≤ 4) (rv : Row1 h v (refsC m J)) (nF : ∀ o ∈ objs v, ¬ F o) {f : Fr}
    (f8 : f.at 8 = .ptr mo 0) (f11 : f.at 11 = .int .i64 (J.length : Int)) (f14 : f.at 14 = v) (f17 : f.at 17 = .int .i64 (t : Int)) (f19 : f.at 19 = .int .i64 0) {Q : AExit → Fr → AH → Prop}
    (hq : ∀ f' g M' F', MemR mo M' F' g → Low g → (if 2 ≤ t then FrM M' m [] [] J (t : Int) room0 live0 nr else FrM M' m J J [] (t : Int) room0 live0 nr) → Row1 g v (refsC m J) → (∀ o ∈ objs v, ¬ F' o) → f'.at 8 = .ptr mo 0 → f'.at 10 = f.at 10 → f'.at 11 = f.at 11 → f'.at 12 = f.at 12 → f'.at 13 = f.at 13 → f'.at 14 = v → f'.at 17 = .int .i64 (t : Int) → Q (.exit 4) f' g) :
    Wp (code T (.loop c10l2) f h) Q := by
  refine wpc_loop (fun d f' g => ∃ i M' F', d = J.length - i ∧ i ≤ J.length ∧ MemR mo M' F' g ∧ Low g ∧ (if 2 ≤ t then FrM M' m (J.drop i) (J.drop i) (J.take i) (t : Int) room0 live0 nr else FrM M' m J J [] (t : Int) room0 live0 nr) ∧ Row1 g v (refsC m J) ∧ (∀ o ∈ objs v, ¬ F' o) ∧ f'.at 8 = .ptr mo 0 ∧ f'.at 10 = f.at 10 ∧ f'.at 11 = .int .i64 (J.length : Int) ∧ f'.at 12 = f.at 12 ∧ f'.at 13 = f.at 13 ∧ f'.at 14 = v ∧ f'.at 17 = .int .i64 (t : Int) ∧ f'.at 19 = .int .i64 (i : Nat)) ?_ J.length _ _
    ⟨0, M, F, rfl, by omega, R, hl, by split <;> simpa using s, rv, nF, f8, rfl, f11, rfl, rfl, f14, f17, f19⟩
  rintro _ f' g ⟨i, M', F', rfl, hi, R', lo, s', rv', nF', g8, g10, g11, g12, g13, g14, g17, g19⟩
  have fa : ∀ o j, fieldAddrV j (.ptr o 0) = some (.ptr o (0 + j)) := fun o j => rfl
  have w1 : i < J.length → IntKind.i64.wrap ((i : Int) + 1) = ((i + 1 : Nat) : Int) := fun _ => by rw [wrap_i64 (by omega) (by omega)]; omega
  by_cases h1 : i < J.length
  · have d1 : decide ((i : Int) < (J.length : Int)) = true := by rw [decide_eq_true_eq]; omega
    have w1 := w1 h1
    have hdo := do_kind k R' lo 0 12
    by_cases h2 : 2 ≤ t
    · rw [if_pos h2] at s'
      obtain ⟨j, hj⟩ : ∃ j, J[i]? = some j := ⟨_, List.getElem?_eq_getElem h1⟩
      have hdr : J.drop i = j :: J.drop (i + 1) := by
        rw [List.drop_eq_getElem_cons h1]
        rw [List.getElem?_eq_getElem h1] at hj
        rw [Option.some.inj hj]
      have htk : J.take (i + 1) = J.take i ++ [j] := by rw [List.take_add_one, hj]; rfl
      rw [hdr] at s'
      obtain ⟨M1, hd1, s1⟩ := s'.collect hm (by omega)
      rw [hd1] at hdo
      have d2 : decide ((t : Int) ≥ 2) = true := by rw [decide_eq_true_eq]; omega
      simp only [c10l2, vms, vmc, AOpd.val, Nat.reduceEqDiff, reduceCtorEq, Nat.reduceAdd, Nat.reduceBEq, g8, g11, g19, d1, accK]
      refine Gives.bind (hdo.mono ?_)
      rintro _ h5 ⟨hr5, F5, R5, act5⟩
      obtain ⟨w5, h6, rfl, st5, q6, lo6, gg6, hn6, _⟩ := keepR act5.low hr5
      have R6 := ((R5.res act5.low).quiet q6).holds
      obtain ⟨r5, nF5⟩ := row_act rv' lo nF' act5
      have r6 := row_quiet r5 act5.low q6
      obtain ⟨p, hp1, hp2⟩ := r6.sees.at (i := i) (x := refA m j) (by simp [refsC, hj]) .i64
      have hp2' : loadV h6 false 1 p = some (.int .i64 ((refN j 1 (m == 0) : Nat) : Int)) := hp2
      have bn : ((((refN j 1 (m == 0) : Nat) : Int)) != ((refN j 1 (m == 0) : Nat) : Int)) = false := by simp
      simp only [vms, vmc, AOpd.val, Nat.reduceEqDiff, reduceCtorEq, Nat.reduceAdd, Nat.reduceBEq, st5, fa, Nat.zero_add, load_at gg6 (i := 2) rfl, load_at gg6 (i := 1) rfl, g17, d2, eqB_bool, g14, g19, hp1, hp2', bn, w1, Bool.not_true, show (true == true) = true from rfl]
      refine ⟨J.length - (i + 1), by omega, i + 1, M1, F5, rfl, by omega, R6, lo6, by rw [if_pos h2, htk]; exact s1, r6, nF5, ?_⟩
      simp only [vms, vmc, AOpd.val, Nat.reduceEqDiff, reduceCtorEq, Nat.reduceAdd, Nat.reduceBEq, g8, g10, g11, g12, g13, g14, g17]
      exact ⟨trivial, trivial, trivial, trivial, trivial, trivial, trivial, trivial⟩
    · rw [if_neg h2] at s'
      rw [s'.keep (.inr (by omega))] at hdo
      have d2 : decide ((t : Int) ≥ 2) = false := by rw [decide_eq_false_iff_not]; omega
      simp only [c10l2, vms, vmc, AOpd.val, Nat.reduceEqDiff, reduceCtorEq, Nat.reduceAdd, Nat.reduceBEq, g8, g11, g19, d1, accK]
      refine Gives.bind (hdo.mono ?_)
      rintro _ h5 ⟨hr5, F5, R5, act5⟩
      obtain ⟨w5, h6, rfl, st5, q6, lo6, gg6, hn6, _⟩ := keepR act5.low hr5
      have R6 := ((R5.res act5.low).quiet q6).holds
      obtain ⟨r5, nF5⟩ := row_act rv' lo nF' act5
      have r6 := row_quiet r5 act5.low q6
      simp only [vms, vmc, AOpd.val, Nat.reduceEqDiff, reduceCtorEq, Nat.reduceAdd, Nat.reduceBEq, st5, fa, Nat.zero_add, load_at gg6 (i := 2) rfl, load_at gg6 (i := 1) rfl, g17, d2, eqB_bool, g14, g19, w1, Bool.not_true, show (false == false) = true from rfl]
      refine ⟨J.length - (i + 1), by omega, i + 1, M', F5, rfl, by omega, R6, lo6, by rw [if_neg h2]; exact s', r6, nF5, ?_⟩
      simp only [vms, vmc, AOpd.val, Nat.reduceEqDiff, reduceCtorEq, Nat.reduceAdd, Nat.reduceBEq, g8, g10, g11, g12, g13, g14, g17]
      exact ⟨trivial, trivial, trivial, trivial, trivial, trivial, trivial, trivial⟩
  · have d1 : decide ((i : Int) < (J.length : Int)) = false := by rw [decide_eq_false_iff_not]; omega
    have e : i = J.length := by omega
    subst e
    simp only [c10l2, vms, vmc, AOpd.val, Nat.reduceEqDiff, reduceCtorEq, Nat.reduceAdd, Nat.reduceBEq, g11, g19, d1]
    refine hq _ g M' F' R' lo ?_ rv' nF' ?_ ?_ ?_ ?_ ?_ ?_ ?_
    · simpa using s'
    all_goals simp only [vms, vmc, AOpd.val, Nat.reduceEqDiff, reduceCtorEq, Nat.reduceAdd, Nat.reduceBEq, g8, g10, f11, g11, g12, g13, g14, g17]
theorem frees_loop3 (k : Fits T) {mo m : Nat} {t : Int} {J : List Nat} {M : MemP} {F : Nat → Prop} {room0 nr : Nat} {live0 : Int} {v : AV} (hl : Low h) (R : MemR mo M F h) (s : FrM M m [] [] J t room0 live0 nr) (hJ : J.length ≤ 4) (rv : Row1 h v (refsC m J)) (nF : ∀ o ∈ objs v, ¬ F o) {f : Fr}
    (f8 : f.at 8 = .ptr mo 0) (f132 : f.at 132 = v) (f133 : f.at 133 = .int .i64 (J.length : Int)) (f134 : f.at 134 = .int .i64 0) {Q : AExit → Fr → AH → Prop}
    (hq : ∀ f' g F', MemR mo M F' g → Low g → f'.at 8 = .ptr mo 0 → f'.at 10 = f.at 10 → f'.at 12 = f.at 12 → f'.at 13 = f.at 13 → Q (.exit 6) f' g) :
    Wp (code T (.loop c10l3) f h) Q := by
  refine wpc_loop (fun d f' g => ∃ i F', d = J.length - i ∧ i ≤ J.length ∧ MemR mo M F' g ∧ Low g ∧ Row1 g v (refsC m J) ∧ (∀ o ∈ objs v, ¬ F' o) ∧ f'.at 8 = .ptr mo 0 ∧ f'.at 10 = f.at 10 ∧ f'.at 12 = f.at 12 ∧ f'.at 13 = f.at 13 ∧ f'.at 132 = v ∧ f'.at 133 = .int .i64 (J.length : Int) ∧ f'.at 134 = .int .i64 (i : Nat)) ?_ J.length _ _
    ⟨0, F, rfl, by omega, R, hl, rv, nF, f8, rfl, rfl, rfl, f132, f133, f134⟩
  rintro _ f' g ⟨i, F', rfl, hi, R', lo, rv', nF', g8, g10, g12, g13, g132, g133, g134⟩
  by_cases h1 : i < J.length
  · have d1 : decide ((i : Int) < (J.length : Int)) = true := by rw [decide_eq_true_eq]; omega
    have w1 : IntKind.i64.wrap ((i : Int) + 1) = ((i + 1 : Nat) : Int) := by rw [wrap_i64 (by omega) (by omega)]; omega
    obtain ⟨j, hj⟩ : ∃ j, J[i]? = some j := ⟨_, List.getElem?_eq_getElem h1⟩
    have hdo := do_src k R' lo 0 ⟨1, ((refN j 1 (m == 0) : Nat) : Int), 0, 0, 0, []⟩ SrcB.nil
    rw [s.gone (List.mem_of_getElem? hj)] at hdo
    obtain ⟨p, hp1, hp2⟩ := rv'.sees.at (i := i) (x := refA m j) (by simp [refsC, hj]) .i64
    have hp2' : loadV g false 1 p = some (.int .i64 ((refN j 1 (m == 0) : Nat) : Int)) := hp2
    simp only [c10l3, vms, vmc, AOpd.val, Nat.reduceEqDiff, reduceCtorEq, Nat.reduceAdd, Nat.reduceBEq, g8, g132, g133, g134, d1, hp1, hp2', fillRef]
    refine Gives.bind (hdo.mono ?_)
    rintro _ h5 ⟨⟨w5, rfl, hw5⟩, F5, R5, act5⟩
    obtain ⟨r5, nF5⟩ := row_act rv' lo nF' act5
    simp only [vms, vmc, AOpd.val, Nat.reduceEqDiff, reduceCtorEq, Nat.reduceAdd, Nat.reduceBEq, field_err, show (((4 : Nat) : Int) != 4) = false from rfl, g134, w1]
    refine ⟨J.length - (i + 1), by omega, i + 1, F5, rfl, by omega, R5, act5.low, r5, nF5, ?_⟩
    simp only [vms, vmc, AOpd.val, Nat.reduceEqDiff, reduceCtorEq, Nat.reduceAdd, Nat.reduceBEq, g8, g10, g12, g13, g132, g133]
    exact ⟨trivial, trivial, trivial, trivial, trivial, trivial, trivial⟩
  · have d1 : decide ((i : Int) < (J.length : Int)) = false := by rw [decide_eq_false_iff_not]; omega
    simp only [c10l3, vms, vmc, AOpd.val, Nat.reduceEqDiff, reduceCtorEq, Nat.reduceAdd, Nat.reduceBEq, g133, g134, d1]
    refine hq _ g F' R' lo ?_ ?_ ?_ ?_
    all_goals simp only [vms, vmc, AOpd.val, Nat.reduceEqDiff, reduceCtorEq, Nat.reduceAdd, Nat.reduceBEq, g8, g10, g12, g13]
theorem frees_run (k : Fits T) (hl : Low h) {n0 t0 c0 : Int} : Gives T 10 [.int .i64 n0, .int .i64 t0, .int .i64 c0] h fun r _ => r = .bool true := by
  refine gives_func (k.env _ (by decide)) (k.at (fn := a10) rfl) rfl ?_
  have hf0 : fillV [AV.int .i64 0, .int .i64 0, .int .i64 0, .int .i64 0, .int .i64 0, .int .i64 0, .int .i64 0, .int .i64 0] [] = some (izs [0, 0, 0, 0, 0, 0, 0, 0]) := rfl
  simp only [a10, c10, vms, vmc, AOpd.val, Nat.reduceEqDiff, reduceCtorEq, Nat.reduceAdd, Nat.reduceBEq, hf0]
  refine Gives.bind ((cfg_in k hl (z := [0, 0, 0, 0, 0, 0, 0, 0]) rfl).mono ?_)
  rintro _ h1 ⟨c, rfl, hc, hc4, q1, lo1⟩
  have st1 := store_all (h := h1.new (.cells zero8 true)) (o := h1.next) (n := 8) (l' := c.cells) get_new_same rfl hc.len (cfg_flat c)
  have st1' : storeV (h1.new (.cells [.int .i64 0, .int .i64 0, .int .i64 0, .int .i64 0, .int .i64 0, .int .i64 0, .int .i64 0, .int .i64 0] true)) 8 (.ptr h1.next 0) (.agg c.cells) = _ := st1
  have lo2 : Low ((h1.new (.cells zero8 true)).set h1.next (.cells c.cells true)) := (lo1.new _).set (by rw [next_new]; omega) _
  have g2 : ((h1.new (.cells zero8 true)).set h1.next (.cells c.cells true)).get h1.next = some (.cells c.cells true) := get_set_same
  simp only [vms, vmc, AOpd.val, Nat.reduceEqDiff, reduceCtorEq, Nat.reduceAdd, Nat.reduceBEq, st1', load_all g2 hc.len]
  generalize ((h1.new (.cells zero8 true)).set h1.next (.cells c.cells true)) = h2 at *
  refine Gives.bind ((mem_new k lo2 hc).mono ?_)
  rintro _ h3 ⟨mo, M, F, st, sn, sx, rfl, R, hS, q3, hF, lo3⟩
  simp only [vms, vmc, AOpd.val, Nat.reduceEqDiff, reduceCtorEq, Nat.reduceAdd, Nat.reduceBEq, show eqNilV 0 (.ptr mo 0) .nilPtr = some false from rfl, show ((0 : Int) != 0) = false from rfl]
  refine Gives.bind ((within_nat k (hi := 3) (by decide)).mono ?_)
  rintro _ _ ⟨m, rfl, hm, rfl⟩
  rename_i h3
  simp only [vms, vmc, AOpd.val, Nat.reduceEqDiff, reduceCtorEq, Nat.reduceAdd, Nat.reduceBEq]
  refine Gives.bind ((within_nat k (hi := 3) (by decide)).mono ?_)
  rintro _ _ ⟨n1, rfl, hn1, rfl⟩
  rename_i h3
  have wn : IntKind.i64.wrap (1 + (n1 : Int)) = ((n1 + 1 : Nat) : Int) := by rw [wrap_i64 (by omega) (by omega)]; omega
  obtain ⟨room0, live0, sf, hr4, hroom, hlive⟩ := hS.fr hc (m := m) (by omega)
  have hcm : (0 : Int) ≤ (m : Int) ∧ (m : Int) < 5 := ⟨by omega, by omega⟩
  simp only [vms, vmc, AOpd.val, Nat.reduceEqDiff, reduceCtorEq, Nat.reduceAdd, Nat.reduceBEq, wn]
  refine Gives.bind ((mem_live k R).mono ?_)
  rintro _ _ ⟨rfl, rfl⟩
  rename_i h3
  simp only [vms, vmc, AOpd.val, Nat.reduceEqDiff, reduceCtorEq, Nat.reduceAdd, Nat.reduceBEq]
  refine Gives.bind ((mem_room k R (m : Int)).mono ?_)
  rintro _ _ ⟨rfl, rfl⟩
  rename_i h3
  rw [if_pos hcm, Int.toNat_natCast, hroom, hlive]
  simp only [vms, vmc, AOpd.val, Nat.reduceEqDiff, reduceCtorEq, Nat.reduceAdd, Nat.reduceBEq]
  refine frees_loop0 k lo3 R sf (by omega) (n := n1 + 1) (by omega) hr4 ?_ ?_ ?_ ?_ ?_ ?_
  · simp only [vms, vmc, AOpd.val, Nat.reduceEqDiff, reduceCtorEq, Nat.reduceAdd, Nat.reduceBEq]
  · simp only [vms, vmc, AOpd.val, Nat.reduceEqDiff, reduceCtorEq, Nat.reduceAdd, Nat.reduceBEq]
  · simp only [vms, vmc, AOpd.val, Nat.reduceEqDiff, reduceCtorEq, Nat.reduceAdd, Nat.reduceBEq]
  · simp only [vms, vmc, AOpd.val, Nat.reduceEqDiff, reduceCtorEq, Nat.reduceAdd, Nat.reduceBEq]
  · simp only [vms, vmc, AOpd.val, Nat.reduceEqDiff, reduceCtorEq, Nat.reduceAdd, Nat.reduceBEq]
  intro f4 h4 M4 F4 v J hJ R4 lo4 s4 rv4 nF4 a1 a8 a10 a11 a12 a13 a14
  simp only [vms, vmc, AOpd.val, Nat.reduceEqDiff, reduceCtorEq, Nat.reduceAdd, Nat.reduceBEq] at a1 a12 a13
  simp only [vms, vmc, AOpd.val, Nat.reduceEqDiff, reduceCtorEq, Nat.reduceAdd, Nat.reduceBEq, a1, a8]
  refine Gives.bind ((within_nat k (hi := 4) (by decide)).mono ?_)
  rintro _ _ ⟨t, rfl, ht, rfl⟩
  rename_i h4
  simp only [vms, vmc, AOpd.val, Nat.reduceEqDiff, reduceCtorEq, Nat.reduceAdd, Nat.reduceBEq]
  refine frees_loop1 k lo4 R4 s4 ht rv4 nF4 ?_ ?_ ?_ ?_ ?_
  · simp only [vms, vmc, AOpd.val, Nat.reduceEqDiff, reduceCtorEq, Nat.reduceAdd, Nat.reduceBEq, a8]
  · simp only [vms, vmc, AOpd.val, Nat.reduceEqDiff, reduceCtorEq, Nat.reduceAdd, Nat.reduceBEq, a14]
  · simp only [vms, vmc, AOpd.val, Nat.reduceEqDiff, reduceCtorEq, Nat.reduceAdd, Nat.reduceBEq]
  · simp only [vms, vmc, AOpd.val, Nat.reduceEqDiff, reduceCtorEq, Nat.reduceAdd, Nat.reduceBEq]
  intro f5 h5 M5 F5 R5 lo5 s5 rv5 nF5 b8 b10 b11 b12 b13 b14 b17
  simp only [vms, vmc, AOpd.val, Nat.reduceEqDiff, reduceCtorEq, Nat.reduceAdd, Nat.reduceBEq, a10, a11, a12, a13] at b10 b11 b12 b13
  simp only [vms, vmc, AOpd.val, Nat.reduceEqDiff, reduceCtorEq, Nat.reduceAdd, Nat.reduceBEq, b8]
  refine frees_loop2 k lo5 R5 s5 (by omega) (by omega) rv5 nF5 ?_ ?_ ?_ ?_ ?_ ?_
  · simp only [vms, vmc, AOpd.val, Nat.reduceEqDiff, reduceCtorEq, Nat.reduceAdd, Nat.reduceBEq, b8]
  · simp only [vms, vmc, AOpd.val, Nat.reduceEqDiff, reduceCtorEq, Nat.reduceAdd, Nat.reduceBEq, b11, hJ]
  · simp only [vms, vmc, AOpd.val, Nat.reduceEqDiff, reduceCtorEq, Nat.reduceAdd, Nat.reduceBEq, b14]
  · simp only [vms, vmc, AOpd.val, Nat.reduceEqDiff, reduceCtorEq, Nat.reduceAdd, Nat.reduceBEq, b17]
  · simp only [vms, vmc, AOpd.val, Nat.reduceEqDiff, reduceCtorEq, Nat.reduceAdd, Nat.reduceBEq]
  intro f6 h6 M6 F6 R6 lo6 s6 rv6 nF6 d8 d10 d11 d12 d13 d14 d17
  simp only [vms, vmc, AOpd.val, Nat.reduceEqDiff, reduceCtorEq, Nat.reduceAdd, Nat.reduceBEq, b10, b11, b12, b13] at d10 d11 d12 d13
  by_cases h2 : 2 ≤ t
  · rw [if_pos h2] at s6
    have e1 : decide ((t : Int) < 2) = false := by rw [decide_eq_false_iff_not]; omega
    have lv : lenOfV v = some J.length := by simpa [refsC] using rv6.sees.len
    simp only [vms, vmc, AOpd.val, Nat.reduceEqDiff, reduceCtorEq, Nat.reduceAdd, Nat.reduceBEq, d17, e1, d14, lv]
    refine frees_loop3 k lo6 R6 s6 (by omega) rv6 nF6 ?_ ?_ ?_ ?_ ?_
    · simp only [vms, vmc, AOpd.val, Nat.reduceEqDiff, reduceCtorEq, Nat.reduceAdd, Nat.reduceBEq, d8]
    · simp only [vms, vmc, AOpd.val, Nat.reduceEqDiff, reduceCtorEq, Nat.reduceAdd, Nat.reduceBEq]
    · simp only [vms, vmc, AOpd.val, Nat.reduceEqDiff, reduceCtorEq, Nat.reduceAdd, Nat.reduceBEq]
    · simp only [vms, vmc, AOpd.val, Nat.reduceEqDiff, reduceCtorEq, Nat.reduceAdd, Nat.reduceBEq]
    intro f7 h7 F7 R7 lo7 e8 e10 e12 e13
    simp only [vms, vmc, AOpd.val, Nat.reduceEqDiff, reduceCtorEq, Nat.reduceAdd, Nat.reduceBEq, d10, d12, d13] at e10 e12 e13
    simp only [vms, vmc, AOpd.val, Nat.reduceEqDiff, reduceCtorEq, Nat.reduceAdd, Nat.reduceBEq, e8, e10, e12, e13]
    have hl7 := s6.ar.liveN
    have hr7 := s6.ar.room
    refine Gives.bind ((mem_live k R7).mono ?_)
    rintro _ _ ⟨rfl, rfl⟩
    rename_i h7
    have c1 : ((liveP M6.ar) == live0) = true := by rw [beq_iff_eq]; simpa using hl7
    simp only [vms, vmc, AOpd.val, Nat.reduceEqDiff, reduceCtorEq, Nat.reduceAdd, Nat.reduceBEq, e8, e10, e12, e13, c1]
    refine Gives.bind ((mem_room k R7 (m : Int)).mono ?_)
    rintro _ _ ⟨rfl, rfl⟩
    rename_i h7
    have c2 : (((roomP M6.ar m : Nat) : Int) == (room0 : Int)) = true := by rw [beq_iff_eq]; simp at hr7; omega
    rw [if_pos hcm, Int.toNat_natCast]
    simp only [vms, vmc, AOpd.val, Nat.reduceEqDiff, reduceCtorEq, Nat.reduceAdd, Nat.reduceBEq, e8, e10, e12, e13, c2]
    refine Gives.bind ((mem_limbo k R7 0).mono ?_)
    rintro _ _ ⟨rfl, rfl⟩
    rename_i h7
    have c3 : limboE M6.ep 0 = 0 := by
      obtain ⟨x, hx, hxl⟩ := s6.cl
      unfold limboE
      rw [hx]
      simp [hxl]
    rw [c3]
    simp only [vms, vmc, AOpd.val, Nat.reduceEqDiff, reduceCtorEq, Nat.reduceAdd, Nat.reduceBEq, e8, e10, e12, e13, accK, show (((0 : Nat) : Int) == 0) = true from rfl]
    have hdo := do_kind k R7 lo7 0 12
    rw [s6.keep (.inl rfl)] at hdo
    refine Gives.bind (hdo.mono ?_)
    rintro _ h8 ⟨⟨w8, rfl, hw8⟩, F8, R8, act8⟩
    simp only [vms, vmc, AOpd.val, Nat.reduceEqDiff, reduceCtorEq, Nat.reduceAdd, Nat.reduceBEq, field_ok]
    refine Gives.bind ((k.yes _).mono ?_)
    rintro _ _ ⟨rfl, rfl⟩
    simp only [vms, vmc, AOpd.val, Nat.reduceEqDiff, reduceCtorEq, Nat.reduceAdd, Nat.reduceBEq]
  · rw [if_neg h2] at s6
    have e1 : decide ((t : Int) < 2) = true := by rw [decide_eq_true_eq]; omega
    have hl7 := s6.ar.liveN
    have hr7 := s6.ar.room
    simp only [vms, vmc, AOpd.val, Nat.reduceEqDiff, reduceCtorEq, Nat.reduceAdd, Nat.reduceBEq, d8, d10, d11, d12, d13, d17, e1]
    refine Gives.bind ((mem_live k R6).mono ?_)
    rintro _ _ ⟨rfl, rfl⟩
    rename_i h6
    have hlb := live_bound (st := M.ar) sf.ar.small
    have hrb := List.countP_le_length (p := isFree m) (l := M.ar)
    have hrb2 : room0 ≤ 1024 := by rw [← hroom]; exact Nat.le_trans hrb sf.ar.small
    rw [hlive] at hlb
    have w1 : IntKind.i64.wrap (live0 + ((n1 + 1 : Nat) : Int)) = live0 + ((n1 + 1 : Nat) : Int) := wrap_i64 (by omega) (by omega)
    have w2 : IntKind.i64.wrap ((room0 : Int) - ((n1 + 1 : Nat) : Int)) = (room0 : Int) - ((n1 + 1 : Nat) : Int) := wrap_i64 (by omega) (by omega)
    have c1 : ((liveP M6.ar) == live0 + ((n1 + 1 : Nat) : Int)) = true := by rw [beq_iff_eq, hl7, hJ]
    simp only [vms, vmc, AOpd.val, Nat.reduceEqDiff, reduceCtorEq, Nat.reduceAdd, Nat.reduceBEq, d8, d10, d11, d12, d13, w1, c1]
    refine Gives.bind ((mem_room k R6 (m : Int)).mono ?_)
    rintro _ _ ⟨rfl, rfl⟩
    rename_i h6
    have c2 : (((roomP M6.ar m : Nat) : Int) == (room0 : Int) - ((n1 + 1 : Nat) : Int)) = true := by rw [beq_iff_eq]; omega
    rw [if_pos hcm, Int.toNat_natCast]
    simp only [vms, vmc, AOpd.val, Nat.reduceEqDiff, reduceCtorEq, Nat.reduceAdd, Nat.reduceBEq, d8, d10, d11, d12, d13, w2, c2]
    refine Gives.bind ((k.yes _).mono ?_)
    rintro _ _ ⟨rfl, rfl⟩
    simp only [vms, vmc, AOpd.val, Nat.reduceEqDiff, reduceCtorEq, Nat.reduceAdd, Nat.reduceBEq]
end Go.Proofs.Ytagcnjhpdopkiaa

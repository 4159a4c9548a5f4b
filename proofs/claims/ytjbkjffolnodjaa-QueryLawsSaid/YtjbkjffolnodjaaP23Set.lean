/- Chapter 23: sets as rising lists; what the laws of queries say of them. Plain Lean. -/
import Derived.Test.YtjbkjffolnodjaaP23N
import Derived.Test.YtjbkjffolnodjaaP23A
import Derived.Test.YtjbkjffolnodjaaVmZt
import Derived.Test.YtjbkjffolnodjaaVmZw
namespace Go.Proofs.Ytjbkjffolnodjaa
open Go
set_option linter.unusedSimpArgs false
set_option linter.unusedVariables false
def Up (l : List Int) : Prop := l.Pairwise (· < ·)
theorem up_ext : ∀ {a b : List Int}, Up a → Up b → (∀ x, x ∈ a ↔ x ∈ b) → a = b
  | [], [], _, _, _ => rfl
  | [], y :: b, _, _, h => absurd ((h y).2 (by simp)) (by simp)
  | x :: a, [], _, _, h => absurd ((h x).1 (by simp)) (by simp)
  | x :: a, y :: b, ha, hb, h => by
    obtain ⟨a1, a2⟩ := List.pairwise_cons.1 ha
    obtain ⟨b1, b2⟩ := List.pairwise_cons.1 hb
    have hx : x = y := by
      have h1 := (h x).1 (by simp)
      have h2 := (h y).2 (by simp)
      rcases List.mem_cons.1 h1 with h3 | h3
      · exact h3
      · rcases List.mem_cons.1 h2 with h4 | h4
        · exact h4.symm
        · have := b1 x h3; have := a1 y h4; omega
    subst hx
    congr 1
    refine up_ext a2 b2 fun z => ⟨fun hz => ?_, fun hz => ?_⟩
    · rcases List.mem_cons.1 ((h z).1 (List.mem_cons_of_mem _ hz)) with h3 | h3
      · have := a1 z hz; omega
      · exact h3
    · rcases List.mem_cons.1 ((h z).2 (List.mem_cons_of_mem _ hz)) with h3 | h3
      · have := b1 z hz; omega
      · exact h3
/-- A number behind a rising list, if it is above it. -/
def risStep (out : List Int) (x : Int) : List Int := match out.getLast? with
  | none => out ++ [x]
  | some y => if y < x then out ++ [x] else out
def ris (l : List Int) : List Int := l.foldl risStep []
theorem up_snoc {l : List Int} {x : Int} (h : Up l) (hx : ∀ y ∈ l, y < x) : Up (l ++ [x]) :=
  List.pairwise_append.2 ⟨h, by simp, fun a ha b hb => by simp at hb; subst hb; exact hx a ha⟩
theorem up_last {l : List Int} {y : Int} (h : Up l) (hy : l.getLast? = some y) : ∀ z ∈ l, z ≤ y := by
  obtain ⟨a, rfl⟩ : ∃ a, l = a ++ [y] := List.getLast?_eq_some_iff.1 hy
  intro z hz
  obtain ⟨_, _, h3⟩ := List.pairwise_append.1 h
  rcases List.mem_append.1 hz with h1 | h1
  · have := h3 z h1 y (by simp); omega
  · simp at h1; omega
theorem risStep_up {out : List Int} {x : Int} (h : Up out) : Up (risStep out x) := by
  unfold risStep
  split
  · rename_i hl
    have : out = [] := by simpa using hl
    subst this
    simp [Up]
  · rename_i y hy
    split
    · exact up_snoc h fun z hz => by have := up_last h hy z hz; omega
    · exact h
theorem risFold_up : ∀ (l out : List Int), Up out → Up (l.foldl risStep out)
  | [], _, h => h
  | x :: l, out, h => risFold_up l _ (risStep_up h)
theorem ris_up (l : List Int) : Up (ris l) := risFold_up l [] (by simp [Up])
theorem risFold_same : ∀ (l out : List Int), Up (out ++ l) → l.foldl risStep out = out ++ l
  | [], out, _ => by simp
  | x :: l, out, h => by
    have h1 : risStep out x = out ++ [x] := by
      unfold risStep
      split
      · rfl
      · rename_i y hy
        rw [if_pos]
        obtain ⟨_, _, h3⟩ := List.pairwise_append.1 h
        exact h3 y (List.mem_of_getLast? hy) x (by simp)
    rw [List.foldl_cons, h1, risFold_same l (out ++ [x]) (by simpa using h)]
    simp
theorem ris_same {l : List Int} (h : Up l) : ris l = l := (risFold_same l [] h).trans (List.nil_append l)
theorem ris_ris (l : List Int) : ris (ris l) = ris l := ris_same (ris_up l)
def both (a b : List Int) (i : Bool) : List Int := a.filter fun x => decide (x ∈ b) == i
theorem both_up {a b : List Int} {i : Bool} (h : Up a) : Up (both a b i) := List.Pairwise.filter _ h
theorem mem_both {a b : List Int} {i : Bool} {x : Int} : x ∈ both a b i ↔ x ∈ a ∧ (decide (x ∈ b) = i) := by
  simp [both]
def inter (a b : List Int) : List Int := both (ris a) (ris b) true
def minus (a b : List Int) : List Int := both (ris a) (ris b) false
def mer : List Int → List Int → List Int
  | [], b => b
  | x :: a, [] => x :: a
  | x :: a, y :: b => if x < y then x :: mer a (y :: b) else if y < x then y :: mer (x :: a) b else x :: mer a b
termination_by a b => a.length + b.length
theorem mem_mer (z : Int) : ∀ (a b : List Int), z ∈ mer a b ↔ z ∈ a ∨ z ∈ b
  | [], b => by simp [mer]
  | x :: a, [] => by simp [mer]
  | x :: a, y :: b => by
    rw [mer]
    split
    · rw [List.mem_cons, mem_mer z a (y :: b)]; simp only [List.mem_cons]; grind
    · split
      · rw [List.mem_cons, mem_mer z (x :: a) b]; simp only [List.mem_cons]; grind
      · have : x = y := by omega
        subst this
        rw [List.mem_cons, mem_mer z a b]; simp only [List.mem_cons]; grind
termination_by a b => a.length + b.length
theorem up_mer : ∀ (a b : List Int), Up a → Up b → Up (mer a b)
  | [], b, _, hb => by rw [mer]; exact hb
  | x :: a, [], ha, _ => by rw [mer]; exact ha
  | x :: a, y :: b, ha, hb => by
    obtain ⟨a1, a2⟩ := List.pairwise_cons.1 ha
    obtain ⟨b1, b2⟩ := List.pairwise_cons.1 hb
    rw [mer]
    split
    · refine List.pairwise_cons.2 ⟨fun z hz => ?_, up_mer a (y :: b) a2 hb⟩
      rcases (mem_mer z _ _).1 hz with h | h
      · exact a1 z h
      · rcases List.mem_cons.1 h with rfl | h
        · assumption
        · have := b1 z h; omega
    · split
      · refine List.pairwise_cons.2 ⟨fun z hz => ?_, up_mer (x :: a) b ha b2⟩
        rcases (mem_mer z _ _).1 hz with h | h
        · rcases List.mem_cons.1 h with rfl | h
          · assumption
          · have := a1 z h; omega
        · exact b1 z h
      · refine List.pairwise_cons.2 ⟨fun z hz => ?_, up_mer a b a2 b2⟩
        rcases (mem_mer z _ _).1 hz with h | h
        · exact a1 z h
        · have := b1 z h; omega
termination_by a b => a.length + b.length
def union2 (a b : List Int) : List Int := mer (ris a) (ris b)
/-- Rising, and no more than R. -/
def Sub (R x : List Int) : Prop := Up x ∧ ∀ z ∈ x, z ∈ R
theorem inter_sub {U x y : List Int} (hx : Sub (ris U) x) : Sub (ris U) (inter x y) :=
  ⟨both_up (ris_up _), fun z hz => by
    have := (mem_both.1 hz).1
    rw [ris_same hx.1] at this
    exact hx.2 z this⟩
theorem inter_first {U y : List Int} : Sub (ris U) (inter U y) := ⟨both_up (ris_up _), fun z hz => (mem_both.1 hz).1⟩
theorem minus_sub {U x : List Int} : Sub (ris U) (minus U x) := ⟨both_up (ris_up _), fun z hz => (mem_both.1 hz).1⟩
theorem union_sub {U x y : List Int} (hx : Sub (ris U) x) (hy : Sub (ris U) y) : Sub (ris U) (union2 x y) :=
  ⟨up_mer _ _ (ris_up _) (ris_up _), fun z hz => by
    rcases (mem_mer z _ _).1 hz with h | h
    · rw [ris_same hx.1] at h; exact hx.2 z h
    · rw [ris_same hy.1] at h; exact hy.2 z h⟩
theorem law_none {U x : List Int} (hx : Sub (ris U) x) : inter x (minus U x) = [] := by
  apply List.eq_nil_iff_forall_not_mem.2
  intro z hz
  obtain ⟨h1, h2⟩ := mem_both.1 hz
  rw [ris_same minus_sub.1] at h2
  have h3 : z ∈ minus U x := by simpa using h2
  have h4 := (mem_both.1 h3).2
  rw [ris_same hx.1] at h1 h4
  simp [h1] at h4
theorem law_all {U x : List Int} (hx : Sub (ris U) x) : union2 x (minus U x) = ris U := by
  refine up_ext (up_mer _ _ (ris_up _) (ris_up _)) (ris_up U) fun z => ?_
  unfold union2
  rw [mem_mer, ris_same hx.1, ris_same (minus_sub (U := U) (x := x)).1]
  unfold minus
  rw [mem_both, ris_same hx.1]
  constructor
  · rintro (h | h)
    · exact hx.2 z h
    · exact h.1
  · intro h
    by_cases hz : z ∈ x
    · exact .inl hz
    · exact .inr ⟨h, by simpa using hz⟩
theorem law_and {U x y : List Int} (hx : Sub (ris U) x) (hy : Sub (ris U) y) : minus U (inter x y) = union2 (minus U x) (minus U y) := by
  refine up_ext minus_sub.1 (up_mer _ _ (ris_up _) (ris_up _)) fun z => ?_
  unfold union2
  rw [mem_mer, ris_same (minus_sub (U := U) (x := x)).1, ris_same (minus_sub (U := U) (x := y)).1]
  unfold minus
  rw [mem_both, mem_both, mem_both, ris_same (inter_sub hx).1, ris_same hx.1, ris_same hy.1]
  unfold inter
  rw [show (decide (z ∈ both (ris x) (ris y) true) = false) ↔ ¬ (z ∈ both (ris x) (ris y) true) by simp, mem_both, ris_same hx.1, ris_same hy.1]
  simp only [decide_eq_true_eq, decide_eq_false_iff_not]
  grind
theorem law_twice {U x : List Int} (hx : Sub (ris U) x) : minus U (minus U x) = x := by
  refine up_ext minus_sub.1 hx.1 fun z => ?_
  unfold minus
  rw [mem_both, ris_same (both_up (ris_up _)), show (decide (z ∈ both (ris U) (ris x) false) = false) ↔ ¬ (z ∈ both (ris U) (ris x) false) by simp, mem_both, ris_same hx.1]
  simp only [decide_eq_false_iff_not]
  constructor
  · intro h
    by_cases hz : z ∈ x
    · exact hz
    · exact absurd ⟨h.1, hz⟩ h.2
  · intro h
    exact ⟨hx.2 z h, fun hn => hn.2 h⟩
theorem ris_nil : ris [] = [] := rfl
theorem inter_nil (U : List Int) : inter U [] = [] := by
  apply List.eq_nil_iff_forall_not_mem.2
  intro z hz
  have := (mem_both.1 hz).2
  simp [ris_nil] at this
theorem minus_nil (U : List Int) : minus U [] = ris U := by
  refine up_ext minus_sub.1 (ris_up _) fun z => ?_
  unfold minus
  rw [mem_both, ris_nil]
  simp
theorem union_nil (U : List Int) : union2 [] (ris U) = ris U := by
  unfold union2
  rw [ris_nil, mer, ris_ris]
/-! ### what a query tells -/
/-- How many terms a query has. -/
def leaves : Ex → Nat
  | .w _ => 1
  | .n a => leaves a
  | .a x y => leaves x + leaves y
  | .o x y => leaves x + leaves y
def val (st : List Int → List Int) (U : List Int) : Ex → List (List Int) → List Int
  | .w _, ss => inter U (st (ss.headD []))
  | .n a, ss => minus U (val st U a ss)
  | .a x y, ss => inter (val st U x ss) (val st U y (ss.drop (leaves x)))
  | .o x y, ss => union2 (val st U x ss) (val st U y (ss.drop (leaves x)))
theorem val_sub (st : List Int → List Int) (U : List Int) : ∀ (e : Ex) (ss : List (List Int)), Sub (ris U) (val st U e ss)
  | .w _, ss => inter_first
  | .n a, ss => minus_sub
  | .a x y, ss => inter_sub (val_sub st U x ss)
  | .o x y, ss => union_sub (val_sub st U x ss) (val_sub st U y _)
/-- One step of Eval: a stack of what was told, the sets that are left. -/
def stepV (st : List Int → List Int) (U : List Int) : List (List Int) → List (List Int) → Part → Option (List (List Int) × List (List Int))
  | V, ss, (1, _) => some (inter U (st (ss.headD [])) :: V, ss.tail)
  | x :: V, ss, (4, _) => some (minus U x :: V, ss)
  | y :: x :: V, ss, (2, _) => some (inter x y :: V, ss)
  | y :: x :: V, ss, (3, _) => some (union2 x y :: V, ss)
  | _, _, _ => none
def runV (st : List Int → List Int) (U : List Int) : List (List Int) → List (List Int) → List Part → Option (List (List Int) × List (List Int))
  | V, ss, [] => some (V, ss)
  | V, ss, p :: r => (stepV st U V ss p).bind fun q => runV st U q.1 q.2 r
theorem runV_append {st : List Int → List Int} {U : List Int} : ∀ (a b : List Part) (V ss : List (List Int)), runV st U V ss (a ++ b) = (runV st U V ss a).bind fun q => runV st U q.1 q.2 b
  | [], b, V, ss => rfl
  | p :: a, b, V, ss => by
    simp only [List.cons_append, runV]
    cases stepV st U V ss p with
    | none => rfl
    | some q => exact runV_append a b q.1 q.2
theorem runV_post (st : List Int → List Int) (U : List Int) : ∀ (e : Ex) (V ss : List (List Int)), runV st U V ss (post e) = some (val st U e ss :: V, ss.drop (leaves e))
  | .w t, V, ss => by simp [post, runV, stepV, val, leaves]
  | .n a, V, ss => by
    rw [post, runV_append, runV_post st U a V ss]
    simp [runV, stepV, val, leaves]
  | .a x y, V, ss => by
    rw [post, runV_append, runV_append, runV_post st U x V ss]
    simp only [Option.bind_some]
    rw [runV_post st U y]
    simp [runV, stepV, val, leaves, List.drop_drop, Nat.add_comm]
  | .o x y, V, ss => by
    rw [post, runV_append, runV_append, runV_post st U x V ss]
    simp only [Option.bind_some]
    rw [runV_post st U y]
    simp [runV, stepV, val, leaves, List.drop_drop, Nat.add_comm]
end Go.Proofs.Ytjbkjffolnodjaa
/- Chapter 23: what merge does with rising lists: rising, search, both, Minus, Inter. -/
namespace Go.Proofs.Ytjbkjffolnodjaa
open Go.Vm
set_option linter.unusedSimpArgs false
set_option linter.unusedVariables false
set_option maxRecDepth 100000
variable {T : Vm.Prog} {h : AH}
theorem izs_len (l : List Int) : (izs l).length = l.length := by simp [izs]
theorem izs_at {l : List Int} {i : Nat} {x : Int} (h : l[i]? = some x) : (izs l)[i]? = some (.int .i64 x) := by simp [izs, h]
theorem izs_snoc (l : List Int) (x : Int) : izs (l ++ [x]) = izs l ++ [.int .i64 x] := by simp [izs]
theorem fillI (n : Int) : fillV [AV.int .i64 0] [(0, 1, .int .i64 n)] = some [.int .i64 n] := by simp [fillV, AV.isDef, AV.cells, setMany]
theorem risFold_len : ∀ (l out : List Int), (l.foldl risStep out).length ≤ out.length + l.length
  | [], out => by simp
  | x :: l, out => by
    have h1 := risFold_len l (risStep out x)
    have h2 : (risStep out x).length ≤ out.length + 1 := by
      unfold risStep
      split
      · simp
      · split
        · simp
        · omega
    simp only [List.foldl_cons, List.length_cons]; omega
theorem ris_len (l : List Int) : (ris l).length ≤ l.length := by simpa [ris] using risFold_len l []
/-- A new row of numbers. -/
structure NewI (h h' : AH) (r : AV) (l : List Int) : Prop where
  row : Row1 h' r (izs l)
  new : ∀ o ∈ objs r, h.next ≤ o
  qt : Quiet h h'
  lo : Low h'
theorem NewI.nil (hl : Low h) : NewI h h .nilSlice [] := ⟨.inl ⟨rfl, rfl⟩, fun o ho => by simp [objs] at ho, Quiet.refl h, hl⟩
theorem NewI.push {h' : AH} {r : AV} {l : List Int} (n : NewI h h' r l) (hs : l.length < 1000000) (x : Int) : ∃ r' h2, appV 1 8 (h'.new (.cells [.int .i64 x] true)) r (.slice h'.next 0 1 1 1 true) = some (r', h2) ∧ NewI h h2 r' (l ++ [x]) := by
  obtain ⟨r', h2, ha, r2, o2, m2, lo2⟩ := row_app (bytes := 8) (x := .int .i64 x) n.lo n.row (by decide) (by decide) (by rw [izs_len]; omega) rfl
  refine ⟨r', h2, ha, by rw [izs_snoc]; exact r2, fun o ho => ?_, ⟨Nat.le_trans n.qt.1 m2.1, fun o ho hf => ?_⟩, lo2⟩
  · rcases o2 o ho with h5 | h5
    · exact n.new o h5
    · have := n.qt.1; omega
  · rw [m2.2 o (Nat.lt_of_lt_of_le ho n.qt.1) fun e => by have := n.new o e; omega]
    exact n.qt.2 o ho hf
theorem take_next {l : List Int} {i : Nat} {x : Int} (h : l[i]? = some x) : l.take (i + 1) = l.take i ++ [x] := by
  rw [List.take_add_one, h]; rfl
theorem rising_ok (k : Base T) (hl : Low h) {v : AV} {l : List Int} (s : Sees h v (izs l)) (hs : l.length < 1000000) : Gives T 31 [v] h fun r h' => NewI h h' r (ris l) := by
  refine gives_func (k.env _ (by decide)) (k.at (fn := a31) rfl) rfl ?_
  have hlen : lenOfV v = some l.length := by rw [s.len, izs_len]
  simp only [a31, c31, vms, vmc, AOpd.val, Nat.reduceEqDiff, reduceCtorEq, Nat.reduceAdd, Nat.reduceBEq, hlen]
  refine wpc_loop (fun m f h' => ∃ i rv, m = l.length - i ∧ i ≤ l.length ∧ NewI h h' rv ((l.take i).foldl risStep []) ∧ f.at 3 = rv ∧ f.at 6 = v ∧ f.at 7 = .int .i64 (l.length : Nat) ∧ f.at 8 = .int .i64 (i : Nat)) ?_ l.length _ _ ⟨0, .nilSlice, rfl, Nat.zero_le _, NewI.nil hl, ?_, ?_, ?_, ?_⟩
  · rintro m f h' ⟨i, rv, rfl, hi, n, f3, f6, f7, f8⟩
    simp only [c31l0, vms, vmc, AOpd.val, Nat.reduceEqDiff, reduceCtorEq, Nat.reduceAdd, Nat.reduceBEq, f7, f8]
    by_cases hlt : i < l.length
    · have hd : decide ((i : Int) < (l.length : Int)) = true := by rw [decide_eq_true_eq]; omega
      obtain ⟨x, hx⟩ : ∃ x, l[i]? = some x := ⟨_, List.getElem?_eq_getElem hlt⟩
      obtain ⟨pa, hix, hld⟩ := (sees_keep s hl n.qt).at (izs_at hx) .i64
      have w1 : IntKind.i64.wrap ((i : Int) + 1) = ((i + 1 : Nat) : Int) := by rw [wrap_i64 (by omega) (by omega)]; rfl
      have hnext : (l.take (i + 1)).foldl risStep [] = risStep ((l.take i).foldl risStep []) x := by rw [take_next hx, List.foldl_append]; rfl
      have hal := risFold_len (l.take i) []
      have htl : (l.take i).length = i := by rw [List.length_take]; omega
      generalize (l.take i).foldl risStep [] = acc at n hnext hal
      have lr : lenOfV rv = some acc.length := by rw [n.row.sees.len, izs_len]
      have hal' : acc.length ≤ i := by rw [htl] at hal; simpa using hal
      obtain ⟨r', h2, ha, n2⟩ := n.push (by omega) x
      simp only [hd, vms, vmc, AOpd.val, Nat.reduceEqDiff, reduceCtorEq, Nat.reduceAdd, Nat.reduceBEq, f3, f6, f8, hix, hld, lr]
      by_cases he : acc.length = 0
      · have hz : acc = [] := List.eq_nil_of_length_eq_zero he
        have d0 : ((acc.length : Int) == 0) = true := by rw [he]; rfl
        have hstep : risStep acc x = acc ++ [x] := by rw [hz]; rfl
        simp only [d0, vms, vmc, AOpd.val, Nat.reduceEqDiff, reduceCtorEq, Nat.reduceAdd, Nat.reduceBEq, f3, f8, fillI, ha, w1]
        refine ⟨l.length - (i + 1), by omega, i + 1, r', rfl, by omega, by rw [hnext, hstep]; exact n2, rfl, ?_, ?_, rfl⟩
        · first | trivial | exact f6
        · first | trivial | exact f7
      · have d0 : ((acc.length : Int) == 0) = false := by rw [beq_eq_false_iff_ne]; omega
        have w2 : IntKind.i64.wrap ((acc.length : Int) - 1) = ((acc.length - 1 : Nat) : Int) := by rw [wrap_i64 (by omega) (by omega)]; omega
        obtain ⟨y, hy⟩ : ∃ y, acc[acc.length - 1]? = some y := ⟨_, List.getElem?_eq_getElem (by omega)⟩
        obtain ⟨pb, hiy, hldy⟩ := n.row.sees.at (izs_at hy) .i64
        have hlast : acc.getLast? = some y := by rw [List.getLast?_eq_getElem?]; exact hy
        have hstep : risStep acc x = if y < x then acc ++ [x] else acc := by unfold risStep; rw [hlast]
        simp only [d0, vms, vmc, AOpd.val, Nat.reduceEqDiff, reduceCtorEq, Nat.reduceAdd, Nat.reduceBEq, f3, lr, w2, hiy, hldy]
        by_cases hgt : x > y
        · have d1 : decide (x > y) = true := by simpa using hgt
          simp only [d1, vms, vmc, AOpd.val, Nat.reduceEqDiff, reduceCtorEq, Nat.reduceAdd, Nat.reduceBEq, f3, f8, fillI, ha, w1]
          refine ⟨l.length - (i + 1), by omega, i + 1, r', rfl, by omega, by rw [hnext, hstep, if_pos hgt]; exact n2, rfl, ?_, ?_, rfl⟩
          · first | trivial | exact f6
          · first | trivial | exact f7
        · have d1 : decide (x > y) = false := by simpa using hgt
          simp only [d1, vms, vmc, AOpd.val, Nat.reduceEqDiff, reduceCtorEq, Nat.reduceAdd, Nat.reduceBEq, f8, w1]
          refine ⟨l.length - (i + 1), by omega, i + 1, rv, rfl, by omega, by rw [hnext, hstep, if_neg hgt]; exact n, ?_, ?_, ?_, rfl⟩
          · first | trivial | exact f3
          · first | trivial | exact f6
          · first | trivial | exact f7
    · have hd : decide ((i : Int) < (l.length : Int)) = false := by rw [decide_eq_false_iff_not]; omega
      have : i = l.length := by omega
      subst this
      rw [List.take_length] at n
      simp only [hd, vms, vmc, AOpd.val, Nat.reduceEqDiff, reduceCtorEq, Nat.reduceAdd, Nat.reduceBEq, f3]
      exact n
  all_goals (simp only [vms, vmc, AOpd.val, Nat.reduceEqDiff, reduceCtorEq, Nat.reduceAdd, Nat.reduceBEq] <;> rfl)
theorem isNaN_ok (k : Base T) (x : Int) : Gives T 62 [.int .i64 x] h fun r h' => r = .bool false ∧ h' = h := by
  refine gives_func (k.env _ (by decide)) (k.at (fn := a62) rfl) rfl ?_
  simp only [a62, c62, vms, vmc, AOpd.val, Nat.reduceEqDiff, reduceCtorEq, Nat.reduceAdd, Nat.reduceBEq, show (x != x) = false by simp]
  exact ⟨trivial, trivial⟩
theorem isNaN50_ok (k : Base T) (x : Int) : Gives T 50 [.int .i64 x] h fun r h' => r = .bool false ∧ h' = h := by
  refine gives_func (k.env _ (by decide)) (k.at (fn := a50) rfl) rfl ?_
  simp only [a50, c50, vms, vmc, AOpd.val, Nat.reduceEqDiff, reduceCtorEq, Nat.reduceAdd, Nat.reduceBEq, show (x != x) = false by simp]
  exact ⟨trivial, trivial⟩
theorem cmpLess_ok (k : Base T) (x y : Int) : Gives T 49 [.int .i64 x, .int .i64 y] h fun r h' => r = .bool (decide (x < y)) ∧ h' = h := by
  refine gives_func (k.env _ (by decide)) (k.at (fn := a49) rfl) rfl ?_
  simp only [a49, c49, vms, vmc, AOpd.val, Nat.reduceEqDiff, reduceCtorEq, Nat.reduceAdd, Nat.reduceBEq]
  refine Gives.bind ((isNaN_ok k x).mono ?_)
  rintro _ _ ⟨rfl, rfl⟩
  simp only [vms, vmc, AOpd.val, Nat.reduceEqDiff, reduceCtorEq, Nat.reduceAdd, Nat.reduceBEq]
  exact ⟨trivial, trivial⟩
theorem mid_u64 {a : Nat} (ha : a < 4000000) : binV .shr (.int .u64 (a : Int)) (.int .u64 1) = some (.int .u64 ((a / 2 : Nat) : Int)) := by
  have := bin_shr_u64 (a := a) (n := 1) (by decide) .u64
  simpa using this
theorem search_ok (k : Base T) (hl : Low h) {v : AV} {b : List Int} (s : Sees h v (izs b)) (hb : Up b) (hs : b.length < 1000000) (x : Int) : Gives T 43 [v, .int .i64 x] h fun r h' => (∃ p, r = .tuple [p, .bool (decide (x ∈ b))]) ∧ h' = h := by
  refine gives_func (k.env _ (by decide)) (k.at (fn := a43) rfl) rfl ?_
  have hlen : lenOfV v = some b.length := by rw [s.len, izs_len]
  simp only [a43, c43, vms, vmc, AOpd.val, Nat.reduceEqDiff, reduceCtorEq, Nat.reduceAdd, Nat.reduceBEq, hlen]
  have hup : ∀ (i j : Nat) (y z : Int), i < j → b[i]? = some y → b[j]? = some z → y < z := by
    intro i j y z hij hy hz
    have hi := (List.getElem?_eq_some_iff.1 hy)
    have hj := (List.getElem?_eq_some_iff.1 hz)
    have := (List.pairwise_iff_getElem.1 hb) i j hi.1 hj.1 hij
    rw [hi.2, hj.2] at this; exact this
  refine wpc_loop (fun m f h' => ∃ i j, m = j - i ∧ i ≤ j ∧ j ≤ b.length ∧ h' = h ∧ (∀ (t : Nat) (y : Int), t < i → b[t]? = some y → y < x) ∧ (∀ (t : Nat) (y : Int), j ≤ t → b[t]? = some y → x ≤ y) ∧ f.at 0 = v ∧ f.at 1 = .int .i64 x ∧ f.at 6 = .int .i64 (b.length : Nat) ∧ f.at 7 = .int .i64 (i : Nat) ∧ f.at 8 = .int .i64 (j : Nat)) ?_ b.length _ _ ⟨0, b.length, rfl, Nat.zero_le _, Nat.le_refl _, rfl, fun t y ht => absurd ht (by omega), fun t y ht hy => by have := (List.getElem?_eq_some_iff.1 hy).1; omega, ?_, ?_, ?_, ?_, ?_⟩
  · rintro m f h ⟨i, j, rfl, hij, hj, rfl, hlo, hhi, f0, f1, f6, f7, f8⟩
    simp only [c43l0, vms, vmc, AOpd.val, Nat.reduceEqDiff, reduceCtorEq, Nat.reduceAdd, Nat.reduceBEq, f7, f8]
    by_cases hlt : i < j
    · have hd : decide ((i : Int) < (j : Int)) = true := by rw [decide_eq_true_eq]; omega
      have w1 : IntKind.i64.wrap ((i : Int) + (j : Int)) = ((i + j : Nat) : Int) := by rw [wrap_i64 (by omega) (by omega)]; omega
      have w2 : IntKind.u64.wrap (((i + j : Nat) : Int)) = ((i + j : Nat) : Int) := wrap_u64 (by omega)
      have w3 : IntKind.i64.wrap ((((i + j) / 2 : Nat) : Int)) = (((i + j) / 2 : Nat) : Int) := wrap_nat (by omega)
      obtain ⟨y, hy⟩ : ∃ y, b[(i + j) / 2]? = some y := ⟨_, List.getElem?_eq_getElem (by omega)⟩
      obtain ⟨pa, hix, hld⟩ := s.at (izs_at hy) .i64
      simp only [hd, vms, vmc, AOpd.val, Nat.reduceEqDiff, reduceCtorEq, Nat.reduceAdd, Nat.reduceBEq, f0, f1, f7, f8, w1, w2, w3, mid_u64 (show i + j < 4000000 by omega), hix, hld]
      refine Gives.bind ((cmpLess_ok k y x).mono ?_)
      rintro _ _ ⟨rfl, rfl⟩
      rename_i h
      by_cases hyx : y < x
      · have d1 : decide (y < x) = true := by simpa using hyx
        have w4 : IntKind.i64.wrap ((((i + j) / 2 : Nat) : Int) + 1) = (((i + j) / 2 + 1 : Nat) : Int) := by rw [wrap_i64 (by omega) (by omega)]; omega
        simp only [d1, vms, vmc, AOpd.val, Nat.reduceEqDiff, reduceCtorEq, Nat.reduceAdd, Nat.reduceBEq, w4]
        refine ⟨j - ((i + j) / 2 + 1), by omega, (i + j) / 2 + 1, j, rfl, by omega, hj, trivial, ?_, hhi, ?_, ?_, ?_, rfl, ?_⟩
        · intro t z ht hz
          by_cases e : t = (i + j) / 2
          · subst e; rw [hy] at hz; cases hz; exact hyx
          · have := hup t _ z y (by omega) hz hy; omega
        · first | trivial | exact f0
        · first | trivial | exact f1
        · first | trivial | exact f6
        · first | trivial | exact f8
      · have d1 : decide (y < x) = false := by simpa using hyx
        simp only [d1, vms, vmc, AOpd.val, Nat.reduceEqDiff, reduceCtorEq, Nat.reduceAdd, Nat.reduceBEq]
        refine ⟨(i + j) / 2 - i, by omega, i, (i + j) / 2, rfl, by omega, by omega, trivial, hlo, ?_, ?_, ?_, ?_, ?_, rfl⟩
        · intro t z ht hz
          by_cases e : t = (i + j) / 2
          · subst e; rw [hy] at hz; cases hz; omega
          · have := hup _ t y z (by omega) hy hz; omega
        · first | trivial | exact f0
        · first | trivial | exact f1
        · first | trivial | exact f6
        · first | trivial | exact f7
    · have hd : decide ((i : Int) < (j : Int)) = false := by rw [decide_eq_false_iff_not]; omega
      have : i = j := by omega
      subst this
      simp only [hd, vms, vmc, AOpd.val, Nat.reduceEqDiff, reduceCtorEq, Nat.reduceAdd, Nat.reduceBEq, f0, f1, f6, f7]
      by_cases hin : i < b.length
      · have d1 : decide ((i : Int) < (b.length : Int)) = true := by rw [decide_eq_true_eq]; omega
        obtain ⟨y, hy⟩ : ∃ y, b[i]? = some y := ⟨_, List.getElem?_eq_getElem hin⟩
        obtain ⟨pa, hix, hld⟩ := s.at (izs_at hy) .i64
        simp only [d1, vms, vmc, AOpd.val, Nat.reduceEqDiff, reduceCtorEq, Nat.reduceAdd, Nat.reduceBEq, f0, f1, f7, hix, hld]
        by_cases he : y = x
        · have d2 : (y == x) = true := by simpa using he
          have hm : decide (x ∈ b) = true := by rw [decide_eq_true_eq, ← he]; exact List.mem_of_getElem? hy
          simp only [d2, vms, vmc, AOpd.val, Nat.reduceEqDiff, reduceCtorEq, Nat.reduceAdd, Nat.reduceBEq, hm]
          exact ⟨⟨_, rfl⟩, trivial⟩
        · have d2 : (y == x) = false := by simpa using he
          have hm : decide (x ∈ b) = false := by
            rw [decide_eq_false_iff_not]
            intro hx
            obtain ⟨t, ht⟩ := List.getElem?_of_mem hx
            by_cases e1 : t < i
            · have := hlo t x e1 ht; omega
            · by_cases e2 : t = i
              · subst e2; rw [hy] at ht; cases ht; exact he rfl
              · have h5 := hhi i y (Nat.le_refl _) hy
                have h6 := hup i t y x (by omega) hy ht; omega
          simp only [d2, vms, vmc, AOpd.val, Nat.reduceEqDiff, reduceCtorEq, Nat.reduceAdd, Nat.reduceBEq, f0, f1, f7, hix, hld]
          refine Gives.bind ((isNaN50_ok k y).mono ?_)
          rintro _ _ ⟨rfl, rfl⟩
          simp only [vms, vmc, AOpd.val, Nat.reduceEqDiff, reduceCtorEq, Nat.reduceAdd, Nat.reduceBEq, hm]
          exact ⟨⟨_, rfl⟩, trivial⟩
      · have d1 : decide ((i : Int) < (b.length : Int)) = false := by rw [decide_eq_false_iff_not]; omega
        have hm : decide (x ∈ b) = false := by
          rw [decide_eq_false_iff_not]
          intro hx
          obtain ⟨t, ht⟩ := List.getElem?_of_mem hx
          have := (List.getElem?_eq_some_iff.1 ht).1
          have := hlo t x (by omega) ht; omega
        simp only [d1, vms, vmc, AOpd.val, Nat.reduceEqDiff, reduceCtorEq, Nat.reduceAdd, Nat.reduceBEq, hm]
        exact ⟨⟨_, rfl⟩, trivial⟩
  all_goals (simp only [vms, vmc, AOpd.val, Nat.reduceEqDiff, reduceCtorEq, Nat.reduceAdd, Nat.reduceBEq] <;> rfl)
theorem both_ok (k : Base T) (hl : Low h) {va vb : AV} {a b : List Int} (sa : Sees h va (izs a)) (sb : Sees h vb (izs b)) (hb : Up b) (hsa : a.length < 1000000) (hsb : b.length < 1000000) (i : Bool) : Gives T 32 [va, vb, .bool i] h fun r h' => NewI h h' r (both a b i) := by
  refine gives_func (k.env _ (by decide)) (k.at (fn := a32) rfl) rfl ?_
  have hlen : lenOfV va = some a.length := by rw [sa.len, izs_len]
  simp only [a32, c32, vms, vmc, AOpd.val, Nat.reduceEqDiff, reduceCtorEq, Nat.reduceAdd, Nat.reduceBEq, hlen]
  refine wpc_loop (fun m f h' => ∃ j rv, m = a.length - j ∧ j ≤ a.length ∧ NewI h h' rv (both (a.take j) b i) ∧ f.at 1 = vb ∧ f.at 2 = .bool i ∧ f.at 7 = rv ∧ f.at 12 = va ∧ f.at 13 = .int .i64 (a.length : Nat) ∧ f.at 14 = .int .i64 (j : Nat)) ?_ a.length _ _ ⟨0, .nilSlice, rfl, Nat.zero_le _, NewI.nil hl, ?_, ?_, ?_, ?_, ?_, ?_⟩
  · rintro m f h' ⟨j, rv, rfl, hj, n, f1, f2, f7, f12, f13, f14⟩
    simp only [c32l0, vms, vmc, AOpd.val, Nat.reduceEqDiff, reduceCtorEq, Nat.reduceAdd, Nat.reduceBEq, f13, f14]
    by_cases hlt : j < a.length
    · have hd : decide ((j : Int) < (a.length : Int)) = true := by rw [decide_eq_true_eq]; omega
      obtain ⟨x, hx⟩ : ∃ x, a[j]? = some x := ⟨_, List.getElem?_eq_getElem hlt⟩
      obtain ⟨pa, hix, hld⟩ := (sees_keep sa hl n.qt).at (izs_at hx) .i64
      have w1 : IntKind.i64.wrap ((j : Int) + 1) = ((j + 1 : Nat) : Int) := by rw [wrap_i64 (by omega) (by omega)]; rfl
      have hnext : both (a.take (j + 1)) b i = both (a.take j) b i ++ (if (decide (x ∈ b) == i) = true then [x] else []) := by
        rw [take_next hx]; unfold both; rw [List.filter_append, List.filter_cons]; rfl
      have hal : (both (a.take j) b i).length ≤ j := by
        refine Nat.le_trans (List.length_filter_le _ _) ?_
        rw [List.length_take]; omega
      generalize both (a.take j) b i = acc at n hnext hal
      simp only [hd, vms, vmc, AOpd.val, Nat.reduceEqDiff, reduceCtorEq, Nat.reduceAdd, Nat.reduceBEq, f1, f12, f14, hix, hld]
      refine Gives.bind ((search_ok k n.lo (sees_keep sb hl n.qt) hb hsb x).mono ?_)
      rintro _ _ ⟨⟨p, rfl⟩, rfl⟩
      rename_i h'
      obtain ⟨r', h2, ha, n2⟩ := n.push (by omega) x
      have hq : eqBV false (.bool (decide (x ∈ b))) (.bool i) = some (.bool (decide (x ∈ b) == i)) := by
        cases decide (x ∈ b) <;> cases i <;> rfl
      simp only [vms, vmc, AOpd.val, Nat.reduceEqDiff, reduceCtorEq, Nat.reduceAdd, Nat.reduceBEq, f2, hq]
      cases hc : (decide (x ∈ b) == i)
      · rw [hc, if_neg (by decide), List.append_nil] at hnext
        simp only [vms, vmc, AOpd.val, Nat.reduceEqDiff, reduceCtorEq, Nat.reduceAdd, Nat.reduceBEq, f14, w1]
        refine ⟨a.length - (j + 1), by omega, j + 1, rv, rfl, by omega, by rw [hnext]; exact n, ?_, ?_, ?_, ?_, ?_, rfl⟩
        · first | trivial | exact f1
        · first | trivial | exact f2
        · first | trivial | exact f7
        · first | trivial | exact f12
        · first | trivial | exact f13
      · rw [hc, if_pos rfl] at hnext
        simp only [vms, vmc, AOpd.val, Nat.reduceEqDiff, reduceCtorEq, Nat.reduceAdd, Nat.reduceBEq, f7, f14, fillI, ha, w1]
        refine ⟨a.length - (j + 1), by omega, j + 1, r', rfl, by omega, by rw [hnext]; exact n2, ?_, ?_, rfl, ?_, ?_, rfl⟩
        · first | trivial | exact f1
        · first | trivial | exact f2
        · first | trivial | exact f12
        · first | trivial | exact f13
    · have hd : decide ((j : Int) < (a.length : Int)) = false := by rw [decide_eq_false_iff_not]; omega
      have : j = a.length := by omega
      subst this
      rw [List.take_length] at n
      simp only [hd, vms, vmc, AOpd.val, Nat.reduceEqDiff, reduceCtorEq, Nat.reduceAdd, Nat.reduceBEq, f7]
      exact n
  all_goals (simp only [vms, vmc, AOpd.val, Nat.reduceEqDiff, reduceCtorEq, Nat.reduceAdd, Nat.reduceBEq] <;> rfl)
theorem NewI.sees {h' : AH} {r : AV} {l : List Int} (n : NewI h h' r l) : Sees h' r (izs l) := n.row.sees
theorem NewI.trans {h1 h2 : AH} {r : AV} {l : List Int} (q : Quiet h h1) (n : NewI h1 h2 r l) : NewI h h2 r l :=
  ⟨n.row, fun o ho => Nat.le_trans q.1 (n.new o ho), q.trans n.qt, n.lo⟩
theorem minus_ok (k : Base T) (hl : Low h) {va vb : AV} {a b : List Int} (sa : Sees h va (izs a)) (sb : Sees h vb (izs b)) (hsa : a.length < 1000000) (hsb : b.length < 1000000) : Gives T 26 [va, vb] h fun r h' => NewI h h' r (minus a b) := by
  refine gives_func (k.env _ (by decide)) (k.at (fn := a26) rfl) rfl ?_
  simp only [a26, c26, vms, vmc, AOpd.val, Nat.reduceEqDiff, reduceCtorEq, Nat.reduceAdd, Nat.reduceBEq]
  refine Gives.bind ((rising_ok k hl sa hsa).mono ?_)
  intro ra h1 n1
  simp only [vms, vmc, AOpd.val, Nat.reduceEqDiff, reduceCtorEq, Nat.reduceAdd, Nat.reduceBEq]
  refine Gives.bind ((rising_ok k n1.lo (sees_keep sb hl n1.qt) hsb).mono ?_)
  intro rb h2 n2
  have := ris_len a
  have := ris_len b
  simp only [vms, vmc, AOpd.val, Nat.reduceEqDiff, reduceCtorEq, Nat.reduceAdd, Nat.reduceBEq]
  refine Gives.bind ((both_ok k n2.lo (sees_keep n1.sees n1.lo n2.qt) n2.sees (ris_up b) (by omega) (by omega) false).mono ?_)
  intro r h3 n3
  simp only [vms, vmc, AOpd.val, Nat.reduceEqDiff, reduceCtorEq, Nat.reduceAdd, Nat.reduceBEq]
  exact NewI.trans (n1.qt.trans n2.qt) n3
/-- Two lists, in a row of their own. -/
def Two (h : AH) (o : Nat) (va vb : AV) : Prop := h.get o = some (.cells [va, vb] true)
theorem inter_ok (k : Base T) (hl : Low h) {o : Nat} {va vb : AV} {a b : List Int} (t : Two h o va vb) (sa : Sees h va (izs a)) (sb : Sees h vb (izs b)) (hsa : a.length < 1000000) (hsb : b.length < 1000000) : Gives T 21 [.slice o 0 1 2 2 true] h fun r h' => NewI h h' r (inter a b) := by
  refine gives_func (k.env _ (by decide)) (k.at (fn := a21) rfl) rfl ?_
  have hi0 : idxAddrV 1 (.slice o 0 1 2 2 true) (.int .i64 0) = some (.ptr o 0) := rfl
  have hs1 : slcV 1 (.slice o 0 1 2 2 true) (some (.int .i64 1)) none none = some (.slice o 1 1 1 1 true) := rfl
  have hi1 : idxAddrV 1 (.slice o 1 1 1 1 true) (.int .i64 0) = some (.ptr o 1) := rfl
  have ol : o < h.next := hl _ _ t
  simp only [a21, c21, vms, vmc, AOpd.val, Nat.reduceEqDiff, reduceCtorEq, Nat.reduceAdd, Nat.reduceBEq, len_slice, show (((2 : Nat) : Int) == 0) = false from rfl, hi0, load_at t (i := 0) rfl]
  refine Gives.bind ((rising_ok k hl sa hsa).mono ?_)
  intro ra h1 n1
  have t1 : Two h1 o va vb := n1.qt.get t ol
  simp only [vms, vmc, AOpd.val, Nat.reduceEqDiff, reduceCtorEq, Nat.reduceAdd, Nat.reduceBEq, Option.map_none, hs1, len_slice]
  have ha := ris_len a
  have hb := ris_len b
  refine wpc_loop (fun m f h' => f.at 14 = .slice o 1 1 1 1 true ∧ f.at 15 = .int .i64 1 ∧ ((m = 1 ∧ h' = h1 ∧ f.at 3 = ra ∧ f.at 16 = .int .i64 0) ∨ (m = 0 ∧ ∃ r, NewI h h' r (inter a b) ∧ f.at 3 = r ∧ f.at 16 = .int .i64 1))) ?_ 1 _ _ ⟨?_, ?_, .inl ⟨rfl, rfl, ?_, ?_⟩⟩
  · rintro m f h' ⟨f14, f15, ⟨rfl, rfl, f3, f16⟩ | ⟨rfl, r, n, f3, f16⟩⟩
    · have sb1 := sees_keep sb hl n1.qt
      simp only [c21l0, vms, vmc, AOpd.val, Nat.reduceEqDiff, reduceCtorEq, Nat.reduceAdd, Nat.reduceBEq, f14, f15, f16, show decide ((0 : Int) < 1) = true from rfl, hi1, load_at t1 (i := 1) rfl, f3]
      refine Gives.bind ((rising_ok k n1.lo sb1 hsb).mono ?_)
      intro rb h2 n2
      simp only [vms, vmc, AOpd.val, Nat.reduceEqDiff, reduceCtorEq, Nat.reduceAdd, Nat.reduceBEq, f3]
      refine Gives.bind ((both_ok k n2.lo (sees_keep n1.sees n1.lo n2.qt) n2.sees (ris_up b) (by omega) (by omega) true).mono ?_)
      intro r h3 n3
      simp only [vms, vmc, AOpd.val, Nat.reduceEqDiff, reduceCtorEq, Nat.reduceAdd, Nat.reduceBEq, f14, f15, f16, show IntKind.i64.wrap ((0 : Int) + 1) = 1 from rfl]
      exact ⟨0, by omega, by first | trivial | exact f14, by first | trivial | exact f15, .inr ⟨rfl, r, NewI.trans (n1.qt.trans n2.qt) n3, by first | trivial | rfl, by first | trivial | rfl⟩⟩
    · simp only [c21l0, vms, vmc, AOpd.val, Nat.reduceEqDiff, reduceCtorEq, Nat.reduceAdd, Nat.reduceBEq, f15, f16, f3, show decide ((1 : Int) < 1) = false from rfl]
      exact n
  all_goals (simp only [vms, vmc, AOpd.val, Nat.reduceEqDiff, reduceCtorEq, Nat.reduceAdd, Nat.reduceBEq] <;> rfl)
end Go.Proofs.Ytjbkjffolnodjaa

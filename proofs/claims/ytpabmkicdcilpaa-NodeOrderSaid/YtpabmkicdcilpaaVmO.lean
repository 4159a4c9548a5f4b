/- What an operation reads: nothing else matters to it. -/
import Derived.Test.YtpabmkicdcilpaaVmN
namespace Go.Vm
open Go.RowKit
set_option linter.unusedSimpArgs false
set_option linter.unusedVariables false

def AOpd.reads : AOpd → List Nat
  | .tmp t => [t]
  | .con _ => []
def optReads : Option AOpd → List Nat
  | some x => x.reads
  | none => []
def listReads : List AOpd → List Nat
  | [] => []
  | x :: r => x.reads ++ listReads r
def partReads : List (Nat × Nat × AOpd) → List Nat
  | [] => []
  | x :: r => x.2.2.reads ++ partReads r
def AOp.reads : AOp → List Nat
  | .mov x => x.reads
  | .pick c a b => c.reads ++ a.reads ++ b.reads
  | .new _ => []
  | .box x => x.reads
  | .build _ parts => partReads parts
  | .buildSlice _ _ _ parts => partReads parts
  | .load _ _ a => a.reads
  | .store _ a v => a.reads ++ v.reads
  | .nilChk x => x.reads
  | .bin _ x y => x.reads ++ y.reads
  | .eqB _ x y => x.reads ++ y.reads
  | .eqNil _ _ x y => x.reads ++ y.reads
  | .eqAgg _ _ x y => x.reads ++ y.reads
  | .un _ x => x.reads
  | .toInt _ x => x.reads
  | .asStr x => x.reads
  | .toBytes x => x.reads
  | .toStr x => x.reads
  | .mkIface _ x => x.reads
  | .mkFunc _ first caps => listReads first ++ listReads caps
  | .mkMap => []
  | .mkSlice _ _ _ l c => l.reads ++ c.reads
  | .slc _ x lo hi mx => x.reads ++ optReads lo ++ optReads hi ++ optReads mx
  | .slcStr x lo hi => x.reads ++ optReads lo ++ optReads hi
  | .slcArr _ _ x lo hi mx => x.reads ++ optReads lo ++ optReads hi ++ optReads mx
  | .fieldAddr _ x => x.reads
  | .field _ _ _ x => x.reads
  | .idxAddr _ x i => x.reads ++ i.reads
  | .idxAddrArr _ _ x i => x.reads ++ i.reads
  | .idxStr x i => x.reads ++ i.reads
  | .idxArr _ _ _ x i => x.reads ++ i.reads
  | .lookup _ _ _ m k => m.reads ++ k.reads
  | .mapUpd _ m k v => m.reads ++ k.reads ++ v.reads
  | .del _ m k => m.reads ++ k.reads
  | .lenStr x => x.reads
  | .lenSlice x => x.reads
  | .lenMap x => x.reads
  | .lenC _ => []
  | .capSlice x => x.reads
  | .mnx _ xs => listReads xs
  | .append _ _ s x => s.reads ++ x.reads
  | .appendStr s x => s.reads ++ x.reads
  | .appendZ _ _ _ s n => s.reads ++ n.reads
  | .copy _ d s => d.reads ++ s.reads
  | .copyStr d s => d.reads ++ s.reads
  | .clear _ _ x => x.reads
  | .mark x => x.reads
  | .extract x _ => x.reads
  | .assertT _ _ _ x => x.reads
  | .call _ args => listReads args
  | .callV x args => x.reads ++ listReads args
  | .callM _ recv args => recv.reads ++ listReads args
  | .stuck => []

variable {f g : Fr} {h : AH}
theorem val_congr {x : AOpd} (hr : ∀ t ∈ x.reads, f.at t = g.at t) : x.val f = x.val g := by
  cases x
  · exact hr _ (by simp [AOpd.reads])
  · rfl
theorem opt_congr {x : Option AOpd} (hr : ∀ t ∈ optReads x, f.at t = g.at t) : x.map (·.val f) = x.map (·.val g) := by
  cases x
  · rfl
  · simp only [Option.map_some, val_congr (x := _) hr]
theorem list_congr : ∀ {x : List AOpd}, (∀ t ∈ listReads x, f.at t = g.at t) → x.map (·.val f) = x.map (·.val g)
  | [], _ => rfl
  | x :: r, hr => by
    simp only [List.map_cons]
    rw [val_congr (x := x) fun t ht => hr t (by simp [listReads, ht]), list_congr (x := r) fun t ht => hr t (by simp [listReads, ht])]
theorem part_congr : ∀ {x : List (Nat × Nat × AOpd)}, (∀ t ∈ partReads x, f.at t = g.at t) → (x.map fun p => (p.1, p.2.1, p.2.2.val f)) = x.map fun p => (p.1, p.2.1, p.2.2.val g)
  | [], _ => rfl
  | x :: r, hr => by
    simp only [List.map_cons]
    rw [val_congr (x := x.2.2) fun t ht => hr t (by simp [partReads, ht]), part_congr (x := r) fun t ht => hr t (by simp [partReads, ht])]
theorem AOp.eval_congr (x : AOp) (hr : ∀ t ∈ x.reads, f.at t = g.at t) : x.eval f h = x.eval g h := by
  cases x
  case mov x =>
    have e0 := val_congr (x := x) fun t ht => hr t (by simp [AOp.reads, ht])
    simp only [AOp.eval, e0]
  case pick c a b =>
    have e0 := val_congr (x := c) fun t ht => hr t (by simp [AOp.reads, ht])
    have e1 := val_congr (x := a) fun t ht => hr t (by simp [AOp.reads, ht])
    have e2 := val_congr (x := b) fun t ht => hr t (by simp [AOp.reads, ht])
    simp only [AOp.eval, e0, e1, e2]
  case new zero =>
    rfl
  case box x =>
    have e0 := val_congr (x := x) fun t ht => hr t (by simp [AOp.reads, ht])
    simp only [AOp.eval, e0]
  case build zero parts =>
    have e0 := part_congr (x := parts) fun t ht => hr t (by simp [AOp.reads, ht])
    simp only [AOp.eval, e0]
  case buildSlice sz len zero parts =>
    have e0 := part_congr (x := parts) fun t ht => hr t (by simp [AOp.reads, ht])
    simp only [AOp.eval, e0]
  case load agg n a =>
    have e0 := val_congr (x := a) fun t ht => hr t (by simp [AOp.reads, ht])
    simp only [AOp.eval, e0]
  case store n a v =>
    have e0 := val_congr (x := a) fun t ht => hr t (by simp [AOp.reads, ht])
    have e1 := val_congr (x := v) fun t ht => hr t (by simp [AOp.reads, ht])
    simp only [AOp.eval, e0, e1]
  case nilChk x =>
    have e0 := val_congr (x := x) fun t ht => hr t (by simp [AOp.reads, ht])
    simp only [AOp.eval, e0]
  case bin op x y =>
    have e0 := val_congr (x := x) fun t ht => hr t (by simp [AOp.reads, ht])
    have e1 := val_congr (x := y) fun t ht => hr t (by simp [AOp.reads, ht])
    simp only [AOp.eval, e0, e1]
  case eqB neg x y =>
    have e0 := val_congr (x := x) fun t ht => hr t (by simp [AOp.reads, ht])
    have e1 := val_congr (x := y) fun t ht => hr t (by simp [AOp.reads, ht])
    simp only [AOp.eval, e0, e1]
  case eqNil kind neg x y =>
    have e0 := val_congr (x := x) fun t ht => hr t (by simp [AOp.reads, ht])
    have e1 := val_congr (x := y) fun t ht => hr t (by simp [AOp.reads, ht])
    simp only [AOp.eval, e0, e1]
  case eqAgg ks neg x y =>
    have e0 := val_congr (x := x) fun t ht => hr t (by simp [AOp.reads, ht])
    have e1 := val_congr (x := y) fun t ht => hr t (by simp [AOp.reads, ht])
    simp only [AOp.eval, e0, e1]
  case un op x =>
    have e0 := val_congr (x := x) fun t ht => hr t (by simp [AOp.reads, ht])
    simp only [AOp.eval, e0]
  case toInt k x =>
    have e0 := val_congr (x := x) fun t ht => hr t (by simp [AOp.reads, ht])
    simp only [AOp.eval, e0]
  case asStr x =>
    have e0 := val_congr (x := x) fun t ht => hr t (by simp [AOp.reads, ht])
    simp only [AOp.eval, e0]
  case toBytes x =>
    have e0 := val_congr (x := x) fun t ht => hr t (by simp [AOp.reads, ht])
    simp only [AOp.eval, e0]
  case toStr x =>
    have e0 := val_congr (x := x) fun t ht => hr t (by simp [AOp.reads, ht])
    simp only [AOp.eval, e0]
  case mkIface t x =>
    have e0 := val_congr (x := x) fun t ht => hr t (by simp [AOp.reads, ht])
    simp only [AOp.eval, e0]
  case mkFunc fn first caps =>
    have e0 := list_congr (x := first) fun t ht => hr t (by simp [AOp.reads, ht])
    have e1 := list_congr (x := caps) fun t ht => hr t (by simp [AOp.reads, ht])
    simp only [AOp.eval, e0, e1]
  case mkMap =>
    rfl
  case mkSlice sz bytes zero l c =>
    have e0 := val_congr (x := l) fun t ht => hr t (by simp [AOp.reads, ht])
    have e1 := val_congr (x := c) fun t ht => hr t (by simp [AOp.reads, ht])
    simp only [AOp.eval, e0, e1]
  case slc sz x lo hi mx =>
    have e0 := val_congr (x := x) fun t ht => hr t (by simp [AOp.reads, ht])
    have e1 := opt_congr (x := lo) fun t ht => hr t (by simp [AOp.reads, ht])
    have e2 := opt_congr (x := hi) fun t ht => hr t (by simp [AOp.reads, ht])
    have e3 := opt_congr (x := mx) fun t ht => hr t (by simp [AOp.reads, ht])
    simp only [AOp.eval, e0, e1, e2, e3]
  case slcStr x lo hi =>
    have e0 := val_congr (x := x) fun t ht => hr t (by simp [AOp.reads, ht])
    have e1 := opt_congr (x := lo) fun t ht => hr t (by simp [AOp.reads, ht])
    have e2 := opt_congr (x := hi) fun t ht => hr t (by simp [AOp.reads, ht])
    simp only [AOp.eval, e0, e1, e2]
  case slcArr n sz x lo hi mx =>
    have e0 := val_congr (x := x) fun t ht => hr t (by simp [AOp.reads, ht])
    have e1 := opt_congr (x := lo) fun t ht => hr t (by simp [AOp.reads, ht])
    have e2 := opt_congr (x := hi) fun t ht => hr t (by simp [AOp.reads, ht])
    have e3 := opt_congr (x := mx) fun t ht => hr t (by simp [AOp.reads, ht])
    simp only [AOp.eval, e0, e1, e2, e3]
  case fieldAddr off x =>
    have e0 := val_congr (x := x) fun t ht => hr t (by simp [AOp.reads, ht])
    simp only [AOp.eval, e0]
  case field agg off n x =>
    have e0 := val_congr (x := x) fun t ht => hr t (by simp [AOp.reads, ht])
    simp only [AOp.eval, e0]
  case idxAddr sz x i =>
    have e0 := val_congr (x := x) fun t ht => hr t (by simp [AOp.reads, ht])
    have e1 := val_congr (x := i) fun t ht => hr t (by simp [AOp.reads, ht])
    simp only [AOp.eval, e0, e1]
  case idxAddrArr n sz x i =>
    have e0 := val_congr (x := x) fun t ht => hr t (by simp [AOp.reads, ht])
    have e1 := val_congr (x := i) fun t ht => hr t (by simp [AOp.reads, ht])
    simp only [AOp.eval, e0, e1]
  case idxStr x i =>
    have e0 := val_congr (x := x) fun t ht => hr t (by simp [AOp.reads, ht])
    have e1 := val_congr (x := i) fun t ht => hr t (by simp [AOp.reads, ht])
    simp only [AOp.eval, e0, e1]
  case idxArr agg n sz x i =>
    have e0 := val_congr (x := x) fun t ht => hr t (by simp [AOp.reads, ht])
    have e1 := val_congr (x := i) fun t ht => hr t (by simp [AOp.reads, ht])
    simp only [AOp.eval, e0, e1]
  case lookup kk zero commaOk m k =>
    have e0 := val_congr (x := m) fun t ht => hr t (by simp [AOp.reads, ht])
    have e1 := val_congr (x := k) fun t ht => hr t (by simp [AOp.reads, ht])
    simp only [AOp.eval, e0, e1]
  case mapUpd kk m k v =>
    have e0 := val_congr (x := m) fun t ht => hr t (by simp [AOp.reads, ht])
    have e1 := val_congr (x := k) fun t ht => hr t (by simp [AOp.reads, ht])
    have e2 := val_congr (x := v) fun t ht => hr t (by simp [AOp.reads, ht])
    simp only [AOp.eval, e0, e1, e2]
  case del kk m k =>
    have e0 := val_congr (x := m) fun t ht => hr t (by simp [AOp.reads, ht])
    have e1 := val_congr (x := k) fun t ht => hr t (by simp [AOp.reads, ht])
    simp only [AOp.eval, e0, e1]
  case lenStr x =>
    have e0 := val_congr (x := x) fun t ht => hr t (by simp [AOp.reads, ht])
    simp only [AOp.eval, e0]
  case lenSlice x =>
    have e0 := val_congr (x := x) fun t ht => hr t (by simp [AOp.reads, ht])
    simp only [AOp.eval, e0]
  case lenMap x =>
    have e0 := val_congr (x := x) fun t ht => hr t (by simp [AOp.reads, ht])
    simp only [AOp.eval, e0]
  case lenC n =>
    rfl
  case capSlice x =>
    have e0 := val_congr (x := x) fun t ht => hr t (by simp [AOp.reads, ht])
    simp only [AOp.eval, e0]
  case mnx isMax xs =>
    have e0 := list_congr (x := xs) fun t ht => hr t (by simp [AOp.reads, ht])
    simp only [AOp.eval, e0]
  case append sz bytes s x =>
    have e0 := val_congr (x := s) fun t ht => hr t (by simp [AOp.reads, ht])
    have e1 := val_congr (x := x) fun t ht => hr t (by simp [AOp.reads, ht])
    simp only [AOp.eval, e0, e1]
  case appendStr s x =>
    have e0 := val_congr (x := s) fun t ht => hr t (by simp [AOp.reads, ht])
    have e1 := val_congr (x := x) fun t ht => hr t (by simp [AOp.reads, ht])
    simp only [AOp.eval, e0, e1]
  case appendZ sz bytes zero s n =>
    have e0 := val_congr (x := s) fun t ht => hr t (by simp [AOp.reads, ht])
    have e1 := val_congr (x := n) fun t ht => hr t (by simp [AOp.reads, ht])
    simp only [AOp.eval, e0, e1]
  case copy sz d s =>
    have e0 := val_congr (x := d) fun t ht => hr t (by simp [AOp.reads, ht])
    have e1 := val_congr (x := s) fun t ht => hr t (by simp [AOp.reads, ht])
    simp only [AOp.eval, e0, e1]
  case copyStr d s =>
    have e0 := val_congr (x := d) fun t ht => hr t (by simp [AOp.reads, ht])
    have e1 := val_congr (x := s) fun t ht => hr t (by simp [AOp.reads, ht])
    simp only [AOp.eval, e0, e1]
  case clear sz zero x =>
    have e0 := val_congr (x := x) fun t ht => hr t (by simp [AOp.reads, ht])
    simp only [AOp.eval, e0]
  case mark x =>
    have e0 := val_congr (x := x) fun t ht => hr t (by simp [AOp.reads, ht])
    simp only [AOp.eval, e0]
  case extract x i =>
    have e0 := val_congr (x := x) fun t ht => hr t (by simp [AOp.reads, ht])
    simp only [AOp.eval, e0]
  case assertT t zero commaOk x =>
    have e0 := val_congr (x := x) fun t ht => hr t (by simp [AOp.reads, ht])
    simp only [AOp.eval, e0]
  case call f args =>
    have e0 := list_congr (x := args) fun t ht => hr t (by simp [AOp.reads, ht])
    simp only [AOp.eval, e0]
  case callV x args =>
    have e0 := val_congr (x := x) fun t ht => hr t (by simp [AOp.reads, ht])
    have e1 := list_congr (x := args) fun t ht => hr t (by simp [AOp.reads, ht])
    simp only [AOp.eval, e0, e1]
  case callM table recv args =>
    have e0 := val_congr (x := recv) fun t ht => hr t (by simp [AOp.reads, ht])
    have e1 := list_congr (x := args) fun t ht => hr t (by simp [AOp.reads, ht])
    simp only [AOp.eval, e0, e1]
  case stuck =>
    rfl

def AOper.reads (o : AOper) : List Nat := o.op.reads ++ (match o.guard with | some (t, _) => [t] | none => [])
theorem wantedV_congr {gd : Option (Nat × Bool)} (hr : ∀ t w, gd = some (t, w) → f.at t = g.at t) : wantedV f gd = wantedV g gd := by
  cases gd with
  | none => rfl
  | some p => obtain ⟨t, w⟩ := p; simp only [wantedV, hr t w rfl]
theorem AOper.wanted_congr {o : AOper} (hr : ∀ t ∈ o.reads, f.at t = g.at t) : wantedV f o.guard = wantedV g o.guard :=
  wantedV_congr fun t w hg => hr t (by simp [AOper.reads, hg])
theorem AOper.eval_congr {o : AOper} (hr : ∀ t ∈ o.reads, f.at t = g.at t) : o.op.eval f h = o.op.eval g h :=
  AOp.eval_congr _ fun t ht => hr t (by simp [AOper.reads, ht])
theorem AOper.run_congr {call : Handler} {o : AOper} {f' : Fr} {h' : AH} (hr : ∀ t ∈ o.reads, f.at t = g.at t) (hrun : o.run call f h = some (f', h')) :
    ∃ v, f' = f.put o.dst v ∧ o.run call g h = some (g.put o.dst v, h') := by
  unfold AOper.run at *
  rw [← AOper.wanted_congr hr, ← AOper.eval_congr hr]
  cases hw : wantedV f o.guard with
  | none => simp [hw] at hrun
  | some b =>
    cases b
    · simp only [hw, Option.some.injEq, Prod.mk.injEq] at hrun ⊢
      exact ⟨_, hrun.1.symm, rfl, hrun.2⟩
    · simp only [hw] at hrun ⊢
      cases he : o.op.eval f h with
      | none => simp [he] at hrun
      | some res =>
        cases res with
        | val v h2 =>
          simp only [he, Option.some.injEq, Prod.mk.injEq] at hrun ⊢
          exact ⟨_, hrun.1.symm, rfl, hrun.2⟩
        | call g2 args =>
          simp only [he] at hrun ⊢
          cases hc : call g2 args h with
          | none => simp [hc] at hrun
          | some p =>
            simp only [hc, Option.map_some, Option.some.injEq, Prod.mk.injEq] at hrun ⊢
            exact ⟨_, hrun.1.symm, rfl, hrun.2⟩

/-! ### what must run before an operation -/
def maskOf (acc : List Nat) (o : Oper) : Nat := o.after.toList.foldl (fun s e => if Region.binds .any e then (s ||| 1 <<< e.on) ||| acc.getD e.on 0 else s) 0
def masksGo : List Oper → List Nat → List Nat
  | [], acc => acc
  | o :: r, acc => masksGo r (acc ++ [maskOf acc o])
def masks (ops : Array Oper) : List Nat := masksGo ops.toList []
def has (M : List Nat) (i j : Nat) : Bool := (M.getD i 0).testBit j

def Closed (ops : Array Oper) (L : Nat → Prop) : Prop := ∀ i o, ops[i]? = some o → L i → ∀ e ∈ o.after, Region.binds .any e = true → L e.on
def Ready (ops : Array Oper) (L : Nat → Prop) (i : Nat) : Prop := ∃ o, ops[i]? = some o ∧ ∀ e ∈ o.after, Region.binds .any e = true → L e.on

theorem testBit_one_shl (i j : Nat) : (1 <<< i).testBit j = decide (i = j) := by
  rw [Nat.one_shiftLeft, Nat.testBit_two_pow]
theorem maskOf_spec {L : Nat → Prop} {acc : List Nat} {o : Oper} (ha : ∀ k j, L k → (acc.getD k 0).testBit j = true → L j) (hd : ∀ e ∈ o.after, Region.binds .any e = true → L e.on) {j : Nat} (hj : (maskOf acc o).testBit j = true) : L j := by
  have key : ∀ (es : List Edge) (s : Nat), (∀ e ∈ es, Region.binds .any e = true → L e.on) → (∀ j, s.testBit j = true → L j) → ∀ j, (es.foldl (fun s e => if Region.binds .any e then (s ||| 1 <<< e.on) ||| acc.getD e.on 0 else s) s).testBit j = true → L j := by
    intro es
    induction es with
    | nil => intro s _ hs j hj; exact hs j hj
    | cons e es ih =>
      intro s he hs j hj
      simp only [List.foldl_cons] at hj
      refine ih _ (fun e' h' => he e' (List.mem_cons_of_mem _ h')) ?_ j hj
      intro k hk
      by_cases hb : Region.binds .any e = true
      · rw [if_pos hb, Nat.testBit_or, Nat.testBit_or, testBit_one_shl] at hk
        have hl := he e (List.mem_cons_self ..) hb
        simp only [Bool.or_eq_true, decide_eq_true_eq] at hk
        rcases hk with (hk | hk) | hk
        · exact hs k hk
        · exact hk ▸ hl
        · exact ha _ _ hl hk
      · rw [if_neg hb] at hk; exact hs k hk
  exact key _ 0 (fun e he => hd e (by simpa using he)) (fun j hj => by simp at hj) j hj
theorem masksGo_get : ∀ (l : List Oper) (acc : List Nat) (i : Nat), i < acc.length → (masksGo l acc)[i]? = acc[i]?
  | [], _, _, _ => rfl
  | o :: r, acc, i, hi => by
    simp only [masksGo]
    rw [masksGo_get r _ i (by simp; omega), List.getElem?_append_left hi]
theorem masks_spec {ops : Array Oper} {L : Nat → Prop} (hc : Closed ops L) {i j : Nat} (hr : Ready ops L i) (hj : has (masks ops) i j = true) : L j := by
  have key : ∀ (l : List Oper) (acc : List Nat), (∀ k, acc.length ≤ k → ops[k]? = l[k - acc.length]?) → (∀ k j, k < acc.length → Ready ops L k → (acc.getD k 0).testBit j = true → L j) →
      ∀ k j, Ready ops L k → ((masksGo l acc).getD k 0).testBit j = true → L j := by
    intro l
    induction l with
    | nil =>
      intro acc hl ha k j hk hj
      rcases Nat.lt_or_ge k acc.length with h | h
      · exact ha k j h hk hj
      · obtain ⟨o, ho, _⟩ := hk
        rw [hl k h] at ho
        simp at ho
    | cons o r ih =>
      intro acc hl ha
      refine ih (acc ++ [maskOf acc o]) ?_ ?_
      · intro k hk
        simp only [List.length_append, List.length_cons, List.length_nil, Nat.zero_add] at hk ⊢
        rw [hl k (by omega), show k - acc.length = (k - (acc.length + 1)) + 1 by omega, List.getElem?_cons_succ]
      · intro k j hk hrk hj
        simp only [List.length_append, List.length_cons, List.length_nil, Nat.zero_add] at hk
        rcases Nat.lt_or_ge k acc.length with h | h
        · refine ha k j h hrk ?_
          rw [List.getD_eq_getElem?_getD, List.getElem?_append_left h] at hj
          rw [List.getD_eq_getElem?_getD]; exact hj
        · have hk' : k = acc.length := by omega
          subst hk'
          rw [List.getD_eq_getElem?_getD, List.getElem?_append_right (Nat.le_refl _)] at hj
          simp at hj
          obtain ⟨o', ho', hd⟩ := hrk
          rw [hl _ (Nat.le_refl _)] at ho'
          simp at ho'
          subst ho'
          refine maskOf_spec ?_ hd hj
          intro k2 j2 hk2 hj2
          rcases Nat.lt_or_ge k2 acc.length with h2 | h2
          · obtain ⟨o2, ho2⟩ : ∃ o2, ops[k2]? = some o2 := by
              have hlt : k2 < ops.size := by
                have h3 : acc.length < ops.size := by
                  rcases Nat.lt_or_ge acc.length ops.size with h' | h'
                  · exact h'
                  · have := hl _ (Nat.le_refl acc.length); rw [Array.getElem?_eq_none h'] at this; simp at this
                omega
              exact ⟨_, Array.getElem?_eq_getElem hlt⟩
            exact ha k2 j2 h2 ⟨o2, ho2, fun e he hb => hc k2 o2 ho2 hk2 e he hb⟩ hj2
          · rw [List.getD_eq_getElem?_getD, List.getElem?_eq_none h2] at hj2
            simp at hj2
  refine key ops.toList [] (fun k _ => by simp) (fun k j hk => by simp at hk) i j hr hj
theorem masks_closed {ops : Array Oper} {L : Nat → Prop} (hc : Closed ops L) {i j : Nat} (hi : i < ops.size) (hl : L i) (hj : has (masks ops) i j = true) : L j :=
  masks_spec hc ⟨ops[i], Array.getElem?_eq_getElem hi, hc i _ (Array.getElem?_eq_getElem hi) hl⟩ hj
end Go.Vm

/- The same machine in a form that the kernel runs faster: small constants, plain recursors, tests on numbers alone. -/
import Derived.Test.YtpabmkicdcilpaaVmV
namespace Go.Vm
open Go.RowKit
set_option linter.unusedSimpArgs false
set_option linter.unusedVariables false

/-! ### trees -/
noncomputable section
/-- The way to a number's place. -/
inductive Way where
  | z
  | l (p : Way)
  | r (p : Way)
def wstep (ih : Nat → Way) (n : Nat) : Way :=
  Bool.rec (Bool.rec (.r (ih (Nat.sub (Nat.div n 2) 1))) (.l (ih (Nat.div n 2))) (Nat.beq (Nat.mod n 2) 1)) .z (Nat.beq n 0)
def wayG (k : Nat) : Nat → Way := @Nat.rec (fun _ => Nat → Way) (fun _ => .z) (fun _ ih => wstep ih) k
def way (n : Nat) : Way := wayG (Nat.succ n) n
theorem wayG_zero (k : Nat) : wayG (k + 1) 0 = .z := rfl
theorem wayG_odd (k n : Nat) (h0 : n ≠ 0) (h : n % 2 = 1) : wayG (k + 1) n = .l (wayG k (n / 2)) := by
  show wstep (wayG k) n = _
  unfold wstep
  rw [show Nat.beq n 0 = false from by cases n; exact absurd rfl h0; rfl, show Nat.beq (Nat.mod n 2) 1 = true from Nat.beq_eq.symm ▸ h]; rfl
theorem wayG_even (k n : Nat) (h0 : n ≠ 0) (h : ¬ n % 2 = 1) : wayG (k + 1) n = .r (wayG k (n / 2 - 1)) := by
  show wstep (wayG k) n = _
  unfold wstep
  rw [show Nat.beq n 0 = false from by cases n; exact absurd rfl h0; rfl, show Nat.beq (Nat.mod n 2) 1 = false from Bool.eq_false_iff.2 fun hb => h (Nat.beq_eq.mp hb)]; rfl
def gZ {α : Type} (t : Tr α) : Option α := @Tr.rec α (fun _ => Option α) none (fun _ v _ _ _ => v) t
def gL {α : Type} (_ : Way) (ih : Tr α → Option α) (t : Tr α) : Option α := @Tr.rec α (fun _ => Option α) none (fun l _ _ _ _ => ih l) t
def gR {α : Type} (_ : Way) (ih : Tr α → Option α) (t : Tr α) : Option α := @Tr.rec α (fun _ => Option α) none (fun _ _ r _ _ => ih r) t
def getP {α : Type} (p : Way) : Tr α → Option α := @Way.rec (fun _ => Tr α → Option α) gZ gL gR p
def getT {α : Type} (t : Tr α) (n : Nat) : Option α := getP (way n) t
theorem getP_eq {α : Type} : ∀ (k : Nat) (t : Tr α) (n : Nat), n < k → getP (wayG k n) t = t.get n
  | 0, _, _, h => by omega
  | k + 1, t, n, h => by
    by_cases h0 : n = 0
    · subst h0
      rw [wayG_zero]
      cases t <;> rfl
    · by_cases h1 : n % 2 = 1
      · rw [wayG_odd k n h0 h1]
        cases t with
        | nil => rfl
        | node l v r =>
          show getP (wayG k (n / 2)) l = (if n = 0 then v else if n % 2 = 1 then l.get (n / 2) else r.get (n / 2 - 1))
          rw [if_neg h0, if_pos h1, getP_eq k l _ (by omega)]
      · rw [wayG_even k n h0 h1]
        cases t with
        | nil => rfl
        | node l v r =>
          show getP (wayG k (n / 2 - 1)) r = (if n = 0 then v else if n % 2 = 1 then l.get (n / 2) else r.get (n / 2 - 1))
          rw [if_neg h0, if_neg h1, getP_eq k r _ (by omega)]
theorem getT_eq {α : Type} (t : Tr α) (n : Nat) : getT t n = t.get n := getP_eq (n + 1) t n (Nat.lt_succ_self n)
def sZ {α : Type} (x : α) (t : Tr α) : Tr α := @Tr.rec α (fun _ => Tr α) (.node .nil (some x) .nil) (fun l _ r _ _ => .node l (some x) r) t
def sL {α : Type} (_ : Way) (ih : α → Tr α → Tr α) (x : α) (t : Tr α) : Tr α := @Tr.rec α (fun _ => Tr α) (.node (ih x .nil) none .nil) (fun l v r _ _ => .node (ih x l) v r) t
def sR {α : Type} (_ : Way) (ih : α → Tr α → Tr α) (x : α) (t : Tr α) : Tr α := @Tr.rec α (fun _ => Tr α) (.node .nil none (ih x .nil)) (fun l v r _ _ => .node l v (ih x r)) t
def setP {α : Type} (p : Way) : α → Tr α → Tr α := @Way.rec (fun _ => α → Tr α → Tr α) sZ sL sR p
def setT {α : Type} (t : Tr α) (n : Nat) (x : α) : Tr α := setP (way n) x t
theorem setP_eq {α : Type} : ∀ (k : Nat) (t : Tr α) (n : Nat) (x : α), n < k → setP (wayG k n) x t = Tr.setF k t n x
  | 0, _, _, _, h => by omega
  | k + 1, t, n, x, h => by
    by_cases h0 : n = 0
    · subst h0
      rw [wayG_zero]
      cases t <;> rfl
    · by_cases h1 : n % 2 = 1
      · rw [wayG_odd k n h0 h1]
        cases t with
        | nil =>
          show Tr.node (setP (wayG k (n / 2)) x .nil) none .nil = (if n = 0 then Tr.node .nil (some x) .nil else if n % 2 = 1 then .node (Tr.setF k .nil (n / 2) x) none .nil else .node .nil none (Tr.setF k .nil (n / 2 - 1) x))
          rw [if_neg h0, if_pos h1, setP_eq k .nil _ x (by omega)]
        | node l v r =>
          show Tr.node (setP (wayG k (n / 2)) x l) v r = (if n = 0 then Tr.node l (some x) r else if n % 2 = 1 then .node (Tr.setF k l (n / 2) x) v r else .node l v (Tr.setF k r (n / 2 - 1) x))
          rw [if_neg h0, if_pos h1, setP_eq k l _ x (by omega)]
      · rw [wayG_even k n h0 h1]
        cases t with
        | nil =>
          show Tr.node .nil none (setP (wayG k (n / 2 - 1)) x .nil) = (if n = 0 then Tr.node .nil (some x) .nil else if n % 2 = 1 then .node (Tr.setF k .nil (n / 2) x) none .nil else .node .nil none (Tr.setF k .nil (n / 2 - 1) x))
          rw [if_neg h0, if_neg h1, setP_eq k .nil _ x (by omega)]
        | node l v r =>
          show Tr.node l v (setP (wayG k (n / 2 - 1)) x r) = (if n = 0 then Tr.node l (some x) r else if n % 2 = 1 then .node (Tr.setF k l (n / 2) x) v r else .node l v (Tr.setF k r (n / 2 - 1) x))
          rw [if_neg h0, if_neg h1, setP_eq k r _ x (by omega)]
theorem setT_eq {α : Type} (t : Tr α) (n : Nat) (x : α) : setT t n x = t.set n x := setP_eq (n + 1) t n x (Nat.lt_succ_self n)

/-! ### frames, heaps -/
def orNone (o : Option AV) : AV := @Option.rec AV (fun _ => AV) (.tuple []) (fun v => v) o
def atT (f : Fr) (i : Nat) : AV := orNone (getT f i)
theorem atT_eq (f : Fr) (i : Nat) : atT f i = f.at i := by
  unfold atT Fr.at orNone; rw [getT_eq]; cases Tr.get f i <;> rfl
def putT (f : Fr) (d : Option Nat) (v : AV) : Fr := @Option.rec Nat (fun _ => Fr) f (fun i => setT f i v) d
theorem putT_eq (f : Fr) (d : Option Nat) (v : AV) : putT f d v = f.put d v := by
  cases d with
  | none => rfl
  | some i => exact setT_eq f i v
def hget (h : AH) (o : Nat) : Option AObj := @AH.rec (fun _ => Option AObj) (fun _ t => getT t o) h
theorem hget_eq (h : AH) (o : Nat) : hget h o = h.get o := getT_eq _ _
def hset (h : AH) (o : Nat) (x : AObj) : AH := @AH.rec (fun _ => AH) (fun n t => ⟨n, setT t o x⟩) h
theorem hset_eq (h : AH) (o : Nat) (x : AObj) : hset h o x = h.set o x := by
  cases h; simp only [hset, AH.set, setT_eq]
def hnew (h : AH) (x : AObj) : AH := @AH.rec (fun _ => AH) (fun n t => ⟨Nat.succ n, setT t n x⟩) h
theorem hnew_eq (h : AH) (x : AObj) : hnew h x = h.new x := by
  cases h; simp only [hnew, AH.new, setT_eq]
def nthT {α : Type} (l : List α) : Nat → Option α :=
  @List.rec α (fun _ => Nat → Option α) (fun _ => none) (fun a _ ih n => Bool.rec (ih (Nat.pred n)) (some a) (Nat.beq n 0)) l
theorem nthT_eq {α : Type} : ∀ (l : List α) (n : Nat), nthT l n = l[n]?
  | [], n => rfl
  | a :: l, 0 => rfl
  | a :: l, n + 1 => by
    show nthT l n = _
    rw [nthT_eq l n]; rfl
def setN {α : Type} (l : List α) : Nat → α → List α :=
  @List.rec α (fun _ => Nat → α → List α) (fun _ _ => []) (fun a r ih n x => Bool.rec (a :: ih (Nat.pred n) x) (x :: r) (Nat.beq n 0)) l
theorem setN_eq {α : Type} : ∀ (l : List α) (n : Nat) (x : α), setN l n x = l.set n x
  | [], n, x => rfl
  | a :: l, 0, x => rfl
  | a :: l, n + 1, x => by
    show a :: setN l n x = _
    rw [setN_eq l n x]; rfl
/-- One cell. -/
def load1o (o : Option AObj) (i : Nat) : Option AV := match o with
  | some (.cells l _) => nthT l i
  | some (.marked l) => nthT l i
  | _ => none
def load1 (h : AH) (o i : Nat) : Option AV := load1o (hget h o) i
theorem load1_eq (h : AH) (o i : Nat) : (match h.load o i 1 with
    | some [v] => some v
    | _ => none) = load1 h o i := by
  unfold load1 AH.load
  rw [hget_eq]
  cases h.get o with
  | none => rfl
  | some x =>
    cases x with
    | cells l rw' =>
      simp only [load1o, nthT_eq]
      by_cases hi : i < l.length
      · rw [if_pos (by omega), List.drop_eq_getElem_cons hi, List.getElem?_eq_getElem hi]; rfl
      · rw [if_neg (by omega), List.getElem?_eq_none (by omega)]
    | marked l =>
      simp only [load1o, nthT_eq]
      by_cases hi : i < l.length
      · rw [if_pos (by omega), List.drop_eq_getElem_cons hi, List.getElem?_eq_getElem hi]; rfl
      · rw [if_neg (by omega), List.getElem?_eq_none (by omega)]
    | _ => rfl
def flatT : AV → Bool
  | .undef | .agg _ | .tuple _ => false
  | _ => true
def store1l (h : AH) (o i : Nat) (v : AV) (l : List AV) (x : Option AV) : Option AH := match x with
  | some _ => Bool.rec none (some (hset h o (.cells (setN l i v) true))) (flatT v)
  | none => none
def store1m (h : AH) (o i : Nat) (v : AV) (l : List AV) (x : Option AV) : Option AH := match x with
  | some _ => Bool.rec none (some (hset h o (.marked (setN l i v)))) (flatT v)
  | none => none
def store1o (h : AH) (o i : Nat) (v : AV) (x : Option AObj) : Option AH := match x with
  | some (.cells l true) => store1l h o i v l (nthT l i)
  | some (.marked l) => store1m h o i v l (nthT l i)
  | _ => none
def store1 (h : AH) (o i : Nat) (v : AV) : Option AH := store1o h o i v (hget h o)
theorem store1_eq (h : AH) (o i : Nat) (v : AV) : h.store o i [v] = store1 h o i v := by
  unfold store1 AH.store
  rw [hget_eq]
  cases h.get o with
  | none => rfl
  | some x =>
    cases x with
    | cells l rw' =>
      cases rw' with
      | false => rfl
      | true =>
        simp only [store1o, nthT_eq, List.length_cons, List.length_nil, List.all_cons, List.all_nil, Bool.and_true, setMany]
        by_cases hi : i < l.length
        · rw [List.getElem?_eq_getElem hi]
          simp only [store1l]
          cases hf : v.flat
          · rw [if_neg (by simp)]
            rw [show flatT v = false from by rw [← hf]; cases v <;> rfl]
          · rw [if_pos ⟨by omega, rfl⟩]
            rw [show flatT v = true from by rw [← hf]; cases v <;> rfl]
            simp only [hset_eq, setN_eq]
        · rw [List.getElem?_eq_none (by omega), if_neg (by omega)]; rfl
    | marked l =>
      simp only [store1o, nthT_eq, List.length_cons, List.length_nil, List.all_cons, List.all_nil, Bool.and_true, setMany]
      by_cases hi : i < l.length
      · rw [List.getElem?_eq_getElem hi]
        simp only [store1m]
        cases hf : v.flat
        · rw [if_neg (by simp)]
          rw [show flatT v = false from by rw [← hf]; cases v <;> rfl]
        · rw [if_pos ⟨by omega, rfl⟩]
          rw [show flatT v = true from by rw [← hf]; cases v <;> rfl]
          simp only [hset_eq, setN_eq]
      · rw [List.getElem?_eq_none (by omega), if_neg (by omega)]; rfl
    | _ => rfl

/-! ### numbers -/
def kidx : IntKind → Nat
  | .i8 => 0 | .i16 => 1 | .i32 => 2 | .i64 => 3 | .u8 => 4 | .u16 => 5 | .u32 => 6 | .u64 => 7
def kindEq (a b : IntKind) : Bool := Nat.beq (kidx a) (kidx b)
theorem kindEq_iff (a b : IntKind) : kindEq a b = decide (a = b) := by cases a <;> cases b <;> rfl
def ktop : IntKind → Nat
  | .i8 => 127 | .i16 => 32767 | .i32 => 2147483647 | .i64 => 9223372036854775807 | .u8 => 255 | .u16 => 65535 | .u32 => 4294967295 | .u64 => 18446744073709551615
def wrapN (k : IntKind) (m : Nat) : Int := Bool.rec (k.wrap (.ofNat m)) (.ofNat m) (Nat.ble m (ktop k))
def wrapT (k : IntKind) (n : Int) : Int := @Int.rec (fun _ => Int) (wrapN k) (fun m => k.wrap (.negSucc m)) n
theorem wrapT_eq (k : IntKind) (n : Int) : wrapT k n = k.wrap n := by
  cases n with
  | ofNat m =>
    show wrapN k m = _
    unfold wrapN
    cases hb : Nat.ble m (ktop k)
    · rfl
    · have hm : m ≤ ktop k := Nat.le_of_ble_eq_true hb
      show (Int.ofNat m) = _
      symm
      unfold IntKind.wrap
      cases k <;> simp only [ktop] at hm <;> simp only [IntKind.bits, IntKind.signed] <;> simp <;> omega
  | negSucc m => rfl
def eqNN (m : Nat) (b : Int) : Bool := @Int.rec (fun _ => Bool) (fun n => Nat.beq m n) (fun _ => false) b
def eqMM (m : Nat) (b : Int) : Bool := @Int.rec (fun _ => Bool) (fun _ => false) (fun n => Nat.beq m n) b
def intEq (a b : Int) : Bool := @Int.rec (fun _ => Int → Bool) eqNN eqMM a b
theorem intEq_eq (a b : Int) : intEq a b = (a == b) := by
  rw [Bool.eq_iff_iff]
  cases a <;> cases b <;> simp [intEq, eqNN, eqMM, Nat.beq_eq] <;> omega
def ltNN (m : Nat) (b : Int) : Bool := @Int.rec (fun _ => Bool) (fun n => Nat.blt m n) (fun _ => false) b
def ltMM (m : Nat) (b : Int) : Bool := @Int.rec (fun _ => Bool) (fun _ => true) (fun n => Nat.blt n m) b
def intLt (a b : Int) : Bool := @Int.rec (fun _ => Int → Bool) ltNN ltMM a b
theorem blt_iff (m n : Nat) : Nat.blt m n = true ↔ m < n := by
  unfold Nat.blt; exact ⟨fun h => Nat.le_of_ble_eq_true h, fun h => Nat.ble_eq_true_of_le h⟩
theorem intLt_eq (a b : Int) : intLt a b = decide (a < b) := by
  rw [Bool.eq_iff_iff]
  cases a <;> cases b <;> simp [intLt, ltNN, ltMM, blt_iff] <;> omega
def leOf (a b : Int) : Bool := Bool.rec true false (intLt b a)
theorem leOf_eq (a b : Int) : leOf a b = decide (a ≤ b) := by
  unfold leOf; rw [intLt_eq]
  by_cases h : b < a
  · simp [h]
  · simp [h]; omega
def addN (m : Nat) (b : Int) : Int := @Int.rec (fun _ => Int) (fun n => .ofNat (Nat.add m n)) (fun n => Int.subNatNat m (Nat.succ n)) b
def addI (a b : Int) : Int := @Int.rec (fun _ => Int → Int) addN (fun m b => Int.add (.negSucc m) b) a b
theorem addI_eq (a b : Int) : addI a b = a + b := by cases a <;> cases b <;> rfl
def subN' (m n : Nat) : Int := Bool.rec (Int.sub (.ofNat m) (.ofNat n)) (.ofNat (Nat.sub m n)) (Nat.ble n m)
def subN (m : Nat) (b : Int) : Int := @Int.rec (fun _ => Int) (subN' m) (fun n => Int.sub (.ofNat m) (.negSucc n)) b
def subI (a b : Int) : Int := @Int.rec (fun _ => Int → Int) subN (fun m b => Int.sub (.negSucc m) b) a b
theorem subI_eq (a b : Int) : subI a b = a - b := by
  cases a with
  | negSucc m => rfl
  | ofNat m =>
    cases b with
    | negSucc n => rfl
    | ofNat n =>
      show subN' m n = _
      unfold subN'
      cases hb : Nat.ble n m
      · rfl
      · have := Nat.le_of_ble_eq_true hb
        show Int.ofNat (m - n) = (m : Int) - (n : Int)
        simp only [Int.ofNat_eq_natCast]; omega
def rAdd (k : IntKind) (a b : Int) : Option AV := some (.int k (wrapT k (addI a b)))
def rSub (k : IntKind) (a b : Int) : Option AV := some (.int k (wrapT k (subI a b)))
def rMul (k : IntKind) (a b : Int) : Option AV := some (.int k (wrapT k (Int.mul a b)))
def rEql (_ : IntKind) (a b : Int) : Option AV := some (.bool (intEq a b))
def rNeq (_ : IntKind) (a b : Int) : Option AV := some (.bool (Bool.rec true false (intEq a b)))
def rLss (_ : IntKind) (a b : Int) : Option AV := some (.bool (intLt a b))
def rLeq (_ : IntKind) (a b : Int) : Option AV := some (.bool (leOf a b))
def rGtr (_ : IntKind) (a b : Int) : Option AV := some (.bool (intLt b a))
def rGeq (_ : IntKind) (a b : Int) : Option AV := some (.bool (leOf b a))
def rQuoN (k : IntKind) (a b : Int) (m n : Nat) : Option AV := Bool.rec (intBin .quo k a b) (some (.int k (wrapN k (Nat.div m n)))) (Nat.blt 0 n)
def rQuoI (k : IntKind) (m : Nat) (b : Int) : Option AV := @Int.rec (fun _ => Option AV) (fun n => rQuoN k (.ofNat m) (.ofNat n) m n) (fun n => intBin .quo k (.ofNat m) (.negSucc n)) b
def rQuo (k : IntKind) (a b : Int) : Option AV := @Int.rec (fun _ => Int → Option AV) (rQuoI k) (fun m b => intBin .quo k (.negSucc m) b) a b
theorem rQuo_eq (k : IntKind) (a b : Int) : rQuo k a b = intBin .quo k a b := by
  cases a with
  | negSucc m => rfl
  | ofNat m =>
    cases b with
    | negSucc n => rfl
    | ofNat n =>
      show rQuoN k (.ofNat m) (.ofNat n) m n = _
      unfold rQuoN
      cases hb : Nat.blt 0 n
      · rfl
      · have hn := (blt_iff _ _).1 hb
        show some (AV.int k (wrapT k (.ofNat (m / n)))) = _
        rw [wrapT_eq]
        simp only [intBin]
        rw [if_neg (by simp only [Int.ofNat_eq_natCast]; omega)]
        simp [Int.ofNat_tdiv]
def rRemN (k : IntKind) (a b : Int) (m n : Nat) : Option AV := Bool.rec (intBin .rem k a b) (some (.int k (.ofNat (Nat.mod m n)))) (Nat.blt 0 n)
def rRemI (k : IntKind) (m : Nat) (b : Int) : Option AV := @Int.rec (fun _ => Option AV) (fun n => rRemN k (.ofNat m) (.ofNat n) m n) (fun n => intBin .rem k (.ofNat m) (.negSucc n)) b
def rRem (k : IntKind) (a b : Int) : Option AV := @Int.rec (fun _ => Int → Option AV) (rRemI k) (fun m b => intBin .rem k (.negSucc m) b) a b
theorem rRem_eq (k : IntKind) (a b : Int) : rRem k a b = intBin .rem k a b := by
  cases a with
  | negSucc m => rfl
  | ofNat m =>
    cases b with
    | negSucc n => rfl
    | ofNat n =>
      show rRemN k (.ofNat m) (.ofNat n) m n = _
      unfold rRemN
      cases hb : Nat.blt 0 n
      · rfl
      · have hn := (blt_iff _ _).1 hb
        show some (AV.int k (.ofNat (m % n))) = _
        simp only [intBin]
        rw [if_neg (by simp only [Int.ofNat_eq_natCast]; omega)]
        simp [Int.ofNat_tmod, Int.tmod_eq_emod_of_nonneg]
/-- Numbers on bits. -/
def rBitN (g : Nat → Nat → Nat) (op : BinOp) (k : IntKind) (a b : Int) (m n : Nat) : Option AV :=
  Bool.rec (intBin op k a b) (Bool.rec (intBin op k a b) (some (.int k (.ofNat (g m n)))) (Nat.ble n (ktop k))) (Nat.ble m (ktop k))
def rBitI (g : Nat → Nat → Nat) (op : BinOp) (k : IntKind) (m : Nat) (b : Int) : Option AV :=
  @Int.rec (fun _ => Option AV) (fun n => rBitN g op k (.ofNat m) (.ofNat n) m n) (fun n => intBin op k (.ofNat m) (.negSucc n)) b
def rBit (g : Nat → Nat → Nat) (op : BinOp) (k : IntKind) (a b : Int) : Option AV :=
  @Int.rec (fun _ => Int → Option AV) (rBitI g op k) (fun m b => intBin op k (.negSucc m) b) a b
theorem ktop_lt (k : IntKind) : ktop k < 2 ^ k.bits := by cases k <;> decide
theorem wrap_nat_le {k : IntKind} {m : Nat} (h : m ≤ ktop k) : k.wrap (m : Int) = m := by
  have := wrapT_eq k (.ofNat m)
  rw [show k.wrap (m : Int) = k.wrap (.ofNat m) from rfl, ← this]
  show wrapN k m = _
  unfold wrapN
  rw [Nat.ble_eq_true_of_le h]
  rfl
theorem ktop_succ (k : IntKind) : ktop k + 1 = 2 ^ (k.bits - if k.signed then 1 else 0) := by cases k <;> decide
theorem rBit_eq {g : Nat → Nat → Nat} {op : BinOp} (hg : ∀ (e m n : Nat), m < 2 ^ e → n < 2 ^ e → g m n < 2 ^ e)
    (ho : ∀ (k : IntKind) (m n : Nat), m < 2 ^ k.bits → n < 2 ^ k.bits → intBin op k m n = some (.int k (k.wrap (g m n : Nat)))) (k : IntKind) (a b : Int) : rBit g op k a b = intBin op k a b := by
  cases a with
  | negSucc m => rfl
  | ofNat m =>
    cases b with
    | negSucc n => rfl
    | ofNat n =>
      show rBitN g op k (.ofNat m) (.ofNat n) m n = _
      unfold rBitN
      cases hm : Nat.ble m (ktop k)
      · rfl
      · cases hn : Nat.ble n (ktop k)
        · rfl
        · have hm' := Nat.le_of_ble_eq_true hm
          have hn' := Nat.le_of_ble_eq_true hn
          have hk := ktop_succ k
          have hgt : g m n ≤ ktop k := by
            have := hg (k.bits - if k.signed then 1 else 0) m n (by omega) (by omega)
            omega
          have hl := ktop_lt k
          show some (AV.int k (.ofNat (g m n))) = intBin op k m n
          rw [ho k m n (by omega) (by omega), wrap_nat_le hgt]
          rfl
theorem rAnd_eq (k : IntKind) (a b : Int) : rBit Nat.land .and k a b = intBin .and k a b := by
  refine rBit_eq (fun e m n hm hn => Nat.and_lt_two_pow m hn) (fun k m n hm hn => ?_) k a b
  simp only [intBin, BitVec.toNat_and, BitVec.ofInt_natCast, BitVec.toNat_ofNat, Nat.mod_eq_of_lt hm, Nat.mod_eq_of_lt hn]
  try rfl
theorem rOr_eq (k : IntKind) (a b : Int) : rBit Nat.lor .or k a b = intBin .or k a b := by
  refine rBit_eq (fun e m n hm hn => Nat.or_lt_two_pow hm hn) (fun k m n hm hn => ?_) k a b
  simp only [intBin, BitVec.toNat_or, BitVec.ofInt_natCast, BitVec.toNat_ofNat, Nat.mod_eq_of_lt hm, Nat.mod_eq_of_lt hn]
  try rfl
theorem rXor_eq (k : IntKind) (a b : Int) : rBit Nat.xor .xor k a b = intBin .xor k a b := by
  refine rBit_eq (fun e m n hm hn => Nat.xor_lt_two_pow hm hn) (fun k m n hm hn => ?_) k a b
  simp only [intBin, BitVec.toNat_xor, BitVec.ofInt_natCast, BitVec.toNat_ofNat, Nat.mod_eq_of_lt hm, Nat.mod_eq_of_lt hn]
  try rfl
def intBinT : BinOp → IntKind → Int → Int → Option AV
  | .add => rAdd | .sub => rSub | .mul => rMul | .quo => rQuo | .rem => rRem
  | .and => rBit Nat.land .and | .or => rBit Nat.lor .or | .xor => rBit Nat.xor .xor
  | .eql => rEql | .neq => rNeq | .lss => rLss | .leq => rLeq | .gtr => rGtr | .geq => rGeq
  | op => intBin op
theorem intBinT_eq (op : BinOp) (k : IntKind) (a b : Int) : intBinT op k a b = intBin op k a b := by
  cases op <;> simp only [intBinT, rAdd, rSub, rMul, rEql, rNeq, rLss, rLeq, rGtr, rGeq, wrapT_eq, addI_eq, subI_eq, intEq_eq, intLt_eq, leOf_eq, rQuo_eq, rRem_eq, rAnd_eq, rOr_eq, rXor_eq] <;> simp only [intBin] <;> try rfl
  · show _ = some (AV.bool !(a == b))
    cases a == b <;> rfl
def shlN (k : IntKind) (m n : Nat) : Option AV := Bool.rec (intShift .shl k (.ofNat m) (.ofNat n)) (some (.int k (wrapN k (Nat.mul m (Nat.pow 2 n))))) (Nat.ble n 64)
def shrN (k : IntKind) (m n : Nat) : Option AV := Bool.rec (intShift .shr k (.ofNat m) (.ofNat n)) (some (.int k (.ofNat (Nat.div m (Nat.pow 2 n))))) (Nat.ble n 64)
def shiftN (g : IntKind → Nat → Nat → Option AV) (op : BinOp) (k : IntKind) (m n : Nat) : Option AV := Bool.rec (intShift op k (.ofNat m) (.ofNat n)) (g k m n) (Nat.ble n k.bits)
def shiftI (g : IntKind → Nat → Nat → Option AV) (op : BinOp) (k : IntKind) (m : Nat) (b : Int) : Option AV :=
  @Int.rec (fun _ => Option AV) (shiftN g op k m) (fun n => intShift op k (.ofNat m) (.negSucc n)) b
def shiftG (g : IntKind → Nat → Nat → Option AV) (op : BinOp) (k : IntKind) (a b : Int) : Option AV :=
  @Int.rec (fun _ => Int → Option AV) (shiftI g op k) (fun m b => intShift op k (.negSucc m) b) a b
def shiftT : BinOp → IntKind → Int → Int → Option AV
  | .shl => shiftG shlN .shl
  | .shr => shiftG shrN .shr
  | op => intShift op
theorem shiftG_eq {g : IntKind → Nat → Nat → Option AV} {op : BinOp} (hg : ∀ (k : IntKind) (m n : Nat), n ≤ k.bits → g k m n = intShift op k (.ofNat m) (.ofNat n)) (k : IntKind) (a b : Int) : shiftG g op k a b = intShift op k a b := by
  cases a with
  | negSucc m => rfl
  | ofNat m =>
    cases b with
    | negSucc n => rfl
    | ofNat n =>
      show shiftN g op k m n = _
      unfold shiftN
      cases hb : Nat.ble n k.bits
      · rfl
      · exact hg k m n (Nat.le_of_ble_eq_true hb)
theorem shlN_eq (k : IntKind) (m n : Nat) (h : n ≤ k.bits) : shlN k m n = intShift .shl k (.ofNat m) (.ofNat n) := by
  unfold shlN
  cases Nat.ble n 64
  · rfl
  · show some (AV.int k (wrapT k (.ofNat (m * 2 ^ n)))) = _
    rw [wrapT_eq]
    unfold intShift
    rw [if_neg (by simp only [Int.ofNat_eq_natCast]; omega)]
    show _ = some (AV.int k (k.wrap (Int.ofNat m * 2 ^ min n k.bits)))
    rw [Nat.min_eq_left h]
    simp
theorem shrN_eq (k : IntKind) (m n : Nat) (h : n ≤ k.bits) : shrN k m n = intShift .shr k (.ofNat m) (.ofNat n) := by
  unfold shrN
  cases Nat.ble n 64
  · rfl
  · show some (AV.int k (.ofNat (m / 2 ^ n))) = _
    unfold intShift
    rw [if_neg (by simp only [Int.ofNat_eq_natCast]; omega)]
    show _ = some (AV.int k (Int.fdiv (Int.ofNat m) (2 ^ min n k.bits)))
    rw [Nat.min_eq_left h]
    rw [Int.fdiv_eq_ediv_of_nonneg _ (Int.le_of_lt (Int.pow_pos (by decide)))]
    simp
theorem shiftT_eq (op : BinOp) (k : IntKind) (a b : Int) : shiftT op k a b = intShift op k a b := by
  cases op <;> try rfl
  · exact shiftG_eq shlN_eq k a b
  · exact shiftG_eq shrN_eq k a b
end
end Go.Vm

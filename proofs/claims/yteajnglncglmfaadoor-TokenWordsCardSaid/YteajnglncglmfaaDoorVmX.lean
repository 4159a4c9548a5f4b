/- The same machine in a form that the kernel runs faster: small constants, plain recursors, tests on numbers alone. -/
import Derived.Test.YteajnglncglmfaaDoorVmS
namespace Go.Vm
open Go.RowKit
set_option linter.unusedSimpArgs false
set_option linter.unusedVariables false

/-! ### trees -/
noncomputable section
/-- The way to a number's place. -/
inductive Way where
  | z
  | l (p : Way)
  | r (p : Way)
def wstep (ih : Nat → Way) (n : Nat) : Way :=
  Bool.rec (Bool.rec (.r (ih (Nat.sub (Nat.div n 2) 1))) (.l (ih (Nat.div n 2))) (Nat.beq (Nat.mod n 2) 1)) .z (Nat.beq n 0)
def wayG (k : Nat) : Nat → Way := @Nat.rec (fun _ => Nat → Way) (fun _ => .z) (fun _ ih => wstep ih) k
def way (n : Nat) : Way := wayG (Nat.succ n) n
theorem wayG_zero (k : Nat) : wayG (k + 1) 0 = .z := rfl
theorem wayG_odd (k n : Nat) (h0 : n ≠ 0) (h : n % 2 = 1) : wayG (k + 1) n = .l (wayG k (n / 2)) := by
  show wstep (wayG k) n = _
  unfold wstep
  rw [show Nat.beq n 0 = false from by cases n; exact absurd rfl h0; rfl, show Nat.beq (Nat.mod n 2) 1 = true from Nat.beq_eq.symm ▸ h]; rfl
theorem wayG_even (k n : Nat) (h0 : n ≠ 0) (h : ¬ n % 2 = 1) : wayG (k + 1) n = .r (wayG k (n / 2 - 1)) := by
  show wstep (wayG k) n = _
  unfold wstep
  rw [show Nat.beq n 0 = false from by cases n; exact absurd rfl h0; rfl, show Nat.beq (Nat.mod n 2) 1 = false from Bool.eq_false_iff.2 fun hb => h (Nat.beq_eq.mp hb)]; rfl
def gZ {α : Type} (t : Tr α) : Option α := @Tr.rec α (fun _ => Option α) none (fun _ v _ _ _ => v) t
def gL {α : Type} (_ : Way) (ih : Tr α → Option α) (t : Tr α) : Option α := @Tr.rec α (fun _ => Option α) none (fun l _ _ _ _ => ih l) t
def gR {α : Type} (_ : Way) (ih : Tr α → Option α) (t : Tr α) : Option α := @Tr.rec α (fun _ => Option α) none (fun _ _ r _ _ => ih r) t
def getP {α : Type} (p : Way) : Tr α → Option α := @Way.rec (fun _ => Tr α → Option α) gZ gL gR p
def getT {α : Type} (t : Tr α) (n : Nat) : Option α := getP (way n) t
def sZ {α : Type} (x : α) (t : Tr α) : Tr α := @Tr.rec α (fun _ => Tr α) (.node .nil (some x) .nil) (fun l _ r _ _ => .node l (some x) r) t
def sL {α : Type} (_ : Way) (ih : α → Tr α → Tr α) (x : α) (t : Tr α) : Tr α := @Tr.rec α (fun _ => Tr α) (.node (ih x .nil) none .nil) (fun l v r _ _ => .node (ih x l) v r) t
def sR {α : Type} (_ : Way) (ih : α → Tr α → Tr α) (x : α) (t : Tr α) : Tr α := @Tr.rec α (fun _ => Tr α) (.node .nil none (ih x .nil)) (fun l v r _ _ => .node l v (ih x r)) t
def setP {α : Type} (p : Way) : α → Tr α → Tr α := @Way.rec (fun _ => α → Tr α → Tr α) sZ sL sR p
def setT {α : Type} (t : Tr α) (n : Nat) (x : α) : Tr α := setP (way n) x t
theorem setP_eq {α : Type} : ∀ (k : Nat) (t : Tr α) (n : Nat) (x : α), n < k → setP (wayG k n) x t = Tr.setF k t n x
  | 0, _, _, _, h => by omega
  | k + 1, t, n, x, h => by
    by_cases h0 : n = 0
    · subst h0
      rw [wayG_zero]
      cases t <;> rfl
    · by_cases h1 : n % 2 = 1
      · rw [wayG_odd k n h0 h1]
        cases t with
        | nil =>
          show Tr.node (setP (wayG k (n / 2)) x .nil) none .nil = (if n = 0 then Tr.node .nil (some x) .nil else if n % 2 = 1 then .node (Tr.setF k .nil (n / 2) x) none .nil else .node .nil none (Tr.setF k .nil (n / 2 - 1) x))
          rw [if_neg h0, if_pos h1, setP_eq k .nil _ x (by omega)]
        | node l v r =>
          show Tr.node (setP (wayG k (n / 2)) x l) v r = (if n = 0 then Tr.node l (some x) r else if n % 2 = 1 then .node (Tr.setF k l (n / 2) x) v r else .node l v (Tr.setF k r (n / 2 - 1) x))
          rw [if_neg h0, if_pos h1, setP_eq k l _ x (by omega)]
      · rw [wayG_even k n h0 h1]
        cases t with
        | nil =>
          show Tr.node .nil none (setP (wayG k (n / 2 - 1)) x .nil) = (if n = 0 then Tr.node .nil (some x) .nil else if n % 2 = 1 then .node (Tr.setF k .nil (n / 2) x) none .nil else .node .nil none (Tr.setF k .nil (n / 2 - 1) x))
          rw [if_neg h0, if_neg h1, setP_eq k .nil _ x (by omega)]
        | node l v r =>
          show Tr.node l v (setP (wayG k (n / 2 - 1)) x r) = (if n = 0 then Tr.node l (some x) r else if n % 2 = 1 then .node (Tr.setF k l (n / 2) x) v r else .node l v (Tr.setF k r (n / 2 - 1) x))
          rw [if_neg h0, if_neg h1, setP_eq k r _ x (by omega)]
theorem setT_eq {α : Type} (t : Tr α) (n : Nat) (x : α) : setT t n x = t.set n x := setP_eq (n + 1) t n x (Nat.lt_succ_self n)

/-! ### frames, heaps -/
def orNone (o : Option AV) : AV := @Option.rec AV (fun _ => AV) (.tuple []) (fun v => v) o
def atT (f : Fr) (i : Nat) : AV := orNone (getT f i)
def putT (f : Fr) (d : Option Nat) (v : AV) : Fr := @Option.rec Nat (fun _ => Fr) f (fun i => setT f i v) d
def hget (h : AH) (o : Nat) : Option AObj := @AH.rec (fun _ => Option AObj) (fun _ t => getT t o) h
def hset (h : AH) (o : Nat) (x : AObj) : AH := @AH.rec (fun _ => AH) (fun n t => ⟨n, setT t o x⟩) h
def hnew (h : AH) (x : AObj) : AH := @AH.rec (fun _ => AH) (fun n t => ⟨Nat.succ n, setT t n x⟩) h
def nthT {α : Type} (l : List α) : Nat → Option α :=
  @List.rec α (fun _ => Nat → Option α) (fun _ => none) (fun a _ ih n => Bool.rec (ih (Nat.pred n)) (some a) (Nat.beq n 0)) l
def setN {α : Type} (l : List α) : Nat → α → List α :=
  @List.rec α (fun _ => Nat → α → List α) (fun _ _ => []) (fun a r ih n x => Bool.rec (a :: ih (Nat.pred n) x) (x :: r) (Nat.beq n 0)) l
/-- One cell. -/
def load1o (o : Option AObj) (i : Nat) : Option AV := match o with
  | some (.cells l _) => nthT l i
  | some (.marked l) => nthT l i
  | _ => none
def load1 (h : AH) (o i : Nat) : Option AV := load1o (hget h o) i
def flatT : AV → Bool
  | .undef | .agg _ | .tuple _ => false
  | _ => true
def store1l (h : AH) (o i : Nat) (v : AV) (l : List AV) (x : Option AV) : Option AH := match x with
  | some _ => Bool.rec none (some (hset h o (.cells (setN l i v) true))) (flatT v)
  | none => none
def store1m (h : AH) (o i : Nat) (v : AV) (l : List AV) (x : Option AV) : Option AH := match x with
  | some _ => Bool.rec none (some (hset h o (.marked (setN l i v)))) (flatT v)
  | none => none
def store1o (h : AH) (o i : Nat) (v : AV) (x : Option AObj) : Option AH := match x with
  | some (.cells l true) => store1l h o i v l (nthT l i)
  | some (.marked l) => store1m h o i v l (nthT l i)
  | _ => none
def store1 (h : AH) (o i : Nat) (v : AV) : Option AH := store1o h o i v (hget h o)
/-! ### numbers -/
def kidx : IntKind → Nat
  | .i8 => 0 | .i16 => 1 | .i32 => 2 | .i64 => 3 | .u8 => 4 | .u16 => 5 | .u32 => 6 | .u64 => 7
def kindEq (a b : IntKind) : Bool := Nat.beq (kidx a) (kidx b)
def ktop : IntKind → Nat
  | .i8 => 127 | .i16 => 32767 | .i32 => 2147483647 | .i64 => 9223372036854775807 | .u8 => 255 | .u16 => 65535 | .u32 => 4294967295 | .u64 => 18446744073709551615
def wrapN (k : IntKind) (m : Nat) : Int := Bool.rec (k.wrap (.ofNat m)) (.ofNat m) (Nat.ble m (ktop k))
def wrapT (k : IntKind) (n : Int) : Int := @Int.rec (fun _ => Int) (wrapN k) (fun m => k.wrap (.negSucc m)) n
theorem wrapT_eq (k : IntKind) (n : Int) : wrapT k n = k.wrap n := by
  cases n with
  | ofNat m =>
    show wrapN k m = _
    unfold wrapN
    cases hb : Nat.ble m (ktop k)
    · rfl
    · have hm : m ≤ ktop k := Nat.le_of_ble_eq_true hb
      show (Int.ofNat m) = _
      symm
      unfold IntKind.wrap
      cases k <;> simp only [ktop] at hm <;> simp only [IntKind.bits, IntKind.signed] <;> simp <;> omega
  | negSucc m => rfl
def eqNN (m : Nat) (b : Int) : Bool := @Int.rec (fun _ => Bool) (fun n => Nat.beq m n) (fun _ => false) b
def eqMM (m : Nat) (b : Int) : Bool := @Int.rec (fun _ => Bool) (fun _ => false) (fun n => Nat.beq m n) b
def intEq (a b : Int) : Bool := @Int.rec (fun _ => Int → Bool) eqNN eqMM a b
def ltNN (m : Nat) (b : Int) : Bool := @Int.rec (fun _ => Bool) (fun n => Nat.blt m n) (fun _ => false) b
def ltMM (m : Nat) (b : Int) : Bool := @Int.rec (fun _ => Bool) (fun _ => true) (fun n => Nat.blt n m) b
def intLt (a b : Int) : Bool := @Int.rec (fun _ => Int → Bool) ltNN ltMM a b
def leOf (a b : Int) : Bool := Bool.rec true false (intLt b a)
def addN (m : Nat) (b : Int) : Int := @Int.rec (fun _ => Int) (fun n => .ofNat (Nat.add m n)) (fun n => Int.subNatNat m (Nat.succ n)) b
def addI (a b : Int) : Int := @Int.rec (fun _ => Int → Int) addN (fun m b => Int.add (.negSucc m) b) a b
def subN' (m n : Nat) : Int := Bool.rec (Int.sub (.ofNat m) (.ofNat n)) (.ofNat (Nat.sub m n)) (Nat.ble n m)
def subN (m : Nat) (b : Int) : Int := @Int.rec (fun _ => Int) (subN' m) (fun n => Int.sub (.ofNat m) (.negSucc n)) b
def subI (a b : Int) : Int := @Int.rec (fun _ => Int → Int) subN (fun m b => Int.sub (.negSucc m) b) a b
def rAdd (k : IntKind) (a b : Int) : Option AV := some (.int k (wrapT k (addI a b)))
def rSub (k : IntKind) (a b : Int) : Option AV := some (.int k (wrapT k (subI a b)))
def rMul (k : IntKind) (a b : Int) : Option AV := some (.int k (wrapT k (Int.mul a b)))
def rEql (_ : IntKind) (a b : Int) : Option AV := some (.bool (intEq a b))
def rNeq (_ : IntKind) (a b : Int) : Option AV := some (.bool (Bool.rec true false (intEq a b)))
def rLss (_ : IntKind) (a b : Int) : Option AV := some (.bool (intLt a b))
def rLeq (_ : IntKind) (a b : Int) : Option AV := some (.bool (leOf a b))
def rGtr (_ : IntKind) (a b : Int) : Option AV := some (.bool (intLt b a))
def rGeq (_ : IntKind) (a b : Int) : Option AV := some (.bool (leOf b a))
def rQuoN (k : IntKind) (a b : Int) (m n : Nat) : Option AV := Bool.rec (intBin .quo k a b) (some (.int k (wrapN k (Nat.div m n)))) (Nat.blt 0 n)
def rQuoI (k : IntKind) (m : Nat) (b : Int) : Option AV := @Int.rec (fun _ => Option AV) (fun n => rQuoN k (.ofNat m) (.ofNat n) m n) (fun n => intBin .quo k (.ofNat m) (.negSucc n)) b
def rQuo (k : IntKind) (a b : Int) : Option AV := @Int.rec (fun _ => Int → Option AV) (rQuoI k) (fun m b => intBin .quo k (.negSucc m) b) a b
def rRemN (k : IntKind) (a b : Int) (m n : Nat) : Option AV := Bool.rec (intBin .rem k a b) (some (.int k (.ofNat (Nat.mod m n)))) (Nat.blt 0 n)
def rRemI (k : IntKind) (m : Nat) (b : Int) : Option AV := @Int.rec (fun _ => Option AV) (fun n => rRemN k (.ofNat m) (.ofNat n) m n) (fun n => intBin .rem k (.ofNat m) (.negSucc n)) b
def rRem (k : IntKind) (a b : Int) : Option AV := @Int.rec (fun _ => Int → Option AV) (rRemI k) (fun m b => intBin .rem k (.negSucc m) b) a b
/-- Numbers on bits. -/
def rBitN (g : Nat → Nat → Nat) (op : BinOp) (k : IntKind) (a b : Int) (m n : Nat) : Option AV :=
  Bool.rec (intBin op k a b) (Bool.rec (intBin op k a b) (some (.int k (.ofNat (g m n)))) (Nat.ble n (ktop k))) (Nat.ble m (ktop k))
def rBitI (g : Nat → Nat → Nat) (op : BinOp) (k : IntKind) (m : Nat) (b : Int) : Option AV :=
  @Int.rec (fun _ => Option AV) (fun n => rBitN g op k (.ofNat m) (.ofNat n) m n) (fun n => intBin op k (.ofNat m) (.negSucc n)) b
def rBit (g : Nat → Nat → Nat) (op : BinOp) (k : IntKind) (a b : Int) : Option AV :=
  @Int.rec (fun _ => Int → Option AV) (rBitI g op k) (fun m b => intBin op k (.negSucc m) b) a b
theorem wrap_nat_le {k : IntKind} {m : Nat} (h : m ≤ ktop k) : k.wrap (m : Int) = m := by
  have := wrapT_eq k (.ofNat m)
  rw [show k.wrap (m : Int) = k.wrap (.ofNat m) from rfl, ← this]
  show wrapN k m = _
  unfold wrapN
  rw [Nat.ble_eq_true_of_le h]
  rfl
def intBinT : BinOp → IntKind → Int → Int → Option AV
  | .add => rAdd | .sub => rSub | .mul => rMul | .quo => rQuo | .rem => rRem
  | .and => rBit Nat.land .and | .or => rBit Nat.lor .or | .xor => rBit Nat.xor .xor
  | .eql => rEql | .neq => rNeq | .lss => rLss | .leq => rLeq | .gtr => rGtr | .geq => rGeq
  | op => intBin op
def shlN (k : IntKind) (m n : Nat) : Option AV := Bool.rec (intShift .shl k (.ofNat m) (.ofNat n)) (some (.int k (wrapN k (Nat.mul m (Nat.pow 2 n))))) (Nat.ble n 64)
def shrN (k : IntKind) (m n : Nat) : Option AV := Bool.rec (intShift .shr k (.ofNat m) (.ofNat n)) (some (.int k (.ofNat (Nat.div m (Nat.pow 2 n))))) (Nat.ble n 64)
def shiftN (g : IntKind → Nat → Nat → Option AV) (op : BinOp) (k : IntKind) (m n : Nat) : Option AV := Bool.rec (intShift op k (.ofNat m) (.ofNat n)) (g k m n) (Nat.ble n k.bits)
def shiftI (g : IntKind → Nat → Nat → Option AV) (op : BinOp) (k : IntKind) (m : Nat) (b : Int) : Option AV :=
  @Int.rec (fun _ => Option AV) (shiftN g op k m) (fun n => intShift op k (.ofNat m) (.negSucc n)) b
def shiftG (g : IntKind → Nat → Nat → Option AV) (op : BinOp) (k : IntKind) (a b : Int) : Option AV :=
  @Int.rec (fun _ => Int → Option AV) (shiftI g op k) (fun m b => intShift op k (.negSucc m) b) a b
def shiftT : BinOp → IntKind → Int → Int → Option AV
  | .shl => shiftG shlN .shl
  | .shr => shiftG shrN .shr
  | op => intShift op
end
end Go.Vm
/- The same machine in a form that the kernel runs faster: operations, code, calls; and that it is the same. -/
namespace Go.Vm
open Go.RowKit
set_option linter.unusedSimpArgs false
set_option linter.unusedVariables false
noncomputable section
variable {f : Fr} {h : AH}

/-! ### operands, small parts -/
def valT (o : AOpd) : Fr → AV := @AOpd.rec (fun _ => Fr → AV) (fun t f => atT f t) (fun v _ => v) o
def valsT (l : List AOpd) (f : Fr) : List AV := @List.rec AOpd (fun _ => List AV) [] (fun o _ ih => valT o f :: ih) l
def oneV (v : AV) (h : AH) : Option ARes := some (.val v h)
def optV (o : Option AV) (h : AH) : Option ARes := @Option.rec AV (fun _ => Option ARes) none (fun v => some (.val v h)) o
def optH (o : Option AH) : Option ARes := @Option.rec AH (fun _ => Option ARes) none (fun h => some (.val .none h)) o
def optP (o : Option (AV × AH)) : Option ARes := @Option.rec (AV × AH) (fun _ => Option ARes) none (fun p => some (.val p.1 p.2)) o
def pickT (c : Bool) (a b : AV) : AV := Bool.rec b a c
def natT (v : AV) : Option Nat := match v with
  | .int _ n => @Int.rec (fun _ => Option Nat) (fun m => some m) (fun _ => none) n
  | _ => none
/-! ### operations -/
def eMov (x : AOpd) (f : Fr) (h : AH) : Option ARes := some (.val (valT x f) h)
def pick1 (a b : AOpd) (f : Fr) (h : AH) (c : AV) : Option ARes := match c with
  | .bool t => some (.val (pickT t (valT a f) (valT b f)) h)
  | _ => none
def ePick (c a b : AOpd) (f : Fr) (h : AH) : Option ARes := pick1 a b f h (valT c f)
def eNew (z : List AV) (f : Fr) (h : AH) : Option ARes := some (.val (.ptr h.next 0) (hnew h (.cells z true)))
def load1r (o : Option AV) (h : AH) : Option ARes := optV o h
def loadAgg (h : AH) (n o off : Nat) : Option ARes := (h.load o off n).map fun l => .val (.agg l) h
def loadP (g : Bool) (n : Nat) (h : AH) (o off : Nat) : Option ARes := Bool.rec (optV (load1 h o off) h) (loadAgg h n o off) g
def load0 (g : Bool) (n : Nat) (h : AH) (a : AV) : Option ARes := match a with
  | .ptr o off => loadP g n h o off
  | _ => none
def eLoad (g : Bool) (n : Nat) (a : AOpd) (f : Fr) (h : AH) : Option ARes := load0 g n h (valT a f)
def storeAgg (n : Nat) (h : AH) (v : AV) (o off : Nat) : Option ARes := if v.cells.length = n then (h.store o off v.cells).map fun h' => .val .none h' else none
def isOne (v : AV) : Bool := match v with
  | .agg _ => false
  | _ => true
def storeP (n : Nat) (h : AH) (v : AV) (o off : Nat) : Option ARes :=
  Bool.rec (storeAgg n h v o off) (Bool.rec (storeAgg n h v o off) (optH (store1 h o off v)) (Nat.beq n 1)) (isOne v)
def store0 (n : Nat) (h : AH) (v : AV) (a : AV) : Option ARes := match a with
  | .ptr o off => storeP n h v o off
  | _ => none
def eStore (n : Nat) (a v : AOpd) (f : Fr) (h : AH) : Option ARes := store0 n h (valT v f) (valT a f)
def binII (op : BinOp) (k : IntKind) (a : Int) (k' : IntKind) (b : Int) : Option AV :=
  Bool.rec (Bool.rec none (intBinT op k a b) (kindEq k k')) (shiftT op k a b) (isShift op)
def binI (op : BinOp) (k : IntKind) (a : Int) (y : AV) : Option AV := match y with
  | .int k' b => binII op k a k' b
  | _ => none
def binS (op : BinOp) (a : List UInt8) (y : AV) : Option AV := match y with
  | .str b => strBin op a b
  | _ => none
def binT (op : BinOp) (x y : AV) : Option AV := match x with
  | .int k a => binI op k a y
  | .str a => binS op a y
  | _ => none
def eBin (op : BinOp) (x y : AOpd) (f : Fr) (h : AH) : Option ARes := optV (binT op (valT x f) (valT y f)) h
def xorB (n a b : Bool) : Bool := Bool.rec (Bool.rec (Bool.rec true false b) b a) (Bool.rec b (Bool.rec true false b) a) n
def eqB1 (n a : Bool) (h : AH) (y : AV) : Option ARes := match y with
  | .bool b => some (.val (.bool (xorB n a b)) h)
  | _ => none
def eqB0 (n : Bool) (x y : AV) (h : AH) : Option ARes := match x with
  | .bool a => eqB1 n a h y
  | _ => none
def eEqB (n : Bool) (x y : AOpd) (f : Fr) (h : AH) : Option ARes := eqB0 n (valT x f) (valT y f) h
def eEqNil (k : Nat) (n : Bool) (x y : AOpd) (f : Fr) (h : AH) : Option ARes := (eqNilV k (valT x f) (valT y f)).map fun b => .val (.bool (if n then !b else b)) h
def un0 (op : UnOp) (h : AH) (v : AV) : Option ARes := match v with
  | .bool b => match op with
    | .not => some (.val (.bool (Bool.rec true false b)) h)
    | _ => none
  | v => optV (unV op v) h
def eUn (op : UnOp) (x : AOpd) (f : Fr) (h : AH) : Option ARes := un0 op h (valT x f)
def toInt0 (k : IntKind) (h : AH) (v : AV) : Option ARes := match v with
  | .int _ n => some (.val (.int k (wrapT k n)) h)
  | _ => none
def eToInt (k : IntKind) (x : AOpd) (f : Fr) (h : AH) : Option ARes := toInt0 k h (valT x f)
def fieldAddr0 (off : Nat) (h : AH) (v : AV) : Option ARes := match v with
  | .ptr o i => some (.val (.ptr o (Nat.add i off)) h)
  | _ => none
def eFieldAddr (off : Nat) (x : AOpd) (f : Fr) (h : AH) : Option ARes := fieldAddr0 off h (valT x f)
def field1 (off n : Nat) (h : AH) (l : List AV) (g : Bool) : Option ARes := Bool.rec (optV (nthT l off) h) ((partV true l off n).map (.val · h)) g
def field0 (g : Bool) (off n : Nat) (h : AH) (v : AV) : Option ARes := match v with
  | .agg l => field1 off n h l g
  | _ => none
def eField (g : Bool) (off n : Nat) (x : AOpd) (f : Fr) (h : AH) : Option ARes := field0 g off n h (valT x f)
def idxA2 (sz : Nat) (h : AH) (o off z len : Nat) (i : Option Nat) : Option ARes := match i with
  | some i => Bool.rec none (Bool.rec none (some (.val (.ptr o (Nat.add off (Nat.mul i sz))) h)) (Nat.ble (Nat.succ i) len)) (Nat.beq z sz)
  | none => none
def idxA0 (sz : Nat) (h : AH) (i : AV) (v : AV) : Option ARes := match v with
  | .slice o off z len _ _ => idxA2 sz h o off z len (natT i)
  | _ => none
def eIdxAddr (sz : Nat) (x i : AOpd) (f : Fr) (h : AH) : Option ARes := idxA0 sz h (valT i f) (valT x f)
def idxR2 (n sz : Nat) (h : AH) (o off : Nat) (i : Option Nat) : Option ARes := match i with
  | some i => Bool.rec none (some (.val (.ptr o (Nat.add off (Nat.mul i sz))) h)) (Nat.ble (Nat.succ i) n)
  | none => none
def idxR0 (n sz : Nat) (h : AH) (i : AV) (v : AV) : Option ARes := match v with
  | .ptr o off => idxR2 n sz h o off (natT i)
  | _ => none
def eIdxAddrArr (n sz : Nat) (x i : AOpd) (f : Fr) (h : AH) : Option ARes := idxR0 n sz h (valT i f) (valT x f)
def idxS3 (h : AH) (b : Option UInt8) : Option ARes := match b with
  | some b => some (.val (.int .u8 (.ofNat b.toNat)) h)
  | none => none
def idxS2 (h : AH) (s : List UInt8) (i : Option Nat) : Option ARes := match i with
  | some i => idxS3 h (nthT s i)
  | none => none
def idxS0 (h : AH) (i : AV) (v : AV) : Option ARes := match v with
  | .str s => idxS2 h s (natT i)
  | _ => none
def eIdxStr (x i : AOpd) (f : Fr) (h : AH) : Option ARes := idxS0 h (valT i f) (valT x f)
def lenStr0 (h : AH) (v : AV) : Option ARes := match v with
  | .str s => some (.val (.int .i64 (.ofNat s.length)) h)
  | _ => none
def eLenStr (x : AOpd) (f : Fr) (h : AH) : Option ARes := lenStr0 h (valT x f)
def lenSlice0 (h : AH) (v : AV) : Option ARes := match v with
  | .slice _ _ _ l _ _ => some (.val (.int .i64 (.ofNat l)) h)
  | .nilSlice => some (.val (.int .i64 (.ofNat 0)) h)
  | _ => none
def eLenSlice (x : AOpd) (f : Fr) (h : AH) : Option ARes := lenSlice0 h (valT x f)
def eLenC (n : Nat) (f : Fr) (h : AH) : Option ARes := some (.val (.int .i64 (.ofNat n)) h)
def extract0 (i : Nat) (h : AH) (v : AV) : Option ARes := match v with
  | .tuple l => optV (nthT l i) h
  | _ => none
def eExtract (x : AOpd) (i : Nat) (f : Fr) (h : AH) : Option ARes := extract0 i h (valT x f)
def eCall (g : Nat) (args : List AOpd) (f : Fr) (h : AH) : Option ARes := some (.call g (valsT args f))
def eIface (t : Nat) (x : AOpd) (f : Fr) (h : AH) : Option ARes := some (.val (.iface t (valT x f)) h)
def eCold (o : AOp) (f : Fr) (h : AH) : Option ARes := o.eval f h
def evT (o : AOp) : Fr → AH → Option ARes :=
  @AOp.casesOn (fun _ => Fr → AH → Option ARes) o eMov ePick eNew (fun x => eCold (.box x)) (fun z p => eCold (.build z p)) (fun s l z p => eCold (.buildSlice s l z p))
    eLoad eStore (fun x => eCold (.nilChk x)) eBin eEqB eEqNil (fun k n x y => eCold (.eqAgg k n x y)) eUn eToInt (fun x => eCold (.asStr x)) (fun x => eCold (.toBytes x)) (fun x => eCold (.toStr x))
    eIface (fun g a c => eCold (.mkFunc g a c)) (eCold .mkMap) (fun s b z l c => eCold (.mkSlice s b z l c)) (fun s x l u m => eCold (.slc s x l u m)) (fun x l u => eCold (.slcStr x l u))
    (fun n s x l u m => eCold (.slcArr n s x l u m)) eFieldAddr eField eIdxAddr eIdxAddrArr eIdxStr (fun g n s x i => eCold (.idxArr g n s x i)) (fun k z c m x => eCold (.lookup k z c m x))
    (fun k m x v => eCold (.mapUpd k m x v)) (fun k m x => eCold (.del k m x)) eLenStr eLenSlice (fun x => eCold (.lenMap x)) eLenC (fun x => eCold (.capSlice x)) (fun b l => eCold (.mnx b l))
    (fun s b x y => eCold (.append s b x y)) (fun x y => eCold (.appendStr x y)) (fun s b z x n => eCold (.appendZ s b z x n)) (fun s x y => eCold (.copy s x y)) (fun x y => eCold (.copyStr x y))
    (fun s z x => eCold (.clear s z x)) (fun x => eCold (.mark x)) eExtract (fun t z c x => eCold (.assertT t z c x)) eCall (fun x a => eCold (.callV x a)) (fun t x a => eCold (.callM t x a)) (eCold .stuck)
/-! ### code -/
def doneC (d : Option Nat) (f : Fr) (p : Option (AV × AH)) : Option (Fr × AH) := @Option.rec (AV × AH) (fun _ => Option (Fr × AH)) none (fun p => some (putT f d p.1, p.2)) p
def doneR (call : Handler) (d : Option Nat) (f : Fr) (h : AH) (r : ARes) : Option (Fr × AH) := match r with
  | .val v h' => some (putT f d v, h')
  | .call g args => doneC d f (call g args h)
def doneO (call : Handler) (d : Option Nat) (f : Fr) (h : AH) (r : Option ARes) : Option (Fr × AH) := @Option.rec ARes (fun _ => Option (Fr × AH)) none (doneR call d f h) r
def guard1 (want : Bool) (v : AV) : Option Bool := match v with
  | .bool b => some (Bool.rec (Bool.rec true false want) want b)
  | .tuple _ => some false
  | _ => none
def guarded (call : Handler) (d : Option Nat) (o : AOp) (f : Fr) (h : AH) (t : Option Bool) : Option (Fr × AH) := match t with
  | some true => doneO call d f h (evT o f h)
  | some false => some (putT f d .none, h)
  | none => none
def runG (call : Handler) (d : Option Nat) (o : AOp) (f : Fr) (h : AH) (g : Option (Nat × Bool)) : Option (Fr × AH) := match g with
  | none => doneO call d f h (evT o f h)
  | some (t, want) => guarded call d o f h (guard1 want (atT f t))
def runT (call : Handler) (o : AOper) (f : Fr) (h : AH) : Option (Fr × AH) := @AOper.rec (fun _ => Option (Fr × AH)) (fun d o g => runG call d o f h g) o
def goOn (k : Fr → AH → Option (Fr × AH)) (r : Option (Fr × AH)) : Option (Fr × AH) := @Option.rec (Fr × AH) (fun _ => Option (Fr × AH)) none (fun p => k p.1 p.2) r
def opsNil (_ : Handler) (f : Fr) (h : AH) : Option (Fr × AH) := some (f, h)
def opsCons (o : AOper) (_ : List AOper) (ih : Handler → Fr → AH → Option (Fr × AH)) (call : Handler) (f : Fr) (h : AH) : Option (Fr × AH) := goOn (ih call) (runT call o f h)
def opsT (l : List AOper) : Handler → Fr → AH → Option (Fr × AH) := @List.rec AOper (fun _ => Handler → Fr → AH → Option (Fr × AH)) opsNil opsCons l
def thenT (k : Fr → AH → Out) (r : Out) : Out := match r with
  | some (.normal, f, h) => k f h
  | r => r
def condT (a b : Fr → AH → Out) (f : Fr) (h : AH) (c : AV) : Out := match c with
  | .bool t => Bool.rec (b f h) (a f h) t
  | _ => none
def leaveT (id : Nat) (r : Out) : Out := match r with
  | some (.exit i, f, h) => some (Bool.rec (.exit i) .normal (Nat.beq i id), f, h)
  | r => r
def endT (r : Option (Fr × AH)) : Out := @Option.rec (Fr × AH) (fun _ => Out) none (fun p => some (.normal, p.1, p.2)) r
abbrev CodeT := Handler → Nat → Fr → AH → Out
def loopT (body : Fr → AH → Out) (n : Nat) : Fr → AH → Out :=
  @Nat.rec (fun _ => Fr → AH → Out) (fun _ _ => none) (fun _ ih f h => thenT ih (body f h)) n
def cSkip : CodeT := fun _ _ f h => some (.normal, f, h)
def cOps (l : List AOper) : CodeT := fun call _ f h => endT (opsT l call f h)
def cDrawT (l : List DItem) : CodeT := fun call _ f h => endT (runItems call l f h)
def cSeq (_ _ : ACode) (a b : CodeT) : CodeT := fun call lf f h => thenT (b call lf) (a call lf f h)
def cCond (c : AOpd) (_ _ : ACode) (a b : CodeT) : CodeT := fun call lf f h => condT (a call lf) (b call lf) f h (valT c f)
def cBlock (id : Nat) (_ : ACode) (a : CodeT) : CodeT := fun call lf f h => leaveT id (a call lf f h)
def cLoop (_ : ACode) (a : CodeT) : CodeT := fun call lf f h => loopT (a call lf) lf f h
def cExit (id : Nat) : CodeT := fun _ _ f h => some (.exit id, f, h)
def cRet : CodeT := fun _ _ f h => some (.ret, f, h)
def cStuck : CodeT := fun _ _ _ _ => none
def codeT (c : ACode) : CodeT := @ACode.rec (fun _ => CodeT) cSkip cOps cDrawT cSeq cCond cBlock cLoop cExit cRet cStuck c
def finT (rs : List AResult) (f : Fr) (h : AH) : Option (AV × AH) := (resultsV f h rs).map fun l => (tupleV l, h)
def finO (rs : List AResult) (r : Out) : Option (AV × AH) := match r with
  | some (.normal, f, h) => finT rs f h
  | some (.ret, f, h) => finT rs f h
  | _ => none
def funT (call : Handler) (lf : Nat) (args : List AV) (h : AH) (fn : AFunc) : Option (AV × AH) :=
  Bool.rec none (finO fn.results (codeT fn.body call lf (Fr.ofArgs 0 args .nil) h)) (Nat.beq args.length fn.nargs)
/-- A table without stand-ins. -/
def callT (func : Nat → Option AFunc) (ih : Handler) (lf : Nat) (g : Nat) (args : List AV) (h : AH) : Option (AV × AH) :=
  @Option.rec AFunc (fun _ => Option (AV × AH)) none (funT ih lf args h) (func g)
def arunT (func : Nat → Option AFunc) (n : Nat) : Handler := @Nat.rec (fun _ => Handler) (fun _ _ _ => none) (fun n ih => callT func ih (Nat.succ n)) n
end
end Go.Vm

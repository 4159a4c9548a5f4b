/- The abstract machine: values, objects, operations, code, calls. A run is a plain function; nothing of the model's world stands in it. -/
import GoSem.Op.String
import GoSem.Builtin.Append
namespace Go.Vm

/-- Abstract values. `undef` stands for any value; `tuple []` for Go's 'no value yet'. -/
inductive AV where
  | undef
  | bool (b : Bool)
  | int (k : IntKind) (n : Int)
  | str (s : List UInt8)
  | ptr (o off : Nat)
  | nilPtr
  | slice (o off sz len cap : Nat) (ex : Bool)
  | nilSlice
  | map (o : Nat)
  | nilMap
  | func (fn : Fn) (first caps : List AV)
  | nilFunc
  | iface (t : Nat) (v : AV)
  | nilIface
  | agg (l : List AV)
  | tuple (l : List AV)
  deriving Inhabited

def AV.isDef : AV → Bool
  | .undef => false
  | _ => true
def AV.cells : AV → List AV
  | .agg l => l
  | v => [v]

/-- No value yet, or no result. -/
abbrev AV.none : AV := .tuple []

mutual
def AV.beq : AV → AV → Bool
  | .undef, .undef => true
  | .bool a, .bool b => a == b
  | .int k a, .int k' b => decide (k = k') && decide (a = b)
  | .str a, .str b => a == b
  | .ptr o i, .ptr p j => o == p && i == j
  | .nilPtr, .nilPtr => true
  | .slice o i s l c e, .slice p j s' l' c' e' => o == p && i == j && s == s' && l == l' && c == c' && e == e'
  | .nilSlice, .nilSlice => true
  | .map o, .map p => o == p
  | .nilMap, .nilMap => true
  | .func f a b, .func g c d => decide (f = g) && AV.beqs a c && AV.beqs b d
  | .nilFunc, .nilFunc => true
  | .iface t v, .iface u w => t == u && AV.beq v w
  | .nilIface, .nilIface => true
  | .agg a, .agg b => AV.beqs a b
  | .tuple a, .tuple b => AV.beqs a b
  | _, _ => false
def AV.beqs : List AV → List AV → Bool
  | [], [] => true
  | a :: r, b :: s => AV.beq a b && AV.beqs r s
  | _, _ => false
end

/-- A finite map from numbers. -/
inductive Tr (α : Type) where
  | nil
  | node (l : Tr α) (v : Option α) (r : Tr α)

def Tr.get {α : Type} : Tr α → Nat → Option α
  | .nil, _ => none
  | .node l v r, n => if n = 0 then v else if n % 2 = 1 then l.get (n / 2) else r.get (n / 2 - 1)

def Tr.setF {α : Type} : (fuel : Nat) → Tr α → Nat → α → Tr α
  | 0, t, _, _ => t
  | k + 1, t, n, x =>
    match t with
    | .nil => if n = 0 then .node .nil (some x) .nil else if n % 2 = 1 then .node (Tr.setF k .nil (n / 2) x) none .nil else .node .nil none (Tr.setF k .nil (n / 2 - 1) x)
    | .node l v r => if n = 0 then .node l (some x) r else if n % 2 = 1 then .node (Tr.setF k l (n / 2) x) v r else .node l v (Tr.setF k r (n / 2 - 1) x)

def Tr.set {α : Type} (t : Tr α) (n : Nat) (x : α) : Tr α := Tr.setF (n + 1) t n x

/-- A frame. -/
abbrev Fr := Tr AV
def Fr.at (f : Fr) (i : Nat) : AV := (Tr.get f i).getD .none
def Fr.put (f : Fr) (d : Option Nat) (v : AV) : Fr :=
  match d with
  | some i => Tr.set f i v
  | none => f
def Fr.ofArgs : Nat → List AV → Fr → Fr
  | _, [], f => f
  | i, v :: r, f => Fr.ofArgs (i + 1) r (Tr.set f i v)

inductive AObj where
  | cells (l : List AV) (rw : Bool)
  | map (es : List (AV × AV))
  | dead
  /-- Cells behind which a string's bytes are marked. -/
  | marked (l : List AV)

structure AH where
  next : Nat
  tr : Tr AObj

def AH.get (h : AH) (o : Nat) : Option AObj := h.tr.get o
def AH.set (h : AH) (o : Nat) (x : AObj) : AH := ⟨h.next, h.tr.set o x⟩
def AH.new (h : AH) (x : AObj) : AH := ⟨h.next + 1, h.tr.set h.next x⟩
def AH.load (h : AH) (o i n : Nat) : Option (List AV) :=
  match h.get o with
  | some (.cells l _) => if i + n ≤ l.length then some ((l.drop i).take n) else none
  | some (.marked l) => if i + n ≤ l.length then some ((l.drop i).take n) else none
  | _ => none
def setMany (l : List AV) (i : Nat) : List AV → List AV
  | [] => l
  | v :: r => setMany (l.set i v) (i + 1) r
/-- What one cell may hold. -/
def AV.flat : AV → Bool
  | .undef | .agg _ | .tuple _ => false
  | _ => true
def AH.store (h : AH) (o i : Nat) (vs : List AV) : Option AH :=
  match h.get o with
  | some (.cells l true) => if i + vs.length ≤ l.length ∧ vs.all AV.flat = true then some (h.set o (.cells (setMany l i vs) true)) else none
  | some (.marked l) => if i + vs.length ≤ l.length ∧ vs.all AV.flat = true then some (h.set o (.marked (setMany l i vs))) else none
  | _ => none
def AH.isRw (h : AH) (o : Nat) : Bool :=
  match h.get o with
  | some (.cells _ true) => true
  | _ => false

inductive AOpd where
  | tmp (t : Nat)
  | con (v : AV)

def AOpd.val (f : Fr) : AOpd → AV
  | .tmp t => f.at t
  | .con v => v

/-- What a method of an interface value asks of the receiver: the value itself; what it points to. -/
inductive Recv where
  | self
  | deref (agg : Bool) (n : Nat)

inductive AOp where
  | mov (x : AOpd)
  | pick (c a b : AOpd)
  | new (zero : List AV)
  | box (x : AOpd)
  | build (zero : List AV) (parts : List (Nat × Nat × AOpd))
  | buildSlice (sz len : Nat) (zero : List AV) (parts : List (Nat × Nat × AOpd))
  | load (agg : Bool) (n : Nat) (a : AOpd)
  | store (n : Nat) (a v : AOpd)
  | nilChk (x : AOpd)
  | bin (op : BinOp) (x y : AOpd)
  | eqB (neg : Bool) (x y : AOpd)
  | eqNil (kind : Nat) (neg : Bool) (x y : AOpd)
  | eqAgg (ks : List Nat) (neg : Bool) (x y : AOpd)
  | un (op : UnOp) (x : AOpd)
  | toInt (k : IntKind) (x : AOpd)
  | asStr (x : AOpd)
  | toBytes (x : AOpd)
  | toStr (x : AOpd)
  | mkIface (t : Nat) (x : AOpd)
  | mkFunc (fn : Fn) (first caps : List AOpd)
  | mkMap
  | mkSlice (sz bytes : Nat) (zero : List AV) (l c : AOpd)
  | slc (sz : Nat) (x : AOpd) (lo hi mx : Option AOpd)
  | slcStr (x : AOpd) (lo hi : Option AOpd)
  | slcArr (n sz : Nat) (x : AOpd) (lo hi mx : Option AOpd)
  | fieldAddr (off : Nat) (x : AOpd)
  | field (agg : Bool) (off n : Nat) (x : AOpd)
  | idxAddr (sz : Nat) (x i : AOpd)
  | idxAddrArr (n sz : Nat) (x i : AOpd)
  | idxStr (x i : AOpd)
  | idxArr (agg : Bool) (n sz : Nat) (x i : AOpd)
  | lookup (kk : Nat) (zero : AV) (commaOk : Bool) (m k : AOpd)
  | mapUpd (kk : Nat) (m k v : AOpd)
  | del (kk : Nat) (m k : AOpd)
  | lenStr (x : AOpd)
  | lenSlice (x : AOpd)
  | lenMap (x : AOpd)
  | lenC (n : Nat)
  | capSlice (x : AOpd)
  | mnx (isMax : Bool) (xs : List AOpd)
  | append (sz bytes : Nat) (s x : AOpd)
  | appendStr (s x : AOpd)
  | appendZ (sz bytes : Nat) (zero : List AV) (s n : AOpd)
  | copy (sz : Nat) (d s : AOpd)
  | copyStr (d s : AOpd)
  | clear (sz : Nat) (zero : List AV) (x : AOpd)
  | mark (x : AOpd)
  | extract (x : AOpd) (i : Nat)
  | assertT (t : Nat) (zero : AV) (commaOk : Bool) (x : AOpd)
  | call (f : Nat) (args : List AOpd)
  | callV (x : AOpd) (args : List AOpd)
  | callM (table : List (Nat × Nat × Recv)) (recv : AOpd) (args : List AOpd)
  | stuck

/-! ### plain operations -/
def intBin (op : BinOp) (k : IntKind) (a b : Int) : Option AV :=
  match op with
  | .add => some (.int k (k.wrap (a + b)))
  | .sub => some (.int k (k.wrap (a - b)))
  | .mul => some (.int k (k.wrap (a * b)))
  | .quo => if b = 0 then none else some (.int k (k.wrap (a.tdiv b)))
  | .rem => if b = 0 then none else some (.int k (a.tmod b))
  | .and => some (.int k (k.wrap (BitVec.ofInt k.bits a &&& BitVec.ofInt k.bits b).toNat))
  | .or => some (.int k (k.wrap (BitVec.ofInt k.bits a ||| BitVec.ofInt k.bits b).toNat))
  | .xor => some (.int k (k.wrap (BitVec.ofInt k.bits a ^^^ BitVec.ofInt k.bits b).toNat))
  | .andNot => some (.int k (k.wrap (BitVec.ofInt k.bits a &&& ~~~(BitVec.ofInt k.bits b)).toNat))
  | .eql => some (.bool (a == b))
  | .neq => some (.bool (a != b))
  | .lss => some (.bool (decide (a < b)))
  | .leq => some (.bool (decide (a ≤ b)))
  | .gtr => some (.bool (decide (a > b)))
  | .geq => some (.bool (decide (a ≥ b)))
  | _ => none
def intShift (op : BinOp) (k : IntKind) (a b : Int) : Option AV :=
  if b < 0 then none else
  match op with
  | .shl => some (.int k (k.wrap (a * 2 ^ (min b.toNat k.bits))))
  | .shr => some (.int k (a.fdiv (2 ^ (min b.toNat k.bits))))
  | _ => none
def strBin (op : BinOp) (a b : List UInt8) : Option AV :=
  match op with
  | .add => if a.length + b.length ≤ 9223372036854775807 then some (.str (a ++ b)) else none
  | .eql => some (.bool (a == b))
  | .neq => some (.bool (!(a == b)))
  | .lss => some (.bool (Op.bytesLess a b))
  | .leq => some (.bool (Op.bytesLess a b || a == b))
  | .gtr => some (.bool (!(Op.bytesLess a b || a == b)))
  | .geq => some (.bool (!(Op.bytesLess a b)))
  | _ => none
def isShift : BinOp → Bool
  | .shl | .shr => true
  | _ => false
def binV (op : BinOp) : AV → AV → Option AV
  | .int k a, .int k' b => if isShift op then intShift op k a b else if k = k' then intBin op k a b else none
  | .str a, .str b => strBin op a b
  | _, _ => none
def unV (op : UnOp) : AV → Option AV
  | .int k n =>
    match op with
    | .neg => intBin .sub k 0 n
    | .xor => intBin .xor k (if k.signed then -1 else k.max) n
    | _ => none
  | .bool b => match op with | .not => some (.bool (!b)) | _ => none
  | _ => none
/-- Kinds of values that may be nil: 0 pointers, 1 slices, 2 maps, 3 functions, 4 interface values. -/
def isNilV : Nat → AV → Option Bool
  | 0, .nilPtr => some true
  | 0, .ptr .. => some false
  | 1, .nilSlice => some true
  | 1, .slice .. => some false
  | 2, .nilMap => some true
  | 2, .map .. => some false
  | 3, .nilFunc => some true
  | 3, .func .. => some false
  | 4, .nilIface => some true
  | 4, .iface .. => some false
  | _, _ => none
/-- At least one side is nil. -/
def eqNilV (kind : Nat) (x y : AV) : Option Bool :=
  match isNilV kind x, isNilV kind y with
  | some true, some b => some b
  | some false, some true => some false
  | _, _ => none
/-- Keys: 0 integers, 1 strings, 2 bools. -/
def keyEq : Nat → AV → AV → Option Bool
  | 0, .int k a, .int k' b => if k = k' then some (a == b) else none
  | 1, .str a, .str b => some (a == b)
  | 2, .bool a, .bool b => some (a == b)
  | _, _, _ => none
def leavesEq : List Nat → List AV → List AV → Option Bool
  | [], [], [] => some true
  | k :: t, a :: r, b :: s => match keyEq k a b, leavesEq t r s with
    | some x, some y => some (x && y)
    | _, _ => none
  | _, _, _ => none
def natOf : AV → Option Nat
  | .int _ n => if 0 ≤ n then some n.toNat else none
  | _ => none
/-- Bounds of a slice expression: low, high, max. -/
def boundM (cap : Nat) : Option AV → Option Nat
  | some v => (natOf v).filter (· ≤ cap)
  | none => some cap
def boundH (len m : Nat) (noMax : Bool) : Option AV → Option Nat
  | some v => (natOf v).filter (· ≤ m)
  | none => if noMax then some len else none
def boundL (e : Nat) : Option AV → Option Nat
  | some v => (natOf v).filter (· ≤ e)
  | none => some 0
def bounds (len cap : Nat) (lo hi mx : Option AV) : Option (Nat × Nat × Nat) :=
  (boundM cap mx).bind fun m => (boundH len m mx.isNone hi).bind fun e => (boundL e lo).map fun l => (l, e, m)
def rep (zero : List AV) : Nat → List AV
  | 0 => []
  | n + 1 => zero ++ rep zero n
def bytesOf (s : List UInt8) : List AV := s.map fun b => .int .u8 b.toNat
def strOf : List AV → Option (List UInt8)
  | [] => some []
  | .int .u8 n :: r => (strOf r).map (UInt8.ofNat n.toNat :: ·)
  | _ => none
def fillV (cells : List AV) : List (Nat × Nat × AV) → Option (List AV)
  | [] => some cells
  | (off, n, v) :: r => if v.isDef = true ∧ v.cells.length = n ∧ off + n ≤ cells.length then fillV (setMany cells off v.cells) r else none
def partV (agg : Bool) (l : List AV) (off n : Nat) : Option AV :=
  if agg then (if off + n ≤ l.length then some (.agg ((l.drop off).take n)) else none) else l[off]?
def findV (kk : Nat) (k : AV) : List (AV × AV) → Nat → Option (Option (Nat × AV))
  | [], _ => some none
  | (e, v) :: r, i => match keyEq kk k e with
    | some true => some (some (i, v))
    | some false => findV kk k r (i + 1)
    | none => none
def lenOfV : AV → Option Nat
  | .slice _ _ _ l _ _ => some l
  | .nilSlice => some 0
  | _ => none
/-- The first n elements' cells of a slice. -/
def AH.elems (h : AH) (sz n : Nat) : AV → Option (List AV)
  | .slice o off z len _ _ => if z = sz ∧ n ≤ len then h.load o off (n * sz) else none
  | .nilSlice => if n = 0 then some [] else none
  | _ => none
def roomOk (need bytes : Nat) (cap : Nat) (ex : Bool) : Bool :=
  (decide (need ≤ 70368744177664) && decide (need * bytes ≤ 70368744177664) && decide (bytes ≤ 1048576))
    || (ex && decide (cap = 0) && decide (need * bytes ≤ 281474976710656) && decide (need ≤ 9223372036854775807) && decide (0 < bytes))
def appendV (sz bytes : Nat) (s : AV) (new : List AV) (n : Nat) (h : AH) : Option (AV × AH) :=
  match s with
  | .nilSlice =>
    if n = 0 then some (.nilSlice, h)
    else if roomOk n bytes 0 true then some (.slice h.next 0 sz n n false, h.new (.cells new true)) else none
  | .slice o off z len cap ex =>
    if z = sz then
      if len + n ≤ cap then
        if n * sz = 0 then some (.slice o off sz (len + n) cap ex, h)
        else (h.store o (off + len * sz) new).map fun h' => (.slice o off sz (len + n) cap ex, h')
      else if roomOk (len + n) bytes cap ex then
        match h.load o off (len * sz) with
        | some old =>
          if ex then some (.slice h.next 0 sz (len + n) (len + n) false, h.new (.cells (old ++ new) true))
          else if h.isRw o && new.all AV.flat then some (.slice h.next 0 sz (len + n) (len + n) false, (h.set o .dead).new (.cells (old ++ new) true))
          else none
        | none => none
      else none
    else none
  | _ => none
def mnxV (isMax : Bool) : AV → AV → Option AV
  | .int k x, .int k' y => if k = k' then some (.int k (if isMax then (if y > x then y else x) else (if y < x then y else x))) else none
  | _, _ => none
def mnxAll (isMax : Bool) : AV → List AV → Option AV
  | x, [] => some x
  | x, y :: r => (mnxV isMax x y).bind fun z => mnxAll isMax z r

/-- What an operation comes to: a value; nothing (a store); a call. -/
inductive ARes where
  | val (v : AV) (h : AH)
  | call (f : Nat) (args : List AV)

def AOp.eval (f : Fr) (h : AH) : AOp → Option ARes
  | .mov x => some (.val (x.val f) h)
  | .pick c a b => match c.val f with
    | .bool t => some (.val (if t then a.val f else b.val f) h)
    | _ => none
  | .new zero => some (.val (.ptr h.next 0) (h.new (.cells zero true)))
  | .box x => if (x.val f).isDef then some (.val (.ptr h.next 0) (h.new (.cells (x.val f).cells true))) else none
  | .build zero parts => (fillV zero (parts.map fun p => (p.1, p.2.1, p.2.2.val f))).map fun l => .val (.agg l) h
  | .buildSlice sz len zero parts => (fillV zero (parts.map fun p => (p.1, p.2.1, p.2.2.val f))).map fun l =>
      .val (.slice h.next 0 sz len len true) (h.new (.cells l true))
  | .load agg n a => match a.val f with
    | .ptr o off => if agg then (h.load o off n).map fun l => .val (.agg l) h
      else match h.load o off 1 with
        | some [v] => some (.val v h)
        | _ => none
    | _ => none
  | .store n a v => match a.val f with
    | .ptr o off => if (v.val f).cells.length = n then (h.store o off (v.val f).cells).map fun h' => .val .none h' else none
    | _ => none
  | .nilChk x => match x.val f with
    | .ptr o i => some (.val (.ptr o i) h)
    | .slice o i s l c e => some (.val (.slice o i s l c e) h)
    | .map o => some (.val (.map o) h)
    | .nilMap => some (.val .nilMap h)
    | .func (.func g) a b => some (.val (.func (.func g) a b) h)
    | _ => none
  | .bin op x y => (binV op (x.val f) (y.val f)).map (.val · h)
  | .eqB neg x y => match x.val f, y.val f with
    | .bool a, .bool b => some (.val (.bool (if neg then !(a == b) else (a == b))) h)
    | _, _ => none
  | .eqNil kind neg x y => (eqNilV kind (x.val f) (y.val f)).map fun b => .val (.bool (if neg then !b else b)) h
  | .eqAgg ks neg x y => match x.val f, y.val f with
    | .agg l, .agg m => (leavesEq ks l m).map fun b => .val (.bool (if neg then !b else b)) h
    | _, _ => none
  | .un op x => (unV op (x.val f)).map (.val · h)
  | .toInt k x => match x.val f with
    | .int _ n => some (.val (.int k (k.wrap n)) h)
    | _ => none
  | .asStr x => match x.val f with
    | .str s => some (.val (.str s) h)
    | _ => none
  | .toBytes x => match x.val f with
    | .str s => if s.length ≤ 9223372036854775807 then some (.val (.slice h.next 0 1 s.length s.length false) (h.new (.marked (bytesOf s)))) else none
    | _ => none
  | .toStr x => match x.val f with
    | .nilSlice => some (.val (.str []) h)
    | .slice o off z len _ _ => if z = 1 then (h.load o off len).bind fun l => (strOf l).map fun s => .val (.str s) h else none
    | _ => none
  | .mkIface t x => some (.val (.iface t (x.val f)) h)
  | .mkFunc fn first caps => some (.val (.func fn (first.map (·.val f)) (caps.map (·.val f))) h)
  | .mkMap => some (.val (.map h.next) (h.new (.map [])))
  | .mkSlice sz bytes zero l c => match natOf (l.val f), natOf (c.val f) with
    | some l, some c => if l ≤ c ∧ c ≤ 9223372036854775807 ∧ bytes * c ≤ 281474976710656 then
        some (.val (.slice h.next 0 sz l c true) (h.new (.cells (rep zero c) true))) else none
    | _, _ => none
  | .slc sz x lo hi mx => match x.val f with
    | .nilSlice => (bounds 0 0 (lo.map (·.val f)) (hi.map (·.val f)) (mx.map (·.val f))).map fun _ => .val .nilSlice h
    | .slice o off z len cap ex => if z = sz then
        (bounds len cap (lo.map (·.val f)) (hi.map (·.val f)) (mx.map (·.val f))).map fun (l, e, m) =>
          .val (.slice o (if (ex || mx.isSome) && decide (m = l) then off else off + l * sz) sz (e - l) (m - l) (ex || mx.isSome)) h
      else none
    | _ => none
  | .slcStr x lo hi => match x.val f with
    | .str s => (bounds s.length s.length (lo.map (·.val f)) (hi.map (·.val f)) none).map fun (l, e, _) => .val (.str ((s.drop l).take (e - l))) h
    | _ => none
  | .slcArr n sz x lo hi mx => match x.val f with
    | .ptr o off => if (h.load o off (n * sz)).isSome then
        (bounds n n (lo.map (·.val f)) (hi.map (·.val f)) (mx.map (·.val f))).map fun (l, e, m) =>
          .val (.slice o (if m = l then off else off + l * sz) sz (e - l) (m - l) true) h
      else none
    | _ => none
  | .fieldAddr off x => match x.val f with
    | .ptr o i => some (.val (.ptr o (i + off)) h)
    | _ => none
  | .field agg off n x => match x.val f with
    | .agg l => (partV agg l off n).map (.val · h)
    | _ => none
  | .idxAddr sz x i => match x.val f, natOf (i.val f) with
    | .slice o off z len _ _, some i => if z = sz ∧ i < len then some (.val (.ptr o (off + i * sz)) h) else none
    | _, _ => none
  | .idxAddrArr n sz x i => match x.val f, natOf (i.val f) with
    | .ptr o off, some i => if i < n then some (.val (.ptr o (off + i * sz)) h) else none
    | _, _ => none
  | .idxStr x i => match x.val f, natOf (i.val f) with
    | .str s, some i => (s[i]?).map fun b => .val (.int .u8 b.toNat) h
    | _, _ => none
  | .idxArr agg n sz x i => match x.val f, natOf (i.val f) with
    | .agg l, some i => if i < n then (partV agg l (i * sz) sz).map (.val · h) else none
    | _, _ => none
  | .lookup kk zero commaOk m k =>
    let out (r : Option (Nat × AV)) : ARes := match r with
      | some (_, v) => .val (if commaOk then .tuple [v, .bool true] else v) h
      | none => .val (if commaOk then .tuple [zero, .bool false] else zero) h
    match m.val f with
    | .nilMap => some (out none)
    | .map o => match h.get o with
      | some (.map es) => (findV kk (k.val f) es 0).map out
      | _ => none
    | _ => none
  | .mapUpd kk m k v => match m.val f with
    | .map o => match h.get o with
      | some (.map es) => match findV kk (k.val f) es 0 with
        | some (some (i, _)) => some (.val .none (h.set o (.map (es.set i (k.val f, v.val f)))))
        | some none => some (.val .none (h.set o (.map (es ++ [(k.val f, v.val f)]))))
        | none => none
      | _ => none
    | _ => none
  | .del kk m k => match m.val f with
    | .map o => match h.get o with
      | some (.map es) => match findV kk (k.val f) es 0 with
        | some (some (i, _)) => some (.val .none (h.set o (.map (es.eraseIdx i))))
        | some none => some (.val .none h)
        | none => none
      | _ => none
    | _ => none
  | .lenStr x => match x.val f with
    | .str s => some (.val (.int .i64 s.length) h)
    | _ => none
  | .lenSlice x => (lenOfV (x.val f)).map fun n => .val (.int .i64 n) h
  | .lenMap x => match x.val f with
    | .nilMap => some (.val (.int .i64 0) h)
    | .map o => match h.get o with
      | some (.map es) => some (.val (.int .i64 es.length) h)
      | _ => none
    | _ => none
  | .lenC n => some (.val (.int .i64 n) h)
  | .capSlice x => match x.val f with
    | .nilSlice => some (.val (.int .i64 0) h)
    | .slice _ _ _ _ cap true => some (.val (.int .i64 cap) h)
    | _ => none
  | .mnx isMax xs => match xs.map (·.val f) with
    | x :: r => (mnxAll isMax x r).map (.val · h)
    | [] => none
  | .append sz bytes s x => (lenOfV (x.val f)).bind fun n => (h.elems sz n (x.val f)).bind fun new =>
      (appendV sz bytes (s.val f) new n h).map fun (v, h') => .val v h'
  | .appendStr s x => match x.val f with
    | .str t => (appendV 1 1 (s.val f) (bytesOf t) t.length h).map fun (v, h') => .val v h'
    | _ => none
  | .appendZ sz bytes zero s n => (natOf (n.val f)).bind fun n => if n ≤ 9223372036854775807 ∧ n * bytes ≤ 281474976710656 then
      (appendV sz bytes (s.val f) (rep zero n) n h).map fun (v, h') => .val v h' else none
  | .copy sz d s => (lenOfV (d.val f)).bind fun nd => (lenOfV (s.val f)).bind fun ns =>
      (h.elems sz (min ns nd) (s.val f)).bind fun l =>
        match d.val f with
        | .slice o off z _ _ _ => if z = sz then
            if l.isEmpty then some (.val (.int .i64 (min ns nd : Nat)) h) else (h.store o off l).map fun h' => .val (.int .i64 (min ns nd : Nat)) h'
          else none
        | _ => some (.val (.int .i64 0) h)
  | .copyStr d s => match d.val f, s.val f with
    | .slice o off z nd _ _, .str t => if z = 1 then
        if min t.length nd = 0 then some (.val (.int .i64 0) h)
        else (h.store o off (bytesOf (t.take (min t.length nd)))).map fun h' => .val (.int .i64 (min t.length nd : Nat)) h'
      else none
    | .nilSlice, .str _ => some (.val (.int .i64 0) h)
    | _, _ => none
  | .clear sz zero x => match x.val f with
    | .nilSlice => some (.val .none h)
    | .slice o off z len _ _ => if z = sz then
        if len = 0 ∨ zero = [] then some (.val .none h) else (h.store o off (rep zero len)).map fun h' => .val .none h'
      else none
    | _ => none
  | .mark x => match x.val f with
    | .slice o off z len cap ex => match h.get o with
      | some (.cells l true) => some (.val (.slice o off z len cap ex) (h.set o (.marked l)))
      | _ => none
    | _ => none
  | .extract x i => match x.val f with
    | .tuple l => (l[i]?).map (.val · h)
    | _ => none
  | .assertT t zero commaOk x => match x.val f with
    | .iface u v => if u = t then some (.val (if commaOk then .tuple [v, .bool true] else v) h)
      else if commaOk then some (.val (.tuple [zero, .bool false]) h) else none
    | .nilIface => if commaOk then some (.val (.tuple [zero, .bool false]) h) else none
    | _ => none
  | .call g args => some (.call g (args.map (·.val f)))
  | .callV x args => match x.val f with
    | .func (.func g) first caps => some (.call g (first ++ args.map (·.val f) ++ caps))
    | _ => none
  | .callM table recv args => match recv.val f with
    | .iface t v => match table.find? (fun r => r.1 == t) with
      | some (_, g, .self) => some (.call g (v :: args.map (·.val f)))
      | some (_, g, .deref agg n) => match v with
        | .ptr o off => if agg then (h.load o off n).map fun l => .call g (.agg l :: args.map (·.val f))
          else match h.load o off 1 with
            | some [u] => some (.call g (u :: args.map (·.val f)))
            | _ => none
        | _ => none
      | none => none
    | _ => none
  | .stuck => none

/-- 0: of values alone; 1: looks into memory; 2: makes an object of values alone; 3: writes, calls. -/
def AOp.cls : AOp → Nat
  | .load .. | .toStr _ | .lookup .. | .lenMap _ | .slcArr .. => 1
  | .new _ | .box _ | .buildSlice .. | .toBytes _ | .mkMap | .mkSlice .. => 2
  | .store .. | .mapUpd .. | .del .. | .append .. | .appendStr .. | .appendZ .. | .copy .. | .copyStr .. | .clear .. | .mark _ | .call .. | .callV .. | .callM .. | .stuck => 3
  | _ => 0

structure AOper where
  dst : Option Nat
  op : AOp
  guard : Option (Nat × Bool)

/-- The handler of calls. -/
abbrev Handler := Nat → List AV → AH → Option (AV × AH)

/-- Is the operation to be run? -/
def wantedV (f : Fr) : Option (Nat × Bool) → Option Bool
  | none => some true
  | some (t, want) => match f.at t with
    | .bool b => some (b == want)
    | .tuple _ => some false
    | _ => none

def AOper.run (call : Handler) (o : AOper) (f : Fr) (h : AH) : Option (Fr × AH) :=
  match wantedV f o.guard with
  | some true => match o.op.eval f h with
    | some (.val v h') => some (Fr.put f o.dst v, h')
    | some (.call g args) => (call g args h).map fun (v, h') => (Fr.put f o.dst v, h')
    | none => none
  | some false => some (Fr.put f o.dst .none, h)
  | none => none

def runOps (call : Handler) : List AOper → Fr → AH → Option (Fr × AH)
  | [], f, h => some (f, h)
  | o :: r, f, h => match o.run call f h with
    | some (f', h') => runOps call r f' h'
    | none => none

/-- An item of a region whose order is drawn: an operation in a fixed order, or a second look at one that may be run later. -/
inductive DItem where
  | op (o : AOper)
  | look (o : AOper)

def objOf : AV → Option Nat
  | .ptr o _ => some o
  | .slice o _ _ _ _ _ => some o
  | .map o => some o
  | _ => none
def beqPairs : List (AV × AV) → List (AV × AV) → Bool
  | [], [] => true
  | a :: r, b :: s => AV.beq a.1 b.1 && AV.beq a.2 b.2 && beqPairs r s
  | _, _ => false
def beqObj : AObj → AObj → Bool
  | .cells l a, .cells m b => a == b && AV.beqs l m
  | .map l, .map m => beqPairs l m
  | .marked l, .marked m => AV.beqs l m
  | _, _ => false
/-- Run once more, now: does it come to what it came to? (A maker: does its object lie there unchanged?) -/
def AOper.lookAgain (o : AOper) (f : Fr) (h : AH) : Bool :=
  match wantedV f o.guard with
  | some true => match o.dst with
    | some d => match o.op.eval f h with
      | some (.val v h') => if h'.next = h.next then AV.beq v (f.at d) else
          match objOf v, objOf (f.at d) with
          | some p, some q => match h'.get p, h.get q with
            | some x, some y => beqObj x y
            | _, _ => false
          | _, _ => false
      | _ => false
    | none => false
  | some false => match o.dst with
    | some d => AV.beq .none (f.at d)
    | none => true
  | none => false

def runItems (call : Handler) : List DItem → Fr → AH → Option (Fr × AH)
  | [], f, h => some (f, h)
  | .op o :: r, f, h => match o.run call f h with
    | some (f', h') => runItems call r f' h'
    | none => none
  | .look o :: r, f, h => if o.lookAgain f h then runItems call r f h else none

inductive ACode where
  | skip
  | ops (l : List AOper)
  | draw (l : List DItem)
  | seq (a b : ACode)
  | cond (c : AOpd) (a b : ACode)
  | block (id : Nat) (c : ACode)
  | loop (c : ACode)
  | exit (id : Nat)
  | ret
  | stuck

inductive AExit where
  | normal
  | exit (id : Nat)
  | ret

abbrev Out := Option (AExit × Fr × AH)

def aloop (body : Fr → AH → Out) : Nat → Fr → AH → Out
  | 0, _, _ => none
  | n + 1, f, h => match body f h with
    | some (.normal, f', h') => aloop body n f' h'
    | r => r

def acode (call : Handler) (lf : Nat) : ACode → Fr → AH → Out
  | .skip, f, h => some (.normal, f, h)
  | .ops l, f, h => (runOps call l f h).map fun (f', h') => (.normal, f', h')
  | .draw l, f, h => (runItems call l f h).map fun (f', h') => (.normal, f', h')
  | .seq a b, f, h => match acode call lf a f h with
    | some (.normal, f', h') => acode call lf b f' h'
    | r => r
  | .cond c a b, f, h => match c.val f with
    | .bool true => acode call lf a f h
    | .bool false => acode call lf b f h
    | _ => none
  | .block id c, f, h => match acode call lf c f h with
    | some (.exit i, f', h') => some (if i = id then .normal else .exit i, f', h')
    | r => r
  | .loop c, f, h => aloop (acode call lf c) lf f h
  | .exit id, f, h => some (.exit id, f, h)
  | .ret, f, h => some (.ret, f, h)
  | .stuck, _, _ => none

inductive AResult where
  | tmp (t : Nat)
  | cell (t : Nat) (agg : Bool) (n : Nat)

structure AFunc where
  nargs : Nat
  body : ACode
  results : List AResult

def AResult.val (f : Fr) (h : AH) : AResult → Option AV
  | .tmp t => some (f.at t)
  | .cell t agg n => match f.at t with
    | .ptr o off => if agg then (h.load o off n).map .agg
      else match h.load o off 1 with
        | some [v] => some v
        | _ => none
    | _ => none

def resultsV (f : Fr) (h : AH) : List AResult → Option (List AV)
  | [] => some []
  | r :: s => (r.val f h).bind fun v => (resultsV f h s).map (v :: ·)

def tupleV : List AV → AV
  | [v] => v
  | l => .tuple l

def AFunc.run (call : Handler) (lf : Nat) (fn : AFunc) (args : List AV) (h : AH) : Option (AV × AH) :=
  if args.length = fn.nargs then
    match acode call lf fn.body (Fr.ofArgs 0 args .nil) h with
    | some (.normal, f, h') => (resultsV f h' fn.results).map fun l => (tupleV l, h')
    | some (.ret, f, h') => (resultsV f h' fn.results).map fun l => (tupleV l, h')
    | _ => none
  else none

/-- The table of functions, and what stands in for some of them. -/
structure Prog where
  func : Nat → Option AFunc
  env : Nat → Option (List AV → AH → Option (AV × AH))

def arun (T : Prog) : Nat → Handler
  | 0, _, _, _ => none
  | n + 1, f, args, h => match T.env f with
    | some g => g args h
    | none => match T.func f with
      | some fn => fn.run (arun T n) (n + 1) args h
      | none => none

end Go.Vm

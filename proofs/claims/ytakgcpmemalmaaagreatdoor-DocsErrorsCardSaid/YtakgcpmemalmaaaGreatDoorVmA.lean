/- The abstract machine: values, objects, operations, code, calls. A run is a plain function; nothing of the model's world stands in it. -/
import GoSem.Op.String
import GoSem.Builtin.Append
import Derived.Below
import Derived.Orders
import Derived.Laws.CopyRow
namespace Go.Vm
inductive AV where
 | undef
 | bool (b : Bool)
 | int (k : IntKind) (n : Int)
 | str (s : List UInt8)
 | ptr (o off : Nat)
 | nilPtr
 | slice (o off sz len cap : Nat) (ex : Bool)
 | nilSlice
 | map (o : Nat)
 | nilMap
 | func (fn : Fn) (first caps : List AV)
 | nilFunc
 | iface (t : Nat) (v : AV)
 | nilIface
 | agg (l : List AV)
 | tuple (l : List AV)
 deriving Inhabited
def AV.isDef : AV→Bool
 | .undef => false
 | _ => true
def AV.cells : AV→List AV
 | .agg l => l
 | v => [v]
abbrev AV.none : AV := .tuple []
mutual
def AV.beq : AV→AV→Bool
 | .undef,.undef => true
 | .bool a,.bool b => a == b
 | .int k a,.int k' b => decide (k=k') && decide (a=b)
 | .str a,.str b => a == b
 | .ptr o i,.ptr p j => o == p && i == j
 | .nilPtr,.nilPtr => true
 | .slice o i s l c e,.slice p j s' l' c' e' => o == p && i == j && s == s' && l == l' && c == c' && e == e'
 | .nilSlice,.nilSlice => true
 | .map o,.map p => o == p
 | .nilMap,.nilMap => true
 | .func f a b,.func g c d => decide (f=g) && AV.beqs a c && AV.beqs b d
 | .nilFunc,.nilFunc => true
 | .iface t v,.iface u w => t == u && AV.beq v w
 | .nilIface,.nilIface => true
 | .agg a,.agg b => AV.beqs a b
 | .tuple a,.tuple b => AV.beqs a b
 | _,_ => false
def AV.beqs : List AV→List AV→Bool
 | [],[] => true
 | a :: r,b :: s => AV.beq a b && AV.beqs r s
 | _,_ => false
end
inductive Tr (α : Type) where
 | nil
 | node (l : Tr α) (v : Option α) (r : Tr α)
def Tr.get {α : Type} : Tr α→Nat→Option α
 | .nil,_ => none
 | .node l v r,n => if n=0 then v else if n % 2=1 then l.get (n / 2) else r.get (n / 2 - 1)
def Tr.setF {α : Type} : (fuel : Nat)→Tr α→Nat→α→Tr α
 | 0,t,_,_ => t
 | k + 1,t,n,x =>
  match t with
  | .nil => if n=0 then .node .nil (some x) .nil else if n % 2=1 then .node (Tr.setF k .nil (n / 2) x) none .nil else .node .nil none (Tr.setF k .nil (n / 2 - 1) x)
  | .node l v r => if n=0 then .node l (some x) r else if n % 2=1 then .node (Tr.setF k l (n / 2) x) v r else .node l v (Tr.setF k r (n / 2 - 1) x)
def Tr.set {α : Type} (t : Tr α) (n : Nat) (x : α) : Tr α:=Tr.setF (n + 1) t n x
abbrev Fr:=Tr AV
def Fr.at (f : Fr) (i : Nat) : AV:=(Tr.get f i).getD .none
def Fr.put (f : Fr) (d : Option Nat) (v : AV) : Fr :=
 match d with
 | some i => Tr.set f i v
 | none => f
def Fr.ofArgs : Nat→List AV→Fr→Fr
 | _,[],f => f
 | i,v :: r,f => Fr.ofArgs (i + 1) r (Tr.set f i v)
inductive AObj where
 | cells (l : List AV) (rw : Bool)
 | map (es : List (AV×AV))
 | dead
  | marked (l : List AV)
structure AH where
 next : Nat
 tr : Tr AObj
def AH.get (h : AH) (o : Nat) : Option AObj:=h.tr.get o
def AH.set (h : AH) (o : Nat) (x : AObj) : AH:=⟨h.next,h.tr.set o x⟩
def AH.new (h : AH) (x : AObj) : AH:=⟨h.next + 1,h.tr.set h.next x⟩
def AH.load (h : AH) (o i n : Nat) : Option (List AV) :=
 match h.get o with
 | some (.cells l _) => if i + n≤l.length then some ((l.drop i).take n) else none
 | some (.marked l) => if i + n≤l.length then some ((l.drop i).take n) else none
 | _ => none
def setMany (l : List AV) (i : Nat) : List AV→List AV
 | [] => l
 | v :: r => setMany (l.set i v) (i + 1) r
def AV.flat : AV→Bool
 | .undef | .agg _ | .tuple _ => false
 | _ => true
def AH.store (h : AH) (o i : Nat) (vs : List AV) : Option AH :=
 match h.get o with
 | some (.cells l true) => if i + vs.length≤l.length∧vs.all AV.flat=true then some (h.set o (.cells (setMany l i vs) true)) else none
 | some (.marked l) => if i + vs.length≤l.length∧vs.all AV.flat=true then some (h.set o (.marked (setMany l i vs))) else none
 | _ => none
def AH.isRw (h : AH) (o : Nat) : Bool :=
 match h.get o with
 | some (.cells _ true) => true
 | _ => false
inductive AOpd where
 | tmp (t : Nat)
 | con (v : AV)
def AOpd.val (f : Fr) : AOpd→AV
 | .tmp t => f.at t
 | .con v => v
inductive Recv where
 | self
 | deref (agg : Bool) (n : Nat)
inductive AOp where
 | mov (x : AOpd)
 | pick (c a b : AOpd)
 | new (zero : List AV)
 | box (x : AOpd)
 | build (zero : List AV) (parts : List (Nat×Nat×AOpd))
 | buildSlice (sz len : Nat) (zero : List AV) (parts : List (Nat×Nat×AOpd))
 | load (agg : Bool) (n : Nat) (a : AOpd)
 | store (n : Nat) (a v : AOpd)
 | nilChk (x : AOpd)
 | bin (op : BinOp) (x y : AOpd)
 | eqB (neg : Bool) (x y : AOpd)
 | eqNil (kind : Nat) (neg : Bool) (x y : AOpd)
 | eqAgg (ks : List Nat) (neg : Bool) (x y : AOpd)
 | un (op : UnOp) (x : AOpd)
 | toInt (k : IntKind) (x : AOpd)
 | asStr (x : AOpd)
 | toBytes (x : AOpd)
 | toStr (x : AOpd)
 | mkIface (t : Nat) (x : AOpd)
 | mkFunc (fn : Fn) (first caps : List AOpd)
 | mkMap
 | mkSlice (sz bytes : Nat) (zero : List AV) (l c : AOpd)
 | slc (sz : Nat) (x : AOpd) (lo hi mx : Option AOpd)
 | slcStr (x : AOpd) (lo hi : Option AOpd)
 | slcArr (n sz : Nat) (x : AOpd) (lo hi mx : Option AOpd)
 | fieldAddr (off : Nat) (x : AOpd)
 | field (agg : Bool) (off n : Nat) (x : AOpd)
 | idxAddr (sz : Nat) (x i : AOpd)
 | idxAddrArr (n sz : Nat) (x i : AOpd)
 | idxStr (x i : AOpd)
 | idxArr (agg : Bool) (n sz : Nat) (x i : AOpd)
 | lookup (kk : Nat) (zero : AV) (commaOk : Bool) (m k : AOpd)
 | mapUpd (kk : Nat) (m k v : AOpd)
 | del (kk : Nat) (m k : AOpd)
 | lenStr (x : AOpd)
 | lenSlice (x : AOpd)
 | lenMap (x : AOpd)
 | lenC (n : Nat)
 | capSlice (x : AOpd)
 | mnx (isMax : Bool) (xs : List AOpd)
 | append (sz bytes : Nat) (s x : AOpd)
 | appendStr (s x : AOpd)
 | appendZ (sz bytes : Nat) (zero : List AV) (s n : AOpd)
 | copy (sz : Nat) (d s : AOpd)
 | copyStr (d s : AOpd)
 | clear (sz : Nat) (zero : List AV) (x : AOpd)
 | mark (x : AOpd)
 | extract (x : AOpd) (i : Nat)
 | assertT (t : Nat) (zero : AV) (commaOk : Bool) (x : AOpd)
 | call (f : Nat) (args : List AOpd)
 | callV (x : AOpd) (args : List AOpd)
 | callM (table : List (Nat×Nat×Recv)) (recv : AOpd) (args : List AOpd)
 | stuck
def intBin (op : BinOp) (k : IntKind) (a b : Int) : Option AV :=
 match op with
 | .add => some (.int k (k.wrap (a + b)))
 | .sub => some (.int k (k.wrap (a - b)))
 | .mul => some (.int k (k.wrap (a * b)))
 | .quo => if b=0 then none else some (.int k (k.wrap (a.tdiv b)))
 | .rem => if b=0 then none else some (.int k (a.tmod b))
 | .and => some (.int k (k.wrap (BitVec.ofInt k.bits a &&& BitVec.ofInt k.bits b).toNat))
 | .or => some (.int k (k.wrap (BitVec.ofInt k.bits a ||| BitVec.ofInt k.bits b).toNat))
 | .xor => some (.int k (k.wrap (BitVec.ofInt k.bits a ^^^ BitVec.ofInt k.bits b).toNat))
 | .andNot => some (.int k (k.wrap (BitVec.ofInt k.bits a &&& ~~~(BitVec.ofInt k.bits b)).toNat))
 | .eql => some (.bool (a == b))
 | .neq => some (.bool (a != b))
 | .lss => some (.bool (decide (a < b)))
 | .leq => some (.bool (decide (a≤b)))
 | .gtr => some (.bool (decide (a > b)))
 | .geq => some (.bool (decide (a ≥ b)))
 | _ => none
def intShift (op : BinOp) (k : IntKind) (a b : Int) : Option AV :=
 if b < 0 then none else
 match op with
 | .shl => some (.int k (k.wrap (a * 2 ^ (min b.toNat k.bits))))
 | .shr => some (.int k (a.fdiv (2 ^ (min b.toNat k.bits))))
 | _ => none
def strBin (op : BinOp) (a b : List UInt8) : Option AV :=
 match op with
 | .add => if a.length + b.length≤9223372036854775807 then some (.str (a ++ b)) else none
 | .eql => some (.bool (a == b))
 | .neq => some (.bool (!(a == b)))
 | .lss => some (.bool (Op.bytesLess a b))
 | .leq => some (.bool (Op.bytesLess a b || a == b))
 | .gtr => some (.bool (!(Op.bytesLess a b || a == b)))
 | .geq => some (.bool (!(Op.bytesLess a b)))
 | _ => none
def isShift : BinOp→Bool
 | .shl | .shr => true
 | _ => false
def binV (op : BinOp) : AV→AV→Option AV
 | .int k a,.int k' b => if isShift op then intShift op k a b else if k=k' then intBin op k a b else none
 | .str a,.str b => strBin op a b
 | _,_ => none
def unV (op : UnOp) : AV→Option AV
 | .int k n =>
  match op with
  | .neg => intBin .sub k 0 n
  | .xor => intBin .xor k (if k.signed then -1 else k.max) n
  | _ => none
 | .bool b => match op with | .not => some (.bool (!b)) | _ => none
 | _ => none
def isNilV : Nat→AV→Option Bool
 | 0,.nilPtr => some true
 | 0,.ptr .. => some false
 | 1,.nilSlice => some true
 | 1,.slice .. => some false
 | 2,.nilMap => some true
 | 2,.map .. => some false
 | 3,.nilFunc => some true
 | 3,.func .. => some false
 | 4,.nilIface => some true
 | 4,.iface .. => some false
 | _,_ => none
def eqNilV (kind : Nat) (x y : AV) : Option Bool :=
 match isNilV kind x,isNilV kind y with
 | some true,some b => some b
 | some false,some true => some false
 | _,_ => none
def keyEq : Nat→AV→AV→Option Bool
 | 0,.int k a,.int k' b => if k=k' then some (a == b) else none
 | 1,.str a,.str b => some (a == b)
 | 2,.bool a,.bool b => some (a == b)
 | _,_,_ => none
def leavesEq : List Nat→List AV→List AV→Option Bool
 | [],[],[] => some true
 | k :: t,a :: r,b :: s => match keyEq k a b,leavesEq t r s with
  | some x,some y => some (x && y)
  | _,_ => none
 | _,_,_ => none
def natOf : AV→Option Nat
 | .int _ n => if 0≤n then some n.toNat else none
 | _ => none
def boundM (cap : Nat) : Option AV→Option Nat
 | some v => (natOf v).filter (·≤cap)
 | none => some cap
def boundH (len m : Nat) (noMax : Bool) : Option AV→Option Nat
 | some v => (natOf v).filter (·≤m)
 | none => if noMax then some len else none
def boundL (e : Nat) : Option AV→Option Nat
 | some v => (natOf v).filter (·≤e)
 | none => some 0
def bounds (len cap : Nat) (lo hi mx : Option AV) : Option (Nat×Nat×Nat) :=
 (boundM cap mx).bind fun m => (boundH len m mx.isNone hi).bind fun e => (boundL e lo).map fun l => (l,e,m)
def rep (zero : List AV) : Nat→List AV
 | 0 => []
 | n + 1 => zero ++ rep zero n
def bytesOf (s : List UInt8) : List AV:=s.map fun b => .int .u8 b.toNat
def strOf : List AV→Option (List UInt8)
 | [] => some []
 | .int .u8 n :: r => (strOf r).map (UInt8.ofNat n.toNat :: ·)
 | _ => none
def fillV (cells : List AV) : List (Nat×Nat×AV)→Option (List AV)
 | [] => some cells
 | (off,n,v) :: r => if v.isDef=true∧v.cells.length=n∧off + n≤cells.length then fillV (setMany cells off v.cells) r else none
def partV (agg : Bool) (l : List AV) (off n : Nat) : Option AV :=
 if agg then (if off + n≤l.length then some (.agg ((l.drop off).take n)) else none) else l[off]?
def findV (kk : Nat) (k : AV) : List (AV×AV)→Nat→Option (Option (Nat×AV))
 | [],_ => some none
 | (e,v) :: r,i => match keyEq kk k e with
  | some true => some (some (i,v))
  | some false => findV kk k r (i + 1)
  | none => none
def lenOfV : AV→Option Nat
 | .slice _ _ _ l _ _ => some l
 | .nilSlice => some 0
 | _ => none
def AH.elems (h : AH) (sz n : Nat) : AV→Option (List AV)
 | .slice o off z len _ _ => if z=sz∧n≤len then h.load o off (n * sz) else none
 | .nilSlice => if n=0 then some [] else none
 | _ => none
def roomOk (need bytes : Nat) (cap : Nat) (ex : Bool) : Bool :=
 (decide (need≤70368744177664) && decide (need * bytes≤70368744177664) && decide (bytes≤1048576))
  || (ex && decide (cap=0) && decide (need * bytes≤281474976710656) && decide (need≤9223372036854775807) && decide (0 < bytes))
def appendV (sz bytes : Nat) (s : AV) (new : List AV) (n : Nat) (h : AH) : Option (AV×AH) :=
 match s with
 | .nilSlice =>
  if n=0 then some (.nilSlice,h)
  else if roomOk n bytes 0 true then some (.slice h.next 0 sz n n false,h.new (.cells new true)) else none
 | .slice o off z len cap ex =>
  if z=sz then
   if len + n≤cap then
    if n * sz=0 then some (.slice o off sz (len + n) cap ex,h)
    else (h.store o (off + len * sz) new).map fun h' => (.slice o off sz (len + n) cap ex,h')
   else if roomOk (len + n) bytes cap ex then
    match h.load o off (len * sz) with
    | some old =>
     if ex then some (.slice h.next 0 sz (len + n) (len + n) false,h.new (.cells (old ++ new) true))
     else if h.isRw o && new.all AV.flat then some (.slice h.next 0 sz (len + n) (len + n) false,(h.set o .dead).new (.cells (old ++ new) true))
     else none
    | none => none
   else none
  else none
 | _ => none
def mnxV (isMax : Bool) : AV→AV→Option AV
 | .int k x,.int k' y => if k=k' then some (.int k (if isMax then (if y > x then y else x) else (if y < x then y else x))) else none
 | _,_ => none
def mnxAll (isMax : Bool) : AV→List AV→Option AV
 | x,[] => some x
 | x,y :: r => (mnxV isMax x y).bind fun z => mnxAll isMax z r
inductive ARes where
 | val (v : AV) (h : AH)
 | call (f : Nat) (args : List AV)
def AOp.eval (f : Fr) (h : AH) : AOp→Option ARes
 | .mov x => some (.val (x.val f) h)
 | .pick c a b => match c.val f with
  | .bool t => some (.val (if t then a.val f else b.val f) h)
  | _ => none
 | .new zero => some (.val (.ptr h.next 0) (h.new (.cells zero true)))
 | .box x => if (x.val f).isDef then some (.val (.ptr h.next 0) (h.new (.cells (x.val f).cells true))) else none
 | .build zero parts => (fillV zero (parts.map fun p => (p.1,p.2.1,p.2.2.val f))).map fun l => .val (.agg l) h
 | .buildSlice sz len zero parts => (fillV zero (parts.map fun p => (p.1,p.2.1,p.2.2.val f))).map fun l =>
   .val (.slice h.next 0 sz len len true) (h.new (.cells l true))
 | .load agg n a => match a.val f with
  | .ptr o off => if agg then (h.load o off n).map fun l => .val (.agg l) h
   else match h.load o off 1 with
    | some [v] => some (.val v h)
    | _ => none
  | _ => none
 | .store n a v => match a.val f with
  | .ptr o off => if (v.val f).cells.length=n then (h.store o off (v.val f).cells).map fun h' => .val .none h' else none
  | _ => none
 | .nilChk x => match x.val f with
  | .ptr o i => some (.val (.ptr o i) h)
  | .slice o i s l c e => some (.val (.slice o i s l c e) h)
  | .map o => some (.val (.map o) h)
  | .nilMap => some (.val .nilMap h)
  | .func (.func g) a b => some (.val (.func (.func g) a b) h)
  | _ => none
 | .bin op x y => (binV op (x.val f) (y.val f)).map (.val · h)
 | .eqB neg x y => match x.val f,y.val f with
  | .bool a,.bool b => some (.val (.bool (if neg then !(a == b) else (a == b))) h)
  | _,_ => none
 | .eqNil kind neg x y => (eqNilV kind (x.val f) (y.val f)).map fun b => .val (.bool (if neg then !b else b)) h
 | .eqAgg ks neg x y => match x.val f,y.val f with
  | .agg l,.agg m => (leavesEq ks l m).map fun b => .val (.bool (if neg then !b else b)) h
  | _,_ => none
 | .un op x => (unV op (x.val f)).map (.val · h)
 | .toInt k x => match x.val f with
  | .int _ n => some (.val (.int k (k.wrap n)) h)
  | _ => none
 | .asStr x => match x.val f with
  | .str s => some (.val (.str s) h)
  | _ => none
 | .toBytes x => match x.val f with
  | .str s => if s.length≤9223372036854775807 then some (.val (.slice h.next 0 1 s.length s.length false) (h.new (.marked (bytesOf s)))) else none
  | _ => none
 | .toStr x => match x.val f with
  | .nilSlice => some (.val (.str []) h)
  | .slice o off z len _ _ => if z=1 then (h.load o off len).bind fun l => (strOf l).map fun s => .val (.str s) h else none
  | _ => none
 | .mkIface t x => some (.val (.iface t (x.val f)) h)
 | .mkFunc fn first caps => some (.val (.func fn (first.map (·.val f)) (caps.map (·.val f))) h)
 | .mkMap => some (.val (.map h.next) (h.new (.map [])))
 | .mkSlice sz bytes zero l c => match natOf (l.val f),natOf (c.val f) with
  | some l,some c => if l≤c∧c≤9223372036854775807∧bytes * c≤281474976710656 then
    some (.val (.slice h.next 0 sz l c true) (h.new (.cells (rep zero c) true))) else none
  | _,_ => none
 | .slc sz x lo hi mx => match x.val f with
  | .nilSlice => (bounds 0 0 (lo.map (·.val f)) (hi.map (·.val f)) (mx.map (·.val f))).map fun _ => .val .nilSlice h
  | .slice o off z len cap ex => if z=sz then
    (bounds len cap (lo.map (·.val f)) (hi.map (·.val f)) (mx.map (·.val f))).map fun (l,e,m) =>
     .val (.slice o (if (ex || mx.isSome) && decide (m=l) then off else off + l * sz) sz (e - l) (m - l) (ex || mx.isSome)) h
   else none
  | _ => none
 | .slcStr x lo hi => match x.val f with
  | .str s => (bounds s.length s.length (lo.map (·.val f)) (hi.map (·.val f)) none).map fun (l,e,_) => .val (.str ((s.drop l).take (e - l))) h
  | _ => none
 | .slcArr n sz x lo hi mx => match x.val f with
  | .ptr o off => if (h.load o off (n * sz)).isSome then
    (bounds n n (lo.map (·.val f)) (hi.map (·.val f)) (mx.map (·.val f))).map fun (l,e,m) =>
     .val (.slice o (if m=l then off else off + l * sz) sz (e - l) (m - l) true) h
   else none
  | _ => none
 | .fieldAddr off x => match x.val f with
  | .ptr o i => some (.val (.ptr o (i + off)) h)
  | _ => none
 | .field agg off n x => match x.val f with
  | .agg l => (partV agg l off n).map (.val · h)
  | _ => none
 | .idxAddr sz x i => match x.val f,natOf (i.val f) with
  | .slice o off z len _ _,some i => if z=sz∧i < len then some (.val (.ptr o (off + i * sz)) h) else none
  | _,_ => none
 | .idxAddrArr n sz x i => match x.val f,natOf (i.val f) with
  | .ptr o off,some i => if i < n then some (.val (.ptr o (off + i * sz)) h) else none
  | _,_ => none
 | .idxStr x i => match x.val f,natOf (i.val f) with
  | .str s,some i => (s[i]?).map fun b => .val (.int .u8 b.toNat) h
  | _,_ => none
 | .idxArr agg n sz x i => match x.val f,natOf (i.val f) with
  | .agg l,some i => if i < n then (partV agg l (i * sz) sz).map (.val · h) else none
  | _,_ => none
 | .lookup kk zero commaOk m k =>
  let out (r : Option (Nat×AV)) : ARes:=match r with
   | some (_,v) => .val (if commaOk then .tuple [v,.bool true] else v) h
   | none => .val (if commaOk then .tuple [zero,.bool false] else zero) h
  match m.val f with
  | .nilMap => some (out none)
  | .map o => match h.get o with
   | some (.map es) => (findV kk (k.val f) es 0).map out
   | _ => none
  | _ => none
 | .mapUpd kk m k v => match m.val f with
  | .map o => match h.get o with
   | some (.map es) => match findV kk (k.val f) es 0 with
    | some (some (i,_)) => some (.val .none (h.set o (.map (es.set i (k.val f,v.val f)))))
    | some none => some (.val .none (h.set o (.map (es ++ [(k.val f,v.val f)]))))
    | none => none
   | _ => none
  | _ => none
 | .del kk m k => match m.val f with
  | .map o => match h.get o with
   | some (.map es) => match findV kk (k.val f) es 0 with
    | some (some (i,_)) => some (.val .none (h.set o (.map (es.eraseIdx i))))
    | some none => some (.val .none h)
    | none => none
   | _ => none
  | _ => none
 | .lenStr x => match x.val f with
  | .str s => some (.val (.int .i64 s.length) h)
  | _ => none
 | .lenSlice x => (lenOfV (x.val f)).map fun n => .val (.int .i64 n) h
 | .lenMap x => match x.val f with
  | .nilMap => some (.val (.int .i64 0) h)
  | .map o => match h.get o with
   | some (.map es) => some (.val (.int .i64 es.length) h)
   | _ => none
  | _ => none
 | .lenC n => some (.val (.int .i64 n) h)
 | .capSlice x => match x.val f with
  | .nilSlice => some (.val (.int .i64 0) h)
  | .slice _ _ _ _ cap true => some (.val (.int .i64 cap) h)
  | _ => none
 | .mnx isMax xs => match xs.map (·.val f) with
  | x :: r => (mnxAll isMax x r).map (.val · h)
  | [] => none
 | .append sz bytes s x => (lenOfV (x.val f)).bind fun n => (h.elems sz n (x.val f)).bind fun new =>
   (appendV sz bytes (s.val f) new n h).map fun (v,h') => .val v h'
 | .appendStr s x => match x.val f with
  | .str t => (appendV 1 1 (s.val f) (bytesOf t) t.length h).map fun (v,h') => .val v h'
  | _ => none
 | .appendZ sz bytes zero s n => (natOf (n.val f)).bind fun n => if n≤9223372036854775807∧n * bytes≤281474976710656 then
   (appendV sz bytes (s.val f) (rep zero n) n h).map fun (v,h') => .val v h' else none
 | .copy sz d s => (lenOfV (d.val f)).bind fun nd => (lenOfV (s.val f)).bind fun ns =>
   (h.elems sz (min ns nd) (s.val f)).bind fun l =>
    match d.val f with
    | .slice o off z _ _ _ => if z=sz then
      if l.isEmpty then some (.val (.int .i64 (min ns nd : Nat)) h) else (h.store o off l).map fun h' => .val (.int .i64 (min ns nd : Nat)) h'
     else none
    | _ => some (.val (.int .i64 0) h)
 | .copyStr d s => match d.val f,s.val f with
  | .slice o off z nd _ _,.str t => if z=1 then
    if min t.length nd=0 then some (.val (.int .i64 0) h)
    else (h.store o off (bytesOf (t.take (min t.length nd)))).map fun h' => .val (.int .i64 (min t.length nd : Nat)) h'
   else none
  | .nilSlice,.str _ => some (.val (.int .i64 0) h)
  | _,_ => none
 | .clear sz zero x => match x.val f with
  | .nilSlice => some (.val .none h)
  | .slice o off z len _ _ => if z=sz then
    if len=0∨zero=[] then some (.val .none h) else (h.store o off (rep zero len)).map fun h' => .val .none h'
   else none
  | _ => none
 | .mark x => match x.val f with
  | .slice o off z len cap ex => if cap=0 then none else match h.get o with
   | some (.cells l true) => some (.val (.slice o off z len cap ex) (h.set o (.marked l)))
   | _ => none
  | _ => none
 | .extract x i => match x.val f with
  | .tuple l => (l[i]?).map (.val · h)
  | _ => none
 | .assertT t zero commaOk x => match x.val f with
  | .iface u v => if u=t then some (.val (if commaOk then .tuple [v,.bool true] else v) h)
   else if commaOk then some (.val (.tuple [zero,.bool false]) h) else none
  | .nilIface => if commaOk then some (.val (.tuple [zero,.bool false]) h) else none
  | _ => none
 | .call g args => some (.call g (args.map (·.val f)))
 | .callV x args => match x.val f with
  | .func (.func g) first caps => some (.call g (first ++ args.map (·.val f) ++ caps))
  | _ => none
 | .callM table recv args => match recv.val f with
  | .iface t v => match table.find? (fun r => r.1 == t) with
   | some (_,g,.self) => some (.call g (v :: args.map (·.val f)))
   | some (_,g,.deref agg n) => match v with
    | .ptr o off => if agg then (h.load o off n).map fun l => .call g (.agg l :: args.map (·.val f))
     else match h.load o off 1 with
      | some [u] => some (.call g (u :: args.map (·.val f)))
      | _ => none
    | _ => none
   | none => none
  | _ => none
 | .stuck => none
def AOp.cls : AOp→Nat
 | .load .. | .toStr _ | .lookup .. | .lenMap _ | .slcArr .. => 1
 | .new _ | .box _ | .buildSlice .. | .toBytes _ | .mkMap | .mkSlice .. => 2
 | .store .. | .mapUpd .. | .del .. | .append .. | .appendStr .. | .appendZ .. | .copy .. | .copyStr .. | .clear .. | .mark _ | .call .. | .callV .. | .callM .. | .stuck => 3
 | _ => 0
structure AOper where
 dst : Option Nat
 op : AOp
 guard : Option (Nat×Bool)
abbrev Handler:=Nat→List AV→AH→Option (AV×AH)
def wantedV (f : Fr) : Option (Nat×Bool)→Option Bool
 | none => some true
 | some (t,want) => match f.at t with
  | .bool b => some (b == want)
  | .tuple _ => some false
  | _ => none
def AOper.run (call : Handler) (o : AOper) (f : Fr) (h : AH) : Option (Fr×AH) :=
 match wantedV f o.guard with
 | some true => match o.op.eval f h with
  | some (.val v h') => some (Fr.put f o.dst v,h')
  | some (.call g args) => (call g args h).map fun (v,h') => (Fr.put f o.dst v,h')
  | none => none
 | some false => some (Fr.put f o.dst .none,h)
 | none => none
def runOps (call : Handler) : List AOper→Fr→AH→Option (Fr×AH)
 | [],f,h => some (f,h)
 | o :: r,f,h => match o.run call f h with
  | some (f',h') => runOps call r f' h'
  | none => none
inductive DItem where
 | op (o : AOper)
 | look (o : AOper)
def objOf : AV→Option Nat
 | .ptr o _ => some o
 | .slice o _ _ _ _ _ => some o
 | .map o => some o
 | _ => none
def beqPairs : List (AV×AV)→List (AV×AV)→Bool
 | [],[] => true
 | a :: r,b :: s => AV.beq a.1 b.1 && AV.beq a.2 b.2 && beqPairs r s
 | _,_ => false
def beqObj : AObj→AObj→Bool
 | .cells l a,.cells m b => a == b && AV.beqs l m
 | .map l,.map m => beqPairs l m
 | .marked l,.marked m => AV.beqs l m
 | _,_ => false
def AOper.lookAgain (o : AOper) (f : Fr) (h : AH) : Bool :=
 match wantedV f o.guard with
 | some true => match o.dst with
  | some d => match o.op.eval f h with
   | some (.val v h') => if h'.next=h.next then AV.beq v (f.at d) else
     match objOf v,objOf (f.at d) with
     | some p,some q => match h'.get p,h.get q with
      | some x,some y => beqObj x y
      | _,_ => false
     | _,_ => false
   | _ => false
  | none => false
 | some false => match o.dst with
  | some d => AV.beq .none (f.at d)
  | none => true
 | none => false
def runItems (call : Handler) : List DItem→Fr→AH→Option (Fr×AH)
 | [],f,h => some (f,h)
 | .op o :: r,f,h => match o.run call f h with
  | some (f',h') => runItems call r f' h'
  | none => none
 | .look o :: r,f,h => if o.lookAgain f h then runItems call r f h else none
inductive ACode where
 | skip
 | ops (l : List AOper)
 | draw (l : List DItem)
 | seq (a b : ACode)
 | cond (c : AOpd) (a b : ACode)
 | block (id : Nat) (c : ACode)
 | loop (c : ACode)
 | exit (id : Nat)
 | ret
 | stuck
inductive AExit where
 | normal
 | exit (id : Nat)
 | ret
abbrev Out:=Option (AExit×Fr×AH)
def aloop (body : Fr→AH→Out) : Nat→Fr→AH→Out
 | 0,_,_ => none
 | n + 1,f,h => match body f h with
  | some (.normal,f',h') => aloop body n f' h'
  | r => r
def acode (call : Handler) (lf : Nat) : ACode→Fr→AH→Out
 | .skip,f,h => some (.normal,f,h)
 | .ops l,f,h => (runOps call l f h).map fun (f',h') => (.normal,f',h')
 | .draw l,f,h => (runItems call l f h).map fun (f',h') => (.normal,f',h')
 | .seq a b,f,h => match acode call lf a f h with
  | some (.normal,f',h') => acode call lf b f' h'
  | r => r
 | .cond c a b,f,h => match c.val f with
  | .bool true => acode call lf a f h
  | .bool false => acode call lf b f h
  | _ => none
 | .block id c,f,h => match acode call lf c f h with
  | some (.exit i,f',h') => some (if i=id then .normal else .exit i,f',h')
  | r => r
 | .loop c,f,h => aloop (acode call lf c) lf f h
 | .exit id,f,h => some (.exit id,f,h)
 | .ret,f,h => some (.ret,f,h)
 | .stuck,_,_ => none
inductive AResult where
 | tmp (t : Nat)
 | cell (t : Nat) (agg : Bool) (n : Nat)
structure AFunc where
 nargs : Nat
 body : ACode
 results : List AResult
def AResult.val (f : Fr) (h : AH) : AResult→Option AV
 | .tmp t => some (f.at t)
 | .cell t agg n => match f.at t with
  | .ptr o off => if agg then (h.load o off n).map .agg
   else match h.load o off 1 with
    | some [v] => some v
    | _ => none
  | _ => none
def resultsV (f : Fr) (h : AH) : List AResult→Option (List AV)
 | [] => some []
 | r :: s => (r.val f h).bind fun v => (resultsV f h s).map (v :: ·)
def tupleV : List AV→AV
 | [v] => v
 | l => .tuple l
def AFunc.run (call : Handler) (lf : Nat) (fn : AFunc) (args : List AV) (h : AH) : Option (AV×AH) :=
 if args.length=fn.nargs then
  match acode call lf fn.body (Fr.ofArgs 0 args .nil) h with
  | some (.normal,f,h') => (resultsV f h' fn.results).map fun l => (tupleV l,h')
  | some (.ret,f,h') => (resultsV f h' fn.results).map fun l => (tupleV l,h')
  | _ => none
 else none
structure Prog where
 func : Nat→Option AFunc
 env : Nat→Option (List AV→AH→Option (AV×AH))
def arun (T : Prog) : Nat→Handler
 | 0,_,_,_ => none
 | n + 1,f,args,h => match T.env f with
  | some g => g args h
  | none => match T.func f with
   | some fn => fn.run (arun T n) (n + 1) args h
   | none => none
end Go.Vm
/- The relation between the abstract machine's values and memory and the model's. -/
namespace Go.Vm
open Go.RowKit
theorem Tr.get_setF {α : Type} (x : α) : ∀ (fuel : Nat) (t : Tr α) (n m : Nat),n < fuel→(Tr.setF fuel t n x).get m=if n=m then some x else t.get m:=by
 intro fuel
 induction fuel with
 | zero => intro t n m h; omega
 | succ k ih =>
  intro t n m h
  have key : ∀ (l : Tr α) (v : Option α) (r : Tr α),(if n=0 then Tr.node l (some x) r else if n % 2=1 then Tr.node (Tr.setF k l (n / 2) x) v r else Tr.node l v (Tr.setF k r (n / 2 - 1) x)).get m
   =if n=m then some x else (Tr.node l v r).get m:=by
   intro l v r
   by_cases h0 : n=0
   ·subst h0
    by_cases hm : m=0
    ·subst hm; simp [Tr.get]
    ·simp [Tr.get,hm,Ne.symm hm]
   ·rw [if_neg h0]
    by_cases h1 : n % 2=1
    ·rw [if_pos h1]
     by_cases hm0 : m=0
     ·subst hm0; simp [Tr.get,h0]
     ·by_cases hm1 : m % 2=1
      ·simp only [Tr.get,if_neg hm0,if_pos hm1]
       rw [ih l (n / 2) (m / 2) (by omega)]
       by_cases e : n=m
       ·subst e; simp
       ·rw [if_neg e,if_neg (by omega)]
      ·simp only [Tr.get,if_neg hm0,if_neg hm1]
       rw [if_neg (by omega)]
    ·rw [if_neg h1]
     by_cases hm0 : m=0
     ·subst hm0; simp [Tr.get,h0]
     ·by_cases hm1 : m % 2=1
      ·simp only [Tr.get,if_neg hm0,if_pos hm1]
       rw [if_neg (by omega)]
      ·simp only [Tr.get,if_neg hm0,if_neg hm1]
       rw [ih r (n / 2 - 1) (m / 2 - 1) (by omega)]
       by_cases e : n=m
       ·subst e; simp
       ·rw [if_neg e,if_neg (by omega)]
  cases t with
  | nil =>
   have:=key .nil none .nil
   simp only [Tr.setF]
   rw [this]
   by_cases e : n=m
   ·simp [e]
   ·simp only [if_neg e,Tr.get]; split
    ·rfl
    ·split <;> rfl
  | node l v r => exact key l v r
theorem Tr.get_set {α : Type} (t : Tr α) (n m : Nat) (x : α) : (t.set n x).get m=if n=m then some x else t.get m :=
 Tr.get_setF x (n + 1) t n m (by omega)
theorem AH.get_set (h : AH) (o p : Nat) (x : AObj) : (h.set o x).get p=if o=p then some x else h.get p:=Tr.get_set ..
theorem AH.get_new (h : AH) (p : Nat) (x : AObj) : (h.new x).get p=if h.next=p then some x else h.get p:=Tr.get_set ..
theorem AH.next_set (h : AH) (o : Nat) (x : AObj) : (h.set o x).next=h.next:=rfl
theorem AH.next_new (h : AH) (x : AObj) : (h.new x).next=h.next + 1:=rfl
theorem AH.next_store {h h' : AH} {o i : Nat} {vs : List AV} (hs : h.store o i vs=some h') : h'.next=h.next:=by
 unfold AH.store at hs
 split at hs
 ·split at hs
  ·cases hs; rfl
  ·cases hs
 ·split at hs
  ·cases hs; rfl
  ·cases hs
 ·cases hs
theorem Fr.at_set (f : Fr) (i j : Nat) (v : AV) : Fr.at (Tr.set f i v) j=if i=j then v else f.at j:=by
 unfold Fr.at; rw [Tr.get_set]; split <;> rfl
theorem Fr.at_put (f : Fr) (i j : Nat) (v : AV) : Fr.at (f.put (some i) v) j=if i=j then v else f.at j:=Fr.at_set ..
mutual
theorem AV.eq_of_beq : ∀ (a b : AV),AV.beq a b=true→a=b
 | .undef,b,h => by cases b <;> simp_all [AV.beq]
 | .bool _,b,h => by cases b <;> simp_all [AV.beq]
 | .int _ _,b,h => by cases b <;> simp_all [AV.beq]
 | .str _,b,h => by cases b <;> simp_all [AV.beq]
 | .ptr _ _,b,h => by cases b <;> simp_all [AV.beq]
 | .nilPtr,b,h => by cases b <;> simp_all [AV.beq]
 | .slice ..,b,h => by cases b <;> simp_all [AV.beq]
 | .nilSlice,b,h => by cases b <;> simp_all [AV.beq]
 | .map _,b,h => by cases b <;> simp_all [AV.beq]
 | .nilMap,b,h => by cases b <;> simp_all [AV.beq]
 | .func f x y,b,h => by
  cases b <;> simp only [AV.beq,Bool.and_eq_true,decide_eq_true_eq,Bool.false_eq_true] at h
  rw [h.1.1,AV.eq_of_beqs _ _ h.1.2,AV.eq_of_beqs _ _ h.2]
 | .nilFunc,b,h => by cases b <;> simp_all [AV.beq]
 | .iface t v,b,h => by
  cases b <;> simp only [AV.beq,Bool.and_eq_true,beq_iff_eq,Bool.false_eq_true] at h
  rw [h.1,AV.eq_of_beq _ _ h.2]
 | .nilIface,b,h => by cases b <;> simp_all [AV.beq]
 | .agg x,b,h => by
  cases b <;> simp only [AV.beq,Bool.false_eq_true] at h
  rw [AV.eq_of_beqs _ _ h]
 | .tuple x,b,h => by
  cases b <;> simp only [AV.beq,Bool.false_eq_true] at h
  rw [AV.eq_of_beqs _ _ h]
theorem AV.eq_of_beqs : ∀ (a b : List AV),AV.beqs a b=true→a=b
 | [],b,h => by cases b <;> simp_all [AV.beqs]
 | x :: r,b,h => by
  cases b <;> simp only [AV.beqs,Bool.and_eq_true,Bool.false_eq_true] at h
  rw [AV.eq_of_beq _ _ h.1,AV.eq_of_beqs _ _ h.2]
end
theorem eq_of_beqPairs : ∀ (a b : List (AV×AV)),beqPairs a b=true→a=b
 | [],b,h => by cases b <;> simp_all [beqPairs]
 | (x,y) :: r,b,h => by
  cases b with
  | nil => simp [beqPairs] at h
  | cons z s =>
   obtain ⟨z1,z2⟩:=z
   simp only [beqPairs,Bool.and_eq_true] at h
   rw [AV.eq_of_beq _ _ h.1.1,AV.eq_of_beq _ _ h.1.2,eq_of_beqPairs _ _ h.2]
theorem eq_of_beqObj {x y : AObj} (h : beqObj x y=true) : x=y:=by
 cases x <;> cases y <;> simp only [beqObj,Bool.and_eq_true,beq_iff_eq,Bool.false_eq_true] at h
 ·rw [h.1,AV.eq_of_beqs _ _ h.2]
 ·rw [eq_of_beqPairs _ _ h]
 ·rw [AV.eq_of_beqs _ _ h]
abbrev Inj:=Nat→Option (Nat×Nat×Nat)
def Inj.le (μ ν : Inj) : Prop:=∀ o x,μ o=some x→ν o=some x
theorem Inj.le_refl (μ : Inj) : Inj.le μ μ:=fun _ _ h => h
theorem Inj.le_trans {μ ν ρ : Inj} (h : Inj.le μ ν) (k : Inj.le ν ρ) : Inj.le μ ρ:=fun o x hx => k o x (h o x hx)
def Inj.add (μ : Inj) (o : Nat) (x : Nat×Nat×Nat) : Inj:=fun p => if p=o then some x else μ p
theorem Inj.add_self (μ : Inj) (o : Nat) (x : Nat×Nat×Nat) : Inj.add μ o x o=some x:=by simp [Inj.add]
theorem Inj.le_add {μ : Inj} {o : Nat} (x : Nat×Nat×Nat) (h : μ o=none) : Inj.le μ (Inj.add μ o x):=by
 intro p y hy
 unfold Inj.add
 split
 ·subst_vars; rw [h] at hy; cases hy
 ·exact hy
def Inj.Ext (n n' : Nat) (μ μ' : Inj) : Prop:=Inj.le μ μ'∧(∀ o,o < n→μ' o=μ o)∧n≤n'
theorem Inj.Ext.le {n n' : Nat} {μ μ' : Inj} (h : Inj.Ext n n' μ μ') : Inj.le μ μ':=h.1
theorem Inj.Ext.refl {n n' : Nat} {μ : Inj} (h : n≤n') : Inj.Ext n n' μ μ:=⟨Inj.le_refl _,fun _ _ => rfl,h⟩
theorem Inj.Ext.trans {n n' n2 : Nat} {μ μ' ν : Inj} (h : Inj.Ext n n' μ μ') (k : Inj.Ext n' n2 μ' ν) : Inj.Ext n n2 μ ν :=
 ⟨Inj.le_trans h.1 k.1,fun o ho => (k.2.1 o (Nat.lt_of_lt_of_le ho h.2.2)).trans (h.2.1 o ho),Nat.le_trans h.2.2 k.2.2⟩
theorem Inj.Ext.new {n : Nat} {μ : Inj} (x : Nat×Nat×Nat) (h : μ n=none) : Inj.Ext n (n + 1) μ (Inj.add μ n x) :=
 ⟨Inj.le_add x h,fun o ho => by unfold Inj.add; rw [if_neg (by omega)],by omega⟩
def YB : Nat:=1000000000000
def fnLow : Fn→Bool
 | .func g => decide (g < YB)
 | _ => true
inductive VRel (μ : Inj) : AV→Value→Prop where
 | undef (v : Value) : VRel μ .undef v
 | bool (b : Bool) : VRel μ (.bool b) (.bool b)
 | int (k : IntKind) (n : Int) : VRel μ (.int k n) (.int k n)
 | str (s : ByteArray) : VRel μ (.str s.data.toList) (.string s)
 | ptr {o off b base size : Nat} (h : μ o=some (b,base,size)) : VRel μ (.ptr o off) (.pointer (some ⟨b,base + off,none⟩))
 | nilPtr : VRel μ .nilPtr (.pointer none)
 | slice {o off sz len cap : Nat} {ex : Bool} {b base size boff cap' : Nat} (h : μ o=some (b,base,size)) (hl : len≤cap') (hc : if ex then cap'=cap else cap≤cap')
   (hs : boff + cap' * sz≤size) (ha : boff=base + off∨(len=0∧cap'=0)) : VRel μ (.slice o off sz len cap ex) (.slice (some ⟨b,boff,none⟩) len cap')
 | empt {o off sz : Nat} {x : Addr} : VRel μ (.slice o off sz 0 0 true) (.slice (some x) 0 0)
 | nilSlice : VRel μ .nilSlice (.slice none 0 0)
 | map {o b size : Nat} (h : μ o=some (b,0,size)) : VRel μ (.map o) (.map (some b))
 | nilMap : VRel μ .nilMap (.map none)
 | func (fn : Fn) {a c : List AV} {a' c' : Array Value} (hs : fnLow fn=true) (h1 : a.length=a'.size) (h2 : ∀ (i : Nat) (x : AV) (y : Value),a[i]?=some x→a'[i]?=some y→VRel μ x y)
   (h3 : c.length=c'.size) (h4 : ∀ (i : Nat) (x : AV) (y : Value),c[i]?=some x→c'[i]?=some y→VRel μ x y) : VRel μ (.func fn a c) (.func fn a' c')
 | nilFunc : VRel μ .nilFunc .nilFunc
 | yield {o l : Nat} (h : μ o=some (l,0,0)) : VRel μ (.func (.func (YB + o)) [] []) (.func (.yield l) #[] #[])
 | iface (t : Nat) {v : AV} {v' : Value} (h : VRel μ v v') : VRel μ (.iface t v) (.iface t v')
 | nilIface : VRel μ .nilIface .nilIface
 | agg {a : List AV} {a' : Array Value} (h1 : a.length=a'.size) (h2 : ∀ (i : Nat) (x : AV) (y : Value),a[i]?=some x→a'[i]?=some y→VRel μ x y) : VRel μ (.agg a) (.agg a')
 | tuple {a : List AV} {a' : Array Value} (h1 : a.length=a'.size) (h2 : ∀ (i : Nat) (x : AV) (y : Value),a[i]?=some x→a'[i]?=some y→VRel μ x y) : VRel μ (.tuple a) (.tuple a')
theorem VRel.mono {μ ν : Inj} (hle : Inj.le μ ν) {a : AV} {v : Value} (h : VRel μ a v) : VRel ν a v:=by
 induction h with
 | undef v => exact .undef v
 | bool b => exact .bool b
 | int k n => exact .int k n
 | str s => exact .str s
 | ptr h => exact .ptr (hle _ _ h)
 | nilPtr => exact .nilPtr
 | slice h hl hc hs ha => exact .slice (hle _ _ h) hl hc hs ha
 | empt => exact .empt
 | nilSlice => exact .nilSlice
 | map h => exact .map (hle _ _ h)
 | nilMap => exact .nilMap
 | func fn hs h1 h2 h3 h4 ih2 ih4 => exact .func fn hs h1 ih2 h3 ih4
 | nilFunc => exact .nilFunc
 | yield h => exact .yield (hle _ _ h)
 | iface t h ih => exact .iface t ih
 | nilIface => exact .nilIface
 | agg h1 h2 ih => exact .agg h1 ih
 | tuple h1 h2 ih => exact .tuple h1 ih
def VRels (μ : Inj) (a : List AV) (a' : List Value) : Prop:=a.length=a'.length∧∀ (i : Nat) (x : AV) (y : Value),a[i]?=some x→a'[i]?=some y→VRel μ x y
theorem VRels.mono {μ ν : Inj} (hle : Inj.le μ ν) {a : List AV} {v : List Value} (h : VRels μ a v) : VRels ν a v:=⟨h.1,fun i x y hx hy => (h.2 i x y hx hy).mono hle⟩
theorem VRels.nil {μ : Inj} : VRels μ [] []:=⟨rfl,by simp⟩
theorem VRels.cons {μ : Inj} {x : AV} {y : Value} {a : List AV} {a' : List Value} (h : VRel μ x y) (k : VRels μ a a') : VRels μ (x :: a) (y :: a'):=by
 refine ⟨by simp [k.1],fun i u v hu hv => ?_⟩
 cases i with
 | zero => simp at hu hv; subst hu hv; exact h
 | succ i => simp at hu hv; exact k.2 i u v hu hv
theorem VRels.head {μ : Inj} {x : AV} {y : Value} {a : List AV} {a' : List Value} (h : VRels μ (x :: a) (y :: a')) : VRel μ x y:=h.2 0 x y rfl rfl
theorem VRels.tail {μ : Inj} {x : AV} {y : Value} {a : List AV} {a' : List Value} (h : VRels μ (x :: a) (y :: a')) : VRels μ a a' :=
 ⟨by have:=h.1; simp at this; exact this,fun i u v hu hv => h.2 (i + 1) u v (by simpa using hu) (by simpa using hv)⟩
theorem VRels.append {μ : Inj} {a b : List AV} {a' b' : List Value} (h : VRels μ a a') (k : VRels μ b b') : VRels μ (a ++ b) (a' ++ b'):=by
 refine ⟨by simp [h.1,k.1],fun i u v hu hv => ?_⟩
 by_cases hi : i < a.length
 ·rw [List.getElem?_append_left hi] at hu
  rw [List.getElem?_append_left (by rw [← h.1]; exact hi)] at hv
  exact h.2 i u v hu hv
 ·rw [List.getElem?_append_right (by omega)] at hu
  rw [List.getElem?_append_right (by rw [← h.1]; omega),← h.1] at hv
  exact k.2 _ u v hu hv
theorem VRels.get {μ : Inj} {a : List AV} {a' : List Value} (h : VRels μ a a') {i : Nat} {x : AV} (hx : a[i]?=some x) : ∃ y,a'[i]?=some y∧VRel μ x y:=by
 have hi : i < a.length:=by
  rcases Nat.lt_or_ge i a.length with h' | h'
  ·exact h'
  ·rw [List.getElem?_eq_none h'] at hx; cases hx
 have hi' : i < a'.length:=h.1 ▸ hi
 exact ⟨a'[i],List.getElem?_eq_getElem hi',h.2 i x _ hx (List.getElem?_eq_getElem hi')⟩
theorem VRels.take {μ : Inj} {a : List AV} {a' : List Value} (h : VRels μ a a') (n : Nat) : VRels μ (a.take n) (a'.take n):=by
 refine ⟨by simp [h.1],fun i u v hu hv => ?_⟩
 rw [List.getElem?_take] at hu hv
 split at hu
 ·rw [if_pos ‹_›] at hv; exact h.2 i u v hu hv
 ·cases hu
theorem VRels.drop {μ : Inj} {a : List AV} {a' : List Value} (h : VRels μ a a') (n : Nat) : VRels μ (a.drop n) (a'.drop n):=by
 refine ⟨by simp [h.1],fun i u v hu hv => ?_⟩
 rw [List.getElem?_drop] at hu hv
 exact h.2 _ u v hu hv
theorem VRels.set {μ : Inj} {a : List AV} {a' : List Value} (h : VRels μ a a') (n : Nat) {x : AV} {y : Value} (hx : VRel μ x y) : VRels μ (a.set n x) (a'.set n y):=by
 refine ⟨by simp [h.1],fun i u v hu hv => ?_⟩
 rw [List.getElem?_set] at hu hv
 split at hu
 ·rw [if_pos ‹_›] at hv
  split at hu
  ·split at hv
   ·cases hu; cases hv; exact hx
   ·cases hv
  ·cases hu
 ·rw [if_neg ‹_›] at hv; exact h.2 i u v hu hv
theorem VRel.agg_iff {μ : Inj} {a : List AV} {v : Value} : VRel μ (.agg a) v↔∃ a',v = .agg a'∧VRels μ a a'.toList:=by
 constructor
 ·intro h; cases h with | agg h1 h2 => exact ⟨_,rfl,by simpa using h1,fun i x y hx hy => h2 i x y hx (by simpa using hy)⟩
 ·rintro ⟨a',rfl,h⟩; exact .agg (by simpa using h.1) fun i x y hx hy => h.2 i x y hx (by simpa using hy)
theorem VRel.tuple_iff {μ : Inj} {a : List AV} {v : Value} : VRel μ (.tuple a) v↔∃ a',v = .tuple a'∧VRels μ a a'.toList:=by
 constructor
 ·intro h; cases h with | tuple h1 h2 => exact ⟨_,rfl,by simpa using h1,fun i x y hx hy => h2 i x y hx (by simpa using hy)⟩
 ·rintro ⟨a',rfl,h⟩; exact .tuple (by simpa using h.1) fun i x y hx hy => h.2 i x y hx (by simpa using hy)
theorem VRel.none_undef {μ : Inj} : VRel μ .none Go.undef:=VRel.tuple_iff.2 ⟨#[],rfl,VRels.nil⟩
theorem VRel.cells {μ : Inj} {a : AV} {v : Value} (h : VRel μ a v) (hu : a ≠ .undef) : VRels μ a.cells v.cells.toList:=by
 cases h with
 | undef => exact absurd rfl hu
 | agg h1 h2 => exact ⟨by simpa [AV.cells,Value.cells] using h1,fun i x y hx hy => h2 i x y hx (by simpa [Value.cells] using hy)⟩
 | bool => exact VRels.cons (.bool _) .nil
 | int => exact VRels.cons (.int _ _) .nil
 | str => exact VRels.cons (.str _) .nil
 | ptr h => exact VRels.cons (.ptr h) .nil
 | nilPtr => exact VRels.cons .nilPtr .nil
 | slice h hl hc hs ha => exact VRels.cons (.slice h hl hc hs ha) .nil
 | empt => exact VRels.cons .empt .nil
 | nilSlice => exact VRels.cons .nilSlice .nil
 | map h => exact VRels.cons (.map h) .nil
 | nilMap => exact VRels.cons .nilMap .nil
 | func fn hs h1 h2 h3 h4 => exact VRels.cons (.func fn hs h1 h2 h3 h4) .nil
 | nilFunc => exact VRels.cons .nilFunc .nil
 | yield h => exact VRels.cons (.yield h) .nil
 | iface t h => exact VRels.cons (.iface t h) .nil
 | nilIface => exact VRels.cons .nilIface .nil
 | tuple h1 h2 => exact VRels.cons (.tuple h1 h2) .nil
structure BelowS (S : Nat→Prop) (w w' : World) : Prop where
 os : w'.os=w.os
 tape : w'.tape=w.tape
 output : w'.output=w.output
 size : w.heap.size≤w'.heap.size
 block : ∀ k,S k→w'.heap[k]?=w.heap[k]?
theorem BelowS.refl (S : Nat→Prop) (w : World) : BelowS S w w:=⟨rfl,rfl,rfl,Nat.le_refl _,fun _ _ => rfl⟩
theorem BelowS.trans {S : Nat→Prop} {a b c : World} (h : BelowS S a b) (k : BelowS S b c) : BelowS S a c :=
 ⟨k.os.trans h.os,k.tape.trans h.tape,k.output.trans h.output,Nat.le_trans h.size k.size,fun i hi => (k.block i hi).trans (h.block i hi)⟩
theorem BelowS.mono {S S' : Nat→Prop} {w w' : World} (h : BelowS S w w') (hS : ∀ b,S' b→S b) : BelowS S' w w':=⟨h.os,h.tape,h.output,h.size,fun k hk => h.block k (hS k hk)⟩
abbrev Pin:=Option (Nat×Obj×Inj)
structure Keep (π : Pin) where
 keep : Nat→Prop
 came : Nat→Prop
 sub : ∀ b,came b→keep b
def till (n : Nat) : Keep none:=⟨(· < n),(· < n),fun _ h => h⟩
theorem BelowS.below {n : Nat} {w w' : World} (h : BelowS (till n).keep w w') : Below n w w':=⟨h.os,h.tape,h.output,h.size,h.block⟩
theorem BelowS.of {n : Nat} {w w' : World} (h : Below n w w') : BelowS (till n).keep w w':=⟨h.os,h.tape,h.output,h.size,h.block⟩
def Fits (S : Nat→Prop) (w : World) : Prop:=∀ b,S b→b < w.heap.size
theorem Fits.new {S : Nat→Prop} {w : World} (h : Fits S w) : ¬ S w.heap.size:=fun k => Nat.lt_irrefl _ (h _ k)
theorem Fits.grow {S : Nat→Prop} {w w' : World} (h : Fits S w) (hs : w.heap.size≤w'.heap.size) : Fits S w':=fun b hb => Nat.lt_of_lt_of_le (h b hb) hs
def ORel {π : Pin} (μ : Inj) (N : Keep π) (w : World) (x : AObj) (b base size : Nat) : Prop :=
 match x with
 | .cells l rw => ∃ C e fz,w.heap[b]?=some (.cells C e fz)∧C.size=size∧base + l.length≤size ∧
   (∀ (i : Nat) (u : AV) (v : Value),l[i]?=some u→C[base + i]?=some v→VRel μ u v) ∧
   (if rw then ¬ N.keep b∧fz.1=fz.2 else N.came b)
 | .marked l => ∃ C e fz,w.heap[b]?=some (.cells C e fz)∧C.size=size∧base + l.length≤size ∧
   (∀ (i : Nat) (u : AV) (v : Value),l[i]?=some u→C[base + i]?=some v→VRel μ u v) ∧
   (¬ N.keep b∧(fz.1=fz.2∨size≤fz.1))
 | .map es => base=0∧¬ N.keep b∧∃ ces clock,w.heap[b]?=some (.map ces clock)∧es.length=ces.size ∧
   ∀ (i : Nat) (p : AV×AV) (q : MapEntry),es[i]?=some p→ces[i]?=some q→VRel μ p.1 q.key∧VRel μ p.2 q.val
 | .dead => True
def AObj.solid : AObj→Bool
 | .cells _ rw => rw
 | .map _ => true
 | .dead => false
 | .marked _ => true
def AH.solid (h : AH) (o : Nat) : Bool :=
 match h.get o with
 | some x => x.solid
 | none => false
theorem solid_iff {h : AH} {o : Nat} : h.solid o=true↔∃ x,h.get o=some x∧x.solid=true:=by
 unfold AH.solid
 cases h.get o <;> simp
theorem solid_ne {x : AObj} (hx : x.solid=true) : x ≠ .dead:=by intro e; subst e; cases hx
structure R {π : Pin} (N : Keep π) (w₀ : World) (μ : Inj) (h : AH) (w : World) : Prop where
 below : BelowS N.keep w₀ w
 fresh : Fits N.keep w
 dom : ∀ o x,μ o=some x→o < h.next
 obj : ∀ o b base size x,μ o=some (b,base,size)→h.get o=some x→ORel μ N w x b base size
 inj : ∀ o p x y,μ o=some x→μ p=some y→o≠p→h.solid o=true→h.solid p=true→x.1≠y.1
 pin : ∀ o x ν,π=some (o,x,ν)→Inj.le ν μ∧∃ l,μ o=some (l,0,0)∧N.keep l∧w₀.heap[l]?=some x
theorem R.pinned {π : Pin} {N : Keep π} {w₀ : World} {μ : Inj} {h : AH} {w : World} (r : R N w₀ μ h w) {o : Nat} {x : Obj} {ν : Inj} (hp : π=some (o,x,ν)) : Inj.le ν μ∧∃ l,μ o=some (l,0,0)∧N.keep l∧w.heap[l]?=some x:=by
 obtain ⟨h0,l,h1,h2,h3⟩:=r.pin o x ν hp
 exact ⟨h0,l,h1,h2,(r.below.block l h2).trans h3⟩
theorem pin_mono {π : Pin} {N : Keep π} {w₀ : World} {μ ν : Inj} (hle : Inj.le μ ν) (h : ∀ o x κ,π=some (o,x,κ)→Inj.le κ μ∧∃ l,μ o=some (l,0,0)∧N.keep l∧w₀.heap[l]?=some x) :
  ∀ o x κ,π=some (o,x,κ)→Inj.le κ ν∧∃ l,ν o=some (l,0,0)∧N.keep l∧w₀.heap[l]?=some x:=fun o x κ hp => let ⟨h0,l,h1,h2⟩:=h o x κ hp; ⟨Inj.le_trans h0 hle,l,hle _ _ h1,h2⟩
theorem isRw_iff {h : AH} {o : Nat} : h.isRw o=true↔∃ l,h.get o=some (.cells l true):=by
 unfold AH.isRw
 split
 ·rename_i l hl; simp [hl]
 ·rename_i hne; simp; intro l hl; exact hne l hl
theorem ORel.mono {μ ν : Inj} (hle : Inj.le μ ν) {π : Pin} {N : Keep π} {w : World} {x : AObj} {b base size : Nat} (h : ORel μ N w x b base size) : ORel ν N w x b base size:=by
 cases x with
 | cells l rw =>
  obtain ⟨C,e,fz,h1,h2,h3,h4,h5⟩:=h
  exact ⟨C,e,fz,h1,h2,h3,fun i u v hu hv => (h4 i u v hu hv).mono hle,h5⟩
 | map es =>
  obtain ⟨h0,h0',ces,clock,h1,h2,h3⟩:=h
  exact ⟨h0,h0',ces,clock,h1,h2,fun i p q hp hq => ⟨(h3 i p q hp hq).1.mono hle,(h3 i p q hp hq).2.mono hle⟩⟩
 | dead => trivial
 | marked l =>
  obtain ⟨C,e,fz,h1,h2,h3,h4,h5⟩:=h
  exact ⟨C,e,fz,h1,h2,h3,fun i u v hu hv => (h4 i u v hu hv).mono hle,h5⟩
theorem ORel.of_block {μ : Inj} {π : Pin} {N : Keep π} {w w' : World} {x : AObj} {b base size : Nat} (h : ORel μ N w x b base size) (hb : w'.heap[b]?=w.heap[b]?) : ORel μ N w' x b base size:=by
 cases x with
 | cells l rw =>
  obtain ⟨C,e,fz,h1,h2⟩:=h
  exact ⟨C,e,fz,hb.trans h1,h2⟩
 | map es =>
  obtain ⟨h0,h0',ces,clock,h1,h2⟩:=h
  exact ⟨h0,h0',ces,clock,hb.trans h1,h2⟩
 | dead => trivial
 | marked l =>
  obtain ⟨C,e,fz,h1,h2⟩:=h
  exact ⟨C,e,fz,hb.trans h1,h2⟩
def AObj.row : AObj→Option (List AV)
 | .cells l _ => some l
 | .marked l => some l
 | _ => none
theorem ORel.row {μ : Inj} {π : Pin} {N : Keep π} {w : World} {x : AObj} {b base size : Nat} {l : List AV} (h : ORel μ N w x b base size) (hx : x.row=some l) : ∃ C e fz,w.heap[b]?=some (.cells C e fz)∧C.size=size∧base + l.length≤size ∧
   (∀ (i : Nat) (u : AV) (v : Value),l[i]?=some u→C[base + i]?=some v→VRel μ u v):=by
 cases x with
 | cells l' rw => cases hx; obtain ⟨C,e,fz,h1,h2,h3,h4,_⟩:=h; exact ⟨C,e,fz,h1,h2,h3,h4⟩
 | marked l' => cases hx; obtain ⟨C,e,fz,h1,h2,h3,h4,_⟩:=h; exact ⟨C,e,fz,h1,h2,h3,h4⟩
 | map es => cases hx
 | dead => cases hx
variable {π : Pin} {N : Keep π} {w₀ : World} {μ : Inj} {h : AH} {w : World}
theorem R.drawn (r : R N w₀ μ h w) (n : Nat) : R N w₀ μ h { w with drawn:=n } where
 below:=⟨r.below.os,r.below.tape,r.below.output,r.below.size,r.below.block⟩
 fresh:=r.fresh
 dom:=r.dom
 obj:=fun o b base size x ho hx => (r.obj o b base size x ho hx).of_block rfl
 inj:=r.inj
 pin:=r.pin
theorem R.alloc (r : R N w₀ μ h w) {x : AObj} {X : Obj} {size : Nat}
  (hx : ∀ w' : World,w'.heap[w.heap.size]?=some X→ORel (Inj.add μ h.next (w.heap.size,0,size)) N w' x w.heap.size 0 size) :
  Inj.le μ (Inj.add μ h.next (w.heap.size,0,size))∧R N w₀ (Inj.add μ h.next (w.heap.size,0,size)) (h.new x) { w with heap:=w.heap.push X }:=by
 have hnone : μ h.next=none:=by
  cases hm : μ h.next with
  | none => rfl
  | some y => have:=r.dom _ _ hm; omega
 have hle:=Inj.le_add (μ:=μ) (o:=h.next) (w.heap.size,0,size) hnone
 have old : ∀ b,b < w.heap.size→(w.heap.push X)[b]?=w.heap[b]?:=fun b hb => by
  rw [Array.getElem?_push,if_neg (by omega)]
 have oldb : ∀ o b base sz y,μ o=some (b,base,sz)→h.get o=some y→y ≠ .dead→b < w.heap.size:=by
  intro o b base sz y ho hy hd
  have:=r.obj o b base sz y ho hy
  rcases Nat.lt_or_ge b w.heap.size with hb | hb
  ·exact hb
  ·exfalso
   have hn : w.heap[b]?=none:=Array.getElem?_eq_none hb
   cases y with
   | cells l rw => obtain ⟨C,e,fz,h1,_⟩:=this; rw [hn] at h1; cases h1
   | map es => obtain ⟨_,_,ces,clock,h1,_⟩:=this; rw [hn] at h1; cases h1
   | dead => exact hd rfl
   | marked l => obtain ⟨C,e,fz,h1,_⟩:=this; rw [hn] at h1; cases h1
 refine ⟨hle,?_⟩
 constructor
 ·exact r.below.trans ⟨rfl,rfl,rfl,by simp,fun k hk => old k (r.fresh k hk)⟩
 ·exact r.fresh.grow (by simp)
 ·intro o y hy
  unfold Inj.add at hy
  split at hy
  ·simp [AH.next_new]; omega
  ·have:=r.dom _ _ hy; simp [AH.next_new]; omega
 ·intro o b base sz y ho hy
  unfold Inj.add at ho
  rw [AH.get_new] at hy
  split at ho
  ·rename_i e
   subst e
   rw [if_pos rfl] at hy
   cases ho; cases hy
   exact hx _ (by simp)
  ·rename_i e
   rw [if_neg (Ne.symm e)] at hy
   by_cases hd : y = .dead
   ·subst hd; trivial
   ·exact ((r.obj o b base sz y ho hy).mono hle).of_block (old b (oldb o b base sz y ho hy hd))
 ·intro o p x' y' ho hp hne ro rp
  unfold Inj.add at ho hp
  have old' : ∀ q,q≠h.next→(h.new x).solid q=true→∃ y,h.get q=some y∧y.solid=true:=by
   intro q hqn hr
   obtain ⟨y,hy,hs⟩:=solid_iff.1 hr
   rw [AH.get_new,if_neg (Ne.symm hqn)] at hy
   exact ⟨y,hy,hs⟩
  have lt : ∀ q z,μ q=some z→q≠h.next→(h.new x).solid q=true→z.1 < w.heap.size:=by
   intro q z hq hqn hr
   obtain ⟨y,hy,hs⟩:=old' q hqn hr
   obtain ⟨z1,z2,z3⟩:=z
   exact oldb q z1 z2 z3 _ hq hy (solid_ne hs)
  split at ho
  ·rename_i e
   subst e
   cases ho
   rw [if_neg (Ne.symm hne)] at hp
   have:=lt p y' hp (Ne.symm hne) rp
   simp; omega
  ·rename_i e
   split at hp
   ·rename_i e'
    subst e'
    cases hp
    have:=lt o x' ho e ro
    simp; omega
   ·rename_i e'
    exact r.inj o p x' y' ho hp hne (solid_iff.2 (old' o e ro)) (solid_iff.2 (old' p e' rp))
 ·exact pin_mono hle r.pin
theorem R.skip (r : R N w₀ μ h w) (x : AObj) : R N w₀ μ (h.new x) w:=by
 have hn : ∀ o y,μ o=some y→o≠h.next:=fun o y ho e => by have:=r.dom o y ho; omega
 have hs : ∀ o y,μ o=some y→(h.new x).solid o=h.solid o:=by
  intro o y ho
  unfold AH.solid
  rw [AH.get_new,if_neg (Ne.symm (hn o y ho))]
 refine ⟨r.below,r.fresh,?_,?_,?_,r.pin⟩
 ·intro o y ho; have:=r.dom o y ho; simp [AH.next_new]; omega
 ·intro o b base size y ho hy
  rw [AH.get_new,if_neg (Ne.symm (hn o _ ho))] at hy
  exact r.obj o b base size y ho hy
 ·intro o p y z ho hp hne so sp
  rw [hs o y ho] at so
  rw [hs p z hp] at sp
  exact r.inj o p y z ho hp hne so sp
theorem R.late (r : R N w₀ μ h w) {p : Nat} {x : AObj} {X : Obj} {size : Nat} (hp : p < h.next) (hn : μ p=none) (hg : h.get p=some x)
  (hx : ∀ w' : World,w'.heap[w.heap.size]?=some X→ORel (Inj.add μ p (w.heap.size,0,size)) N w' x w.heap.size 0 size) :
  R N w₀ (Inj.add μ p (w.heap.size,0,size)) h { w with heap:=w.heap.push X }:=by
 have hle:=Inj.le_add (μ:=μ) (o:=p) (w.heap.size,0,size) hn
 have old : ∀ b,b < w.heap.size→(w.heap.push X)[b]?=w.heap[b]?:=fun b hb => by
  rw [Array.getElem?_push,if_neg (by omega)]
 have oldb : ∀ o b base sz y,μ o=some (b,base,sz)→h.get o=some y→y ≠ .dead→b < w.heap.size:=by
  intro o b base sz y ho hy hd
  have:=r.obj o b base sz y ho hy
  rcases Nat.lt_or_ge b w.heap.size with hb | hb
  ·exact hb
  ·exfalso
   have hn : w.heap[b]?=none:=Array.getElem?_eq_none hb
   cases y with
   | cells l rw => obtain ⟨C,e,fz,h1,_⟩:=this; rw [hn] at h1; cases h1
   | map es => obtain ⟨_,_,ces,clock,h1,_⟩:=this; rw [hn] at h1; cases h1
   | dead => exact hd rfl
   | marked l => obtain ⟨C,e,fz,h1,_⟩:=this; rw [hn] at h1; cases h1
 have lt : ∀ q z,μ q=some z→h.solid q=true→z.1 < w.heap.size:=by
  intro q z hq hr
  obtain ⟨y,hy,hs⟩:=solid_iff.1 hr
  obtain ⟨z1,z2,z3⟩:=z
  exact oldb q z1 z2 z3 _ hq hy (solid_ne hs)
 constructor
 ·exact r.below.trans ⟨rfl,rfl,rfl,by simp,fun k hk => old k (r.fresh k hk)⟩
 ·exact r.fresh.grow (by simp)
 ·intro o y hy
  unfold Inj.add at hy
  split at hy
  ·rename_i e; subst e; exact hp
  ·exact r.dom _ _ hy
 ·intro o b base sz y ho hy
  unfold Inj.add at ho
  split at ho
  ·rename_i e
   subst e
   rw [hg] at hy
   cases ho; cases hy
   exact hx _ (by simp)
  ·by_cases hd : y = .dead
   ·subst hd; trivial
   ·exact ((r.obj o b base sz y ho hy).mono hle).of_block (old b (oldb o b base sz y ho hy hd))
 ·intro o q x' y' ho hq hne ro rq
  unfold Inj.add at ho hq
  split at ho
  ·rename_i e
   cases ho
   rw [if_neg (fun e' => hne (e.trans e'.symm))] at hq
   have:=lt q y' hq rq
   simp; omega
  ·split at hq
   ·cases hq
    have:=lt o x' ho ro
    simp; omega
   ·exact r.inj o q x' y' ho hq hne ro rq
 ·exact pin_mono hle r.pin
end Go.Vm
/- The relation under stores,moves,new blocks,map writes; what loads come to. -/
namespace Go.Vm
open Go.RowKit
variable {P : Program} {π : Pin} {N : Keep π} {w₀ : World} {μ : Inj} {h : AH} {w : World}
theorem addr_add (b off i : Nat) : (⟨b,off,none⟩ : Addr).add i=⟨b,off + i,none⟩:=by
 unfold Addr.add; split <;> simp_all
theorem cell_row {b i : Nat} {C : Array Value} {e : TypeId} {fz : Nat×Nat} (hb : w.heap[b]?=some (.cells C e fz)) : w.cell? ⟨b,i,none⟩=C[i]?:=by
 simp [World.cell?,hb]
theorem run_loadCells_row {b off n : Nat} {C : Array Value} {e : TypeId} {fz : Nat×Nat} (hb : w.heap[b]?=some (.cells C e fz)) (hn : off + n≤C.size) :
  (loadCells ⟨b,off,none⟩ n).run P w = .ok ((C.toList.drop off).take n).toArray w:=by
 have hl : ((C.toList.drop off).take n).length=n:=by simp; omega
 have:=run_loadCells_list (P:=P) w ⟨b,off,none⟩ ((C.toList.drop off).take n) (fun j v hj => by
  rw [addr_add,cell_row hb]
  rw [List.getElem?_take] at hj
  split at hj
  ·rw [List.getElem?_drop] at hj; simpa using hj
  ·cases hj)
 rwa [hl] at this
theorem run_storeCells_row (b off : Nat) (e : TypeId) (fz : Nat×Nat) : ∀ (vs : List Value) (i : Nat) (C : Array Value) (w : World),w.heap[b]?=some (.cells C e fz) →
  (∀ k,off + i≤k→k < off + i + vs.length→¬ (fz.1≤k∧k < fz.2))→off + i + vs.length≤C.size→(∀ v∈vs,v.oneCell'=true) →
  (storeCells ⟨b,off,none⟩ vs i).run P w = .ok () (w.setRow b (C.toList.take (off + i) ++ vs ++ C.toList.drop (off + i + vs.length)).toArray)
 | [],i,C,w,hg,_,_,_ => by
  simp only [storeCells,List.append_nil,List.length_nil,Nat.add_zero,List.take_append_drop,Array.toArray_toList]
  rw [setRow_self w b C e fz hg]
  rfl
 | v :: rest,i,C,w,hg,hfz,hl,h1 => by
  have hi : off + i < C.size:=by simp at hl; omega
  have hcell : w.cell? ⟨b,off + i,none⟩=some C[off + i]:=by simp [World.cell?,hg,hi]
  have hfro : w.frozen? ⟨b,off + i,none⟩=false:=by
   have:=hfz (off + i) (by omega) (by simp)
   obtain ⟨lo,hi'⟩:=fz
   simp only [World.frozen?,hg,Bool.and_eq_false_iff,decide_eq_false_iff_not]
   simp only at this
   omega
  have hst : (store ((⟨b,off,none⟩ : Addr).add i) v).run P w = .ok () (w.setRow b (C.setIfInBounds (off + i) v)):=by
   rw [addr_add,run_store P w _ v _ (h1 v (by simp)),hcell]
   simp [hfro,setCell_eq_setRow w b (off + i) C e fz v hg]
  have ih:=run_storeCells_row b off e fz rest (i + 1) (C.setIfInBounds (off + i) v) (w.setRow b (C.setIfInBounds (off + i) v)) (setRow_heap w b C _ e _ hg)
   (fun k hk1 hk2 => hfz k (by omega) (by simp; omega)) (by simp at hl ⊢; omega) (fun x hx => h1 x (by simp [hx]))
  simp only [storeCells,Sem.run_bind,hst,Result.andThen_ok,ih,setRow_setRow]
  congr 3
  have e:=list_seg_step C.toList (off + i) v rest (by simp at hl ⊢; omega)
  simpa [Array.toList_setIfInBounds,Nat.add_assoc] using e
theorem load_inv {o i n : Nat} {vs : List AV} (hl : h.load o i n=some vs) : ∃ l x,(h.get o=some x∧x.row=some l)∧i + n≤l.length∧vs=(l.drop i).take n:=by
 unfold AH.load at hl
 split at hl
 ·rename_i l rw hg
  split at hl
  ·cases hl; exact ⟨l,_,⟨hg,rfl⟩,‹_›,rfl⟩
  ·cases hl
 ·rename_i l hg
  split at hl
  ·cases hl; exact ⟨l,_,⟨hg,rfl⟩,‹_›,rfl⟩
  ·cases hl
 ·cases hl
theorem setMany_eq : ∀ (vs l : List AV) (i : Nat),i + vs.length≤l.length→setMany l i vs=l.take i ++ vs ++ l.drop (i + vs.length)
 | [],l,i,_ => by simp [setMany]
 | v :: r,l,i,h => by
  simp only [setMany]
  rw [setMany_eq r (l.set i v) (i + 1) (by simp at h ⊢; omega)]
  have : i < l.length:=by simp at h; omega
  apply List.ext_getElem?
  intro k
  simp only [List.getElem?_append,List.length_append,List.length_take,List.length_set,List.getElem?_take,List.getElem?_set,List.length_cons,List.getElem?_drop,List.getElem?_cons]
  simp at h
  by_cases h1 : k < i
  ·simp [h1,show min (i + 1) l.length=i + 1 by omega,show min i l.length=i by omega,show k < i + 1 by omega,show i≠k by omega,show k < i + (r.length + 1) by omega,show k < i + 1 + r.length by omega]
  ·by_cases h2 : k=i
   ·subst h2
    simp [show min (k + 1) l.length=k + 1 by omega,show min k l.length=k by omega,this]
    omega
   ·by_cases h3 : k < i + 1 + r.length
    ·simp [h1,show min (i + 1) l.length=i + 1 by omega,show min i l.length=i by omega,show ¬ k < i + 1 by omega,show k - i≠0 by omega,show k < i + (r.length + 1) by omega,h3,show k - i - 1=k - (i + 1) by omega]
    ·simp [show min (i + 1) l.length=i + 1 by omega,show min i l.length=i by omega,show ¬ k < i + (r.length + 1) by omega,h3]
     rw [if_neg (by omega)]
     congr 1
     omega
theorem store_inv {o i : Nat} {vs : List AV} {h' : AH} (hs : h.store o i vs=some h') :
  ∃ l k,(k=(AObj.cells · true)∨k=AObj.marked)∧h.get o=some (k l)∧i + vs.length≤l.length∧(∀ v∈vs,v.flat=true)∧h'=h.set o (k (l.take i ++ vs ++ l.drop (i + vs.length))):=by
 unfold AH.store at hs
 split at hs
 ·rename_i l hg
  split at hs
  ·rename_i hc
   cases hs
   exact ⟨l,_,.inl rfl,hg,hc.1,by simpa using hc.2,by rw [setMany_eq vs l i hc.1]⟩
  ·cases hs
 ·rename_i l hg
  split at hs
  ·rename_i hc
   cases hs
   exact ⟨l,_,.inr rfl,hg,hc.1,by simpa using hc.2,by rw [setMany_eq vs l i hc.1]⟩
  ·cases hs
 ·cases hs
theorem VRel.oneCell {a : AV} {v : Value} (hr : VRel μ a v) (hf : a.flat=true) : v.oneCell'=true:=by
 cases hr <;> simp [AV.flat] at hf <;> rfl
theorem R.load (r : R N w₀ μ h w) {o i n b base size : Nat} {vs : List AV} (hl : h.load o i n=some vs) (ho : μ o=some (b,base,size)) :
  ∃ us : List Value,(loadCells ⟨b,base + i,none⟩ n).run P w = .ok us.toArray w∧VRels μ vs us∧us.length=n∧∀ j u,us[j]?=some u→w.cell? ⟨b,base + i + j,none⟩=some u:=by
 obtain ⟨l,_,⟨hg,hx⟩,hn,rfl⟩:=load_inv hl
 obtain ⟨C,e,fz,hb,hC,hlen,hrel⟩:=(r.obj o b base size _ ho hg).row hx
 refine ⟨(C.toList.drop (base + i)).take n,run_loadCells_row hb (by omega),⟨by simp; omega,fun j x y hx hy => ?_⟩,by simp; omega,fun j u hu => ?_⟩
 ·rw [List.getElem?_take] at hx hy
  split at hx
  ·rw [if_pos ‹_›] at hy
   rw [List.getElem?_drop] at hx hy
   exact hrel (i + j) x y hx (by rw [← Nat.add_assoc]; simpa using hy)
  ·cases hx
 ·rw [cell_row hb]
  rw [List.getElem?_take] at hu
  split at hu
  ·rw [List.getElem?_drop] at hu; simpa using hu
  ·cases hu
theorem R.apart (r : R N w₀ μ h w) {o b base size : Nat} {z : AObj} (ho : μ o=some (b,base,size)) (hg : h.get o=some z) (hz : z.solid=true) {p b' base' size' : Nat} {x : AObj}
  (hp : μ p=some (b',base',size')) (hx : h.get p=some x) (hd : x ≠ .dead) (hne : p≠o) : b'≠b:=by
 by_cases hs : x.solid=true
 ·exact fun e => r.inj p o _ _ hp ho hne (solid_iff.2 ⟨x,hx,hs⟩) (solid_iff.2 ⟨z,hg,hz⟩) e
 ·have hN : ¬ N.keep b:=by
   have:=r.obj o b base size z ho hg
   cases z with
   | cells l rw' =>
    simp only [AObj.solid] at hz
    subst hz
    obtain ⟨_,_,_,_,_,_,_,h5⟩:=this
    simp at h5; exact h5.1
   | map es => exact this.2.1
   | dead => cases hz
   | marked l => obtain ⟨_,_,_,_,_,_,_,h5⟩:=this; exact h5.1
  have hlt : N.keep b':=by
   have:=r.obj p b' base' size' x hp hx
   cases x with
   | cells l rw' =>
    have : rw'=false:=by simpa [AObj.solid] using hs
    subst this
    obtain ⟨_,_,_,_,_,_,_,h5⟩:=this
    simp at h5; exact N.sub _ h5
   | map es => simp [AObj.solid] at hs
   | dead => exact absurd rfl hd
   | marked l => simp [AObj.solid] at hs
  exact fun e => hN (e ▸ hlt)
theorem below_setRow {B : Nat→Prop} {a u : World} (hb : BelowS B a u) {g : Nat} (hg : ¬ B g) (C : Array Value) : BelowS B a (u.setRow g C) :=
 hb.trans ⟨rfl,rfl,rfl,by simp,fun k hk => setRow_other _ _ _ _ (fun e => hg (e ▸ hk))⟩
theorem solid_of_set {o p : Nat} {x : AObj} (ho : h.solid o=true) (hp : (h.set o x).solid p=true) : h.solid p=true:=by
 obtain ⟨y,hy,hs⟩:=solid_iff.1 hp
 rw [AH.get_set] at hy
 split at hy
 ·rename_i e; subst e; exact ho
 ·exact solid_iff.2 ⟨y,hy,hs⟩
theorem R.setRowK (r : R N w₀ μ h w) {o b base size : Nat} {l l' : List AV} (ho : μ o=some (b,base,size)) {k : List AV→AObj} (hk : k=(AObj.cells · true)∨k=AObj.marked) (hg : h.get o=some (k l)) {C C' : Array Value} {e : TypeId} {fz : Nat×Nat}
  (hb : w.heap[b]?=some (.cells C e fz)) (hC : C'.size=size) (hl : base + l'.length≤size) (hrel : ∀ (i : Nat) (u : AV) (v : Value),l'[i]?=some u→C'[base + i]?=some v→VRel μ u v) :
  R N w₀ μ (h.set o (k l')) (w.setRow b C'):=by
 have hks : (k l).solid=true:=by rcases hk with rfl | rfl <;> rfl
 have h5 : ¬ N.keep b:=by
  have:=r.obj o b base size _ ho hg
  rcases hk with rfl | rfl
  ·obtain ⟨_,_,_,_,_,_,_,h5⟩:=this; simp at h5; exact h5.1
  ·obtain ⟨_,_,_,_,_,_,_,h5⟩:=this; exact h5.1
 constructor
 ·exact below_setRow r.below h5 C'
 ·exact r.fresh.grow (by simp)
 ·exact r.dom
 ·intro p b' base' size' x hp hx
  rw [AH.get_set] at hx
  by_cases e' : o=p
  ·subst e'
   rw [if_pos rfl] at hx
   rw [ho] at hp
   cases hp; cases hx
   have:=r.obj o b base size _ ho hg
   rcases hk with rfl | rfl
   ·obtain ⟨C0,e0,fz0,hb0,_,_,_,h5⟩:=this
    rw [hb] at hb0
    cases hb0
    exact ⟨C',e,fz,setRow_heap w b C C' e fz hb,hC,hl,hrel,h5⟩
   ·obtain ⟨C0,e0,fz0,hb0,_,_,_,h5⟩:=this
    rw [hb] at hb0
    cases hb0
    exact ⟨C',e,fz,setRow_heap w b C C' e fz hb,hC,hl,hrel,h5⟩
  ·rw [if_neg e'] at hx
   by_cases hd : x = .dead
   ·subst hd; trivial
   ·exact (r.obj p b' base' size' x hp hx).of_block (setRow_other _ _ _ _ (r.apart ho hg hks hp hx hd (Ne.symm e')))
 ·intro p q x y hp hq hne rp rq
  exact r.inj p q x y hp hq hne (solid_of_set (solid_iff.2 ⟨_,hg,hks⟩) rp) (solid_of_set (solid_iff.2 ⟨_,hg,hks⟩) rq)
 ·exact r.pin
theorem R.setRow (r : R N w₀ μ h w) {o b base size : Nat} {l l' : List AV} (ho : μ o=some (b,base,size)) (hg : h.get o=some (.cells l true)) {C C' : Array Value} {e : TypeId} {fz : Nat×Nat}
  (hb : w.heap[b]?=some (.cells C e fz)) (hC : C'.size=size) (hl : base + l'.length≤size) (hrel : ∀ (i : Nat) (u : AV) (v : Value),l'[i]?=some u→C'[base + i]?=some v→VRel μ u v) :
  R N w₀ μ (h.set o (.cells l' true)) (w.setRow b C'):=r.setRowK ho (k:=(AObj.cells · true)) (.inl rfl) hg hb hC hl hrel
theorem written_rel {C : Array Value} {base i size : Nat} {l vs : List AV} {us : List Value} (hC : C.size=size) (hl : base + l.length≤size) (hn : i + vs.length≤l.length)
  (hrel : ∀ (j : Nat) (u : AV) (v : Value),l[j]?=some u→C[base + j]?=some v→VRel μ u v) (hvs : VRels μ vs us) :
  ∀ (j : Nat) (u : AV) (v : Value),(l.take i ++ vs ++ l.drop (i + vs.length))[j]?=some u→(C.toList.take (base + i) ++ us ++ C.toList.drop (base + i + us.length)).toArray[base + j]?=some v→VRel μ u v:=by
 intro j u v hu hv
 have hlen:=hvs.1
 have hCl : C.toList.length=size:=by simpa using hC
 rw [List.getElem?_toArray] at hv
 simp only [List.getElem?_append,List.length_append,List.length_take,List.getElem?_take,List.getElem?_drop] at hu hv
 rw [show min i l.length=i by omega] at hu
 rw [hCl,show min (base + i) size=base + i by omega] at hv
 by_cases h1 : j < i
 ·rw [if_pos (by omega),if_pos h1,if_pos h1] at hu
  rw [if_pos (by omega),if_pos (by omega),if_pos (by omega)] at hv
  exact hrel j u v hu (by simpa using hv)
 ·by_cases h2 : j < i + vs.length
  ·rw [if_pos h2,if_neg h1] at hu
   rw [if_pos (by omega),if_neg (by omega)] at hv
   rw [show base + j - (base + i)=j - i by omega] at hv
   exact hvs.2 _ u v hu hv
  ·rw [if_neg h2] at hu
   rw [if_neg (by omega)] at hv
   refine hrel j u v ?_ ?_
   ·rw [← hu]; congr 1; omega
   ·rw [show base + i + us.length + (base + j - (base + i + us.length))=base + j by omega] at hv
    simpa using hv
theorem R.store (r : R N w₀ μ h w) {o i b base size : Nat} {vs : List AV} {us : List Value} {h' : AH} (hs : h.store o i vs=some h') (ho : μ o=some (b,base,size)) (hv : VRels μ vs us) :
  ∃ w',(storeCells ⟨b,base + i,none⟩ us).run P w = .ok () w'∧R N w₀ μ h' w':=by
 obtain ⟨l,k,hk,hg,hn,hfl,rfl⟩:=store_inv hs
 obtain ⟨C,e,fz,hb,hC,hlen,hrel,h5⟩ : ∃ C e fz,w.heap[b]?=some (.cells C e fz)∧C.size=size∧base + l.length≤size∧(∀ (i : Nat) (u : AV) (v : Value),l[i]?=some u→C[base + i]?=some v→VRel μ u v)∧(fz.1=fz.2∨size≤fz.1):=by
  have:=r.obj o b base size _ ho hg
  rcases hk with rfl | rfl
  ·obtain ⟨C,e,fz,h1,h2,h3,h4,h5⟩:=this; simp at h5; exact ⟨C,e,fz,h1,h2,h3,h4,.inl h5.2⟩
  ·obtain ⟨C,e,fz,h1,h2,h3,h4,h5⟩:=this; exact ⟨C,e,fz,h1,h2,h3,h4,h5.2⟩
 have hlu:=hv.1
 have hone : ∀ v∈us,v.oneCell'=true:=by
  intro v hm
  obtain ⟨k,hk,rfl⟩:=List.mem_iff_getElem.1 hm
  have hk' : k < vs.length:=by omega
  exact (hv.2 k _ _ (List.getElem?_eq_getElem hk') (List.getElem?_eq_getElem hk)).oneCell (hfl _ (List.getElem_mem hk'))
 refine ⟨_,run_storeCells_row b (base + i) e fz us 0 C w hb (fun k h1 h2 => by omega) (by omega) hone,?_⟩
 simp only [Nat.add_zero]
 refine r.setRowK ho hk hg hb ?_ ?_ (written_rel hC hlen hn hrel hv)
 ·simp; omega
 ·simp; omega
theorem R.kill (r : R N w₀ μ h w) (o : Nat) : R N w₀ μ (h.set o .dead) w where
 below:=r.below
 fresh:=r.fresh
 dom:=r.dom
 obj:=by
  intro p b base size x hp hx
  rw [AH.get_set] at hx
  split at hx
  ·cases hx; trivial
  ·exact r.obj p b base size x hp hx
 inj:=by
  intro p q x y hp hq hne rp rq
  have old : ∀ q,(h.set o .dead).solid q=true→h.solid q=true:=by
   intro q hq
   obtain ⟨x,hx,hs⟩:=solid_iff.1 hq
   rw [AH.get_set] at hx
   split at hx
   ·cases hx; cases hs
   ·exact solid_iff.2 ⟨x,hx,hs⟩
  exact r.inj p q x y hp hq hne (old p rp) (old q rq)
 pin:=r.pin
theorem R.rename (r : R N w₀ μ h w) {o b base size boff : Nat} {l l' : List AV} (ho : μ o=some (b,base,size)) (hg : h.get o=some (.cells l true)) {C C' : Array Value} {e : TypeId} {fz : Nat×Nat}
  (hb : w.heap[b]?=some (.cells C e fz)) (_hoff : base≤boff) (hC : C'.size=size) (hl : boff + l'.length≤size)
  (hrel : ∀ (i : Nat) (u : AV) (v : Value),l'[i]?=some u→C'[boff + i]?=some v→VRel μ u v) :
  Inj.le μ (Inj.add μ h.next (b,boff,size))∧R N w₀ (Inj.add μ h.next (b,boff,size)) ((h.set o .dead).new (.cells l' true)) (w.setRow b C'):=by
 have hnone : μ h.next=none:=by
  cases hm : μ h.next with
  | none => rfl
  | some y => have:=r.dom _ _ hm; omega
 have hle:=Inj.le_add (μ:=μ) (o:=h.next) (b,boff,size) hnone
 have hon : o≠h.next:=by have:=r.dom _ _ ho; omega
 obtain ⟨C0,e0,fz0,hb0,_,_,_,h5⟩:=r.obj o b base size _ ho hg
 rw [hb] at hb0
 cases hb0
 simp at h5
 refine ⟨hle,?_⟩
 constructor
 ·exact below_setRow r.below h5.1 C'
 ·exact r.fresh.grow (by simp)
 ·intro p y hy
  unfold Inj.add at hy
  split at hy
  ·simp [AH.next_new,AH.next_set]; omega
  ·have:=r.dom _ _ hy; simp [AH.next_new,AH.next_set]; omega
 ·intro p b' base' size' x hp hx
  unfold Inj.add at hp
  rw [AH.get_new,AH.next_set] at hx
  split at hp
  ·rename_i e'
   subst e'
   rw [if_pos rfl] at hx
   cases hp; cases hx
   exact ⟨C',e,fz,setRow_heap w b C C' e fz hb,hC,hl,fun i u v hu hv => (hrel i u v hu hv).mono hle,by simp; exact h5⟩
  ·rename_i e'
   rw [if_neg (Ne.symm e'),AH.get_set] at hx
   split at hx
   ·cases hx; trivial
   ·rename_i e2
    by_cases hd : x = .dead
    ·subst hd; trivial
    ·exact ((r.obj p b' base' size' x hp hx).mono hle).of_block (setRow_other _ _ _ _ (r.apart ho hg rfl hp hx hd (Ne.symm e2)))
 ·intro p q x y hp hq hne rp rq
  have old : ∀ p,p≠h.next→((h.set o .dead).new (.cells l' true)).solid p=true→p≠o∧h.solid p=true:=by
   intro p hpn hr
   obtain ⟨l2,h2,hs⟩:=solid_iff.1 hr
   rw [AH.get_new,AH.next_set,if_neg (Ne.symm hpn),AH.get_set] at h2
   split at h2
   ·cases h2; cases hs
   ·exact ⟨Ne.symm ‹_›,solid_iff.2 ⟨l2,h2,hs⟩⟩
  have hos : h.solid o=true:=solid_iff.2 ⟨_,hg,rfl⟩
  unfold Inj.add at hp hq
  split at hp
  ·rename_i e1
   subst e1
   cases hp
   rw [if_neg (Ne.symm hne)] at hq
   obtain ⟨hqo,hqr⟩:=old q (Ne.symm hne) rq
   exact r.inj o q (b,base,size) y ho hq (Ne.symm hqo) hos hqr
  ·rename_i e1
   obtain ⟨hpo,hpr⟩:=old p e1 rp
   split at hq
   ·cases hq
    exact Ne.symm (r.inj o p (b,base,size) x ho hp (Ne.symm hpo) hos hpr)
   ·rename_i e2
    exact r.inj p q x y hp hq hne hpr (old q e2 rq).2
 ·exact pin_mono hle r.pin
theorem R.setMap (r : R N w₀ μ h w) {o b base size : Nat} {es es' : List (AV×AV)} (ho : μ o=some (b,base,size)) (hg : h.get o=some (.map es)) {ces' : Array MapEntry} {clock' : Nat}
  (hlen : es'.length=ces'.size) (hrel : ∀ (i : Nat) (p : AV×AV) (q : MapEntry),es'[i]?=some p→ces'[i]?=some q→VRel μ p.1 q.key∧VRel μ p.2 q.val) :
  R N w₀ μ (h.set o (.map es')) { w with heap:=w.heap.setIfInBounds b (.map ces' clock') }:=by
 obtain ⟨h0,hN,ces,clock,hb,_⟩:=r.obj o b base size _ ho hg
 have hlt : b < w.heap.size:=(Array.getElem?_eq_some_iff.1 hb).1
 have other : ∀ k,k≠b→(w.heap.setIfInBounds b (.map ces' clock'))[k]?=w.heap[k]?:=fun k hk => Array.getElem?_setIfInBounds_ne (Ne.symm hk)
 constructor
 ·exact r.below.trans ⟨rfl,rfl,rfl,by simp,fun k hk => other k (fun e => hN (e ▸ hk))⟩
 ·exact r.fresh.grow (by simp)
 ·exact r.dom
 ·intro p b' base' size' x hp hx
  rw [AH.get_set] at hx
  split at hx
  ·rename_i e
   subst e
   rw [ho] at hp
   cases hp; cases hx
   exact ⟨h0,hN,ces',clock',by simp [hlt],hlen,hrel⟩
  ·rename_i e
   by_cases hd : x = .dead
   ·subst hd; trivial
   ·exact (r.obj p b' base' size' x hp hx).of_block (other _ (r.apart ho hg rfl hp hx hd (Ne.symm e)))
 ·intro p q x y hp hq hne rp rq
  exact r.inj p q x y hp hq hne (solid_of_set (solid_iff.2 ⟨_,hg,rfl⟩) rp) (solid_of_set (solid_iff.2 ⟨_,hg,rfl⟩) rq)
 ·exact r.pin
theorem R.mark (r : R N w₀ μ h w) {o b base size : Nat} {l : List AV} (ho : μ o=some (b,base,size)) (hg : h.get o=some (.cells l true)) {C : Array Value} {e : TypeId} {fz fz' : Nat×Nat}
  (hb : w.heap[b]?=some (.cells C e fz)) (hf : fz'.1=fz'.2∨size≤fz'.1) {w' : World} (hb' : w'.heap[b]?=some (.cells C e fz')) (hoth : ∀ k,k≠b→w'.heap[k]?=w.heap[k]?) (hsz : w'.heap.size=w.heap.size)
  (hos : w'.os=w.os) (htape : w'.tape=w.tape) (hout : w'.output=w.output) : R N w₀ μ (h.set o (.marked l)) w':=by
 obtain ⟨C0,e0,fz0,hb0,hC,hl,hrel,h5⟩:=r.obj o b base size _ ho hg
 rw [hb] at hb0
 cases hb0
 simp at h5
 constructor
 ·exact r.below.trans ⟨hos,htape,hout,by omega,fun k hk => hoth k (fun e => h5.1 (e ▸ hk))⟩
 ·exact r.fresh.grow (by omega)
 ·exact r.dom
 ·intro p b' base' size' x hp hx
  rw [AH.get_set] at hx
  by_cases e' : o=p
  ·subst e'
   rw [ho] at hp
   cases hp
   rw [if_pos rfl] at hx
   cases hx
   exact ⟨C,e,fz',hb',hC,hl,hrel,⟨h5.1,hf⟩⟩
  ·rw [if_neg e'] at hx
   by_cases hd : x = .dead
   ·subst hd; trivial
   ·exact (r.obj p b' base' size' x hp hx).of_block (hoth _ (r.apart ho hg rfl hp hx hd (Ne.symm e')))
 ·intro p q x y hp hq hne rp rq
  exact r.inj p q x y hp hq hne (solid_of_set (solid_iff.2 ⟨_,hg,rfl⟩) rp) (solid_of_set (solid_iff.2 ⟨_,hg,rfl⟩) rq)
 ·exact r.pin
end Go.Vm

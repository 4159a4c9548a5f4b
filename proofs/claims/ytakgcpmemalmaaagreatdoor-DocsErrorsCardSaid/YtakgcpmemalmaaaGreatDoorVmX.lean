/- The same machine in a form that the kernel runs faster: small constants, plain recursors, tests on numbers alone. -/
import Derived.Test.YtakgcpmemalmaaaGreatDoorVmS
namespace Go.Vm
open Go.RowKit
set_option linter.unusedSimpArgs false
set_option linter.unusedVariables false
noncomputable section
inductive Way where
 | z
 | l (p : Way)
 | r (p : Way)
def wstep (ih : Nat→Way) (n : Nat) : Way :=
 Bool.rec (Bool.rec (.r (ih (Nat.sub (Nat.div n 2) 1))) (.l (ih (Nat.div n 2))) (Nat.beq (Nat.mod n 2) 1)) .z (Nat.beq n 0)
def wayG (k : Nat) : Nat→Way:=@Nat.rec (fun _ => Nat→Way) (fun _ => .z) (fun _ ih => wstep ih) k
def way (n : Nat) : Way:=wayG (Nat.succ n) n
theorem wayG_zero (k : Nat) : wayG (k + 1) 0 = .z:=rfl
theorem wayG_odd (k n : Nat) (h0 : n≠0) (h : n % 2=1) : wayG (k + 1) n = .l (wayG k (n / 2)):=by
 show wstep (wayG k) n=_
 unfold wstep
 rw [show Nat.beq n 0=false from by cases n; exact absurd rfl h0; rfl,show Nat.beq (Nat.mod n 2) 1=true from Nat.beq_eq.symm ▸ h]; rfl
theorem wayG_even (k n : Nat) (h0 : n≠0) (h : ¬ n % 2=1) : wayG (k + 1) n = .r (wayG k (n / 2 - 1)):=by
 show wstep (wayG k) n=_
 unfold wstep
 rw [show Nat.beq n 0=false from by cases n; exact absurd rfl h0; rfl,show Nat.beq (Nat.mod n 2) 1=false from Bool.eq_false_iff.2 fun hb => h (Nat.beq_eq.mp hb)]; rfl
def gZ {α : Type} (t : Tr α) : Option α:=@Tr.rec α (fun _ => Option α) none (fun _ v _ _ _ => v) t
def gL {α : Type} (_ : Way) (ih : Tr α→Option α) (t : Tr α) : Option α:=@Tr.rec α (fun _ => Option α) none (fun l _ _ _ _ => ih l) t
def gR {α : Type} (_ : Way) (ih : Tr α→Option α) (t : Tr α) : Option α:=@Tr.rec α (fun _ => Option α) none (fun _ _ r _ _ => ih r) t
def getP {α : Type} (p : Way) : Tr α→Option α:=@Way.rec (fun _ => Tr α→Option α) gZ gL gR p
def getT {α : Type} (t : Tr α) (n : Nat) : Option α:=getP (way n) t
theorem getP_eq {α : Type} : ∀ (k : Nat) (t : Tr α) (n : Nat),n < k→getP (wayG k n) t=t.get n
 | 0,_,_,h => by omega
 | k + 1,t,n,h => by
  by_cases h0 : n=0
  ·subst h0
   rw [wayG_zero]
   cases t <;> rfl
  ·by_cases h1 : n % 2=1
   ·rw [wayG_odd k n h0 h1]
    cases t with
    | nil => rfl
    | node l v r =>
     show getP (wayG k (n / 2)) l=(if n=0 then v else if n % 2=1 then l.get (n / 2) else r.get (n / 2 - 1))
     rw [if_neg h0,if_pos h1,getP_eq k l _ (by omega)]
   ·rw [wayG_even k n h0 h1]
    cases t with
    | nil => rfl
    | node l v r =>
     show getP (wayG k (n / 2 - 1)) r=(if n=0 then v else if n % 2=1 then l.get (n / 2) else r.get (n / 2 - 1))
     rw [if_neg h0,if_neg h1,getP_eq k r _ (by omega)]
theorem getT_eq {α : Type} (t : Tr α) (n : Nat) : getT t n=t.get n:=getP_eq (n + 1) t n (Nat.lt_succ_self n)
def sZ {α : Type} (x : α) (t : Tr α) : Tr α:=@Tr.rec α (fun _ => Tr α) (.node .nil (some x) .nil) (fun l _ r _ _ => .node l (some x) r) t
def sL {α : Type} (_ : Way) (ih : α→Tr α→Tr α) (x : α) (t : Tr α) : Tr α:=@Tr.rec α (fun _ => Tr α) (.node (ih x .nil) none .nil) (fun l v r _ _ => .node (ih x l) v r) t
def sR {α : Type} (_ : Way) (ih : α→Tr α→Tr α) (x : α) (t : Tr α) : Tr α:=@Tr.rec α (fun _ => Tr α) (.node .nil none (ih x .nil)) (fun l v r _ _ => .node l v (ih x r)) t
def setP {α : Type} (p : Way) : α→Tr α→Tr α:=@Way.rec (fun _ => α→Tr α→Tr α) sZ sL sR p
def setT {α : Type} (t : Tr α) (n : Nat) (x : α) : Tr α:=setP (way n) x t
theorem setP_eq {α : Type} : ∀ (k : Nat) (t : Tr α) (n : Nat) (x : α),n < k→setP (wayG k n) x t=Tr.setF k t n x
 | 0,_,_,_,h => by omega
 | k + 1,t,n,x,h => by
  by_cases h0 : n=0
  ·subst h0
   rw [wayG_zero]
   cases t <;> rfl
  ·by_cases h1 : n % 2=1
   ·rw [wayG_odd k n h0 h1]
    cases t with
    | nil =>
     show Tr.node (setP (wayG k (n / 2)) x .nil) none .nil=(if n=0 then Tr.node .nil (some x) .nil else if n % 2=1 then .node (Tr.setF k .nil (n / 2) x) none .nil else .node .nil none (Tr.setF k .nil (n / 2 - 1) x))
     rw [if_neg h0,if_pos h1,setP_eq k .nil _ x (by omega)]
    | node l v r =>
     show Tr.node (setP (wayG k (n / 2)) x l) v r=(if n=0 then Tr.node l (some x) r else if n % 2=1 then .node (Tr.setF k l (n / 2) x) v r else .node l v (Tr.setF k r (n / 2 - 1) x))
     rw [if_neg h0,if_pos h1,setP_eq k l _ x (by omega)]
   ·rw [wayG_even k n h0 h1]
    cases t with
    | nil =>
     show Tr.node .nil none (setP (wayG k (n / 2 - 1)) x .nil)=(if n=0 then Tr.node .nil (some x) .nil else if n % 2=1 then .node (Tr.setF k .nil (n / 2) x) none .nil else .node .nil none (Tr.setF k .nil (n / 2 - 1) x))
     rw [if_neg h0,if_neg h1,setP_eq k .nil _ x (by omega)]
    | node l v r =>
     show Tr.node l v (setP (wayG k (n / 2 - 1)) x r)=(if n=0 then Tr.node l (some x) r else if n % 2=1 then .node (Tr.setF k l (n / 2) x) v r else .node l v (Tr.setF k r (n / 2 - 1) x))
     rw [if_neg h0,if_neg h1,setP_eq k r _ x (by omega)]
theorem setT_eq {α : Type} (t : Tr α) (n : Nat) (x : α) : setT t n x=t.set n x:=setP_eq (n + 1) t n x (Nat.lt_succ_self n)
def orNone (o : Option AV) : AV:=@Option.rec AV (fun _ => AV) (.tuple []) (fun v => v) o
def atT (f : Fr) (i : Nat) : AV:=orNone (getT f i)
theorem atT_eq (f : Fr) (i : Nat) : atT f i=f.at i:=by
 unfold atT Fr.at orNone; rw [getT_eq]; cases Tr.get f i <;> rfl
def putT (f : Fr) (d : Option Nat) (v : AV) : Fr:=@Option.rec Nat (fun _ => Fr) f (fun i => setT f i v) d
theorem putT_eq (f : Fr) (d : Option Nat) (v : AV) : putT f d v=f.put d v:=by
 cases d with
 | none => rfl
 | some i => exact setT_eq f i v
def hget (h : AH) (o : Nat) : Option AObj:=@AH.rec (fun _ => Option AObj) (fun _ t => getT t o) h
theorem hget_eq (h : AH) (o : Nat) : hget h o=h.get o:=getT_eq _ _
def hset (h : AH) (o : Nat) (x : AObj) : AH:=@AH.rec (fun _ => AH) (fun n t => ⟨n,setT t o x⟩) h
theorem hset_eq (h : AH) (o : Nat) (x : AObj) : hset h o x=h.set o x:=by
 cases h; simp only [hset,AH.set,setT_eq]
def hnew (h : AH) (x : AObj) : AH:=@AH.rec (fun _ => AH) (fun n t => ⟨Nat.succ n,setT t n x⟩) h
theorem hnew_eq (h : AH) (x : AObj) : hnew h x=h.new x:=by
 cases h; simp only [hnew,AH.new,setT_eq]
def nthT {α : Type} (l : List α) : Nat→Option α :=
 @List.rec α (fun _ => Nat→Option α) (fun _ => none) (fun a _ ih n => Bool.rec (ih (Nat.pred n)) (some a) (Nat.beq n 0)) l
theorem nthT_eq {α : Type} : ∀ (l : List α) (n : Nat),nthT l n=l[n]?
 | [],n => rfl
 | a :: l,0 => rfl
 | a :: l,n + 1 => by
  show nthT l n=_
  rw [nthT_eq l n]; rfl
def setN {α : Type} (l : List α) : Nat→α→List α :=
 @List.rec α (fun _ => Nat→α→List α) (fun _ _ => []) (fun a r ih n x => Bool.rec (a :: ih (Nat.pred n) x) (x :: r) (Nat.beq n 0)) l
theorem setN_eq {α : Type} : ∀ (l : List α) (n : Nat) (x : α),setN l n x=l.set n x
 | [],n,x => rfl
 | a :: l,0,x => rfl
 | a :: l,n + 1,x => by
  show a :: setN l n x=_
  rw [setN_eq l n x]; rfl
def load1o (o : Option AObj) (i : Nat) : Option AV:=match o with
 | some (.cells l _) => nthT l i
 | some (.marked l) => nthT l i
 | _ => none
def load1 (h : AH) (o i : Nat) : Option AV:=load1o (hget h o) i
theorem load1_eq (h : AH) (o i : Nat) : (match h.load o i 1 with
  | some [v] => some v
  | _ => none)=load1 h o i:=by
 unfold load1 AH.load
 rw [hget_eq]
 cases h.get o with
 | none => rfl
 | some x =>
  cases x with
  | cells l rw' =>
   simp only [load1o,nthT_eq]
   by_cases hi : i < l.length
   ·rw [if_pos (by omega),List.drop_eq_getElem_cons hi,List.getElem?_eq_getElem hi]; rfl
   ·rw [if_neg (by omega),List.getElem?_eq_none (by omega)]
  | marked l =>
   simp only [load1o,nthT_eq]
   by_cases hi : i < l.length
   ·rw [if_pos (by omega),List.drop_eq_getElem_cons hi,List.getElem?_eq_getElem hi]; rfl
   ·rw [if_neg (by omega),List.getElem?_eq_none (by omega)]
  | _ => rfl
def flatT : AV→Bool
 | .undef | .agg _ | .tuple _ => false
 | _ => true
def store1l (h : AH) (o i : Nat) (v : AV) (l : List AV) (x : Option AV) : Option AH:=match x with
 | some _ => Bool.rec none (some (hset h o (.cells (setN l i v) true))) (flatT v)
 | none => none
def store1m (h : AH) (o i : Nat) (v : AV) (l : List AV) (x : Option AV) : Option AH:=match x with
 | some _ => Bool.rec none (some (hset h o (.marked (setN l i v)))) (flatT v)
 | none => none
def store1o (h : AH) (o i : Nat) (v : AV) (x : Option AObj) : Option AH:=match x with
 | some (.cells l true) => store1l h o i v l (nthT l i)
 | some (.marked l) => store1m h o i v l (nthT l i)
 | _ => none
def store1 (h : AH) (o i : Nat) (v : AV) : Option AH:=store1o h o i v (hget h o)
theorem store1_eq (h : AH) (o i : Nat) (v : AV) : h.store o i [v]=store1 h o i v:=by
 unfold store1 AH.store
 rw [hget_eq]
 cases h.get o with
 | none => rfl
 | some x =>
  cases x with
  | cells l rw' =>
   cases rw' with
   | false => rfl
   | true =>
    simp only [store1o,nthT_eq,List.length_cons,List.length_nil,List.all_cons,List.all_nil,Bool.and_true,setMany]
    by_cases hi : i < l.length
    ·rw [List.getElem?_eq_getElem hi]
     simp only [store1l]
     cases hf : v.flat
     ·rw [if_neg (by simp)]
      rw [show flatT v=false from by rw [← hf]; cases v <;> rfl]
     ·rw [if_pos ⟨by omega,rfl⟩]
      rw [show flatT v=true from by rw [← hf]; cases v <;> rfl]
      simp only [hset_eq,setN_eq]
    ·rw [List.getElem?_eq_none (by omega),if_neg (by omega)]; rfl
  | marked l =>
   simp only [store1o,nthT_eq,List.length_cons,List.length_nil,List.all_cons,List.all_nil,Bool.and_true,setMany]
   by_cases hi : i < l.length
   ·rw [List.getElem?_eq_getElem hi]
    simp only [store1m]
    cases hf : v.flat
    ·rw [if_neg (by simp)]
     rw [show flatT v=false from by rw [← hf]; cases v <;> rfl]
    ·rw [if_pos ⟨by omega,rfl⟩]
     rw [show flatT v=true from by rw [← hf]; cases v <;> rfl]
     simp only [hset_eq,setN_eq]
   ·rw [List.getElem?_eq_none (by omega),if_neg (by omega)]; rfl
  | _ => rfl
def kidx : IntKind→Nat
 | .i8 => 0 | .i16 => 1 | .i32 => 2 | .i64 => 3 | .u8 => 4 | .u16 => 5 | .u32 => 6 | .u64 => 7
def kindEq (a b : IntKind) : Bool:=Nat.beq (kidx a) (kidx b)
theorem kindEq_iff (a b : IntKind) : kindEq a b=decide (a=b):=by cases a <;> cases b <;> rfl
def ktop : IntKind→Nat
 | .i8 => 127 | .i16 => 32767 | .i32 => 2147483647 | .i64 => 9223372036854775807 | .u8 => 255 | .u16 => 65535 | .u32 => 4294967295 | .u64 => 18446744073709551615
def wrapN (k : IntKind) (m : Nat) : Int:=Bool.rec (k.wrap (.ofNat m)) (.ofNat m) (Nat.ble m (ktop k))
def wrapT (k : IntKind) (n : Int) : Int:=@Int.rec (fun _ => Int) (wrapN k) (fun m => k.wrap (.negSucc m)) n
theorem wrapT_eq (k : IntKind) (n : Int) : wrapT k n=k.wrap n:=by
 cases n with
 | ofNat m =>
  show wrapN k m=_
  unfold wrapN
  cases hb : Nat.ble m (ktop k)
  ·rfl
  ·have hm : m≤ktop k:=Nat.le_of_ble_eq_true hb
   show (Int.ofNat m)=_
   symm
   unfold IntKind.wrap
   cases k <;> simp only [ktop] at hm <;> simp only [IntKind.bits,IntKind.signed] <;> simp <;> omega
 | negSucc m => rfl
def eqNN (m : Nat) (b : Int) : Bool:=@Int.rec (fun _ => Bool) (fun n => Nat.beq m n) (fun _ => false) b
def eqMM (m : Nat) (b : Int) : Bool:=@Int.rec (fun _ => Bool) (fun _ => false) (fun n => Nat.beq m n) b
def intEq (a b : Int) : Bool:=@Int.rec (fun _ => Int→Bool) eqNN eqMM a b
theorem intEq_eq (a b : Int) : intEq a b=(a == b):=by
 rw [Bool.eq_iff_iff]
 cases a <;> cases b <;> simp [intEq,eqNN,eqMM,Nat.beq_eq] <;> omega
def ltNN (m : Nat) (b : Int) : Bool:=@Int.rec (fun _ => Bool) (fun n => Nat.blt m n) (fun _ => false) b
def ltMM (m : Nat) (b : Int) : Bool:=@Int.rec (fun _ => Bool) (fun _ => true) (fun n => Nat.blt n m) b
def intLt (a b : Int) : Bool:=@Int.rec (fun _ => Int→Bool) ltNN ltMM a b
theorem blt_iff (m n : Nat) : Nat.blt m n=true↔m < n:=by
 unfold Nat.blt; exact ⟨fun h => Nat.le_of_ble_eq_true h,fun h => Nat.ble_eq_true_of_le h⟩
theorem intLt_eq (a b : Int) : intLt a b=decide (a < b):=by
 rw [Bool.eq_iff_iff]
 cases a <;> cases b <;> simp [intLt,ltNN,ltMM,blt_iff] <;> omega
def leOf (a b : Int) : Bool:=Bool.rec true false (intLt b a)
theorem leOf_eq (a b : Int) : leOf a b=decide (a≤b):=by
 unfold leOf; rw [intLt_eq]
 by_cases h : b < a
 ·simp [h]
 ·simp [h]; omega
def addN (m : Nat) (b : Int) : Int:=@Int.rec (fun _ => Int) (fun n => .ofNat (Nat.add m n)) (fun n => Int.subNatNat m (Nat.succ n)) b
def addI (a b : Int) : Int:=@Int.rec (fun _ => Int→Int) addN (fun m b => Int.add (.negSucc m) b) a b
theorem addI_eq (a b : Int) : addI a b=a + b:=by cases a <;> cases b <;> rfl
def subN' (m n : Nat) : Int:=Bool.rec (Int.sub (.ofNat m) (.ofNat n)) (.ofNat (Nat.sub m n)) (Nat.ble n m)
def subN (m : Nat) (b : Int) : Int:=@Int.rec (fun _ => Int) (subN' m) (fun n => Int.sub (.ofNat m) (.negSucc n)) b
def subI (a b : Int) : Int:=@Int.rec (fun _ => Int→Int) subN (fun m b => Int.sub (.negSucc m) b) a b
theorem subI_eq (a b : Int) : subI a b=a - b:=by
 cases a with
 | negSucc m => rfl
 | ofNat m =>
  cases b with
  | negSucc n => rfl
  | ofNat n =>
   show subN' m n=_
   unfold subN'
   cases hb : Nat.ble n m
   ·rfl
   ·have:=Nat.le_of_ble_eq_true hb
    show Int.ofNat (m - n)=(m : Int) - (n : Int)
    simp only [Int.ofNat_eq_natCast]; omega
def rAdd (k : IntKind) (a b : Int) : Option AV:=some (.int k (wrapT k (addI a b)))
def rSub (k : IntKind) (a b : Int) : Option AV:=some (.int k (wrapT k (subI a b)))
def rMul (k : IntKind) (a b : Int) : Option AV:=some (.int k (wrapT k (Int.mul a b)))
def rEql (_ : IntKind) (a b : Int) : Option AV:=some (.bool (intEq a b))
def rNeq (_ : IntKind) (a b : Int) : Option AV:=some (.bool (Bool.rec true false (intEq a b)))
def rLss (_ : IntKind) (a b : Int) : Option AV:=some (.bool (intLt a b))
def rLeq (_ : IntKind) (a b : Int) : Option AV:=some (.bool (leOf a b))
def rGtr (_ : IntKind) (a b : Int) : Option AV:=some (.bool (intLt b a))
def rGeq (_ : IntKind) (a b : Int) : Option AV:=some (.bool (leOf b a))
def rQuoN (k : IntKind) (a b : Int) (m n : Nat) : Option AV:=Bool.rec (intBin .quo k a b) (some (.int k (wrapN k (Nat.div m n)))) (Nat.blt 0 n)
def rQuoI (k : IntKind) (m : Nat) (b : Int) : Option AV:=@Int.rec (fun _ => Option AV) (fun n => rQuoN k (.ofNat m) (.ofNat n) m n) (fun n => intBin .quo k (.ofNat m) (.negSucc n)) b
def rQuo (k : IntKind) (a b : Int) : Option AV:=@Int.rec (fun _ => Int→Option AV) (rQuoI k) (fun m b => intBin .quo k (.negSucc m) b) a b
theorem rQuo_eq (k : IntKind) (a b : Int) : rQuo k a b=intBin .quo k a b:=by
 cases a with
 | negSucc m => rfl
 | ofNat m =>
  cases b with
  | negSucc n => rfl
  | ofNat n =>
   show rQuoN k (.ofNat m) (.ofNat n) m n=_
   unfold rQuoN
   cases hb : Nat.blt 0 n
   ·rfl
   ·have hn:=(blt_iff _ _).1 hb
    show some (AV.int k (wrapT k (.ofNat (m / n))))=_
    rw [wrapT_eq]
    simp only [intBin]
    rw [if_neg (by simp only [Int.ofNat_eq_natCast]; omega)]
    simp [Int.ofNat_tdiv]
def rRemN (k : IntKind) (a b : Int) (m n : Nat) : Option AV:=Bool.rec (intBin .rem k a b) (some (.int k (.ofNat (Nat.mod m n)))) (Nat.blt 0 n)
def rRemI (k : IntKind) (m : Nat) (b : Int) : Option AV:=@Int.rec (fun _ => Option AV) (fun n => rRemN k (.ofNat m) (.ofNat n) m n) (fun n => intBin .rem k (.ofNat m) (.negSucc n)) b
def rRem (k : IntKind) (a b : Int) : Option AV:=@Int.rec (fun _ => Int→Option AV) (rRemI k) (fun m b => intBin .rem k (.negSucc m) b) a b
theorem rRem_eq (k : IntKind) (a b : Int) : rRem k a b=intBin .rem k a b:=by
 cases a with
 | negSucc m => rfl
 | ofNat m =>
  cases b with
  | negSucc n => rfl
  | ofNat n =>
   show rRemN k (.ofNat m) (.ofNat n) m n=_
   unfold rRemN
   cases hb : Nat.blt 0 n
   ·rfl
   ·have hn:=(blt_iff _ _).1 hb
    show some (AV.int k (.ofNat (m % n)))=_
    simp only [intBin]
    rw [if_neg (by simp only [Int.ofNat_eq_natCast]; omega)]
    simp [Int.ofNat_tmod,Int.tmod_eq_emod_of_nonneg]
def rBitN (g : Nat→Nat→Nat) (op : BinOp) (k : IntKind) (a b : Int) (m n : Nat) : Option AV :=
 Bool.rec (intBin op k a b) (Bool.rec (intBin op k a b) (some (.int k (.ofNat (g m n)))) (Nat.ble n (ktop k))) (Nat.ble m (ktop k))
def rBitI (g : Nat→Nat→Nat) (op : BinOp) (k : IntKind) (m : Nat) (b : Int) : Option AV :=
 @Int.rec (fun _ => Option AV) (fun n => rBitN g op k (.ofNat m) (.ofNat n) m n) (fun n => intBin op k (.ofNat m) (.negSucc n)) b
def rBit (g : Nat→Nat→Nat) (op : BinOp) (k : IntKind) (a b : Int) : Option AV :=
 @Int.rec (fun _ => Int→Option AV) (rBitI g op k) (fun m b => intBin op k (.negSucc m) b) a b
theorem ktop_lt (k : IntKind) : ktop k < 2 ^ k.bits:=by cases k <;> decide
theorem wrap_nat_le {k : IntKind} {m : Nat} (h : m≤ktop k) : k.wrap (m : Int)=m:=by
 have:=wrapT_eq k (.ofNat m)
 rw [show k.wrap (m : Int)=k.wrap (.ofNat m) from rfl,← this]
 show wrapN k m=_
 unfold wrapN
 rw [Nat.ble_eq_true_of_le h]
 rfl
theorem ktop_succ (k : IntKind) : ktop k + 1=2 ^ (k.bits - if k.signed then 1 else 0):=by cases k <;> decide
theorem rBit_eq {g : Nat→Nat→Nat} {op : BinOp} (hg : ∀ (e m n : Nat),m < 2 ^ e→n < 2 ^ e→g m n < 2 ^ e)
  (ho : ∀ (k : IntKind) (m n : Nat),m < 2 ^ k.bits→n < 2 ^ k.bits→intBin op k m n=some (.int k (k.wrap (g m n : Nat)))) (k : IntKind) (a b : Int) : rBit g op k a b=intBin op k a b:=by
 cases a with
 | negSucc m => rfl
 | ofNat m =>
  cases b with
  | negSucc n => rfl
  | ofNat n =>
   show rBitN g op k (.ofNat m) (.ofNat n) m n=_
   unfold rBitN
   cases hm : Nat.ble m (ktop k)
   ·rfl
   ·cases hn : Nat.ble n (ktop k)
    ·rfl
    ·have hm':=Nat.le_of_ble_eq_true hm
     have hn':=Nat.le_of_ble_eq_true hn
     have hk:=ktop_succ k
     have hgt : g m n≤ktop k:=by
      have:=hg (k.bits - if k.signed then 1 else 0) m n (by omega) (by omega)
      omega
     have hl:=ktop_lt k
     show some (AV.int k (.ofNat (g m n)))=intBin op k m n
     rw [ho k m n (by omega) (by omega),wrap_nat_le hgt]
     rfl
theorem rAnd_eq (k : IntKind) (a b : Int) : rBit Nat.land .and k a b=intBin .and k a b:=by
 refine rBit_eq (fun e m n hm hn => Nat.and_lt_two_pow m hn) (fun k m n hm hn => ?_) k a b
 simp only [intBin,BitVec.toNat_and,BitVec.ofInt_natCast,BitVec.toNat_ofNat,Nat.mod_eq_of_lt hm,Nat.mod_eq_of_lt hn]
 try rfl
theorem rOr_eq (k : IntKind) (a b : Int) : rBit Nat.lor .or k a b=intBin .or k a b:=by
 refine rBit_eq (fun e m n hm hn => Nat.or_lt_two_pow hm hn) (fun k m n hm hn => ?_) k a b
 simp only [intBin,BitVec.toNat_or,BitVec.ofInt_natCast,BitVec.toNat_ofNat,Nat.mod_eq_of_lt hm,Nat.mod_eq_of_lt hn]
 try rfl
theorem rXor_eq (k : IntKind) (a b : Int) : rBit Nat.xor .xor k a b=intBin .xor k a b:=by
 refine rBit_eq (fun e m n hm hn => Nat.xor_lt_two_pow hm hn) (fun k m n hm hn => ?_) k a b
 simp only [intBin,BitVec.toNat_xor,BitVec.ofInt_natCast,BitVec.toNat_ofNat,Nat.mod_eq_of_lt hm,Nat.mod_eq_of_lt hn]
 try rfl
def intBinT : BinOp→IntKind→Int→Int→Option AV
 | .add => rAdd | .sub => rSub | .mul => rMul | .quo => rQuo | .rem => rRem
 | .and => rBit Nat.land .and | .or => rBit Nat.lor .or | .xor => rBit Nat.xor .xor
 | .eql => rEql | .neq => rNeq | .lss => rLss | .leq => rLeq | .gtr => rGtr | .geq => rGeq
 | op => intBin op
theorem intBinT_eq (op : BinOp) (k : IntKind) (a b : Int) : intBinT op k a b=intBin op k a b:=by
 cases op <;> simp only [intBinT,rAdd,rSub,rMul,rEql,rNeq,rLss,rLeq,rGtr,rGeq,wrapT_eq,addI_eq,subI_eq,intEq_eq,intLt_eq,leOf_eq,rQuo_eq,rRem_eq,rAnd_eq,rOr_eq,rXor_eq] <;> simp only [intBin] <;> try rfl
 ·show _=some (AV.bool !(a == b))
  cases a == b <;> rfl
def shlN (k : IntKind) (m n : Nat) : Option AV:=Bool.rec (intShift .shl k (.ofNat m) (.ofNat n)) (some (.int k (wrapN k (Nat.mul m (Nat.pow 2 n))))) (Nat.ble n 64)
def shrN (k : IntKind) (m n : Nat) : Option AV:=Bool.rec (intShift .shr k (.ofNat m) (.ofNat n)) (some (.int k (.ofNat (Nat.div m (Nat.pow 2 n))))) (Nat.ble n 64)
def shiftN (g : IntKind→Nat→Nat→Option AV) (op : BinOp) (k : IntKind) (m n : Nat) : Option AV:=Bool.rec (intShift op k (.ofNat m) (.ofNat n)) (g k m n) (Nat.ble n k.bits)
def shiftI (g : IntKind→Nat→Nat→Option AV) (op : BinOp) (k : IntKind) (m : Nat) (b : Int) : Option AV :=
 @Int.rec (fun _ => Option AV) (shiftN g op k m) (fun n => intShift op k (.ofNat m) (.negSucc n)) b
def shiftG (g : IntKind→Nat→Nat→Option AV) (op : BinOp) (k : IntKind) (a b : Int) : Option AV :=
 @Int.rec (fun _ => Int→Option AV) (shiftI g op k) (fun m b => intShift op k (.negSucc m) b) a b
def shiftT : BinOp→IntKind→Int→Int→Option AV
 | .shl => shiftG shlN .shl
 | .shr => shiftG shrN .shr
 | op => intShift op
theorem shiftG_eq {g : IntKind→Nat→Nat→Option AV} {op : BinOp} (hg : ∀ (k : IntKind) (m n : Nat),n≤k.bits→g k m n=intShift op k (.ofNat m) (.ofNat n)) (k : IntKind) (a b : Int) : shiftG g op k a b=intShift op k a b:=by
 cases a with
 | negSucc m => rfl
 | ofNat m =>
  cases b with
  | negSucc n => rfl
  | ofNat n =>
   show shiftN g op k m n=_
   unfold shiftN
   cases hb : Nat.ble n k.bits
   ·rfl
   ·exact hg k m n (Nat.le_of_ble_eq_true hb)
theorem shlN_eq (k : IntKind) (m n : Nat) (h : n≤k.bits) : shlN k m n=intShift .shl k (.ofNat m) (.ofNat n):=by
 unfold shlN
 cases Nat.ble n 64
 ·rfl
 ·show some (AV.int k (wrapT k (.ofNat (m * 2 ^ n))))=_
  rw [wrapT_eq]
  unfold intShift
  rw [if_neg (by simp only [Int.ofNat_eq_natCast]; omega)]
  show _=some (AV.int k (k.wrap (Int.ofNat m * 2 ^ min n k.bits)))
  rw [Nat.min_eq_left h]
  simp
theorem shrN_eq (k : IntKind) (m n : Nat) (h : n≤k.bits) : shrN k m n=intShift .shr k (.ofNat m) (.ofNat n):=by
 unfold shrN
 cases Nat.ble n 64
 ·rfl
 ·show some (AV.int k (.ofNat (m / 2 ^ n)))=_
  unfold intShift
  rw [if_neg (by simp only [Int.ofNat_eq_natCast]; omega)]
  show _=some (AV.int k (Int.fdiv (Int.ofNat m) (2 ^ min n k.bits)))
  rw [Nat.min_eq_left h]
  rw [Int.fdiv_eq_ediv_of_nonneg _ (Int.le_of_lt (Int.pow_pos (by decide)))]
  simp
theorem shiftT_eq (op : BinOp) (k : IntKind) (a b : Int) : shiftT op k a b=intShift op k a b:=by
 cases op <;> try rfl
 ·exact shiftG_eq shlN_eq k a b
 ·exact shiftG_eq shrN_eq k a b
end
end Go.Vm
/- The same machine in a form that the kernel runs faster: operations,code,calls; and that it is the same. -/
namespace Go.Vm
open Go.RowKit
set_option linter.unusedSimpArgs false
set_option linter.unusedVariables false
noncomputable section
variable {f : Fr} {h : AH}
def valT (o : AOpd) : Fr→AV:=@AOpd.rec (fun _ => Fr→AV) (fun t f => atT f t) (fun v _ => v) o
theorem valT_eq (o : AOpd) (f : Fr) : valT o f=o.val f:=by cases o <;> first | exact atT_eq f _ | rfl
def valsT (l : List AOpd) (f : Fr) : List AV:=@List.rec AOpd (fun _ => List AV) [] (fun o _ ih => valT o f :: ih) l
theorem valsT_eq (l : List AOpd) (f : Fr) : valsT l f=l.map (·.val f):=by
 induction l with
 | nil => rfl
 | cons o l ih => show valT o f :: valsT l f=_; rw [ih,valT_eq]; rfl
def oneV (v : AV) (h : AH) : Option ARes:=some (.val v h)
def optV (o : Option AV) (h : AH) : Option ARes:=@Option.rec AV (fun _ => Option ARes) none (fun v => some (.val v h)) o
theorem optV_eq (o : Option AV) (h : AH) : optV o h=o.map (.val · h):=by cases o <;> rfl
def optH (o : Option AH) : Option ARes:=@Option.rec AH (fun _ => Option ARes) none (fun h => some (.val .none h)) o
def optP (o : Option (AV×AH)) : Option ARes:=@Option.rec (AV×AH) (fun _ => Option ARes) none (fun p => some (.val p.1 p.2)) o
def pickT (c : Bool) (a b : AV) : AV:=Bool.rec b a c
def natT (v : AV) : Option Nat:=match v with
 | .int _ n => @Int.rec (fun _ => Option Nat) (fun m => some m) (fun _ => none) n
 | _ => none
theorem natT_eq (v : AV) : natT v=natOf v:=by
 cases v <;> try rfl
 rename_i k n
 cases n <;> simp [natT,natOf]
def eMov (x : AOpd) (f : Fr) (h : AH) : Option ARes:=some (.val (valT x f) h)
def pick1 (a b : AOpd) (f : Fr) (h : AH) (c : AV) : Option ARes:=match c with
 | .bool t => some (.val (pickT t (valT a f) (valT b f)) h)
 | _ => none
def ePick (c a b : AOpd) (f : Fr) (h : AH) : Option ARes:=pick1 a b f h (valT c f)
def eNew (z : List AV) (f : Fr) (h : AH) : Option ARes:=some (.val (.ptr h.next 0) (hnew h (.cells z true)))
def load1r (o : Option AV) (h : AH) : Option ARes:=optV o h
def loadAgg (h : AH) (n o off : Nat) : Option ARes:=(h.load o off n).map fun l => .val (.agg l) h
def loadP (g : Bool) (n : Nat) (h : AH) (o off : Nat) : Option ARes:=Bool.rec (optV (load1 h o off) h) (loadAgg h n o off) g
def load0 (g : Bool) (n : Nat) (h : AH) (a : AV) : Option ARes:=match a with
 | .ptr o off => loadP g n h o off
 | _ => none
def eLoad (g : Bool) (n : Nat) (a : AOpd) (f : Fr) (h : AH) : Option ARes:=load0 g n h (valT a f)
def storeAgg (n : Nat) (h : AH) (v : AV) (o off : Nat) : Option ARes:=if v.cells.length=n then (h.store o off v.cells).map fun h' => .val .none h' else none
def isOne (v : AV) : Bool:=match v with
 | .agg _ => false
 | _ => true
def storeP (n : Nat) (h : AH) (v : AV) (o off : Nat) : Option ARes :=
 Bool.rec (storeAgg n h v o off) (Bool.rec (storeAgg n h v o off) (optH (store1 h o off v)) (Nat.beq n 1)) (isOne v)
def store0 (n : Nat) (h : AH) (v : AV) (a : AV) : Option ARes:=match a with
 | .ptr o off => storeP n h v o off
 | _ => none
def eStore (n : Nat) (a v : AOpd) (f : Fr) (h : AH) : Option ARes:=store0 n h (valT v f) (valT a f)
def binII (op : BinOp) (k : IntKind) (a : Int) (k' : IntKind) (b : Int) : Option AV :=
 Bool.rec (Bool.rec none (intBinT op k a b) (kindEq k k')) (shiftT op k a b) (isShift op)
def binI (op : BinOp) (k : IntKind) (a : Int) (y : AV) : Option AV:=match y with
 | .int k' b => binII op k a k' b
 | _ => none
def binS (op : BinOp) (a : List UInt8) (y : AV) : Option AV:=match y with
 | .str b => strBin op a b
 | _ => none
def binT (op : BinOp) (x y : AV) : Option AV:=match x with
 | .int k a => binI op k a y
 | .str a => binS op a y
 | _ => none
theorem binT_eq (op : BinOp) (x y : AV) : binT op x y=binV op x y:=by
 cases x with
 | int k a =>
  cases y with
  | int k' b =>
   show binII op k a k' b=_
   unfold binII binV
   rw [kindEq_iff]
   cases hs : isShift op
   ·simp only [Bool.false_eq_true,if_false]
    by_cases hk : k=k'
    ·subst hk; simp only [decide_true,if_true,intBinT_eq]
    ·simp only [hk,decide_false,if_false]
   ·simp only [if_true,shiftT_eq]
  | _ => rfl
 | str a => cases y <;> rfl
 | _ => rfl
def eBin (op : BinOp) (x y : AOpd) (f : Fr) (h : AH) : Option ARes:=optV (binT op (valT x f) (valT y f)) h
def xorB (n a b : Bool) : Bool:=Bool.rec (Bool.rec (Bool.rec true false b) b a) (Bool.rec b (Bool.rec true false b) a) n
def eqB1 (n a : Bool) (h : AH) (y : AV) : Option ARes:=match y with
 | .bool b => some (.val (.bool (xorB n a b)) h)
 | _ => none
def eqB0 (n : Bool) (x y : AV) (h : AH) : Option ARes:=match x with
 | .bool a => eqB1 n a h y
 | _ => none
def eEqB (n : Bool) (x y : AOpd) (f : Fr) (h : AH) : Option ARes:=eqB0 n (valT x f) (valT y f) h
def eEqNil (k : Nat) (n : Bool) (x y : AOpd) (f : Fr) (h : AH) : Option ARes:=(eqNilV k (valT x f) (valT y f)).map fun b => .val (.bool (if n then !b else b)) h
def un0 (op : UnOp) (h : AH) (v : AV) : Option ARes:=match v with
 | .bool b => match op with
  | .not => some (.val (.bool (Bool.rec true false b)) h)
  | _ => none
 | v => optV (unV op v) h
def eUn (op : UnOp) (x : AOpd) (f : Fr) (h : AH) : Option ARes:=un0 op h (valT x f)
def toInt0 (k : IntKind) (h : AH) (v : AV) : Option ARes:=match v with
 | .int _ n => some (.val (.int k (wrapT k n)) h)
 | _ => none
def eToInt (k : IntKind) (x : AOpd) (f : Fr) (h : AH) : Option ARes:=toInt0 k h (valT x f)
def fieldAddr0 (off : Nat) (h : AH) (v : AV) : Option ARes:=match v with
 | .ptr o i => some (.val (.ptr o (Nat.add i off)) h)
 | _ => none
def eFieldAddr (off : Nat) (x : AOpd) (f : Fr) (h : AH) : Option ARes:=fieldAddr0 off h (valT x f)
def field1 (off n : Nat) (h : AH) (l : List AV) (g : Bool) : Option ARes:=Bool.rec (optV (nthT l off) h) ((partV true l off n).map (.val · h)) g
def field0 (g : Bool) (off n : Nat) (h : AH) (v : AV) : Option ARes:=match v with
 | .agg l => field1 off n h l g
 | _ => none
def eField (g : Bool) (off n : Nat) (x : AOpd) (f : Fr) (h : AH) : Option ARes:=field0 g off n h (valT x f)
def idxA2 (sz : Nat) (h : AH) (o off z len : Nat) (i : Option Nat) : Option ARes:=match i with
 | some i => Bool.rec none (Bool.rec none (some (.val (.ptr o (Nat.add off (Nat.mul i sz))) h)) (Nat.ble (Nat.succ i) len)) (Nat.beq z sz)
 | none => none
def idxA0 (sz : Nat) (h : AH) (i : AV) (v : AV) : Option ARes:=match v with
 | .slice o off z len _ _ => idxA2 sz h o off z len (natT i)
 | _ => none
def eIdxAddr (sz : Nat) (x i : AOpd) (f : Fr) (h : AH) : Option ARes:=idxA0 sz h (valT i f) (valT x f)
def idxR2 (n sz : Nat) (h : AH) (o off : Nat) (i : Option Nat) : Option ARes:=match i with
 | some i => Bool.rec none (some (.val (.ptr o (Nat.add off (Nat.mul i sz))) h)) (Nat.ble (Nat.succ i) n)
 | none => none
def idxR0 (n sz : Nat) (h : AH) (i : AV) (v : AV) : Option ARes:=match v with
 | .ptr o off => idxR2 n sz h o off (natT i)
 | _ => none
def eIdxAddrArr (n sz : Nat) (x i : AOpd) (f : Fr) (h : AH) : Option ARes:=idxR0 n sz h (valT i f) (valT x f)
def idxS3 (h : AH) (b : Option UInt8) : Option ARes:=match b with
 | some b => some (.val (.int .u8 (.ofNat b.toNat)) h)
 | none => none
def idxS2 (h : AH) (s : List UInt8) (i : Option Nat) : Option ARes:=match i with
 | some i => idxS3 h (nthT s i)
 | none => none
def idxS0 (h : AH) (i : AV) (v : AV) : Option ARes:=match v with
 | .str s => idxS2 h s (natT i)
 | _ => none
def eIdxStr (x i : AOpd) (f : Fr) (h : AH) : Option ARes:=idxS0 h (valT i f) (valT x f)
def lenStr0 (h : AH) (v : AV) : Option ARes:=match v with
 | .str s => some (.val (.int .i64 (.ofNat s.length)) h)
 | _ => none
def eLenStr (x : AOpd) (f : Fr) (h : AH) : Option ARes:=lenStr0 h (valT x f)
def lenSlice0 (h : AH) (v : AV) : Option ARes:=match v with
 | .slice _ _ _ l _ _ => some (.val (.int .i64 (.ofNat l)) h)
 | .nilSlice => some (.val (.int .i64 (.ofNat 0)) h)
 | _ => none
def eLenSlice (x : AOpd) (f : Fr) (h : AH) : Option ARes:=lenSlice0 h (valT x f)
def eLenC (n : Nat) (f : Fr) (h : AH) : Option ARes:=some (.val (.int .i64 (.ofNat n)) h)
def extract0 (i : Nat) (h : AH) (v : AV) : Option ARes:=match v with
 | .tuple l => optV (nthT l i) h
 | _ => none
def eExtract (x : AOpd) (i : Nat) (f : Fr) (h : AH) : Option ARes:=extract0 i h (valT x f)
def eCall (g : Nat) (args : List AOpd) (f : Fr) (h : AH) : Option ARes:=some (.call g (valsT args f))
def eIface (t : Nat) (x : AOpd) (f : Fr) (h : AH) : Option ARes:=some (.val (.iface t (valT x f)) h)
def eCold (o : AOp) (f : Fr) (h : AH) : Option ARes:=o.eval f h
def evT (o : AOp) : Fr→AH→Option ARes :=
 @AOp.casesOn (fun _ => Fr→AH→Option ARes) o eMov ePick eNew (fun x => eCold (.box x)) (fun z p => eCold (.build z p)) (fun s l z p => eCold (.buildSlice s l z p))
  eLoad eStore (fun x => eCold (.nilChk x)) eBin eEqB eEqNil (fun k n x y => eCold (.eqAgg k n x y)) eUn eToInt (fun x => eCold (.asStr x)) (fun x => eCold (.toBytes x)) (fun x => eCold (.toStr x))
  eIface (fun g a c => eCold (.mkFunc g a c)) (eCold .mkMap) (fun s b z l c => eCold (.mkSlice s b z l c)) (fun s x l u m => eCold (.slc s x l u m)) (fun x l u => eCold (.slcStr x l u))
  (fun n s x l u m => eCold (.slcArr n s x l u m)) eFieldAddr eField eIdxAddr eIdxAddrArr eIdxStr (fun g n s x i => eCold (.idxArr g n s x i)) (fun k z c m x => eCold (.lookup k z c m x))
  (fun k m x v => eCold (.mapUpd k m x v)) (fun k m x => eCold (.del k m x)) eLenStr eLenSlice (fun x => eCold (.lenMap x)) eLenC (fun x => eCold (.capSlice x)) (fun b l => eCold (.mnx b l))
  (fun s b x y => eCold (.append s b x y)) (fun x y => eCold (.appendStr x y)) (fun s b z x n => eCold (.appendZ s b z x n)) (fun s x y => eCold (.copy s x y)) (fun x y => eCold (.copyStr x y))
  (fun s z x => eCold (.clear s z x)) (fun x => eCold (.mark x)) eExtract (fun t z c x => eCold (.assertT t z c x)) eCall (fun x a => eCold (.callV x a)) (fun t x a => eCold (.callM t x a)) (eCold .stuck)
theorem evT_eq (o : AOp) (f : Fr) (h : AH) : evT o f h=o.eval f h:=by
 cases o <;> try rfl
 case mov x => show some (ARes.val (valT x f) h)=_; rw [valT_eq]; rfl
 case pick c a b =>
  show pick1 a b f h (valT c f)=_
  rw [valT_eq]; unfold pick1
  simp only [AOp.eval]
  cases c.val f <;> try rfl
  rename_i t
  cases t <;> simp only [pickT,valT_eq] <;> rfl
 case new z => show some (ARes.val (.ptr h.next 0) (hnew h (.cells z true)))=_; rw [hnew_eq]; rfl
 case load g n a =>
  show load0 g n h (valT a f)=_
  rw [valT_eq]; unfold load0
  simp only [AOp.eval]
  cases a.val f <;> try rfl
  rename_i o off
  show loadP g n h o off=_
  unfold loadP
  cases g
  ·show optV (load1 h o off) h=_
   rw [optV_eq,← load1_eq]
   simp only [Bool.false_eq_true,if_false]
   generalize h.load o off 1=l
   cases l with
   | none => rfl
   | some l =>
    cases l with
    | nil => rfl
    | cons x r => cases r <;> rfl
  ·rfl
 case store n a v =>
  show store0 n h (valT v f) (valT a f)=_
  rw [valT_eq,valT_eq]; unfold store0
  simp only [AOp.eval]
  cases a.val f <;> try rfl
  rename_i o off
  show storeP n h (v.val f) o off=_
  unfold storeP
  generalize v.val f=u
  cases hu : isOne u
  ·rfl
  ·cases hn : Nat.beq n 1
   ·rfl
   ·have : n=1:=Nat.eq_of_beq_eq_true hn
    subst this
    have hc : u.cells=[u]:=by cases u <;> first | rfl | cases hu
    show optH (store1 h o off u)=_
    simp only [hc,List.length_cons,List.length_nil,if_true]
    rw [store1_eq]
    cases store1 h o off u <;> rfl
 case bin op x y => show optV (binT op (valT x f) (valT y f)) h=_; rw [optV_eq,binT_eq,valT_eq,valT_eq]; rfl
 case eqB n x y =>
  show eqB0 n (valT x f) (valT y f) h=_
  rw [valT_eq,valT_eq]
  simp only [AOp.eval]
  generalize x.val f=p; generalize y.val f=q
  cases p <;> try rfl
  cases q <;> try rfl
  rename_i a b
  cases n <;> cases a <;> cases b <;> rfl
 case eqNil k n x y => show Option.map _ (eqNilV k (valT x f) (valT y f))=_; rw [valT_eq,valT_eq]; rfl
 case un op x =>
  show un0 op h (valT x f)=_
  rw [valT_eq]
  simp only [AOp.eval]
  generalize x.val f=p
  cases p <;> try (first | rfl | exact optV_eq _ _)
  rename_i b
  cases op <;> try rfl
  cases b <;> rfl
 case toInt k x =>
  show toInt0 k h (valT x f)=_
  rw [valT_eq]
  simp only [AOp.eval]
  generalize x.val f=p
  cases p <;> try rfl
  simp only [toInt0,wrapT_eq]
 case mkIface t x => show some (ARes.val (.iface t (valT x f)) h)=_; rw [valT_eq]; rfl
 case fieldAddr off x =>
  show fieldAddr0 off h (valT x f)=_
  rw [valT_eq]
  simp only [AOp.eval]
  generalize x.val f=p
  cases p <;> rfl
 case field g off n x =>
  show field0 g off n h (valT x f)=_
  rw [valT_eq]
  simp only [AOp.eval]
  generalize x.val f=p
  cases p <;> try rfl
  rename_i l
  show field1 off n h l g=_
  unfold field1
  cases g
  ·show optV (nthT l off) h=_
   rw [optV_eq,nthT_eq]; rfl
  ·rfl
 case idxAddr sz x i =>
  show idxA0 sz h (valT i f) (valT x f)=_
  rw [valT_eq,valT_eq]
  simp only [AOp.eval]
  generalize x.val f=p
  cases p <;> try rfl
  rename_i o off z len c e
  show idxA2 sz h o off z len (natT (i.val f))=_
  rw [natT_eq]
  cases natOf (i.val f) with
  | none => rfl
  | some i =>
   simp only [idxA2]
   cases h1 : Nat.beq z sz
   ·rw [if_neg (fun hh => by rw [hh.1,Nat.beq_refl] at h1; cases h1)]
   ·have e1:=Nat.eq_of_beq_eq_true h1
    cases h2 : Nat.ble (Nat.succ i) len
    ·rw [if_neg (fun hh => by rw [Nat.ble_eq_true_of_le hh.2] at h2; cases h2)]
    ·rw [if_pos ⟨e1,Nat.le_of_ble_eq_true h2⟩]; rfl
 case idxAddrArr n sz x i =>
  show idxR0 n sz h (valT i f) (valT x f)=_
  rw [valT_eq,valT_eq]
  simp only [AOp.eval]
  generalize x.val f=p
  cases p <;> try rfl
  rename_i o off
  show idxR2 n sz h o off (natT (i.val f))=_
  rw [natT_eq]
  cases natOf (i.val f) with
  | none => rfl
  | some i =>
   simp only [idxR2]
   cases h2 : Nat.ble (Nat.succ i) n
   ·rw [if_neg (fun hh => by rw [Nat.ble_eq_true_of_le hh] at h2; cases h2)]
   ·rw [if_pos (show i < n from Nat.le_of_ble_eq_true h2)]; rfl
 case idxStr x i =>
  show idxS0 h (valT i f) (valT x f)=_
  rw [valT_eq,valT_eq]
  simp only [AOp.eval]
  generalize x.val f=p
  cases p <;> try rfl
  rename_i s
  show idxS2 h s (natT (i.val f))=_
  rw [natT_eq]
  cases natOf (i.val f) with
  | none => rfl
  | some i =>
   simp only [idxS2,nthT_eq]
   cases s[i]? <;> rfl
 case lenStr x =>
  show lenStr0 h (valT x f)=_
  rw [valT_eq]
  simp only [AOp.eval]
  generalize x.val f=p
  cases p <;> rfl
 case lenSlice x =>
  show lenSlice0 h (valT x f)=_
  rw [valT_eq]
  simp only [AOp.eval]
  generalize x.val f=p
  cases p <;> rfl
 case extract x i =>
  show extract0 i h (valT x f)=_
  rw [valT_eq]
  simp only [AOp.eval]
  generalize x.val f=p
  cases p <;> try rfl
  show optV (nthT _ _) h=_
  rw [optV_eq,nthT_eq]
 case call g args => show some (ARes.call g (valsT args f))=_; rw [valsT_eq]; rfl
def doneC (d : Option Nat) (f : Fr) (p : Option (AV×AH)) : Option (Fr×AH):=@Option.rec (AV×AH) (fun _ => Option (Fr×AH)) none (fun p => some (putT f d p.1,p.2)) p
def doneR (call : Handler) (d : Option Nat) (f : Fr) (h : AH) (r : ARes) : Option (Fr×AH):=match r with
 | .val v h' => some (putT f d v,h')
 | .call g args => doneC d f (call g args h)
def doneO (call : Handler) (d : Option Nat) (f : Fr) (h : AH) (r : Option ARes) : Option (Fr×AH):=@Option.rec ARes (fun _ => Option (Fr×AH)) none (doneR call d f h) r
def guard1 (want : Bool) (v : AV) : Option Bool:=match v with
 | .bool b => some (Bool.rec (Bool.rec true false want) want b)
 | .tuple _ => some false
 | _ => none
def guarded (call : Handler) (d : Option Nat) (o : AOp) (f : Fr) (h : AH) (t : Option Bool) : Option (Fr×AH):=match t with
 | some true => doneO call d f h (evT o f h)
 | some false => some (putT f d .none,h)
 | none => none
def runG (call : Handler) (d : Option Nat) (o : AOp) (f : Fr) (h : AH) (g : Option (Nat×Bool)) : Option (Fr×AH):=match g with
 | none => doneO call d f h (evT o f h)
 | some (t,want) => guarded call d o f h (guard1 want (atT f t))
def runT (call : Handler) (o : AOper) (f : Fr) (h : AH) : Option (Fr×AH):=@AOper.rec (fun _ => Option (Fr×AH)) (fun d o g => runG call d o f h g) o
theorem doneO_eq (call : Handler) (d : Option Nat) (f : Fr) (h : AH) (r : Option ARes) : doneO call d f h r=match r with
  | some (.val v h') => some (Fr.put f d v,h')
  | some (.call g args) => (call g args h).map fun (v,h') => (Fr.put f d v,h')
  | none => none:=by
 cases r with
 | none => rfl
 | some r =>
  cases r with
  | val v h' => show some (putT f d v,h')=_; rw [putT_eq]
  | call g args =>
   show doneC d f (call g args h)=(call g args h).map fun p => (Fr.put f d p.1,p.2)
   unfold doneC
   cases call g args h with
   | none => rfl
   | some p => show some (putT f d p.1,p.2)=_; rw [putT_eq]; rfl
theorem runT_eq (call : Handler) (o : AOper) (f : Fr) (h : AH) : runT call o f h=o.run call f h:=by
 obtain ⟨d,o,g⟩:=o
 show runG call d o f h g=_
 unfold AOper.run
 cases g with
 | none => show doneO call d f h (evT o f h)=_; rw [doneO_eq,evT_eq]; rfl
 | some p =>
  obtain ⟨t,want⟩:=p
  show guarded call d o f h (guard1 want (atT f t))=_
  have : guard1 want (atT f t)=wantedV f (some (t,want)):=by
   rw [atT_eq]; simp only [wantedV]
   cases f.at t <;> try rfl
   rename_i b
   cases b <;> cases want <;> rfl
  rw [this]
  cases wantedV f (some (t,want)) with
  | none => rfl
  | some b =>
   cases b
   ·show some (putT f d .none,h)=_; rw [putT_eq]
   ·show doneO call d f h (evT o f h)=_; rw [doneO_eq,evT_eq]; rfl
def goOn (k : Fr→AH→Option (Fr×AH)) (r : Option (Fr×AH)) : Option (Fr×AH):=@Option.rec (Fr×AH) (fun _ => Option (Fr×AH)) none (fun p => k p.1 p.2) r
def opsNil (_ : Handler) (f : Fr) (h : AH) : Option (Fr×AH):=some (f,h)
def opsCons (o : AOper) (_ : List AOper) (ih : Handler→Fr→AH→Option (Fr×AH)) (call : Handler) (f : Fr) (h : AH) : Option (Fr×AH):=goOn (ih call) (runT call o f h)
def opsT (l : List AOper) : Handler→Fr→AH→Option (Fr×AH):=@List.rec AOper (fun _ => Handler→Fr→AH→Option (Fr×AH)) opsNil opsCons l
theorem opsT_eq (call : Handler) : ∀ (l : List AOper) (f : Fr) (h : AH),opsT l call f h=runOps call l f h
 | [],_,_ => rfl
 | o :: l,f,h => by
  show goOn (opsT l call) (runT call o f h)=_
  rw [runT_eq,show opsT l call=runOps call l from funext fun f => funext fun h => opsT_eq call l f h]
  simp only [runOps]
  cases o.run call f h <;> rfl
def thenT (k : Fr→AH→Out) (r : Out) : Out:=match r with
 | some (.normal,f,h) => k f h
 | r => r
def condT (a b : Fr→AH→Out) (f : Fr) (h : AH) (c : AV) : Out:=match c with
 | .bool t => Bool.rec (b f h) (a f h) t
 | _ => none
def leaveT (id : Nat) (r : Out) : Out:=match r with
 | some (.exit i,f,h) => some (Bool.rec (.exit i) .normal (Nat.beq i id),f,h)
 | r => r
def endT (r : Option (Fr×AH)) : Out:=@Option.rec (Fr×AH) (fun _ => Out) none (fun p => some (.normal,p.1,p.2)) r
abbrev CodeT:=Handler→Nat→Fr→AH→Out
def loopT (body : Fr→AH→Out) (n : Nat) : Fr→AH→Out :=
 @Nat.rec (fun _ => Fr→AH→Out) (fun _ _ => none) (fun _ ih f h => thenT ih (body f h)) n
def cSkip : CodeT:=fun _ _ f h => some (.normal,f,h)
def cOps (l : List AOper) : CodeT:=fun call _ f h => endT (opsT l call f h)
def cDrawT (l : List DItem) : CodeT:=fun call _ f h => endT (runItems call l f h)
def cSeq (_ _ : ACode) (a b : CodeT) : CodeT:=fun call lf f h => thenT (b call lf) (a call lf f h)
def cCond (c : AOpd) (_ _ : ACode) (a b : CodeT) : CodeT:=fun call lf f h => condT (a call lf) (b call lf) f h (valT c f)
def cBlock (id : Nat) (_ : ACode) (a : CodeT) : CodeT:=fun call lf f h => leaveT id (a call lf f h)
def cLoop (_ : ACode) (a : CodeT) : CodeT:=fun call lf f h => loopT (a call lf) lf f h
def cExit (id : Nat) : CodeT:=fun _ _ f h => some (.exit id,f,h)
def cRet : CodeT:=fun _ _ f h => some (.ret,f,h)
def cStuck : CodeT:=fun _ _ _ _ => none
def codeT (c : ACode) : CodeT:=@ACode.rec (fun _ => CodeT) cSkip cOps cDrawT cSeq cCond cBlock cLoop cExit cRet cStuck c
theorem loopT_eq (body : Fr→AH→Out) : ∀ (n : Nat) (f : Fr) (h : AH),loopT body n f h=aloop body n f h
 | 0,_,_ => rfl
 | n + 1,f,h => by
  show thenT (loopT body n) (body f h)=_
  rw [show loopT body n=aloop body n from funext fun f => funext fun h => loopT_eq body n f h]
  rfl
theorem codeT_eq (call : Handler) (lf : Nat) : ∀ (c : ACode),codeT c call lf=acode call lf c:=by
 intro c
 induction c with
 | skip => rfl
 | ops l =>
  funext f h
  show endT (opsT l call f h)=_
  rw [opsT_eq]; simp only [acode]
  cases runOps call l f h <;> rfl
 | draw l =>
  funext f h
  show endT (runItems call l f h)=_
  simp only [acode]
  cases runItems call l f h <;> rfl
 | seq a b iha ihb =>
  funext f h
  show thenT (codeT b call lf) (codeT a call lf f h)=_
  rw [iha,ihb]; rfl
 | cond c a b iha ihb =>
  funext f h
  show condT (codeT a call lf) (codeT b call lf) f h (valT c f)=_
  rw [iha,ihb,valT_eq]
  simp only [acode]
  cases c.val f <;> try rfl
  rename_i t
  cases t <;> rfl
 | block id a ih =>
  funext f h
  show leaveT id (codeT a call lf f h)=_
  rw [ih]
  simp only [acode]
  cases acode call lf a f h with
  | none => rfl
  | some p =>
   obtain ⟨e,f',h'⟩:=p
   cases e <;> try rfl
   rename_i i
   show some (Bool.rec (AExit.exit i) AExit.normal (Nat.beq i id),f',h')=some (if i=id then AExit.normal else AExit.exit i,f',h')
   by_cases e : i=id
   ·subst e; rw [Nat.beq_refl,if_pos rfl]
   ·rw [if_neg e,show Nat.beq i id=false from Bool.eq_false_iff.2 fun hb => e (Nat.eq_of_beq_eq_true hb)]
 | loop a ih =>
  funext f h
  show loopT (codeT a call lf) lf f h=_
  rw [ih,loopT_eq]; rfl
 | exit id => rfl
 | ret => rfl
 | stuck => rfl
def finT (rs : List AResult) (f : Fr) (h : AH) : Option (AV×AH):=(resultsV f h rs).map fun l => (tupleV l,h)
def finO (rs : List AResult) (r : Out) : Option (AV×AH):=match r with
 | some (.normal,f,h) => finT rs f h
 | some (.ret,f,h) => finT rs f h
 | _ => none
def funT (call : Handler) (lf : Nat) (args : List AV) (h : AH) (fn : AFunc) : Option (AV×AH) :=
 Bool.rec none (finO fn.results (codeT fn.body call lf (Fr.ofArgs 0 args .nil) h)) (Nat.beq args.length fn.nargs)
theorem funT_eq (call : Handler) (lf : Nat) (args : List AV) (h : AH) (fn : AFunc) : funT call lf args h fn=fn.run call lf args h:=by
 unfold funT AFunc.run
 by_cases e : args.length=fn.nargs
 ·rw [if_pos e,e,Nat.beq_refl,codeT_eq]
  unfold finO finT
  cases acode call lf fn.body (Fr.ofArgs 0 args .nil) h with
  | none => rfl
  | some p =>
   obtain ⟨e',f',h'⟩:=p
   cases e' <;> rfl
 ·rw [if_neg e,show Nat.beq args.length fn.nargs=false from Bool.eq_false_iff.2 fun hb => e (Nat.eq_of_beq_eq_true hb)]
def callT (func : Nat→Option AFunc) (ih : Handler) (lf : Nat) (g : Nat) (args : List AV) (h : AH) : Option (AV×AH) :=
 @Option.rec AFunc (fun _ => Option (AV×AH)) none (funT ih lf args h) (func g)
def arunT (func : Nat→Option AFunc) (n : Nat) : Handler:=@Nat.rec (fun _ => Handler) (fun _ _ _ => none) (fun n ih => callT func ih (Nat.succ n)) n
end
end Go.Vm

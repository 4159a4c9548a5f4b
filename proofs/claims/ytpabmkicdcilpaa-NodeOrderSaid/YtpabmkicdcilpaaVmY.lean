/- The same machine in a form that the kernel runs faster: operations, code, calls; and that it is the same. -/
import Derived.Test.YtpabmkicdcilpaaVmX
namespace Go.Vm
open Go.RowKit
set_option linter.unusedSimpArgs false
set_option linter.unusedVariables false
noncomputable section
variable {f : Fr} {h : AH}

/-! ### operands, small parts -/
def valT (o : AOpd) : Fr → AV := @AOpd.rec (fun _ => Fr → AV) (fun t f => atT f t) (fun v _ => v) o
theorem valT_eq (o : AOpd) (f : Fr) : valT o f = o.val f := by cases o <;> first | exact atT_eq f _ | rfl
def valsT (l : List AOpd) (f : Fr) : List AV := @List.rec AOpd (fun _ => List AV) [] (fun o _ ih => valT o f :: ih) l
theorem valsT_eq (l : List AOpd) (f : Fr) : valsT l f = l.map (·.val f) := by
  induction l with
  | nil => rfl
  | cons o l ih => show valT o f :: valsT l f = _; rw [ih, valT_eq]; rfl
def oneV (v : AV) (h : AH) : Option ARes := some (.val v h)
def optV (o : Option AV) (h : AH) : Option ARes := @Option.rec AV (fun _ => Option ARes) none (fun v => some (.val v h)) o
theorem optV_eq (o : Option AV) (h : AH) : optV o h = o.map (.val · h) := by cases o <;> rfl
def optH (o : Option AH) : Option ARes := @Option.rec AH (fun _ => Option ARes) none (fun h => some (.val .none h)) o
def optP (o : Option (AV × AH)) : Option ARes := @Option.rec (AV × AH) (fun _ => Option ARes) none (fun p => some (.val p.1 p.2)) o
theorem optP_eq (o : Option (AV × AH)) : optP o = o.map fun (v, h') => .val v h' := by cases o <;> rfl
def pickT (c : Bool) (a b : AV) : AV := Bool.rec b a c
def natT (v : AV) : Option Nat := match v with
  | .int _ n => @Int.rec (fun _ => Option Nat) (fun m => some m) (fun _ => none) n
  | _ => none
theorem natT_eq (v : AV) : natT v = natOf v := by
  cases v <;> try rfl
  rename_i k n
  cases n <;> simp [natT, natOf]

/-! ### operations -/
def eMov (x : AOpd) (f : Fr) (h : AH) : Option ARes := some (.val (valT x f) h)
def pick1 (a b : AOpd) (f : Fr) (h : AH) (c : AV) : Option ARes := match c with
  | .bool t => some (.val (pickT t (valT a f) (valT b f)) h)
  | _ => none
def ePick (c a b : AOpd) (f : Fr) (h : AH) : Option ARes := pick1 a b f h (valT c f)
def eNew (z : List AV) (f : Fr) (h : AH) : Option ARes := some (.val (.ptr h.next 0) (hnew h (.cells z true)))
def load1r (o : Option AV) (h : AH) : Option ARes := optV o h
def loadAgg (h : AH) (n o off : Nat) : Option ARes := (h.load o off n).map fun l => .val (.agg l) h
def loadP (g : Bool) (n : Nat) (h : AH) (o off : Nat) : Option ARes := Bool.rec (optV (load1 h o off) h) (loadAgg h n o off) g
def load0 (g : Bool) (n : Nat) (h : AH) (a : AV) : Option ARes := match a with
  | .ptr o off => loadP g n h o off
  | _ => none
def eLoad (g : Bool) (n : Nat) (a : AOpd) (f : Fr) (h : AH) : Option ARes := load0 g n h (valT a f)
def storeAgg (n : Nat) (h : AH) (v : AV) (o off : Nat) : Option ARes := if v.cells.length = n then (h.store o off v.cells).map fun h' => .val .none h' else none
def isOne (v : AV) : Bool := match v with
  | .agg _ => false
  | _ => true
def storeP (n : Nat) (h : AH) (v : AV) (o off : Nat) : Option ARes :=
  Bool.rec (storeAgg n h v o off) (Bool.rec (storeAgg n h v o off) (optH (store1 h o off v)) (Nat.beq n 1)) (isOne v)
def store0 (n : Nat) (h : AH) (v : AV) (a : AV) : Option ARes := match a with
  | .ptr o off => storeP n h v o off
  | _ => none
def eStore (n : Nat) (a v : AOpd) (f : Fr) (h : AH) : Option ARes := store0 n h (valT v f) (valT a f)
def binII (op : BinOp) (k : IntKind) (a : Int) (k' : IntKind) (b : Int) : Option AV :=
  Bool.rec (Bool.rec none (intBinT op k a b) (kindEq k k')) (shiftT op k a b) (isShift op)
def binI (op : BinOp) (k : IntKind) (a : Int) (y : AV) : Option AV := match y with
  | .int k' b => binII op k a k' b
  | _ => none
def binS (op : BinOp) (a : List UInt8) (y : AV) : Option AV := match y with
  | .str b => strBin op a b
  | _ => none
def binT (op : BinOp) (x y : AV) : Option AV := match x with
  | .int k a => binI op k a y
  | .str a => binS op a y
  | _ => none
theorem binT_eq (op : BinOp) (x y : AV) : binT op x y = binV op x y := by
  cases x with
  | int k a =>
    cases y with
    | int k' b =>
      show binII op k a k' b = _
      unfold binII binV
      rw [kindEq_iff]
      cases hs : isShift op
      · simp only [Bool.false_eq_true, if_false]
        by_cases hk : k = k'
        · subst hk; simp only [decide_true, if_true, intBinT_eq]
        · simp only [hk, decide_false, if_false]
      · simp only [if_true, shiftT_eq]
    | _ => rfl
  | str a => cases y <;> rfl
  | _ => rfl
def eBin (op : BinOp) (x y : AOpd) (f : Fr) (h : AH) : Option ARes := optV (binT op (valT x f) (valT y f)) h
def xorB (n a b : Bool) : Bool := Bool.rec (Bool.rec (Bool.rec true false b) b a) (Bool.rec b (Bool.rec true false b) a) n
def eqB1 (n a : Bool) (h : AH) (y : AV) : Option ARes := match y with
  | .bool b => some (.val (.bool (xorB n a b)) h)
  | _ => none
def eqB0 (n : Bool) (x y : AV) (h : AH) : Option ARes := match x with
  | .bool a => eqB1 n a h y
  | _ => none
def eEqB (n : Bool) (x y : AOpd) (f : Fr) (h : AH) : Option ARes := eqB0 n (valT x f) (valT y f) h
def eEqNil (k : Nat) (n : Bool) (x y : AOpd) (f : Fr) (h : AH) : Option ARes := (eqNilV k (valT x f) (valT y f)).map fun b => .val (.bool (if n then !b else b)) h
def un0 (op : UnOp) (h : AH) (v : AV) : Option ARes := match v with
  | .bool b => match op with
    | .not => some (.val (.bool (Bool.rec true false b)) h)
    | _ => none
  | v => optV (unV op v) h
def eUn (op : UnOp) (x : AOpd) (f : Fr) (h : AH) : Option ARes := un0 op h (valT x f)
def toInt0 (k : IntKind) (h : AH) (v : AV) : Option ARes := match v with
  | .int _ n => some (.val (.int k (wrapT k n)) h)
  | _ => none
def eToInt (k : IntKind) (x : AOpd) (f : Fr) (h : AH) : Option ARes := toInt0 k h (valT x f)
def fieldAddr0 (off : Nat) (h : AH) (v : AV) : Option ARes := match v with
  | .ptr o i => some (.val (.ptr o (Nat.add i off)) h)
  | _ => none
def eFieldAddr (off : Nat) (x : AOpd) (f : Fr) (h : AH) : Option ARes := fieldAddr0 off h (valT x f)
def field1 (off n : Nat) (h : AH) (l : List AV) (g : Bool) : Option ARes := Bool.rec (optV (nthT l off) h) ((partV true l off n).map (.val · h)) g
def field0 (g : Bool) (off n : Nat) (h : AH) (v : AV) : Option ARes := match v with
  | .agg l => field1 off n h l g
  | _ => none
def eField (g : Bool) (off n : Nat) (x : AOpd) (f : Fr) (h : AH) : Option ARes := field0 g off n h (valT x f)
def idxA2 (sz : Nat) (h : AH) (o off z len : Nat) (i : Option Nat) : Option ARes := match i with
  | some i => Bool.rec none (Bool.rec none (some (.val (.ptr o (Nat.add off (Nat.mul i sz))) h)) (Nat.ble (Nat.succ i) len)) (Nat.beq z sz)
  | none => none
def idxA0 (sz : Nat) (h : AH) (i : AV) (v : AV) : Option ARes := match v with
  | .slice o off z len _ _ => idxA2 sz h o off z len (natT i)
  | _ => none
def eIdxAddr (sz : Nat) (x i : AOpd) (f : Fr) (h : AH) : Option ARes := idxA0 sz h (valT i f) (valT x f)
def idxR2 (n sz : Nat) (h : AH) (o off : Nat) (i : Option Nat) : Option ARes := match i with
  | some i => Bool.rec none (some (.val (.ptr o (Nat.add off (Nat.mul i sz))) h)) (Nat.ble (Nat.succ i) n)
  | none => none
def idxR0 (n sz : Nat) (h : AH) (i : AV) (v : AV) : Option ARes := match v with
  | .ptr o off => idxR2 n sz h o off (natT i)
  | _ => none
def eIdxAddrArr (n sz : Nat) (x i : AOpd) (f : Fr) (h : AH) : Option ARes := idxR0 n sz h (valT i f) (valT x f)
def idxS3 (h : AH) (b : Option UInt8) : Option ARes := match b with
  | some b => some (.val (.int .u8 (.ofNat b.toNat)) h)
  | none => none
def idxS2 (h : AH) (s : List UInt8) (i : Option Nat) : Option ARes := match i with
  | some i => idxS3 h (nthT s i)
  | none => none
def idxS0 (h : AH) (i : AV) (v : AV) : Option ARes := match v with
  | .str s => idxS2 h s (natT i)
  | _ => none
def eIdxStr (x i : AOpd) (f : Fr) (h : AH) : Option ARes := idxS0 h (valT i f) (valT x f)
def lenStr0 (h : AH) (v : AV) : Option ARes := match v with
  | .str s => some (.val (.int .i64 (.ofNat s.length)) h)
  | _ => none
def eLenStr (x : AOpd) (f : Fr) (h : AH) : Option ARes := lenStr0 h (valT x f)
def lenSlice0 (h : AH) (v : AV) : Option ARes := match v with
  | .slice _ _ _ l _ _ => some (.val (.int .i64 (.ofNat l)) h)
  | .nilSlice => some (.val (.int .i64 (.ofNat 0)) h)
  | _ => none
def eLenSlice (x : AOpd) (f : Fr) (h : AH) : Option ARes := lenSlice0 h (valT x f)
def eLenC (n : Nat) (f : Fr) (h : AH) : Option ARes := some (.val (.int .i64 (.ofNat n)) h)
def extract0 (i : Nat) (h : AH) (v : AV) : Option ARes := match v with
  | .tuple l => optV (nthT l i) h
  | _ => none
def eExtract (x : AOpd) (i : Nat) (f : Fr) (h : AH) : Option ARes := extract0 i h (valT x f)
def eCall (g : Nat) (args : List AOpd) (f : Fr) (h : AH) : Option ARes := some (.call g (valsT args f))
def eIface (t : Nat) (x : AOpd) (f : Fr) (h : AH) : Option ARes := some (.val (.iface t (valT x f)) h)
def eCold (o : AOp) (f : Fr) (h : AH) : Option ARes := o.eval f h
def evT (o : AOp) : Fr → AH → Option ARes :=
  @AOp.casesOn (fun _ => Fr → AH → Option ARes) o eMov ePick eNew (fun x => eCold (.box x)) (fun z p => eCold (.build z p)) (fun s l z p => eCold (.buildSlice s l z p))
    eLoad eStore (fun x => eCold (.nilChk x)) eBin eEqB eEqNil (fun k n x y => eCold (.eqAgg k n x y)) eUn eToInt (fun x => eCold (.asStr x)) (fun x => eCold (.toBytes x)) (fun x => eCold (.toStr x))
    eIface (fun g a c => eCold (.mkFunc g a c)) (eCold .mkMap) (fun s b z l c => eCold (.mkSlice s b z l c)) (fun s x l u m => eCold (.slc s x l u m)) (fun x l u => eCold (.slcStr x l u))
    (fun n s x l u m => eCold (.slcArr n s x l u m)) eFieldAddr eField eIdxAddr eIdxAddrArr eIdxStr (fun g n s x i => eCold (.idxArr g n s x i)) (fun k z c m x => eCold (.lookup k z c m x))
    (fun k m x v => eCold (.mapUpd k m x v)) (fun k m x => eCold (.del k m x)) eLenStr eLenSlice (fun x => eCold (.lenMap x)) eLenC (fun x => eCold (.capSlice x)) (fun b l => eCold (.mnx b l))
    (fun s b x y => eCold (.append s b x y)) (fun x y => eCold (.appendStr x y)) (fun s b z x n => eCold (.appendZ s b z x n)) (fun s x y => eCold (.copy s x y)) (fun x y => eCold (.copyStr x y))
    (fun s z x => eCold (.clear s z x)) (fun x => eCold (.mark x)) eExtract (fun t z c x => eCold (.assertT t z c x)) eCall (fun x a => eCold (.callV x a)) (fun t x a => eCold (.callM t x a)) (eCold .stuck)
theorem evT_eq (o : AOp) (f : Fr) (h : AH) : evT o f h = o.eval f h := by
  cases o <;> try rfl
  case mov x => show some (ARes.val (valT x f) h) = _; rw [valT_eq]; rfl
  case pick c a b =>
    show pick1 a b f h (valT c f) = _
    rw [valT_eq]; unfold pick1
    simp only [AOp.eval]
    cases c.val f <;> try rfl
    rename_i t
    cases t <;> simp only [pickT, valT_eq] <;> rfl
  case new z => show some (ARes.val (.ptr h.next 0) (hnew h (.cells z true))) = _; rw [hnew_eq]; rfl
  case load g n a =>
    show load0 g n h (valT a f) = _
    rw [valT_eq]; unfold load0
    simp only [AOp.eval]
    cases a.val f <;> try rfl
    rename_i o off
    show loadP g n h o off = _
    unfold loadP
    cases g
    · show optV (load1 h o off) h = _
      rw [optV_eq, ← load1_eq]
      simp only [Bool.false_eq_true, if_false]
      generalize h.load o off 1 = l
      cases l with
      | none => rfl
      | some l =>
        cases l with
        | nil => rfl
        | cons x r => cases r <;> rfl
    · rfl
  case store n a v =>
    show store0 n h (valT v f) (valT a f) = _
    rw [valT_eq, valT_eq]; unfold store0
    simp only [AOp.eval]
    cases a.val f <;> try rfl
    rename_i o off
    show storeP n h (v.val f) o off = _
    unfold storeP
    generalize v.val f = u
    cases hu : isOne u
    · rfl
    · cases hn : Nat.beq n 1
      · rfl
      · have : n = 1 := Nat.eq_of_beq_eq_true hn
        subst this
        have hc : u.cells = [u] := by cases u <;> first | rfl | cases hu
        show optH (store1 h o off u) = _
        simp only [hc, List.length_cons, List.length_nil, if_true]
        rw [store1_eq]
        cases store1 h o off u <;> rfl
  case bin op x y => show optV (binT op (valT x f) (valT y f)) h = _; rw [optV_eq, binT_eq, valT_eq, valT_eq]; rfl
  case eqB n x y =>
    show eqB0 n (valT x f) (valT y f) h = _
    rw [valT_eq, valT_eq]
    simp only [AOp.eval]
    generalize x.val f = p; generalize y.val f = q
    cases p <;> try rfl
    cases q <;> try rfl
    rename_i a b
    cases n <;> cases a <;> cases b <;> rfl
  case eqNil k n x y => show Option.map _ (eqNilV k (valT x f) (valT y f)) = _; rw [valT_eq, valT_eq]; rfl
  case un op x =>
    show un0 op h (valT x f) = _
    rw [valT_eq]
    simp only [AOp.eval]
    generalize x.val f = p
    cases p <;> try (first | rfl | exact optV_eq _ _)
    rename_i b
    cases op <;> try rfl
    cases b <;> rfl
  case toInt k x =>
    show toInt0 k h (valT x f) = _
    rw [valT_eq]
    simp only [AOp.eval]
    generalize x.val f = p
    cases p <;> try rfl
    simp only [toInt0, wrapT_eq]
  case mkIface t x => show some (ARes.val (.iface t (valT x f)) h) = _; rw [valT_eq]; rfl
  case fieldAddr off x =>
    show fieldAddr0 off h (valT x f) = _
    rw [valT_eq]
    simp only [AOp.eval]
    generalize x.val f = p
    cases p <;> rfl
  case field g off n x =>
    show field0 g off n h (valT x f) = _
    rw [valT_eq]
    simp only [AOp.eval]
    generalize x.val f = p
    cases p <;> try rfl
    rename_i l
    show field1 off n h l g = _
    unfold field1
    cases g
    · show optV (nthT l off) h = _
      rw [optV_eq, nthT_eq]; rfl
    · rfl
  case idxAddr sz x i =>
    show idxA0 sz h (valT i f) (valT x f) = _
    rw [valT_eq, valT_eq]
    simp only [AOp.eval]
    generalize x.val f = p
    cases p <;> try rfl
    rename_i o off z len c e
    show idxA2 sz h o off z len (natT (i.val f)) = _
    rw [natT_eq]
    cases natOf (i.val f) with
    | none => rfl
    | some i =>
      simp only [idxA2]
      cases h1 : Nat.beq z sz
      · rw [if_neg (fun hh => by rw [hh.1, Nat.beq_refl] at h1; cases h1)]
      · have e1 := Nat.eq_of_beq_eq_true h1
        cases h2 : Nat.ble (Nat.succ i) len
        · rw [if_neg (fun hh => by rw [Nat.ble_eq_true_of_le hh.2] at h2; cases h2)]
        · rw [if_pos ⟨e1, Nat.le_of_ble_eq_true h2⟩]; rfl
  case idxAddrArr n sz x i =>
    show idxR0 n sz h (valT i f) (valT x f) = _
    rw [valT_eq, valT_eq]
    simp only [AOp.eval]
    generalize x.val f = p
    cases p <;> try rfl
    rename_i o off
    show idxR2 n sz h o off (natT (i.val f)) = _
    rw [natT_eq]
    cases natOf (i.val f) with
    | none => rfl
    | some i =>
      simp only [idxR2]
      cases h2 : Nat.ble (Nat.succ i) n
      · rw [if_neg (fun hh => by rw [Nat.ble_eq_true_of_le hh] at h2; cases h2)]
      · rw [if_pos (show i < n from Nat.le_of_ble_eq_true h2)]; rfl
  case idxStr x i =>
    show idxS0 h (valT i f) (valT x f) = _
    rw [valT_eq, valT_eq]
    simp only [AOp.eval]
    generalize x.val f = p
    cases p <;> try rfl
    rename_i s
    show idxS2 h s (natT (i.val f)) = _
    rw [natT_eq]
    cases natOf (i.val f) with
    | none => rfl
    | some i =>
      simp only [idxS2, nthT_eq]
      cases s[i]? <;> rfl
  case lenStr x =>
    show lenStr0 h (valT x f) = _
    rw [valT_eq]
    simp only [AOp.eval]
    generalize x.val f = p
    cases p <;> rfl
  case lenSlice x =>
    show lenSlice0 h (valT x f) = _
    rw [valT_eq]
    simp only [AOp.eval]
    generalize x.val f = p
    cases p <;> rfl
  case extract x i =>
    show extract0 i h (valT x f) = _
    rw [valT_eq]
    simp only [AOp.eval]
    generalize x.val f = p
    cases p <;> try rfl
    show optV (nthT _ _) h = _
    rw [optV_eq, nthT_eq]
  case call g args => show some (ARes.call g (valsT args f)) = _; rw [valsT_eq]; rfl

/-! ### code -/
def doneC (d : Option Nat) (f : Fr) (p : Option (AV × AH)) : Option (Fr × AH) := @Option.rec (AV × AH) (fun _ => Option (Fr × AH)) none (fun p => some (putT f d p.1, p.2)) p
def doneR (call : Handler) (d : Option Nat) (f : Fr) (h : AH) (r : ARes) : Option (Fr × AH) := match r with
  | .val v h' => some (putT f d v, h')
  | .call g args => doneC d f (call g args h)
def doneO (call : Handler) (d : Option Nat) (f : Fr) (h : AH) (r : Option ARes) : Option (Fr × AH) := @Option.rec ARes (fun _ => Option (Fr × AH)) none (doneR call d f h) r
def guard1 (want : Bool) (v : AV) : Option Bool := match v with
  | .bool b => some (Bool.rec (Bool.rec true false want) want b)
  | .tuple _ => some false
  | _ => none
def guarded (call : Handler) (d : Option Nat) (o : AOp) (f : Fr) (h : AH) (t : Option Bool) : Option (Fr × AH) := match t with
  | some true => doneO call d f h (evT o f h)
  | some false => some (putT f d .none, h)
  | none => none
def runG (call : Handler) (d : Option Nat) (o : AOp) (f : Fr) (h : AH) (g : Option (Nat × Bool)) : Option (Fr × AH) := match g with
  | none => doneO call d f h (evT o f h)
  | some (t, want) => guarded call d o f h (guard1 want (atT f t))
def runT (call : Handler) (o : AOper) (f : Fr) (h : AH) : Option (Fr × AH) := @AOper.rec (fun _ => Option (Fr × AH)) (fun d o g => runG call d o f h g) o
theorem doneO_eq (call : Handler) (d : Option Nat) (f : Fr) (h : AH) (r : Option ARes) : doneO call d f h r = match r with
    | some (.val v h') => some (Fr.put f d v, h')
    | some (.call g args) => (call g args h).map fun (v, h') => (Fr.put f d v, h')
    | none => none := by
  cases r with
  | none => rfl
  | some r =>
    cases r with
    | val v h' => show some (putT f d v, h') = _; rw [putT_eq]
    | call g args =>
      show doneC d f (call g args h) = (call g args h).map fun p => (Fr.put f d p.1, p.2)
      unfold doneC
      cases call g args h with
      | none => rfl
      | some p => show some (putT f d p.1, p.2) = _; rw [putT_eq]; rfl
theorem runT_eq (call : Handler) (o : AOper) (f : Fr) (h : AH) : runT call o f h = o.run call f h := by
  obtain ⟨d, o, g⟩ := o
  show runG call d o f h g = _
  unfold AOper.run
  cases g with
  | none => show doneO call d f h (evT o f h) = _; rw [doneO_eq, evT_eq]; rfl
  | some p =>
    obtain ⟨t, want⟩ := p
    show guarded call d o f h (guard1 want (atT f t)) = _
    have : guard1 want (atT f t) = wantedV f (some (t, want)) := by
      rw [atT_eq]; simp only [wantedV]
      cases f.at t <;> try rfl
      rename_i b
      cases b <;> cases want <;> rfl
    rw [this]
    cases wantedV f (some (t, want)) with
    | none => rfl
    | some b =>
      cases b
      · show some (putT f d .none, h) = _; rw [putT_eq]
      · show doneO call d f h (evT o f h) = _; rw [doneO_eq, evT_eq]; rfl
def goOn (k : Fr → AH → Option (Fr × AH)) (r : Option (Fr × AH)) : Option (Fr × AH) := @Option.rec (Fr × AH) (fun _ => Option (Fr × AH)) none (fun p => k p.1 p.2) r
def opsNil (_ : Handler) (f : Fr) (h : AH) : Option (Fr × AH) := some (f, h)
def opsCons (o : AOper) (_ : List AOper) (ih : Handler → Fr → AH → Option (Fr × AH)) (call : Handler) (f : Fr) (h : AH) : Option (Fr × AH) := goOn (ih call) (runT call o f h)
def opsT (l : List AOper) : Handler → Fr → AH → Option (Fr × AH) := @List.rec AOper (fun _ => Handler → Fr → AH → Option (Fr × AH)) opsNil opsCons l
theorem opsT_eq (call : Handler) : ∀ (l : List AOper) (f : Fr) (h : AH), opsT l call f h = runOps call l f h
  | [], _, _ => rfl
  | o :: l, f, h => by
    show goOn (opsT l call) (runT call o f h) = _
    rw [runT_eq, show opsT l call = runOps call l from funext fun f => funext fun h => opsT_eq call l f h]
    simp only [runOps]
    cases o.run call f h <;> rfl
def thenT (k : Fr → AH → Out) (r : Out) : Out := match r with
  | some (.normal, f, h) => k f h
  | r => r
def condT (a b : Fr → AH → Out) (f : Fr) (h : AH) (c : AV) : Out := match c with
  | .bool t => Bool.rec (b f h) (a f h) t
  | _ => none
def leaveT (id : Nat) (r : Out) : Out := match r with
  | some (.exit i, f, h) => some (Bool.rec (.exit i) .normal (Nat.beq i id), f, h)
  | r => r
def endT (r : Option (Fr × AH)) : Out := @Option.rec (Fr × AH) (fun _ => Out) none (fun p => some (.normal, p.1, p.2)) r
abbrev CodeT := Handler → Nat → Fr → AH → Out
def loopT (body : Fr → AH → Out) (n : Nat) : Fr → AH → Out :=
  @Nat.rec (fun _ => Fr → AH → Out) (fun _ _ => none) (fun _ ih f h => thenT ih (body f h)) n
def cSkip : CodeT := fun _ _ f h => some (.normal, f, h)
def cOps (l : List AOper) : CodeT := fun call _ f h => endT (opsT l call f h)
def cDrawT (l : List DItem) : CodeT := fun call _ f h => endT (runItems call l f h)
def cSeq (_ _ : ACode) (a b : CodeT) : CodeT := fun call lf f h => thenT (b call lf) (a call lf f h)
def cCond (c : AOpd) (_ _ : ACode) (a b : CodeT) : CodeT := fun call lf f h => condT (a call lf) (b call lf) f h (valT c f)
def cBlock (id : Nat) (_ : ACode) (a : CodeT) : CodeT := fun call lf f h => leaveT id (a call lf f h)
def cLoop (_ : ACode) (a : CodeT) : CodeT := fun call lf f h => loopT (a call lf) lf f h
def cExit (id : Nat) : CodeT := fun _ _ f h => some (.exit id, f, h)
def cRet : CodeT := fun _ _ f h => some (.ret, f, h)
def cStuck : CodeT := fun _ _ _ _ => none
def codeT (c : ACode) : CodeT := @ACode.rec (fun _ => CodeT) cSkip cOps cDrawT cSeq cCond cBlock cLoop cExit cRet cStuck c
theorem thenT_eq (k : Fr → AH → Out) (r : Out) : thenT k r = match r with
    | some (.normal, f, h) => k f h
    | r => r := rfl
theorem loopT_eq (body : Fr → AH → Out) : ∀ (n : Nat) (f : Fr) (h : AH), loopT body n f h = aloop body n f h
  | 0, _, _ => rfl
  | n + 1, f, h => by
    show thenT (loopT body n) (body f h) = _
    rw [show loopT body n = aloop body n from funext fun f => funext fun h => loopT_eq body n f h]
    rfl
theorem codeT_eq (call : Handler) (lf : Nat) : ∀ (c : ACode), codeT c call lf = acode call lf c := by
  intro c
  induction c with
  | skip => rfl
  | ops l =>
    funext f h
    show endT (opsT l call f h) = _
    rw [opsT_eq]; simp only [acode]
    cases runOps call l f h <;> rfl
  | draw l =>
    funext f h
    show endT (runItems call l f h) = _
    simp only [acode]
    cases runItems call l f h <;> rfl
  | seq a b iha ihb =>
    funext f h
    show thenT (codeT b call lf) (codeT a call lf f h) = _
    rw [iha, ihb]; rfl
  | cond c a b iha ihb =>
    funext f h
    show condT (codeT a call lf) (codeT b call lf) f h (valT c f) = _
    rw [iha, ihb, valT_eq]
    simp only [acode]
    cases c.val f <;> try rfl
    rename_i t
    cases t <;> rfl
  | block id a ih =>
    funext f h
    show leaveT id (codeT a call lf f h) = _
    rw [ih]
    simp only [acode]
    cases acode call lf a f h with
    | none => rfl
    | some p =>
      obtain ⟨e, f', h'⟩ := p
      cases e <;> try rfl
      rename_i i
      show some (Bool.rec (AExit.exit i) AExit.normal (Nat.beq i id), f', h') = some (if i = id then AExit.normal else AExit.exit i, f', h')
      by_cases e : i = id
      · subst e; rw [Nat.beq_refl, if_pos rfl]
      · rw [if_neg e, show Nat.beq i id = false from Bool.eq_false_iff.2 fun hb => e (Nat.eq_of_beq_eq_true hb)]
  | loop a ih =>
    funext f h
    show loopT (codeT a call lf) lf f h = _
    rw [ih, loopT_eq]; rfl
  | exit id => rfl
  | ret => rfl
  | stuck => rfl
def finT (rs : List AResult) (f : Fr) (h : AH) : Option (AV × AH) := (resultsV f h rs).map fun l => (tupleV l, h)
def finO (rs : List AResult) (r : Out) : Option (AV × AH) := match r with
  | some (.normal, f, h) => finT rs f h
  | some (.ret, f, h) => finT rs f h
  | _ => none
def funT (call : Handler) (lf : Nat) (args : List AV) (h : AH) (fn : AFunc) : Option (AV × AH) :=
  Bool.rec none (finO fn.results (codeT fn.body call lf (Fr.ofArgs 0 args .nil) h)) (Nat.beq args.length fn.nargs)
theorem funT_eq (call : Handler) (lf : Nat) (args : List AV) (h : AH) (fn : AFunc) : funT call lf args h fn = fn.run call lf args h := by
  unfold funT AFunc.run
  by_cases e : args.length = fn.nargs
  · rw [if_pos e, e, Nat.beq_refl, codeT_eq]
    unfold finO finT
    cases acode call lf fn.body (Fr.ofArgs 0 args .nil) h with
    | none => rfl
    | some p =>
      obtain ⟨e', f', h'⟩ := p
      cases e' <;> rfl
  · rw [if_neg e, show Nat.beq args.length fn.nargs = false from Bool.eq_false_iff.2 fun hb => e (Nat.eq_of_beq_eq_true hb)]
/-- A table without stand-ins. -/
def callT (func : Nat → Option AFunc) (ih : Handler) (lf : Nat) (g : Nat) (args : List AV) (h : AH) : Option (AV × AH) :=
  @Option.rec AFunc (fun _ => Option (AV × AH)) none (funT ih lf args h) (func g)
def arunT (func : Nat → Option AFunc) (n : Nat) : Handler := @Nat.rec (fun _ => Handler) (fun _ _ _ => none) (fun n ih => callT func ih (Nat.succ n)) n
theorem arunT_eq (func : Nat → Option AFunc) : ∀ (n : Nat), arunT func n = arun ⟨func, fun _ => none⟩ n
  | 0 => rfl
  | n + 1 => by
    funext g args h
    show callT func (arunT func n) (n + 1) g args h = _
    rw [arunT_eq func n]
    simp only [arun, callT]
    cases func g with
    | none => rfl
    | some fn => exact funT_eq _ _ _ _ _
end
end Go.Vm

/- Arguments of any plain type: what came in, as values and memory of the machine. -/
import Derived.Test.YtakgcpmemalmaaaGreatDoorVmZf
import Derived.Test.YtakgcpmemalmaaaGreatDoorVmZ
import Derived.DataReads
import Derived.ChangeShapes
namespace Go.Vm
open Go.RowKit
set_option linter.unusedSimpArgs false
set_option linter.unusedVariables false
def bareT (P : Program) : Nat→TypeId→Bool
 | 0,_ => false
 | d + 1,t => match P.underlying t with
  | some .bool | some (.int _) | some .string => P.cellsOf t == 1
  | some (.struct fs) => fs.toList.all fun f => bareT P d f.type
  | some (.array _ e) => bareT P d e
  | _ => false
def contig (P : Program) : Nat→List Field→Nat→Bool
 | o,[],n => o == n
 | o,f :: r,n => f.offset == o && contig P (o + P.cellsOf f.type) r n
def plainT (P : Program) (dp : Bool) : Nat→TypeId→Bool
 | 0,_ => false
 | d + 1,t => match P.underlying t with
  | some .bool | some (.int _) | some .string => P.cellsOf t == 1
  | some (.slice e) => (bareT P d e || dp) && plainT P dp d e && decide (0 < P.cellsOf e) && (P.cellsOf t == 1)
  | some (.struct fs) => contig P 0 fs.toList (P.cellsOf t) && fs.toList.all fun f => plainT P dp d f.type
  | some (.array n e) => (P.cellsOf t == n * P.cellsOf e) && plainT P dp d e
  | _ => false
def SpotOk (W : World) (c : Value) : Prop:=∀ x len cap,c = .slice (some x) len cap→x.spot=none∧∃ C te fz,W.heap[x.block]?=some (.cells C te fz)∧x.off≤C.size
inductive Came (P : Program) (h : AH) : TypeId→List AV→Prop where
 | bool {t : TypeId} (b : Bool) (ht : P.underlying t=some .bool) : Came P h t [.bool b]
 | int {t : TypeId} {k : IntKind} {n : Int} (ht : P.underlying t=some (.int k)) (hw : (Lit.int k n).wf=true) : Came P h t [.int k n]
 | str {t : TypeId} {s : List UInt8} (ht : P.underlying t=some .string) (hl : s.length≤maxLen) : Came P h t [.str s]
 | nil {t e : TypeId} (ht : P.underlying t=some (.slice e)) : Came P h t [.nilSlice]
 | slice {t e : TypeId} {o n cap : Nat} {l : List AV} (ht : P.underlying t=some (.slice e)) (hg : h.get o=some (.cells l false)) (hl : l.length=cap * P.cellsOf e) (hn : n≤cap) (hc : cap≤maxLen)
   (each : ∀ i,i < cap→Came P h e ((l.drop (i * P.cellsOf e)).take (P.cellsOf e))) : Came P h t [.slice o 0 (P.cellsOf e) n cap true]
 | struct {t : TypeId} {fs : Array Field} {cs : List AV} (ht : P.underlying t=some (.struct fs)) (hl : cs.length=P.cellsOf t) (each : ∀ f∈fs.toList,Came P h f.type ((cs.drop f.offset).take (P.cellsOf f.type))) : Came P h t cs
 | array {t e : TypeId} {n : Nat} {cs : List AV} (ht : P.underlying t=some (.array n e)) (hl : cs.length=P.cellsOf t) (each : ∀ i,i < n→Came P h e ((cs.drop (i * P.cellsOf e)).take (P.cellsOf e))) : Came P h t cs
theorem Came.quiet {P : Program} {h h' : AH} (hl : Low h) (q : Quiet h h') {t : TypeId} {cs : List AV} (c : Came P h t cs) : Came P h' t cs:=by
 induction c with
 | bool b ht => exact .bool b ht
 | int ht hw => exact .int ht hw
 | str ht hs => exact .str ht hs
 | nil ht => exact .nil ht
 | slice ht hg hl' hn hc each ih => exact .slice ht (q.get hg (hl _ _ hg)) hl' hn hc ih
 | struct ht hl' each ih => exact .struct ht hl' ih
 | array ht hl' each ih => exact .array ht hl' ih
section
variable {H : Type} {enc : TypeId×Value→H} {P : Program} {W : World} {held : Bool} {dp : Bool} {N : Nat}
structure Got (P : Program) (W : World) (μ : Inj) (h : AH) (t : TypeId) (cs : List Value) (μ' : Inj) (h' : AH) (as : List AV) : Prop where
 le : Inj.le μ μ'
 r : R (till W.heap.size) W μ' h' W
 rel : VRels μ' as cs
 came : Came P h' t as
 quiet : Quiet h h'
 low : Low h'
def Brings (enc : TypeId×Value→H) (P : Program) (W : World) (held : Bool) (dp : Bool) (fuel : Nat) : Prop :=
 ∀ (d : Nat) (t : TypeId) (cs : List Value) (y : DataW H×List MemPlace),DataW.trod enc P W 0 (fun _ => true) held fuel t cs=some y→plainT P dp d t=true →
  ∀ (μ : Inj) (h : AH),R (till W.heap.size) W μ h W→Low h→∃ μ' h' as,Got P W μ h t cs μ' h' as
end
end Go.Vm
/- A law's arguments,whatever their plain types: brought in; the law asked. -/
namespace Go.Vm
open Go.RowKit
set_option linter.unusedSimpArgs false
set_option linter.unusedVariables false
theorem all_cons {α : Type} {Q : α→Prop} {y a : α} {l : List α} (h : y∈a :: l) (h1 : Q a) (h2 : ∀ z∈l,Q z) : Q y:=by
 rcases List.mem_cons.1 h with rfl | h3
 ·exact h1
 ·exact h2 y h3
def avOf (P : Program) (t : TypeId) (as : List AV) : AV:=match P.underlying t with
 | some (.struct _) | some (.array _ _) => .agg as
 | _ => as.headD .undef
def CameV (P : Program) (h : AH) (t : TypeId) (a : AV) : Prop:=∃ as,Came P h t as∧a=avOf P t as
def CameVs (P : Program) (h : AH) : List TypeId→List AV→Prop
 | [],[] => True
 | t :: ts,a :: as => CameV P h t a∧CameVs P h ts as
 | _,_ => False
theorem CameV.quiet {P : Program} {h h' : AH} (hl : Low h) (q : Quiet h h') {t : TypeId} {a : AV} (c : CameV P h t a) : CameV P h' t a:=by
 obtain ⟨as,c,e⟩:=c; exact ⟨as,c.quiet hl q,e⟩
theorem CameVs.quiet {P : Program} {h h' : AH} (hl : Low h) (q : Quiet h h') : ∀ {ts : List TypeId} {as : List AV},CameVs P h ts as→CameVs P h' ts as
 | [],[],_ => trivial
 | t :: ts,a :: as,c => ⟨c.1.quiet hl q,CameVs.quiet hl q c.2⟩
 | [],_ :: _,c => c.elim
 | _ :: _,[],c => c.elim
section
variable {H : Type} {enc : TypeId×Value→H} {P : Program} {W : World} {held dp : Bool}
end
section
variable {P : Program} {h : AH} {t e : TypeId} {a : AV}
theorem SeesS.one {xs : List (List AV)} {ys : List AV} (s : SeesS h 1 a xs) (he : xs=ys.map fun y => [y]) : Sees h a ys:=by
 subst he
 rcases s with ⟨rfl,hx⟩ | ⟨o,off,cap,ex,l,rw,rfl,hg,h1,h2⟩
 ·exact .inl ⟨rfl,by simpa using hx⟩
 ·refine .inr ⟨o,off,cap,ex,l,rw,by simp,hg,by simpa using h1,fun i y hy => ?_⟩
  have:=(h2 i [y] (by simp [hy])).2 0 y rfl
  simpa using this
end
end Go.Vm
/- What came in,cell by cell. -/
namespace Go.Vm
open Go.RowKit
set_option linter.unusedSimpArgs false
set_option linter.unusedVariables false
inductive CK where
 | bool
 | int (k : IntKind)
 | str
 | slice (e : TypeId)
 | bad
 deriving DecidableEq
def shapeT (P : Program) : Nat→TypeId→List CK
 | 0,_ => [.bad]
 | d + 1,t => match P.underlying t with
  | some .bool => [.bool]
  | some (.int k) => [.int k]
  | some .string => [.str]
  | some (.slice e) => [.slice e]
  | some (.struct fs) => fs.toList.flatMap fun f => shapeT P d f.type
  | some (.array n e) => (List.replicate n (shapeT P d e)).flatten
  | _ => [.bad]
def CellIs (P : Program) (h : AH) : CK→AV→Prop
 | .bool,a => ∃ b,a = .bool b
 | .int k,a => ∃ n,a = .int k n∧(Lit.int k n).wf=true
 | .str,a => ∃ s,a = .str s∧s.length≤maxLen
 | .slice e,a => ∃ t,P.underlying t=some (.slice e)∧Came P h t [a]
 | .bad,_ => True
def CellsAre (P : Program) (h : AH) : List CK→List AV→Prop
 | [],[] => True
 | k :: ks,a :: as => CellIs P h k a∧CellsAre P h ks as
 | _,_ => False
theorem CellsAre.append {P : Program} {h : AH} : ∀ {ks ls : List CK} {as bs : List AV},CellsAre P h ks as→CellsAre P h ls bs→CellsAre P h (ks ++ ls) (as ++ bs)
 | [],_,[],_,_,h2 => h2
 | k :: ks,_,a :: as,_,h1,h2 => ⟨h1.1,CellsAre.append h1.2 h2⟩
 | [],_,_ :: _,_,h1,_ => h1.elim
 | _ :: _,_,[],_,h1,_ => h1.elim
end Go.Vm
/- Second looks at new objects; words that were handed in. -/
namespace Go.Vm
open Go.RowKit
set_option linter.unusedSimpArgs false
set_option linter.unusedVariables false
variable {f : Fr} {h : AH}
def capOk : AV→Prop
 | .slice _ _ _ len cap _ => len≤cap
 | _ => True
theorem Came.capOk {P : Program} {t e : TypeId} {a : AV} (ht : P.underlying t=some (.slice e)) (c : Came P h t [a]) : capOk a:=by
 cases c with
 | struct hu => rw [ht] at hu; cases hu
 | array hu => rw [ht] at hu; cases hu
 | slice hu hg hl hn => exact hn
 | _ => trivial
def Kept (h : AH) (F : Nat→Prop) (L : List (Nat×AObj)) : Prop:=∀ p∈L,h.get p.1=some p.2∧¬ F p.1
section
variable {F F' : Nat→Prop} {L : List (Nat×AObj)} {h' : AH}
theorem Kept.nil : Kept h F []:=fun p hp => by simp at hp
theorem Kept.cons {o : Nat} {x : AObj} (k : Kept h F L) (hg : h.get o=some x) (hF : ¬ F o) : Kept h F ((o,x) :: L):=fun p hp => by
 rcases List.mem_cons.1 hp with rfl | h1
 ·exact ⟨hg,hF⟩
 ·exact k p h1
theorem Kept.append {M : List (Nat×AObj)} (k : Kept h F L) (m : Kept h F M) : Kept h F (L ++ M):=fun p hp => (List.mem_append.1 hp).elim (k p) (m p)
theorem Kept.head {o : Nat} {x : AObj} (k : Kept h F ((o,x) :: L)) : h.get o=some x:=(k (o,x) (by simp)).1
theorem Kept.headF {o : Nat} {x : AObj} (k : Kept h F ((o,x) :: L)) : ¬ F o:=(k (o,x) (by simp)).2
theorem Kept.tail {p : Nat×AObj} (k : Kept h F (p :: L)) : Kept h F L:=fun q hq => k q (by simp [hq])
theorem Kept.mono {M : List (Nat×AObj)} (k : Kept h F L) (hs : ∀ p∈M,p∈L) : Kept h F M:=fun p hp => k p (hs p hp)
theorem Kept.quiet (k : Kept h F L) (hl : Low h) (q : Quiet h h') : Kept h' F L:=fun p hp => by
 obtain ⟨h1,h2⟩:=k p hp
 exact ⟨q.get h1 (hl _ _ h1),h2⟩
theorem Kept.other (k : Kept h F L) {o : Nat} (ho : ∀ p∈L,p.1≠o) (x : AObj) : Kept (h.set o x) F L:=fun p hp => by
 obtain ⟨h1,h2⟩:=k p hp
 exact ⟨by rw [AH.get_set,if_neg (Ne.symm (ho p hp))]; exact h1,h2⟩
theorem Kept.turn {o : Nat} {x : AObj} (k : Kept h F ((o,x) :: L)) (ho : ∀ p∈L,p.1≠o) (y : AObj) : Kept (h.set o y) F ((o,y) :: L):=(k.tail.other ho y).cons get_set_same k.headF
theorem Kept.low (k : Kept h F L) (hl : Low h) : ∀ p∈L,p.1 < h.next:=fun p hp => hl _ _ (k p hp).1
theorem Kept.begin (hg : ∀ p∈L,h.get p.1=some p.2) (hl : Low h) (hF : ∀ o,F o→h.next≤o) (q : Quiet h h') : Kept h' F L:=fun p hp => by
 have h1:=hg p hp
 have:=hl _ _ h1
 exact ⟨q.get h1 this,fun hf => by have:=hF _ hf; omega⟩
end
theorem Sees.kept {v : AV} {xs : List AV} (s : Sees h v xs) : ∃ L : List (Nat×AObj),(∀ p∈L,h.get p.1=some p.2∧p.1∈objs v)∧(∀ o∈objs v,∃ p∈L,p.1=o)∧∀ h' : AH,(∀ p∈L,h'.get p.1=some p.2)→Sees h' v xs:=by
 rcases s with ⟨rfl,rfl⟩ | ⟨o,off,cap,ex,l,rw,rfl,hg,h1,h2⟩
 ·exact ⟨[],fun p hp => by simp at hp,fun o ho => by simp [objs] at ho,fun h' _ => .inl ⟨rfl,rfl⟩⟩
 ·exact ⟨[(o,AObj.of l rw)],fun p hp => by simp at hp; subst hp; exact ⟨hg,by simp [objs]⟩,fun q hq => ⟨_,List.mem_singleton.2 rfl,by simp [objs] at hq; exact hq.symm⟩,fun h' hk => .inr ⟨o,off,cap,ex,l,rw,rfl,hk _ (List.mem_singleton.2 rfl),h1,h2⟩⟩
end Go.Vm

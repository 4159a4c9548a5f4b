/- The document's own arena: sizes of classes; refs, and their parts. -/
import Derived.Test.YtagcnjhpdopkiaaP9ArB
import Derived.Test.YtagcnjhpdopkiaaVmZw
import Derived.Test.YtagcnjhpdopkiaaVmZt
namespace Go.Proofs.Ytagcnjhpdopkiaa
open Go.Vm
open Go.Vm.AOpd renaming val → vA
open Nat renaming reduceEqDiff → vB,reduceAdd → vC,reduceBEq → vD
set_option linter.unusedSimpArgs false
set_option linter.unusedVariables false
variable {T : Vm.Prog} {h : AH}
theorem rsize_ok (k : Fits T) {c : Nat} (hc : c < 5) : Gives T 41 [.int .i64 (c : Int)] h fun r h' => r = .int .i64 (sizeN c : Nat)∧h'=h:=by
 refine gives_func (k.env _ (by decide)) (k.at (fn:=a41) rfl) rfl ?_
 have : c=0∨c=1∨c=2∨c=3∨c=4:=by omega
 rcases this with rfl | rfl | rfl | rfl | rfl
 ·simp only [a41,c41,vms,vmc,vA,vB,reduceCtorEq,vC,vD,show (((0 : Nat) : Int) == 0)=true from rfl]; exact ⟨rfl,trivial⟩
 ·simp only [a41,c41,vms,vmc,vA,vB,reduceCtorEq,vC,vD,show (((1 : Nat) : Int) == 0)=false from rfl,show (((1 : Nat) : Int) == 1)=true from rfl]; exact ⟨rfl,trivial⟩
 ·simp only [a41,c41,vms,vmc,vA,vB,reduceCtorEq,vC,vD,show (((2 : Nat) : Int) == 0)=false from rfl,show (((2 : Nat) : Int) == 1)=false from rfl,show (((2 : Nat) : Int) == 2)=true from rfl]; exact ⟨rfl,trivial⟩
 ·simp only [a41,c41,vms,vmc,vA,vB,reduceCtorEq,vC,vD,show (((3 : Nat) : Int) == 0)=false from rfl,show (((3 : Nat) : Int) == 1)=false from rfl,show (((3 : Nat) : Int) == 2)=false from rfl,show (((3 : Nat) : Int) == 3)=true from rfl]; exact ⟨rfl,trivial⟩
 ·simp only [a41,c41,vms,vmc,vA,vB,reduceCtorEq,vC,vD,show (((4 : Nat) : Int) == 0)=false from rfl,show (((4 : Nat) : Int) == 1)=false from rfl,show (((4 : Nat) : Int) == 2)=false from rfl,show (((4 : Nat) : Int) == 3)=false from rfl,show (((4 : Nat) : Int) == 4)=true from rfl]; exact ⟨rfl,trivial⟩
theorem rref_ok (k : Fits T) {s g : Nat} {l : Bool} (hv : Valid s g) : Gives T 84 [.int .i64 (s : Int),.int .i64 (g : Int),.bool l] h fun r h' => r = .int .i64 (refN s g l : Nat)∧h'=h:=by
 obtain ⟨h1,h2,h3⟩:=hv
 refine gives_func (k.env _ (by decide)) (k.at (fn:=a84) rfl) rfl ?_
 have d1 : decide ((s : Int) < 0)=false:=by rw [decide_eq_false_iff_not]; omega
 have d2 : decide ((s : Int) ≥ 1024)=false:=by rw [decide_eq_false_iff_not]; omega
 have d3 : decide ((g : Int) < 1)=false:=by rw [decide_eq_false_iff_not]; omega
 have d4 : decide ((g : Int) > 1073741824)=false:=by rw [decide_eq_false_iff_not]; omega
 have eo:=bin_or_i64 (a:=g * 65536) (b:=s) (by omega) (by omega)
 rw [or_low (by omega)] at eo
 have el:=bin_or_i64 (a:=g * 65536 + s) (b:=281474976710656) (by omega) (by omega)
 rw [or_leaf (by omega)] at el
 have el' : binV .or (.int .i64 ((g * 65536 + s : Nat) : Int)) (.int .i64 281474976710656)=some (.int .i64 ((g * 65536 + s + 281474976710656 : Nat) : Int)):=el
 cases l
 ·simp only [a84,c84,vms,vmc,vA,vB,reduceCtorEq,vC,vD,d1,d2,d3,d4,bin_shl16 h3,eo]
  exact ⟨by simp [refN],trivial⟩
 ·simp only [a84,c84,vms,vmc,vA,vB,reduceCtorEq,vC,vD,d1,d2,d3,d4,bin_shl16 h3,eo,el']
  exact ⟨by simp [refN],trivial⟩
theorem rref_no (k : Fits T) {s g : Nat} {l : Bool} (hv : ¬ Valid s g) : Gives T 84 [.int .i64 (s : Int),.int .i64 (g : Int),.bool l] h fun r h' => r = .int .i64 0∧h'=h:=by
 refine gives_func (k.env _ (by decide)) (k.at (fn:=a84) rfl) rfl ?_
 have d1 : decide ((s : Int) < 0)=false:=by rw [decide_eq_false_iff_not]; omega
 by_cases h1 : s < 1024
 ·have d2 : decide ((s : Int) ≥ 1024)=false:=by rw [decide_eq_false_iff_not]; omega
  by_cases h2 : 1≤g
  ·have d3 : decide ((g : Int) < 1)=false:=by rw [decide_eq_false_iff_not]; omega
   have h3 : ¬ g≤1073741824:=fun h3 => hv ⟨h1,h2,h3⟩
   have d4 : decide ((g : Int) > 1073741824)=true:=by rw [decide_eq_true_eq]; omega
   simp only [a84,c84,vms,vmc,vA,vB,reduceCtorEq,vC,vD,d1,d2,d3,d4]; exact ⟨trivial,trivial⟩
  ·have d3 : decide ((g : Int) < 1)=true:=by rw [decide_eq_true_eq]; omega
   simp only [a84,c84,vms,vmc,vA,vB,reduceCtorEq,vC,vD,d1,d2,d3]; exact ⟨trivial,trivial⟩
 ·have d2 : decide ((s : Int) ≥ 1024)=true:=by rw [decide_eq_true_eq]; omega
  simp only [a84,c84,vms,vmc,vA,vB,reduceCtorEq,vC,vD,d1,d2]; exact ⟨trivial,trivial⟩
theorem refN_top {s g : Nat} {l : Bool} (hv : Valid s g) : ((refN s g l / 281474976710656 : Nat) == 1)=l:=by
 obtain ⟨h1,h2,h3⟩:=hv
 unfold refN
 cases l
 ·simp; omega
 ·simp; omega
theorem rparts_ok (k : Fits T) (ref : Int) : Gives T 85 [.int .i64 ref] h fun r h' => h'=h ∧
  ((∃ s g l,Valid s g∧ref=(refN s g l : Nat)∧r = .tuple [.int .i64 (s : Nat),.int .i64 (g : Nat),.bool l,.bool true]) ∨
   ((∀ s g l,Valid s g→ref≠(refN s g l : Nat))∧r = .tuple [.int .i64 0,.int .i64 0,.bool false,.bool false])):=by
 refine gives_func (k.env _ (by decide)) (k.at (fn:=a85) rfl) rfl ?_
 by_cases h0 : ref≤0
 ·have d : decide (ref≤0)=true:=by simpa using h0
  simp only [a85,c85,vms,vmc,vA,vB,reduceCtorEq,vC,vD,d]
  refine ⟨trivial,.inr ⟨fun s' g' l' hv e => ?_,trivial⟩⟩
  have:=refN_lt (l:=l') hv
  omega
 have d0 : decide (ref≤0)=false:=by simpa using h0
 by_cases h1 : ref ≥ 562949953421312
 ·have d : decide (ref ≥ 562949953421312)=true:=by simpa using h1
  simp only [a85,c85,vms,vmc,vA,vB,reduceCtorEq,vC,vD,d0,d]
  refine ⟨trivial,.inr ⟨fun s' g' l' hv e => ?_,trivial⟩⟩
  have:=refN_lt (l:=l') hv
  omega
 have d1 : decide (ref ≥ 562949953421312)=false:=by simpa using h1
 obtain ⟨s,hs1,hs2,hs3⟩:=bin_and_i64 ref (c:=65535) (by omega)
 have hs2' : binV .and (.int .i64 ref) (.int .i64 65535)=some (.int .i64 (s : Int)):=hs2
 obtain ⟨g,hg1,hg2,hg3⟩:=bin_and_i64 (ref.fdiv 65536) (c:=4294967295) (by omega)
 have hg2' : binV .and (.int .i64 (ref.fdiv 65536)) (.int .i64 4294967295)=some (.int .i64 (g : Int)):=hg2
 have hshr : binV .shr (.int .i64 ref) (.int .u64 16)=some (.int .i64 (ref.fdiv 65536)):=by
  show intShift .shr .i64 ref 16=_
  unfold intShift
  rw [if_neg (by decide)]
  rfl
 have hshr2 : binV .shr (.int .i64 ref) (.int .u64 48)=some (.int .i64 (ref.fdiv 281474976710656)):=by
  show intShift .shr .i64 ref 48=_
  unfold intShift
  rw [if_neg (by decide)]
  rfl
 have hback : ∀ s' g' l',Valid s' g'→ref=(refN s' g' l' : Nat)→s'=s∧g'=g∧l'=(ref.fdiv 281474976710656 == 1):=by
  intro s' g' l' hv e
  have hlt:=refN_lt (l:=l') hv
  have e1:=hs3 _ (by omega) e
  have e2:=hg3 (refN s' g' l' / 65536) (by omega) (by rw [e,Int.fdiv_eq_ediv_of_nonneg _ (by omega)]; rfl)
  rw [refN_slot hv] at e1
  rw [refN_gen hv] at e2
  refine ⟨e1.symm,e2.symm,?_⟩
  have e3:=refN_top (l:=l') hv
  rw [e,Int.fdiv_eq_ediv_of_nonneg _ (by omega),show ((refN s' g' l' : Nat) : Int) / 281474976710656=((refN s' g' l' / 281474976710656 : Nat) : Int) from rfl]
  refine e3.symm.trans ?_
  rw [Bool.eq_iff_iff]
  simp only [beq_iff_eq]
  omega
 simp only [a85,c85,vms,vmc,vA,vB,reduceCtorEq,vC,vD,d0,d1,hs2',hg2',hshr,hshr2]
 by_cases hv : Valid s g
 ·refine Gives.bind ((rref_ok k (l:=(ref.fdiv 281474976710656 == 1)) hv).mono ?_)
  rintro _ _ ⟨rfl,rfl⟩
  by_cases he : ((refN s g (ref.fdiv 281474976710656 == 1) : Nat) : Int)=ref
  ·have d2 : (((refN s g (ref.fdiv 281474976710656 == 1) : Nat) : Int) != ref)=false:=by rw [he]; simp
   simp only [d2,vms,vmc,vA,vB,reduceCtorEq,vC,vD]
   exact ⟨trivial,.inl ⟨s,g,_,hv,he.symm,rfl⟩⟩
  ·have d2 : (((refN s g (ref.fdiv 281474976710656 == 1) : Nat) : Int) != ref)=true:=by simpa using he
   simp only [d2,vms,vmc,vA,vB,reduceCtorEq,vC,vD]
   refine ⟨trivial,.inr ⟨fun s' g' l' hv' e => he ?_,trivial⟩⟩
   obtain ⟨rfl,rfl,rfl⟩:=hback s' g' l' hv' e
   exact e.symm
 ·refine Gives.bind ((rref_no k (l:=(ref.fdiv 281474976710656 == 1)) hv).mono ?_)
  rintro _ _ ⟨rfl,rfl⟩
  have d2 : ((0 : Int) != ref)=true:=by simp; omega
  simp only [d2,vms,vmc,vA,vB,reduceCtorEq,vC,vD]
  refine ⟨trivial,.inr ⟨fun s' g' l' hv' e => hv ?_,trivial⟩⟩
  obtain ⟨rfl,rfl,rfl⟩:=hback s' g' l' hv' e
  exact hv'
end Go.Proofs.Ytagcnjhpdopkiaa
/- The document's own arena in memory: its slots,its lists of what is free; a ref's slot. -/
namespace Go.Proofs.Ytagcnjhpdopkiaa
open Go.Vm
open Go.Vm.AOpd renaming val → vA
open Nat renaming reduceEqDiff → vB,reduceAdd → vC,reduceBEq → vD
set_option linter.unusedSimpArgs false
set_option linter.unusedVariables false
variable {T : Vm.Prog} {h : AH}
structure RP where
 m : Int
 v : AV
 L : List Int
def RP.cells (q : RP) : List AV:=[.int .i64 q.m,q.v]
def headC (sv : AV) (Q : List RP) : List AV:=sv :: (Q.map RP.cells).flatten
def lcells (L : List Int) : List AV:=L.map (.int .i64)
theorem five_of {Q : List RP} (h : Q.length=5) : ∃ a b c d e,Q=[a,b,c,d,e]:=by
 match Q,h with
 | [a,b,c,d,e],_ => exact ⟨a,b,c,d,e,rfl⟩
theorem cls_of {Q : List RP} (h : Q.length=5) {c : Nat} {q : RP} (hq : Q[c]?=some q) : c < 5:=by
 have:=(List.getElem?_eq_some_iff.1 hq).1; omega
theorem headC_at {sv : AV} {Q : List RP} (h5 : Q.length=5) {c : Nat} {q : RP} (hq : Q[c]?=some q) : (headC sv Q)[1 + c * 2]?=some (.int .i64 q.m)∧(headC sv Q)[1 + c * 2 + 1]?=some q.v:=by
 have hc:=cls_of h5 hq
 obtain ⟨a,b,c',d,e,rfl⟩:=five_of h5
 have : c=0∨c=1∨c=2∨c=3∨c=4:=by omega
 rcases this with rfl | rfl | rfl | rfl | rfl <;> cases hq <;> exact ⟨rfl,rfl⟩
theorem headC_v {sv v : AV} {Q : List RP} (h5 : Q.length=5) {c : Nat} {q : RP} {L : List Int} (hq : Q[c]?=some q) : (headC sv Q).set (1 + c * 2 + 1) v=headC sv (Q.set c ⟨q.m,v,L⟩):=by
 have hc:=cls_of h5 hq
 obtain ⟨a,b,c',d,e,rfl⟩:=five_of h5
 have : c=0∨c=1∨c=2∨c=3∨c=4:=by omega
 rcases this with rfl | rfl | rfl | rfl | rfl <;> cases hq <;> rfl
theorem headC_m {sv : AV} {m : Int} {Q : List RP} (h5 : Q.length=5) {c : Nat} {q : RP} (hq : Q[c]?=some q) : (headC sv Q).set (1 + c * 2) (.int .i64 m)=headC sv (Q.set c ⟨m,q.v,q.L⟩):=by
 have hc:=cls_of h5 hq
 obtain ⟨a,b,c',d,e,rfl⟩:=five_of h5
 have : c=0∨c=1∨c=2∨c=3∨c=4:=by omega
 rcases this with rfl | rfl | rfl | rfl | rfl <;> cases hq <;> rfl
theorem headC_len {sv : AV} {Q : List RP} (h5 : Q.length=5) : (headC sv Q).length=11:=by
 obtain ⟨a,b,c',d,e,rfl⟩:=five_of h5; rfl
theorem idxRow_two {o off n i : Nat} {k : IntKind} (hi : i < n) : idxRowV n 2 (.ptr o off) (.int k (i : Int))=some (.ptr o (off + i * 2)):=by
 simp [idxRowV,hi]
theorem sees_same {h' : AH} {v : AV} {xs : List AV} (s : Sees h v xs) (hk : ∀ o∈objs v,h'.get o=h.get o) : Sees h' v xs:=by
 rcases s with ⟨rfl,rfl⟩ | ⟨o,off,cap,ex,l,rw,rfl,hg,h1,h2⟩
 ·exact .inl ⟨rfl,rfl⟩
 ·exact .inr ⟨o,off,cap,ex,l,rw,rfl,(hk o (by simp [objs])).trans hg,h1,h2⟩
theorem sees_cells {v : AV} {xs : List AV} (s : Sees h v xs) : v.cells=[v]∧v.flat=true:=by
 rcases s with ⟨rfl,_⟩ | ⟨o,off,cap,ex,l,rw,rfl,_⟩ <;> exact ⟨rfl,rfl⟩
structure RAr (h : AH) (w : Nat) (sv : AV) (S : List Slot) (Q : List RP) : Prop where
 obj : h.get w=some (.cells (headC sv Q) true)
 five : Q.length=5
 slots : SlotsV h sv S
 words : ∀ s∈S,Words h s.wv s.ws
 own : ∀ s∈S,∀ o∈objs s.wv,o≠w∧o∉objs sv
 lists : ∀ q∈Q,Sees h q.v (lcells q.L)
 lown : ∀ q∈Q,∀ o∈objs q.v,o≠w∧o∉objs sv
 aside : w∉objs sv
 kinds : ∀ s∈S,s.cls < 5∧s.gen < 9223372036854775807∧s.ws.length=sizeN s.cls
 small : S.length≤1024
 short : ∀ q∈Q,q.L.length≤1024
 caps : ∀ q∈Q,capOk q.v
theorem RAr.keep {h' : AH} {w : Nat} {sv : AV} {S : List Slot} {Q : List RP} (A : RAr h w sv S Q) (h1 : h'.get w=h.get w) (h2 : ∀ o∈objs sv,h'.get o=h.get o) (h3 : ∀ q∈Q,∀ o∈objs q.v,h'.get o=h.get o) (h4 : ∀ s∈S,∀ o∈objs s.wv,h'.get o=h.get o) : RAr h' w sv S Q where
 obj:=h1.trans A.obj
 five:=A.five
 slots:=A.slots.keep h2
 words:=fun s hs => (A.words s hs).keep (h4 s hs)
 own:=A.own
 lists:=fun q hq => sees_same (A.lists q hq) (h3 q hq)
 lown:=A.lown
 aside:=A.aside
 kinds:=A.kinds
 small:=A.small
 short:=A.short
 caps:=A.caps
theorem RAr.low {w : Nat} {sv : AV} {S : List Slot} {Q : List RP} (A : RAr h w sv S Q) (hl : Low h) : w < h.next∧(∀ o∈objs sv,o < h.next)∧(∀ q∈Q,∀ o∈objs q.v,o < h.next)∧∀ s∈S,∀ o∈objs s.wv,o < h.next:=by
 refine ⟨hl _ _ A.obj,?_,fun q hq => sees_low (A.lists q hq) hl,?_⟩
 ·intro o ho
  rcases A.slots with ⟨rfl,_⟩ | ⟨so,cap,l,rfl,hg,_⟩
  ·simp [objs] at ho
  ·simp [objs] at ho; subst ho; exact hl _ _ hg
 ·intro s hs o ho
  obtain ⟨w,hw,hg⟩:=A.words s hs
  rw [hw] at ho
  simp [objs] at ho; subst ho; exact hl _ _ hg
theorem RAr.grow {h' : AH} {w : Nat} {sv : AV} {S : List Slot} {Q : List RP} (A : RAr h w sv S Q) (hl : Low h) (on : Only h h' []) : RAr h' w sv S Q:=by
 obtain ⟨l1,l2,l3,l4⟩:=A.low hl
 exact A.keep (on.2 w l1 (by simp)) (fun o ho => on.2 o (l2 o ho) (by simp)) (fun q hq o ho => on.2 o (l3 q hq o ho) (by simp)) (fun s hs o ho => on.2 o (l4 s hs o ho) (by simp))
theorem RAr.setCell {w : Nat} {sv : AV} {S : List Slot} {Q : List RP} (A : RAr h w sv S Q) {n j : Nat} {x y : Slot} {v : AV} {so : Nat} (hx : S[n]?=some x) (hso : objs sv=[so]) (hj : j < 4) (hv : v.cells=[v]) (hf : v.flat=true) (hc : y.cells=x.cells.set j v)
  (hw : Words h y.wv y.ws) (ho : ∀ o∈objs y.wv,o≠w∧o∉objs sv) (hk : y.cls < 5∧y.gen < 9223372036854775807∧y.ws.length=sizeN y.cls) :
  ∃ h',storeV h 1 (.ptr so (n * 4 + j)) v=some h'∧Upd h h' so∧RAr h' w sv (S.set n y) Q:=by
 have hn:=(List.getElem?_eq_some_iff.1 hx).1
 rcases A.slots with ⟨rfl,rfl⟩ | ⟨so',cap,l,rfl,hg,h1,h2,h3⟩
 ·simp at hx
 ·simp only [objs,List.cons.injEq,and_true] at hso
  subst hso
  refine ⟨_,store_at hg (by omega) hv hf,(Upd.refl h _).set _,?_⟩
  have hne : ∀ o,o≠so'→(h.set so' (.cells (l.set (n * 4 + j) v) true)).get o=h.get o:=fun o e => by rw [AH.get_set,if_neg (Ne.symm e)]
  have hmem : ∀ s∈S.set n y,s∈S∨s=y:=by
   intro s hs
   rcases List.mem_or_eq_of_mem_set hs with h4 | h4
   ·exact .inl h4
   ·exact .inr h4
  refine ⟨?_,A.five,?_,?_,?_,?_,A.lown,A.aside,?_,by simpa using A.small,A.short,A.caps⟩
  ·rw [hne w (fun e => A.aside (by simp [objs,e]))]; exact A.obj
  ·refine .inr ⟨so',cap,_,by simp,get_set_same,by simp [h1],by simpa using h2,?_⟩
   intro i s hs m z hz
   rw [List.getElem?_set] at hs
   have hm4 : m < 4:=(List.getElem?_eq_some_iff.1 hz).1
   by_cases e : n=i
   ·subst e
    rw [if_pos rfl,if_pos hn] at hs
    cases hs
    rw [hc,List.getElem?_set] at hz
    rw [List.getElem?_set]
    by_cases e2 : j=m
    ·subst e2
     rw [if_pos rfl] at hz
     rw [if_pos rfl,if_pos (by omega)]
     split at hz
     ·exact hz
     ·cases hz
    ·rw [if_neg e2] at hz
     rw [if_neg (by omega)]
     exact h3 n x hx m z hz
   ·rw [if_neg e] at hs
    rw [List.getElem?_set,if_neg (by omega)]
    exact h3 i s hs m z hz
  ·intro s hs
   rcases hmem s hs with h4 | rfl
   ·exact (A.words s h4).keep fun o h5 => hne o fun e => (A.own s h4 o h5).2 (by simp [objs,e])
   ·exact hw.keep fun o h5 => hne o fun e => (ho o h5).2 (by simp [objs,e])
  ·intro s hs o h5
   rcases hmem s hs with h4 | rfl
   ·exact A.own s h4 o h5
   ·exact ho o h5
  ·intro q hq
   exact sees_same (A.lists q hq) fun o h5 => hne o fun e => (A.lown q hq o h5).2 (by simp [objs,e])
  ·intro s hs
   rcases hmem s hs with h4 | rfl
   ·exact A.kinds s h4
   ·exact hk
theorem RAr.sv_load {w : Nat} {sv : AV} {S : List Slot} {Q : List RP} (A : RAr h w sv S Q) : loadV h false 1 (.ptr w 0)=some sv:=load_at A.obj rfl
theorem RAr.list_load {w : Nat} {sv : AV} {S : List Slot} {Q : List RP} (A : RAr h w sv S Q) {c : Nat} {q : RP} (hq : Q[c]?=some q) : loadV h false 1 (.ptr w (1 + c * 2))=some (.int .i64 q.m)∧loadV h false 1 (.ptr w (1 + c * 2 + 1))=some q.v :=
 ⟨load_at A.obj (headC_at A.five hq).1,load_at A.obj (headC_at A.five hq).2⟩
theorem RAr.setList {w : Nat} {sv : AV} {S : List Slot} {Q : List RP} (A : RAr h w sv S Q) {c : Nat} {q : RP} (hq : Q[c]?=some q) {v : AV} {L : List Int} (s : Sees h v (lcells L)) (hs : L.length≤1024) (hcap : capOk v) (ho : ∀ o∈objs v,o≠w∧o∉objs sv) :
  ∃ h',storeV h 1 (.ptr w (1 + c * 2 + 1)) v=some h'∧Upd h h' w∧RAr h' w sv S (Q.set c ⟨q.m,v,L⟩):=by
 have hc:=cls_of A.five hq
 refine ⟨_,store_at A.obj (by rw [headC_len A.five]; omega) (sees_cells s).1 (sees_cells s).2,(Upd.refl h _).set _,?_⟩
 rw [headC_v (L:=L) A.five hq]
 have hne : ∀ o,o≠w→(h.set w (.cells (headC sv (Q.set c ⟨q.m,v,L⟩)) true)).get o=h.get o:=fun o e => by rw [AH.get_set,if_neg (Ne.symm e)]
 have hmem : ∀ r∈Q.set c ⟨q.m,v,L⟩,r∈Q∨r=⟨q.m,v,L⟩:=by
  intro r hr
  rcases List.mem_or_eq_of_mem_set hr with h4 | h4
  ·exact .inl h4
  ·exact .inr h4
 refine ⟨get_set_same,by simpa using A.five,A.slots.keep fun o h5 => hne o fun e => A.aside (e ▸ h5),fun s hs => (A.words s hs).keep fun o h5 => hne o (A.own s hs o h5).1,A.own,?_,?_,A.aside,A.kinds,A.small,?_,?_⟩
 ·intro r hr
  rcases hmem r hr with h4 | rfl
  ·exact sees_same (A.lists r h4) fun o h5 => hne o (A.lown r h4 o h5).1
  ·exact sees_same s fun o h5 => hne o (ho o h5).1
 ·intro r hr
  rcases hmem r hr with h4 | rfl
  ·exact A.lown r h4
  ·exact ho
 ·intro r hr
  rcases hmem r hr with h4 | rfl
  ·exact A.short r h4
  ·exact hs
 ·intro r hr
  rcases hmem r hr with h4 | rfl
  ·exact A.caps r h4
  ·exact hcap
def atV : Except Nat Nat→AV
 | .error e => .tuple [.int .i64 0,.int .i64 (e : Int)]
 | .ok n => .tuple [.int .i64 (n : Int),.int .i64 0]
theorem rat_ok (k : Fits T) {w : Nat} {sv : AV} {S : List Slot} {Q : List RP} (A : RAr h w sv S Q) (ref : Int) :
  Gives T 49 [.ptr w 0,.int .i64 ref] h fun r h' => h'=h∧∃ res,OfIs S ref res∧r=atV res:=by
 refine gives_func (k.env _ (by decide)) (k.at (fn:=a49) rfl) rfl ?_
 have nc : nilChkV (.ptr w 0)=some (.ptr w 0):=rfl
 have fa : fieldAddrV 0 (.ptr w 0)=some (.ptr w 0):=rfl
 have hex : ∀ {a b c d : AV},extractV 3 (.tuple [a,b,c,d])=some d:=rfl
 simp only [a49,c49,vms,vmc,vA,vB,reduceCtorEq,vC,vD]
 refine Gives.bind ((rparts_ok k ref).mono ?_)
 rintro _ _ ⟨rfl,⟨s,g,l,hv,hr,rfl⟩ | ⟨hno,rfl⟩⟩
 ·rename_i h
  have hsm:=A.small
  simp only [vms,vmc,vA,vB,reduceCtorEq,vC,vD,hex,nc,fa,A.sv_load,A.slots.len]
  by_cases hfar : S.length≤s
  ·have d1 : decide ((s : Int) ≥ (S.length : Int))=true:=by rw [decide_eq_true_eq]; omega
   simp only [d1,vms,vmc,vA,vB,reduceCtorEq,vC,vD]
   exact ⟨trivial,.error 1,.far s g l hv hr hfar,rfl⟩
  ·have d1 : decide ((s : Int) ≥ (S.length : Int))=false:=by rw [decide_eq_false_iff_not]; omega
   obtain ⟨x,hx⟩ : ∃ x,S[s]?=some x:=⟨_,List.getElem?_eq_getElem (by omega)⟩
   obtain ⟨so,ho,hi,l0,l1,l2,l3⟩:=A.slots.at hx
   have fb : ∀ j,fieldAddrV j (.ptr so (s * 4))=some (.ptr so (s * 4 + j)):=fun j => rfl
   have nb : nilChkV (.ptr so (s * 4))=some (.ptr so (s * 4)):=rfl
   have hcls : (((x.cls : Nat) : Int) == 0)=(x.cls == 0):=by
    rw [Bool.eq_iff_iff]; simp
   simp only [d1,vms,vmc,vA,vB,reduceCtorEq,vC,vD,nc,fa,A.sv_load,hi,fb,Nat.add_zero,l0,hcls]
   have heq : eqBV true (.bool l) (.bool (x.cls == 0))=some (.bool (!(l == (x.cls == 0)))):=rfl
   simp only [heq,vms,vmc,vA,vB,reduceCtorEq,vC,vD]
   by_cases hodd : l=(x.cls == 0)
   ·have d2 : (!(l == (x.cls == 0)))=false:=by rw [hodd]; simp
    simp only [d2,vms,vmc,vA,vB,reduceCtorEq,vC,vD,nc,fa,A.sv_load,hi,nb,fb,l1]
    by_cases hgen : x.gen=g
    ·have d3 : (((x.gen : Nat) : Int) != (g : Int))=false:=by rw [hgen]; simp
     simp only [d3,vms,vmc,vA,vB,reduceCtorEq,vC,vD,nc,fa,A.sv_load,hi,nb,fb,l2]
     cases hlive : x.live
     ·simp only [vms,vmc,vA,vB,reduceCtorEq,vC,vD]
      exact ⟨trivial,.error 3,.free s g x hv (by rw [← hodd]; exact hr) hx hgen hlive,rfl⟩
     ·simp only [vms,vmc,vA,vB,reduceCtorEq,vC,vD]
      exact ⟨trivial,.ok s,.good s x (by rw [hgen]; exact hv) (by rw [hgen,← hodd]; exact hr) hx hlive,rfl⟩
    ·have d3 : (((x.gen : Nat) : Int) != (g : Int))=true:=by simp; omega
     simp only [d3,vms,vmc,vA,vB,reduceCtorEq,vC,vD]
     exact ⟨trivial,.error 4,.gone s g x hv (by rw [← hodd]; exact hr) hx hgen,rfl⟩
   ·have d2 : (!(l == (x.cls == 0)))=true:=by simpa using hodd
    simp only [d2,vms,vmc,vA,vB,reduceCtorEq,vC,vD]
    exact ⟨trivial,.error 1,.odd s g l x hv hr hx hodd,rfl⟩
 ·simp only [vms,vmc,vA,vB,reduceCtorEq,vC,vD,hex]
  exact ⟨trivial,.error 1,.none hno,rfl⟩
end Go.Proofs.Ytagcnjhpdopkiaa
/- The document's own arena: words of slots; a number is taken. -/
namespace Go.Proofs.Ytagcnjhpdopkiaa
open Go.Vm
open Go.Vm.AOpd renaming val → vA
open Nat renaming reduceEqDiff → vB,reduceAdd → vC,reduceBEq → vD
set_option linter.unusedSimpArgs false
set_option linter.unusedVariables false
variable {T : Vm.Prog} {h : AH}
def NewW (h h' : AH) (r : AV) (ws : List Nat) : Prop:=Words h' r ws∧(∀ o∈objs r,h.next≤o)∧Only h h' []∧Low h'
theorem rfill_ok (k : Fits T) {c : Nat} (hc : c < 5) (hl : Low h) {v : AV} {ws : List Nat} (sr : Src h v ws) (hlt : ∀ o∈objs v,o < h.next) (hw : ws.length≤sizeN c) :
  Gives T 83 [.int .i64 (c : Int),v] h fun r h' => NewW h h' r (padW ws (sizeN c)):=by
 refine gives_func (k.env _ (by decide)) (k.at (fn:=a83) rfl) rfl ?_
 have hN:=sizeN_le c
 simp only [a83,c83,vms,vmc,vA,vB,reduceCtorEq,vC,vD]
 refine Gives.bind ((rsize_ok k hc).mono ?_)
 rintro _ _ ⟨rfl,rfl⟩
 rename_i h
 generalize hNe : sizeN c=N at hN hw
 have hW2 : (h.new (.cells (List.replicate N (AV.int .u64 0)) true)).get h.next=some (.cells (List.replicate N (AV.int .u64 0)) true):=get_new_same
 have sr2 : Src (h.new (.cells (List.replicate N (AV.int .u64 0)) true)) v ws:=sr.keep fun o hoo => by
  rw [AH.get_new,if_neg (by have:=hlt o hoo; omega)]
 have hcp : copyV 1 (h.new (.cells (List.replicate N (AV.int .u64 0)) true)) (.slice h.next 0 1 N N true) v=some (.int .i64 (ws.length : Nat),if ws.length=0 then (h.new (.cells (List.replicate N (AV.int .u64 0)) true)) else (h.new (.cells (List.replicate N (AV.int .u64 0)) true)).set h.next (.cells (wcells (padW ws N)) true)):=by
  simp only [copyV,sr2.len,len_slice,Option.bind_some,Nat.min_eq_left hw,sr2.elems,if_true]
  cases ws with
  | nil => rfl
  | cons w0 ws0 =>
   rw [if_neg (by simp [wcells]),if_neg (by simp)]
   simp only [AH.store,hW2,wcells_flat]
   rw [if_pos ⟨by rw [wcells_len]; simpa using hw,trivial⟩,pad_cells hw]
   rfl
 simp only [vms,vmc,vA,vB,reduceCtorEq,vC,vD,mkSlice_nat (h:=h) (sz:=1) (bytes:=8) (zero:=[.int .u64 0]) (k := .i64) (k' := .i64) (Nat.le_refl N) (by omega) (by omega),rep_one,hcp]
 have lo1:=hl.new (.cells (List.replicate N (AV.int .u64 0)) true)
 have on1 : Only h (h.new (.cells (List.replicate N (AV.int .u64 0)) true)) []:=(Only.refl h []).new _
 split
 ·rename_i e0
  have hnil : ws=[]:=List.eq_nil_of_length_eq_zero e0
  subst hnil
  exact ⟨⟨h.next,by rw [padW_len hw],by rw [hW2]; simp [padW,wcells]⟩,fun o hoo => by simp [objs] at hoo; omega,on1,lo1⟩
 ·refine ⟨⟨h.next,by rw [padW_len hw],get_set_same⟩,fun o hoo => by simp [objs] at hoo; omega,⟨by rw [AH.next_set,next_new]; omega,fun q hq hF => ?_⟩,lo1.set (by rw [next_new]; omega) _⟩
  rw [AH.get_set,if_neg (by omega)]
  exact on1.2 q hq hF
theorem poison_step {N i : Nat} (hi : i < N) : (wcells (List.replicate i poisonN ++ List.replicate (N - i) 0)).set i (.int .u64 16045690984833335023)=wcells (List.replicate (i + 1) poisonN ++ List.replicate (N - (i + 1)) 0):=by
 have e : N - i=(N - (i + 1)) + 1:=by omega
 rw [e,List.replicate_succ,List.replicate_succ',List.append_assoc]
 simp only [wcells,List.map_append,List.map_cons,List.singleton_append]
 rw [List.set_append_right _ _ (by simp)]
 simp [poisonN]
theorem rpoison_ok (k : Fits T) {c : Nat} (hc : c < 5) (hl : Low h) : Gives T 81 [.int .i64 (c : Int)] h fun r h' => NewW h h' r (poisonP c):=by
 refine gives_func (k.env _ (by decide)) (k.at (fn:=a81) rfl) rfl ?_
 have hN:=sizeN_le c
 simp only [a81,c81,vms,vmc,vA,vB,reduceCtorEq,vC,vD]
 refine Gives.bind ((rsize_ok k hc).mono ?_)
 rintro _ _ ⟨rfl,rfl⟩
 rename_i h
 unfold poisonP
 generalize hNe : sizeN c=N at hN
 simp only [vms,vmc,vA,vB,reduceCtorEq,vC,vD,mkSlice_nat (h:=h) (sz:=1) (bytes:=8) (zero:=[.int .u64 0]) (k := .i64) (k' := .i64) (Nat.le_refl N) (by omega) (by omega),rep_one]
 have lo1:=hl.new (.cells (List.replicate N (AV.int .u64 0)) true)
 have on1 : Only h (h.new (.cells (List.replicate N (AV.int .u64 0)) true)) []:=(Only.refl h []).new _
 have g1 : (h.new (.cells (List.replicate N (AV.int .u64 0)) true)).get h.next=some (.cells (wcells (List.replicate 0 poisonN ++ List.replicate (N - 0) 0)) true):=by rw [get_new_same]; simp [wcells]
 have nx1 : (h.new (.cells (List.replicate N (AV.int .u64 0)) true)).next=h.next + 1:=next_new
 generalize h.new (.cells (List.replicate N (AV.int .u64 0)) true)=h1 at lo1 on1 g1 nx1
 refine wpc_loop (fun m f h' => ∃ i,m=N - i∧i≤N∧Low h'∧Only h h' []∧h'.get h.next=some (.cells (wcells (List.replicate i poisonN ++ List.replicate (N - i) 0)) true)∧f.at 3 = .slice h.next 0 1 N N true∧f.at 9 = .int .i64 (N : Nat)∧f.at 10 = .int .i64 (i : Nat)) ?_ N _ _ ⟨0,rfl,by omega,lo1,on1,g1,?_⟩
 ·rintro m f h' ⟨i,rfl,hi,lo,on,g,f3,f9,f10⟩
  simp only [c81l0,vms,vmc,vA,vB,reduceCtorEq,vC,vD,f3,f9,f10]
  by_cases hlt : i < N
  ·have hd : decide ((i : Int) < (N : Int))=true:=by rw [decide_eq_true_eq]; omega
   have hidx : idxAddrV 1 (.slice h.next 0 1 N N true) (.int .i64 (i : Int))=some (.ptr h.next i):=by simp [idxAddrV,hlt]
   have hst:=store_at (i:=i) (v:=AV.int .u64 16045690984833335023) g (by simp [wcells]; omega) rfl rfl
   rw [poison_step hlt] at hst
   have w2 : IntKind.i64.wrap ((i : Int) + 1)=((i + 1 : Nat) : Int):=by rw [wrap_i64 (by omega) (by omega)]; rfl
   simp only [hd,vms,vmc,vA,vB,reduceCtorEq,vC,vD,f3,f9,f10,hidx,hst,w2]
   refine ⟨N - (i + 1),by omega,i + 1,rfl,by omega,lo.set (lo _ _ g) _,⟨on.1,fun q hq hF => ?_⟩,get_set_same,trivial,trivial,rfl⟩
   rw [AH.get_set,if_neg (by omega)]
   exact on.2 q hq hF
  ·have hd : decide ((i : Int) < (N : Int))=false:=by rw [decide_eq_false_iff_not]; omega
   have : i=N:=by omega
   subst this
   simp only [hd,vms,vmc,vA,vB,reduceCtorEq,vC,vD,f3]
   refine ⟨⟨h.next,by simp,by rw [g]; simp⟩,fun o hoo => by simp [objs] at hoo; omega,on,lo⟩
 ·simp only [vms,vmc,vA,vB,reduceCtorEq,vC,vD]
  exact ⟨trivial,trivial,rfl⟩
theorem sees_from {v : AV} {xs : List AV} (s : Sees h v xs) (hcap : capOk v) {n : Nat} (hn : n≤xs.length) {k : IntKind} : ∃ v',slcV 1 v (some (.int k (n : Int))) none none=some v'∧Sees h v' (xs.drop n)∧(∀ o∈objs v',o∈objs v)∧capOk v':=by
 rcases s with ⟨rfl,rfl⟩ | ⟨o,off,cap,ex,l,rw,rfl,hg,h1,h2⟩
 ·have : n=0:=by simpa using hn
  subst this
  exact ⟨.nilSlice,by simp [slcV,bounds,boundM,boundH,boundL,natOf,Option.filter],.inl ⟨rfl,rfl⟩,fun o ho => ho,trivial⟩
 ·have hlc : xs.length≤cap:=hcap
  refine ⟨.slice o (if (ex || false) && decide (cap=n) then off else off + n * 1) 1 (xs.length - n) (cap - n) (ex || false),?_,.inr ⟨o,_,_,_,l,rw,by rw [List.length_drop],hg,?_,?_⟩,?_,?_⟩
  ·simp [slcV,bounds,boundM,boundH,boundL,natOf,Option.filter,hn]
  ·rw [List.length_drop]
   split <;> omega
  ·intro i x hx
   rw [List.getElem?_drop] at hx
   have hlt:=(List.getElem?_eq_some_iff.1 hx).1
   by_cases he : ((ex || false) && decide (cap=n))=true
   ·exfalso
    simp at he
    omega
   ·rw [if_neg he,show off + n * 1 + i=off + (n + i) by omega]
    exact h2 _ _ hx
  ·intro p hp; simpa [objs] using hp
  ·show xs.length - n≤cap - n
   omega
theorem rtake_ok (k : Fits T) {w : Nat} {sv : AV} {S : List Slot} {Q : List RP} (A : RAr h w sv S Q) (hl : Low h) {c : Nat} {q : RP} (hq : Q[c]?=some q) :
  Gives T 82 [.ptr w (1 + c * 2)] h fun r h' => (q.L=[]∧r = .tuple [.int .i64 0,.bool false]∧h'=h) ∨
   ∃ n L v,q.L=n :: L∧r = .tuple [.int .i64 n,.bool true]∧RAr h' w sv S (Q.set c ⟨q.m,v,L⟩)∧(∀ o∈objs v,o∈objs q.v)∧Only h h' [w]∧Low h':=by
 refine gives_func (k.env _ (by decide)) (k.at (fn:=a82) rfl) rfl ?_
 have hm:=List.mem_of_getElem? hq
 have hs:=A.lists q hm
 have hsh:=A.short q hm
 have nc : nilChkV (.ptr w (1 + c * 2))=some (.ptr w (1 + c * 2)):=rfl
 have fa : fieldAddrV 1 (.ptr w (1 + c * 2))=some (.ptr w (1 + c * 2 + 1)):=rfl
 simp only [a82,c82,vms,vmc,vA,vB,reduceCtorEq,vC,vD,nc,fa,(A.list_load hq).2,hs.len]
 cases hL : q.L with
 | nil =>
  simp only [lcells,List.map_nil,List.length_nil,show (((0 : Nat) : Int) == 0)=true from rfl,vms,vmc,vA,vB,reduceCtorEq,vC,vD]
  exact .inl ⟨trivial,trivial,trivial⟩
 | cons n L =>
  rw [hL] at hs hsh
  have d : ((((lcells (n :: L)).length : Nat) : Int) == 0)=false:=by simp [lcells]; omega
  obtain ⟨pa,hi,hld⟩:=hs.at (i:=0) (x := .int .i64 n) rfl .i64
  have hi' : idxAddrV 1 q.v (.int .i64 0)=some pa:=hi
  obtain ⟨v',hsl,s',hob,hcp⟩:=sees_from hs (A.caps q hm) (n:=1) (by simp [lcells]) (k := .i64)
  have hsl' : slcV 1 q.v (some (.int .i64 1)) none none=some v':=hsl
  have s2 : Sees h v' (lcells L):=s'
  obtain ⟨h',st,u,A'⟩:=A.setList hq s2 (by simp at hsh; omega) hcp (fun o ho => A.lown q hm o (hob o ho))
  simp only [d,vms,vmc,vA,vB,reduceCtorEq,vC,vD,nc,fa,(A.list_load hq).2,hi',hld,hsl',st]
  exact .inr ⟨n,L,v',rfl,rfl,A',hob,u.only (.inl (by simp)),hl.upd u (A.low hl).1⟩
end Go.Proofs.Ytagcnjhpdopkiaa
/- The document's own arena: a number is put among those that are free. -/
namespace Go.Proofs.Ytagcnjhpdopkiaa
open Go.Vm
open Go.Vm.AOpd renaming val → vA
open Nat renaming reduceEqDiff → vB,reduceAdd → vC,reduceBEq → vD
set_option linter.unusedSimpArgs false
set_option linter.unusedVariables false
variable {T : Vm.Prog} {h : AH}
theorem tw_spec (p : Int→Bool) : ∀ (L : List Int),(L.takeWhile p).length≤L.length∧(∀ i y,i < (L.takeWhile p).length→L[i]?=some y→p y=true)∧(∀ y,L[(L.takeWhile p).length]?=some y→p y=false)∧L.take (L.takeWhile p).length=L.takeWhile p∧L.drop (L.takeWhile p).length=L.dropWhile p
 | [] => by simp
 | x :: L => by
  obtain ⟨h1,h2,h3,h4,h5⟩:=tw_spec p L
  cases hx : p x with
  | false => simp [List.takeWhile_cons,List.dropWhile_cons,hx]
  | true =>
   simp only [List.takeWhile_cons,List.dropWhile_cons,hx,if_true,List.length_cons]
   refine ⟨by omega,fun i y hi hy => ?_,fun y hy => ?_,?_,?_⟩
   ·cases i with
    | zero => simp at hy; subst hy; exact hx
    | succ i => exact h2 i y (by omega) (by simpa using hy)
   ·exact h3 y (by simpa using hy)
   ·rw [List.take_succ_cons,h4]
   ·rw [List.drop_succ_cons,h5]
def insI (L : List Int) (n : Int) : List Int:=L.takeWhile (fun y => decide (y < n)) ++ n :: L.dropWhile (fun y => decide (y < n))
theorem insI_len (L : List Int) (n : Int) : (insI L n).length=L.length + 1:=by
 have:=congrArg List.length (List.takeWhile_append_dropWhile (p:=fun y => decide (y < n)) (l:=L))
 simp only [insI,List.length_append,List.length_cons] at this ⊢
 omega
theorem lcells_flat (L : List Int) : ∀ y∈lcells L,AV.flat y=true:=by
 intro y hy
 simp only [lcells,List.mem_map] at hy
 obtain ⟨n,_,rfl⟩:=hy; rfl
theorem row1_capOk {v : AV} {xs : List AV} (r : Row1 h v xs) : capOk v:=by
 rcases r with ⟨rfl,_⟩ | ⟨o,cap,ex,l,rfl,hg,h1,h2,h3⟩
 ·trivial
 ·show _≤cap
  simpa using h2
theorem rput_ok (k : Fits T) {w : Nat} {sv : AV} {S : List Slot} {Q : List RP} (A : RAr h w sv S Q) (hl : Low h) {c : Nat} {q : RP} (hq : Q[c]?=some q) {n : Int} (h0 : 0≤n) (hm : n < q.m) (hn : n∉q.L) (hs : q.L.length < 1024) :
  Gives T 80 [.ptr w (1 + c * 2),.int .i64 n] h fun r h' => ∃ v,RAr h' w sv S (Q.set c ⟨q.m,v,insI q.L n⟩)∧(∀ o∈objs v,h.next≤o)∧Only h h' [w]∧Low h':=by
 refine gives_func (k.env _ (by decide)) (k.at (fn:=a80) rfl) rfl ?_
 have hmem:=List.mem_of_getElem? hq
 have sq:=A.lists q hmem
 obtain ⟨lm,lv⟩:=A.list_load hq
 have nc : nilChkV (.ptr w (1 + c * 2))=some (.ptr w (1 + c * 2)):=rfl
 have fa0 : fieldAddrV 0 (.ptr w (1 + c * 2))=some (.ptr w (1 + c * 2)):=rfl
 have fa1 : fieldAddrV 1 (.ptr w (1 + c * 2))=some (.ptr w (1 + c * 2 + 1)):=rfl
 have d1 : decide (n < 0)=false:=by rw [decide_eq_false_iff_not]; omega
 have d2 : decide (n ≥ q.m)=false:=by rw [decide_eq_false_iff_not]; omega
 have hins : insI q.L n=q.L.take (q.L.takeWhile fun y => decide (y < n)).length ++ n :: q.L.drop (q.L.takeWhile fun y => decide (y < n)).length:=by
  obtain ⟨_,_,_,t4,t5⟩:=tw_spec (fun y => decide (y < n)) q.L
  rw [t4,t5]; rfl
 obtain ⟨t1,t2,t3,_,_⟩:=tw_spec (fun y => decide (y < n)) q.L
 generalize (q.L.takeWhile fun y => decide (y < n)).length=kk at *
 have lenl : lenOfV q.v=some q.L.length:=by rw [sq.len]; simp [lcells]
 simp only [a80,c80,vms,vmc,vA,vB,reduceCtorEq,vC,vD,nc,fa0,lm,d1,d2]
 refine wpc_loop (fun m f h' => ∃ i,m=kk - i∧i≤kk∧h'=h∧f.at 0 = .ptr w (1 + c * 2)∧f.at 1 = .int .i64 n∧f.at 5 = .int .i64 (i : Nat)) ?_ kk _ _ ⟨0,rfl,by omega,rfl,?_⟩
 ·rintro m f h ⟨i,rfl,hi,rfl,f0,f1,f5⟩
  simp only [c80l0,vms,vmc,vA,vB,reduceCtorEq,vC,vD,f0,f1,f5,nc,fa1,lv,lenl]
  by_cases hlt : i < kk
  ·obtain ⟨y,hy⟩ : ∃ y,q.L[i]?=some y:=⟨_,List.getElem?_eq_getElem (by omega)⟩
   have e2 : decide (y < n)=true:=t2 i y hlt hy
   obtain ⟨pa,hi1,hld⟩:=sq.at (i:=i) (x := .int .i64 y) (by simp [lcells,hy]) .i64
   have e1 : decide ((i : Int) < (q.L.length : Int))=true:=by rw [decide_eq_true_eq]; omega
   have w2 : IntKind.i64.wrap ((i : Int) + 1)=((i + 1 : Nat) : Int):=by rw [wrap_i64 (by omega) (by omega)]; rfl
   simp only [e1,vms,vmc,vA,vB,reduceCtorEq,vC,vD,f0,f1,f5,nc,fa1,lv,hi1,hld,e2,w2]
   exact ⟨kk - (i + 1),by omega,i + 1,rfl,by omega,trivial,trivial,trivial,rfl⟩
  ·have : i=kk:=by omega
   subst this
   -- the rows that are cut,and the new ones
   obtain ⟨vk,hs1,sk,ok,_,_⟩:=Sees.upto sq (A.caps q hmem) (n:=i) (by simpa [lcells] using t1) (k := .i64)
   obtain ⟨vd,hs2,sd,od,_⟩:=sees_from sq (A.caps q hmem) (n:=i) (by simpa [lcells] using t1) (k := .i64)
   have sk0 : Sees h vk (lcells (q.L.take i)):=by rw [lcells,List.map_take]; exact sk
   have sd0 : Sees h vd (lcells (q.L.drop i)):=by rw [lcells,List.map_drop]; exact sd
   have hb0 : fillV ([] : List AV) []=some []:=rfl
   have hb1 : fillV [AV.int .i64 0] [(0,1,AV.int .i64 n)]=some [.int .i64 n]:=by simp [fillV,AV.isDef,AV.cells,setMany]
   have lo1:=hl.new (.cells [] true)
   have on1 : Only h (h.new (.cells [] true)) []:=(Only.refl h []).new _
   have lo2:=lo1.new (.cells [.int .i64 n] true)
   have on2 : Only h ((h.new (.cells [] true)).new (.cells [.int .i64 n] true)) []:=on1.new _
   have A1:=A.grow hl on1
   have A2:=A.grow hl on2
   have lv1:=(A1.list_load hq).2
   have lv2:=(A2.list_load hq).2
   have hql:=(A.low hl).2.2.1 q hmem
   have g0 : ((h.new (.cells [] true)).new (.cells [.int .i64 n] true)).get h.next=some (.cells [] true):=by rw [AH.get_new,if_neg (by rw [next_new]; omega),get_new_same]
   have g1 : ((h.new (.cells [] true)).new (.cells [.int .i64 n] true)).get (h.next + 1)=some (.cells [.int .i64 n] true):=by
    have:=get_new_same (h:=h.new (.cells [] true)) (x := .cells [.int .i64 n] true)
    rw [next_new] at this; exact this
   have r0 : Row1 ((h.new (.cells [] true)).new (.cells [.int .i64 n] true)) (.slice h.next 0 1 0 0 true) []:=row1_of g0 rfl rfl (by simp) (fun i x hx => by simp at hx)
   have n2 : ((h.new (.cells [] true)).new (.cells [.int .i64 n] true)).next=h.next + 2:=by rw [next_new,next_new]
   have sk2:=sees_same sk0 (fun o ho => on2.2 o (hql o (ok o ho)) (by simp))
   obtain ⟨va,h3,ap1,ra,oa,oa2,on3,lo3⟩:=row1_appendAll (bytes:=8) lo2 r0 sk2 (by omega) (by omega) (by simp [lcells]; omega) (lcells_flat _)
   have ha : ∀ o∈objs va,h.next≤o∧o≠h.next + 1:=by
    intro o ho
    rcases oa o ho with h1 | h1
    ·simp [objs] at h1; omega
    ·rw [n2] at h1; omega
   have on3' : Only h h3 []:=on2.trans on3 (fun o ho => .inr (by simp [objs] at ho; omega))
   have n3 : h.next + 2≤h3.next:=by have:=on3.1; omega
   have g3 : h3.get (h.next + 1)=some (.cells [.int .i64 n] true):=(on3.2 _ (by omega) (by simp [objs])).trans g1
   have sn3 : Sees h3 (.slice (h.next + 1) 0 1 1 1 true) [.int .i64 n] := .inr ⟨h.next + 1,0,1,true,[.int .i64 n],some true,rfl,g3,by simp,fun i x hx => by simpa using hx⟩
   obtain ⟨vb,h4,ap2,rb,ob,ob2,on4,lo4⟩:=row1_appendAll (bytes:=8) lo3 ra sn3 (by omega) (by omega) (by simp [lcells]; omega) (fun y hy => by simp at hy; subst hy; rfl)
   have hb : ∀ o∈objs vb,h.next≤o:=by
    intro o ho
    rcases ob o ho with h1 | h1
    ·exact (ha o h1).1
    ·omega
   have on4' : Only h h4 []:=on3'.trans on4 (fun o ho => .inr (ha o ho).1)
   have sd4:=sees_same sd0 (fun o ho => on4'.2 o (hql o (od o ho)) (by simp))
   obtain ⟨vc,h5,ap3,rc,oc,oc2,on5,lo5⟩:=row1_appendAll (bytes:=8) lo4 rb sd4 (by omega) (by omega) (by simp [lcells]; omega) (lcells_flat _)
   have hc : ∀ o∈objs vc,h.next≤o:=by
    intro o ho
    rcases oc o ho with h1 | h1
    ·exact hb o h1
    ·have:=on4'.1; omega
   have on5' : Only h h5 []:=on4'.trans on5 (fun o ho => .inr (hb o ho))
   have lv3:=((A.grow hl on3').list_load hq).2
   have lv4:=((A.grow hl on4').list_load hq).2
   have A5:=A.grow hl on5'
   have sc : Sees h5 vc (lcells (insI q.L n)):=by
    have e : lcells (insI q.L n)=[] ++ lcells (q.L.take i) ++ [.int .i64 n] ++ lcells (q.L.drop i):=by
     rw [hins]; simp [lcells]
    rw [e]; exact rc.sees
   obtain ⟨l1,l2,l3,l4⟩:=A.low hl
   obtain ⟨h6,st,u6,A6⟩:=A5.setList hq sc (by rw [insI_len]; omega) (row1_capOk rc) (fun o ho => ⟨by have:=hc o ho; omega,fun e => by have:=hc o ho; have:=l2 o e; omega⟩)
   have fin : ∃ v,RAr h6 w sv S (Q.set c ⟨q.m,v,insI q.L n⟩)∧(∀ o∈objs v,h.next≤o)∧Only h h6 [w]∧Low h6 :=
    ⟨vc,A6,hc,⟨by rw [u6.1]; exact on5'.1,fun p hp hF => by rw [u6.2 p (fun e => hF (by simp [e]))]; exact on5'.2 p hp (by simp)⟩,lo5.upd u6 (by have:=on5'.1; omega)⟩
   have key : (∃ y pa,idxAddrV 1 q.v (.int .i64 (i : Int))=some pa∧loadV h false 1 pa=some (.int .i64 y)∧decide ((i : Int) < (q.L.length : Int))=true∧decide (y < n)=false∧(y == n)=false)∨decide ((i : Int) < (q.L.length : Int))=false:=by
    by_cases hend : i < q.L.length
    ·obtain ⟨y,hy⟩ : ∃ y,q.L[i]?=some y:=⟨_,List.getElem?_eq_getElem hend⟩
     obtain ⟨pa,hi1,hld⟩:=sq.at (i:=i) (x := .int .i64 y) (by simp [lcells,hy]) .i64
     refine .inl ⟨y,pa,hi1,hld,by rw [decide_eq_true_eq]; omega,t3 y hy,?_⟩
     rw [beq_eq_false_iff_ne]
     intro e; subst e
     exact hn (List.mem_of_getElem? hy)
    ·right; rw [decide_eq_false_iff_not]; omega
   rcases key with ⟨y,pa,hi1,hld,e1,e2,e3⟩ | e1
   ·simp only [e1,vms,vmc,vA,vB,reduceCtorEq,vC,vD,f0,f1,f5,nc,fa1,lv,hi1,hld,e2,e3,lenl,hb0,hb1,lv1,lv2,hs1,hs2,next_new]
    rw [items_look (look_build (q:=h.next) (l:=[]) rfl (by simp only [vms,vmc,vA,vB,reduceCtorEq,vC,vD]; rfl) g0 rfl)]
    rw [items_look (look_load (v:=q.v) (by simp only [vms,vmc,vA,vB,reduceCtorEq,vC,vD]; exact lv2) (by simp only [vms,vmc,vA,vB,reduceCtorEq,vC,vD]) (sees_beq sq))]
    rw [items_look (look_build (q:=h.next + 1) (l:=[.int .i64 n]) (by simp only [vms,vmc,vA,vB,reduceCtorEq,vC,vD,f1]; exact hb1) (by simp only [vms,vmc,vA,vB,reduceCtorEq,vC,vD]; rfl) g1 (by simp [AV.beqs,AV.beq]))]
    simp only [vms,vmc,vA,vB,reduceCtorEq,vC,vD,ap1]
    rw [items_look (look_build (q:=h.next + 1) (l:=[.int .i64 n]) (by simp only [vms,vmc,vA,vB,reduceCtorEq,vC,vD,f1]; exact hb1) (by simp only [vms,vmc,vA,vB,reduceCtorEq,vC,vD]; rfl) g3 (by simp [AV.beqs,AV.beq]))]
    rw [items_look (look_load (v:=q.v) (by simp only [vms,vmc,vA,vB,reduceCtorEq,vC,vD]; exact lv3) (by simp only [vms,vmc,vA,vB,reduceCtorEq,vC,vD]) (sees_beq sq))]
    simp only [vms,vmc,vA,vB,reduceCtorEq,vC,vD,ap2]
    rw [items_look (look_load (v:=q.v) (by simp only [vms,vmc,vA,vB,reduceCtorEq,vC,vD]; exact lv4) (by simp only [vms,vmc,vA,vB,reduceCtorEq,vC,vD]) (sees_beq sq))]
    simp only [vms,vmc,vA,vB,reduceCtorEq,vC,vD,ap3,f0,nc,fa1,st]
    exact fin
   ·simp only [e1,vms,vmc,vA,vB,reduceCtorEq,vC,vD,f0,f1,f5,nc,fa1,lv,lenl,hb0,hb1,lv1,lv2,hs1,hs2,next_new]
    rw [items_look (look_build (q:=h.next) (l:=[]) rfl (by simp only [vms,vmc,vA,vB,reduceCtorEq,vC,vD]; rfl) g0 rfl)]
    rw [items_look (look_load (v:=q.v) (by simp only [vms,vmc,vA,vB,reduceCtorEq,vC,vD]; exact lv2) (by simp only [vms,vmc,vA,vB,reduceCtorEq,vC,vD]) (sees_beq sq))]
    rw [items_look (look_build (q:=h.next + 1) (l:=[.int .i64 n]) (by simp only [vms,vmc,vA,vB,reduceCtorEq,vC,vD,f1]; exact hb1) (by simp only [vms,vmc,vA,vB,reduceCtorEq,vC,vD]; rfl) g1 (by simp [AV.beqs,AV.beq]))]
    simp only [vms,vmc,vA,vB,reduceCtorEq,vC,vD,ap1]
    rw [items_look (look_build (q:=h.next + 1) (l:=[.int .i64 n]) (by simp only [vms,vmc,vA,vB,reduceCtorEq,vC,vD,f1]; exact hb1) (by simp only [vms,vmc,vA,vB,reduceCtorEq,vC,vD]; rfl) g3 (by simp [AV.beqs,AV.beq]))]
    rw [items_look (look_load (v:=q.v) (by simp only [vms,vmc,vA,vB,reduceCtorEq,vC,vD]; exact lv3) (by simp only [vms,vmc,vA,vB,reduceCtorEq,vC,vD]) (sees_beq sq))]
    simp only [vms,vmc,vA,vB,reduceCtorEq,vC,vD,ap2]
    rw [items_look (look_load (v:=q.v) (by simp only [vms,vmc,vA,vB,reduceCtorEq,vC,vD]; exact lv4) (by simp only [vms,vmc,vA,vB,reduceCtorEq,vC,vD]) (sees_beq sq))]
    simp only [vms,vmc,vA,vB,reduceCtorEq,vC,vD,ap3,f0,nc,fa1,st]
    exact fin
 ·simp only [vms,vmc,vA,vB,reduceCtorEq,vC,vD]
  exact ⟨trivial,trivial,rfl⟩
end Go.Proofs.Ytagcnjhpdopkiaa
/- What is free,as lists: plain facts. -/
namespace Go.Proofs.Ytagcnjhpdopkiaa
open Go.Vm
open Go.Vm.AOpd renaming val → vA
open Nat renaming reduceEqDiff → vB,reduceAdd → vC,reduceBEq → vD
set_option linter.unusedSimpArgs false
set_option linter.unusedVariables false
theorem range_at {N n : Nat} (hn : n < N) (p : Nat→Bool) : (List.range N).filter p=(List.range n).filter p ++ (if p n=true then [n] else []) ++ (List.range' (n + 1) (N - (n + 1))).filter p:=by
 have e : List.range N=List.range n ++ n :: List.range' (n + 1) (N - (n + 1)):=by
  rw [← List.range'_succ,List.range_eq_range',List.range_eq_range']
  have:=List.range'_append_1 (s:=0) (m:=n) (n:=N - (n + 1) + 1)
  rw [Nat.zero_add] at this
  rw [this]
  congr 1; omega
 rw [e,List.filter_append,List.filter_cons]
 split <;> simp
theorem filter_lo {n : Nat} {p q : Nat→Bool} (h : ∀ j,j < n→p j=q j) : (List.range n).filter p=(List.range n).filter q :=
 List.filter_congr fun j hj => h j (by simpa using hj)
theorem filter_hi {n m : Nat} {p q : Nat→Bool} (h : ∀ j,n < j→p j=q j) : (List.range' (n + 1) m).filter p=(List.range' (n + 1) m).filter q :=
 List.filter_congr fun j hj => h j (by have:=(List.mem_range'_1.1 hj).1; omega)
theorem tw_append {A B : List Int} {n : Int} (hA : ∀ y∈A,y < n) (hB : ∀ y∈B,n < y) : insI (A ++ B) n=A ++ n :: B:=by
 have h1 : (A ++ B).takeWhile (fun y => decide (y < n))=A:=by
  rw [List.takeWhile_append_of_pos (fun y hy => by simpa using hA y hy)]
  cases B with
  | nil => simp
  | cons b B =>
   have : ¬ b < n:=by have:=hB b (by simp); omega
   simp [List.takeWhile_cons,this]
 have h2 : (A ++ B).dropWhile (fun y => decide (y < n))=B:=by
  rw [List.dropWhile_append_of_pos (fun y hy => by simpa using hA y hy)]
  cases B with
  | nil => simp
  | cons b B =>
   have : ¬ b < n:=by have:=hB b (by simp); omega
   simp [List.dropWhile_cons,this]
 unfold insI
 rw [h1,h2]
def freeAt (st : List SlotP) (c n : Nat) : Bool:=(st[n]?).any (isFree c)
def freeL (st : List SlotP) (c : Nat) : List Int:=((List.range st.length).filter (freeAt st c)).map Int.ofNat
theorem freeL_none {st : List SlotP} {c : Nat} (h : st.findIdx? (isFree c)=none) : freeL st c=[]:=by
 rw [List.findIdx?_eq_none_iff] at h
 unfold freeL
 rw [List.map_eq_nil_iff,List.filter_eq_nil_iff]
 intro n hn
 unfold freeAt
 cases hx : st[n]? with
 | none => simp
 | some x => simp [h x (List.mem_of_getElem? hx)]
theorem freeAt_set {st : List SlotP} {c n j : Nat} {y : SlotP} (hj : j≠n) : freeAt (st.set n y) c j=freeAt st c j:=by
 unfold freeAt; rw [List.getElem?_set,if_neg (Ne.symm hj)]
theorem freeAt_same {st : List SlotP} {c n : Nat} {y : SlotP} (hn : n < st.length) : freeAt (st.set n y) c n=isFree c y:=by
 unfold freeAt; rw [List.getElem?_set,if_pos rfl,if_pos hn]; rfl
theorem ofNat_lo {n : Nat} {p : Nat→Bool} : ∀ y∈((List.range n).filter p).map Int.ofNat,y < (n : Int):=by
 intro y hy
 simp only [List.mem_map,List.mem_filter,List.mem_range] at hy
 obtain ⟨j,⟨hj,_⟩,rfl⟩:=hy
 exact Int.ofNat_lt.2 hj
theorem ofNat_hi {n m : Nat} {p : Nat→Bool} : ∀ y∈((List.range' (n + 1) m).filter p).map Int.ofNat,(n : Int) < y:=by
 intro y hy
 simp only [List.mem_map,List.mem_filter,List.mem_range'_1] at hy
 obtain ⟨j,⟨hj,_⟩,rfl⟩:=hy
 exact Int.ofNat_lt.2 (by omega)
theorem freeL_taken {st : List SlotP} {c m : Nat} (h : st.findIdx? (isFree c)=some m) : ∃ x L,st[m]?=some x∧isFree c x=true∧freeL st c=(m : Int) :: L∧∀ y,isFree c y=false→freeL (st.set m y) c=L:=by
 rw [List.findIdx?_eq_some_iff_getElem] at h
 obtain ⟨hm,hx,hlt⟩:=h
 have e1:=range_at hm (freeAt st c)
 have hat : freeAt st c m=true:=by unfold freeAt; rw [List.getElem?_eq_getElem hm]; exact hx
 have hlo : (List.range m).filter (freeAt st c)=[]:=by
  rw [List.filter_eq_nil_iff]
  intro j hj
  have hj' : j < m:=by simpa using hj
  unfold freeAt
  rw [List.getElem?_eq_getElem (by omega)]
  simpa using hlt j hj'
 refine ⟨st[m],((List.range' (m + 1) (st.length - (m + 1))).filter (freeAt st c)).map Int.ofNat,List.getElem?_eq_getElem hm,hx,?_,fun y hy => ?_⟩
 ·unfold freeL
  rw [e1,hlo,if_pos hat]; simp
 ·unfold freeL
  rw [List.length_set,range_at hm,freeAt_same hm,hy,if_neg (by simp),filter_lo (q:=freeAt st c) (fun j hj => freeAt_set (by omega)),hlo,filter_hi (q:=freeAt st c) (fun j hj => freeAt_set (by omega))]
  simp
theorem freeL_same {st : List SlotP} {c n : Nat} {x y : SlotP} (hx : st[n]?=some x) (he : isFree c y=isFree c x) : freeL (st.set n y) c=freeL st c:=by
 have hn:=(List.getElem?_eq_some_iff.1 hx).1
 unfold freeL
 rw [List.length_set]
 congr 1
 refine List.filter_congr fun j hj => ?_
 by_cases e : j=n
 ·subst e
  rw [freeAt_same hn,he]; unfold freeAt; rw [hx]; rfl
 ·exact freeAt_set e
theorem freeL_back {st : List SlotP} {c n : Nat} {x y : SlotP} (hx : st[n]?=some x) (hf : isFree c x=false) (hy : isFree c y=true) : freeL (st.set n y) c=insI (freeL st c) (n : Int)∧(n : Int)∉freeL st c:=by
 have hn:=(List.getElem?_eq_some_iff.1 hx).1
 have hat : freeAt st c n=false:=by unfold freeAt; rw [hx]; exact hf
 have e1 : freeL st c=((List.range n).filter (freeAt st c)).map Int.ofNat ++ ((List.range' (n + 1) (st.length - (n + 1))).filter (freeAt st c)).map Int.ofNat:=by
  unfold freeL
  rw [range_at hn,hat,if_neg (by simp)]; simp
 have e2 : freeL (st.set n y) c=((List.range n).filter (freeAt st c)).map Int.ofNat ++ (n : Int) :: ((List.range' (n + 1) (st.length - (n + 1))).filter (freeAt st c)).map Int.ofNat:=by
  unfold freeL
  rw [List.length_set,range_at hn,freeAt_same hn,hy,if_pos rfl,filter_lo (q:=freeAt st c) (fun j hj => freeAt_set (by omega)),filter_hi (q:=freeAt st c) (fun j hj => freeAt_set (by omega))]
  simp
 refine ⟨?_,?_⟩
 ·rw [e2,e1,tw_append ofNat_lo ofNat_hi]
 ·rw [e1]
  intro hm
  rcases List.mem_append.1 hm with h1 | h1
  ·have:=ofNat_lo _ h1; omega
  ·have:=ofNat_hi _ h1; omega
theorem freeL_len {st : List SlotP} {c : Nat} : (freeL st c).length=roomP st c:=by
 refine count_free st.length st (freeL st c) rfl ?_ fun y => ?_
 ·unfold freeL
  refine List.Pairwise.map _ (fun a b h => ?_) (List.Pairwise.filter _ List.nodup_range)
  intro e; exact h (Int.ofNat.inj e)
 ·unfold freeL
  simp only [List.mem_map,List.mem_filter,List.mem_range]
  constructor
  ·rintro ⟨n,⟨hn,hf⟩,rfl⟩
   refine ⟨n,st[n],rfl,List.getElem?_eq_getElem hn,?_⟩
   unfold freeAt at hf
   rw [List.getElem?_eq_getElem hn] at hf
   exact hf
  ·rintro ⟨n,x,rfl,hx,hf⟩
   exact ⟨n,⟨(List.getElem?_eq_some_iff.1 hx).1,by unfold freeAt; rw [hx]; exact hf⟩,rfl⟩
theorem roomP_le {st : List SlotP} {c : Nat} : roomP st c≤st.length:=List.countP_le_length
theorem live_count : ∀ {st : List SlotP},(∀ x∈st,x.cls < 5∧x.gen≤1073741824)→liveP st=(st.countP (·.live) : Nat)
 | [],_ => by simp [liveP,roomP]
 | x :: st,h => by
  have ih:=live_count (st:=st) fun y hy => h y (by simp [hy])
  obtain ⟨h1,h2⟩:=h x (by simp)
  unfold liveP roomP at ih ⊢
  simp only [List.countP_cons,List.length_cons]
  cases hl : x.live with
  | true =>
   have hno : ∀ c,isFree c x=false:=fun c => by simp [isFree,hl]
   simp only [hno,if_true,Bool.false_eq_true,if_false,Nat.add_zero]
   omega
  | false =>
   have hfr : ∀ c,isFree c x=(x.cls == c):=fun c => by simp [isFree,hl,h2]
   have : x.cls=0∨x.cls=1∨x.cls=2∨x.cls=3∨x.cls=4:=by omega
   rcases this with e | e | e | e | e <;> simp only [hfr,e,Nat.reduceBEq,beq_self_eq_true,if_true,Bool.false_eq_true,if_false,Nat.add_zero] <;> omega
end Go.Proofs.Ytagcnjhpdopkiaa
/- The document's own arena: load,alloc,store,swap. -/
namespace Go.Proofs.Ytagcnjhpdopkiaa
open Go.Vm
open Go.Vm.AOpd renaming val → vA
open Nat renaming reduceEqDiff → vB,reduceAdd → vC,reduceBEq → vD
set_option linter.unusedSimpArgs false
set_option linter.unusedVariables false
variable {T : Vm.Prog} {h : AH}
def RefF (w : Nat) (sv : AV) (S : List Slot) (Q : List RP) (o : Nat) : Prop:=o=w∨o∈objs sv∨(∃ q∈Q,o∈objs q.v)∨∃ s∈S,o∈objs s.wv
def RefR (w : Nat) (st : List SlotP) (F : Nat→Prop) (h : AH) : Prop:=∃ sv S Q,RAr h w sv S Q∧S.map Slot.pure=st∧InvP st ∧
 (∀ (c : Nat) (q : RP),Q[c]?=some q→q.L=freeL st c∧q.m=(st.length : Int))∧∀ o,F o↔RefF w sv S Q o
theorem RefR.res {w : Nat} {st : List SlotP} {F : Nat→Prop} (r : RefR w st F h) (hl : Low h) : Res (RefR w st F) F h:=by
 obtain ⟨sv,S,Q,A,hS,inv,hfr,hF⟩:=r
 obtain ⟨l1,l2,l3,l4⟩:=A.low hl
 refine ⟨fun o ho => ?_,fun h' hn hk => ⟨sv,S,Q,?_,hS,inv,hfr,hF⟩⟩
 ·rcases (hF o).1 ho with rfl | e | ⟨q,hq,e⟩ | ⟨s,hs,e⟩
  ·exact l1
  ·exact l2 o e
  ·exact l3 q hq o e
  ·exact l4 s hs o e
 ·exact A.keep (hk _ ((hF _).2 (.inl rfl))) (fun o ho => hk _ ((hF _).2 (.inr (.inl ho)))) (fun q hq o ho => hk _ ((hF _).2 (.inr (.inr (.inl ⟨q,hq,ho⟩))))) (fun s hs o ho => hk _ ((hF _).2 (.inr (.inr (.inr ⟨s,hs,ho⟩)))))
theorem ref_acts {w : Nat} {sv : AV} {S S' : List Slot} {Q Q' : List RP} {F : Nat→Prop} {h' : AH} (hF : ∀ o,F o↔RefF w sv S Q o) (on : Only h h' (w :: objs sv)) (lo : Low h') (hS : ∀ s∈S',s∈S∨∀ o∈objs s.wv,h.next≤o)
  (hQ : ∀ q∈Q',(∃ q0∈Q,∀ o∈objs q.v,o∈objs q0.v)∨∀ o∈objs q.v,h.next≤o) : Acts h F h' (RefF w sv S' Q'):=by
 refine ⟨on.mods fun o ho => .inl ((hF o).2 ?_),fun o ho => ?_,lo⟩
 ·rcases List.mem_cons.1 ho with rfl | h1
  ·exact .inl rfl
  ·exact .inr (.inl h1)
 ·rcases ho with rfl | e | ⟨q,hq,e⟩ | ⟨s,hs,e⟩
  ·exact .inl ((hF _).2 (.inl rfl))
  ·exact .inl ((hF _).2 (.inr (.inl e)))
  ·rcases hQ q hq with ⟨q0,h0,h1⟩ | h1
   ·exact .inl ((hF _).2 (.inr (.inr (.inl ⟨q0,h0,h1 o e⟩))))
   ·exact .inr (h1 o e)
  ·rcases hS s hs with h1 | h1
   ·exact .inl ((hF _).2 (.inr (.inr (.inr ⟨s,h1,e⟩))))
   ·exact .inr (h1 o e)
theorem app_words {o : Nat} {ws : List Nat} (hl : Low h) (hg : h.get o=some (.cells (wcells ws) true)) (h1 : 1≤ws.length) (h2 : ws.length≤264) :
  appV 1 8 (h.new (.cells [] true)) (.slice h.next 0 1 0 0 true) (.slice o 0 1 ws.length ws.length true)=some (.slice (h.next + 1) 0 1 ws.length ws.length false,(h.new (.cells [] true)).new (.cells (wcells ws) true)):=by
 have hol : o < h.next:=hl _ _ hg
 have g1 : (h.new (.cells [] true)).get o=some (.cells (wcells ws) true):=by rw [AH.get_new,if_neg (by omega)]; exact hg
 have hel : (h.new (.cells [] true)).elems 1 ws.length (.slice o 0 1 ws.length ws.length true)=some (wcells ws):=by
  simp only [AH.elems,true_and,Nat.le_refl,if_true,AH.load,g1,Nat.mul_one,List.drop_zero]
  rw [if_pos (by rw [wcells_len]; omega),List.take_of_length_le (by rw [wcells_len]; omega)]
 have hroom : roomOk (0 + ws.length) 8 0 true=true:=by
  simp [roomOk]; omega
 have hload : (h.new (.cells [] true)).load h.next 0 (0 * 1)=some []:=by
  simp only [AH.load,get_new_same]; rfl
 simp only [appV,len_slice,Option.bind_some,hel,appendV,if_true]
 rw [if_neg (by omega),if_pos hroom,hload]
 simp [next_new]
theorem RAr.wlen {w : Nat} {sv : AV} {S : List Slot} {Q : List RP} (A : RAr h w sv S Q) {n : Nat} {x : Slot} (hx : S[n]?=some x) : 8≤x.ws.length∧x.ws.length≤264:=by
 obtain ⟨k1,_,k3⟩:=A.kinds x (List.mem_of_getElem? hx)
 rw [k3]
 refine ⟨?_,sizeN_le _⟩
 have : x.cls=0∨x.cls=1∨x.cls=2∨x.cls=3∨x.cls=4:=by omega
 rcases this with e | e | e | e | e <;> rw [e] <;> decide
theorem ref_load (k : Fits T) {w : Nat} {st : List SlotP} {F : Nat→Prop} (r : RefR w st F h) (hl : Low h) (ref : Int) :
  Gives T 21 [.ptr w 0,.int .i64 ref] h fun r h' => Quiet h h'∧Low h'∧∃ v,r = .tuple [v,.int .i64 ((loadP st ref).1 : Nat)]∧((v = .nilSlice∧(loadP st ref).2=[]∧(loadP st ref).1≠0∧h'=h)∨((loadP st ref).1=0∧8≤(loadP st ref).2.length∧Copy h' v (loadP st ref).2∧∀ o∈objs v,h.next≤o)):=by
 obtain ⟨sv,S,Q,A,rfl,inv,hfr,hF⟩:=r
 refine gives_func (k.env _ (by decide)) (k.at (fn:=a21) rfl) rfl ?_
 simp only [a21,c21,vms,vmc,vA,vB,reduceCtorEq,vC,vD]
 refine Gives.bind ((rat_ok k A ref).mono ?_)
 rintro _ _ ⟨rfl,res,hres,rfl⟩
 rename_i h
 have hf:=hres.find
 cases res with
 | error e =>
  have he:=hres.err
  have d : (((e : Nat) : Int) != 0)=true:=by simp; omega
  simp only [atV,vms,vmc,vA,vB,reduceCtorEq,vC,vD,d]
  refine ⟨Quiet.refl _,hl,.nilSlice,?_,.inl ⟨rfl,?_,?_,trivial⟩⟩
  ·simp only [loadP,← hf]
  ·simp only [loadP,← hf]
  ·simp only [loadP,← hf]; omega
 | ok n =>
  obtain ⟨x,hx,_⟩:=hres.slot
  have on1 : Only h (h.new (.cells [] true)) []:=(Only.refl h []).new _
  have A1:=A.grow hl on1
  obtain ⟨so,ho,hi,l0,l1,l2,l3⟩:=A1.slots.at hx
  have hw:=A.wlen hx
  obtain ⟨wo,hwv,hwg⟩:=A.words x (List.mem_of_getElem? hx)
  have hp:=pure_some hx
  have hb : fillV ([] : List AV) []=some []:=rfl
  simp only [atV,vms,vmc,vA,vB,reduceCtorEq,vC,vD,show ((0 : Int) != 0)=false from rfl,hb,show nilChkV (.ptr w 0)=some (.ptr w 0) from rfl,show fieldAddrV 0 (.ptr w 0)=some (.ptr w 0) from rfl,A1.sv_load,hi,show fieldAddrV 3 (.ptr so (n * 4))=some (.ptr so (n * 4 + 3)) from rfl,l3]
  rw [hwv]
  simp only [app_words hl hwg (by omega) hw.2,vms,vmc,vA,vB,reduceCtorEq,vC,vD]
  have g2:=get_new_same (h:=h.new (.cells [] true)) (x := .cells (wcells x.ws) true)
  rw [next_new] at g2
  refine ⟨((Quiet.refl h).new _).new _,(hl.new _).new _,.slice (h.next + 1) 0 1 x.ws.length x.ws.length false,?_,.inr ⟨?_,?_,?_,?_⟩⟩
  ·simp only [loadP,← hf,hp]; rfl
  ·simp only [loadP,← hf,hp]
  ·simp only [loadP,← hf,hp]; exact hw.1
  ·simp only [loadP,← hf,hp]
   exact ⟨h.next + 1,rfl,g2⟩
  ·intro p hp; simp [objs] at hp; omega
theorem ref_put {w : Nat} {sv : AV} {S : List Slot} {Q Q' : List RP} {F : Nat→Prop} {h' : AH} {n : Nat} {x y : Slot} (hF : ∀ o,F o↔RefF w sv S Q o) (inv : InvP (S.map Slot.pure)) (hx : S[n]?=some x) (A : RAr h' w sv (S.set n y) Q')
  (hy : y.pure.cls < 5∧1≤y.pure.gen∧y.pure.gen≤1073741825∧(y.pure.live=true→y.pure.gen≤1073741824)∧y.pure.ws.length=sizeN y.pure.cls) (hw : (∀ o∈objs y.wv,h.next≤o)) (on : Only h h' (w :: objs sv)) (lo : Low h')
  (hQ : ∀ q∈Q',(∃ q0∈Q,∀ o∈objs q.v,o∈objs q0.v)∨∀ o∈objs q.v,h.next≤o)
  (hfr : ∀ (c : Nat) (q : RP),Q'[c]?=some q→q.L=freeL ((S.map Slot.pure).set n y.pure) c∧q.m=((S.map Slot.pure).length : Int)) :
  ∃ F',RefR w ((S.map Slot.pure).set n y.pure) F' h'∧Acts h F h' F':=by
 refine ⟨RefF w sv (S.set n y) Q',⟨sv,_,_,A,set_pure,inv.set hy,?_,fun o => Iff.rfl⟩,ref_acts hF on lo (fun s hs => (List.mem_or_eq_of_mem_set hs).imp id fun e => by rw [e]; exact hw) hQ⟩
 intro c q hq
 rw [List.length_set]
 exact hfr c q hq
theorem isFree_ws {c : Nat} {x y : SlotP} (h1 : y.cls=x.cls) (h2 : y.gen=x.gen) (h3 : y.live=x.live) : isFree c y=isFree c x:=by simp [isFree,h1,h2,h3]
theorem ref_words {w : Nat} {sv : AV} {S : List Slot} {Q : List RP} {F : Nat→Prop} {h2 : AH} {n : Nat} {x : Slot} {r : AV} {ws : List Nat} {so : Nat} (hl : Low h) (hF : ∀ o,F o↔RefF w sv S Q o) (inv : InvP (S.map Slot.pure)) (A : RAr h w sv S Q)
  (hfr : ∀ (c : Nat) (q : RP),Q[c]?=some q→q.L=freeL (S.map Slot.pure) c∧q.m=((S.map Slot.pure).length : Int))
  (hx : S[n]?=some x) (ho : objs sv=[so]) (nw : NewW h h2 r ws) (hlen : ws.length=sizeN x.cls) :
  ∃ h3,storeV h2 1 (.ptr so (n * 4 + 3)) r=some h3∧∃ F',RefR w ((S.map Slot.pure).set n ⟨x.cls,x.gen,x.live,ws⟩) F' h3∧Acts h F h3 F':=by
 obtain ⟨nw1,nw2,nw3,nw4⟩:=nw
 obtain ⟨l1,l2,l3,l4⟩:=A.low hl
 have A2:=A.grow hl nw3
 obtain ⟨k1,k2,k3⟩:=A.kinds x (List.mem_of_getElem? hx)
 obtain ⟨i1,i2,i3,i4,i5⟩:=inv.each n _ (pure_some hx)
 have hc : r.cells=[r]∧r.flat=true:=by obtain ⟨o,e,_⟩:=nw1; rw [e]; exact ⟨rfl,rfl⟩
 obtain ⟨h3,st,u3,A3⟩:=A2.setCell (j:=3) (y:=⟨x.cls,x.gen,x.live,ws,r⟩) (v:=r) hx ho (by decide) hc.1 hc.2 rfl nw1 (fun o hoo => ⟨by have:=nw2 o hoo; omega,fun e => by have:=nw2 o hoo; have:=l2 o e; omega⟩) ⟨k1,k2,hlen⟩
 have hsol : so < h.next:=l2 so (by rw [ho]; simp)
 refine ⟨h3,st,ref_put hF inv hx A3 ⟨i1,i2,i3,i4,hlen⟩ nw2 ?_ (nw4.upd u3 (by have:=nw3.1; omega)) (fun q hq => .inl ⟨q,hq,fun o ho => ho⟩) fun c q hq => ?_⟩
 ·exact ⟨by rw [u3.1]; exact nw3.1,fun p hp hpF => by
   simp only [ho,List.mem_cons,List.not_mem_nil,or_false,not_or] at hpF
   rw [u3.2 p hpF.2]; exact nw3.2 p hp (by simp)⟩
 ·obtain ⟨e1,e2⟩:=hfr c q hq
  exact ⟨e1.trans (freeL_same (y:=(⟨x.cls,x.gen,x.live,ws,r⟩ : Slot).pure) (pure_some hx) (isFree_ws rfl rfl rfl)).symm,e2⟩
theorem ref_store (k : Fits T) {w : Nat} {st : List SlotP} {F : Nat→Prop} (r : RefR w st F h) (hl : Low h) (ref : Int) {v : AV} {ws : List Nat} (s : SrcB h F v ws) :
  Gives T 51 [.ptr w 0,.int .i64 ref,v] h fun r h' => r = .int .i64 ((storeP st ref ws).1 : Nat)∧∃ F',RefR w (storeP st ref ws).2 F' h'∧Acts h F h' F':=by
 have r0:=r
 obtain ⟨sv,S,Q,A,rfl,inv,hfr,hF⟩:=r
 refine gives_func (k.env _ (by decide)) (k.at (fn:=a51) rfl) rfl ?_
 simp only [a51,c51,vms,vmc,vA,vB,reduceCtorEq,vC,vD]
 refine Gives.bind ((rat_ok k A ref).mono ?_)
 rintro _ _ ⟨rfl,res,hres,rfl⟩
 rename_i h
 have hf:=hres.find
 cases res with
 | error e =>
  have he:=hres.err
  have d : (((e : Nat) : Int) != 0)=true:=by simp; omega
  simp only [atV,vms,vmc,vA,vB,reduceCtorEq,vC,vD,d,storeP,← hf]
  exact ⟨trivial,F,r0,Acts.refl hl⟩
 | ok n =>
  obtain ⟨x,hx,_⟩:=hres.slot
  obtain ⟨so,ho,hi,l0,l1,l2,l3⟩:=A.slots.at hx
  obtain ⟨k1,k2,k3⟩:=A.kinds x (List.mem_of_getElem? hx)
  have hp:=pure_some hx
  have nc : nilChkV (.ptr w 0)=some (.ptr w 0):=rfl
  have fa : fieldAddrV 0 (.ptr w 0)=some (.ptr w 0):=rfl
  have fb : ∀ j,fieldAddrV j (.ptr so (n * 4))=some (.ptr so (n * 4 + j)):=fun j => rfl
  have hs:=s.short
  simp only [atV,vms,vmc,vA,vB,reduceCtorEq,vC,vD,show ((0 : Int) != 0)=false from rfl,nc,fa,A.sv_load,hi,fb,Nat.add_zero,l0,s.src.len]
  refine Gives.bind ((rsize_ok k k1).mono ?_)
  rintro _ _ ⟨rfl,rfl⟩
  rename_i h
  by_cases hgt : sizeN x.cls < ws.length
  ·have d : decide (((ws.length : Nat) : Int) > ((sizeN x.cls : Nat) : Int))=true:=by rw [decide_eq_true_eq]; omega
   simp only [d,vms,vmc,vA,vB,reduceCtorEq,vC,vD,storeP,← hf,hp]
   rw [if_pos (show sizeN x.pure.cls < ws.length from hgt)]
   exact ⟨rfl,F,r0,Acts.refl hl⟩
  ·have d : decide (((ws.length : Nat) : Int) > ((sizeN x.cls : Nat) : Int))=false:=by rw [decide_eq_false_iff_not]; omega
   simp only [d,vms,vmc,vA,vB,reduceCtorEq,vC,vD,nc,fa,A.sv_load,hi,fb,Nat.add_zero,l0]
   refine Gives.bind ((rfill_ok k k1 hl s.src (fun o ho => (s.out o ho).2) (by omega)).mono ?_)
   rintro r h2 nw
   have A2:=A.grow hl nw.2.2.1
   obtain ⟨h3,st3,hR⟩:=ref_words hl hF inv A hfr hx ho nw (padW_len (by omega))
   simp only [vms,vmc,vA,vB,reduceCtorEq,vC,vD,hi,fb]
   rw [items_look (look_load (v:=sv) (by simp only [vms,vmc,vA,vB,reduceCtorEq,vC,vD]; exact A2.sv_load) (by simp only [vms,vmc,vA,vB,reduceCtorEq,vC,vD]) (by
    rcases A.slots with ⟨e,_⟩ | ⟨so,cap,l,e,_⟩
    ·rw [e]; rfl
    ·rw [e]; unfold AV.beq; simp))]
   simp only [vms,vmc,vA,vB,reduceCtorEq,vC,vD,st3,storeP,← hf,hp]
   rw [if_neg (show ¬ sizeN x.pure.cls < ws.length from hgt)]
   exact ⟨rfl,hR⟩
theorem ref_swap (k : Fits T) {w : Nat} {st : List SlotP} {F : Nat→Prop} (r : RefR w st F h) (hl : Low h) (ref : Int) {was : Int} {v : AV} {ws : List Nat} (s : SrcB h F v ws) :
  Gives T 50 [.ptr w 0,.int .i64 ref,.int .u64 was,v] h fun r h' => r = .tuple [.bool (swapP st ref was ws).1,.int .i64 ((swapP st ref was ws).2.1 : Nat)]∧∃ F',RefR w (swapP st ref was ws).2.2 F' h'∧Acts h F h' F':=by
 have r0:=r
 obtain ⟨sv,S,Q,A,rfl,inv,hfr,hF⟩:=r
 refine gives_func (k.env _ (by decide)) (k.at (fn:=a50) rfl) rfl ?_
 simp only [a50,c50,vms,vmc,vA,vB,reduceCtorEq,vC,vD]
 refine Gives.bind ((rat_ok k A ref).mono ?_)
 rintro _ _ ⟨rfl,res,hres,rfl⟩
 rename_i h
 have hf:=hres.find
 cases res with
 | error e =>
  have he:=hres.err
  have d : (((e : Nat) : Int) != 0)=true:=by simp; omega
  simp only [atV,vms,vmc,vA,vB,reduceCtorEq,vC,vD,d,swapP,← hf]
  exact ⟨trivial,F,r0,Acts.refl hl⟩
 | ok n =>
  obtain ⟨x,hx,_⟩:=hres.slot
  obtain ⟨so,ho,hi,l0,l1,l2,l3⟩:=A.slots.at hx
  obtain ⟨k1,k2,k3⟩:=A.kinds x (List.mem_of_getElem? hx)
  have hp:=pure_some hx
  have nc : nilChkV (.ptr w 0)=some (.ptr w 0):=rfl
  have fa : fieldAddrV 0 (.ptr w 0)=some (.ptr w 0):=rfl
  have fb : ∀ j,fieldAddrV j (.ptr so (n * 4))=some (.ptr so (n * 4 + j)):=fun j => rfl
  have hs:=s.short
  have hw8:=A.wlen hx
  obtain ⟨wo,hwv,hwg⟩:=A.words x (List.mem_of_getElem? hx)
  obtain ⟨w0,hw0⟩ : ∃ w0,x.ws[0]?=some w0:=⟨_,List.getElem?_eq_getElem (by omega)⟩
  have hidx : idxAddrV 1 x.wv (.int .i64 0)=some (.ptr wo 0):=by
   rw [hwv]
   show (if 1=1∧(0 : Int)≤0∧(0 : Int).toNat < x.ws.length then some (AV.ptr wo (0 + (0 : Int).toNat * 1)) else none)=_
   rw [if_pos ⟨rfl,Int.le_refl _,by show 0 < x.ws.length; omega⟩]; rfl
  have hld : loadV h false 1 (.ptr wo 0)=some (.int .u64 (w0 : Int)):=load_at hwg (by simp [wcells,hw0])
  simp only [atV,vms,vmc,vA,vB,reduceCtorEq,vC,vD,show ((0 : Int) != 0)=false from rfl,nc,fa,A.sv_load,hi,fb,Nat.add_zero,l0,s.src.len]
  refine Gives.bind ((rsize_ok k k1).mono ?_)
  rintro _ _ ⟨rfl,rfl⟩
  rename_i h
  by_cases hgt : sizeN x.cls < ws.length
  ·have d : decide (((ws.length : Nat) : Int) > ((sizeN x.cls : Nat) : Int))=true:=by rw [decide_eq_true_eq]; omega
   simp only [d,vms,vmc,vA,vB,reduceCtorEq,vC,vD,swapP,← hf,hp]
   rw [if_pos (show sizeN x.pure.cls < ws.length from hgt)]
   exact ⟨rfl,F,r0,Acts.refl hl⟩
  ·have d : decide (((ws.length : Nat) : Int) > ((sizeN x.cls : Nat) : Int))=false:=by rw [decide_eq_false_iff_not]; omega
   have hx0 : x.pure.ws[0]?=some w0:=hw0
   simp only [d,vms,vmc,vA,vB,reduceCtorEq,vC,vD,nc,fa,A.sv_load,hi,fb,Nat.add_zero,l3,hidx,hld]
   by_cases hwas : (w0 : Int)=was
   ·have d2 : ((w0 : Int) != was)=false:=by simpa using hwas
    simp only [d2,vms,vmc,vA,vB,reduceCtorEq,vC,vD,nc,fa,A.sv_load,hi,fb,Nat.add_zero,l0]
    refine Gives.bind ((rfill_ok k k1 hl s.src (fun o ho => (s.out o ho).2) (by omega)).mono ?_)
    rintro r h2 nw
    have A2:=A.grow hl nw.2.2.1
    obtain ⟨h3,st3,hR⟩:=ref_words hl hF inv A hfr hx ho nw (padW_len (by omega))
    simp only [vms,vmc,vA,vB,reduceCtorEq,vC,vD,hi,fb]
    rw [items_look (look_load (v:=sv) (by simp only [vms,vmc,vA,vB,reduceCtorEq,vC,vD]; exact A2.sv_load) (by simp only [vms,vmc,vA,vB,reduceCtorEq,vC,vD]) (by
     rcases A.slots with ⟨e,_⟩ | ⟨so,cap,l,e,_⟩
     ·rw [e]; rfl
     ·rw [e]; unfold AV.beq; simp))]
    simp only [vms,vmc,vA,vB,reduceCtorEq,vC,vD,st3,swapP,← hf,hp,hx0]
    rw [if_neg (show ¬ sizeN x.pure.cls < ws.length from hgt),if_neg (by simpa using hwas)]
    exact ⟨rfl,hR⟩
   ·have d2 : ((w0 : Int) != was)=true:=by simpa using hwas
    simp only [d2,vms,vmc,vA,vB,reduceCtorEq,vC,vD,swapP,← hf,hp,hx0]
    rw [if_neg (show ¬ sizeN x.pure.cls < ws.length from hgt),if_pos (by simpa using hwas)]
    exact ⟨rfl,F,r0,Acts.refl hl⟩
end Go.Proofs.Ytagcnjhpdopkiaa
/- The document's own arena: a slot is taken,and given back. -/
namespace Go.Proofs.Ytagcnjhpdopkiaa
open Go.Vm
open Go.Vm.AOpd renaming val → vA
open Nat renaming reduceEqDiff → vB,reduceAdd → vC,reduceBEq → vD
set_option linter.unusedSimpArgs false
set_option linter.unusedVariables false
set_option maxRecDepth 20000
variable {T : Vm.Prog} {h : AH}
theorem ref_alloc (k : Fits T) {w : Nat} {st : List SlotP} {F : Nat→Prop} (r : RefR w st F h) (hl : Low h) (c : Int) {v : AV} {ws : List Nat} (s : SrcB h F v ws) :
  Gives T 48 [.ptr w 0,.int .i64 c,v] h fun r h' => r = .tuple [.int .i64 (allocI st c ws).1,.int .i64 ((allocI st c ws).2.1 : Nat)]∧∃ F',RefR w (allocI st c ws).2.2 F' h'∧Acts h F h' F':=by
 have r0:=r
 refine gives_func (k.env _ (by decide)) (k.at (fn:=a48) rfl) rfl ?_
 by_cases h1 : c < 0
 ·have d1 : decide (c < 0)=true:=by simpa using h1
  simp only [a48,c48,vms,vmc,vA,vB,reduceCtorEq,vC,vD,d1,allocI]
  rw [if_neg (by omega)]
  exact ⟨rfl,F,r0,Acts.refl hl⟩
 have d1 : decide (c < 0)=false:=by simpa using h1
 by_cases h2 : 5≤c
 ·have d2 : decide (c ≥ 5)=true:=by rw [decide_eq_true_eq]; omega
  simp only [a48,c48,vms,vmc,vA,vB,reduceCtorEq,vC,vD,d1,d2,allocI]
  rw [if_neg (by omega)]
  exact ⟨rfl,F,r0,Acts.refl hl⟩
 have d2 : decide (c ≥ 5)=false:=by rw [decide_eq_false_iff_not]; omega
 obtain ⟨m,rfl⟩ : ∃ m : Nat,c=m:=⟨c.toNat,by omega⟩
 have hm5 : m < 5:=by omega
 have hs:=s.short
 obtain ⟨sv,S,Q,A,rfl,inv,hfr,hF⟩:=r
 simp only [a48,c48,vms,vmc,vA,vB,reduceCtorEq,vC,vD,d1,d2,s.src.len]
 refine Gives.bind ((rsize_ok k hm5).mono ?_)
 rintro _ _ ⟨rfl,rfl⟩
 rename_i h
 by_cases hgt : sizeN m < ws.length
 ·have d3 : decide (((ws.length : Nat) : Int) > ((sizeN m : Nat) : Int))=true:=by rw [decide_eq_true_eq]; omega
  simp only [vms,vmc,vA,vB,reduceCtorEq,vC,vD,d3,allocI]
  rw [if_neg (by rw [Int.toNat_natCast]; omega)]
  exact ⟨rfl,F,r0,Acts.refl hl⟩
 have d3 : decide (((ws.length : Nat) : Int) > ((sizeN m : Nat) : Int))=false:=by rw [decide_eq_false_iff_not]; omega
 have hI : allocI (S.map Slot.pure) (m : Int) ws=allocP (S.map Slot.pure) m ws:=by
  unfold allocI
  rw [if_pos ⟨by omega,by omega,by rw [Int.toNat_natCast]; omega⟩,Int.toNat_natCast]
 rw [hI]
 have nc : nilChkV (.ptr w 0)=some (.ptr w 0):=rfl
 have fa0 : fieldAddrV 0 (.ptr w 0)=some (.ptr w 0):=rfl
 have fa1 : fieldAddrV 1 (.ptr w 0)=some (.ptr w 1):=rfl
 obtain ⟨q,hq⟩ : ∃ q,Q[m]?=some q:=⟨_,List.getElem?_eq_getElem (by rw [A.five]; omega)⟩
 obtain ⟨hqL,hqm⟩:=hfr m q hq
 simp only [vms,vmc,vA,vB,reduceCtorEq,vC,vD,d3,nc,fa1,idxRow_two hm5]
 refine Gives.bind ((rtake_ok k A hl hq).mono ?_)
 rintro _ h1 (⟨hnil,rfl,rfl⟩ | ⟨nI,L,v',hL,rfl,A1,hob,on1,lo1⟩)
 ·have hnone : (S.map Slot.pure).findIdx? (isFree m)=none:=by
   cases hf : (S.map Slot.pure).findIdx? (isFree m) with
   | none => rfl
   | some n =>
    obtain ⟨x,L,_,_,e,_⟩:=freeL_taken hf
    rw [← hqL,hnil] at e; cases e
  simp only [vms,vmc,vA,vB,reduceCtorEq,vC,vD,allocP,hnone]
  exact ⟨rfl,F,r0,Acts.refl hl⟩
 obtain ⟨n,hn⟩ : ∃ n,(S.map Slot.pure).findIdx? (isFree m)=some n:=by
  cases hf : (S.map Slot.pure).findIdx? (isFree m) with
  | none => rw [hqL,freeL_none hf] at hL; cases hL
  | some n => exact ⟨n,rfl⟩
 obtain ⟨x0,L0,hx0,hf0,e0,hset⟩:=freeL_taken hn
 rw [hqL,e0] at hL
 cases hL
 obtain ⟨x,hx,rfl⟩ : ∃ x,S[n]?=some x∧x.pure=x0:=by
  rw [List.getElem?_map,Option.map_eq_some_iff] at hx0
  exact hx0
 obtain ⟨f1,f2,f3⟩:=isFree_iff.1 hf0
 have f1' : x.cls=m:=f1
 have hnlt:=(List.getElem?_eq_some_iff.1 hx).1
 obtain ⟨l1,l2,l3,l4⟩:=A.low hl
 obtain ⟨so,ho,hi,e0',_,_,_⟩:=A1.slots.at hx
 have fb : ∀ j,fieldAddrV j (.ptr so (n * 4))=some (.ptr so (n * 4 + j)):=fun j => rfl
 have nb : nilChkV (.ptr so (n * 4))=some (.ptr so (n * 4)):=rfl
 have src1 : Src h1 v ws:=s.src.keep fun o hoo => on1.2 o (s.out o hoo).2 (by
  simp only [List.mem_cons,List.not_mem_nil,or_false]
  intro e; exact (s.out o hoo).1 ((hF o).2 (.inl e)))
 simp only [vms,vmc,vA,vB,reduceCtorEq,vC,vD,nc,fa0,A1.sv_load,hi]
 refine Gives.bind ((rfill_ok k hm5 lo1 src1 (fun o hoo => by have:=(s.out o hoo).2; have:=on1.1; omega) (by omega)).mono ?_)
 rintro r2 h2 ⟨nw1,nw2,nw3,nw4⟩
 have A2:=A1.grow lo1 nw3
 have hmem:=List.mem_of_getElem? hx
 obtain ⟨k1,k2,k3⟩:=A.kinds x hmem
 obtain ⟨i1,i2,i3,i4,i5⟩:=inv.each n _ (pure_some hx)
 have hsol : so < h.next:=l2 so (by rw [ho]; simp)
 obtain ⟨h3,st3,u3,A3⟩:=A2.setCell (j:=2) (y:=⟨x.cls,x.gen,true,x.ws,x.wv⟩) (v := .bool true) hx ho (by decide) rfl rfl rfl (A2.words x hmem) (A2.own x hmem) ⟨k1,k2,k3⟩
 have hc2 : r2.cells=[r2]∧r2.flat=true:=by obtain ⟨o,e,_⟩:=nw1; rw [e]; exact ⟨rfl,rfl⟩
 have hlen : (padW ws (sizeN m)).length=sizeN x.cls:=by rw [padW_len (by omega),f1']
 have hx3 : (S.set n ⟨x.cls,x.gen,true,x.ws,x.wv⟩)[n]?=some ⟨x.cls,x.gen,true,x.ws,x.wv⟩:=by rw [List.getElem?_set,if_pos rfl,if_pos hnlt]
 have nw1' : Words h3 r2 (padW ws (sizeN m)):=nw1.keep fun o hoo => u3.2 o (by have:=nw2 o hoo; have:=on1.1; omega)
 obtain ⟨h4,st4,u4,A4⟩:=A3.setCell (j:=3) (y:=⟨x.cls,x.gen,true,padW ws (sizeN m),r2⟩) (v:=r2) hx3 ho (by decide) hc2.1 hc2.2 rfl nw1' (fun o hoo => ⟨by have:=nw2 o hoo; have:=on1.1; omega,fun e => by have:=nw2 o hoo; have:=l2 o e; have:=on1.1; omega⟩) ⟨k1,k2,hlen⟩
 rw [List.set_set] at A4
 have hx4 : (S.set n ⟨x.cls,x.gen,true,padW ws (sizeN m),r2⟩)[n]?=some ⟨x.cls,x.gen,true,padW ws (sizeN m),r2⟩:=by rw [List.getElem?_set,if_pos rfl,if_pos hnlt]
 obtain ⟨so4,ho4,_,_,g4,_,_⟩:=A4.slots.at hx4
 have : so4=so:=by rw [ho] at ho4; simpa using ho4.symm
 subst this
 have hm0 : (((m : Nat) : Int) == 0)=(m == 0):=by rw [Bool.eq_iff_iff]; simp
 have hsm:=A.small
 simp only [vms,vmc,vA,vB,reduceCtorEq,vC,vD,nb,fb,st3,st4,g4,hm0]
 refine Gives.bind ((rref_ok k (l:=(m == 0)) (show Valid n x.gen from ⟨by omega,i2,f3⟩)).mono ?_)
 rintro _ h4 ⟨rfl,rfl⟩
 simp only [vms,vmc,vA,vB,reduceCtorEq,vC,vD,allocP,hn,pure_some hx]
 refine ⟨rfl,?_⟩
 have hon : Only h h4 (w :: objs sv):=by
  refine ⟨by rw [u4.1,u3.1]; have:=on1.1; have:=nw3.1; omega,fun p hp hpF => ?_⟩
  rw [ho] at hpF
  simp only [List.mem_cons,List.not_mem_nil,or_false,not_or] at hpF
  rw [u4.2 p hpF.2,u3.2 p hpF.2,nw3.2 p (by have:=on1.1; omega) (by simp),on1.2 p hp (by simpa using hpF.1)]
 refine ref_put (y:=⟨x.cls,x.gen,true,padW ws (sizeN m),r2⟩) hF inv hx A4 ⟨i1,i2,i3,fun _ => f3,hlen⟩ (fun o hoo => by have:=nw2 o hoo; have:=on1.1; omega) hon ((nw4.upd u3 (by have:=on1.1; have:=nw3.1; omega)).upd u4 (by rw [u3.1]; have:=on1.1; have:=nw3.1; omega)) (fun r hr => ?_) fun c' r hr => ?_
 ·rcases List.mem_or_eq_of_mem_set hr with h5 | rfl
  ·exact .inl ⟨r,h5,fun o ho => ho⟩
  ·exact .inl ⟨q,List.mem_of_getElem? hq,hob⟩
 ·rw [List.getElem?_set] at hr
  by_cases e : m=c'
  ·subst e
   rw [if_pos rfl,if_pos (by rw [A.five]; omega)] at hr
   cases hr
   exact ⟨(hset _ (by simp [isFree,Slot.pure])).symm,hqm⟩
  ·rw [if_neg e] at hr
   obtain ⟨e1,e2⟩:=hfr c' r hr
   refine ⟨e1.trans (freeL_same (pure_some hx) ?_).symm,e2⟩
   have : (x.cls == c')=false:=by rw [beq_eq_false_iff_ne,f1']; exact e
   simp [isFree,Slot.pure,this]
theorem ref_free (k : Fits T) {w : Nat} {st : List SlotP} {F : Nat→Prop} (r : RefR w st F h) (hl : Low h) (ref : Int) :
  Gives T 52 [.ptr w 0,.int .i64 ref] h fun r h' => r = .int .i64 ((freeP st ref).1 : Nat)∧∃ F',RefR w (freeP st ref).2 F' h'∧Acts h F h' F':=by
 have r0:=r
 obtain ⟨sv,S,Q,A,rfl,inv,hfr,hF⟩:=r
 refine gives_func (k.env _ (by decide)) (k.at (fn:=a52) rfl) rfl ?_
 simp only [a52,c52,vms,vmc,vA,vB,reduceCtorEq,vC,vD]
 refine Gives.bind ((rat_ok k A ref).mono ?_)
 rintro _ _ ⟨rfl,res,hres,rfl⟩
 rename_i h
 have hf:=hres.find
 cases res with
 | error e =>
  have he:=hres.err
  have d : (((e : Nat) : Int) != 0)=true:=by simp; omega
  simp only [atV,vms,vmc,vA,vB,reduceCtorEq,vC,vD,d,freeP,← hf]
  exact ⟨trivial,F,r0,Acts.refl hl⟩
 | ok n =>
 obtain ⟨x,hx,hlive,hv,href⟩:=hres.slot
 obtain ⟨so,ho,hi,l0,_,_,_⟩:=A.slots.at hx
 have hmem:=List.mem_of_getElem? hx
 obtain ⟨k1,k2,k3⟩:=A.kinds x hmem
 obtain ⟨i1,i2,i3,i4,i5⟩:=inv.each n _ (pure_some hx)
 have hp:=pure_some hx
 have hnlt:=(List.getElem?_eq_some_iff.1 hx).1
 obtain ⟨l1,l2,l3,l4⟩:=A.low hl
 have hsol : so < h.next:=l2 so (by rw [ho]; simp)
 have nc : nilChkV (.ptr w 0)=some (.ptr w 0):=rfl
 have fa0 : fieldAddrV 0 (.ptr w 0)=some (.ptr w 0):=rfl
 have fa1 : fieldAddrV 1 (.ptr w 0)=some (.ptr w 1):=rfl
 have fb : ∀ j,fieldAddrV j (.ptr so (n * 4))=some (.ptr so (n * 4 + j)):=fun j => rfl
 have nb : nilChkV (.ptr so (n * 4))=some (.ptr so (n * 4)):=rfl
 simp only [atV,vms,vmc,vA,vB,reduceCtorEq,vC,vD,show ((0 : Int) != 0)=false from rfl,nc,fa0,A.sv_load,hi,nb,fb,Nat.add_zero,l0]
 refine Gives.bind ((rpoison_ok k k1 hl).mono ?_)
 rintro r1 h1 ⟨nw1,nw2,nw3,nw4⟩
 have A1:=A.grow hl nw3
 have hc1 : r1.cells=[r1]∧r1.flat=true:=by obtain ⟨o,e,_⟩:=nw1; rw [e]; exact ⟨rfl,rfl⟩
 have hplen : (poisonP x.cls).length=sizeN x.cls:=by simp [poisonP]
 obtain ⟨h2,st2,u2,A2⟩:=A1.setCell (j:=2) (y:=⟨x.cls,x.gen,false,x.ws,x.wv⟩) (v := .bool false) hx ho (by decide) rfl rfl rfl (A1.words x hmem) (A1.own x hmem) ⟨k1,k2,k3⟩
 have hx2 : (S.set n ⟨x.cls,x.gen,false,x.ws,x.wv⟩)[n]?=some ⟨x.cls,x.gen,false,x.ws,x.wv⟩:=by rw [List.getElem?_set,if_pos rfl,if_pos hnlt]
 have nw1' : Words h2 r1 (poisonP x.cls):=nw1.keep fun o hoo => u2.2 o (by have:=nw2 o hoo; omega)
 have hown : ∀ o∈objs r1,o≠w∧o∉objs sv:=fun o hoo => ⟨by have:=nw2 o hoo; omega,fun e => by have:=nw2 o hoo; have:=l2 o e; omega⟩
 obtain ⟨h3,st3,u3,A3⟩:=A2.setCell (j:=3) (y:=⟨x.cls,x.gen,false,poisonP x.cls,r1⟩) (v:=r1) hx2 ho (by decide) hc1.1 hc1.2 rfl nw1' hown ⟨k1,k2,hplen⟩
 rw [List.set_set] at A3
 have hx3 : (S.set n ⟨x.cls,x.gen,false,poisonP x.cls,r1⟩)[n]?=some ⟨x.cls,x.gen,false,poisonP x.cls,r1⟩:=by rw [List.getElem?_set,if_pos rfl,if_pos hnlt]
 obtain ⟨so3,ho3,_,_,g3,_,_⟩:=A3.slots.at hx3
 have : so3=so:=by rw [ho] at ho3; simpa using ho3.symm
 subst this
 have nw1'' : Words h3 r1 (poisonP x.cls):=nw1'.keep fun o hoo => u3.2 o (by have:=nw2 o hoo; omega)
 obtain ⟨h4,st4,u4,A4⟩:=A3.setCell (j:=1) (y:=⟨x.cls,x.gen + 1,false,poisonP x.cls,r1⟩) (v := .int .i64 ((x.gen + 1 : Nat) : Int)) hx3 ho (by decide) rfl rfl rfl nw1'' hown ⟨k1,by have:=hv.2.2; show x.gen + 1 < _; omega,hplen⟩
 rw [List.set_set] at A4
 have hx4 : (S.set n ⟨x.cls,x.gen + 1,false,poisonP x.cls,r1⟩)[n]?=some ⟨x.cls,x.gen + 1,false,poisonP x.cls,r1⟩:=by rw [List.getElem?_set,if_pos rfl,if_pos hnlt]
 obtain ⟨so4,ho4,_,c4,g4,_,_⟩:=A4.slots.at hx4
 have : so4=so3:=by rw [ho] at ho4; simpa using ho4.symm
 subst this
 have hg:=hv.2.2
 have w1 : IntKind.i64.wrap ((x.gen : Int) + 1)=((x.gen + 1 : Nat) : Int):=by rw [wrap_i64 (by omega) (by omega)]; rfl
 have on4 : Only h h4 (w :: objs sv):=by
  refine ⟨by rw [u4.1,u3.1,u2.1]; exact nw3.1,fun p hp hpF => ?_⟩
  rw [ho] at hpF
  simp only [List.mem_cons,List.not_mem_nil,or_false,not_or] at hpF
  rw [u4.2 p hpF.2,u3.2 p hpF.2,u2.2 p hpF.2,nw3.2 p hp (by simp)]
 have hn1:=nw3.1
 have lo4 : Low h4:=((nw4.upd u2 (by omega)).upd u3 (by rw [u2.1]; omega)).upd u4 (by rw [u3.1,u2.1]; omega)
 have hyk : (⟨x.cls,x.gen + 1,false,poisonP x.cls,r1⟩ : Slot).pure.cls < 5∧1≤(⟨x.cls,x.gen + 1,false,poisonP x.cls,r1⟩ : Slot).pure.gen∧(⟨x.cls,x.gen + 1,false,poisonP x.cls,r1⟩ : Slot).pure.gen≤1073741825∧((⟨x.cls,x.gen + 1,false,poisonP x.cls,r1⟩ : Slot).pure.live=true→(⟨x.cls,x.gen + 1,false,poisonP x.cls,r1⟩ : Slot).pure.gen≤1073741824)∧(⟨x.cls,x.gen + 1,false,poisonP x.cls,r1⟩ : Slot).pure.ws.length=sizeN (⟨x.cls,x.gen + 1,false,poisonP x.cls,r1⟩ : Slot).pure.cls :=
  ⟨k1,by show 1≤x.gen + 1; omega,by show x.gen + 1≤_; omega,(fun e => by simp [Slot.pure] at e),hplen⟩
 have hold : ∀ c,isFree c x.pure=false:=fun c => by simp [isFree,Slot.pure,hlive]
 have hfp : freeP (S.map Slot.pure) ref=(0,(S.map Slot.pure).set n (⟨x.cls,x.gen + 1,false,poisonP x.cls,r1⟩ : Slot).pure):=by
  simp only [freeP,← hf,hp]; rfl
 rw [hfp]
 have g3' : loadV h3 false 1 (.ptr so4 (n * 4 + 1))=some (.int .i64 (x.gen : Int)):=g3
 have g4' : loadV h4 false 1 (.ptr so4 (n * 4 + 1))=some (.int .i64 ((x.gen + 1 : Nat) : Int)):=g4
 have c4' : loadV h4 false 1 (.ptr so4 (n * 4))=some (.int .i64 (x.cls : Int)):=c4
 simp only [vms,vmc,vA,vB,reduceCtorEq,vC,vD,nb,fb,st2]
 simp only [vms,vmc,vA,vB,reduceCtorEq,vC,vD,nb,fb,st3]
 simp only [vms,vmc,vA,vB,reduceCtorEq,vC,vD,nb,fb,g3']
 simp only [vms,vmc,vA,vB,reduceCtorEq,vC,vD,w1,nb,fb,st4]
 by_cases hle : x.gen + 1≤1073741824
 ·have d : decide (((x.gen + 1 : Nat) : Int)≤1073741824)=true:=by rw [decide_eq_true_eq]; omega
  obtain ⟨q,hq⟩ : ∃ q,Q[x.cls]?=some q:=⟨_,List.getElem?_eq_getElem (by rw [A.five]; omega)⟩
  obtain ⟨hqL,hqm⟩:=hfr _ q hq
  have hnew : isFree x.cls (⟨x.cls,x.gen + 1,false,poisonP x.cls,r1⟩ : Slot).pure=true:=isFree_iff.2 ⟨rfl,rfl,hle⟩
  obtain ⟨b1,b2⟩:=freeL_back hp (hold x.cls) hnew
  have hshort : q.L.length < 1024:=by
   have e1:=congrArg List.length b1
   rw [insI_len,freeL_len,← hqL] at e1
   have e2:=roomP_le (st:=(S.map Slot.pure).set n (⟨x.cls,x.gen + 1,false,poisonP x.cls,r1⟩ : Slot).pure) (c:=x.cls)
   rw [List.length_set,List.length_map] at e2
   have:=A.small
   omega
  simp only [vms,vmc,vA,vB,reduceCtorEq,vC,vD,g4',d,nc,fa0,fa1,nb,fb,Nat.add_zero,c4',idxRow_two k1]
  refine Gives.bind ((rput_ok k A4 lo4 hq (n:=(n : Int)) (by omega) (by rw [hqm,List.length_map]; omega) (by rw [hqL]; exact b2) hshort).mono ?_)
  rintro _ h5 ⟨v5,A5,hv5,on5,lo5⟩
  simp only [vms,vmc,vA,vB,reduceCtorEq,vC,vD]
  refine ⟨rfl,ref_put hF inv hx A5 hyk nw2 ?_ lo5 (fun r hr => ?_) fun c' r hr => ?_⟩
  ·exact on4.trans on5 (fun o hoo => .inl (by simp at hoo; simp [hoo]))
  ·rcases List.mem_or_eq_of_mem_set hr with h6 | rfl
   ·exact .inl ⟨r,h6,fun o ho => ho⟩
   ·exact .inr fun o ho => by have:=hv5 o ho; have:=on4.1; omega
  ·rw [List.getElem?_set] at hr
   by_cases e : x.cls=c'
   ·subst e
    rw [if_pos rfl,if_pos (by rw [A.five]; omega)] at hr
    cases hr
    exact ⟨by rw [b1,← hqL],hqm⟩
   ·rw [if_neg e] at hr
    obtain ⟨e1,e2⟩:=hfr c' r hr
    refine ⟨e1.trans (freeL_same hp ?_).symm,e2⟩
    have : (x.cls == c')=false:=by rw [beq_eq_false_iff_ne]; exact e
    simp [isFree,Slot.pure,this]
 ·have d : decide (((x.gen + 1 : Nat) : Int)≤1073741824)=false:=by rw [decide_eq_false_iff_not]; omega
  simp only [vms,vmc,vA,vB,reduceCtorEq,vC,vD,nb,fb,g4',d]
  refine ⟨rfl,ref_put hF inv hx A4 hyk nw2 on4 lo4 (fun r hr => .inl ⟨r,hr,fun o ho => ho⟩) fun c' r hr => ?_⟩
  obtain ⟨e1,e2⟩:=hfr c' r hr
  refine ⟨e1.trans (freeL_same hp ?_).symm,e2⟩
  rw [hold]
  simp [isFree,Slot.pure]
  omega
end Go.Proofs.Ytagcnjhpdopkiaa

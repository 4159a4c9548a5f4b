/- Arenas: sizes of classes; refs, and their parts. -/
import Derived.Test.YtagcnjhpdopkiaaP9Pool
namespace Go.Proofs.Ytagcnjhpdopkiaa
open Go.Vm
open Go.Vm.AOpd renaming val → vA
open Nat renaming reduceEqDiff → vB,reduceAdd → vC,reduceBEq → vD
set_option linter.unusedSimpArgs false
set_option linter.unusedVariables false
variable {T : Vm.Prog} {h : AH}
def sizeN : Nat→Nat
 | 0 => 8 | 1 => 12 | 2 => 24 | 3 => 88 | 4 => 264 | _ => 0
theorem sizeN_le (c : Nat) : sizeN c≤264:=by unfold sizeN; split <;> omega
theorem size_ok (k : Fits T) {c : Nat} (hc : c < 5) : Gives T 62 [.int .i64 (c : Int)] h fun r h' => r = .int .i64 (sizeN c : Nat)∧h'=h:=by
 refine gives_func (k.env _ (by decide)) (k.at (fn:=a62) rfl) rfl ?_
 have : c=0∨c=1∨c=2∨c=3∨c=4:=by omega
 rcases this with rfl | rfl | rfl | rfl | rfl
 ·simp only [a62,c62,vms,vmc,vA,vB,reduceCtorEq,vC,vD,show (((0 : Nat) : Int) == 0)=true from rfl]; exact ⟨rfl,trivial⟩
 ·simp only [a62,c62,vms,vmc,vA,vB,reduceCtorEq,vC,vD,show (((1 : Nat) : Int) == 0)=false from rfl,show (((1 : Nat) : Int) == 1)=true from rfl]; exact ⟨rfl,trivial⟩
 ·simp only [a62,c62,vms,vmc,vA,vB,reduceCtorEq,vC,vD,show (((2 : Nat) : Int) == 0)=false from rfl,show (((2 : Nat) : Int) == 1)=false from rfl,show (((2 : Nat) : Int) == 2)=true from rfl]; exact ⟨rfl,trivial⟩
 ·simp only [a62,c62,vms,vmc,vA,vB,reduceCtorEq,vC,vD,show (((3 : Nat) : Int) == 0)=false from rfl,show (((3 : Nat) : Int) == 1)=false from rfl,show (((3 : Nat) : Int) == 2)=false from rfl,show (((3 : Nat) : Int) == 3)=true from rfl]; exact ⟨rfl,trivial⟩
 ·simp only [a62,c62,vms,vmc,vA,vB,reduceCtorEq,vC,vD,show (((4 : Nat) : Int) == 0)=false from rfl,show (((4 : Nat) : Int) == 1)=false from rfl,show (((4 : Nat) : Int) == 2)=false from rfl,show (((4 : Nat) : Int) == 3)=false from rfl,show (((4 : Nat) : Int) == 4)=true from rfl]; exact ⟨rfl,trivial⟩
def refN (s g : Nat) (l : Bool) : Nat:=g * 65536 + s + if l then 281474976710656 else 0
def Valid (s g : Nat) : Prop:=s < 1024∧1≤g∧g≤1073741824
theorem ref_ok (k : Fits T) {s g : Nat} {l : Bool} (hv : Valid s g) : Gives T 65 [.int .i64 (s : Int),.int .i64 (g : Int),.bool l] h fun r h' => r = .int .i64 (refN s g l : Nat)∧h'=h:=by
 obtain ⟨h1,h2,h3⟩:=hv
 refine gives_func (k.env _ (by decide)) (k.at (fn:=a65) rfl) rfl ?_
 have d1 : decide ((s : Int) < 0)=false:=by rw [decide_eq_false_iff_not]; omega
 have d2 : decide ((s : Int) ≥ 1024)=false:=by rw [decide_eq_false_iff_not]; omega
 have d3 : decide ((g : Int) < 1)=false:=by rw [decide_eq_false_iff_not]; omega
 have d4 : decide ((g : Int) > 1073741824)=false:=by rw [decide_eq_false_iff_not]; omega
 have eo:=bin_or_i64 (a:=g * 65536) (b:=s) (by omega) (by omega)
 rw [or_low (by omega)] at eo
 have el:=bin_or_i64 (a:=g * 65536 + s) (b:=281474976710656) (by omega) (by omega)
 rw [or_leaf (by omega)] at el
 have el' : binV .or (.int .i64 ((g * 65536 + s : Nat) : Int)) (.int .i64 281474976710656)=some (.int .i64 ((g * 65536 + s + 281474976710656 : Nat) : Int)):=el
 cases l
 ·simp only [a65,c65,vms,vmc,vA,vB,reduceCtorEq,vC,vD,d1,d2,d3,d4,bin_shl16 h3,eo]
  exact ⟨by simp [refN],trivial⟩
 ·simp only [a65,c65,vms,vmc,vA,vB,reduceCtorEq,vC,vD,d1,d2,d3,d4,bin_shl16 h3,eo,el']
  exact ⟨by simp [refN],trivial⟩
theorem ref_no (k : Fits T) {s g : Nat} {l : Bool} (hv : ¬ Valid s g) : Gives T 65 [.int .i64 (s : Int),.int .i64 (g : Int),.bool l] h fun r h' => r = .int .i64 0∧h'=h:=by
 refine gives_func (k.env _ (by decide)) (k.at (fn:=a65) rfl) rfl ?_
 have d1 : decide ((s : Int) < 0)=false:=by rw [decide_eq_false_iff_not]; omega
 by_cases h1 : s < 1024
 ·have d2 : decide ((s : Int) ≥ 1024)=false:=by rw [decide_eq_false_iff_not]; omega
  by_cases h2 : 1≤g
  ·have d3 : decide ((g : Int) < 1)=false:=by rw [decide_eq_false_iff_not]; omega
   have h3 : ¬ g≤1073741824:=fun h3 => hv ⟨h1,h2,h3⟩
   have d4 : decide ((g : Int) > 1073741824)=true:=by rw [decide_eq_true_eq]; omega
   simp only [a65,c65,vms,vmc,vA,vB,reduceCtorEq,vC,vD,d1,d2,d3,d4]; exact ⟨trivial,trivial⟩
  ·have d3 : decide ((g : Int) < 1)=true:=by rw [decide_eq_true_eq]; omega
   simp only [a65,c65,vms,vmc,vA,vB,reduceCtorEq,vC,vD,d1,d2,d3]; exact ⟨trivial,trivial⟩
 ·have d2 : decide ((s : Int) ≥ 1024)=true:=by rw [decide_eq_true_eq]; omega
  simp only [a65,c65,vms,vmc,vA,vB,reduceCtorEq,vC,vD,d1,d2]; exact ⟨trivial,trivial⟩
theorem refN_lt {s g : Nat} {l : Bool} (hv : Valid s g) : refN s g l < 562949953421312∧0 < refN s g l:=by
 obtain ⟨h1,h2,h3⟩:=hv
 unfold refN
 cases l <;> simp <;> omega
theorem refN_slot {s g : Nat} {l : Bool} (hv : Valid s g) : refN s g l &&& 65535=s:=by
 obtain ⟨h1,h2,h3⟩:=hv
 rw [show (65535 : Nat)=2 ^ 16 - 1 from rfl,Nat.and_two_pow_sub_one_eq_mod]
 unfold refN
 cases l <;> simp <;> omega
theorem refN_gen {s g : Nat} {l : Bool} (hv : Valid s g) : refN s g l / 65536 &&& 4294967295=g:=by
 obtain ⟨h1,h2,h3⟩:=hv
 rw [show (4294967295 : Nat)=2 ^ 32 - 1 from rfl,Nat.and_two_pow_sub_one_eq_mod]
 unfold refN
 cases l <;> simp <;> omega
theorem refN_leaf {s g : Nat} {l : Bool} (hv : Valid s g) : ((refN s g l &&& 281474976710656 : Nat) != 0)=l:=by
 obtain ⟨h1,h2,h3⟩:=hv
 rw [and_pow48,Nat.testBit_eq_decide_div_mod_eq]
 unfold refN
 cases l
 ·simp; omega
 ·simp; omega
theorem refN_inj {s g s' g' : Nat} {l l' : Bool} (hv : Valid s g) (hv' : Valid s' g') (e : refN s g l=refN s' g' l') : s=s'∧g=g'∧l=l':=by
 refine ⟨?_,?_,?_⟩
 ·rw [← refN_slot (l:=l) hv,e,refN_slot hv']
 ·rw [← refN_gen (l:=l) hv,e,refN_gen hv']
 ·rw [← refN_leaf (l:=l) hv,e,refN_leaf hv']
theorem parts_ok (k : Fits T) (ref : Int) : Gives T 74 [.int .i64 ref] h fun r h' => h'=h ∧
  ((∃ s g l,Valid s g∧ref=(refN s g l : Nat)∧r = .tuple [.int .i64 (s : Nat),.int .i64 (g : Nat),.bool l,.bool true]) ∨
   ((∀ s g l,Valid s g→ref≠(refN s g l : Nat))∧r = .tuple [.int .i64 0,.int .i64 0,.bool false,.bool false])):=by
 refine gives_func (k.env _ (by decide)) (k.at (fn:=a74) rfl) rfl ?_
 obtain ⟨s,hs1,hs2,hs3⟩:=bin_and_i64 ref (c:=65535) (by omega)
 have hs2' : binV .and (.int .i64 ref) (.int .i64 65535)=some (.int .i64 (s : Int)):=hs2
 obtain ⟨g,hg1,hg2,hg3⟩:=bin_and_i64 (ref.fdiv 65536) (c:=4294967295) (by omega)
 have hg2' : binV .and (.int .i64 (ref.fdiv 65536)) (.int .i64 4294967295)=some (.int .i64 (g : Int)):=hg2
 obtain ⟨lf,hl1,hl2,hl3⟩:=bin_and_i64 ref (c:=281474976710656) (by omega)
 have hl2' : binV .and (.int .i64 ref) (.int .i64 281474976710656)=some (.int .i64 (lf : Int)):=hl2
 have hshr : binV .shr (.int .i64 ref) (.int .u64 16)=some (.int .i64 (ref.fdiv 65536)):=by
  show intShift .shr .i64 ref 16=_
  unfold intShift
  rw [if_neg (by decide)]
  rfl
 have hback : ∀ s' g' l',Valid s' g'→ref=(refN s' g' l' : Nat)→s'=s∧g'=g∧l'=((lf : Int) != 0):=by
  intro s' g' l' hv e
  have hlt:=refN_lt (l:=l') hv
  have e1:=hs3 _ (by omega) e
  have e2:=hg3 (refN s' g' l' / 65536) (by omega) (by rw [e,Int.fdiv_eq_ediv_of_nonneg _ (by omega)]; rfl)
  have e3:=hl3 _ (by omega) e
  rw [refN_slot hv] at e1
  rw [refN_gen hv] at e2
  refine ⟨e1.symm,e2.symm,?_⟩
  rw [e3]
  refine (refN_leaf (l:=l') hv).symm.trans ?_
  rw [Bool.eq_iff_iff]
  simp only [bne_iff_ne,ne_eq]
  omega
 simp only [a74,c74,vms,vmc,vA,vB,reduceCtorEq,vC,vD,hs2',hg2',hl2',hshr]
 by_cases hz : ref=0
 ·have d : (ref == 0)=true:=by simpa using hz
  simp only [d,vms,vmc,vA,vB,reduceCtorEq,vC,vD]
  refine ⟨trivial,.inr ⟨fun s' g' l' hv e => ?_,trivial⟩⟩
  have:=refN_lt (l:=l') hv
  omega
 have d : (ref == 0)=false:=by simpa using hz
 simp only [d,vms,vmc,vA,vB,reduceCtorEq,vC,vD]
 by_cases hv : Valid s g
 ·refine Gives.bind ((ref_ok k (l:=((lf : Int) != 0)) hv).mono ?_)
  rintro _ _ ⟨rfl,rfl⟩
  by_cases he : ((refN s g ((lf : Int) != 0) : Nat) : Int)=ref
  ·have d2 : (((refN s g ((lf : Int) != 0) : Nat) : Int) != ref)=false:=by rw [he]; simp
   simp only [d2,vms,vmc,vA,vB,reduceCtorEq,vC,vD]
   exact ⟨trivial,.inl ⟨s,g,_,hv,he.symm,rfl⟩⟩
  ·have d2 : (((refN s g ((lf : Int) != 0) : Nat) : Int) != ref)=true:=by simpa using he
   simp only [d2,vms,vmc,vA,vB,reduceCtorEq,vC,vD]
   refine ⟨trivial,.inr ⟨fun s' g' l' hv' e => he ?_,trivial⟩⟩
   obtain ⟨rfl,rfl,rfl⟩:=hback s' g' l' hv' e
   exact e.symm
 ·refine Gives.bind ((ref_no k (l:=((lf : Int) != 0)) hv).mono ?_)
  rintro _ _ ⟨rfl,rfl⟩
  have d2 : ((0 : Int) != ref)=true:=by simp; omega
  simp only [d2,vms,vmc,vA,vB,reduceCtorEq,vC,vD]
  refine ⟨trivial,.inr ⟨fun s' g' l' hv' e => hv ?_,trivial⟩⟩
  obtain ⟨rfl,rfl,rfl⟩:=hback s' g' l' hv' e
  exact hv'
end Go.Proofs.Ytagcnjhpdopkiaa
/- Arenas: words of slots: poison,fill,copies. -/
namespace Go.Proofs.Ytagcnjhpdopkiaa
open Go.Vm
open Go.Vm.AOpd renaming val → vA
open Nat renaming reduceEqDiff → vB,reduceAdd → vC,reduceBEq → vD
set_option linter.unusedSimpArgs false
set_option linter.unusedVariables false
set_option maxRecDepth 100000
variable {T : Vm.Prog} {h : AH}
def poisonN : Nat:=16045690984833335023
def wcells (ws : List Nat) : List AV:=ws.map fun (n : Nat) => .int .u64 (n : Int)
theorem wcells_len (ws : List Nat) : (wcells ws).length=ws.length:=by simp [wcells]
theorem wcells_flat (ws : List Nat) : (wcells ws).all AV.flat=true:=by
 simp only [wcells,List.all_eq_true,List.mem_map]
 rintro x ⟨n,_,rfl⟩; rfl
def Words (h : AH) (v : AV) (ws : List Nat) : Prop:=∃ o,v = .slice o 0 1 ws.length ws.length true∧h.get o=some (.cells (wcells ws) true)
theorem mul8 (h : AH) : arunY table 3 100 99 [.int .u64 1,.int .u64 8] h=some (.tuple [.int .u64 0,.int .u64 8],h):=by kernel_rfl
theorem mul12 (h : AH) : arunY table 3 100 99 [.int .u64 1,.int .u64 12] h=some (.tuple [.int .u64 0,.int .u64 12],h):=by kernel_rfl
theorem mul24 (h : AH) : arunY table 3 100 99 [.int .u64 1,.int .u64 24] h=some (.tuple [.int .u64 0,.int .u64 24],h):=by kernel_rfl
theorem mul88 (h : AH) : arunY table 3 100 99 [.int .u64 1,.int .u64 88] h=some (.tuple [.int .u64 0,.int .u64 88],h):=by kernel_rfl
theorem mul264 (h : AH) : arunY table 3 100 99 [.int .u64 1,.int .u64 264] h=some (.tuple [.int .u64 0,.int .u64 264],h):=by kernel_rfl
theorem mul_ok (k : Fits T) {c : Nat} (hc : c < 5) : Gives T 99 [.int .u64 1,.int .u64 (sizeN c : Nat)] h fun r h' => r = .tuple [.int .u64 0,.int .u64 (sizeN c : Nat)]∧h'=h:=by
 have : c=0∨c=1∨c=2∨c=3∨c=4:=by omega
 rcases this with rfl | rfl | rfl | rfl | rfl
 ·exact ⟨_,_,k.runs _ _ _ _ _ (mul8 h),rfl,rfl⟩
 ·exact ⟨_,_,k.runs _ _ _ _ _ (mul12 h),rfl,rfl⟩
 ·exact ⟨_,_,k.runs _ _ _ _ _ (mul24 h),rfl,rfl⟩
 ·exact ⟨_,_,k.runs _ _ _ _ _ (mul88 h),rfl,rfl⟩
 ·exact ⟨_,_,k.runs _ _ _ _ _ (mul264 h),rfl,rfl⟩
theorem repeat_ok (k : Fits T) {c o : Nat} {x : Nat} (hc : c < 5) (hl : Low h) (hg : h.get o=some (.cells [.int .u64 (x : Int)] true)) :
  Gives T 89 [.slice o 0 1 1 1 true,.int .i64 (sizeN c : Nat)] h fun r h' => r = .slice h.next 0 1 (sizeN c) (sizeN c) true∧h'.get h.next=some (.cells (wcells (List.replicate (sizeN c) x)) true)∧Only h h' []∧Low h'∧h'.next=h.next + 1:=by
 refine gives_func (k.env _ (by decide)) (k.at (fn:=a89) rfl) rfl ?_
 have hN:=sizeN_le c
 have hN1 : 8≤sizeN c:=by
  have : c=0∨c=1∨c=2∨c=3∨c=4:=by omega
  rcases this with rfl | rfl | rfl | rfl | rfl <;> decide
 have hol : o < h.next:=hl _ _ hg
 generalize hNe : sizeN c=N at hN hN1
 have d0 : decide ((N : Int) < 0)=false:=by rw [decide_eq_false_iff_not]; omega
 have w1 : IntKind.u64.wrap ((1 : Nat) : Int)=1:=by decide
 have w2 : IntKind.u64.wrap (N : Int)=(N : Int):=wrap_u64 (by omega)
 simp only [a89,c89,vms,vmc,vA,vB,reduceCtorEq,vC,vD,d0,w1,w2]
 have hm:=mul_ok (h:=h) k hc
 rw [hNe] at hm
 refine Gives.bind (hm.mono ?_)
 rintro _ _ ⟨rfl,rfl⟩
 rename_i h
 have d1 : decide ((0 : Int) > 0)=false:=by decide
 have d2 : decide ((N : Int) > 9223372036854775807)=false:=by rw [decide_eq_false_iff_not]; omega
 have w3 : IntKind.i64.wrap (N : Int)=(N : Int):=wrap_i64n (by omega)
 have hg1 : (h.new (.cells (List.replicate N (AV.int .u64 0)) true)).get o=some (.cells [.int .u64 (x : Int)] true):=by rw [AH.get_new,if_neg (by omega)]; exact hg
 have hcp : copyV 1 (h.new (.cells (List.replicate N (AV.int .u64 0)) true)) (.slice h.next 0 1 N N true) (.slice o 0 1 1 1 true)=some (.int .i64 (1 : Nat),(h.new (.cells (List.replicate N (AV.int .u64 0)) true)).set h.next (.cells (setMany (List.replicate N (AV.int .u64 0)) 0 [.int .u64 (x : Int)]) true)):=by
  simp only [copyV,len_slice,Option.bind_some,Nat.min_eq_left (show 1≤N by omega),AH.elems,AH.load,hg1]
  simp only [true_and,Nat.le_refl,if_true,List.length_cons,List.length_nil,Nat.zero_add,Nat.mul_one,List.drop_zero,List.take_succ_cons,List.take_zero,Option.bind_some,List.isEmpty_cons,Bool.false_eq_true,if_false,AH.store,get_new_same]
  rw [if_pos ⟨by simp; omega,rfl⟩]; rfl
 simp only [vms,vmc,vA,vB,reduceCtorEq,vC,vD,d1,d2,w3,mkSlice_nat (h:=h) (sz:=1) (bytes:=8) (zero:=[.int .u64 0]) (k := .i64) (k' := .i64) (Nat.le_refl N) (by omega) (by omega),rep_one,hcp]
 refine wpc_loop (fun q f h' => ∃ n,q=N - n∧1≤n∧n≤N∧Only h h' []∧Low h'∧h'.next=h.next + 1∧f.at 7 = .slice h.next 0 1 N N true∧f.at 8 = .int .i64 (n : Nat)∧∃ l,h'.get h.next=some (.cells l true)∧l.length=N∧∀ j,j < n→l[j]?=some (AV.int .u64 (x : Int))) ?_ (N - 1) _ _ ⟨1,rfl,Nat.le_refl _,by omega,((Only.refl h []).new _).set (.inr (Nat.le_refl _)) _,(hl.new _).set (by rw [next_new]; omega) _,rfl,?_⟩
 ·rintro q f h' ⟨n,rfl,h1,h2,on,low,nx,h7,h8,l,hg,hll,hpre⟩
  simp only [c89l0,vms,vmc,vA,vB,reduceCtorEq,vC,vD,h7,h8]
  by_cases hlt : n < N
  ·have hd : decide ((n : Int) < (N : Int))=true:=by rw [decide_eq_true_eq]; omega
   obtain ⟨m,hm⟩ : ∃ m,min n (N - n)=m:=⟨_,rfl⟩
   have hm1 : 1≤m∧m≤n∧n + m≤N:=by omega
   have htk : l.take m=List.replicate m (AV.int .u64 (x : Int)):=by
    apply List.ext_getElem?
    intro j
    rw [List.getElem?_take]
    by_cases hj : j < m
    ·rw [if_pos hj,hpre j (by omega)]; simp [hj]
    ·rw [if_neg hj,List.getElem?_eq_none (by simp; omega)]
   have hcp2 : copyV 1 h' (.slice h.next n 1 (N - n) (N - n) true) (.slice h.next 0 1 n N true)=some (.int .i64 (m : Nat),h'.set h.next (.cells (setMany l n (List.replicate m (AV.int .u64 (x : Int)))) true)):=by
    simp only [copyV,len_slice,Option.bind_some,hm,AH.elems,AH.load,hg]
    simp only [true_and,if_true,Nat.zero_add,Nat.mul_one,List.drop_zero,htk,hm1.2.1]
    rw [if_pos (by omega)]
    have he : (List.replicate m (AV.int .u64 (x : Int))).isEmpty=false:=by
     obtain ⟨m',rfl⟩ : ∃ m',m=m' + 1:=⟨m - 1,by omega⟩
     rfl
    simp only [Option.bind_some,he,Bool.false_eq_true,if_false,AH.store,hg]
    rw [if_pos ⟨by simp; omega,by simp [AV.flat]⟩]; rfl
   have w4 : IntKind.i64.wrap ((n : Int) + (m : Int))=((n + m : Nat) : Int):=by rw [wrap_i64 (by omega) (by omega)]; omega
   simp only [hd,vms,vmc,vA,vB,reduceCtorEq,vC,vD,h7,h8,slc_from (show n≤N by omega) hlt,slc_to0 (show n≤N by omega),hcp2,w4]
   obtain ⟨s1,s2⟩:=setMany_get l (List.replicate m (AV.int .u64 (x : Int))) n
   obtain ⟨s3,s4,_⟩:=s2 (by simp; omega)
   refine ⟨N - (n + m),by omega,n + m,rfl,by omega,by omega,on.set (.inr (Nat.le_refl _)) _,low.set (by omega) _,nx,trivial,rfl,_,get_set_same,by rw [s1]; exact hll,?_⟩
   intro j hj
   by_cases hjn : j < n
   ·rw [s3 j hjn]; exact hpre j hjn
   ·have:=s4 (j - n) (AV.int .u64 (x : Int)) (show (List.replicate m (AV.int .u64 (x : Int)))[j - n]?=some (AV.int .u64 (x : Int)) by rw [List.getElem?_replicate,if_pos (by omega)])
    rw [show n + (j - n)=j by omega] at this; exact this
  ·have hd : decide ((n : Int) < (N : Int))=false:=by rw [decide_eq_false_iff_not]; omega
   have : n=N:=by omega
   subst this
   simp only [hd,vms,vmc,vA,vB,reduceCtorEq,vC,vD,h7]
   refine ⟨trivial,?_,on,low,nx⟩
   have hl2 : l=wcells (List.replicate n x):=by
    apply List.ext_getElem?
    intro j
    by_cases hj : j < n
    ·rw [hpre j hj]; simp [wcells,hj]
    ·rw [List.getElem?_eq_none (by omega),List.getElem?_eq_none (by rw [wcells_len]; simp; omega)]
   rw [hg,hl2]
 ·simp only [vms,vmc,vA,vB,reduceCtorEq,vC,vD]
  obtain ⟨s1,s2⟩:=setMany_get (List.replicate N (AV.int .u64 0)) [.int .u64 (x : Int)] 0
  obtain ⟨s3,s4,_⟩:=s2 (by simp; omega)
  refine ⟨trivial,trivial,_,get_set_same,by rw [s1]; simp,?_⟩
  intro j hj
  have : j=0:=by omega
  subst this
  exact s4 0 _ rfl
theorem poison_ok (k : Fits T) {c : Nat} (hc : c < 5) (hl : Low h) :
  Gives T 61 [.int .i64 (c : Int)] h fun r h' => Words h' r (List.replicate (sizeN c) poisonN)∧(∀ o∈objs r,h.next≤o)∧Only h h' []∧Low h':=by
 refine gives_func (k.env _ (by decide)) (k.at (fn:=a61) rfl) rfl ?_
 have hb : fillV [AV.int .u64 0] [(0,1,AV.int .u64 16045690984833335023)]=some [.int .u64 16045690984833335023]:=by simp [fillV,AV.isDef,AV.cells,setMany]
 simp only [a61,c61,vms,vmc,vA,vB,reduceCtorEq,vC,vD,hb]
 refine Gives.bind ((size_ok k hc).mono ?_)
 rintro _ _ ⟨rfl,rfl⟩
 simp only [vms,vmc,vA,vB,reduceCtorEq,vC,vD]
 refine Gives.bind ((repeat_ok (x:=poisonN) k hc (hl.new _) get_new_same).mono ?_)
 rintro _ h2 ⟨rfl,g2,on2,low2,nx2⟩
 simp only [vms,vmc,vA,vB,reduceCtorEq,vC,vD]
 refine ⟨⟨_,by simp,g2⟩,?_,?_,low2⟩
 ·intro o ho; simp [objs] at ho; subst ho; rw [next_new]; omega
 ·exact ((Only.refl h []).new _).trans on2 (fun o ho => by simp at ho)
end Go.Proofs.Ytagcnjhpdopkiaa
/- Arenas: what one is in memory; a ref's slot; how many are free. -/
namespace Go.Proofs.Ytagcnjhpdopkiaa
open Go.Vm
open Go.Vm.AOpd renaming val → vA
open Nat renaming reduceEqDiff → vB,reduceAdd → vC,reduceBEq → vD
set_option linter.unusedSimpArgs false
set_option linter.unusedVariables false
variable {T : Vm.Prog} {h : AH}
structure Slot where
 cls : Nat
 gen : Nat
 live : Bool
 ws : List Nat
 wv : AV
def Slot.cells (s : Slot) : List AV:=[.int .i64 (s.cls : Int),.int .i64 (s.gen : Int),.bool s.live,s.wv]
structure PR where
 p : Nat
 v : AV
 mo : Nat
 L : List Int
def PR.foot (q : PR) : List Nat:=Go.Proofs.Ytagcnjhpdopkiaa.foot q.p q.v q.mo
def SlotsV (h : AH) (v : AV) (S : List Slot) : Prop:=(v = .nilSlice∧S=[])∨∃ so cap l,v = .slice so 0 4 S.length cap false∧h.get so=some (.cells l true)∧l.length=4 * cap∧S.length≤cap ∧
 ∀ (i : Nat) (s : Slot),S[i]?=some s→∀ (j : Nat) (x : AV),s.cells[j]?=some x→l[i * 4 + j]?=some x
structure Arena (h : AH) (a : Nat) (sv : AV) (S : List Slot) (Q : List PR) : Prop where
 obj : h.get a=some (.cells (sv :: ((Q.map fun q => .ptr q.p 0) ++ List.replicate (5 - Q.length) .nilPtr)) true)
 five : Q.length≤5
 slots : SlotsV h sv S
 words : ∀ s∈S,Words h s.wv s.ws
 own : ∀ s∈S,∀ o∈objs s.wv,o≠a∧o∉objs sv∧∀ q∈Q,o∉q.foot
 pools : ∀ q∈Q,Pool h q.p 1024 q.L q.v q.mo
 aside : a∉objs sv∧∀ q∈Q,a∉q.foot∧∀ o∈objs sv,o∉q.foot
 apart : ∀ (i j : Nat) (q r : PR),i≠j→Q[i]?=some q→Q[j]?=some r→∀ o∈q.foot,o∉r.foot
 kinds : ∀ s∈S,s.cls < 5∧s.gen < 9223372036854775807∧s.ws.length=sizeN s.cls
 small : S.length≤1024
theorem Arena.sv_load {a : Nat} {sv : AV} {S : List Slot} {Q : List PR} (A : Arena h a sv S Q) : loadV h false 1 (.ptr a 0)=some sv:=load_at A.obj rfl
theorem SlotsV.len {v : AV} {S : List Slot} (r : SlotsV h v S) : lenOfV v=some S.length:=by
 rcases r with ⟨rfl,rfl⟩ | ⟨so,cap,l,rfl,_⟩ <;> rfl
theorem Arena.pool_load {a : Nat} {sv : AV} {S : List Slot} {Q : List PR} (A : Arena h a sv S Q) {c : Nat} {q : PR} (hq : Q[c]?=some q) : loadV h false 1 (.ptr a (1 + c))=some (.ptr q.p 0):=by
 refine load_at A.obj ?_
 rw [Nat.add_comm,List.getElem?_cons_succ,List.getElem?_append_left (by rw [List.length_map]; exact (List.getElem?_eq_some_iff.1 hq).1),List.getElem?_map,hq]; rfl
theorem room_ok (k : Fits T) {a : Nat} {sv : AV} {S : List Slot} {Q : List PR} (A : Arena h a sv S Q) {c : Nat} {q : PR} (hq : Q[c]?=some q) :
  Gives T 58 [.ptr a 0,.int .i64 (c : Int)] h fun r h' => r = .int .i64 (q.L.length : Nat)∧h'=h:=by
 refine gives_func (k.env _ (by decide)) (k.at (fn:=a58) rfl) rfl ?_
 have hc : c < 5:=Nat.lt_of_lt_of_le (List.getElem?_eq_some_iff.1 hq).1 A.five
 have d1 : decide ((c : Int) < 0)=false:=by rw [decide_eq_false_iff_not]; omega
 have d2 : decide ((c : Int) ≥ 5)=false:=by rw [decide_eq_false_iff_not]; omega
 simp only [a58,c58,vms,vmc,vA,vB,reduceCtorEq,vC,vD,d1,d2,show nilChkV (.ptr a 0)=some (.ptr a 0) from rfl,show fieldAddrV 1 (.ptr a 0)=some (.ptr a 1) from rfl,idxRow_nat hc,A.pool_load hq]
 refine Gives.bind ((plen_ok (k.env _ (by decide)) (k.at rfl) (A.pools q (List.mem_of_getElem? hq))).mono ?_)
 rintro _ _ ⟨rfl,rfl⟩
 simp only [vms,vmc,vA,vB,reduceCtorEq,vC,vD]
 exact ⟨trivial,trivial⟩
theorem room_no (k : Fits T) {a : Nat} {c : Int} (hc : c < 0∨5≤c) : Gives T 58 [.ptr a 0,.int .i64 c] h fun r h' => r = .int .i64 0∧h'=h:=by
 refine gives_func (k.env _ (by decide)) (k.at (fn:=a58) rfl) rfl ?_
 by_cases h1 : c < 0
 ·have d1 : decide (c < 0)=true:=by simpa using h1
  simp only [a58,c58,vms,vmc,vA,vB,reduceCtorEq,vC,vD,d1]; exact ⟨trivial,trivial⟩
 ·have d1 : decide (c < 0)=false:=by simpa using h1
  have d2 : decide (c ≥ 5)=true:=by rw [decide_eq_true_eq]; omega
  simp only [a58,c58,vms,vmc,vA,vB,reduceCtorEq,vC,vD,d1,d2]; exact ⟨trivial,trivial⟩
def sumL (Q : List PR) : Nat:=(Q.map fun q => q.L.length).sum
theorem sumL_succ {Q : List PR} {i : Nat} {q : PR} (hq : Q[i]?=some q) : sumL (Q.take (i + 1))=sumL (Q.take i) + q.L.length:=by
 unfold sumL
 rw [List.take_add_one,hq]; simp
theorem sumL_le {Q : List PR} {n : Nat} (hn : ∀ q∈Q,q.L.length≤n) : sumL Q≤Q.length * n:=by
 unfold sumL
 induction Q with
 | nil => simp
 | cons q Q ih =>
  have h1:=hn q (by simp)
  have h2:=ih fun q hq => hn q (by simp [hq])
  simp only [List.map_cons,List.sum_cons,List.length_cons,Nat.add_mul,Nat.one_mul]
  omega
theorem live_ok (k : Fits T) {a : Nat} {sv : AV} {S : List Slot} {Q : List PR} (A : Arena h a sv S Q) (hfive : Q.length=5) :
  Gives T 40 [.ptr a 0] h fun r h' => r = .int .i64 ((S.length : Int) - (sumL Q : Int))∧h'=h:=by
 refine gives_func (k.env _ (by decide)) (k.at (fn:=a40) rfl) rfl ?_
 simp only [a40,c40,vms,vmc,vA,vB,reduceCtorEq,vC,vD,show nilChkV (.ptr a 0)=some (.ptr a 0) from rfl,show fieldAddrV 0 (.ptr a 0)=some (.ptr a 0) from rfl,A.sv_load,A.slots.len]
 have hsm:=A.small
 refine wpc_loop (fun m f h' => ∃ i,m=5 - i∧i≤5∧h'=h∧f.at 0 = .ptr a 0∧f.at 3 = .int .i64 ((S.length : Int) - (sumL (Q.take i) : Int))∧f.at 10 = .int .i64 (i : Nat)) ?_ 5 _ _ ⟨0,rfl,by omega,rfl,?_⟩
 ·rintro m f h' ⟨i,rfl,hi,rfl,h0,h3,h10⟩
  simp only [c40l0,vms,vmc,vA,vB,reduceCtorEq,vC,vD,h0,h3,h10]
  by_cases hlt : i < 5
  ·have hd : decide ((i : Int) < 5)=true:=by rw [decide_eq_true_eq]; omega
   obtain ⟨q,hq⟩ : ∃ q,Q[i]?=some q:=⟨_,List.getElem?_eq_getElem (by rw [hfive]; exact hlt)⟩
   simp only [hd,vms,vmc,vA,vB,reduceCtorEq,vC,vD,h0,h3,h10]
   refine Gives.bind ((room_ok k A hq).mono ?_)
   rintro _ _ ⟨rfl,rfl⟩
   rename_i h'
   have hle : ∀ j,sumL (Q.take j)≤5 * 1024:=by
    intro j
    have h1:=sumL_le (Q:=Q.take j) (n:=1024) fun q hq => (A.pools q (List.mem_of_mem_take hq)).count
    have h2 : (Q.take j).length≤5:=by rw [List.length_take,hfive]; omega
    exact Nat.le_trans h1 (Nat.mul_le_mul_right 1024 h2)
   have e1:=sumL_succ hq
   have hle1:=hle (i + 1)
   have w1 : IntKind.i64.wrap ((S.length : Int) - (sumL (Q.take i) : Int) - (q.L.length : Int))=(S.length : Int) - (sumL (Q.take (i + 1)) : Int):=by
    rw [wrap_i64 (by omega) (by omega)]; omega
   have w2 : IntKind.i64.wrap ((i : Int) + 1)=((i + 1 : Nat) : Int):=by rw [wrap_i64 (by omega) (by omega)]; rfl
   simp only [vms,vmc,vA,vB,reduceCtorEq,vC,vD,h0,h3,h10,w1,w2]
   exact ⟨5 - (i + 1),by omega,i + 1,rfl,by omega,trivial,trivial,rfl,rfl⟩
  ·have hd : decide ((i : Int) < 5)=false:=by rw [decide_eq_false_iff_not]; omega
   have : i=5:=by omega
   subst this
   simp only [hd,vms,vmc,vA,vB,reduceCtorEq,vC,vD,h3]
   rw [List.take_of_length_le (by rw [hfive]; omega)]
   exact ⟨rfl,trivial⟩
 ·simp only [vms,vmc,vA,vB,reduceCtorEq,vC,vD]
  exact ⟨trivial,by simp [sumL],rfl⟩
inductive OfIs (S : List Slot) (ref : Int) : Except Nat Nat→Prop where
 | none : (∀ s g l,Valid s g→ref≠(refN s g l : Nat))→OfIs S ref (.error 1)
 | far (s g : Nat) (l : Bool) : Valid s g→ref=(refN s g l : Nat)→S.length≤s→OfIs S ref (.error 1)
 | odd (s g : Nat) (l : Bool) (x : Slot) : Valid s g→ref=(refN s g l : Nat)→S[s]?=some x→l≠(x.cls == 0)→OfIs S ref (.error 1)
 | gone (s g : Nat) (x : Slot) : Valid s g→ref=(refN s g (x.cls == 0) : Nat)→S[s]?=some x→x.gen≠g→OfIs S ref (.error 4)
 | free (s g : Nat) (x : Slot) : Valid s g→ref=(refN s g (x.cls == 0) : Nat)→S[s]?=some x→x.gen=g→x.live=false→OfIs S ref (.error 3)
 | good (s : Nat) (x : Slot) : Valid s x.gen→ref=(refN s x.gen (x.cls == 0) : Nat)→S[s]?=some x→x.live=true→OfIs S ref (.ok s)
theorem SlotsV.at {v : AV} {S : List Slot} (r : SlotsV h v S) {i : Nat} {s : Slot} (hs : S[i]?=some s) : ∃ so,objs v=[so]∧idxAddrV 4 v (.int .i64 (i : Int))=some (.ptr so (i * 4)) ∧
  loadV h false 1 (.ptr so (i * 4))=some (.int .i64 (s.cls : Int))∧loadV h false 1 (.ptr so (i * 4 + 1))=some (.int .i64 (s.gen : Int))∧loadV h false 1 (.ptr so (i * 4 + 2))=some (.bool s.live)∧loadV h false 1 (.ptr so (i * 4 + 3))=some s.wv:=by
 rcases r with ⟨rfl,rfl⟩ | ⟨so,cap,l,rfl,hg,h1,h2,h3⟩
 ·simp at hs
 ·have hi:=(List.getElem?_eq_some_iff.1 hs).1
  refine ⟨so,rfl,by simp [idxAddrV,hi],load_at hg (h3 i s hs 0 _ rfl),load_at hg (h3 i s hs 1 _ rfl),load_at hg (h3 i s hs 2 _ rfl),load_at hg (h3 i s hs 3 _ rfl)⟩
def slotPtr (sv : AV) (n : Nat) : AV:=match sv with
 | .slice so _ _ _ _ _ => .ptr so (n * 4)
 | _ => .nilPtr
def ofV (sv : AV) : Except Nat Nat→AV
 | .error e => .tuple [.nilPtr,.int .i64 (e : Int)]
 | .ok n => .tuple [slotPtr sv n,.int .i64 0]
theorem of_ok (k : Fits T) {a : Nat} {sv : AV} {S : List Slot} {Q : List PR} (A : Arena h a sv S Q) (ref : Int) :
  Gives T 95 [.ptr a 0,.int .i64 ref] h fun r h' => h'=h∧∃ res,OfIs S ref res∧r=ofV sv res:=by
 refine gives_func (k.env _ (by decide)) (k.at (fn:=a95) rfl) rfl ?_
 have nc : nilChkV (.ptr a 0)=some (.ptr a 0):=rfl
 have fa : fieldAddrV 0 (.ptr a 0)=some (.ptr a 0):=rfl
 simp only [a95,c95,vms,vmc,vA,vB,reduceCtorEq,vC,vD]
 refine Gives.bind ((parts_ok k ref).mono ?_)
 rintro _ _ ⟨rfl,⟨s,g,l,hv,hr,rfl⟩ | ⟨hno,rfl⟩⟩
 ·rename_i h
  have hex : ∀ {a b c d : AV},extractV 3 (.tuple [a,b,c,d])=some d:=rfl
  have hsm:=A.small
  simp only [vms,vmc,vA,vB,reduceCtorEq,vC,vD,hex,nc,fa,A.sv_load,A.slots.len]
  by_cases hfar : S.length≤s
  ·have d1 : decide ((s : Int) ≥ (S.length : Int))=true:=by rw [decide_eq_true_eq]; omega
   simp only [d1,vms,vmc,vA,vB,reduceCtorEq,vC,vD]
   exact ⟨trivial,.error 1,.far s g l hv hr hfar,rfl⟩
  ·have d1 : decide ((s : Int) ≥ (S.length : Int))=false:=by rw [decide_eq_false_iff_not]; omega
   obtain ⟨x,hx⟩ : ∃ x,S[s]?=some x:=⟨_,List.getElem?_eq_getElem (by omega)⟩
   obtain ⟨so,ho,hi,l0,l1,l2,l3⟩:=A.slots.at hx
   have fb : ∀ j,fieldAddrV j (.ptr so (s * 4))=some (.ptr so (s * 4 + j)):=fun j => rfl
   have nb : nilChkV (.ptr so (s * 4))=some (.ptr so (s * 4)):=rfl
   have hsp : slotPtr sv s = .ptr so (s * 4):=by
    rcases A.slots with ⟨rfl,_⟩ | ⟨so',cap,l,rfl,_⟩
    ·simp [objs] at ho
    ·simp only [objs,List.cons.injEq,and_true] at ho; subst ho; rfl
   have hcls : (((x.cls : Nat) : Int) == 0)=(x.cls == 0):=by
    rw [Bool.eq_iff_iff]; simp
   simp only [d1,vms,vmc,vA,vB,reduceCtorEq,vC,vD,nc,fa,A.sv_load,hi,fb,Nat.add_zero,l0,hcls]
   have heq : eqBV true (.bool l) (.bool (x.cls == 0))=some (.bool (!(l == (x.cls == 0)))):=rfl
   simp only [heq,vms,vmc,vA,vB,reduceCtorEq,vC,vD]
   by_cases hodd : l=(x.cls == 0)
   ·have d2 : (!(l == (x.cls == 0)))=false:=by rw [hodd]; simp
    simp only [d2,vms,vmc,vA,vB,reduceCtorEq,vC,vD,nc,fa,A.sv_load,hi,nb,fb,l1]
    by_cases hgen : x.gen=g
    ·have d3 : (((x.gen : Nat) : Int) != (g : Int))=false:=by rw [hgen]; simp
     simp only [d3,vms,vmc,vA,vB,reduceCtorEq,vC,vD,nb,fb,l2]
     cases hlive : x.live
     ·simp only [vms,vmc,vA,vB,reduceCtorEq,vC,vD]
      exact ⟨trivial,.error 3,.free s g x hv (by rw [← hodd]; exact hr) hx hgen hlive,rfl⟩
     ·simp only [vms,vmc,vA,vB,reduceCtorEq,vC,vD]
      refine ⟨trivial,.ok s,.good s x (by rw [hgen]; exact hv) (by rw [hgen,← hodd]; exact hr) hx hlive,?_⟩
      simp only [ofV,hsp]
    ·have d3 : (((x.gen : Nat) : Int) != (g : Int))=true:=by simp; omega
     simp only [d3,vms,vmc,vA,vB,reduceCtorEq,vC,vD]
     exact ⟨trivial,.error 4,.gone s g x hv (by rw [← hodd]; exact hr) hx hgen,rfl⟩
   ·have d2 : (!(l == (x.cls == 0)))=true:=by simpa using hodd
    simp only [d2,vms,vmc,vA,vB,reduceCtorEq,vC,vD]
    exact ⟨trivial,.error 1,.odd s g l x hv hr hx hodd,rfl⟩
 ·have hex : ∀ {a b c d : AV},extractV 3 (.tuple [a,b,c,d])=some d:=rfl
  simp only [vms,vmc,vA,vB,reduceCtorEq,vC,vD,hex]
  exact ⟨trivial,.error 1,.none hno,rfl⟩
end Go.Proofs.Ytagcnjhpdopkiaa
/- Arenas: slots are filled,stored,swapped,loaded. -/
namespace Go.Proofs.Ytagcnjhpdopkiaa
open Go.Vm
open Go.Vm.AOpd renaming val → vA
open Nat renaming reduceEqDiff → vB,reduceAdd → vC,reduceBEq → vD
set_option linter.unusedSimpArgs false
set_option linter.unusedVariables false
variable {T : Vm.Prog} {h : AH}
theorem Words.keep {h' : AH} {v : AV} {ws : List Nat} (w : Words h v ws) (hk : ∀ o∈objs v,h'.get o=h.get o) : Words h' v ws:=by
 obtain ⟨o,rfl,hg⟩:=w
 exact ⟨o,rfl,(hk o (by simp [objs])).trans hg⟩
theorem SlotsV.keep {h' : AH} {v : AV} {S : List Slot} (r : SlotsV h v S) (hk : ∀ o∈objs v,h'.get o=h.get o) : SlotsV h' v S:=by
 rcases r with ⟨rfl,rfl⟩ | ⟨so,cap,l,rfl,hg,h1⟩
 ·exact .inl ⟨rfl,rfl⟩
 ·exact .inr ⟨so,cap,l,rfl,(hk so (by simp [objs])).trans hg,h1⟩
theorem Arena.keep {h' : AH} {a : Nat} {sv : AV} {S : List Slot} {Q : List PR} (A : Arena h a sv S Q) (h1 : h'.get a=h.get a) (h2 : ∀ o∈objs sv,h'.get o=h.get o) (h3 : ∀ q∈Q,∀ o∈q.foot,h'.get o=h.get o) (h4 : ∀ s∈S,∀ o∈objs s.wv,h'.get o=h.get o) : Arena h' a sv S Q where
 obj:=h1.trans A.obj
 five:=A.five
 slots:=A.slots.keep h2
 words:=fun s hs => (A.words s hs).keep (h4 s hs)
 own:=A.own
 pools:=fun q hq => (A.pools q hq).keep (h3 q hq)
 aside:=A.aside
 apart:=A.apart
 kinds:=A.kinds
 small:=A.small
theorem Arena.low {a : Nat} {sv : AV} {S : List Slot} {Q : List PR} (A : Arena h a sv S Q) (hl : Low h) : a < h.next∧(∀ o∈objs sv,o < h.next)∧(∀ q∈Q,∀ o∈q.foot,o < h.next)∧∀ s∈S,∀ o∈objs s.wv,o < h.next:=by
 refine ⟨hl _ _ A.obj,?_,fun q hq => (A.pools q hq).low hl,?_⟩
 ·intro o ho
  rcases A.slots with ⟨rfl,_⟩ | ⟨so,cap,l,rfl,hg,_⟩
  ·simp [objs] at ho
  ·simp [objs] at ho; subst ho; exact hl _ _ hg
 ·intro s hs o ho
  obtain ⟨w,hw,hg⟩:=A.words s hs
  rw [hw] at ho
  simp [objs] at ho; subst ho; exact hl _ _ hg
theorem Arena.grow {h' : AH} {a : Nat} {sv : AV} {S : List Slot} {Q : List PR} (A : Arena h a sv S Q) (hl : Low h) (on : Only h h' []) : Arena h' a sv S Q:=by
 obtain ⟨l1,l2,l3,l4⟩:=A.low hl
 exact A.keep (on.2 a l1 (by simp)) (fun o ho => on.2 o (l2 o ho) (by simp)) (fun q hq o ho => on.2 o (l3 q hq o ho) (by simp)) (fun s hs o ho => on.2 o (l4 s hs o ho) (by simp))
theorem Arena.same {h' : AH} {a : Nat} {sv : AV} {S : List Slot} {Q : List PR} (A : Arena h a sv S Q) (hg : ∀ o,h'.get o=h.get o) : Arena h' a sv S Q :=
 A.keep (hg _) (fun o _ => hg o) (fun _ _ o _ => hg o) (fun _ _ o _ => hg o)
theorem Arena.setCell {a : Nat} {sv : AV} {S : List Slot} {Q : List PR} (A : Arena h a sv S Q) {n j : Nat} {x y : Slot} {v : AV} {so : Nat} (hx : S[n]?=some x) (hso : objs sv=[so]) (hj : j < 4) (hv : v.cells=[v]) (hf : v.flat=true) (hc : y.cells=x.cells.set j v)
  (hw : Words h y.wv y.ws) (ho : ∀ o∈objs y.wv,o≠a∧o∉objs sv∧∀ q∈Q,o∉q.foot) (hk : y.cls < 5∧y.gen < 9223372036854775807∧y.ws.length=sizeN y.cls) :
  ∃ h',storeV h 1 (.ptr so (n * 4 + j)) v=some h'∧Upd h h' so∧Arena h' a sv (S.set n y) Q:=by
 have hn:=(List.getElem?_eq_some_iff.1 hx).1
 rcases A.slots with ⟨rfl,rfl⟩ | ⟨so',cap,l,rfl,hg,h1,h2,h3⟩
 ·simp at hx
 ·simp only [objs,List.cons.injEq,and_true] at hso
  subst hso
  refine ⟨_,store_at hg (by omega) hv hf,(Upd.refl h _).set _,?_⟩
  have hne : ∀ o,o≠so'→(h.set so' (.cells (l.set (n * 4 + j) v) true)).get o=h.get o:=fun o e => by rw [AH.get_set,if_neg (Ne.symm e)]
  have hmem : ∀ s∈S.set n y,s∈S∨s=y:=by
   intro s hs
   rcases List.mem_or_eq_of_mem_set hs with h4 | h4
   ·exact .inl h4
   ·exact .inr h4
  refine ⟨?_,A.five,?_,?_,?_,?_,A.aside,A.apart,?_,by simpa using A.small⟩
  ·rw [hne a (fun e => A.aside.1 (by simp [objs,e]))]; exact A.obj
  ·refine .inr ⟨so',cap,_,by simp,get_set_same,by simp [h1],by simpa using h2,?_⟩
   intro i s hs m z hz
   rw [List.getElem?_set] at hs
   have hm4 : m < 4:=(List.getElem?_eq_some_iff.1 hz).1
   by_cases e : n=i
   ·subst e
    rw [if_pos rfl,if_pos hn] at hs
    cases hs
    rw [hc,List.getElem?_set] at hz
    rw [List.getElem?_set]
    by_cases e2 : j=m
    ·subst e2
     rw [if_pos rfl] at hz
     rw [if_pos rfl,if_pos (by omega)]
     split at hz
     ·exact hz
     ·cases hz
    ·rw [if_neg e2] at hz
     rw [if_neg (by omega)]
     exact h3 n x hx m z hz
   ·rw [if_neg e] at hs
    rw [List.getElem?_set,if_neg (by omega)]
    exact h3 i s hs m z hz
  ·intro s hs
   rcases hmem s hs with h4 | rfl
   ·exact (A.words s h4).keep fun o h5 => hne o fun e => (A.own s h4 o h5).2.1 (by simp [objs,e])
   ·exact hw.keep fun o h5 => hne o fun e => (ho o h5).2.1 (by simp [objs,e])
  ·intro s hs o h5
   rcases hmem s hs with h4 | rfl
   ·exact A.own s h4 o h5
   ·exact ho o h5
  ·intro q hq
   exact (A.pools q hq).keep fun o h5 => hne o fun e => (A.aside.2 q hq).2 o (by simp [objs,e]) h5
  ·intro s hs
   rcases hmem s hs with h4 | rfl
   ·exact A.kinds s h4
   ·exact hk
def Src (h : AH) (v : AV) (ws : List Nat) : Prop:=(v = .nilSlice∧ws=[])∨∃ o off cap ex l rw,v = .slice o off 1 ws.length cap ex∧h.get o=some (.cells l rw)∧off + ws.length≤l.length∧(l.drop off).take ws.length=wcells ws
theorem Src.len {v : AV} {ws : List Nat} (s : Src h v ws) : lenOfV v=some ws.length:=by
 rcases s with ⟨rfl,rfl⟩ | ⟨o,off,cap,ex,l,rw,rfl,_⟩ <;> rfl
theorem Src.keep {h' : AH} {v : AV} {ws : List Nat} (s : Src h v ws) (hk : ∀ o∈objs v,h'.get o=h.get o) : Src h' v ws:=by
 rcases s with ⟨rfl,rfl⟩ | ⟨o,off,cap,ex,l,rw,rfl,hg,h1⟩
 ·exact .inl ⟨rfl,rfl⟩
 ·exact .inr ⟨o,off,cap,ex,l,rw,rfl,(hk o (by simp [objs])).trans hg,h1⟩
theorem Src.elems {v : AV} {ws : List Nat} (s : Src h v ws) : h.elems 1 ws.length v=some (wcells ws):=by
 rcases s with ⟨rfl,rfl⟩ | ⟨o,off,cap,ex,l,rw,rfl,hg,h1,h2⟩
 ·rfl
 ·simp only [AH.elems,true_and,Nat.le_refl,if_true,AH.load,hg,Nat.mul_one]
  rw [if_pos h1,h2]
theorem Words.src {v : AV} {ws : List Nat} (w : Words h v ws) : Src h v ws:=by
 obtain ⟨o,rfl,hg⟩:=w
 exact .inr ⟨o,0,ws.length,true,wcells ws,true,rfl,hg,by rw [wcells_len]; omega,by rw [List.drop_zero,List.take_of_length_le (by rw [wcells_len]; omega)]⟩
def padW (ws : List Nat) (n : Nat) : List Nat:=ws ++ List.replicate (n - ws.length) 0
theorem padW_len {ws : List Nat} {n : Nat} (h : ws.length≤n) : (padW ws n).length=n:=by simp [padW]; omega
theorem pad_cells {ws : List Nat} {n : Nat} (h : ws.length≤n) : setMany (List.replicate n (AV.int .u64 0)) 0 (wcells ws)=wcells (padW ws n):=by
 obtain ⟨s1,s2⟩:=setMany_get (List.replicate n (AV.int .u64 0)) (wcells ws) 0
 obtain ⟨_,s4,s5⟩:=s2 (by rw [wcells_len]; simp; omega)
 have hp : wcells (padW ws n)=wcells ws ++ List.replicate (n - ws.length) (AV.int .u64 0):=by simp [wcells,padW]
 apply List.ext_getElem?
 intro i
 by_cases hi : i < ws.length
 ·have:=s4 i (AV.int .u64 ((ws[i]'hi : Nat) : Int)) (by simp [wcells,hi])
  rw [Nat.zero_add] at this
  rw [this,hp,List.getElem?_append_left (by rw [wcells_len]; exact hi)]
  simp [wcells,hi]
 ·rw [s5 i (by rw [wcells_len]; omega),hp,List.getElem?_append_right (by rw [wcells_len]; omega),wcells_len,List.getElem?_replicate,List.getElem?_replicate]
  by_cases hn : i < n
  ·rw [if_pos hn,if_pos (by omega)]
  ·rw [if_neg hn,if_neg (by omega)]
theorem fill_ok (k : Fits T) {a : Nat} {sv : AV} {S : List Slot} {Q : List PR} (A : Arena h a sv S Q) (hl : Low h) {n : Nat} {x : Slot} {v : AV} {ws : List Nat} (hx : S[n]?=some x) (sr : Src h v ws) (hne : ∀ o∈objs v,o∉objs sv) (hlt : ∀ o∈objs v,o < h.next) (hw : ws.length≤sizeN x.cls) :
  Gives T 64 [slotPtr sv n,v] h fun _ h' => ∃ w,Arena h' a sv (S.set n { x with ws:=padW ws (sizeN x.cls),wv:=w }) Q∧(∀ o∈objs w,h.next≤o)∧Only h h' (objs sv)∧Low h':=by
 refine gives_func (k.env _ (by decide)) (k.at (fn:=a64) rfl) rfl ?_
 obtain ⟨so,ho,hi,l0,l1,l2,l3⟩:=A.slots.at hx
 have hsp : slotPtr sv n = .ptr so (n * 4):=by
  rcases A.slots with ⟨rfl,_⟩ | ⟨so',cap,l,rfl,_⟩
  ·simp [objs] at ho
  ·simp only [objs,List.cons.injEq,and_true] at ho; subst ho; rfl
 have fb : ∀ j,fieldAddrV j (.ptr so (n * 4))=some (.ptr so (n * 4 + j)):=fun j => rfl
 have nb : nilChkV (.ptr so (n * 4))=some (.ptr so (n * 4)):=rfl
 obtain ⟨k1,k2,k3⟩:=A.kinds x (List.mem_of_getElem? hx)
 have hN:=sizeN_le x.cls
 have hsol : so < h.next:=(A.low hl).2.1 so (by rw [ho]; simp)
 simp only [a64,c64,vms,vmc,vA,vB,reduceCtorEq,vC,vD,hsp,nb,fb,Nat.add_zero,l0]
 refine Gives.bind ((size_ok k k1).mono ?_)
 rintro _ _ ⟨rfl,rfl⟩
 rename_i h
 generalize hNe : sizeN x.cls=N at hN hw k3
 -- the heap behind the make,and with the words in it
 have on1 : Only h (h.new (.cells (List.replicate N (AV.int .u64 0)) true)) []:=(Only.refl h []).new _
 have A1:=A.grow hl on1
 have lo1:=hl.new (.cells (List.replicate N (AV.int .u64 0)) true)
 obtain ⟨lw1,lw2,lw3,lw4⟩:=A.low hl
 have ownW : ∀ o∈objs (AV.slice h.next 0 1 N N true),o≠a∧o∉objs sv∧∀ q∈Q,o∉q.foot:=by
  intro o hoo
  simp [objs] at hoo; subst hoo
  exact ⟨by omega,fun e => by have:=lw2 _ e; omega,fun q hq e => by have:=lw3 q hq _ e; omega⟩
 have wz : Words (h.new (.cells (List.replicate N (AV.int .u64 0)) true)) (.slice h.next 0 1 N N true) (List.replicate N 0):=⟨h.next,by simp,by rw [get_new_same]; simp [wcells]⟩
 obtain ⟨h2,st2,u2,A2⟩:=A1.setCell (j:=3) (y:={ x with ws:=List.replicate N 0,wv := .slice h.next 0 1 N N true }) (v := .slice h.next 0 1 N N true) hx ho (by decide) rfl rfl rfl wz ownW ⟨k1,k2,by simp [hNe]⟩
 have hW2 : h2.get h.next=some (.cells (List.replicate N (AV.int .u64 0)) true):=(u2.2 h.next (by omega)).trans get_new_same
 have lo2 : Low h2:=lo1.upd u2 (by rw [next_new]; omega)
 have l32 : loadV h2 false 1 (.ptr so (n * 4 + 3))=some (.slice h.next 0 1 N N true):=by
  have hn:=(List.getElem?_eq_some_iff.1 hx).1
  obtain ⟨so',ho',_,_,_,_,l33⟩:=A2.slots.at (i:=n) (s:={ x with ws:=List.replicate N 0,wv := .slice h.next 0 1 N N true }) (by rw [List.getElem?_set,if_pos rfl,if_pos hn])
  rw [ho] at ho'
  simp only [List.cons.injEq,and_true] at ho'
  subst ho'; exact l33
 have sr2 : Src h2 v ws:=sr.keep fun o hoo => by
  rw [u2.2 o (fun e => hne o hoo (by rw [ho,e]; simp)),AH.get_new,if_neg (by have:=hlt o hoo; omega)]
 simp only [vms,vmc,vA,vB,reduceCtorEq,vC,vD,nb,fb,mkSlice_nat (h:=h) (sz:=1) (bytes:=8) (zero:=[.int .u64 0]) (k := .i64) (k' := .i64) (Nat.le_refl N) (by omega) (by omega),rep_one,st2,l32]
 have fin : ∀ h3,(∀ o,o≠h.next→h3.get o=h2.get o)→h3.next=h2.next→h3.get h.next=some (.cells (wcells (padW ws N)) true)→∃ w,Arena h3 a sv (S.set n { x with ws:=padW ws N,wv:=w }) Q∧(∀ o∈objs w,h.next≤o)∧Only h h3 (objs sv)∧Low h3:=by
  intro h3 e1 e2 e3
  refine ⟨.slice h.next 0 1 N N true,?_,fun o hoo => by simp [objs] at hoo; omega,?_,?_⟩
  ·have hn:=(List.getElem?_eq_some_iff.1 hx).1
   -- as if the words had been there first
   have B1 : Arena ((h.new (.cells (List.replicate N (AV.int .u64 0)) true)).set h.next (.cells (wcells (padW ws N)) true)) a sv S Q:=A1.keep (by rw [AH.get_set,if_neg (by omega)]) (fun o hoo => by rw [AH.get_set,if_neg (by have:=lw2 o hoo; omega)]) (fun q hq o hoo => by rw [AH.get_set,if_neg (by have:=lw3 q hq o hoo; omega)]) (fun s hs o hoo => by rw [AH.get_set,if_neg (by have:=lw4 s hs o hoo; omega)])
   have wz' : Words ((h.new (.cells (List.replicate N (AV.int .u64 0)) true)).set h.next (.cells (wcells (padW ws N)) true)) (.slice h.next 0 1 N N true) (padW ws N):=⟨h.next,by rw [padW_len hw],get_set_same⟩
   obtain ⟨h4,st4,u4,B2⟩:=B1.setCell (j:=3) (y:={ x with ws:=padW ws N,wv := .slice h.next 0 1 N N true }) (v := .slice h.next 0 1 N N true) hx ho (by decide) rfl rfl rfl wz' ownW ⟨k1,k2,by rw [padW_len hw,hNe]⟩
   refine B2.same fun o => ?_
   by_cases ew : o=h.next
   ·subst ew
    rw [e3,u4.2 _ (by omega),get_set_same]
   ·rw [e1 o ew]
    by_cases es : o=so
    ·subst es
     -- both stores came to the same row
     rcases A.slots with ⟨rfl,_⟩ | ⟨so',cap,l,rfl,hg,hll,_,_⟩
     ·simp [objs] at ho
     ·simp only [objs,List.cons.injEq,and_true] at ho
      subst ho
      have hcn : n * 4 + 3 < l.length:=by
       have:=A.slots.len
       rcases A.slots with ⟨h9,_⟩ | ⟨s9,c27,l9,h9,hg9,h91,h92,_⟩
       ·cases h9
       ·cases h9
        rw [hg] at hg9
        cases hg9
        omega
      have g1 : (h.new (.cells (List.replicate N (AV.int .u64 0)) true)).get so'=some (.cells l true):=by rw [AH.get_new,if_neg (by omega)]; exact hg
      have g2 : ((h.new (.cells (List.replicate N (AV.int .u64 0)) true)).set h.next (.cells (wcells (padW ws N)) true)).get so'=some (.cells l true):=by rw [AH.get_set,if_neg (by omega)]; exact g1
      rw [store_at g1 hcn rfl rfl] at st2
      rw [store_at g2 hcn rfl rfl] at st4
      cases st2; cases st4
      rw [get_set_same,get_set_same]
    ·rw [u2.2 o es,u4.2 o es,AH.get_set,if_neg (Ne.symm ew)]
  ·refine ⟨by rw [e2,u2.1,next_new]; omega,fun q hq hF => ?_⟩
   rw [e1 q (by omega),u2.2 q (fun e => hF (by rw [ho,e]; simp)),AH.get_new,if_neg (by omega)]
  ·intro o y hy
   rw [e2]
   by_cases ew : o=h.next
   ·subst ew; rw [u2.1,next_new]; omega
   ·rw [e1 o ew] at hy; exact lo2 o y hy
 have hcp : copyV 1 h2 (.slice h.next 0 1 N N true) v=some (.int .i64 (ws.length : Nat),if ws.length=0 then h2 else h2.set h.next (.cells (wcells (padW ws N)) true)):=by
  simp only [copyV,sr2.len,len_slice,Option.bind_some,Nat.min_eq_left hw,sr2.elems,if_true]
  cases ws with
  | nil => rfl
  | cons w0 ws0 =>
   rw [if_neg (by simp [wcells]),if_neg (by simp)]
   simp only [AH.store,hW2,wcells_flat]
   rw [if_pos ⟨by rw [wcells_len]; simpa using hw,trivial⟩,pad_cells hw]
   rfl
 simp only [hcp,vms,vmc,vA,vB,reduceCtorEq,vC,vD]
 split
 ·rename_i e0
  have hnil : ws=[]:=List.eq_nil_of_length_eq_zero e0
  subst hnil
  exact fin _ (fun _ _ => rfl) rfl (by rw [hW2]; simp [padW,wcells])
 ·exact fin _ (fun o e => by rw [AH.get_set,if_neg (Ne.symm e)]) rfl get_set_same
end Go.Proofs.Ytagcnjhpdopkiaa
/- Arenas: Load,Store,Swap. -/
namespace Go.Proofs.Ytagcnjhpdopkiaa
open Go.Vm
open Go.Vm.AOpd renaming val → vA
open Nat renaming reduceEqDiff → vB,reduceAdd → vC,reduceBEq → vD
set_option linter.unusedSimpArgs false
set_option linter.unusedVariables false
variable {T : Vm.Prog} {h : AH}
def Copy (h : AH) (v : AV) (ws : List Nat) : Prop:=∃ o,v = .slice o 0 1 ws.length ws.length false∧h.get o=some (.cells (wcells ws) true)
theorem Copy.src {v : AV} {ws : List Nat} (w : Copy h v ws) : Src h v ws:=by
 obtain ⟨o,rfl,hg⟩:=w
 exact .inr ⟨o,0,ws.length,false,wcells ws,true,rfl,hg,by rw [wcells_len]; omega,by rw [List.drop_zero,List.take_of_length_le (by rw [wcells_len]; omega)]⟩
theorem clone_ok (k : Fits T) {v : AV} {ws : List Nat} (hl : Low h) (w : Words h v ws) (h1 : 1≤ws.length) (h2 : ws.length≤264) :
  Gives T 96 [v] h fun r h' => Copy h' r ws∧(∀ o∈objs r,h.next≤o)∧Only h h' []∧Low h':=by
 refine gives_func (k.env _ (by decide)) (k.at (fn:=a96) rfl) rfl ?_
 obtain ⟨o,rfl,hg⟩:=w
 have hol : o < h.next:=hl _ _ hg
 have hnil : eqNilV 1 (.slice o 0 1 ws.length ws.length true) .nilSlice=some false:=rfl
 have hb : fillV [] []=some []:=rfl
 have g1 : (h.new (.cells [] true)).get o=some (.cells (wcells ws) true):=by rw [AH.get_new,if_neg (by omega)]; exact hg
 have happ : appV 1 8 (h.new (.cells [] true)) (.slice h.next 0 1 0 0 true) (.slice o 0 1 ws.length ws.length true)=some (.slice (h.next + 1) 0 1 ws.length ws.length false,(h.new (.cells [] true)).new (.cells (wcells ws) true)):=by
  have hel : (h.new (.cells [] true)).elems 1 ws.length (.slice o 0 1 ws.length ws.length true)=some (wcells ws):=by
   simp only [AH.elems,true_and,Nat.le_refl,if_true,AH.load,g1,Nat.mul_one,List.drop_zero]
   rw [if_pos (by rw [wcells_len]; omega),List.take_of_length_le (by rw [wcells_len]; omega)]
  have hroom : roomOk (0 + ws.length) 8 0 true=true:=by
   simp [roomOk]; omega
  have hload : (h.new (.cells [] true)).load h.next 0 (0 * 1)=some []:=by
   simp only [AH.load,get_new_same]; rfl
  simp only [appV,len_slice,Option.bind_some,hel,appendV,if_true]
  rw [if_neg (by omega),if_pos hroom,hload]
  simp [next_new]
 simp only [a96,c96,vms,vmc,vA,vB,reduceCtorEq,vC,vD,hnil,hb,happ,List.map_nil]
 have g2:=get_new_same (h:=h.new (.cells [] true)) (x := .cells (wcells ws) true)
 rw [next_new] at g2
 refine ⟨⟨_,rfl,g2⟩,fun p hp => by simp [objs] at hp; omega,((Only.refl h []).new _).new _,(hl.new _).new _⟩
theorem Arena.wlen {a : Nat} {sv : AV} {S : List Slot} {Q : List PR} (A : Arena h a sv S Q) {n : Nat} {x : Slot} (hx : S[n]?=some x) : 8≤x.ws.length∧x.ws.length≤264:=by
 obtain ⟨k1,_,k3⟩:=A.kinds x (List.mem_of_getElem? hx)
 rw [k3]
 refine ⟨?_,sizeN_le _⟩
 have : x.cls=0∨x.cls=1∨x.cls=2∨x.cls=3∨x.cls=4:=by omega
 rcases this with e | e | e | e | e <;> rw [e] <;> decide
theorem OfIs.err {S : List Slot} {ref : Int} {e : Nat} (o : OfIs S ref (.error e)) : e=1∨e=3∨e=4:=by
 cases o <;> simp
theorem OfIs.slot {S : List Slot} {ref : Int} {n : Nat} (o : OfIs S ref (.ok n)) : ∃ x,S[n]?=some x∧x.live=true∧Valid n x.gen∧ref=(refN n x.gen (x.cls == 0) : Nat):=by
 cases o with
 | good _ x hv hr hx hlv => exact ⟨x,hx,hlv,hv,hr⟩
theorem slotPtr_at {a : Nat} {sv : AV} {S : List Slot} {Q : List PR} (A : Arena h a sv S Q) {n : Nat} {x : Slot} (hx : S[n]?=some x) : ∃ so,objs sv=[so]∧slotPtr sv n = .ptr so (n * 4) ∧
  loadV h false 1 (.ptr so (n * 4))=some (.int .i64 (x.cls : Int))∧loadV h false 1 (.ptr so (n * 4 + 1))=some (.int .i64 (x.gen : Int))∧loadV h false 1 (.ptr so (n * 4 + 2))=some (.bool x.live)∧loadV h false 1 (.ptr so (n * 4 + 3))=some x.wv:=by
 obtain ⟨so,ho,hi,l0,l1,l2,l3⟩:=A.slots.at hx
 refine ⟨so,ho,?_,l0,l1,l2,l3⟩
 rcases A.slots with ⟨rfl,_⟩ | ⟨so',cap,l,rfl,_⟩
 ·simp [objs] at ho
 ·simp only [objs,List.cons.injEq,and_true] at ho; subst ho; rfl
theorem aload_ok (k : Fits T) {a : Nat} {sv : AV} {S : List Slot} {Q : List PR} (A : Arena h a sv S Q) (hl : Low h) (ref : Int) :
  Gives T 69 [.ptr a 0,.int .i64 ref] h fun r h' => (∃ e,OfIs S ref (.error e)∧r = .tuple [.nilSlice,.int .i64 (e : Int)]∧h'=h) ∨
   (∃ n x v,OfIs S ref (.ok n)∧S[n]?=some x∧r = .tuple [v,.int .i64 0]∧Copy h' v x.ws∧(∀ o∈objs v,h.next≤o)∧Only h h' []∧Low h'):=by
 refine gives_func (k.env _ (by decide)) (k.at (fn:=a69) rfl) rfl ?_
 simp only [a69,c69,vms,vmc,vA,vB,reduceCtorEq,vC,vD]
 refine Gives.bind ((of_ok k A ref).mono ?_)
 rintro _ _ ⟨rfl,res,hres,rfl⟩
 rename_i h
 cases res with
 | error e =>
  have he:=hres.err
  have d : (((e : Nat) : Int) != 0)=true:=by simp; omega
  simp only [ofV,vms,vmc,vA,vB,reduceCtorEq,vC,vD,d]
  exact .inl ⟨e,hres,rfl,trivial⟩
 | ok n =>
  obtain ⟨x,hx,_⟩:=hres.slot
  obtain ⟨so,ho,hsp,l0,l1,l2,l3⟩:=slotPtr_at A hx
  have hw:=A.wlen hx
  simp only [ofV,vms,vmc,vA,vB,reduceCtorEq,vC,vD,show ((0 : Int) != 0)=false from rfl,hsp,show nilChkV (.ptr so (n * 4))=some (.ptr so (n * 4)) from rfl,show fieldAddrV 3 (.ptr so (n * 4))=some (.ptr so (n * 4 + 3)) from rfl,l3]
  refine Gives.bind ((clone_ok k hl (A.words x (List.mem_of_getElem? hx)) (by omega) hw.2).mono ?_)
  rintro v h2 ⟨c2,o2,on2,lo2⟩
  simp only [vms,vmc,vA,vB,reduceCtorEq,vC,vD]
  exact .inr ⟨n,x,v,hres,hx,rfl,c2,o2,on2,lo2⟩
def Refilled (h : AH) (a : Nat) (sv : AV) (S : List Slot) (Q : List PR) (n : Nat) (x : Slot) (ws : List Nat) (h' : AH) : Prop :=
 ∃ w,Arena h' a sv (S.set n { x with ws:=padW ws (sizeN x.cls),wv:=w }) Q∧(∀ o∈objs w,h.next≤o)∧Only h h' (objs sv)∧Low h'
theorem astore_ok (k : Fits T) {a : Nat} {sv : AV} {S : List Slot} {Q : List PR} (A : Arena h a sv S Q) (hl : Low h) (ref : Int) {v : AV} {ws : List Nat} (sr : Src h v ws) (hne : ∀ o∈objs v,o∉objs sv) (hlt : ∀ o∈objs v,o < h.next) (hs : ws.length < 1000000) :
  Gives T 71 [.ptr a 0,.int .i64 ref,v] h fun r h' => (∃ e,OfIs S ref (.error e)∧r = .int .i64 (e : Int)∧h'=h) ∨
   (∃ n x,OfIs S ref (.ok n)∧S[n]?=some x∧((sizeN x.cls < ws.length∧r = .int .i64 1∧h'=h)∨(ws.length≤sizeN x.cls∧r = .int .i64 0∧Refilled h a sv S Q n x ws h'))):=by
 refine gives_func (k.env _ (by decide)) (k.at (fn:=a71) rfl) rfl ?_
 simp only [a71,c71,vms,vmc,vA,vB,reduceCtorEq,vC,vD]
 refine Gives.bind ((of_ok k A ref).mono ?_)
 rintro _ _ ⟨rfl,res,hres,rfl⟩
 rename_i h
 cases res with
 | error e =>
  have he:=hres.err
  have d : (((e : Nat) : Int) != 0)=true:=by simp; omega
  simp only [ofV,vms,vmc,vA,vB,reduceCtorEq,vC,vD,d]
  exact .inl ⟨e,hres,rfl,trivial⟩
 | ok n =>
  obtain ⟨x,hx,_⟩:=hres.slot
  obtain ⟨so,ho,hsp,l0,l1,l2,l3⟩:=slotPtr_at A hx
  obtain ⟨k1,k2,k3⟩:=A.kinds x (List.mem_of_getElem? hx)
  have hwl : lenOfV x.wv=some (sizeN x.cls):=by
   obtain ⟨o,hw,_⟩:=A.words x (List.mem_of_getElem? hx)
   rw [hw,← k3]; rfl
  have nb : nilChkV (.ptr so (n * 4))=some (.ptr so (n * 4)):=rfl
  have fb : fieldAddrV 3 (.ptr so (n * 4))=some (.ptr so (n * 4 + 3)):=rfl
  simp only [ofV,vms,vmc,vA,vB,reduceCtorEq,vC,vD,show ((0 : Int) != 0)=false from rfl,hsp,nb,fb,l3,hwl,sr.len]
  by_cases hgt : sizeN x.cls < ws.length
  ·have d : decide (((ws.length : Nat) : Int) > ((sizeN x.cls : Nat) : Int))=true:=by rw [decide_eq_true_eq]; omega
   simp only [d,vms,vmc,vA,vB,reduceCtorEq,vC,vD]
   exact .inr ⟨n,x,hres,hx,.inl ⟨hgt,trivial,trivial⟩⟩
  ·have d : decide (((ws.length : Nat) : Int) > ((sizeN x.cls : Nat) : Int))=false:=by rw [decide_eq_false_iff_not]; omega
   simp only [d,vms,vmc,vA,vB,reduceCtorEq,vC,vD]
   have hf:=fill_ok k A hl hx sr hne hlt (by omega)
   rw [hsp] at hf
   refine Gives.bind (hf.mono ?_)
   rintro _ h2 hR
   simp only [vms,vmc,vA,vB,reduceCtorEq,vC,vD]
   exact .inr ⟨n,x,hres,hx,.inr ⟨by omega,trivial,hR⟩⟩
theorem aswap_ok (k : Fits T) {a : Nat} {sv : AV} {S : List Slot} {Q : List PR} (A : Arena h a sv S Q) (hl : Low h) (ref : Int) {was : Int} {v : AV} {ws : List Nat} (sr : Src h v ws) (hne : ∀ o∈objs v,o∉objs sv) (hlt : ∀ o∈objs v,o < h.next) (hs : ws.length < 1000000) :
  Gives T 70 [.ptr a 0,.int .i64 ref,.int .u64 was,v] h fun r h' => (∃ e,OfIs S ref (.error e)∧r = .tuple [.bool false,.int .i64 (e : Int)]∧h'=h) ∨
   (∃ n x,OfIs S ref (.ok n)∧S[n]?=some x∧((sizeN x.cls < ws.length∧r = .tuple [.bool false,.int .i64 1]∧h'=h)∨(ws.length≤sizeN x.cls∧(((x.ws[0]?).getD 0 : Nat) : Int)≠was∧r = .tuple [.bool false,.int .i64 0]∧h'=h) ∨
    (ws.length≤sizeN x.cls∧(((x.ws[0]?).getD 0 : Nat) : Int)=was∧r = .tuple [.bool true,.int .i64 0]∧Refilled h a sv S Q n x ws h'))):=by
 refine gives_func (k.env _ (by decide)) (k.at (fn:=a70) rfl) rfl ?_
 simp only [a70,c70,vms,vmc,vA,vB,reduceCtorEq,vC,vD]
 refine Gives.bind ((of_ok k A ref).mono ?_)
 rintro _ _ ⟨rfl,res,hres,rfl⟩
 rename_i h
 cases res with
 | error e =>
  have he:=hres.err
  have d : (((e : Nat) : Int) != 0)=true:=by simp; omega
  simp only [ofV,vms,vmc,vA,vB,reduceCtorEq,vC,vD,d]
  exact .inl ⟨e,hres,rfl,trivial⟩
 | ok n =>
  obtain ⟨x,hx,_⟩:=hres.slot
  obtain ⟨so,ho,hsp,l0,l1,l2,l3⟩:=slotPtr_at A hx
  obtain ⟨k1,k2,k3⟩:=A.kinds x (List.mem_of_getElem? hx)
  have hw8:=A.wlen hx
  obtain ⟨wo,hwv,hwg⟩:=A.words x (List.mem_of_getElem? hx)
  have hwl : lenOfV x.wv=some (sizeN x.cls):=by rw [hwv,← k3]; rfl
  obtain ⟨w0,hw0⟩ : ∃ w0,x.ws[0]?=some w0:=⟨_,List.getElem?_eq_getElem (by omega)⟩
  have hidx : idxAddrV 1 x.wv (.int .i64 0)=some (.ptr wo 0):=by
   rw [hwv]
   show (if 1=1∧(0 : Int)≤0∧(0 : Int).toNat < x.ws.length then some (AV.ptr wo (0 + (0 : Int).toNat * 1)) else none)=_
   rw [if_pos ⟨rfl,Int.le_refl _,by show 0 < x.ws.length; omega⟩]; rfl
  have hld : loadV h false 1 (.ptr wo 0)=some (.int .u64 (w0 : Int)):=load_at hwg (by simp [wcells,hw0])
  have nb : nilChkV (.ptr so (n * 4))=some (.ptr so (n * 4)):=rfl
  have fb : fieldAddrV 3 (.ptr so (n * 4))=some (.ptr so (n * 4 + 3)):=rfl
  simp only [ofV,vms,vmc,vA,vB,reduceCtorEq,vC,vD,show ((0 : Int) != 0)=false from rfl,hsp,nb,fb,l3,hwl,sr.len]
  by_cases hgt : sizeN x.cls < ws.length
  ·have d : decide (((ws.length : Nat) : Int) > ((sizeN x.cls : Nat) : Int))=true:=by rw [decide_eq_true_eq]; omega
   simp only [d,vms,vmc,vA,vB,reduceCtorEq,vC,vD]
   exact .inr ⟨n,x,hres,hx,.inl ⟨hgt,trivial,trivial⟩⟩
  ·have d : decide (((ws.length : Nat) : Int) > ((sizeN x.cls : Nat) : Int))=false:=by rw [decide_eq_false_iff_not]; omega
   simp only [d,vms,vmc,vA,vB,reduceCtorEq,vC,vD,hsp,nb,fb,l3,hidx,hld]
   by_cases hwas : (w0 : Int)=was
   ·have d2 : ((w0 : Int) != was)=false:=by simpa using hwas
    simp only [d2,vms,vmc,vA,vB,reduceCtorEq,vC,vD]
    have hf:=fill_ok k A hl hx sr hne hlt (by omega)
    rw [hsp] at hf
    refine Gives.bind (hf.mono ?_)
    rintro _ h2 hR
    simp only [vms,vmc,vA,vB,reduceCtorEq,vC,vD]
    exact .inr ⟨n,x,hres,hx,.inr (.inr ⟨by omega,by rw [hw0]; exact hwas,trivial,hR⟩)⟩
   ·have d2 : ((w0 : Int) != was)=true:=by simpa using hwas
    simp only [d2,vms,vmc,vA,vB,reduceCtorEq,vC,vD]
    exact .inr ⟨n,x,hres,hx,.inr (.inl ⟨by omega,by rw [hw0]; exact hwas,trivial,trivial⟩)⟩
end Go.Proofs.Ytagcnjhpdopkiaa
/- Arenas: Alloc,Free. -/
namespace Go.Proofs.Ytagcnjhpdopkiaa
open Go.Vm
open Go.Vm.AOpd renaming val → vA
open Nat renaming reduceEqDiff → vB,reduceAdd → vC,reduceBEq → vD
set_option linter.unusedSimpArgs false
set_option linter.unusedVariables false
variable {T : Vm.Prog} {h : AH}
theorem map_set_same {Q : List PR} {c : Nat} {q q' : PR} (hq : Q[c]?=some q) (e : q'.p=q.p) : ((Q.set c q').map fun q => AV.ptr q.p 0)=Q.map fun q => AV.ptr q.p 0:=by
 apply List.ext_getElem?
 intro i
 rw [List.getElem?_map,List.getElem?_map,List.getElem?_set]
 by_cases h1 : c=i
 ·subst h1
  have:=(List.getElem?_eq_some_iff.1 hq).1
  rw [if_pos rfl,if_pos this,hq]
  simp [e]
 ·rw [if_neg h1]
def Repooled (h : AH) (Q : List PR) (c : Nat) (q : PR) (L' : List Int) (q' : PR) : Prop:=q'.p=q.p∧q'.mo=q.mo∧q'.L=L'∧∀ o∈q'.foot,o∈q.foot∨h.next≤o
theorem Arena.pool {h' : AH} {a : Nat} {sv : AV} {S : List Slot} {Q : List PR} (A : Arena h a sv S Q) (hl : Low h) {c : Nat} {q : PR} (hq : Q[c]?=some q) {L' : List Int} (hp : PoolTo h q.p 1024 q.v q.mo L' h') :
  ∃ q',Repooled h Q c q L' q'∧Arena h' a sv S (Q.set c q')∧Only h h' q.foot∧Low h':=by
 obtain ⟨v',P,hv,on,lo⟩:=hp
 obtain ⟨l1,l2,l3,l4⟩:=A.low hl
 have hqm:=List.mem_of_getElem? hq
 have hfoot : ∀ o∈(PR.mk q.p v' q.mo L').foot,o∈q.foot∨h.next≤o:=by
  intro o ho
  simp only [PR.foot,foot,List.mem_cons] at ho ⊢
  rcases ho with h1 | h1 | h1
  ·exact .inl (.inl h1)
  ·exact .inl (.inr (.inl h1))
  ·rcases hv o h1 with h2 | h2
   ·exact .inl (.inr (.inr h2))
   ·exact .inr h2
 have hmem : ∀ r∈Q.set c ⟨q.p,v',q.mo,L'⟩,(∃ i,i≠c∧Q[i]?=some r)∨r=⟨q.p,v',q.mo,L'⟩:=by
  intro r hr
  obtain ⟨i,hi⟩:=List.getElem?_of_mem hr
  rw [List.getElem?_set] at hi
  by_cases e : c=i
  ·subst e
   rw [if_pos rfl] at hi
   split at hi
   ·cases hi; exact .inr rfl
   ·cases hi
  ·rw [if_neg e] at hi
   exact .inl ⟨i,Ne.symm e,hi⟩
 have hkeep : ∀ o,o < h.next→o∉q.foot→h'.get o=h.get o:=fun o h1 h2 => on.2 o h1 h2
 refine ⟨⟨q.p,v',q.mo,L'⟩,⟨rfl,rfl,rfl,hfoot⟩,?_,on,lo⟩
 refine ⟨?_,by simpa using A.five,A.slots.keep fun o ho => hkeep o (l2 o ho) ((A.aside.2 q hqm).2 o ho),fun s hs => (A.words s hs).keep fun o ho => hkeep o (l4 s hs o ho) ((A.own s hs o ho).2.2 q hqm),?_,?_,?_,?_,A.kinds,A.small⟩
 ·rw [hkeep a l1 (A.aside.2 q hqm).1,A.obj,map_set_same (q':=⟨q.p,v',q.mo,L'⟩) hq rfl,List.length_set]
 ·intro s hs o ho
  refine ⟨(A.own s hs o ho).1,(A.own s hs o ho).2.1,fun r hr => ?_⟩
  rcases hmem r hr with ⟨i,_,hi⟩ | rfl
  ·exact (A.own s hs o ho).2.2 r (List.mem_of_getElem? hi)
  ·intro h5
   rcases hfoot o h5 with h6 | h6
   ·exact (A.own s hs o ho).2.2 q hqm h6
   ·have:=l4 s hs o ho; omega
 ·intro r hr
  rcases hmem r hr with ⟨i,hic,hi⟩ | rfl
  ·exact (A.pools r (List.mem_of_getElem? hi)).keep fun o ho => hkeep o (l3 r (List.mem_of_getElem? hi) o ho) (A.apart i c r q hic hi hq o ho)
  ·exact P
 ·refine ⟨A.aside.1,fun r hr => ?_⟩
  rcases hmem r hr with ⟨i,_,hi⟩ | rfl
  ·exact A.aside.2 r (List.mem_of_getElem? hi)
  ·refine ⟨fun h5 => ?_,fun o ho h5 => ?_⟩
   ·rcases hfoot a h5 with h6 | h6
    ·exact (A.aside.2 q hqm).1 h6
    ·omega
   ·rcases hfoot o h5 with h6 | h6
    ·exact (A.aside.2 q hqm).2 o ho h6
    ·have:=l2 o ho; omega
 ·intro i j r t hij hi hj o ho
  rw [List.getElem?_set] at hi hj
  by_cases e1 : c=i
  ·subst e1
   rw [if_neg hij] at hj
   rw [if_pos rfl] at hi
   split at hi
   ·cases hi
    intro h5
    rcases hfoot o ho with h6 | h6
    ·exact A.apart c j q t hij hq hj o h6 h5
    ·have:=l3 t (List.mem_of_getElem? hj) o h5; omega
   ·cases hi
  ·rw [if_neg e1] at hi
   by_cases e2 : c=j
   ·subst e2
    rw [if_pos rfl] at hj
    split at hj
    ·cases hj
     intro h5
     rcases hfoot o h5 with h6 | h6
     ·exact A.apart i c r q hij hi hq o ho h6
     ·have:=l3 r (List.mem_of_getElem? hi) o ho; omega
    ·cases hj
   ·rw [if_neg e2] at hj
    exact A.apart i j r t hij hi hj o ho
def Alloced (h : AH) (a : Nat) (sv : AV) (S : List Slot) (Q : List PR) (c : Nat) (q : PR) (ws : List Nat) (r : AV) (h' : AH) : Prop :=
 (q.L=[]∧r = .tuple [.int .i64 0,.int .i64 2]∧∃ q',Repooled h Q c q [] q'∧Arena h' a sv S (Q.set c q')) ∨
 (∃ n x L' q' w,S[n]?=some x∧(((n : Nat) : Int) :: L').Perm q.L∧(∀ y∈q.L,((n : Nat) : Int)≤y)∧r = .tuple [.int .i64 (refN n x.gen (c == 0) : Nat),.int .i64 0]∧Repooled h Q c q L' q' ∧
  Arena h' a sv (S.set n { x with live:=true,ws:=padW ws (sizeN c),wv:=w }) (Q.set c q')∧∀ o∈objs w,h.next≤o)
theorem alloc_ok (k : Fits T) {a : Nat} {sv : AV} {S : List Slot} {Q : List PR} (A : Arena h a sv S Q) (hl : Low h) {c : Nat} (hc : c < 5) {q : PR} (hq : Q[c]?=some q) {v : AV} {ws : List Nat} (sr : Src h v ws) (hne : ∀ o∈objs v,o∉objs sv∧o∉q.foot) (hlt : ∀ o∈objs v,o < h.next) (hw : ws.length≤sizeN c)
  (hfree : ∀ y∈q.L,∃ (n : Nat) (x : Slot),y=n∧S[n]?=some x∧x.cls=c∧Valid n x.gen) :
  Gives T 29 [.ptr a 0,.int .i64 (c : Int),v] h fun r h' => Alloced h a sv S Q c q ws r h'∧Only h h' (objs sv ++ q.foot)∧Low h':=by
 refine gives_func (k.env _ (by decide)) (k.at (fn:=a29) rfl) rfl ?_
 have hN:=sizeN_le c
 have d1 : decide ((c : Int) < 0)=false:=by rw [decide_eq_false_iff_not]; omega
 have d2 : decide ((c : Int) ≥ 5)=false:=by rw [decide_eq_false_iff_not]; omega
 have d3 : decide (((ws.length : Nat) : Int) > ((sizeN c : Nat) : Int))=false:=by rw [decide_eq_false_iff_not]; omega
 have nb : nilChkV (.ptr a 0)=some (.ptr a 0):=rfl
 have fa0 : fieldAddrV 0 (.ptr a 0)=some (.ptr a 0):=rfl
 have fa1 : fieldAddrV 1 (.ptr a 0)=some (.ptr a 1):=rfl
 simp only [a29,c29,vms,vmc,vA,vB,reduceCtorEq,vC,vD,d1,d2,sr.len]
 refine Gives.bind ((size_ok k hc).mono ?_)
 rintro _ _ ⟨rfl,rfl⟩
 rename_i h
 simp only [vms,vmc,vA,vB,reduceCtorEq,vC,vD,d3,nb,fa1,idxRow_nat hc,A.pool_load hq]
 have hP:=A.pools q (List.mem_of_getElem? hq)
 refine Gives.bind ((take_ok k hP hl (by have:=hP.count; omega)).mono ?_)
 rintro _ h1 (⟨hnil,rfl,hto⟩ | ⟨y,L',rfl,hperm,hleast,hto⟩)
 ·obtain ⟨q',hrep,A',on,lo⟩:=A.pool hl hq hto
  simp only [vms,vmc,vA,vB,reduceCtorEq,vC,vD]
  refine ⟨.inl ⟨hnil,rfl,q',by rw [hnil] at hrep; exact hrep,A'⟩,⟨on.1,fun o ho hF => on.2 o ho fun h5 => hF (by simp [h5])⟩,lo⟩
 ·obtain ⟨q',hrep,A',on,lo⟩:=A.pool hl hq hto
  obtain ⟨n,x,rfl,hx,hcls,hv⟩:=hfree y (hperm.mem_iff.1 (by simp))
  obtain ⟨l1,l2,l3,l4⟩:=A.low hl
  have hn:=(List.getElem?_eq_some_iff.1 hx).1
  obtain ⟨so,ho,hi,e0,e1,e2,e3⟩:=A'.slots.at hx
  obtain ⟨k1,k2,k3⟩:=A'.kinds x (List.mem_of_getElem? hx)
  have nbs : nilChkV (.ptr so (n * 4))=some (.ptr so (n * 4)):=rfl
  have fbs : ∀ j,fieldAddrV j (.ptr so (n * 4))=some (.ptr so (n * 4 + j)):=fun j => rfl
  have hsol : so < h.next:=l2 so (by rw [ho]; simp)
  obtain ⟨h2,st2,u2,A2⟩:=A'.setCell (j:=2) (y:={ x with live:=true }) (v := .bool true) hx ho (by decide) rfl rfl rfl (A'.words x (List.mem_of_getElem? hx)) (A'.own x (List.mem_of_getElem? hx)) ⟨k1,k2,k3⟩
  have lo2 : Low h2:=lo.upd u2 (by have:=on.1; omega)
  have hx2 : (S.set n { x with live:=true })[n]?=some { x with live:=true }:=by rw [List.getElem?_set,if_pos rfl,if_pos hn]
  have sr2 : Src h2 v ws:=sr.keep fun o hoo => by
   rw [u2.2 o (fun e => (hne o hoo).1 (by rw [ho,e]; simp)),on.2 o (hlt o hoo) (hne o hoo).2]
  have hsp : slotPtr sv n = .ptr so (n * 4):=(slotPtr_at A' hx).elim fun so' hs' => by
   have:=hs'.1; rw [ho] at this; simp only [List.cons.injEq,and_true] at this; subst this; exact hs'.2.1
  simp only [vms,vmc,vA,vB,reduceCtorEq,vC,vD,nb,fa0,A'.sv_load,hi,nbs,fbs,st2]
  have hf:=fill_ok k A2 lo2 hx2 sr2 (fun o hoo => (hne o hoo).1) (fun o hoo => by have:=hlt o hoo; have:=on.1; rw [u2.1]; omega) (show ws.length≤sizeN x.cls by rw [hcls]; exact hw)
  rw [hsp] at hf
  refine Gives.bind (hf.mono ?_)
  rintro _ h3 ⟨w,A3,hw3,on3,lo3⟩
  rw [List.set_set] at A3
  have hx3 : (S.set n { x with live:=true,ws:=padW ws (sizeN x.cls),wv:=w })[n]?=some { x with live:=true,ws:=padW ws (sizeN x.cls),wv:=w }:=by rw [List.getElem?_set,if_pos rfl,if_pos hn]
  obtain ⟨so3,ho3,_,_,g1,_,_⟩:=A3.slots.at hx3
  have hso3 : so3=so:=by rw [ho] at ho3; simp only [List.cons.injEq,and_true] at ho3; exact ho3.symm
  rw [hso3] at g1
  have hc0 : (((c : Nat) : Int) == 0)=(c == 0):=by rw [Bool.eq_iff_iff]; simp
  simp only [vms,vmc,vA,vB,reduceCtorEq,vC,vD,nbs,fbs,g1,hc0]
  refine Gives.bind ((ref_ok k (l:=(c == 0)) hv).mono ?_)
  rintro _ _ ⟨rfl,rfl⟩
  simp only [vms,vmc,vA,vB,reduceCtorEq,vC,vD]
  refine ⟨.inr ⟨n,x,L',q',w,hx,hperm,hleast,rfl,hrep,by rw [← hcls]; exact hcls ▸ A3,fun o hoo => ?_⟩,?_,lo3⟩
  ·have:=hw3 o hoo; have:=on.1; rw [u2.1] at *; omega
  ·refine ⟨by have:=on3.1; have:=on.1; rw [u2.1] at *; omega,fun o h5 h6 => ?_⟩
   simp only [List.mem_append,not_or] at h6
   rw [on3.2 o (by rw [u2.1]; have:=on.1; omega) h6.1,u2.2 o (fun e => h6.1 (by rw [ho,e]; simp)),on.2 o h5 h6.2]
end Go.Proofs.Ytagcnjhpdopkiaa

/- Poison, to the last cell. -/
import Derived.Test.YtakgcpmemalmaaaGreatDoorP24P
namespace Go.Proofs.YtakgcpmemalmaaaGreatDoor
open Go.Vm
open Go.RowKit
set_option linter.unusedSimpArgs false
set_option linter.unusedVariables false
set_option maxRecDepth 100000
variable {T : Vm.Prog} {h : AH}
def sizeN : Nat→Nat
 | 0 => 8 | 1 => 12 | 2 => 24 | 3 => 88 | 4 => 264 | _ => 0
theorem sizeN_le (c : Nat) : sizeN c≤264:=by unfold sizeN; split <;> omega
theorem size_ok (k : Fits T) {c : Nat} (hc : c < 5) : Gives T 125 [.int .i64 (c : Int)] h fun r h' => r = .int .i64 (sizeN c : Nat)∧h'=h:=by
 refine gives_func (k.env _ (by decide)) (k.at (fn:=a125) rfl) rfl ?_
 have : c=0∨c=1∨c=2∨c=3∨c=4:=by omega
 rcases this with rfl | rfl | rfl | rfl | rfl
 ·simp only [a125,c125,vms,vmc,AOpd.val,Nat.reduceEqDiff,reduceCtorEq,Nat.reduceAdd,Nat.reduceBEq,show (((0 : Nat) : Int) == 0)=true from rfl]; exact ⟨rfl,trivial⟩
 ·simp only [a125,c125,vms,vmc,AOpd.val,Nat.reduceEqDiff,reduceCtorEq,Nat.reduceAdd,Nat.reduceBEq,show (((1 : Nat) : Int) == 0)=false from rfl,show (((1 : Nat) : Int) == 1)=true from rfl]; exact ⟨rfl,trivial⟩
 ·simp only [a125,c125,vms,vmc,AOpd.val,Nat.reduceEqDiff,reduceCtorEq,Nat.reduceAdd,Nat.reduceBEq,show (((2 : Nat) : Int) == 0)=false from rfl,show (((2 : Nat) : Int) == 1)=false from rfl,show (((2 : Nat) : Int) == 2)=true from rfl]; exact ⟨rfl,trivial⟩
 ·simp only [a125,c125,vms,vmc,AOpd.val,Nat.reduceEqDiff,reduceCtorEq,Nat.reduceAdd,Nat.reduceBEq,show (((3 : Nat) : Int) == 0)=false from rfl,show (((3 : Nat) : Int) == 1)=false from rfl,show (((3 : Nat) : Int) == 2)=false from rfl,show (((3 : Nat) : Int) == 3)=true from rfl]; exact ⟨rfl,trivial⟩
 ·simp only [a125,c125,vms,vmc,AOpd.val,Nat.reduceEqDiff,reduceCtorEq,Nat.reduceAdd,Nat.reduceBEq,show (((4 : Nat) : Int) == 0)=false from rfl,show (((4 : Nat) : Int) == 1)=false from rfl,show (((4 : Nat) : Int) == 2)=false from rfl,show (((4 : Nat) : Int) == 3)=false from rfl,show (((4 : Nat) : Int) == 4)=true from rfl]; exact ⟨rfl,trivial⟩
def poisonN : Nat:=16045690984833335023
def wcells (ws : List Nat) : List AV:=ws.map fun (n : Nat) => .int .u64 (n : Int)
theorem wcells_len (ws : List Nat) : (wcells ws).length=ws.length:=by simp [wcells]
theorem wcells_flat (ws : List Nat) : (wcells ws).all AV.flat=true:=by
 simp only [wcells,List.all_eq_true,List.mem_map]
 rintro x ⟨n,_,rfl⟩; rfl
def Words (h : AH) (v : AV) (ws : List Nat) : Prop:=∃ o,v = .slice o 0 1 ws.length ws.length true∧h.get o=some (.cells (wcells ws) true)
def MulOk (T : Vm.Prog) : Prop:=∀ (c : Nat) (h : AH),c < 5→Gives T 224 [.int .u64 1,.int .u64 (sizeN c : Nat)] h fun r h' => r = .tuple [.int .u64 0,.int .u64 (sizeN c : Nat)]∧h'=h
theorem mul_at {n : Int} (e : ∀ h,arunE T1 100 224 [.int .u64 1,.int .u64 n] h=some (.tuple [.int .u64 0,.int .u64 n],h)) : Gives T1 224 [.int .u64 1,.int .u64 n] h fun r h' => r = .tuple [.int .u64 0,.int .u64 n]∧h'=h :=
 ⟨_,_,run_iff.2 ⟨100,by rw [← arunE_eq]; exact e h⟩,rfl,rfl⟩
theorem mul1 : MulOk T1:=by
 intro c h hc
 have : c=0∨c=1∨c=2∨c=3∨c=4:=by omega
 rcases this with rfl | rfl | rfl | rfl | rfl
 ·exact mul_at (n:=8) fun h => by kernel_rfl
 ·exact mul_at (n:=12) fun h => by kernel_rfl
 ·exact mul_at (n:=24) fun h => by kernel_rfl
 ·exact mul_at (n:=88) fun h => by kernel_rfl
 ·exact mul_at (n:=264) fun h => by kernel_rfl
theorem repeat_ok (k : Fits T) (km : MulOk T) {c o : Nat} {x : Nat} (hc : c < 5) (hl : Low h) (hg : h.get o=some (.cells [.int .u64 (x : Int)] true)) :
  Gives T 176 [.slice o 0 1 1 1 true,.int .i64 (sizeN c : Nat)] h fun r h' => r = .slice h.next 0 1 (sizeN c) (sizeN c) true∧h'.get h.next=some (.cells (wcells (List.replicate (sizeN c) x)) true)∧Only h h' []∧Low h'∧h'.next=h.next + 1:=by
 refine gives_func (k.env _ (by decide)) (k.at (fn:=a176) rfl) rfl ?_
 have hN:=sizeN_le c
 have hN1 : 8≤sizeN c:=by
  have : c=0∨c=1∨c=2∨c=3∨c=4:=by omega
  rcases this with rfl | rfl | rfl | rfl | rfl <;> decide
 have hol : o < h.next:=hl _ _ hg
 generalize hNe : sizeN c=N at hN hN1
 have d0 : decide ((N : Int) < 0)=false:=by rw [decide_eq_false_iff_not]; omega
 have w1 : IntKind.u64.wrap ((1 : Nat) : Int)=1:=by decide
 have w2 : IntKind.u64.wrap (N : Int)=(N : Int):=wrap_u64 (by omega)
 simp only [a176,c176,vms,vmc,AOpd.val,Nat.reduceEqDiff,reduceCtorEq,Nat.reduceAdd,Nat.reduceBEq,d0,w1,w2]
 have hm:=km c h hc
 rw [hNe] at hm
 refine Gives.bind (hm.mono ?_)
 rintro _ _ ⟨rfl,rfl⟩
 rename_i h
 have d1 : decide ((0 : Int) > 0)=false:=by decide
 have d2 : decide ((N : Int) > 9223372036854775807)=false:=by rw [decide_eq_false_iff_not]; omega
 have w3 : IntKind.i64.wrap (N : Int)=(N : Int):=wrap_i64n (by omega)
 have hg1 : (h.new (.cells (List.replicate N (AV.int .u64 0)) true)).get o=some (.cells [.int .u64 (x : Int)] true):=by rw [AH.get_new,if_neg (by omega)]; exact hg
 have hcp : copyV 1 (h.new (.cells (List.replicate N (AV.int .u64 0)) true)) (.slice h.next 0 1 N N true) (.slice o 0 1 1 1 true)=some (.int .i64 (1 : Nat),(h.new (.cells (List.replicate N (AV.int .u64 0)) true)).set h.next (.cells (setMany (List.replicate N (AV.int .u64 0)) 0 [.int .u64 (x : Int)]) true)):=by
  simp only [copyV,len_slice,Option.bind_some,Nat.min_eq_left (show 1≤N by omega),AH.elems,AH.load,hg1]
  simp only [true_and,Nat.le_refl,if_true,List.length_cons,List.length_nil,Nat.zero_add,Nat.mul_one,List.drop_zero,List.take_succ_cons,List.take_zero,Option.bind_some,List.isEmpty_cons,Bool.false_eq_true,if_false,AH.store,get_new_same]
  rw [if_pos ⟨by simp; omega,rfl⟩]; rfl
 simp only [vms,vmc,AOpd.val,Nat.reduceEqDiff,reduceCtorEq,Nat.reduceAdd,Nat.reduceBEq,d1,d2,w3,mkSlice_nat (h:=h) (sz:=1) (bytes:=8) (zero:=[.int .u64 0]) (k := .i64) (k' := .i64) (Nat.le_refl N) (by omega) (by omega),rep_one,hcp]
 refine wpc_loop (fun q f h' => ∃ n,q=N - n∧1≤n∧n≤N∧Only h h' []∧Low h'∧h'.next=h.next + 1∧f.at 7 = .slice h.next 0 1 N N true∧f.at 8 = .int .i64 (n : Nat)∧∃ l,h'.get h.next=some (.cells l true)∧l.length=N∧∀ j,j < n→l[j]?=some (AV.int .u64 (x : Int))) ?_ (N - 1) _ _ ⟨1,rfl,Nat.le_refl _,by omega,((Only.refl h []).new _).set (.inr (Nat.le_refl _)) _,(hl.new _).set (by rw [next_new]; omega) _,rfl,?_⟩
 ·rintro q f h' ⟨n,rfl,h1,h2,on,low,nx,h7,h8,l,hg,hll,hpre⟩
  simp only [c176l0,vms,vmc,AOpd.val,Nat.reduceEqDiff,reduceCtorEq,Nat.reduceAdd,Nat.reduceBEq,h7,h8]
  by_cases hlt : n < N
  ·have hd : decide ((n : Int) < (N : Int))=true:=by rw [decide_eq_true_eq]; omega
   obtain ⟨m,hm⟩ : ∃ m,min n (N - n)=m:=⟨_,rfl⟩
   have hm1 : 1≤m∧m≤n∧n + m≤N:=by omega
   have htk : l.take m=List.replicate m (AV.int .u64 (x : Int)):=by
    apply List.ext_getElem?
    intro j
    rw [List.getElem?_take]
    by_cases hj : j < m
    ·rw [if_pos hj,hpre j (by omega)]; simp [hj]
    ·rw [if_neg hj,List.getElem?_eq_none (by simp; omega)]
   have hcp2 : copyV 1 h' (.slice h.next n 1 (N - n) (N - n) true) (.slice h.next 0 1 n N true)=some (.int .i64 (m : Nat),h'.set h.next (.cells (setMany l n (List.replicate m (AV.int .u64 (x : Int)))) true)):=by
    simp only [copyV,len_slice,Option.bind_some,hm,AH.elems,AH.load,hg]
    simp only [true_and,if_true,Nat.zero_add,Nat.mul_one,List.drop_zero,htk,hm1.2.1]
    rw [if_pos (by omega)]
    have he : (List.replicate m (AV.int .u64 (x : Int))).isEmpty=false:=by
     obtain ⟨m',rfl⟩ : ∃ m',m=m' + 1:=⟨m - 1,by omega⟩
     rfl
    simp only [Option.bind_some,he,Bool.false_eq_true,if_false,AH.store,hg]
    rw [if_pos ⟨by simp; omega,by simp [AV.flat]⟩]; rfl
   have w4 : IntKind.i64.wrap ((n : Int) + (m : Int))=((n + m : Nat) : Int):=by rw [wrap_i64 (by omega) (by omega)]; omega
   simp only [hd,vms,vmc,AOpd.val,Nat.reduceEqDiff,reduceCtorEq,Nat.reduceAdd,Nat.reduceBEq,h7,h8,slc_from (show n≤N by omega) hlt,slc_to0 (show n≤N by omega),hcp2,w4]
   obtain ⟨s1,s2⟩:=setMany_get l (List.replicate m (AV.int .u64 (x : Int))) n
   obtain ⟨s3,s4,_⟩:=s2 (by simp; omega)
   refine ⟨N - (n + m),by omega,n + m,rfl,by omega,by omega,on.set (.inr (Nat.le_refl _)) _,low.set (by omega) _,nx,trivial,rfl,_,get_set_same,by rw [s1]; exact hll,?_⟩
   intro j hj
   by_cases hjn : j < n
   ·rw [s3 j hjn]; exact hpre j hjn
   ·have:=s4 (j - n) (AV.int .u64 (x : Int)) (show (List.replicate m (AV.int .u64 (x : Int)))[j - n]?=some (AV.int .u64 (x : Int)) by rw [List.getElem?_replicate,if_pos (by omega)])
    rw [show n + (j - n)=j by omega] at this; exact this
  ·have hd : decide ((n : Int) < (N : Int))=false:=by rw [decide_eq_false_iff_not]; omega
   have : n=N:=by omega
   subst this
   simp only [hd,vms,vmc,AOpd.val,Nat.reduceEqDiff,reduceCtorEq,Nat.reduceAdd,Nat.reduceBEq,h7]
   refine ⟨trivial,?_,on,low,nx⟩
   have hl2 : l=wcells (List.replicate n x):=by
    apply List.ext_getElem?
    intro j
    by_cases hj : j < n
    ·rw [hpre j hj]; simp [wcells,hj]
    ·rw [List.getElem?_eq_none (by omega),List.getElem?_eq_none (by rw [wcells_len]; simp; omega)]
   rw [hg,hl2]
 ·simp only [vms,vmc,AOpd.val,Nat.reduceEqDiff,reduceCtorEq,Nat.reduceAdd,Nat.reduceBEq]
  obtain ⟨s1,s2⟩:=setMany_get (List.replicate N (AV.int .u64 0)) [.int .u64 (x : Int)] 0
  obtain ⟨s3,s4,_⟩:=s2 (by simp; omega)
  refine ⟨trivial,trivial,_,get_set_same,by rw [s1]; simp,?_⟩
  intro j hj
  have : j=0:=by omega
  subst this
  exact s4 0 _ rfl
theorem poison_ok (k : Fits T) (km : MulOk T) {c : Nat} (hc : c < 5) (hl : Low h) :
  Gives T 124 [.int .i64 (c : Int)] h fun r h' => Words h' r (List.replicate (sizeN c) poisonN)∧(∀ o∈objs r,h.next≤o)∧Only h h' []∧Low h':=by
 refine gives_func (k.env _ (by decide)) (k.at (fn:=a124) rfl) rfl ?_
 have hb : fillV [AV.int .u64 0] [(0,1,AV.int .u64 16045690984833335023)]=some [.int .u64 16045690984833335023]:=by simp [fillV,AV.isDef,AV.cells,setMany]
 simp only [a124,c124,vms,vmc,AOpd.val,Nat.reduceEqDiff,reduceCtorEq,Nat.reduceAdd,Nat.reduceBEq,hb]
 refine Gives.bind ((size_ok k hc).mono ?_)
 rintro _ _ ⟨rfl,rfl⟩
 simp only [vms,vmc,AOpd.val,Nat.reduceEqDiff,reduceCtorEq,Nat.reduceAdd,Nat.reduceBEq]
 refine Gives.bind ((repeat_ok (x:=poisonN) k km hc (hl.new _) get_new_same).mono ?_)
 rintro _ h2 ⟨rfl,g2,on2,low2,nx2⟩
 simp only [vms,vmc,AOpd.val,Nat.reduceEqDiff,reduceCtorEq,Nat.reduceAdd,Nat.reduceBEq]
 refine ⟨⟨_,by simp,g2⟩,?_,?_,low2⟩
 ·intro o ho; simp [objs] at ho; subst ho; rw [next_new]; omega
 ·exact ((Only.refl h []).new _).trans on2 (fun o ho => by simp at ho)
end Go.Proofs.YtakgcpmemalmaaaGreatDoor

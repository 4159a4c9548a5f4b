/- DocsErrors: the calls that have something drawn in them. -/
import Derived.Test.YtakgcpmemalmaaaGreatDoorP24X
import Derived.Test.YtakgcpmemalmaaaGreatDoorVmZy
namespace Go.Proofs.YtakgcpmemalmaaaGreatDoor
open Go.Vm
open Go.Vm.AOpd renaming val → vA
open Nat renaming reduceEqDiff → vB,reduceAdd → vC,reduceBEq → vD
open Go.RowKit
set_option linter.unusedSimpArgs false
set_option linter.unusedVariables false
set_option maxRecDepth 100000
abbrev Txt:=List UInt8
variable {h : AH}
theorem long63 {s : Txt} (hs : 512 < s.length) : rL Td rf63 [.str s] h=some (.tuple [.nilSlice,.int .i64 11],h):=by
 have hT : (withEnv Td 63 (rL Td rf63)).env 63=some (rL Td rf63):=rfl
 have H : Gives (withEnv Td 63 (rL Td rf63)) 63 [.str s] h fun r h' => r = .tuple [.nilSlice,.int .i64 11]∧h'=h:=by
  refine rL_gives hT rfl ?_
  have d : decide (((s.length : Nat) : Int) > 512)=true:=by rw [decide_eq_true_eq]; omega
  simp only [rf63,r63]
  refine wr_seq (wr_base.2 ?_)
  simp only [vms,vmc,vA,vB,reduceCtorEq,vC,vD]
  refine wr_seq (wr_base.2 ?_)
  simp only [vms,vmc,vA,vB,reduceCtorEq,vC,vD,d]
  exact ⟨trivial,trivial⟩
 obtain ⟨r,h',hr,rfl,rfl⟩:=H
 rw [run_env hT] at hr
 exact hr
noncomputable def e63 : List AV→AH→Option (AV×AH)
 | [.str s],h => if 512 < s.length then some (.tuple [.nilSlice,.int .i64 11],h) else rK Td 1000 rf63 [.str s] h
 | _,_ => none
theorem e63_ok : ∀ args h r h',e63 args h=some (r,h')→CSim Tryz.prog 63 args h r h':=by
 intro args h r h' e
 unfold e63 at e
 split at e
 ·rename_i s
  split at e
  ·rename_i hs
   cases e
   exact rL_ok Td_ok (fn:=Tryz.f63) Tryz.func63 kr63 _ _ _ _ (long63 hs)
  ·exact rK_ok Td_ok 1000 (fn:=Tryz.f63) Tryz.func63 kr63 _ _ _ _ e
 ·cases e
theorem e63_str {s : Txt} : e63 [.str s] h=if 512 < s.length then some (.tuple [.nilSlice,.int .i64 11],h) else rK Td 1000 rf63 [.str s] h:=rfl
noncomputable def Tm : Vm.Prog:=withEnv Td 63 e63
theorem Tm_ok : TabOk Tryz.prog Tm:=withEnv_ok Td_ok e63_ok
theorem tm_at {n : Nat} {fn : AFunc} (h : table n=some fn) : Tm.func n=some fn:=h
theorem terms_long {s : Txt} (hs : 512 < s.length) : Gives Tm 63 [.str s] h fun r h' => r = .tuple [.nilSlice,.int .i64 11]∧h'=h :=
 ⟨_,_,(run_env (e:=e63) rfl).trans (by rw [e63_str,if_pos hs]),rfl,rfl⟩
def quietB (h h' : AH) : Bool:=Nat.ble h.next h'.next && (List.range h.next).all fun o => match h.get o,h'.get o with
 | some a,some b => beqO a b
 | none,none => true
 | _,_ => false
theorem quietB_only {h h' : AH} (e : quietB h h'=true) : Only h h' []:=by
 unfold quietB at e
 rw [Bool.and_eq_true] at e
 refine ⟨Nat.le_of_ble_eq_true e.1,fun q hq _ => ?_⟩
 have hb:=List.all_eq_true.1 e.2 q (List.mem_range.2 hq)
 cases h1 : h.get q with
 | none =>
  cases h2 : h'.get q with
  | none => rfl
  | some b => rw [h1,h2] at hb; cases hb
 | some a =>
  cases h2 : h'.get q with
  | none => rw [h1,h2] at hb; cases hb
  | some b => rw [h1,h2] at hb; rw [eq_of_beqO hb]
theorem x63 : (match rK Td 1000 rf63 [.str [120]] hB43 with
  | some (.tuple [.slice o off sz l c ex,.int .i64 e],h') => Nat.beq l 1 && decide (e=0) && quietB hB43 h'
  | _ => false)=true:=by kernel_rfl
theorem terms_x : Gives Tm 63 [.str [120]] hB43 fun r h' => (∃ v,r = .tuple [v,.int .i64 0])∧Only hB43 h' []:=by
 have hx:=x63
 split at hx
 ·rename_i o off sz l c ex e h' hr
  simp only [Bool.and_eq_true,decide_eq_true_eq] at hx
  obtain ⟨⟨_,rfl⟩,hq⟩:=hx
  exact ⟨_,h',(run_env (e:=e63) rfl).trans (by rw [e63_str,if_neg (by decide)]; exact hr),⟨_,rfl⟩,quietB_only hq⟩
 ·cases hx
theorem words_bad {id : Int} {s : Txt} (hid : id < 0∨1073741824 < id) : Gives Tm 48 [.int .i64 id,.str s] h fun r h' => r = .tuple [.nilSlice,.int .i64 1]∧h'=h:=by
 refine gives_func rfl (tm_at (fn:=a48) rfl) rfl ?_
 rcases hid with h1 | h1
 ·have d1 : decide (id < 0)=true:=by simpa using h1
  simp only [a48,c48,vms,vmc,vA,vB,reduceCtorEq,vC,vD,d1]
  exact ⟨trivial,trivial⟩
 ·have d1 : decide (id < 0)=false:=by rw [decide_eq_false_iff_not]; omega
  have d2 : decide (id > 1073741824)=true:=by rw [decide_eq_true_eq]; omega
  simp only [a48,c48,vms,vmc,vA,vB,reduceCtorEq,vC,vD,d1,d2]
  exact ⟨trivial,trivial⟩
theorem words_of {id : Int} {s : Txt} {Q : AV→AH→Prop} (h1 : 0≤id) (h2 : id≤1073741824) (H : Gives Tm 63 [.str s] h fun r h' => ∃ v e,r = .tuple [v,e]∧Q (.tuple [v,e]) h') : Gives Tm 48 [.int .i64 id,.str s] h Q:=by
 refine gives_func rfl (tm_at (fn:=a48) rfl) rfl ?_
 have d1 : decide (id < 0)=false:=by rw [decide_eq_false_iff_not]; omega
 have d2 : decide (id > 1073741824)=false:=by rw [decide_eq_false_iff_not]; omega
 simp only [a48,c48,vms,vmc,vA,vB,reduceCtorEq,vC,vD,d1,d2]
 refine Gives.bind (H.mono ?_)
 rintro _ h' ⟨v,e,rfl,hq⟩
 simp only [vms,vmc,vA,vB,reduceCtorEq,vC,vD]
 exact hq
theorem words_long {id : Int} {s : Txt} (h1 : 0≤id) (h2 : id≤1073741824) (hs : 512 < s.length) : Gives Tm 48 [.int .i64 id,.str s] h fun r h' => r = .tuple [.nilSlice,.int .i64 11]∧h'=h :=
 words_of h1 h2 ((terms_long hs).mono fun r h' ⟨e1,e2⟩ => ⟨_,_,e1,rfl,e2⟩)
theorem words_x {id : Int} (h1 : 0≤id) (h2 : id≤1073741824) : Gives Tm 48 [.int .i64 id,.str [120]] hB43 fun r h' => (∃ v,r = .tuple [v,.int .i64 0])∧Only hB43 h' [] :=
 words_of h1 h2 (terms_x.mono fun r h' ⟨⟨v,e1⟩,e2⟩ => ⟨_,_,e1,⟨v,rfl⟩,e2⟩)
def docC : List AV:=[I 7,.str [115,101,118,101,110,32,117,112]]
def ixC : List AV:=[I 300,I 220,I 120,I 60,I 2,I 1,I 32,I 2,.ptr 21 0,.slice 34 0 2 1 1 false,.map 22,.ptr 25 0]
structure OneDoc (h : AH) : Prop where
 ix : h.get 23=some (.cells ixC true)
 doc : h.get 34=some (.cells docC true)
 next : 35≤h.next
theorem OneDoc.keep {h' : AH} (d : OneDoc h) (on : Only h h' []) : OneDoc h' :=
 ⟨(on.2 23 (by have:=d.next; omega) (by simp)).trans d.ix,(on.2 34 (by have:=d.next; omega) (by simp)).trans d.doc,by have:=d.next; have:=on.1; omega⟩
theorem one43 : OneDoc hB43:=⟨rfl,rfl,by decide⟩
theorem cmp_one {id : Int} (h1 : -4611686018427387904≤id) (h2 : id≤4611686018427387904) : Gives Tm 89 [.agg docC,.int .i64 id] h fun r h' => r = .int .i64 (7 - id)∧Only h h' []:=by
 refine gives_func rfl (tm_at (fn:=a89) rfl) rfl ?_
 have fa : fieldAddrV 0 (.ptr h.next 0)=some (.ptr h.next 0):=rfl
 have ld : loadV (h.new (.cells docC true)) false 1 (.ptr h.next 0)=some (I 7):=load_at get_new_same rfl
 have w : IntKind.i64.wrap (7 - id)=7 - id:=by rw [wrap_i64 (by omega) (by omega)]
 simp only [a89,c89,vms,vmc,vA,vB,reduceCtorEq,vC,vD,box_agg,fa,ld,w]
 exact ⟨trivial,Only.new (Only.refl _ _) _⟩
theorem bs_one {id : Int} (d : OneDoc h) (h1 : -4611686018427387904≤id) (h2 : id≤4611686018427387904) (h7 : id≠7) :
  Gives Tm 88 [.slice 34 0 2 1 1 false,.int .i64 id,.func (.func 89) [] []] h fun r h' => (∃ i,r = .tuple [i,.bool false])∧Only h h' []:=by
 refine gives_func rfl (tm_at (fn:=a88) rfl) rfl ?_
 have ln : lenOfV (.slice 34 0 2 1 1 false)=some 1:=rfl
 have ia : idxAddrV 2 (.slice 34 0 2 1 1 false) (.int .i64 0)=some (.ptr 34 0):=rfl
 have ldoc : ∀ {g : AH},Only h g []→loadV g true 2 (.ptr 34 0)=some (.agg docC):=fun on => load_all (d.keep on).doc rfl
 simp only [a88,c88,vms,vmc,vA,vB,reduceCtorEq,vC,vD,ln]
 refine wpc_loop (fun m f h' => ∃ i j : Int,((m=1∧i=0∧j=1)∨(m=0∧i=0∧j=0)∨(m=0∧i=1∧j=1))∧Only h h' []∧f.at 0 = .slice 34 0 2 1 1 false∧f.at 1 = .int .i64 id∧f.at 2 = .func (.func 89) [] []∧f.at 8 = .int .i64 1∧f.at 9 = .int .i64 i∧f.at 10 = .int .i64 j) ?_ 1 _ _ ⟨0,1,.inl ⟨rfl,rfl,rfl⟩,Only.refl _ _,?_⟩
 ·rintro m f h' ⟨i,j,hij,on,f0,f1,f2,f8,f9,f10⟩
  rcases hij with ⟨rfl,rfl,rfl⟩ | ⟨rfl,rfl,rfl⟩ | ⟨rfl,rfl,rfl⟩
  ·have d1 : decide ((0 : Int) < 1)=true:=rfl
   have w1 : IntKind.i64.wrap ((0 : Int) + 1)=1:=rfl
   have w2 : IntKind.u64.wrap (1 : Int)=1:=rfl
   have w3 : binV .shr (.int .u64 1) (.int .u64 1)=some (.int .u64 0):=rfl
   have w4 : IntKind.i64.wrap (0 : Int)=0:=rfl
   simp only [c88l0,vms,vmc,vA,vB,reduceCtorEq,vC,vD,f0,f1,f2,f9,f10,d1,w1,w2,w3,w4,ia,ldoc on,step_callV,callVal_func]
   refine Gives.bind ((cmp_one h1 h2).mono ?_)
   rintro _ h3 ⟨rfl,on3⟩
   have on4 : Only h h3 []:=on.trans on3 fun o ho => by simp at ho
   by_cases hlt : 7 - id < 0
   ·simp only [vms,vmc,vA,vB,reduceCtorEq,vC,vD,f0,f1,f2,f8,f9,f10,decide_eq_true hlt,w1]
    exact ⟨0,by omega,1,1,.inr (.inr ⟨rfl,rfl,rfl⟩),on4,by trivial,by trivial,by trivial,by trivial,by trivial,by trivial⟩
   ·simp only [vms,vmc,vA,vB,reduceCtorEq,vC,vD,f0,f1,f2,f8,f9,f10,decide_eq_false hlt]
    exact ⟨0,by omega,0,0,.inr (.inl ⟨rfl,rfl,rfl⟩),on4,by trivial,by trivial,by trivial,by trivial,by trivial,by trivial⟩
  ·have d1 : decide ((0 : Int) < 0)=false:=rfl
   have d2 : decide ((0 : Int) < 1)=true:=rfl
   simp only [c88l0,vms,vmc,vA,vB,reduceCtorEq,vC,vD,f0,f1,f2,f8,f9,f10,d1,d2,ia,ldoc on,step_callV,callVal_func]
   refine Gives.bind ((cmp_one h1 h2).mono ?_)
   rintro _ h3 ⟨rfl,on3⟩
   have on4 : Only h h3 []:=on.trans on3 fun o ho => by simp at ho
   have e7 : ((7 - id) == 0)=false:=by rw [beq_eq_false_iff_ne]; omega
   simp only [vms,vmc,vA,vB,reduceCtorEq,vC,vD,e7,f9]
   exact ⟨⟨_,rfl⟩,on4⟩
  ·have d1 : decide ((1 : Int) < 1)=false:=rfl
   simp only [c88l0,vms,vmc,vA,vB,reduceCtorEq,vC,vD,f0,f1,f2,f8,f9,f10,d1]
   exact ⟨⟨_,rfl⟩,on⟩
 ·simp only [vms,vmc,vA,vB,reduceCtorEq,vC,vD]
  simp
theorem find_one {id : Int} (d : OneDoc h) (h1 : -4611686018427387904≤id) (h2 : id≤4611686018427387904) (h7 : id≠7) :
  Gives Tm 49 [.ptr 23 0,.int .i64 id] h fun r h' => (∃ i,r = .tuple [i,.bool false])∧Only h h' []:=by
 refine gives_func rfl (tm_at (fn:=a49) rfl) rfl ?_
 have nb : nilChkV (.ptr 23 0)=some (.ptr 23 0):=rfl
 have fa : fieldAddrV 9 (.ptr 23 0)=some (.ptr 23 9):=rfl
 have ld : loadV h false 1 (.ptr 23 9)=some (.slice 34 0 2 1 1 false):=load_at d.ix rfl
 simp only [a49,c49,vms,vmc,vA,vB,reduceCtorEq,vC,vD,nb,fa,ld]
 refine Gives.bind ((bs_one d h1 h2 h7).mono ?_)
 rintro _ h3 ⟨⟨i,rfl⟩,on⟩
 simp only [vms,vmc,vA,vB,reduceCtorEq,vC,vD]
 exact ⟨⟨_,rfl⟩,on⟩
theorem add_bad {id : Int} {s : Txt} (hid : id < 0∨1073741824 < id) : Gives Tm 15 [.ptr 23 0,.int .i64 id,.str s] h fun r h' => r = .int .i64 1∧h'=h:=by
 refine gives_func rfl (tm_at (fn:=a15) rfl) rfl ?_
 simp only [a15,c15,vms,vmc,vA,vB,reduceCtorEq,vC,vD]
 refine Gives.bind ((words_bad hid).mono ?_)
 rintro _ _ ⟨rfl,rfl⟩
 have e : ((1 : Int) != 0)=true:=rfl
 simp only [vms,vmc,vA,vB,reduceCtorEq,vC,vD,e]
 exact ⟨trivial,trivial⟩
theorem add_long {id : Int} {s : Txt} (h1 : 0≤id) (h2 : id≤1073741824) (hs : 512 < s.length) : Gives Tm 15 [.ptr 23 0,.int .i64 id,.str s] h fun r h' => r = .int .i64 11∧h'=h:=by
 refine gives_func rfl (tm_at (fn:=a15) rfl) rfl ?_
 simp only [a15,c15,vms,vmc,vA,vB,reduceCtorEq,vC,vD]
 refine Gives.bind ((words_long h1 h2 hs).mono ?_)
 rintro _ _ ⟨rfl,rfl⟩
 have e : ((11 : Int) != 0)=true:=rfl
 simp only [vms,vmc,vA,vB,reduceCtorEq,vC,vD,e]
 exact ⟨trivial,trivial⟩
theorem rem_no {id : Int} (d : OneDoc h) (h1 : -4611686018427387904≤id) (h2 : id≤4611686018427387904) (h7 : id≠7) : Gives Tm 19 [.ptr 23 0,.int .i64 id] h fun r h' => r = .int .i64 10∧Only h h' []:=by
 refine gives_func rfl (tm_at (fn:=a19) rfl) rfl ?_
 simp only [a19,c19,vms,vmc,vA,vB,reduceCtorEq,vC,vD]
 refine Gives.bind ((find_one d h1 h2 h7).mono ?_)
 rintro _ h3 ⟨⟨i,rfl⟩,on⟩
 simp only [vms,vmc,vA,vB,reduceCtorEq,vC,vD]
 exact ⟨trivial,on⟩
theorem upd_no {id : Int} (h1 : 0≤id) (h2 : id≤1073741824) (h7 : id≠7) : Gives Tm 40 [.ptr 23 0,.int .i64 id,.str [120]] hB43 fun r h' => r = .int .i64 10∧Only hB43 h' []:=by
 refine gives_func rfl (tm_at (fn:=a40) rfl) rfl ?_
 simp only [a40,c40,vms,vmc,vA,vB,reduceCtorEq,vC,vD]
 refine Gives.bind ((words_x h1 h2).mono ?_)
 rintro _ h3 ⟨⟨v,rfl⟩,on⟩
 have e : ((0 : Int) != 0)=false:=rfl
 simp only [vms,vmc,vA,vB,reduceCtorEq,vC,vD,e]
 refine Gives.bind ((find_one (one43.keep on) (by omega) (by omega) h7).mono ?_)
 rintro _ h4 ⟨⟨i,rfl⟩,on4⟩
 simp only [vms,vmc,vA,vB,reduceCtorEq,vC,vD]
 exact ⟨trivial,on.trans on4 fun o ho => by simp at ho⟩
theorem upd_long {s : Txt} (hs : 512 < s.length) : Gives Tm 40 [.ptr 23 0,.int .i64 7,.str s] h fun r h' => r = .int .i64 11∧h'=h:=by
 refine gives_func rfl (tm_at (fn:=a40) rfl) rfl ?_
 simp only [a40,c40,vms,vmc,vA,vB,reduceCtorEq,vC,vD]
 refine Gives.bind ((words_long (by decide) (by decide) hs).mono ?_)
 rintro _ _ ⟨rfl,rfl⟩
 have e : ((11 : Int) != 0)=true:=rfl
 simp only [vms,vmc,vA,vB,reduceCtorEq,vC,vD,e]
 exact ⟨trivial,trivial⟩
end Go.Proofs.YtakgcpmemalmaaaGreatDoor

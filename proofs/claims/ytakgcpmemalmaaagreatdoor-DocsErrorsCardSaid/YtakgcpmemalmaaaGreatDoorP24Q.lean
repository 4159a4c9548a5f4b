/- arena.New: to the last cell that is of use. -/
import Derived.Test.YtakgcpmemalmaaaGreatDoorP24O
namespace Go.Proofs.YtakgcpmemalmaaaGreatDoor
open Go.Vm
open Go.RowKit
set_option linter.unusedSimpArgs false
set_option linter.unusedVariables false
set_option maxRecDepth 100000
variable {T : Vm.Prog} {h : AH}
def pre (ns : List Nat) (c : Nat) : Nat:=(ns.take c).sum
theorem pre_succ {ns : List Nat} {c n : Nat} (h : ns[c]?=some n) : pre ns (c + 1)=pre ns c + n:=by
 unfold pre; rw [List.take_add_one,h]; simp
theorem pre_le (ns : List Nat) (c : Nat) : pre ns c≤ns.sum:=by
 unfold pre
 conv => rhs; rw [← List.take_append_drop c ns,List.sum_append]
 omega
def cnts (ns : List Nat) : List AV:=ns.map fun (n : Nat) => .int .i64 (n : Int)
theorem idxArr_cnts {ns : List Nat} {c n : Nat} (h5 : ns.length=5) (h : ns[c]?=some n) : idxArrV false 5 1 (.agg (cnts ns)) (.int .i64 (c : Int))=some (.int .i64 (n : Int)):=by
 have hc:=(List.getElem?_eq_some_iff.1 h).1
 show (if (0 : Int)≤(c : Int)∧(c : Int).toNat < 5 then partV false (cnts ns) ((c : Int).toNat * 1) 1 else none)=_
 rw [if_pos ⟨by omega,by show c < 5; omega⟩]
 show (cnts ns)[c * 1]?=_
 rw [Nat.mul_one]; simp [cnts,h]
def newK (ns : List Nat) : Nat→List Nat
 | 0 => []
 | c + 1 => newK ns c ++ List.replicate ((ns[c]?).getD 0) c
structure PQ where
 p : Nat
 v : AV
 mo : Nat
def PQ.foot (q : PQ) : List Nat:=footX q.p q.v q.mo
def ptrs (Q : List PQ) : List AV:=(Q.map fun q => AV.ptr q.p 0) ++ List.replicate (5 - Q.length) .nilPtr
theorem ptrs_at (Q : List PQ) (q : PQ) : (ptrs (Q ++ [q]))[Q.length]?=some (.ptr q.p 0):=by
 unfold ptrs
 rw [List.getElem?_append_left (by simp),List.getElem?_map,List.getElem?_append_right (Nat.le_refl _),Nat.sub_self]; rfl
theorem ptrs_set {Q : List PQ} (h : Q.length < 5) (q : PQ) : (ptrs Q).set Q.length (.ptr q.p 0)=ptrs (Q ++ [q]):=by
 unfold ptrs
 rw [List.set_append,if_neg (by simp)]
 simp only [List.length_map,Nat.sub_self,List.map_append,List.map_cons,List.map_nil,List.length_append,List.length_cons,List.length_nil,List.append_assoc]
 congr 1
 rw [show 5 - Q.length=(5 - (Q.length + (0 + 1))) + 1 by omega,List.replicate_succ,List.set_cons_zero]
 rfl
theorem ptrs_len {Q : List PQ} (h : Q.length≤5) : (ptrs Q).length=5:=by simp [ptrs]; omega
structure NewX (h0 h : AH) (ns : List Nat) (c a : Nat) (sv : AV) (S : List (Nat×AV)) (Q : List PQ) : Prop where
 ar : ArX h a sv S (ptrs Q)
 cls : S.map (·.1)=newK ns c
 len : S.length=pre ns c
 five : Q.length=c
 pools : ∀ (j : Nat) (q : PQ) (n : Nat),Q[j]?=some q→ns[j]?=some n→PoolX h q.p 1024 (pre ns j) n q.v q.mo
 nodup : (a :: (objs sv ++ Q.flatMap PQ.foot)).Nodup
 news : ∀ o∈a :: (objs sv ++ Q.flatMap PQ.foot),h0.next≤o∧o < h.next
 only : Only h0 h []
 low : Low h
theorem anewX (k : Fits T) (km : MulOk T) (he : T.env 82=none) {ns : List Nat} (hl : Low h) (h5 : ns.length=5) (hsum : ns.sum≤1024) :
  Gives T 82 [.agg (cnts ns)] h fun r h' => ∃ a sv S Q,r = .tuple [.ptr a 0,.int .i64 0]∧NewX h h' ns 5 a sv S Q:=by
 refine gives_func he (k.at (fn:=a82) rfl) rfl ?_
 have hli : (cnts ns).length=5:=by simp [cnts,h5]
 have hsm : ∀ i,pre ns i≤1024:=fun i => Nat.le_trans (pre_le ns i) hsum
 simp only [a82,c82,vms,vmc,AOpd.val,Nat.reduceEqDiff,reduceCtorEq,Nat.reduceAdd,Nat.reduceBEq,box_agg,load_all get_new_same hli]
 refine wpc_loop (fun m f h' => ∃ i,m=5 - i∧i≤5∧h'=h.new (.cells (cnts ns) true)∧f.at 1 = .ptr h.next 0∧f.at 4 = .int .i64 ((1024 - pre ns i : Nat) : Int)∧f.at 10 = .agg (cnts ns)∧f.at 11 = .int .i64 (i : Nat)) ?_ 5 _ _ ⟨0,rfl,by omega,rfl,?_⟩
 ·rintro m f h' ⟨i,rfl,hi,rfl,f1,f4,f10,f11⟩
  simp only [c82l0,vms,vmc,AOpd.val,Nat.reduceEqDiff,reduceCtorEq,Nat.reduceAdd,Nat.reduceBEq,f1,f4,f10,f11]
  by_cases hlt : i < 5
  ·have hd : decide ((i : Int) < 5)=true:=by rw [decide_eq_true_eq]; omega
   obtain ⟨n,hn⟩ : ∃ n,ns[i]?=some n:=⟨_,List.getElem?_eq_getElem (by omega)⟩
   have hp:=pre_succ hn
   have hp2:=hsm (i + 1)
   have d1 : decide ((n : Int) < 0)=false:=by rw [decide_eq_false_iff_not]; omega
   have d2 : decide ((n : Int) > ((1024 - pre ns i : Nat) : Int))=false:=by rw [decide_eq_false_iff_not]; omega
   have w1 : IntKind.i64.wrap (((1024 - pre ns i : Nat) : Int) - (n : Int))=((1024 - pre ns (i + 1) : Nat) : Int):=by rw [wrap_i64 (by omega) (by omega)]; omega
   have w2 : IntKind.i64.wrap ((i : Int) + 1)=((i + 1 : Nat) : Int):=by rw [wrap_i64 (by omega) (by omega)]; rfl
   simp only [hd,vms,vmc,AOpd.val,Nat.reduceEqDiff,reduceCtorEq,Nat.reduceAdd,Nat.reduceBEq,f1,f4,f10,f11,idxArr_cnts h5 hn,d1,d2,w1,w2]
   exact ⟨5 - (i + 1),by omega,i + 1,rfl,by omega,trivial,trivial,rfl,trivial,rfl⟩
  ·have hd : decide ((i : Int) < 5)=false:=by rw [decide_eq_false_iff_not]; omega
   have hfill : fillV [AV.nilSlice,.nilPtr,.nilPtr,.nilPtr,.nilPtr,.nilPtr] []=some [.nilSlice,.nilPtr,.nilPtr,.nilPtr,.nilPtr,.nilPtr]:=rfl
   have g1 : ((h.new (.cells (cnts ns) true)).new (.cells [.nilSlice,.nilPtr,.nilPtr,.nilPtr,.nilPtr,.nilPtr] true)).get h.next=some (.cells (cnts ns) true):=by rw [AH.get_new,if_neg (by rw [next_new]; omega),get_new_same]
   simp only [hd,vms,vmc,AOpd.val,Nat.reduceEqDiff,reduceCtorEq,Nat.reduceAdd,Nat.reduceBEq,f1,hfill,box_agg,next_new,load_all g1 hli]
   have hlow0:=(hl.new (.cells (cnts ns) true)).new (.cells [.nilSlice,.nilPtr,.nilPtr,.nilPtr,.nilPtr,.nilPtr] true)
   have hon0 : Only h ((h.new (.cells (cnts ns) true)).new (.cells [.nilSlice,.nilPtr,.nilPtr,.nilPtr,.nilPtr,.nilPtr] true)) []:=((Only.refl h []).new _).new _
   have hA0 : NewX h ((h.new (.cells (cnts ns) true)).new (.cells [.nilSlice,.nilPtr,.nilPtr,.nilPtr,.nilPtr,.nilPtr] true)) ns 0 (h.next + 1) .nilSlice [] []:=by
    refine ⟨⟨?_,.inl ⟨rfl,rfl,rfl⟩,by simp [objs]⟩,rfl,rfl,rfl,fun j q n hq => by simp at hq,by simp [objs],fun o ho => ?_,hon0,hlow0⟩
    ·have:=get_new_same (h:=h.new (.cells (cnts ns) true)) (x := .cells [.nilSlice,.nilPtr,.nilPtr,.nilPtr,.nilPtr,.nilPtr] true)
     rw [next_new] at this; exact this
    ·simp [objs] at ho; rw [next_new,next_new]; omega
   generalize ((h.new (.cells (cnts ns) true)).new (.cells [.nilSlice,.nilPtr,.nilPtr,.nilPtr,.nilPtr,.nilPtr] true))=h0 at hA0
   refine wpc_loop (fun m f h' => ∃ c sv S Q,m=5 - c∧c≤5∧NewX h h' ns c (h.next + 1) sv S Q∧f.at 7 = .ptr (h.next + 1) 0∧f.at 27 = .agg (cnts ns)∧f.at 28 = .int .i64 (c : Nat)) ?_ 5 _ _ ⟨0,.nilSlice,[],[],rfl,by omega,hA0,?_⟩
   ·rintro m f h' ⟨c,sv,S,Q,rfl,hc5,N,f7,f27,f28⟩
    simp only [c82l2,vms,vmc,AOpd.val,Nat.reduceEqDiff,reduceCtorEq,Nat.reduceAdd,Nat.reduceBEq,f7,f27,f28]
    by_cases hlt : c < 5
    ·have hd : decide ((c : Int) < 5)=true:=by rw [decide_eq_true_eq]; omega
     obtain ⟨n,hn⟩ : ∃ n,ns[c]?=some n:=⟨_,List.getElem?_eq_getElem (by omega)⟩
     have nb : nilChkV (.ptr (h.next + 1) 0)=some (.ptr (h.next + 1) 0):=rfl
     have fa1 : fieldAddrV 1 (.ptr (h.next + 1) 0)=some (.ptr (h.next + 1) 1):=rfl
     simp only [hd,vms,vmc,AOpd.val,Nat.reduceEqDiff,reduceCtorEq,Nat.reduceAdd,Nat.reduceBEq,f7,f27,f28,idxArr_cnts h5 hn,nb,fa1]
     refine Gives.bind ((pnew_ok k (most:=1024) N.low (by decide) (by decide)).mono ?_)
     rintro _ h1 ⟨rfl,P1,on1,lo1,nx1⟩
     have old : ∀ o∈(h.next + 1) :: (objs sv ++ Q.flatMap PQ.foot),h1.get o=h'.get o:=fun o ho => on1.2 o (N.news o ho).2 (by simp)
     have al:=N.news (h.next + 1) (by simp)
     have obj1 : h1.get (h.next + 1)=some (.cells (sv :: ptrs Q) true):=(old _ (by simp)).trans N.ar.obj
     have st : storeV h1 1 (.ptr (h.next + 1) (1 + c)) (.ptr (h'.next + 1) 0)=some (h1.set (h.next + 1) (.cells (sv :: ptrs (Q ++ [⟨h'.next + 1,.nilSlice,h'.next⟩])) true)):=by
      rw [store_at (i:=1 + c) obj1 (by simp [ptrs_len (show Q.length≤5 by rw [N.five]; omega)]; omega) rfl rfl,Nat.add_comm 1 c,List.set_cons_succ,← N.five,ptrs_set (by rw [N.five]; omega) ⟨h'.next + 1,.nilSlice,h'.next⟩]
     simp only [vms,vmc,AOpd.val,Nat.reduceEqDiff,reduceCtorEq,Nat.reduceAdd,Nat.reduceBEq,idxRow_nat hlt,st]
     have svl:=N.ar.slots.low N.low
     have A2 : ArX (h1.set (h.next + 1) (.cells (sv :: ptrs (Q ++ [⟨h'.next + 1,.nilSlice,h'.next⟩])) true)) (h.next + 1) sv S (ptrs (Q ++ [⟨h'.next + 1,.nilSlice,h'.next⟩])) :=
      ⟨get_set_same,N.ar.slots.keep fun o ho => by rw [AH.get_set,if_neg (fun e => N.ar.apart (by rw [e]; exact ho))]; exact old o (by simp [ho]),N.ar.apart⟩
     have on2 : Only h1 (h1.set (h.next + 1) (.cells (sv :: ptrs (Q ++ [⟨h'.next + 1,.nilSlice,h'.next⟩])) true)) [h.next + 1]:=Only.set (Only.refl _ _) (.inl (by simp)) _
     have lo2 : Low (h1.set (h.next + 1) (.cells (sv :: ptrs (Q ++ [⟨h'.next + 1,.nilSlice,h'.next⟩])) true)):=lo1.set (by omega) _
     have nx2 : (h1.set (h.next + 1) (.cells (sv :: ptrs (Q ++ [⟨h'.next + 1,.nilSlice,h'.next⟩])) true)).next=h'.next + 2:=by rw [next_set]; exact nx1
     generalize h1.set (h.next + 1) (.cells (sv :: ptrs (Q ++ [⟨h'.next + 1,.nilSlice,h'.next⟩])) true)=h2 at A2 on2 lo2 nx2
     have P2 : PoolX h2 (h'.next + 1) 1024 (pre ns c) 0 .nilSlice h'.next:=by
      have P0 : PoolX h1 (h'.next + 1) 1024 (pre ns c) 0 .nilSlice h'.next:=P1 _
      refine P0.keep fun o ho => ?_
      simp only [footX,objs,List.mem_cons,List.not_mem_nil,or_false] at ho
      exact on2.2 o (by omega) (by simp; omega)
     refine inner_loopX (n:=n) k km lo2 A2 P2 hlt (by rw [← N.five]; exact ptrs_at Q _) N.len ?_ ⟨by omega,fun e => by have:=svl _ e; omega⟩ ⟨by omega,fun e => by have:=svl _ e; omega⟩ ?_ ?_ ?_ ?_ ?_
     ·have:=hsm (c + 1); rw [pre_succ hn] at this; exact this
     rotate_right
     ·intro f3 h3 sv3 v3 W e3 hW A3 P3 nsv nv on3 lo3
      have w2 : IntKind.i64.wrap ((c : Int) + 1)=((c + 1 : Nat) : Int):=by rw [wrap_i64 (by omega) (by omega)]; rfl
      have g7 : f3.at 7 = .ptr (h.next + 1) 0:=by rw [e3 7 (by omega)]; simp only [vms,vmc,AOpd.val,Nat.reduceEqDiff,reduceCtorEq,Nat.reduceAdd,Nat.reduceBEq,f7]
      have g27 : f3.at 27 = .agg (cnts ns):=by rw [e3 27 (by omega)]; simp only [vms,vmc,AOpd.val,Nat.reduceEqDiff,reduceCtorEq,Nat.reduceAdd,Nat.reduceBEq,f27]
      have g28 : f3.at 28 = .int .i64 (c : Nat):=by rw [e3 28 (by omega)]; simp only [vms,vmc,AOpd.val,Nat.reduceEqDiff,reduceCtorEq,Nat.reduceAdd,Nat.reduceBEq,f28]
      simp only [vms,vmc,AOpd.val,Nat.reduceEqDiff,reduceCtorEq,Nat.reduceAdd,Nat.reduceBEq,g7,g27,g28,w2]
      have hp3 : ptrs (Q ++ [⟨h'.next + 1,v3,h'.next⟩])=ptrs (Q ++ [⟨h'.next + 1,.nilSlice,h'.next⟩]):=by simp [ptrs]
      have nx3:=on3.1
      have nd:=N.nodup
      have ndQ : (Q.flatMap PQ.foot).Nodup:=(List.nodup_append.1 (List.nodup_cons.1 nd).2).2.1
      have dQ : ∀ o∈Q.flatMap PQ.foot,o≠h.next + 1∧o∉objs sv∧o < h'.next:=fun o ho => by
       refine ⟨fun e => ?_,fun e => ?_,(N.news o (by simp only [List.mem_cons,List.mem_append]; exact .inr (.inr ho))).2⟩
       ·exact (List.nodup_cons.1 nd).1 (by rw [← e]; simp only [List.mem_append]; exact .inr ho)
       ·exact (List.nodup_append.1 (List.nodup_cons.1 nd).2).2.2 o e o ho rfl
      have fm : ∀ o,o∈(Q ++ [(⟨h'.next + 1,v3,h'.next⟩ : PQ)]).flatMap PQ.foot↔o∈Q.flatMap PQ.foot∨o=h'.next + 1∨o=h'.next∨o∈objs v3:=fun o => by
       simp only [List.flatMap_append,List.mem_append,List.flatMap_cons,List.flatMap_nil,List.append_nil,PQ.foot,footX,List.mem_cons]
      have sv3l : ∀ o∈objs sv3,o∈objs sv∨h'.next + 2≤o:=fun o ho => by
       rcases nsv o ho with h6 | h6
       ·exact .inl h6
       ·right; omega
      have hsvn : (objs sv3).Nodup:=by
       rcases A3.slots with ⟨rfl,_⟩ | ⟨o,rfl,_⟩ <;> simp [objs]
      have hvn : (objs v3).Nodup:=by
       rcases P3.row with ⟨rfl,_⟩ | ⟨o,rfl,_⟩ <;> simp [objs]
      refine ⟨5 - (c + 1),by omega,c + 1,sv3,_,Q ++ [⟨h'.next + 1,v3,h'.next⟩],rfl,by omega,⟨by rw [hp3]; exact A3,?_,?_,by simp [N.five],?_,?_,?_,?_,lo3⟩,trivial,trivial,rfl⟩
      ·rw [List.map_append,N.cls]
       simp only [newK,hn,Option.getD_some,List.map_map,← hW]
       congr 1
       exact List.map_const'
      ·rw [List.length_append,N.len,pre_succ hn,List.length_map,hW]
      ·intro j q m hq hm
       by_cases e : j < Q.length
       ·rw [List.getElem?_append_left e] at hq
        refine (N.pools j q m hq hm).keep fun o ho => ?_
        have hoQ : o∈Q.flatMap PQ.foot:=List.mem_flatMap.2 ⟨q,List.mem_of_getElem? hq,ho⟩
        obtain ⟨d1,d2,d3⟩:=dQ o hoQ
        rw [on3.2 o (by omega) ?_,on2.2 o (by omega) (by simp [d1]),on1.2 o d3 (by simp)]
        simp only [List.mem_cons,List.mem_append,List.not_mem_nil,or_false,not_or]
        exact ⟨d1,d2,by omega,by omega⟩
       ·rw [List.getElem?_append_right (by omega)] at hq
        have e2:=(List.getElem?_eq_some_iff.1 hq).1
        simp at e2
        have e0 : j=c:=by have:=N.five; omega
        subst e0
        rw [hn] at hm; cases hm
        rw [show j - Q.length=0 by omega] at hq
        cases hq
        exact P3
      ·refine List.nodup_cons.2 ⟨fun hm => ?_,List.nodup_append.2 ⟨hsvn,?_,fun o ho q hq e => ?_⟩⟩
       ·rcases List.mem_append.1 hm with h6 | h6
        ·rcases sv3l _ h6 with h7 | h7
         ·exact N.ar.apart h7
         ·omega
        ·rcases (fm _).1 h6 with h7 | h7 | h7 | h7
         ·exact (dQ _ h7).1 rfl
         ·omega
         ·omega
         ·have:=(nv _ h7).1; omega
       ·rw [List.flatMap_append]
        refine List.nodup_append.2 ⟨ndQ,?_,fun o ho q hq e => ?_⟩
        ·simp only [List.flatMap_cons,List.flatMap_nil,List.append_nil,PQ.foot,footX]
         refine List.nodup_cons.2 ⟨fun hm => ?_,List.nodup_cons.2 ⟨fun hm => ?_,hvn⟩⟩
         ·rcases List.mem_cons.1 hm with h6 | h6
          ·omega
          ·have:=(nv _ h6).1; omega
         ·have:=(nv _ hm).1; omega
        ·subst e
         have:=(dQ o ho).2.2
         simp only [List.flatMap_cons,List.flatMap_nil,List.append_nil,PQ.foot,footX,List.mem_cons] at hq
         rcases hq with h6 | h6 | h6
         ·omega
         ·omega
         ·have:=(nv _ h6).1; omega
       ·subst e
        rcases (fm _).1 hq with h7 | h7 | h7 | h7
        ·rcases sv3l _ ho with h8 | h8
         ·exact (dQ _ h7).2.1 h8
         ·have:=(dQ _ h7).2.2; omega
        ·rcases sv3l _ ho with h8 | h8
         ·have:=svl _ h8; omega
         ·omega
        ·rcases sv3l _ ho with h8 | h8
         ·have:=svl _ h8; omega
         ·omega
        ·exact (nv _ h7).2 ho
      ·intro o ho
       rcases List.mem_cons.1 ho with rfl | ho
       ·omega
       ·rcases List.mem_append.1 ho with h6 | h6
        ·refine ⟨?_,A3.slots.low lo3 o h6⟩
         rcases sv3l _ h6 with h7 | h7
         ·exact (N.news o (by simp [h7])).1
         ·omega
        ·rcases (fm _).1 h6 with h7 | h7 | h7 | h7
         ·have h8:=N.news o (by simp only [List.mem_cons,List.mem_append]; exact .inr (.inr h7))
          omega
         ·omega
         ·omega
         ·have:=(nv _ h7).1
          exact ⟨by omega,P3.row.low lo3 o h7⟩
      ·refine ⟨by have:=N.only.1; omega,fun q hq _ => ?_⟩
       have hn1:=N.only.1
       rw [on3.2 q (by omega) ?_,on2.2 q (by omega) (by simp; omega),on1.2 q (by omega) (by simp),N.only.2 q hq (by simp)]
       simp only [List.mem_cons,List.mem_append,List.not_mem_nil,or_false,not_or]
       exact ⟨by omega,fun e => by have:=(N.news q (by simp [e])).1; omega,by omega,by omega⟩
     all_goals simp only [vms,vmc,AOpd.val,Nat.reduceEqDiff,reduceCtorEq,Nat.reduceAdd,Nat.reduceBEq,f7,f27,f28]
    ·have hd : decide ((c : Int) < 5)=false:=by rw [decide_eq_false_iff_not]; omega
     have : c=5:=by omega
     subst this
     simp only [hd,vms,vmc,AOpd.val,Nat.reduceEqDiff,reduceCtorEq,Nat.reduceAdd,Nat.reduceBEq,f7]
     exact ⟨h.next + 1,sv,S,Q,rfl,N⟩
   ·simp only [vms,vmc,AOpd.val,Nat.reduceEqDiff,reduceCtorEq,Nat.reduceAdd,Nat.reduceBEq]
    exact ⟨trivial,trivial,rfl⟩
 ·simp only [vms,vmc,AOpd.val,Nat.reduceEqDiff,reduceCtorEq,Nat.reduceAdd,Nat.reduceBEq]
  exact ⟨trivial,rfl,trivial,rfl⟩
end Go.Proofs.YtakgcpmemalmaaaGreatDoor

/- mem.New as it was run; docs.New, with what is of use alone. -/
import Derived.Test.YtakgcpmemalmaaaGreatDoorP24R
namespace Go.Proofs.YtakgcpmemalmaaaGreatDoor
open Go.Vm
open Go.RowKit
set_option linter.unusedSimpArgs false
set_option linter.unusedVariables false
set_option maxRecDepth 100000
def hA1 : AH:=AH.upd AH.empty 2 [(0,.cells [(I 300),(I 220),(I 120),(I 60),(I 2),(I 1),(I 32),(I 2)] true),
 (1,.cells [(I 300),(I 220),(I 120),(I 60),(I 2),(I 1),(I 32),(I 2)] true)]
def hB1 : AH:=AH.upd hA1 23 [(2,.cells [(.slice 3 0 4 702 702 false),(.ptr 4 0),(.ptr 7 0),(.ptr 10 0),(.ptr 13 0),(.ptr 16 0)] true),
 (3,.cells (edL 0 slots0 [(2802,(.bool true)),(2803,(.slice 21 0 1 264 264 true))]) true),
 (4,.cells [(I 1024),(.slice 6 0 1 300 300 false),(.map 5)] true),
 (5,.map (setOf (ints 0 300))),
 (6,.cells (ints 0 300) true),
 (7,.cells [(I 1024),(.slice 9 0 1 220 220 false),(.map 8)] true),
 (8,.map (setOf (ints 300 220))),
 (9,.cells (ints 300 220) true),
 (10,.cells [(I 1024),(.slice 12 0 1 120 120 false),(.map 11)] true),
 (11,.map (setOf (ints 520 120))),
 (12,.cells (ints 520 120) true),
 (13,.cells [(I 1024),(.slice 15 0 1 60 60 false),(.map 14)] true),
 (14,.map (setOf (ints 640 60))),
 (15,.cells (ints 640 60) true),
 (16,.cells [(I 1024),(.slice 18 0 1 1 2 false),(.map 17)] true),
 (17,.map [((I 701),(.agg []))]),
 (18,.cells [(I 701),(I 700)] true),
 (19,.cells [(I 0),(I 32),(.slice 20 0 2 1 1 false)] true),
 (20,.cells [(I (-1)),.nilSlice] true),
 (21,.cells ([(U 0),(U 4)] ++ List.replicate 262 (U 0)) true),
 (22,.cells [(.ptr 2 0),(.ptr 19 0),(I 1),(I 66236),(I (-1))] true)]
def lit1 : Vm.Lit:=⟨[(.agg [(I 300),(I 220),(I 120),(I 60),(I 2),(I 1),(I 32),(I 2)])],hA1,(.tuple [(.ptr 22 0),(I 0)]),hB1⟩ -- 45,474 ops
def src1 : List Nat:=[3,4,5,6,7,8,9,10,11,12,13,14,15,16,17,18,19,20,22,27,28]
theorem sim1 : CSim Tryz.prog 45 lit1.args lit1.h lit1.r lit1.h':=Lit.gc_ok T2_ok (k:=100000) (l:=src1) rfl (by kernel_rfl)
def T3 : Vm.Prog:=withEnv T2 45 (litFind [lit1])
theorem T3_ok : TabOk Tryz.prog T3:=lits_sim T2_ok fun l hl => by
 simp only [List.mem_cons,List.not_mem_nil,or_false] at hl
 subst hl; exact sim1
theorem fitsA3 : Fits T3:=⟨rfl,fun n h => by
 simp only [List.mem_cons,List.not_mem_nil,or_false] at h
 rcases h with h | h | h | h | h | h | h | h | h | h | h | h | h | h <;> subst h <;> rfl⟩
theorem mem_at : T3.env 45=some (litFind [lit1]):=rfl
theorem mem_found : litFind [lit1] [.agg wideL] hA1=some (.tuple [.ptr 22 0,I 0],hB1):=by kernel_rfl
theorem mem_gives : Gives T3 45 [.agg wideL] hA1 fun r h => r = .tuple [.ptr 22 0,I 0]∧h=hB1:=⟨_,_,(run_env mem_at).trans mem_found,rfl,rfl⟩
def hA2 : AH:=AH.upd AH.empty 1 [(0,.cells [(I 300),(I 220),(I 120),(I 60),(I 2),(I 1),(I 32),(I 2)] true)]
def hB2 : AH:=AH.upd hA1 27 [(1,.cells [(.slice 2 0 4 702 702 false),(.ptr 3 0),(.ptr 6 0),(.ptr 9 0),(.ptr 12 0),(.ptr 15 0)] true),
 (2,.cells (edL 0 slots0 [(2802,(.bool true)),(2803,(.slice 20 0 1 264 264 true))]) true),
 (3,.cells [(I 1024),(.slice 5 0 1 300 300 false),(.map 4)] true),
 (4,.map (setOf (ints 0 300))),
 (5,.cells (ints 0 300) true),
 (6,.cells [(I 1024),(.slice 8 0 1 220 220 false),(.map 7)] true),
 (7,.map (setOf (ints 300 220))),
 (8,.cells (ints 300 220) true),
 (9,.cells [(I 1024),(.slice 11 0 1 120 120 false),(.map 10)] true),
 (10,.map (setOf (ints 520 120))),
 (11,.cells (ints 520 120) true),
 (12,.cells [(I 1024),(.slice 14 0 1 60 60 false),(.map 13)] true),
 (13,.map (setOf (ints 640 60))),
 (14,.cells (ints 640 60) true),
 (15,.cells [(I 1024),(.slice 17 0 1 1 2 false),(.map 16)] true),
 (16,.map [((I 701),(.agg []))]),
 (17,.cells [(I 701),(I 700)] true),
 (18,.cells [(I 0),(I 32),(.slice 19 0 2 1 1 false)] true),
 (19,.cells [(I (-1)),.nilSlice] true),
 (20,.cells ([(U 0),(U 4)] ++ List.replicate 262 (U 0)) true),
 (21,.cells [(.ptr 1 0),(.ptr 18 0),(I 1),(I 66236),(I (-1))] true),
 (22,.map []),
 (23,.cells [(I 300),(I 220),(I 120),(I 60),(I 2),(I 1),(I 32),(I 2),(.ptr 21 0),.nilSlice,(.map 22),(.ptr 25 0)] true),
 (24,.map (setOf (ints 0 1024))),
 (25,.cells [(I 1024),(.slice 26 0 1 1024 1024 false),(.map 24)] true),
 (26,.cells (ints 0 1024) true)]
def lit2 : Vm.Lit:=⟨[(.agg [(I 300),(I 220),(I 120),(I 60),(I 2),(I 1),(I 32),(I 2)])],hA2,(.tuple [(.ptr 23 0),(I 0)]),hB2⟩ -- 12,106530 ops
def src2 : List Nat:=[2,3,4,5,6,7,8,9,10,11,12,13,14,15,16,17,18,19,20,21,22,23,24,25,26,3098]
theorem hA1_new : hA1=hA2.new (.cells wideL true):=by kernel_rfl
theorem lowA1 : Low hA1:=by
 have e : hA1=(AH.empty.new (.cells wideL true)).new (.cells wideL true):=by kernel_rfl
 rw [e]; exact (low0.new _).new _
def ixL (p : AV) : List AV:=[I 300,I 220,I 120,I 60,I 2,I 1,I 32,I 2,.ptr 22 0,.nilSlice,.map 23,p]
theorem ix_fill : fillV [AV.int .i64 0,.int .i64 0,.int .i64 0,.int .i64 0,.int .i64 0,.int .i64 0,.int .i64 0,.int .i64 0,.nilPtr,.nilSlice,.nilMap,.nilPtr] [(0,8,.agg wideL),(8,1,.ptr 22 0),(10,1,.map 23)]=some (ixL .nilPtr):=by
 simp [fillV,AV.isDef,setMany,AV.cells,ixL,wideL]
structure IxIs (h : AH) (v : AV) (n : Nat) : Prop where
 base : ∀ o,o < 23→h.get o=hB1.get o
 lists : h.get 23=some (.map [])
 ix : h.get 24=some (.cells (ixL (.ptr 26 0)) true)
 pool : PoolX h 26 1024 0 n v 25
 new : ∀ o∈objs v,27≤o
 next : 27≤h.next
 low : Low h
theorem low_tr (n : Nat) : ∀ (l : List (Nat×AObj)) (t : Tr AObj),Low ⟨n,t⟩→(l.all fun p => Nat.blt p.1 n)=true→Low ⟨n,l.foldl (fun t p => Tr.set t p.1 p.2) t⟩
 | [],t,h,_ => h
 | p :: l,t,h,e => by
  simp only [List.all_cons,Bool.and_eq_true] at e
  exact low_tr n l _ (Low.set (h:=⟨n,t⟩) h (by have:=e.1; simp only [Nat.blt_eq] at this; exact this) p.2) e.2
theorem hB1_low : Low hB1 :=
 low_tr 23 _ hA1.tr (fun o x hx => Nat.lt_of_lt_of_le (lowA1 o x hx) (show (2 : Nat)≤23 by decide)) (by kernel_rfl)
theorem docs_gives : Gives T3 12 [.agg wideL] hA2 fun r h => r = .tuple [.ptr 24 0,I 0]∧∃ v,IxIs h v 1024:=by
 refine gives_func rfl (fitsA3.at (fn:=a12) rfl) rfl ?_
 have hw : wideL.length=8:=rfl
 have l8 : loadV (hA2.new (.cells wideL true)) true 8 (.ptr hA2.next 0)=some (.agg wideL):=load_all get_new_same hw
 have nx : hA2.next=1:=rfl
 have l8A : loadV hA1 true 8 (.ptr 1 0)=some (.agg wideL):=by rw [hA1_new]; exact l8
 simp only [a12,c12,vms,vmc,AOpd.val,Nat.reduceEqDiff,reduceCtorEq,Nat.reduceAdd,Nat.reduceBEq,box_agg,← hA1_new,nx,l8A]
 refine Gives.bind (mem_gives.mono ?_)
 rintro _ _ ⟨rfl,rfl⟩
 have d0 : ((0 : Int) != 0)=false:=rfl
 have l8' : loadV hB1 true 8 (.ptr 1 0)=some (.agg wideL):=by kernel_rfl
 have n1 : hB1.next=23:=rfl
 have n2 : (hB1.new (.map [])).next=24:=rfl
 simp only [vms,vmc,AOpd.val,Nat.reduceEqDiff,reduceCtorEq,Nat.reduceAdd,Nat.reduceBEq,d0,l8',n1,ix_fill,box_agg,n2]
 have lo2 : Low ((hB1.new (.map [])).new (.cells (ixL .nilPtr) true)):=(hB1_low.new _).new _
 have g23 : ((hB1.new (.map [])).new (.cells (ixL .nilPtr) true)).get 23=some (.map []):=rfl
 have g24 : ((hB1.new (.map [])).new (.cells (ixL .nilPtr) true)).get 24=some (.cells (ixL .nilPtr) true):=rfl
 have gB : ∀ o,o < 23→((hB1.new (.map [])).new (.cells (ixL .nilPtr) true)).get o=hB1.get o:=fun o ho => by
  rw [AH.get_new,if_neg (by rw [n2]; omega),AH.get_new,if_neg (by rw [n1]; omega)]
 have n3 : ((hB1.new (.map [])).new (.cells (ixL .nilPtr) true)).next=25:=rfl
 generalize (hB1.new (.map [])).new (.cells (ixL .nilPtr) true)=h2 at lo2 g23 g24 gB n3
 refine Gives.bind ((pnew_ok fitsA3 (most:=1024) lo2 (by decide) (by decide)).mono ?_)
 rintro _ h3 ⟨rfl,P3,on3,lo3,nx3⟩
 rw [n3] at P3 nx3
 have nb : ∀ o i,nilChkV (.ptr o i)=some (.ptr o i):=fun _ _ => rfl
 have fa : fieldAddrV 11 (.ptr 24 0)=some (.ptr 24 11):=rfl
 have k24 : h3.get 24=some (.cells (ixL .nilPtr) true):=(on3.2 24 (by omega) (by simp)).trans g24
 have st : storeV h3 1 (.ptr 24 11) (.ptr 26 0)=some (h3.set 24 (.cells (ixL (.ptr 26 0)) true)):=store_at (i:=11) k24 (by simp [ixL]) rfl rfl
 simp only [vms,vmc,AOpd.val,Nat.reduceEqDiff,reduceCtorEq,Nat.reduceAdd,Nat.reduceBEq,n3,nb,fa,st]
 have I0 : IxIs (h3.set 24 (.cells (ixL (.ptr 26 0)) true)) .nilSlice 0:=by
  refine ⟨fun o ho => ?_,?_,get_set_same,(P3 0).keep fun o ho => ?_,fun o ho => by simp [objs] at ho,by rw [next_set]; omega,lo3.set (by omega) _⟩
  ·rw [AH.get_set,if_neg (by omega),on3.2 o (by omega) (by simp)]; exact gB o ho
  ·rw [AH.get_set,if_neg (by omega),on3.2 23 (by omega) (by simp)]; exact g23
  ·simp only [footX,objs,List.mem_cons,List.not_mem_nil,or_false] at ho
   rw [AH.get_set,if_neg (by omega)]
 refine wpc_loop (fun m f h' => ∃ i v,m=1024 - i∧i≤1024∧f.at 6 = .ptr 24 0∧f.at 28 = .int .i64 (i : Nat)∧IxIs h' v i) ?_ 1024 _ _ ⟨0,.nilSlice,rfl,by omega,?_⟩
 ·rintro m f h' ⟨i,v,rfl,hi,f6,f28,J⟩
  simp only [c12l0,vms,vmc,AOpd.val,Nat.reduceEqDiff,reduceCtorEq,Nat.reduceAdd,Nat.reduceBEq,f6,f28]
  by_cases hlt : i < 1024
  ·have hd : decide ((i : Int) < 1024)=true:=by rw [decide_eq_true_eq]; omega
   have lf : loadV h' false 1 (.ptr 24 11)=some (.ptr 26 0):=load_at J.ix rfl
   simp only [hd,vms,vmc,AOpd.val,Nat.reduceEqDiff,reduceCtorEq,Nat.reduceAdd,Nat.reduceBEq,f6,f28,nb,fa,lf]
   have pr:=put_rise fitsA3 J.pool J.low (by omega) (by omega)
   rw [Nat.zero_add] at pr
   refine Gives.bind (pr.mono ?_)
   rintro _ h4 ⟨rfl,v4,P4,nv4,on4,lo4⟩
   have w1 : IntKind.i64.wrap ((i : Int) + 1)=((i + 1 : Nat) : Int):=by rw [wrap_i64 (by omega) (by omega)]; rfl
   have hx:=J.next
   have out : ∀ o,o < 25→h4.get o=h'.get o:=fun o ho => on4.2 o (by omega) (by
    simp only [footX,List.mem_cons,not_or]
    exact ⟨by omega,by omega,fun e => by have:=J.new o e; omega⟩)
   simp only [vms,vmc,AOpd.val,Nat.reduceEqDiff,reduceCtorEq,Nat.reduceAdd,Nat.reduceBEq,f6,f28,w1]
   exact ⟨1024 - (i + 1),by omega,i + 1,v4,rfl,by omega,trivial,rfl,fun o ho => (out o (by omega)).trans (J.base o ho),(out 23 (by omega)).trans J.lists,(out 24 (by omega)).trans J.ix,P4,fun o ho => by have:=nv4 o ho; omega,by have:=on4.1; omega,lo4⟩
  ·have hd : decide ((i : Int) < 1024)=false:=by rw [decide_eq_false_iff_not]; omega
   have : i=1024:=by omega
   subst this
   simp only [hd,vms,vmc,AOpd.val,Nat.reduceEqDiff,reduceCtorEq,Nat.reduceAdd,Nat.reduceBEq,f6]
   exact ⟨trivial,v,J⟩
 ·simp only [vms,vmc,AOpd.val,Nat.reduceEqDiff,reduceCtorEq,Nat.reduceAdd,Nat.reduceBEq]
  exact ⟨trivial,rfl,I0⟩
theorem same_base (o big : Nat) : ((List.range 21).all fun i => match hB2.get (1 + i),hB1.get (2 + i) with
  | some a,some y => objB (rhoL 1 big [2,3,4,5,6,7,8,9,10,11,12,13,14,15,16,17,18,19,20,21,22,23,24,25,26,o]) a y
  | _,_ => false)=true:=by kernel_rfl
theorem keys1024 : setOf (ints 0 1024)=keysM (upI 0 1024):=by kernel_rfl
theorem ints1024 : ints 0 1024=ups 0 1024:=by kernel_rfl
theorem gc2 {h : AH} {v : AV} (J : IxIs h v 1024) : ∃ ρ,Gc hA2 h hB2 ρ (.tuple [.ptr 23 0,I 0]) (.tuple [.ptr 24 0,I 0]):=by
 obtain ⟨o,rfl,ro⟩:=J.pool.row.some (by decide)
 have hno:=J.new o (by simp [objs])
 have hol : o < h.next:=J.low _ _ ro
 have hnx:=J.next
 have rh : ∀ i p,([2,3,4,5,6,7,8,9,10,11,12,13,14,15,16,17,18,19,20,21,22,23,24,25,26,o] : List Nat)[i]?=some p→rhoL 1 h.next [2,3,4,5,6,7,8,9,10,11,12,13,14,15,16,17,18,19,20,21,22,23,24,25,26,o] (1 + i)=p:=fun i p e => rhoL_new e
 refine ⟨rhoL 1 h.next [2,3,4,5,6,7,8,9,10,11,12,13,14,15,16,17,18,19,20,21,22,23,24,25,26,o],gc_list (h0:=hA2) (l:=[2,3,4,5,6,7,8,9,10,11,12,13,14,15,16,17,18,19,20,21,22,23,24,25,26,o]) rfl ?_ ?_ ?_ ?_ ?_⟩
 ·simp; omega
 ·intro p hp
  show 1≤p∧p < h.next
  simp only [List.mem_cons,List.not_mem_nil,or_false] at hp
  omega
 ·intro p x ho hx
  have ho : p < 1:=ho
  obtain rfl : p=0:=by omega
  have g0 : hB2.get 0=some (.cells wideL true):=rfl
  rw [g0] at hx; cases hx
  exact ⟨_,(J.base 0 (by omega)).trans (show hB1.get 0=some (.cells wideL true) from rfl),ORen.same_ints wide_ints⟩
 ·intro i p x hp hx
  have hi : i < 26:=(List.getElem?_eq_some_iff.1 hp).1
  have hx : hB2.get (1 + i)=some x:=hx
  rcases Nat.lt_or_ge i 21 with h21 | h21
  ·have hb:=List.all_eq_true.1 (same_base o h.next) i (List.mem_range.2 h21)
   rw [hx] at hb
   have hpi : p=2 + i:=by
    have e : ([2,3,4,5,6,7,8,9,10,11,12,13,14,15,16,17,18,19,20,21,22] : List Nat)[i]?=some p:=by
     rw [← hp]; symm
     exact List.getElem?_append_left (l₁:=[2,3,4,5,6,7,8,9,10,11,12,13,14,15,16,17,18,19,20,21,22]) (l₂:=[23,24,25,26,o]) h21
    have e2 : ∀ i,i < 21→([2,3,4,5,6,7,8,9,10,11,12,13,14,15,16,17,18,19,20,21,22] : List Nat)[i]?=some (2 + i):=by decide
    rw [e2 i h21] at e
    cases e; rfl
   subst hpi
   rw [J.base (2 + i) (by omega)]
   cases hy : hB1.get (2 + i) with
   | none => rw [hy] at hb; cases hb
   | some y => rw [hy] at hb; exact ⟨y,rfl,obj_of hb⟩
  ·match i,hi,h21 with
   | 21,_,_ =>
    cases hp; cases hx
    exact ⟨_,J.lists,rfl,fun i p q hp => by simp at hp⟩
   | 22,_,_ =>
    cases hp; cases hx
    exact ⟨_,J.ix,rfl,.cons (.int _ _ _) (.cons (.int _ _ _) (.cons (.int _ _ _) (.cons (.int _ _ _) (.cons (.int _ _ _) (.cons (.int _ _ _) (.cons (.int _ _ _) (.cons (.int _ _ _) (.cons (.ptr 0 (rh 20 _ rfl)) (.cons (.nilSlice _) (.cons (.map (rh 21 _ rfl)) (.cons (.ptr 0 (rh 24 _ rfl)) (.nil _))))))))))))⟩
   | 23,_,_ =>
    cases hp; cases hx
    exact ⟨_,J.pool.keys,by rw [keys1024]; exact keys_ren _⟩
   | 24,_,_ =>
    cases hp; cases hx
    exact ⟨_,J.pool.obj,rfl,.cons (.int _ _ _) (.cons (.slice 0 1 1024 1024 false (rh 25 _ rfl)) (.cons (.map (rh 23 _ rfl)) (.nil _)))⟩
   | 25,_,_ =>
    cases hp; cases hx
    exact ⟨_,ro,by rw [ints1024]; exact ORen.same_ints (ups_ints _ _)⟩
 ·exact .tuple (.cons (.ptr 0 (rh 22 _ rfl)) (.cons (.int _ _ _) (.nil _)))
theorem sim2 : CSim Tryz.prog 12 lit2.args lit2.h lit2.r lit2.h' :=
 gives_gc T3_ok rfl (docs_gives.mono fun r h ⟨hr,v,J⟩ => by
  subst hr
  exact gc2 J)
def T4 : Vm.Prog:=withEnv T3 12 (litFind [lit2])
theorem T4_ok : TabOk Tryz.prog T4:=lits_sim T3_ok fun l hl => by
 simp only [List.mem_cons,List.not_mem_nil,or_false] at hl
 subst hl; exact sim2
end Go.Proofs.YtakgcpmemalmaaaGreatDoor

/- Laws with arguments: the objects that came in; a closed sentence behind others; what the book's small functions come to. -/
import Derived.Test.YtakgcpmemalmaaaGreatDoorVmX
import Derived.KernelRfl
import Derived.WideShapes
import Derived.DataReads
namespace Go.Vm
open Go.RowKit
set_option linter.unusedSimpArgs false
set_option linter.unusedVariables false
section
variable {π : Pin} {N : Keep π} {w₀ w w' : World} {μ : Inj} {h : AH}
theorem R.grow (r : R N w₀ μ h w) (hb : Below w.heap.size w w') : R N w₀ μ h w' where
 below:=r.below.trans ⟨hb.os,hb.tape,hb.output,hb.size,fun k hk => hb.block k (r.fresh k hk)⟩
 fresh:=r.fresh.grow hb.size
 dom:=r.dom
 obj:=fun o b base size x ho hx => by
  by_cases hd : x = .dead
  ·subst hd; trivial
  ·have hlt : b < w.heap.size:=by
    have:=r.obj o b base size x ho hx
    rcases Nat.lt_or_ge b w.heap.size with hb | hb
    ·exact hb
    ·exfalso
     have hn : w.heap[b]?=none:=Array.getElem?_eq_none hb
     cases x with
     | cells l rw => obtain ⟨C,e,fz,h1,_⟩:=this; rw [hn] at h1; cases h1
     | map es => obtain ⟨_,_,ces,clock,h1,_⟩:=this; rw [hn] at h1; cases h1
     | dead => exact hd rfl
     | marked l => obtain ⟨C,e,fz,h1,_⟩:=this; rw [hn] at h1; cases h1
   exact (r.obj o b base size x ho hx).of_block (hb.block b hlt)
 inj:=r.inj
 pin:=r.pin
theorem R.row (r : R N w₀ μ h w) {l : List AV} {b base size : Nat} {C : Array Value} {e : TypeId} {fz : Nat×Nat} (hb : w.heap[b]?=some (.cells C e fz)) (hs : C.size=size) (hl : base + l.length≤size) (hN : N.came b)
  (hv : ∀ (i : Nat) (u : AV) (v : Value),l[i]?=some u→C[base + i]?=some v→VRel (Inj.add μ h.next (b,base,size)) u v) :
  Inj.le μ (Inj.add μ h.next (b,base,size))∧R N w₀ (Inj.add μ h.next (b,base,size)) (h.new (.cells l false)) w:=by
 have hnone : μ h.next=none:=by
  cases hm : μ h.next with
  | none => rfl
  | some y => have:=r.dom _ _ hm; omega
 have hle:=Inj.le_add (μ:=μ) (o:=h.next) (b,base,size) hnone
 have hns : ∀ q,(h.new (.cells l false)).solid q=true→q≠h.next∧h.solid q=true:=by
  intro q hq
  obtain ⟨y,hy,hs⟩:=solid_iff.1 hq
  rw [AH.get_new] at hy
  split at hy
  ·cases hy; cases hs
  ·rename_i e; exact ⟨Ne.symm e,solid_iff.2 ⟨y,hy,hs⟩⟩
 refine ⟨hle,⟨r.below,r.fresh,?_,?_,?_,pin_mono hle r.pin⟩⟩
 ·intro o y hy
  unfold Inj.add at hy
  split at hy
  ·simp [AH.next_new]; omega
  ·have:=r.dom _ _ hy; simp [AH.next_new]; omega
 ·intro o b' base' size' y ho hy
  unfold Inj.add at ho
  rw [AH.get_new] at hy
  split at ho
  ·rename_i e
   subst e
   rw [if_pos rfl] at hy
   cases ho; cases hy
   refine ⟨C,_,fz,hb,hs,hl,hv,?_⟩
   simp only [Bool.false_eq_true,if_false]
   exact hN
  ·rename_i e
   rw [if_neg (Ne.symm e)] at hy
   exact (r.obj o b' base' size' y ho hy).mono hle
 ·intro o p x' y' ho hp hne ro rp
  obtain ⟨eo,so⟩:=hns o ro
  obtain ⟨ep,sp⟩:=hns p rp
  unfold Inj.add at ho hp
  rw [if_neg eo] at ho
  rw [if_neg ep] at hp
  exact r.inj o p x' y' ho hp hne so sp
end
def yes : List AV→AH→Option (AV×AH):=fun args h => if args.isEmpty then some (.bool true,h) else none
theorem yes_ok {P : Program} {g : Nat} (hc : CallOk P g) (hcl : ∀ w,Calls P g #[] w fun e w' => e = .returned (.bool true)∧Below w.heap.size w w') :
  ∀ args h r h',yes args h=some (r,h')→CallOk P g∧ASim P g args h r h':=by
 intro args h r h' hr
 unfold yes at hr
 split at hr
 ·rename_i he
  cases hr
  have hargs : args=[]:=List.isEmpty_iff.1 he
  subst hargs
  refine ⟨hc,?_⟩
  intro π N w₀ μ w vargs hR hv
  have hva : vargs=#[]:=by
   have:=hv.1
   simp at this
   exact Array.eq_empty_of_size_eq_zero (by omega)
  subst hva
  refine (hcl w).mono ?_
  rintro e w' ⟨rfl,hb⟩
  exact ⟨μ,_,rfl,Inj.Ext.refl (Nat.le_refl _),hR.grow hb,.bool _⟩
 ·cases hr
theorem closed_yes {P : Program} {T : Prog} (hT : TabOk P T) {k g : Nat} (hr : saysTrue (arun T k g [] AH.empty)=true) (he : T.env g=none:=by rfl) : ∀ args h r h',yes args h=some (r,h')→CallOk P g∧ASim P g args h r h':=by
 obtain ⟨h',hr'⟩:=saysTrue_inv hr
 exact yes_ok (arun_body hT he hr').1 (fun w => calls_closed hT hr w he)
def withYes (func : Nat→Option AFunc) (g : Nat) : Prog:=⟨func,fun n => if n=g then some yes else none⟩
theorem bare_ok {P : Program} {func : Nat→Option AFunc} (hf : ∀ g af,func g=some af→∃ fn,P.funcs[g]?=some fn∧cFunc P fn=some af) (hs : Nat.ble P.funcs.size YB=true:=by kernel_rfl) : TabOk P ⟨func,fun _ => none⟩ where
 low:=Nat.le_of_ble_eq_true hs
 func:=hf
 env:=fun n e he => by cases he
theorem law_calls {P : Program} {T : Prog} (hT : TabOk P T) {g : Nat} {args : List AV} {h : AH} {w : World} {μ : Inj} {vargs : Array Value} (hR : R (till w.heap.size) w μ h w) (hv : VRels μ args vargs.toList)
  (hr : Gives T g args h fun r _ => r = .bool true) (he : T.env g=none:=by rfl) : Calls P g vargs w fun e w' => e = .returned (.bool true)∧Below w.heap.size w w':=by
 obtain ⟨r,h',hr,rfl⟩:=hr
 refine ((run_body hT he hr).2 (till w.heap.size) w μ w vargs hR hv).mono ?_
 rintro e w' ⟨μ',v',rfl,_,hR',hv'⟩
 rw [hv'.bool_inv]
 exact ⟨rfl,hR'.below.below⟩
noncomputable section
def callY (func : Nat→Option AFunc) (y : Nat) (ih : Handler) (lf : Nat) (g : Nat) (args : List AV) (h : AH) : Option (AV×AH):=Bool.rec (callT func ih lf g args h) (yes args h) (Nat.beq g y)
def arunY (func : Nat→Option AFunc) (y : Nat) (n : Nat) : Handler:=@Nat.rec (fun _ => Handler) (fun _ _ _ => none) (fun n ih => callY func y ih (Nat.succ n)) n
end
def guardB (v : AV) (w : Bool) (x : Option (AV×AH)) (h : AH) : Option (AV×AH) :=
 match v with
 | .bool b => if b=w then x else some (.none,h)
 | .tuple _ => some (.none,h)
 | _ => none
section
variable {f : Fr} {h : AH} {x : Option (AV×AH)}
theorem guard_eq {t : Nat} {w : Bool} : guardV f t w x h=guardB (f.at t) w x h:=by
 unfold guardV guardB
 cases f.at t <;> rfl
theorem guardB_tt : guardB (.bool true) true x h=x:=rfl
theorem guardB_ff : guardB (.bool false) false x h=x:=rfl
theorem guardB_tf : guardB (.bool true) false x h=some (.none,h):=rfl
theorem guardB_ft : guardB (.bool false) true x h=some (.none,h):=rfl
theorem guardB_none {w : Bool} : guardB .none w x h=some (.none,h):=rfl
theorem extract_0 {a : AV} {l : List AV} : extractV 0 (.tuple (a :: l))=some a:=rfl
theorem extract_1 {a b : AV} {l : List AV} : extractV 1 (.tuple (a :: b :: l))=some b:=rfl
theorem extract_2 {a b c : AV} {l : List AV} : extractV 2 (.tuple (a :: b :: c :: l))=some c:=rfl
theorem len_slice {o off z len cap : Nat} {ex : Bool} : lenOfV (.slice o off z len cap ex)=some len:=rfl
theorem len_nil : lenOfV .nilSlice=some 0:=rfl
theorem put_none {f : Fr} {v : AV} : f.put none v=f:=rfl
theorem pick_t {a b : AV} : pickV (.bool true) a b=some a:=rfl
theorem pick_f {a b : AV} : pickV (.bool false) a b=some b:=rfl
def rest (call : Handler) (r : List AOper) (d : Option Nat) (f : Fr) (p : AV×AH) : Option (Fr×AH):=runOps call r (f.put d p.1) p.2
theorem rest_mk {call : Handler} {r : List AOper} {d : Option Nat} {v : AV} : rest call r d f (v,h)=runOps call r (f.put d v) h:=rfl
theorem ops_next {call : Handler} {d : Option Nat} {o : AOp} {r : List AOper} : runOps call (⟨d,o,none⟩ :: r) f h=(stepV call o f h).bind (rest call r d f):=ops_cons
theorem ops_test {call : Handler} {d : Option Nat} {o : AOp} {t : Nat} {w : Bool} {r : List AOper} : runOps call (⟨d,o,some (t,w)⟩ :: r) f h=(guardB (f.at t) w (stepV call o f h) h).bind (rest call r d f):=by
 rw [ops_guard,guard_eq]; rfl
def ThenC (T : Prog) (b : ACode) (Q : AExit→Fr→AH→Prop) : AExit→Fr→AH→Prop:=Then (fun f h => Wp (code T b f h) Q) Q
theorem ThenC_normal {T : Prog} {b : ACode} {Q : AExit→Fr→AH→Prop} : ThenC T b Q .normal f h↔Wp (code T b f h) Q:=Iff.rfl
theorem ThenC_exit {T : Prog} {b : ACode} {Q : AExit→Fr→AH→Prop} {i : Nat} : ThenC T b Q (.exit i) f h↔Q (.exit i) f h:=Iff.rfl
theorem ThenC_ret {T : Prog} {b : ACode} {Q : AExit→Fr→AH→Prop} : ThenC T b Q .ret f h↔Q .ret f h:=Iff.rfl
theorem wpc_first {T : Prog} {a b : ACode} {Q : AExit→Fr→AH→Prop} : Wp (code T (.seq a b) f h) Q↔Wp (code T a f h) (ThenC T b Q):=wpc_seq
def CondC (T : Prog) (a b : ACode) (f : Fr) (h : AH) (Q : AExit→Fr→AH→Prop) (v : AV) : Prop:=CondW v (Wp (code T a f h) Q) (Wp (code T b f h) Q)
theorem wpc_test {T : Prog} {c : AOpd} {a b : ACode} {Q : AExit→Fr→AH→Prop} : Wp (code T (.cond c a b) f h) Q↔CondC T a b f h Q (c.val f):=wpc_if
theorem CondC_true {T : Prog} {a b : ACode} {Q : AExit→Fr→AH→Prop} : CondC T a b f h Q (.bool true)↔Wp (code T a f h) Q:=Iff.rfl
theorem CondC_false {T : Prog} {a b : ACode} {Q : AExit→Fr→AH→Prop} : CondC T a b f h Q (.bool false)↔Wp (code T b f h) Q:=Iff.rfl
theorem CondC_both {T : Prog} {a b : ACode} {Q : AExit→Fr→AH→Prop} {t : Bool} : CondC T a b f h Q (.bool t)↔if t=true then Wp (code T a f h) Q else Wp (code T b f h) Q:=CondW_bool
def boxV (h : AH) (v : AV) : Option (AV×AH):=if v.isDef then some (.ptr h.next 0,h.new (.cells v.cells true)) else none
theorem step_box {call : Handler} {x : AOpd} : stepV call (.box x) f h=boxV h (x.val f) :=
 stepV_val (by simp only [AOp.eval,boxV]; split <;> rfl)
theorem box_agg {l : List AV} : boxV h (.agg l)=some (.ptr h.next 0,h.new (.cells l true)):=rfl
def eqAggV (ks : List Nat) (neg : Bool) : AV→AV→Option AV
 | .agg l,.agg m => (leavesEq ks l m).map fun b => .bool (if neg then !b else b)
 | _,_ => none
theorem step_eqAgg {call : Handler} {ks : List Nat} {n : Bool} {x y : AOpd} : stepV call (.eqAgg ks n x y) f h=(eqAggV ks n (x.val f) (y.val f)).map fun v => (v,h) :=
 stepV_map (by
  simp only [AOp.eval]; generalize x.val f=p; generalize y.val f=q
  cases p with
  | agg l =>
   cases q with
   | agg m => simp only [eqAggV]; cases leavesEq ks l m <;> rfl
   | _ => rfl
  | _ => rfl)
theorem load_all {h : AH} {o n : Nat} {l : List AV} {rw' : Bool} (hg : h.get o=some (.cells l rw')) (hl : l.length=n) : loadV h true n (.ptr o 0)=some (.agg l):=by
 subst hl
 simp [loadV,AH.load,hg]
theorem load_at {h : AH} {o i : Nat} {l : List AV} {rw' : Bool} {v : AV} (hg : h.get o=some (.cells l rw')) (hl : l[i]?=some v) : loadV h false 1 (.ptr o i)=some v:=by
 have hi : i < l.length:=by
  rcases Nat.lt_or_ge i l.length with h' | h'
  ·exact h'
  ·rw [List.getElem?_eq_none h'] at hl; cases hl
 simp only [loadV,AH.load,hg,Bool.false_eq_true,if_false]
 rw [if_pos (by omega),List.drop_eq_getElem_cons hi]
 rw [List.getElem?_eq_getElem hi] at hl
 simp only [Option.some.injEq] at hl
 simp [hl]
theorem store_at {h : AH} {o i : Nat} {l : List AV} {v : AV} (hg : h.get o=some (.cells l true)) (hi : i < l.length) (hv : v.cells=[v]) (hf : v.flat=true) : storeV h 1 (.ptr o i) v=some (h.set o (.cells (l.set i v) true)):=by
 simp only [storeV,hv,List.length_cons,List.length_nil,AH.store,hg,List.all_cons,List.all_nil,hf,Bool.and_true,setMany]
 rw [if_pos trivial,if_pos ⟨by omega,trivial⟩]
theorem store_int {h : AH} {o i : Nat} {l : List AV} {k : IntKind} {n : Int} (hg : h.get o=some (.cells l true)) (hi : i < l.length) : storeV h 1 (.ptr o i) (.int k n)=some (h.set o (.cells (l.set i (.int k n)) true)):=store_at hg hi rfl rfl
theorem get_set_same {h : AH} {o : Nat} {x : AObj} : (h.set o x).get o=some x:=by rw [AH.get_set,if_pos rfl]
theorem get_new_same {h : AH} {x : AObj} : (h.new x).get h.next=some x:=by rw [AH.get_new,if_pos rfl]
theorem next_set {h : AH} {o : Nat} {x : AObj} : (h.set o x).next=h.next:=rfl
theorem next_new {h : AH} {x : AObj} : (h.new x).next=h.next + 1:=rfl
theorem Ext.get {a b : AH} (k : Ext a b) {o : Nat} {x : AObj} (hx : a.get o=some x) (ho : o < a.next) : b.get o=some x:=(k.2 o ho).trans hx
end
def cWithin : ACode:=(.seq (.ops [⟨(some 6),.mov (.con (.int .i64 0)),none⟩])
 (.seq (.ops [⟨(some 7),.mov (.tmp 0),none⟩,
  ⟨(some 8),.mov (.tmp 2),none⟩,
  ⟨(some 9),.mov (.tmp 1),none⟩,
  ⟨(some 10),.bin .sub (.tmp 8) (.tmp 9),none⟩,
  ⟨(some 11),.bin .add (.tmp 10) (.con (.int .i64 1)),none⟩,
  ⟨(some 12),.bin .rem (.tmp 7) (.tmp 11),none⟩,
  ⟨(some 0),.mov (.tmp 12),none⟩])
 (.seq (.seq (.ops [⟨(some 13),.mov (.tmp 0),none⟩,
  ⟨(some 14),.bin .lss (.tmp 13) (.con (.int .i64 0)),none⟩])
 (.cond (.tmp 14)
 (.ops [⟨(some 15),.mov (.tmp 0),none⟩,
  ⟨(some 16),.mov (.tmp 2),none⟩,
  ⟨(some 17),.bin .add (.tmp 15) (.tmp 16),none⟩,
  ⟨(some 18),.mov (.tmp 1),none⟩,
  ⟨(some 19),.bin .sub (.tmp 17) (.tmp 18),none⟩,
  ⟨(some 20),.bin .add (.tmp 19) (.con (.int .i64 1)),none⟩,
  ⟨(some 0),.mov (.tmp 20),none⟩])
 .skip))
 (.seq (.ops [⟨(some 21),.mov (.tmp 1),none⟩,
  ⟨(some 22),.mov (.tmp 0),none⟩,
  ⟨(some 23),.bin .add (.tmp 21) (.tmp 22),none⟩,
  ⟨(some 6),.mov (.tmp 23),none⟩])
 .ret))))
def aWithin : AFunc:=⟨3,cWithin,[.tmp 6]⟩
variable {T : Prog} {h : AH}
theorem within_ok {g : Nat} (he : T.env g=none) (hf : T.func g=some aWithin) {n lo hi : Int} (h1 : lo≤hi) (h2 : -1152921504606846976≤lo) (h3 : hi≤1152921504606846976) :
  Gives T g [.int .i64 n,.int .i64 lo,.int .i64 hi] h fun r h' => ∃ m,r = .int .i64 m∧lo≤m∧m≤hi∧h'=h:=by
 refine gives_func he hf rfl ?_
 have e1 : IntKind.i64.wrap (hi - lo)=hi - lo:=wrap_i64 (by omega) (by omega)
 have e2 : IntKind.i64.wrap (hi - lo + 1)=hi - lo + 1:=wrap_i64 (by omega) (by omega)
 have hb : hi - lo + 1≠0:=by omega
 have r1:=Int.tmod_lt_of_pos n (show 0 < hi - lo + 1 by omega)
 have r2 : -(hi - lo + 1) < n.tmod (hi - lo + 1):=Int.lt_tmod_of_pos n (by omega)
 simp only [aWithin,cWithin,wpc_first,wpc_ops,wpc_skip,wpc_exit,wpc_ret,wpc_block,wpc_test,ops_next,ops_nil,ops_test,step_mov,step_bin,step_un,step_pick,step_eqB,step_eqNil,step_toInt,step_lenStr,step_lenSlice,step_extract,step_fieldAddr,step_field,step_nilChk,step_idxAddr,step_idxStr,step_load,step_store,step_slc,step_slcStr,step_mkSlice,step_toStr,step_append,step_copy,step_buildSlice,step_build,step_new,step_call,Option.bind_some,Option.map_some,AOpd.val,Fr.at_put,at_ofArgs,Wo_some,Then_normal,Then_exit,Then_ret,InBlock_normal,InBlock_ret,InBlock_exit,Ends_ret,Ends_normal,res_nil,res_tmp,tuple_one,tuple_two,some_one,CondC_true,bin_add,bin_sub,bin_mul,bin_eql,bin_neq,bin_lss,bin_leq,bin_gtr,bin_geq,bin_str_eql,bin_str_neq,un_not,toInt_int,lenStr_str,pick_bool,List.getElem?_cons_zero,List.getElem?_cons_succ,Option.getD_some,Option.getD_none,List.map_cons,List.map_nil,Option.map_none,List.length_map,Nat.reduceEqDiff,if_true,if_false,reduceCtorEq,Nat.reduceAdd,Nat.reduceBEq,guardB_tt,guardB_ff,guardB_tf,guardB_ft,guardB_none,pick_t,pick_f,beq_self_eq_true,bne_self_eq_false,decide_true,decide_false,Bool.not_true,Bool.not_false,put_none,len_slice,len_nil,rest_mk,ThenC_normal,ThenC_exit,ThenC_ret,CondC_false,CondC_both,extract_0,extract_1,extract_2,e1,e2,bin_rem hb]
 generalize n.tmod (hi - lo + 1)=m at r1 r2
 by_cases hm : m < 0
 ·simp only [hm,decide_true,if_true]
  have e3 : IntKind.i64.wrap (m + hi)=m + hi:=wrap_i64 (by omega) (by omega)
  have e4 : IntKind.i64.wrap (m + hi - lo)=m + hi - lo:=wrap_i64 (by omega) (by omega)
  have e5 : IntKind.i64.wrap (m + hi - lo + 1)=m + hi - lo + 1:=wrap_i64 (by omega) (by omega)
  have e6 : IntKind.i64.wrap (lo + (m + hi - lo + 1))=lo + (m + hi - lo + 1):=wrap_i64 (by omega) (by omega)
  simp only [wpc_first,wpc_ops,wpc_skip,wpc_exit,wpc_ret,wpc_block,wpc_test,ops_next,ops_nil,ops_test,step_mov,step_bin,step_un,step_pick,step_eqB,step_eqNil,step_toInt,step_lenStr,step_lenSlice,step_extract,step_fieldAddr,step_field,step_nilChk,step_idxAddr,step_idxStr,step_load,step_store,step_slc,step_slcStr,step_mkSlice,step_toStr,step_append,step_copy,step_buildSlice,step_build,step_new,step_call,Option.bind_some,Option.map_some,AOpd.val,Fr.at_put,at_ofArgs,Wo_some,Then_normal,Then_exit,Then_ret,InBlock_normal,InBlock_ret,InBlock_exit,Ends_ret,Ends_normal,res_nil,res_tmp,tuple_one,tuple_two,some_one,CondC_true,bin_add,bin_sub,bin_mul,bin_eql,bin_neq,bin_lss,bin_leq,bin_gtr,bin_geq,bin_str_eql,bin_str_neq,un_not,toInt_int,lenStr_str,pick_bool,List.getElem?_cons_zero,List.getElem?_cons_succ,Option.getD_some,Option.getD_none,List.map_cons,List.map_nil,Option.map_none,List.length_map,Nat.reduceEqDiff,if_true,if_false,reduceCtorEq,Nat.reduceAdd,Nat.reduceBEq,guardB_tt,guardB_ff,guardB_tf,guardB_ft,guardB_none,pick_t,pick_f,beq_self_eq_true,bne_self_eq_false,decide_true,decide_false,Bool.not_true,Bool.not_false,put_none,len_slice,len_nil,rest_mk,ThenC_normal,ThenC_exit,ThenC_ret,CondC_false,CondC_both,extract_0,extract_1,extract_2,e3,e4,e5,e6]
  exact ⟨_,rfl,by omega,by omega,trivial⟩
 ·simp only [hm,decide_false,if_false]
  have e6 : IntKind.i64.wrap (lo + m)=lo + m:=wrap_i64 (by omega) (by omega)
  simp only [wpc_first,wpc_ops,wpc_skip,wpc_exit,wpc_ret,wpc_block,wpc_test,ops_next,ops_nil,ops_test,step_mov,step_bin,step_un,step_pick,step_eqB,step_eqNil,step_toInt,step_lenStr,step_lenSlice,step_extract,step_fieldAddr,step_field,step_nilChk,step_idxAddr,step_idxStr,step_load,step_store,step_slc,step_slcStr,step_mkSlice,step_toStr,step_append,step_copy,step_buildSlice,step_build,step_new,step_call,Option.bind_some,Option.map_some,AOpd.val,Fr.at_put,at_ofArgs,Wo_some,Then_normal,Then_exit,Then_ret,InBlock_normal,InBlock_ret,InBlock_exit,Ends_ret,Ends_normal,res_nil,res_tmp,tuple_one,tuple_two,some_one,CondC_true,bin_add,bin_sub,bin_mul,bin_eql,bin_neq,bin_lss,bin_leq,bin_gtr,bin_geq,bin_str_eql,bin_str_neq,un_not,toInt_int,lenStr_str,pick_bool,List.getElem?_cons_zero,List.getElem?_cons_succ,Option.getD_some,Option.getD_none,List.map_cons,List.map_nil,Option.map_none,List.length_map,Nat.reduceEqDiff,if_true,if_false,reduceCtorEq,Nat.reduceAdd,Nat.reduceBEq,guardB_tt,guardB_ff,guardB_tf,guardB_ft,guardB_none,pick_t,pick_f,beq_self_eq_true,bne_self_eq_false,decide_true,decide_false,Bool.not_true,Bool.not_false,put_none,len_slice,len_nil,rest_mk,ThenC_normal,ThenC_exit,ThenC_ret,CondC_false,CondC_both,extract_0,extract_1,extract_2,e6]
  exact ⟨_,rfl,by omega,by omega,trivial⟩
end Go.Vm
/- Rows of integers that came in as arguments. -/
namespace Go.Vm
open Go.RowKit
set_option linter.unusedSimpArgs false
set_option linter.unusedVariables false
theorem rowAt_le {p : Program} {fits : TypeId→Bool} : ∀ {d : Nat} {e : TypeId} {count off n : Nat},rowAt p fits d e count off n=true→off≤count * p.cellsOf e
 | 0,e,count,off,n,h => by cases h
 | d + 1,e,count,off,n,h => by
  simp only [rowAt] at h
  by_cases hs : p.cellsOf e=0
  ·rw [if_pos hs] at h; cases h
  ·rw [if_neg hs] at h
   have hpos : 0 < p.cellsOf e:=Nat.pos_of_ne_zero hs
   have hdm:=Nat.div_add_mod off (p.cellsOf e)
   have hlt:=Nat.mod_lt off hpos
   generalize off / p.cellsOf e=i at *
   generalize off % p.cellsOf e=r at *
   rw [Bool.or_eq_true] at h
   rcases h with h | h
   ·simp only [Bool.and_eq_true,beq_iff_eq,decide_eq_true_eq] at h
    obtain ⟨⟨h1,h2⟩,_⟩:=h
    have : p.cellsOf e * i≤p.cellsOf e * count:=Nat.mul_le_mul_left _ (by omega)
    rw [Nat.mul_comm count]; omega
   ·simp only [Bool.and_eq_true,decide_eq_true_eq] at h
    have : p.cellsOf e * (i + 1)≤p.cellsOf e * count:=Nat.mul_le_mul_left _ (by omega)
    rw [Nat.mul_add] at this
    rw [Nat.mul_comm count]; omega
theorem liesAt_le {p : Program} : ∀ {d : Nat} {e u : TypeId} {count off n : Nat},liesAt p d e count off u n=true→off≤count * p.cellsOf e
 | 0,_,_,_,_,_,h => by cases h
 | d + 1,e,u,count,off,n,h => by
  simp only [liesAt,Bool.or_eq_true] at h
  rcases h with h | h
  ·exact rowAt_le h
  ·split at h
   ·exact liesAt_le h
   ·cases h
theorem okWide_at {P : Program} {w : World} {r : Reach} {base : Nat} {t e : TypeId} {x : Addr} {len cap : Nat} (ht : P.underlying t=some (.slice e)) (h : Value.okWide P w r base t (.slice (some x) len cap)) :
  x.spot=none∧∃ C te fz,w.heap[x.block]?=some (.cells C te fz)∧x.off≤C.size:=by
 simp only [Value.okWide,ht,Cell.okWide,Cell.ok,World.has] at h
 obtain ⟨_,_,_,hs,row,cells,hsh,hl⟩:=h
 refine ⟨hs,?_⟩
 unfold World.shape? at hsh
 split at hsh
 ·rename_i c te fz hb
  cases hsh
  refine ⟨_,_,_,hb,Nat.le_trans (liesAt_le hl) (Nat.div_mul_le_self _ _)⟩
 ·cases hsh
def RowIn (k : IntKind) (w : World) (a : Option Addr) (len cap : Nat) (zs : List Int) : Prop :=
 (a=none∧len=0∧cap=0∧zs=[]) ∨
 ∃ x C t fz,a=some x∧x.spot=none∧len≤cap∧zs.length=cap∧w.heap[x.block]?=some (.cells C t fz)∧x.off + cap≤C.size∧(∀ i,i < cap→C[x.off + i]?=some (.int k (zs.getD i 0)))∧∀ n∈zs,(Lit.int k n).wf=true
theorem RowIn.of {P : Program} {w : World} {r : Reach} {base : Nat} {t e : TypeId} {k : IntKind} {a : Option Addr} {len cap : Nat} {zs : List Int} (ht : P.underlying t=some (.slice e)) (h : Value.okWide P w r base t (.slice a len cap))
  (hr : (a=none∧len=0∧cap=0∧zs=[])∨∃ x,a=some x∧len≤cap∧cap≤maxLen∧zs.length=cap∧(∀ i,i < zs.length→w.cell? (x.add i)=some (.int k (zs.getD i 0)))∧∀ n∈zs,(Lit.int k n).wf=true) : RowIn k w a len cap zs:=by
 rcases hr with hr | ⟨x,rfl,h1,h2,h3,h4,h5⟩
 ·exact .inl hr
 ·obtain ⟨hs,C,te,fz,hb,ho⟩:=okWide_at ht h
  have hc : ∀ i,i < cap→C[x.off + i]?=some (.int k (zs.getD i 0)):=by
   intro i hi
   have:=h4 i (by omega)
   have e1 : (x.add i).block=x.block:=by unfold Addr.add; split <;> rfl
   have e2 : (x.add i).off=x.off + i:=by
    unfold Addr.add; split
    ·rename_i e; subst e; rfl
    ·rfl
   have e3 : (x.add i).spot=none:=by unfold Addr.add; split <;> first | exact hs | rfl
   unfold World.cell? at this
   rw [e1,hb] at this
   simp only [e2,e3,Option.isSome_none,Bool.false_eq_true,if_false] at this
   exact this
  refine .inr ⟨x,C,te,fz,rfl,hs,h1,h3,hb,?_,hc,h5⟩
  cases hcap : cap with
  | zero => simpa using ho
  | succ n =>
   have:=hc n (by omega)
   have:=(Array.getElem?_eq_some_iff.1 this).1
   omega
variable {π : Pin} {N : Keep π} {w₀ w : World} {μ : Inj} {h : AH}
def cameV (h : AH) (a : Option Addr) (len cap : Nat) : AV:=if a.isSome then .slice h.next 0 1 len cap true else .nilSlice
def cameH (h : AH) (k : IntKind) (a : Option Addr) (zs : List Int) : AH:=if a.isSome then h.new (.cells (zs.map (.int k)) false) else h
theorem R.came (r : R N w₀ μ h w) (hN : ∀ b,b < w.heap.size→N.came b) {k : IntKind} {a : Option Addr} {len cap : Nat} {zs : List Int} (hr : RowIn k w a len cap zs) :
  ∃ μ',Inj.le μ μ'∧R N w₀ μ' (cameH h k a zs) w∧VRel μ' (cameV h a len cap) (.slice a len cap):=by
 rcases hr with ⟨rfl,rfl,rfl,rfl⟩ | ⟨x,C,t,fz,rfl,hs,h1,h2,hb,h3,h4,h5⟩
 ·exact ⟨μ,fun _ _ h => h,r,.nilSlice⟩
 ·have hlt : x.block < w.heap.size:=(Array.getElem?_eq_some_iff.1 hb).1
  obtain ⟨hle,hR⟩:=r.row (l:=zs.map (.int k)) (base:=x.off) hb rfl (by simpa [h2] using h3) (hN _ hlt) (by
   intro i u v hu hv
   simp only [List.getElem?_map,Option.map_eq_some_iff] at hu
   obtain ⟨n,hn,rfl⟩:=hu
   have hi : i < cap:=by
    have:=(List.getElem?_eq_some_iff.1 hn).1
    omega
   rw [h4 i hi] at hv
   cases hv
   rw [List.getD_eq_getElem?_getD,hn]
   exact .int _ _)
  refine ⟨_,hle,hR,?_⟩
  obtain ⟨xb,xo,xs⟩:=x
  simp only at hs
  subst hs
  exact .slice (μ:=Inj.add μ h.next (xb,xo,C.size)) (base:=xo) (size:=C.size) (by simp [Inj.add]) h1 rfl (by simpa using h3) (.inl rfl)
theorem VRel.ints {μ : Inj} {k : IntKind} (l : List Int) : VRel μ (.agg (l.map (AV.int k))) (.agg (l.map (Value.int k)).toArray):=by
 refine VRel.agg_iff.2 ⟨_,rfl,?_⟩
 refine ⟨by simp,fun i u v hu hv => ?_⟩
 simp only [List.getElem?_map,Option.map_eq_some_iff] at hu hv
 obtain ⟨x,hx,rfl⟩:=hu
 obtain ⟨y,hy,rfl⟩:=hv
 rw [hx] at hy; cases hy
 exact .int _ _
end Go.Vm
/- More steps: methods by interface values,assertions,maps,fields of arrays,regions whose order is drawn. -/
namespace Go.Vm
open Go.RowKit
set_option linter.unusedSimpArgs false
set_option linter.unusedVariables false
section
variable {call : Handler} {f : Fr} {h : AH} {T : Prog}
def meth (call : Handler) (h : AH) (m : Option (Nat×Nat×Recv)) (v : AV) (args : List AV) : Option (AV×AH) :=
 match m with
 | some (_,g,.self) => call g (v :: args) h
 | some (_,g,.deref agg n) => (loadV h agg n v).bind fun u => call g (u :: args) h
 | none => none
def callMV (call : Handler) (h : AH) (table : List (Nat×Nat×Recv)) (r : AV) (args : List AV) : Option (AV×AH) :=
 match r with
 | .iface t v => meth call h (table.find? fun r => r.1 == t) v args
 | _ => none
theorem step_callM {table : List (Nat×Nat×Recv)} {recv : AOpd} {args : List AOpd} : stepV call (.callM table recv args) f h=callMV call h table (recv.val f) (args.map (·.val f)):=by
 unfold stepV callMV
 simp only [AOp.eval]
 generalize recv.val f=r
 cases r <;> try rfl
 rename_i t v
 simp only
 generalize table.find? (fun r => r.1 == t)=m
 cases m with
 | none => rfl
 | some m =>
  obtain ⟨a,g,r⟩:=m
  cases r with
  | self => rfl
  | deref agg n =>
   simp only [meth]
   cases v <;> try rfl
   rename_i o off
   simp only [loadV]
   cases agg
   ·simp only [Bool.false_eq_true,if_false]
    generalize h.load o off 1=l
    cases l with
    | none => rfl
    | some l =>
     cases l with
     | nil => rfl
     | cons x r => cases r <;> rfl
   ·simp only [if_true]
    generalize h.load o off n=l
    cases l <;> rfl
theorem callMV_iface {table : List (Nat×Nat×Recv)} {t : Nat} {v : AV} {args : List AV} : callMV call h table (.iface t v) args=meth call h (table.find? fun r => r.1 == t) v args:=rfl
theorem meth_self {t g : Nat} {v : AV} {args : List AV} : meth call h (some (t,g,.self)) v args=call g (v :: args) h:=rfl
theorem meth_deref {t g n : Nat} {b : Bool} {v : AV} {args : List AV} : meth call h (some (t,g,.deref b n)) v args=(loadV h b n v).bind fun u => call g (u :: args) h:=rfl
theorem find_cons {p : Nat×Nat×Recv→Bool} {a : Nat×Nat×Recv} {l : List (Nat×Nat×Recv)} : (a :: l).find? p=bif p a then some a else l.find? p:=by
 rw [List.find?_cons]; cases p a <;> rfl
theorem bif_true {α : Type} {a b : α} : (bif true then a else b)=a:=rfl
theorem bif_false {α : Type} {a b : α} : (bif false then a else b)=b:=rfl
theorem step_mkIface {t : Nat} {x : AOpd} : stepV call (.mkIface t x) f h=some (.iface t (x.val f),h):=rfl
theorem step_mkMap : stepV call .mkMap f h=some (.map h.next,h.new (.map [])):=rfl
def assertV (t : Nat) (zero : AV) (ok : Bool) (v : AV) : Option AV :=
 match v with
 | .iface u w => if u=t then some (if ok then .tuple [w,.bool true] else w) else if ok then some (.tuple [zero,.bool false]) else none
 | .nilIface => if ok then some (.tuple [zero,.bool false]) else none
 | _ => none
theorem step_assertT {t : Nat} {zero : AV} {ok : Bool} {x : AOpd} : stepV call (.assertT t zero ok x) f h=(assertV t zero ok (x.val f)).map fun v => (v,h) :=
 stepV_map (by
  simp only [AOp.eval]; generalize x.val f=p
  cases p <;> try rfl
  ·rename_i u w
   simp only [assertV]
   by_cases e : u=t
   ·simp only [e,if_true]; cases ok <;> rfl
   ·simp only [e,if_false]; cases ok <;> rfl
  ·simp only [assertV]; cases ok <;> rfl)
theorem assert_same {t : Nat} {zero w : AV} : assertV t zero false (.iface t w)=some w:=by simp [assertV]
theorem assert_same_ok {t : Nat} {zero w : AV} : assertV t zero true (.iface t w)=some (.tuple [w,.bool true]):=by simp [assertV]
def lookV (zero : AV) (ok : Bool) (r : Option (Nat×AV)) : AV :=
 match r with
 | some (_,v) => if ok then .tuple [v,.bool true] else v
 | none => if ok then .tuple [zero,.bool false] else zero
def lookupV (h : AH) (kk : Nat) (zero : AV) (ok : Bool) (m k : AV) : Option AV :=
 match m with
 | .nilMap => some (lookV zero ok none)
 | .map o => match h.get o with
  | some (.map es) => (findV kk k es 0).map (lookV zero ok)
  | _ => none
 | _ => none
theorem step_lookup {kk : Nat} {zero : AV} {ok : Bool} {m k : AOpd} : stepV call (.lookup kk zero ok m k) f h=(lookupV h kk zero ok (m.val f) (k.val f)).map fun v => (v,h) :=
 stepV_map (by
  have hl : ∀ r : Option (Nat×AV),(match r with
    | some (_,v) => ARes.val (if ok then .tuple [v,.bool true] else v) h
    | none => .val (if ok then .tuple [zero,.bool false] else zero) h) = .val (lookV zero ok r) h:=by
   intro r; cases r <;> rfl
  simp only [AOp.eval]; generalize m.val f=p
  cases p <;> try rfl
  rename_i o
  simp only [lookupV]
  generalize h.get o=x
  cases x with
  | none => rfl
  | some x =>
   cases x <;> try rfl
   rename_i es
   simp only
   generalize findV kk (k.val f) es 0=r
   cases r with
   | none => rfl
   | some r => simp only [Option.map_some]; rw [← hl r]; cases r <;> rfl)
def mapUpdV (h : AH) (kk : Nat) (m k v : AV) : Option AH :=
 match m with
 | .map o => match h.get o with
  | some (.map es) => (findV kk k es 0).map fun r => match r with
   | some (i,_) => h.set o (.map (es.set i (k,v)))
   | none => h.set o (.map (es ++ [(k,v)]))
  | _ => none
 | _ => none
theorem step_mapUpd {kk : Nat} {m k v : AOpd} : stepV call (.mapUpd kk m k v) f h=(mapUpdV h kk (m.val f) (k.val f) (v.val f)).map fun h' => (.none,h') :=
 stepV_val (by
  simp only [AOp.eval]; generalize m.val f=p
  cases p <;> try rfl
  rename_i o
  simp only [mapUpdV]
  generalize h.get o=x
  cases x with
  | none => rfl
  | some x =>
   cases x <;> try rfl
   rename_i es
   simp only
   generalize findV kk (k.val f) es 0=r
   cases r with
   | none => rfl
   | some r => cases r <;> rfl)
def delV (h : AH) (kk : Nat) (m k : AV) : Option AH :=
 match m with
 | .map o => match h.get o with
  | some (.map es) => (findV kk k es 0).map fun r => match r with
   | some (i,_) => h.set o (.map (es.eraseIdx i))
   | none => h
  | _ => none
 | _ => none
theorem step_del {kk : Nat} {m k : AOpd} : stepV call (.del kk m k) f h=(delV h kk (m.val f) (k.val f)).map fun h' => (.none,h') :=
 stepV_val (by
  simp only [AOp.eval]; generalize m.val f=p
  cases p <;> try rfl
  rename_i o
  simp only [delV]
  generalize h.get o=x
  cases x with
  | none => rfl
  | some x =>
   cases x <;> try rfl
   rename_i es
   simp only
   generalize findV kk (k.val f) es 0=r
   cases r with
   | none => rfl
   | some r => cases r <;> rfl)
def idxArrV (g : Bool) (n sz : Nat) : AV→AV→Option AV
 | .agg l,.int _ i => if 0≤i∧i.toNat < n then partV g l (i.toNat * sz) sz else none
 | _,_ => none
theorem step_idxArr {g : Bool} {n sz : Nat} {x i : AOpd} : stepV call (.idxArr g n sz x i) f h=(idxArrV g n sz (x.val f) (i.val f)).map fun v => (v,h) :=
 stepV_map (by
  simp only [AOp.eval]; generalize x.val f=p; generalize i.val f=q
  cases p <;> try rfl
  cases q <;> try rfl
  rename_i l k i
  simp only [natOf,idxArrV]
  by_cases h1 : 0≤i
  ·simp only [h1,if_true,true_and]
   by_cases h2 : i.toNat < n
   ·rw [if_pos h2,if_pos h2]
   ·rw [if_neg h2,if_neg h2]; rfl
  ·simp only [h1,if_false,false_and]; rfl)
def idxRowV (n sz : Nat) : AV→AV→Option AV
 | .ptr o off,.int _ i => if 0≤i∧i.toNat < n then some (.ptr o (off + i.toNat * sz)) else none
 | _,_ => none
theorem step_idxAddrArr {n sz : Nat} {x i : AOpd} : stepV call (.idxAddrArr n sz x i) f h=(idxRowV n sz (x.val f) (i.val f)).map fun v => (v,h) :=
 stepV_map (by
  simp only [AOp.eval]; generalize x.val f=p; generalize i.val f=q
  cases p <;> try rfl
  cases q <;> try rfl
  rename_i o off k i
  simp only [natOf,idxRowV]
  by_cases h1 : 0≤i
  ·simp only [h1,if_true,true_and]
   by_cases h2 : i.toNat < n
   ·rw [if_pos h2,if_pos h2]; rfl
   ·rw [if_neg h2,if_neg h2]; rfl
  ·simp only [h1,if_false,false_and]; rfl)
def restI (call : Handler) (r : List DItem) (d : Option Nat) (f : Fr) (p : AV×AH) : Option (Fr×AH):=runItems call r (f.put d p.1) p.2
theorem restI_mk {r : List DItem} {d : Option Nat} {v : AV} : restI call r d f (v,h)=runItems call r (f.put d v) h:=rfl
theorem items_nil : runItems call [] f h=some (f,h):=rfl
theorem items_next {d : Option Nat} {o : AOp} {r : List DItem} : runItems call (.op ⟨d,o,none⟩ :: r) f h=(stepV call o f h).bind (restI call r d f):=by
 have h1:=ops_next (call:=call) (f:=f) (h:=h) (d:=d) (o:=o) (r:=[])
 simp only [runOps] at h1
 simp only [runItems]
 cases ho : AOper.run call ⟨d,o,none⟩ f h with
 | none =>
  rw [ho] at h1
  cases hs : stepV call o f h with
  | none => rfl
  | some p => rw [hs] at h1; cases h1
 | some p =>
  rw [ho] at h1
  cases hs : stepV call o f h with
  | none => rw [hs] at h1; cases h1
  | some q =>
   rw [hs] at h1
   have h2 : p=(f.put d q.1,q.2):=by
    simp only [Option.bind_some,rest,runOps] at h1
    exact Option.some.inj h1
   subst h2
   rfl
theorem items_look {o : AOper} {r : List DItem} (hl : o.lookAgain f h=true) : runItems call (.look o :: r) f h=runItems call r f h:=by
 simp only [runItems,hl,if_true]
theorem wpc_draw {l : List DItem} {Q : AExit→Fr→AH→Prop} : Wp (code T (.draw l) f h) Q↔Wo (runItems (run T) l f h) (Q .normal):=by
 rw [code_draw]
 constructor
 ·rintro ⟨e,f',h',hr,hq⟩
  cases hc : runItems (run T) l f h with
  | none => simp [hc] at hr
  | some p => simp [hc] at hr; obtain ⟨rfl,rfl,rfl⟩:=hr; exact ⟨p,rfl,hq⟩
 ·rintro ⟨p,hp,hq⟩
  exact ⟨_,_,_,by rw [hp]; rfl,hq⟩
theorem look_load {d n : Nat} {g : Bool} {a : AOpd} {v : AV} (hl : loadV h g n (a.val f)=some v) (hd : f.at d=v) (hv : AV.beq v v=true) : AOper.lookAgain ⟨some d,.load g n a,none⟩ f h=true:=by
 have:=step_load (call:=fun _ _ _ => none) (f:=f) (h:=h) (g:=g) (n:=n) (a:=a)
 rw [hl] at this
 unfold stepV at this
 unfold AOper.lookAgain
 simp only [wantedV]
 cases he : AOp.eval f h (.load g n a) with
 | none => rw [he] at this; cases this
 | some r =>
  rw [he] at this
  cases r with
  | val u h2 =>
   simp only [Option.map_some,Option.some.injEq,Prod.mk.injEq] at this
   obtain ⟨rfl,rfl⟩:=this
   simp [hd,hv]
  | call g args => cases this
theorem look_build {d sz len : Nat} {zero l : List AV} {parts : List (Nat×Nat×AOpd)} {q : Nat} (hf : fillV zero (parts.map fun p => (p.1,p.2.1,p.2.2.val f))=some l) (hd : objOf (f.at d)=some q) (hq : h.get q=some (.cells l true)) (hl : AV.beqs l l=true) :
  AOper.lookAgain ⟨some d,.buildSlice sz len zero parts,none⟩ f h=true:=by
 unfold AOper.lookAgain
 simp only [wantedV,AOp.eval,hf,Option.map_some]
 rw [if_neg (by rw [next_new]; omega),hd,show objOf (.slice h.next 0 sz len len true)=some h.next from rfl]
 simp only [get_new_same,hq,beqObj,hl]
 rfl
end
end Go.Vm
/- Heaps of numbers in a list: plain facts,no program in sight. -/
namespace Go.Vm
set_option linter.unusedSimpArgs false
set_option linter.unusedVariables false
def at0 (L : List Int) (i : Nat) : Int:=L.getD i 0
def swp (L : List Int) (a b : Nat) : List Int:=(L.set a (at0 L b)).set b (at0 L a)
theorem swp_len (L : List Int) (a b : Nat) : (swp L a b).length=L.length:=by simp [swp]
theorem at0_some {L : List Int} {i : Nat} (h : i < L.length) : L[i]?=some (at0 L i):=by
 rw [List.getElem?_eq_getElem h]; simp [at0,h]
theorem swp_get {L : List Int} {a b : Nat} (ha : a < L.length) (hb : b < L.length) (i : Nat) : at0 (swp L a b) i=if i=b then at0 L a else if i=a then at0 L b else at0 L i:=by
 unfold swp at0
 simp only [List.getD_eq_getElem?_getD,List.getElem?_set,List.length_set]
 by_cases e1 : b=i
 ·subst e1; simp [hb]
 ·by_cases e2 : a=i
  ·subst e2; simp [e1,ha,Ne.symm e1]
  ·simp [e1,e2,Ne.symm e1,Ne.symm e2]
def HP (L : List Int) : Prop:=∀ i,0 < i→i < L.length→at0 L ((i - 1) / 2)≤at0 L i
def HPu (L : List Int) (j : Nat) : Prop:=(∀ i,0 < i→i < L.length→i≠j→at0 L ((i - 1) / 2)≤at0 L i)∧∀ i,0 < i→i < L.length→(i - 1) / 2=j→0 < j→at0 L ((j - 1) / 2)≤at0 L i
theorem HPu.done {L : List Int} {j : Nat} (h : HPu L j) (hj : j=0∨at0 L ((j - 1) / 2)≤at0 L j) : HP L:=by
 intro i h1 h2
 by_cases e : i=j
 ·subst e
  rcases hj with hj | hj
  ·omega
  ·exact hj
 ·exact h.1 i h1 h2 e
theorem HPu.step {L : List Int} {j : Nat} (h : HPu L j) (h0 : 0 < j) (hj : j < L.length) (hlt : at0 L j < at0 L ((j - 1) / 2)) : HPu (swp L ((j - 1) / 2) j) ((j - 1) / 2):=by
 have hp : (j - 1) / 2 < L.length:=by omega
 have hne : (j - 1) / 2≠j:=by omega
 constructor
 ·intro i h1 h2 h3
  rw [swp_len] at h2
  rw [swp_get hp hj,swp_get hp hj]
  by_cases e1 : i=j
  ·subst e1
   rw [if_pos rfl,if_neg hne,if_pos rfl]; omega
  ·rw [if_neg e1,if_neg h3]
   by_cases e2 : (i - 1) / 2=j
   ·rw [if_pos e2]; exact h.2 i h1 h2 e2 h0
   ·rw [if_neg e2]
    have:=h.1 i h1 h2 e1
    by_cases e3 : (i - 1) / 2=(j - 1) / 2
    ·rw [if_pos e3]; rw [e3] at this; omega
    ·rw [if_neg e3]; exact this
 ·intro i h1 h2 h3 h4
  rw [swp_len] at h2
  rw [swp_get hp hj,swp_get hp hj]
  have e0 : ((j - 1) / 2 - 1) / 2≠j:=by omega
  have e0' : ((j - 1) / 2 - 1) / 2≠(j - 1) / 2:=by omega
  rw [if_neg e0,if_neg e0']
  have hpar:=h.1 ((j - 1) / 2) h4 hp hne
  by_cases e1 : i=j
  ·subst e1; rw [if_pos rfl]; exact hpar
  ·have e2 : i≠(j - 1) / 2:=by omega
   rw [if_neg e1,if_neg e2]
   have:=h.1 i h1 h2 e1
   rw [h3] at this; omega
def HPd (L : List Int) (n i : Nat) : Prop:=(∀ c,0 < c→c < n→(c - 1) / 2≠i→at0 L ((c - 1) / 2)≤at0 L c)∧∀ c,0 < i→0 < c→c < n→(c - 1) / 2=i→at0 L ((i - 1) / 2)≤at0 L c
theorem HPd.done {L : List Int} {n i : Nat} (h : HPd L n i) (hn : n≤L.length) (hi : ∀ c,0 < c→c < n→(c - 1) / 2=i→at0 L i≤at0 L c) : HP (L.take n):=by
 intro c h1 h2
 have h2 : c < n:=by simp at h2; omega
 have e : ∀ k,k < n→at0 (L.take n) k=at0 L k:=by
  intro k hk; simp [at0,List.getD_eq_getElem?_getD,List.getElem?_take,hk]
 rw [e _ (by omega),e _ h2]
 by_cases e1 : (c - 1) / 2=i
 ·rw [e1]; exact hi c h1 h2 e1
 ·exact h.1 c h1 h2 e1
theorem HPd.step {L : List Int} {n i j : Nat} (h : HPd L n i) (hn : n≤L.length) (hj : j < n) (hji : (j - 1) / 2=i) (hj0 : 0 < j) (hlt : at0 L j < at0 L i) (hmin : ∀ c,0 < c→c < n→(c - 1) / 2=i→at0 L j≤at0 L c) : HPd (swp L i j) n j:=by
 have hi : i < L.length:=by omega
 have hjl : j < L.length:=by omega
 have hne : i≠j:=by omega
 constructor
 ·intro c h1 h2 h3
  rw [swp_get hi hjl,swp_get hi hjl,if_neg h3]
  by_cases e1 : c=j
  ·subst e1
   rw [if_pos rfl,if_pos hji]; omega
  ·rw [if_neg e1]
   by_cases e2 : (c - 1) / 2=i
   ·rw [if_pos e2]
    have e3 : c≠i:=by omega
    rw [if_neg e3]; exact hmin c h1 h2 e2
   ·rw [if_neg e2]
    by_cases e3 : c=i
    ·subst e3
     rw [if_pos rfl]
     exact h.2 j h1 hj0 hj hji
    ·rw [if_neg e3]; exact h.1 c h1 h2 e2
 ·intro c h0 h1 h2 h3
  rw [swp_get hi hjl,swp_get hi hjl,hji]
  rw [if_neg hne,if_pos rfl,if_neg (show c≠j by omega),if_neg (show c≠i by omega)]
  have:=h.1 c h1 h2 (by omega)
  rw [h3] at this; exact this
theorem HP.push {L : List Int} (h : HP L) (x : Int) : HPu (L ++ [x]) L.length:=by
 have e : ∀ k,k < L.length→at0 (L ++ [x]) k=at0 L k:=by
  intro k hk; simp [at0,List.getD_eq_getElem?_getD,List.getElem?_append_left hk]
 constructor
 ·intro i h1 h2 h3
  simp at h2
  rw [e _ (by omega),e _ (by omega)]
  exact h i h1 (by omega)
 ·intro i h1 h2 h3 h4
  simp at h2; omega
end Go.Vm
/- The standing rules in one. -/
namespace Go.Vm
theorem vms : type_of% (And.intro @wpc_first (And.intro @wpc_ops (And.intro @wpc_skip (And.intro @wpc_exit (And.intro @wpc_ret (And.intro @wpc_block (And.intro @wpc_test (And.intro @ops_next (And.intro @ops_nil (And.intro @ops_test (And.intro @step_mov (And.intro @step_bin (And.intro @step_un (And.intro @step_pick (And.intro @step_eqB (And.intro @step_eqNil (And.intro @step_toInt (And.intro @step_lenStr (And.intro @step_lenSlice (And.intro @step_extract (And.intro @step_fieldAddr (And.intro @step_field (And.intro @step_nilChk (And.intro @step_idxAddr (And.intro @step_idxStr (And.intro @step_load (And.intro @step_store (And.intro @step_slc (And.intro @step_slcStr (And.intro @step_mkSlice (And.intro @step_toStr (And.intro @step_append (And.intro @step_copy (And.intro @step_buildSlice (And.intro @step_build (And.intro @step_new (And.intro @step_call (And.intro @Fr.at_put (And.intro @at_ofArgs (And.intro @Wo_some (And.intro @Then_normal (And.intro @Then_exit (And.intro @Then_ret (And.intro @InBlock_normal (And.intro @InBlock_ret (And.intro @InBlock_exit (And.intro @Ends_ret (And.intro @Ends_normal (And.intro @res_nil (And.intro @res_tmp (And.intro @tuple_one (And.intro @tuple_two (And.intro @some_one (And.intro @CondC_true (And.intro @bin_add (And.intro @bin_sub (And.intro @bin_mul (And.intro @bin_eql (And.intro @bin_neq (And.intro @bin_lss (And.intro @bin_leq (And.intro @bin_gtr (And.intro @bin_geq (And.intro @bin_str_eql (And.intro @bin_str_neq (And.intro @un_not (And.intro @toInt_int (And.intro @lenStr_str (And.intro @pick_bool (And.intro @guardB_tt (And.intro @guardB_ff (And.intro @guardB_tf (And.intro @guardB_ft (And.intro @guardB_none (And.intro @pick_t (And.intro @pick_f (And.intro @decide_true (And.intro @decide_false (And.intro @Bool.not_true (And.intro @Bool.not_false (And.intro @put_none (And.intro @len_slice (And.intro @len_nil (And.intro @rest_mk (And.intro @ThenC_normal (And.intro @ThenC_exit (And.intro @ThenC_ret (And.intro @CondC_false (And.intro @CondC_both (And.intro @extract_0 (And.intro @extract_1 (And.intro @extract_2 (And.intro @step_callM (And.intro @callMV_iface (And.intro @meth_self (And.intro @meth_deref (And.intro @find_cons (And.intro @bif_true (And.intro @bif_false (And.intro @step_mkIface (And.intro @step_mkMap (And.intro @step_assertT (And.intro @assert_same (And.intro @assert_same_ok (And.intro @step_lookup (And.intro @step_mapUpd (And.intro @step_del (And.intro @step_idxArr (And.intro @step_idxAddrArr (And.intro @items_nil (And.intro @items_next (And.intro @restI_mk (And.intro @wpc_draw (And.intro @step_box (@step_eqAgg))))))))))))))))))))))))))))))))))))))))))))))))))))))))))))))))))))))))))))))))))))))))))))))))))))))))))))))))))):=And.intro @wpc_first (And.intro @wpc_ops (And.intro @wpc_skip (And.intro @wpc_exit (And.intro @wpc_ret (And.intro @wpc_block (And.intro @wpc_test (And.intro @ops_next (And.intro @ops_nil (And.intro @ops_test (And.intro @step_mov (And.intro @step_bin (And.intro @step_un (And.intro @step_pick (And.intro @step_eqB (And.intro @step_eqNil (And.intro @step_toInt (And.intro @step_lenStr (And.intro @step_lenSlice (And.intro @step_extract (And.intro @step_fieldAddr (And.intro @step_field (And.intro @step_nilChk (And.intro @step_idxAddr (And.intro @step_idxStr (And.intro @step_load (And.intro @step_store (And.intro @step_slc (And.intro @step_slcStr (And.intro @step_mkSlice (And.intro @step_toStr (And.intro @step_append (And.intro @step_copy (And.intro @step_buildSlice (And.intro @step_build (And.intro @step_new (And.intro @step_call (And.intro @Fr.at_put (And.intro @at_ofArgs (And.intro @Wo_some (And.intro @Then_normal (And.intro @Then_exit (And.intro @Then_ret (And.intro @InBlock_normal (And.intro @InBlock_ret (And.intro @InBlock_exit (And.intro @Ends_ret (And.intro @Ends_normal (And.intro @res_nil (And.intro @res_tmp (And.intro @tuple_one (And.intro @tuple_two (And.intro @some_one (And.intro @CondC_true (And.intro @bin_add (And.intro @bin_sub (And.intro @bin_mul (And.intro @bin_eql (And.intro @bin_neq (And.intro @bin_lss (And.intro @bin_leq (And.intro @bin_gtr (And.intro @bin_geq (And.intro @bin_str_eql (And.intro @bin_str_neq (And.intro @un_not (And.intro @toInt_int (And.intro @lenStr_str (And.intro @pick_bool (And.intro @guardB_tt (And.intro @guardB_ff (And.intro @guardB_tf (And.intro @guardB_ft (And.intro @guardB_none (And.intro @pick_t (And.intro @pick_f (And.intro @decide_true (And.intro @decide_false (And.intro @Bool.not_true (And.intro @Bool.not_false (And.intro @put_none (And.intro @len_slice (And.intro @len_nil (And.intro @rest_mk (And.intro @ThenC_normal (And.intro @ThenC_exit (And.intro @ThenC_ret (And.intro @CondC_false (And.intro @CondC_both (And.intro @extract_0 (And.intro @extract_1 (And.intro @extract_2 (And.intro @step_callM (And.intro @callMV_iface (And.intro @meth_self (And.intro @meth_deref (And.intro @find_cons (And.intro @bif_true (And.intro @bif_false (And.intro @step_mkIface (And.intro @step_mkMap (And.intro @step_assertT (And.intro @assert_same (And.intro @assert_same_ok (And.intro @step_lookup (And.intro @step_mapUpd (And.intro @step_del (And.intro @step_idxArr (And.intro @step_idxAddrArr (And.intro @items_nil (And.intro @items_next (And.intro @restI_mk (And.intro @wpc_draw (And.intro @step_box (@step_eqAgg))))))))))))))))))))))))))))))))))))))))))))))))))))))))))))))))))))))))))))))))))))))))))))))))))))))))))))))))))
theorem vmc : type_of% (And.intro @Option.bind_some.{0,0} (And.intro @Option.map_some.{0,0} (And.intro @List.getElem?_cons_zero.{0} (And.intro @List.getElem?_cons_succ.{0} (And.intro @Option.getD_some.{0} (And.intro @Option.getD_none.{0} (And.intro @List.map_cons.{0,0} (And.intro @List.map_nil.{0,0} (And.intro @Option.map_none.{0,0} (And.intro @List.length_map.{0,0} (And.intro @if_true.{1} (And.intro @if_false.{1} (And.intro @beq_self_eq_true.{0} (@bne_self_eq_false.{0})))))))))))))):=And.intro @Option.bind_some.{0,0} (And.intro @Option.map_some.{0,0} (And.intro @List.getElem?_cons_zero.{0} (And.intro @List.getElem?_cons_succ.{0} (And.intro @Option.getD_some.{0} (And.intro @Option.getD_none.{0} (And.intro @List.map_cons.{0,0} (And.intro @List.map_nil.{0,0} (And.intro @Option.map_none.{0,0} (And.intro @List.length_map.{0,0} (And.intro @if_true.{1} (And.intro @if_false.{1} (And.intro @beq_self_eq_true.{0} (@bne_self_eq_false.{0})))))))))))))
end Go.Vm

/- What clients share, as the document has it: each access. -/
import Derived.Test.YtagcnjhpdopkiaaD9New
namespace Go.Proofs.Ytagcnjhpdopkiaa
open Go.Vm
open Go.Vm.AOpd renaming val → vA
open Nat renaming reduceEqDiff → vB,reduceAdd → vC,reduceBEq → vD
set_option linter.unusedSimpArgs false
set_option linter.unusedVariables false
set_option maxRecDepth 20000
variable {T : Vm.Prog} {h : AH}
theorem swapP_err {st : List SlotP} {ref was : Int} {ws : List Nat} : (swapP st ref was ws).2.1≠0→(swapP st ref was ws).1=false:=by
 unfold swapP
 split
 ·intro _; rfl
 ·split
  ·intro _; rfl
  ·split
   ·intro _; rfl
   ·split
    ·intro _; rfl
    ·intro h; exact absurd rfl h
theorem allocI_err {st : List SlotP} {c : Int} {ws : List Nat} : (allocI st c ws).2.1≠0→(allocI st c ws).1=0:=by
 unfold allocI
 split
 ·unfold allocP
  split
  ·intro _; rfl
  ·split
   ·intro _; rfl
   ·intro h; exact absurd rfl h
 ·intro _; rfl
theorem collectE_no {ep : EpP} {c : Int} (h : (collectE ep c).2.1=false) : (collectE ep c).1=0:=by
 unfold collectE at *
 split at h
 ·rfl
 ·split at h
  ·rfl
  ·split at h
   ·rename_i hw; simp only [hw,if_true]
   ·cases h
theorem MemDK.setAr {m a e : Nat} {Fa Fe Fa' : Nat→Prop} {M : MemP} (K : MemDK h m a e Fa Fe M) (hl : Low h) {h' : AH} {st : List SlotP} (ar : RefR a st Fa' h') (act : Acts h Fa h' Fa') : MemDK h' m a e Fa' Fe { M with ar:=st }∧Acts h (fun o => o=m∨Fa o∨Fe o) h' (fun o => o=m∨Fa' o∨Fe o):=by
 have hml : m < h.next:=hl _ _ K.obj
 have re:=(K.ep.res hl).act act fun o ho hf => K.apart o hf ho
 refine ⟨⟨act.get K.obj hml K.m_a,ar,re.1.holds,act.not hml K.m_a,K.m_e,fun o ho hf => re.2 o hf ho⟩,act.mods.mono fun o ho => .inl (.inr (.inl ho)),fun o ho => ?_,act.low⟩
 rcases ho with rfl | h1 | h1
 ·exact .inl (.inl rfl)
 ·exact (act.grow o h1).imp (fun h2 => .inr (.inl h2)) id
 ·exact .inl (.inr (.inr h1))
theorem MemDK.setEp {m a e : Nat} {Fa Fe Fe' : Nat→Prop} {M : MemP} (K : MemDK h m a e Fa Fe M) (hl : Low h) {h' : AH} {ep : EpP} (er : EdR e ep Fe' h') (act : Acts h Fe h' Fe') : MemDK h' m a e Fa Fe' { M with ep:=ep }∧Acts h (fun o => o=m∨Fa o∨Fe o) h' (fun o => o=m∨Fa o∨Fe' o):=by
 have hml : m < h.next:=hl _ _ K.obj
 have ra:=(K.ar.res hl).act act K.apart
 refine ⟨⟨act.get K.obj hml K.m_e,ra.1.holds,er,K.m_a,act.not hml K.m_e,fun o ho hf => ra.2 o ho hf⟩,act.mods.mono fun o ho => .inl (.inr (.inr ho)),fun o ho => ?_,act.low⟩
 rcases ho with rfl | h1 | h1
 ·exact .inl (.inl rfl)
 ·exact .inl (.inr (.inl h1))
 ·exact (act.grow o h1).imp (fun h2 => .inr (.inr h2)) id
theorem MemDK.quiet {m a e : Nat} {Fa Fe : Nat→Prop} {M : MemP} (K : MemDK h m a e Fa Fe M) (hl : Low h) {h' : AH} (q : Quiet h h') : MemDK h' m a e Fa Fe M :=
 ⟨q.get K.obj (hl _ _ K.obj),((K.ar.res hl).quiet q).holds,((K.ep.res hl).quiet q).holds,K.m_a,K.m_e,K.apart⟩
theorem MemDK.hold {m a e : Nat} {Fa Fe : Nat→Prop} {M : MemP} (K : MemDK h m a e Fa Fe M) (hl : Low h) (x : Int) :
  ∃ h',storeV h 1 (.ptr m 2) (.int .i64 x)=some h'∧MemDK h' m a e Fa Fe { M with holder:=x }∧Acts h (fun o => o=m∨Fa o∨Fe o) h' (fun o => o=m∨Fa o∨Fe o):=by
 have st:=store_int K.obj (i:=2) (k := .i64) (n:=x) (by simp)
 have hmd : Mods h (h.set m (.cells ([AV.ptr a 0,.ptr e 0,.int .i64 M.holder,.int .i64 M.root].set 2 (.int .i64 x)) true)) (fun o => o=m):=Mods.set (F:=fun o => o=m) (Mods.refl _ _) (.inl rfl) _
 exact ⟨_,st,⟨get_set_same,((K.ar.res hl).frame hmd fun o ho e => K.m_a (e ▸ ho)).holds,((K.ep.res hl).frame hmd fun o ho e => K.m_e (e ▸ ho)).holds,K.m_a,K.m_e,K.apart⟩,hmd.mono fun o ho => .inl (.inl ho),fun o ho => .inl ho,hl.set (hl _ _ K.obj) _⟩
def sqT : ACode→ACode
 | .seq a _ => a
 | c => c
def srT : ACode→ACode
 | .seq _ b => b
 | c => c
def c22a : ACode:=sqT c22
def c22b : ACode:=sqT (srT c22)
def c22c : ACode:=sqT (srT (srT c22))
def c22d : ACode:=sqT (srT (srT (srT c22)))
def c22e : ACode:=sqT (srT (srT (srT (srT c22))))
def c22t : ACode:=srT (srT (srT (srT (srT c22))))
theorem c22_parts : c22 = .seq c22a (.seq c22b (.seq c22c (.seq c22d (.seq c22e c22t)))):=rfl
set_option maxHeartbeats 4000000 in
theorem ref_do (k : Fits T) {m : Nat} {M : MemP} {F : Nat→Prop} (R : MemD m M F h) (hl : Low h) (c : Int) (acc : AccP) {wv : AV} (s : SrcB h F wv acc.ws) :
  Gives T 22 [.ptr m 0,.int .i64 c,acc.v wv] h fun r h' => ResOk h.next h' r (doP M c acc).1∧∃ F',MemD m (doP M c acc).2 F' h'∧Acts h F h' F':=by
 refine gives_func (k.env _ (by decide)) (k.at (fn:=a22) rfl) rfl ?_
 have R0:=R
 obtain ⟨a,e,Fa,Fe,K,hF⟩:=R
 have hml : m < h.next:=hl _ _ K.obj
 have hFl:=(R0.res hl).low
 have nm : nilChkV (.ptr m 0)=some (.ptr m 0):=rfl
 have ne : nilChkV (.ptr e 0)=some (.ptr e 0):=rfl
 have fa : ∀ o j,fieldAddrV j (.ptr o 0)=some (.ptr o (0 + j)):=fun o j => rfl
 have q1 : Quiet h ((h.new (.cells [.int .i64 acc.kind,.int .i64 acc.ref,.int .i64 acc.cls,.int .i64 acc.n,.int .u64 acc.was,wv] true)).new (.cells [.int .i64 0,.int .i64 0,.bool false,.nilSlice] true)):=((Quiet.refl h).new _).new _
 have lo1 : Low ((h.new (.cells [.int .i64 acc.kind,.int .i64 acc.ref,.int .i64 acc.cls,.int .i64 acc.n,.int .u64 acc.was,wv] true)).new (.cells [.int .i64 0,.int .i64 0,.bool false,.nilSlice] true)):=(hl.new _).new _
 have gA : ((h.new (.cells [.int .i64 acc.kind,.int .i64 acc.ref,.int .i64 acc.cls,.int .i64 acc.n,.int .u64 acc.was,wv] true)).new (.cells [.int .i64 0,.int .i64 0,.bool false,.nilSlice] true)).get h.next=some (.cells [.int .i64 acc.kind,.int .i64 acc.ref,.int .i64 acc.cls,.int .i64 acc.n,.int .u64 acc.was,wv] true):=by
  rw [AH.get_new,if_neg (by simp only [next_new]; omega),get_new_same]
 have gB : ((h.new (.cells [.int .i64 acc.kind,.int .i64 acc.ref,.int .i64 acc.cls,.int .i64 acc.n,.int .u64 acc.was,wv] true)).new (.cells [.int .i64 0,.int .i64 0,.bool false,.nilSlice] true)).get (h.next + 1)=some (.cells [.int .i64 0,.int .i64 0,.bool false,.nilSlice] true):=by
  have:=get_new_same (h:=h.new (.cells [.int .i64 acc.kind,.int .i64 acc.ref,.int .i64 acc.cls,.int .i64 acc.n,.int .u64 acc.was,wv] true)) (x := .cells [.int .i64 0,.int .i64 0,.bool false,.nilSlice] true)
  rw [next_new] at this; exact this
 have n1 : ((h.new (.cells [.int .i64 acc.kind,.int .i64 acc.ref,.int .i64 acc.cls,.int .i64 acc.n,.int .u64 acc.was,wv] true)).new (.cells [.int .i64 0,.int .i64 0,.bool false,.nilSlice] true)).next=h.next + 1 + 1:=rfl
 simp only [a22,c22_parts,vms,vmc,vA,vB,reduceCtorEq,vC,vD]
 simp only [c22a,c22,sqT,srT,AccP.v,vms,vmc,vA,vB,reduceCtorEq,vC,vD,box_agg,next_new]
 generalize ((h.new (.cells [.int .i64 acc.kind,.int .i64 acc.ref,.int .i64 acc.cls,.int .i64 acc.n,.int .u64 acc.was,wv] true)).new (.cells [.int .i64 0,.int .i64 0,.bool false,.nilSlice] true))=h1 at *
 have K1:=K.quiet hl q1
 have R1:=((R0.res hl).quiet q1).holds
 have nB : ¬ F (h.next + 1):=fun hf => by have:=hFl _ hf; omega
 have m1:=load_at K1.obj (i:=1) rfl
 simp only [c22b,c22,sqT,srT,vms,vmc,vA,vB,reduceCtorEq,vC,vD,nm,fa,Nat.zero_add,m1]
 refine Gives.bind ((ed_client k K1.ep c).mono ?_)
 rintro _ _ ⟨rfl,hcl⟩
 rename_i h1
 -- a refusal at once
 have bad : ∀ {h2 : AH},Quiet h h2→Low h2→h2.get (h.next + 1)=some (.cells [.int .i64 0,.int .i64 0,.bool false,.nilSlice] true)→MemD m M F h2 →
   storeV h2 4 (.ptr (h.next + 1) 0) (.agg [.int .i64 1,.int .i64 0,.bool false,.nilSlice])=some (h2.set (h.next + 1) (.cells [.int .i64 1,.int .i64 0,.bool false,.nilSlice] true)) ∧
   ∀ g : Fr,g.at 6 = .ptr (h.next + 1) 0→∃ l,resultsV g (h2.set (h.next + 1) (.cells [.int .i64 1,.int .i64 0,.bool false,.nilSlice] true)) [.cell 6 true 4]=some l∧ResOk h.next (h2.set (h.next + 1) (.cells [.int .i64 1,.int .i64 0,.bool false,.nilSlice] true)) (tupleV l) ⟨1,0,false,[]⟩∧∃ F',MemD m M F' (h2.set (h.next + 1) (.cells [.int .i64 1,.int .i64 0,.bool false,.nilSlice] true))∧Acts h F (h2.set (h.next + 1) (.cells [.int .i64 1,.int .i64 0,.bool false,.nilSlice] true)) F':=by
  intro h2 q lo g2 R2
  obtain ⟨s1,s2⟩:=put_res (w0 := .int .i64 1) (w1 := .int .i64 0) (w2 := .bool false) (w3 := .nilSlice) g2 res4 rfl
  refine ⟨s1,fun g hg => ⟨[_],by simp only [res_cell,hg,s2]; rfl,⟨.nilSlice,rfl,.inl ⟨rfl,rfl⟩⟩,F,((R2.res lo).set nB _).holds,?_⟩⟩
  exact Acts.after (Quiet.refl h) (Acts.refl hl) ((q.mods _).set (.inr (by omega)) _) (lo.set (lo _ _ g2) _)
 unfold doP
 rcases hcl with ⟨cn,hcn,hlt,rfl⟩ | ⟨hno,rfl⟩
 rotate_left
 ·rw [if_pos hno]
  obtain ⟨b1,b2⟩:=bad q1 lo1 gB R1
  simp only [vms,vmc,vA,vB,reduceCtorEq,vC,vD,fillE,b1]
  exact b2 _ (by simp only [vms,vmc,vA,vB,reduceCtorEq,vC,vD])
 rw [if_neg (show ¬ (c < 0∨(M.ep.cls.length : Int)≤c) by omega)]
 simp only [vms,vmc,vA,vB,reduceCtorEq,vC,vD,c22c,c22d,c22,sqT,srT]
 have q2 : Quiet h (h1.new (.cells [.int .i64 0,.int .i64 0,.bool false,.nilSlice] true)):=q1.new _
 have lo2 : Low (h1.new (.cells [.int .i64 0,.int .i64 0,.bool false,.nilSlice] true)):=lo1.new _
 have gA2 : (h1.new (.cells [.int .i64 0,.int .i64 0,.bool false,.nilSlice] true)).get h.next=some (.cells [.int .i64 acc.kind,.int .i64 acc.ref,.int .i64 acc.cls,.int .i64 acc.n,.int .u64 acc.was,wv] true):=by
  rw [AH.get_new,if_neg (by omega)]; exact gA
 have gB2 : (h1.new (.cells [.int .i64 0,.int .i64 0,.bool false,.nilSlice] true)).get (h.next + 1)=some (.cells [.int .i64 0,.int .i64 0,.bool false,.nilSlice] true):=by
  rw [AH.get_new,if_neg (by omega)]; exact gB
 have gC2 : (h1.new (.cells [.int .i64 0,.int .i64 0,.bool false,.nilSlice] true)).get (h.next + 1 + 1)=some (.cells [.int .i64 0,.int .i64 0,.bool false,.nilSlice] true):=by
  have:=get_new_same (h:=h1) (x := .cells [.int .i64 0,.int .i64 0,.bool false,.nilSlice] true)
  rw [n1] at this; exact this
 have n2 : (h1.new (.cells [.int .i64 0,.int .i64 0,.bool false,.nilSlice] true)).next=h.next + 1 + 1 + 1:=by rw [next_new,n1]
 rw [n1]
 generalize (h1.new (.cells [.int .i64 0,.int .i64 0,.bool false,.nilSlice] true))=h2 at *
 have K2:=K.quiet hl q2
 have R2:=((R0.res hl).quiet q2).holds
 have nC : ¬ F (h.next + 1 + 1):=fun hf => by have:=hFl _ hf; omega
 have nA : ¬ F h.next:=fun hf => by have:=hFl _ hf; omega
 have s2 : SrcB h2 F wv acc.ws:=⟨s.src.keep fun o ho => q2.2 o (s.out o ho).2 fun h => h,fun o ho => ⟨(s.out o ho).1,by have:=(s.out o ho).2; omega⟩,s.short⟩
 have s2a : SrcB h2 Fa wv acc.ws:=⟨s2.src,fun o ho => ⟨fun hf => (s2.out o ho).1 ((hF o).2 (.inr (.inl hf))),(s2.out o ho).2⟩,s2.short⟩
 have l0:=load_at gA2 (i:=0) rfl
 have l1:=load_at gA2 (i:=1) rfl
 have l2:=load_at gA2 (i:=2) rfl
 have l3:=load_at gA2 (i:=3) rfl
 have l4:=load_at gA2 (i:=4) rfl
 have l5:=load_at gA2 (i:=5) rfl
 have m0:=load_at K2.obj (i:=0) rfl
 have m1:=load_at K2.obj (i:=1) rfl
 have m2:=load_at K2.obj (i:=2) rfl
 have m3:=load_at K2.obj (i:=3) rfl
 obtain ⟨bb1,bb2⟩:=bad q2 lo2 gB2 R2
 -- the end
 have fin2 : ∀ {h5 : AH} {M' : MemP} {F' : Nat→Prop} {f : Fr} {er : Nat} {n : Int} {ok : Bool} {w3 : AV} {ws : List Nat} {rp : ResP},MemD m M' F' h5→Mods h2 h5 (fun o => F o∨o=h.next + 1 + 1)→(∀ o,F' o→F o∨h2.next≤o)→Low h5→h5.get (h.next + 1 + 1)=some (.cells [.int .i64 0,.int .i64 n,.bool ok,w3] true)→((w3 = .nilSlice∧ws=[])∨(Copy h5 w3 ws∧∀ o∈objs w3,h2.next≤o)) →
   f.at 6 = .ptr (h.next + 1) 0→f.at 7 = .ptr (h.next + 1 + 1) 0→f.at 8 = .int .i64 (er : Int)→rp=(if er=0 then ⟨0,n,ok,ws⟩ else ⟨er,0,false,[]⟩) →
   Wp (code T c22t f h5) (Vm.Ends [.cell 6 true 4] fun r' h' => ResOk h.next h' r' rp∧∃ F',MemD m M' F' h'∧Acts h F h' F'):=by
  intro h5 M' F' f er n ok w3 ws rp R5 md gr lo5 g5 hw f6 f7 f8 hrp
  have hn5:=md.1
  have nB' : ¬ F' (h.next + 1):=fun hf => (gr _ hf).elim nB (by omega)
  have gB5 : h5.get (h.next + 1)=some (.cells [.int .i64 0,.int .i64 0,.bool false,.nilSlice] true):=(md.2 _ (by omega) (fun hf => hf.elim nB (by omega))).trans gB2
  have hwf : w3.flat=true:=by
   rcases hw with ⟨rfl,_⟩ | ⟨⟨_,rfl,_⟩,_⟩ <;> rfl
  have last : ∀ x : AObj,MemD m M' F' (h5.set (h.next + 1) x)∧Acts h F (h5.set (h.next + 1) x) F':=fun x =>
   ⟨((R5.res lo5).set nB' _).holds,⟨by rw [next_set]; have:=q2.1; omega,fun o ho hf => by
    rw [AH.get_set,if_neg (by omega),md.2 o (by omega) (fun hg => hg.elim hf (by omega))]
    exact q2.2 o ho fun h => h⟩,fun o ho => (gr o ho).imp id fun h => by omega,lo5.set (lo5 _ _ gB5) _⟩
  by_cases h0 : er=0
  ·rw [if_pos h0] at hrp
   have d : (((er : Nat) : Int) != 0)=false:=by rw [h0]; rfl
   have e0 : loadV h5 true 4 (.ptr (h.next + 1 + 1) 0)=some (.agg [.int .i64 0,.int .i64 n,.bool ok,w3]):=load_all g5 rfl
   obtain ⟨e1,e2⟩:=put_res (w0 := .int .i64 0) (w1 := .int .i64 n) (w2 := .bool ok) (w3:=w3) gB5 res4 (by simp only [List.all_cons,List.all_nil,hwf]; rfl)
   have hr : ∀ g : Fr,g.at 6 = .ptr (h.next + 1) 0→resultsV g (h5.set (h.next + 1) (.cells [.int .i64 0,.int .i64 n,.bool ok,w3] true)) [.cell 6 true 4]=some [.agg [.int .i64 0,.int .i64 n,.bool ok,w3]]:=by
    intro g hg
    simp only [res_cell,hg,e2,vms,vmc,vA,vB,reduceCtorEq,vC,vD]
   simp only [c22t,c22,srT,vms,vmc,vA,vB,reduceCtorEq,vC,vD,f8,d,f7,f6,e0,e1]
   refine ⟨_,hr _ (by simp only [vms,vmc,vA,vB,reduceCtorEq,vC,vD,f6]),?_,F',last _⟩
   rw [hrp]
   refine ⟨w3,rfl,?_⟩
   rcases hw with ⟨rfl,hw⟩ | ⟨⟨o,rfl,hg⟩,ho⟩
   ·exact .inl ⟨rfl,hw⟩
   ·have hol:=ho o (by simp [objs])
    refine .inr ⟨⟨o,rfl,?_⟩,fun p hp => by have:=ho p hp; omega⟩
    rw [AH.get_set,if_neg (by omega)]
    exact hg
  ·rw [if_neg h0] at hrp
   have d : (((er : Nat) : Int) != 0)=true:=by simp; omega
   obtain ⟨e1,e2⟩:=put_res (w0 := .int .i64 (er : Int)) (w1 := .int .i64 0) (w2 := .bool false) (w3 := .nilSlice) gB5 res4 rfl
   have hr : ∀ g : Fr,g.at 6 = .ptr (h.next + 1) 0→resultsV g (h5.set (h.next + 1) (.cells [.int .i64 (er : Int),.int .i64 0,.bool false,.nilSlice] true)) [.cell 6 true 4]=some [.agg [.int .i64 (er : Int),.int .i64 0,.bool false,.nilSlice]]:=by
    intro g hg
    simp only [res_cell,hg,e2,vms,vmc,vA,vB,reduceCtorEq,vC,vD]
   simp only [c22t,c22,srT,vms,vmc,vA,vB,reduceCtorEq,vC,vD,f8,d,fillE,f6,e1]
   refine ⟨_,hr _ (by simp only [vms,vmc,vA,vB,reduceCtorEq,vC,vD,f6]),?_,F',last _⟩
   rw [hrp]
   exact ⟨.nilSlice,rfl,.inl ⟨rfl,rfl⟩⟩
 have fin : ∀ {h4 h5 : AH} {M' : MemP} {F' : Nat→Prop} {f : Fr} {er : Nat} {n : Int} {ok : Bool} {w3 : AV} {ws : List Nat} {rp : ResP},MemD m M' F' h4→Acts h2 F h4 F'→Mods h4 h5 (fun o => o=h.next + 1 + 1)→Low h5→h5.get (h.next + 1 + 1)=some (.cells [.int .i64 0,.int .i64 n,.bool ok,w3] true)→((w3 = .nilSlice∧ws=[])∨(Copy h4 w3 ws∧∀ o∈objs w3,h2.next≤o)) →
   f.at 6 = .ptr (h.next + 1) 0→f.at 7 = .ptr (h.next + 1 + 1) 0→f.at 8 = .int .i64 (er : Int)→rp=(if er=0 then ⟨0,n,ok,ws⟩ else ⟨er,0,false,[]⟩) →
   Wp (code T c22t f h5) (Vm.Ends [.cell 6 true 4] fun r' h' => ResOk h.next h' r' rp∧∃ F',MemD m M' F' h'∧Acts h F h' F'):=by
  intro h4 h5 M' F' f er n ok w3 ws rp R4 act md lo5 g5 hw f6 f7 f8 hrp
  have nC' : ¬ F' (h.next + 1 + 1):=act.not (by omega) nC
  refine fin2 (((R4.res act.low).frame md fun o ho e => nC' (e ▸ ho)).holds) ((act.mods.mono fun o ho => .inl (.inl ho)).trans md fun o ho => .inl (.inr ho)) act.grow lo5 g5 ?_ f6 f7 f8 hrp
  rcases hw with hw | ⟨⟨o,rfl,hg⟩,ho⟩
  ·exact .inl hw
  ·have hol:=ho o (by simp [objs])
   exact .inr ⟨⟨o,rfl,(md.2 o (act.low _ _ hg) (by omega)).trans hg⟩,ho⟩
 have stC : ∀ {h4 : AH} {F' : Nat→Prop},Acts h2 F h4 F'→h4.get (h.next + 1 + 1)=some (.cells [.int .i64 0,.int .i64 0,.bool false,.nilSlice] true)∧h.next + 1 + 1 < h4.next:=by
  intro h4 F' act
  have hn4:=act.mods.1
  exact ⟨act.get gC2 (by omega) nC,by omega⟩
 have mset : ∀ {h4 h5 : AH} (x : AObj),Mods h4 h5 (fun o => o=h.next + 1 + 1)→Mods h4 (h5.set (h.next + 1 + 1) x) (fun o => o=h.next + 1 + 1):=fun x m => m.set (.inl rfl) x
 have upAr : ∀ {h4 : AH} {st : List SlotP} {Fa' : Nat→Prop},RefR a st Fa' h4→Acts h2 Fa h4 Fa'→∃ F',MemD m { M with ar:=st } F' h4∧Acts h2 F h4 F':=by
  intro h4 st Fa' ar act
  obtain ⟨K4,act4⟩:=K2.setAr lo2 ar act
  exact ⟨_,⟨a,e,Fa',Fe,K4,fun o => Iff.rfl⟩,⟨act4.mods.mono fun o ho => .inl ((hF o).2 ho),fun o ho => (act4.grow o ho).imp (hF o).2 id,act4.low⟩⟩
 have upEp : ∀ {h4 : AH} {ep : EpP} {Fe' : Nat→Prop},EdR e ep Fe' h4→Acts h2 Fe h4 Fe'→∃ F',MemD m { M with ep:=ep } F' h4∧Acts h2 F h4 F':=by
  intro h4 ep Fe' er act
  obtain ⟨K4,act4⟩:=K2.setEp lo2 er act
  exact ⟨_,⟨a,e,Fa,Fe',K4,fun o => Iff.rfl⟩,⟨act4.mods.mono fun o ho => .inl ((hF o).2 ho),fun o ho => (act4.grow o ho).imp (hF o).2 id,act4.low⟩⟩
 have ac0 : Acts h2 F h2 F:=Acts.refl lo2
 have k0 : ∀ {x y : Int},x≠y→(x == y)=false:=fun h => by rw [beq_eq_false_iff_ne]; exact h
 simp only [c22e,c22,sqT,srT,vms,vmc,vA,vB,reduceCtorEq,vC,vD,fa,Nat.zero_add,l0]
 by_cases ks : 1≤acc.kind∧acc.kind≤5
 ·rw [if_pos ks]
  unfold slotsP
  by_cases k1 : acc.kind=1
  ·have b1 : (acc.kind == 1)=true:=by simpa using k1
   rw [if_pos k1]
   simp only [vms,vmc,vA,vB,reduceCtorEq,vC,vD,b1,nm,fa,Nat.zero_add,m0,l1]
   refine Gives.bind ((ref_load k K2.ar lo2 acc.ref).mono ?_)
   rintro _ h4 ⟨q4,lo4,v,rfl,hv⟩
   obtain ⟨F',R4,act⟩:=upAr ((K2.ar.res lo2).quiet q4).holds (Acts.same (q4.mods Fa) lo4)
   obtain ⟨gC4,hn⟩:=stC act
   have hvd : v.cells=[v]∧v.flat=true:=by
    rcases hv with ⟨rfl,_⟩ | ⟨_,_,⟨o,rfl,_⟩,_⟩ <;> exact ⟨rfl,rfl⟩
   have s1:=store_at gC4 (i:=3) (by simp) hvd.1 hvd.2
   simp only [vms,vmc,vA,vB,reduceCtorEq,vC,vD,fa,Nat.zero_add,s1]
   refine fin (er:=(loadP M.ar acc.ref).1) (n:=0) (ok:=false) (w3:=v) (ws:=(loadP M.ar acc.ref).2) R4 act (mset _ (Mods.refl _ _)) (lo4.set hn _) get_set_same ?_ ?_ ?_ ?_ ?_
   ·rcases hv with ⟨rfl,h5,_⟩ | ⟨_,_,h5,h6⟩
    ·exact .inl ⟨rfl,h5⟩
    ·exact .inr ⟨h5,h6⟩
   ·simp only [vms,vmc,vA,vB,reduceCtorEq,vC,vD]
   ·simp only [vms,vmc,vA,vB,reduceCtorEq,vC,vD]
   ·simp only [vms,vmc,vA,vB,reduceCtorEq,vC,vD]
   ·by_cases hz : (loadP M.ar acc.ref).1=0
    ·rw [if_pos hz,hz]
    ·rw [if_neg hz,loadP_err _ _ hz]
  have b1:=k0 k1
  rw [if_neg k1]
  by_cases k2 : acc.kind=2
  ·have b2 : (acc.kind == 2)=true:=by simpa using k2
   rw [if_pos k2]
   simp only [vms,vmc,vA,vB,reduceCtorEq,vC,vD,b1,b2,nm,fa,Nat.zero_add,m0,l1,l4,l5]
   refine Gives.bind ((ref_swap k K2.ar lo2 acc.ref (was:=acc.was) s2a).mono ?_)
   rintro _ h4 ⟨rfl,Fa',ar4,act4⟩
   obtain ⟨F',R4,act⟩:=upAr ar4 act4
   obtain ⟨gC4,hn⟩:=stC act
   have s1:=store_bool (b:=(swapP M.ar acc.ref acc.was acc.ws).1) gC4 (i:=2) (by simp)
   simp only [vms,vmc,vA,vB,reduceCtorEq,vC,vD,fa,Nat.zero_add,s1]
   refine fin (er:=(swapP M.ar acc.ref acc.was acc.ws).2.1) (n:=0) (ok:=(swapP M.ar acc.ref acc.was acc.ws).1) (w3 := .nilSlice) (ws:=[]) R4 act (mset _ (Mods.refl _ _)) (act.low.set hn _) get_set_same (.inl ⟨rfl,rfl⟩) ?_ ?_ ?_ ?_
   ·simp only [vms,vmc,vA,vB,reduceCtorEq,vC,vD]
   ·simp only [vms,vmc,vA,vB,reduceCtorEq,vC,vD]
   ·simp only [vms,vmc,vA,vB,reduceCtorEq,vC,vD]
   ·by_cases hz : (swapP M.ar acc.ref acc.was acc.ws).2.1=0
    ·rw [if_pos hz,hz]
    ·rw [if_neg hz,swapP_err hz]
  have b2:=k0 k2
  rw [if_neg k2]
  by_cases k3 : acc.kind=3
  ·have b3 : (acc.kind == 3)=true:=by simpa using k3
   rw [if_pos k3]
   simp only [vms,vmc,vA,vB,reduceCtorEq,vC,vD,b1,b2,b3,nm,fa,Nat.zero_add,m0,l1,l5]
   refine Gives.bind ((ref_store k K2.ar lo2 acc.ref s2a).mono ?_)
   rintro _ h4 ⟨rfl,Fa',ar4,act4⟩
   obtain ⟨F',R4,act⟩:=upAr ar4 act4
   obtain ⟨gC4,hn⟩:=stC act
   simp only [vms,vmc,vA,vB,reduceCtorEq,vC,vD]
   refine fin (er:=(storeP M.ar acc.ref acc.ws).1) (n:=0) (ok:=false) (w3 := .nilSlice) (ws:=[]) R4 act (Mods.refl _ _) act.low gC4 (.inl ⟨rfl,rfl⟩) ?_ ?_ ?_ ?_
   ·simp only [vms,vmc,vA,vB,reduceCtorEq,vC,vD]
   ·simp only [vms,vmc,vA,vB,reduceCtorEq,vC,vD]
   ·simp only [vms,vmc,vA,vB,reduceCtorEq,vC,vD]
   ·by_cases hz : (storeP M.ar acc.ref acc.ws).1=0
    ·rw [if_pos hz,hz]
    ·rw [if_neg hz]
  have b3:=k0 k3
  rw [if_neg k3]
  by_cases k4 : acc.kind=4
  ·have b4 : (acc.kind == 4)=true:=by simpa using k4
   rw [if_pos k4]
   simp only [vms,vmc,vA,vB,reduceCtorEq,vC,vD,b1,b2,b3,b4,nm,fa,Nat.zero_add,m0,l2,l5]
   refine Gives.bind ((ref_alloc k K2.ar lo2 acc.cls s2a).mono ?_)
   rintro _ h4 ⟨rfl,Fa',ar4,act4⟩
   obtain ⟨F',R4,act⟩:=upAr ar4 act4
   obtain ⟨gC4,hn⟩:=stC act
   have s1:=store_int gC4 (i:=1) (k := .i64) (n:=(allocI M.ar acc.cls acc.ws).1) (by simp)
   simp only [vms,vmc,vA,vB,reduceCtorEq,vC,vD,fa,Nat.zero_add,s1]
   refine fin (er:=(allocI M.ar acc.cls acc.ws).2.1) (n:=(allocI M.ar acc.cls acc.ws).1) (ok:=false) (w3 := .nilSlice) (ws:=[]) R4 act (mset _ (Mods.refl _ _)) (act.low.set hn _) get_set_same (.inl ⟨rfl,rfl⟩) ?_ ?_ ?_ ?_
   ·simp only [vms,vmc,vA,vB,reduceCtorEq,vC,vD]
   ·simp only [vms,vmc,vA,vB,reduceCtorEq,vC,vD]
   ·simp only [vms,vmc,vA,vB,reduceCtorEq,vC,vD]
   ·by_cases hz : (allocI M.ar acc.cls acc.ws).2.1=0
    ·rw [if_pos hz,hz]
    ·rw [if_neg hz,allocI_err hz]
  have b4:=k0 k4
  rw [if_neg k4]
  have k5 : acc.kind=5:=by omega
  have b5 : (acc.kind == 5)=true:=by simpa using k5
  rw [if_pos k5]
  simp only [vms,vmc,vA,vB,reduceCtorEq,vC,vD,b1,b2,b3,b4,b5,nm,fa,Nat.zero_add,m3,l1]
  by_cases kr : acc.ref=M.root
  ·have br : (acc.ref == M.root)=true:=by simpa using kr
   rw [if_pos kr]
   simp only [vms,vmc,vA,vB,reduceCtorEq,vC,vD,br,fillE,bb1]
   exact bb2 _ (by simp only [vms,vmc,vA,vB,reduceCtorEq,vC,vD])
  ·have br : (acc.ref == M.root)=false:=by simpa using kr
   rw [if_neg kr]
   simp only [vms,vmc,vA,vB,reduceCtorEq,vC,vD,br,nm,fa,Nat.zero_add,m0,l1]
   refine Gives.bind ((ref_free k K2.ar lo2 acc.ref).mono ?_)
   rintro _ h4 ⟨rfl,Fa',ar4,act4⟩
   obtain ⟨F',R4,act⟩:=upAr ar4 act4
   obtain ⟨gC4,hn⟩:=stC act
   simp only [vms,vmc,vA,vB,reduceCtorEq,vC,vD]
   refine fin (er:=(freeP M.ar acc.ref).1) (n:=0) (ok:=false) (w3 := .nilSlice) (ws:=[]) R4 act (Mods.refl _ _) act.low gC4 (.inl ⟨rfl,rfl⟩) ?_ ?_ ?_ ?_
   ·simp only [vms,vmc,vA,vB,reduceCtorEq,vC,vD]
   ·simp only [vms,vmc,vA,vB,reduceCtorEq,vC,vD]
   ·simp only [vms,vmc,vA,vB,reduceCtorEq,vC,vD]
   ·by_cases hz : (freeP M.ar acc.ref).1=0
    ·rw [if_pos hz,hz]
    ·rw [if_neg hz]
 rw [if_neg ks]
 have no : ∀ j : Int,1≤j→j≤5→(acc.kind == j)=false:=fun j h1 h2 => by rw [beq_eq_false_iff_ne]; omega
 have b1:=no 1 (by decide) (by decide)
 have b2:=no 2 (by decide) (by decide)
 have b3:=no 3 (by decide) (by decide)
 have b4:=no 4 (by decide) (by decide)
 have b5:=no 5 (by decide) (by decide)
 by_cases k6 : acc.kind=6
 ·have b6 : (acc.kind == 6)=true:=by simpa using k6
  rw [if_pos k6]
  by_cases kr : acc.ref=M.root
  ·have br : (acc.ref == M.root)=true:=by simpa using kr
   rw [if_pos kr]
   simp only [vms,vmc,vA,vB,reduceCtorEq,vC,vD,b1,b2,b3,b4,b5,b6,nm,fa,Nat.zero_add,m3,l1,br,fillE,bb1]
   exact bb2 _ (by simp only [vms,vmc,vA,vB,reduceCtorEq,vC,vD])
  ·have br : (acc.ref == M.root)=false:=by simpa using kr
   rw [if_neg kr]
   simp only [vms,vmc,vA,vB,reduceCtorEq,vC,vD,b1,b2,b3,b4,b5,b6,nm,fa,Nat.zero_add,m3,l1,br,m1]
   refine Gives.bind ((ed_retire k K2.ep lo2 c acc.ref).mono ?_)
   rintro _ h4 ⟨rfl,Fe',er4,act4⟩
   obtain ⟨F',R4,act⟩:=upEp er4 act4
   obtain ⟨gC4,hn⟩:=stC act
   simp only [vms,vmc,vA,vB,reduceCtorEq,vC,vD]
   refine fin (er:=(retireE M.ep c acc.ref).1) (n:=0) (ok:=false) (w3 := .nilSlice) (ws:=[]) R4 act (Mods.refl _ _) act.low gC4 (.inl ⟨rfl,rfl⟩) ?_ ?_ ?_ ?_
   ·simp only [vms,vmc,vA,vB,reduceCtorEq,vC,vD]
   ·simp only [vms,vmc,vA,vB,reduceCtorEq,vC,vD]
   ·simp only [vms,vmc,vA,vB,reduceCtorEq,vC,vD]
   ·by_cases hz : (retireE M.ep c acc.ref).1=0
    ·rw [if_pos hz,hz]
    ·rw [if_neg hz]
 have b6:=k0 k6
 rw [if_neg k6]
 by_cases k7 : acc.kind=7
 ·have b7 : (acc.kind == 7)=true:=by simpa using k7
  rw [if_pos k7]
  obtain ⟨pv,lv,KK,E,hFe⟩:=K2.ep
  have s1:=store_int gC2 (i:=1) (k := .i64) (n:=M.ep.now) (by simp)
  simp only [vms,vmc,vA,vB,reduceCtorEq,vC,vD,b1,b2,b3,b4,b5,b6,b7,nm,ne,fa,Nat.zero_add,m1,E.now_load,s1]
  refine fin (er:=0) (n:=M.ep.now) (ok:=false) (w3 := .nilSlice) (ws:=[]) R2 ac0 (mset _ (Mods.refl _ _)) (lo2.set (lo2 _ _ gC2) _) get_set_same (.inl ⟨rfl,rfl⟩) ?_ ?_ ?_ rfl
  all_goals (simp only [vms,vmc,vA,vB,reduceCtorEq,vC,vD] <;> rfl)
 have b7:=k0 k7
 rw [if_neg k7]
 by_cases k8 : acc.kind=8
 ·have b8 : (acc.kind == 8)=true:=by simpa using k8
  rw [if_pos k8]
  simp only [vms,vmc,vA,vB,reduceCtorEq,vC,vD,b1,b2,b3,b4,b5,b6,b7,b8,nm,fa,Nat.zero_add,m1,l3]
  refine Gives.bind ((ed_pin k K2.ep lo2 c acc.n).mono ?_)
  rintro _ h4 ⟨rfl,Fe',er4,act4⟩
  obtain ⟨F',R4,act⟩:=upEp er4 act4
  obtain ⟨gC4,hn⟩:=stC act
  have s1:=store_bool (b:=(pinE M.ep c acc.n).1) gC4 (i:=2) (by simp)
  simp only [vms,vmc,vA,vB,reduceCtorEq,vC,vD,fa,Nat.zero_add,s1]
  refine fin (er:=0) (n:=0) (ok:=(pinE M.ep c acc.n).1) (w3 := .nilSlice) (ws:=[]) R4 act (mset _ (Mods.refl _ _)) (act.low.set hn _) get_set_same (.inl ⟨rfl,rfl⟩) ?_ ?_ ?_ rfl
  all_goals (simp only [vms,vmc,vA,vB,reduceCtorEq,vC,vD] <;> rfl)
 have b8:=k0 k8
 rw [if_neg k8]
 by_cases k9 : acc.kind=9
 ·have b9 : (acc.kind == 9)=true:=by simpa using k9
  rw [if_pos k9]
  simp only [vms,vmc,vA,vB,reduceCtorEq,vC,vD,b1,b2,b3,b4,b5,b6,b7,b8,b9,nm,fa,Nat.zero_add,m1]
  refine Gives.bind ((ed_unpin k K2.ep lo2 c).mono ?_)
  rintro _ h4 ⟨rfl,Fe',er4,act4⟩
  obtain ⟨F',R4,act⟩:=upEp er4 act4
  obtain ⟨gC4,hn⟩:=stC act
  have s1:=store_bool (b:=(unpinE M.ep c).1) gC4 (i:=2) (by simp)
  simp only [vms,vmc,vA,vB,reduceCtorEq,vC,vD,fa,Nat.zero_add,s1]
  refine fin (er:=0) (n:=0) (ok:=(unpinE M.ep c).1) (w3 := .nilSlice) (ws:=[]) R4 act (mset _ (Mods.refl _ _)) (act.low.set hn _) get_set_same (.inl ⟨rfl,rfl⟩) ?_ ?_ ?_ rfl
  all_goals (simp only [vms,vmc,vA,vB,reduceCtorEq,vC,vD] <;> rfl)
 have b9:=k0 k9
 rw [if_neg k9]
 by_cases k10 : acc.kind=10
 ·have b10 : (acc.kind == 10)=true:=by simpa using k10
  rw [if_pos k10]
  have s1:=store_int gC2 (i:=1) (k := .i64) (n := -1) (by simp)
  have hnA : h.next < h2.next:=lo2 _ _ gA2
  have on3 : Mods h2 (h2.set (h.next + 1 + 1) (.cells ([AV.int .i64 0,.int .i64 0,.bool false,.nilSlice].set 1 (.int .i64 (-1))) true)) (fun o => o=h.next + 1 + 1):=mset _ (Mods.refl _ _)
  have lo3 : Low (h2.set (h.next + 1 + 1) (.cells ([AV.int .i64 0,.int .i64 0,.bool false,.nilSlice].set 1 (.int .i64 (-1))) true)):=lo2.set (lo2 _ _ gC2) _
  have gC3 : (h2.set (h.next + 1 + 1) (.cells ([AV.int .i64 0,.int .i64 0,.bool false,.nilSlice].set 1 (.int .i64 (-1))) true)).get (h.next + 1 + 1)=some (.cells [.int .i64 0,.int .i64 (-1),.bool false,.nilSlice] true):=get_set_same
  have l3' : loadV (h2.set (h.next + 1 + 1) (.cells ([AV.int .i64 0,.int .i64 0,.bool false,.nilSlice].set 1 (.int .i64 (-1))) true)) false 1 (.ptr h.next 3)=some (.int .i64 acc.n):=load_at ((on3.2 _ hnA (by omega)).trans gA2) rfl
  have m1' : loadV (h2.set (h.next + 1 + 1) (.cells ([AV.int .i64 0,.int .i64 0,.bool false,.nilSlice].set 1 (.int .i64 (-1))) true)) false 1 (.ptr m 1)=some (.ptr e 0):=load_at ((on3.2 _ (by omega) (by omega)).trans K2.obj) rfl
  have ep3 : EdR e M.ep Fe (h2.set (h.next + 1 + 1) (.cells ([AV.int .i64 0,.int .i64 0,.bool false,.nilSlice].set 1 (.int .i64 (-1))) true)):=((K2.ep.res lo2).frame on3 fun o ho e => nC (e ▸ (hF o).2 (.inr (.inr ho)))).holds
  simp only [vms,vmc,vA,vB,reduceCtorEq,vC,vD,b1,b2,b3,b4,b5,b6,b7,b8,b9,b10,nm,fa,Nat.zero_add,s1,m1',l3']
  generalize (h2.set (h.next + 1 + 1) (.cells ([AV.int .i64 0,.int .i64 0,.bool false,.nilSlice].set 1 (.int .i64 (-1))) true))=h3 at *
  refine Gives.bind ((ed_client k ep3 acc.n).mono ?_)
  rintro _ _ ⟨rfl,hcn⟩
  rename_i h3
  rcases hcn with ⟨j,hj,hlt2,rfl⟩ | ⟨hno,rfl⟩
  ·obtain ⟨pv,lv,KK,E,hFe⟩:=ep3
   obtain ⟨p,hp,hc⟩:=E.cls_at hlt2
   obtain ⟨po,hpo,hix,hpl⟩:=E.pin_at hp
   have hpn : pinOfE M.ep acc.n=p.1.pin:=by rw [hj]; simp only [pinOfE,cl_nat,hc]
   rw [← hj] at hix
   have s3:=store_int gC3 (i:=1) (k := .i64) (n:=p.1.pin) (by simp)
   simp only [vms,vmc,vA,vB,reduceCtorEq,vC,vD,nm,ne,fa,Nat.zero_add,m1',l3',E.pv_load,hix,hpl,s3]
   refine fin (er:=0) (n:=p.1.pin) (ok:=false) (w3 := .nilSlice) (ws:=[]) R2 ac0 (mset _ on3) (lo3.set (lo3 _ _ gC3) _) get_set_same (.inl ⟨rfl,rfl⟩) ?_ ?_ ?_ (by rw [hpn]; rfl)
   all_goals (simp only [vms,vmc,vA,vB,reduceCtorEq,vC,vD] <;> rfl)
  ·have hpn : pinOfE M.ep acc.n = -1:=by simp only [pinOfE,cl_out hno]
   simp only [vms,vmc,vA,vB,reduceCtorEq,vC,vD]
   refine fin (er:=0) (n := -1) (ok:=false) (w3 := .nilSlice) (ws:=[]) R2 ac0 on3 lo3 gC3 (.inl ⟨rfl,rfl⟩) ?_ ?_ ?_ (by rw [hpn]; rfl)
   all_goals (simp only [vms,vmc,vA,vB,reduceCtorEq,vC,vD] <;> rfl)
 have b10:=k0 k10
 rw [if_neg k10]
 by_cases k11 : acc.kind=11
 ·have b11 : (acc.kind == 11)=true:=by simpa using k11
  rw [if_pos k11]
  simp only [vms,vmc,vA,vB,reduceCtorEq,vC,vD,b1,b2,b3,b4,b5,b6,b7,b8,b9,b10,b11,nm,fa,Nat.zero_add,m1,l3]
  refine Gives.bind ((ed_adv k K2.ep lo2 acc.n).mono ?_)
  rintro _ h4 ⟨rfl,Fe',er4,act4⟩
  obtain ⟨F',R4,act⟩:=upEp er4 act4
  obtain ⟨gC4,hn⟩:=stC act
  have s1:=store_bool (b:=(advE M.ep acc.n).1) gC4 (i:=2) (by simp)
  simp only [vms,vmc,vA,vB,reduceCtorEq,vC,vD,fa,Nat.zero_add,s1]
  refine fin (er:=0) (n:=0) (ok:=(advE M.ep acc.n).1) (w3 := .nilSlice) (ws:=[]) R4 act (mset _ (Mods.refl _ _)) (act.low.set hn _) get_set_same (.inl ⟨rfl,rfl⟩) ?_ ?_ ?_ rfl
  all_goals (simp only [vms,vmc,vA,vB,reduceCtorEq,vC,vD] <;> rfl)
 have b11:=k0 k11
 rw [if_neg k11]
 by_cases k12 : acc.kind=12
 ·have b12 : (acc.kind == 12)=true:=by simpa using k12
  rw [if_pos k12]
  simp only [vms,vmc,vA,vB,reduceCtorEq,vC,vD,b1,b2,b3,b4,b5,b6,b7,b8,b9,b10,b11,b12,nm,fa,Nat.zero_add,m1]
  refine Gives.bind ((ed_collect k K2.ep lo2 c).mono ?_)
  rintro _ h4 ⟨rfl,Fe',er4,act4⟩
  obtain ⟨K4,actK⟩:=K2.setEp lo2 er4 act4
  have R4 : MemD m { M with ep:=(collectE M.ep c).2.2 } (fun o => o=m∨Fa o∨Fe' o) h4:=⟨a,e,Fa,Fe',K4,fun o => Iff.rfl⟩
  have act : Acts h2 F h4 (fun o => o=m∨Fa o∨Fe' o):=⟨actK.mods.mono fun o ho => .inl ((hF o).2 ho),fun o ho => (actK.grow o ho).imp (hF o).2 id,actK.low⟩
  obtain ⟨gC4,hn⟩:=stC act
  have s1:=store_int gC4 (i:=1) (k := .i64) (n:=(collectE M.ep c).1) (by simp)
  have s2:=store_bool (h:=h4.set (h.next + 1 + 1) (.cells ([AV.int .i64 0,.int .i64 0,.bool false,.nilSlice].set 1 (.int .i64 (collectE M.ep c).1)) true)) (b:=(collectE M.ep c).2.1) (o:=h.next + 1 + 1) (i:=2) get_set_same (by simp)
  have on5 : Mods h4 ((h4.set (h.next + 1 + 1) (.cells ([AV.int .i64 0,.int .i64 0,.bool false,.nilSlice].set 1 (.int .i64 (collectE M.ep c).1)) true)).set (h.next + 1 + 1) (.cells (([AV.int .i64 0,.int .i64 0,.bool false,.nilSlice].set 1 (.int .i64 (collectE M.ep c).1)).set 2 (.bool (collectE M.ep c).2.1)) true)) (fun o => o=h.next + 1 + 1):=mset _ (mset _ (Mods.refl _ _))
  have lo5 : Low ((h4.set (h.next + 1 + 1) (.cells ([AV.int .i64 0,.int .i64 0,.bool false,.nilSlice].set 1 (.int .i64 (collectE M.ep c).1)) true)).set (h.next + 1 + 1) (.cells (([AV.int .i64 0,.int .i64 0,.bool false,.nilSlice].set 1 (.int .i64 (collectE M.ep c).1)).set 2 (.bool (collectE M.ep c).2.1)) true)):=low_set2 act.low hn _ _
  have gC5 : ((h4.set (h.next + 1 + 1) (.cells ([AV.int .i64 0,.int .i64 0,.bool false,.nilSlice].set 1 (.int .i64 (collectE M.ep c).1)) true)).set (h.next + 1 + 1) (.cells (([AV.int .i64 0,.int .i64 0,.bool false,.nilSlice].set 1 (.int .i64 (collectE M.ep c).1)).set 2 (.bool (collectE M.ep c).2.1)) true)).get (h.next + 1 + 1)=some (.cells [.int .i64 0,.int .i64 (collectE M.ep c).1,.bool (collectE M.ep c).2.1,.nilSlice] true):=get_set_same
  simp only [vms,vmc,vA,vB,reduceCtorEq,vC,vD,fa,Nat.zero_add,s1,s2]
  generalize ((h4.set (h.next + 1 + 1) (.cells ([AV.int .i64 0,.int .i64 0,.bool false,.nilSlice].set 1 (.int .i64 (collectE M.ep c).1)) true)).set (h.next + 1 + 1) (.cells (([AV.int .i64 0,.int .i64 0,.bool false,.nilSlice].set 1 (.int .i64 (collectE M.ep c).1)).set 2 (.bool (collectE M.ep c).2.1)) true))=h5 at *
  have ld2:=load_at gC5 (i:=2) rfl
  have ld1:=load_at gC5 (i:=1) rfl
  simp only [vms,vmc,vA,vB,reduceCtorEq,vC,vD,ld2]
  cases hok : (collectE M.ep c).2.1
  ·have hcp : collectP M c=(⟨0,0,false,[]⟩,M):=by
    unfold collectP
    rw [if_pos hok]
   rw [hcp]
   simp only [vms,vmc,vA,vB,reduceCtorEq,vC,vD]
   have hM : ({ M with ep:=(collectE M.ep c).2.2 } : MemP)=M:=by rw [collectE_none hok]
   rw [hM] at R4
   refine fin (er:=0) (n:=(collectE M.ep c).1) (ok:=(collectE M.ep c).2.1) (w3 := .nilSlice) (ws:=[]) R4 act on5 lo5 gC5 (.inl ⟨rfl,rfl⟩) ?_ ?_ ?_ (by rw [if_pos rfl,collectE_no hok,hok])
   all_goals (simp only [vms,vmc,vA,vB,reduceCtorEq,vC,vD] <;> rfl)
  ·have hcp : collectP M c=if (freeP M.ar (collectE M.ep c).1).1≠0 then (⟨(freeP M.ar (collectE M.ep c).1).1,0,false,[]⟩,{ M with ep:=(collectE M.ep c).2.2,ar:=(freeP M.ar (collectE M.ep c).1).2 }) else (⟨0,(collectE M.ep c).1,true,[]⟩,{ M with ep:=(collectE M.ep c).2.2,ar:=(freeP M.ar (collectE M.ep c).1).2 }):=by
    unfold collectP
    rw [if_neg (by rw [hok]; decide)]
   rw [hcp]
   have nC4 : ¬ (h.next + 1 + 1=m∨Fa (h.next + 1 + 1)∨Fe' (h.next + 1 + 1)):=act.not (by omega) nC
   have K5 : MemDK h5 m a e Fa Fe' { M with ep:=(collectE M.ep c).2.2 } :=
    ⟨(on5.2 _ (act.low _ _ K4.obj) (by omega)).trans K4.obj,((K4.ar.res act.low).frame on5 fun o ho e => nC4 (.inr (.inl (e ▸ ho)))).holds,((K4.ep.res act.low).frame on5 fun o ho e => nC4 (.inr (.inr (e ▸ ho)))).holds,K4.m_a,K4.m_e,K4.apart⟩
   have m0':=load_at K5.obj (i:=0) rfl
   simp only [vms,vmc,vA,vB,reduceCtorEq,vC,vD,nm,fa,Nat.zero_add,m0',ld1]
   refine Gives.bind ((ref_free k K5.ar lo5 (collectE M.ep c).1).mono ?_)
   rintro _ h6 ⟨rfl,Fa',ar6,act6⟩
   obtain ⟨K6,actK6⟩:=K5.setAr lo5 ar6 act6
   have nC6 : ¬ Fa (h.next + 1 + 1):=fun hf => nC4 (.inr (.inl hf))
   have gC6:=act6.get gC5 (lo5 _ _ gC5) nC6
   have R6 : MemD m { M with ep:=(collectE M.ep c).2.2,ar:=(freeP M.ar (collectE M.ep c).1).2 } (fun o => o=m∨Fa' o∨Fe' o) h6:=⟨a,e,Fa',Fe',K6,fun o => Iff.rfl⟩
   have md6 : Mods h2 h6 (fun o => F o∨o=h.next + 1 + 1) :=
    ((act.mods.mono fun o ho => .inl (.inl ho)).trans on5 fun o ho => .inl (.inr ho)).trans act6.mods fun o ho => .inl (.inl ((hF o).2 (.inr (.inl ho))))
   have hn5:=on5.1
   have hn4:=act.mods.1
   have gr6 : ∀ o,(o=m∨Fa' o∨Fe' o)→F o∨h2.next≤o:=by
    rintro o (h7 | h7 | h7)
    ·exact act.grow o (.inl h7)
    ·rcases act6.grow o h7 with h8 | h8
     ·exact .inl ((hF o).2 (.inr (.inl h8)))
     ·exact .inr (by omega)
    ·exact act.grow o (.inr (.inr h7))
   simp only [vms,vmc,vA,vB,reduceCtorEq,vC,vD]
   by_cases hz : (freeP M.ar (collectE M.ep c).1).1=0
   ·rw [if_neg (show ¬ ((freeP M.ar (collectE M.ep c).1).1≠0) from fun h => h hz)]
    refine fin2 (er:=(freeP M.ar (collectE M.ep c).1).1) (n:=(collectE M.ep c).1) (ok:=(collectE M.ep c).2.1) (w3 := .nilSlice) (ws:=[]) R6 md6 gr6 act6.low gC6 (.inl ⟨rfl,rfl⟩) ?_ ?_ ?_ (by rw [if_pos hz,hok])
    all_goals simp only [vms,vmc,vA,vB,reduceCtorEq,vC,vD]
   ·rw [if_pos hz]
    refine fin2 (er:=(freeP M.ar (collectE M.ep c).1).1) (n:=(collectE M.ep c).1) (ok:=(collectE M.ep c).2.1) (w3 := .nilSlice) (ws:=[]) R6 md6 gr6 act6.low gC6 (.inl ⟨rfl,rfl⟩) ?_ ?_ ?_ (by rw [if_neg hz])
    all_goals simp only [vms,vmc,vA,vB,reduceCtorEq,vC,vD]
 have b12:=k0 k12
 rw [if_neg k12]
 have hold : ∀ x : Int,∃ h3,storeV h2 1 (.ptr m 2) (.int .i64 x)=some h3∧MemD m { M with holder:=x } F h3∧Acts h2 F h3 F:=by
  intro x
  obtain ⟨h3,st,K3,act3⟩:=K2.hold lo2 x
  exact ⟨h3,st,⟨a,e,Fa,Fe,K3,hF⟩,⟨act3.mods.mono fun o ho => .inl ((hF o).2 ho),fun o ho => .inl ho,act3.low⟩⟩
 by_cases kt : 13≤acc.kind∧acc.kind≤15
 ·rw [if_pos kt]
  unfold turnP
  by_cases k13 : acc.kind=13
  ·have b13 : (acc.kind == 13)=true:=by simpa using k13
   rw [if_pos k13]
   have s1:=store_int gC2 (i:=1) (k := .i64) (n:=M.holder) (by simp)
   simp only [vms,vmc,vA,vB,reduceCtorEq,vC,vD,b1,b2,b3,b4,b5,b6,b7,b8,b9,b10,b11,b12,b13,nm,fa,Nat.zero_add,m2,s1]
   refine fin (er:=0) (n:=M.holder) (ok:=false) (w3 := .nilSlice) (ws:=[]) R2 ac0 (mset _ (Mods.refl _ _)) (lo2.set (lo2 _ _ gC2) _) get_set_same (.inl ⟨rfl,rfl⟩) ?_ ?_ ?_ rfl
   all_goals (simp only [vms,vmc,vA,vB,reduceCtorEq,vC,vD] <;> rfl)
  have b13:=k0 k13
  rw [if_neg k13]
  by_cases k14 : acc.kind=14
  ·have b14 : (acc.kind == 14)=true:=by simpa using k14
   by_cases hh : M.holder < 0
   ·have d : decide (M.holder < 0)=true:=by simpa using hh
    rw [if_pos (show acc.kind=14∧M.holder < 0 from ⟨k14,hh⟩)]
    obtain ⟨h3,st,R3,act⟩:=hold c
    obtain ⟨gC4,hn⟩:=stC act
    have s1:=store_bool (b:=true) gC4 (i:=2) (by simp)
    simp only [vms,vmc,vA,vB,reduceCtorEq,vC,vD,b1,b2,b3,b4,b5,b6,b7,b8,b9,b10,b11,b12,b13,b14,nm,fa,Nat.zero_add,m2,d,st,s1]
    refine fin (er:=0) (n:=0) (ok:=true) (w3 := .nilSlice) (ws:=[]) R3 act (mset _ (Mods.refl _ _)) (act.low.set hn _) get_set_same (.inl ⟨rfl,rfl⟩) ?_ ?_ ?_ rfl
    all_goals (simp only [vms,vmc,vA,vB,reduceCtorEq,vC,vD] <;> rfl)
   ·have d : decide (M.holder < 0)=false:=by simpa using hh
    rw [if_neg (show ¬ (acc.kind=14∧M.holder < 0) from fun hc => hh hc.2),if_neg (show ¬ (acc.kind=15∧M.holder=c) from fun hc => by have:=hc.1; omega)]
    simp only [vms,vmc,vA,vB,reduceCtorEq,vC,vD,b1,b2,b3,b4,b5,b6,b7,b8,b9,b10,b11,b12,b13,b14,nm,fa,Nat.zero_add,m2,d]
    refine fin (er:=0) (n:=0) (ok:=false) (w3 := .nilSlice) (ws:=[]) R2 ac0 (Mods.refl _ _) lo2 gC2 (.inl ⟨rfl,rfl⟩) ?_ ?_ ?_ rfl
    all_goals (simp only [vms,vmc,vA,vB,reduceCtorEq,vC,vD] <;> rfl)
  have b14:=k0 k14
  rw [if_neg (show ¬ (acc.kind=14∧M.holder < 0) from fun hc => k14 hc.1)]
  have k15 : acc.kind=15:=by omega
  have b15 : (acc.kind == 15)=true:=by simpa using k15
  by_cases hh : M.holder=c
  ·have d : (M.holder == c)=true:=by simpa using hh
   rw [if_pos (show acc.kind=15∧M.holder=c from ⟨k15,hh⟩)]
   obtain ⟨h3,st,R3,act⟩:=hold (-1)
   obtain ⟨gC4,hn⟩:=stC act
   have s1:=store_bool (b:=true) gC4 (i:=2) (by simp)
   simp only [vms,vmc,vA,vB,reduceCtorEq,vC,vD,b1,b2,b3,b4,b5,b6,b7,b8,b9,b10,b11,b12,b13,b14,b15,nm,fa,Nat.zero_add,m2,d,st,s1]
   refine fin (er:=0) (n:=0) (ok:=true) (w3 := .nilSlice) (ws:=[]) R3 act (mset _ (Mods.refl _ _)) (act.low.set hn _) get_set_same (.inl ⟨rfl,rfl⟩) ?_ ?_ ?_ rfl
   all_goals (simp only [vms,vmc,vA,vB,reduceCtorEq,vC,vD] <;> rfl)
  ·have d : (M.holder == c)=false:=by simpa using hh
   rw [if_neg (show ¬ (acc.kind=15∧M.holder=c) from fun hc => hh hc.2)]
   simp only [vms,vmc,vA,vB,reduceCtorEq,vC,vD,b1,b2,b3,b4,b5,b6,b7,b8,b9,b10,b11,b12,b13,b14,b15,nm,fa,Nat.zero_add,m2,d]
   refine fin (er:=0) (n:=0) (ok:=false) (w3 := .nilSlice) (ws:=[]) R2 ac0 (Mods.refl _ _) lo2 gC2 (.inl ⟨rfl,rfl⟩) ?_ ?_ ?_ rfl
   all_goals (simp only [vms,vmc,vA,vB,reduceCtorEq,vC,vD] <;> rfl)
 rw [if_neg kt]
 have b13:=k0 (show acc.kind≠13 by omega)
 have b14:=k0 (show acc.kind≠14 by omega)
 have b15:=k0 (show acc.kind≠15 by omega)
 simp only [vms,vmc,vA,vB,reduceCtorEq,vC,vD,b1,b2,b3,b4,b5,b6,b7,b8,b9,b10,b11,b12,b13,b14,b15]
 refine fin (er:=1) (n:=0) (ok:=false) (w3 := .nilSlice) (ws:=[]) R2 ac0 (Mods.refl _ _) lo2 gC2 (.inl ⟨rfl,rfl⟩) ?_ ?_ ?_ rfl
 all_goals (simp only [vms,vmc,vA,vB,reduceCtorEq,vC,vD] <;> rfl)
end Go.Proofs.Ytagcnjhpdopkiaa

/- Arguments of any plain type: what came in, as values and memory of the machine. -/
import Derived.Test.YtakgcpmemalmaaaGreatDoorVmZf
import Derived.Test.YtakgcpmemalmaaaGreatDoorVmZ
import Derived.DataReads
import Derived.ChangeShapes
namespace Go.Vm
open Go.RowKit
set_option linter.unusedSimpArgs false
set_option linter.unusedVariables false
def bareT (P : Program) : Nat→TypeId→Bool
 | 0,_ => false
 | d + 1,t => match P.underlying t with
  | some .bool | some (.int _) | some .string => P.cellsOf t == 1
  | some (.struct fs) => fs.toList.all fun f => bareT P d f.type
  | some (.array _ e) => bareT P d e
  | _ => false
def contig (P : Program) : Nat→List Field→Nat→Bool
 | o,[],n => o == n
 | o,f :: r,n => f.offset == o && contig P (o + P.cellsOf f.type) r n
def plainT (P : Program) (dp : Bool) : Nat→TypeId→Bool
 | 0,_ => false
 | d + 1,t => match P.underlying t with
  | some .bool | some (.int _) | some .string => P.cellsOf t == 1
  | some (.slice e) => (bareT P d e || dp) && plainT P dp d e && decide (0 < P.cellsOf e) && (P.cellsOf t == 1)
  | some (.struct fs) => contig P 0 fs.toList (P.cellsOf t) && fs.toList.all fun f => plainT P dp d f.type
  | some (.array n e) => (P.cellsOf t == n * P.cellsOf e) && plainT P dp d e
  | _ => false
def SpotOk (W : World) (c : Value) : Prop:=∀ x len cap,c = .slice (some x) len cap→x.spot=none∧∃ C te fz,W.heap[x.block]?=some (.cells C te fz)∧x.off≤C.size
inductive Came (P : Program) (h : AH) : TypeId→List AV→Prop where
 | bool {t : TypeId} (b : Bool) (ht : P.underlying t=some .bool) : Came P h t [.bool b]
 | int {t : TypeId} {k : IntKind} {n : Int} (ht : P.underlying t=some (.int k)) (hw : (Lit.int k n).wf=true) : Came P h t [.int k n]
 | str {t : TypeId} {s : List UInt8} (ht : P.underlying t=some .string) (hl : s.length≤maxLen) : Came P h t [.str s]
 | nil {t e : TypeId} (ht : P.underlying t=some (.slice e)) : Came P h t [.nilSlice]
 | slice {t e : TypeId} {o n cap : Nat} {l : List AV} (ht : P.underlying t=some (.slice e)) (hg : h.get o=some (.cells l false)) (hl : l.length=cap * P.cellsOf e) (hn : n≤cap) (hc : cap≤maxLen)
   (each : ∀ i,i < cap→Came P h e ((l.drop (i * P.cellsOf e)).take (P.cellsOf e))) : Came P h t [.slice o 0 (P.cellsOf e) n cap true]
 | struct {t : TypeId} {fs : Array Field} {cs : List AV} (ht : P.underlying t=some (.struct fs)) (hl : cs.length=P.cellsOf t) (each : ∀ f∈fs.toList,Came P h f.type ((cs.drop f.offset).take (P.cellsOf f.type))) : Came P h t cs
 | array {t e : TypeId} {n : Nat} {cs : List AV} (ht : P.underlying t=some (.array n e)) (hl : cs.length=P.cellsOf t) (each : ∀ i,i < n→Came P h e ((cs.drop (i * P.cellsOf e)).take (P.cellsOf e))) : Came P h t cs
theorem Came.quiet {P : Program} {h h' : AH} (hl : Low h) (q : Quiet h h') {t : TypeId} {cs : List AV} (c : Came P h t cs) : Came P h' t cs:=by
 induction c with
 | bool b ht => exact .bool b ht
 | int ht hw => exact .int ht hw
 | str ht hs => exact .str ht hs
 | nil ht => exact .nil ht
 | slice ht hg hl' hn hc each ih => exact .slice ht (q.get hg (hl _ _ hg)) hl' hn hc ih
 | struct ht hl' each ih => exact .struct ht hl' ih
 | array ht hl' each ih => exact .array ht hl' ih
theorem cell_spot {W : World} {a : Addr} {v : Value} (h : W.cell? a=some v) : a.spot=none∧∃ C te fz,W.heap[a.block]?=some (.cells C te fz)∧C[a.off]?=some v:=by
 unfold World.cell? at h
 split at h
 ·rename_i c te fz hb
  split at h
  ·cases h
  ·rename_i hs
   exact ⟨by simpa using hs,c,te,fz,hb,h⟩
 ·cases h
theorem add_plain (b off n : Nat) : Addr.add ⟨b,off,none⟩ n=⟨b,off + n,none⟩:=by
 unfold Addr.add; split
 ·rename_i e; subst e; rfl
 ·rfl
theorem cells_get {W : World} {a : Addr} {n : Nat} {cs : List Value} (h : W.cells? 0 a n=some cs) : cs.length=n∧∀ i,i < n→W.cell? (a.add i)=cs[i]?:=by
 unfold World.cells? at h
 rw [if_pos (Nat.zero_le _)] at h
 exact ⟨by simpa using mapM_some_length h,fun i hi => mapM_some_get h i i (by simp [hi])⟩
theorem contig_le {P : Program} : ∀ {fs : List Field} {o n : Nat},contig P o fs n=true→o≤n∧∀ f∈fs,o≤f.offset
 | [],o,n,h => by
  simp only [contig,beq_iff_eq] at h
  exact ⟨by omega,fun f hf => by simp at hf⟩
 | f :: r,o,n,h => by
  simp only [contig,Bool.and_eq_true,beq_iff_eq] at h
  obtain ⟨h1,h2⟩:=contig_le h.2
  refine ⟨by omega,fun g hg => ?_⟩
  rcases List.mem_cons.1 hg with rfl | h3
  ·omega
  ·have:=h2 g h3; omega
section
variable {H : Type} {enc : TypeId×Value→H} {P : Program} {W : World} {held : Bool} {dp : Bool} {N : Nat}
structure Got (P : Program) (W : World) (μ : Inj) (h : AH) (t : TypeId) (cs : List Value) (μ' : Inj) (h' : AH) (as : List AV) : Prop where
 le : Inj.le μ μ'
 r : R (till W.heap.size) W μ' h' W
 rel : VRels μ' as cs
 came : Came P h' t as
 quiet : Quiet h h'
 low : Low h'
def Brings (enc : TypeId×Value→H) (P : Program) (W : World) (held : Bool) (dp : Bool) (fuel : Nat) : Prop :=
 ∀ (d : Nat) (t : TypeId) (cs : List Value) (y : DataW H×List MemPlace),DataW.trod enc P W 0 (fun _ => true) held fuel t cs=some y→plainT P dp d t=true →
  ∀ (μ : Inj) (h : AH),R (till W.heap.size) W μ h W→Low h→∃ μ' h' as,Got P W μ h t cs μ' h' as
theorem brings_many {fuel d : Nat} {e : TypeId} (ih : Brings enc P W held dp fuel) (hp : plainT P dp d e=true) (b off : Nat) : ∀ (n : Nat),(∀ i,i < n→∃ cs y,W.cells? 0 ⟨b,off + i * P.cellsOf e,none⟩ (P.cellsOf e)=some cs∧DataW.trod enc P W 0 (fun _ => true) held fuel e cs=some y) →
  ∀ (μ : Inj) (h : AH),R (till W.heap.size) W μ h W→Low h→∃ (μ' : Inj) (h' : AH) (l : List AV),Inj.le μ μ'∧R (till W.heap.size) W μ' h' W∧Quiet h h'∧Low h'∧l.length=n * P.cellsOf e∧(∀ i u v,l[i]?=some u→W.cell? ⟨b,off + i,none⟩=some v→VRel μ' u v)∧(∀ i,i < l.length→∃ v,W.cell? ⟨b,off + i,none⟩=some v)∧∀ i,i < n→Came P h' e ((l.drop (i * P.cellsOf e)).take (P.cellsOf e))
 | 0,_,μ,h,r,lo => ⟨μ,h,[],Inj.le_refl _,r,Quiet.refl _,lo,by simp,fun i u v hu => by simp at hu,fun i hi => by simp at hi,fun i hi => by omega⟩
 | n + 1,hel,μ,h,r,lo => by
  obtain ⟨μ1,h1,l,e1,r1,q1,lo1,ll,hv,hx,hc⟩:=brings_many ih hp b off n (fun i hi => hel i (by omega)) μ h r lo
  obtain ⟨cs,y,hcs,hy⟩:=hel n (by omega)
  obtain ⟨g1,g2⟩:=cells_get hcs
  have hat : ∀ j,j < P.cellsOf e→W.cell? ⟨b,off + (n * P.cellsOf e + j),none⟩=cs[j]?:=by
   intro j hj
   have:=g2 j hj
   rw [add_plain] at this
   rw [← this]
   congr 2
   omega
  obtain ⟨μ2,h2,as,G⟩:=ih d e cs y hy hp μ1 h1 r1 lo1
  have hal : as.length=P.cellsOf e:=by rw [G.rel.1,g1]
  refine ⟨μ2,h2,l ++ as,Inj.le_trans e1 G.le,G.r,q1.trans G.quiet,G.low,by rw [List.length_append,ll,hal,Nat.add_mul,Nat.one_mul],?_,?_,?_⟩
  ·intro i u v hu hw
   by_cases hi : i < l.length
   ·rw [List.getElem?_append_left hi] at hu
    exact (hv i u v hu hw).mono G.le
   ·rw [List.getElem?_append_right (by omega)] at hu
    have hj : i - l.length < P.cellsOf e:=by have:=(List.getElem?_eq_some_iff.1 hu).1; omega
    have:=hat (i - l.length) hj
    rw [show off + (n * P.cellsOf e + (i - l.length))=off + i by omega,hw] at this
    exact G.rel.2 _ u v hu this.symm
  ·intro i hi
   by_cases hi2 : i < l.length
   ·exact hx i hi2
   ·rw [List.length_append] at hi
    have hj : i - l.length < P.cellsOf e:=by omega
    have:=hat (i - l.length) hj
    rw [show off + (n * P.cellsOf e + (i - l.length))=off + i by omega] at this
    exact ⟨_,this.trans (List.getElem?_eq_getElem (by omega))⟩
  ·intro i hi
   by_cases e2 : i=n
   ·subst e2
    rw [← ll,List.drop_left,← hal,List.take_length]
    exact G.came
   ·have hlt : i < n:=by omega
    have hm : (i + 1) * P.cellsOf e≤n * P.cellsOf e:=Nat.mul_le_mul_right _ (by omega)
    rw [Nat.add_mul,Nat.one_mul] at hm
    rw [List.drop_append_of_le_length (by omega),List.take_append_of_le_length (by rw [List.length_drop]; omega)]
    exact (hc i hlt).quiet lo1 G.quiet
theorem brings_fields {fuel d : Nat} (ih : Brings enc P W held dp fuel) {cs : List Value} : ∀ (fs : List Field) (o : Nat),contig P o fs cs.length=true→(∀ f∈fs,plainT P dp d f.type=true)→(∀ f∈fs,∃ y,DataW.trod enc P W 0 (fun _ => true) held fuel f.type ((cs.drop f.offset).take (P.cellsOf f.type))=some y) →
  ∀ (μ : Inj) (h : AH),R (till W.heap.size) W μ h W→Low h→∃ (μ' : Inj) (h' : AH) (as : List AV),Inj.le μ μ'∧R (till W.heap.size) W μ' h' W∧Quiet h h'∧Low h'∧VRels μ' as (cs.drop o)∧∀ f∈fs,Came P h' f.type ((as.drop (f.offset - o)).take (P.cellsOf f.type))
 | [],o,hc,_,_,μ,h,r,lo => by
  simp only [contig,beq_iff_eq] at hc
  exact ⟨μ,h,[],Inj.le_refl _,r,Quiet.refl _,lo,by rw [hc,List.drop_length]; exact .nil,fun f hf => by simp at hf⟩
 | f :: fs,o,hc,hp,ht,μ,h,r,lo => by
  simp only [contig,Bool.and_eq_true,beq_iff_eq] at hc
  obtain ⟨ho,hc⟩:=hc
  obtain ⟨hle,hofs⟩:=contig_le hc
  obtain ⟨y,hy⟩:=ht f (by simp)
  obtain ⟨μ1,h1,a1,G⟩:=ih d f.type _ y hy (hp f (by simp)) μ h r lo
  obtain ⟨μ2,h2,a2,e2,r2,q2,lo2,v2,c2⟩:=brings_fields ih fs (o + P.cellsOf f.type) hc (fun g hg => hp g (by simp [hg])) (fun g hg => ht g (by simp [hg])) μ1 h1 G.r G.low
  have hal : a1.length=P.cellsOf f.type:=by rw [G.rel.1,List.length_take,List.length_drop]; omega
  refine ⟨μ2,h2,a1 ++ a2,Inj.le_trans G.le e2,r2,G.quiet.trans q2,lo2,?_,?_⟩
  ·have:=VRels.append (G.rel.mono e2) v2
   rw [ho] at this
   rw [← List.drop_drop,List.take_append_drop] at this
   exact this
  ·intro g hg
   rcases List.mem_cons.1 hg with rfl | h3
   ·rw [ho,Nat.sub_self,List.drop_zero,List.take_append_of_le_length (by omega),List.take_of_length_le (by omega)]
    exact G.came.quiet G.low q2
   ·have h4:=hofs g h3
    rw [show g.offset - o=a1.length + (g.offset - (o + P.cellsOf f.type)) by omega,List.drop_append,List.drop_eq_nil_of_le (by omega),List.nil_append,Nat.add_sub_cancel_left]
    exact c2 g h3
theorem brings_array {fuel d n : Nat} {e : TypeId} (ih : Brings enc P W held dp fuel) (hp : plainT P dp d e=true) {cs : List Value} : ∀ (m : Nat),m≤n→cs.length=n * P.cellsOf e→(∀ i,i < n→∃ y,DataW.trod enc P W 0 (fun _ => true) held fuel e ((cs.drop (i * P.cellsOf e)).take (P.cellsOf e))=some y) →
  ∀ (μ : Inj) (h : AH),R (till W.heap.size) W μ h W→Low h→∃ (μ' : Inj) (h' : AH) (as : List AV),Inj.le μ μ'∧R (till W.heap.size) W μ' h' W∧Quiet h h'∧Low h'∧VRels μ' as (cs.take (m * P.cellsOf e))∧∀ i,i < m→Came P h' e ((as.drop (i * P.cellsOf e)).take (P.cellsOf e))
 | 0,_,_,_,μ,h,r,lo => ⟨μ,h,[],Inj.le_refl _,r,Quiet.refl _,lo,by simp; exact .nil,fun i hi => by omega⟩
 | m + 1,hm,hl,ht,μ,h,r,lo => by
  obtain ⟨μ1,h1,l,e1,r1,q1,lo1,v1,c1⟩:=brings_array ih hp m (by omega) hl ht μ h r lo
  obtain ⟨y,hy⟩:=ht m (by omega)
  obtain ⟨μ2,h2,as,G⟩:=ih d e _ y hy hp μ1 h1 r1 lo1
  have hmn : (m + 1) * P.cellsOf e≤n * P.cellsOf e:=Nat.mul_le_mul_right _ hm
  rw [Nat.add_mul,Nat.one_mul] at hmn
  have hal : as.length=P.cellsOf e:=by rw [G.rel.1,List.length_take,List.length_drop]; omega
  have ll : l.length=m * P.cellsOf e:=by rw [v1.1,List.length_take]; omega
  refine ⟨μ2,h2,l ++ as,Inj.le_trans e1 G.le,G.r,q1.trans G.quiet,G.low,?_,?_⟩
  ·have:=VRels.append (v1.mono G.le) G.rel
   rw [Nat.add_mul,Nat.one_mul,List.take_add]
   exact this
  ·intro i hi
   by_cases e2 : i=m
   ·subst e2
    rw [← ll,List.drop_left,← hal,List.take_length]
    exact G.came
   ·have hlt : i < m:=by omega
    have hm' : (i + 1) * P.cellsOf e≤m * P.cellsOf e:=Nat.mul_le_mul_right _ (by omega)
    rw [Nat.add_mul,Nat.one_mul] at hm'
    rw [List.drop_append_of_le_length (by omega),List.take_append_of_le_length (by rw [List.length_drop]; omega)]
    exact (c1 i hlt).quiet lo1 G.quiet
theorem brings : ∀ (fuel : Nat),Brings enc P W held dp fuel
 | 0 => by intro d t cs y hy; simp [DataW.trod] at hy
 | fuel + 1 => by
  have ih:=brings fuel
  intro d t cs y hy hp μ h r lo
  cases d with
  | zero => simp [plainT] at hp
  | succ d =>
  simp only [DataW.trod] at hy
  simp only [plainT] at hp
  split at hy
  ·rename_i b ht
   exact ⟨μ,h,[.bool b],Inj.le_refl _,r,.cons (.bool _) .nil,.bool b ht,Quiet.refl _,lo⟩
  ·rename_i k k' n ht
   split at hy
   ·rename_i hk
    obtain ⟨rfl,hw⟩:=hk
    exact ⟨μ,h,[.int _ n],Inj.le_refl _,r,.cons (.int _ _) .nil,.int ht hw,Quiet.refl _,lo⟩
   ·cases hy
  ·rename_i k k' n ht; simp [ht] at hp
  ·rename_i s ht
   split at hy
   ·rename_i hk
    exact ⟨μ,h,[.str s.data.toList],Inj.le_refl _,r,.cons (.str _) .nil,.str ht (by simpa using hk),Quiet.refl _,lo⟩
   ·cases hy
  ·rename_i ht; simp [ht] at hp
  ·rename_i ht; simp [ht] at hp
  ·rename_i e ht
   exact ⟨μ,h,[.nilSlice],Inj.le_refl _,r,.cons .nilSlice .nil,.nil ht,Quiet.refl _,lo⟩
  ·rename_i e a len cap ht
   simp only [ht,Bool.and_eq_true,Bool.or_eq_true,decide_eq_true_eq,beq_iff_eq] at hp
   obtain ⟨⟨⟨hfd,hpe⟩,hpos⟩,_⟩:=hp
   split at hy
   ·rename_i hk
    obtain ⟨_,hlc,hcm⟩:=hk
    simp only [if_true,Option.map_eq_some_iff,Option.bind_eq_some_iff] at hy
    obtain ⟨elems,he,rest,hr,_⟩:=hy
    by_cases hc0 : cap=0
    ·subst hc0
     have hl0 : len=0:=by omega
     subst hl0
     exact ⟨μ,_,[.slice h.next 0 (P.cellsOf e) 0 0 true],Inj.le_refl _,r.skip (.cells [] false),.cons .empt .nil,.slice ht get_new_same (by simp) (Nat.le_refl _) (by omega) (fun i hi => by omega),(Quiet.refl h).new _,lo.new _⟩
    have key : ∀ i,i < cap→∃ z,(W.cells? 0 (Addr.add a (i * P.cellsOf e)) (P.cellsOf e)).bind (DataW.trod enc P W 0 (fun _ => true) held fuel e)=some z:=by
     intro i hi
     by_cases hi2 : i < len
     ·have hx:=mapM_some_get he i i (by rw [List.getElem?_range hi2])
      have hln:=mapM_some_length he
      rw [List.length_range] at hln
      exact ⟨_,hx.trans (List.getElem?_eq_getElem (by omega))⟩
     ·have hx:=mapM_some_get hr (i - len) (i - len) (by rw [List.getElem?_range (by omega)])
      have hln:=mapM_some_length hr
      rw [List.length_range] at hln
      rw [show len + (i - len)=i by omega] at hx
      exact ⟨_,hx.trans (List.getElem?_eq_getElem (by omega))⟩
    obtain ⟨hnone,C,te,fz,hb,hoff⟩ : a.spot=none∧∃ C te fz,W.heap[a.block]?=some (.cells C te fz)∧a.off≤C.size:=by
     obtain ⟨z,hz⟩:=key 0 (by omega)
     obtain ⟨cs,h1,h2⟩:=Option.bind_eq_some_iff.1 hz
     obtain ⟨g1,g2⟩:=cells_get h1
     have g3:=g2 0 hpos
     rw [Nat.zero_mul] at g3
     have e0 : ∀ x : Addr,x.add 0=x:=fun x => by simp [Addr.add]
     rw [e0,e0,List.getElem?_eq_getElem (by omega)] at g3
     obtain ⟨k1,C,te,fz,k2,k3⟩:=cell_spot g3
     exact ⟨k1,C,te,fz,k2,Nat.le_of_lt (Array.getElem?_eq_some_iff.1 k3).1⟩
    obtain ⟨b,off,spot⟩:=a
    simp only at hnone
    subst hnone
    have hel : ∀ i,i < cap→∃ cs y,W.cells? 0 ⟨b,off + i * P.cellsOf e,none⟩ (P.cellsOf e)=some cs∧DataW.trod enc P W 0 (fun _ => true) held fuel e cs=some y:=by
     intro i hi
     obtain ⟨z,hz⟩:=key i hi
     obtain ⟨cs,h1,h2⟩:=Option.bind_eq_some_iff.1 hz
     rw [add_plain] at h1
     exact ⟨cs,z,h1,h2⟩
    obtain ⟨μ1,h1,l,e1,r1,q1,lo1,ll,hv,hx,hc⟩:=brings_many ih hpe b off cap hel μ h r lo
    have hbl : b < W.heap.size:=(Array.getElem?_eq_some_iff.1 hb).1
    have hsz : off + l.length≤C.size:=by
     rcases Nat.eq_zero_or_pos l.length with h0 | h0
     ·have : off≤C.size:=hoff
      omega
     ·obtain ⟨v,hvv⟩:=hx (l.length - 1) (by omega)
      obtain ⟨_,C',te',fz',hb',hat⟩:=cell_spot hvv
      rw [hb] at hb'; cases hb'
      have hlast : off + (l.length - 1) < C.size:=(Array.getElem?_eq_some_iff.1 hat).1
      omega
    have hnone : μ1 h1.next=none:=by
     cases hm : μ1 h1.next with
     | none => rfl
     | some y => have:=r1.dom _ _ hm; omega
    have hle2:=Inj.le_add (μ:=μ1) (o:=h1.next) (b,off,C.size) hnone
    obtain ⟨_,r2⟩:=r1.row (l:=l) (base:=off) hb rfl hsz hbl (fun i u v hu hcv => by
     refine (hv i u v hu ?_).mono hle2
     unfold World.cell?
     rw [hb]; simpa using hcv)
    have hsz2 : off + cap * P.cellsOf e≤C.size:=by rw [← ll]; exact hsz
    refine ⟨_,_,[.slice h1.next 0 (P.cellsOf e) len cap true],Inj.le_trans e1 hle2,r2,.cons ?_ .nil,?_,q1.new _,lo1.new _⟩
    ·exact .slice (μ:=Inj.add μ1 h1.next (b,off,C.size)) (base:=off) (size:=C.size) (by simp [Inj.add]) hlc rfl hsz2 (.inl rfl)
    ·exact .slice ht get_new_same ll hlc hcm fun i hi => (hc i hi).quiet lo1 ((Quiet.refl h1).new _)
   ·cases hy
  ·rename_i fs ht
   split at hy
   ·rename_i hcl
    simp only [ht,Bool.and_eq_true,List.all_eq_true] at hp
    obtain ⟨hct,hpf⟩:=hp
    simp only [Option.map_eq_some_iff] at hy
    obtain ⟨xs,hxs,_⟩:=hy
    obtain ⟨μ1,h1,as,e1,r1,q1,lo1,v1,c1⟩:=brings_fields ih fs.toList 0 (by rw [hcl]; exact hct) hpf (fun f hf => by
     obtain ⟨i,hi⟩:=List.getElem?_of_mem hf
     have hx:=mapM_some_get hxs i f hi
     have hln:=mapM_some_length hxs
     have:=(List.getElem?_eq_some_iff.1 hi).1
     exact ⟨_,hx.trans (List.getElem?_eq_getElem (by omega))⟩) μ h r lo
    rw [List.drop_zero] at v1
    exact ⟨μ1,h1,as,e1,r1,v1,.struct ht (by rw [v1.1,hcl]) (fun f hf => by simpa using c1 f hf),q1,lo1⟩
   ·cases hy
  ·rename_i n e ht
   split at hy
   ·rename_i hcl
    simp only [ht,Bool.and_eq_true,beq_iff_eq] at hp
    obtain ⟨hct,hpe⟩:=hp
    simp only [Option.map_eq_some_iff] at hy
    obtain ⟨xs,hxs,_⟩:=hy
    obtain ⟨μ1,h1,as,e1,r1,q1,lo1,v1,c1⟩:=brings_array (n:=n) ih hpe n (Nat.le_refl _) (hcl.trans hct) (fun i hi => by
     have hx:=mapM_some_get hxs i i (by rw [List.getElem?_range hi])
     have hln:=mapM_some_length hxs
     rw [List.length_range] at hln
     exact ⟨_,hx.trans (List.getElem?_eq_getElem (by omega))⟩) μ h r lo
    rw [List.take_of_length_le (by rw [hcl,hct]; exact Nat.le_refl _)] at v1
    exact ⟨μ1,h1,as,e1,r1,v1,.array ht (by rw [v1.1,hcl]) c1,q1,lo1⟩
   ·cases hy
  all_goals (first | (rename_i ht; simp [ht] at hp; done) | (rename_i _ ht; simp [ht] at hp; done) | (rename_i _ _ ht; simp [ht] at hp; done) | (rename_i _ _ _ ht; simp [ht] at hp; done) | cases hy)
end
end Go.Vm
/- A law's arguments,whatever their plain types: brought in; the law asked. -/
namespace Go.Vm
open Go.RowKit
set_option linter.unusedSimpArgs false
set_option linter.unusedVariables false
theorem all_cons {α : Type} {Q : α→Prop} {y a : α} {l : List α} (h : y∈a :: l) (h1 : Q a) (h2 : ∀ z∈l,Q z) : Q y:=by
 rcases List.mem_cons.1 h with rfl | h3
 ·exact h1
 ·exact h2 y h3
def avOf (P : Program) (t : TypeId) (as : List AV) : AV:=match P.underlying t with
 | some (.struct _) | some (.array _ _) => .agg as
 | _ => as.headD .undef
def CameV (P : Program) (h : AH) (t : TypeId) (a : AV) : Prop:=∃ as,Came P h t as∧a=avOf P t as
def CameVs (P : Program) (h : AH) : List TypeId→List AV→Prop
 | [],[] => True
 | t :: ts,a :: as => CameV P h t a∧CameVs P h ts as
 | _,_ => False
theorem CameV.quiet {P : Program} {h h' : AH} (hl : Low h) (q : Quiet h h') {t : TypeId} {a : AV} (c : CameV P h t a) : CameV P h' t a:=by
 obtain ⟨as,c,e⟩:=c; exact ⟨as,c.quiet hl q,e⟩
theorem CameVs.quiet {P : Program} {h h' : AH} (hl : Low h) (q : Quiet h h') : ∀ {ts : List TypeId} {as : List AV},CameVs P h ts as→CameVs P h' ts as
 | [],[],_ => trivial
 | t :: ts,a :: as,c => ⟨c.1.quiet hl q,CameVs.quiet hl q c.2⟩
 | [],_ :: _,c => c.elim
 | _ :: _,[],c => c.elim
section
variable {H : Type} {enc : TypeId×Value→H} {P : Program} {W : World} {held dp : Bool}
theorem bring_value {base d : Nat} {t : TypeId} {v : Value} {y : DataW H} {ps : List MemPlace} (ht : DataW.Trod enc P W 0 (fun _ => true) held t v y ps) (hok : Value.okWide P W .any base t v) (hp : plainT P dp d t=true) {μ : Inj} {h : AH} (r : R (till W.heap.size) W μ h W) (lo : Low h) :
  ∃ μ' h' a,Inj.le μ μ'∧R (till W.heap.size) W μ' h' W∧VRel μ' a v∧CameV P h' t a∧Quiet h h'∧Low h':=by
 obtain ⟨fuel,ht⟩:=ht
 obtain ⟨μ',h',as,G⟩:=brings (dp:=dp) fuel d t _ _ ht hp μ h r lo
 refine ⟨μ',h',avOf P t as,G.le,G.r,?_,⟨as,G.came,rfl⟩,G.quiet,G.low⟩
 have hrel:=G.rel
 unfold Value.okWide at hok
 unfold avOf
 split at hok
 ·rename_i fs hu
  obtain ⟨cs,rfl,_⟩:=hok
  rw [hu]
  exact VRel.agg_iff.2 ⟨cs,rfl,hrel⟩
 ·rename_i n e hu
  obtain ⟨cs,rfl,_⟩:=hok
  rw [hu]
  exact VRel.agg_iff.2 ⟨cs,rfl,hrel⟩
 ·rename_i hn1 hn2
  have hv : v.cells.toList=[v]:=by
   cases v with
   | agg l =>
    exfalso
    cases d with
    | zero => simp [plainT] at hp
    | succ d =>
     simp only [Cell.okWide] at hok
     simp only [plainT] at hp
     split at hok <;> first | (simp_all; done) | skip
     simp only [Cell.ok] at hok
     split at hok <;> simp_all
   | _ => rfl
  rw [hv] at hrel
  match as,hrel with
  | [a],hrel =>
   have : VRel μ' a v:=hrel.head
   split
   ·rename_i fs hu; exact absurd hu (hn1 fs)
   ·rename_i n e hu; exact absurd hu (hn2 n e)
   ·exact this
  | [],hrel => have:=hrel.1; simp at this
  | _ :: _ :: _,hrel => have:=hrel.1; simp at this
theorem bring_all {base d : Nat} : ∀ {ts : List TypeId} {vs : List Value} {ys : List (DataW H)} {ps : List MemPlace},DataW.TrodAll enc P W 0 (fun _ => true) held ts vs ys ps→(∀ (j : Nat) t v,ts[j]?=some t→vs[j]?=some v→Value.okWide P W .any base t v)→ts.all (plainT P dp d)=true →
  ∀ {μ : Inj} {h : AH},R (till W.heap.size) W μ h W→Low h→∃ μ' h' as,Inj.le μ μ'∧R (till W.heap.size) W μ' h' W∧VRels μ' as vs∧CameVs P h' ts as∧Quiet h h'∧Low h'
 | [],[],[],_,_,_,_,μ,h,r,lo => ⟨μ,h,[],Inj.le_refl _,r,.nil,trivial,Quiet.refl _,lo⟩
 | t :: ts,v :: vs,y :: ys,ps,ht,hok,hp,μ,h,r,lo => by
  obtain ⟨p,q,h1,h2,_⟩:=ht
  simp only [List.all_cons,Bool.and_eq_true] at hp
  obtain ⟨μ1,g1,a,e1,r1,v1,c1,q1,lo1⟩:=bring_value h1 (hok 0 t v rfl rfl) hp.1 r lo
  obtain ⟨μ2,g2,as,e2,r2,v2,c2,q2,lo2⟩:=bring_all h2 (fun j t v ht hv => hok (j + 1) t v ht hv) hp.2 r1 lo1
  exact ⟨μ2,g2,a :: as,Inj.le_trans e1 e2,r2,.cons (v1.mono e2) v2,⟨c1.quiet lo1 q2,c2⟩,q1.trans q2,lo2⟩
theorem low_none : Low AH.empty:=by intro o x h; simp [AH.empty,AH.get,Tr.get] at h
end
theorem maxLen_eq : maxLen=9223372036854775807:=rfl
section
variable {P : Program} {h : AH} {t e : TypeId} {a : AV}
theorem came_int {k : IntKind} (ht : P.underlying t=some (.int k)) (c : CameV P h t a) : ∃ n,a = .int k n∧(Lit.int k n).wf=true:=by
 obtain ⟨as,c,rfl⟩:=c
 cases c <;> simp_all [avOf]
theorem came_str (ht : P.underlying t=some .string) (c : CameV P h t a) : ∃ s,a = .str s∧s.length≤maxLen:=by
 obtain ⟨as,c,rfl⟩:=c
 cases c <;> simp_all [avOf]
theorem SeesS.one {xs : List (List AV)} {ys : List AV} (s : SeesS h 1 a xs) (he : xs=ys.map fun y => [y]) : Sees h a ys:=by
 subst he
 rcases s with ⟨rfl,hx⟩ | ⟨o,off,cap,ex,l,rw,rfl,hg,h1,h2⟩
 ·exact .inl ⟨rfl,by simpa using hx⟩
 ·refine .inr ⟨o,off,cap,ex,l,rw,by simp,hg,by simpa using h1,fun i y hy => ?_⟩
  have:=(h2 i [y] (by simp [hy])).2 0 y rfl
  simpa using this
end
theorem cameVs3 {P : Program} {h : AH} {t u v : TypeId} {as : List AV} (c : CameVs P h [t,u,v] as) : ∃ x y z,as=[x,y,z]∧CameV P h t x∧CameV P h u y∧CameV P h v z:=by
 match as,c with
 | [a,b,x],c => exact ⟨a,b,x,rfl,c.1,c.2.1,c.2.2.1⟩
end Go.Vm
/- What came in,cell by cell. -/
namespace Go.Vm
open Go.RowKit
set_option linter.unusedSimpArgs false
set_option linter.unusedVariables false
inductive CK where
 | bool
 | int (k : IntKind)
 | str
 | slice (e : TypeId)
 | bad
 deriving DecidableEq
def shapeT (P : Program) : Nat→TypeId→List CK
 | 0,_ => [.bad]
 | d + 1,t => match P.underlying t with
  | some .bool => [.bool]
  | some (.int k) => [.int k]
  | some .string => [.str]
  | some (.slice e) => [.slice e]
  | some (.struct fs) => fs.toList.flatMap fun f => shapeT P d f.type
  | some (.array n e) => (List.replicate n (shapeT P d e)).flatten
  | _ => [.bad]
def CellIs (P : Program) (h : AH) : CK→AV→Prop
 | .bool,a => ∃ b,a = .bool b
 | .int k,a => ∃ n,a = .int k n∧(Lit.int k n).wf=true
 | .str,a => ∃ s,a = .str s∧s.length≤maxLen
 | .slice e,a => ∃ t,P.underlying t=some (.slice e)∧Came P h t [a]
 | .bad,_ => True
def CellsAre (P : Program) (h : AH) : List CK→List AV→Prop
 | [],[] => True
 | k :: ks,a :: as => CellIs P h k a∧CellsAre P h ks as
 | _,_ => False
theorem CellsAre.append {P : Program} {h : AH} : ∀ {ks ls : List CK} {as bs : List AV},CellsAre P h ks as→CellsAre P h ls bs→CellsAre P h (ks ++ ls) (as ++ bs)
 | [],_,[],_,_,h2 => h2
 | k :: ks,_,a :: as,_,h1,h2 => ⟨h1.1,CellsAre.append h1.2 h2⟩
 | [],_,_ :: _,_,h1,_ => h1.elim
 | _ :: _,_,[],_,h1,_ => h1.elim
end Go.Vm
/- Second looks at new objects; words that were handed in. -/
namespace Go.Vm
open Go.RowKit
set_option linter.unusedSimpArgs false
set_option linter.unusedVariables false
variable {f : Fr} {h : AH}
def capOk : AV→Prop
 | .slice _ _ _ len cap _ => len≤cap
 | _ => True
theorem Came.capOk {P : Program} {t e : TypeId} {a : AV} (ht : P.underlying t=some (.slice e)) (c : Came P h t [a]) : capOk a:=by
 cases c with
 | struct hu => rw [ht] at hu; cases hu
 | array hu => rw [ht] at hu; cases hu
 | slice hu hg hl hn => exact hn
 | _ => trivial
def Kept (h : AH) (F : Nat→Prop) (L : List (Nat×AObj)) : Prop:=∀ p∈L,h.get p.1=some p.2∧¬ F p.1
section
variable {F F' : Nat→Prop} {L : List (Nat×AObj)} {h' : AH}
theorem Kept.nil : Kept h F []:=fun p hp => by simp at hp
theorem Kept.cons {o : Nat} {x : AObj} (k : Kept h F L) (hg : h.get o=some x) (hF : ¬ F o) : Kept h F ((o,x) :: L):=fun p hp => by
 rcases List.mem_cons.1 hp with rfl | h1
 ·exact ⟨hg,hF⟩
 ·exact k p h1
theorem Kept.append {M : List (Nat×AObj)} (k : Kept h F L) (m : Kept h F M) : Kept h F (L ++ M):=fun p hp => (List.mem_append.1 hp).elim (k p) (m p)
theorem Kept.head {o : Nat} {x : AObj} (k : Kept h F ((o,x) :: L)) : h.get o=some x:=(k (o,x) (by simp)).1
theorem Kept.headF {o : Nat} {x : AObj} (k : Kept h F ((o,x) :: L)) : ¬ F o:=(k (o,x) (by simp)).2
theorem Kept.tail {p : Nat×AObj} (k : Kept h F (p :: L)) : Kept h F L:=fun q hq => k q (by simp [hq])
theorem Kept.mono {M : List (Nat×AObj)} (k : Kept h F L) (hs : ∀ p∈M,p∈L) : Kept h F M:=fun p hp => k p (hs p hp)
theorem Kept.quiet (k : Kept h F L) (hl : Low h) (q : Quiet h h') : Kept h' F L:=fun p hp => by
 obtain ⟨h1,h2⟩:=k p hp
 exact ⟨q.get h1 (hl _ _ h1),h2⟩
theorem Kept.other (k : Kept h F L) {o : Nat} (ho : ∀ p∈L,p.1≠o) (x : AObj) : Kept (h.set o x) F L:=fun p hp => by
 obtain ⟨h1,h2⟩:=k p hp
 exact ⟨by rw [AH.get_set,if_neg (Ne.symm (ho p hp))]; exact h1,h2⟩
theorem Kept.turn {o : Nat} {x : AObj} (k : Kept h F ((o,x) :: L)) (ho : ∀ p∈L,p.1≠o) (y : AObj) : Kept (h.set o y) F ((o,y) :: L):=(k.tail.other ho y).cons get_set_same k.headF
theorem Kept.low (k : Kept h F L) (hl : Low h) : ∀ p∈L,p.1 < h.next:=fun p hp => hl _ _ (k p hp).1
theorem Kept.begin (hg : ∀ p∈L,h.get p.1=some p.2) (hl : Low h) (hF : ∀ o,F o→h.next≤o) (q : Quiet h h') : Kept h' F L:=fun p hp => by
 have h1:=hg p hp
 have:=hl _ _ h1
 exact ⟨q.get h1 this,fun hf => by have:=hF _ hf; omega⟩
end
theorem Sees.kept {v : AV} {xs : List AV} (s : Sees h v xs) : ∃ L : List (Nat×AObj),(∀ p∈L,h.get p.1=some p.2∧p.1∈objs v)∧(∀ o∈objs v,∃ p∈L,p.1=o)∧∀ h' : AH,(∀ p∈L,h'.get p.1=some p.2)→Sees h' v xs:=by
 rcases s with ⟨rfl,rfl⟩ | ⟨o,off,cap,ex,l,rw,rfl,hg,h1,h2⟩
 ·exact ⟨[],fun p hp => by simp at hp,fun o ho => by simp [objs] at ho,fun h' _ => .inl ⟨rfl,rfl⟩⟩
 ·exact ⟨[(o,AObj.of l rw)],fun p hp => by simp at hp; subst hp; exact ⟨hg,by simp [objs]⟩,fun q hq => ⟨_,List.mem_singleton.2 rfl,by simp [objs] at hq; exact hq.symm⟩,fun h' hk => .inr ⟨o,off,cap,ex,l,rw,rfl,hk _ (List.mem_singleton.2 rfl),h1,h2⟩⟩
end Go.Vm

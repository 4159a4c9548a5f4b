/- What the model answers itself: slices.overlaps. Memory under another name. -/
import Derived.Test.YtakgcpmemalmaaaGreatDoorVmZj
import Derived.Lib.Overlaps
namespace Go.Vm
open Go.RowKit
set_option linter.unusedSimpArgs false
set_option linter.unusedVariables false
section
variable {P : Program} {π : Pin} {N : Keep π} {w₀ w : World} {μ : Inj} {h : AH}
theorem R.congr (r : R N w₀ μ h w) {h' : AH} (hn : h'.next=h.next) (hg : ∀ o,h'.get o=h.get o) : R N w₀ μ h' w:=by
 have hs : ∀ o,h'.solid o=h.solid o:=fun o => by unfold AH.solid; rw [hg]
 exact ⟨r.below,r.fresh,fun o x hx => by rw [hn]; exact r.dom o x hx,fun o b base size x ho hx => r.obj o b base size x ho (by rw [← hg]; exact hx),fun o p x y ho hp hne so sp => r.inj o p x y ho hp hne (by rw [← hs]; exact so) (by rw [← hs]; exact sp),r.pin⟩
theorem setRow_self {b : Nat} {C : Array Value} {e : TypeId} {fz : Nat×Nat} (hb : w.heap[b]?=some (.cells C e fz)) : w.setRow b C=w:=by
 have hh : (w.setRow b C).heap=w.heap:=by
  apply Array.ext_getElem?
  intro k
  by_cases hk : k=b
  ·subst hk; rw [hb]; exact setRow_heap w k C C e fz hb
  ·exact setRow_other w b k C hk
 have : w.setRow b C={ w with heap:=(w.setRow b C).heap }:=rfl
 rw [this,hh]
theorem R.blur (r : R N w₀ μ h w) {o b base size : Nat} {l l' : List AV} (ho : μ o=some (b,base,size)) (hg : h.get o=some (.cells l true)) (hl : base + l'.length≤size) (hrel : ∀ (i : Nat) (u : AV),l'[i]?=some u→u=AV.undef∨l[i]?=some u) : R N w₀ μ (h.set o (.cells l' true)) w:=by
 obtain ⟨C,e,fz,hb,hC,h3,h4,h5⟩:=r.obj o b base size _ ho hg
 have:=r.setRow (l':=l') ho hg hb (C':=C) hC hl (fun i u v hu hv => (hrel i u hu).elim (fun e => e ▸ .undef v) (fun h => h4 i u v h hv))
 rwa [setRow_self hb] at this
theorem R.pull (r : R N w₀ μ h w) {o b base size k : Nat} {l l' : List AV} (ho : μ o=some (b,base,size)) (hg : h.get o=some (.cells l true)) (hl : base + k + l'.length≤size) (hrel : ∀ (i : Nat) (u : AV),l'[i]?=some u→l[k + i]?=some u) :
  Inj.le μ (Inj.add μ h.next (b,base + k,size))∧R N w₀ (Inj.add μ h.next (b,base + k,size)) ((h.set o .dead).new (.cells l' true)) w:=by
 obtain ⟨C,e,fz,hb,hC,h3,h4,h5⟩:=r.obj o b base size _ ho hg
 have:=r.rename (boff:=base + k) (l':=l') ho hg hb (by omega) (C':=C) hC hl (fun i u v hu hv => h4 (k + i) u v (hrel i u hu) (by rw [← Nat.add_assoc]; exact hv))
 rwa [setRow_self hb] at this
theorem R.next_none (r : R N w₀ μ h w) : μ h.next=none:=by
 cases hm : μ h.next with
 | none => rfl
 | some y => have:=r.dom _ _ hm; omega
def ovl : List AV→AH→Option (AV×AH)
 | [.slice o1 _ _ l1 _ _,.slice o2 _ _ l2 _ _],h => if l1=0∨l2=0 then none else match h.get o1,h.get o2 with
  | some (.cells _ true),some (.cells (_ :: _) true) => if o1=o2 then none else some (.bool false,h)
  | _,_ => none
 | _,_ => none
theorem ovl_ok {g : Nat} {fn : Func} {tS tR e : TypeId} {inf : TypeInfo} (hf : P.funcs[g]?=some fn) (hname : (fn.name == "runtime.NumGoroutine")=false) (hb : fn.body.isNone=true) (hn : Extern.findNext fn=none)
  (he : Extern.find fn=some (Extern.SlicesOverlaps.overlaps #[tS,tS] #[tR])) (ht : P.underlying tS=some (.slice e)) (hi : P.info? e=some inf) : ∀ args h r h',ovl args h=some (r,h')→CSim P g args h r h':=by
 intro args h r h' hr
 right
 intro π N w₀ μ w vargs hR hv
 unfold ovl at hr
 split at hr
 ·rename_i o1 off1 sz1 l1 c1 e1 o2 off2 sz2 l2 c2 e2
  by_cases hl0 : l1=0∨l2=0
  ·rw [if_pos hl0] at hr; cases hr
  rw [if_neg hl0] at hr
  split at hr
  ·rename_i m1 x m2 hg1 hg2
   split at hr
   ·cases hr
   ·rename_i hne
    cases hr
    obtain ⟨v1,v2,rfl⟩ : ∃ v1 v2,vargs=#[v1,v2]:=by
     obtain ⟨l⟩:=vargs
     have h2:=hv.1
     match l,h2 with
     | [v1,v2],_ => exact ⟨v1,v2,rfl⟩
    obtain ⟨b1,base1,size1,boff1,cap1,hm1,rfl,_⟩:=hv.head.slice_inv.resolve_right (fun hh => hl0 (.inl hh.1))
    obtain ⟨b2,base2,size2,boff2,cap2,hm2,rfl,_⟩:=hv.tail.head.slice_inv.resolve_right (fun hh => hl0 (.inr hh.1))
    obtain ⟨C1,t1,fz1,hb1,hC1,_,_,h15⟩:=hR.obj _ _ _ _ _ hm1 hg1
    obtain ⟨C2,t2,fz2,hb2,hC2,hl2,_,h25⟩:=hR.obj _ _ _ _ _ hm2 hg2
    simp at h15 h25
    have hbb : b1≠b2:=hR.inj _ _ _ _ hm1 hm2 hne (solid_iff.2 ⟨_,hg1,rfl⟩) (solid_iff.2 ⟨_,hg2,rfl⟩)
    have hfr : ∀ k,w.frozen? ⟨b1,k,none⟩=false:=fun k => by
     simp only [World.frozen?,hb1]
     have:=h15.2
     obtain ⟨lo,hi⟩:=fz1
     simp at this
     subst this
     simp
    refine ⟨μ,w,_,.refl (Nat.le_refl _),hR,.bool false,?_⟩
    rw [run_callFunc_extern hf hname hb hn he,Lib.run_overlaps_apart w tS tR e ht inf.size (run_sizeOf' hi) ⟨b1,boff1,none⟩ ⟨b2,boff2,none⟩ l1 cap1 l2 cap2 hbb t1 t2 C1.size C2.size (by simp [World.shape?,hb1]) (by simp [World.shape?,hb2]) (by simp at hl2; omega) (hfr _) (hfr _)]
    rfl
  ·cases hr
 ·cases hr
end
end Go.Vm
/- slices.Insert: what it does to a slice whose room is known. -/
namespace Go.Vm
open Go.RowKit
set_option linter.unusedSimpArgs false
set_option linter.unusedVariables false
set_option maxRecDepth 100000
variable {T : Vm.Prog} {h : AH} {f : Fr} {call : Handler}
def appZV (sz bytes : Nat) (zero : List AV) (h : AH) (s n : AV) : Option (AV×AH):=(natOf n).bind fun k => if k≤9223372036854775807∧k * bytes≤281474976710656 then appendV sz bytes s (rep zero k) k h else none
theorem step_appendZ {sz bytes : Nat} {zero : List AV} {s n : AOpd} : stepV call (.appendZ sz bytes zero s n) f h=appZV sz bytes zero h (s.val f) (n.val f) :=
 stepV_val (by
  simp only [AOp.eval,appZV]
  generalize n.val f=p; generalize s.val f=q
  generalize natOf p=k
  cases k with
  | none => rfl
  | some k =>
   simp only [Option.bind_some]
   split <;> rfl)
def capV : AV→Option AV
 | .nilSlice => some (.int .i64 0)
 | .slice _ _ _ _ c true => some (.int .i64 c)
 | _ => none
theorem step_capSlice {x : AOpd} : stepV call (.capSlice x) f h=(capV (x.val f)).map (·,h) :=
 stepV_val (by
  simp only [AOp.eval,capV]
  generalize x.val f=p
  cases p with
  | slice o off sz l c ex => cases ex <;> rfl
  | _ => rfl)
def cInsert (bytes : Nat) (z : AV) (gv gr : Nat) : ACode:=(.seq (.ops [⟨(some 6),.mov (.con .nilSlice),none⟩])
 (.seq (.ops [⟨(some 10),.mov (.tmp 0),none⟩,
  ⟨(some 11),.mov (.tmp 1),none⟩,
  ⟨(some 12),.slc 1 (.tmp 10) (some (.tmp 11)) none none,none⟩])
 (.seq (.ops [⟨(some 13),.mov (.tmp 2),none⟩,
  ⟨(some 14),.lenSlice (.tmp 13),none⟩,
  ⟨(some 7),.mov (.tmp 14),none⟩])
 (.seq (.seq (.ops [⟨(some 15),.mov (.tmp 7),none⟩,
  ⟨(some 16),.bin .eql (.tmp 15) (.con (.int .i64 0)),none⟩])
 (.cond (.tmp 16)
 (.seq (.ops [⟨(some 17),.mov (.tmp 0),none⟩,
  ⟨(some 6),.mov (.tmp 17),none⟩])
 .ret)
 .skip))
 (.seq (.ops [⟨(some 18),.mov (.tmp 0),none⟩,
  ⟨(some 19),.lenSlice (.tmp 18),none⟩,
  ⟨(some 8),.mov (.tmp 19),none⟩])
 (.seq (.seq (.ops [⟨(some 20),.mov (.tmp 1),none⟩,
  ⟨(some 21),.mov (.tmp 8),none⟩,
  ⟨(some 22),.bin .eql (.tmp 20) (.tmp 21),none⟩])
 (.cond (.tmp 22)
 (.seq (.ops [⟨(some 23),.mov (.tmp 0),none⟩,
  ⟨(some 24),.mov (.tmp 2),none⟩,
  ⟨(some 25),.append 1 bytes (.tmp 23) (.tmp 24),none⟩,
  ⟨(some 6),.mov (.tmp 25),none⟩])
 .ret)
 .skip))
 (.seq (.seq (.ops [⟨(some 26),.mov (.tmp 8),none⟩,
  ⟨(some 27),.mov (.tmp 7),none⟩,
  ⟨(some 28),.bin .add (.tmp 26) (.tmp 27),none⟩,
  ⟨(some 29),.mov (.tmp 0),none⟩,
  ⟨(some 30),.capSlice (.tmp 29),none⟩,
  ⟨(some 31),.bin .gtr (.tmp 28) (.tmp 30),none⟩])
 (.cond (.tmp 31)
 (.seq (.ops [⟨(some 32),.mov (.tmp 0),none⟩,
  ⟨(some 33),.mov (.tmp 1),none⟩,
  ⟨(some 34),.slc 1 (.tmp 32) none (some (.tmp 33)) none,none⟩,
  ⟨(some 35),.mov (.tmp 8),none⟩,
  ⟨(some 36),.mov (.tmp 7),none⟩,
  ⟨(some 37),.bin .add (.tmp 35) (.tmp 36),none⟩,
  ⟨(some 38),.mov (.tmp 1),none⟩,
  ⟨(some 39),.bin .sub (.tmp 37) (.tmp 38),none⟩,
  ⟨(some 40),.appendZ 1 bytes [z] (.tmp 34) (.tmp 39),none⟩,
  ⟨(some 9),.mov (.tmp 40),none⟩])
 (.seq (.ops [⟨(some 41),.mov (.tmp 9),none⟩,
  ⟨(some 42),.mov (.tmp 1),none⟩,
  ⟨(some 43),.slc 1 (.tmp 41) (some (.tmp 42)) none none,none⟩,
  ⟨(some 44),.mov (.tmp 2),none⟩,
  ⟨(some 45),.copy 1 (.tmp 43) (.tmp 44),none⟩])
 (.seq (.ops [⟨(some 46),.mov (.tmp 9),none⟩,
  ⟨(some 47),.mov (.tmp 1),none⟩,
  ⟨(some 48),.mov (.tmp 7),none⟩,
  ⟨(some 49),.bin .add (.tmp 47) (.tmp 48),none⟩,
  ⟨(some 50),.slc 1 (.tmp 46) (some (.tmp 49)) none none,none⟩,
  ⟨(some 51),.mov (.tmp 0),none⟩,
  ⟨(some 52),.mov (.tmp 1),none⟩,
  ⟨(some 53),.slc 1 (.tmp 51) (some (.tmp 52)) none none,none⟩,
  ⟨(some 54),.copy 1 (.tmp 50) (.tmp 53),none⟩])
 (.seq (.ops [⟨(some 55),.mov (.tmp 9),none⟩,
  ⟨(some 6),.mov (.tmp 55),none⟩])
 .ret))))
 .skip))
 (.seq (.ops [⟨(some 56),.mov (.tmp 0),none⟩,
  ⟨(some 57),.mov (.tmp 8),none⟩,
  ⟨(some 58),.mov (.tmp 7),none⟩,
  ⟨(some 59),.bin .add (.tmp 57) (.tmp 58),none⟩,
  ⟨(some 60),.slc 1 (.tmp 56) none (some (.tmp 59)) none,none⟩,
  ⟨(some 0),.mov (.tmp 60),none⟩])
 (.seq (.seq (.ops [⟨(some 61),.mov (.tmp 2),none⟩,
  ⟨(some 62),.mov (.tmp 0),none⟩,
  ⟨(some 63),.mov (.tmp 1),none⟩,
  ⟨(some 64),.mov (.tmp 7),none⟩,
  ⟨(some 65),.bin .add (.tmp 63) (.tmp 64),none⟩,
  ⟨(some 66),.slc 1 (.tmp 62) (some (.tmp 65)) none none,none⟩,
  ⟨(some 67),.call gv [(.tmp 61),(.tmp 66)],none⟩,
  ⟨(some 68),.un .not (.tmp 67),none⟩])
 (.cond (.tmp 68)
 (.seq (.ops [⟨(some 69),.mov (.tmp 0),none⟩,
  ⟨(some 70),.mov (.tmp 1),none⟩,
  ⟨(some 71),.mov (.tmp 7),none⟩,
  ⟨(some 72),.bin .add (.tmp 70) (.tmp 71),none⟩,
  ⟨(some 73),.slc 1 (.tmp 69) (some (.tmp 72)) none none,none⟩,
  ⟨(some 74),.mov (.tmp 0),none⟩,
  ⟨(some 75),.mov (.tmp 1),none⟩,
  ⟨(some 76),.slc 1 (.tmp 74) (some (.tmp 75)) none none,none⟩,
  ⟨(some 77),.copy 1 (.tmp 73) (.tmp 76),none⟩])
 (.seq (.ops [⟨(some 78),.mov (.tmp 0),none⟩,
  ⟨(some 79),.mov (.tmp 1),none⟩,
  ⟨(some 80),.slc 1 (.tmp 78) (some (.tmp 79)) none none,none⟩,
  ⟨(some 81),.mov (.tmp 2),none⟩,
  ⟨(some 82),.copy 1 (.tmp 80) (.tmp 81),none⟩])
 (.seq (.ops [⟨(some 83),.mov (.tmp 0),none⟩,
  ⟨(some 6),.mov (.tmp 83),none⟩])
 .ret)))
 .skip))
 (.seq (.ops [⟨(some 84),.mov (.tmp 0),none⟩,
  ⟨(some 85),.mov (.tmp 8),none⟩,
  ⟨(some 86),.slc 1 (.tmp 84) (some (.tmp 85)) none none,none⟩,
  ⟨(some 87),.mov (.tmp 2),none⟩,
  ⟨(some 88),.copy 1 (.tmp 86) (.tmp 87),none⟩])
 (.seq (.ops [⟨(some 89),.mov (.tmp 0),none⟩,
  ⟨(some 90),.mov (.tmp 1),none⟩,
  ⟨(some 91),.slc 1 (.tmp 89) (some (.tmp 90)) none none,none⟩,
  ⟨(some 92),.mov (.tmp 7),none⟩,
  ⟨(some 93),.call gr [(.tmp 91),(.tmp 92)],none⟩])
 (.seq (.ops [⟨(some 94),.mov (.tmp 0),none⟩,
  ⟨(some 6),.mov (.tmp 94),none⟩])
 .ret))))))))))))
def aInsert (bytes : Nat) (z : AV) (gv gr : Nat) : AFunc:=⟨3,cInsert bytes z gv gr,[.tmp 6]⟩
theorem slcE_from {o off len C n : Nat} (hn : n≤len) (hc : n < C) {k : IntKind} : slcV 1 (.slice o off 1 len C true) (some (.int k (n : Int))) none none=some (.slice o (off + n) 1 (len - n) (C - n) true):=by
 have : ¬ C=n:=by omega
 simp [slcV,bounds,boundM,boundH,boundL,natOf,hn,show n≤C by omega,Option.filter,this]
theorem slcE_to {o off len C n : Nat} {ex : Bool} (hn : n≤C) {k : IntKind} : slcV 1 (.slice o off 1 len C ex) none (some (.int k (n : Int))) none=some (.slice o off 1 n C ex):=by
 simp [slcV,bounds,boundM,boundH,boundL,natOf,hn,Option.filter]
theorem slcF_from {o len C n : Nat} {ex : Bool} (hn : n≤len) (hc : n < C) {k : IntKind} : slcV 1 (.slice o 0 1 len C ex) (some (.int k (n : Int))) none none=some (.slice o n 1 (len - n) (C - n) ex):=by
 have : ¬ C=n:=by omega
 simp [slcV,bounds,boundM,boundH,boundL,natOf,hn,show n≤C by omega,Option.filter,this]
theorem copy_row {o off len C p poff plen pC : Nat} {ex pex : Bool} {l vl : List AV} (hg : h.get o=some (.cells l true)) {rw' : Bool} (hp : h.get p=some (.cells vl rw')) {k : Nat} (hk : min plen len=k) (hk0 : 0 < k) (h1 : off + k≤l.length) (h2 : poff + k≤vl.length) (hf : ∀ x∈(vl.drop poff).take k,AV.flat x=true) :
  copyV 1 h (.slice o off 1 len C ex) (.slice p poff 1 plen pC pex)=some (.int .i64 (k : Nat),h.set o (.cells (setMany l off ((vl.drop poff).take k)) true)):=by
 have hkl : ((vl.drop poff).take k).length=k:=by simp; omega
 have he : ((vl.drop poff).take k).isEmpty=false:=by
  cases hx : (vl.drop poff).take k with
  | nil => rw [hx] at hkl; simp at hkl; omega
  | cons a r => rfl
 have hel : h.elems 1 (min plen len) (.slice p poff 1 plen pC pex)=some ((vl.drop poff).take k):=by
  simp only [AH.elems,true_and]
  rw [if_pos (by omega),AH.load,hp,hk]
  simp only [Nat.mul_one]
  rw [if_pos h2]
 have hst : h.store o off ((vl.drop poff).take k)=some (h.set o (.cells (setMany l off ((vl.drop poff).take k)) true)):=by
  simp only [AH.store,hg]
  rw [if_pos ⟨by omega,by rw [List.all_eq_true]; exact hf⟩]
 rw [hk] at hel
 simp only [copyV,lenOfV,Option.bind_some,hk,hel,if_true,he,Bool.false_eq_true,if_false,hst,hk,Option.map_some]
theorem rep_len1 {z : AV} {n : Nat} : (rep [z] n).length=n:=by
 induction n with
 | zero => rfl
 | succ n ih => simp [rep,ih]
def putIn (xs vs : List AV) (i : Nat) : List AV:=xs.take i ++ vs ++ xs.drop i
theorem putIn_len {xs vs : List AV} {i : Nat} : (putIn xs vs i).length=xs.length + vs.length:=by simp [putIn]; omega
theorem insert_walk {g gv gr bytes : Nat} {z : AV} (he : T.env g=none) (hfn : T.func g=some (aInsert bytes z gv gr)) (hov : T.env gv=some ovl)
  {o off C len i m vo voff vcap : Nat} {vex : Bool} {l vl : List AV} (hol : o < h.next) (hvol : vo < h.next) (hg : h.get o=some (.cells l true)) (hvg : h.get vo=some (.cells vl true)) (hne : vo≠o) (hi : i < len) (hm : 1≤m) (hll : off + C≤l.length) (hlC : len≤C) (hvl : voff + m≤vl.length)
  (hroom : len + m≤1000000) (hb : bytes≤8) (hf : ∀ x∈(l.drop off).take len,AV.flat x=true) (hvf : ∀ x∈(vl.drop voff).take m,AV.flat x=true) :
  Gives T g [.slice o off 1 len C true,.int .i64 (i : Int),.slice vo voff 1 m vcap vex] h fun r h' =>
   (len + m≤C∧r = .slice o off 1 (len + m) C true∧h'.next=h.next∧(∃ l',h'.get o=some (.cells l' true)∧l'.length=l.length∧∀ j x,(putIn ((l.drop off).take len) ((vl.drop voff).take m) i)[j]?=some x→l'[off + j]?=some x)∧∀ q,q≠o→h'.get q=h.get q) ∨
   (C < len + m∧r = .slice h.next 0 1 (len + m) (len + m) false∧h'.next=h.next + 1∧h'.get h.next=some (.cells (putIn ((l.drop off).take len) ((vl.drop voff).take m) i) true)∧∀ q,q≠h.next→h'.get q=h.get q):=by
 refine gives_func he hfn rfl ?_
 have e1 : ((m : Int) == 0)=false:=by rw [beq_eq_false_iff_ne]; omega
 have e2 : ((i : Int) == (len : Int))=false:=by rw [beq_eq_false_iff_ne]; omega
 have w1 : IntKind.i64.wrap ((len : Int) + (m : Int))=((len + m : Nat) : Int):=by rw [wrap_i64 (by omega) (by omega)]; omega
 have w2 : IntKind.i64.wrap ((i : Int) + (m : Int))=((i + m : Nat) : Int):=by rw [wrap_i64 (by omega) (by omega)]; omega
 have w3 : IntKind.i64.wrap (((len + m : Nat) : Int) - (i : Int))=((len + m - i : Nat) : Int):=by rw [wrap_i64 (by omega) (by omega)]; omega
 have s0:=slcE_from (o:=o) (off:=off) (len:=len) (C:=C) (n:=i) (k := .i64) (by omega) (by omega)
 have cp : capV (.slice o off 1 len C true)=some (.int .i64 (C : Int)):=rfl
 have ln : ∀ {o off l c ex},lenOfV (.slice o off 1 l c ex)=some l:=rfl
 have old_len : ((l.drop off).take len).length=len:=by simp; omega
 have new_len : ((vl.drop voff).take m).length=m:=by simp; omega
 have old_drop : ((l.drop off).take len).drop i=(l.drop (off + i)).take (len - i):=by rw [List.drop_take,List.drop_drop]
 have hof : ∀ x∈(l.drop (off + i)).take (len - i),AV.flat x=true:=by
  intro x hx
  rw [← old_drop] at hx
  exact hf x (List.mem_of_mem_drop hx)
 simp only [aInsert,cInsert,vms,vmc,AOpd.val,Nat.reduceEqDiff,reduceCtorEq,Nat.reduceAdd,Nat.reduceBEq,step_appendZ,step_capSlice,s0,e1,e2,w1,w2,w3,cp,ln]
 by_cases hgrow : ((len + m : Nat) : Int) > (C : Int)
 ·have hgr : C < len + m:=by omega
  have s1:=slcE_to (o:=o) (off:=off) (len:=len) (C:=C) (n:=i) (ex:=true) (k := .i64) (by omega)
  have hroomk : roomOk (i + (len + m - i)) bytes C true=true:=by
   have : (i + (len + m - i)) * bytes≤1000000 * 8:=Nat.mul_le_mul (by omega) hb
   simp only [roomOk,Bool.or_eq_true,Bool.and_eq_true,decide_eq_true_eq]
   left; omega
  have hap : appZV 1 bytes [z] h (.slice o off 1 i C true) (.int .i64 ((len + m - i : Nat) : Int))=some (.slice h.next 0 1 (len + m) (len + m) false,h.new (.cells ((l.drop off).take i ++ rep [z] (len + m - i)) true)):=by
   have hload : h.load o off (i * 1)=some ((l.drop off).take i):=by
    simp only [AH.load,hg,Nat.mul_one]
    rw [if_pos (by omega)]
   have : (len + m - i) * bytes≤1000000 * 8:=Nat.mul_le_mul (by omega) hb
   simp only [appZV,natOf_cast,Option.bind_some,appendV,if_true]
   rw [if_pos ⟨by omega,by omega⟩,if_neg (by omega),if_pos hroomk,hload]
   simp only [show i + (len + m - i)=len + m by omega]
  have hn1 : (h.new (.cells ((l.drop off).take i ++ rep [z] (len + m - i)) true)).get h.next=some (.cells ((l.drop off).take i ++ rep [z] (len + m - i)) true):=get_new_same
  have hv1 : (h.new (.cells ((l.drop off).take i ++ rep [z] (len + m - i)) true)).get vo=some (.cells vl true):=by rw [AH.get_new,if_neg (by omega)]; exact hvg
  have ho1 : (h.new (.cells ((l.drop off).take i ++ rep [z] (len + m - i)) true)).get o=some (.cells l true):=by rw [AH.get_new,if_neg (by omega)]; exact hg
  have hq1 : ∀ q,q≠h.next→(h.new (.cells ((l.drop off).take i ++ rep [z] (len + m - i)) true)).get q=h.get q:=fun q hq => by rw [AH.get_new,if_neg (Ne.symm hq)]
  have hx1 : (h.new (.cells ((l.drop off).take i ++ rep [z] (len + m - i)) true)).next=h.next + 1:=rfl
  have l1 : ((l.drop off).take i ++ rep [z] (len + m - i)).length=len + m:=by simp [rep_len1]; omega
  obtain ⟨Z,hZ⟩ : ∃ Z,Z=(l.drop off).take i ++ rep [z] (len + m - i):=⟨_,rfl⟩
  rw [← hZ] at hn1 hv1 ho1 hq1 hx1 l1 hap
  obtain ⟨g1,hg1⟩ : ∃ g1,g1=h.new (.cells Z true):=⟨_,rfl⟩
  rw [← hg1] at hn1 hv1 ho1 hq1 hx1 hap
  have s2:=slcF_from (o:=h.next) (len:=len + m) (C:=len + m) (n:=i) (ex:=false) (k := .i64) (by omega) (by omega)
  have s3:=slcF_from (o:=h.next) (len:=len + m) (C:=len + m) (n:=i + m) (ex:=false) (k := .i64) (by omega) (by omega)
  have c1:=copy_row (h:=g1) (len:=len + m - i) (C:=len + m - i) (ex:=false) (pC:=vcap) (pex:=vex) (plen:=m) (poff:=voff) (off:=i) hn1 hv1 (k:=m) (by omega) (by omega) (by omega) hvl hvf
  obtain ⟨z1,z2⟩:=setMany_get Z ((vl.drop voff).take m) i
  obtain ⟨z3,z4,z5⟩:=z2 (by omega)
  have c2:=copy_row (h:=g1.set h.next (.cells (setMany Z i ((vl.drop voff).take m)) true)) (o:=h.next) (l:=setMany Z i ((vl.drop voff).take m)) (p:=o) (vl:=l) (rw':=true) (len:=len + m - (i + m)) (C:=len + m - (i + m)) (ex:=false) (pC:=C - i) (pex:=true) (plen:=len - i) (poff:=off + i) (off:=i + m) get_set_same (by rw [AH.get_set,if_neg (by omega)]; exact ho1) (k:=len - i) (by omega) (by omega) (by omega) (by omega) hof
  have hset : ∀ (A B : AObj),∀ q,((g1.set h.next A).set h.next B).get q=if h.next=q then some B else g1.get q:=fun A B q => by
   rw [AH.get_set,AH.get_set]; split <;> rfl
  simp only [decide_eq_true hgrow,vms,vmc,AOpd.val,Nat.reduceEqDiff,reduceCtorEq,Nat.reduceAdd,Nat.reduceBEq,step_appendZ,s1,s0,w1,w2,w3,hap,s2,s3,c1,c2]
  obtain ⟨y1,y2⟩:=setMany_get (setMany Z i ((vl.drop voff).take m)) ((l.drop (off + i)).take (len - i)) (i + m)
  have hdl : ((l.drop (off + i)).take (len - i)).length=len - i:=by simp; omega
  obtain ⟨y3,y4,y5⟩:=y2 (by omega)
  refine .inr ⟨hgr,trivial,hx1,?_,fun q hq => by rw [hset,if_neg (Ne.symm hq)]; exact hq1 q hq⟩
  rw [hset,if_pos rfl]
  congr 2
  apply List.ext_getElem?
  intro j
  unfold putIn
  rw [old_drop]
  by_cases h1 : j < i
  ·rw [y3 j (by omega),z3 j h1,hZ,List.append_assoc,List.getElem?_append_left (by simp; omega),List.getElem?_append_left (by simp; omega),List.getElem?_take,List.getElem?_take,if_pos h1,List.getElem?_take,if_pos h1,if_pos (by omega)]
  ·by_cases h2 : j < i + m
   ·rw [y3 j h2]
    obtain ⟨d,rfl⟩ : ∃ d,j=i + d:=⟨j - i,by omega⟩
    have hd : d < ((vl.drop voff).take m).length:=by omega
    rw [z4 d _ (List.getElem?_eq_getElem hd),List.append_assoc,List.getElem?_append_right (by simp; omega),List.getElem?_append_left (by simp; omega)]
    rw [show i + d - (List.take i (List.take len (List.drop off l))).length=d by simp; omega]
    exact (List.getElem?_eq_getElem hd).symm
   ·obtain ⟨d,rfl⟩ : ∃ d,j=i + m + d:=⟨j - (i + m),by omega⟩
    have hx2 : (List.take i (List.take len (List.drop off l)) ++ List.take m (List.drop voff vl)).length=i + m:=by simp; omega
    rw [List.getElem?_append_right (by omega),hx2,show i + m + d - (i + m)=d by omega]
    by_cases hd : d < ((l.drop (off + i)).take (len - i)).length
    ·rw [y4 d _ (List.getElem?_eq_getElem hd),List.getElem?_eq_getElem hd]
    ·rw [List.getElem?_eq_none (by omega),List.getElem?_eq_none (by omega)]
 ·have hin : len + m≤C:=by omega
  have s1:=slcE_to (o:=o) (off:=off) (len:=len) (C:=C) (n:=len + m) (ex:=true) (k := .i64) (by omega)
  have s2:=slcE_from (o:=o) (off:=off) (len:=len + m) (C:=C) (n:=i + m) (k := .i64) (by omega) (by omega)
  have s3:=slcE_from (o:=o) (off:=off) (len:=len + m) (C:=C) (n:=i) (k := .i64) (by omega) (by omega)
  have hlne : ∃ a r,l=a :: r:=by
   cases l with
   | nil => simp at hll; omega
   | cons a r => exact ⟨a,r,rfl⟩
  obtain ⟨a,r,har⟩:=hlne
  have hov1 : ovl [.slice vo voff 1 m vcap vex,.slice o (off + (i + m)) 1 (len + m - (i + m)) (C - (i + m)) true] h=some (.bool false,h):=by
   simp only [ovl]
   rw [if_neg (by omega)]
   simp only [hvg,hg,har,hne,if_false]
  have c1:=copy_row (h:=h) (o:=o) (l:=l) (p:=o) (vl:=l) (rw':=true) (len:=len + m - (i + m)) (C:=C - (i + m)) (ex:=true) (pC:=C - i) (pex:=true) (plen:=len + m - i) (poff:=off + i) (off:=off + (i + m)) hg hg (k:=len - i) (by omega) (by omega) (by omega) (by omega) hof
  have hdl : ((l.drop (off + i)).take (len - i)).length=len - i:=by simp; omega
  obtain ⟨z1,z2⟩:=setMany_get l ((l.drop (off + i)).take (len - i)) (off + (i + m))
  obtain ⟨z3,z4,z5⟩:=z2 (by omega)
  have c2:=copy_row (h:=h.set o (.cells (setMany l (off + (i + m)) ((l.drop (off + i)).take (len - i))) true)) (o:=o) (l:=setMany l (off + (i + m)) ((l.drop (off + i)).take (len - i))) (p:=vo) (vl:=vl) (rw':=true) (len:=len + m - i) (C:=C - i) (ex:=true) (pC:=vcap) (pex:=vex) (plen:=m) (poff:=voff) (off:=off + i) get_set_same (by rw [AH.get_set,if_neg (Ne.symm hne)]; exact hvg) (k:=m) (by omega) (by omega) (by omega) hvl hvf
  have hset : ∀ (A B : AObj),∀ q,((h.set o A).set o B).get q=if o=q then some B else h.get q:=fun A B q => by
   rw [AH.get_set,AH.get_set]; split <;> rfl
  simp only [decide_eq_false hgrow,vms,vmc,AOpd.val,Nat.reduceEqDiff,reduceCtorEq,Nat.reduceAdd,Nat.reduceBEq,step_appendZ,s1,s2,s3,s0,w1,w2,w3,run_env hov,hov1,c1,c2,Bool.not_false]
  obtain ⟨y1,y2⟩:=setMany_get (setMany l (off + (i + m)) ((l.drop (off + i)).take (len - i))) ((vl.drop voff).take m) (off + i)
  obtain ⟨y3,y4,y5⟩:=y2 (by omega)
  refine .inl ⟨hin,trivial,rfl,⟨_,by rw [hset,if_pos rfl],by rw [y1,z1],fun j x hx => ?_⟩,fun q hq => by rw [hset,if_neg (Ne.symm hq)]⟩
  unfold putIn at hx
  rw [old_drop] at hx
  by_cases h1 : j < i
  ·rw [y3 _ (by omega),z3 _ (by omega)]
   rw [List.append_assoc,List.getElem?_append_left (by simp; omega),List.getElem?_take,if_pos h1,List.getElem?_take,if_pos (by omega),List.getElem?_drop] at hx
   exact hx
  ·by_cases h2 : j < i + m
   ·obtain ⟨d,rfl⟩ : ∃ d,j=i + d:=⟨j - i,by omega⟩
    have hd : d < ((vl.drop voff).take m).length:=by omega
    rw [List.append_assoc,List.getElem?_append_right (by simp; omega),List.getElem?_append_left (by simp; omega)] at hx
    rw [show i + d - (List.take i (List.take len (List.drop off l))).length=d by simp; omega] at hx
    rw [show off + (i + d)=off + i + d by omega]
    exact y4 d x hx
   ·obtain ⟨d,rfl⟩ : ∃ d,j=i + m + d:=⟨j - (i + m),by omega⟩
    have hx2 : (List.take i (List.take len (List.drop off l)) ++ List.take m (List.drop voff vl)).length=i + m:=by simp; omega
    rw [List.getElem?_append_right (by omega),hx2,show i + m + d - (i + m)=d by omega] at hx
    rw [y5 _ (by omega),show off + (i + m + d)=off + (i + m) + d by omega]
    exact z4 d x hx
end Go.Vm
/- slices.Insert: a contract for slices whose room is open. -/
namespace Go.Vm
open Go.RowKit
set_option linter.unusedSimpArgs false
set_option linter.unusedVariables false
variable {P : Program} {T : Vm.Prog} {h : AH}
theorem callOk_of (hT : TabOk P T) {g : Nat} {af : AFunc} (hf : T.func g=some af) : CallOk P g:=by
 obtain ⟨fn,h1,h2⟩:=hT.func g af hf
 unfold cFunc at h2
 split at h2
 ·rename_i c rs hb hrs
  split at h2
  ·rename_i hcond
   exact ⟨fn,h1,hcond.2,by simp [hb]⟩
  ·cases h2
 ·cases h2
def insCells (h : AH) (o off len i vo voff m : Nat) : Option (List AV) :=
 match h.get o,h.get vo with
 | some (.cells l true),some (.cells vl true) =>
  if (i < len∧1≤m∧vo≠o∧off + len≤l.length∧voff + m≤vl.length∧len + m≤1000000)∧((l.drop off).take len).all AV.flat=true∧((vl.drop voff).take m).all AV.flat=true then some (putIn ((l.drop off).take len) ((vl.drop voff).take m) i) else none
 | _,_ => none
def insV (k : List AV→AH→Option (AV×AH)) (args : List AV) (h : AH) : Option (AV×AH):=match args with
 | [.slice o off 1 len cap false,.int .i64 (.ofNat i),.slice vo voff 1 m vcap vex] => match insCells h o off len i vo voff m with
  | some l => some (.slice h.next 0 1 (len + m) (len + m) false,(h.set o .dead).new (.cells l true))
  | none => k args h
 | _ => k args h
theorem blur_seg {l : List AV} {off len n : Nat} (hl : off + len≤l.length) : ((l.take (off + len) ++ List.replicate n AV.undef).drop off).take len=(l.drop off).take len:=by
 apply List.ext_getElem?
 intro j
 rw [List.getElem?_take,List.getElem?_take]
 by_cases hj : j < len
 ·rw [if_pos hj,if_pos hj,List.getElem?_drop,List.getElem?_drop,List.getElem?_append_left (by simp; omega),List.getElem?_take,if_pos (by omega)]
 ·rw [if_neg hj,if_neg hj]
theorem insV_all {g gv gr bytes : Nat} {z : AV} {k : List AV→AH→Option (AV×AH)} (hT : TabOk P T) (hk : ∀ args h r h',k args h=some (r,h')→CallOk P g∧ASim P g args h r h') (he : T.env g=none) (hfn : T.func g=some (aInsert bytes z gv gr)) (hov : T.env gv=some ovl) (hb : bytes≤8) : ∀ args h r h',insV k args h=some (r,h')→CSim P g args h r h':=by
 intro args h r h' hr
 left
 unfold insV at hr
 split at hr
 ·rename_i o off len cap i vo voff m vcap vex
  split at hr
  ·rename_i L hL
   cases hr
   refine ⟨callOk_of hT hfn,?_⟩
   unfold insCells at hL
   split at hL
   ·rename_i l vl hg hvg
    split at hL
    ·rename_i hc
     cases hL
     obtain ⟨⟨c1,c2,c3,c4,c5,c6⟩,c7,c8⟩:=hc
     rw [List.all_eq_true] at c7 c8
     intro π N w₀ μ w vargs hR hv
     obtain ⟨vl3⟩:=vargs
     have hlen:=hv.1
     match vl3,hlen with
     | [x,y,u],_ =>
      obtain ⟨b,base,size,boff,cap',hm,rfl,hlc,hcc,hs,ha⟩:=hv.head.slice_inv.resolve_right (fun hh => by have:=hh.1; omega)
      have hvr:=hv.tail.tail.head
      obtain ⟨vb,vbase,vsize,vboff,vcap',hvm,_⟩:=hvr.slice_inv.resolve_right (fun hh => by have:=hh.1; omega)
      have hbo : boff=base + off:=by omega
      subst hbo
      have hR1:=hR.blur (l':=l.take (off + len) ++ List.replicate (cap' - len) AV.undef) hm hg (by simp; omega) (fun j q hq => by
       by_cases hj : j < off + len
       ·rw [List.getElem?_append_left (by simp; omega),List.getElem?_take,if_pos hj] at hq
        exact .inr hq
       ·rw [List.getElem?_append_right (by simp; omega)] at hq
        exact .inl (List.eq_of_mem_replicate (List.mem_of_getElem? hq)))
      have hol:=hR.dom _ _ hm
      have hvol:=hR.dom _ _ hvm
      obtain ⟨h1,hh1⟩ : ∃ h1,h1=h.set o (.cells (l.take (off + len) ++ List.replicate (cap' - len) AV.undef) true):=⟨_,rfl⟩
      have hn1 : h1.next=h.next:=by rw [hh1]; rfl
      have hq1 : ∀ q,q≠o→h1.get q=h.get q:=fun q hq => by rw [hh1,AH.get_set,if_neg (Ne.symm hq)]
      rw [← hh1] at hR1
      have hseg:=blur_seg (l:=l) (off:=off) (len:=len) (n:=cap' - len) c4
      have hw:=insert_walk (T:=T) (h:=h1) (bytes:=bytes) (o:=o) (off:=off) (C:=cap') (len:=len) (i:=i) (m:=m) (vo:=vo) (voff:=voff) (vcap:=vcap) (vex:=vex) he hfn hov (by rw [hn1]; exact hol) (by rw [hn1]; exact hvol)
       (show h1.get o=some (.cells (l.take (off + len) ++ List.replicate (cap' - len) AV.undef) true) by rw [hh1,AH.get_set,if_pos rfl]) (show h1.get vo=some (.cells vl true) by rw [hq1 _ c3]; exact hvg) c3 c1 c2 (by simp; omega) hlc c5 c6 hb (by rw [hseg]; exact c7) c8
      rw [hseg] at hw
      obtain ⟨r1,h2,hrun,hcase⟩:=hw
      have hsim:=(run_body hT he hrun).2 N w₀ μ w _ hR1 (.cons (.slice hm hlc (by simp) hs (.inl rfl)) hv.tail)
      refine hsim.mono ?_
      rintro e w' ⟨μ',v',rfl,hext,hR2,hvr2⟩
      rw [hn1] at hext
      rcases hcase with ⟨hfit,rfl,hn2,⟨l',hg2,_,hl'⟩,hoth⟩ | ⟨hgrow,rfl,hn2,hg2,hoth⟩
      ·rw [hn2,hn1] at hext
       obtain ⟨b2,base2,size2,boff2,cap2,hm2,rfl,hlc2,hcc2,hs2,ha2⟩:=hvr2.slice_inv.resolve_right (fun hh => by have:=hh.1; omega)
       have:=hext.le _ _ hm
       rw [hm2] at this
       cases this
       have hb2 : boff2=base + off:=by omega
       subst hb2
       obtain ⟨hle3,hR3⟩:=hR2.pull (k:=off) (l':=putIn ((l.drop off).take len) ((vl.drop voff).take m) i) hm2 hg2 (by rw [putIn_len]; simp; omega) hl'
       have hnone:=hR2.next_none
       have e2 : h2.next=h.next:=by rw [hn2,hn1]
       refine ⟨_,_,rfl,hext.trans (by rw [AH.next_new,AH.next_set,← e2]; exact .new _ hnone),hR3.congr (by simp [AH.next_new,AH.next_set,e2]) (fun q => ?_),?_⟩
       ·rw [AH.get_new,AH.get_new,AH.next_set,AH.next_set,e2]
        split
        ·rfl
        ·rw [AH.get_set,AH.get_set]
         split
         ·rfl
         ·rename_i hqo
          rw [hoth q (Ne.symm hqo),hq1 q (Ne.symm hqo)]
       ·rw [← e2]
        exact .slice (Inj.add_self _ _ _) hlc2 (by simp; exact hlc2) hs2 (.inl rfl)
      ·have e2 : h2.next=h.next + 1:=by rw [hn2,hn1]
       rw [e2] at hext
       rw [hn1] at hg2 hvr2 hoth
       refine ⟨μ',v',rfl,hext,(hR2.kill o).congr (by simp [AH.next_new,AH.next_set,e2]) (fun q => ?_),hvr2⟩
       rw [AH.get_new,AH.next_set,AH.get_set,AH.get_set]
       by_cases hqn : h.next=q
       ·subst hqn
        rw [if_pos rfl,if_neg (by omega)]
        exact hg2.symm
       ·rw [if_neg hqn]
        by_cases hqo : o=q
        ·rw [if_pos hqo,if_pos hqo]
        ·rw [if_neg hqo,if_neg hqo,hoth q (Ne.symm hqn),hq1 q (Ne.symm hqo)]
    ·cases hL
   ·cases hL
  ·exact hk _ _ _ _ hr
 ·exact hk _ _ _ _ hr
theorem insV_ok {g gv gr bytes n : Nat} {z : AV} (hT : TabOk P T) (he : T.env g=none) (hfn : T.func g=some (aInsert bytes z gv gr)) (hov : T.env gv=some ovl) (hb : bytes≤8) : ∀ args h r h',insV (fun a h => arun T n g a h) args h=some (r,h')→CSim P g args h r h' :=
 insV_all hT (fun _ _ _ _ hr => arun_body hT he hr) he hfn hov hb
theorem ovl_some {P : Program} {g : Nat} {fn : Func} {tS tR e : TypeId} (hf : P.funcs[g]?=some fn) (hname : (fn.name == "runtime.NumGoroutine")=false) (hb : fn.body.isNone=true) (hn : Extern.findNext fn=none)
  (he : Extern.find fn=some (Extern.SlicesOverlaps.overlaps #[tS,tS] #[tR])) (ht : P.underlying tS=some (.slice e)) (hi : (P.info? e).isSome=true) : ∀ args h r h',ovl args h=some (r,h')→CSim P g args h r h':=by
 obtain ⟨inf,hi⟩:=Option.isSome_iff_exists.1 hi
 exact ovl_ok hf hname hb hn he ht hi
def withOvl (func : Nat→Option AFunc) (v1 v2 : Nat) : Prog:=⟨func,fun n => if n=v1 then some ovl else if n=v2 then some ovl else none⟩
def insAt (func : Nat→Option AFunc) (v1 v2 g : Nat) : List AV→AH→Option (AV×AH):=insV fun a h => arun (withOvl func v1 v2) 1000 g a h
def withIns (func : Nat→Option AFunc) (v1 v2 i1 i2 : Nat) : Prog:=⟨func,fun n => if n=v1 then some ovl else if n=v2 then some ovl else if n=i1 then some (insAt func v1 v2 i1) else if n=i2 then some (insAt func v1 v2 i2) else none⟩
noncomputable def insRun (func : Nat→Option AFunc) (v1 v2 g : Nat) : List AV→AH→Option (AV×AH):=insV fun a h => run (withOvl func v1 v2) g a h
noncomputable def lawIns (func : Nat→Option AFunc) (y v1 v2 i1 i2 : Nat) : Prog:=⟨func,fun n => if n=y then some yes else if n=v1 then some ovl else if n=v2 then some ovl else if n=i1 then some (insRun func v1 v2 i1) else if n=i2 then some (insRun func v1 v2 i2) else none⟩
end Go.Vm
/- slices.Insert of one element,as laws use it. -/
namespace Go.Vm
open Go.RowKit
set_option linter.unusedSimpArgs false
set_option linter.unusedVariables false
set_option maxRecDepth 100000
variable {T : Vm.Prog} {h : AH}
def Row1 (h : AH) (v : AV) (xs : List AV) : Prop:=RowS h 1 v (xs.map fun x => [x])
theorem Row1.get {l xs : List AV} (h3 : ∀ (i : Nat) (x : List AV),(xs.map fun x => [x])[i]?=some x→x.length=1∧∀ (j : Nat) (y : AV),x[j]?=some y→l[i * 1 + j]?=some y) : ∀ (i : Nat) (x : AV),xs[i]?=some x→l[i]?=some x:=fun i x hx => by
 have:=(h3 i [x] (by rw [List.getElem?_map,hx]; rfl)).2 0 x rfl
 simpa using this
theorem row1_of {o cap n : Nat} {ex : Bool} {l : List AV} {xs : List AV} (hg : h.get o=some (.cells l true)) (h1 : l.length=cap) (hn : n=xs.length) (h2 : xs.length≤cap) (h3 : ∀ (i : Nat) (x : AV),xs[i]?=some x→l[i]?=some x) : Row1 h (.slice o 0 1 n cap ex) xs:=by
 subst hn
 refine .inr ⟨o,cap,ex,l,by simp,hg,by simpa using h1,by simpa using h2,fun i x hx => ?_⟩
 rw [List.getElem?_map] at hx
 cases hy : xs[i]? with
 | none => simp [hy] at hx
 | some y =>
  simp [hy] at hx
  subst hx
  refine ⟨rfl,fun j z hz => ?_⟩
  cases j with
  | zero => simp at hz; subst hz; simpa using h3 i y hy
  | succ j => simp at hz
end Go.Vm
/- Functions of the standard library and of the statements,whatever their element's type. -/
namespace Go.Vm
open Go.RowKit
set_option linter.unusedSimpArgs false
set_option linter.unusedVariables false
set_option maxRecDepth 100000
variable {T : Vm.Prog} {h : AH}
theorem Row1.sees {v : AV} {xs : List AV} (r : Row1 h v xs) : Sees h v xs:=SeesS.one (RowS.sees r) rfl
def cSamel0 : ACode:=(.seq (.seq (.ops [⟨(some 11),.mov (.tmp 5),none⟩,
  ⟨(some 12),.mov (.tmp 0),none⟩,
  ⟨(some 13),.lenSlice (.tmp 12),none⟩,
  ⟨(some 14),.bin .lss (.tmp 11) (.tmp 13),none⟩])
 (.cond (.tmp 14)
 .skip
 (.exit 0)))
 (.seq (.block 1 (.seq (.ops [⟨(some 17),.mov (.tmp 0),none⟩,
  ⟨(some 18),.mov (.tmp 5),none⟩,
  ⟨(some 19),.idxAddr 1 (.tmp 17) (.tmp 18),none⟩,
  ⟨(some 20),.load false 1 (.tmp 19),none⟩,
  ⟨(some 21),.mov (.tmp 1),none⟩,
  ⟨(some 22),.mov (.tmp 5),none⟩,
  ⟨(some 23),.idxAddr 1 (.tmp 21) (.tmp 22),none⟩,
  ⟨(some 24),.load false 1 (.tmp 23),none⟩,
  ⟨(some 25),.bin .neq (.tmp 20) (.tmp 24),none⟩])
 (.cond (.tmp 25)
 (.seq (.ops [⟨(some 4),.mov (.con (.bool false)),none⟩])
 .ret)
 .skip)))
 (.ops [⟨(some 15),.mov (.tmp 5),none⟩,
  ⟨(some 16),.bin .add (.tmp 15) (.con (.int .i64 1)),none⟩,
  ⟨(some 5),.mov (.tmp 16),none⟩])))
def cSame : ACode:=(.seq (.ops [⟨(some 4),.mov (.con (.bool false)),none⟩])
 (.seq (.seq (.ops [⟨(some 6),.mov (.tmp 0),none⟩,
  ⟨(some 7),.lenSlice (.tmp 6),none⟩,
  ⟨(some 8),.mov (.tmp 1),none⟩,
  ⟨(some 9),.lenSlice (.tmp 8),none⟩,
  ⟨(some 10),.bin .neq (.tmp 7) (.tmp 9),none⟩])
 (.cond (.tmp 10)
 (.seq (.ops [⟨(some 4),.mov (.con (.bool false)),none⟩])
 .ret)
 .skip))
 (.seq (.seq (.ops [⟨(some 5),.mov (.con (.int .i64 0)),none⟩])
 (.block 0 (.loop cSamel0)))
 (.seq (.ops [⟨(some 4),.mov (.con (.bool true)),none⟩])
 .ret))))
def aSame : AFunc:=⟨2,cSame,[.tmp 4]⟩
def cGrow (bytes : Nat) (z : AV) : ACode:=(.seq (.ops [⟨(some 4),.mov (.con .nilSlice),none⟩])
 (.seq (.seq (.ops [⟨(some 5),.mov (.tmp 1),none⟩,
  ⟨(some 6),.bin .lss (.tmp 5) (.con (.int .i64 0)),none⟩])
 (.cond (.tmp 6)
 (.ops [⟨(some 7),.mkIface 9 (.con (.str [99,97,110,110,111,116,32,98,101,32,110,101,103,97,116,105,118,101])),none⟩,
  ⟨none,.stuck,none⟩])
 .skip))
 (.seq (.seq (.ops [⟨(some 8),.mov (.tmp 1),none⟩,
  ⟨(some 9),.mov (.tmp 0),none⟩,
  ⟨(some 10),.capSlice (.tmp 9),none⟩,
  ⟨(some 11),.mov (.tmp 0),none⟩,
  ⟨(some 12),.lenSlice (.tmp 11),none⟩,
  ⟨(some 13),.bin .sub (.tmp 10) (.tmp 12),none⟩,
  ⟨(some 14),.bin .sub (.tmp 8) (.tmp 13),none⟩,
  ⟨(some 1),.mov (.tmp 14),none⟩])
 (.seq (.ops [⟨(some 15),.mov (.tmp 1),none⟩,
  ⟨(some 16),.bin .gtr (.tmp 15) (.con (.int .i64 0)),none⟩])
 (.cond (.tmp 16)
 (.ops [⟨(some 17),.mov (.tmp 0),none⟩,
  ⟨(some 18),.mov (.tmp 0),none⟩,
  ⟨(some 19),.capSlice (.tmp 18),none⟩,
  ⟨(some 20),.slc 1 (.tmp 17) none (some (.tmp 19)) none,none⟩,
  ⟨(some 21),.mov (.tmp 1),none⟩,
  ⟨(some 22),.appendZ 1 bytes [z] (.tmp 20) (.tmp 21),none⟩,
  ⟨(some 23),.mov (.tmp 0),none⟩,
  ⟨(some 24),.lenSlice (.tmp 23),none⟩,
  ⟨(some 25),.slc 1 (.tmp 22) none (some (.tmp 24)) none,none⟩,
  ⟨(some 0),.mov (.tmp 25),none⟩])
 .skip)))
 (.seq (.ops [⟨(some 26),.mov (.tmp 0),none⟩,
  ⟨(some 4),.mov (.tmp 26),none⟩])
 .ret))))
def aGrow (bytes : Nat) (z : AV) : AFunc:=⟨2,cGrow bytes z,[.tmp 4]⟩
def cConcatl0 : ACode:=(.seq (.ops [⟨(some 12),.bin .lss (.tmp 11) (.tmp 10),none⟩])
 (.seq (.cond (.tmp 12)
 .skip
 (.exit 0))
 (.seq (.block 1 (.seq (.ops [⟨(some 13),.idxAddr 1 (.tmp 9) (.tmp 11),none⟩,
  ⟨(some 14),.load false 1 (.tmp 13),none⟩,
  ⟨(some 5),.mov (.tmp 14),none⟩])
 (.seq (.ops [⟨(some 15),.mov (.tmp 3),none⟩,
  ⟨(some 16),.mov (.tmp 5),none⟩,
  ⟨(some 17),.lenSlice (.tmp 16),none⟩,
  ⟨(some 18),.bin .add (.tmp 15) (.tmp 17),none⟩,
  ⟨(some 3),.mov (.tmp 18),none⟩])
 (.seq (.ops [⟨(some 19),.mov (.tmp 3),none⟩,
  ⟨(some 20),.bin .lss (.tmp 19) (.con (.int .i64 0)),none⟩])
 (.cond (.tmp 20)
 (.ops [⟨(some 21),.mkIface 9 (.con (.str [108,101,110,32,111,117,116,32,111,102,32,114,97,110,103,101])),none⟩,
  ⟨none,.stuck,none⟩])
 .skip)))))
 (.ops [⟨(some 22),.bin .add (.tmp 11) (.con (.int .i64 1)),none⟩,
  ⟨(some 11),.mov (.tmp 22),none⟩]))))
def cConcatl1 (bytes : Nat) : ACode:=(.seq (.ops [⟨(some 28),.bin .lss (.tmp 27) (.tmp 26),none⟩])
 (.seq (.cond (.tmp 28)
 .skip
 (.exit 2))
 (.seq (.block 3 (.seq (.ops [⟨(some 29),.idxAddr 1 (.tmp 25) (.tmp 27),none⟩,
  ⟨(some 30),.load false 1 (.tmp 29),none⟩,
  ⟨(some 8),.mov (.tmp 30),none⟩])
 (.ops [⟨(some 31),.mov (.tmp 6),none⟩,
  ⟨(some 32),.mov (.tmp 8),none⟩,
  ⟨(some 33),.append 1 bytes (.tmp 31) (.tmp 32),none⟩,
  ⟨(some 6),.mov (.tmp 33),none⟩])))
 (.ops [⟨(some 34),.bin .add (.tmp 27) (.con (.int .i64 1)),none⟩,
  ⟨(some 27),.mov (.tmp 34),none⟩]))))
def cConcat (bytes gg : Nat) : ACode:=(.seq (.ops [⟨(some 2),.mov (.con .nilSlice),none⟩])
 (.seq (.ops [⟨(some 3),.mov (.con (.int .i64 0)),none⟩])
 (.seq (.seq (.ops [⟨(some 9),.mov (.tmp 0),none⟩,
  ⟨(some 10),.lenSlice (.tmp 9),none⟩,
  ⟨(some 11),.mov (.con (.int .i64 0)),none⟩])
 (.block 0 (.loop cConcatl0)))
 (.seq (.ops [⟨(some 23),.mov (.tmp 3),none⟩,
  ⟨(some 24),.call gg [(.con .nilSlice),(.tmp 23)],none⟩,
  ⟨(some 6),.mov (.tmp 24),none⟩])
 (.seq (.seq (.ops [⟨(some 25),.mov (.tmp 0),none⟩,
  ⟨(some 26),.lenSlice (.tmp 25),none⟩,
  ⟨(some 27),.mov (.con (.int .i64 0)),none⟩])
 (.block 2 (.loop (cConcatl1 bytes))))
 (.seq (.ops [⟨(some 35),.mov (.tmp 6),none⟩,
  ⟨(some 2),.mov (.tmp 35),none⟩])
 .ret))))))
def aConcat (bytes gg : Nat) : AFunc:=⟨1,cConcat bytes gg,[.tmp 2]⟩
theorem sees_elems {v : AV} {xs : List AV} (s : Sees h v xs) : h.elems 1 xs.length v=some xs:=by
 rcases s with ⟨rfl,rfl⟩ | ⟨o,off,cap,ex,l,rw',rfl,hg,h1,h2⟩
 ·rfl
 ·simp only [AH.elems,true_and,Nat.le_refl,if_true,load_of hg,Nat.mul_one]
  rw [if_pos h1]
  congr 1
  apply List.ext_getElem?
  intro i
  rw [List.getElem?_take]
  by_cases hi : i < xs.length
  ·rw [if_pos hi,List.getElem?_drop,h2 i _ (List.getElem?_eq_getElem hi),List.getElem?_eq_getElem hi]
  ·rw [if_neg hi,List.getElem?_eq_none (by omega)]
def Cat (h : AH) (v : AV) (xs : List AV) (n : Nat) : Prop:=(v = .nilSlice∧xs=[]∧n=0)∨∃ o l,v = .slice o 0 1 xs.length n false∧h.get o=some (.cells l true)∧l.length=n∧xs.length≤n∧∀ (i : Nat) (x : AV),xs[i]?=some x→l[i]?=some x
theorem Cat.row {v : AV} {xs : List AV} {n : Nat} (c : Cat h v xs n) : Row1 h v xs:=by
 rcases c with ⟨rfl,rfl,_⟩ | ⟨o,l,rfl,hg,h1,h2,h3⟩
 ·exact .inl ⟨rfl,rfl⟩
 ·exact row1_of hg h1 rfl h2 h3
theorem Cat.append {v w : AV} {xs ys : List AV} {n bytes : Nat} (c : Cat h v xs n) (s : Sees h w ys) (hn : xs.length + ys.length≤n) (hf : ∀ y∈ys,AV.flat y=true) :
  ∃ v' h',appV 1 bytes h v w=some (v',h')∧Cat h' v' (xs ++ ys) n∧objs v'=objs v∧h'.next=h.next∧(∀ q,q∉objs v→h'.get q=h.get q):=by
 have hel:=sees_elems s
 have ln:=s.len
 rcases c with ⟨rfl,rfl,rfl⟩ | ⟨o,l,rfl,hg,h1,h2,h3⟩
 ·have : ys=[]:=List.eq_nil_of_length_eq_zero (by simp only [List.length_nil] at hn; omega)
  subst this
  refine ⟨.nilSlice,h,?_,.inl ⟨rfl,rfl,rfl⟩,rfl,rfl,fun _ _ => rfl⟩
  simp only [appV,ln,Option.bind_some,hel,appendV]
  rfl
 ·by_cases h0 : ys.length=0
  ·have : ys=[]:=List.eq_nil_of_length_eq_zero h0
   subst this
   refine ⟨.slice o 0 1 xs.length n false,h,?_,?_,rfl,rfl,fun _ _ => rfl⟩
   ·simp only [appV,ln,Option.bind_some,hel,appendV,if_true]
    rw [if_pos (by simp; omega)]
    simp
   ·rw [List.append_nil]; exact .inr ⟨o,l,rfl,hg,h1,h2,h3⟩
  ·obtain ⟨z1,z2⟩:=setMany_get l ys xs.length
   obtain ⟨z3,z4,z5⟩:=z2 (by omega)
   refine ⟨.slice o 0 1 (xs.length + ys.length) n false,h.set o (.cells (setMany l xs.length ys) true),?_,.inr ⟨o,setMany l xs.length ys,by rw [List.length_append],get_set_same,by rw [z1]; exact h1,by rw [List.length_append]; exact hn,fun i x hx => ?_⟩,rfl,rfl,fun q hq => ?_⟩
   ·simp only [appV,ln,Option.bind_some,hel,appendV,if_true]
    rw [if_pos hn,if_neg (by omega)]
    simp only [AH.store,hg,Nat.mul_one,Nat.zero_add]
    rw [if_pos ⟨by omega,by rw [List.all_eq_true]; exact hf⟩]
    rfl
   ·by_cases hi : i < xs.length
    ·rw [List.getElem?_append_left hi] at hx
     rw [z3 i hi]; exact h3 i x hx
    ·rw [List.getElem?_append_right (by omega)] at hx
     have:=z4 _ x hx
     rwa [show xs.length + (i - xs.length)=i by omega] at this
   ·simp [objs] at hq
    rw [AH.get_set,if_neg (Ne.symm hq)]
def callVal (call : Handler) (v : AV) (args : List AV) (h : AH) : Option (AV×AH):=match v with
 | .func (.func g) first caps => call g (first ++ args ++ caps) h
 | _ => none
theorem step_callV {call : Handler} {f : Fr} {x : AOpd} {args : List AOpd} : stepV call (.callV x args) f h=callVal call (x.val f) (args.map (·.val f)) h:=by
 unfold stepV
 simp only [AOp.eval,callVal]
 generalize x.val f=v
 cases v with
 | func fn a c => cases fn <;> rfl
 | _ => rfl
theorem callVal_func {call : Handler} {g : Nat} {args : List AV} : callVal call (.func (.func g) [] []) args h=call g args h:=by
 simp [callVal]
end Go.Vm

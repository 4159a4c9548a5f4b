/- A heap is made smaller: objects that nothing needs are left out, the others get other numbers. -/
import Derived.Test.YtakgcpmemalmaaaGreatDoorVmZzb
namespace Go.Vm
set_option linter.unusedSimpArgs false
set_option linter.unusedVariables false
def VRen (ρ : Nat→Nat) (a b : AV) : Prop:=∀ (μ : Inj) (v : Value),VRel μ b v→VRel (fun o => μ (ρ o)) a v
def VRens (ρ : Nat→Nat) (as bs : List AV) : Prop:=as.length=bs.length∧∀ (i : Nat) (a b : AV),as[i]?=some a→bs[i]?=some b→VRen ρ a b
theorem VRen.undef (ρ : Nat→Nat) (b : AV) : VRen ρ .undef b:=fun μ v _ => .undef v
theorem VRen.int (ρ : Nat→Nat) (k : IntKind) (n : Int) : VRen ρ (.int k n) (.int k n):=fun μ v h => by cases h; exact .int k n
theorem VRen.bool (ρ : Nat→Nat) (b : Bool) : VRen ρ (.bool b) (.bool b):=fun μ v h => by cases h; exact .bool b
theorem VRen.nilPtr (ρ : Nat→Nat) : VRen ρ .nilPtr .nilPtr:=fun μ v h => by cases h; exact .nilPtr
theorem VRen.nilSlice (ρ : Nat→Nat) : VRen ρ .nilSlice .nilSlice:=fun μ v h => by cases h; exact .nilSlice
theorem VRen.nilMap (ρ : Nat→Nat) : VRen ρ .nilMap .nilMap:=fun μ v h => by cases h; exact .nilMap
theorem VRen.str (ρ : Nat→Nat) (s : List UInt8) : VRen ρ (.str s) (.str s):=fun μ v h => by
 generalize e : AV.str s=x at h
 cases h <;> cases e
 exact .str _
theorem VRen.ptr {ρ : Nat→Nat} {o p : Nat} (off : Nat) (h : ρ o=p) : VRen ρ (.ptr o off) (.ptr p off):=fun μ v hv => by
 subst h
 cases hv with
 | ptr hm => exact .ptr hm
theorem VRen.map {ρ : Nat→Nat} {o p : Nat} (h : ρ o=p) : VRen ρ (.map o) (.map p):=fun μ v hv => by
 subst h
 cases hv with
 | map hm => exact .map hm
theorem VRen.slice {ρ : Nat→Nat} {o p : Nat} (off sz len cap : Nat) (ex : Bool) (h : ρ o=p) : VRen ρ (.slice o off sz len cap ex) (.slice p off sz len cap ex):=fun μ v hv => by
 subst h
 cases hv with
 | slice hm hl hc hs ha => exact .slice hm hl hc hs ha
 | empt => exact .empt
theorem VRens.nil (ρ : Nat→Nat) : VRens ρ [] []:=⟨rfl,fun i a b h => by simp at h⟩
theorem VRens.cons {ρ : Nat→Nat} {a b : AV} {as bs : List AV} (h : VRen ρ a b) (hs : VRens ρ as bs) : VRens ρ (a :: as) (b :: bs):=by
 refine ⟨by simp [hs.1],fun i x y hx hy => ?_⟩
 match i with
 | 0 => simp at hx hy; subst hx; subst hy; exact h
 | i + 1 => exact hs.2 i x y (by simpa using hx) (by simpa using hy)
theorem VRen.agg {ρ : Nat→Nat} {as bs : List AV} (h : VRens ρ as bs) : VRen ρ (.agg as) (.agg bs):=fun μ v hv => by
 cases hv with
 | agg h1 h2 =>
  refine .agg (h.1.trans h1) fun i x y hx hy => ?_
  obtain ⟨b,hb⟩ : ∃ b,bs[i]?=some b:=⟨_,List.getElem?_eq_getElem (by have:=(List.getElem?_eq_some_iff.1 hx).1; have:=h.1; omega)⟩
  exact h.2 i x b hx hb μ y (h2 i b y hb hy)
theorem VRen.tuple {ρ : Nat→Nat} {as bs : List AV} (h : VRens ρ as bs) : VRen ρ (.tuple as) (.tuple bs):=fun μ v hv => by
 cases hv with
 | tuple h1 h2 =>
  refine .tuple (h.1.trans h1) fun i x y hx hy => ?_
  obtain ⟨b,hb⟩ : ∃ b,bs[i]?=some b:=⟨_,List.getElem?_eq_getElem (by have:=(List.getElem?_eq_some_iff.1 hx).1; have:=h.1; omega)⟩
  exact h.2 i x b hx hb μ y (h2 i b y hb hy)
def ORen (ρ : Nat→Nat) : AObj→AObj→Prop
 | .dead,_ => True
 | .cells l rw,.cells m rw' => rw=rw'∧VRens ρ l m
 | .marked l,.marked m => VRens ρ l m
 | .map es,.map fs => es.length=fs.length∧∀ (i : Nat) (p q : AV×AV),es[i]?=some p→fs[i]?=some q→VRen ρ p.1 q.1∧VRen ρ p.2 q.2
 | _,_ => False
theorem VRens.rel {ρ : Nat→Nat} {l m : List AV} (h : VRens ρ l m) {μ : Inj} {C : Array Value} {base : Nat} (hr : ∀ (i : Nat) (u : AV) (v : Value),m[i]?=some u→C[base + i]?=some v→VRel μ u v) : ∀ (i : Nat) (u : AV) (v : Value),l[i]?=some u→C[base + i]?=some v→VRel (fun o => μ (ρ o)) u v:=by
 intro i u v hu hv
 obtain ⟨b,hb⟩ : ∃ b,m[i]?=some b:=⟨_,List.getElem?_eq_getElem (by have:=(List.getElem?_eq_some_iff.1 hu).1; have:=h.1; omega)⟩
 exact h.2 i u b hu hb μ v (hr i b v hb hv)
theorem ORen.rel {ρ : Nat→Nat} {x y : AObj} (h : ORen ρ x y) {π : Pin} {N : Keep π} {μ : Inj} {w : World} {b base size : Nat} (r : ORel μ N w y b base size) : ORel (fun o => μ (ρ o)) N w x b base size:=by
 cases x with
 | dead => trivial
 | cells l rw =>
  cases y with
  | cells m rw' =>
   obtain ⟨rfl,hv⟩:=h
   obtain ⟨C,e,fz,h1,h2,h3,h4,h5⟩:=r
   exact ⟨C,e,fz,h1,h2,by rw [hv.1]; exact h3,hv.rel h4,h5⟩
  | _ => exact h.elim
 | marked l =>
  cases y with
  | marked m =>
   have h : VRens ρ l m:=h
   obtain ⟨C,e,fz,h1,h2,h3,h4,h5⟩:=r
   exact ⟨C,e,fz,h1,h2,by rw [h.1]; exact h3,h.rel h4,h5⟩
  | _ => exact h.elim
 | map es =>
  cases y with
  | map fs =>
   obtain ⟨h1,h2,ces,clock,h3,h4,h5⟩:=r
   obtain ⟨g1,g2⟩:=h
   refine ⟨h1,h2,ces,clock,h3,g1.trans h4,fun i p q hp hq => ?_⟩
   obtain ⟨z,hz⟩ : ∃ z,fs[i]?=some z:=⟨_,List.getElem?_eq_getElem (by have:=(List.getElem?_eq_some_iff.1 hp).1; omega)⟩
   obtain ⟨k1,k2⟩:=h5 i z q hz hq
   obtain ⟨j1,j2⟩:=g2 i p z hp hz
   exact ⟨j1 μ _ k1,j2 μ _ k2⟩
  | _ => exact h.elim
theorem ORen.solid {ρ : Nat→Nat} {x y : AObj} (h : ORen ρ x y) (hs : x.solid=true) : y.solid=true:=by
 cases x <;> cases y <;> simp_all [ORen,AObj.solid]
theorem R.gc {π : Pin} {N : Keep π} {w₀ w0 w : World} {μ0 μ : Inj} {h0 h g : AH} {ρ : Nat→Nat} (r0 : R N w₀ μ0 h0 w0) (r : R N w₀ μ h w) (ext : Inj.Ext h0.next h.next μ0 μ) (hn : h0.next≤g.next)
  (ρ0 : ∀ o,o < h0.next→ρ o=o) (ρn : ∀ o,g.next≤o→h.next≤ρ o) (inj : ∀ o p,o < g.next→p < g.next→ρ o=ρ p→o=p) (obj : ∀ o x,o < g.next→g.get o=some x→∃ y,h.get (ρ o)=some y∧ORen ρ x y) :
  R N w₀ (fun o => μ (ρ o)) g w∧Inj.Ext h0.next g.next μ0 (fun o => μ (ρ o)):=by
 have dom : ∀ o x,μ (ρ o)=some x→o < g.next:=fun o x hx => by
  have h1:=r.dom _ _ hx
  rcases Nat.lt_or_ge o g.next with h2 | h2
  ·exact h2
  ·have:=ρn o h2; omega
 have le : Inj.le μ0 (fun o => μ (ρ o)):=fun o x hx => by
  have h1:=r0.dom _ _ hx
  show μ (ρ o)=some x
  rw [ρ0 o h1]
  exact ext.1 _ _ hx
 refine ⟨⟨r.below,r.fresh,dom,?_,?_,?_⟩,le,fun o ho => by show μ (ρ o)=μ0 o; rw [ρ0 o ho]; exact ext.2.1 o ho,hn⟩
 ·intro o b base size x ho hx
  obtain ⟨y,hy,hr⟩:=obj o x (dom _ _ ho) hx
  exact hr.rel (r.obj _ b base size y ho hy)
 ·intro o p x y ho hp hne so sp
  obtain ⟨a,ha,sa⟩:=solid_iff.1 so
  obtain ⟨c,hc,sc⟩:=solid_iff.1 sp
  obtain ⟨a',ha',ra⟩:=obj o a (dom _ _ ho) ha
  obtain ⟨c',hc',rc⟩:=obj p c (dom _ _ hp) hc
  exact r.inj (ρ o) (ρ p) x y ho hp (fun e => hne (inj o p (dom _ _ ho) (dom _ _ hp) e)) (solid_iff.2 ⟨a',ha',ra.solid sa⟩) (solid_iff.2 ⟨c',hc',rc.solid sc⟩)
 ·intro o x ν hp
  obtain ⟨h1,l,h2,h3,h4⟩:=r0.pin o x ν hp
  exact ⟨Inj.le_trans h1 le,l,le _ _ h2,h3,h4⟩
structure Gc (h0 h g : AH) (ρ : Nat→Nat) (x r : AV) : Prop where
 next : h0.next≤g.next
 old : ∀ o,o < h0.next→ρ o=o
 out : ∀ o,g.next≤o→h.next≤ρ o
 inj : ∀ o p,o < g.next→p < g.next→ρ o=ρ p→o=p
 obj : ∀ o a,o < g.next→g.get o=some a→∃ y,h.get (ρ o)=some y∧ORen ρ a y
 val : VRen ρ x r
theorem gives_gc {P : Program} {T : Prog} (hT : TabOk P T) {f : Nat} (he : T.env f=none) {args : List AV} {h0 g : AH} {x : AV} (H : Gives T f args h0 fun r h => ∃ ρ,Gc h0 h g ρ x r) : CSim P f args h0 x g:=by
 obtain ⟨r,h,hrun,ρ,gc⟩:=H
 obtain ⟨hc,sim⟩:=run_body hT he hrun
 refine .inl ⟨hc,?_⟩
 intro π N w₀ μ w vargs hR hv
 refine (sim N w₀ μ w vargs hR hv).mono ?_
 rintro e w' ⟨μ',v,rfl,ext,hR',hv'⟩
 obtain ⟨h1,h2⟩:=R.gc hR hR' ext gc.next gc.old gc.out gc.inj gc.obj
 exact ⟨_,v,rfl,h2,h1,gc.val _ _ hv'⟩
end Go.Vm

/- A smaller heap out of a list of the objects that stay; lists of consecutive numbers, edited lists. -/
import Derived.Test.YtakgcpmemalmaaaGreatDoorVmZzd
namespace Go.Vm
set_option linter.unusedSimpArgs false
set_option linter.unusedVariables false
theorem rhoL_old {n0 big o : Nat} {l : List Nat} (h : o < n0) : rhoL n0 big l o=o:=by unfold rhoL; rw [if_pos h]
theorem rhoL_new {n0 big i p : Nat} {l : List Nat} (h : l[i]?=some p) : rhoL n0 big l (n0 + i)=p:=by
 unfold rhoL; rw [if_neg (by omega),Nat.add_sub_cancel_left,h]
theorem gc_list {h0 h g : AH} {l : List Nat} {x r : AV} (hn : g.next=h0.next + l.length) (nd : l.Nodup) (ge : ∀ p∈l,h0.next≤p∧p < h.next)
  (old : ∀ o a,o < h0.next→g.get o=some a→∃ y,h.get o=some y∧ORen (rhoL h0.next h.next l) a y)
  (new : ∀ i p a,l[i]?=some p→g.get (h0.next + i)=some a→∃ y,h.get p=some y∧ORen (rhoL h0.next h.next l) a y)
  (val : VRen (rhoL h0.next h.next l) x r) : Gc h0 h g (rhoL h0.next h.next l) x r:=by
 have at_ : ∀ o,o < g.next→¬ o < h0.next→∃ p,l[o - h0.next]?=some p∧rhoL h0.next h.next l o=p∧p∈l:=fun o ho h1 => by
  obtain ⟨p,hp⟩ : ∃ p,l[o - h0.next]?=some p:=⟨_,List.getElem?_eq_getElem (by omega)⟩
  exact ⟨p,hp,by unfold rhoL; rw [if_neg h1,hp],List.mem_of_getElem? hp⟩
 refine ⟨by omega,fun o ho => rhoL_old ho,fun o ho => ?_,fun o p ho hp heq => ?_,fun o a ho ha => ?_,val⟩
 ·unfold rhoL
  rw [if_neg (by omega),List.getElem?_eq_none (by omega)]
  show h.next≤h.next + o
  omega
 ·by_cases h1 : o < h0.next
  ·rw [rhoL_old h1] at heq
   by_cases h2 : p < h0.next
   ·rw [rhoL_old h2] at heq; exact heq
   ·obtain ⟨q,_,hq,hm⟩:=at_ p hp h2
    rw [hq] at heq
    have:=(ge q hm).1; omega
  ·obtain ⟨q,hq1,hq,hm⟩:=at_ o ho h1
   rw [hq] at heq
   by_cases h2 : p < h0.next
   ·rw [rhoL_old h2] at heq
    have:=(ge q hm).1; omega
   ·obtain ⟨q',hq1',hq',hm'⟩:=at_ p hp h2
    rw [hq'] at heq
    subst heq
    have i1:=(List.getElem?_eq_some_iff.1 hq1)
    have i2:=(List.getElem?_eq_some_iff.1 hq1')
    have:=(List.getElem_inj (h₀:=i1.1) (h₁:=i2.1) nd).1 (i1.2.trans i2.2.symm)
    omega
 ·by_cases h1 : o < h0.next
  ·rw [rhoL_old h1]; exact old o a h1 ha
  ·obtain ⟨p,hp,hr,_⟩:=at_ o ho h1
   rw [hr]
   exact new _ p a hp (by rw [Nat.add_sub_cancel' (by omega)]; exact ha)
def ints (a : Nat) : Nat→List AV
 | 0 => []
 | n + 1 => .int .i64 (Int.ofNat a) :: ints (a + 1) n
def setOf (l : List AV) : List (AV×AV):=l.map fun x => (x,.agg [])
def edL : Nat→List AV→List (Nat×AV)→List AV
 | _,[],_ => []
 | i,x :: r,[] => x :: r
 | i,x :: r,(j,v) :: e => bif Nat.beq i j then v :: edL (i + 1) r e else x :: edL (i + 1) r ((j,v) :: e)
theorem ORen.same_ints {ρ : Nat→Nat} {l : List AV} {rw' : Bool} (h : ∀ v∈l,∃ k n,v = .int k n) : ORen ρ (.cells l rw') (.cells l rw'):=by
 refine ⟨rfl,rfl,fun i a b ha hb => ?_⟩
 rw [ha] at hb; cases hb
 obtain ⟨k,n,rfl⟩:=h a (List.mem_of_getElem? ha)
 exact VRen.int ρ k n
theorem VRens.append {ρ : Nat→Nat} : ∀ {as bs cs ds : List AV},VRens ρ as bs→VRens ρ cs ds→VRens ρ (as ++ cs) (bs ++ ds)
 | [],[],_,_,_,h => h
 | a :: as,b :: bs,cs,ds,h,k => by
  refine VRens.cons (h.2 0 a b rfl rfl) (VRens.append (as:=as) (bs:=bs) ⟨by simpa using h.1,fun i x y hx hy => h.2 (i + 1) x y (by simpa using hx) (by simpa using hy)⟩ k)
 | [],_ :: _,_,_,h,_ => by simp [VRens] at h
 | _ :: _,[],_,_,h,_ => by simp [VRens] at h
end Go.Vm

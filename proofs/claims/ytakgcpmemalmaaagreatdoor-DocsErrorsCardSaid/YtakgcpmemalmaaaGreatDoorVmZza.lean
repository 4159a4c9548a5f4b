/- Runs whose calls stand by answers that were shown ahead: a long closed run, in pieces. -/
import Derived.Test.YtakgcpmemalmaaaGreatDoorVmZv
import Derived.Test.YtakgcpmemalmaaaGreatDoorVmX
namespace Go.Vm
set_option linter.unusedSimpArgs false
set_option linter.unusedVariables false
def Tr.beq {α : Type} (f : α→α→Bool) : Tr α→Tr α→Bool
 | .nil,.nil => true
 | .node a u b,.node c v d => (match u,v with
  | none,none => true
  | some x,some y => f x y
  | _,_ => false) && Tr.beq f a c && Tr.beq f b d
 | _,_ => false
theorem Tr.eq_of_beq {α : Type} {f : α→α→Bool} (hf : ∀ x y,f x y=true→x=y) : ∀ (s t : Tr α),Tr.beq f s t=true→s=t
 | .nil,.nil,_ => rfl
 | .nil,.node ..,h => by simp [Tr.beq] at h
 | .node ..,.nil,h => by simp [Tr.beq] at h
 | .node a u b,.node c v d,h => by
  simp only [Tr.beq,Bool.and_eq_true] at h
  rw [Tr.eq_of_beq hf a c h.1.2,Tr.eq_of_beq hf b d h.2]
  cases u <;> cases v <;> simp_all
  exact hf _ _ h.1.1
def beqO : AObj→AObj→Bool
 | .dead,.dead => true
 | .cells a b,.cells c d => b == d && AV.beqs a c
 | .marked a,.marked c => AV.beqs a c
 | .map a,.map c => beqPairs a c
 | _,_ => false
theorem eq_of_beqO : ∀ {x y : AObj},beqO x y=true→x=y:=by
 intro x y h
 cases x <;> cases y <;> simp only [beqO,Bool.and_eq_true,beq_iff_eq,Bool.false_eq_true] at h
 ·rw [h.1,AV.eq_of_beqs _ _ h.2]
 ·rw [eq_of_beqPairs _ _ h]
 ·rfl
 ·rw [AV.eq_of_beqs _ _ h]
def AH.beq (h g : AH) : Bool:=Nat.beq h.next g.next && Tr.beq beqO h.tr g.tr
theorem AH.eq_of_beq {h g : AH} (e : AH.beq h g=true) : h=g:=by
 obtain ⟨n,t⟩:=h
 obtain ⟨m,s⟩:=g
 simp only [AH.beq,Bool.and_eq_true] at e
 have h1 : n=m:=Nat.eq_of_beq_eq_true e.1
 have h2 : t=s:=Tr.eq_of_beq (fun x y => eq_of_beqO) t s e.2
 rw [h1,h2]
structure Lit where
 args : List AV
 h : AH
 r : AV
 h' : AH
def litFind : List Lit→List AV→AH→Option (AV×AH)
 | [],_,_ => none
 | l :: r,args,h => if Nat.beq l.h.next h.next && AV.beqs l.args args && AH.beq l.h h then some (l.r,l.h') else litFind r args h
theorem litFind_inv : ∀ {ls : List Lit} {args : List AV} {h h' : AH} {r : AV},litFind ls args h=some (r,h')→∃ l∈ls,l.args=args∧l.h=h∧l.r=r∧l.h'=h'
 | [],_,_,_,_,e => by cases e
 | l :: ls,args,h,h',r,e => by
  unfold litFind at e
  split at e
  ·rename_i hb
   simp only [Bool.and_eq_true] at hb
   simp only [Option.some.injEq,Prod.mk.injEq] at e
   exact ⟨l,by simp,AV.eq_of_beqs _ _ hb.1.2,AH.eq_of_beq hb.2,e.1,e.2⟩
  ·obtain ⟨m,h1,h2⟩:=litFind_inv e
   exact ⟨m,by simp [h1],h2⟩
noncomputable def arunE (T : Prog) (n : Nat) : Handler:=@Nat.rec (fun _ => Handler) (fun _ _ _ => none) (fun n ih g args h => @Option.rec _ (fun _ => Option (AV×AH)) (callT T.func ih (Nat.succ n) g args h) (fun e => e args h) (T.env g)) n
theorem arunE_eq (T : Prog) : ∀ (n : Nat),arunE T n=arun T n
 | 0 => rfl
 | n + 1 => by
  funext g args h
  show @Option.rec _ (fun _ => Option (AV×AH)) (callT T.func (arunE T n) (n + 1) g args h) (fun e => e args h) (T.env g)=_
  rw [arunE_eq T n]
  simp only [arun,callT]
  cases T.env g with
  | some e => rfl
  | none =>
   cases T.func g with
   | none => rfl
   | some fn => exact funT_eq _ _ _ _ _
def Lit.Ran (T : Prog) (k g : Nat) (l : Lit) : Prop:=arunE T k g l.args l.h=some (l.r,l.h')
noncomputable def Lit.ranB (T : Prog) (k g : Nat) (l : Lit) : Bool:=@Option.rec (AV×AH) (fun _ => Bool) false (fun p => AV.beq l.r p.1 && AH.beq l.h' p.2) (arunE T k g l.args l.h)
def AH.upd (h : AH) (n : Nat) (l : List (Nat×AObj)) : AH:=⟨n,l.foldl (fun t p => Tr.set t p.1 p.2) h.tr⟩
theorem pieces_yes {P : Program} {T : Prog} (hT : TabOk P T) {k g : Nat} (hr : saysTrue (arunE T k g [] AH.empty)=true) (he : T.env g=none) : ∀ args h r h',yes args h=some (r,h')→CallOk P g∧ASim P g args h r h' :=
 closed_yes hT (k:=k) (by rw [← arunE_eq]; exact hr) he
end Go.Vm

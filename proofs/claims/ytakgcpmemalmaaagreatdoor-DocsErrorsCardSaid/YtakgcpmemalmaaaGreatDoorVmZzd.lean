/- A smaller heap, checked by computing. -/
import Derived.Test.YtakgcpmemalmaaaGreatDoorVmZzc
namespace Go.Vm
set_option linter.unusedSimpArgs false
set_option linter.unusedVariables false
theorem VRen.nilFunc (ρ : Nat→Nat) : VRen ρ .nilFunc .nilFunc:=fun μ v h => by cases h; exact .nilFunc
theorem VRen.nilIface (ρ : Nat→Nat) : VRen ρ .nilIface .nilIface:=fun μ v h => by cases h; exact .nilIface
theorem VRen.iface {ρ : Nat→Nat} (t : Nat) {a b : AV} (h : VRen ρ a b) : VRen ρ (.iface t a) (.iface t b):=fun μ v hv => by
 cases hv with
 | iface _ h1 => exact .iface t (h μ _ h1)
mutual
def AV.renB (ρ : Nat→Nat) : AV→AV→Bool
 | .undef,_ => true
 | .bool a,.bool b => a == b
 | .int k a,.int k' b => decide (k=k') && decide (a=b)
 | .str a,.str b => a == b
 | .ptr o i,.ptr p j => ρ o == p && i == j
 | .nilPtr,.nilPtr => true
 | .slice o i s l c e,.slice p j s' l' c' e' => ρ o == p && i == j && s == s' && l == l' && c == c' && e == e'
 | .nilSlice,.nilSlice => true
 | .map o,.map p => ρ o == p
 | .nilMap,.nilMap => true
 | .nilFunc,.nilFunc => true
 | .iface t v,.iface u w => t == u && AV.renB ρ v w
 | .nilIface,.nilIface => true
 | .agg a,.agg b => AV.renBs ρ a b
 | .tuple a,.tuple b => AV.renBs ρ a b
 | _,_ => false
def AV.renBs (ρ : Nat→Nat) : List AV→List AV→Bool
 | [],[] => true
 | a :: r,b :: s => AV.renB ρ a b && AV.renBs ρ r s
 | _,_ => false
end
mutual
theorem AV.ren_of (ρ : Nat→Nat) : ∀ (a b : AV),AV.renB ρ a b=true→VRen ρ a b
 | .undef,b,_ => VRen.undef ρ b
 | .bool x,b,h => by cases b <;> simp [AV.renB] at h; subst h; exact VRen.bool ρ _
 | .int k n,b,h => by cases b <;> simp [AV.renB] at h; obtain ⟨rfl,rfl⟩:=h; exact VRen.int ρ _ _
 | .str x,b,h => by cases b <;> simp [AV.renB] at h; subst h; exact VRen.str ρ _
 | .ptr o i,b,h => by cases b <;> simp [AV.renB] at h; obtain ⟨h1,rfl⟩:=h; exact VRen.ptr _ h1
 | .nilPtr,b,h => by cases b <;> simp [AV.renB] at h; exact VRen.nilPtr ρ
 | .slice ..,b,h => by cases b <;> simp [AV.renB] at h; obtain ⟨⟨⟨⟨⟨h1,rfl⟩,rfl⟩,rfl⟩,rfl⟩,rfl⟩:=h; exact VRen.slice _ _ _ _ _ h1
 | .nilSlice,b,h => by cases b <;> simp [AV.renB] at h; exact VRen.nilSlice ρ
 | .map o,b,h => by cases b <;> simp [AV.renB] at h; exact VRen.map h
 | .nilMap,b,h => by cases b <;> simp [AV.renB] at h; exact VRen.nilMap ρ
 | .func ..,b,h => by cases b <;> simp [AV.renB] at h
 | .nilFunc,b,h => by cases b <;> simp [AV.renB] at h; exact VRen.nilFunc ρ
 | .iface t v,b,h => by
  cases b <;> simp only [AV.renB,Bool.and_eq_true,beq_iff_eq,Bool.false_eq_true] at h
  obtain ⟨rfl,h2⟩:=h
  exact VRen.iface _ (AV.ren_of ρ _ _ h2)
 | .nilIface,b,h => by cases b <;> simp [AV.renB] at h; exact VRen.nilIface ρ
 | .agg x,b,h => by
  cases b <;> simp only [AV.renB,Bool.false_eq_true] at h
  exact VRen.agg (AV.rens_of ρ _ _ h)
 | .tuple x,b,h => by
  cases b <;> simp only [AV.renB,Bool.false_eq_true] at h
  exact VRen.tuple (AV.rens_of ρ _ _ h)
theorem AV.rens_of (ρ : Nat→Nat) : ∀ (a b : List AV),AV.renBs ρ a b=true→VRens ρ a b
 | [],b,h => by cases b <;> simp [AV.renBs] at h; exact VRens.nil ρ
 | x :: r,b,h => by
  cases b <;> simp only [AV.renBs,Bool.and_eq_true,Bool.false_eq_true] at h
  exact VRens.cons (AV.ren_of ρ _ _ h.1) (AV.rens_of ρ _ _ h.2)
end
def pairsB (ρ : Nat→Nat) : List (AV×AV)→List (AV×AV)→Bool
 | [],[] => true
 | p :: r,q :: s => AV.renB ρ p.1 q.1 && AV.renB ρ p.2 q.2 && pairsB ρ r s
 | _,_ => false
theorem pairs_of (ρ : Nat→Nat) : ∀ (a b : List (AV×AV)),pairsB ρ a b=true→a.length=b.length∧∀ (i : Nat) (p q : AV×AV),a[i]?=some p→b[i]?=some q→VRen ρ p.1 q.1∧VRen ρ p.2 q.2
 | [],[],_ => ⟨rfl,fun i p q hp => by simp at hp⟩
 | [],_ :: _,h => by simp [pairsB] at h
 | _ :: _,[],h => by simp [pairsB] at h
 | p :: r,q :: s,h => by
  simp only [pairsB,Bool.and_eq_true] at h
  obtain ⟨h1,h2⟩:=pairs_of ρ r s h.2
  refine ⟨by simp [h1],fun i x y hx hy => ?_⟩
  match i with
  | 0 => simp at hx hy; subst hx; subst hy; exact ⟨AV.ren_of ρ _ _ h.1.1,AV.ren_of ρ _ _ h.1.2⟩
  | i + 1 => exact h2 i x y (by simpa using hx) (by simpa using hy)
def objB (ρ : Nat→Nat) : AObj→AObj→Bool
 | .dead,_ => true
 | .cells a rw,.cells b rw' => rw == rw' && AV.renBs ρ a b
 | .marked a,.marked b => AV.renBs ρ a b
 | .map a,.map b => pairsB ρ a b
 | _,_ => false
theorem obj_of {ρ : Nat→Nat} {x y : AObj} (h : objB ρ x y=true) : ORen ρ x y:=by
 cases x <;> cases y <;> simp only [objB,Bool.and_eq_true,beq_iff_eq,Bool.false_eq_true] at h
 all_goals first
  | exact ⟨h.1,AV.rens_of ρ _ _ h.2⟩
  | exact AV.rens_of ρ _ _ h
  | exact pairs_of ρ _ _ h
  | trivial
def rhoL (n0 big : Nat) (l : List Nat) (o : Nat) : Nat:=if o < n0 then o else match l[o - n0]? with
 | some p => p
 | none => big + o
def incB : Nat→List Nat→Bool
 | _,[] => true
 | n,p :: r => decide (n≤p) && incB (p + 1) r
theorem incB_ge : ∀ {n : Nat} {l : List Nat},incB n l=true→∀ (i p : Nat),l[i]?=some p→n + i≤p
 | n,[],_,i,p,h => by simp at h
 | n,q :: r,e,i,p,h => by
  simp only [incB,Bool.and_eq_true,decide_eq_true_eq] at e
  match i with
  | 0 => simp at h; omega
  | i + 1 =>
   have:=incB_ge e.2 i p (by simpa using h)
   omega
theorem incB_lt : ∀ {n : Nat} {l : List Nat},incB n l=true→∀ (i j p q : Nat),i < j→l[i]?=some p→l[j]?=some q→p < q
 | n,[],_,i,j,p,q,_,h,_ => by simp at h
 | n,x :: r,e,i,j,p,q,hij,hp,hq => by
  simp only [incB,Bool.and_eq_true,decide_eq_true_eq] at e
  match i,j with
  | 0,j + 1 =>
   simp at hp; subst hp
   have:=incB_ge e.2 j q (by simpa using hq)
   omega
  | i + 1,j + 1 => exact incB_lt e.2 i j p q (by omega) (by simpa using hp) (by simpa using hq)
def gcB (n0 : Nat) (h g : AH) (l : List Nat) (x r : AV) : Bool :=
 Nat.beq g.next (n0 + l.length) && incB n0 l && AV.renB (rhoL n0 h.next l) x r && (List.range g.next).all fun o => match g.get o with
  | none => true
  | some a => match h.get (rhoL n0 h.next l o) with
   | some y => objB (rhoL n0 h.next l) a y
   | none => false
theorem gc_of {h0 h g : AH} {l : List Nat} {x r : AV} (e : gcB h0.next h g l x r=true) : Gc h0 h g (rhoL h0.next h.next l) x r:=by
 simp only [gcB,Bool.and_eq_true,List.all_eq_true] at e
 obtain ⟨⟨⟨e1,e2⟩,e3⟩,e4⟩:=e
 have hn : g.next=h0.next + l.length:=Nat.eq_of_beq_eq_true e1
 refine ⟨by omega,fun o ho => by unfold rhoL; rw [if_pos ho],fun o ho => ?_,fun o p ho hp heq => ?_,fun o a ho ha => ?_,AV.ren_of _ _ _ e3⟩
 ·unfold rhoL
  rw [if_neg (by omega),List.getElem?_eq_none (by omega)]
  show h.next≤h.next + o
  omega
 ·have new : ∀ q,q < g.next→¬ q < h0.next→∃ z,l[q - h0.next]?=some z∧rhoL h0.next h.next l q=z∧h0.next≤z:=fun q hq h1 => by
   obtain ⟨z,hz⟩ : ∃ z,l[q - h0.next]?=some z:=⟨_,List.getElem?_eq_getElem (by omega)⟩
   refine ⟨z,hz,by unfold rhoL; rw [if_neg h1,hz],?_⟩
   have:=incB_ge e2 _ _ hz
   omega
  have old : ∀ q,q < h0.next→rhoL h0.next h.next l q=q:=fun q hq => by unfold rhoL; rw [if_pos hq]
  by_cases h1 : o < h0.next
  ·by_cases h2 : p < h0.next
   ·rw [old o h1,old p h2] at heq; exact heq
   ·obtain ⟨z,_,hz,hz2⟩:=new p hp h2
    rw [old o h1,hz] at heq; omega
  ·obtain ⟨y,hy,hy1,hy2⟩:=new o ho h1
   by_cases h2 : p < h0.next
   ·rw [old p h2,hy1] at heq; omega
   ·obtain ⟨z,hz,hz1,_⟩:=new p hp h2
    rw [hy1,hz1] at heq
    subst heq
    rcases Nat.lt_trichotomy (o - h0.next) (p - h0.next) with h3 | h3 | h3
    ·have:=incB_lt e2 _ _ _ _ h3 hy hz; omega
    ·omega
    ·have:=incB_lt e2 _ _ _ _ h3 hz hy; omega
 ·have h1:=e4 o (List.mem_range.2 ho)
  rw [ha] at h1
  simp only at h1
  split at h1
  ·rename_i y hy
   exact ⟨y,hy,obj_of h1⟩
  ·cases h1
noncomputable def Lit.gcB (T : Prog) (k f : Nat) (t : Lit) (l : List Nat) : Bool:=@Option.rec (AV×AH) (fun _ => Bool) false (fun p => Go.Vm.gcB t.h.next p.2 t.h' l t.r p.1) (arunE T k f t.args t.h)
theorem Lit.gc_ok {P : Program} {T : Prog} (hT : TabOk P T) {k f : Nat} (he : T.env f=none) {t : Lit} {l : List Nat} (e : t.gcB T k f l=true) : CSim P f t.args t.h t.r t.h':=by
 unfold Lit.gcB at e
 cases hr : arunE T k f t.args t.h with
 | none => rw [hr] at e; cases e
 | some p =>
  rw [hr] at e
  obtain ⟨r,h'⟩:=p
  have e2 : Go.Vm.gcB t.h.next h' t.h' l t.r r=true:=e
  rw [arunE_eq] at hr
  exact gives_gc hT he ⟨r,h',run_iff.2 ⟨k,hr⟩,_,gc_of e2⟩
theorem lits_sim {P : Program} {T : Prog} (hT : TabOk P T) {f : Nat} {ls : List Lit} (hl : ∀ l∈ls,CSim P f l.args l.h l.r l.h') : TabOk P (withEnv T f (litFind ls)) :=
 withEnv_ok hT fun args h r h' e => by
  obtain ⟨l,hm,rfl,rfl,rfl,rfl⟩:=litFind_inv e
  exact hl l hm
end Go.Vm

/- Pools of numbers that are free: the heap's functions. -/
import Derived.Test.YtagcnjhpdopkiaaP9T
import Derived.Test.YtagcnjhpdopkiaaVmZf
import Derived.Test.YtagcnjhpdopkiaaVmZ
namespace Go.Proofs.Ytagcnjhpdopkiaa
open Go.Vm
open Go.Vm.AOpd renaming val → vA
open Nat renaming reduceEqDiff → vB,reduceAdd → vC,reduceBEq → vD
set_option linter.unusedSimpArgs false
set_option linter.unusedVariables false
variable {T : Vm.Prog} {h : AH}
theorem less_ok (he : T.env 120=none) (hf : T.func 120=some a120) {o n cap : Nat} {ex : Bool} {L : List Int} {i j : Nat} (a : Arr h o cap L) (hn : n=L.length) (hi : i < n) (hj : j < n) :
  Gives T 120 [.slice o 0 1 n cap ex,.int .i64 (i : Int),.int .i64 (j : Int)] h fun r h' => r = .bool (decide (at0 L i < at0 L j))∧h'=h:=by
 refine gives_func he hf rfl ?_
 subst hn
 simp only [a120,c120,vms,vmc,vA,vB,reduceCtorEq,vC,vD,idx_nat hi,idx_nat hj,Nat.zero_add,a.load hi,a.load hj]
 exact ⟨trivial,trivial⟩
theorem swap_ok (he : T.env 121=none) (hf : T.func 121=some a121) {o n cap : Nat} {ex : Bool} {L : List Int} {i j : Nat} (a : Arr h o cap L) (hn : n=L.length) (hi : i < n) (hj : j < n) :
  Gives T 121 [.slice o 0 1 n cap ex,.int .i64 (i : Int),.int .i64 (j : Int)] h fun r h' => Upd h h' o∧Arr h' o cap (swp L i j):=by
 refine gives_func he hf rfl ?_
 subst hn
 obtain ⟨h1,s1,u1,a1⟩:=a.store hi (at0 L j)
 obtain ⟨h2,s2,u2,a2⟩:=a1.store (i:=j) (by simpa using hj) (at0 L i)
 simp only [a121,c121,vms,vmc,vA,vB,reduceCtorEq,vC,vD,idx_nat hi,idx_nat hj,Nat.zero_add,a.load hi,a.load hj,s1,s2]
 exact ⟨u1.trans u2,a2⟩
theorem len_ok (he : T.env 119=none) (hf : T.func 119=some a119) {v : AV} {n : Nat} (hv : lenOfV v=some n) : Gives T 119 [v] h fun r h' => r = .int .i64 (n : Int)∧h'=h:=by
 refine gives_func he hf rfl ?_
 simp only [a119,c119,vms,vmc,vA,vB,reduceCtorEq,vC,vD,hv]
 exact ⟨trivial,trivial⟩
def Named (h : AH) (p : Nat) (v : AV) : Prop:=∃ a c,h.get p=some (.cells [a,v,c] true)
theorem Named.load {p : Nat} {v : AV} (a : Named h p v) : loadV h false 1 (.ptr p 1)=some v:=by
 obtain ⟨x,y,hg⟩:=a
 exact load_at hg rfl
theorem Named.upd {h' : AH} {p o : Nat} {v : AV} (a : Named h p v) (u : Upd h h' o) (e : p≠o) : Named h' p v:=by
 obtain ⟨x,y,hg⟩:=a
 exact ⟨x,y,(u.2 p e).trans hg⟩
theorem up_ok (k : Fits T) {p o n cap : Nat} {ex : Bool} {L : List Int} {j : Nat} (hp : Named h p (.slice o 0 1 n cap ex)) (e : p≠o) (a : Arr h o cap L) (hn : n=L.length) (hs : n < 1000000) (hj : j < n) (hh : HPu L j) :
  Gives T 98 [.iface 161 (.ptr p 1),.int .i64 (j : Int)] h fun r h' => ∃ L',Upd h h' o∧Arr h' o cap L'∧HP L'∧L'.Perm L:=by
 refine gives_func (k.env _ (by decide)) (k.at (fn:=a98) rfl) rfl ?_
 simp only [a98,c98,vms,vmc,vA,vB,reduceCtorEq,vC,vD]
 refine wpc_loop (fun j f h' => ∃ L',j < n∧Upd h h' o∧Arr h' o cap L'∧L'.length=n∧HPu L' j∧L'.Perm L∧f.at 0 = .iface 161 (.ptr p 1)∧f.at 1 = .int .i64 (j : Nat)) ?_ j _ _ ⟨L,hj,Upd.refl h o,a,hn.symm,hh,List.Perm.refl L,?_⟩
 ·rintro j f h' ⟨L',hj,u,a,hl,hh,hperm,h0,h1⟩
  have hp':=hp.upd u e
  simp only [c98l0,vms,vmc,vA,vB,reduceCtorEq,vC,vD,h0,h1,bin_quo2]
  by_cases hz : j=0
  ·subst hz
   have e1 : IntKind.i64.wrap (((0 : Nat) : Int) - 1) = -1:=by decide
   have e2 : IntKind.i64.wrap ((-1 : Int).tdiv 2)=((0 : Nat) : Int):=by decide
   simp only [e1,e2,vms,vmc,vA,vB,reduceCtorEq,vC,vD]
   exact ⟨L',u,a,hh.done (.inl rfl),hperm⟩
  ·have e1 : IntKind.i64.wrap ((j : Int) - 1)=((j - 1 : Nat) : Int):=by rw [wrap_i64 (by omega) (by omega)]; omega
   have e2 : IntKind.i64.wrap (((j - 1 : Nat) : Int).tdiv 2)=(((j - 1) / 2 : Nat) : Int):=by rw [Int.tdiv_eq_ediv_of_nonneg (by omega)]; exact wrap_i64n (show (j - 1) / 2 < _ by omega)
   have e3 : ((((j - 1) / 2 : Nat) : Int) == (j : Int))=false:=by rw [beq_eq_false_iff_ne]; omega
   simp only [e1,e2,e3,vms,vmc,vA,vB,reduceCtorEq,vC,vD,h0,h1,hp'.load]
   refine Gives.bind ((less_ok (k.env _ (by decide)) (k.at rfl) a hl.symm hj (show (j - 1) / 2 < n by omega)).mono ?_)
   rintro _ _ ⟨rfl,rfl⟩
   rename_i h'
   by_cases hlt : at0 L' j < at0 L' ((j - 1) / 2)
   ·have hd : decide (at0 L' j < at0 L' ((j - 1) / 2))=true:=by simpa using hlt
    simp only [hd,vms,vmc,vA,vB,reduceCtorEq,vC,vD,h0,h1,hp'.load]
    refine Gives.bind ((swap_ok (k.env _ (by decide)) (k.at rfl) a hl.symm (show (j - 1) / 2 < n by omega) hj).mono ?_)
    rintro _ h2 ⟨u2,a2⟩
    simp only [vms,vmc,vA,vB,reduceCtorEq,vC,vD,h0,h1]
    refine ⟨(j - 1) / 2,by omega,swp L' ((j - 1) / 2) j,by omega,u.trans u2,a2,by rw [swp_len]; exact hl,hh.step (by omega) (by omega) hlt,(swp_perm (by omega) (by omega)).trans hperm,trivial,rfl⟩
   ·have hd : decide (at0 L' j < at0 L' ((j - 1) / 2))=false:=by simpa using hlt
    simp only [hd,vms,vmc,vA,vB,reduceCtorEq,vC,vD]
    exact ⟨L',u,a,hh.done (.inr (by omega)),hperm⟩
 ·simp only [vms,vmc,vA,vB,reduceCtorEq,vC,vD]
  exact ⟨trivial,trivial⟩
def c100r : ACode:=match c100l0 with
 | .block _ (.seq _ (.seq _ (.seq _ (.seq _ r)))) => r
 | c => c
theorem c100l0_parts : c100l0=(.block 1 (.seq (.ops [⟨(some 12),.mov (.tmp 7),none⟩,
  ⟨(some 13),.bin .mul (.con (.int .i64 2)) (.tmp 12),none⟩,
  ⟨(some 14),.bin .add (.tmp 13) (.con (.int .i64 1)),none⟩,
  ⟨(some 8),.mov (.tmp 14),none⟩])
 (.seq (.seq (.ops [⟨(some 15),.mov (.tmp 8),none⟩,
  ⟨(some 16),.mov (.tmp 2),none⟩,
  ⟨(some 17),.bin .geq (.tmp 15) (.tmp 16),none⟩,
  ⟨(some 18),.mov (.tmp 17),none⟩,
  ⟨(some 19),.mov (.tmp 8),(some (18,false))⟩,
  ⟨(some 20),.bin .lss (.tmp 19) (.con (.int .i64 0)),(some (18,false))⟩,
  ⟨(some 21),.pick (.tmp 18) (.con (.bool true)) (.tmp 20),none⟩])
 (.cond (.tmp 21)
 (.exit 0)
 .skip))
 (.seq (.ops [⟨(some 22),.mov (.tmp 8),none⟩,
  ⟨(some 9),.mov (.tmp 22),none⟩])
 (.seq (.seq (.ops [⟨(some 23),.mov (.tmp 8),none⟩,
  ⟨(some 24),.bin .add (.tmp 23) (.con (.int .i64 1)),none⟩,
  ⟨(some 10),.mov (.tmp 24),none⟩])
 (.seq (.ops [⟨(some 25),.mov (.tmp 10),none⟩,
  ⟨(some 26),.mov (.tmp 2),none⟩,
  ⟨(some 27),.bin .lss (.tmp 25) (.tmp 26),none⟩,
  ⟨(some 28),.mov (.tmp 27),none⟩,
  ⟨(some 29),.mov (.tmp 0),(some (28,true))⟩,
  ⟨(some 30),.mov (.tmp 10),(some (28,true))⟩,
  ⟨(some 31),.mov (.tmp 8),(some (28,true))⟩,
  ⟨(some 32),.callM [(156,120,.self),(161,120,(.deref false 1))] (.tmp 29) [(.tmp 30),(.tmp 31)],(some (28,true))⟩,
  ⟨(some 33),.pick (.tmp 28) (.tmp 32) (.con (.bool false)),none⟩])
 (.cond (.tmp 33)
 (.ops [⟨(some 34),.mov (.tmp 10),none⟩,
  ⟨(some 9),.mov (.tmp 34),none⟩])
 .skip)))
 c100r))))):=rfl
def c100t : ACode:=match c100 with
 | .seq _ (.seq _ (.seq _ r)) => r
 | c => c
theorem c51_parts : c100=(.seq (.ops [⟨(some 6),.mov (.con (.bool false)),none⟩])
 (.seq (.ops [⟨(some 11),.mov (.tmp 1),none⟩,
  ⟨(some 7),.mov (.tmp 11),none⟩])
 (.seq (.block 0 (.loop c100l0)) c100t))):=rfl
def DPost (h : AH) (o n cap m : Nat) (L : List Int) (h' : AH) : Prop:=∃ L',Upd h h' o∧Arr h' o cap L'∧L'.length=n∧HP (L'.take m)∧L'.Perm L∧∀ i,m≤i→at0 L' i=at0 L i
def DInv (h : AH) (p o n cap m : Nat) (L : List Int) (q : Nat) (f : Fr) (h' : AH) : Prop:=∃ L' i,q=n - i∧(i < n∨i=0)∧Upd h h' o∧Arr h' o cap L'∧L'.length=n∧HPd L' m i∧L'.Perm L∧(∀ i,m≤i→at0 L' i=at0 L i)∧f.at 0 = .iface 161 (.ptr p 1)∧f.at 1 = .int .i64 0∧f.at 2 = .int .i64 (m : Nat)∧f.at 7 = .int .i64 (i : Nat)
theorem down_rest (k : Fits T) {p o n cap m : Nat} {ex : Bool} {L L' : List Int} {h' : AH} {i j : Nat} {f : Fr} {Q : AExit→Fr→AH→Prop} (hp' : Named h' p (.slice o 0 1 n cap ex)) (hs : n < 1000000) (hm : m≤n) (hi : i < n) (u : Upd h h' o) (a : Arr h' o cap L') (hl : L'.length=n) (hh : HPd L' m i) (hperm : L'.Perm L)
  (hout : ∀ i,m≤i→at0 L' i=at0 L i) (hj : j < m) (hj0 : 0 < j) (hji : (j - 1) / 2=i) (hmin : ∀ c,0 < c→c < m→(c - 1) / 2=i→at0 L' j≤at0 L' c)
  (h0 : f.at 0 = .iface 161 (.ptr p 1)) (h1 : f.at 1 = .int .i64 0) (h2 : f.at 2 = .int .i64 (m : Nat)) (h7 : f.at 7 = .int .i64 (i : Nat)) (h9 : f.at 9 = .int .i64 (j : Nat))
  (hgo : ∀ f h',DInv h p o n cap m L (n - j) f h'→Q .normal f h') (hstop : ∀ f,f.at 1 = .int .i64 0→f.at 7 = .int .i64 (i : Nat)→DPost h o n cap m L h'→Q (.exit 0) f h') :
  Wp (code T c100r f h') Q:=by
 simp only [c100r,c100l0,vms,vmc,vA,vB,reduceCtorEq,vC,vD,h0,h1,h2,h7,h9,hp'.load]
 refine Gives.bind ((less_ok (k.env _ (by decide)) (k.at rfl) a hl.symm (show j < n by omega) (show i < n by omega)).mono ?_)
 rintro _ _ ⟨rfl,rfl⟩
 rename_i h'
 by_cases hlt : at0 L' j < at0 L' i
 ·have hd : decide (at0 L' j < at0 L' i)=true:=by simpa using hlt
  simp only [hd,vms,vmc,vA,vB,reduceCtorEq,vC,vD,h0,h1,h2,h7,h9,hp'.load]
  refine Gives.bind ((swap_ok (k.env _ (by decide)) (k.at rfl) a hl.symm (show i < n by omega) (show j < n by omega)).mono ?_)
  rintro _ h3 ⟨u2,a2⟩
  simp only [vms,vmc,vA,vB,reduceCtorEq,vC,vD,h0,h1,h2,h7,h9]
  refine hgo _ _ ⟨swp L' i j,j,rfl,.inl (by omega),u.trans u2,a2,by rw [swp_len]; exact hl,hh.step (by omega) hj hji hj0 hlt hmin,(swp_perm (by omega) (by omega)).trans hperm,?_,?_⟩
  ·intro c hc
   rw [swp_out (by omega) (by omega) (by omega) (by omega)]; exact hout c hc
  ·simp only [vms,vmc,vA,vB,reduceCtorEq,vC,vD,h0,h1,h2,h7,h9]
   exact ⟨trivial,trivial,trivial,trivial⟩
 ·have hd : decide (at0 L' j < at0 L' i)=false:=by simpa using hlt
  simp only [hd,vms,vmc,vA,vB,reduceCtorEq,vC,vD,h1,h7]
  refine hstop _ ?_ ?_ ⟨L',u,a,hl,hh.done (by omega) (fun c c1 c2 c3 => ?_),hperm,hout⟩
  ·simp only [vms,vmc,vA,vB,reduceCtorEq,vC,vD,h1]
  ·simp only [vms,vmc,vA,vB,reduceCtorEq,vC,vD,h7]
  ·have:=hmin c c1 c2 c3; omega
theorem down_ok (k : Fits T) {p o n cap m : Nat} {ex : Bool} {L : List Int} (hp : Named h p (.slice o 0 1 n cap ex)) (e : p≠o) (a : Arr h o cap L) (hn : n=L.length) (hs : n < 1000000) (hm : m≤n) (hh : HPd L m 0) :
  Gives T 100 [.iface 161 (.ptr p 1),.int .i64 0,.int .i64 (m : Int)] h fun r h' => DPost h o n cap m L h':=by
 refine gives_func (k.env _ (by decide)) (k.at (fn:=a100) rfl) rfl ?_
 have htail : ∀ (f : Fr) (h' : AH) (i : Nat),f.at 1 = .int .i64 0→f.at 7 = .int .i64 (i : Nat)→DPost h o n cap m L h'→Wp (code T c100t f h') (Vm.Ends [.tmp 6] fun r h' => DPost h o n cap m L h'):=by
  intro f h' i h1 h7 hd
  simp only [c100t,c100,vms,vmc,vA,vB,reduceCtorEq,vC,vD,h1,h7]
  exact hd
 simp only [a100,c51_parts,vms,vmc,vA,vB,reduceCtorEq,vC,vD]
 refine wpc_loop (DInv h p o n cap m L) ?_ n _ _ ⟨L,0,rfl,.inr rfl,Upd.refl h o,a,hn.symm,hh,List.Perm.refl L,fun _ _ => rfl,?_⟩
 ·rintro q f h' ⟨L',i,rfl,hi,u,a,hl,hh,hperm,hout,h0,h1,h2,h7⟩
  have hp':=hp.upd u e
  have e1 : IntKind.i64.wrap (2 * (i : Int))=((2 * i : Nat) : Int):=by rw [wrap_i64 (by omega) (by omega)]; omega
  have e2 : IntKind.i64.wrap (((2 * i : Nat) : Int) + 1)=((2 * i + 1 : Nat) : Int):=by rw [wrap_i64 (by omega) (by omega)]; omega
  have e3 : IntKind.i64.wrap (((2 * i + 1 : Nat) : Int) + 1)=((2 * i + 2 : Nat) : Int):=by rw [wrap_i64 (by omega) (by omega)]; omega
  simp only [c100l0_parts,vms,vmc,vA,vB,reduceCtorEq,vC,vD,h0,h1,h2,h7,e1,e2]
  by_cases hge : 2 * i + 1 ≥ m
  ·have hd : decide (((2 * i + 1 : Nat) : Int) ≥ (m : Int))=true:=by rw [decide_eq_true_eq]; omega
   simp only [hd,vms,vmc,vA,vB,reduceCtorEq,vC,vD]
   refine htail _ _ i ?_ ?_ ⟨L',u,a,hl,hh.done (by omega) (fun c c1 c2 c3 => by omega),hperm,hout⟩ <;> simp only [vms,vmc,vA,vB,reduceCtorEq,vC,vD,h1,h7]
  ·have hd : decide (((2 * i + 1 : Nat) : Int) ≥ (m : Int))=false:=by rw [decide_eq_false_iff_not]; omega
   have hd0 : decide (((2 * i + 1 : Nat) : Int) < 0)=false:=by rw [decide_eq_false_iff_not]; omega
   have hin : i < n:=by omega
   have hrest : ∀ (j : Nat) (f : Fr),j < m→0 < j→(j - 1) / 2=i→(∀ c,0 < c→c < m→(c - 1) / 2=i→at0 L' j≤at0 L' c)→f.at 0 = .iface 161 (.ptr p 1)→f.at 1 = .int .i64 0→f.at 2 = .int .i64 (m : Nat)→f.at 7 = .int .i64 (i : Nat)→f.at 9 = .int .i64 (j : Nat) →
     Wp (code T c100r f h') (InBlock 1 (Then (fun f' h' => ∃ q,q < n - i∧DInv h p o n cap m L q f' h') (InBlock 0 (ThenC T c100t (Vm.Ends [.tmp 6] fun r h' => DPost h o n cap m L h'))))):=by
    intro j f g1 g2 g3 g4 h0 h1 h2 h7 h9
    refine down_rest k hp' hs hm hin u a hl hh hperm hout g1 g2 g3 g4 h0 h1 h2 h7 h9 (fun f h' hI => ?_) (fun f h1 h7 hD => ?_)
    ·simp only [vms,vmc,vA,vB,reduceCtorEq,vC,vD]
     exact ⟨n - j,by omega,hI⟩
    ·simp only [vms,vmc,vA,vB,reduceCtorEq,vC,vD]
     exact htail _ _ i h1 h7 hD
   simp only [hd,hd0,vms,vmc,vA,vB,reduceCtorEq,vC,vD,h0,h1,h2,h7,e3]
   by_cases hj2 : 2 * i + 2 < m
   ·have hd2 : decide (((2 * i + 2 : Nat) : Int) < (m : Int))=true:=by rw [decide_eq_true_eq]; omega
    simp only [hd2,vms,vmc,vA,vB,reduceCtorEq,vC,vD,h0,h1,h2,h7,hp'.load]
    refine Gives.bind ((less_ok (k.env _ (by decide)) (k.at rfl) a hl.symm (show 2 * i + 2 < n by omega) (show 2 * i + 1 < n by omega)).mono ?_)
    rintro _ _ ⟨rfl,rfl⟩
    rename_i h'
    by_cases hlt : at0 L' (2 * i + 2) < at0 L' (2 * i + 1)
    ·have hd3 : decide (at0 L' (2 * i + 2) < at0 L' (2 * i + 1))=true:=by simpa using hlt
     simp only [hd3,vms,vmc,vA,vB,reduceCtorEq,vC,vD]
     refine hrest (2 * i + 2) _ hj2 (by omega) (by omega) ?_ ?_ ?_ ?_ ?_ ?_
     ·intro c c1 c2 c3
      have : c=2 * i + 1∨c=2 * i + 2:=by omega
      rcases this with rfl | rfl <;> omega
     all_goals simp only [vms,vmc,vA,vB,reduceCtorEq,vC,vD,h0,h1,h2,h7]
    ·have hd3 : decide (at0 L' (2 * i + 2) < at0 L' (2 * i + 1))=false:=by simpa using hlt
     simp only [hd3,vms,vmc,vA,vB,reduceCtorEq,vC,vD]
     refine hrest (2 * i + 1) _ (by omega) (by omega) (by omega) ?_ ?_ ?_ ?_ ?_ ?_
     ·intro c c1 c2 c3
      have : c=2 * i + 1∨c=2 * i + 2:=by omega
      rcases this with rfl | rfl <;> omega
     all_goals simp only [vms,vmc,vA,vB,reduceCtorEq,vC,vD,h0,h1,h2,h7]
   ·have hd2 : decide (((2 * i + 2 : Nat) : Int) < (m : Int))=false:=by rw [decide_eq_false_iff_not]; omega
    simp only [hd2,vms,vmc,vA,vB,reduceCtorEq,vC,vD]
    refine hrest (2 * i + 1) _ (by omega) (by omega) (by omega) ?_ ?_ ?_ ?_ ?_ ?_
    ·intro c c1 c2 c3
     have : c=2 * i + 1:=by omega
     subst this; omega
    all_goals simp only [vms,vmc,vA,vB,reduceCtorEq,vC,vD,h0,h1,h2,h7]
 ·simp only [vms,vmc,vA,vB,reduceCtorEq,vC,vD]
  exact ⟨trivial,trivial,trivial,rfl⟩
end Go.Proofs.Ytagcnjhpdopkiaa
/- Pools of numbers that are free: what a pool's functions come to. -/
namespace Go.Proofs.Ytagcnjhpdopkiaa
open Go.Vm
open Go.Vm.AOpd renaming val → vA
open Nat renaming reduceEqDiff → vB,reduceAdd → vC,reduceBEq → vD
set_option linter.unusedSimpArgs false
set_option linter.unusedVariables false
variable {T : Vm.Prog} {h : AH}
structure Pool (h : AH) (p : Nat) (most : Int) (L : List Int) (v : AV) (mo : Nat) : Prop where
 obj : h.get p=some (.cells [.int .i64 most,v,.map mo] true)
 keys : ∃ K,h.get mo=some (.map (keysM K))∧K.Perm L
 row : RowV h v L
 hp : HP L
 nodup : L.Nodup
 ne : p≠mo
 apart : ∀ o∈objs v,o≠p∧o≠mo
 range : ∀ y∈L,0≤y∧y < most
def foot (p : Nat) (v : AV) (mo : Nat) : List Nat:=p :: mo :: objs v
theorem Pool.keep {h' : AH} {p : Nat} {most : Int} {L : List Int} {v : AV} {mo : Nat} (k : Pool h p most L v mo) (hk : ∀ o∈foot p v mo,h'.get o=h.get o) : Pool h' p most L v mo where
 obj:=(hk p (by simp [foot])).trans k.obj
 keys:=by obtain ⟨K,h1,h2⟩:=k.keys; exact ⟨K,(hk mo (by simp [foot])).trans h1,h2⟩
 row:=k.row.keep fun o ho => hk o (by simp [foot,ho])
 hp:=k.hp
 nodup:=k.nodup
 ne:=k.ne
 apart:=k.apart
 range:=k.range
theorem Pool.count {p : Nat} {most : Int} {L : List Int} {v : AV} {mo : Nat} (k : Pool h p most L v mo) : L.length≤most.toNat :=
 pigeon _ L k.nodup fun y hy => by have:=k.range y hy; omega
theorem Pool.named {p : Nat} {most : Int} {L : List Int} {v : AV} {mo : Nat} (k : Pool h p most L v mo) : Named h p v:=⟨_,_,k.obj⟩
theorem plen_ok (he : T.env 86=none) (hf : T.func 86=some a86) {p : Nat} {most : Int} {L : List Int} {v : AV} {mo : Nat} (k : Pool h p most L v mo) : Gives T 86 [.ptr p 0] h fun r h' => r = .int .i64 (L.length : Nat)∧h'=h:=by
 refine gives_func he hf rfl ?_
 simp only [a86,c86,vms,vmc,vA,vB,reduceCtorEq,vC,vD,show nilChkV (.ptr p 0)=some (.ptr p 0) from rfl,show fieldAddrV 1 (.ptr p 0)=some (.ptr p 1) from rfl,k.named.load,k.row.len]
 exact ⟨trivial,trivial⟩
theorem has_ok (he : T.env 87=none) (hf : T.func 87=some a87) {p : Nat} {most : Int} {L : List Int} {v : AV} {mo : Nat} {n : Int} (k : Pool h p most L v mo) :
  Gives T 87 [.ptr p 0,.int .i64 n] h fun r h' => r = .bool (decide (n∈L))∧∃ x,h'=h.new x∨h'=(h.new x).set h.next x:=by
 refine gives_func he hf rfl ?_
 obtain ⟨K,hK,hperm⟩:=k.keys
 have hmap : loadV h false 1 (.ptr p 2)=some (.map mo):=load_at k.obj rfl
 have hst : storeV (h.new (.cells [] true)) 0 (.ptr h.next 0) (.agg [])=some ((h.new (.cells [] true)).set h.next (.cells [] true)):=by
  simp only [storeV,AV.cells,List.length_nil,AH.store,get_new_same,setMany,List.all_nil]
  rw [if_pos trivial,if_pos ⟨Nat.le_refl _,trivial⟩]
 have hlk : lookupV h 0 (.agg []) true (.map mo) (.int .i64 n)=some (.tuple [.agg [],.bool (decide (n∈L))]):=by
  simp only [lookupV,hK]
  by_cases hn : n∈L
  ·obtain ⟨j,h1,_,_⟩:=find_in K 0 (hperm.mem_iff.2 hn)
   rw [h1]; simp [lookV,hn]
  ·rw [find_out K 0 (fun e => hn (hperm.mem_iff.1 e))]; simp [lookV,hn]
 simp only [a87,c87,vms,vmc,vA,vB,reduceCtorEq,vC,vD,show nilChkV (.ptr p 0)=some (.ptr p 0) from rfl,show fieldAddrV 2 (.ptr p 0)=some (.ptr p 2) from rfl,hmap,hlk,hst]
 exact ⟨trivial,_,.inr rfl⟩
end Go.Proofs.Ytagcnjhpdopkiaa
/- Pools of numbers that are free: putting and taking. -/
namespace Go.Proofs.Ytagcnjhpdopkiaa
open Go.Vm
open Go.Vm.AOpd renaming val → vA
open Nat renaming reduceEqDiff → vB,reduceAdd → vC,reduceBEq → vD
set_option linter.unusedSimpArgs false
set_option linter.unusedVariables false
variable {T : Vm.Prog} {h : AH}
def Pushed (h : AH) (p : Nat) (a c : AV) (v : AV) (L : List Int) (x : Int) (h' : AH) : Prop :=
 ∃ v',h'.get p=some (.cells [a,v',c] true)∧RowV h' v' (L ++ [x])∧(∀ o∈objs v',o∈objs v∨h.next≤o)∧(∀ o∈objs v',o < h'.next)∧Only h h' (p :: objs v)∧Low h'
theorem push_ok (k : Fits T) {p : Nat} {a c v : AV} {L : List Int} {x : Int} (hlow : Low h) (hg : h.get p=some (.cells [a,v,c] true)) (r : RowV h v L) (hs : L.length < 1000000) (hne : ∀ o∈objs v,o≠p) :
  Gives T 123 [.ptr p 1,.iface 3 (.int .i64 x)] h fun _ h' => Pushed h p a c v L x h':=by
 refine gives_func (k.env _ (by decide)) (k.at (fn:=a123) rfl) rfl ?_
 have hpl : p < h.next:=hlow p _ hg
 have hol : ∀ o∈objs v,o < h.next:=by
  intro o ho
  rcases r with ⟨rfl,rfl⟩ | ⟨q,cap,rfl,l,hq,_⟩
  ·simp [objs] at ho
  ·simp [objs] at ho; subst ho; exact hlow _ _ hq
 have hbuild : fillV [AV.int .i64 0] [(0,1,AV.int .i64 x)]=some [.int .i64 x]:=by simp [fillV,AV.isDef,AV.cells,setMany]
 have r1 : RowV (h.new (.cells [.int .i64 x] true)) v L:=r.keep fun o ho => by rw [AH.get_new,if_neg (by have:=hol o ho; omega)]
 have hg1 : (h.new (.cells [.int .i64 x] true)).get p=some (.cells [a,v,c] true):=by rw [AH.get_new,if_neg (by omega)]; exact hg
 obtain ⟨v',h',happ,r',hobj,hob2,honly,hlow'⟩:=append_one (hlow.new (.cells [.int .i64 x] true)) r1 hs get_new_same (fun o ho => by have:=hol o ho; omega)
 have hp' : h'.get p=some (.cells [a,v,c] true):=(honly.2 p (by rw [next_new]; omega) (fun hm => hne p hm rfl)).trans hg1
 obtain ⟨hc',hf'⟩:=row_cell r'
 have hpv' : ∀ o∈objs v',o≠p:=by
  intro o ho e
  subst e
  rcases hobj o ho with h1 | h1
  ·exact hne o h1 rfl
  ·rw [next_new] at h1; omega
 simp only [a123,c123,vms,vmc,vA,vB,reduceCtorEq,vC,vD,show nilChkV (.ptr p 1)=some (.ptr p 1) from rfl,load_at hg (show [a,v,c][1]?=some v from rfl),hbuild]
 rw [items_look (look_load (v:=v) (by simp only [vms,vmc,vA,vB,reduceCtorEq,vC,vD]; exact load_at hg1 rfl) (by simp only [vms,vmc,vA,vB,reduceCtorEq,vC,vD]) (beq_row r))]
 rw [items_look (look_build (l:=[.int .i64 x]) (q:=h.next) (by simp only [vms,vmc,vA,vB,reduceCtorEq,vC,vD]; exact hbuild) (by simp only [vms,vmc,vA,vB,reduceCtorEq,vC,vD]; rfl) get_new_same (by unfold AV.beqs AV.beq AV.beqs; simp))]
 simp only [vms,vmc,vA,vB,reduceCtorEq,vC,vD,happ,show nilChkV (.ptr p 1)=some (.ptr p 1) from rfl,store_cell1 hp' hc' hf']
 refine ⟨v',get_set_same,r'.keep (fun o ho => by rw [AH.get_set,if_neg (fun e => hpv' o ho e.symm)]),?_,fun o ho => by rw [next_set]; exact hob2 o ho,?_,hlow'.set (hlow' p _ hp') _⟩
 ·intro o ho
  rcases hobj o ho with h1 | h1
  ·exact .inl h1
  ·right; rw [next_new] at h1; omega
 ·refine Only.set (Only.trans (Only.new (Only.refl h (p :: objs v)) _) honly (fun o ho => .inl (by simp [ho]))) (.inl (by simp)) _
theorem hpush_ok (k : Fits T) {p : Nat} {a c v : AV} {L : List Int} {x : Int} (hlow : Low h) (hg : h.get p=some (.cells [a,v,c] true)) (r : RowV h v L) (hp : HP L) (hs : L.length < 100000) (hne : ∀ o∈objs v,o≠p) :
  Gives T 88 [.iface 161 (.ptr p 1),.iface 3 (.int .i64 x)] h fun _ h' => ∃ L' v',h'.get p=some (.cells [a,v',c] true)∧RowV h' v' L'∧HP L'∧L'.Perm (x :: L)∧(∀ o∈objs v',o∈objs v∨h.next≤o)∧(∀ o∈objs v',o≠p)∧Only h h' (p :: objs v)∧Low h':=by
 refine gives_func (k.env _ (by decide)) (k.at (fn:=a88) rfl) rfl ?_
 simp only [a88,c88,vms,vmc,vA,vB,reduceCtorEq,vC,vD]
 refine Gives.bind ((push_ok k (x:=x) hlow hg r (by omega) hne).mono ?_)
 rintro _ h1 ⟨v',g1,r1,ho1,ho2,on1,low1⟩
 have hpl : p < h.next:=hlow p _ hg
 have hne1 : ∀ o∈objs v',o≠p:=by
  intro o ho e
  subst e
  rcases ho1 o ho with h1 | h1
  ·exact hne o h1 rfl
  ·omega
 have hl : lenOfV v'=some (L.length + 1):=by rw [r1.len]; simp
 simp only [vms,vmc,vA,vB,reduceCtorEq,vC,vD,load_at g1 (show [a,v',c][1]?=some v' from rfl)]
 refine Gives.bind ((len_ok (k.env _ (by decide)) (k.at rfl) hl).mono ?_)
 rintro _ _ ⟨rfl,rfl⟩
 rename_i h1
 have e1 : IntKind.i64.wrap (((L.length + 1 : Nat) : Int) - 1)=((L.length : Nat) : Int):=by rw [wrap_i64 (by omega) (by omega)]; omega
 simp only [vms,vmc,vA,vB,reduceCtorEq,vC,vD,e1]
 rcases r1 with ⟨rfl,hnil⟩ | ⟨o,cap,rfl,arr⟩
 ·simp at hnil
 ·refine Gives.bind ((up_ok k ⟨a,c,g1⟩ (fun e => hne1 o (by simp [objs]) e.symm) arr rfl (by simp; omega) (show L.length < (L ++ [x]).length by simp) (hp.push x)).mono ?_)
  rintro _ h2 ⟨L',u,a2,hp2,perm2⟩
  simp only [vms,vmc,vA,vB,reduceCtorEq,vC,vD]
  have hlen : L'.length=(L ++ [x]).length:=perm2.length_eq
  refine ⟨L',_,(u.2 p (fun e => hne1 o (by simp [objs]) e.symm)).trans g1,.inr ⟨o,cap,by rw [hlen],a2⟩,hp2,perm2.trans (List.perm_append_singleton x L),ho1,hne1,?_,low1.upd u (ho2 o (by simp [objs]))⟩
  refine Only.trans on1 (u.only (F:=[o]) (.inl (by simp))) ?_
  intro q hq
  simp at hq; subst hq
  rcases ho1 q (by simp [objs]) with h3 | h3
  ·exact .inl (by simp [h3])
  ·exact .inr h3
end Go.Proofs.Ytagcnjhpdopkiaa
/- Pools of numbers that are free: Put,Take,New. -/
namespace Go.Proofs.Ytagcnjhpdopkiaa
open Go.Vm
open Go.Vm.AOpd renaming val → vA
open Nat renaming reduceEqDiff → vB,reduceAdd → vC,reduceBEq → vD
set_option linter.unusedSimpArgs false
set_option linter.unusedVariables false
variable {T : Vm.Prog} {h : AH}
def PoolTo (h : AH) (p : Nat) (most : Int) (v : AV) (mo : Nat) (L' : List Int) (h' : AH) : Prop :=
 ∃ v',Pool h' p most L' v' mo∧(∀ o∈objs v',o∈objs v∨h.next≤o)∧Only h h' (foot p v mo)∧Low h'
theorem Pool.low {p : Nat} {most : Int} {L : List Int} {v : AV} {mo : Nat} (k : Pool h p most L v mo) (hl : Low h) : ∀ o∈foot p v mo,o < h.next:=by
 intro o ho
 simp only [foot,List.mem_cons] at ho
 rcases ho with rfl | rfl | ho
 ·exact hl _ _ k.obj
 ·obtain ⟨K,h1,_⟩:=k.keys; exact hl _ _ h1
 ·rcases k.row with ⟨rfl,_⟩ | ⟨q,cap,rfl,l,hq,_⟩
  ·simp [objs] at ho
  ·simp [objs] at ho; subst ho; exact hl _ _ hq
theorem Pool.stays {h' : AH} {p : Nat} {most : Int} {L : List Int} {v : AV} {mo : Nat} (k : Pool h p most L v mo) (hl : Low h) (hx : Only h h' []) (hl' : Low h') : PoolTo h p most v mo L h' :=
 ⟨v,k.keep (fun o ho => hx.2 o (k.low hl o ho) (by simp)),fun o ho => .inl ho,⟨hx.1,fun q hq _ => hx.2 q hq (by simp)⟩,hl'⟩
theorem put_ok (k : Fits T) {p : Nat} {most : Int} {L : List Int} {v : AV} {mo : Nat} {n : Int} (hp : Pool h p most L v mo) (hl : Low h) (hs : L.length < 100000) :
  Gives T 60 [.ptr p 0,.int .i64 n] h fun r h' => (((n < 0∨n ≥ most∨n∈L)∧r = .bool false∧PoolTo h p most v mo L h')∨(¬ (n < 0∨n ≥ most∨n∈L)∧r = .bool true∧∃ L',L'.Perm (n :: L)∧PoolTo h p most v mo L' h')):=by
 refine gives_func (k.env _ (by decide)) (k.at (fn:=a60) rfl) rfl ?_
 have hmost : loadV h false 1 (.ptr p 0)=some (.int .i64 most):=load_at hp.obj rfl
 have nil0 : nilChkV (.ptr p 0)=some (.ptr p 0):=rfl
 have fa0 : fieldAddrV 0 (.ptr p 0)=some (.ptr p 0):=rfl
 have fa1 : fieldAddrV 1 (.ptr p 0)=some (.ptr p 1):=rfl
 have fa2 : fieldAddrV 2 (.ptr p 0)=some (.ptr p 2):=rfl
 simp only [a60,c60,vms,vmc,vA,vB,reduceCtorEq,vC,vD]
 by_cases h1 : n < 0
 ·have d1 : decide (n < 0)=true:=by simpa using h1
  simp only [d1,vms,vmc,vA,vB,reduceCtorEq,vC,vD]
  exact .inl ⟨.inl h1,trivial,hp.stays hl (Only.refl h []) hl⟩
 have d1 : decide (n < 0)=false:=by simpa using h1
 by_cases h2 : n ≥ most
 ·have d2 : decide (n ≥ most)=true:=by simpa using h2
  simp only [d1,vms,vmc,vA,vB,reduceCtorEq,vC,vD,nil0,fa0,hmost,d2]
  exact .inl ⟨.inr (.inl h2),trivial,hp.stays hl (Only.refl h []) hl⟩
 have d2 : decide (n ≥ most)=false:=by simpa using h2
 simp only [d1,vms,vmc,vA,vB,reduceCtorEq,vC,vD,nil0,fa0,hmost,d2]
 refine Gives.bind ((has_ok (k.env _ (by decide)) (k.at rfl) (n:=n) hp).mono ?_)
 rintro _ hA ⟨rfl,x,hx⟩
 have onA : Only h hA []:=by
  rcases hx with rfl | rfl
  ·exact Only.new (Only.refl h _) _
  ·exact Only.set (Only.new (Only.refl h _) _) (.inr (Nat.le_refl _)) _
 have lowA : Low hA:=by
  rcases hx with rfl | rfl
  ·exact hl.new _
  ·exact (hl.new _).set (by rw [next_new]; omega) _
 have hpA : Pool hA p most L v mo:=hp.keep fun o ho => onA.2 o (hp.low hl o ho) (by simp)
 by_cases h3 : n∈L
 ·have d3 : decide (n∈L)=true:=by simpa using h3
  simp only [d3,vms,vmc,vA,vB,reduceCtorEq,vC,vD]
  exact .inl ⟨.inr (.inr h3),trivial,hp.stays hl onA lowA⟩
 have d3 : decide (n∈L)=false:=by simpa using h3
 obtain ⟨K,hK,hperm⟩:=hpA.keys
 have hmap : loadV hA false 1 (.ptr p 2)=some (.map mo):=load_at hpA.obj rfl
 have hupd : mapUpdV hA 0 (.map mo) (.int .i64 n) (.agg [])=some (hA.set mo (.map (keysM (K ++ [n])))):=by
  simp only [mapUpdV,hK]
  rw [find_out K 0 (fun e => h3 (hperm.mem_iff.1 e))]
  simp [keysM]
 have hfill : fillV [] []=some []:=rfl
 simp only [d3,vms,vmc,vA,vB,reduceCtorEq,vC,vD,nil0,fa1,fa2,hmap,hfill,hupd]
 have onB : Only h (hA.set mo (.map (keysM (K ++ [n])))) (foot p v mo):=Only.set ⟨onA.1,fun q hq _ => onA.2 q hq (by simp)⟩ (.inl (by simp [foot])) _
 have molt : mo < hA.next:=lowA _ _ hK
 have lowB : Low (hA.set mo (.map (keysM (K ++ [n])))):=lowA.set molt _
 have hgB : (hA.set mo (.map (keysM (K ++ [n])))).get p=some (.cells [.int .i64 most,v,.map mo] true):=by rw [AH.get_set,if_neg (Ne.symm hpA.ne)]; exact hpA.obj
 have rB : RowV (hA.set mo (.map (keysM (K ++ [n])))) v L:=hpA.row.keep fun o ho => by rw [AH.get_set,if_neg (Ne.symm (hpA.apart o ho).2)]
 refine Gives.bind ((hpush_ok k (x:=n) lowB hgB rB hp.hp hs (fun o ho => (hp.apart o ho).1)).mono ?_)
 rintro _ hC ⟨L',v',gC,rC,hpC,permC,hoC,hneC,onC,lowC⟩
 simp only [vms,vmc,vA,vB,reduceCtorEq,vC,vD]
 have hmoC : hC.get mo=some (.map (keysM (K ++ [n]))):=by
  rw [onC.2 mo (by rw [next_set]; exact molt) (by
   simp only [List.mem_cons,not_or]
   exact ⟨Ne.symm hpA.ne,fun ho => (hp.apart mo ho).2 rfl⟩),get_set_same]
 have hvC : ∀ o∈objs v',o≠mo:=by
  intro o ho e
  subst e
  rcases hoC o ho with h4 | h4
  ·exact (hp.apart o h4).2 rfl
  ·rw [next_set] at h4; omega
 refine .inr ⟨by simp [h1,h2,h3],trivial,L',permC,v',⟨gC,⟨_,hmoC,?_⟩,rC,hpC,?_,hp.ne,fun o ho => ⟨hneC o ho,hvC o ho⟩,?_⟩,?_,?_,lowC⟩
 ·exact (List.perm_append_singleton n K).trans ((hperm.cons n).trans permC.symm)
 ·exact permC.nodup_iff.2 (List.nodup_cons.2 ⟨h3,hp.nodup⟩)
 ·intro y hy
  rcases List.mem_cons.1 (permC.mem_iff.1 hy) with rfl | h4
  ·omega
  ·exact hp.range y h4
 ·intro o ho
  rcases hoC o ho with h4 | h4
  ·exact .inl h4
  ·right; rw [next_set] at h4; have:=onA.1; omega
 ·refine onB.trans onC ?_
  intro o ho
  simp only [List.mem_cons] at ho
  left
  simp only [foot,List.mem_cons]
  rcases ho with rfl | ho
  ·exact .inl rfl
  ·exact .inr (.inr ho)
theorem pop_ok (k : Fits T) {p o cap m : Nat} {a c : AV} {L : List Int} (hg : h.get p=some (.cells [a,.slice o 0 1 (m + 1) cap false,c] true)) (arr : Arr h o cap L) (hm : L.length=m + 1) (hs : m < 1000000) (hne : p≠o) :
  Gives T 122 [.ptr p 1] h fun r h' => r = .iface 3 (.int .i64 (at0 L m))∧h'=h.set p (.cells [a,.slice o 0 1 m cap false,c] true):=by
 refine gives_func (k.env _ (by decide)) (k.at (fn:=a122) rfl) rfl ?_
 have hmc : m≤cap:=by obtain ⟨l,_,_,h3,_⟩:=arr; omega
 have e1 : IntKind.i64.wrap (((m + 1 : Nat) : Int) - 1)=((m : Nat) : Int):=by rw [wrap_i64 (by omega) (by omega)]; omega
 have hst : storeV h 1 (.ptr p 1) (.slice o 0 1 m cap false)=some (h.set p (.cells [a,.slice o 0 1 m cap false,c] true)):=store_cell1 hg rfl rfl
 simp only [a122,c122,vms,vmc,vA,vB,reduceCtorEq,vC,vD,show nilChkV (.ptr p 1)=some (.ptr p 1) from rfl,load_at hg (show [a,AV.slice o 0 1 (m + 1) cap false,c][1]?=some (.slice o 0 1 (m + 1) cap false) from rfl),e1,idx_nat (show m < m + 1 by omega),Nat.zero_add,arr.load (show m < L.length by omega),slc_to0 hmc,hst]
 exact ⟨trivial,trivial⟩
theorem hpop_ok (k : Fits T) {p o cap m : Nat} {a c : AV} {L : List Int} (hlow : Low h) (hg : h.get p=some (.cells [a,.slice o 0 1 (m + 1) cap false,c] true)) (arr : Arr h o cap L) (hm : L.length=m + 1) (hs : m < 100000) (hne : p≠o) (hp : HP L) :
  Gives T 90 [.iface 161 (.ptr p 1)] h fun r h' => r = .iface 3 (.int .i64 (at0 L 0))∧∃ L',h'.get p=some (.cells [a,.slice o 0 1 m cap false,c] true)∧Arr h' o cap L'∧L'.length=m∧HP L'∧(at0 L 0 :: L').Perm L∧h'.next=h.next∧(∀ q,q≠p→q≠o→h'.get q=h.get q)∧Low h':=by
 refine gives_func (k.env _ (by decide)) (k.at (fn:=a90) rfl) rfl ?_
 have hv : loadV h false 1 (.ptr p 1)=some (.slice o 0 1 (m + 1) cap false):=load_at hg rfl
 have hol : o < h.next:=by obtain ⟨l,hq,_⟩:=arr; exact hlow _ _ hq
 have hpl : p < h.next:=hlow _ _ hg
 have e1 : IntKind.i64.wrap (((m + 1 : Nat) : Int) - 1)=((m : Nat) : Int):=by rw [wrap_i64 (by omega) (by omega)]; omega
 simp only [a90,c90,vms,vmc,vA,vB,reduceCtorEq,vC,vD,hv]
 refine Gives.bind ((len_ok (k.env _ (by decide)) (k.at rfl) (show lenOfV (.slice o 0 1 (m + 1) cap false)=some (m + 1) from rfl)).mono ?_)
 rintro _ _ ⟨rfl,rfl⟩
 rename_i h
 simp only [vms,vmc,vA,vB,reduceCtorEq,vC,vD,e1,hv]
 refine Gives.bind ((swap_ok (k.env _ (by decide)) (k.at rfl) arr hm.symm (show 0 < m + 1 by omega) (show m < m + 1 by omega)).mono ?_)
 rintro _ h1 ⟨u1,a1⟩
 have hg1 : h1.get p=some (.cells [a,.slice o 0 1 (m + 1) cap false,c] true):=(u1.2 p hne).trans hg
 simp only [vms,vmc,vA,vB,reduceCtorEq,vC,vD]
 refine Gives.bind ((down_ok k (n:=m + 1) ⟨a,c,hg1⟩ hne a1 (by rw [swp_len]; exact hm.symm) (by omega) (show m≤m + 1 by omega) (hp.toTop hm)).mono ?_)
 rintro _ h2 ⟨L2,u2,a2,hl2,hp2,perm2,hout2⟩
 have hg2 : h2.get p=some (.cells [a,.slice o 0 1 (m + 1) cap false,c] true):=(u2.2 p hne).trans hg1
 simp only [vms,vmc,vA,vB,reduceCtorEq,vC,vD]
 refine Gives.bind ((pop_ok k hg2 a2 hl2 (by omega) hne).mono ?_)
 rintro _ _ ⟨rfl,rfl⟩
 have hx : at0 L2 m=at0 L 0:=by
  rw [hout2 m (Nat.le_refl _),swp_get (by omega) (by omega),if_pos rfl]
 have u:=u1.trans u2
 simp only [vms,vmc,vA,vB,reduceCtorEq,vC,vD,hx]
 refine ⟨trivial,L2.take m,get_set_same,?_,by simp; omega,hp2,?_,by rw [next_set]; exact u.1,?_,(hlow.upd u hol).set (by rw [u.1]; exact hpl) _⟩
 ·obtain ⟨l,hq,h3⟩:=a2.take m
  exact ⟨l,by rw [AH.get_set,if_neg hne]; exact hq,h3⟩
 ·have h5 : L2=L2.take m ++ [at0 L2 m]:=by
   have h7 : L2.take (m + 1)=L2.take m ++ [at0 L2 m]:=by
    rw [List.take_add_one,at0_some (show m < L2.length by omega)]; rfl
   rw [List.take_of_length_le (by omega)] at h7
   exact h7
  rw [← hx]
  refine List.Perm.trans ?_ (perm2.trans (swp_perm (by omega) (by omega)))
  conv => rhs; rw [h5]
  exact (List.perm_append_singleton _ _).symm
 ·intro q h6 h7
  rw [AH.get_set,if_neg (Ne.symm h6)]
  exact u.2 q h7
theorem take_ok (k : Fits T) {p : Nat} {most : Int} {L : List Int} {v : AV} {mo : Nat} (hp : Pool h p most L v mo) (hl : Low h) (hs : L.length < 100000) :
  Gives T 63 [.ptr p 0] h fun r h' => (L=[]∧r = .tuple [.int .i64 0,.bool false]∧PoolTo h p most v mo L h')∨(∃ x L',r = .tuple [.int .i64 x,.bool true]∧(x :: L').Perm L∧(∀ y∈L,x≤y)∧PoolTo h p most v mo L' h'):=by
 refine gives_func (k.env _ (by decide)) (k.at (fn:=a63) rfl) rfl ?_
 have nil0 : nilChkV (.ptr p 0)=some (.ptr p 0):=rfl
 have fa1 : fieldAddrV 1 (.ptr p 0)=some (.ptr p 1):=rfl
 have fa2 : fieldAddrV 2 (.ptr p 0)=some (.ptr p 2):=rfl
 simp only [a63,c63,vms,vmc,vA,vB,reduceCtorEq,vC,vD,nil0,fa1,hp.named.load,hp.row.len]
 by_cases he : L=[]
 ·subst he
  have d : (((([] : List Int).length : Nat) : Int) == 0)=true:=rfl
  simp only [d,vms,vmc,vA,vB,reduceCtorEq,vC,vD]
  exact .inl ⟨trivial,trivial,hp.stays hl (Only.refl h []) hl⟩
 ·have d : (((L.length : Nat) : Int) == 0)=false:=by
   rw [beq_eq_false_iff_ne]
   have : L.length≠0:=fun e => he (List.eq_nil_of_length_eq_zero e)
   omega
  simp only [d,vms,vmc,vA,vB,reduceCtorEq,vC,vD,nil0,fa1]
  rcases hp.row with ⟨rfl,hnil⟩ | ⟨o,cap,rfl,arr⟩
  ·exact absurd hnil he
  ·obtain ⟨m,hm⟩ : ∃ m,L.length=m + 1:=⟨L.length - 1,by have : L.length≠0:=fun e => he (List.eq_nil_of_length_eq_zero e); omega⟩
   have hg:=hp.obj
   rw [hm] at hg
   have hne : p≠o:=fun e => (hp.apart o (by simp [objs])).1 e.symm
   have hmo : mo≠o:=fun e => (hp.apart o (by simp [objs])).2 e.symm
   refine Gives.bind ((hpop_ok k hl hg arr hm (by omega) hne hp.hp).mono ?_)
   rintro _ h1 ⟨rfl,L',g1,a1,hl1,hp1,perm1,n1,oth1,low1⟩
   obtain ⟨K,hK,hperm⟩:=hp.keys
   have hK1 : h1.get mo=some (.map (keysM K)):=(oth1 mo (Ne.symm hp.ne) hmo).trans hK
   have hmem : at0 L 0∈K:=hperm.mem_iff.2 (perm1.mem_iff.1 (by simp))
   obtain ⟨j,hj1,hj2,hj3⟩:=find_in K 0 hmem
   have hdel : delV h1 0 (.map mo) (.int .i64 (at0 L 0))=some (h1.set mo (.map (keysM (K.eraseIdx j)))):=by
    simp only [delV,hK1,hj1,Option.map_some,Nat.zero_add]
    rw [keysM,map_erase]; rfl
   have hmap : loadV h1 false 1 (.ptr p 2)=some (.map mo):=load_at g1 rfl
   simp only [vms,vmc,vA,vB,reduceCtorEq,vC,vD,nil0,fa2,hmap,hdel]
   refine .inr ⟨at0 L 0,L',rfl,perm1,?_,.slice o 0 1 m cap false,⟨?_,⟨_,get_set_same,?_⟩,.inr ⟨o,cap,by rw [hl1],?_⟩,hp1,?_,hp.ne,?_,fun y hy => hp.range y (perm1.mem_iff.1 (List.mem_cons_of_mem _ hy))⟩,fun q hq => .inl hq,?_,low1.set (low1 _ _ hK1) _⟩
   ·intro y hy
    obtain ⟨i,hi⟩:=List.getElem?_of_mem hy
    have hil:=(List.getElem?_eq_some_iff.1 hi).1
    have:=hp.hp.root i hil
    rw [at0_of hi] at this; exact this
   ·rw [AH.get_set,if_neg (Ne.symm hp.ne)]; exact g1
   ·exact (List.Perm.cons_inv ((erase_perm hj3).trans (hperm.trans perm1.symm)))
   ·obtain ⟨l,hq,h3⟩:=a1
    exact ⟨l,by rw [AH.get_set,if_neg hmo]; exact hq,h3⟩
   ·exact (List.nodup_cons.1 (perm1.nodup_iff.2 hp.nodup)).2
   ·intro q hq; simp [objs] at hq; subst hq; exact ⟨Ne.symm hne,Ne.symm hmo⟩
   ·refine ⟨by rw [next_set,n1]; exact Nat.le_refl _,fun q hq hF => ?_⟩
    simp only [foot,objs,List.mem_cons,not_or] at hF
    rw [AH.get_set,if_neg (Ne.symm hF.2.1)]
    exact oth1 q hF.1 hF.2.2.1
theorem pnew_ok (k : Fits T) {most : Int} (hl : Low h) (h1 : 0≤most) (h2 : most≤65535) :
  Gives T 59 [.int .i64 most] h fun r h' => r = .tuple [.ptr (h.next + 1) 0,.int .i64 0]∧Pool h' (h.next + 1) most [] .nilSlice h.next∧Only h h' []∧Low h'∧h'.next=h.next + 2:=by
 refine gives_func (k.env _ (by decide)) (k.at (fn:=a59) rfl) rfl ?_
 have d1 : decide (most < 0)=false:=by simpa using h1
 have d2 : decide (most > 65535)=false:=by simpa using h2
 have hfill : fillV [AV.int .i64 0,.nilSlice,.nilMap] [(0,1,.int .i64 most),(2,1,.map h.next)]=some [.int .i64 most,.nilSlice,.map h.next]:=by simp [fillV,AV.isDef,AV.cells,setMany]
 simp only [a59,c59,vms,vmc,vA,vB,reduceCtorEq,vC,vD,d1,d2,hfill,box_agg,next_new]
 refine ⟨trivial,⟨?_,⟨[],?_,List.Perm.refl _⟩,.inl ⟨rfl,rfl⟩,fun i _ h => by simp at h,List.nodup_nil,by omega,fun o ho => (by simp [objs] at ho),fun y hy => (by simp at hy)⟩,((Only.refl h []).new _).new _,(hl.new _).new _,trivial⟩
 ·have:=get_new_same (h:=h.new (.map [])) (x := .cells [.int .i64 most,.nilSlice,.map h.next] true)
  rw [next_new] at this; exact this
 ·rw [AH.get_new,if_neg (by rw [next_new]; omega),get_new_same]; rfl
end Go.Proofs.Ytagcnjhpdopkiaa

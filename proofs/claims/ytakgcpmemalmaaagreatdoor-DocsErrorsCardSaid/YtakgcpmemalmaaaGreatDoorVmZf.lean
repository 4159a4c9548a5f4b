/- Rows of numbers, what is low, what alone is changed: generic facts of the machine's memory. -/
import Derived.Test.YtakgcpmemalmaaaGreatDoorVmZ
namespace Go.Vm
open Go.RowKit
set_option linter.unusedSimpArgs false
set_option linter.unusedVariables false
variable {T : Prog} {h : AH}
def Arr (h : AH) (o cap : Nat) (L : List Int) : Prop:=∃ l,h.get o=some (.cells l true)∧l.length=cap∧L.length≤cap∧∀ (i : Nat) (x : Int),L[i]?=some x→l[i]?=some (AV.int .i64 x)
def Upd (h h' : AH) (o : Nat) : Prop:=h'.next=h.next∧∀ q,q≠o→h'.get q=h.get q
theorem Upd.refl (h : AH) (o : Nat) : Upd h h o:=⟨rfl,fun _ _ => rfl⟩
theorem Upd.trans {a b c : AH} {o : Nat} (k : Upd a b o) (m : Upd b c o) : Upd a c o:=⟨m.1.trans k.1,fun q hq => (m.2 q hq).trans (k.2 q hq)⟩
theorem Upd.set {a b : AH} {o : Nat} (k : Upd a b o) (x : AObj) : Upd a (b.set o x) o:=⟨k.1,fun q hq => by rw [AH.get_set,if_neg (Ne.symm hq)]; exact k.2 q hq⟩
theorem wrap_i64n {n : Nat} (h : n < 9223372036854775808) : IntKind.i64.wrap (n : Int)=(n : Int):=wrap_nat_le (show n≤9223372036854775807 by omega)
theorem idx_nat {o off len cap i : Nat} {ex : Bool} {k : IntKind} (h : i < len) : idxAddrV 1 (.slice o off 1 len cap ex) (.int k (i : Int))=some (.ptr o (off + i)):=by
 simp [idxAddrV,h]
theorem Arr.load {o cap : Nat} {L : List Int} (a : Arr h o cap L) {i : Nat} (hi : i < L.length) : loadV h false 1 (.ptr o i)=some (.int .i64 (at0 L i)):=by
 obtain ⟨l,hg,h1,h2,h3⟩:=a
 exact load_at hg (h3 i _ (at0_some hi))
theorem Arr.store {o cap : Nat} {L : List Int} (a : Arr h o cap L) {i : Nat} (hi : i < L.length) (x : Int) : ∃ h',storeV h 1 (.ptr o i) (.int .i64 x)=some h'∧Upd h h' o∧Arr h' o cap (L.set i x):=by
 obtain ⟨l,hg,h1,h2,h3⟩:=a
 refine ⟨_,store_int hg (by omega),(Upd.refl h o).set _,_,get_set_same,by simp [h1],by simpa using h2,?_⟩
 intro j y hj
 rw [List.getElem?_set] at hj ⊢
 by_cases e : i=j
 ·subst e
  rw [if_pos rfl,if_pos hi] at hj
  rw [if_pos rfl,if_pos (by omega)]
  cases hj; rfl
 ·rw [if_neg e] at hj ⊢; exact h3 j y hj
def objs : AV→List Nat
 | .slice o _ _ _ _ _ => [o]
 | _ => []
def RowV (h : AH) (v : AV) (L : List Int) : Prop:=(v = .nilSlice∧L=[])∨∃ o cap,v = .slice o 0 1 L.length cap false∧Arr h o cap L
def Only (h h' : AH) (F : List Nat) : Prop:=h.next≤h'.next∧∀ q,q < h.next→q∉F→h'.get q=h.get q
theorem Only.refl (h : AH) (F : List Nat) : Only h h F:=⟨Nat.le_refl _,fun _ _ _ => rfl⟩
theorem Only.trans {a b c : AH} {F G : List Nat} (k : Only a b F) (m : Only b c G) (hG : ∀ o∈G,o∈F∨a.next≤o) : Only a c F :=
 ⟨Nat.le_trans k.1 m.1,fun q hq hF => (m.2 q (Nat.lt_of_lt_of_le hq k.1) fun hg => (hG q hg).elim hF (by omega)).trans (k.2 q hq hF)⟩
theorem Upd.only {h' : AH} {o : Nat} {F : List Nat} (u : Upd h h' o) (ho : o∈F∨h.next≤o) : Only h h' F :=
 ⟨by rw [u.1]; exact Nat.le_refl _,fun q hq hF => u.2 q fun e => by subst e; exact ho.elim hF (by omega)⟩
theorem Only.set {h' : AH} {F : List Nat} (k : Only h h' F) {o : Nat} (ho : o∈F∨h.next≤o) (x : AObj) : Only h (h'.set o x) F :=
 ⟨k.1,fun q hq hF => by rw [AH.get_set,if_neg (fun e => by subst e; exact ho.elim hF (by omega))]; exact k.2 q hq hF⟩
theorem Only.new {h' : AH} {F : List Nat} (k : Only h h' F) (x : AObj) : Only h (h'.new x) F :=
 ⟨by rw [next_new]; have:=k.1; omega,fun q hq hF => by rw [AH.get_new,if_neg (by have:=k.1; omega)]; exact k.2 q hq hF⟩
def Low (h : AH) : Prop:=∀ o x,h.get o=some x→o < h.next
theorem Low.new (k : Low h) (x : AObj) : Low (h.new x):=by
 intro o y hy
 rw [AH.get_new] at hy
 split at hy
 ·rename_i e; rw [next_new]; omega
 ·have:=k o y hy; rw [next_new]; omega
theorem Low.set (k : Low h) {o : Nat} (ho : o < h.next) (x : AObj) : Low (h.set o x):=by
 intro p y hy
 rw [AH.get_set] at hy
 split at hy
 ·rename_i e; rw [next_set]; omega
 ·exact k p y hy
theorem Low.upd {h' : AH} {o : Nat} (k : Low h) (u : Upd h h' o) (ho : o < h.next) : Low h':=by
 intro p y hy
 rw [u.1]
 by_cases e : p=o
 ·omega
 ·rw [u.2 p e] at hy; exact k p y hy
def keysM (K : List Int) : List (AV×AV):=K.map fun x => (.int .i64 x,.agg [])
theorem find_out {n : Int} : ∀ (K : List Int) (i : Nat),n∉K→findV 0 (.int .i64 n) (keysM K) i=some none
 | [],_,_ => rfl
 | a :: K,i,h => by
  have e : (n == a)=false:=by
   have : n≠a:=fun e => h (by simp [e])
   simpa using this
  have hm : n∉K:=fun e => h (by simp [e])
  simp only [keysM,List.map_cons,findV,keyEq,if_true,e]
  exact find_out K (i + 1) hm
theorem RowV.len {v : AV} {L : List Int} (r : RowV h v L) : lenOfV v=some L.length:=by
 rcases r with ⟨rfl,rfl⟩ | ⟨o,cap,rfl,_⟩ <;> rfl
theorem RowV.keep {h' : AH} {v : AV} {L : List Int} (r : RowV h v L) (hk : ∀ o∈objs v,h'.get o=h.get o) : RowV h' v L:=by
 rcases r with ⟨rfl,rfl⟩ | ⟨o,cap,rfl,l,hg,h1⟩
 ·exact .inl ⟨rfl,rfl⟩
 ·exact .inr ⟨o,cap,rfl,l,(hk o (by simp [objs])).trans hg,h1⟩
theorem slc_to0 {o len cap n : Nat} {ex : Bool} (hn : n≤cap) : slcV 1 (.slice o 0 1 len cap ex) none (some (.int .i64 (n : Int))) none=some (.slice o 0 1 n cap ex):=by
 simp [slcV,bounds,boundM,boundH,boundL,natOf,hn,Option.filter]
theorem Arr.take {o cap : Nat} {L : List Int} (a : Arr h o cap L) (n : Nat) : Arr h o cap (L.take n):=by
 obtain ⟨l,hg,h1,h2,h3⟩:=a
 refine ⟨l,hg,h1,by simp; omega,fun i x hx => h3 i x ?_⟩
 rw [List.getElem?_take] at hx
 split at hx
 ·exact hx
 ·cases hx
theorem store_cell1 {p : Nat} {a v c v' : AV} (hg : h.get p=some (.cells [a,v,c] true)) (hc : v'.cells=[v']) (hf : v'.flat=true) : storeV h 1 (.ptr p 1) v'=some (h.set p (.cells [a,v',c] true)):=store_at hg (by simp) hc hf
def _root_.Go.Vm.AObj.of (l : List AV) : Option Bool→AObj
 | some b => .cells l b
 | none => .marked l
theorem load_of {o i n : Nat} {l : List AV} {r : Option Bool} (hg : h.get o=some (AObj.of l r)) : h.load o i n=if i + n≤l.length then some ((l.drop i).take n) else none:=by
 cases r <;> simp only [AObj.of] at hg <;> simp only [AH.load,hg]
theorem load_atO {o i : Nat} {l : List AV} {r : Option Bool} {v : AV} (hg : h.get o=some (AObj.of l r)) (hl : l[i]?=some v) : loadV h false 1 (.ptr o i)=some v:=by
 have hi : i < l.length:=by
  rcases Nat.lt_or_ge i l.length with h' | h'
  ·exact h'
  ·rw [List.getElem?_eq_none h'] at hl; cases hl
 simp only [loadV,load_of hg,Bool.false_eq_true,if_false]
 rw [if_pos (by omega),List.drop_eq_getElem_cons hi]
 rw [List.getElem?_eq_getElem hi] at hl
 simp only [Option.some.injEq] at hl
 simp [hl]
def Sees (h : AH) (v : AV) (xs : List AV) : Prop :=
 (v = .nilSlice∧xs=[])∨∃ o off cap ex l,∃ rw : Option Bool,v = .slice o off 1 xs.length cap ex∧h.get o=some (AObj.of l rw)∧off + xs.length≤l.length∧∀ i x,xs[i]?=some x→l[off + i]?=some x
theorem Sees.len {v : AV} {xs : List AV} (s : Sees h v xs) : lenOfV v=some xs.length:=by
 rcases s with ⟨rfl,rfl⟩ | ⟨o,off,cap,ex,l,rw,rfl,_⟩ <;> rfl
theorem Sees.at {v : AV} {xs : List AV} (s : Sees h v xs) {i : Nat} {x : AV} (hx : xs[i]?=some x) (k : IntKind) : ∃ a,idxAddrV 1 v (.int k (i : Int))=some a∧loadV h false 1 a=some x:=by
 have hi : i < xs.length:=by
  rcases Nat.lt_or_ge i xs.length with h' | h'
  ·exact h'
  ·rw [List.getElem?_eq_none h'] at hx; cases hx
 rcases s with ⟨rfl,rfl⟩ | ⟨o,off,cap,ex,l,rw,rfl,hg,hll,hc⟩
 ·simp at hi
 ·refine ⟨.ptr o (off + i),by simp [idxAddrV,hi],?_⟩
  have:=hc i x hx
  have hlt : off + i < l.length:=by
   rcases Nat.lt_or_ge (off + i) l.length with h' | h'
   ·exact h'
   ·rw [List.getElem?_eq_none h'] at this; cases this
  simp only [loadV,load_of hg,Bool.false_eq_true,if_false]
  rw [if_pos (by omega),List.drop_eq_getElem_cons hlt]
  rw [List.getElem?_eq_getElem hlt] at this
  simp only [Option.some.injEq] at this
  simp [this]
theorem rep_one (v : AV) (n : Nat) : rep [v] n=List.replicate n v:=by
 induction n with
 | zero => rfl
 | succ n ih => simp only [rep,ih,List.replicate_succ]; rfl
theorem mkSlice_nat {h : AH} {sz bytes l c : Nat} {zero : List AV} {k k' : IntKind} (h1 : l≤c) (h2 : c≤9223372036854775807) (h3 : bytes * c≤281474976710656) :
  mkSliceV h sz bytes zero (.int k (l : Int)) (.int k' (c : Int))=some (.slice h.next 0 sz l c true,h.new (.cells (rep zero c) true)):=by
 unfold mkSliceV
 rw [natOf_cast,natOf_cast]
 simp only
 rw [if_pos ⟨h1,h2,h3⟩]
theorem wrap_u64 {n : Nat} (h : n < 18446744073709551616) : IntKind.u64.wrap (n : Int)=(n : Int):=wrap_nat_le (show n≤18446744073709551615 by omega)
theorem setMany_get (l : List AV) : ∀ (xs : List AV) (i : Nat),(setMany l i xs).length=l.length∧(i + xs.length≤l.length→(∀ j,j < i→(setMany l i xs)[j]?=l[j]?)∧(∀ j x,xs[j]?=some x→(setMany l i xs)[i + j]?=some x)∧∀ j,i + xs.length≤j→(setMany l i xs)[j]?=l[j]?):=by
 intro xs
 induction xs generalizing l with
 | nil => intro i; exact ⟨rfl,fun _ => ⟨fun _ _ => rfl,fun j x h => (by cases h),fun _ _ => rfl⟩⟩
 | cons a xs ih =>
  intro i
  obtain ⟨h1,h2⟩:=ih (l.set i a) (i + 1)
  refine ⟨by rw [setMany,h1]; simp,fun hl => ?_⟩
  simp only [List.length_cons] at hl
  obtain ⟨h3,h4,h5⟩:=h2 (by simp; omega)
  refine ⟨fun j hj => ?_,fun j x hx => ?_,fun j hj => ?_⟩
  ·rw [setMany,h3 j (by omega),List.getElem?_set,if_neg (by omega)]
  ·cases j with
   | zero =>
    simp only [List.getElem?_cons_zero,Option.some.injEq] at hx
    subst hx
    rw [setMany,show i + 0=i from rfl,h3 i (by omega),List.getElem?_set,if_pos rfl,if_pos (by omega)]
   | succ j =>
    rw [setMany,show i + (j + 1)=i + 1 + j by omega]
    exact h4 j x (by simpa using hx)
  ·simp only [List.length_cons] at hj
   rw [setMany,h5 j (by omega),List.getElem?_set,if_neg (by omega)]
theorem slc_from {o len cap n : Nat} {ex : Bool} (hn : n≤len) (hc : n < cap) : slcV 1 (.slice o 0 1 len cap ex) (some (.int .i64 (n : Int))) none none =
  some (.slice o n 1 (len - n) (cap - n) ex):=by
 have : ¬ cap=n:=by omega
 simp [slcV,bounds,boundM,boundH,boundL,natOf,hn,show n≤cap by omega,Option.filter,this]
theorem idxRow_nat {o off n i : Nat} {k : IntKind} (hi : i < n) : idxRowV n 1 (.ptr o off) (.int k (i : Int))=some (.ptr o (off + i)):=by
 simp [idxRowV,hi]
def izs (l : List Int) : List AV:=l.map (.int .i64)
end Go.Vm
/- Resources of the memory,and what actions leave of them; rows of elements of several cells. -/
namespace Go.Vm
open Go.RowKit
set_option linter.unusedSimpArgs false
set_option linter.unusedVariables false
variable {T : Prog} {h : AH}
def Mods (h h' : AH) (F : Nat→Prop) : Prop:=h.next≤h'.next∧∀ o,o < h.next→¬ F o→h'.get o=h.get o
theorem Mods.refl (h : AH) (F : Nat→Prop) : Mods h h F:=⟨Nat.le_refl _,fun _ _ _ => rfl⟩
theorem Mods.trans {a b c : AH} {F G : Nat→Prop} (k : Mods a b F) (m : Mods b c G) (hG : ∀ o,G o→F o∨a.next≤o) : Mods a c F :=
 ⟨Nat.le_trans k.1 m.1,fun o ho hF => by
  rw [m.2 o (Nat.lt_of_lt_of_le ho k.1) (fun g => by exact (hG o g).elim hF (by omega))]
  exact k.2 o ho hF⟩
theorem Mods.mono {h h' : AH} {F G : Nat→Prop} (m : Mods h h' F) (hG : ∀ o,F o→G o∨h.next≤o) : Mods h h' G :=
 ⟨m.1,fun o ho hg => m.2 o ho fun hf => by exact (hG o hf).elim hg (by omega)⟩
theorem Only.mods {h h' : AH} {F : List Nat} (k : Only h h' F) {G : Nat→Prop} (hG : ∀ o∈F,G o∨h.next≤o) : Mods h h' G :=
 ⟨k.1,fun o ho hg => k.2 o ho fun hf => by exact (hG o hf).elim hg (by omega)⟩
theorem Mods.set {h h' : AH} {F : Nat→Prop} (k : Mods h h' F) {o : Nat} (ho : F o∨h.next≤o) (x : AObj) : Mods h (h'.set o x) F :=
 ⟨k.1,fun q hq hF => by
  rw [AH.get_set,if_neg (fun e => by subst e; exact ho.elim hF (by omega))]
  exact k.2 q hq hF⟩
theorem Mods.new {h h' : AH} {F : Nat→Prop} (k : Mods h h' F) (x : AObj) : Mods h (h'.new x) F :=
 ⟨by have:=k.1; rw [next_new]; omega,fun q hq hF => by rw [AH.get_new,if_neg (by have:=k.1; omega)]; exact k.2 q hq hF⟩
structure Res (φ : AH→Prop) (F : Nat→Prop) (h : AH) : Prop where
 low : ∀ o,F o→o < h.next
 loc : ∀ h',h.next≤h'.next→(∀ o,F o→h'.get o=h.get o)→φ h'
theorem Res.holds {φ : AH→Prop} {F : Nat→Prop} (r : Res φ F h) : φ h:=r.loc h (Nat.le_refl _) fun _ _ => rfl
theorem Res.frame {φ : AH→Prop} {F G : Nat→Prop} {h' : AH} (r : Res φ F h) (m : Mods h h' G) (d : ∀ o,F o→¬ G o) : Res φ F h' :=
 ⟨fun o ho => Nat.lt_of_lt_of_le (r.low o ho) m.1,fun h2 h3 h4 => r.loc h2 (Nat.le_trans m.1 h3) fun o ho => (h4 o ho).trans (m.2 o (r.low o ho) (d o ho))⟩
structure Acts (h : AH) (F : Nat→Prop) (h' : AH) (F' : Nat→Prop) : Prop where
 mods : Mods h h' F
 grow : ∀ o,F' o→F o∨h.next≤o
 low : Low h'
theorem Acts.trans {a b c : AH} {F G H : Nat→Prop} (k : Acts a F b G) (m : Acts b G c H) : Acts a F c H :=
 ⟨k.mods.trans m.mods k.grow,fun o ho => by
  rcases m.grow o ho with h1 | h1
  ·exact k.grow o h1
  ·right; have:=k.mods.1; omega,m.low⟩
theorem Acts.refl {F : Nat→Prop} (hl : Low h) : Acts h F h F:=⟨Mods.refl _ _,fun _ ho => .inl ho,hl⟩
theorem Acts.same {F : Nat→Prop} {h' : AH} (m : Mods h h' F) (hl : Low h') : Acts h F h' F:=⟨m,fun _ ho => .inl ho,hl⟩
def Quiet (h h' : AH) : Prop:=Mods h h' (fun _ => False)
theorem Quiet.refl (h : AH) : Quiet h h:=Mods.refl _ _
theorem Quiet.trans {a b c : AH} (k : Quiet a b) (m : Quiet b c) : Quiet a c:=Mods.trans k m fun _ h => h.elim
theorem Quiet.new {h h' : AH} (k : Quiet h h') (x : AObj) : Quiet h (h'.new x):=Mods.new k x
theorem Quiet.set {h h' : AH} (k : Quiet h h') {o : Nat} (ho : h.next≤o) (x : AObj) : Quiet h (h'.set o x):=Mods.set k (.inr ho) x
theorem Quiet.mods {h h' : AH} (k : Quiet h h') (F : Nat→Prop) : Mods h h' F:=Mods.mono k fun _ h => h.elim
theorem Only.quiet {h h' : AH} (k : Only h h' []) : Quiet h h':=k.mods fun o ho => by simp at ho
theorem Res.quiet {φ : AH→Prop} {F : Nat→Prop} {h' : AH} (r : Res φ F h) (k : Quiet h h') : Res φ F h':=r.frame k fun _ _ h => h
theorem res_obj {o : Nat} {x : AObj} (hl : Low h) (hg : h.get o=some x) : Res (fun h => h.get o=some x) (fun p => p=o) h :=
 ⟨fun p hp => by subst hp; exact hl _ _ hg,fun h' _ hk => (hk o rfl).trans hg⟩
theorem res_true : Res (fun _ => True) (fun _ => False) h:=⟨fun _ h => h.elim,fun _ _ _ => trivial⟩
def RowS (h : AH) (sz : Nat) (v : AV) (xs : List (List AV)) : Prop :=
 (v = .nilSlice∧xs=[])∨∃ o cap ex l,v = .slice o 0 sz xs.length cap ex∧h.get o=some (.cells l true)∧l.length=cap * sz∧xs.length≤cap∧∀ i x,xs[i]?=some x→x.length=sz∧∀ j y,x[j]?=some y→l[i * sz + j]?=some y
theorem RowS.len {v : AV} {sz : Nat} {xs : List (List AV)} (r : RowS h sz v xs) : lenOfV v=some xs.length:=by
 rcases r with ⟨rfl,rfl⟩ | ⟨o,cap,ex,l,rfl,_⟩ <;> rfl
theorem RowS.keep {h' : AH} {v : AV} {sz : Nat} {xs : List (List AV)} (r : RowS h sz v xs) (hk : ∀ o∈objs v,h'.get o=h.get o) : RowS h' sz v xs:=by
 rcases r with ⟨rfl,rfl⟩ | ⟨o,cap,ex,l,rfl,hg,h1⟩
 ·exact .inl ⟨rfl,rfl⟩
 ·exact .inr ⟨o,cap,ex,l,rfl,(hk o (by simp [objs])).trans hg,h1⟩
theorem RowS.low {v : AV} {sz : Nat} {xs : List (List AV)} (r : RowS h sz v xs) (hl : Low h) : ∀ o∈objs v,o < h.next:=by
 rcases r with ⟨rfl,rfl⟩ | ⟨o,cap,ex,l,rfl,hg,h1⟩
 ·intro o ho; simp [objs] at ho
 ·intro p hp; simp [objs] at hp; subst hp; exact hl _ _ hg
theorem RowS.cell {v : AV} {sz : Nat} {xs : List (List AV)} (r : RowS h sz v xs) : v.cells=[v]∧v.flat=true∧AV.beq v v=true:=by
 rcases r with ⟨rfl,rfl⟩ | ⟨o,cap,ex,l,rfl,_⟩
 ·exact ⟨rfl,rfl,by simp [AV.beq]⟩
 ·exact ⟨rfl,rfl,by simp [AV.beq]⟩
theorem RowS.same {v : AV} {sz : Nat} {xs ys : List (List AV)} (r : RowS h sz v xs) (e : xs=ys) : RowS h sz v ys:=e ▸ r
theorem RowS.at {v : AV} {sz : Nat} {xs : List (List AV)} (r : RowS h sz v xs) {i : Nat} {x : List AV} (hx : xs[i]?=some x) : ∃ o,objs v=[o]∧idxAddrV sz v (.int .i64 (i : Int))=some (.ptr o (i * sz))∧(∀ j y,x[j]?=some y→loadV h false 1 (.ptr o (i * sz + j))=some y) ∧
  ∀ j y,j < sz→y.cells=[y]→y.flat=true→∃ h',storeV h 1 (.ptr o (i * sz + j)) y=some h'∧Upd h h' o∧RowS h' sz v (xs.set i (x.set j y)):=by
 rcases r with ⟨rfl,rfl⟩ | ⟨o,cap,ex,l,rfl,hg,h1,h2,h3⟩
 ·simp at hx
 ·have hi:=(List.getElem?_eq_some_iff.1 hx).1
  refine ⟨o,rfl,by simp [idxAddrV,hi],fun j y hy => load_at hg ((h3 i x hx).2 j y hy),fun j y hj hc hf => ?_⟩
  have hb : i * sz + j < l.length:=by
   have : (i + 1) * sz≤cap * sz:=Nat.mul_le_mul_right sz (by omega)
   rw [Nat.add_mul,Nat.one_mul] at this; omega
  refine ⟨_,store_at hg hb hc hf,(Upd.refl h o).set _,.inr ⟨o,cap,ex,_,by simp,get_set_same,by simpa using h1,by simpa using h2,?_⟩⟩
  intro i' x' hx'
  rw [List.getElem?_set] at hx'
  by_cases e : i=i'
  ·subst e
   rw [if_pos rfl,if_pos hi] at hx'
   cases hx'
   obtain ⟨g1,g2⟩:=h3 i x hx
   refine ⟨by simpa using g1,fun j' y' hy' => ?_⟩
   rw [List.getElem?_set] at hy' ⊢
   by_cases e2 : j=j'
   ·subst e2
    rw [if_pos rfl,if_pos (by omega)] at hy'
    rw [if_pos rfl,if_pos hb]; exact hy'
   ·rw [if_neg e2] at hy'
    rw [if_neg (by omega)]; exact g2 j' y' hy'
  ·rw [if_neg e] at hx'
   obtain ⟨g1,g2⟩:=h3 i' x' hx'
   refine ⟨g1,fun j' y' hy' => ?_⟩
   have hj' : j' < sz:=by have:=(List.getElem?_eq_some_iff.1 hy').1; omega
   rw [List.getElem?_set,if_neg]
   ·exact g2 j' y' hy'
   ·intro e2
    rcases Nat.lt_or_gt_of_ne e with e3 | e3
    ·have : (i + 1) * sz≤i' * sz:=Nat.mul_le_mul_right sz (by omega)
     rw [Nat.add_mul,Nat.one_mul] at this; omega
    ·have : (i' + 1) * sz≤i * sz:=Nat.mul_le_mul_right sz (by omega)
     rw [Nat.add_mul,Nat.one_mul] at this; omega
theorem RowS.append {v : AV} {sz bytes : Nat} {xs : List (List AV)} {x : List AV} {o2 : Nat} (hlow : Low h) (r : RowS h sz v xs) (hsz : 0 < sz) (hb : bytes≤1048576) (hb0 : 0 < bytes) (hs : xs.length < 1000000) (h2 : h.get o2=some (.cells x true)) (hxl : x.length=sz) (hfl : x.all AV.flat=true) :
  ∃ v' h',appV sz bytes h v (.slice o2 0 sz 1 1 true)=some (v',h')∧RowS h' sz v' (xs ++ [x])∧(∀ o∈objs v',o∈objs v∨h.next≤o)∧(∀ o∈objs v',o < h'.next)∧Only h h' (objs v)∧Low h':=by
 have hel : h.elems sz 1 (.slice o2 0 sz 1 1 true)=some x:=by
  simp only [AH.elems,true_and,Nat.le_refl,if_true,AH.load,h2]
  rw [if_pos (by rw [hxl]; omega),List.drop_zero,List.take_of_length_le (by rw [hxl]; omega)]
 have hroom : ∀ cap ex,roomOk (xs.length + 1) bytes cap ex=true:=by
  intro cap ex
  have : (xs.length + 1) * bytes≤1000000 * 1048576:=Nat.mul_le_mul (by omega) hb
  simp only [roomOk,Bool.or_eq_true,Bool.and_eq_true,decide_eq_true_eq]
  left; omega
 rcases r with ⟨rfl,rfl⟩ | ⟨o,cap,ex,l,rfl,hg,h1,h3,h4⟩
 ·refine ⟨.slice h.next 0 sz 1 1 false,h.new (.cells x true),?_,?_,?_,?_,Only.new (Only.refl h _) _,hlow.new _⟩
  ·simp only [appV,len_slice,Option.bind_some,hel,appendV]
   rw [if_neg (by decide),if_pos (show roomOk 1 bytes 0 true=true from hroom 0 true)]
  ·refine .inr ⟨h.next,1,false,x,rfl,get_new_same,by rw [hxl,Nat.one_mul],by simp,?_⟩
   intro i s hs
   cases i with
   | zero => simp at hs; subst hs; exact ⟨hxl,fun j y hy => by simpa using hy⟩
   | succ i => simp at hs
  ·intro o ho; simp [objs] at ho; subst ho; exact .inr (Nat.le_refl _)
  ·intro o ho; simp [objs] at ho; subst ho; rw [next_new]; omega
 ·have hlt : o < h.next:=hlow o _ hg
  have hsub : xs.length * sz + sz≤cap * sz∨cap < xs.length + 1:=by
   by_cases hc : xs.length + 1≤cap
   ·left
    have : (xs.length + 1) * sz≤cap * sz:=Nat.mul_le_mul_right sz hc
    rwa [Nat.add_mul,Nat.one_mul] at this
   ·right; omega
  have hle : xs.length * sz≤l.length:=by rw [h1]; exact Nat.mul_le_mul_right sz h3
  by_cases hc : xs.length + 1≤cap
  ·have hcs : xs.length * sz + sz≤l.length:=by rw [h1]; rcases hsub with h5 | h5 <;> omega
   obtain ⟨s1,s2⟩:=setMany_get l x (0 + xs.length * sz)
   obtain ⟨s3,s4,s5⟩:=s2 (by rw [hxl]; omega)
   have hst : h.store o (0 + xs.length * sz) x=some (h.set o (.cells (setMany l (0 + xs.length * sz) x) true)):=by
    simp only [AH.store,hg]
    rw [if_pos ⟨by rw [hxl]; omega,hfl⟩]
   refine ⟨.slice o 0 sz (xs.length + 1) cap ex,_,?_,?_,?_,?_,(Only.refl h _).set (.inl (by simp [objs])) (.cells (setMany l (0 + xs.length * sz) x) true),hlow.set hlt _⟩
   ·simp only [appV,len_slice,Option.bind_some,hel,appendV,if_true]
    rw [if_pos hc,if_neg (by omega),hst]
    rfl
   ·refine .inr ⟨o,cap,ex,_,by simp,get_set_same,by rw [s1]; exact h1,by simp; omega,?_⟩
    intro i s hs
    by_cases e : i=xs.length
    ·subst e
     rw [List.getElem?_append_right (Nat.le_refl _)] at hs
     simp at hs; subst hs
     refine ⟨hxl,fun j y hy => ?_⟩
     have:=s4 j y hy
     rw [show 0 + xs.length * sz + j=xs.length * sz + j by omega] at this; exact this
    ·have hi : i < xs.length:=by
      have:=(List.getElem?_eq_some_iff.1 hs).1
      simp at this; omega
     rw [List.getElem?_append_left hi] at hs
     obtain ⟨g1,g2⟩:=h4 i s hs
     refine ⟨g1,fun j y hy => ?_⟩
     have hj : j < sz:=by have:=(List.getElem?_eq_some_iff.1 hy).1; omega
     have : (i + 1) * sz≤xs.length * sz:=Nat.mul_le_mul_right sz (by omega)
     rw [Nat.add_mul,Nat.one_mul] at this
     rw [s3 _ (by omega)]
     exact g2 j y hy
   ·intro q hq; simp [objs] at hq; subst hq; exact .inl (by simp [objs])
   ·intro q hq; simp [objs] at hq; subst hq; rw [next_set]; exact hlt
  ·have hload : h.load o 0 (xs.length * sz)=some (l.take (xs.length * sz)):=by
    simp only [AH.load,hg,List.drop_zero]
    rw [if_pos (by omega)]
   have hrw : h.isRw o=true:=by simp [AH.isRw,hg]
   have hlen : (l.take (xs.length * sz)).length=xs.length * sz:=by rw [List.length_take]; omega
   have fin : ∀ (g : AH),g.get h.next=some (.cells (l.take (xs.length * sz) ++ x) true)→RowS g sz (.slice h.next 0 sz (xs.length + 1) (xs.length + 1) false) (xs ++ [x]):=by
    intro g hgn
    refine .inr ⟨h.next,xs.length + 1,false,l.take (xs.length * sz) ++ x,by simp,hgn,by rw [List.length_append,hlen,hxl,Nat.add_mul,Nat.one_mul],by simp,?_⟩
    intro i s hs
    by_cases e : i=xs.length
    ·subst e
     rw [List.getElem?_append_right (Nat.le_refl _)] at hs
     simp at hs; subst hs
     refine ⟨hxl,fun j y hy => ?_⟩
     rw [List.getElem?_append_right (by omega),hlen,show xs.length * sz + j - xs.length * sz=j by omega]
     exact hy
    ·have hi : i < xs.length:=by
      have:=(List.getElem?_eq_some_iff.1 hs).1
      simp at this; omega
     rw [List.getElem?_append_left hi] at hs
     obtain ⟨g1,g2⟩:=h4 i s hs
     refine ⟨g1,fun j y hy => ?_⟩
     have hj : j < sz:=by have:=(List.getElem?_eq_some_iff.1 hy).1; omega
     have : (i + 1) * sz≤xs.length * sz:=Nat.mul_le_mul_right sz (by omega)
     rw [Nat.add_mul,Nat.one_mul] at this
     rw [List.getElem?_append_left (by omega),List.getElem?_take,if_pos (by omega)]
     exact g2 j y hy
   cases ex with
   | false =>
    refine ⟨.slice h.next 0 sz (xs.length + 1) (xs.length + 1) false,(h.set o .dead).new (.cells (l.take (xs.length * sz) ++ x) true),?_,?_,?_,?_,((Only.refl h _).set (.inl (by simp [objs])) _).new _,(hlow.set hlt _).new _⟩
    ·simp only [appV,len_slice,Option.bind_some,hel,appendV,if_true]
     rw [if_neg hc,if_pos (hroom _ _),hload]
     simp [hrw,hfl,next_set]
    ·have:=get_new_same (h:=h.set o .dead) (x := .cells (l.take (xs.length * sz) ++ x) true)
     rw [next_set] at this
     exact fin _ this
    ·intro q hq; simp [objs] at hq; subst hq; exact .inr (Nat.le_refl _)
    ·intro q hq; simp [objs] at hq; subst hq; rw [next_new,next_set]; omega
   | true =>
    refine ⟨.slice h.next 0 sz (xs.length + 1) (xs.length + 1) false,h.new (.cells (l.take (xs.length * sz) ++ x) true),?_,fin _ get_new_same,?_,?_,(Only.refl h _).new _,hlow.new _⟩
    ·simp only [appV,len_slice,Option.bind_some,hel,appendV,if_true]
     rw [if_neg hc,if_pos (hroom _ _),hload]
    ·intro q hq; simp [objs] at hq; subst hq; exact .inr (Nat.le_refl _)
    ·intro q hq; simp [objs] at hq; subst hq; rw [next_new]; omega
end Go.Vm
/- Slices that are seen; their clones. -/
namespace Go.Vm
open Go.RowKit
set_option linter.unusedSimpArgs false
set_option linter.unusedVariables false
variable {T : Prog} {h : AH}
def SeesS (h : AH) (sz : Nat) (v : AV) (xs : List (List AV)) : Prop :=
 (v = .nilSlice∧xs=[])∨∃ o off cap ex l,∃ rw : Option Bool,v = .slice o off sz xs.length cap ex∧h.get o=some (AObj.of l rw)∧off + xs.length * sz≤l.length∧∀ i x,xs[i]?=some x→x.length=sz∧∀ j y,x[j]?=some y→l[off + i * sz + j]?=some y
theorem SeesS.len {v : AV} {sz : Nat} {xs : List (List AV)} (r : SeesS h sz v xs) : lenOfV v=some xs.length:=by
 rcases r with ⟨rfl,rfl⟩ | ⟨o,off,cap,ex,l,rw,rfl,_⟩ <;> rfl
theorem SeesS.keep {h' : AH} {v : AV} {sz : Nat} {xs : List (List AV)} (r : SeesS h sz v xs) (hk : ∀ o∈objs v,h'.get o=h.get o) : SeesS h' sz v xs:=by
 rcases r with ⟨rfl,rfl⟩ | ⟨o,off,cap,ex,l,rw,rfl,hg,h1⟩
 ·exact .inl ⟨rfl,rfl⟩
 ·exact .inr ⟨o,off,cap,ex,l,rw,rfl,(hk o (by simp [objs])).trans hg,h1⟩
theorem SeesS.low {v : AV} {sz : Nat} {xs : List (List AV)} (r : SeesS h sz v xs) (hl : Low h) : ∀ o∈objs v,o < h.next:=by
 rcases r with ⟨rfl,rfl⟩ | ⟨o,off,cap,ex,l,rw,rfl,hg,h1⟩
 ·intro o ho; simp [objs] at ho
 ·intro p hp; simp [objs] at hp; subst hp; exact hl _ _ hg
theorem RowS.sees {v : AV} {sz : Nat} {xs : List (List AV)} (r : RowS h sz v xs) : SeesS h sz v xs:=by
 rcases r with ⟨rfl,rfl⟩ | ⟨o,cap,ex,l,rfl,hg,h1,h2,h3⟩
 ·exact .inl ⟨rfl,rfl⟩
 ·refine .inr ⟨o,0,cap,ex,l,true,rfl,hg,by rw [h1,Nat.zero_add]; exact Nat.mul_le_mul_right sz h2,fun i x hx => ⟨(h3 i x hx).1,fun j y hy => ?_⟩⟩
  rw [Nat.zero_add]; exact (h3 i x hx).2 j y hy
theorem SeesS.at {v : AV} {sz : Nat} {xs : List (List AV)} (r : SeesS h sz v xs) {i : Nat} {x : List AV} (hx : xs[i]?=some x) (k : IntKind) : ∃ o off,objs v=[o]∧idxAddrV sz v (.int k (i : Int))=some (.ptr o off)∧∀ j y,x[j]?=some y→loadV h false 1 (.ptr o (off + j))=some y:=by
 rcases r with ⟨rfl,rfl⟩ | ⟨o,off,cap,ex,l,rw,rfl,hg,h1,h3⟩
 ·simp at hx
 ·have hi:=(List.getElem?_eq_some_iff.1 hx).1
  exact ⟨o,off + i * sz,rfl,by simp [idxAddrV,hi],fun j y hy => load_atO hg ((h3 i x hx).2 j y hy)⟩
theorem RowS.tail {v : AV} {sz : Nat} {xs : List (List AV)} (r : RowS h sz v xs) {n : Nat} (hn : n≤xs.length) {k : IntKind} : ∃ v',slcV sz v (some (.int k (n : Int))) none none=some v'∧SeesS h sz v' (xs.drop n)∧∀ o∈objs v',o∈objs v:=by
 rcases r with ⟨rfl,rfl⟩ | ⟨o,cap,ex,l,rfl,hg,h1,h2,h3⟩
 ·have : n=0:=by simpa using hn
  subst this
  exact ⟨.nilSlice,by simp [slcV,bounds,boundM,boundH,boundL,natOf,Option.filter],.inl ⟨rfl,rfl⟩,fun o ho => ho⟩
 ·refine ⟨.slice o (if (ex || false) && decide (cap=n) then 0 else 0 + n * sz) sz (xs.length - n) (cap - n) (ex || false),?_,.inr ⟨o,_,_,_,l,true,by rw [List.length_drop],hg,?_,?_⟩,?_⟩
  ·simp [slcV,bounds,boundM,boundH,boundL,natOf,Option.filter,hn]
  ·have e1 : (xs.length - n) * sz + n * sz=xs.length * sz:=by rw [← Nat.add_mul]; congr 1; omega
   have e2 : xs.length * sz≤cap * sz:=Nat.mul_le_mul_right sz h2
   rw [List.length_drop]
   split <;> omega
  ·intro i x hx
   rw [List.getElem?_drop] at hx
   obtain ⟨g1,g2⟩:=h3 (n + i) x hx
   refine ⟨g1,fun j y hy => ?_⟩
   have hlt:=(List.getElem?_eq_some_iff.1 hx).1
   have hne : ¬ (((ex || false) && decide (cap=n))=true):=by
    simp; intro _; omega
   rw [if_neg hne,show 0 + n * sz + i * sz + j=(n + i) * sz + j by rw [Nat.add_mul]; omega]
   exact g2 j y hy
  ·intro p hp; simpa [objs] using hp
def cClone (sz bytes : Nat) : ACode:=(.seq (.ops [⟨(some 2),.mov (.con .nilSlice),none⟩])
 (.seq (.seq (.ops [⟨(some 3),.mov (.tmp 0),none⟩,
  ⟨(some 4),.eqNil 1 false (.tmp 3) (.con .nilSlice),none⟩])
 (.cond (.tmp 4)
 (.seq (.ops [⟨(some 2),.mov (.con .nilSlice),none⟩])
 .ret)
 .skip))
 (.seq (.ops [⟨(some 5),.buildSlice sz 0 [] [],none⟩,
  ⟨(some 6),.mov (.tmp 0),none⟩,
  ⟨(some 7),.append sz bytes (.tmp 5) (.tmp 6),none⟩,
  ⟨(some 2),.mov (.tmp 7),none⟩])
 .ret)))
def aClone (sz bytes : Nat) : AFunc:=⟨1,cClone sz bytes,[.tmp 2]⟩
end Go.Vm
/- Regions whose order is drawn: operations and second looks behind a test. -/
namespace Go.Vm
open Go.RowKit
set_option linter.unusedSimpArgs false
set_option linter.unusedVariables false
section
variable {call : Handler} {f : Fr} {h : AH} {T : Prog}
theorem Res.set {φ : AH→Prop} {F : Nat→Prop} (r : Res φ F h) {p : Nat} (hp : ¬ F p) (x : AObj) : Res φ F (h.set p x) :=
 r.frame (G:=fun o => o=p) ⟨Nat.le_refl _,fun o _ hn => by rw [AH.get_set,if_neg (fun e => hn e.symm)]⟩ fun o ho e => hp (e ▸ ho)
theorem Res.new {φ : AH→Prop} {F : Nat→Prop} (r : Res φ F h) (x : AObj) : Res φ F (h.new x):=r.quiet ((Quiet.refl h).new x)
theorem Res.not {φ : AH→Prop} {F : Nat→Prop} (r : Res φ F h) {p : Nat} (hp : h.next≤p) : ¬ F p:=fun hf => by have:=r.low p hf; omega
theorem Res.and {φ ψ : AH→Prop} {F G : Nat→Prop} (r : Res φ F h) (s : Res ψ G h) : Res (fun h => φ h∧ψ h) (fun o => F o∨G o) h :=
 ⟨fun o ho => ho.elim (r.low o) (s.low o),fun h' hn hk => ⟨r.loc h' hn fun o ho => hk o (.inl ho),s.loc h' hn fun o ho => hk o (.inr ho)⟩⟩
theorem Res.imp {φ ψ : AH→Prop} {F : Nat→Prop} (r : Res φ F h) (hi : ∀ h',φ h'→ψ h') : Res ψ F h:=⟨r.low,fun h' hn hk => hi h' (r.loc h' hn hk)⟩
theorem Acts.get {F F' : Nat→Prop} {h' : AH} (a : Acts h F h' F') {p : Nat} {x : AObj} (hg : h.get p=some x) (hp : p < h.next) (hF : ¬ F p) : h'.get p=some x:=(a.mods.2 p hp hF).trans hg
theorem Acts.not {F F' : Nat→Prop} {h' : AH} (a : Acts h F h' F') {p : Nat} (hp : p < h.next) (hF : ¬ F p) : ¬ F' p:=fun hf => (a.grow p hf).elim hF (by omega)
theorem Quiet.get {h' : AH} (q : Quiet h h') {p : Nat} {x : AObj} (hg : h.get p=some x) (hp : p < h.next) : h'.get p=some x:=(q.2 p hp fun h => h).trans hg
theorem Acts.after {F F' : Nat→Prop} {h1 h2 h3 : AH} (q : Quiet h h1) (a : Acts h1 F h2 F') (m : Mods h2 h3 (fun o => h.next≤o)) (lo : Low h3) : Acts h F h3 F' :=
 ⟨((q.mods F).trans a.mods (fun o ho => .inl ho)).trans m fun o ho => .inr ho,fun o ho => (a.grow o ho).imp id fun h5 => by have:=q.1; omega,lo⟩
def Side (h : AH) (F : Nat→Prop) (φ : AH→Prop) : Prop:=∃ G,Res φ G h∧∀ o,G o→¬ F o
theorem Side.holds {φ : AH→Prop} {F : Nat→Prop} (s : Side h F φ) : φ h:=by obtain ⟨G,r,_⟩:=s; exact r.holds
theorem Side.quiet {φ : AH→Prop} {F : Nat→Prop} {h' : AH} (s : Side h F φ) (q : Quiet h h') : Side h' F φ:=by
 obtain ⟨G,r,d⟩:=s
 exact ⟨G,r.quiet q,d⟩
theorem Side.and {φ ψ : AH→Prop} {F : Nat→Prop} (s : Side h F φ) (t : Side h F ψ) : Side h F (fun h => φ h∧ψ h):=by
 obtain ⟨G,r,d⟩:=s
 obtain ⟨H,u,e⟩:=t
 exact ⟨_,r.and u,fun o ho => ho.elim (d o) (e o)⟩
theorem Side.imp {φ ψ : AH→Prop} {F : Nat→Prop} (s : Side h F φ) (hi : ∀ h',φ h'→ψ h') : Side h F ψ:=by
 obtain ⟨G,r,d⟩:=s
 exact ⟨G,r.imp hi,d⟩
theorem Side.true {F : Nat→Prop} : Side h F (fun _ => True):=⟨_,res_true,fun _ h => h.elim⟩
theorem Side.obj {F : Nat→Prop} {p : Nat} {x : AObj} (hl : Low h) (hg : h.get p=some x) (hF : ¬ F p) : Side h F (fun h => h.get p=some x):=⟨_,res_obj hl hg,fun o ho => by subst ho; exact hF⟩
theorem Side.new {F : Nat→Prop} {φ : AH→Prop} {G : Nat→Prop} (r : Res φ G h) (hF : ∀ o,F o→h.next≤o) : Side h F φ:=⟨G,r,fun o ho hf => by have:=r.low o ho; have:=hF o hf; omega⟩
theorem Sees.res {v : AV} {xs : List AV} (s : Sees h v xs) (hl : Low h) : Res (fun h => Sees h v xs) (fun o => o∈objs v) h:=by
 refine ⟨fun o ho => ?_,fun h' _ hk => ?_⟩
 ·rcases s with ⟨rfl,_⟩ | ⟨p,off,cap,ex,l,rw,rfl,hg,_⟩
  ·simp [objs] at ho
  ·simp [objs] at ho; subst ho; exact hl _ _ hg
 ·rcases s with ⟨rfl,rfl⟩ | ⟨p,off,cap,ex,l,rw,rfl,hg,h1⟩
  ·exact .inl ⟨rfl,rfl⟩
  ·exact .inr ⟨p,off,cap,ex,l,rw,rfl,(hk p (by simp [objs])).trans hg,h1⟩
end
end Go.Vm

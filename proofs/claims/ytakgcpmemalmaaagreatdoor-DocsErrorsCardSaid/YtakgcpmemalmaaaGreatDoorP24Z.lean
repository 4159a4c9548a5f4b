/- DocsErrors: the program that it is run in, and its run. -/
import Derived.Test.YtakgcpmemalmaaaGreatDoorP24Y
import Derived.Test.YtakgcpmemalmaaaGreatDoorP24F
namespace Go.Proofs.YtakgcpmemalmaaaGreatDoor
open Go.Vm
open Go.RowKit
set_option linter.unusedSimpArgs false
set_option linter.unusedVariables false
set_option maxRecDepth 100000
variable {h : AH}
noncomputable def relEnv (C : List AV→AH→AV→AH→Prop) (args : List AV) (h : AH) : Option (AV×AH) :=
 @dite _ (∃ p : AV×AH,C args h p.1 p.2) (Classical.propDecidable _) (fun H => some (Classical.choose H)) (fun _ => none)
theorem relEnv_inv {C : List AV→AH→AV→AH→Prop} {args : List AV} {h h' : AH} {r : AV} (e : relEnv C args h=some (r,h')) : C args h r h':=by
 unfold relEnv at e
 split at e
 ·rename_i H
  have:=Classical.choose_spec H
  rw [Option.some.inj e] at this
  exact this
 ·cases e
theorem relEnv_gives {T : Vm.Prog} {C : List AV→AH→AV→AH→Prop} {f : Nat} {args : List AV} {h h' : AH} {r : AV} (he : T.env f=some (relEnv C)) (hc : C args h r h') : Gives T f args h (C args h):=by
 have H : ∃ p : AV×AH,C args h p.1 p.2:=⟨(r,h'),hc⟩
 obtain ⟨p,hp⟩ : ∃ p,relEnv C args h=some p:=by
  unfold relEnv
  rw [dif_pos H]; exact ⟨_,rfl⟩
 exact ⟨p.1,p.2,(run_env he).trans hp,relEnv_inv hp⟩
theorem self43 (big : Nat) : ((List.range 36).all fun o => match hB43.get o with
  | some a => objB (rhoL 36 big []) a a
  | none => true)=true:=by kernel_rfl
theorem gcQ {h' : AH} {r : AV} (on : Only hB43 h' []) (hr : ∀ ρ,VRen ρ r r) : Gc hB43 h' hB43 (rhoL 36 h'.next []) r r :=
 gc_list (h0:=hB43) (l:=[]) rfl List.nodup_nil (fun p hp => by simp at hp) (fun o a ho ha => by
  have ho : o < 36:=ho
  have hb:=List.all_eq_true.1 (self43 h'.next) o (List.mem_range.2 ho)
  rw [ha] at hb
  exact ⟨a,(on.2 o ho (by simp)).trans ha,obj_of hb⟩) (fun i p a hp => by simp at hp) (hr _)
theorem simQ {f : Nat} {args : List AV} {r : AV} (he : Tm.env f=none) (hr : ∀ ρ,VRen ρ r r) (H : Gives Tm f args hB43 fun r' h' => r'=r∧Only hB43 h' []) : CSim Tryz.prog f args hB43 r hB43 :=
 gives_gc Tm_ok he (H.mono fun r' h' ⟨e,on⟩ => by subst e; exact ⟨_,gcQ on hr⟩)
def hS (b0 b1 : Int) : AH:=hB42.new (.cells [.int .i64 b0,.int .i64 b1] true)
theorem same4342 (big : Nat) : ((List.range 35).all fun o => match hB43.get o,hB42.get o with
  | some a,some y => objB (rhoL 36 big []) a y
  | none,_ => true
  | _,_ => false)=true:=by kernel_rfl
theorem gcS (b0 b1 : Int) : Gc (hS b0 b1) (hS b0 b1) hB43 (rhoL 36 36 []) (.int .i64 1) (.int .i64 1) :=
 gc_list (h0:=hS b0 b1) (l:=[]) rfl List.nodup_nil (fun p hp => by simp at hp) (fun o a ho ha => by
  have ho : o < 36:=ho
  have e : (hS b0 b1).get o=if 35=o then some (.cells [.int .i64 b0,.int .i64 b1] true) else hB42.get o:=AH.get_new hB42 o _
  by_cases h35 : 35=o
  ·subst h35
   have hd : hB43.get 35=some .dead:=rfl
   rw [hd] at ha; cases ha
   exact ⟨_,e,trivial⟩
  ·rw [if_neg h35] at e
   have hb:=List.all_eq_true.1 (same4342 36) o (List.mem_range.2 (by omega))
   rw [ha] at hb
   cases hy : hB42.get o with
   | none => rw [hy] at hb; cases hb
   | some y => rw [hy] at hb; exact ⟨y,e.trans hy,obj_of hb⟩) (fun i p a hp => by simp at hp) (VRen.int _ _ _)
def Bad (id : Int) : Prop:=(id < 0∨1073741824 < id) ∧ -4611686018427387904≤id∧id≤4611686018427387904
def C15 (args : List AV) (h : AH) (r : AV) (h' : AH) : Prop :=
 (args=[.ptr 23 0,.int .i64 7,.str [115,101,118,101,110,32,117,112]]∧h=hB2∧r = .int .i64 0∧h'=hB42) ∨
 (∃ b0 b1 id,Bad id∧args=[.ptr 23 0,.int .i64 id,.str [120]]∧h=hS b0 b1∧r = .int .i64 1∧h'=hB43) ∨
 (∃ (id : Int) (s : Txt),0≤id∧id≤1073741824∧512 < s.length∧args=[.ptr 23 0,.int .i64 id,.str s]∧h=hB43∧r = .int .i64 11∧h'=hB43) ∨
 (args=[.ptr 23 0,.int .i64 7,.str [120]]∧h=hB43∧r = .int .i64 9∧h'=hB43)
def C19 (args : List AV) (h : AH) (r : AV) (h' : AH) : Prop:=∃ id : Int,id≠7 ∧ -4611686018427387904≤id∧id≤4611686018427387904∧args=[.ptr 23 0,.int .i64 id]∧h=hB43∧r = .int .i64 10∧h'=hB43
def C40 (args : List AV) (h : AH) (r : AV) (h' : AH) : Prop :=
 (∃ id : Int,0≤id∧id≤1073741824∧id≠7∧args=[.ptr 23 0,.int .i64 id,.str [120]]∧h=hB43∧r = .int .i64 10∧h'=hB43) ∨
 (∃ s : Txt,512 < s.length∧args=[.ptr 23 0,.int .i64 7,.str s]∧h=hB43∧r = .int .i64 11∧h'=hB43)
theorem ren_int (n : Int) : ∀ ρ,VRen ρ (.int .i64 n) (.int .i64 n):=fun ρ => VRen.int ρ _ _
theorem same_on {h' : AH} {r r' : AV} : r'=r∧h'=hB43→r'=r∧Only hB43 h' []:=fun ⟨e,e2⟩ => ⟨e,by subst e2; exact Only.refl _ _⟩
theorem c15_ok : ∀ args h r h',C15 args h r h'→CSim Tryz.prog 15 args h r h':=by
 rintro args h r h' (⟨rfl,rfl,rfl,rfl⟩ | ⟨b0,b1,id,hb,rfl,rfl,rfl,rfl⟩ | ⟨id,s,h1,h2,hs,rfl,rfl,rfl,rfl⟩ | ⟨rfl,rfl,rfl,rfl⟩)
 ·exact sim42
 ·exact gives_gc Tm_ok rfl ((add_bad hb.1).mono fun r' h' ⟨e,e2⟩ => by subst e; subst e2; exact ⟨_,gcS b0 b1⟩)
 ·exact simQ rfl (ren_int _) ((add_long h1 h2 hs).mono fun r' h' e => same_on e)
 ·exact sim45
theorem c19_ok : ∀ args h r h',C19 args h r h'→CSim Tryz.prog 19 args h r h':=by
 rintro args h r h' ⟨id,h7,h1,h2,rfl,rfl,rfl,rfl⟩
 exact simQ rfl (ren_int _) (rem_no one43 h1 h2 h7)
theorem c40_ok : ∀ args h r h',C40 args h r h'→CSim Tryz.prog 40 args h r h':=by
 rintro args h r h' (⟨id,h1,h2,h7,rfl,rfl,rfl,rfl⟩ | ⟨s,hs,rfl,rfl,rfl,rfl⟩)
 ·exact simQ rfl (ren_int _) (upd_no h1 h2 h7)
 ·exact simQ rfl (ren_int _) ((upd_long hs).mono fun r' h' e => same_on e)
noncomputable def Ta1 : Vm.Prog:=withEnv T4 15 (relEnv C15)
theorem Ta1_ok : TabOk Tryz.prog Ta1:=withEnv_ok T4_ok fun args h r h' e => c15_ok args h r h' (relEnv_inv e)
noncomputable def Ta2 : Vm.Prog:=withEnv Ta1 19 (relEnv C19)
theorem Ta2_ok : TabOk Tryz.prog Ta2:=withEnv_ok Ta1_ok fun args h r h' e => c19_ok args h r h' (relEnv_inv e)
noncomputable def Ta3 : Vm.Prog:=withEnv Ta2 40 (relEnv C40)
theorem Ta3_ok : TabOk Tryz.prog Ta3:=withEnv_ok Ta2_ok fun args h r h' e => c40_ok args h r h' (relEnv_inv e)
noncomputable def Ta4 : Vm.Prog:=withEnv Ta3 16 (litFind [lit52,lit54])
theorem Ta4_ok : TabOk Tryz.prog Ta4:=lits_sim Ta3_ok fun l hl => by
 simp only [List.mem_cons,List.not_mem_nil,or_false] at hl
 rcases hl with rfl | rfl
 ·exact sim52
 ·exact sim54
theorem one_sim {T : Vm.Prog} {f : Nat} {l : Vm.Lit} (hT : TabOk Tryz.prog T) (h : CSim Tryz.prog f l.args l.h l.r l.h') : TabOk Tryz.prog (withEnv T f (litFind [l])):=lits_sim hT fun m hm => by
 simp only [List.mem_cons,List.not_mem_nil,or_false] at hm
 subst hm; exact h
noncomputable def Ta5 : Vm.Prog:=withEnv Ta4 17 (litFind [lit50])
noncomputable def Ta6 : Vm.Prog:=withEnv Ta5 18 (litFind [lit51])
noncomputable def Ta7 : Vm.Prog:=withEnv Ta6 30 (litFind [lit53])
noncomputable def Ta8 : Vm.Prog:=withEnv Ta7 20 (litFind [lit55])
noncomputable def Ta9 : Vm.Prog:=withEnv Ta8 33 (litFind [lit56])
theorem Ta9_ok : TabOk Tryz.prog Ta9:=one_sim (one_sim (one_sim (one_sim (one_sim Ta4_ok sim50) sim51) sim53) sim55) sim56
noncomputable def Te : Vm.Prog:=withEnv Ta9 3 yes
theorem Te_ok : TabOk Tryz.prog Te:=withEnv_ok Ta9_ok fun args h r h' e => .inl (docs_yes args h r h' e)
theorem lit_gives {T : Vm.Prog} {f : Nat} {ls : List Vm.Lit} {args : List AV} {h h' : AH} {r : AV} (he : T.env f=some (litFind ls)) (hl : litFind ls args h=some (r,h')) : Gives T f args h fun r' h2 => r'=r∧h2=h' :=
 ⟨_,_,(run_env he).trans hl,rfl,rfl⟩
theorem g13 : Gives Te 13 [] AH.empty fun r h' => r = .agg wideL∧h'=hA2 :=
 ⟨_,_,run_iff.2 ⟨100,by rw [← arunE_eq]; exact (by kernel_rfl : arunE Te 100 13 [] AH.empty=some (.agg wideL,hA2))⟩,rfl,rfl⟩
theorem f12 : litFind [lit2] [.agg wideL] hA2=some (.tuple [.ptr 23 0,I 0],hB2):=by kernel_rfl
theorem g12 : Gives Te 12 [.agg wideL] hA2 fun r h' => r = .tuple [.ptr 23 0,.int .i64 0]∧h'=hB2:=lit_gives rfl f12
theorem g15a : Gives Te 15 [.ptr 23 0,.int .i64 7,.str [115,101,118,101,110,32,117,112]] hB2 fun r h' => r = .int .i64 0∧h'=hB42 :=
 (relEnv_gives rfl (.inl ⟨rfl,rfl,rfl,rfl⟩)).mono fun r h' c => by
  rcases c with ⟨_,_,h3,h4⟩ | ⟨b0,b1,id,hb,h1,_,_,_⟩ | ⟨id,s,_,_,hs,h1,_,_,_⟩ | ⟨h1,_,_,_⟩
  ·exact ⟨h3,h4⟩
  ·simp at h1
  ·simp at h1; obtain ⟨_,rfl⟩:=h1; simp at hs
  ·simp at h1
theorem g15b {id b0 b1 : Int} (hb : Bad id) : Gives Te 15 [.ptr 23 0,.int .i64 id,.str [120]] (hS b0 b1) fun r h' => r = .int .i64 1∧h'=hB43 :=
 (relEnv_gives rfl (.inr (.inl ⟨b0,b1,id,hb,rfl,rfl,rfl,rfl⟩))).mono fun r h' c => by
  have h7:=hb.1
  rcases c with ⟨h1,_,h3,h4⟩ | ⟨b0',b1',id',hb',h1,_,h3,h4⟩ | ⟨id',s,_,_,hs,h1,_,_,_⟩ | ⟨h1,_,_,_⟩
  ·simp at h1
  ·exact ⟨h3,h4⟩
  ·simp at h1; obtain ⟨_,rfl⟩:=h1; simp at hs
  ·simp at h1; omega
theorem g15c {id : Int} {s : Txt} (i1 : 8≤id) (i2 : id≤1073741824) (hs : 512 < s.length) : Gives Te 15 [.ptr 23 0,.int .i64 id,.str s] hB43 fun r h' => r = .int .i64 11∧h'=hB43 :=
 (relEnv_gives rfl (.inr (.inr (.inl ⟨id,s,by omega,i2,hs,rfl,rfl,rfl,rfl⟩)))).mono fun r h' c => by
  rcases c with ⟨h1,_,h3,h4⟩ | ⟨b0',b1',id',hb',h1,_,h3,h4⟩ | ⟨id',s',_,_,_,_,_,h3,h4⟩ | ⟨h1,_,_,_⟩
  ·simp at h1; omega
  ·simp at h1; obtain ⟨_,rfl⟩:=h1; simp at hs
  ·exact ⟨h3,h4⟩
  ·simp at h1; omega
theorem g15d : Gives Te 15 [.ptr 23 0,.int .i64 7,.str [120]] hB43 fun r h' => r = .int .i64 9∧h'=hB43 :=
 (relEnv_gives rfl (.inr (.inr (.inr ⟨rfl,rfl,rfl,rfl⟩)))).mono fun r h' c => by
  rcases c with ⟨h1,_,h3,h4⟩ | ⟨b0',b1',id',hb',h1,_,h3,h4⟩ | ⟨id',s,_,_,hs,h1,_,_,_⟩ | ⟨_,_,h3,h4⟩
  ·simp at h1
  ·simp at h1; subst h1; exact absurd hb'.1 (by omega)
  ·simp at h1; obtain ⟨_,rfl⟩:=h1; simp at hs
  ·exact ⟨h3,h4⟩
theorem g19 {id : Int} (h7 : id≠7) (i1 : -4611686018427387904≤id) (i2 : id≤4611686018427387904) : Gives Te 19 [.ptr 23 0,.int .i64 id] hB43 fun r h' => r = .int .i64 10∧h'=hB43 :=
 (relEnv_gives rfl ⟨id,h7,i1,i2,rfl,rfl,rfl,rfl⟩).mono fun r h' ⟨_,_,_,_,_,_,h3,h4⟩ => ⟨h3,h4⟩
theorem g40a {id : Int} (i1 : 8≤id) (i2 : id≤1073741824) : Gives Te 40 [.ptr 23 0,.int .i64 id,.str [120]] hB43 fun r h' => r = .int .i64 10∧h'=hB43 :=
 (relEnv_gives rfl (.inl ⟨id,by omega,i2,by omega,rfl,rfl,rfl,rfl⟩)).mono fun r h' c => by
  rcases c with ⟨_,_,_,_,_,_,h3,h4⟩ | ⟨s,hs,h1,_,_,_⟩
  ·exact ⟨h3,h4⟩
  ·simp at h1; obtain ⟨_,rfl⟩:=h1; simp at hs
theorem g40b {s : Txt} (hs : 512 < s.length) : Gives Te 40 [.ptr 23 0,.int .i64 7,.str s] hB43 fun r h' => r = .int .i64 11∧h'=hB43 :=
 (relEnv_gives rfl (.inr ⟨s,hs,rfl,rfl,rfl,rfl⟩)).mono fun r h' c => by
  rcases c with ⟨id,_,_,h7,h1,_,_,_⟩ | ⟨_,_,_,_,h3,h4⟩
  ·simp at h1; omega
  ·exact ⟨h3,h4⟩
theorem f17 : litFind [lit50] [.ptr 23 0,.str [97,32,124]] hB43=some (.tuple [.nilSlice,.int .i64 7],hB43):=by kernel_rfl
theorem f18 : litFind [lit51] [.ptr 23 0,.str [],.str [],.int .i64 0] hB43=some (.tuple [.nilSlice,.int .i64 1],hB43):=by kernel_rfl
theorem f16a : litFind [lit52,lit54] [.ptr 23 0,.str [115,101,118,101,110,32,117,112,32,97,110,100,32,109,111,114,101]] hB43=some (.tuple [.nilSlice,.int .i64 6],hB43):=by kernel_rfl
theorem f16b : litFind [lit52,lit54] [.ptr 23 0,.str [117,112]] hB43=some (.tuple [.slice 36 0 1 1 1 false,.int .i64 0],hB54):=by kernel_rfl
theorem f30 : litFind [lit53] [.ptr 23 0,.int .i64 7] hB43=some (.tuple [.str [115,101,118,101,110,32,117,112],.bool true],hB43):=by kernel_rfl
theorem f20 : litFind [lit55] [.slice 36 0 1 1 1 false,.slice 37 0 1 1 1 true] (hB54.new (.cells [.int .i64 7] true))=some (.bool true,hA55):=by kernel_rfl
theorem f33 : litFind [lit56] [.ptr 23 0] hA55=some (.slice 38 0 1 1 1 false,hB56):=by kernel_rfl
theorem g17 : Gives Te 17 [.ptr 23 0,.str [97,32,124]] hB43 fun r h' => r = .tuple [.nilSlice,.int .i64 7]∧h'=hB43:=lit_gives rfl f17
theorem g18 : Gives Te 18 [.ptr 23 0,.str [],.str [],.int .i64 0] hB43 fun r h' => r = .tuple [.nilSlice,.int .i64 1]∧h'=hB43:=lit_gives rfl f18
theorem g16a : Gives Te 16 [.ptr 23 0,.str [115,101,118,101,110,32,117,112,32,97,110,100,32,109,111,114,101]] hB43 fun r h' => r = .tuple [.nilSlice,.int .i64 6]∧h'=hB43:=lit_gives rfl f16a
theorem g16b : Gives Te 16 [.ptr 23 0,.str [117,112]] hB43 fun r h' => r = .tuple [.slice 36 0 1 1 1 false,.int .i64 0]∧h'=hB54:=lit_gives rfl f16b
theorem g30 : Gives Te 30 [.ptr 23 0,.int .i64 7] hB43 fun r h' => r = .tuple [.str [115,101,118,101,110,32,117,112],.bool true]∧h'=hB43:=lit_gives rfl f30
theorem g20 : Gives Te 20 [.slice 36 0 1 1 1 false,.slice 37 0 1 1 1 true] (hB54.new (.cells [.int .i64 7] true)) fun r h' => r = .bool true∧h'=hA55:=lit_gives rfl f20
theorem g33 : Gives Te 33 [.ptr 23 0] hA55 fun r h' => r = .slice 38 0 1 1 1 false∧h'=hB56:=lit_gives rfl f33
theorem g3 {h : AH} : Gives Te 3 [] h fun r h' => r = .bool true∧h'=h:=⟨_,_,(run_env (e:=yes) rfl).trans rfl,rfl,rfl⟩
theorem g24 {h : AH} {n hi : Int} (h1 : 0≤hi) (h2 : hi≤1152921504606846976) : Gives Te 24 [.int .i64 n,.int .i64 0,.int .i64 hi] h fun r h' => ∃ m,r = .int .i64 m∧0≤m∧m≤hi∧h'=h :=
 within_ok (g:=24) rfl rfl h1 (by decide) h2
end Go.Proofs.YtakgcpmemalmaaaGreatDoor

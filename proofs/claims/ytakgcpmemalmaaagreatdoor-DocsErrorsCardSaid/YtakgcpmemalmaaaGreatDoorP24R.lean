/- arena.New's result, with what is of use alone. -/
import Derived.Test.YtakgcpmemalmaaaGreatDoorP24Q
import Derived.Test.YtakgcpmemalmaaaGreatDoorVmZze
namespace Go.Proofs.YtakgcpmemalmaaaGreatDoor
open Go.Vm
open Go.RowKit
set_option linter.unusedSimpArgs false
set_option linter.unusedVariables false
set_option maxRecDepth 100000
def slotR (c : Nat) : Nat→List AV→List AV
 | 0,r => r
 | n + 1,r => .int .i64 (Int.ofNat c) :: .int .i64 1 :: .bool false :: .undef :: slotR c n r
def slots0 : List AV:=slotR 0 300 (slotR 1 220 (slotR 2 120 (slotR 3 60 (slotR 4 2 []))))
def slotU (cs : List Nat) : List AV:=cs.flatMap fun c => [.int .i64 (Int.ofNat c),.int .i64 1,.bool false,.undef]
theorem slotU_ren {ρ : Nat→Nat} : ∀ S : List (Nat×AV),VRens ρ (slotU (S.map (·.1))) (slotL S)
 | [] => VRens.nil ρ
 | (c,w) :: S => by
  have h : VRens ρ [.int .i64 (Int.ofNat c),.int .i64 1,.bool false,.undef] [.int .i64 (c : Int),.int .i64 1,.bool false,w] :=
   .cons (.int ρ _ _) (.cons (.int ρ _ _) (.cons (.bool ρ _) (.cons (.undef ρ _) (.nil ρ))))
  have e1 : slotU (((c,w) :: S).map (·.1))=[.int .i64 (Int.ofNat c),.int .i64 1,.bool false,.undef] ++ slotU (S.map (·.1)):=by simp only [slotU,List.map_cons,List.flatMap_cons]
  have e2 : slotL ((c,w) :: S)=[.int .i64 (c : Int),.int .i64 1,.bool false,w] ++ slotL S:=by simp only [slotL,List.flatMap_cons]
  rw [e1,e2]
  exact VRens.append h (slotU_ren S)
def ns0 : List Nat:=[300,220,120,60,2]
theorem slots0_is : slots0=slotU (newK ns0 5):=by kernel_rfl
abbrev I (n : Int) : AV := .int .i64 n
abbrev U (n : Int) : AV := .int .u64 n
def wideL : List AV:=[I 300,I 220,I 120,I 60,I 2,I 1,I 32,I 2]
def hA0 : AH:=AH.upd AH.empty 3 [(0,.cells wideL true),(1,.cells wideL true),(2,.cells wideL true)]
def hB0 : AH:=AH.upd hA0 20 [(3,.cells [.slice 4 0 4 702 702 false,.ptr 5 0,.ptr 8 0,.ptr 11 0,.ptr 14 0,.ptr 17 0] true),
 (4,.cells slots0 true),
 (5,.cells [I 1024,.slice 7 0 1 300 300 false,.map 6] true),
 (6,.map (setOf (ints 0 300))),
 (7,.cells (ints 0 300) true),
 (8,.cells [I 1024,.slice 10 0 1 220 220 false,.map 9] true),
 (9,.map (setOf (ints 300 220))),
 (10,.cells (ints 300 220) true),
 (11,.cells [I 1024,.slice 13 0 1 120 120 false,.map 12] true),
 (12,.map (setOf (ints 520 120))),
 (13,.cells (ints 520 120) true),
 (14,.cells [I 1024,.slice 16 0 1 60 60 false,.map 15] true),
 (15,.map (setOf (ints 640 60))),
 (16,.cells (ints 640 60) true),
 (17,.cells [I 1024,.slice 19 0 1 2 2 false,.map 18] true),
 (18,.map (setOf (ints 700 2))),
 (19,.cells (ints 700 2) true)]
def lit0 : Vm.Lit:=⟨[.agg [I 300,I 220,I 120,I 60,I 2]],hA0,.tuple [.ptr 3 0,I 0],hB0⟩
theorem ints0 : ints 0 300=ups 0 300:=by kernel_rfl
theorem keys0 : setOf (ints 0 300)=keysM (upI 0 300):=by kernel_rfl
theorem ints1 : ints 300 220=ups 300 220:=by kernel_rfl
theorem keys1 : setOf (ints 300 220)=keysM (upI 300 220):=by kernel_rfl
theorem ints2 : ints 520 120=ups 520 120:=by kernel_rfl
theorem keys2 : setOf (ints 520 120)=keysM (upI 520 120):=by kernel_rfl
theorem ints3 : ints 640 60=ups 640 60:=by kernel_rfl
theorem keys3 : setOf (ints 640 60)=keysM (upI 640 60):=by kernel_rfl
theorem ints4 : ints 700 2=ups 700 2:=by kernel_rfl
theorem keys4 : setOf (ints 700 2)=keysM (upI 700 2):=by kernel_rfl
theorem TRow.some {h : AH} {sz n : Nat} {v : AV} {l : List AV} (r : TRow h sz n v l) (hn : 0 < n) : ∃ o,v = .slice o 0 sz n n false∧h.get o=some (.cells l true):=by
 rcases r with ⟨_,h0,_⟩ | ⟨o,h1,h2,_⟩
 ·omega
 ·exact ⟨o,h1,h2⟩
theorem ups_ints (b n : Nat) : ∀ v∈ups b n,∃ k m,v=AV.int k m:=fun v hv => by
 obtain ⟨i,_,rfl⟩:=List.mem_map.1 hv
 exact ⟨_,_,rfl⟩
theorem keys_ren {ρ : Nat→Nat} (L : List Int) : ORen ρ (.map (keysM L)) (.map (keysM L)):=by
 refine ⟨rfl,fun i p q hp hq => ?_⟩
 rw [hp] at hq; cases hq
 obtain ⟨x,_,rfl⟩:=List.mem_map.1 (List.mem_of_getElem? hp)
 exact ⟨VRen.int ρ _ _,VRen.agg (VRens.nil ρ)⟩
theorem low0 : Low AH.empty:=fun o x h => by
 unfold AH.get AH.empty at h
 simp [Tr.get] at h
theorem hA0_new : hA0=((AH.empty.new (.cells wideL true)).new (.cells wideL true)).new (.cells wideL true):=by kernel_rfl
theorem lowA0 : Low hA0:=by rw [hA0_new]; exact ((low0.new _).new _).new _
theorem wide_ints : ∀ v∈wideL,∃ k m,v=AV.int k m:=fun v hv => by
 simp only [wideL,List.mem_cons,List.not_mem_nil,or_false] at hv
 rcases hv with h | h | h | h | h | h | h | h <;> exact ⟨_,_,h⟩
theorem gc0 {h : AH} {a : Nat} {sv : AV} {S : List (Nat×AV)} {Q : List PQ} (N : NewX hA0 h ns0 5 a sv S Q) : ∃ ρ,Gc hA0 h hB0 ρ (.tuple [.ptr 3 0,I 0]) (.tuple [.ptr a 0,.int .i64 0]):=by
 obtain ⟨A,hcls,hlen,h5,pools,nd,nw,on,lo⟩:=N
 match Q,h5 with
 | [q0,q1,q2,q3,q4],_ =>
 obtain ⟨so,rfl,gs⟩:=A.slots.some (by rw [hlen]; decide)
 obtain ⟨p0,v0,m0⟩:=q0
 have P0 : PoolX h p0 1024 0 300 v0 m0:=pools 0 _ _ rfl rfl
 obtain ⟨o0,rfl,r0⟩:=P0.row.some (by decide)
 obtain ⟨p1,v1,m1⟩:=q1
 have P1 : PoolX h p1 1024 300 220 v1 m1:=pools 1 _ _ rfl rfl
 obtain ⟨o1,rfl,r1⟩:=P1.row.some (by decide)
 obtain ⟨p2,v2,m2⟩:=q2
 have P2 : PoolX h p2 1024 520 120 v2 m2:=pools 2 _ _ rfl rfl
 obtain ⟨o2,rfl,r2⟩:=P2.row.some (by decide)
 obtain ⟨p3,v3,m3⟩:=q3
 have P3 : PoolX h p3 1024 640 60 v3 m3:=pools 3 _ _ rfl rfl
 obtain ⟨o3,rfl,r3⟩:=P3.row.some (by decide)
 obtain ⟨p4,v4,m4⟩:=q4
 have P4 : PoolX h p4 1024 700 2 v4 m4:=pools 4 _ _ rfl rfl
 obtain ⟨o4,rfl,r4⟩:=P4.row.some (by decide)
 have hS : S.length=702:=hlen
 rw [hS] at nd nw A
 have nd : ([a,so,p0,m0,o0,p1,m1,o1,p2,m2,o2,p3,m3,o3,p4,m4,o4] : List Nat).Nodup:=nd
 have nw : ∀ o∈([a,so,p0,m0,o0,p1,m1,o1,p2,m2,o2,p3,m3,o3,p4,m4,o4] : List Nat),3≤o∧o < h.next:=nw
 have ob:=A.obj
 have rh : ∀ i p,([a,so,p0,m0,o0,p1,m1,o1,p2,m2,o2,p3,m3,o3,p4,m4,o4] : List Nat)[i]?=some p→rhoL 3 h.next [a,so,p0,m0,o0,p1,m1,o1,p2,m2,o2,p3,m3,o3,p4,m4,o4] (3 + i)=p:=fun i p e => rhoL_new e
 refine ⟨rhoL 3 h.next [a,so,p0,m0,o0,p1,m1,o1,p2,m2,o2,p3,m3,o3,p4,m4,o4],gc_list (h0:=hA0) (l:=[a,so,p0,m0,o0,p1,m1,o1,p2,m2,o2,p3,m3,o3,p4,m4,o4]) rfl nd nw ?_ ?_ ?_⟩
 ·intro o x ho hx
  have ho : o < 3:=ho
  have ge : ∀ o,o < 3→hA0.get o=some (.cells wideL true):=fun o ho => by
   have : o=0∨o=1∨o=2:=by omega
   rcases this with rfl | rfl | rfl <;> rfl
  have gb : hB0.get o=some (.cells wideL true):=by
   have : o=0∨o=1∨o=2:=by omega
   rcases this with rfl | rfl | rfl <;> rfl
  rw [gb] at hx; cases hx
  exact ⟨_,(on.2 o ho (by simp)).trans (ge o ho),ORen.same_ints wide_ints⟩
 ·intro i p x hp hx
  have hi : i < 17:=(List.getElem?_eq_some_iff.1 hp).1
  match i,hi with
  | 0,_ =>
   cases hp
   cases hx
   exact ⟨_,ob,rfl,.cons (.slice 0 4 702 702 false (rh 1 _ rfl)) (.cons (.ptr 0 (rh 2 _ rfl)) (.cons (.ptr 0 (rh 5 _ rfl)) (.cons (.ptr 0 (rh 8 _ rfl)) (.cons (.ptr 0 (rh 11 _ rfl)) (.cons (.ptr 0 (rh 14 _ rfl)) (.nil _))))))⟩
  | 1,_ =>
   cases hp
   cases hx
   exact ⟨_,gs,rfl,by rw [slots0_is,← hcls]; exact slotU_ren S⟩
  | 2,_ =>
   cases hp
   cases hx
   exact ⟨_,P0.obj,rfl,.cons (.int _ _ _) (.cons (.slice 0 1 300 300 false (rh 4 _ rfl)) (.cons (.map (rh 3 _ rfl)) (.nil _)))⟩
  | 3,_ =>
   cases hp
   cases hx
   exact ⟨_,P0.keys,by rw [keys0]; exact keys_ren _⟩
  | 4,_ =>
   cases hp
   cases hx
   exact ⟨_,r0,by rw [ints0]; exact ORen.same_ints (ups_ints _ _)⟩
  | 5,_ =>
   cases hp
   cases hx
   exact ⟨_,P1.obj,rfl,.cons (.int _ _ _) (.cons (.slice 0 1 220 220 false (rh 7 _ rfl)) (.cons (.map (rh 6 _ rfl)) (.nil _)))⟩
  | 6,_ =>
   cases hp
   cases hx
   exact ⟨_,P1.keys,by rw [keys1]; exact keys_ren _⟩
  | 7,_ =>
   cases hp
   cases hx
   exact ⟨_,r1,by rw [ints1]; exact ORen.same_ints (ups_ints _ _)⟩
  | 8,_ =>
   cases hp
   cases hx
   exact ⟨_,P2.obj,rfl,.cons (.int _ _ _) (.cons (.slice 0 1 120 120 false (rh 10 _ rfl)) (.cons (.map (rh 9 _ rfl)) (.nil _)))⟩
  | 9,_ =>
   cases hp
   cases hx
   exact ⟨_,P2.keys,by rw [keys2]; exact keys_ren _⟩
  | 10,_ =>
   cases hp
   cases hx
   exact ⟨_,r2,by rw [ints2]; exact ORen.same_ints (ups_ints _ _)⟩
  | 11,_ =>
   cases hp
   cases hx
   exact ⟨_,P3.obj,rfl,.cons (.int _ _ _) (.cons (.slice 0 1 60 60 false (rh 13 _ rfl)) (.cons (.map (rh 12 _ rfl)) (.nil _)))⟩
  | 12,_ =>
   cases hp
   cases hx
   exact ⟨_,P3.keys,by rw [keys3]; exact keys_ren _⟩
  | 13,_ =>
   cases hp
   cases hx
   exact ⟨_,r3,by rw [ints3]; exact ORen.same_ints (ups_ints _ _)⟩
  | 14,_ =>
   cases hp
   cases hx
   exact ⟨_,P4.obj,rfl,.cons (.int _ _ _) (.cons (.slice 0 1 2 2 false (rh 16 _ rfl)) (.cons (.map (rh 15 _ rfl)) (.nil _)))⟩
  | 15,_ =>
   cases hp
   cases hx
   exact ⟨_,P4.keys,by rw [keys4]; exact keys_ren _⟩
  | 16,_ =>
   cases hp
   cases hx
   exact ⟨_,r4,by rw [ints4]; exact ORen.same_ints (ups_ints _ _)⟩
 ·exact .tuple (.cons (.ptr 0 (rh 0 _ rfl)) (.cons (.int _ _ _) (.nil _)))
theorem sim0 : CSim Tryz.prog 82 lit0.args lit0.h lit0.r lit0.h' :=
 gives_gc T1_ok rfl ((anewX fitsA1 mul1 rfl (ns:=ns0) lowA0 rfl (by decide)).mono fun r h' ⟨a,sv,S,Q,hr,N⟩ => by
  subst hr
  exact gc0 N)
def T2 : Vm.Prog:=withEnv T1 82 (litFind [lit0])
theorem T2_ok : TabOk Tryz.prog T2:=lits_sim T1_ok fun l hl => by
 simp only [List.mem_cons,List.not_mem_nil,or_false] at hl
 subst hl; exact sim0
end Go.Proofs.YtakgcpmemalmaaaGreatDoor

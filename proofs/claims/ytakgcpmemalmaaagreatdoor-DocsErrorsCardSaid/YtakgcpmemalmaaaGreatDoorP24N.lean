/- Rows without room, pools of rising numbers: to the last cell. -/
import Derived.Test.YtakgcpmemalmaaaGreatDoorP24B
namespace Go.Proofs.YtakgcpmemalmaaaGreatDoor
open Go.Vm
open Go.RowKit
set_option linter.unusedSimpArgs false
set_option linter.unusedVariables false
variable {T : Vm.Prog} {h : AH}
def TRow (h : AH) (sz n : Nat) (v : AV) (l : List AV) : Prop:=(v = .nilSlice∧n=0∧l=[])∨∃ o,v = .slice o 0 sz n n false∧h.get o=some (.cells l true)∧l.length=n * sz
theorem TRow.len {sz n : Nat} {v : AV} {l : List AV} (r : TRow h sz n v l) : lenOfV v=some n:=by
 rcases r with ⟨rfl,rfl,rfl⟩ | ⟨o,rfl,_⟩ <;> rfl
theorem TRow.keep {h' : AH} {sz n : Nat} {v : AV} {l : List AV} (r : TRow h sz n v l) (hk : ∀ o∈objs v,h'.get o=h.get o) : TRow h' sz n v l:=by
 rcases r with ⟨rfl,rfl,rfl⟩ | ⟨o,rfl,hg,h1⟩
 ·exact .inl ⟨rfl,rfl,rfl⟩
 ·exact .inr ⟨o,rfl,(hk o (by simp [objs])).trans hg,h1⟩
theorem TRow.low {sz n : Nat} {v : AV} {l : List AV} (r : TRow h sz n v l) (hl : Low h) : ∀ o∈objs v,o < h.next:=by
 rcases r with ⟨rfl,rfl,rfl⟩ | ⟨o,rfl,hg,h1⟩
 ·intro o ho; simp [objs] at ho
 ·intro p hp; simp [objs] at hp; subst hp; exact hl _ _ hg
theorem TRow.cell {sz n : Nat} {v : AV} {l : List AV} (r : TRow h sz n v l) : v.cells=[v]∧v.flat=true∧AV.beq v v=true∧v.isDef=true:=by
 rcases r with ⟨rfl,rfl,rfl⟩ | ⟨o,rfl,_⟩
 ·exact ⟨rfl,rfl,by simp [AV.beq],rfl⟩
 ·exact ⟨rfl,rfl,by simp [AV.beq],rfl⟩
theorem TRow.append {v : AV} {sz bytes n : Nat} {l x : List AV} {o2 : Nat} (hlow : Low h) (r : TRow h sz n v l) (hsz : 0 < sz) (hb : bytes≤1048576) (hb0 : 0 < bytes) (hs : n < 1000000) (h2 : h.get o2=some (.cells x true)) (hxl : x.length=sz) (hfl : x.all AV.flat=true) :
  ∃ h',appV sz bytes h v (.slice o2 0 sz 1 1 true)=some (.slice h.next 0 sz (n + 1) (n + 1) false,h')∧TRow h' sz (n + 1) (.slice h.next 0 sz (n + 1) (n + 1) false) (l ++ x)∧Only h h' (objs v)∧Low h'∧h'.next=h.next + 1:=by
 have hel : h.elems sz 1 (.slice o2 0 sz 1 1 true)=some x:=by
  simp only [AH.elems,true_and,Nat.le_refl,if_true,AH.load,h2]
  rw [if_pos (by rw [hxl]; omega),List.drop_zero,List.take_of_length_le (by rw [hxl]; omega)]
 have hroom : ∀ cap ex,roomOk (n + 1) bytes cap ex=true:=by
  intro cap ex
  have : (n + 1) * bytes≤1000000 * 1048576:=Nat.mul_le_mul (by omega) hb
  simp only [roomOk,Bool.or_eq_true,Bool.and_eq_true,decide_eq_true_eq]
  left; omega
 rcases r with ⟨rfl,rfl,rfl⟩ | ⟨o,rfl,hg,h1⟩
 ·refine ⟨h.new (.cells x true),?_,.inr ⟨_,rfl,get_new_same,by simp [hxl]⟩,Only.new (Only.refl h _) _,hlow.new _,next_new⟩
  simp only [appV,len_slice,Option.bind_some,hel,appendV]
  rw [if_neg (by decide),if_pos (show roomOk 1 bytes 0 true=true from hroom 0 true)]
 ·have hlt : o < h.next:=hlow o _ hg
  have hload : h.load o 0 (n * sz)=some l:=by
   simp only [AH.load,hg,List.drop_zero]
   rw [if_pos (by omega),List.take_of_length_le (by omega)]
  have hrw : h.isRw o=true:=by simp [AH.isRw,hg]
  refine ⟨(h.set o .dead).new (.cells (l ++ x) true),?_,.inr ⟨_,rfl,?_,by rw [List.length_append,h1,hxl,Nat.add_mul,Nat.one_mul]⟩,((Only.refl h _).set (.inl (by simp [objs])) _).new _,(hlow.set hlt _).new _,rfl⟩
  ·simp only [appV,len_slice,Option.bind_some,hel,appendV,if_true]
   rw [if_neg (by omega),if_pos (hroom _ _),hload]
   simp [hrw,hfl,next_set]
  ·have:=get_new_same (h:=h.set o .dead) (x := .cells (l ++ x) true)
   rw [next_set] at this; exact this
def upI (b : Nat) : Nat→List Int
 | 0 => []
 | n + 1 => upI b n ++ [((b + n : Nat) : Int)]
theorem upI_len (b : Nat) : ∀ n,(upI b n).length=n
 | 0 => rfl
 | n + 1 => by simp [upI,upI_len b n]
theorem upI_lt (b : Nat) : ∀ n,∀ y∈upI b n,y < ((b + n : Nat) : Int)
 | 0,y,h => by cases h
 | n + 1,y,h => by
  simp only [upI,List.mem_append,List.mem_cons,List.not_mem_nil,or_false] at h
  rcases h with h | rfl
  ·have:=upI_lt b n y h; omega
  ·omega
theorem upI_get (b : Nat) : ∀ n i,i < n→(upI b n)[i]?=some ((b + i : Nat) : Int)
 | 0,i,h => by omega
 | n + 1,i,h => by
  unfold upI
  by_cases e : i=n
  ·subst e
   rw [List.getElem?_append_right (by rw [upI_len]; exact Nat.le_refl _),upI_len,Nat.sub_self]; rfl
  ·rw [List.getElem?_append_left (by rw [upI_len]; omega)]
   exact upI_get b n i (by omega)
def ups (b n : Nat) : List AV:=(upI b n).map (.int .i64)
theorem ups_get {b n i : Nat} (hi : i < n) : (ups b n)[i]?=some (.int .i64 ((b + i : Nat) : Int)):=by
 unfold ups; rw [List.getElem?_map,upI_get b n i hi]; rfl
theorem ups_succ (b n : Nat) : ups b n ++ [.int .i64 ((b + n : Nat) : Int)]=ups b (n + 1):=by simp [ups,upI]
theorem keys_succ (b n : Nat) : keysM (upI b n) ++ [(.int .i64 ((b + n : Nat) : Int),.agg [])]=keysM (upI b (n + 1)):=by simp [keysM,upI]
structure PoolX (h : AH) (p : Nat) (most : Int) (b n : Nat) (v : AV) (mo : Nat) : Prop where
 obj : h.get p=some (.cells [.int .i64 most,v,.map mo] true)
 keys : h.get mo=some (.map (keysM (upI b n)))
 row : TRow h 1 n v (ups b n)
 ne : p≠mo
 apart : ∀ o∈objs v,o≠p∧o≠mo
def footX (p : Nat) (v : AV) (mo : Nat) : List Nat:=p :: mo :: objs v
theorem PoolX.keep {h' : AH} {p : Nat} {most : Int} {b n : Nat} {v : AV} {mo : Nat} (k : PoolX h p most b n v mo) (hk : ∀ o∈footX p v mo,h'.get o=h.get o) : PoolX h' p most b n v mo where
 obj:=(hk p (by simp [footX])).trans k.obj
 keys:=(hk mo (by simp [footX])).trans k.keys
 row:=k.row.keep fun o ho => hk o (by simp [footX,ho])
 ne:=k.ne
 apart:=k.apart
theorem PoolX.low {p : Nat} {most : Int} {b n : Nat} {v : AV} {mo : Nat} (k : PoolX h p most b n v mo) (hl : Low h) : ∀ o∈footX p v mo,o < h.next:=by
 intro o ho
 simp only [footX,List.mem_cons] at ho
 rcases ho with rfl | rfl | ho
 ·exact hl _ _ k.obj
 ·exact hl _ _ k.keys
 ·exact k.row.low hl o ho
theorem put_rise (k : Fits T) {p : Nat} {most : Int} {b n : Nat} {v : AV} {mo : Nat} (P : PoolX h p most b n v mo) (hl : Low h) (hb : ((b + n : Nat) : Int) < most) (hn : n < 100000) :
  Gives T 47 [.ptr p 0,.int .i64 ((b + n : Nat) : Int)] h fun r h' => r = .bool true∧∃ v',PoolX h' p most b (n + 1) v' mo∧(∀ o∈objs v',h.next≤o)∧Only h h' (footX p v mo)∧Low h':=by
 obtain ⟨c1,c2,c3,c4⟩:=P.row.cell
 have pl:=hl _ _ P.obj
 have ml:=hl _ _ P.keys
 have vl:=P.row.low hl
 have nin : ((b + n : Nat) : Int)∉upI b n:=fun hm => by have:=upI_lt b n _ hm; omega
 have onA : Only h ((h.new (.cells [] true)).set h.next (.cells [] true)) []:=Only.set (Only.new (Only.refl h _) _) (.inr (Nat.le_refl _)) _
 have lowA : Low ((h.new (.cells [] true)).set h.next (.cells [] true)):=(hl.new _).set (by rw [next_new]; omega) _
 have nxA : ((h.new (.cells [] true)).set h.next (.cells [] true)).next=h.next + 1:=rfl
 have lk : lookupV h 0 (.agg []) true (.map mo) (.int .i64 ((b + n : Nat) : Int))=some (.tuple [.agg [],.bool false]):=by
  simp only [lookupV,P.keys]
  rw [find_out _ 0 nin]; rfl
 generalize hA : (h.new (.cells [] true)).set h.next (.cells [] true)=gA at onA lowA nxA
 have PA : PoolX gA p most b n v mo:=P.keep fun o ho => onA.2 o (P.low hl o ho) (by simp)
 have upd : mapUpdV gA 0 (.map mo) (.int .i64 ((b + n : Nat) : Int)) (.agg [])=some (gA.set mo (.map (keysM (upI b (n + 1))))):=by
  simp only [mapUpdV,PA.keys]
  rw [find_out _ 0 nin,← keys_succ]; rfl
 have lowB : Low (gA.set mo (.map (keysM (upI b (n + 1))))):=lowA.set (by omega) _
 have onB : Only gA (gA.set mo (.map (keysM (upI b (n + 1))))) [mo]:=Only.set (Only.refl _ _) (.inl (by simp)) _
 have keyB : (gA.set mo (.map (keysM (upI b (n + 1))))).get mo=some (.map (keysM (upI b (n + 1)))):=get_set_same
 have nxB : (gA.set mo (.map (keysM (upI b (n + 1))))).next=h.next + 1:=by rw [next_set]; exact nxA
 generalize gA.set mo (.map (keysM (upI b (n + 1))))=gB at upd lowB onB keyB nxB
 have objB : gB.get p=some (.cells [.int .i64 most,v,.map mo] true):=(onB.2 p (by omega) (by simp [P.ne])).trans PA.obj
 have rowB : TRow gB 1 n v (ups b n):=PA.row.keep fun o ho => onB.2 o (by have:=vl o ho; omega) (by simp [(P.apart o ho).2])
 have onC:=Only.new (Only.refl gB []) (.cells [.int .i64 ((b + n : Nat) : Int)] true)
 have lowC:=lowB.new (.cells [.int .i64 ((b + n : Nat) : Int)] true)
 have nxC : (gB.new (.cells [.int .i64 ((b + n : Nat) : Int)] true)).next=h.next + 2:=by rw [next_new,nxB]
 have cell : (gB.new (.cells [.int .i64 ((b + n : Nat) : Int)] true)).get gB.next=some (.cells [.int .i64 ((b + n : Nat) : Int)] true):=get_new_same
 have objC : (gB.new (.cells [.int .i64 ((b + n : Nat) : Int)] true)).get p=some (.cells [.int .i64 most,v,.map mo] true):=(onC.2 p (by omega) (by simp)).trans objB
 have keyC : (gB.new (.cells [.int .i64 ((b + n : Nat) : Int)] true)).get mo=some (.map (keysM (upI b (n + 1)))):=(onC.2 mo (by omega) (by simp)).trans keyB
 have rowC : TRow (gB.new (.cells [.int .i64 ((b + n : Nat) : Int)] true)) 1 n v (ups b n):=rowB.keep fun o ho => onC.2 o (by have:=vl o ho; omega) (by simp)
 obtain ⟨gD,app,rowD,onD,lowD,nxD⟩:=rowC.append (bytes:=8) lowC (by omega) (by decide) (by decide) (by omega) cell rfl rfl
 rw [ups_succ] at rowD
 have ap : appV 1 8 (gB.new (.cells [.int .i64 ((b + n : Nat) : Int)] true)) v (.slice gB.next 0 1 1 1 true)=some (.slice (h.next + 2) 0 1 (n + 1) (n + 1) false,gD):=by rw [app,nxC]
 rw [nxC] at rowD nxD
 have objD : gD.get p=some (.cells [.int .i64 most,v,.map mo] true):=(onD.2 p (by omega) (fun e => (P.apart p e).1 rfl)).trans objC
 have keyD : gD.get mo=some (.map (keysM (upI b (n + 1)))):=(onD.2 mo (by omega) (fun e => (P.apart mo e).2 rfl)).trans keyC
 have st : storeV gD 1 (.ptr p 1) (.slice (h.next + 2) 0 1 (n + 1) (n + 1) false)=some (gD.set p (.cells [.int .i64 most,.slice (h.next + 2) 0 1 (n + 1) (n + 1) false,.map mo] true)):=store_cell1 objD rfl rfl
 have rowE : TRow (gD.set p (.cells [.int .i64 most,.slice (h.next + 2) 0 1 (n + 1) (n + 1) false,.map mo] true)) 1 (n + 1) (.slice (h.next + 2) 0 1 (n + 1) (n + 1) false) (ups b (n + 1)):=rowD.keep fun o ho => by
  simp only [objs,List.mem_cons,List.not_mem_nil,or_false] at ho
  rw [AH.get_set,if_neg (by omega)]
 have keyE : (gD.set p (.cells [.int .i64 most,.slice (h.next + 2) 0 1 (n + 1) (n + 1) false,.map mo] true)).get mo=some (.map (keysM (upI b (n + 1)))):=by rw [AH.get_set,if_neg P.ne]; exact keyD
 have objE : (gD.set p (.cells [.int .i64 most,.slice (h.next + 2) 0 1 (n + 1) (n + 1) false,.map mo] true)).get p=some (.cells [.int .i64 most,.slice (h.next + 2) 0 1 (n + 1) (n + 1) false,.map mo] true):=get_set_same
 have onE : Only gD (gD.set p (.cells [.int .i64 most,.slice (h.next + 2) 0 1 (n + 1) (n + 1) false,.map mo] true)) [p]:=Only.set (Only.refl _ _) (.inl (by simp)) _
 have lowE : Low (gD.set p (.cells [.int .i64 most,.slice (h.next + 2) 0 1 (n + 1) (n + 1) false,.map mo] true)):=lowD.set (by omega) _
 have ld : loadV (gD.set p (.cells [.int .i64 most,.slice (h.next + 2) 0 1 (n + 1) (n + 1) false,.map mo] true)) false 1 (.ptr p 1)=some (.slice (h.next + 2) 0 1 (n + 1) (n + 1) false):=load_at objE rfl
 generalize gD.set p (.cells [.int .i64 most,.slice (h.next + 2) 0 1 (n + 1) (n + 1) false,.map mo] true)=gE at st rowE keyE objE onE lowE ld
 have lo : LastOk gE (.slice (h.next + 2) 0 1 (n + 1) (n + 1) false) n:=by
  by_cases h0 : n=0
  ·exact .inl h0
  ·right
   rcases rowE with ⟨e,_⟩ | ⟨o,e,hg,hll⟩
   ·cases e
   ·cases e
    refine ⟨.ptr (h.next + 2) (0 + n),.ptr (h.next + 2) (0 + (n - 1) / 2),((b + n : Nat) : Int),((b + (n - 1) / 2 : Nat) : Int),h0,idx_nat (by omega),load_at hg (by rw [Nat.zero_add]; exact ups_get (by omega)),idx_nat (by omega),load_at hg (by rw [Nat.zero_add]; exact ups_get (by omega)),by omega⟩
 refine (put_exact (n:=((b + n : Nat) : Int)) (most:=most) k (by omega) (by omega) (load_at P.obj rfl) (load_at P.obj rfl) lk (by rw [hA]; exact load_at PA.obj rfl) (by rw [hA]; exact upd) (load_at objB rfl) (load_at objC rfl) c3 ap st ld rfl (by omega) lo).mono ?_
 rintro _ _ ⟨rfl,rfl⟩
 refine ⟨rfl,_,⟨objE,keyE,rowE,P.ne,fun o ho => ?_⟩,fun o ho => ?_,?_,lowE⟩
 ·simp only [objs,List.mem_cons,List.not_mem_nil,or_false] at ho; omega
 ·simp only [objs,List.mem_cons,List.not_mem_nil,or_false] at ho; omega
 ·refine ⟨?_,fun q hq hF => ?_⟩
  ·have:=onE.1; omega
  ·simp only [footX,List.mem_cons,not_or] at hF
   rw [onE.2 q (by omega) (by simp [hF.1]),onD.2 q (by omega) hF.2.2,onC.2 q (by omega) (by simp),onB.2 q (by omega) (by simp [hF.2.1]),onA.2 q hq (by simp)]
theorem pnew_ok (k : Fits T) {most : Int} (hl : Low h) (h1 : 0≤most) (h2 : most≤65535) :
  Gives T 46 [.int .i64 most] h fun r h' => r = .tuple [.ptr (h.next + 1) 0,.int .i64 0]∧(∀ b,PoolX h' (h.next + 1) most b 0 .nilSlice h.next)∧Only h h' []∧Low h'∧h'.next=h.next + 2:=by
 refine gives_func (k.env _ (by decide)) (k.at (fn:=a46) rfl) rfl ?_
 have d1 : decide (most < 0)=false:=by simpa using h1
 have d2 : decide (most > 65535)=false:=by simpa using h2
 have hfill : fillV [AV.int .i64 0,.nilSlice,.nilMap] [(0,1,.int .i64 most),(2,1,.map h.next)]=some [.int .i64 most,.nilSlice,.map h.next]:=by simp [fillV,AV.isDef,AV.cells,setMany]
 simp only [a46,c46,vms,vmc,AOpd.val,Nat.reduceEqDiff,reduceCtorEq,Nat.reduceAdd,Nat.reduceBEq,d1,d2,hfill,box_agg,next_new]
 refine ⟨trivial,fun b => ⟨?_,?_,.inl ⟨rfl,rfl,rfl⟩,by omega,fun o ho => (by simp [objs] at ho)⟩,((Only.refl h []).new _).new _,(hl.new _).new _,trivial⟩
 ·have:=get_new_same (h:=h.new (.map [])) (x := .cells [.int .i64 most,.nilSlice,.map h.next] true)
  rw [next_new] at this; exact this
 ·rw [AH.get_new,if_neg (by rw [next_new]; omega),get_new_same]; rfl
end Go.Proofs.YtakgcpmemalmaaaGreatDoor

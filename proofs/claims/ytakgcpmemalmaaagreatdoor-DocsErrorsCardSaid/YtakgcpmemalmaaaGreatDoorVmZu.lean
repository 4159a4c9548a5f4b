/- Words in an object of one's own, told by what stands at each place. -/
import Derived.Test.YtakgcpmemalmaaaGreatDoorVmZt
namespace Go.Vm
open Go.RowKit
set_option linter.unusedSimpArgs false
set_option linter.unusedVariables false
variable {T : Vm.Prog} {h : AH}
def WordsAt (h : AH) (o N : Nat) (g : Nat→Nat) : Prop:=∃ l,h.get o=some (.cells l true)∧l.length=N∧∀ j,j < N→l[j]?=some (.int .u64 (g j : Int))
def wordsV (o N : Nat) : AV := .slice o 0 1 N N true
theorem WordsAt.eq {o N : Nat} {g g' : Nat→Nat} (w : WordsAt h o N g) (e : ∀ j,j < N→g' j=g j) : WordsAt h o N g':=by
 obtain ⟨l,h1,h2,h3⟩:=w
 exact ⟨l,h1,h2,fun j hj => by rw [e j hj]; exact h3 j hj⟩
theorem WordsAt.keep {h' : AH} {o N : Nat} {g : Nat→Nat} (w : WordsAt h o N g) (hk : h'.get o=h.get o) : WordsAt h' o N g:=by
 obtain ⟨l,h1,h2⟩:=w
 exact ⟨l,hk.trans h1,h2⟩
theorem WordsAt.low {o N : Nat} {g : Nat→Nat} (w : WordsAt h o N g) (hl : Low h) : o < h.next:=by
 obtain ⟨l,h1,_⟩:=w
 exact hl _ _ h1
theorem WordsAt.quiet {h' : AH} {o N : Nat} {g : Nat→Nat} (w : WordsAt h o N g) (hl : Low h) (q : Quiet h h') : WordsAt h' o N g:=w.keep (q.2 o (w.low hl) id)
theorem WordsAt.make {N : Nat} (hN : N≤1000000) : mkSliceV h 1 8 [.int .u64 0] (.int .i64 (N : Int)) (.int .i64 (N : Int))=some (wordsV h.next N,h.new (.cells (rep [.int .u64 0] N) true))∧WordsAt (h.new (.cells (rep [.int .u64 0] N) true)) h.next N (fun _ => 0):=by
 refine ⟨mkSlice_nat (Nat.le_refl _) (by omega) (by omega),_,get_new_same,by rw [rep_one]; simp,fun j hj => ?_⟩
 rw [rep_one,List.getElem?_replicate,if_pos hj]
 rfl
theorem WordsAt.load {o N j : Nat} {g : Nat→Nat} (w : WordsAt h o N g) (hj : j < N) : loadV h false 1 (.ptr o j)=some (.int .u64 (g j : Int)):=by
 obtain ⟨l,h1,h2,h3⟩:=w
 exact load_at h1 (h3 j hj)
theorem WordsAt.store {o N j : Nat} {g : Nat→Nat} (w : WordsAt h o N g) (hj : j < N) (v : Nat) : ∃ h',storeV h 1 (.ptr o j) (.int .u64 (v : Int))=some h'∧Upd h h' o∧WordsAt h' o N (fun x => if x=j then v else g x):=by
 obtain ⟨l,h1,h2,h3⟩:=w
 refine ⟨_,store_int h1 (by omega),(Upd.refl h o).set _,_,get_set_same,by simpa using h2,fun x hx => ?_⟩
 show (l.set j _)[x]?=some (.int .u64 (((if x=j then v else g x) : Nat) : Int))
 rw [List.getElem?_set]
 by_cases e : x=j
 ·subst e; rw [if_pos rfl,if_pos (by omega),if_pos rfl]
 ·rw [if_neg (Ne.symm e),if_neg e]; exact h3 x hx
theorem WordsAt.copy {o N i : Nat} {g : Nat→Nat} {sv : AV} {ws : List Nat} (w : WordsAt h o N g) (s : Sees h sv (wcells ws)) (hi : i + ws.length≤N) : ∃ h',copyV 1 h (.slice o i 1 (N - i) (N - i) true) sv=some (.int .i64 (ws.length : Nat),h')∧Upd h h' o∧WordsAt h' o N (fun x => if i≤x∧x < i + ws.length then (ws[x - i]?).getD 0 else g x):=by
 obtain ⟨l,h1,h2,h3⟩:=w
 have hm : min ws.length (N - i)=ws.length:=by omega
 have hel:=sees_elems s
 rw [wcells_len] at hel
 have hln : lenOfV sv=some ws.length:=by rw [s.len,wcells_len]
 simp only [copyV,len_slice,hln,Option.bind_some,hm,hel,if_true]
 by_cases h0 : ws.length=0
 ·have e : ws=[]:=List.eq_nil_of_length_eq_zero h0
  subst e
  refine ⟨h,rfl,Upd.refl _ _,l,h1,h2,fun x hx => ?_⟩
  show l[x]?=some (.int .u64 (((if i≤x∧x < i + ([] : List Nat).length then _ else g x) : Nat) : Int))
  rw [if_neg (by simp)]; exact h3 x hx
 ·have hne : (wcells ws).isEmpty=false:=by
   cases ws with
   | nil => exact absurd rfl h0
   | cons a r => rfl
  have hst : h.store o i (wcells ws)=some (h.set o (.cells (setMany l i (wcells ws)) true)):=by
   simp only [AH.store,h1]
   rw [if_pos ⟨by rw [wcells_len]; omega,wcells_flat _⟩]
  simp only [hne,Bool.false_eq_true,if_false,hst]
  obtain ⟨s1,s2⟩:=setMany_get l (wcells ws) i
  obtain ⟨s3,s4,s5⟩:=s2 (by rw [wcells_len]; omega)
  refine ⟨_,rfl,(Upd.refl h o).set _,_,get_set_same,by rw [s1]; exact h2,fun x hx => ?_⟩
  show _=some (AV.int .u64 (((if i≤x∧x < i + ws.length then (ws[x - i]?).getD 0 else g x) : Nat) : Int))
  by_cases hin : i≤x∧x < i + ws.length
  ·rw [if_pos hin]
   have hxi : x=i + (x - i):=by omega
   obtain ⟨y,hy⟩ : ∃ y,ws[x - i]?=some y:=⟨_,List.getElem?_eq_getElem (by omega)⟩
   have:=s4 (x - i) _ (wcells_get hy)
   rw [← hxi] at this
   rw [this,hy]; rfl
  ·rw [if_neg hin]
   rcases Nat.lt_or_ge x i with h5 | h5
   ·rw [s3 x h5]; exact h3 x hx
   ·rw [s5 x (by rw [wcells_len]; omega)]; exact h3 x hx
theorem WordsAt.row {o N : Nat} {g : Nat→Nat} (w : WordsAt h o N g) : Row1 h (wordsV o N) (wcells ((List.range N).map g)):=by
 obtain ⟨l,h1,h2,h3⟩:=w
 refine row1_of h1 h2 (by simp [wcells_len]) (by simp [wcells_len]) fun i x hx => ?_
 have hi : i < N:=by
  have:=(List.getElem?_eq_some_iff.1 hx).1
  simpa [wcells_len] using this
 rw [h3 i hi]
 simp only [wcells,List.map_map,List.getElem?_map,List.getElem?_range hi,Option.map_some] at hx
 exact hx
end Go.Vm

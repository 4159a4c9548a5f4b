/- Slices of structs that hold slices: what is known of their plain cells; of the slices in them, nothing. -/
import Derived.Test.YtakgcpmemalmaaaGreatDoorVmZj
namespace Go.Vm
open Go.RowKit
set_option linter.unusedSimpArgs false
set_option linter.unusedVariables false
def looseC (P : Program) (t : TypeId) : Option CK:=match P.underlying t with
 | some .bool => some .bool
 | some (.int k) => some (.int k)
 | some .string => some .str
 | some (.slice _) => some .bad
 | _ => none
def looseFs (P : Program) : Nat→List Field→Option (List CK)
 | _,[] => some []
 | o,f :: fs => if f.offset=o∧P.cellsOf f.type=1 then (looseC P f.type).bind fun k => (looseFs P (o + 1) fs).map (k :: ·) else none
def looseE (P : Program) (e : TypeId) : Option (List CK):=match P.underlying e with
 | some (.struct fs) => if P.cellsOf e=fs.toList.length then looseFs P 0 fs.toList else none
 | _ => none
def looseT (P : Program) (t : TypeId) : Bool:=match P.underlying t with
 | some (.slice e) => (looseE P e).isSome && decide (0 < P.cellsOf e)
 | _ => false
section
variable {H : Type} {enc : TypeId×Value→H} {P : Program} {W : World} {held : Bool}
def LooseV (P : Program) (h : AH) (t : TypeId) (a : AV) : Prop:=∃ (e : TypeId) (ks : List CK) (xs : List (List AV)),P.underlying t=some (.slice e)∧looseE P e=some ks∧SeesS h (P.cellsOf e) a xs∧xs.length≤maxLen∧∀ x∈xs,∀ h',CellsAre P h' ks x
theorem LooseV.quiet {h h' : AH} (hl : Low h) (q : Quiet h h') {t : TypeId} {a : AV} (c : LooseV P h t a) : LooseV P h' t a:=by
 obtain ⟨e,ks,xs,h1,h2,h3,h4,h5⟩:=c
 exact ⟨e,ks,xs,h1,h2,h3.keep fun o ho => q.2 o (h3.low hl o ho) id,h4,h5⟩
def CameL (P : Program) (d : Nat) (h : AH) (t : TypeId) (a : AV) : Prop:=if plainT P false d t=true then CameV P h t a else LooseV P h t a
def CameLs (P : Program) (d : Nat) (h : AH) : List TypeId→List AV→Prop
 | [],[] => True
 | t :: ts,a :: as => CameL P d h t a∧CameLs P d h ts as
 | _,_ => False
theorem CameL.quiet {d : Nat} {h h' : AH} (hl : Low h) (q : Quiet h h') {t : TypeId} {a : AV} (c : CameL P d h t a) : CameL P d h' t a:=by
 unfold CameL at *
 split <;> rename_i hp
 ·rw [if_pos hp] at c; exact c.quiet hl q
 ·rw [if_neg hp] at c; exact c.quiet hl q
theorem CameL.v {d : Nat} {h : AH} {t : TypeId} {a : AV} (c : CameL P d h t a) (hp : plainT P false d t=true) : CameV P h t a:=by
 unfold CameL at c; rwa [if_pos hp] at c
theorem CameL.l {d : Nat} {h : AH} {t : TypeId} {a : AV} (c : CameL P d h t a) (hp : plainT P false d t=false) : LooseV P h t a:=by
 unfold CameL at c; rwa [if_neg (by rw [hp]; decide)] at c
theorem LooseV.row {h : AH} {t e : TypeId} {a : AV} {n : Nat} {ks : List CK} (c : LooseV P h t a) (ht : P.underlying t=some (.slice e)) (hk : looseE P e=some ks) (hn : P.cellsOf e=n) : ∃ xs,SeesS h n a xs∧(xs.length : Int) < 9223372036854775808∧∀ x∈xs,CellsAre P h ks x:=by
 obtain ⟨e',ks',xs,h1,h2,h3,h4,h5⟩:=c
 rw [ht] at h1
 cases h1
 rw [hk] at h2; cases h2
 rw [hn] at h3
 rw [maxLen_eq] at h4
 exact ⟨xs,h3,by omega,fun x hx => h5 x hx h⟩
end
end Go.Vm

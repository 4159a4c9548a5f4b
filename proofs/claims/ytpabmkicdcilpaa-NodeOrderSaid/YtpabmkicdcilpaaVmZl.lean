/- What came in, cell by cell. -/
import Derived.Test.YtpabmkicdcilpaaVmZk
namespace Go.Vm
open Go.RowKit
set_option linter.unusedSimpArgs false
set_option linter.unusedVariables false
/-- Kinds of cells. -/
inductive CK where
  | bool
  | int (k : IntKind)
  | str
  | slice (e : TypeId)
  | bad
  deriving DecidableEq
def shapeT (P : Program) : Nat → TypeId → List CK
  | 0, _ => [.bad]
  | d + 1, t => match P.underlying t with
    | some .bool => [.bool]
    | some (.int k) => [.int k]
    | some .string => [.str]
    | some (.slice e) => [.slice e]
    | some (.struct fs) => fs.toList.flatMap fun f => shapeT P d f.type
    | some (.array n e) => (List.replicate n (shapeT P d e)).flatten
    | _ => [.bad]
def CellIs (P : Program) (h : AH) : CK → AV → Prop
  | .bool, a => ∃ b, a = .bool b
  | .int k, a => ∃ n, a = .int k n ∧ (Lit.int k n).wf = true
  | .str, a => ∃ s, a = .str s ∧ s.length ≤ maxLen
  | .slice e, a => ∃ t, P.underlying t = some (.slice e) ∧ Came P h t [a]
  | .bad, _ => True
def CellsAre (P : Program) (h : AH) : List CK → List AV → Prop
  | [], [] => True
  | k :: ks, a :: as => CellIs P h k a ∧ CellsAre P h ks as
  | _, _ => False
theorem CellsAre.append {P : Program} {h : AH} : ∀ {ks ls : List CK} {as bs : List AV}, CellsAre P h ks as → CellsAre P h ls bs → CellsAre P h (ks ++ ls) (as ++ bs)
  | [], _, [], _, _, h2 => h2
  | k :: ks, _, a :: as, _, h1, h2 => ⟨h1.1, CellsAre.append h1.2 h2⟩
  | [], _, _ :: _, _, h1, _ => h1.elim
  | _ :: _, _, [], _, h1, _ => h1.elim
theorem shape_fields {P : Program} {h : AH} {dp : Bool} {d : Nat} (ih : ∀ t cs, plainT P dp d t = true → Came P h t cs → CellsAre P h (shapeT P d t) cs) : ∀ (fs : List Field) (o : Nat) (cs : List AV), contig P o fs cs.length = true → (∀ f ∈ fs, plainT P dp d f.type = true) → (∀ f ∈ fs, Came P h f.type ((cs.drop f.offset).take (P.cellsOf f.type))) → CellsAre P h (fs.flatMap fun f => shapeT P d f.type) (cs.drop o)
  | [], o, cs, hc, _, _ => by
    simp only [contig, beq_iff_eq] at hc
    rw [hc, List.drop_length]; exact trivial
  | f :: fs, o, cs, hc, hp, hx => by
    simp only [contig, Bool.and_eq_true, beq_iff_eq] at hc
    obtain ⟨ho, hc⟩ := hc
    have h1 := ih _ _ (hp f (by simp)) (hx f (by simp))
    have h2 := shape_fields ih fs (o + P.cellsOf f.type) cs hc (fun g hg => hp g (by simp [hg])) (fun g hg => hx g (by simp [hg]))
    have := CellsAre.append h1 h2
    rw [ho, ← List.drop_drop, List.take_append_drop] at this
    exact this
theorem shape_array {P : Program} {h : AH} {dp : Bool} {d n : Nat} {e : TypeId} (ih : ∀ t cs, plainT P dp d t = true → Came P h t cs → CellsAre P h (shapeT P d t) cs) (hp : plainT P dp d e = true) (cs : List AV) : ∀ (m : Nat), m ≤ n → cs.length = n * P.cellsOf e → (∀ i, i < n → Came P h e ((cs.drop (i * P.cellsOf e)).take (P.cellsOf e))) → CellsAre P h (List.replicate m (shapeT P d e)).flatten (cs.take (m * P.cellsOf e))
  | 0, _, _, _ => by simp; exact trivial
  | m + 1, hm, hl, hx => by
    have h1 := shape_array ih hp cs m (by omega) hl hx
    have h2 := ih _ _ hp (hx m (by omega))
    have := CellsAre.append h1 h2
    rw [List.replicate_succ', List.flatten_append, Nat.add_mul, Nat.one_mul, List.take_add]
    simpa using this
theorem came_shape {P : Program} {h : AH} {dp : Bool} : ∀ (d : Nat) (t : TypeId) (cs : List AV), plainT P dp d t = true → Came P h t cs → CellsAre P h (shapeT P d t) cs
  | 0, t, cs, hp, _ => by simp [plainT] at hp
  | d + 1, t, cs, hp, c => by
    have ih := came_shape (P := P) (h := h) (dp := dp) d
    simp only [plainT] at hp
    cases c with
    | bool b ht => simp only [shapeT, ht]; exact ⟨⟨b, rfl⟩, trivial⟩
    | int ht hw => simp only [shapeT, ht]; exact ⟨⟨_, rfl, hw⟩, trivial⟩
    | str ht hl => simp only [shapeT, ht]; exact ⟨⟨_, rfl, hl⟩, trivial⟩
    | nil ht => simp only [shapeT, ht]; exact ⟨⟨t, ht, .nil ht⟩, trivial⟩
    | slice ht hg hl hn hc each => simp only [shapeT, ht]; exact ⟨⟨t, ht, .slice ht hg hl hn hc each⟩, trivial⟩
    | struct ht hl each =>
      simp only [ht, Bool.and_eq_true, List.all_eq_true] at hp
      simp only [shapeT, ht]
      have := shape_fields ih _ 0 cs (by rw [hl]; exact hp.1) hp.2 each
      simpa using this
    | array ht hl each =>
      simp only [ht, Bool.and_eq_true, beq_iff_eq] at hp
      simp only [shapeT, ht]
      have := shape_array (n := _) ih hp.2 cs _ (Nat.le_refl _) (hl.trans hp.1) each
      rw [List.take_of_length_le (by rw [hl, hp.1]; exact Nat.le_refl _)] at this
      exact this
/-- Integers alone. -/
theorem cells_ints {P : Program} {h : AH} {k : IntKind} : ∀ {n : Nat} {cs : List AV}, CellsAre P h (List.replicate n (.int k)) cs → ∃ z : List Int, cs = z.map (.int k) ∧ z.length = n ∧ ∀ x ∈ z, (Lit.int k x).wf = true
  | 0, [], _ => ⟨[], rfl, rfl, fun x hx => by simp at hx⟩
  | n + 1, a :: cs, c => by
    obtain ⟨⟨x, rfl, hw⟩, c2⟩ := c
    obtain ⟨z, rfl, hz, hzw⟩ := cells_ints c2
    exact ⟨x :: z, rfl, by simp [hz], fun y hy => all_cons (Q := fun y => (Lit.int k y).wf = true) hy hw hzw⟩
theorem CameV.shape {P : Program} {h : AH} {t : TypeId} {a : AV} (c : CameV P h t a) {d : Nat} {ks : List CK} (hp : plainT P false d t = true) (hs : shapeT P d t = ks) : ∃ cs, a = avOf P t cs ∧ CellsAre P h ks cs := by
  obtain ⟨cs, c, rfl⟩ := c
  exact ⟨cs, rfl, hs ▸ came_shape d t cs hp c⟩
/-- A struct's or an array's cells. -/
theorem CameV.aggr {P : Program} {h : AH} {t : TypeId} {a : AV} (c : CameV P h t a) {d : Nat} {ks : List CK} (hp : plainT P false d t = true) (hs : shapeT P d t = ks) (ht : (∃ fs, P.underlying t = some (.struct fs)) ∨ ∃ n e, P.underlying t = some (.array n e)) : ∃ cs, a = .agg cs ∧ CellsAre P h ks cs := by
  obtain ⟨cs, rfl, hc⟩ := c.shape hp hs
  refine ⟨cs, ?_, hc⟩
  unfold avOf
  rcases ht with ⟨fs, ht⟩ | ⟨n, e, ht⟩ <;> rw [ht]
end Go.Vm

/- Regions whose order is drawn: one order is run, and what floats is looked at again; then every order comes to the same. -/
import Derived.Test.YtpabmkicdcilpaaVmO
namespace Go.Vm
open Go.RowKit
set_option linter.unusedSimpArgs false
set_option linter.unusedVariables false

/-! ### plans and their check -/
inductive Plan where
  | last (ops looks : List Nat)
  | stage (ops looks : List Nat) (w : Nat) (rest : Plan)

def stuckOper : AOper := ⟨none, .stuck, none⟩
def nth (xs : List AOper) (i : Nat) : AOper := xs.getD i stuckOper

def Plan.items (xs : List AOper) : Plan → List DItem
  | .last ops looks => (ops.map fun i => .op (nth xs i)) ++ (looks.map fun i => .look (nth xs i))
  | .stage ops looks w rest => (ops.map fun i => .op (nth xs i)) ++ ((looks.map fun i => .look (nth xs i)) ++ .op (nth xs w) :: rest.items xs)

def dstsOk (xs : List AOper) : Bool := (List.range xs.length).all fun i => match (nth xs i).dst with
  | none => true
  | some d => (List.range xs.length).all fun j => i == j || !((nth xs j).dst == some d)
def readsOk (M : List Nat) (xs : List AOper) (E i : Nat) : Bool :=
  (nth xs i).reads.all fun t => (List.range xs.length).all fun y => !((nth xs y).dst == some t) ||
    (if E.testBit y then has M i y else !(has M i y) && ((nth xs i).op.cls == 0 || (nth xs i).op.cls == 3) && (y == i || has M y i))
def prevOk (M : List Nat) (prev : Option Nat) (i : Nat) : Bool := match prev with
  | none => true
  | some v => has M i v
def opOk (M : List Nat) (xs : List AOper) (prev : Option Nat) (E i : Nat) : Bool := decide (i < xs.length) && !(E.testBit i) && readsOk M xs E i && prevOk M prev i
/-- Looks that nothing was made behind: they need no second look. -/
def nextG (xs : List AOper) (G i : Nat) : Nat := if (nth xs i).op.cls = 1 then G ||| 1 <<< i else if (nth xs i).op.cls = 0 then G else 0
def stageOk (M : List Nat) (xs : List AOper) (prev : Option Nat) : List Nat → Nat → Nat → Option (Nat × Nat)
  | [], E, G => some (E, G)
  | i :: r, E, G => if opOk M xs prev E i && decide ((nth xs i).op.cls < 3) then stageOk M xs prev r (E ||| 1 <<< i) (nextG xs G i) else none
def looksOk (M : List Nat) (xs : List AOper) (prev : Option Nat) (E G : Nat) (looks : List Nat) : Bool := (List.range xs.length).all fun i =>
  !(E.testBit i) || (nth xs i).op.cls == 0 || (nth xs i).op.cls == 3 || G.testBit i || looks.contains i || (match prev with | some v => has M v i | none => false)
def planOk (M : List Nat) (xs : List AOper) : Plan → Option Nat → Nat → Bool
  | .last ops looks, prev, E => match stageOk M xs prev ops E 0 with
    | some (E', G) => looksOk M xs prev E' G looks && (List.range xs.length).all (E'.testBit ·)
    | none => false
  | .stage ops looks w rest, prev, E => match stageOk M xs prev ops E 0 with
    | some (E', G) => looksOk M xs prev E' G looks && opOk M xs prev E' w && (nth xs w).op.cls == 3 && planOk M xs rest (some w) (E' ||| 1 <<< w)
    | none => false
def edgesOk (ops : Array Oper) : Bool := (List.range ops.size).all fun i => match ops[i]? with
  | some o => o.after.all fun e => !(Region.binds .any e) || decide (e.on < i)
  | none => true

theorem runItems_append (call : Handler) : ∀ (a b : List DItem) (f : Fr) (h : AH), runItems call (a ++ b) f h = (runItems call a f h).bind fun p => runItems call b p.1 p.2
  | [], _, _, _ => rfl
  | .op o :: r, b, f, h => by
    simp only [List.cons_append, runItems]
    cases o.run call f h with
    | none => rfl
    | some p => exact runItems_append call r b p.1 p.2
  | .look o :: r, b, f, h => by
    simp only [List.cons_append, runItems]
    split
    · exact runItems_append call r b f h
    · rfl
theorem runItems_looks {call : Handler} {xs : List AOper} : ∀ {looks : List Nat} {f f' : Fr} {h h' : AH}, runItems call (looks.map fun i => .look (nth xs i)) f h = some (f', h') → f' = f ∧ h' = h ∧ ∀ i ∈ looks, (nth xs i).lookAgain f h = true
  | [], f, f', h, h', hr => by cases hr; exact ⟨rfl, rfl, by simp⟩
  | i :: r, f, f', h, h', hr => by
    simp only [List.map_cons, runItems] at hr
    split at hr
    · rename_i hl
      obtain ⟨h1, h2, h3⟩ := runItems_looks hr
      exact ⟨h1, h2, fun j hj => by rcases List.mem_cons.1 hj with e | e; exact e ▸ hl; exact h3 j e⟩
    · cases hr

/-! ### the invariant -/
section
variable {P : Program} {n : Nat} {ops : Array Oper} {call : Handler}

abbrev comp (P : Program) (n : Nat) (ops : Array Oper) : List AOper := ops.toList.map (cOper P n ops)
theorem comp_length : (comp P n ops).length = ops.size := by simp [comp]
theorem nth_comp {i : Nat} {o : Oper} (h : ops[i]? = some o) : nth (comp P n ops) i = cOper P n ops o := by
  simp [nth, comp, List.getD_eq_getElem?_getD, h]

/-- The frame that an operation sees: of what is written here, the new value if it runs behind the writer, the old one else. -/
def Agree (M : List Nat) (xs : List AOper) (f₀ F : Fr) (i : Nat) (fr : Fr) : Prop := ∀ t ∈ (nth xs i).reads,
  ((∃ y, y < xs.length ∧ (nth xs y).dst = some t ∧ has M i y = false) → fr.at t = f₀.at t) ∧
  ((∀ y, y < xs.length → (nth xs y).dst = some t → has M i y = true) → fr.at t = F.at t)

structure CI (M : List Nat) (xs : List AOper) (call : Handler) (f₀ : Fr) (n₀ : Nat) (E G : Nat) (F : Fr) (H : AH) (pid : Nat → Option Nat) : Prop where
  lt : ∀ i, E.testBit i = true → i < xs.length
  z : ∀ t, (∀ i, E.testBit i = true → (nth xs i).dst ≠ some t) → F.at t = f₀.at t
  rd : ∀ i, E.testBit i = true → ∀ t ∈ (nth xs i).reads, ∀ y, y < xs.length → (nth xs y).dst = some t →
    (has M i y = true ∧ E.testBit y = true) ∨ (has M i y = false ∧ ((nth xs i).op.cls = 0 ∨ (nth xs i).op.cls = 3) ∧ (y = i ∨ has M y i = true))
  pu : ∀ i, E.testBit i = true → (nth xs i).op.cls = 0 → ∀ fr, Agree M xs f₀ F i fr → ∀ H', ∃ v, (nth xs i).run call fr H' = some (fr.put (nth xs i).dst v, H') ∧ ∀ d, (nth xs i).dst = some d → v = F.at d
  ma : ∀ i, E.testBit i = true → (nth xs i).op.cls = 2 → ∀ fr, Agree M xs f₀ F i fr →
    (wantedV fr (nth xs i).guard = some false ∧ ∀ d, (nth xs i).dst = some d → F.at d = .none) ∨
    (wantedV fr (nth xs i).guard = some true ∧ ∃ (mk : Nat → AV) (obj : AObj) (p : Nat), (∀ q, objOf (mk q) = some q) ∧ (∀ h₂, (nth xs i).op.eval fr h₂ = some (.val (mk h₂.next) (h₂.new obj))) ∧ (∀ d, (nth xs i).dst = some d → F.at d = mk p) ∧ pid i = some p)
  pi : ∀ i p, pid i = some p → E.testBit i = true ∧ n₀ ≤ p ∧ p < H.next
  pd : ∀ i j p, pid i = some p → pid j = some p → i = j
  nx : n₀ ≤ H.next
  ge : ∀ i, G.testBit i = true → E.testBit i = true ∧ ∀ fr, Agree M xs f₀ F i fr → ∃ v, (nth xs i).run call fr H = some (fr.put (nth xs i).dst v, H) ∧ ∀ d, (nth xs i).dst = some d → v = F.at d

/-- The frame of the run in some order, and the frame of the one order. -/
def FL (xs : List AOper) (E : Nat) (L : Nat → Prop) (f₀ F fl : Fr) : Prop := ∀ t,
  ((∃ i, E.testBit i = true ∧ ¬ L i ∧ (nth xs i).dst = some t) → fl.at t = f₀.at t) ∧
  ((¬ ∃ i, E.testBit i = true ∧ ¬ L i ∧ (nth xs i).dst = some t) → fl.at t = F.at t)

theorem dstsOk_spec {xs : List AOper} (h : dstsOk xs = true) {i j t : Nat} (hi : i < xs.length) (hj : j < xs.length) (h1 : (nth xs i).dst = some t) (h2 : (nth xs j).dst = some t) : i = j := by
  unfold dstsOk at h
  rw [List.all_eq_true] at h
  have := h i (by simpa using hi)
  rw [h1] at this
  simp only at this
  rw [List.all_eq_true] at this
  have := this j (by simpa using hj)
  simpa [h2] using this
theorem testBit_add {E w i : Nat} : (E ||| 1 <<< w).testBit i = true ↔ E.testBit i = true ∨ w = i := by
  rw [Nat.testBit_or, testBit_one_shl]; simp
theorem Fr.at_put_ne {f : Fr} {d : Option Nat} {v : AV} {t : Nat} (h : d ≠ some t) : (f.put d v).at t = f.at t := by
  cases d with
  | none => rfl
  | some i => rw [Fr.at_put, if_neg (fun e => h (by rw [e]))]
theorem Fr.at_put_self {f : Fr} {d : Option Nat} {v : AV} {t : Nat} (h : d = some t) : (f.put d v).at t = v := by
  subst h; rw [Fr.at_put, if_pos rfl]

variable {M : List Nat} {xs : List AOper} {f₀ : Fr} {n₀ E G : Nat} {F : Fr} {H : AH} {pid : Nat → Option Nat}

/-- What is read by an operation that runs next. -/
theorem readsOk_spec {i : Nat} (h : readsOk M xs E i = true) {t y : Nat} (ht : t ∈ (nth xs i).reads) (hy : y < xs.length) (hd : (nth xs y).dst = some t) :
    (has M i y = true ∧ E.testBit y = true) ∨ (has M i y = false ∧ E.testBit y = false ∧ ((nth xs i).op.cls = 0 ∨ (nth xs i).op.cls = 3) ∧ (y = i ∨ has M y i = true)) := by
  unfold readsOk at h
  rw [List.all_eq_true] at h
  have := h t ht
  rw [List.all_eq_true] at this
  have := this y (by simpa using hy)
  rw [hd] at this
  simp only [beq_self_eq_true, Bool.not_true, Bool.false_or] at this
  split at this
  · rename_i he; exact .inl ⟨this, he⟩
  · rename_i he
    simp only [Bool.and_eq_true, Bool.not_eq_true', Bool.or_eq_true, beq_iff_eq] at this
    exact .inr ⟨this.1.1, by simpa using he, this.1.2, this.2⟩
theorem CI.agree (c : CI M xs call f₀ n₀ E G F H pid) (hD : dstsOk xs = true) {i : Nat} (hr : readsOk M xs E i = true) : Agree M xs f₀ F i F := by
  intro t ht
  refine ⟨?_, fun _ => rfl⟩
  rintro ⟨y, hy, hd, hm⟩
  refine c.z t ?_
  intro j hj hdj
  have : y = j := dstsOk_spec hD hy (c.lt j hj) hd hdj
  subst this
  rcases readsOk_spec hr ht hy hd with ⟨h1, _⟩ | ⟨_, h2, _⟩
  · rw [hm] at h1; cases h1
  · rw [hj] at h2; cases h2

/-- One more operation of the one order: what stays. -/
theorem Agree.of_put (c : CI M xs call f₀ n₀ E G F H pid) (hD : dstsOk xs = true) {i : Nat} (hlt : i < xs.length) (hE : E.testBit i = false) {j : Nat} (hj : E.testBit j = true) {v : AV} {fr : Fr}
    (h : Agree M xs f₀ (F.put (nth xs i).dst v) j fr) : Agree M xs f₀ F j fr := by
  intro t ht
  refine ⟨(h t ht).1, fun hn => ?_⟩
  rw [(h t ht).2 hn]
  refine Fr.at_put_ne ?_
  intro hd
  have hm := hn i hlt hd
  rcases c.rd j hj t ht i hlt hd with ⟨_, h2⟩ | ⟨h1, _⟩
  · rw [hE] at h2; cases h2
  · rw [hm] at h1; cases h1
theorem put_other (c : CI M xs call f₀ n₀ E G F H pid) (hD : dstsOk xs = true) {i : Nat} (hlt : i < xs.length) (hE : E.testBit i = false) {j : Nat} (hj : E.testBit j = true) {v : AV} {d : Nat} (hd : (nth xs j).dst = some d) :
    (F.put (nth xs i).dst v).at d = F.at d := by
  refine Fr.at_put_ne ?_
  intro hi
  have := dstsOk_spec hD hlt (c.lt j hj) hi hd
  subst this
  rw [hj] at hE; cases hE

theorem CI.step (c : CI M xs call f₀ n₀ E G F H pid) (hD : dstsOk xs = true) {i : Nat} (hlt : i < xs.length) (hE : E.testBit i = false) (hr : readsOk M xs E i = true) {v : AV} {H' : AH} {G' : Nat} (hnx : H.next ≤ H'.next)
    (hge : ∀ j, G'.testBit j = true → (G.testBit j = true ∧ H' = H) ∨ (j = i ∧ ∀ fr, Agree M xs f₀ F i fr → (nth xs i).run call fr H' = some (fr.put (nth xs i).dst v, H')))
    (hpu : (nth xs i).op.cls = 0 → ∀ fr, Agree M xs f₀ F i fr → ∀ H', (nth xs i).run call fr H' = some (fr.put (nth xs i).dst v, H'))
    {pid' : Nat → Option Nat} (hp1 : ∀ j, j ≠ i → pid' j = pid j) (hp2 : ∀ p, pid' i = some p → p = H.next ∧ p < H'.next)
    (hma : (nth xs i).op.cls = 2 → ∀ fr, Agree M xs f₀ F i fr → (wantedV fr (nth xs i).guard = some false ∧ v = .none) ∨
      (wantedV fr (nth xs i).guard = some true ∧ ∃ (mk : Nat → AV) (obj : AObj) (p : Nat), (∀ q, objOf (mk q) = some q) ∧ (∀ h₂, (nth xs i).op.eval fr h₂ = some (.val (mk h₂.next) (h₂.new obj))) ∧ v = mk p ∧ pid' i = some p)) :
    CI M xs call f₀ n₀ (E ||| 1 <<< i) G' (F.put (nth xs i).dst v) H' pid' := by
  have hself : Agree M xs f₀ (F.put (nth xs i).dst v) i F := by
    intro t ht
    refine ⟨(c.agree hD hr t ht).1, fun hn => ?_⟩
    by_cases hd : (nth xs i).dst = some t
    · have hm := hn i hlt hd
      rcases readsOk_spec hr ht hlt hd with ⟨_, h2⟩ | ⟨h1, _⟩
      · rw [hE] at h2; cases h2
      · rw [hm] at h1; cases h1
    · rw [Fr.at_put_ne hd]
  have hback : ∀ fr, Agree M xs f₀ (F.put (nth xs i).dst v) i fr → Agree M xs f₀ F i fr := by
    intro fr h t ht
    refine ⟨(h t ht).1, fun hn => ?_⟩
    rw [(h t ht).2 hn]
    exact ((hself t ht).2 hn).symm
  constructor
  · intro j hj
    rcases testBit_add.1 hj with h | h
    · exact c.lt j h
    · exact h ▸ hlt
  · intro t ht
    rw [Fr.at_put_ne (ht i (testBit_add.2 (.inr rfl)))]
    exact c.z t fun j hj => ht j (testBit_add.2 (.inl hj))
  · intro j hj t ht y hy hd
    rcases testBit_add.1 hj with h | h
    · rcases c.rd j h t ht y hy hd with ⟨h1, h2⟩ | h1
      · exact .inl ⟨h1, testBit_add.2 (.inl h2)⟩
      · exact .inr h1
    · subst h
      rcases readsOk_spec hr ht hy hd with ⟨h1, h2⟩ | ⟨h1, _, h3⟩
      · exact .inl ⟨h1, testBit_add.2 (.inl h2)⟩
      · exact .inr ⟨h1, h3⟩
  · intro j hj hc fr ha H2
    rcases testBit_add.1 hj with h | h
    · obtain ⟨u, h1, h2⟩ := c.pu j h hc fr (ha.of_put c hD hlt hE h) H2
      exact ⟨u, h1, fun d hd => by rw [h2 d hd, put_other c hD hlt hE h hd]⟩
    · subst h
      exact ⟨v, hpu hc fr (hback fr ha) H2, fun d hd => (Fr.at_put_self hd).symm⟩
  · intro j hj hc fr ha
    rcases testBit_add.1 hj with h | h
    · have hne : j ≠ i := by intro e; subst e; rw [h] at hE; cases hE
      rcases c.ma j h hc fr (ha.of_put c hD hlt hE h) with ⟨h1, h2⟩ | ⟨h1, mk, obj, p, h2, h3, h4, h5⟩
      · exact .inl ⟨h1, fun d hd => by rw [put_other c hD hlt hE h hd]; exact h2 d hd⟩
      · exact .inr ⟨h1, mk, obj, p, h2, h3, fun d hd => by rw [put_other c hD hlt hE h hd]; exact h4 d hd, by rw [hp1 j hne]; exact h5⟩
    · subst h
      rcases hma hc fr (hback fr ha) with ⟨h1, h2⟩ | ⟨h1, mk, obj, p, h2, h3, h4, h5⟩
      · exact .inl ⟨h1, fun d hd => by rw [Fr.at_put_self hd]; exact h2⟩
      · exact .inr ⟨h1, mk, obj, p, h2, h3, fun d hd => by rw [Fr.at_put_self hd]; exact h4, h5⟩
  · intro j p hj
    by_cases hji : j = i
    · subst hji
      obtain ⟨h1, h2⟩ := hp2 p hj
      exact ⟨testBit_add.2 (.inr rfl), by have := c.nx; omega, h2⟩
    · rw [hp1 j hji] at hj
      obtain ⟨h1, h2, h3⟩ := c.pi j p hj
      exact ⟨testBit_add.2 (.inl h1), h2, by omega⟩
  · intro j k p hj hk
    by_cases hji : j = i
    · subst hji
      by_cases hkj : k = j
      · exact hkj.symm
      · rw [hp1 k hkj] at hk
        have h1 := (c.pi k p hk).2.2
        have h2 := (hp2 p hj).1
        omega
    · by_cases hki : k = i
      · subst hki
        rw [hp1 j hji] at hj
        have h1 := (c.pi j p hj).2.2
        have h2 := (hp2 p hk).1
        omega
      · rw [hp1 j hji] at hj
        rw [hp1 k hki] at hk
        exact c.pd j k p hj hk
  · have := c.nx; omega
  · intro j hj
    rcases hge j hj with ⟨h, rfl⟩ | ⟨rfl, h⟩
    · obtain ⟨h1, h2⟩ := c.ge j h
      refine ⟨testBit_add.2 (.inl h1), fun fr ha => ?_⟩
      obtain ⟨u, h3, h4⟩ := h2 fr (ha.of_put c hD hlt hE h1)
      exact ⟨u, h3, fun d hd => by rw [h4 d hd, put_other c hD hlt hE h1 hd]⟩
    · exact ⟨testBit_add.2 (.inr rfl), fun fr ha => ⟨v, h fr (hback fr ha), fun d hd => (Fr.at_put_self hd).symm⟩⟩
end
end Go.Vm

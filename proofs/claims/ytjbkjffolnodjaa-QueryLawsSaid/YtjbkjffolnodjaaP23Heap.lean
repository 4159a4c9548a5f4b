/- Chapter 23: what Union does with two rising lists: the heap of lists. -/
import Derived.Test.YtjbkjffolnodjaaP23Set
import Derived.Test.YtjbkjffolnodjaaP23U
namespace Go.Proofs.Ytjbkjffolnodjaa
open Go.Vm
set_option linter.unusedSimpArgs false
set_option linter.unusedVariables false
set_option maxRecDepth 100000
variable {T : Vm.Prog} {h h0 h' : AH} {p : Nat} {rv v w : AV} {vs : List AV} {L : List (List Int)}
theorem row1_put {v : AV} {xs : List AV} (r : Row1 h v xs) {i : Nat} {x : AV} (hx : xs[i]? = some x) : ∃ o, objs v = [o] ∧ idxAddrV 1 v (.int .i64 (i : Int)) = some (.ptr o i) ∧ loadV h false 1 (.ptr o i) = some x ∧ ∀ y : AV, y.cells = [y] → y.flat = true → ∃ h', storeV h 1 (.ptr o i) y = some h' ∧ Upd h h' o ∧ Row1 h' v (xs.set i y) := by
  have hx' : (xs.map fun x => [x])[i]? = some [x] := by simp [hx]
  obtain ⟨o, h1, h2, h3, h4⟩ := RowS.at r hx'
  rw [Nat.mul_one] at h2
  have h5 := h3 0 x rfl
  rw [Nat.mul_one, Nat.add_zero] at h5
  refine ⟨o, h1, h2, h5, fun y hc hf => ?_⟩
  obtain ⟨h', st, u, r'⟩ := h4 0 y (by decide) hc hf
  rw [Nat.mul_one, Nat.add_zero] at st
  refine ⟨h', st, u, ?_⟩
  have e : (xs.set i y).map (fun x => [x]) = (xs.map fun x => [x]).set i ([x].set 0 y) := by rw [List.map_set]; rfl
  show RowS h' 1 v ((xs.set i y).map fun x => [x])
  rw [e]; exact r'
/-- A heap's rows in memory. -/
structure HR (h0 h : AH) (p : Nat) (rv : AV) (vs : List AV) : Prop where
  lo : Low h
  qt : Quiet h0 h
  pn : h0.next ≤ p
  cell : h.get p = some (.cells [rv] true)
  row : Row1 h rv vs
  ro : ∀ o ∈ objs rv, h0.next ≤ o ∧ o ≠ p
theorem HR.load (H : HR h0 h p rv vs) : loadV h false 1 (.ptr p 0) = some rv := load_at H.cell rfl
theorem HR.len (H : HR h0 h p rv vs) : lenOfV rv = some vs.length := H.row.sees.len
theorem HR.upd (H : HR h0 h p rv vs) {o : Nat} (ho : objs rv = [o]) (u : Upd h h' o) {vs' : List AV} (r : Row1 h' rv vs') : HR h0 h' p rv vs' where
  lo := H.lo.upd u (RowS.low H.row H.lo o (by rw [ho]; simp))
  qt := ⟨by rw [u.1]; exact H.qt.1, fun q hq hf => (u.2 q fun e => by have := (H.ro o (by rw [ho]; simp)).1; omega).trans (H.qt.2 q hq hf)⟩
  pn := H.pn
  cell := (u.2 p fun e => (H.ro o (by rw [ho]; simp)).2 e.symm).trans H.cell
  row := r
  ro := H.ro
/-- One of the rows. -/
structure In1 (h : AH) (p : Nat) (rv v : AV) (A : List Int) : Prop where
  sees : Sees h v (izs A)
  cap : capOk v
  out : ∀ o ∈ objs v, o ≠ p ∧ o ∉ objs rv
  short : A.length < 1000000
theorem sees_same {v : AV} {xs : List AV} (s : Sees h v xs) (hk : ∀ o ∈ objs v, h'.get o = h.get o) : Sees h' v xs := by
  rcases s with ⟨rfl, rfl⟩ | ⟨o, off, cap, ex, l, rw, rfl, hg, h1⟩
  · exact .inl ⟨rfl, rfl⟩
  · exact .inr ⟨o, off, cap, ex, l, rw, rfl, (hk o (by simp [objs])).trans hg, h1⟩
theorem In1.upd {A : List Int} (I : In1 h p rv v A) {o : Nat} (ho : o ∈ objs rv) (u : Upd h h' o) : In1 h' p rv v A :=
  ⟨sees_same I.sees fun q hq => u.2 q fun e => (I.out q hq).2 (e ▸ ho), I.cap, I.out, I.short⟩
theorem sees_cell {v : AV} {xs : List AV} (s : Sees h v xs) : v.cells = [v] ∧ v.flat = true := by
  rcases s with ⟨rfl, _⟩ | ⟨_, _, _, _, _, _, rfl, _⟩ <;> exact ⟨rfl, rfl⟩
theorem hless_ok (k : Base T) (H : HR h0 h p rv vs) {i j : Nat} {v w : AV} {a b : Int} {A B : List Int} (hi : vs[i]? = some v) (hj : vs[j]? = some w) (Iv : In1 h p rv v (a :: A)) (Iw : In1 h p rv w (b :: B)) :
    Gives T 85 [rv, .int .i64 (i : Int), .int .i64 (j : Int)] h fun r h' => r = .bool (decide (a < b)) ∧ h' = h := by
  refine gives_func (k.env _ (by decide)) (k.at (fn := a85) rfl) rfl ?_
  obtain ⟨o, _, i1, l1, _⟩ := row1_put H.row hi
  obtain ⟨o2, _, i2, l2, _⟩ := row1_put H.row hj
  obtain ⟨pa, i3, l3⟩ := Iv.sees.at (i := 0) (x := .int .i64 a) rfl .i64
  obtain ⟨pb, i4, l4⟩ := Iw.sees.at (i := 0) (x := .int .i64 b) rfl .i64
  have i3' : idxAddrV 1 v (.int .i64 0) = some pa := i3
  have i4' : idxAddrV 1 w (.int .i64 0) = some pb := i4
  simp only [a85, c85, vms, vmc, AOpd.val, Nat.reduceEqDiff, reduceCtorEq, Nat.reduceAdd, Nat.reduceBEq, i1, l1, i2, l2, i3', l3, i4', l4]
  exact ⟨trivial, trivial⟩
theorem hswap_ok (k : Base T) (H : HR h0 h p rv [v, w]) (hv : v.cells = [v] ∧ v.flat = true) (hw : w.cells = [w] ∧ w.flat = true) :
    Gives T 88 [rv, .int .i64 0, .int .i64 1] h fun r h' => HR h0 h' p rv [w, v] ∧ ∃ o, objs rv = [o] ∧ Upd h h' o := by
  refine gives_func (k.env _ (by decide)) (k.at (fn := a88) rfl) rfl ?_
  obtain ⟨o, ho, i1, l1, s1⟩ := row1_put H.row (i := 0) (x := v) rfl
  obtain ⟨o2, ho2, i2, l2, _⟩ := row1_put H.row (i := 1) (x := w) rfl
  obtain ⟨h1, st1, u1, r1⟩ := s1 w hw.1 hw.2
  obtain ⟨o3, ho3, i3, l3, s3⟩ := row1_put r1 (i := 1) (x := w) rfl
  obtain ⟨h2, st2, u2, r2⟩ := s3 v hv.1 hv.2
  have e3 : o3 = o := by rw [ho] at ho3; simp only [List.cons.injEq, and_true] at ho3; exact ho3.symm
  subst e3
  have e2 : o2 = o3 := by rw [ho] at ho2; simp only [List.cons.injEq, and_true] at ho2; exact ho2.symm
  subst e2
  have i1' : idxAddrV 1 rv (.int .i64 0) = some (.ptr o2 0) := i1
  have i2' : idxAddrV 1 rv (.int .i64 1) = some (.ptr o2 1) := i2
  simp only [a88, c88, vms, vmc, AOpd.val, Nat.reduceEqDiff, reduceCtorEq, Nat.reduceAdd, Nat.reduceBEq, i1', i2', l1, l2, st1, st2]
  exact ⟨(H.upd ho u1 r1).upd ho u2 r2, o2, ho, u1.trans u2⟩
theorem hlen_ok (k : Base T) (H : HR h0 h p rv vs) : Gives T 29 [rv] h fun r h' => r = .int .i64 (vs.length : Int) ∧ h' = h := by
  refine gives_func (k.env _ (by decide)) (k.at (fn := a29) rfl) rfl ?_
  simp only [a29, c29, vms, vmc, AOpd.val, Nat.reduceEqDiff, reduceCtorEq, Nat.reduceAdd, Nat.reduceBEq, H.len]
  exact ⟨trivial, trivial⟩
theorem up0_ok (k : Base T) : Gives T 47 [.iface 57 (.ptr p 0), .int .i64 0] h fun r h' => h' = h := by
  refine gives_func (k.env _ (by decide)) (k.at (fn := a47) rfl) rfl ?_
  simp only [a47, c47, vms, vmc, AOpd.val, Nat.reduceEqDiff, reduceCtorEq, Nat.reduceAdd, Nat.reduceBEq]
  have e1 : IntKind.i64.wrap ((0 : Int) - 1) = -1 := rfl
  have e2 : binV .quo (.int .i64 (-1)) (.int .i64 2) = some (.int .i64 0) := rfl
  refine wpc_loop (fun m f h' => f.at 1 = .int .i64 0 ∧ h' = h) ?_ 0 _ _ ⟨?_, rfl⟩
  · rintro m f _ ⟨f1, rfl⟩
    simp only [c47l0, vms, vmc, AOpd.val, Nat.reduceEqDiff, reduceCtorEq, Nat.reduceAdd, Nat.reduceBEq, f1, e1, e2, show ((0 : Int) == 0) = true from rfl]
  · simp only [vms, vmc, AOpd.val, Nat.reduceEqDiff, reduceCtorEq, Nat.reduceAdd, Nat.reduceBEq]
/-- Two rows, by their heads. -/
def ord (a b : Int) (v w : AV) : List AV := if b < a then [w, v] else [v, w]
theorem up1_ok (k : Base T) (H : HR h0 h p rv [v, w]) {a b : Int} {A B : List Int} (Iv : In1 h p rv v (a :: A)) (Iw : In1 h p rv w (b :: B)) :
    Gives T 47 [.iface 57 (.ptr p 0), .int .i64 1] h fun r h' => HR h0 h' p rv (ord a b v w) ∧ ∃ o ∈ objs rv, Upd h h' o := by
  refine gives_func (k.env _ (by decide)) (k.at (fn := a47) rfl) rfl ?_
  simp only [a47, c47, vms, vmc, AOpd.val, Nat.reduceEqDiff, reduceCtorEq, Nat.reduceAdd, Nat.reduceBEq]
  obtain ⟨o, ho, -⟩ := row1_put H.row (i := 0) (x := v) rfl
  have e1 : IntKind.i64.wrap ((0 : Int) - 1) = -1 := rfl
  have e2 : binV .quo (.int .i64 (-1)) (.int .i64 2) = some (.int .i64 0) := rfl
  have e3 : IntKind.i64.wrap ((1 : Int) - 1) = 0 := rfl
  have e4 : binV .quo (.int .i64 0) (.int .i64 2) = some (.int .i64 0) := rfl
  refine wpc_loop (fun m f h' => f.at 0 = .iface 57 (.ptr p 0) ∧ ((m = 1 ∧ f.at 1 = .int .i64 1 ∧ h' = h) ∨ (m = 0 ∧ f.at 1 = .int .i64 0 ∧ HR h0 h' p rv (ord a b v w) ∧ ∃ o ∈ objs rv, Upd h h' o))) ?_ 1 _ _ ⟨?_, .inl ⟨rfl, ?_, rfl⟩⟩
  · rintro m f h' ⟨f0, ⟨rfl, f1, rfl⟩ | ⟨rfl, f1, H2, hu⟩⟩
    · skip
      simp only [c47l0, vms, vmc, AOpd.val, Nat.reduceEqDiff, reduceCtorEq, Nat.reduceAdd, Nat.reduceBEq, f0, f1, e3, e4, show ((0 : Int) == 1) = false from rfl, H.load]
      refine Gives.bind ((hless_ok k H (i := 1) (j := 0) rfl rfl Iw Iv).mono ?_)
      rintro _ _ ⟨rfl, rfl⟩
      rename_i h
      by_cases hlt : b < a
      · have d : decide (b < a) = true := by simpa using hlt
        simp only [d, vms, vmc, AOpd.val, Nat.reduceEqDiff, reduceCtorEq, Nat.reduceAdd, Nat.reduceBEq, f0, f1, H.load]
        refine Gives.bind ((hswap_ok k H (sees_cell Iv.sees) (sees_cell Iw.sees)).mono ?_)
        rintro _ h2 ⟨H2, o2, ho2, u2⟩
        simp only [vms, vmc, AOpd.val, Nat.reduceEqDiff, reduceCtorEq, Nat.reduceAdd, Nat.reduceBEq, f0]
        refine ⟨0, by omega, trivial, .inr ⟨by first | trivial | rfl, by first | trivial | rfl, ?_, o2, by rw [ho2]; simp, u2⟩⟩
        unfold ord; rw [if_pos hlt]; exact H2
      · have d : decide (b < a) = false := by simpa using hlt
        simp only [d, vms, vmc, AOpd.val, Nat.reduceEqDiff, reduceCtorEq, Nat.reduceAdd, Nat.reduceBEq]
        refine ⟨?_, o, by rw [ho]; simp, Upd.refl h o⟩
        unfold ord; rw [if_neg hlt]; exact H
    · simp only [c47l0, vms, vmc, AOpd.val, Nat.reduceEqDiff, reduceCtorEq, Nat.reduceAdd, Nat.reduceBEq, f0, f1, e1, e2, show ((0 : Int) == 0) = true from rfl]
      exact ⟨H2, hu⟩
  · simp only [vms, vmc, AOpd.val, Nat.reduceEqDiff, reduceCtorEq, Nat.reduceAdd, Nat.reduceBEq]
  · simp only [vms, vmc, AOpd.val, Nat.reduceEqDiff, reduceCtorEq, Nat.reduceAdd, Nat.reduceBEq]
def c48t : ACode := cSnd (cSnd (cSnd c48))
theorem c48_eq : c48 = .seq (.ops [⟨(some 6), .mov (.con (.bool false)), none⟩]) (.seq (.ops [⟨(some 11), .mov (.tmp 1), none⟩, ⟨(some 7), .mov (.tmp 11), none⟩]) (.seq (.block 0 (.loop c48l0)) c48t)) := rfl
theorem down1_ok (k : Base T) : Gives T 48 [.iface 57 (.ptr p 0), .int .i64 0, .int .i64 1] h fun r h' => r = .bool false ∧ h' = h := by
  refine gives_func (k.env _ (by decide)) (k.at (fn := a48) rfl) rfl ?_
  simp only [a48, c48_eq, vms, vmc, AOpd.val, Nat.reduceEqDiff, reduceCtorEq, Nat.reduceAdd, Nat.reduceBEq]
  have e1 : IntKind.i64.wrap (2 * (0 : Int)) = 0 := rfl
  have e2 : IntKind.i64.wrap ((0 : Int) + 1) = 1 := rfl
  refine wpc_loop (fun m f h' => f.at 1 = .int .i64 0 ∧ f.at 2 = .int .i64 1 ∧ f.at 7 = .int .i64 0 ∧ h' = h) ?_ 0 _ _ ⟨?_, ?_, ?_, rfl⟩
  · rintro m f _ ⟨f1, f2, f7, rfl⟩
    simp only [c48l0, vms, vmc, AOpd.val, Nat.reduceEqDiff, reduceCtorEq, Nat.reduceAdd, Nat.reduceBEq, f2, f7, e1, e2, show decide ((1 : Int) ≥ 1) = true from rfl]
    simp only [c48t, c48, cSnd, vms, vmc, AOpd.val, Nat.reduceEqDiff, reduceCtorEq, Nat.reduceAdd, Nat.reduceBEq, f1, f7, show decide ((0 : Int) > 0) = false from rfl]
    exact ⟨trivial, trivial⟩
  all_goals (simp only [vms, vmc, AOpd.val, Nat.reduceEqDiff, reduceCtorEq, Nat.reduceAdd, Nat.reduceBEq] <;> rfl)
theorem down2_ok (k : Base T) (H : HR h0 h p rv [v, w]) {a b : Int} {A B : List Int} (Iv : In1 h p rv v (a :: A)) (Iw : In1 h p rv w (b :: B)) :
    Gives T 48 [.iface 57 (.ptr p 0), .int .i64 0, .int .i64 2] h fun r h' => r = .bool (decide (b < a)) ∧ HR h0 h' p rv (ord a b v w) ∧ ∃ o ∈ objs rv, Upd h h' o := by
  refine gives_func (k.env _ (by decide)) (k.at (fn := a48) rfl) rfl ?_
  simp only [a48, c48_eq, vms, vmc, AOpd.val, Nat.reduceEqDiff, reduceCtorEq, Nat.reduceAdd, Nat.reduceBEq]
  obtain ⟨o, ho, -⟩ := row1_put H.row (i := 0) (x := v) rfl
  have e1 : IntKind.i64.wrap (2 * (0 : Int)) = 0 := rfl
  have e2 : IntKind.i64.wrap ((0 : Int) + 1) = 1 := rfl
  have e3 : IntKind.i64.wrap ((1 : Int) + 1) = 2 := rfl
  have e4 : IntKind.i64.wrap (2 * (1 : Int)) = 2 := rfl
  have e5 : IntKind.i64.wrap ((2 : Int) + 1) = 3 := rfl
  refine wpc_loop (fun m f h' => f.at 0 = .iface 57 (.ptr p 0) ∧ f.at 1 = .int .i64 0 ∧ f.at 2 = .int .i64 2 ∧ ((m = 1 ∧ f.at 7 = .int .i64 0 ∧ h' = h) ∨ (m = 0 ∧ b < a ∧ f.at 7 = .int .i64 1 ∧ HR h0 h' p rv (ord a b v w) ∧ ∃ o ∈ objs rv, Upd h h' o))) ?_ 1 _ _ ⟨?_, ?_, ?_, .inl ⟨rfl, ?_, rfl⟩⟩
  · rintro m f h' ⟨f0, f1, f2, ⟨rfl, f7, rfl⟩ | ⟨rfl, hlt, f7, H2, hu⟩⟩
    · skip
      simp only [c48l0, vms, vmc, AOpd.val, Nat.reduceEqDiff, reduceCtorEq, Nat.reduceAdd, Nat.reduceBEq, f0, f2, f7, e1, e2, e3, show decide ((1 : Int) ≥ 2) = false from rfl, show decide ((1 : Int) < 0) = false from rfl, show decide ((2 : Int) < 2) = false from rfl, H.load]
      refine Gives.bind ((hless_ok k H (i := 1) (j := 0) rfl rfl Iw Iv).mono ?_)
      rintro _ _ ⟨rfl, rfl⟩
      rename_i h
      by_cases hlt : b < a
      · have d : decide (b < a) = true := by simpa using hlt
        simp only [d, vms, vmc, AOpd.val, Nat.reduceEqDiff, reduceCtorEq, Nat.reduceAdd, Nat.reduceBEq, f0, f7, H.load]
        refine Gives.bind ((hswap_ok k H (sees_cell Iv.sees) (sees_cell Iw.sees)).mono ?_)
        rintro _ h2 ⟨H2, o2, ho2, u2⟩
        simp only [vms, vmc, AOpd.val, Nat.reduceEqDiff, reduceCtorEq, Nat.reduceAdd, Nat.reduceBEq, f0, f1, f2]
        refine ⟨0, by omega, trivial, trivial, trivial, .inr ⟨by first | trivial | rfl, hlt, by first | trivial | rfl, ?_, o2, by rw [ho2]; simp, u2⟩⟩
        unfold ord; rw [if_pos hlt]; exact H2
      · have d : decide (b < a) = false := by simpa using hlt
        simp only [d, vms, vmc, AOpd.val, Nat.reduceEqDiff, reduceCtorEq, Nat.reduceAdd, Nat.reduceBEq]
        simp only [c48t, c48, cSnd, vms, vmc, AOpd.val, Nat.reduceEqDiff, reduceCtorEq, Nat.reduceAdd, Nat.reduceBEq, f1, f7, show decide ((0 : Int) > 0) = false from rfl]
        refine ⟨trivial, ?_, o, by rw [ho]; simp, Upd.refl h o⟩
        unfold ord; rw [if_neg hlt]; exact H
    · have d : decide (b < a) = true := by simpa using hlt
      simp only [c48l0, vms, vmc, AOpd.val, Nat.reduceEqDiff, reduceCtorEq, Nat.reduceAdd, Nat.reduceBEq, f0, f2, f7, e4, e5, show decide ((3 : Int) ≥ 2) = true from rfl]
      simp only [c48t, c48, cSnd, vms, vmc, AOpd.val, Nat.reduceEqDiff, reduceCtorEq, Nat.reduceAdd, Nat.reduceBEq, f1, f7, show decide ((1 : Int) > 0) = true from rfl, d]
      exact ⟨trivial, H2, hu⟩
  all_goals (simp only [vms, vmc, AOpd.val, Nat.reduceEqDiff, reduceCtorEq, Nat.reduceAdd, Nat.reduceBEq] <;> rfl)
/-- The heap's rows show these lists; ro holds the rows' object, E those of the lists. -/
def HS (h0 h : AH) (p : Nat) (ro : List Nat) (E : Nat → Prop) (L : List (List Int)) : Prop := ∃ rv vs, objs rv = ro ∧ HR h0 h p rv vs ∧ vs.length = L.length ∧ ∀ (i : Nat) (v : AV) (A : List Int), vs[i]? = some v → L[i]? = some A → In1 h p rv v A ∧ ∀ o ∈ objs v, E o
/-- Nothing but the heap was touched. -/
def Tch (h h' : AH) (p : Nat) (ro : List Nat) : Prop := h'.next = h.next ∧ ∀ q, q ≠ p → q ∉ ro → h'.get q = h.get q
theorem Tch.refl (h : AH) (p : Nat) (ro : List Nat) : Tch h h p ro := ⟨rfl, fun _ _ _ => rfl⟩
theorem Tch.trans {a b c : AH} {p : Nat} {ro : List Nat} (k : Tch a b p ro) (m : Tch b c p ro) : Tch a c p ro := ⟨m.1.trans k.1, fun q h1 h2 => (m.2 q h1 h2).trans (k.2 q h1 h2)⟩
theorem Upd.tch {o p : Nat} {ro : List Nat} (u : Upd h h' o) (ho : o = p ∨ o ∈ ro) : Tch h h' p ro :=
  ⟨u.1, fun q h1 h2 => u.2 q fun e => by subst e; exact ho.elim h1 h2⟩
section
variable {ro : List Nat} {E : Nat → Prop}
theorem HS.one {A : List Int} (s : HS h0 h p ro E [A]) : ∃ rv v, objs rv = ro ∧ HR h0 h p rv [v] ∧ In1 h p rv v A ∧ ∀ o ∈ objs v, E o := by
  obtain ⟨rv, vs, hr, H, hl, hi⟩ := s
  match vs, hl with
  | [v], _ => exact ⟨rv, v, hr, H, hi 0 v A rfl rfl⟩
theorem HS.two {A B : List Int} (s : HS h0 h p ro E [A, B]) : ∃ rv v w, objs rv = ro ∧ HR h0 h p rv [v, w] ∧ (In1 h p rv v A ∧ ∀ o ∈ objs v, E o) ∧ (In1 h p rv w B ∧ ∀ o ∈ objs w, E o) := by
  obtain ⟨rv, vs, hr, H, hl, hi⟩ := s
  match vs, hl with
  | [v, w], _ => exact ⟨rv, v, w, hr, H, hi 0 v A rfl rfl, hi 1 w B rfl rfl⟩
theorem HS.of0 (hr : objs rv = ro) (H : HR h0 h p rv []) : HS h0 h p ro E [] := ⟨rv, [], hr, H, rfl, fun i v A hv => by simp at hv⟩
theorem HS.of1 {A : List Int} (hr : objs rv = ro) (H : HR h0 h p rv [v]) (I : In1 h p rv v A ∧ ∀ o ∈ objs v, E o) : HS h0 h p ro E [A] :=
  ⟨rv, [v], hr, H, rfl, fun i u C hu hC => by
    match i with
    | 0 => simp at hu hC; subst hu; subst hC; exact I
    | i + 1 => simp at hu⟩
theorem HS.of2 {A B : List Int} (hr : objs rv = ro) (H : HR h0 h p rv [v, w]) (I : In1 h p rv v A ∧ ∀ o ∈ objs v, E o) (J : In1 h p rv w B ∧ ∀ o ∈ objs w, E o) : HS h0 h p ro E [A, B] :=
  ⟨rv, [v, w], hr, H, rfl, fun i u C hu hC => by
    match i with
    | 0 => simp at hu hC; subst hu; subst hC; exact I
    | 1 => simp at hu hC; subst hu; subst hC; exact J
    | i + 2 => simp at hu⟩
def ordL (A B : List Int) : List (List Int) := if B.headD 0 < A.headD 0 then [B, A] else [A, B]
theorem HS.ord {a b : Int} {A B : List Int} (hr : objs rv = ro) (H : HR h0 h' p rv (ord a b v w)) (hu : ∃ o ∈ objs rv, Upd h h' o) (I : In1 h p rv v (a :: A) ∧ ∀ o ∈ objs v, E o) (J : In1 h p rv w (b :: B) ∧ ∀ o ∈ objs w, E o) : HS h0 h' p ro E (ordL (a :: A) (b :: B)) ∧ Tch h h' p ro := by
  obtain ⟨o, ho, u⟩ := hu
  have I' := I.1.upd ho u
  have J' := J.1.upd ho u
  refine ⟨?_, Upd.tch u (.inr (hr ▸ ho))⟩
  unfold Go.Proofs.Ytjbkjffolnodjaa.ord at H
  by_cases hlt : b < a
  · rw [if_pos hlt] at H
    rw [show ordL (a :: A) (b :: B) = [b :: B, a :: A] by simp [ordL, hlt]]
    exact HS.of2 hr H ⟨J', J.2⟩ ⟨I', I.2⟩
  · rw [if_neg hlt] at H
    rw [show ordL (a :: A) (b :: B) = [a :: A, b :: B] by simp [ordL, hlt]]
    exact HS.of2 hr H ⟨I', I.2⟩ ⟨J', J.2⟩
theorem fix1_ok (k : Base T) {A : List Int} (s : HS h0 h p ro E [A]) : Gives T 42 [.iface 57 (.ptr p 0), .int .i64 0] h fun r h' => h' = h := by
  obtain ⟨rv, v, hr, H, I⟩ := s.one
  refine gives_func (k.env _ (by decide)) (k.at (fn := a42) rfl) rfl ?_
  simp only [a42, c42, vms, vmc, AOpd.val, Nat.reduceEqDiff, reduceCtorEq, Nat.reduceAdd, Nat.reduceBEq, H.load]
  refine Gives.bind ((hlen_ok k H).mono ?_)
  rintro _ _ ⟨rfl, rfl⟩
  rename_i h
  simp only [vms, vmc, AOpd.val, Nat.reduceEqDiff, reduceCtorEq, Nat.reduceAdd, Nat.reduceBEq, List.length_cons, List.length_nil, show (((0 + 1 : Nat) : Int)) = 1 from rfl]
  refine Gives.bind ((down1_ok k).mono ?_)
  rintro _ _ ⟨rfl, rfl⟩
  rename_i h
  simp only [vms, vmc, AOpd.val, Nat.reduceEqDiff, reduceCtorEq, Nat.reduceAdd, Nat.reduceBEq]
  refine Gives.bind ((up0_ok k).mono ?_)
  rintro _ _ rfl
  simp only [vms, vmc, AOpd.val, Nat.reduceEqDiff, reduceCtorEq, Nat.reduceAdd, Nat.reduceBEq]
theorem fix2_ok (k : Base T) {a b : Int} {A B : List Int} (s : HS h0 h p ro E [a :: A, b :: B]) : Gives T 42 [.iface 57 (.ptr p 0), .int .i64 0] h fun r h' => HS h0 h' p ro E (ordL (a :: A) (b :: B)) ∧ Tch h h' p ro := by
  obtain ⟨rv, v, w, hr, H, I, J⟩ := s.two
  refine gives_func (k.env _ (by decide)) (k.at (fn := a42) rfl) rfl ?_
  simp only [a42, c42, vms, vmc, AOpd.val, Nat.reduceEqDiff, reduceCtorEq, Nat.reduceAdd, Nat.reduceBEq, H.load]
  refine Gives.bind ((hlen_ok k H).mono ?_)
  rintro _ _ ⟨rfl, rfl⟩
  rename_i h
  simp only [vms, vmc, AOpd.val, Nat.reduceEqDiff, reduceCtorEq, Nat.reduceAdd, Nat.reduceBEq, List.length_cons, List.length_nil, show (((0 + 1 + 1 : Nat) : Int)) = 2 from rfl]
  refine Gives.bind ((down2_ok k H I.1 J.1).mono ?_)
  rintro _ h2 ⟨rfl, H2, hu⟩
  have fin := HS.ord hr H2 hu I J
  cases decide (b < a)
  · simp only [vms, vmc, AOpd.val, Nat.reduceEqDiff, reduceCtorEq, Nat.reduceAdd, Nat.reduceBEq]
    refine Gives.bind ((up0_ok k).mono ?_)
    rintro _ _ rfl
    simp only [vms, vmc, AOpd.val, Nat.reduceEqDiff, reduceCtorEq, Nat.reduceAdd, Nat.reduceBEq]
    exact fin
  · simp only [vms, vmc, AOpd.val, Nat.reduceEqDiff, reduceCtorEq, Nat.reduceAdd, Nat.reduceBEq]
    exact fin
theorem pop_ok (k : Base T) {n : Nat} {x : AV} (H : HR h0 h p rv vs) (hn : vs.length = n + 1) (h1 : n ≤ 1) (hx : vs[n]? = some x) :
    Gives T 86 [.ptr p 0] h fun r h' => ∃ rv', HR h0 h' p rv' (vs.take n) ∧ Upd h h' p ∧ objs rv' = objs rv := by
  refine gives_func (k.env _ (by decide)) (k.at (fn := a86) rfl) rfl ?_
  have nc : nilChkV (.ptr p 0) = some (.ptr p 0) := rfl
  obtain ⟨o, ho, i1, l1, _⟩ := row1_put H.row hx
  obtain ⟨rv', hs, r', hob⟩ := row_upto H.row (k := n) (by omega) (by intro e; rw [e] at hn; simp at hn)
  have w1 : IntKind.i64.wrap ((vs.length : Int) - 1) = (n : Int) := by rw [hn, wrap_i64 (by omega) (by omega)]; omega
  obtain ⟨c1, c2, _⟩ := RowS.cell r'
  have st := store_at H.cell (i := 0) (v := rv') (by simp) c1 c2
  have u : Upd h (h.set p (.cells ([rv].set 0 rv') true)) p := (Upd.refl h p).set _
  simp only [a86, c86, vms, vmc, AOpd.val, Nat.reduceEqDiff, reduceCtorEq, Nat.reduceAdd, Nat.reduceBEq, nc, H.load, H.len, w1, i1, l1, hs, st]
  exact ⟨rv', ⟨H.lo.set (H.lo _ _ H.cell) _, H.qt.set H.pn _, H.pn, get_set_same, RowS.keep r' fun q hq => u.2 q (H.ro q (hob ▸ hq)).2, fun q hq => H.ro q (hob ▸ hq)⟩, u, hob⟩
theorem rem1_ok (k : Base T) {A : List Int} (s : HS h0 h p ro E [A]) : Gives T 41 [.iface 57 (.ptr p 0), .int .i64 0] h fun r h' => HS h0 h' p ro E [] ∧ Tch h h' p ro := by
  obtain ⟨rv, v, hr, H, I⟩ := s.one
  refine gives_func (k.env _ (by decide)) (k.at (fn := a41) rfl) rfl ?_
  simp only [a41, c41, vms, vmc, AOpd.val, Nat.reduceEqDiff, reduceCtorEq, Nat.reduceAdd, Nat.reduceBEq, H.load]
  refine Gives.bind ((hlen_ok k H).mono ?_)
  rintro _ _ ⟨rfl, rfl⟩
  rename_i h
  simp only [vms, vmc, AOpd.val, Nat.reduceEqDiff, reduceCtorEq, Nat.reduceAdd, Nat.reduceBEq, List.length_cons, List.length_nil, show IntKind.i64.wrap (((0 + 1 : Nat) : Int) - 1) = 0 from rfl, show ((0 : Int) != 0) = false from rfl]
  refine Gives.bind ((pop_ok k H (n := 0) rfl (by omega) rfl).mono ?_)
  rintro _ h2 ⟨rv', H2, u, hob⟩
  simp only [vms, vmc, AOpd.val, Nat.reduceEqDiff, reduceCtorEq, Nat.reduceAdd, Nat.reduceBEq]
  exact ⟨HS.of0 (hob.trans hr) H2, Upd.tch u (.inl rfl)⟩
theorem rem2_ok (k : Base T) {A B : List Int} (s : HS h0 h p ro E [A, B]) : Gives T 41 [.iface 57 (.ptr p 0), .int .i64 0] h fun r h' => HS h0 h' p ro E [B] ∧ Tch h h' p ro := by
  obtain ⟨rv, v, w, hr, H, I, J⟩ := s.two
  refine gives_func (k.env _ (by decide)) (k.at (fn := a41) rfl) rfl ?_
  simp only [a41, c41, vms, vmc, AOpd.val, Nat.reduceEqDiff, reduceCtorEq, Nat.reduceAdd, Nat.reduceBEq, H.load]
  refine Gives.bind ((hlen_ok k H).mono ?_)
  rintro _ _ ⟨rfl, rfl⟩
  rename_i h
  simp only [vms, vmc, AOpd.val, Nat.reduceEqDiff, reduceCtorEq, Nat.reduceAdd, Nat.reduceBEq, List.length_cons, List.length_nil, show IntKind.i64.wrap (((0 + 1 + 1 : Nat) : Int) - 1) = 1 from rfl, show ((1 : Int) != 0) = true from rfl, H.load]
  refine Gives.bind ((hswap_ok k H (sees_cell I.1.sees) (sees_cell J.1.sees)).mono ?_)
  rintro _ h2 ⟨H2, o, ho, u2⟩
  have J2 := J.1.upd (o := o) (by rw [ho]; simp) u2
  have I2 := I.1.upd (o := o) (by rw [ho]; simp) u2
  simp only [vms, vmc, AOpd.val, Nat.reduceEqDiff, reduceCtorEq, Nat.reduceAdd, Nat.reduceBEq]
  refine Gives.bind ((down1_ok k).mono ?_)
  rintro _ _ ⟨rfl, rfl⟩
  rename_i h2
  simp only [vms, vmc, AOpd.val, Nat.reduceEqDiff, reduceCtorEq, Nat.reduceAdd, Nat.reduceBEq]
  refine Gives.bind ((up0_ok k).mono ?_)
  rintro _ _ rfl
  rename_i h2
  simp only [vms, vmc, AOpd.val, Nat.reduceEqDiff, reduceCtorEq, Nat.reduceAdd, Nat.reduceBEq]
  refine Gives.bind ((pop_ok k H2 (n := 1) rfl (by omega) rfl).mono ?_)
  rintro _ h3 ⟨rv', H3, u, hob⟩
  simp only [vms, vmc, AOpd.val, Nat.reduceEqDiff, reduceCtorEq, Nat.reduceAdd, Nat.reduceBEq]
  refine ⟨HS.of1 (hob.trans hr) H3 ⟨⟨sees_same J2.sees fun q hq => u.2 q (J2.out q hq).1, J2.cap, fun q hq => ⟨(J2.out q hq).1, by rw [hob]; exact (J2.out q hq).2⟩, J2.short⟩, J.2⟩, (Upd.tch u2 (.inr (by rw [← hr, ho]; simp))).trans (Upd.tch u (.inl rfl))⟩
end
end Go.Proofs.Ytjbkjffolnodjaa
/- Chapter 23: Union of rising lists: the next number, the heads, all numbers. -/
namespace Go.Proofs.Ytjbkjffolnodjaa
open Go.Vm
set_option linter.unusedSimpArgs false
set_option linter.unusedVariables false
set_option maxRecDepth 100000
variable {T : Vm.Prog} {h h0 h' : AH} {p : Nat} {rv v w : AV} {vs : List AV} {L : List (List Int)} {ro : List Nat} {E : Nat → Prop}
/-! ### plain -/
theorem mer_comm {a b : List Int} (ha : Up a) (hb : Up b) : mer a b = mer b a :=
  up_ext (up_mer a b ha hb) (up_mer b a hb ha) fun z => by rw [mem_mer, mem_mer]; exact or_comm
theorem mer_nil (a : List Int) : mer a [] = a := by cases a <;> simp [mer]
def dropN (n : Int) : List Int → List Int
  | [] => []
  | x :: X => if x = n then X else x :: X
theorem dropN_cons (n x : Int) (X : List Int) : dropN n (x :: X) = if x = n then X else x :: X := rfl
theorem dropN_up {n : Int} {X : List Int} (h : Up X) : Up (dropN n X) := by
  cases X with
  | nil => exact h
  | cons x X =>
    rw [dropN_cons]
    split
    · exact (List.pairwise_cons.1 h).2
    · exact h
/-- Lists of a heap, and what they are together. -/
def R1 (st : List (List Int)) (M : List Int) : Prop := (st = [] ∧ M = []) ∨ (∃ x X, st = [x :: X] ∧ Up (x :: X) ∧ M = x :: X) ∨ ∃ x X y Y, st = [x :: X, y :: Y] ∧ Up (x :: X) ∧ Up (y :: Y) ∧ x ≤ y ∧ M = mer (x :: X) (y :: Y)
/-- The same while a number is taken out. -/
def RN (n : Int) (c : Nat) (st : List (List Int)) (M : List Int) : Prop := (st = [] ∧ M = [] ∧ c = 0) ∨ (∃ x X, st = [x :: X] ∧ Up (x :: X) ∧ n ≤ x ∧ M = dropN n (x :: X) ∧ c = if x = n then 1 else 0) ∨
  ∃ x X y Y, st = [x :: X, y :: Y] ∧ Up (x :: X) ∧ Up (y :: Y) ∧ n ≤ x ∧ x ≤ y ∧ M = mer (dropN n (x :: X)) (dropN n (y :: Y)) ∧ c = (if x = n then 1 else 0) + if y = n then 1 else 0
theorem up_tail {x : Int} {X : List Int} (h : Up (x :: X)) : Up X := (List.pairwise_cons.1 h).2
theorem up_head {x y : Int} {X : List Int} (h : Up (x :: y :: X)) : x < y := (List.pairwise_cons.1 h).1 y (by simp)
theorem R1.begin {st : List (List Int)} {n : Int} {M : List Int} (h : R1 st (n :: M)) : ∃ c, RN n c st M ∧ ∃ X r, st = (n :: X) :: r := by
  rcases h with ⟨_, h⟩ | ⟨x, X, rfl, hu, h⟩ | ⟨x, X, y, Y, rfl, hu, hv, hxy, h⟩
  · cases h
  · cases h
    exact ⟨_, .inr (.inl ⟨n, M, rfl, hu, Int.le_refl _, by rw [dropN_cons, if_pos rfl], rfl⟩), M, [], rfl⟩
  · rw [mer] at h
    by_cases hlt : x < y
    · rw [if_pos hlt] at h
      cases h
      refine ⟨_, .inr (.inr ⟨n, X, y, Y, rfl, hu, hv, Int.le_refl _, hxy, ?_, rfl⟩), X, _, rfl⟩
      have e1 : dropN n (n :: X) = X := by rw [dropN_cons, if_pos rfl]
      have e2 : dropN n (y :: Y) = y :: Y := by rw [dropN_cons, if_neg (by omega)]
      rw [e1, e2]
    · have : x = y := by omega
      subst this
      rw [if_neg (by omega), if_neg (by omega)] at h
      cases h
      refine ⟨_, .inr (.inr ⟨n, X, n, Y, rfl, hu, hv, Int.le_refl _, hxy, ?_, rfl⟩), X, _, rfl⟩
      have e1 : dropN n (n :: X) = X := by rw [dropN_cons, if_pos rfl]
      have e2 : dropN n (n :: Y) = Y := by rw [dropN_cons, if_pos rfl]
      rw [e1, e2]
theorem RN.over {n : Int} {c : Nat} {st : List (List Int)} {M : List Int} (h : RN n c st M) (he : ∀ x X r, st = (x :: X) :: r → x ≠ n) : R1 st M := by
  rcases h with ⟨rfl, rfl, _⟩ | ⟨x, X, rfl, hu, hn, rfl, _⟩ | ⟨x, X, y, Y, rfl, hu, hv, hn, hxy, rfl, _⟩
  · exact .inl ⟨rfl, rfl⟩
  · have := he x X [] rfl
    refine .inr (.inl ⟨x, X, rfl, hu, ?_⟩)
    rw [dropN_cons, if_neg this]
  · have := he x X _ rfl
    refine .inr (.inr ⟨x, X, y, Y, rfl, hu, hv, hxy, ?_⟩)
    rw [dropN_cons, dropN_cons, if_neg this, if_neg (by omega)]
theorem RN.tail1 {n : Int} {c : Nat} {X M : List Int} (h : RN n c [n :: X] M) : c = 1 ∧ M = X ∧ ((X = [] ∧ RN n 0 [] M) ∨ (X ≠ [] ∧ RN n 0 [X] M)) := by
  rcases h with ⟨h, _⟩ | ⟨x, X', h, hu, hn, rfl, hc⟩ | ⟨x, X', y, Y, h, _⟩
  · cases h
  · cases h
    have e1 : dropN n (n :: X) = X := by rw [dropN_cons, if_pos rfl]
    rw [if_pos rfl] at hc
    refine ⟨hc, e1, ?_⟩
    rw [e1]
    cases X with
    | nil => exact .inl ⟨rfl, .inl ⟨rfl, rfl, rfl⟩⟩
    | cons z Z =>
      have hz := up_head hu
      refine .inr ⟨by simp, .inr (.inl ⟨z, Z, rfl, up_tail hu, by omega, ?_, by rw [if_neg (by omega)]⟩)⟩
      rw [dropN_cons, if_neg (by omega)]
  · cases h
theorem RN.tail2 {n y : Int} {c : Nat} {X Y M : List Int} (h : RN n c [n :: X, y :: Y] M) : ∃ c', c = c' + 1 ∧ ((X = [] ∧ RN n c' [y :: Y] M) ∨ ∃ z Z, X = z :: Z ∧ RN n c' (ordL X (y :: Y)) M) := by
  rcases h with ⟨h, _⟩ | ⟨x, X', h, _⟩ | ⟨x, X', y', Y', h, hu, hv, hn, hxy, rfl, hc⟩
  · cases h
  · cases h
  · cases h
    have e1 : dropN n (n :: X) = X := by rw [dropN_cons, if_pos rfl]
    rw [if_pos rfl] at hc
    refine ⟨if y = n then 1 else 0, by omega, ?_⟩
    rw [e1]
    cases X with
    | nil => exact .inl ⟨rfl, .inr (.inl ⟨y, Y, rfl, hv, by omega, by rw [mer], rfl⟩)⟩
    | cons z Z =>
      have hz := up_head hu
      have hzu := up_tail hu
      have ez : dropN n (z :: Z) = z :: Z := by rw [dropN_cons, if_neg (by omega)]
      refine .inr ⟨z, Z, rfl, ?_⟩
      by_cases hlt : y < z
      · rw [show ordL (z :: Z) (y :: Y) = [y :: Y, z :: Z] by simp [ordL, hlt]]
        refine .inr (.inr ⟨y, Y, z, Z, rfl, hv, hzu, by omega, by omega, ?_, by rw [if_neg (show ¬ z = n by omega), Nat.add_zero]⟩)
        rw [ez]
        exact mer_comm hzu (dropN_up hv)
      · rw [show ordL (z :: Z) (y :: Y) = [z :: Z, y :: Y] by simp [ordL, hlt]]
        refine .inr (.inr ⟨z, Z, y, Y, rfl, hzu, hv, by omega, by omega, by rw [ez], by rw [if_neg (show ¬ z = n by omega), Nat.zero_add]⟩)
/-! ### the next number -/
theorem HS.cons {A : List Int} {r : List (List Int)} (s : HS h0 h p ro E (A :: r)) : ∃ rv v vs, objs rv = ro ∧ HR h0 h p rv (v :: vs) ∧ vs.length = r.length ∧ (In1 h p rv v A ∧ ∀ o ∈ objs v, E o) ∧ ∀ (i : Nat) (w : AV) (B : List Int), vs[i]? = some w → r[i]? = some B → In1 h p rv w B ∧ ∀ o ∈ objs w, E o := by
  obtain ⟨rv, vs, hr, H, hl, hi⟩ := s
  match vs, hl with
  | v :: vs, hl => exact ⟨rv, v, vs, hr, H, by simpa using hl, hi 0 v A rfl rfl, fun i w B hw hB => hi (i + 1) w B (by simpa using hw) (by simpa using hB)⟩
theorem HS.lenL (s : HS h0 h p ro E L) : ∃ rv vs, HR h0 h p rv vs ∧ vs.length = L.length := by
  obtain ⟨rv, vs, _, H, hl, _⟩ := s
  exact ⟨rv, vs, H, hl⟩
theorem sees_tail {v : AV} {x : Int} {X : List Int} (s : Sees h v (izs (x :: X))) (hcap : capOk v) : ∃ v', slcV 1 v (some (.int .i64 1)) none none = some v' ∧ Sees h v' (izs X) ∧ (∀ o ∈ objs v', o ∈ objs v) ∧ capOk v' := by
  rcases s with ⟨rfl, h⟩ | ⟨o, off, cap, ex, l, rw, rfl, hg, h1, h2⟩
  · simp [izs] at h
  · have hlc : (izs (x :: X)).length ≤ cap := hcap
    have hlen : (izs (x :: X)).length = (izs X).length + 1 := by simp [izs]
    refine ⟨.slice o (if (ex || false) && decide (cap = 1) then off else off + 1 * 1) 1 ((izs (x :: X)).length - 1) (cap - 1) (ex || false), ?_, .inr ⟨o, _, _, _, l, rw, by rw [hlen]; congr 1, hg, ?_, ?_⟩, ?_, ?_⟩
    · have h5 : (1 : Int) = ((1 : Nat) : Int) := rfl
      rw [h5]
      simp [slcV, bounds, boundM, boundH, boundL, natOf, Option.filter, hlen]
    · split <;> omega
    · intro i y hy
      have hi := (List.getElem?_eq_some_iff.1 hy).1
      by_cases he : ((ex || false) && decide (cap = 1)) = true
      · exfalso
        simp at he
        omega
      · rw [if_neg he, show off + 1 * 1 + i = off + (i + 1) by omega]
        exact h2 (i + 1) y (by simpa [izs] using hy)
    · intro q hq; simpa [objs] using hq
    · show (izs (x :: X)).length - 1 ≤ cap - 1
      omega
def c30t : ACode := cSnd (cSnd (cSnd c30))
theorem next_ok (k : Base T) {st : List (List Int)} {n : Int} {M : List Int} (s : HS h0 h p ro E st) (hst : R1 st (n :: M)) : Gives T 30 [.ptr p 0] h fun r h' => r = .int .i64 n ∧ Tch h h' p ro ∧ ∃ st', HS h0 h' p ro E st' ∧ R1 st' M := by
  refine gives_func (k.env _ (by decide)) (k.at (fn := a30) rfl) rfl ?_
  have nc : nilChkV (.ptr p 0) = some (.ptr p 0) := rfl
  obtain ⟨c, hrn, X, r, rfl⟩ := hst.begin
  obtain ⟨rv, v, vs, hr, H, hl, I, _⟩ := s.cons
  obtain ⟨o, ho, i1, l1, _⟩ := row1_put H.row (i := 0) (x := v) rfl
  obtain ⟨pa, i2, l2⟩ := I.1.sees.at (i := 0) (x := .int .i64 n) rfl .i64
  have i1' : idxAddrV 1 rv (.int .i64 0) = some (.ptr o 0) := i1
  have i2' : idxAddrV 1 v (.int .i64 0) = some pa := i2
  simp only [a30, c30, vms, vmc, AOpd.val, Nat.reduceEqDiff, reduceCtorEq, Nat.reduceAdd, Nat.reduceBEq, nc, H.load, i1', l1, i2', l2]
  refine wpc_loop (fun c f h' => ∃ st', RN n c st' M ∧ HS h0 h' p ro E st' ∧ Tch h h' p ro ∧ f.at 0 = .ptr p 0 ∧ f.at 3 = .int .i64 n) ?_ c _ _ ⟨_, hrn, s, Tch.refl _ _ _, ?_, ?_⟩
  · rintro c f h1 ⟨st, hrn, s, tc, f0, f3⟩
    obtain ⟨rv, vs, H, hl⟩ := s.lenL
    simp only [c30l0, vms, vmc, AOpd.val, Nat.reduceEqDiff, reduceCtorEq, Nat.reduceAdd, Nat.reduceBEq, f0, nc, H.load]
    refine Gives.bind ((hlen_ok k H).mono ?_)
    rintro _ _ ⟨rfl, rfl⟩
    rename_i h1
    match st, s, hrn, hl with
    | [], s, hrn, hl =>
      have d : decide ((vs.length : Int) > 0) = false := by rw [hl]; rfl
      simp only [d, vms, vmc, AOpd.val, Nat.reduceEqDiff, reduceCtorEq, Nat.reduceAdd, Nat.reduceBEq, f3]
      refine ⟨trivial, tc, [], s, hrn.over fun x X r e => by cases e⟩
    | [] :: r, s, hrn, hl =>
      exfalso
      rcases hrn with ⟨h, _⟩ | ⟨x, X', h, _⟩ | ⟨x, X', y', Y', h, _⟩ <;> cases h
    | (x :: X) :: r, s, hrn, hl =>
      have d : decide ((vs.length : Int) > 0) = true := by rw [hl, decide_eq_true_eq]; simp only [List.length_cons]; omega
      obtain ⟨rv2, v, vs2, hr, H2, hl2, I, hI⟩ := s.cons
      obtain ⟨o, ho, i1, l1, put⟩ := row1_put H2.row (i := 0) (x := v) rfl
      obtain ⟨pa, i2, l2⟩ := I.1.sees.at (i := 0) (x := .int .i64 x) rfl .i64
      have i1' : idxAddrV 1 rv2 (.int .i64 0) = some (.ptr o 0) := i1
      have i2' : idxAddrV 1 v (.int .i64 0) = some pa := i2
      simp only [d, vms, vmc, AOpd.val, Nat.reduceEqDiff, reduceCtorEq, Nat.reduceAdd, Nat.reduceBEq, f0, f3, nc, H2.load, i1', l1, i2', l2]
      by_cases hx : x = n
      · have hx' := hx.symm
        clear hx
        subst hx'
        obtain ⟨v', hs', sv', ov', cv'⟩ := sees_tail I.1.sees I.1.cap
        obtain ⟨cc1, cc2⟩ := sees_cell sv'
        obtain ⟨h2, st2, u2, r2⟩ := put v' cc1 cc2
        have H3 := H2.upd ho u2 r2
        have lv : lenOfV v' = some X.length := by rw [sv'.len, izs_len]
        have i3 : loadV h2 false 1 (.ptr o 0) = some v' := by
          obtain ⟨o3, ho3, _, l3, _⟩ := row1_put H3.row (i := 0) (x := v') rfl
          have : o3 = o := by rw [ho] at ho3; simp only [List.cons.injEq, and_true] at ho3; exact ho3.symm
          rw [this] at l3; exact l3
        have I3 : In1 h2 p rv2 v' X ∧ ∀ q ∈ objs v', E q :=
          ⟨⟨sees_same sv' fun q hq => u2.2 q fun e => (I.1.out q (ov' q hq)).2 (by rw [ho, e]; simp), cv', fun q hq => I.1.out q (ov' q hq), by have := I.1.short; simp only [List.length_cons] at this; omega⟩, fun q hq => I.2 q (ov' q hq)⟩
        have t2 : Tch h h2 p ro := tc.trans (Upd.tch u2 (.inr (by rw [← hr, ho]; simp)))
        have ex : (n == n) = true := by simp
        simp only [ex, vms, vmc, AOpd.val, Nat.reduceEqDiff, reduceCtorEq, Nat.reduceAdd, Nat.reduceBEq, f0, nc, H2.load, i1', l1, Option.map_none, hs', st2, H3.load, i3, lv]
        match r, hl2, hI, hrn with
        | [], hl2, hI, hrn =>
          obtain rfl : vs2 = [] := List.eq_nil_of_length_eq_zero hl2
          have s3 : HS h0 h2 p ro E [X] := HS.of1 hr H3 I3
          obtain ⟨rfl, hM, hcase⟩ := hrn.tail1
          rcases hcase with ⟨rfl, hn⟩ | ⟨hne, hn⟩
          · simp only [List.length_nil, show (((0 : Nat) : Int) == 0) = true from rfl, vms, vmc, AOpd.val, Nat.reduceEqDiff, reduceCtorEq, Nat.reduceAdd, Nat.reduceBEq, f0]
            refine Gives.bind ((rem1_ok k s3).mono ?_)
            rintro _ h4 ⟨s4, t4⟩
            simp only [vms, vmc, AOpd.val, Nat.reduceEqDiff, reduceCtorEq, Nat.reduceAdd, Nat.reduceBEq]
            exact ⟨0, by omega, [], hn, s4, t2.trans t4, by first | trivial | exact f0, by first | trivial | exact f3⟩
          · have dz : ((X.length : Int) == 0) = false := by
              rw [beq_eq_false_iff_ne]
              intro e
              exact hne (List.eq_nil_of_length_eq_zero (by omega))
            simp only [dz, vms, vmc, AOpd.val, Nat.reduceEqDiff, reduceCtorEq, Nat.reduceAdd, Nat.reduceBEq, f0]
            refine Gives.bind ((fix1_ok k s3).mono ?_)
            rintro _ _ rfl
            rename_i h2
            simp only [vms, vmc, AOpd.val, Nat.reduceEqDiff, reduceCtorEq, Nat.reduceAdd, Nat.reduceBEq]
            exact ⟨0, by omega, [X], hn, s3, t2, by first | trivial | exact f0, by first | trivial | exact f3⟩
        | [[]], hl2, hI, hrn =>
          exfalso
          rcases hrn with ⟨h, _⟩ | ⟨x, X', h, _⟩ | ⟨x, X', y', Y', h, _⟩ <;> cases h
        | [y :: Y], hl2, hI, hrn =>
          obtain ⟨w, rfl⟩ : ∃ w, vs2 = [w] := by
            match vs2, hl2 with
            | [w], _ => exact ⟨w, rfl⟩
          have J := hI 0 w _ rfl rfl
          have J3 : In1 h2 p rv2 w (y :: Y) ∧ ∀ q ∈ objs w, E q := ⟨J.1.upd (o := o) (by rw [ho]; simp) u2, J.2⟩
          have s3 : HS h0 h2 p ro E [X, y :: Y] := HS.of2 hr H3 I3 J3
          obtain ⟨c', rfl, hcase⟩ := hrn.tail2
          rcases hcase with ⟨rfl, hn⟩ | ⟨z, Z, rfl, hn⟩
          · simp only [List.length_nil, show (((0 : Nat) : Int) == 0) = true from rfl, vms, vmc, AOpd.val, Nat.reduceEqDiff, reduceCtorEq, Nat.reduceAdd, Nat.reduceBEq, f0]
            refine Gives.bind ((rem2_ok k s3).mono ?_)
            rintro _ h4 ⟨s4, t4⟩
            simp only [vms, vmc, AOpd.val, Nat.reduceEqDiff, reduceCtorEq, Nat.reduceAdd, Nat.reduceBEq]
            exact ⟨c', by omega, _, hn, s4, t2.trans t4, by first | trivial | exact f0, by first | trivial | exact f3⟩
          · have dz : (((z :: Z).length : Int) == 0) = false := by
              rw [beq_eq_false_iff_ne]; simp only [List.length_cons]; omega
            simp only [dz, vms, vmc, AOpd.val, Nat.reduceEqDiff, reduceCtorEq, Nat.reduceAdd, Nat.reduceBEq, f0]
            refine Gives.bind ((fix2_ok k s3).mono ?_)
            rintro _ h4 ⟨s4, t4⟩
            simp only [vms, vmc, AOpd.val, Nat.reduceEqDiff, reduceCtorEq, Nat.reduceAdd, Nat.reduceBEq]
            exact ⟨c', by omega, _, hn, s4, t2.trans t4, by first | trivial | exact f0, by first | trivial | exact f3⟩
        | y :: y2 :: r, hl2, hI, hrn =>
          exfalso
          rcases hrn with ⟨h, _⟩ | ⟨x, X', h, _⟩ | ⟨x, X', y', Y', h, _⟩ <;> cases h
      · have ex : (x == n) = false := by simpa using hx
        simp only [ex, vms, vmc, AOpd.val, Nat.reduceEqDiff, reduceCtorEq, Nat.reduceAdd, Nat.reduceBEq, f3]
        refine ⟨trivial, tc, _, s, hrn.over fun x' X' r' e => ?_⟩
        cases e; exact hx
  all_goals (simp only [vms, vmc, AOpd.val, Nat.reduceEqDiff, reduceCtorEq, Nat.reduceAdd, Nat.reduceBEq] <;> rfl)
end Go.Proofs.Ytjbkjffolnodjaa
/- Chapter 23: Union of two lists, or of one. -/
namespace Go.Proofs.Ytjbkjffolnodjaa
open Go.Vm
set_option linter.unusedSimpArgs false
set_option linter.unusedVariables false
set_option maxRecDepth 100000
variable {T : Vm.Prog} {h h0 h' : AH} {p : Nat} {rv v w : AV} {vs : List AV}
/-- The heap while it is filled: its lists lie in new objects. -/
def HP (h0 h : AH) (p : Nat) (L : List (List Int)) : Prop := ∃ rv vs, HR h0 h p rv vs ∧ vs.length = L.length ∧ ∀ (i : Nat) (v : AV) (A : List Int), vs[i]? = some v → L[i]? = some A → In1 h p rv v A ∧ ∀ o ∈ objs v, h0.next ≤ o ∧ o < h.next
theorem HP.hs {L : List (List Int)} (s : HP h0 h p L) : ∃ ro E, HS h0 h p ro E L ∧ (∀ o ∈ ro, h0.next ≤ o ∧ o < h.next) ∧ (∀ o, E o → h0.next ≤ o ∧ o < h.next) ∧ h0.next ≤ p ∧ p < h.next := by
  obtain ⟨rv, vs, H, hl, hi⟩ := s
  exact ⟨objs rv, fun o => h0.next ≤ o ∧ o < h.next, ⟨rv, vs, rfl, H, hl, hi⟩, fun o ho => ⟨(H.ro o ho).1, RowS.low H.row H.lo o ho⟩, fun o ho => ho, H.pn, H.lo _ _ H.cell⟩
theorem fillN1 (v : AV) (hd : AV.isDef v = true) (hc : v.cells = [v]) : fillV [AV.nilSlice] [(0, 1, v)] = some [v] := by
  simp [fillV, hd, hc, setMany]
theorem sees_isDef {v : AV} {xs : List AV} (s : Sees h v xs) : AV.isDef v = true := by
  rcases s with ⟨rfl, _⟩ | ⟨_, _, _, _, _, _, rfl, _⟩ <;> rfl
/-- A list is put behind the others. -/
theorem push_row (k : Base T) {L : List (List Int)} {A : List Int} {x : AV} (H : HR h0 h p rv vs) (hlen : vs.length = L.length) (hi : ∀ (i : Nat) (v : AV) (A : List Int), vs[i]? = some v → L[i]? = some A → In1 h p rv v A ∧ ∀ o ∈ objs v, h0.next ≤ o ∧ o < h.next) (hs : vs.length ≤ 1) (sx : Sees h x (izs A)) (cx : capOk x) (ox : ∀ o ∈ objs x, h0.next ≤ o ∧ o < h.next ∧ o ≠ p ∧ o ∉ objs rv) (shx : A.length < 1000000) :
    Gives T 87 [.ptr p 0, .iface 26 x] h fun r h' => ∃ rv', HR h0 h' p rv' (vs ++ [x]) ∧ (∀ (i : Nat) (v : AV) (B : List Int), (vs ++ [x])[i]? = some v → (L ++ [A])[i]? = some B → In1 h' p rv' v B ∧ ∀ o ∈ objs v, h0.next ≤ o ∧ o < h'.next) ∧ Low h' := by
  refine gives_func (k.env _ (by decide)) (k.at (fn := a87) rfl) rfl ?_
  have nc : nilChkV (.ptr p 0) = some (.ptr p 0) := rfl
  obtain ⟨xc, xf⟩ := sees_cell sx
  have hfill := fillN1 x (sees_isDef sx) xc
  obtain ⟨rv', h2, happ, r2, ob2, m2, lo2⟩ := row_app (bytes := 24) (x := x) H.lo H.row (by decide) (by decide) (by omega) xf
  have q1 : Quiet h (h.new (.cells [x] true)) := (Quiet.refl h).new _
  have pl : p < h.next := H.lo _ _ H.cell
  have c1 : (h.new (.cells [x] true)).get p = some (.cells [rv] true) := (q1.2 p pl id).trans H.cell
  have rvb : AV.beq rv rv = true := (RowS.cell H.row).2.2
  have xb : AV.beq x x = true := sees_beq sx
  have hp2 : h2.get p = some (.cells [rv] true) := (m2.2 p pl fun e => (H.ro p e).2 rfl).trans H.cell
  obtain ⟨d1, d2, _⟩ := RowS.cell r2
  have st := store_at hp2 (i := 0) (v := rv') (by simp) d1 d2
  have u : Upd h2 (h2.set p (.cells ([rv].set 0 rv') true)) p := (Upd.refl h2 p).set _
  have hn2 := m2.1
  have ob' : ∀ o ∈ objs rv', h0.next ≤ o ∧ o ≠ p := fun o ho => by
    rcases ob2 o ho with h5 | h5
    · exact H.ro o h5
    · have := H.qt.1; exact ⟨by omega, by omega⟩
  have keep : ∀ {v : AV} {B : List Int}, Sees h v (izs B) → capOk v → (∀ o ∈ objs v, h0.next ≤ o ∧ o < h.next ∧ o ≠ p ∧ o ∉ objs rv) → B.length < 1000000 → In1 (h2.set p (.cells ([rv].set 0 rv') true)) p rv' v B ∧ ∀ o ∈ objs v, h0.next ≤ o ∧ o < (h2.set p (.cells ([rv].set 0 rv') true)).next := by
    intro v B s c ho hsh
    refine ⟨⟨sees_same s fun o h5 => (u.2 o (ho o h5).2.2.1).trans (m2.2 o (ho o h5).2.1 (ho o h5).2.2.2), c, fun o h5 => ⟨(ho o h5).2.2.1, fun e => ?_⟩, hsh⟩, fun o h5 => ⟨(ho o h5).1, by rw [next_set]; have := (ho o h5).2.1; omega⟩⟩
    rcases ob2 o e with h6 | h6
    · exact (ho o h5).2.2.2 h6
    · have := (ho o h5).2.1; omega
  simp only [a87, c87, vms, vmc, AOpd.val, Nat.reduceEqDiff, reduceCtorEq, Nat.reduceAdd, Nat.reduceBEq, nc, H.load, hfill]
  rw [items_look (look_load (v := rv) (by simp only [vms, vmc, AOpd.val, Nat.reduceEqDiff, reduceCtorEq, Nat.reduceAdd, Nat.reduceBEq, nc]; exact load_at c1 rfl) (by simp only [vms, vmc, AOpd.val, Nat.reduceEqDiff, reduceCtorEq, Nat.reduceAdd, Nat.reduceBEq]) rvb)]
  rw [items_look (look_build (l := [x]) (q := h.next) (by simp only [vms, vmc, AOpd.val, Nat.reduceEqDiff, reduceCtorEq, Nat.reduceAdd, Nat.reduceBEq]; exact hfill) (by simp only [vms, vmc, AOpd.val, Nat.reduceEqDiff, reduceCtorEq, Nat.reduceAdd, Nat.reduceBEq]; rfl) get_new_same (by simp [AV.beqs, xb]))]
  simp only [vms, vmc, AOpd.val, Nat.reduceEqDiff, reduceCtorEq, Nat.reduceAdd, Nat.reduceBEq, happ, nc, st]
  refine ⟨rv', ⟨lo2.set (lo2 _ _ hp2) _, (show Quiet h0 h2 from ⟨Nat.le_trans H.qt.1 hn2, fun o ho hf => (m2.2 o (Nat.lt_of_lt_of_le ho H.qt.1) fun e => by have := (H.ro o e).1; omega).trans (H.qt.2 o ho hf)⟩).set H.pn _, H.pn, get_set_same, RowS.keep r2 fun o ho => u.2 o (ob' o ho).2, ob'⟩, ?_, lo2.set (lo2 _ _ hp2) _⟩
  · intro i v B hv hB
    by_cases hlt : i < vs.length
    · rw [List.getElem?_append_left hlt] at hv
      rw [List.getElem?_append_left (by omega)] at hB
      obtain ⟨I, hI⟩ := hi i v B hv hB
      exact keep I.sees I.cap (fun o ho => ⟨(hI o ho).1, (hI o ho).2, I.out o ho⟩) I.short
    · rw [List.getElem?_append_right (by omega)] at hv
      rw [List.getElem?_append_right (by omega)] at hB
      have e0 : i - vs.length = 0 := by
        have := (List.getElem?_eq_some_iff.1 hv).1
        simp at this; omega
      rw [e0] at hv
      rw [show i - L.length = 0 by omega] at hB
      simp at hv hB
      subst hv; subst hB
      exact keep sx cx ox shx
theorem ordL_lt {a b : Int} (A B : List Int) (h : b < a) : ordL (a :: A) (b :: B) = [b :: B, a :: A] := by simp [ordL, h]
theorem ordL_ge {a b : Int} (A B : List Int) (h : ¬ b < a) : ordL (a :: A) (b :: B) = [a :: A, b :: B] := by simp [ordL, h]
/-- Where a list comes among those that are there. -/
def add (L : List (List Int)) (A : List Int) : List (List Int) := match A with
  | [] => L
  | x :: A => match L with
    | [] => [x :: A]
    | B :: _ => ordL B (x :: A)
theorem add_len {L : List (List Int)} {A : List Int} (h : L.length ≤ 1) : (add L A).length ≤ L.length + 1 := by
  unfold add
  split
  · omega
  · split
    · simp
    · unfold ordL
      split <;> simp
theorem HR.quiet (H : HR h0 h p rv vs) (q : Quiet h h') (lo : Low h') : HR h0 h' p rv vs :=
  ⟨lo, H.qt.trans q, H.pn, q.get H.cell (H.lo _ _ H.cell), row_quiet H.row H.lo q, H.ro⟩
theorem HP.quiet {L : List (List Int)} (s : HP h0 h p L) (q : Quiet h h') (lo : Low h') : HP h0 h' p L := by
  obtain ⟨rv, vs, H, hl, hi⟩ := s
  refine ⟨rv, vs, H.quiet q lo, hl, fun i v A hv hA => ?_⟩
  obtain ⟨I, ho⟩ := hi i v A hv hA
  exact ⟨⟨sees_keep I.sees H.lo q, I.cap, I.out, I.short⟩, fun o h5 => ⟨(ho o h5).1, Nat.lt_of_lt_of_le (ho o h5).2 q.1⟩⟩
theorem hpush_ok (k : Base T) {L : List (List Int)} {a : Int} {A : List Int} {x : AV} {h1 : AH} (s : HP h0 h1 p L) (hL : L.length ≤ 1) (hne : ∀ B ∈ L, B ≠ []) (q : Quiet h1 h) (lo : Low h) (sx : Sees h x (izs (a :: A))) (cx : capOk x) (ox : ∀ o ∈ objs x, h1.next ≤ o) (shx : (a :: A).length < 1000000) :
    Gives T 40 [.iface 57 (.ptr p 0), .iface 26 x] h fun r h' => HP h0 h' p (add L (a :: A)) := by
  obtain ⟨rv, vs, H, hl, hi⟩ := s
  have H1 := H.quiet q lo
  have hpl : p < h1.next := H.lo _ _ H.cell
  have hol : ∀ o ∈ objs rv, o < h1.next := RowS.low H.row H.lo
  have hxl := sees_low sx lo
  obtain ⟨rv', vs', H', hl', hi'⟩ := HP.quiet ⟨rv, vs, H, hl, hi⟩ q lo
  refine gives_func (k.env _ (by decide)) (k.at (fn := a40) rfl) rfl ?_
  have hn1 := H.qt.1
  have hpush := push_row k (L := L) (A := a :: A) (x := x) H1 hl (fun i v B hv hB => by
    obtain ⟨I, ho⟩ := hi i v B hv hB
    exact ⟨⟨sees_keep I.sees H.lo q, I.cap, I.out, I.short⟩, fun o h5 => ⟨(ho o h5).1, Nat.lt_of_lt_of_le (ho o h5).2 q.1⟩⟩) (by omega) sx cx (fun o ho => ⟨by have := ox o ho; omega, hxl o ho, by have := ox o ho; omega, fun e => by have := hol o e; have := ox o ho; omega⟩) shx
  simp only [a40, c40, vms, vmc, AOpd.val, Nat.reduceEqDiff, reduceCtorEq, Nat.reduceAdd, Nat.reduceBEq]
  refine Gives.bind (hpush.mono ?_)
  rintro _ h2 ⟨rv2, H2, hi2, lo2⟩
  simp only [vms, vmc, AOpd.val, Nat.reduceEqDiff, reduceCtorEq, Nat.reduceAdd, Nat.reduceBEq, H2.load]
  refine Gives.bind ((hlen_ok k H2).mono ?_)
  rintro _ _ ⟨rfl, rfl⟩
  rename_i h2
  match L, vs, hl, hL, hne, H2, hi2 with
  | [], [], _, _, _, H2, hi2 =>
    simp only [vms, vmc, AOpd.val, Nat.reduceEqDiff, reduceCtorEq, Nat.reduceAdd, Nat.reduceBEq, List.nil_append, List.length_cons, List.length_nil, show IntKind.i64.wrap (((0 + 1 : Nat) : Int) - 1) = 0 from rfl]
    refine Gives.bind ((up0_ok k).mono ?_)
    rintro _ _ rfl
    simp only [vms, vmc, AOpd.val, Nat.reduceEqDiff, reduceCtorEq, Nat.reduceAdd, Nat.reduceBEq]
    exact ⟨rv2, [x], H2, rfl, hi2⟩
  | [B], [v], _, _, hne, H2, hi2 =>
    obtain ⟨b, B', rfl⟩ : ∃ b B', B = b :: B' := by
      cases B with
      | nil => exact absurd rfl (hne [] (by simp))
      | cons b B' => exact ⟨b, B', rfl⟩
    obtain ⟨I, hI⟩ := hi2 0 v _ rfl rfl
    obtain ⟨J, hJ⟩ := hi2 1 x _ rfl rfl
    simp only [vms, vmc, AOpd.val, Nat.reduceEqDiff, reduceCtorEq, Nat.reduceAdd, Nat.reduceBEq, List.singleton_append, List.length_cons, List.length_nil, show IntKind.i64.wrap (((0 + 1 + 1 : Nat) : Int) - 1) = 1 from rfl]
    refine Gives.bind ((up1_ok k H2 I J).mono ?_)
    rintro _ h3 ⟨H3, o, ho, u⟩
    simp only [vms, vmc, AOpd.val, Nat.reduceEqDiff, reduceCtorEq, Nat.reduceAdd, Nat.reduceBEq]
    have I3 := I.upd ho u
    have J3 := J.upd ho u
    have hI3 : ∀ o ∈ objs v, h0.next ≤ o ∧ o < h3.next := fun o h5 => ⟨(hI o h5).1, by rw [u.1]; exact (hI o h5).2⟩
    have hJ3 : ∀ o ∈ objs x, h0.next ≤ o ∧ o < h3.next := fun o h5 => ⟨(hJ o h5).1, by rw [u.1]; exact (hJ o h5).2⟩
    show HP h0 h3 p (ordL (b :: B') (a :: A))
    unfold Go.Proofs.Ytjbkjffolnodjaa.ord at H3
    by_cases hlt : a < b
    · rw [ordL_lt _ _ hlt]
      rw [if_pos hlt] at H3
      refine ⟨rv2, _, H3, rfl, fun i u' C hu hC => ?_⟩
      match i with
      | 0 => simp at hu hC; subst hu; subst hC; exact ⟨J3, hJ3⟩
      | 1 => simp at hu hC; subst hu; subst hC; exact ⟨I3, hI3⟩
      | i + 2 => simp at hu
    · rw [ordL_ge _ _ hlt]
      rw [if_neg hlt] at H3
      refine ⟨rv2, _, H3, rfl, fun i u' C hu hC => ?_⟩
      match i with
      | 0 => simp at hu hC; subst hu; subst hC; exact ⟨I3, hI3⟩
      | 1 => simp at hu hC; subst hu; subst hC; exact ⟨J3, hJ3⟩
      | i + 2 => simp at hu
theorem add_ne {L : List (List Int)} {A : List Int} (h : ∀ B ∈ L, B ≠ []) : ∀ B ∈ add L A, B ≠ [] := by
  match A, L, h with
  | [], L, h => exact h
  | x :: A, [], h => intro B hB; simp [add] at hB; subst hB; simp
  | x :: A, C :: r, h =>
    have hC := h C (by simp)
    intro B hB
    have hB' : B ∈ ordL C (x :: A) := hB
    have : B = C ∨ B = x :: A := by
      unfold ordL at hB'
      split at hB' <;> simp at hB' <;> grind
    rcases this with rfl | rfl
    · exact hC
    · simp
/-- Some lists, in a row of their own. -/
structure Lists (h : AH) (o : Nat) (va : List AV) (ls : List (List Int)) : Prop where
  obj : h.get o = some (.cells va true)
  len : va.length = ls.length
  each : ∀ (i : Nat) (v : AV) (a : List Int), va[i]? = some v → ls[i]? = some a → Sees h v (izs a) ∧ a.length < 1000000
theorem Lists.quiet {o : Nat} {va : List AV} {ls : List (List Int)} (s : Lists h o va ls) (hl : Low h) (q : Quiet h h') : Lists h' o va ls :=
  ⟨q.get s.obj (hl _ _ s.obj), s.len, fun i v a hv ha => ⟨sees_keep (s.each i v a hv ha).1 hl q, (s.each i v a hv ha).2⟩⟩
theorem heads_ok (k : Base T) (hl : Low h) {o : Nat} {va : List AV} {ls : List (List Int)} (s : Lists h o va ls) (hn : ls.length ≤ 2) :
    Gives T 28 [.slice o 0 1 ls.length ls.length true] h fun r h' => ∃ p, r = .ptr p 0 ∧ HP h h' p (ls.foldl (fun L a => add L (ris a)) []) ∧ Low h' ∧ Quiet h h' := by
  refine gives_func (k.env _ (by decide)) (k.at (fn := a28) rfl) rfl ?_
  have hb0 : fillV ([] : List AV) [] = some [] := rfl
  have hbox : boxV (h.new (.cells [] true)) (.slice h.next 0 1 0 0 true) = some (.ptr (h.new (.cells [] true)).next 0, (h.new (.cells [] true)).new (.cells [.slice h.next 0 1 0 0 true] true)) := box_one rfl rfl
  simp only [a28, c28, vms, vmc, AOpd.val, Nat.reduceEqDiff, reduceCtorEq, Nat.reduceAdd, Nat.reduceBEq, hb0, hbox, len_slice, next_new]
  have q0 : Quiet h ((h.new (.cells [] true)).new (.cells [.slice h.next 0 1 0 0 true] true)) := ((Quiet.refl h).new _).new _
  have lo0 : Low ((h.new (.cells [] true)).new (.cells [.slice h.next 0 1 0 0 true] true)) := (hl.new _).new _
  have gp : ((h.new (.cells [] true)).new (.cells [.slice h.next 0 1 0 0 true] true)).get (h.next + 1) = some (.cells [.slice h.next 0 1 0 0 true] true) := by
    have := get_new_same (h := h.new (.cells [] true)) (x := .cells [.slice h.next 0 1 0 0 true] true)
    rw [next_new] at this; exact this
  have gr : ((h.new (.cells [] true)).new (.cells [.slice h.next 0 1 0 0 true] true)).get h.next = some (.cells [] true) := by
    rw [AH.get_new, if_neg (by rw [next_new]; omega), get_new_same]
  have hp0 : HP h ((h.new (.cells [] true)).new (.cells [.slice h.next 0 1 0 0 true] true)) (h.next + 1) [] :=
    ⟨.slice h.next 0 1 0 0 true, [], ⟨lo0, q0, by omega, gp, .inr ⟨h.next, 0, true, [], rfl, gr, rfl, Nat.le_refl _, fun i x hx => by simp at hx⟩, fun o ho => by simp [objs] at ho; omega⟩, rfl, fun i v A hv => by simp at hv⟩
  generalize ((h.new (.cells [] true)).new (.cells [.slice h.next 0 1 0 0 true] true)) = h1 at *
  refine wpc_loop (fun m f h' => ∃ i, m = ls.length - i ∧ i ≤ ls.length ∧ HP h h' (h.next + 1) ((ls.take i).foldl (fun L a => add L (ris a)) []) ∧ ((ls.take i).foldl (fun L a => add L (ris a)) []).length ≤ i ∧ (∀ B ∈ (ls.take i).foldl (fun L a => add L (ris a)) [], B ≠ []) ∧ Low h' ∧ Quiet h h' ∧ f.at 3 = .ptr (h.next + 1) 0 ∧ f.at 8 = .slice o 0 1 ls.length ls.length true ∧ f.at 9 = .int .i64 (ls.length : Nat) ∧ f.at 10 = .int .i64 (i : Nat)) ?_ ls.length _ _ ⟨0, rfl, Nat.zero_le _, hp0, by simp, by simp, lo0, q0, ?_, ?_, ?_, ?_⟩
  · rintro m f h2 ⟨i, rfl, hi, hp, hlen, hne, lo, q, f3, f8, f9, f10⟩
    simp only [c28l0, vms, vmc, AOpd.val, Nat.reduceEqDiff, reduceCtorEq, Nat.reduceAdd, Nat.reduceBEq, f9, f10]
    by_cases hlt : i < ls.length
    · have hd : decide ((i : Int) < (ls.length : Int)) = true := by rw [decide_eq_true_eq]; omega
      obtain ⟨a, ha⟩ : ∃ a, ls[i]? = some a := ⟨_, List.getElem?_eq_getElem hlt⟩
      obtain ⟨v, hv⟩ : ∃ v, va[i]? = some v := ⟨_, List.getElem?_eq_getElem (by rw [s.len]; exact hlt)⟩
      have hix : idxAddrV 1 (.slice o 0 1 ls.length ls.length true) (.int .i64 (i : Int)) = some (.ptr o i) := by simp [idxAddrV, hlt]
      have hld : loadV h2 false 1 (.ptr o i) = some v := load_at (q.get s.obj (hl _ _ s.obj)) hv
      obtain ⟨sv, shv⟩ := s.each i v a hv ha
      have w1 : IntKind.i64.wrap ((i : Int) + 1) = ((i + 1 : Nat) : Int) := by rw [wrap_i64 (by omega) (by omega)]; rfl
      have htake : ls.take (i + 1) = ls.take i ++ [a] := by rw [List.take_add_one, ha]; rfl
      have hnext : (ls.take (i + 1)).foldl (fun L a => add L (ris a)) [] = add ((ls.take i).foldl (fun L a => add L (ris a)) []) (ris a) := by rw [htake, List.foldl_append]; rfl
      generalize (ls.take i).foldl (fun L a => add L (ris a)) [] = L at hp hlen hne hnext
      simp only [hd, vms, vmc, AOpd.val, Nat.reduceEqDiff, reduceCtorEq, Nat.reduceAdd, Nat.reduceBEq, f8, f10, hix, hld]
      refine Gives.bind ((rising_ok k lo (sees_keep sv hl q) shv).mono ?_)
      intro r h3 n3
      have lr : lenOfV r = some (ris a).length := by rw [n3.row.sees.len, izs_len]
      have hra := ris_len a
      simp only [vms, vmc, AOpd.val, Nat.reduceEqDiff, reduceCtorEq, Nat.reduceAdd, Nat.reduceBEq, lr]
      cases hra2 : ris a with
      | nil =>
        simp only [List.length_nil, show decide (((0 : Nat) : Int) > 0) = false from rfl, vms, vmc, AOpd.val, Nat.reduceEqDiff, reduceCtorEq, Nat.reduceAdd, Nat.reduceBEq, f10, w1]
        refine ⟨ls.length - (i + 1), by omega, i + 1, rfl, by omega, by rw [hnext, hra2]; exact hp.quiet n3.qt n3.lo, by rw [hnext, hra2]; show L.length ≤ _; omega, by rw [hnext, hra2]; exact hne, n3.lo, q.trans n3.qt, ?_, ?_, ?_, rfl⟩
        · first | trivial | exact f3
        · first | trivial | exact f8
        · first | trivial | exact f9
      | cons z Z =>
        have dz : decide ((((z :: Z).length : Nat) : Int) > 0) = true := by rw [decide_eq_true_eq]; simp only [List.length_cons]; omega
        rw [hra2] at n3 hra
        simp only [dz, vms, vmc, AOpd.val, Nat.reduceEqDiff, reduceCtorEq, Nat.reduceAdd, Nat.reduceBEq, f3]
        have cr : capOk r := row_cap n3.row
        refine Gives.bind ((hpush_ok k hp (by omega) hne n3.qt n3.lo n3.sees cr n3.new (by omega)).mono ?_)
        intro _ h4 hp4
        obtain ⟨rv4, vs4, H4, _⟩ := id hp4
        simp only [vms, vmc, AOpd.val, Nat.reduceEqDiff, reduceCtorEq, Nat.reduceAdd, Nat.reduceBEq, f10, w1]
        refine ⟨ls.length - (i + 1), by omega, i + 1, rfl, by omega, by rw [hnext, hra2]; exact hp4, ?_, by rw [hnext, hra2]; exact add_ne hne, H4.lo, H4.qt, ?_, ?_, ?_, rfl⟩
        · rw [hnext, hra2]; have := add_len (A := z :: Z) (show L.length ≤ 1 by omega); omega
        · first | trivial | exact f3
        · first | trivial | exact f8
        · first | trivial | exact f9
    · have hd : decide ((i : Int) < (ls.length : Int)) = false := by rw [decide_eq_false_iff_not]; omega
      have : i = ls.length := by omega
      subst this
      rw [List.take_length] at hp
      simp only [hd, vms, vmc, AOpd.val, Nat.reduceEqDiff, reduceCtorEq, Nat.reduceAdd, Nat.reduceBEq, f3]
      exact ⟨_, rfl, hp, lo, q⟩
  all_goals (simp only [vms, vmc, AOpd.val, Nat.reduceEqDiff, reduceCtorEq, Nat.reduceAdd, Nat.reduceBEq] <;> rfl)
theorem HS.keep {ro : List Nat} {E G : Nat → Prop} {L : List (List Int)} (s : HS h0 h p ro E L) (m : Mods h h' G) (lo : Low h') (hG : ∀ o, G o → h0.next ≤ o ∧ o ≠ p ∧ o ∉ ro ∧ ¬ E o) : HS h0 h' p ro E L := by
  obtain ⟨rv, vs, hr, H, hl, hi⟩ := s
  subst hr
  refine ⟨rv, vs, rfl, ⟨lo, ⟨Nat.le_trans H.qt.1 m.1, fun o ho hf => (m.2 o (Nat.lt_of_lt_of_le ho H.qt.1) fun g => by have := (hG o g).1; omega).trans (H.qt.2 o ho hf)⟩, H.pn, (m.2 p (H.lo _ _ H.cell) fun g => (hG p g).2.1 rfl).trans H.cell, RowS.keep H.row fun o ho => m.2 o (RowS.low H.row H.lo o ho) fun g => (hG o g).2.2.1 ho, H.ro⟩, hl, fun i v A hv hA => ?_⟩
  obtain ⟨I, hE⟩ := hi i v A hv hA
  exact ⟨⟨sees_same I.sees fun o ho => m.2 o (sees_low I.sees H.lo o ho) fun g => (hG o g).2.2.2 (hE o ho), I.cap, I.out, I.short⟩, hE⟩
/-- All numbers of one list, or of two. -/
theorem union_gives (k : Base T) (hl : Low h) {o : Nat} {va : List AV} {ls : List (List Int)} {M : List Int} (s : Lists h o va ls) (hn : ls.length ≤ 2) (hM : R1 (ls.foldl (fun L a => add L (ris a)) []) M) (hsz : M.length < 1000000) :
    Gives T 20 [.slice o 0 1 ls.length ls.length true] h fun r h' => NewI h h' r M := by
  refine gives_func (k.env _ (by decide)) (k.at (fn := a20) rfl) rfl ?_
  simp only [a20, c20, vms, vmc, AOpd.val, Nat.reduceEqDiff, reduceCtorEq, Nat.reduceAdd, Nat.reduceBEq]
  refine Gives.bind ((heads_ok k hl s hn).mono ?_)
  rintro _ h1 ⟨p, rfl, hp, lo1, q1⟩
  obtain ⟨ro, E, hs, hro, hE, hp0, hp1⟩ := hp.hs
  have nc : nilChkV (.ptr p 0) = some (.ptr p 0) := rfl
  simp only [vms, vmc, AOpd.val, Nat.reduceEqDiff, reduceCtorEq, Nat.reduceAdd, Nat.reduceBEq]
  refine wpc_loop (fun m f h' => ∃ rv out M' st, m = M'.length ∧ M = out ++ M' ∧ HS h h' p ro E st ∧ R1 st M' ∧ Row1 h' rv (izs out) ∧ (∀ o ∈ objs rv, h1.next ≤ o) ∧ Low h' ∧ Quiet h h' ∧ h1.next ≤ h'.next ∧ f.at 3 = rv ∧ f.at 4 = .ptr p 0) ?_ M.length _ _ ⟨.nilSlice, [], M, _, rfl, rfl, hs, hM, .inl ⟨rfl, rfl⟩, fun o ho => by simp [objs] at ho, lo1, q1, Nat.le_refl _, ?_, ?_⟩
  · rintro m f h2 ⟨rv, out, M', st, rfl, hMM, hs2, hr1, row, hob, lo2, q2, hn2, f3, f4⟩
    obtain ⟨rw2, vs2, H2, hl2⟩ := hs2.lenL
    simp only [c20l0, vms, vmc, AOpd.val, Nat.reduceEqDiff, reduceCtorEq, Nat.reduceAdd, Nat.reduceBEq, f4, nc, H2.load]
    refine Gives.bind ((hlen_ok k H2).mono ?_)
    rintro _ _ ⟨rfl, rfl⟩
    rename_i h2
    cases M' with
    | nil =>
      have hst : st = [] := by
        rcases hr1 with ⟨h, _⟩ | ⟨x, X, h, _, h5⟩ | ⟨x, X, y, Y, h, _, _, _, h5⟩
        · exact h
        · cases h5
        · rw [mer] at h5
          split at h5
          · cases h5
          · split at h5 <;> cases h5
      have d : decide ((vs2.length : Int) > 0) = false := by rw [hl2, hst]; rfl
      simp only [d, vms, vmc, AOpd.val, Nat.reduceEqDiff, reduceCtorEq, Nat.reduceAdd, Nat.reduceBEq, f3]
      rw [List.append_nil] at hMM
      subst hMM
      exact ⟨row, fun o ho => Nat.le_trans q1.1 (hob o ho), q2, lo2⟩
    | cons n M' =>
      have hst : 0 < st.length := by
        rcases hr1 with ⟨h, h5⟩ | ⟨x, X, h, _⟩ | ⟨x, X, y, Y, h, _⟩
        · cases h5
        · rw [h]; simp
        · rw [h]; simp
      have d : decide ((vs2.length : Int) > 0) = true := by rw [hl2, decide_eq_true_eq]; omega
      simp only [d, vms, vmc, AOpd.val, Nat.reduceEqDiff, reduceCtorEq, Nat.reduceAdd, Nat.reduceBEq, f3, f4]
      refine Gives.bind ((next_ok k hs2 hr1).mono ?_)
      rintro _ h3 ⟨rfl, tc, st', hs3, hr3⟩
      obtain ⟨_, _, H3, _⟩ := hs3.lenL
      have row3 : Row1 h3 rv (izs out) := RowS.keep row fun o ho => tc.2 o (fun e => by have := hob o ho; omega) fun e => by have := hob o ho; have := (hro o e).2; omega
      have ol : out.length < 1000000 := by
        have := congrArg List.length hMM
        simp at this; omega
      obtain ⟨rv4, h4, ha, row4, ob4, m4, lo4⟩ := row_app (bytes := 8) (x := .int .i64 n) H3.lo row3 (by decide) (by decide) (by rw [izs_len]; exact ol) rfl
      have hn3 : h3.next = h2.next := tc.1
      have hs4 : HS h h4 p ro E st' := hs3.keep m4 lo4 fun o ho => by
        have := hob o ho
        have := q1.1
        exact ⟨by omega, by omega, fun e => by have := (hro o e).2; omega, fun e => by have := (hE o e).2; omega⟩
      have q4 : Quiet h h4 := by
        obtain ⟨_, _, H4, _⟩ := hs4.lenL
        exact H4.qt
      simp only [vms, vmc, AOpd.val, Nat.reduceEqDiff, reduceCtorEq, Nat.reduceAdd, Nat.reduceBEq, fillI, ha]
      refine ⟨M'.length, by simp, rv4, out ++ [n], M', st', rfl, by rw [hMM]; simp, hs4, hr3, by rw [izs_snoc]; exact row4, fun o ho => ?_, lo4, q4, by have := m4.1; omega, rfl, ?_⟩
      · rcases ob4 o ho with h5 | h5
        · exact hob o h5
        · omega
      · first | trivial | exact f4
  all_goals (simp only [vms, vmc, AOpd.val, Nat.reduceEqDiff, reduceCtorEq, Nat.reduceAdd, Nat.reduceBEq] <;> rfl)
theorem R1_one (a : List Int) : R1 (add [] (ris a)) (ris a) := by
  have hu := ris_up a
  cases h : ris a with
  | nil => exact .inl ⟨rfl, rfl⟩
  | cons x X => rw [h] at hu; exact .inr (.inl ⟨x, X, rfl, hu, rfl⟩)
theorem R1_two (a b : List Int) : R1 (add (add [] (ris a)) (ris b)) (union2 a b) := by
  have hu := ris_up a
  have hv := ris_up b
  unfold union2
  cases ha : ris a with
  | nil =>
    rw [mer]
    exact R1_one b
  | cons x X =>
    rw [ha] at hu
    cases hb : ris b with
    | nil => rw [mer_nil]; exact .inr (.inl ⟨x, X, rfl, hu, rfl⟩)
    | cons y Y =>
      rw [hb] at hv
      show R1 (ordL (x :: X) (y :: Y)) _
      by_cases hlt : y < x
      · rw [ordL_lt _ _ hlt]
        exact .inr (.inr ⟨y, Y, x, X, rfl, hv, hu, by omega, mer_comm hu hv⟩)
      · rw [ordL_ge _ _ hlt]
        exact .inr (.inr ⟨x, X, y, Y, rfl, hu, hv, by omega, rfl⟩)
theorem mer_len : ∀ (a b : List Int), (mer a b).length ≤ a.length + b.length
  | [], b => by simp [mer]
  | x :: a, [] => by simp [mer]
  | x :: a, y :: b => by
    rw [mer]
    split
    · have := mer_len a (y :: b); simp only [List.length_cons] at this ⊢; omega
    · split
      · have := mer_len (x :: a) b; simp only [List.length_cons] at this ⊢; omega
      · have := mer_len a b; simp only [List.length_cons] at this ⊢; omega
termination_by a b => a.length + b.length
theorem union1_ok (k : Base T) (hl : Low h) {o : Nat} {v : AV} {a : List Int} (hg : h.get o = some (.cells [v] true)) (sa : Sees h v (izs a)) (hsa : a.length < 1000000) : Gives T 20 [.slice o 0 1 1 1 true] h fun r h' => NewI h h' r (ris a) := by
  have := ris_len a
  exact union_gives k hl (ls := [a]) (va := [v]) ⟨hg, rfl, fun i u b hu hb => by
    match i with
    | 0 => simp at hu hb; subst hu; subst hb; exact ⟨sa, hsa⟩
    | i + 1 => simp at hu⟩ (by simp) (R1_one a) (by omega)
theorem union2_ok (k : Base T) (hl : Low h) {o : Nat} {va vb : AV} {a b : List Int} (t : Two h o va vb) (sa : Sees h va (izs a)) (sb : Sees h vb (izs b)) (hsa : a.length < 400000) (hsb : b.length < 400000) : Gives T 20 [.slice o 0 1 2 2 true] h fun r h' => NewI h h' r (union2 a b) := by
  have h1 := ris_len a
  have h2 := ris_len b
  have h3 := mer_len (ris a) (ris b)
  exact union_gives k hl (ls := [a, b]) (va := [va, vb]) ⟨t, rfl, fun i u c hu hc => by
    match i with
    | 0 => simp at hu hc; subst hu; subst hc; exact ⟨sa, by omega⟩
    | 1 => simp at hu hc; subst hu; subst hc; exact ⟨sb, by omega⟩
    | i + 2 => simp at hu⟩ (by simp) (R1_two a b) (by unfold union2; omega)
end Go.Proofs.Ytjbkjffolnodjaa

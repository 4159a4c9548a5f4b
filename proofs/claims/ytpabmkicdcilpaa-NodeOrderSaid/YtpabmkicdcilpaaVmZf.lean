/- Rows of numbers, what is low, what alone is changed: generic facts of the machine's memory. -/
import Derived.Test.YtpabmkicdcilpaaVmZe
import Derived.Test.YtpabmkicdcilpaaVmZd
namespace Go.Vm
open Go.RowKit
set_option linter.unusedSimpArgs false
set_option linter.unusedVariables false
variable {T : Prog} {h : AH}
/-- Numbers in a row that has room. -/
def Arr (h : AH) (o cap : Nat) (L : List Int) : Prop := ∃ l, h.get o = some (.cells l true) ∧ l.length = cap ∧ L.length ≤ cap ∧ ∀ (i : Nat) (x : Int), L[i]? = some x → l[i]? = some (AV.int .i64 x)
/-- One object alone was turned. -/
def Upd (h h' : AH) (o : Nat) : Prop := h'.next = h.next ∧ ∀ q, q ≠ o → h'.get q = h.get q
theorem Upd.refl (h : AH) (o : Nat) : Upd h h o := ⟨rfl, fun _ _ => rfl⟩
theorem Upd.trans {a b c : AH} {o : Nat} (k : Upd a b o) (m : Upd b c o) : Upd a c o := ⟨m.1.trans k.1, fun q hq => (m.2 q hq).trans (k.2 q hq)⟩
theorem Upd.set {a b : AH} {o : Nat} (k : Upd a b o) (x : AObj) : Upd a (b.set o x) o := ⟨k.1, fun q hq => by rw [AH.get_set, if_neg (Ne.symm hq)]; exact k.2 q hq⟩
theorem wrap_i64n {n : Nat} (h : n < 9223372036854775808) : IntKind.i64.wrap (n : Int) = (n : Int) := wrap_nat_le (show n ≤ 9223372036854775807 by omega)
theorem idx_nat {o off len cap i : Nat} {ex : Bool} {k : IntKind} (h : i < len) : idxAddrV 1 (.slice o off 1 len cap ex) (.int k (i : Int)) = some (.ptr o (off + i)) := by
  simp [idxAddrV, h]
theorem bin_quo2 {k : IntKind} {a : Int} : binV .quo (.int k a) (.int k 2) = some (.int k (k.wrap (a.tdiv 2))) := bin_quo (by decide)
theorem Arr.load {o cap : Nat} {L : List Int} (a : Arr h o cap L) {i : Nat} (hi : i < L.length) : loadV h false 1 (.ptr o i) = some (.int .i64 (at0 L i)) := by
  obtain ⟨l, hg, h1, h2, h3⟩ := a
  exact load_at hg (h3 i _ (at0_some hi))
theorem Arr.store {o cap : Nat} {L : List Int} (a : Arr h o cap L) {i : Nat} (hi : i < L.length) (x : Int) : ∃ h', storeV h 1 (.ptr o i) (.int .i64 x) = some h' ∧ Upd h h' o ∧ Arr h' o cap (L.set i x) := by
  obtain ⟨l, hg, h1, h2, h3⟩ := a
  refine ⟨_, store_int hg (by omega), (Upd.refl h o).set _, _, get_set_same, by simp [h1], by simpa using h2, ?_⟩
  intro j y hj
  rw [List.getElem?_set] at hj ⊢
  by_cases e : i = j
  · subst e
    rw [if_pos rfl, if_pos hi] at hj
    rw [if_pos rfl, if_pos (by omega)]
    cases hj; rfl
  · rw [if_neg e] at hj ⊢; exact h3 j y hj
theorem swp_out {L : List Int} {a b i : Nat} (ha : a < L.length) (hb : b < L.length) (h1 : i ≠ a) (h2 : i ≠ b) : at0 (swp L a b) i = at0 L i := by
  rw [swp_get ha hb, if_neg h2, if_neg h1]
def objs : AV → List Nat
  | .slice o _ _ _ _ _ => [o]
  | _ => []
/-- A row of numbers, or none yet. -/
def RowV (h : AH) (v : AV) (L : List Int) : Prop := (v = .nilSlice ∧ L = []) ∨ ∃ o cap, v = .slice o 0 1 L.length cap false ∧ Arr h o cap L
/-- What was there is as it was, but for some objects. -/
def Only (h h' : AH) (F : List Nat) : Prop := h.next ≤ h'.next ∧ ∀ q, q < h.next → q ∉ F → h'.get q = h.get q
theorem Only.refl (h : AH) (F : List Nat) : Only h h F := ⟨Nat.le_refl _, fun _ _ _ => rfl⟩
theorem Only.trans {a b c : AH} {F G : List Nat} (k : Only a b F) (m : Only b c G) (hG : ∀ o ∈ G, o ∈ F ∨ a.next ≤ o) : Only a c F :=
  ⟨Nat.le_trans k.1 m.1, fun q hq hF => (m.2 q (Nat.lt_of_lt_of_le hq k.1) fun hg => (hG q hg).elim hF (by omega)).trans (k.2 q hq hF)⟩
theorem Upd.only {h' : AH} {o : Nat} {F : List Nat} (u : Upd h h' o) (ho : o ∈ F ∨ h.next ≤ o) : Only h h' F :=
  ⟨by rw [u.1]; exact Nat.le_refl _, fun q hq hF => u.2 q fun e => by subst e; exact ho.elim hF (by omega)⟩
theorem Only.set {h' : AH} {F : List Nat} (k : Only h h' F) {o : Nat} (ho : o ∈ F ∨ h.next ≤ o) (x : AObj) : Only h (h'.set o x) F :=
  ⟨k.1, fun q hq hF => by rw [AH.get_set, if_neg (fun e => by subst e; exact ho.elim hF (by omega))]; exact k.2 q hq hF⟩
theorem Only.new {h' : AH} {F : List Nat} (k : Only h h' F) (x : AObj) : Only h (h'.new x) F :=
  ⟨by rw [next_new]; have := k.1; omega, fun q hq hF => by rw [AH.get_new, if_neg (by have := k.1; omega)]; exact k.2 q hq hF⟩
/-- Every object has a number below the next one. -/
def Low (h : AH) : Prop := ∀ o x, h.get o = some x → o < h.next
theorem Low.new (k : Low h) (x : AObj) : Low (h.new x) := by
  intro o y hy
  rw [AH.get_new] at hy
  split at hy
  · rename_i e; rw [next_new]; omega
  · have := k o y hy; rw [next_new]; omega
theorem Low.set (k : Low h) {o : Nat} (ho : o < h.next) (x : AObj) : Low (h.set o x) := by
  intro p y hy
  rw [AH.get_set] at hy
  split at hy
  · rename_i e; rw [next_set]; omega
  · exact k p y hy
theorem Low.upd {h' : AH} {o : Nat} (k : Low h) (u : Upd h h' o) (ho : o < h.next) : Low h' := by
  intro p y hy
  rw [u.1]
  by_cases e : p = o
  · omega
  · rw [u.2 p e] at hy; exact k p y hy
/-- The numbers in a map. -/
def keysM (K : List Int) : List (AV × AV) := K.map fun x => (.int .i64 x, .agg [])
theorem find_in {n : Int} : ∀ (K : List Int) (i : Nat), n ∈ K → ∃ j, findV 0 (.int .i64 n) (keysM K) i = some (some (i + j, .agg [])) ∧ j < K.length ∧ K[j]? = some n
  | [], _, h => by cases h
  | a :: K, i, h => by
    by_cases e : n = a
    · subst e
      exact ⟨0, by simp [keysM, findV, keyEq], by simp, rfl⟩
    · have hm : n ∈ K := by simpa [e] using h
      obtain ⟨j, h1, h2, h3⟩ := find_in K (i + 1) hm
      refine ⟨j + 1, ?_, by simp; omega, by simpa using h3⟩
      have e' : (n == a) = false := by simpa using e
      simp only [keysM, List.map_cons, findV, keyEq, if_true, e']
      rw [show i + (j + 1) = i + 1 + j by omega]; exact h1
theorem find_out {n : Int} : ∀ (K : List Int) (i : Nat), n ∉ K → findV 0 (.int .i64 n) (keysM K) i = some none
  | [], _, _ => rfl
  | a :: K, i, h => by
    have e : (n == a) = false := by
      have : n ≠ a := fun e => h (by simp [e])
      simpa using this
    have hm : n ∉ K := fun e => h (by simp [e])
    simp only [keysM, List.map_cons, findV, keyEq, if_true, e]
    exact find_out K (i + 1) hm
theorem erase_perm {K : List Int} {n : Int} {j : Nat} (h : K[j]? = some n) : (n :: K.eraseIdx j).Perm K := by
  induction K generalizing j with
  | nil => cases h
  | cons a K ih =>
    cases j with
    | zero => simp at h; subst h; exact List.Perm.refl _
    | succ j =>
      rw [List.eraseIdx_cons_succ]
      exact (List.Perm.swap a n _).trans ((ih (by simpa using h)).cons a)
theorem RowV.len {v : AV} {L : List Int} (r : RowV h v L) : lenOfV v = some L.length := by
  rcases r with ⟨rfl, rfl⟩ | ⟨o, cap, rfl, _⟩ <;> rfl
theorem RowV.keep {h' : AH} {v : AV} {L : List Int} (r : RowV h v L) (hk : ∀ o ∈ objs v, h'.get o = h.get o) : RowV h' v L := by
  rcases r with ⟨rfl, rfl⟩ | ⟨o, cap, rfl, l, hg, h1⟩
  · exact .inl ⟨rfl, rfl⟩
  · exact .inr ⟨o, cap, rfl, l, (hk o (by simp [objs])).trans hg, h1⟩
theorem pigeon : ∀ (N : Nat) (L : List Int), L.Nodup → (∀ y ∈ L, 0 ≤ y ∧ y < N) → L.length ≤ N
  | 0, L, _, h => by
    cases L with
    | nil => simp
    | cons a L => have := h a (by simp); omega
  | N + 1, L, hn, h => by
    by_cases hm : (N : Int) ∈ L
    · have h1 := pigeon N (L.erase N) (hn.erase _) (fun y hy => by
        have h2 := h y (List.mem_of_mem_erase hy)
        have h3 : y ≠ N := fun e => by
          subst e
          exact (List.Nodup.not_mem_erase hn) hy
        omega)
      have h4 := List.length_erase_of_mem hm
      have h5 : 0 < L.length := List.length_pos_of_mem hm
      omega
    · have h1 := pigeon N L hn (fun y hy => by
        have h2 := h y hy
        have h3 : y ≠ N := fun e => by subst e; exact hm hy
        omega)
      omega
theorem slc_to0 {o len cap n : Nat} {ex : Bool} (hn : n ≤ cap) : slcV 1 (.slice o 0 1 len cap ex) none (some (.int .i64 (n : Int))) none = some (.slice o 0 1 n cap ex) := by
  simp [slcV, bounds, boundM, boundH, boundL, natOf, hn, Option.filter]
theorem Arr.take {o cap : Nat} {L : List Int} (a : Arr h o cap L) (n : Nat) : Arr h o cap (L.take n) := by
  obtain ⟨l, hg, h1, h2, h3⟩ := a
  refine ⟨l, hg, h1, by simp; omega, fun i x hx => h3 i x ?_⟩
  rw [List.getElem?_take] at hx
  split at hx
  · exact hx
  · cases hx
theorem cells_of {l : List AV} {L : List Int} (h2 : L.length ≤ l.length) (h3 : ∀ (i : Nat) (x : Int), L[i]? = some x → l[i]? = some (AV.int .i64 x)) : l.take L.length = L.map (.int .i64) := by
  apply List.ext_getElem?
  intro i
  rw [List.getElem?_take, List.getElem?_map]
  by_cases hi : i < L.length
  · rw [if_pos hi, h3 i _ (List.getElem?_eq_getElem hi), List.getElem?_eq_getElem hi]; rfl
  · rw [if_neg hi, List.getElem?_eq_none (by omega)]; rfl
/-- One number behind a row. -/
theorem append_one {v : AV} {L : List Int} {x : Int} {o2 : Nat} (hlow : Low h) (r : RowV h v L) (hs : L.length < 1000000) (h2 : h.get o2 = some (.cells [.int .i64 x] true)) (hne : ∀ o ∈ objs v, o ≠ o2) :
    ∃ v' h', appV 1 8 h v (.slice o2 0 1 1 1 true) = some (v', h') ∧ RowV h' v' (L ++ [x]) ∧ (∀ o ∈ objs v', o ∈ objs v ∨ h.next ≤ o) ∧ (∀ o ∈ objs v', o < h'.next) ∧ Only h h' (objs v) ∧ Low h' := by
  have hel : h.elems 1 1 (.slice o2 0 1 1 1 true) = some [.int .i64 x] := by
    simp [AH.elems, AH.load, h2]
  rcases r with ⟨rfl, rfl⟩ | ⟨o, cap, rfl, l, hg, h1, h3, h4⟩
  · refine ⟨.slice h.next 0 1 1 1 false, h.new (.cells [.int .i64 x] true), ?_, ?_, ?_, ?_, Only.new (Only.refl h _) _, hlow.new _⟩
    · simp only [appV, len_slice, Option.bind_some, hel, appendV]
      rfl
    · refine .inr ⟨h.next, 1, rfl, [.int .i64 x], get_new_same, rfl, by simp, ?_⟩
      intro i y hy
      cases i with
      | zero => simp at hy; subst hy; rfl
      | succ i => simp at hy
    · intro o ho; simp [objs] at ho; subst ho; exact .inr (Nat.le_refl _)
    · intro o ho; simp [objs] at ho; subst ho; rw [next_new]; omega
  · have ho2 : o ≠ o2 := hne o (by simp [objs])
    have hlt : o < h.next := hlow o _ hg
    by_cases hc : L.length + 1 ≤ cap
    · obtain ⟨hst⟩ : storeV h 1 (.ptr o L.length) (.int .i64 x) = some (h.set o (.cells (l.set L.length (.int .i64 x)) true)) ∧ True := ⟨store_int hg (by omega), trivial⟩
      have hst' : h.store o (0 + L.length * 1) [.int .i64 x] = some (h.set o (.cells (l.set L.length (.int .i64 x)) true)) := by
        have : storeV h 1 (.ptr o L.length) (.int .i64 x) = h.store o L.length [.int .i64 x] := rfl
        rw [← hst, this, Nat.zero_add, Nat.mul_one]
      refine ⟨.slice o 0 1 (L.length + 1) cap false, h.set o (.cells (l.set L.length (.int .i64 x)) true), ?_, ?_, ?_, ?_, (Only.refl h _).set (.inl (by simp [objs])) _, hlow.set hlt _⟩
      · simp only [appV, len_slice, Option.bind_some, hel, appendV, if_true]
        rw [if_pos hc, if_neg (by omega), hst']
        rfl
      · refine .inr ⟨o, cap, by simp, _, get_set_same, by simp [h1], by simp; omega, ?_⟩
        intro i y hy
        rw [List.getElem?_set]
        by_cases e : L.length = i
        · subst e
          rw [List.getElem?_append_right (Nat.le_refl _)] at hy
          simp at hy; subst hy
          rw [if_pos rfl, if_pos (by omega)]
        · rw [if_neg e]
          have : i < L.length := by
            have := (List.getElem?_eq_some_iff.1 hy).1
            simp at this; omega
          rw [List.getElem?_append_left this] at hy
          exact h4 i y hy
      · intro q hq; simp [objs] at hq; subst hq; exact .inl (by simp [objs])
      · intro q hq; simp [objs] at hq; subst hq; rw [next_set]; exact hlt
    · have hroom : roomOk (L.length + 1) 8 cap false = true := by
        simp [roomOk]; omega
      have hload : h.load o 0 (L.length * 1) = some (L.map (.int .i64)) := by
        simp only [AH.load, hg, Nat.mul_one, List.drop_zero]
        rw [if_pos (by omega), cells_of (by omega) h4]
      have hrw : h.isRw o = true := by simp [AH.isRw, hg]
      refine ⟨.slice h.next 0 1 (L.length + 1) (L.length + 1) false, (h.set o .dead).new (.cells (L.map (.int .i64) ++ [.int .i64 x]) true), ?_, ?_, ?_, ?_, ((Only.refl h _).set (.inl (by simp [objs])) _).new _, (hlow.set hlt _).new _⟩
      · simp only [appV, len_slice, Option.bind_some, hel, appendV, if_true]
        rw [if_neg hc, if_pos hroom, hload]
        simp [hrw, AV.flat, next_set]
      · refine .inr ⟨h.next, L.length + 1, by simp, L.map (.int .i64) ++ [.int .i64 x], ?_, by simp, by simp, ?_⟩
        · have := get_new_same (h := h.set o .dead) (x := .cells (L.map (.int .i64) ++ [.int .i64 x]) true)
          rw [next_set] at this; exact this
        · intro i y hy
          have : L.map (AV.int .i64) ++ [.int .i64 x] = (L ++ [x]).map (.int .i64) := by simp
          rw [this, List.getElem?_map, hy]; rfl
      · intro q hq; simp [objs] at hq; subst hq; exact .inr (Nat.le_refl _)
      · intro q hq; simp [objs] at hq; subst hq; rw [next_new, next_set]; omega
theorem beq_row {v : AV} {L : List Int} (r : RowV h v L) : AV.beq v v = true := by
  rcases r with ⟨rfl, rfl⟩ | ⟨o, cap, rfl, _⟩ <;> simp [AV.beq]
theorem store_cell1 {p : Nat} {a v c v' : AV} (hg : h.get p = some (.cells [a, v, c] true)) (hc : v'.cells = [v']) (hf : v'.flat = true) : storeV h 1 (.ptr p 1) v' = some (h.set p (.cells [a, v', c] true)) := store_at hg (by simp) hc hf
theorem row_cell {v : AV} {L : List Int} (r : RowV h v L) : v.cells = [v] ∧ v.flat = true := by
  rcases r with ⟨rfl, rfl⟩ | ⟨o, cap, rfl, _⟩ <;> exact ⟨rfl, rfl⟩
/-- A slice of one-cell elements shows these values. -/
def Sees (h : AH) (v : AV) (xs : List AV) : Prop :=
  (v = .nilSlice ∧ xs = []) ∨ ∃ o off cap ex l rw, v = .slice o off 1 xs.length cap ex ∧ h.get o = some (.cells l rw) ∧ off + xs.length ≤ l.length ∧ ∀ i x, xs[i]? = some x → l[off + i]? = some x
theorem Sees.len {v : AV} {xs : List AV} (s : Sees h v xs) : lenOfV v = some xs.length := by
  rcases s with ⟨rfl, rfl⟩ | ⟨o, off, cap, ex, l, rw, rfl, _⟩ <;> rfl
theorem Sees.at {v : AV} {xs : List AV} (s : Sees h v xs) {i : Nat} {x : AV} (hx : xs[i]? = some x) (k : IntKind) : ∃ a, idxAddrV 1 v (.int k (i : Int)) = some a ∧ loadV h false 1 a = some x := by
  have hi : i < xs.length := by
    rcases Nat.lt_or_ge i xs.length with h' | h'
    · exact h'
    · rw [List.getElem?_eq_none h'] at hx; cases hx
  rcases s with ⟨rfl, rfl⟩ | ⟨o, off, cap, ex, l, rw, rfl, hg, hll, hc⟩
  · simp at hi
  · refine ⟨.ptr o (off + i), by simp [idxAddrV, hi], ?_⟩
    have := hc i x hx
    have hlt : off + i < l.length := by
      rcases Nat.lt_or_ge (off + i) l.length with h' | h'
      · exact h'
      · rw [List.getElem?_eq_none h'] at this; cases this
    simp only [loadV, AH.load, hg, Bool.false_eq_true, if_false]
    rw [if_pos (by omega), List.drop_eq_getElem_cons hlt]
    rw [List.getElem?_eq_getElem hlt] at this
    simp only [Option.some.injEq] at this
    simp [this]

theorem wrap_nat {n : Nat} (h : n < 9223372036854775808) : IntKind.i64.wrap (n : Int) = n := wrap_i64 (by omega) (by omega)


theorem bin_or_i64 {a b : Nat} (ha : a < 9223372036854775808) (hb : b < 9223372036854775808) : binV .or (.int .i64 (a : Int)) (.int .i64 (b : Int)) = some (.int .i64 ((a ||| b : Nat) : Int)) := by
  have hab : a ||| b < 9223372036854775808 := Nat.or_lt_two_pow (n := 63) ha hb
  show some (AV.int .i64 (IntKind.i64.wrap ((BitVec.ofInt 64 (a : Int) ||| BitVec.ofInt 64 (b : Int)).toNat : Int))) = _
  rw [BitVec.toNat_or, BitVec.ofInt_natCast, BitVec.ofInt_natCast, BitVec.toNat_ofNat, BitVec.toNat_ofNat, Nat.mod_eq_of_lt (show a < 2 ^ 64 by omega), Nat.mod_eq_of_lt (show b < 2 ^ 64 by omega), wrap_i64n hab]
theorem bin_and_i64 (a : Int) {c : Nat} (hc : c < 9223372036854775808) : ∃ m : Nat, m ≤ c ∧ binV .and (.int .i64 a) (.int .i64 (c : Int)) = some (.int .i64 (m : Int)) ∧ ∀ n : Nat, n < 9223372036854775808 → a = n → m = n &&& c := by
  refine ⟨(BitVec.ofInt 64 a &&& BitVec.ofInt 64 (c : Int)).toNat, ?_, ?_, ?_⟩
  · rw [BitVec.toNat_and, BitVec.ofInt_natCast, BitVec.toNat_ofNat, Nat.mod_eq_of_lt (show c < 2 ^ 64 by omega)]
    exact Nat.and_le_right
  · show some (AV.int .i64 (IntKind.i64.wrap ((BitVec.ofInt 64 a &&& BitVec.ofInt 64 (c : Int)).toNat : Int))) = _
    have : (BitVec.ofInt 64 a &&& BitVec.ofInt 64 (c : Int)).toNat ≤ c := by
      rw [BitVec.toNat_and, BitVec.ofInt_natCast, BitVec.toNat_ofNat, Nat.mod_eq_of_lt (show c < 2 ^ 64 by omega)]
      exact Nat.and_le_right
    rw [wrap_i64n (by omega)]
  · rintro n hn rfl
    rw [BitVec.toNat_and, BitVec.ofInt_natCast, BitVec.ofInt_natCast, BitVec.toNat_ofNat, BitVec.toNat_ofNat, Nat.mod_eq_of_lt (show c < 2 ^ 64 by omega), Nat.mod_eq_of_lt (show n < 2 ^ 64 by omega)]
theorem bin_shl16 {a : Nat} (h : a ≤ 1073741824) : binV .shl (.int .i64 (a : Int)) (.int .u64 16) = some (.int .i64 ((a * 65536 : Nat) : Int)) := by
  show intShift .shl .i64 (.ofNat a) 16 = _
  unfold intShift
  rw [if_neg (by decide)]
  show some (AV.int .i64 (IntKind.i64.wrap (Int.ofNat a * 2 ^ min (Int.toNat 16) 64))) = _
  rw [show Int.ofNat a * 2 ^ min (Int.toNat 16) 64 = ((a * 65536 : Nat) : Int) by simp, wrap_i64n (by omega)]
theorem or_low {g s : Nat} (h : s < 65536) : g * 65536 ||| s = g * 65536 + s := by
  have := Nat.two_pow_add_eq_or_of_lt (i := 16) (b := s) h g
  rw [Nat.mul_comm g, show (65536 : Nat) = 2 ^ 16 from rfl, this]
theorem or_leaf {x : Nat} (h : x < 281474976710656) : x ||| 281474976710656 = x + 281474976710656 := by
  have := Nat.two_pow_add_eq_or_of_lt (i := 48) (b := x) h 1
  rw [Nat.or_comm, Nat.add_comm]
  exact this.symm
theorem and_pow48 (n : Nat) : ((n &&& 281474976710656 : Nat) != 0) = n.testBit 48 := by
  rw [show (281474976710656 : Nat) = 2 ^ 48 from rfl]
  cases hb : n.testBit 48
  · have : n &&& 2 ^ 48 = 0 := by
      apply Nat.eq_of_testBit_eq
      intro i
      rw [Nat.testBit_and, Nat.testBit_two_pow, Nat.zero_testBit]
      by_cases e : 48 = i
      · subst e; simp [hb]
      · simp [e]
    rw [this]; rfl
  · have h1 : (n &&& 2 ^ 48).testBit 48 = true := by rw [Nat.testBit_and, hb, Nat.testBit_two_pow]; rfl
    rw [bne_iff_ne]
    intro e
    rw [e, Nat.zero_testBit] at h1
    cases h1
theorem rep_one (v : AV) (n : Nat) : rep [v] n = List.replicate n v := by
  induction n with
  | zero => rfl
  | succ n ih => simp only [rep, ih, List.replicate_succ]; rfl
theorem mkSlice_nat {h : AH} {sz bytes l c : Nat} {zero : List AV} {k k' : IntKind} (h1 : l ≤ c) (h2 : c ≤ 9223372036854775807) (h3 : bytes * c ≤ 281474976710656) :
    mkSliceV h sz bytes zero (.int k (l : Int)) (.int k' (c : Int)) = some (.slice h.next 0 sz l c true, h.new (.cells (rep zero c) true)) := by
  unfold mkSliceV
  rw [natOf_cast, natOf_cast]
  simp only
  rw [if_pos ⟨h1, h2, h3⟩]
theorem wrap_u64 {n : Nat} (h : n < 18446744073709551616) : IntKind.u64.wrap (n : Int) = (n : Int) := wrap_nat_le (show n ≤ 18446744073709551615 by omega)
theorem setMany_get (l : List AV) : ∀ (xs : List AV) (i : Nat), (setMany l i xs).length = l.length ∧ (i + xs.length ≤ l.length → (∀ j, j < i → (setMany l i xs)[j]? = l[j]?) ∧ (∀ j x, xs[j]? = some x → (setMany l i xs)[i + j]? = some x) ∧ ∀ j, i + xs.length ≤ j → (setMany l i xs)[j]? = l[j]?) := by
  intro xs
  induction xs generalizing l with
  | nil => intro i; exact ⟨rfl, fun _ => ⟨fun _ _ => rfl, fun j x h => (by cases h), fun _ _ => rfl⟩⟩
  | cons a xs ih =>
    intro i
    obtain ⟨h1, h2⟩ := ih (l.set i a) (i + 1)
    refine ⟨by rw [setMany, h1]; simp, fun hl => ?_⟩
    simp only [List.length_cons] at hl
    obtain ⟨h3, h4, h5⟩ := h2 (by simp; omega)
    refine ⟨fun j hj => ?_, fun j x hx => ?_, fun j hj => ?_⟩
    · rw [setMany, h3 j (by omega), List.getElem?_set, if_neg (by omega)]
    · cases j with
      | zero =>
        simp only [List.getElem?_cons_zero, Option.some.injEq] at hx
        subst hx
        rw [setMany, show i + 0 = i from rfl, h3 i (by omega), List.getElem?_set, if_pos rfl, if_pos (by omega)]
      | succ j =>
        rw [setMany, show i + (j + 1) = i + 1 + j by omega]
        exact h4 j x (by simpa using hx)
    · simp only [List.length_cons] at hj
      rw [setMany, h5 j (by omega), List.getElem?_set, if_neg (by omega)]
theorem slc_from {o len cap n : Nat} {ex : Bool} (hn : n ≤ len) (hc : n < cap) : slcV 1 (.slice o 0 1 len cap ex) (some (.int .i64 (n : Int))) none none =
    some (.slice o n 1 (len - n) (cap - n) ex) := by
  have : ¬ cap = n := by omega
  simp [slcV, bounds, boundM, boundH, boundL, natOf, hn, show n ≤ cap by omega, Option.filter, this]
theorem idxRow_nat {o off n i : Nat} {k : IntKind} (hi : i < n) : idxRowV n 1 (.ptr o off) (.int k (i : Int)) = some (.ptr o (off + i)) := by
  simp [idxRowV, hi]
theorem res_cell {f : Fr} {h : AH} {t n : Nat} {r : List AResult} : resultsV f h (.cell t true n :: r) = (loadV h true n (f.at t)).bind fun v => (resultsV f h r).map (v :: ·) := by
  simp only [resultsV, AResult.val]
  generalize f.at t = p
  cases p <;> rfl
theorem store_all {h : AH} {o n : Nat} {l l' : List AV} (hg : h.get o = some (.cells l true)) (h1 : l.length = n) (h2 : l'.length = n) (hf : l'.all AV.flat = true) : storeV h n (.ptr o 0) (.agg l') = some (h.set o (.cells l' true)) := by
  have hm : setMany l 0 l' = l' := by
    obtain ⟨s1, s2⟩ := setMany_get l l' 0
    obtain ⟨_, s4, _⟩ := s2 (by omega)
    apply List.ext_getElem?
    intro i
    by_cases hi : i < l'.length
    · have := s4 i _ (List.getElem?_eq_getElem hi)
      rw [Nat.zero_add] at this
      rw [this, List.getElem?_eq_getElem hi]
    · rw [List.getElem?_eq_none (by omega), List.getElem?_eq_none (by omega)]
  show (if l'.length = n then h.store o 0 l' else none) = _
  rw [if_pos h2]
  simp only [AH.store, hg]
  rw [if_pos ⟨by omega, hf⟩, hm]
def izs (l : List Int) : List AV := l.map (.int .i64)
theorem izs_flat (l : List Int) : (izs l).all AV.flat = true := by
  simp only [izs, List.all_eq_true, List.mem_map]
  rintro x ⟨n, _, rfl⟩; rfl

/-- A row of numbers, its own. -/
theorem RowV.idx {v : AV} {L : List Int} (r : RowV h v L) {i : Nat} (hi : i < L.length) : ∃ o, objs v = [o] ∧ idxAddrV 1 v (.int .i64 (i : Int)) = some (.ptr o i) ∧ loadV h false 1 (.ptr o i) = some (.int .i64 (at0 L i)) ∧
    ∀ x : Int, ∃ h', storeV h 1 (.ptr o i) (.int .i64 x) = some h' ∧ Upd h h' o ∧ RowV h' v (L.set i x) := by
  rcases r with ⟨rfl, rfl⟩ | ⟨o, cap, rfl, arr⟩
  · simp at hi
  · refine ⟨o, rfl, by rw [idx_nat hi, Nat.zero_add], arr.load hi, fun x => ?_⟩
    obtain ⟨h', st, u, arr'⟩ := arr.store hi x
    exact ⟨h', st, u, .inr ⟨o, cap, by simp, arr'⟩⟩
theorem RowV.lowV {v : AV} {L : List Int} (r : RowV h v L) (hl : Low h) : ∀ o ∈ objs v, o < h.next := by
  rcases r with ⟨rfl, rfl⟩ | ⟨o, cap, rfl, l, hg, _⟩
  · intro o ho; simp [objs] at ho
  · intro p hp; simp [objs] at hp; subst hp; exact hl _ _ hg
theorem map_erase {α β : Type} (f : α → β) : ∀ (l : List α) (j : Nat), (l.map f).eraseIdx j = (l.eraseIdx j).map f
  | [], _ => rfl
  | a :: l, 0 => rfl
  | a :: l, j + 1 => by simp [map_erase f l j]
end Go.Vm

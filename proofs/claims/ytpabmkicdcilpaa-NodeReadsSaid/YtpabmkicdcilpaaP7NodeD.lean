/- What a right node's words tell; plain numbers. -/
import Derived.Test.YtpabmkicdcilpaaP7U
namespace Go.Proofs.Ytpabmkicdcilpaa
open Go.Vm
set_option linter.unusedSimpArgs false
set_option linter.unusedVariables false
set_option maxRecDepth 100000
variable {T : Vm.Prog} {h : AH}
/-- These words are a right node's. -/
structure Src (w : List Nat) (n : NodeP) : Prop where
  right : RightP n
  ok : n.Ok
  byte : ∀ b ∈ n.keys, b < 256
  enc : encP n = w
theorem Src.len {w : List Nat} {n : NodeP} (s : Src w n) : w.length = sizeP n.kind := by rw [← s.enc]; simp [encP]
theorem Src.get {w : List Nat} {n : NodeP} (s : Src w n) {j : Nat} (hj : j < sizeP n.kind) : w[j]? = some (encG n n.keys.length j) := by rw [← s.enc]; simp [encP, hj]
theorem encG_low {n : NodeP} {j : Nat} : ∀ m, (∀ i, i < m → j ≠ plP n.kind i ((n.keys[i]?).getD 0)) → encG n m j = encH n j
  | 0, _ => rfl
  | m + 1, h => by
    unfold encG
    rw [if_neg (h m (by omega))]
    exact encG_low m fun i hi => h i (by omega)
theorem RightP.riseAt {n : NodeP} (r : RightP n) : ∀ {i j : Nat} {a b : Nat}, i < j → n.keys[i]? = some a → n.keys[j]? = some b → a < b := by
  intro i j a b hij
  obtain ⟨d, rfl⟩ : ∃ d, j = i + 1 + d := ⟨j - (i + 1), by omega⟩
  clear hij
  induction d generalizing b with
  | zero => exact fun ha hb => r.rise i a b ha hb
  | succ d ih =>
    intro ha hb
    obtain ⟨c, hc⟩ : ∃ c, n.keys[i + 1 + d]? = some c := ⟨_, List.getElem?_eq_getElem (by have := (List.getElem?_eq_some_iff.1 hb).1; omega)⟩
    have h1 := ih ha hc
    have h2 := r.rise (i + 1 + d) c b hc (by rw [show i + 1 + d + 1 = i + 1 + (d + 1) by omega]; exact hb)
    omega
theorem RightP.placeNe {n : NodeP} (r : RightP n) {i j a b : Nat} (hij : i ≠ j) (ha : n.keys[i]? = some a) (hb : n.keys[j]? = some b) : plP n.kind i a ≠ plP n.kind j b := by
  have hab : a ≠ b := fun e => by
    subst e
    rcases Nat.lt_or_gt_of_ne hij with h | h
    · exact Nat.lt_irrefl _ (r.riseAt h ha hb)
    · exact Nat.lt_irrefl _ (r.riseAt h hb ha)
  rcases r.kinds with e | e | e | e <;> (rw [e]; simp only [plP]; simp; omega)
theorem encG_kid {n : NodeP} (r : RightP n) {i b : Nat} (hb : n.keys[i]? = some b) : ∀ m, i < m → m ≤ n.keys.length → encG n m (plP n.kind i b) = ((n.kids[i]?).getD 0).toNat
  | 0, h, _ => by omega
  | m + 1, h, hm => by
    unfold encG
    by_cases e : i = m
    · subst e
      rw [if_pos (by rw [hb]; rfl)]
    · obtain ⟨c, hc⟩ : ∃ c, n.keys[m]? = some c := ⟨_, List.getElem?_eq_getElem (by omega)⟩
      rw [if_neg (by rw [hc]; exact r.placeNe e hb hc)]
      exact encG_kid r hb m (by omega) (by omega)
theorem isRef_pos {x : Int} (h : isRefP x = true) : 0 < x ∧ x < 9223372036854775808 := by
  obtain ⟨s, g, l, ⟨h1, h2, h3⟩, rfl⟩ := isRefP_iff.1 h
  unfold refN
  split <;> omega
theorem Src.kid {w : List Nat} {n : NodeP} (s : Src w n) {i b : Nat} {x : Int} (hb : n.keys[i]? = some b) (hx : n.kids[i]? = some x) : w[plP n.kind i b]? = some x.toNat ∧ 0 < x ∧ x < 9223372036854775808 := by
  have hi := (List.getElem?_eq_some_iff.1 hb).1
  have hp := s.right.place hi (s.byte b (List.mem_of_getElem? hb))
  refine ⟨?_, isRef_pos (s.right.refs i x hx)⟩
  rw [s.get hp.1, encG_kid s.right hb _ hi (Nat.le_refl _), hx]; rfl
theorem Src.low {w : List Nat} {n : NodeP} (s : Src w n) {j : Nat} (hj : j < 4) : w[j]? = some (encH n j) := by
  have hsz : 4 ≤ sizeP n.kind := by rcases s.right.kinds with e | e | e | e <;> rw [e] <;> decide
  rw [s.get (by omega), encG_low]
  intro i hi
  obtain ⟨c, hc⟩ : ∃ c, n.keys[i]? = some c := ⟨_, List.getElem?_eq_getElem hi⟩
  rw [hc]
  have := s.right.place hi (s.byte c (List.mem_of_getElem? hc))
  simp only [Option.getD_some]
  omega
theorem Src.hd {w : List Nat} {n : NodeP} (s : Src w n) : w[0]? = some n.word ∧ w[1]? = some (hdN n) ∧ hdN n % 256 = n.kind.toNat ∧ hdN n / 256 % 256 = n.pre.length ∧ hdN n / 65536 % 65536 = n.keys.length ∧ ((n.kind.toNat : Nat) : Int) = n.kind := by
  have h1 := s.right.pre
  have h2 := s.right.few
  have h3 : n.keys.length ≤ 256 := by
    refine Nat.le_trans h2 ?_
    rcases s.right.kinds with e | e | e | e <;> rw [e] <;> decide
  have h4 : n.kind.toNat ≤ 4 ∧ ((n.kind.toNat : Nat) : Int) = n.kind := by rcases s.right.kinds with e | e | e | e <;> rw [e] <;> decide
  refine ⟨s.low (by decide), s.low (by decide), ?_, ?_, ?_, h4.2⟩ <;> unfold hdN <;> omega
/-- The words ahead of the children: the name's, and those of the bytes. -/
theorem Src.pre {w : List Nat} {n : NodeP} (s : Src w n) : (w.drop 2).take 2 = wordsN (nat8 n.pre) 2 := by
  apply List.ext_getElem?
  intro j
  rw [List.getElem?_take]
  by_cases hj : j < 2
  · rw [if_pos hj, List.getElem?_drop, s.low (by omega), wordsN_get hj]
    unfold encH
    rw [if_neg (by omega), if_neg (by omega), if_pos (by omega), show 2 + j - 2 = j by omega]
  · rw [if_neg hj, List.getElem?_eq_none (by rw [wordsN_len]; omega)]
theorem Src.mid {w : List Nat} {n : NodeP} (s : Src w n) {j : Nat} (h3 : n.kind ≠ 4) (hj : 4 + j < (if n.kind = 1 then 5 else if n.kind = 2 then 6 else 36)) : w[4 + j]? = some (dig (blk (if n.kind = 3 then tabN n.keys else n.keys) j)) := by
  have hk := s.right.kinds
  have hsz : 4 + j < sizeP n.kind := by
    rcases hk with e | e | e | e <;> simp [e, sizeP] at hj h3 ⊢ <;> omega
  rw [s.get hsz, encG_low]
  · congr 1
    unfold encH
    rw [if_neg (by omega), if_neg (by omega), if_neg (by omega), show 4 + j - 4 = j by omega]
    rcases hk with e | e | e | e <;> simp [e] at hj h3 ⊢ <;> (try intro h; omega)
  · intro i hi
    rcases hk with e | e | e | e <;> simp [e, plP] at hj h3 ⊢ <;> omega
theorem Src.direct {w : List Nat} {n : NodeP} (s : Src w n) (h4 : n.kind = 4) {b : Nat} (hb : b < 256) : ∃ x, w[4 + b]? = some x ∧ (x ≠ 0 ↔ b ∈ n.keys) := by
  have hsz : 4 + b < sizeP n.kind := by rw [h4]; show 4 + b < 264; omega
  by_cases hm : b ∈ n.keys
  · obtain ⟨i, hi⟩ := List.getElem?_of_mem hm
    have hlt := (List.getElem?_eq_some_iff.1 hi).1
    obtain ⟨x, hx⟩ : ∃ x, n.kids[i]? = some x := ⟨_, List.getElem?_eq_getElem (by have := s.right.same; omega)⟩
    obtain ⟨g1, g2, _⟩ := s.kid hi hx
    have e : plP n.kind i b = 4 + b := by rw [h4]; rfl
    rw [e] at g1
    exact ⟨_, g1, ⟨fun _ => hm, fun _ => by omega⟩⟩
  · refine ⟨0, ?_, ⟨fun h => absurd rfl h, fun h => absurd h hm⟩⟩
    rw [s.get hsz, encG_low]
    · congr 1
      unfold encH
      rw [if_neg (by omega), if_neg (by omega), if_neg (by omega), h4]; rfl
    · intro i hi
      obtain ⟨c, hc⟩ : ∃ c, n.keys[i]? = some c := ⟨_, List.getElem?_eq_getElem hi⟩
      rw [hc, h4]
      show 4 + b ≠ 4 + c
      intro e
      exact hm (by rw [show b = c by omega]; exact List.mem_of_getElem? hc)
end Go.Proofs.Ytpabmkicdcilpaa
/- node.place; node.bytes of the kinds 1 and 2. -/
namespace Go.Proofs.Ytpabmkicdcilpaa
open Go.Vm
set_option linter.unusedSimpArgs false
set_option linter.unusedVariables false
set_option maxRecDepth 100000
variable {T : Vm.Prog} {h : AH}
theorem place_ok (k : Fits T) {kd : Int} (hk : kd = 1 ∨ kd = 2 ∨ kd = 3 ∨ kd = 4) {i b : Nat} (hi : i < 100000) (hb : b < 256) : Gives T 76 [.int .i64 kd, .int .i64 (i : Int), .int .u8 (b : Int)] h fun r h' => r = .int .i64 (plP kd i b : Int) ∧ h' = h := by
  refine gives_func (k.env _ (by decide)) (k.at (fn := a76) rfl) rfl ?_
  have w5 : IntKind.i64.wrap (5 + (i : Int)) = ((5 + i : Nat) : Int) := by rw [wrap_i64 (by omega) (by omega)]; omega
  have w6 : IntKind.i64.wrap (6 + (i : Int)) = ((6 + i : Nat) : Int) := by rw [wrap_i64 (by omega) (by omega)]; omega
  have w36 : IntKind.i64.wrap (36 + (i : Int)) = ((36 + i : Nat) : Int) := by rw [wrap_i64 (by omega) (by omega)]; omega
  have wb : IntKind.i64.wrap (b : Int) = (b : Int) := wrap_i64 (by omega) (by omega)
  have w4 : IntKind.i64.wrap (4 + (b : Int)) = ((4 + b : Nat) : Int) := by rw [wrap_i64 (by omega) (by omega)]; omega
  rcases hk with rfl | rfl | rfl | rfl
  · simp only [a76, c76, vms, vmc, AOpd.val, Nat.reduceEqDiff, reduceCtorEq, Nat.reduceAdd, Nat.reduceBEq, eqI (rfl : (1 : Int) = 1), w5]; exact ⟨rfl, trivial⟩
  · simp only [a76, c76, vms, vmc, AOpd.val, Nat.reduceEqDiff, reduceCtorEq, Nat.reduceAdd, Nat.reduceBEq, neI (show ¬ (2 : Int) = 1 by decide), eqI (rfl : (2 : Int) = 2), w6]; exact ⟨rfl, trivial⟩
  · simp only [a76, c76, vms, vmc, AOpd.val, Nat.reduceEqDiff, reduceCtorEq, Nat.reduceAdd, Nat.reduceBEq, neI (show ¬ (3 : Int) = 1 by decide), neI (show ¬ (3 : Int) = 2 by decide), eqI (rfl : (3 : Int) = 3), w36]; exact ⟨rfl, trivial⟩
  · simp only [a76, c76, vms, vmc, AOpd.val, Nat.reduceEqDiff, reduceCtorEq, Nat.reduceAdd, Nat.reduceBEq, neI (show ¬ (4 : Int) = 1 by decide), neI (show ¬ (4 : Int) = 2 by decide), neI (show ¬ (4 : Int) = 3 by decide), toInt_int, wb, w4]; exact ⟨rfl, trivial⟩
theorem sees_mid {v : AV} {xs : List AV} (s : Sees h v xs) (hc : capOk v) {a b : Nat} (hab : a < b) (hb : b ≤ xs.length) : ∃ v', slcV 1 v (some (.int .i64 (a : Int))) (some (.int .i64 (b : Int))) none = some v' ∧ Sees h v' ((xs.drop a).take (b - a)) := by
  rcases s with ⟨rfl, rfl⟩ | ⟨o, off, cap, ex, l, rw, rfl, hg, h1, h2⟩
  · simp at hb; omega
  · have hc' : xs.length ≤ cap := hc
    have hbc : b ≤ cap := by omega
    have hab' : a ≤ b := by omega
    have hne : ¬ cap = a := by omega
    have el : ((xs.drop a).take (b - a)).length = b - a := by simp; omega
    refine ⟨.slice o (off + a * 1) 1 (b - a) (cap - a) ex, ?_, .inr ⟨o, _, cap - a, _, l, rw, by rw [el], hg, ?_, ?_⟩⟩
    · simp [slcV, bounds, boundM, boundH, boundL, natOf, Option.filter, hab', hbc, hne]
    · rw [el]; omega
    · intro i x hx
      have hi := (List.getElem?_eq_some_iff.1 hx).1
      rw [el] at hi
      rw [List.getElem?_take, if_pos hi, List.getElem?_drop] at hx
      rw [show off + a * 1 + i = off + (a + i) by omega]
      exact h2 _ _ hx
theorem wcells_sub (w : List Nat) (a b : Nat) : ((wcells w).drop a).take b = wcells ((w.drop a).take b) := by simp [wcells, List.map_take, List.map_drop]
def toBytesV (v : AV) (h : AH) : Option (AV × AH) := match v with
  | .str s => if s.length ≤ 9223372036854775807 then some (.slice h.next 0 1 s.length s.length false, h.new (.marked (bytesOf s))) else none
  | _ => none
theorem step_toBytes {call : Handler} {f : Fr} {x : AOpd} : stepV call (.toBytes x) f h = toBytesV (x.val f) h :=
  stepV_val (by
    simp only [AOp.eval]; generalize x.val f = p
    cases p <;> try rfl
    simp only [toBytesV]
    split <;> rfl)
theorem toBytes_str {s : List UInt8} (hs : s.length ≤ 9223372036854775807) : toBytesV (.str s) h = some (.slice h.next 0 1 s.length s.length false, h.new (.marked (bytesOf s))) := by simp only [toBytesV, if_pos hs]
theorem bytesOf_cells (s : List UInt8) : bytesOf s = kcells (nat8 s) := by simp [bytesOf, kcells, nat8]
/-- What a reader of the children's bytes tells. -/
def Keys (w : List Nat) (kd : Int) (n : Nat) (h : AH) (r : AV) (h' : AH) : Prop :=
  Quiet h h' ∧ Low h' ∧ ∃ kv ok L, r = .tuple [kv, .bool ok] ∧ (ok = true → Sees h' kv (kcells L) ∧ (∀ b ∈ L, b < 256) ∧ L.length = n ∧ ∀ o ∈ objs kv, h.next ≤ o) ∧ ∀ N, Src w N → N.kind = kd → N.keys.length = n → ok = true ∧ L = N.keys
theorem back8 {l : List Nat} (hl : ∀ b ∈ l, b < 256) : nat8 (l.map UInt8.ofNat) = l := by
  unfold nat8
  rw [List.map_map]
  conv => rhs; rw [← List.map_id l]
  apply List.map_congr_left
  intro b hb
  have := hl b hb
  simp [UInt8.toNat_ofNat]; omega
theorem text_keys {l : List Nat} (hl : ∀ b ∈ l, b < 256) {c : Nat} (hc : l.length ≤ 8 * c) : bytesR (wordsN l c) (l.length : Int) = (l.map UInt8.ofNat, 0) := by
  have e := back8 hl
  have h1 := strB_words (l.map UInt8.ofNat) (n := c) (k := l.length) (by simp) (by simpa using hc)
  have h2 := (clearW_words (l.map UInt8.ofNat) (n := c) (k := l.length) (by simpa using hc)).2 fun i x hi hx => by
    have := (List.getElem?_eq_some_iff.1 hx).1
    simp at this; omega
  rw [e] at h1 h2
  rw [bytesR_ok (by rw [wordsN_len]; exact hc) h2, h1, List.take_of_length_le (by simp)]
theorem keys12_ok (k : Fits T) (hl : Low h) {v : AV} {w : List Nat} (s : Sees h v (wcells w)) (hc : capOk v) {kd : Int} {c : Nat} (hk : (kd = 1 ∧ c = 1) ∨ (kd = 2 ∧ c = 2)) (hlen : w.length = sizeP kd) {n : Nat} (hn : n ≤ highP kd) :
    Gives T 75 [v, .int .i64 kd, .int .i64 (n : Int)] h (Keys w kd n h) := by
  refine gives_func (k.env _ (by decide)) (k.at (fn := a75) rfl) rfl ?_
  have hcn : cntI (highP kd) = (c : Int) := by rcases hk with ⟨rfl, rfl⟩ | ⟨rfl, rfl⟩ <;> decide
  have hc2 : c ≤ 2 ∧ 1 ≤ c := by omega
  have hsz : 12 ≤ w.length := by rcases hk with ⟨rfl, rfl⟩ | ⟨rfl, rfl⟩ <;> rw [hlen] <;> decide
  have hn16 : n ≤ 16 := by rcases hk with ⟨rfl, rfl⟩ | ⟨rfl, rfl⟩ <;> simp [highP] at hn <;> omega
  have w1 : IntKind.i64.wrap (4 + (c : Int)) = ((4 + c : Nat) : Int) := by rw [wrap_i64 (by omega) (by omega)]; omega
  obtain ⟨sv, h1, h2⟩ := sees_mid s hc (a := 4) (b := 4 + c) (by omega) (by rw [wcells_len]; omega)
  rw [wcells_sub, show 4 + c - 4 = c by omega] at h2
  have h1' : slcV 1 v (some (.int .i64 4)) (some (.int .i64 ((4 + c : Nat) : Int))) none = some sv := h1
  have hws : ((w.drop 4).take c).length = c := by rw [List.length_take, List.length_drop]; omega
  have hhi : highP kd ≤ 16 := by rcases hk with ⟨rfl, rfl⟩ | ⟨rfl, rfl⟩ <;> decide
  have tl : (bytesR ((w.drop 4).take c) n).1.length ≤ 16 := by
    unfold bytesR
    split
    · simp
    · split
      · simp only [strB_len]; omega
      · simp
  have t0 : (bytesR ((w.drop 4).take c) n).2 = 0 → (bytesR ((w.drop 4).take c) n).1.length = n := by
    unfold bytesR
    split
    · intro h; simp at h
    · split
      · intro _; simp only [strB_len]; omega
      · intro h; simp at h
  have src : ∀ N, Src w N → N.kind = kd → N.keys.length = n → bytesR ((w.drop 4).take c) n = (N.keys.map UInt8.ofNat, 0) := by
    intro N sN e1 e2
    have hw : (w.drop 4).take c = wordsN N.keys c := by
      apply List.ext_getElem?
      intro j
      rw [List.getElem?_take]
      by_cases hj : j < c
      · rw [if_pos hj, List.getElem?_drop, wordsN_get hj]
        have := sN.mid (j := j) (by rw [e1]; omega) (by rw [e1]; rcases hk with ⟨rfl, rfl⟩ | ⟨rfl, rfl⟩ <;> simp <;> omega)
        rw [this, if_neg (by rw [e1]; omega)]
      · rw [if_neg hj, List.getElem?_eq_none (by rw [wordsN_len]; omega)]
    have hb : N.keys.length ≤ 8 * c := by rcases hk with ⟨rfl, rfl⟩ | ⟨rfl, rfl⟩ <;> simp [highP] at hn <;> omega
    rw [hw, ← e2]; exact text_keys sN.byte hb
  have main : ∀ (h2 : AH), Ext h h2 → Low h2 → Keys w kd n h (.tuple [.slice h2.next 0 1 (bytesR ((w.drop 4).take c) n).1.length (bytesR ((w.drop 4).take c) n).1.length false, .bool ((bytesR ((w.drop 4).take c) n).2 == 0)]) (h2.new (.marked (bytesOf (bytesR ((w.drop 4).take c) n).1))) := by
    intro h2 ex lo2
    refine ⟨ex.quiet.new _, lo2.new _, _, _, nat8 (bytesR ((w.drop 4).take c) n).1, rfl, fun he => ⟨?_, nat8_small _, ?_, fun o ho => by simp [objs] at ho; have := ex.1; omega⟩, fun N sN e1 e2 => ?_⟩
    · refine .inr ⟨h2.next, 0, (bytesR ((w.drop 4).take c) n).1.length, false, bytesOf (bytesR ((w.drop 4).take c) n).1, none, by simp [kcells, nat8], get_new_same, by rw [← bytesOf_cells]; simp, fun i x hx => ?_⟩
      rw [Nat.zero_add, bytesOf_cells]; exact hx
    · rw [nat8_len]; exact t0 (by simpa using he)
    · rw [src N sN e1 e2]
      exact ⟨rfl, back8 sN.byte⟩
  rcases hk with ⟨rfl, rfl⟩ | ⟨rfl, rfl⟩
  · simp only [a75, c75, vms, vmc, AOpd.val, Nat.reduceEqDiff, reduceCtorEq, Nat.reduceAdd, Nat.reduceBEq, eqI (rfl : (1 : Int) = 1)]
    refine Gives.bind ((high_ok k).mono ?_)
    rintro _ _ ⟨rfl, rfl⟩
    rename_i h0
    simp only [vms, vmc, AOpd.val, Nat.reduceEqDiff, reduceCtorEq, Nat.reduceAdd, Nat.reduceBEq]
    refine Gives.bind ((count_ok (k.env 78 (by decide)) (k.at (n := 78) (fn := aCount) rfl) (by omega) (by omega)).mono ?_)
    rintro _ _ ⟨rfl, rfl⟩
    rename_i h0
    simp only [vms, vmc, AOpd.val, Nat.reduceEqDiff, reduceCtorEq, Nat.reduceAdd, Nat.reduceBEq, hcn, w1, h1']
    refine Gives.bind ((bytes_ok (k.env 69 (by decide)) (k.at (n := 69) (fn := aBytes) rfl) hl h2 (by omega) (by omega) (by omega)).mono ?_)
    rintro _ h3 ⟨ex, lo3, rfl⟩
    simp only [vms, vmc, AOpd.val, Nat.reduceEqDiff, reduceCtorEq, Nat.reduceAdd, Nat.reduceBEq, step_toBytes, toBytes_str (show (bytesR ((w.drop 4).take 1) n).1.length ≤ 9223372036854775807 by omega)]
    exact main h3 ex lo3
  · simp only [a75, c75, vms, vmc, AOpd.val, Nat.reduceEqDiff, reduceCtorEq, Nat.reduceAdd, Nat.reduceBEq, neI (show ¬ (2 : Int) = 1 by decide), eqI (rfl : (2 : Int) = 2)]
    refine Gives.bind ((high_ok k).mono ?_)
    rintro _ _ ⟨rfl, rfl⟩
    rename_i h0
    simp only [vms, vmc, AOpd.val, Nat.reduceEqDiff, reduceCtorEq, Nat.reduceAdd, Nat.reduceBEq]
    refine Gives.bind ((count_ok (k.env 78 (by decide)) (k.at (n := 78) (fn := aCount) rfl) (by omega) (by omega)).mono ?_)
    rintro _ _ ⟨rfl, rfl⟩
    rename_i h0
    simp only [vms, vmc, AOpd.val, Nat.reduceEqDiff, reduceCtorEq, Nat.reduceAdd, Nat.reduceBEq, hcn, w1, h1']
    refine Gives.bind ((bytes_ok (k.env 69 (by decide)) (k.at (n := 69) (fn := aBytes) rfl) hl h2 (by omega) (by omega) (by omega)).mono ?_)
    rintro _ h3 ⟨ex, lo3, rfl⟩
    simp only [vms, vmc, AOpd.val, Nat.reduceEqDiff, reduceCtorEq, Nat.reduceAdd, Nat.reduceBEq, step_toBytes, toBytes_str (show (bytesR ((w.drop 4).take 2) n).1.length ≤ 9223372036854775807 by omega)]
    exact main h3 ex lo3
end Go.Proofs.Ytpabmkicdcilpaa
/- node.bytes of the kind 3. -/
namespace Go.Proofs.Ytpabmkicdcilpaa
open Go.Vm
set_option linter.unusedSimpArgs false
set_option linter.unusedVariables false
set_option maxRecDepth 100000
variable {T : Vm.Prog} {h : AH}
theorem Src.tab {w : List Nat} {N : NodeP} (s : Src w N) (h3 : N.kind = 3) {b x : Nat} (hb : b < 256) (hx : w[4 + b / 8]? = some x) : x / 2 ^ (8 * (b % 8)) % 256 = tabAt N.keys b := by
  have hm := s.mid (j := b / 8) (by rw [h3]; decide) (by rw [h3]; simp; omega)
  rw [hx, if_pos h3] at hm
  have hlen : N.keys.length ≤ 48 := by have := s.right.few; rw [h3] at this; exact this
  have hs : ∀ y ∈ tabN N.keys, y < 256 := fun y hy => by
    simp only [tabN, List.mem_map] at hy
    obtain ⟨c, _, rfl⟩ := hy
    have := tabAt_le N.keys c; omega
  have hbw := byteAt_words (bs := tabN N.keys) (n := 32) (k := b) hs (by omega)
  unfold byteAt at hbw
  rw [wordsN_get (by omega), tabN_get hb] at hbw
  have e : x = dig (blk (tabN N.keys) (b / 8)) := by simpa using hm
  rw [e]
  simpa using hbw
theorem kcells_get {g : List Nat} {i : Nat} : (kcells g)[i]? = (g[i]?).map fun b : Nat => AV.int .u8 (b : Int) := by simp [kcells]
theorem kcells_set {g : List Nat} {i x : Nat} : (kcells g).set i (.int .u8 (x : Int)) = kcells (g.set i x) := by simp [kcells, List.map_set]
theorem keys3_ok (k : Fits T) (hl : Low h) {v : AV} {w : List Nat} (s : Sees h v (wcells w)) (hlen : w.length = sizeP 3) (hw : ∀ x ∈ w, x < 18446744073709551616) {n : Nat} (hn : n ≤ 48) :
    Gives T 75 [v, .int .i64 3, .int .i64 (n : Int)] h (Keys w 3 n h) := by
  refine gives_func (k.env _ (by decide)) (k.at (fn := a75) rfl) rfl ?_
  have hw88 : w.length = 88 := hlen
  have hmk := mkSlice_nat (h := h) (sz := 1) (bytes := 1) (zero := [AV.int .u8 0]) (k := .i64) (k' := .i64) (Nat.le_refl n) (by omega) (by omega)
  have q1 : Quiet h (h.new (.cells (rep [AV.int .u8 0] n) true)) := (Quiet.refl _).new _
  have lo1 := hl.new (.cells (rep [AV.int .u8 0] n) true)
  have er : rep [AV.int .u8 0] n = kcells (List.replicate n 0) := by rw [rep_one]; simp [kcells]
  have hg1 : (h.new (.cells (rep [AV.int .u8 0] n) true)).get h.next = some (.cells (kcells (List.replicate n 0)) true) := by rw [get_new_same, er]
  simp only [a75, c75, vms, vmc, AOpd.val, Nat.reduceEqDiff, reduceCtorEq, Nat.reduceAdd, Nat.reduceBEq, neI (show ¬ (3 : Int) = 1 by decide), neI (show ¬ (3 : Int) = 2 by decide), eqI (rfl : (3 : Int) = 3), hmk]
  generalize (h.new (.cells (rep [AV.int .u8 0] n) true)) = h1 at *
  refine wpc_loop (fun d f h' => ∃ b g, d = 256 - b ∧ b ≤ 256 ∧ Quiet h h' ∧ Low h' ∧ g.length = n ∧ h'.get h.next = some (.cells (kcells g) true) ∧ (∀ x ∈ g, x < 256) ∧ (∀ N, Src w N → N.kind = 3 → N.keys.length = n → ∀ i y, N.keys[i]? = some y → g[i]? = some (if y < b then y else 0)) ∧ f.at 0 = v ∧ f.at 2 = .int .i64 (n : Int) ∧ f.at 10 = .slice h.next 0 1 n n true ∧ f.at 38 = .int .i64 (b : Int)) ?_ 256 _ _
    ⟨0, List.replicate n 0, by omega, by omega, q1, lo1, by simp, hg1, fun x hx => by simp at hx; omega, fun N sN e1 e2 i y hy => by
      have := (List.getElem?_eq_some_iff.1 hy).1
      rw [if_neg (by omega), List.getElem?_replicate, if_pos (by omega)], ?_⟩
  · rintro d f h2 ⟨b, g, rfl, hb, q2, lo2, hgl, hg, hg256, src, f0, f2, f10, f38⟩
    by_cases hlt : b < 256
    · have d1 : decide ((b : Int) < 256) = true := by rw [decide_eq_true_eq]; omega
      have e1 : IntKind.i64.wrap ((b : Int).tdiv 8) = ((b / 8 : Nat) : Int) := by
        have e : (b : Int).tdiv 8 = ((b / 8 : Nat) : Int) := by rw [Int.tdiv_eq_ediv_of_nonneg (by omega)]; omega
        rw [e]; exact wrap_i64 (by omega) (by omega)
      have e2 : IntKind.i64.wrap (4 + ((b / 8 : Nat) : Int)) = ((4 + b / 8 : Nat) : Int) := by rw [wrap_i64 (by omega) (by omega)]; omega
      have e3 : (b : Int).tmod 8 = ((b % 8 : Nat) : Int) := by rw [Int.tmod_eq_emod_of_nonneg (by omega)]; omega
      have e4 : IntKind.i64.wrap (8 * ((b % 8 : Nat) : Int)) = ((8 * (b % 8) : Nat) : Int) := by rw [wrap_i64 (by omega) (by omega)]; omega
      have e5 : IntKind.u64.wrap ((8 * (b % 8) : Nat) : Int) = ((8 * (b % 8) : Nat) : Int) := wrap_u64 (by omega)
      obtain ⟨x, hx⟩ : ∃ x, w[4 + b / 8]? = some x := ⟨_, List.getElem?_eq_getElem (by omega)⟩
      have hxb := hw x (List.mem_of_getElem? hx)
      obtain ⟨p, hp1, hp2⟩ := (sees_keep s hl q2).at (i := 4 + b / 8) (x := .int .u64 (x : Int)) (by simp [wcells, hx]) .i64
      have e6 := bin_shr_u64 (a := x) (n := 8 * (b % 8)) (by omega) .u64
      have hsm : x / 2 ^ (8 * (b % 8)) < 18446744073709551616 := Nat.lt_of_le_of_lt (Nat.div_le_self _ _) hxb
      have e7 := and255 hsm
      generalize hbv : x / 2 ^ (8 * (b % 8)) % 256 = bv at *
      have hbv256 : bv < 256 := by rw [← hbv]; exact Nat.mod_lt _ (by decide)
      have e8 : IntKind.i64.wrap (bv : Int) = (bv : Int) := wrap_i64 (by omega) (by omega)
      have w2 : IntKind.i64.wrap ((b : Int) + 1) = ((b + 1 : Nat) : Int) := by rw [wrap_i64 (by omega) (by omega)]; omega
      have tab : ∀ N, Src w N → N.kind = 3 → bv = tabAt N.keys b := fun N sN h3 => by rw [← hbv]; exact sN.tab h3 hlt hx
      by_cases hbig : bv > n
      · have d2 : decide ((bv : Int) > (n : Int)) = true := by rw [decide_eq_true_eq]; omega
        simp only [c75l0, vms, vmc, AOpd.val, Nat.reduceEqDiff, reduceCtorEq, Nat.reduceAdd, Nat.reduceBEq, f0, f2, f10, f38, d1, bin_quo8, e1, e2, hp1, hp2, bin_rem8, e3, e4, toInt_int, e5, e6, e7, e8, d2]
        refine ⟨q2, lo2, _, _, [], rfl, (fun h => by cases h), fun N sN h3 hk => ?_⟩
        have := tab N sN h3
        have := tabAt_le N.keys b
        omega
      have d2 : decide ((bv : Int) > (n : Int)) = false := by rw [decide_eq_false_iff_not]; omega
      by_cases h0 : bv = 0
      · have d3 : decide ((bv : Int) > 0) = false := by rw [decide_eq_false_iff_not]; omega
        simp only [c75l0, vms, vmc, AOpd.val, Nat.reduceEqDiff, reduceCtorEq, Nat.reduceAdd, Nat.reduceBEq, f0, f2, f10, f38, d1, bin_quo8, e1, e2, hp1, hp2, bin_rem8, e3, e4, toInt_int, e5, e6, e7, e8, d2, d3, w2]
        refine ⟨256 - (b + 1), by omega, b + 1, g, rfl, by omega, q2, lo2, hgl, hg, hg256, fun N sN h3 hk i y hy => ?_, by trivial, by trivial, by trivial, by trivial⟩
        have ht := tab N sN h3
        have hne : y ≠ b := fun e => by
          subst e
          rw [h0, tabAt, if_pos (List.mem_of_getElem? hy)] at ht; omega
        rw [src N sN h3 hk i y hy]
        congr 1
        by_cases hyb : y < b
        · rw [if_pos hyb, if_pos (by omega)]
        · rw [if_neg hyb, if_neg (by omega)]
      · have d3 : decide ((bv : Int) > 0) = true := by rw [decide_eq_true_eq]; omega
        have e9 : IntKind.i64.wrap ((bv : Int) - 1) = ((bv - 1 : Nat) : Int) := by rw [wrap_i64 (by omega) (by omega)]; omega
        have e10 : IntKind.u8.wrap (b : Int) = (b : Int) := by rw [wrap_u8, Nat.mod_eq_of_lt hlt]
        have ia : idxAddrV 1 (.slice h.next 0 1 n n true) (.int .i64 ((bv - 1 : Nat) : Int)) = some (.ptr h.next (bv - 1)) := by
          have : bv - 1 < n := by omega
          simp [idxAddrV, this]
        have st : storeV h2 1 (.ptr h.next (bv - 1)) (.int .u8 (b : Int)) = some (h2.set h.next (.cells ((kcells g).set (bv - 1) (.int .u8 (b : Int))) true)) := store_int hg (by simp [kcells, hgl]; omega)
        rw [kcells_set] at st
        simp only [c75l0, vms, vmc, AOpd.val, Nat.reduceEqDiff, reduceCtorEq, Nat.reduceAdd, Nat.reduceBEq, f0, f2, f10, f38, d1, bin_quo8, e1, e2, hp1, hp2, bin_rem8, e3, e4, toInt_int, e5, e6, e7, e8, d2, d3, e9, e10, ia, st, w2]
        refine ⟨256 - (b + 1), by omega, b + 1, g.set (bv - 1) b, rfl, by omega, q2.set (Nat.le_refl _) _, lo2.set (lo2 _ _ hg) _, by simp [hgl], get_set_same, fun y hy => ?_, fun N sN h3 hk i y hy => ?_, by trivial, by trivial, by trivial, by trivial⟩
        · rcases List.mem_or_eq_of_mem_set hy with h5 | h5
          · exact hg256 y h5
          · omega
        · have ht := tab N sN h3
          have hm : b ∈ N.keys := by
            refine Classical.byContradiction fun hn => ?_
            rw [tabAt, if_neg hn] at ht; exact h0 ht
          rw [tabAt, if_pos hm] at ht
          have hlt' := List.idxOf_lt_length_of_mem hm
          have hib : N.keys[bv - 1]? = some b := by
            rw [ht, Nat.add_sub_cancel, List.getElem?_eq_getElem hlt', List.getElem_idxOf hlt']
          by_cases e : i = bv - 1
          · subst e
            rw [hib] at hy; cases hy
            rw [if_pos (by omega), List.getElem?_set_self (by omega)]
          · rw [List.getElem?_set_ne (Ne.symm e), src N sN h3 hk i y hy]
            have hne : y ≠ b := fun e' => by
              subst e'
              rcases Nat.lt_or_gt_of_ne e with h5 | h5
              · exact Nat.lt_irrefl _ (sN.right.riseAt h5 hy hib)
              · exact Nat.lt_irrefl _ (sN.right.riseAt h5 hib hy)
            congr 1
            by_cases hyb : y < b
            · rw [if_pos hyb, if_pos (by omega)]
            · rw [if_neg hyb, if_neg (by omega)]
    · have d1 : decide ((b : Int) < 256) = false := by rw [decide_eq_false_iff_not]; omega
      simp only [c75l0, vms, vmc, AOpd.val, Nat.reduceEqDiff, reduceCtorEq, Nat.reduceAdd, Nat.reduceBEq, f0, f2, f10, f38, d1]
      refine ⟨q2, lo2, _, _, g, rfl, fun _ => ⟨?_, hg256, hgl, fun o ho => by simp [objs] at ho; omega⟩, fun N sN h3 hk => ⟨rfl, ?_⟩⟩
      · refine .inr ⟨h.next, 0, n, true, kcells g, some true, by simp [kcells, hgl], hg, by simp [kcells, hgl], fun i x hx => by rw [Nat.zero_add]; exact hx⟩
      · apply List.ext_getElem?
        intro i
        cases hy : N.keys[i]? with
        | none =>
          have := List.getElem?_eq_none_iff.1 hy
          exact List.getElem?_eq_none (by omega)
        | some y =>
          rw [src N sN h3 hk i y hy, if_pos (by have := sN.byte y (List.mem_of_getElem? hy); omega)]
  · simp only [vms, vmc, AOpd.val, Nat.reduceEqDiff, reduceCtorEq, Nat.reduceAdd, Nat.reduceBEq]
    simp
end Go.Proofs.Ytpabmkicdcilpaa
/- node.bytes of the kind 4; of all kinds. -/
namespace Go.Proofs.Ytpabmkicdcilpaa
open Go.Vm
set_option linter.unusedSimpArgs false
set_option linter.unusedVariables false
set_option maxRecDepth 100000
variable {T : Vm.Prog} {h : AH}
def below (l : List Nat) (b : Nat) : List Nat := l.filter fun y => decide (y < b)
theorem below_in {l : List Nat} : l.Pairwise (· < ·) → ∀ {b : Nat}, b ∈ l → below l (b + 1) = below l b ++ [b] := by
  induction l with
  | nil => intro _ b hb; simp at hb
  | cons a r ih =>
    intro hp b hb
    obtain ⟨h1, h2⟩ := List.pairwise_cons.1 hp
    unfold below at ih ⊢
    rw [List.filter_cons, List.filter_cons]
    rcases List.mem_cons.1 hb with rfl | hb
    · have e1 : r.filter (fun y => decide (y < b + 1)) = [] := by
        rw [List.filter_eq_nil_iff]; intro y hy; have := h1 y hy; simp; omega
      have e2 : r.filter (fun y => decide (y < b)) = [] := by
        rw [List.filter_eq_nil_iff]; intro y hy; have := h1 y hy; simp; omega
      rw [e1, e2, if_pos (by simp), if_neg (by simp)]; rfl
    · have hab := h1 b hb
      rw [if_pos (by simp; omega), if_pos (by simp; omega), ih h2 hb]; rfl
theorem below_out {l : List Nat} {b : Nat} (hb : b ∉ l) : below l (b + 1) = below l b := by
  unfold below
  apply List.filter_congr
  intro y hy
  have hne : y ≠ b := fun e => hb (e ▸ hy)
  simp only [decide_eq_decide]; omega
theorem RightP.pairsK {n : NodeP} (r : RightP n) : n.keys.Pairwise (· < ·) := by
  rw [List.pairwise_iff_getElem]
  intro i j hi hj hij
  exact r.riseAt hij (List.getElem?_eq_getElem hi) (List.getElem?_eq_getElem hj)
theorem keys4_ok (k : Fits T) (hl : Low h) {v : AV} {w : List Nat} (s : Sees h v (wcells w)) (hlen : w.length = sizeP 4) {n : Nat} (hn : n ≤ 256) :
    Gives T 75 [v, .int .i64 4, .int .i64 (n : Int)] h (Keys w 4 n h) := by
  refine gives_func (k.env _ (by decide)) (k.at (fn := a75) rfl) rfl ?_
  have hw264 : w.length = 264 := hlen
  simp only [a75, c75, vms, vmc, AOpd.val, Nat.reduceEqDiff, reduceCtorEq, Nat.reduceAdd, Nat.reduceBEq, neI (show ¬ (4 : Int) = 1 by decide), neI (show ¬ (4 : Int) = 2 by decide), neI (show ¬ (4 : Int) = 3 by decide)]
  refine wpc_loop (fun d f h' => ∃ b r L, d = 256 - b ∧ b ≤ 256 ∧ Quiet h h' ∧ Low h' ∧ Row1 h' r (kcells L) ∧ (∀ o ∈ objs r, h.next ≤ o) ∧ L.length ≤ b ∧ (∀ x ∈ L, x < 256) ∧ (∀ N, Src w N → N.kind = 4 → L = below N.keys b) ∧ f.at 0 = v ∧ f.at 2 = .int .i64 (n : Int) ∧ f.at 13 = r ∧ f.at 67 = .int .i64 (b : Int)) ?_ 256 _ _
    ⟨0, .nilSlice, [], by omega, by omega, Quiet.refl _, hl, .inl ⟨rfl, rfl⟩, fun o ho => by simp [objs] at ho, by simp, fun x hx => by simp at hx, fun N sN e1 => by simp [below], ?_⟩
  · rintro d f h2 ⟨b, r, L, rfl, hb, q2, lo2, row, fr, hL, hL256, src, f0, f2, f13, f67⟩
    by_cases hlt : b < 256
    · have d1 : decide ((b : Int) < 256) = true := by rw [decide_eq_true_eq]; omega
      have e2 : IntKind.i64.wrap (4 + (b : Int)) = ((4 + b : Nat) : Int) := by rw [wrap_i64 (by omega) (by omega)]; omega
      have w2 : IntKind.i64.wrap ((b : Int) + 1) = ((b + 1 : Nat) : Int) := by rw [wrap_i64 (by omega) (by omega)]; omega
      obtain ⟨x, hx⟩ : ∃ x, w[4 + b]? = some x := ⟨_, List.getElem?_eq_getElem (by omega)⟩
      obtain ⟨p, hp1, hp2⟩ := (sees_keep s hl q2).at (i := 4 + b) (x := .int .u64 (x : Int)) (by simp [wcells, hx]) .i64
      have dir : ∀ N, Src w N → N.kind = 4 → (x ≠ 0 ↔ b ∈ N.keys) := fun N sN h4 => by
        obtain ⟨y, hy, h5⟩ := sN.direct h4 hlt
        rw [hx] at hy; cases hy; exact h5
      by_cases h0 : x = 0
      · have d2 : ((x : Int) != 0) = false := by simp [h0]
        simp only [c75l1, vms, vmc, AOpd.val, Nat.reduceEqDiff, reduceCtorEq, Nat.reduceAdd, Nat.reduceBEq, f0, f2, f13, f67, d1, e2, hp1, hp2, d2, w2]
        refine ⟨256 - (b + 1), by omega, b + 1, r, L, rfl, by omega, q2, lo2, row, fr, by omega, hL256, fun N sN h4 => ?_, by trivial, by trivial, by trivial, by trivial⟩
        rw [below_out fun hm => (dir N sN h4).2 hm h0]; exact src N sN h4
      · have d2 : ((x : Int) != 0) = true := by simp; omega
        have e10 : IntKind.u8.wrap (b : Int) = (b : Int) := by rw [wrap_u8, Nat.mod_eq_of_lt hlt]
        have bf : fillV [AV.int .u8 0] [(0, 1, AV.int .u8 (b : Int))] = some [AV.int .u8 (b : Int)] := by simp [fillV, AV.isDef, AV.cells, setMany]
        obtain ⟨r', h3, ha, row3, fr3, m3, lo3⟩ := row_app (bytes := 1) (x := .int .u8 (b : Int)) lo2 row (by decide) (by decide) (by simp [kcells]; omega) rfl
        simp only [c75l1, vms, vmc, AOpd.val, Nat.reduceEqDiff, reduceCtorEq, Nat.reduceAdd, Nat.reduceBEq, f0, f2, f13, f67, d1, e2, hp1, hp2, d2, toInt_int, e10, bf, ha, w2]
        refine ⟨256 - (b + 1), by omega, b + 1, r', L ++ [b], rfl, by omega, Mods.trans q2 m3 fun o ho => .inr (fr o ho), lo3, by simpa [kcells] using row3, fun o ho => ?_, by simp; omega, fun y hy => ?_, fun N sN h4 => ?_, by trivial, by trivial, by trivial, by trivial⟩
        · rcases fr3 o ho with h5 | h5
          · exact fr o h5
          · have := q2.1; omega
        · rcases List.mem_append.1 hy with h5 | h5
          · exact hL256 y h5
          · rw [List.mem_singleton.1 h5]; exact hlt
        · rw [below_in sN.right.pairsK ((dir N sN h4).1 h0), ← src N sN h4]
    · have d1 : decide ((b : Int) < 256) = false := by rw [decide_eq_false_iff_not]; omega
      have hb' : b = 256 := by omega
      subst hb'
      have lr : lenOfV r = some L.length := by have := row.sees.len; rwa [kcells, List.length_map] at this
      simp only [c75l1, vms, vmc, AOpd.val, Nat.reduceEqDiff, reduceCtorEq, Nat.reduceAdd, Nat.reduceBEq, f0, f2, f13, f67, d1, lr]
      refine ⟨q2, lo2, _, _, L, rfl, fun he => ⟨row.sees, hL256, by have := eq_of_beq he; omega, fr⟩, fun N sN h4 hk => ?_⟩
      have e : L = N.keys := by
        rw [src N sN h4]
        unfold below
        rw [List.filter_eq_self]
        intro y hy
        exact decide_eq_true (sN.byte y hy)
      refine ⟨?_, e⟩
      rw [e, hk]; simp
  · simp only [vms, vmc, AOpd.val, Nat.reduceEqDiff, reduceCtorEq, Nat.reduceAdd, Nat.reduceBEq]
    simp
theorem keys_ok (k : Fits T) (hl : Low h) {v : AV} {w : List Nat} (s : Sees h v (wcells w)) (hc : capOk v) {kd : Int} (hk : highP kd ≠ 0) (hlen : w.length = sizeP kd) (hw : ∀ x ∈ w, x < 18446744073709551616) {n : Nat} (hn : n ≤ highP kd) :
    Gives T 75 [v, .int .i64 kd, .int .i64 (n : Int)] h (Keys w kd n h) := by
  by_cases h1 : kd = 1
  · subst h1; exact keys12_ok k hl s hc (.inl ⟨rfl, rfl⟩) hlen hn
  by_cases h2 : kd = 2
  · subst h2; exact keys12_ok k hl s hc (.inr ⟨rfl, rfl⟩) hlen hn
  by_cases h3 : kd = 3
  · subst h3; exact keys3_ok k hl s hlen hw hn
  by_cases h4 : kd = 4
  · subst h4; exact keys4_ok k hl s hlen hn
  · exact absurd (by simp [highP, h1, h2, h3, h4]) hk
end Go.Proofs.Ytpabmkicdcilpaa

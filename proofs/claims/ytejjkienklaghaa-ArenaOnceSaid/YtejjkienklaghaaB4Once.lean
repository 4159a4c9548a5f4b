/- Slots that are taken, given back, swapped: the plain law behind ArenaOnce. -/
import Derived.Test.YtejjkienklaghaaB4ArB
import Derived.Test.YtejjkienklaghaaVmZt
import Derived.Test.YtejjkienklaghaaVmZw
import Derived.Test.YtejjkienklaghaaVmZj
import Derived.Test.YtejjkienklaghaaVmZx
namespace Go.Proofs.Ytejjkienklaghaa
open Go.Vm
set_option linter.unusedSimpArgs false
set_option linter.unusedVariables false
variable {h : AH}
theorem find_of_room {st : List SlotP} {c : Nat} (hr : 1 ≤ roomP st c) : ∃ n x, st.findIdx? (isFree c) = some n ∧ st[n]? = some x ∧ isFree c x = true := by
  obtain ⟨y, hy, hf⟩ := List.countP_pos_iff.1 (show 0 < st.countP (isFree c) from hr)
  cases hi : st.findIdx? (isFree c) with
  | none =>
    rw [List.findIdx?_eq_none_iff] at hi
    have := hi y hy
    rw [hf] at this; cases this
  | some n =>
    rw [List.findIdx?_eq_some_iff_getElem] at hi
    obtain ⟨h1, h2, _⟩ := hi
    exact ⟨n, st[n], rfl, List.getElem?_eq_getElem h1, h2⟩
theorem room_set {st : List SlotP} {n m : Nat} {z : SlotP} (hz : isFree m z = false) (hn : ∀ y, st[n]? = some y → isFree m y = false) : roomP (st.set n z) m = roomP st m := by
  unfold roomP
  by_cases hl : n < st.length
  · rw [List.countP_set hl]
    have := hn _ (List.getElem?_eq_getElem hl)
    simp [this, hz]
  · rw [List.set_eq_of_length_le (by omega)]
/-- Slots that are all free but some. -/
theorem alloc_room {st : List SlotP} {m : Nat} {ws : List Nat} (hm : m < 5) (hr : 1 ≤ roomP st m) (hw : ws.length ≤ sizeN m) : ∃ i y, st[i]? = some y ∧ isFree m y = true ∧ allocI st (m : Int) ws = (((refN i y.gen (m == 0) : Nat) : Int), 0, st.set i ⟨m, y.gen, true, padW ws (sizeN m)⟩) := by
  obtain ⟨i, y, hi, hy, hf⟩ := find_of_room hr
  refine ⟨i, y, hy, hf, ?_⟩
  unfold allocI allocP
  rw [if_pos ⟨by omega, by omega, by rw [Int.toNat_natCast]; exact hw⟩, Int.toNat_natCast, hi]
  simp only [hy]
  rw [(isFree_iff.1 hf).1]
theorem find_set {st : List SlotP} {i : Nat} {z : SlotP} (hi : i < st.length) (hv : Valid i z.gen) (hl : z.live = true) : findP (st.set i z) (refN i z.gen (z.cls == 0) : Nat) = .ok i := by
  rw [findP_ref hv]
  unfold outP
  rw [List.getElem?_set, if_pos rfl, if_pos hi]
  simp [hl]
theorem pad_head {a : Nat} {r : List Nat} {n : Nat} : ((padW (a :: r) n)[0]?).getD 0 = a := by simp [padW]
theorem padW_pad {ws : List Nat} {n : Nat} : (padW ws n).length ≥ ws.length := by simp [padW]
theorem sizeN_ge {m : Nat} (hm : m < 5) : 8 ≤ sizeN m := by
  have : m = 0 ∨ m = 1 ∨ m = 2 ∨ m = 3 ∨ m = 4 := by omega
  rcases this with rfl | rfl | rfl | rfl | rfl <;> decide
/-- Words that a literal makes. -/
theorem lit_src {F : Nat → Prop} (hl : Low h) (hF : ∀ o, F o → o < h.next) (ws : List Nat) (hs : ws.length < 1000000) : SrcB (h.new (.cells (wcells ws) true)) F (.slice h.next 0 1 ws.length ws.length true) ws :=
  ⟨.inr ⟨h.next, 0, ws.length, true, wcells ws, true, rfl, get_new_same, by rw [wcells_len, Nat.zero_add]; exact Nat.le_refl _, by rw [List.drop_zero, List.take_of_length_le (by rw [wcells_len]; exact Nat.le_refl _)]⟩,
    fun o ho => by simp [objs] at ho; subst ho; exact ⟨fun hf => by have := hF _ hf; omega, by rw [next_new]; omega⟩, hs⟩
theorem live_turn {st : List SlotP} {i m : Nat} {y z : SlotP} (hm : m < 5) (hy : st[i]? = some y) (cy : y.cls = m) (cz : z.cls = m) : liveP (st.set i z) = liveP st + (roomP st m : Int) - (roomP (st.set i z) m : Int) := by
  have oth : ∀ c, c ≠ m → roomP (st.set i z) c = roomP st c := fun c hc => room_set (by
      cases hf : isFree c z with
      | false => rfl
      | true => have := (isFree_iff.1 hf).1; omega) fun y' hy' => by
      rw [hy] at hy'; cases hy'
      cases hf : isFree c y with
      | false => rfl
      | true => have := (isFree_iff.1 hf).1; omega
  unfold liveP
  rw [List.length_set]
  have hcs : m = 0 ∨ m = 1 ∨ m = 2 ∨ m = 3 ∨ m = 4 := by omega
  rcases hcs with rfl | rfl | rfl | rfl | rfl
  · rw [oth 1 (by decide), oth 2 (by decide), oth 3 (by decide), oth 4 (by decide)]; omega
  · rw [oth 0 (by decide), oth 2 (by decide), oth 3 (by decide), oth 4 (by decide)]; omega
  · rw [oth 0 (by decide), oth 1 (by decide), oth 3 (by decide), oth 4 (by decide)]; omega
  · rw [oth 0 (by decide), oth 1 (by decide), oth 2 (by decide), oth 4 (by decide)]; omega
  · rw [oth 0 (by decide), oth 1 (by decide), oth 2 (by decide), oth 3 (by decide)]; omega
theorem live_bound {st : List SlotP} (hs : st.length ≤ 1024) : -8000 ≤ liveP st ∧ liveP st ≤ 1024 := by
  have h : ∀ c, roomP st c ≤ st.length := fun c => List.countP_le_length
  have h0 := h 0
  have h1 := h 1
  have h2 := h 2
  have h3 := h 3
  have h4 := h 4
  unfold liveP
  omega
theorem room_take {st : List SlotP} {i m : Nat} {y z : SlotP} (hy : st[i]? = some y) (fy : isFree m y = true) (fz : isFree m z = false) : roomP (st.set i z) m + 1 = roomP st m := by
  have hi := (List.getElem?_eq_some_iff.1 hy).1
  have e : st[i] = y := (List.getElem?_eq_some_iff.1 hy).2
  unfold roomP
  have hp : 0 < st.countP (isFree m) := List.countP_pos_iff.2 ⟨y, List.mem_of_getElem? hy, fy⟩
  rw [List.countP_set hi, e, fy, fz]
  simp; omega
theorem room_give {st : List SlotP} {i m : Nat} {y z : SlotP} (hy : st[i]? = some y) (fy : isFree m y = false) (fz : isFree m z = true) : roomP (st.set i z) m = roomP st m + 1 := by
  have hi := (List.getElem?_eq_some_iff.1 hy).1
  have e : st[i] = y := (List.getElem?_eq_some_iff.1 hy).2
  unfold roomP
  rw [List.countP_set hi, e, fy, fz]
  simp
/-- Slots of one class: those that are good, each with what was last stored; those that are gone. -/
structure OnceS (st : List SlotP) (c : Nat) (G : List (Nat × Nat × Nat)) (D : List (Nat × Nat)) (i : Nat) : Prop where
  len : st.length = 4
  cls : ∀ (s : Nat) (x : SlotP), st[s]? = some x → x.cls = c ∧ 1 ≤ x.gen ∧ x.gen ≤ i + 1 ∧ x.ws.length = sizeN c
  good : ∀ (s g v : Nat), (s, g, v) ∈ G → ∃ x, st[s]? = some x ∧ x.gen = g ∧ x.live = true ∧ x.ws[0]? = some v
  nd : (G.map (·.1)).Nodup
  room : roomP st c + G.length = 4
  liveN : liveP st = (G.length : Int)
  gone : ∀ (s g : Nat), (s, g) ∈ D → ∃ x, st[s]? = some x ∧ 1 ≤ g ∧ g < x.gen
  vals : ∀ (s g v : Nat), (s, g, v) ∈ G → v < 2000
variable {st : List SlotP} {c i : Nat} {G : List (Nat × Nat × Nat)} {D : List (Nat × Nat)}
theorem OnceS.mono (s : OnceS st c G D i) {j : Nat} (h : i ≤ j) : OnceS st c G D j := ⟨s.len, fun a x hx => by have := s.cls a x hx; exact ⟨this.1, this.2.1, by omega, this.2.2.2⟩, s.good, s.nd, s.room, s.liveN, s.gone, s.vals⟩
theorem OnceS.valid (s : OnceS st c G D i) (hi : i ≤ 100) {a : Nat} {x : SlotP} (hx : st[a]? = some x) : Valid a x.gen := by
  have := s.len
  have h1 := (List.getElem?_eq_some_iff.1 hx).1
  have := s.cls a x hx
  exact ⟨by omega, by omega, by omega⟩
/-- One more is taken. -/
theorem OnceS.alloc (s : OnceS st c G D i) (hc : c < 5) (hi : i ≤ 100) {v : Nat} (hv : v < 2000) (hg : G.length < 4) : ∃ a g st', allocI st (c : Int) [v] = (((refN a g (c == 0) : Nat) : Int), 0, st') ∧ OnceS st' c (G ++ [(a, g, v)]) D i ∧ Valid a g ∧ ∀ s' g' v', (s', g', v') ∈ G → s' ≠ a := by
  obtain ⟨a, y, hy, hf, ha⟩ := alloc_room (st := st) (m := c) (ws := [v]) hc (by have := s.room; omega) (by have := sizeN_ge hc; simp; omega)
  have hl := (List.getElem?_eq_some_iff.1 hy).1
  obtain ⟨c1, c2, c3⟩ := isFree_iff.1 hf
  have hcl := s.cls a y hy
  have hz : isFree c ⟨c, y.gen, true, padW [v] (sizeN c)⟩ = false := by simp [isFree]
  have hr := room_take hy hf hz
  have hlv := live_turn hc hy c1 (z := ⟨c, y.gen, true, padW [v] (sizeN c)⟩) rfl
  have hnot : ∀ s' g' v', (s', g', v') ∈ G → s' ≠ a := fun s' g' v' hm e => by
    obtain ⟨x, hx, _, hlx, _⟩ := s.good s' g' v' hm
    subst e; rw [hy] at hx; cases hx; rw [c2] at hlx; cases hlx
  have h8 := sizeN_ge hc
  refine ⟨a, y.gen, _, ha, ⟨by simpa using s.len, fun b x hx => ?_, fun s' g' v' hm => ?_, ?_, ?_, ?_, fun s' g' hm => ?_, fun s' g' v' hm => ?_⟩, s.valid hi hy, hnot⟩
  · rw [List.getElem?_set] at hx
    by_cases e : a = b
    · rw [if_pos e, if_pos hl] at hx; cases hx
      exact ⟨rfl, hcl.2.1, hcl.2.2.1, padW_len (by simp; omega)⟩
    · rw [if_neg e] at hx; exact s.cls b x hx
  · rcases List.mem_append.1 hm with h1 | h1
    · obtain ⟨x, hx, hr⟩ := s.good s' g' v' h1
      exact ⟨x, by rw [List.getElem?_set, if_neg (Ne.symm (hnot s' g' v' h1))]; exact hx, hr⟩
    · simp at h1; obtain ⟨rfl, rfl, rfl⟩ := h1
      exact ⟨⟨c, y.gen, true, padW [v'] (sizeN c)⟩, by rw [List.getElem?_set, if_pos rfl, if_pos hl], rfl, rfl, by simp [padW]⟩
  · rw [List.map_append, List.nodup_append]
    refine ⟨s.nd, by simp, fun p hp q hq => ?_⟩
    obtain ⟨⟨s', g', v'⟩, hm, rfl⟩ := List.mem_map.1 hp
    simp at hq; subst hq
    exact hnot s' g' v' hm
  · have := s.room; simp; omega
  · have := s.liveN; simp; omega
  · obtain ⟨x, hx, h1, h2⟩ := s.gone s' g' hm
    by_cases e : a = s'
    · subst e; rw [hy] at hx; cases hx
      exact ⟨⟨c, y.gen, true, padW [v] (sizeN c)⟩, by rw [List.getElem?_set, if_pos rfl, if_pos hl], h1, h2⟩
    · exact ⟨x, by rw [List.getElem?_set, if_neg e]; exact hx, h1, h2⟩
  · rcases List.mem_append.1 hm with h1 | h1
    · exact s.vals s' g' v' h1
    · simp at h1; obtain ⟨rfl, rfl, rfl⟩ := h1; exact hv
theorem OnceS.full (s : OnceS st c G D i) (hc : c < 5) {v : Nat} (hg : ¬ G.length < 4) : allocI st (c : Int) [v] = (0, 2, st) := by
  have hr : roomP st c = 0 := by have := s.room; omega
  have h8 := sizeN_ge hc
  unfold allocI allocP
  rw [if_pos ⟨by omega, by omega, by rw [Int.toNat_natCast]; simp; omega⟩, Int.toNat_natCast]
  have : st.findIdx? (isFree c) = none := by
    rw [List.findIdx?_eq_none_iff]
    intro x hx
    cases hf : isFree c x with
    | false => rfl
    | true =>
      have : 0 < st.countP (isFree c) := List.countP_pos_iff.2 ⟨x, hx, hf⟩
      unfold roomP at hr; omega
  rw [this]
theorem OnceS.find (s : OnceS st c G D i) (hi : i ≤ 100) {a g v : Nat} (hm : (a, g, v) ∈ G) : findP st (refN a g (c == 0) : Nat) = .ok a := by
  obtain ⟨x, hx, hg, hl, _⟩ := s.good a g v hm
  have hv := s.valid hi hx
  rw [hg] at hv
  rw [findP_ref hv]
  unfold outP
  have := (s.cls a x hx).1
  simp [hx, this, hg, hl]
theorem OnceS.load (s : OnceS st c G D i) (hi : i ≤ 100) {a g v : Nat} (hm : (a, g, v) ∈ G) : ∃ ws, loadP st (refN a g (c == 0) : Nat) = (0, ws) ∧ ws[0]? = some v ∧ ws.length = sizeN c := by
  obtain ⟨x, hx, hg, hl, hw⟩ := s.good a g v hm
  refine ⟨x.ws, ?_, hw, (s.cls a x hx).2.2.2⟩
  unfold loadP
  rw [s.find hi hm]
  simp only [hx]
theorem OnceS.dead (s : OnceS st c G D i) (hi : i ≤ 100) {a g : Nat} (hm : (a, g) ∈ D) : findP st (refN a g (c == 0) : Nat) = .error 4 := by
  obtain ⟨x, hx, h1, h2⟩ := s.gone a g hm
  have hv := s.valid hi hx
  rw [findP_ref ⟨hv.1, h1, by have := hv.2.2; omega⟩]
  unfold outP
  have hc := (s.cls a x hx).1
  simp [hx, hc]
  omega
theorem mem_split {α : Type} {l : List α} {k : Nat} {x : α} (h : l[k]? = some x) : l = l.take k ++ x :: l.drop (k + 1) := by
  have hk := (List.getElem?_eq_some_iff.1 h).1
  have e := (List.getElem?_eq_some_iff.1 h).2
  rw [← e, ← List.drop_eq_getElem_cons hk, List.take_append_drop]
/-- One is given back. -/
theorem OnceS.free (s : OnceS st c G D i) (hc : c < 5) (hi : i < 100) {k a g v : Nat} (hk : G[k]? = some (a, g, v)) : ∃ st', freeP st (refN a g (c == 0) : Nat) = (0, st') ∧ OnceS st' c (G.take k ++ G.drop (k + 1)) (D ++ [(a, g)]) (i + 1) := by
  have hm := List.mem_of_getElem? hk
  obtain ⟨x, hx, hg, hl, hw⟩ := s.good a g v hm
  have hxl := (List.getElem?_eq_some_iff.1 hx).1
  have hcl := s.cls a x hx
  have hff : freeP st (refN a g (c == 0) : Nat) = (0, st.set a ⟨c, g + 1, false, poisonP c⟩) := by
    unfold freeP
    rw [s.find (by omega) hm]
    simp only [hx, hcl.1, hg]
  have hfx : isFree c x = false := by simp [isFree, hl]
  have hfz : isFree c ⟨c, g + 1, false, poisonP c⟩ = true := isFree_iff.2 ⟨rfl, rfl, show g + 1 ≤ 1073741824 by omega⟩
  have hr := room_give hx hfx hfz
  have hlv := live_turn hc hx hcl.1 (z := ⟨c, g + 1, false, poisonP c⟩) rfl
  have hsp := mem_split hk
  have hkl := (List.getElem?_eq_some_iff.1 hk).1
  have hlen : (G.take k ++ G.drop (k + 1)).length + 1 = G.length := by simp; omega
  have hsub : ∀ p, p ∈ G.take k ++ G.drop (k + 1) → p ∈ G := fun p hp => by
    rw [hsp]
    rcases List.mem_append.1 hp with h1 | h1
    · exact List.mem_append.2 (.inl h1)
    · exact List.mem_append.2 (.inr (List.mem_cons.2 (.inr h1)))
  have hnd := s.nd
  rw [hsp, List.map_append, List.map_cons, List.nodup_append] at hnd
  obtain ⟨n1, n2, n3⟩ := hnd
  rw [List.nodup_cons] at n2
  have hnot : ∀ s' g' v', (s', g', v') ∈ G.take k ++ G.drop (k + 1) → s' ≠ a := fun s' g' v' hp e => by
    subst e
    rcases List.mem_append.1 hp with h1 | h1
    · exact n3 s' (List.mem_map.2 ⟨_, h1, rfl⟩) s' (by simp) rfl
    · exact n2.1 (List.mem_map.2 ⟨_, h1, rfl⟩)
  refine ⟨_, hff, ⟨by simpa using s.len, fun b y hy => ?_, fun s' g' v' hp => ?_, ?_, ?_, ?_, fun s' g' hp => ?_, fun s' g' v' hp => s.vals s' g' v' (hsub _ hp)⟩⟩
  · rw [List.getElem?_set] at hy
    by_cases e : a = b
    · rw [if_pos e, if_pos hxl] at hy; cases hy
      exact ⟨rfl, by show 1 ≤ g + 1; omega, by show g + 1 ≤ i + 1 + 1; omega, by simp [poisonP]⟩
    · rw [if_neg e] at hy
      have := s.cls b y hy
      exact ⟨this.1, this.2.1, by omega, this.2.2.2⟩
  · obtain ⟨y, hy, hr⟩ := s.good s' g' v' (hsub _ hp)
    exact ⟨y, by rw [List.getElem?_set, if_neg (Ne.symm (hnot s' g' v' hp))]; exact hy, hr⟩
  · rw [List.map_append, List.nodup_append]
    exact ⟨n1, n2.2, fun p hp q hq => n3 p hp q (List.mem_cons.2 (.inr hq))⟩
  · have := s.room; omega
  · have := s.liveN; omega
  · rcases List.mem_append.1 hp with h1 | h1
    · obtain ⟨y, hy, h2, h3⟩ := s.gone s' g' h1
      by_cases e : a = s'
      · subst e; rw [hx] at hy; cases hy
        exact ⟨⟨c, g + 1, false, poisonP c⟩, by rw [List.getElem?_set, if_pos rfl, if_pos hxl], h2, by show g' < g + 1; omega⟩
      · exact ⟨y, by rw [List.getElem?_set, if_neg e]; exact hy, h2, h3⟩
    · simp at h1; obtain ⟨rfl, rfl⟩ := h1
      exact ⟨⟨c, g' + 1, false, poisonP c⟩, by rw [List.getElem?_set, if_pos rfl, if_pos hxl], by omega, by show g' < g' + 1; omega⟩
/-- A swap that is done, and one that isn't. -/
theorem OnceS.swap (s : OnceS st c G D i) (hc : c < 5) (hi : i ≤ 100) {k a g v w : Nat} (hk : G[k]? = some (a, g, v)) (hw : w < 2000) : ∃ st', swapP st (refN a g (c == 0) : Nat) (v : Int) [w] = (true, 0, st') ∧ OnceS st' c (G.set k (a, g, w)) D i := by
  have hm := List.mem_of_getElem? hk
  obtain ⟨x, hx, hg, hl, hv⟩ := s.good a g v hm
  have hxl := (List.getElem?_eq_some_iff.1 hx).1
  have hcl := s.cls a x hx
  have h8 := sizeN_ge hc
  have hsw : swapP st (refN a g (c == 0) : Nat) (v : Int) [w] = (true, 0, st.set a (x.fill [w])) := by
    unfold swapP
    rw [s.find hi hm]
    simp only [hx, hcl.1, hv, Option.getD_some]
    rw [if_neg (by simp; omega), if_neg (by simp)]
  have hfx : isFree c x = false := by simp [isFree, hl]
  have hfz : isFree c (x.fill [w]) = false := by simp [isFree, SlotP.fill, hl]
  have hr : roomP (st.set a (x.fill [w])) c = roomP st c := room_set hfz fun y hy => by rw [hx] at hy; cases hy; exact hfx
  have hlv := live_turn hc hx hcl.1 (z := x.fill [w]) hcl.1
  have hsp := mem_split hk
  have hkl := (List.getElem?_eq_some_iff.1 hk).1
  have hmem : ∀ p, p ∈ G.set k (a, g, w) → p = (a, g, w) ∨ (p ∈ G ∧ p.1 ≠ a) := fun p hp => by
    obtain ⟨j, hj⟩ := List.getElem?_of_mem hp
    rw [List.getElem?_set] at hj
    by_cases e : k = j
    · rw [if_pos e, if_pos hkl] at hj
      exact .inl (Option.some.inj hj).symm
    · rw [if_neg e] at hj
      refine .inr ⟨List.mem_of_getElem? hj, fun ep => e ?_⟩
      have h1 : (G.map (·.1))[k]? = some a := by rw [List.getElem?_map, hk]; rfl
      have h2 : (G.map (·.1))[j]? = some a := by rw [List.getElem?_map, hj, ← ep]; rfl
      have b1 := (List.getElem?_eq_some_iff.1 h1)
      have b2 := (List.getElem?_eq_some_iff.1 h2)
      exact (List.getElem_inj s.nd (h₀ := b1.1) (h₁ := b2.1)).1 (b1.2.trans b2.2.symm)
  refine ⟨_, hsw, ⟨by simpa using s.len, fun b y hy => ?_, fun s' g' v' hp => ?_, ?_, ?_, ?_, fun s' g' hp => ?_, fun s' g' v' hp => ?_⟩⟩
  · rw [List.getElem?_set] at hy
    by_cases e : a = b
    · rw [if_pos e, if_pos hxl] at hy; cases hy
      exact ⟨hcl.1, hcl.2.1, hcl.2.2.1, by show (padW [w] (sizeN x.cls)).length = _; rw [hcl.1, padW_len (by simp; omega)]⟩
    · rw [if_neg e] at hy; exact s.cls b y hy
  · rcases hmem _ hp with h1 | ⟨h1, h2⟩
    · cases h1
      exact ⟨x.fill [w], by rw [List.getElem?_set, if_pos rfl, if_pos hxl], hg, hl, by simp [SlotP.fill, padW]⟩
    · obtain ⟨y, hy, hr⟩ := s.good s' g' v' h1
      exact ⟨y, by rw [List.getElem?_set, if_neg (Ne.symm h2)]; exact hy, hr⟩
  · have : (G.set k (a, g, w)).map (·.1) = G.map (·.1) := by
      rw [List.map_set]
      apply List.ext_getElem?
      intro j
      rw [List.getElem?_set]
      by_cases e : k = j
      · subst e; rw [if_pos rfl, if_pos (by simpa using hkl), List.getElem?_map, hk]; rfl
      · rw [if_neg e]
    rw [this]; exact s.nd
  · have := s.room; rw [List.length_set]; omega
  · have := s.liveN; rw [List.length_set]; omega
  · obtain ⟨y, hy, h2, h3⟩ := s.gone s' g' hp
    by_cases e : a = s'
    · subst e; rw [hx] at hy; cases hy
      exact ⟨x.fill [w], by rw [List.getElem?_set, if_pos rfl, if_pos hxl], h2, h3⟩
    · exact ⟨y, by rw [List.getElem?_set, if_neg e]; exact hy, h2, h3⟩
  · rcases hmem _ hp with h1 | ⟨h1, h2⟩
    · cases h1; exact hw
    · exact s.vals s' g' v' h1
theorem OnceS.swap_no (s : OnceS st c G D i) (hc : c < 5) (hi : i ≤ 100) {a g v w : Nat} (hm : (a, g, v) ∈ G) : swapP st (refN a g (c == 0) : Nat) ((v + 1 : Nat) : Int) [w] = (false, 0, st) := by
  obtain ⟨x, hx, hg, hl, hv⟩ := s.good a g v hm
  have hcl := s.cls a x hx
  have h8 := sizeN_ge hc
  unfold swapP
  rw [s.find hi hm]
  simp only [hx, hcl.1, hv, Option.getD_some]
  rw [if_neg (by simp; omega), if_pos (by omega)]
end Go.Proofs.Ytejjkienklaghaa
/- The law ArenaOnce. -/
namespace Go.Proofs.Ytejjkienklaghaa
open Go.Vm
set_option linter.unusedSimpArgs false
set_option linter.unusedVariables false
set_option maxRecDepth 100000
variable {T : Vm.Prog} {h : AH}
def refV (c a g : Nat) : AV := .int .i64 ((refN a g (c == 0) : Nat) : Int)
def gC (c : Nat) (G : List (Nat × Nat × Nat)) : List AV := G.map fun p => refV c p.1 p.2.1
def vC (G : List (Nat × Nat × Nat)) : List AV := G.map fun p => .int .u64 (p.2.2 : Int)
def dC (c : Nat) (D : List (Nat × Nat)) : List AV := D.map fun p => refV c p.1 p.2
theorem gC_flat {c : Nat} {G : List (Nat × Nat × Nat)} : ∀ x ∈ gC c G, AV.flat x = true := by
  intro x hx; obtain ⟨p, _, rfl⟩ := List.mem_map.1 hx; rfl
theorem vC_flat {G : List (Nat × Nat × Nat)} : ∀ x ∈ vC G, AV.flat x = true := by
  intro x hx; obtain ⟨p, _, rfl⟩ := List.mem_map.1 hx; rfl
/-- An arena and three rows beside it, all made since h0. -/
structure OnceK (h0 h : AH) (a : Nat) (F : Nat → Prop) (st : List SlotP) (vg vd vv : AV) (xs ds vs : List AV) : Prop where
  ar : ArR a st F h
  low : Low h
  q : Quiet h0 h
  fF : ∀ o, F o → h0.next ≤ o
  rg : Row1 h vg xs
  rd : Row1 h vd ds
  rv : Row1 h vv vs
  ng : ∀ o ∈ objs vg, h0.next ≤ o ∧ ¬ F o ∧ o ∉ objs vd ∧ o ∉ objs vv
  nd : ∀ o ∈ objs vd, h0.next ≤ o ∧ ¬ F o ∧ o ∉ objs vv
  nv : ∀ o ∈ objs vv, h0.next ≤ o ∧ ¬ F o
variable {h0 : AH} {a : Nat} {F : Nat → Prop} {st : List SlotP} {vg vd vv : AV} {xs ds vs : List AV}
theorem OnceK.act (k : OnceK h0 h a F st vg vd vv xs ds vs) {h' : AH} {F' : Nat → Prop} {st' : List SlotP} (ar : ArR a st' F' h') (act : Acts h F h' F') : OnceK h0 h' a F' st' vg vd vv xs ds vs := by
  have hn := k.q.1
  obtain ⟨r1, n1⟩ := row_act k.rg k.low (fun o ho => (k.ng o ho).2.1) act
  obtain ⟨r2, n2⟩ := row_act k.rd k.low (fun o ho => (k.nd o ho).2.1) act
  obtain ⟨r3, n3⟩ := row_act k.rv k.low (fun o ho => (k.nv o ho).2) act
  refine ⟨ar, act.low, ⟨Nat.le_trans hn act.mods.1, fun o ho _ => ?_⟩, fun o ho => ?_, r1, r2, r3, fun o ho => ⟨(k.ng o ho).1, n1 o ho, (k.ng o ho).2.2⟩, fun o ho => ⟨(k.nd o ho).1, n2 o ho, (k.nd o ho).2.2⟩, fun o ho => ⟨(k.nv o ho).1, n3 o ho⟩⟩
  · rw [act.mods.2 o (by omega) (fun hf => by have := k.fF o hf; omega)]
    exact k.q.2 o ho id
  · rcases act.grow o ho with h1 | h1
    · exact k.fF o h1
    · omega
theorem OnceK.quiet (k : OnceK h0 h a F st vg vd vv xs ds vs) {h' : AH} (q : Quiet h h') (lo : Low h') : OnceK h0 h' a F st vg vd vv xs ds vs :=
  ⟨((k.ar.res k.low).quiet q).holds, lo, k.q.trans q, k.fF, row_quiet k.rg k.low q, row_quiet k.rd k.low q, row_quiet k.rv k.low q, k.ng, k.nd, k.nv⟩
/-- Other objects, made since h0, are written. -/
theorem OnceK.side (k : OnceK h0 h a F st vg vd vv xs ds vs) {h' : AH} {G : Nat → Prop} (m : Mods h h' G) (hG : ∀ o, G o → h0.next ≤ o ∧ ¬ F o) : ArR a st F h' ∧ Quiet h0 h' := by
  have hn := k.q.1
  refine ⟨((k.ar.res k.low).frame m fun o hf ho => (hG o ho).2 hf).holds, ⟨Nat.le_trans hn m.1, fun o ho _ => ?_⟩⟩
  rw [m.2 o (by omega) (fun hg => by have := (hG o hg).1; omega)]
  exact k.q.2 o ho id
theorem OnceK.appG (k : OnceK h0 h a F st vg vd vv xs ds vs) {h' : AH} {v' : AV} {ys : List AV} (m : Mods h h' (fun o => o ∈ objs vg)) (lo : Low h') (r : Row1 h' v' ys) (hv : ∀ o ∈ objs v', o ∈ objs vg ∨ h.next ≤ o) : OnceK h0 h' a F st v' vd vv ys ds vs := by
  obtain ⟨ar, q⟩ := k.side m fun o ho => ⟨(k.ng o ho).1, (k.ng o ho).2.1⟩
  have hn := k.q.1
  have fl := (k.ar.res k.low).low
  have ld := fun o ho => RowS.low k.rd k.low o ho
  have lv := fun o ho => RowS.low k.rv k.low o ho
  refine ⟨ar, lo, q, k.fF, r, RowS.keep k.rd fun o ho => m.2 o (ld o ho) fun hg => (k.ng o hg).2.2.1 ho, RowS.keep k.rv fun o ho => m.2 o (lv o ho) fun hg => (k.ng o hg).2.2.2 ho, fun o ho => ?_, k.nd, k.nv⟩
  rcases hv o ho with h1 | h1
  · exact k.ng o h1
  · exact ⟨by omega, fun hf => by have := fl o hf; omega, fun hd => by have := ld o hd; omega, fun hd => by have := lv o hd; omega⟩
theorem OnceK.appV (k : OnceK h0 h a F st vg vd vv xs ds vs) {h' : AH} {v' : AV} {ys : List AV} (m : Mods h h' (fun o => o ∈ objs vv)) (lo : Low h') (r : Row1 h' v' ys) (hv : ∀ o ∈ objs v', o ∈ objs vv ∨ h.next ≤ o) : OnceK h0 h' a F st vg vd v' xs ds ys := by
  obtain ⟨ar, q⟩ := k.side m fun o ho => k.nv o ho
  have hn := k.q.1
  have fl := (k.ar.res k.low).low
  have ld := fun o ho => RowS.low k.rd k.low o ho
  have lg := fun o ho => RowS.low k.rg k.low o ho
  refine ⟨ar, lo, q, k.fF, RowS.keep k.rg fun o ho => m.2 o (lg o ho) fun hg => (k.ng o ho).2.2.2 hg, RowS.keep k.rd fun o ho => m.2 o (ld o ho) fun hg => (k.nd o ho).2.2 hg, r, fun o ho => ⟨(k.ng o ho).1, (k.ng o ho).2.1, (k.ng o ho).2.2.1, fun hv' => ?_⟩, fun o ho => ⟨(k.nd o ho).1, (k.nd o ho).2.1, fun hv' => ?_⟩, fun o ho => ?_⟩
  · rcases hv o hv' with h1 | h1
    · exact (k.ng o ho).2.2.2 h1
    · have := lg o ho; omega
  · rcases hv o hv' with h1 | h1
    · exact (k.nd o ho).2.2 h1
    · have := ld o ho; omega
  · rcases hv o ho with h1 | h1
    · exact k.nv o h1
    · exact ⟨by omega, fun hf => by have := fl o hf; omega⟩
theorem OnceK.appD (k : OnceK h0 h a F st vg vd vv xs ds vs) {h' : AH} {v' : AV} {ys : List AV} (m : Mods h h' (fun o => o ∈ objs vd)) (lo : Low h') (r : Row1 h' v' ys) (hv : ∀ o ∈ objs v', o ∈ objs vd ∨ h.next ≤ o) : OnceK h0 h' a F st vg v' vv xs ys vs := by
  obtain ⟨ar, q⟩ := k.side m fun o ho => ⟨(k.nd o ho).1, (k.nd o ho).2.1⟩
  have hn := k.q.1
  have fl := (k.ar.res k.low).low
  have lv := fun o ho => RowS.low k.rv k.low o ho
  have lg := fun o ho => RowS.low k.rg k.low o ho
  refine ⟨ar, lo, q, k.fF, RowS.keep k.rg fun o ho => m.2 o (lg o ho) fun hg => (k.ng o ho).2.2.1 hg, r, RowS.keep k.rv fun o ho => m.2 o (lv o ho) fun hg => (k.nd o hg).2.2 ho, fun o ho => ⟨(k.ng o ho).1, (k.ng o ho).2.1, fun hv' => ?_, (k.ng o ho).2.2.2⟩, fun o ho => ?_, k.nv⟩
  · rcases hv o hv' with h1 | h1
    · exact (k.ng o ho).2.2.1 h1
    · have := lg o ho; omega
  · rcases hv o ho with h1 | h1
    · exact k.nd o h1
    · exact ⟨by omega, fun hf => by have := fl o hf; omega, fun hv' => by have := lv o hv'; omega⟩
theorem refV_ne {c a g a' g' : Nat} (hv : Valid a g) (hv' : Valid a' g') (h : a' ≠ a) : ((((refN a' g' (c == 0) : Nat) : Int)) == ((refN a g (c == 0) : Nat) : Int)) = false := by
  rw [beq_eq_false_iff_ne]
  intro e
  exact h (refN_inj hv' hv (Int.ofNat.inj e)).1
/-- The new one is none of the good ones. -/
theorem once_loop0 {c a' g' : Nat} {G : List (Nat × Nat × Nat)} {v : AV} (hs : Sees h v (gC c G)) (hG : G.length ≤ 4) (hne : ∀ s g w, (s, g, w) ∈ G → ((((refN s g (c == 0) : Nat) : Int)) == ((refN a' g' (c == 0) : Nat) : Int)) = false) {f : Fr} (f13 : f.at 13 = refV c a' g') (f79 : f.at 79 = v) (f80 : f.at 80 = .int .i64 (G.length : Int)) (f81 : f.at 81 = .int .i64 0) {Q : AExit → Fr → AH → Prop}
    (hq : ∀ f', (∀ t, t < 16 → f'.at t = f.at t) → Q (.exit 3) f' h) : Wp (code T (.loop c4l0) f h) Q := by
  refine wpc_loop (fun d f' g => ∃ i, d = G.length - i ∧ i ≤ G.length ∧ g = h ∧ (∀ t, t < 16 → f'.at t = f.at t) ∧ f'.at 79 = v ∧ f'.at 80 = .int .i64 (G.length : Int) ∧ f'.at 81 = .int .i64 (i : Nat)) ?_ G.length _ _ ⟨0, rfl, Nat.zero_le _, rfl, fun _ _ => rfl, f79, f80, f81⟩
  rintro d f' g ⟨i, rfl, hi, rfl, gt, g79, g80, g81⟩
  by_cases h1 : i < G.length
  · have d1 : decide ((i : Int) < (G.length : Int)) = true := by rw [decide_eq_true_eq]; omega
    have w1 : IntKind.i64.wrap ((i : Int) + 1) = ((i + 1 : Nat) : Int) := by rw [wrap_i64 (by omega) (by omega)]; omega
    obtain ⟨⟨s, gg, w⟩, hp⟩ : ∃ p, G[i]? = some p := ⟨_, List.getElem?_eq_getElem h1⟩
    obtain ⟨p, hp1, hp2⟩ := hs.at (i := i) (x := refV c s gg) (by simp [gC, hp]) .i64
    have g13 := (gt 13 (by omega)).trans f13
    unfold refV at hp2 g13
    simp only [c4l0, vms, vmc, AOpd.val, Nat.reduceEqDiff, reduceCtorEq, Nat.reduceAdd, Nat.reduceBEq, g79, g80, g81, g13, d1, hp1, hp2, hne s gg w (List.mem_of_getElem? hp), w1]
    refine ⟨G.length - (i + 1), by omega, i + 1, rfl, by omega, trivial, fun t ht => ?_, ?_⟩
    · try simp only [vms, vmc, AOpd.val, Nat.reduceEqDiff, reduceCtorEq, Nat.reduceAdd, Nat.reduceBEq]
      repeat rw [if_neg (by omega)]
      exact gt t ht
    · simp only [vms, vmc, AOpd.val, Nat.reduceEqDiff, reduceCtorEq, Nat.reduceAdd, Nat.reduceBEq, g79, g80]
      exact ⟨trivial, trivial, trivial⟩
  · have d1 : decide ((i : Int) < (G.length : Int)) = false := by rw [decide_eq_false_iff_not]; omega
    simp only [c4l0, vms, vmc, AOpd.val, Nat.reduceEqDiff, reduceCtorEq, Nat.reduceAdd, Nat.reduceBEq, g80, g81, d1]
    refine hq _ fun t ht => ?_
    simp only [vms, vmc, AOpd.val, Nat.reduceEqDiff, reduceCtorEq, Nat.reduceAdd, Nat.reduceBEq]
    repeat rw [if_neg (by omega)]
    exact gt t ht
/-- Each good one tells what was last stored by it. -/
theorem once_loop1 (k : Fits T) {c i : Nat} {G : List (Nat × Nat × Nat)} {D : List (Nat × Nat)} (K : OnceK h0 h a F st vg vd vv (gC c G) (dC c D) (vC G)) (s : OnceS st c G D i) (hc : c < 5) (hi : i ≤ 100) {f : Fr} (f7 : f.at 7 = .ptr a 0) (f11 : f.at 11 = vv) (f204 : f.at 204 = vg) (f205 : f.at 205 = .int .i64 (G.length : Int)) (f206 : f.at 206 = .int .i64 0) {Q : AExit → Fr → AH → Prop}
    (hq : ∀ f' h', OnceK h0 h' a F st vg vd vv (gC c G) (dC c D) (vC G) → (∀ t, t < 21 → f'.at t = f.at t) → Q (.exit 5) f' h') : Wp (code T (.loop c4l1) f h) Q := by
  have hG : G.length ≤ 4 := by have := s.room; omega
  refine wpc_loop (fun d f' g => ∃ j, d = G.length - j ∧ j ≤ G.length ∧ OnceK h0 g a F st vg vd vv (gC c G) (dC c D) (vC G) ∧ (∀ t, t < 21 → f'.at t = f.at t) ∧ f'.at 204 = vg ∧ f'.at 205 = .int .i64 (G.length : Int) ∧ f'.at 206 = .int .i64 (j : Nat)) ?_ G.length _ _ ⟨0, rfl, Nat.zero_le _, K, fun _ _ => rfl, f204, f205, f206⟩
  rintro d f' g ⟨j, rfl, hj, K', gt, g204, g205, g206⟩
  by_cases h1 : j < G.length
  · have d1 : decide ((j : Int) < (G.length : Int)) = true := by rw [decide_eq_true_eq]; omega
    have w1 : IntKind.i64.wrap ((j : Int) + 1) = ((j + 1 : Nat) : Int) := by rw [wrap_i64 (by omega) (by omega)]; omega
    obtain ⟨⟨s1, g1, w⟩, hp⟩ : ∃ p, G[j]? = some p := ⟨_, List.getElem?_eq_getElem h1⟩
    obtain ⟨ws, hld, hw0, hwl⟩ := s.load hi (List.mem_of_getElem? hp)
    have h8 := sizeN_ge hc
    obtain ⟨p, hp1, hp2⟩ := K'.rg.sees.at (i := j) (x := refV c s1 g1) (by simp [gC, hp]) .i64
    have g7 := (gt 7 (by omega)).trans f7
    have g11 := (gt 11 (by omega)).trans f11
    unfold refV at hp2
    have hdo := ar_load k K'.ar K'.low ((refN s1 g1 (c == 0) : Nat) : Int)
    rw [hld] at hdo
    simp only [c4l1, vms, vmc, AOpd.val, Nat.reduceEqDiff, reduceCtorEq, Nat.reduceAdd, Nat.reduceBEq, g204, g205, g206, g7, d1, hp1, hp2]
    refine Gives.bind (hdo.mono ?_)
    rintro _ g2 ⟨q2, lo2, v, rfl, hv⟩
    have K2 := K'.quiet q2 lo2
    have hcp : Copy g2 v ws := by
      rcases hv with ⟨_, hv, _⟩ | ⟨hv, _⟩
      · have hv' : ws = [] := hv
        rw [hv'] at hw0; simp at hw0
      · exact hv
    obtain ⟨wo, rfl, gw⟩ := hcp
    have hix0 : idxAddrV 1 (.slice wo 0 1 ws.length ws.length false) (.int .i64 0) = some (.ptr wo 0) := by
      have := idx_nat (o := wo) (off := 0) (cap := ws.length) (ex := false) (k := .i64) (i := 0) (show 0 < ws.length by omega)
      exact this
    have hld0 : loadV g2 false 1 (.ptr wo 0) = some (.int .u64 (w : Int)) := load_at gw (by simp [wcells, hw0])
    obtain ⟨pv, hv1, hv2⟩ := K2.rv.sees.at (i := j) (x := .int .u64 (w : Int)) (by simp [vC, hp]) .i64
    have e0 : (((ws.length : Nat) : Int) == 0) = false := by rw [beq_eq_false_iff_ne]; omega
    simp only [vms, vmc, AOpd.val, Nat.reduceEqDiff, reduceCtorEq, Nat.reduceAdd, Nat.reduceBEq, show (((0 : Nat) : Int) != 0) = false from rfl, e0, hix0, hld0, g11, hv1, hv2, g206, w1]
    refine ⟨G.length - (j + 1), by omega, j + 1, rfl, by omega, K2, fun t ht => ?_, ?_⟩
    · try simp only [vms, vmc, AOpd.val, Nat.reduceEqDiff, reduceCtorEq, Nat.reduceAdd, Nat.reduceBEq]
      repeat rw [if_neg (by omega)]
      exact gt t ht
    · simp only [vms, vmc, AOpd.val, Nat.reduceEqDiff, reduceCtorEq, Nat.reduceAdd, Nat.reduceBEq, g204, g205]
      exact ⟨trivial, trivial, trivial⟩
  · have d1 : decide ((j : Int) < (G.length : Int)) = false := by rw [decide_eq_false_iff_not]; omega
    simp only [c4l1, vms, vmc, AOpd.val, Nat.reduceEqDiff, reduceCtorEq, Nat.reduceAdd, Nat.reduceBEq, g205, g206, d1]
    refine hq _ _ K' fun t ht => ?_
    simp only [vms, vmc, AOpd.val, Nat.reduceEqDiff, reduceCtorEq, Nat.reduceAdd, Nat.reduceBEq]
    repeat rw [if_neg (by omega)]
    exact gt t ht
/-- Each one that is gone is told so. -/
theorem once_loop2 (k : Fits T) {c i : Nat} {G : List (Nat × Nat × Nat)} {D : List (Nat × Nat)} (K : OnceK h0 h a F st vg vd vv (gC c G) (dC c D) (vC G)) (s : OnceS st c G D i) (hc : c < 5) (hi : i ≤ 100) (hD : D.length ≤ 100) {f : Fr} (f7 : f.at 7 = .ptr a 0) (f204 : f.at 235 = vd) (f205 : f.at 236 = .int .i64 (D.length : Int)) (f206 : f.at 237 = .int .i64 0) {Q : AExit → Fr → AH → Prop}
    (hq : ∀ f' h' F', OnceK h0 h' a F' st vg vd vv (gC c G) (dC c D) (vC G) → (∀ t, t < 21 → f'.at t = f.at t) → Q (.exit 7) f' h') : Wp (code T (.loop c4l2) f h) Q := by
  refine wpc_loop (fun d f' g => ∃ j F', d = D.length - j ∧ j ≤ D.length ∧ OnceK h0 g a F' st vg vd vv (gC c G) (dC c D) (vC G) ∧ (∀ t, t < 21 → f'.at t = f.at t) ∧ f'.at 235 = vd ∧ f'.at 236 = .int .i64 (D.length : Int) ∧ f'.at 237 = .int .i64 (j : Nat)) ?_ D.length _ _ ⟨0, F, rfl, Nat.zero_le _, K, fun _ _ => rfl, f204, f205, f206⟩
  rintro d f' g ⟨j, F', rfl, hj, K', gt, g204, g205, g206⟩
  by_cases h1 : j < D.length
  · have d1 : decide ((j : Int) < (D.length : Int)) = true := by rw [decide_eq_true_eq]; omega
    have w1 : IntKind.i64.wrap ((j : Int) + 1) = ((j + 1 : Nat) : Int) := by rw [wrap_i64 (by omega) (by omega)]; omega
    obtain ⟨⟨s1, g1⟩, hp⟩ : ∃ p, D[j]? = some p := ⟨_, List.getElem?_eq_getElem h1⟩
    have hfd := s.dead hi (List.mem_of_getElem? hp)
    obtain ⟨p, hp1, hp2⟩ := K'.rd.sees.at (i := j) (x := refV c s1 g1) (by simp [dC, hp]) .i64
    have g7 := (gt 7 (by omega)).trans f7
    unfold refV at hp2
    have hdo := ar_load k K'.ar K'.low ((refN s1 g1 (c == 0) : Nat) : Int)
    have hld : loadP st ((refN s1 g1 (c == 0) : Nat) : Int) = (4, []) := by unfold loadP; rw [hfd]
    rw [hld] at hdo
    simp only [c4l2, vms, vmc, AOpd.val, Nat.reduceEqDiff, reduceCtorEq, Nat.reduceAdd, Nat.reduceBEq, g204, g205, g206, g7, d1, hp1, hp2]
    refine Gives.bind (hdo.mono ?_)
    rintro _ g2 ⟨q2, lo2, v, rfl, hv⟩
    have K2 := K'.quiet q2 lo2
    have hl0 : lenOfV v = some 0 := by
      rcases hv with ⟨rfl, _⟩ | ⟨⟨o, rfl, _⟩, _⟩
      · rfl
      · rfl
    have hfr : freeP st ((refN s1 g1 (c == 0) : Nat) : Int) = (4, st) := by unfold freeP; rw [hfd]
    have hdo2 := ar_free k K2.ar K2.low ((refN s1 g1 (c == 0) : Nat) : Int)
    rw [hfr] at hdo2
    simp only [vms, vmc, AOpd.val, Nat.reduceEqDiff, reduceCtorEq, Nat.reduceAdd, Nat.reduceBEq, show (((4 : Nat) : Int) != 4) = false from rfl, hl0, show (((0 : Nat) : Int) != 0) = false from rfl, g7]
    refine Gives.bind (hdo2.mono ?_)
    rintro _ g3 ⟨rfl, F3, ar3, act3⟩
    have K3 := K2.act ar3 act3
    simp only [vms, vmc, AOpd.val, Nat.reduceEqDiff, reduceCtorEq, Nat.reduceAdd, Nat.reduceBEq, show (((4 : Nat) : Int) != 4) = false from rfl, g206, w1]
    refine ⟨D.length - (j + 1), by omega, j + 1, F3, rfl, by omega, K3, fun t ht => ?_, ?_⟩
    · try simp only [vms, vmc, AOpd.val, Nat.reduceEqDiff, reduceCtorEq, Nat.reduceAdd, Nat.reduceBEq]
      repeat rw [if_neg (by omega)]
      exact gt t ht
    · simp only [vms, vmc, AOpd.val, Nat.reduceEqDiff, reduceCtorEq, Nat.reduceAdd, Nat.reduceBEq, g204, g205]
      exact ⟨trivial, trivial, trivial⟩
  · have d1 : decide ((j : Int) < (D.length : Int)) = false := by rw [decide_eq_false_iff_not]; omega
    simp only [c4l2, vms, vmc, AOpd.val, Nat.reduceEqDiff, reduceCtorEq, Nat.reduceAdd, Nat.reduceBEq, g205, g206, d1]
    refine hq _ _ F' K' fun t ht => ?_
    simp only [vms, vmc, AOpd.val, Nat.reduceEqDiff, reduceCtorEq, Nat.reduceAdd, Nat.reduceBEq]
    repeat rw [if_neg (by omega)]
    exact gt t ht
def c4q : ACode := match c4l3 with
  | .seq q _ => q
  | c => c
def c4a : ACode := match c4l3 with
  | .seq _ (.seq (.block _ (.seq a _)) _) => a
  | c => c
def c4r : ACode := match c4l3 with
  | .seq _ (.seq (.block _ (.seq _ r)) _) => r
  | c => c
def c4n : ACode := match c4l3 with
  | .seq _ (.seq _ n) => n
  | c => c
theorem c4l3_parts : c4l3 = .seq c4q (.seq (.block 1 (.seq c4a c4r)) c4n) := rfl
/-- The end of a round: all is asked. -/
theorem once_tail (k : Fits T) {c i : Nat} {G : List (Nat × Nat × Nat)} {D : List (Nat × Nat)} (K : OnceK h0 h a F st vg vd vv (gC c G) (dC c D) (vC G)) (s : OnceS st c G D i) (hc : c < 5) (hi : i ≤ 100) (hD : D.length ≤ 100) {f : Fr} (f5 : f.at 5 = .int .i64 (c : Int)) (f7 : f.at 7 = .ptr a 0) (f9 : f.at 9 = vg) (f10 : f.at 10 = vd) (f11 : f.at 11 = vv) {Q : AExit → Fr → AH → Prop}
    (hq : ∀ f' h' F', OnceK h0 h' a F' st vg vd vv (gC c G) (dC c D) (vC G) → (∀ t, t < 13 → f'.at t = f.at t) → Q .normal f' h') : Wp (code T c4r f h) Q := by
  have hG : G.length ≤ 4 := by have := s.room; omega
  have lg : lenOfV vg = some G.length := by have := K.rg.sees.len; simpa [gC] using this
  simp only [c4r, c4l3, vms, vmc, AOpd.val, Nat.reduceEqDiff, reduceCtorEq, Nat.reduceAdd, Nat.reduceBEq, f9, lg]
  refine once_loop1 k K s hc hi ?_ ?_ ?_ ?_ ?_ ?_
  · simp only [vms, vmc, AOpd.val, Nat.reduceEqDiff, reduceCtorEq, Nat.reduceAdd, Nat.reduceBEq, f7]
  · simp only [vms, vmc, AOpd.val, Nat.reduceEqDiff, reduceCtorEq, Nat.reduceAdd, Nat.reduceBEq, f11]
  · simp only [vms, vmc, AOpd.val, Nat.reduceEqDiff, reduceCtorEq, Nat.reduceAdd, Nat.reduceBEq]
  · simp only [vms, vmc, AOpd.val, Nat.reduceEqDiff, reduceCtorEq, Nat.reduceAdd, Nat.reduceBEq]
  · simp only [vms, vmc, AOpd.val, Nat.reduceEqDiff, reduceCtorEq, Nat.reduceAdd, Nat.reduceBEq]
  intro f1 h1 K1 ft1
  have ld : lenOfV vd = some D.length := by have := K1.rd.sees.len; simpa [dC] using this
  have e5 := ft1 5 (by omega)
  have e7 := ft1 7 (by omega)
  have e9 := ft1 9 (by omega)
  have e10 := ft1 10 (by omega)
  simp only [vms, vmc, AOpd.val, Nat.reduceEqDiff, reduceCtorEq, Nat.reduceAdd, Nat.reduceBEq, f5, f7, f9, f10] at e5 e7 e9 e10
  simp only [vms, vmc, AOpd.val, Nat.reduceEqDiff, reduceCtorEq, Nat.reduceAdd, Nat.reduceBEq, e10, ld]
  refine once_loop2 k K1 s hc hi hD ?_ ?_ ?_ ?_ ?_
  · simp only [vms, vmc, AOpd.val, Nat.reduceEqDiff, reduceCtorEq, Nat.reduceAdd, Nat.reduceBEq, e7]
  · simp only [vms, vmc, AOpd.val, Nat.reduceEqDiff, reduceCtorEq, Nat.reduceAdd, Nat.reduceBEq]
  · simp only [vms, vmc, AOpd.val, Nat.reduceEqDiff, reduceCtorEq, Nat.reduceAdd, Nat.reduceBEq]
  · simp only [vms, vmc, AOpd.val, Nat.reduceEqDiff, reduceCtorEq, Nat.reduceAdd, Nat.reduceBEq]
  intro f2 h2 F2 K2 ft2
  have d5 := ft2 5 (by omega)
  have d7 := ft2 7 (by omega)
  have d9 := ft2 9 (by omega)
  simp only [vms, vmc, AOpd.val, Nat.reduceEqDiff, reduceCtorEq, Nat.reduceAdd, Nat.reduceBEq, e5, e7, e9] at d5 d7 d9
  simp only [vms, vmc, AOpd.val, Nat.reduceEqDiff, reduceCtorEq, Nat.reduceAdd, Nat.reduceBEq, d7]
  refine Gives.bind ((ar_live k K2.ar).mono ?_)
  rintro _ _ ⟨rfl, rfl⟩
  rename_i h2
  have lg2 : lenOfV vg = some G.length := by have := K2.rg.sees.len; simpa [gC] using this
  have b1 : (liveP st != (G.length : Int)) = false := by rw [s.liveN]; simp
  simp only [vms, vmc, AOpd.val, Nat.reduceEqDiff, reduceCtorEq, Nat.reduceAdd, Nat.reduceBEq, d9, lg2, b1, d7, d5]
  refine Gives.bind ((ar_room k K2.ar (c : Int)).mono ?_)
  rintro _ _ ⟨rfl, rfl⟩
  rename_i h2
  have hcc : (0 : Int) ≤ (c : Int) ∧ (c : Int) < 5 := ⟨by omega, by omega⟩
  have w1 : IntKind.i64.wrap (4 - (G.length : Int)) = 4 - (G.length : Int) := wrap_i64 (by omega) (by omega)
  have b2 : (((roomP st c : Nat) : Int) != 4 - (G.length : Int)) = false := by
    have := s.room
    rw [bne_eq_false_iff_eq]; omega
  rw [if_pos hcc, Int.toNat_natCast]
  simp only [vms, vmc, AOpd.val, Nat.reduceEqDiff, reduceCtorEq, Nat.reduceAdd, Nat.reduceBEq, d9, lg2, w1, b2]
  refine hq _ _ F2 K2 fun t ht => ?_
  have t2 := ft2 t (by omega)
  have t1 := ft1 t (by omega)
  simp only [vms, vmc, AOpd.val, Nat.reduceEqDiff, reduceCtorEq, Nat.reduceAdd, Nat.reduceBEq] at t1 t2
  repeat rw [if_neg (by omega)] at t2
  repeat rw [if_neg (by omega)] at t1
  simp only [vms, vmc, AOpd.val, Nat.reduceEqDiff, reduceCtorEq, Nat.reduceAdd, Nat.reduceBEq]
  repeat rw [if_neg (by omega)]
  rw [t2, t1]
end Go.Proofs.Ytejjkienklaghaa
/- The law ArenaOnce: a round. -/
namespace Go.Proofs.Ytejjkienklaghaa
open Go.Vm
set_option linter.unusedSimpArgs false
set_option linter.unusedVariables false
set_option maxRecDepth 100000
variable {T : Vm.Prog} {h : AH}
variable {h0 : AH} {a : Nat} {F : Nat → Prop} {st : List SlotP} {vg vd vv : AV} {xs ds vs : List AV}
theorem within_nat (k : Fits T) {n : Int} {hi : Nat} (h1 : hi ≤ 1000) : Gives T 14 [.int .i64 n, .int .i64 0, .int .i64 (hi : Int)] h fun r h' => ∃ m : Nat, r = .int .i64 (m : Int) ∧ m ≤ hi ∧ h' = h := by
  refine (within_ok (g := 14) (k.env _ (by decide)) (k.at rfl) (show (0 : Int) ≤ (hi : Int) by omega) (by decide) (by omega)).mono ?_
  rintro _ _ ⟨m, rfl, h2, h3, rfl⟩
  exact ⟨m.toNat, by rw [Int.toNat_of_nonneg h2], by omega, rfl⟩
/-- What is asked in a round. -/
def AskX (x : List AV) : Prop := ∃ kd b c ref was f w, x = [.int .i64 kd, b, c, .int .i64 ref, .int .u64 (was : Nat), f, w] ∧ was < 18446744073709551616
theorem fillU (n : Nat) : fillV [AV.int .u64 0] [(0, 1, .int .u64 (n : Int))] = some (wcells [n]) := by simp [fillV, AV.isDef, AV.cells, setMany, wcells]
theorem fillI (n : Int) : fillV [AV.int .i64 0] [(0, 1, .int .i64 n)] = some [.int .i64 n] := by simp [fillV, AV.isDef, AV.cells, setMany]
theorem len_gC {c : Nat} {G : List (Nat × Nat × Nat)} (s : Sees h vg (gC c G)) : lenOfV vg = some G.length := by have := s.len; simpa [gC] using this
theorem row1_at {v : AV} {xs : List AV} (r : Row1 h v xs) {i : Nat} {x y : AV} (hx : xs[i]? = some x) (hc : y.cells = [y]) (hf : y.flat = true) : ∃ o p h', objs v = [o] ∧ idxAddrV 1 v (.int .i64 (i : Int)) = some p ∧ storeV h 1 p y = some h' ∧ Upd h h' o ∧ Row1 h' v (xs.set i y) := by
  obtain ⟨o, ho, hi, _, hs⟩ := RowS.at r (i := i) (x := [x]) (by rw [List.getElem?_map, hx]; rfl)
  obtain ⟨h', hst, hu, hr⟩ := hs 0 y (by decide) hc hf
  refine ⟨o, _, h', ho, hi, hst, hu, ?_⟩
  have : (xs.set i y).map (fun x => [x]) = (xs.map fun x => [x]).set i ([x].set 0 y) := by rw [List.map_set]; rfl
  unfold Row1
  rw [this]; exact hr
theorem once_switch (k : Fits T) {c i : Nat} {G : List (Nat × Nat × Nat)} {D : List (Nat × Nat)} {lv : AV} {asks : List (List AV)} {x : List AV} (sa : SeesS h0 7 lv asks) (hl0 : Low h0) (hx : asks[i]? = some x) (ax : AskX x) (K : OnceK h0 h a F st vg vd vv (gC c G) (dC c D) (vC G)) (s : OnceS st c G D i) (hc : c < 5) (hi : i < 60) (hD : D.length ≤ i) {f : Fr}
    (f1 : f.at 1 = lv) (f5 : f.at 5 = .int .i64 (c : Int)) (f7 : f.at 7 = .ptr a 0) (f9 : f.at 9 = vg) (f10 : f.at 10 = vd) (f11 : f.at 11 = vv) (f12 : f.at 12 = .int .i64 (i : Int)) {Q : AExit → Fr → AH → Prop}
    (hq : ∀ f' h' F' st' vg' vd' vv' G' D', OnceK h0 h' a F' st' vg' vd' vv' (gC c G') (dC c D') (vC G') → OnceS st' c G' D' (i + 1) → D'.length ≤ i + 1 → f'.at 1 = lv → f'.at 5 = .int .i64 (c : Int) → f'.at 7 = .ptr a 0 → f'.at 9 = vg' → f'.at 10 = vd' → f'.at 11 = vv' → f'.at 12 = .int .i64 (i : Int) → Q .normal f' h') : Wp (code T c4a f h) Q := by
  have hG : G.length ≤ 4 := by have := s.room; omega
  obtain ⟨kd, b0, c0, ref, was, b1, b2, rfl, hwas⟩ := ax
  have sah : SeesS h 7 lv asks := sa.keep fun o ho => K.q.2 o (sa.low hl0 o ho) id
  obtain ⟨lo', off, hlo, hix, hat⟩ := sah.at hx .i64
  have hld0 := hat 0 _ rfl
  have fa : ∀ o x j, fieldAddrV j (.ptr o x) = some (.ptr o (x + j)) := fun o x j => rfl
  have wu : ∀ n : Nat, n < 5000 → IntKind.u64.wrap (n : Int) = (n : Int) := fun n hn => wrap_u64 (by omega)
  have lg := len_gC K.rg.sees
  simp only [c4a, c4l3, vms, vmc, AOpd.val, Nat.reduceEqDiff, reduceCtorEq, Nat.reduceAdd, Nat.reduceBEq, f1, f12, hix, fa, hld0]
  refine Gives.bind ((within_nat k (hi := 2) (by decide)).mono ?_)
  rintro _ _ ⟨m, rfl, hm, rfl⟩
  rename_i h
  have hmm : m = 0 ∨ m = 1 ∨ m = 2 := by omega
  rcases hmm with rfl | rfl | rfl
  · -- one more is taken
    have qn : Quiet h (h.new (.cells (wcells [i]) true)) := (Quiet.refl _).new _
    have lon : Low (h.new (.cells (wcells [i]) true)) := K.low.new _
    have Kn := K.quiet qn lon
    have src := lit_src (h := h) (F := F) K.low (K.ar.res K.low).low [i] (by simp)
    have hdo := ar_alloc k Kn.ar lon (c : Int) src
    simp only [vms, vmc, AOpd.val, Nat.reduceEqDiff, reduceCtorEq, Nat.reduceAdd, Nat.reduceBEq, show (((0 : Nat) : Int) == 0) = true from rfl, f5, f7, f12, wu i (by omega), fillU]
    by_cases hg : G.length < 4
    · obtain ⟨a', g', st', hal, s', hv', hne⟩ := s.alloc hc (by omega) (v := i) (by omega) hg
      rw [hal] at hdo
      refine Gives.bind (hdo.mono ?_)
      rintro _ h2 ⟨rfl, F2, ar2, act2⟩
      have K2 := Kn.act ar2 act2
      have d4 : decide ((G.length : Int) < 4) = true := by rw [decide_eq_true_eq]; omega
      simp only [vms, vmc, AOpd.val, Nat.reduceEqDiff, reduceCtorEq, Nat.reduceAdd, Nat.reduceBEq, show (((0 : Nat) : Int) == 0) = true from rfl, f9, lg, d4, show eqBV true (.bool true) (.bool true) = some (.bool false) from rfl]
      refine once_loop0 (a' := a') (g' := g') K2.rg.sees hG (fun s1 g1 w1 hm1 => ?_) ?_ ?_ ?_ ?_ ?_
      · obtain ⟨y, hy, hgy, _⟩ := s.good s1 g1 w1 hm1
        have hvy := s.valid (by omega) hy
        rw [hgy] at hvy
        exact refV_ne hv' hvy (hne s1 g1 w1 hm1)
      · simp only [vms, vmc, AOpd.val, Nat.reduceEqDiff, reduceCtorEq, Nat.reduceAdd, Nat.reduceBEq]; rfl
      · simp only [vms, vmc, AOpd.val, Nat.reduceEqDiff, reduceCtorEq, Nat.reduceAdd, Nat.reduceBEq]
      · simp only [vms, vmc, AOpd.val, Nat.reduceEqDiff, reduceCtorEq, Nat.reduceAdd, Nat.reduceBEq]
      · simp only [vms, vmc, AOpd.val, Nat.reduceEqDiff, reduceCtorEq, Nat.reduceAdd, Nat.reduceBEq]
      intro f3 ft3
      have e1 := ft3 1 (by omega)
      have e5 := ft3 5 (by omega)
      have e7 := ft3 7 (by omega)
      have e9 := ft3 9 (by omega)
      have e10 := ft3 10 (by omega)
      have e11 := ft3 11 (by omega)
      have e12 := ft3 12 (by omega)
      have e13 := ft3 13 (by omega)
      simp only [vms, vmc, AOpd.val, Nat.reduceEqDiff, reduceCtorEq, Nat.reduceAdd, Nat.reduceBEq, f1, f5, f7, f9, f10, f11, f12] at e1 e5 e7 e9 e10 e11 e12 e13
      obtain ⟨v3, h3, ha3, r3, o3, m3, lo3⟩ := row_app (bytes := 8) (x := refV c a' g') K2.low K2.rg (by decide) (by decide) (by simp [gC]; omega) rfl
      have ha3' : appV 1 8 (h2.new (.cells [AV.int .i64 ((refN a' g' (c == 0) : Nat) : Int)] true)) vg (.slice h2.next 0 1 1 1 true) = some (v3, h3) := ha3
      have K3 := K2.appG m3 lo3 r3 o3
      obtain ⟨v4, h4, ha4, r4, o4, m4, lo4⟩ := row_app (bytes := 8) (x := .int .u64 (i : Int)) K3.low K3.rv (by decide) (by decide) (by simp [vC]; omega) rfl
      have ha4' : appV 1 8 (h3.new (.cells (wcells [i]) true)) vv (.slice h3.next 0 1 1 1 true) = some (v4, h4) := ha4
      have K4 := K3.appV m4 lo4 r4 o4
      simp only [vms, vmc, AOpd.val, Nat.reduceEqDiff, reduceCtorEq, Nat.reduceAdd, Nat.reduceBEq, e1, e5, e7, e9, e10, e11, e12, e13, fillI, ha3', wu i (by omega), fillU, ha4']
      refine hq _ h4 F2 st' v3 vd v4 (G ++ [(a', g', i)]) D (by simpa [gC, vC] using K4) (s'.mono (by omega)) (by omega) ?_ ?_ ?_ ?_ ?_ ?_ ?_
      all_goals simp only [vms, vmc, AOpd.val, Nat.reduceEqDiff, reduceCtorEq, Nat.reduceAdd, Nat.reduceBEq, e1, e5, e7, e9, e10, e11, e12]
    · have hal := s.full hc (v := i) hg
      rw [hal] at hdo
      refine Gives.bind (hdo.mono ?_)
      rintro _ h2 ⟨rfl, F2, ar2, act2⟩
      have K2 := Kn.act ar2 act2
      have d4 : decide ((G.length : Int) < 4) = false := by rw [decide_eq_false_iff_not]; omega
      simp only [vms, vmc, AOpd.val, Nat.reduceEqDiff, reduceCtorEq, Nat.reduceAdd, Nat.reduceBEq, show (((2 : Nat) : Int) == 0) = false from rfl, f9, lg, d4, show eqBV true (.bool false) (.bool false) = some (.bool false) from rfl]
      refine hq _ h2 F2 st vg vd vv G D K2 (s.mono (by omega)) (by omega) ?_ ?_ ?_ ?_ ?_ ?_ ?_
      all_goals simp only [vms, vmc, AOpd.val, Nat.reduceEqDiff, reduceCtorEq, Nat.reduceAdd, Nat.reduceBEq, f1, f5, f7, f9, f10, f11, f12]
  · -- one is given back
    by_cases hg0 : 0 < G.length
    rotate_left
    · have d1 : decide ((G.length : Int) > 0) = false := by rw [decide_eq_false_iff_not]; omega
      simp only [vms, vmc, AOpd.val, Nat.reduceEqDiff, reduceCtorEq, Nat.reduceAdd, Nat.reduceBEq, show (((1 : Nat) : Int) == 0) = false from rfl, show (((1 : Nat) : Int) == 1) = true from rfl, f9, lg, d1]
      refine hq _ h F st vg vd vv G D K (s.mono (by omega)) (by omega) ?_ ?_ ?_ ?_ ?_ ?_ ?_
      all_goals simp only [vms, vmc, AOpd.val, Nat.reduceEqDiff, reduceCtorEq, Nat.reduceAdd, Nat.reduceBEq, f1, f5, f7, f9, f10, f11, f12]
    have d1 : decide ((G.length : Int) > 0) = true := by rw [decide_eq_true_eq]; omega
    have hld3 := hat 3 _ rfl
    have w1 : IntKind.i64.wrap ((G.length : Int) - 1) = ((G.length - 1 : Nat) : Int) := by rw [wrap_i64 (by omega) (by omega)]; omega
    simp only [vms, vmc, AOpd.val, Nat.reduceEqDiff, reduceCtorEq, Nat.reduceAdd, Nat.reduceBEq, show (((1 : Nat) : Int) == 0) = false from rfl, show (((1 : Nat) : Int) == 1) = true from rfl, f1, f9, f12, lg, d1, hix, fa, hld3, w1]
    refine Gives.bind ((within_nat k (hi := G.length - 1) (by omega)).mono ?_)
    rintro _ _ ⟨kk, rfl, hk, rfl⟩
    rename_i h
    obtain ⟨⟨s1, g1, w⟩, hp⟩ : ∃ p, G[kk]? = some p := ⟨_, List.getElem?_eq_getElem (by omega)⟩
    obtain ⟨st', hfr, s'⟩ := s.free hc (by omega) hp
    obtain ⟨p, hp1, hp2⟩ := K.rg.sees.at (i := kk) (x := refV c s1 g1) (by simp [gC, hp]) .i64
    unfold refV at hp2
    have hdo := ar_free k K.ar K.low ((refN s1 g1 (c == 0) : Nat) : Int)
    rw [hfr] at hdo
    simp only [vms, vmc, AOpd.val, Nat.reduceEqDiff, reduceCtorEq, Nat.reduceAdd, Nat.reduceBEq, f7, f9, hp1, hp2]
    refine Gives.bind (hdo.mono ?_)
    rintro _ h2 ⟨rfl, F2, ar2, act2⟩
    have K2 := K.act ar2 act2
    obtain ⟨p', hp1', hp2'⟩ := K2.rg.sees.at (i := kk) (x := refV c s1 g1) (by simp [gC, hp]) .i64
    have epp : p' = p := by rw [hp1] at hp1'; exact (Option.some.inj hp1').symm
    subst epp
    unfold refV at hp2'
    obtain ⟨v3, h3, ha3, r3, o3, m3, lo3⟩ := row_app (bytes := 8) (x := refV c s1 g1) K2.low K2.rd (by decide) (by decide) (by simp [dC]; omega) rfl
    have ha3' : appV 1 8 (h2.new (.cells [AV.int .i64 ((refN s1 g1 (c == 0) : Nat) : Int)] true)) vd (.slice h2.next 0 1 1 1 true) = some (v3, h3) := ha3
    have K3 := K2.appD m3 lo3 r3 o3
    obtain ⟨va, vb, v4, h4, v5, h5, sl1, sl2, ap1, ap2, r5, q5, lo5, o5⟩ := splice (k := kk) (bytes := 8) K3.low K3.rg (by simp [gC]; omega) (by simp [gC]; omega) gC_flat (by decide) (by decide)
    have K5 := K3.appG (h' := h5) (v' := v5) (q5.mods _) lo5 r5 (fun o ho => .inr (o5 o ho))
    obtain ⟨ua, ub, v6, h6, v7, h7, sl3, sl4, ap3, ap4, r7, q7, lo7, o7⟩ := splice (k := kk) (bytes := 8) K5.low K5.rv (by simp [vC]; omega) (by simp [vC]; omega) vC_flat (by decide) (by decide)
    have K7 := K5.appV (h' := h7) (v' := v7) (q7.mods _) lo7 r7 (fun o ho => .inr (o7 o ho))
    have wk : IntKind.i64.wrap ((kk : Int) + 1) = ((kk + 1 : Nat) : Int) := by rw [wrap_i64 (by omega) (by omega)]; omega
    have fe : fillV [] [] = some [] := rfl
    simp only [vms, vmc, AOpd.val, Nat.reduceEqDiff, reduceCtorEq, Nat.reduceAdd, Nat.reduceBEq, show (((0 : Nat) : Int) != 0) = false from rfl, f9, f10, f11, hp1', hp2', fillI, ha3', wk, sl1, sl2, fe]
    rw [items_look (look_build (q := h3.next) (l := []) rfl (by simp only [vms, vmc, AOpd.val, Nat.reduceEqDiff, reduceCtorEq, Nat.reduceAdd, Nat.reduceBEq]; rfl) get_new_same rfl)]
    simp only [vms, vmc, AOpd.val, Nat.reduceEqDiff, reduceCtorEq, Nat.reduceAdd, Nat.reduceBEq, ap1, ap2, f11, sl3, sl4, wk, fe]
    rw [items_look (look_build (q := h5.next) (l := []) rfl (by simp only [vms, vmc, AOpd.val, Nat.reduceEqDiff, reduceCtorEq, Nat.reduceAdd, Nat.reduceBEq]; rfl) get_new_same rfl)]
    simp only [vms, vmc, AOpd.val, Nat.reduceEqDiff, reduceCtorEq, Nat.reduceAdd, Nat.reduceBEq, ap3, ap4]
    have eG : gC c (G.take kk ++ G.drop (kk + 1)) = (gC c G).take kk ++ (gC c G).drop (kk + 1) := by simp [gC, List.map_take, List.map_drop]
    have eV : vC (G.take kk ++ G.drop (kk + 1)) = (vC G).take kk ++ (vC G).drop (kk + 1) := by simp [vC, List.map_take, List.map_drop]
    have eD : dC c (D ++ [(s1, g1)]) = dC c D ++ [refV c s1 g1] := by simp [dC]
    refine hq _ h7 F2 st' v5 v3 v7 _ _ (by rw [eG, eV, eD]; exact K7) s' (by simp; omega) ?_ ?_ ?_ ?_ ?_ ?_ ?_
    all_goals simp only [vms, vmc, AOpd.val, Nat.reduceEqDiff, reduceCtorEq, Nat.reduceAdd, Nat.reduceBEq, f1, f5, f7, f9, f10, f11, f12]
  · -- one is swapped
    by_cases hg0 : 0 < G.length
    rotate_left
    · have d1 : decide ((G.length : Int) > 0) = false := by rw [decide_eq_false_iff_not]; omega
      simp only [vms, vmc, AOpd.val, Nat.reduceEqDiff, reduceCtorEq, Nat.reduceAdd, Nat.reduceBEq, show (((2 : Nat) : Int) == 0) = false from rfl, show (((2 : Nat) : Int) == 1) = false from rfl, show (((2 : Nat) : Int) == 2) = true from rfl, f9, lg, d1]
      refine hq _ h F st vg vd vv G D K (s.mono (by omega)) (by omega) ?_ ?_ ?_ ?_ ?_ ?_ ?_
      all_goals simp only [vms, vmc, AOpd.val, Nat.reduceEqDiff, reduceCtorEq, Nat.reduceAdd, Nat.reduceBEq, f1, f5, f7, f9, f10, f11, f12]
    have d1 : decide ((G.length : Int) > 0) = true := by rw [decide_eq_true_eq]; omega
    have hld3 := hat 3 _ rfl
    have hld4 := hat 4 _ rfl
    have w1 : IntKind.i64.wrap ((G.length : Int) - 1) = ((G.length - 1 : Nat) : Int) := by rw [wrap_i64 (by omega) (by omega)]; omega
    simp only [vms, vmc, AOpd.val, Nat.reduceEqDiff, reduceCtorEq, Nat.reduceAdd, Nat.reduceBEq, show (((2 : Nat) : Int) == 0) = false from rfl, show (((2 : Nat) : Int) == 1) = false from rfl, show (((2 : Nat) : Int) == 2) = true from rfl, f1, f9, f12, lg, d1, hix, fa, hld3, w1]
    refine Gives.bind ((within_nat k (hi := G.length - 1) (by omega)).mono ?_)
    rintro _ _ ⟨kk, rfl, hk, rfl⟩
    rename_i h
    obtain ⟨⟨s1, g1, w⟩, hp⟩ : ∃ p, G[kk]? = some p := ⟨_, List.getElem?_eq_getElem (by omega)⟩
    have hm := List.mem_of_getElem? hp
    have hwv := s.vals s1 g1 w hm
    obtain ⟨p, hp1, hp2⟩ := K.rg.sees.at (i := kk) (x := refV c s1 g1) (by simp [gC, hp]) .i64
    obtain ⟨pv, hv1, hv2⟩ := K.rv.sees.at (i := kk) (x := .int .u64 (w : Int)) (by simp [vC, hp]) .i64
    unfold refV at hp2
    have qn : Quiet h (h.new (.cells (wcells [1000 + i]) true)) := (Quiet.refl _).new _
    have lon : Low (h.new (.cells (wcells [1000 + i]) true)) := K.low.new _
    have Kn := K.quiet qn lon
    have src := lit_src (h := h) (F := F) K.low (K.ar.res K.low).low [1000 + i] (by simp)
    have sahn : SeesS (h.new (.cells (wcells [1000 + i]) true)) 7 lv asks := sa.keep fun o ho => Kn.q.2 o (sa.low hl0 o ho) id
    obtain ⟨lo2, off2, hlo2, hix2, hat2⟩ := sahn.at hx .i64
    have eoff : lo2 = lo' ∧ off2 = off := by
      rw [hix] at hix2
      have := Option.some.inj hix2
      simp only [AV.ptr.injEq] at this
      exact ⟨this.1.symm, this.2.symm⟩
    obtain ⟨rfl, rfl⟩ := eoff
    have hld4n := hat2 4 _ rfl
    obtain ⟨p', hp1', hp2'⟩ := Kn.rg.sees.at (i := kk) (x := refV c s1 g1) (by simp [gC, hp]) .i64
    have epp : p' = p := by rw [hp1] at hp1'; exact (Option.some.inj hp1').symm
    subst epp
    obtain ⟨pv', hv1', hv2'⟩ := Kn.rv.sees.at (i := kk) (x := .int .u64 (w : Int)) (by simp [vC, hp]) .i64
    have epv : pv' = pv := by rw [hv1] at hv1'; exact (Option.some.inj hv1').symm
    subst epv
    unfold refV at hp2'
    have hrem : binV .rem (.int .u64 (was : Int)) (.int .u64 2) = some (.int .u64 ((was % 2 : Nat) : Int)) := by
      rw [bin_rem (by decide), Int.tmod_eq_emod_of_nonneg (by omega)]; rfl
    have hadd : binV .add (.int .u64 (w : Int)) (.int .u64 ((was % 2 : Nat) : Int)) = some (.int .u64 ((w + was % 2 : Nat) : Int)) := by
      rw [bin_add, show (w : Int) + ((was % 2 : Nat) : Int) = ((w + was % 2 : Nat) : Int) by omega, wrap_u64 (by omega)]
    have h1000 : binV .add (.int .i64 1000) (.int .i64 (i : Int)) = some (.int .i64 ((1000 + i : Nat) : Int)) := by rw [bin_add, wrap_i64 (by omega) (by omega), show (1000 : Int) + (i : Int) = ((1000 + i : Nat) : Int) by omega]
    have w1000 : IntKind.i64.wrap (1000 + (i : Int)) = ((1000 + i : Nat) : Int) := by rw [wrap_i64 (by omega) (by omega)]; omega
    have lkl : ∀ {f : Fr} {t d : Nat} {p v : AV}, loadV (h.new (.cells (wcells [1000 + i]) true)) false 1 p = some v → f.at t = p → f.at d = v → AV.beq v v = true → AOper.lookAgain ⟨some d, .load false 1 (.tmp t), none⟩ f (h.new (.cells (wcells [1000 + i]) true)) = true := fun hl ht hd hb => look_load (by show loadV _ _ _ (Fr.at _ _) = _; rw [ht]; exact hl) hd hb
    simp only [vms, vmc, AOpd.val, Nat.reduceEqDiff, reduceCtorEq, Nat.reduceAdd, Nat.reduceBEq, f1, f7, f9, f11, f12, hp1, hp2, hv1, hv2, hix, fa, hld4, hrem, hadd, h1000, wu (1000 + i) (by omega), fillU]
    rw [items_look (lkl hp2' (by simp only [vms, vmc, AOpd.val, Nat.reduceEqDiff, reduceCtorEq, Nat.reduceAdd, Nat.reduceBEq]) (by simp only [vms, vmc, AOpd.val, Nat.reduceEqDiff, reduceCtorEq, Nat.reduceAdd, Nat.reduceBEq]) (by simp [AV.beq])), items_look (lkl hv2' (by simp only [vms, vmc, AOpd.val, Nat.reduceEqDiff, reduceCtorEq, Nat.reduceAdd, Nat.reduceBEq]) (by simp only [vms, vmc, AOpd.val, Nat.reduceEqDiff, reduceCtorEq, Nat.reduceAdd, Nat.reduceBEq]) (by simp [AV.beq])), items_look (lkl hld4n (by simp only [vms, vmc, AOpd.val, Nat.reduceEqDiff, reduceCtorEq, Nat.reduceAdd, Nat.reduceBEq]) (by simp only [vms, vmc, AOpd.val, Nat.reduceEqDiff, reduceCtorEq, Nat.reduceAdd, Nat.reduceBEq]) (by simp [AV.beq])),
      items_look (look_build (q := h.next) (l := wcells [1000 + i]) (by simp only [vms, vmc, AOpd.val, Nat.reduceEqDiff, reduceCtorEq, Nat.reduceAdd, Nat.reduceBEq, w1000, wu (1000 + i) (by omega), fillU]) (by simp only [vms, vmc, AOpd.val, Nat.reduceEqDiff, reduceCtorEq, Nat.reduceAdd, Nat.reduceBEq]; rfl) get_new_same (by simp [AV.beqs, AV.beq, wcells]))]
    have hdo := ar_swap k Kn.ar lon ((refN s1 g1 (c == 0) : Nat) : Int) (was := ((w + was % 2 : Nat) : Int)) src
    rcases (show was % 2 = 0 ∨ was % 2 = 1 by omega) with hww | hww
    · -- it is done
      obtain ⟨st', hsw, s'⟩ := s.swap hc (by omega) hp (w := 1000 + i) (by omega)
      rw [hww, Nat.add_zero] at hdo
      rw [hsw] at hdo
      simp only [vms, vmc, AOpd.val, Nat.reduceEqDiff, reduceCtorEq, Nat.reduceAdd, Nat.reduceBEq, hww, Nat.add_zero]
      refine Gives.bind (hdo.mono ?_)
      rintro _ h2 ⟨rfl, F2, ar2, act2⟩
      have K2 := Kn.act ar2 act2
      have sa2 : SeesS h2 7 lv asks := sa.keep fun o ho => K2.q.2 o (sa.low hl0 o ho) id
      obtain ⟨lo3, off3, hlo3, hix3, hat3⟩ := sa2.at hx .i64
      have hld5 := hat3 4 _ rfl
      obtain ⟨ov, p6, h6, ho6, hp6, hst6, hu6, hr6⟩ := row1_at K2.rv (i := kk) (x := .int .u64 (w : Int)) (y := .int .u64 ((1000 + i : Nat) : Int)) (by simp [vC, hp]) rfl rfl
      have lo6 : Low h6 := K2.low.upd hu6 (RowS.low K2.rv K2.low ov (by rw [ho6]; simp))
      have m6 : Mods h2 h6 (fun o => o ∈ objs vv) := ⟨Nat.le_of_eq hu6.1.symm, fun o _ hn => hu6.2 o fun e => hn (by rw [e, ho6]; simp)⟩
      have K6 := K2.appV m6 lo6 hr6 (fun o ho => .inl ho)
      have r0 : binV .rem (.int .u64 (was : Int)) (.int .u64 2) = some (.int .u64 0) := by rw [hrem, hww]; rfl
      simp only [vms, vmc, AOpd.val, Nat.reduceEqDiff, reduceCtorEq, Nat.reduceAdd, Nat.reduceBEq, show (((0 : Nat) : Int) != 0) = false from rfl, f1, f12, hix3, fa, hld5, r0, show eqBV true (.bool true) (.bool true) = some (.bool false) from rfl, f11, h1000, wu (1000 + i) (by omega), hp6, hst6]
      have eG : gC c (G.set kk (s1, g1, 1000 + i)) = gC c G := by
        unfold gC; rw [List.map_set]
        apply List.ext_getElem?
        intro j
        rw [List.getElem?_set]
        by_cases e : kk = j
        · subst e; simp [hp]; omega
        · rw [if_neg e]
      have eV : vC (G.set kk (s1, g1, 1000 + i)) = (vC G).set kk (.int .u64 ((1000 + i : Nat) : Int)) := by unfold vC; rw [List.map_set]
      refine hq _ h6 F2 st' vg vd vv _ D (by rw [eG, eV]; exact K6) (s'.mono (by omega)) (by omega) ?_ ?_ ?_ ?_ ?_ ?_ ?_
      all_goals simp only [vms, vmc, AOpd.val, Nat.reduceEqDiff, reduceCtorEq, Nat.reduceAdd, Nat.reduceBEq, f1, f5, f7, f9, f10, f11, f12]
    · -- it isn't
      have hsw := s.swap_no hc (by omega) hm (w := 1000 + i)
      rw [hww] at hdo
      rw [hsw] at hdo
      simp only [vms, vmc, AOpd.val, Nat.reduceEqDiff, reduceCtorEq, Nat.reduceAdd, Nat.reduceBEq, hww]
      refine Gives.bind (hdo.mono ?_)
      rintro _ h2 ⟨rfl, F2, ar2, act2⟩
      have K2 := Kn.act ar2 act2
      have sa2 : SeesS h2 7 lv asks := sa.keep fun o ho => K2.q.2 o (sa.low hl0 o ho) id
      obtain ⟨lo3, off3, hlo3, hix3, hat3⟩ := sa2.at hx .i64
      have hld5 := hat3 4 _ rfl
      have r0 : binV .rem (.int .u64 (was : Int)) (.int .u64 2) = some (.int .u64 1) := by rw [hrem, hww]; rfl
      simp only [vms, vmc, AOpd.val, Nat.reduceEqDiff, reduceCtorEq, Nat.reduceAdd, Nat.reduceBEq, show (((0 : Nat) : Int) != 0) = false from rfl, f1, f12, hix3, fa, hld5, r0, show eqBV true (.bool false) (.bool ((1 : Int) == 0)) = some (.bool false) from rfl]
      refine hq _ h2 F2 st vg vd vv G D K2 (s.mono (by omega)) (by omega) ?_ ?_ ?_ ?_ ?_ ?_ ?_
      all_goals simp only [vms, vmc, AOpd.val, Nat.reduceEqDiff, reduceCtorEq, Nat.reduceAdd, Nat.reduceBEq, f1, f5, f7, f9, f10, f11, f12]
end Go.Proofs.Ytejjkienklaghaa
/- The law ArenaOnce: the whole. -/
namespace Go.Proofs.Ytejjkienklaghaa
open Go.Vm
set_option linter.unusedSimpArgs false
set_option linter.unusedVariables false
set_option maxRecDepth 100000
variable {T : Vm.Prog} {h : AH}
theorem set_ints4 {c : Nat} (hc : c < 5) : ([AV.int .i64 0, .int .i64 0, .int .i64 0, .int .i64 0, .int .i64 0].set c (.int .i64 4)) = ints ([0, 0, 0, 0, 0].set c 4) := by
  have : c = 0 ∨ c = 1 ∨ c = 2 ∨ c = 3 ∨ c = 4 := by omega
  rcases this with rfl | rfl | rfl | rfl | rfl <;> rfl
theorem four_sum {c : Nat} (hc : c < 5) : ([0, 0, 0, 0, 0].set c 4 : List Nat).length = 5 ∧ ([0, 0, 0, 0, 0].set c 4 : List Nat).sum = 4 ∧ ([0, 0, 0, 0, 0].set c 4 : List Nat)[c]? = some 4 ∧ ∀ d, d < 5 → d ≠ c → ([0, 0, 0, 0, 0].set c 4 : List Nat)[d]? = some 0 := by
  have : c = 0 ∨ c = 1 ∨ c = 2 ∨ c = 3 ∨ c = 4 := by omega
  rcases this with rfl | rfl | rfl | rfl | rfl <;> decide
theorem once_start {c : Nat} (hc : c < 5) {st : List SlotP} (n : NewP ([0, 0, 0, 0, 0].set c 4) st) : OnceS st c [] [] 0 := by
  obtain ⟨h1, h2, h3⟩ := n
  obtain ⟨_, s4, sc, so⟩ := four_sum hc
  rw [s4] at h2
  have hr : roomP st c = 4 := h3 c 4 sc
  have hro : ∀ d, d < 5 → d ≠ c → roomP st d = 0 := fun d hd hn => h3 d 0 (so d hd hn)
  have hall : ∀ x ∈ st, isFree c x = true := List.countP_eq_length.1 (by rw [h2]; exact hr)
  refine ⟨h2, fun s x hx => ?_, fun s g v hm => absurd hm (by simp), by simp, by simp [hr], ?_, fun s g hm => absurd hm (by simp), fun s g v hm => absurd hm (by simp)⟩
  · obtain ⟨g1, _, g3, _⟩ := h1 s x hx
    have hcl := (isFree_iff.1 (hall x (List.mem_of_getElem? hx))).1
    refine ⟨hcl, by omega, by omega, ?_⟩
    rw [g3, hcl]; simp [poisonP]
  · unfold liveP
    rw [h2]
    have hcs : c = 0 ∨ c = 1 ∨ c = 2 ∨ c = 3 ∨ c = 4 := by omega
    rcases hcs with rfl | rfl | rfl | rfl | rfl
    · rw [hr, hro 1 (by decide) (by decide), hro 2 (by decide) (by decide), hro 3 (by decide) (by decide), hro 4 (by decide) (by decide)]; rfl
    · rw [hr, hro 0 (by decide) (by decide), hro 2 (by decide) (by decide), hro 3 (by decide) (by decide), hro 4 (by decide) (by decide)]; rfl
    · rw [hr, hro 1 (by decide) (by decide), hro 0 (by decide) (by decide), hro 3 (by decide) (by decide), hro 4 (by decide) (by decide)]; rfl
    · rw [hr, hro 1 (by decide) (by decide), hro 2 (by decide) (by decide), hro 0 (by decide) (by decide), hro 4 (by decide) (by decide)]; rfl
    · rw [hr, hro 1 (by decide) (by decide), hro 2 (by decide) (by decide), hro 3 (by decide) (by decide), hro 0 (by decide) (by decide)]; rfl
theorem row_nil : Row1 h .nilSlice [] := .inl ⟨rfl, rfl⟩
theorem once_run (k : Fits T) {n : Int} {lv : AV} {asks : List (List AV)} (hl : Low h) (sa : SeesS h 7 lv asks) (hla : (asks.length : Int) < 9223372036854775808) (ax : ∀ x ∈ asks, AskX x) : Gives T 4 [.int .i64 n, lv] h fun r _ => r = .bool true := by
  refine gives_func (k.env _ (by decide)) (k.at (fn := a4) rfl) rfl ?_
  simp only [a4, c4, vms, vmc, AOpd.val, Nat.reduceEqDiff, reduceCtorEq, Nat.reduceAdd, Nat.reduceBEq]
  refine Gives.bind ((within_nat k (hi := 4) (by decide)).mono ?_)
  rintro _ _ ⟨c, rfl, hc4, rfl⟩
  rename_i h
  have hc : c < 5 := by omega
  obtain ⟨s5, ssum, sc, _⟩ := four_sum hc
  have hz5 : (ints ([0, 0, 0, 0, 0].set c 4)).length = 5 := by simp [ints]
  simp only [vms, vmc, AOpd.val, Nat.reduceEqDiff, reduceCtorEq, Nat.reduceAdd, Nat.reduceBEq, idxRow_nat hc, Nat.zero_add, store_int get_new_same (show c < [AV.int .i64 0, .int .i64 0, .int .i64 0, .int .i64 0, .int .i64 0].length from hc), set_ints4 hc, load_all get_set_same hz5]
  have lo1 := (hl.new (.cells [AV.int .i64 0, .int .i64 0, .int .i64 0, .int .i64 0, .int .i64 0] true)).set (o := h.next) (by rw [next_new]; omega) (.cells (ints ([0, 0, 0, 0, 0].set c 4)) true)
  have q1 : Quiet h ((h.new (.cells [AV.int .i64 0, .int .i64 0, .int .i64 0, .int .i64 0, .int .i64 0] true)).set h.next (.cells (ints ([0, 0, 0, 0, 0].set c 4)) true)) := ((Quiet.refl h).new _).set (Nat.le_refl _) _
  generalize ((h.new (.cells [AV.int .i64 0, .int .i64 0, .int .i64 0, .int .i64 0, .int .i64 0] true)).set h.next (.cells (ints ([0, 0, 0, 0, 0].set c 4)) true)) = h1 at lo1 q1
  refine Gives.bind ((ar_new k lo1 s5 (by omega)).mono ?_)
  rintro _ h2 ⟨a, st, F, rfl, ar, np, q2, hF, lo2⟩
  simp only [vms, vmc, AOpd.val, Nat.reduceEqDiff, reduceCtorEq, Nat.reduceAdd, Nat.reduceBEq, show eqNilV 0 (.ptr a 0) .nilPtr = some false from rfl, show ((0 : Int) != 0) = false from rfl]
  have K : OnceK h h2 a F st .nilSlice .nilSlice .nilSlice (gC c []) (dC c []) (vC []) := ⟨ar, lo2, q1.trans q2, fun o ho => Nat.le_trans q1.1 (hF o ho), row_nil, row_nil, row_nil, fun o ho => absurd ho (by simp [objs]), fun o ho => absurd ho (by simp [objs]), fun o ho => absurd ho (by simp [objs])⟩
  have lla : lenOfV lv = some asks.length := sa.len
  refine wpc_loop (fun d f' g => ∃ i F st vg vd vv G D, d = 60 - i ∧ i ≤ 60 ∧ OnceK h g a F st vg vd vv (gC c G) (dC c D) (vC G) ∧ OnceS st c G D i ∧ D.length ≤ i ∧ f'.at 1 = lv ∧ f'.at 5 = .int .i64 (c : Int) ∧ f'.at 7 = .ptr a 0 ∧ f'.at 9 = vg ∧ f'.at 10 = vd ∧ f'.at 11 = vv ∧ f'.at 12 = .int .i64 (i : Nat)) ?_ 60 _ _
    ⟨0, F, st, .nilSlice, .nilSlice, .nilSlice, [], [], rfl, by omega, K, once_start hc np, by simp, ?_⟩
  · rintro d f' g ⟨i, F, st, vg, vd, vv, G, D, rfl, hi, K, s, hD, f1, f5, f7, f9, f10, f11, f12⟩
    rw [c4l3_parts]
    by_cases h1 : i < asks.length
    · have d1 : decide ((i : Int) < (asks.length : Int)) = true := by rw [decide_eq_true_eq]; omega
      by_cases h2 : i < 60
      · have d2 : decide ((i : Int) < 60) = true := by rw [decide_eq_true_eq]; omega
        obtain ⟨x, hx⟩ : ∃ x, asks[i]? = some x := ⟨_, List.getElem?_eq_getElem h1⟩
        simp only [c4q, c4l3, vms, vmc, AOpd.val, Nat.reduceEqDiff, reduceCtorEq, Nat.reduceAdd, Nat.reduceBEq, f1, f12, lla, d1, d2]
        refine once_switch k sa hl hx (ax x (List.mem_of_getElem? hx)) K s hc h2 hD ?_ ?_ ?_ ?_ ?_ ?_ ?_ ?_
        iterate 7 (· simp only [vms, vmc, AOpd.val, Nat.reduceEqDiff, reduceCtorEq, Nat.reduceAdd, Nat.reduceBEq, f1, f5, f7, f9, f10, f11, f12])
        intro f2 g2 F2 st2 vg2 vd2 vv2 G2 D2 K2 s2 hD2 e1 e5 e7 e9 e10 e11 e12
        simp only [vms, vmc, AOpd.val, Nat.reduceEqDiff, reduceCtorEq, Nat.reduceAdd, Nat.reduceBEq]
        refine once_tail k K2 s2 hc (by omega) (by omega) e5 e7 e9 e10 e11 ?_
        intro f3 g3 F3 K3 ft3
        have t1 := (ft3 1 (by omega)).trans e1
        have t5 := (ft3 5 (by omega)).trans e5
        have t7 := (ft3 7 (by omega)).trans e7
        have t9 := (ft3 9 (by omega)).trans e9
        have t10 := (ft3 10 (by omega)).trans e10
        have t11 := (ft3 11 (by omega)).trans e11
        have t12 := (ft3 12 (by omega)).trans e12
        have w1 : IntKind.i64.wrap ((i : Int) + 1) = ((i + 1 : Nat) : Int) := by rw [wrap_i64 (by omega) (by omega)]; omega
        simp only [c4n, c4l3, vms, vmc, AOpd.val, Nat.reduceEqDiff, reduceCtorEq, Nat.reduceAdd, Nat.reduceBEq, t12, w1]
        refine ⟨60 - (i + 1), by omega, i + 1, F3, st2, vg2, vd2, vv2, G2, D2, rfl, by omega, K3, s2, hD2, ?_⟩
        simp only [vms, vmc, AOpd.val, Nat.reduceEqDiff, reduceCtorEq, Nat.reduceAdd, Nat.reduceBEq, t1, t5, t7, t9, t10, t11]
        exact ⟨trivial, trivial, trivial, trivial, trivial, trivial, trivial⟩
      · have d2 : decide ((i : Int) < 60) = false := by rw [decide_eq_false_iff_not]; omega
        simp only [c4q, c4l3, vms, vmc, AOpd.val, Nat.reduceEqDiff, reduceCtorEq, Nat.reduceAdd, Nat.reduceBEq, f1, f12, lla, d1, d2]
        refine Gives.bind ((k.yes _).mono ?_)
        rintro _ _ ⟨rfl, rfl⟩
        simp only [vms, vmc, AOpd.val, Nat.reduceEqDiff, reduceCtorEq, Nat.reduceAdd, Nat.reduceBEq]
    · have d1 : decide ((i : Int) < (asks.length : Int)) = false := by rw [decide_eq_false_iff_not]; omega
      simp only [c4q, c4l3, vms, vmc, AOpd.val, Nat.reduceEqDiff, reduceCtorEq, Nat.reduceAdd, Nat.reduceBEq, f1, f12, lla, d1]
      refine Gives.bind ((k.yes _).mono ?_)
      rintro _ _ ⟨rfl, rfl⟩
      simp only [vms, vmc, AOpd.val, Nat.reduceEqDiff, reduceCtorEq, Nat.reduceAdd, Nat.reduceBEq]
  · simp only [vms, vmc, AOpd.val, Nat.reduceEqDiff, reduceCtorEq, Nat.reduceAdd, Nat.reduceBEq]
    exact ⟨trivial, trivial, trivial, trivial, trivial, trivial, rfl⟩
theorem u64_in {x : Int} (w : (Lit.int .u64 x).wf = true) : ∃ n : Nat, x = n ∧ n < 18446744073709551616 := by
  have h : 0 ≤ x ∧ x ≤ 18446744073709551615 := by simpa [Lit.wf, IntKind.min, IntKind.max, IntKind.signed, IntKind.bits] using w
  exact ⟨x.toNat, by omega, by omega⟩
theorem u8_in {x : Int} (w : (Lit.int .u8 x).wf = true) : ∃ n : Nat, x = n ∧ n < 256 := by
  have h : 0 ≤ x ∧ x ≤ 255 := by simpa [Lit.wf, IntKind.min, IntKind.max, IntKind.signed, IntKind.bits] using w
  exact ⟨x.toNat, by omega, by omega⟩
/-- What nodes are made of, as it came in. -/
theorem ask_in {P : Program} {cs : List AV} (c : CellsAre P h [.int .i64, .int .i64, .int .i64, .int .i64, .int .u64, .bool, .bad] cs) : AskX cs := by
  obtain ⟨b1, r1, rfl, ⟨kd, rfl, _⟩, c1⟩ := c.cons_inv
  obtain ⟨b2, r2, rfl, _, c2⟩ := c1.cons_inv
  obtain ⟨b3, r3, rfl, _, c3⟩ := c2.cons_inv
  obtain ⟨b4, r4, rfl, ⟨ref, rfl, _⟩, c4⟩ := c3.cons_inv
  obtain ⟨b5, r5, rfl, ⟨was, rfl, hw⟩, c5⟩ := c4.cons_inv
  obtain ⟨b6, r6, rfl, _, c6⟩ := c5.cons_inv
  obtain ⟨b7, r7, rfl, _, c7⟩ := c6.cons_inv
  cases c7.nil_inv
  obtain ⟨w, rfl, hw'⟩ := u64_in hw
  exact ⟨kd, b2, b3, ref, w, b6, b7, rfl, hw'⟩
end Go.Proofs.Ytejjkienklaghaa

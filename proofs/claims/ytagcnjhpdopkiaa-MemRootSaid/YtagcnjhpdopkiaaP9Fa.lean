/- Slots that are taken and given back: the plain law behind MemFrees and TickWaits. -/
import Derived.Test.YtagcnjhpdopkiaaP9Mg
namespace Go.Proofs.Ytagcnjhpdopkiaa
open Go.Vm
set_option linter.unusedSimpArgs false
set_option linter.unusedVariables false
theorem live_turn {st : List SlotP} {i m : Nat} {y z : SlotP} (hm : m < 5) (hy : st[i]? = some y) (cy : y.cls = m) (cz : z.cls = m) : liveP (st.set i z) = liveP st + (roomP st m : Int) - (roomP (st.set i z) m : Int) := by
  have oth : ∀ c, c ≠ m → roomP (st.set i z) c = roomP st c := fun c hc => room_set (by
      cases hf : isFree c z with
      | false => rfl
      | true => have := (isFree_iff.1 hf).1; omega) fun y' hy' => by
      rw [hy] at hy'; cases hy'
      cases hf : isFree c y with
      | false => rfl
      | true => have := (isFree_iff.1 hf).1; omega
  unfold liveP
  rw [List.length_set]
  have hcs : m = 0 ∨ m = 1 ∨ m = 2 ∨ m = 3 ∨ m = 4 := by omega
  rcases hcs with rfl | rfl | rfl | rfl | rfl
  · rw [oth 1 (by decide), oth 2 (by decide), oth 3 (by decide), oth 4 (by decide)]; omega
  · rw [oth 0 (by decide), oth 2 (by decide), oth 3 (by decide), oth 4 (by decide)]; omega
  · rw [oth 0 (by decide), oth 1 (by decide), oth 3 (by decide), oth 4 (by decide)]; omega
  · rw [oth 0 (by decide), oth 1 (by decide), oth 2 (by decide), oth 4 (by decide)]; omega
  · rw [oth 0 (by decide), oth 1 (by decide), oth 2 (by decide), oth 3 (by decide)]; omega
theorem live_bound {st : List SlotP} (hs : st.length ≤ 1024) : -8000 ≤ liveP st ∧ liveP st ≤ 1024 := by
  have h : ∀ c, roomP st c ≤ st.length := fun c => List.countP_le_length
  have h0 := h 0
  have h1 := h 1
  have h2 := h 2
  have h3 := h 3
  have h4 := h 4
  unfold liveP
  omega
theorem room_take {st : List SlotP} {i m : Nat} {y z : SlotP} (hy : st[i]? = some y) (fy : isFree m y = true) (fz : isFree m z = false) : roomP (st.set i z) m + 1 = roomP st m := by
  have hi := (List.getElem?_eq_some_iff.1 hy).1
  have e : st[i] = y := (List.getElem?_eq_some_iff.1 hy).2
  unfold roomP
  have hp : 0 < st.countP (isFree m) := List.countP_pos_iff.2 ⟨y, List.mem_of_getElem? hy, fy⟩
  rw [List.countP_set hi, e, fy, fz]
  simp; omega
theorem room_give {st : List SlotP} {i m : Nat} {y z : SlotP} (hy : st[i]? = some y) (fy : isFree m y = false) (fz : isFree m z = true) : roomP (st.set i z) m = roomP st m + 1 := by
  have hi := (List.getElem?_eq_some_iff.1 hy).1
  have e : st[i] = y := (List.getElem?_eq_some_iff.1 hy).2
  unfold roomP
  rw [List.countP_set hi, e, fy, fz]
  simp
/-- Slots of a class that were taken and, some of them, given back. -/
structure FrS (st : List SlotP) (m : Nat) (J D : List Nat) (room0 : Nat) (live0 : Int) (nr : Nat) : Prop where
  small : st.length ≤ 1024
  live : ∀ j ∈ J, ∃ x, st[j]? = some x ∧ x.cls = m ∧ x.gen = 1 ∧ x.live = true
  dead : ∀ j ∈ D, ∃ x, st[j]? = some x ∧ x.cls = m ∧ x.gen = 2 ∧ x.live = false
  nd : J.Nodup
  fresh : ∀ (j : Nat) (x : SlotP), D = [] → st[j]? = some x → isFree m x = true → x.gen = 1
  room : roomP st m + J.length = room0
  liveN : liveP st = live0 + (J.length : Int)
  root : ∃ x, st[nr]? = some x ∧ x.cls = 4
variable {st : List SlotP} {m : Nat} {J D : List Nat} {room0 : Nat} {live0 : Int} {nr : Nat}
theorem FrS.alloc (s : FrS st m J [] room0 live0 nr) (hm : m < 4) (hr : J.length < room0) : ∃ i st', allocI st (m : Int) [] = (((refN i 1 (m == 0) : Nat) : Int), 0, st') ∧ FrS st' m (J ++ [i]) [] room0 live0 nr ∧ i < 1024 ∧ i ≠ nr := by
  obtain ⟨i, y, hy, hf, ha⟩ := alloc_room (st := st) (m := m) (ws := []) (by omega) (by have := s.room; omega) (Nat.zero_le _)
  have hi := (List.getElem?_eq_some_iff.1 hy).1
  have hg := s.fresh i y rfl hy hf
  obtain ⟨c1, c2, c3⟩ := isFree_iff.1 hf
  rw [hg] at ha
  have hfz : isFree m ⟨m, 1, true, padW [] (sizeN m)⟩ = false := by simp [isFree]
  have hr' := room_take hy hf hfz
  have hl' := live_turn (by omega) hy c1 (z := ⟨m, 1, true, padW [] (sizeN m)⟩) rfl
  have hnot : ∀ j ∈ J, j ≠ i := fun j hj e => by
    obtain ⟨x, hx, _, _, hl⟩ := s.live j hj
    subst e; rw [hy] at hx; cases hx; rw [c2] at hl; cases hl
  have hroot : i ≠ nr := fun e => by
    obtain ⟨x, hx, hc⟩ := s.root
    rw [← e, hy] at hx; cases hx; omega
  have := s.small
  refine ⟨i, _, ha, ⟨by simpa using s.small, fun j hj => ?_, fun j hj => by simp at hj, ?_, fun j x _ hx hfx => ?_, ?_, ?_, ?_⟩, by omega, hroot⟩
  · rcases List.mem_append.1 hj with h1 | h1
    · obtain ⟨x, hx, hc⟩ := s.live j h1
      exact ⟨x, by rw [List.getElem?_set, if_neg (Ne.symm (hnot j h1))]; exact hx, hc⟩
    · simp at h1; subst h1
      exact ⟨_, by rw [List.getElem?_set, if_pos rfl, if_pos hi], rfl, rfl, rfl⟩
  · rw [List.nodup_append]
    exact ⟨s.nd, by simp, fun a ha' b hb => by simp at hb; subst hb; exact hnot a ha'⟩
  · rw [List.getElem?_set] at hx
    by_cases e : i = j
    · rw [if_pos e, if_pos hi] at hx; cases hx; exact absurd hfx (by rw [hfz]; decide)
    · rw [if_neg e] at hx; exact s.fresh j x rfl hx hfx
  · have := s.room; simp; omega
  · have := s.liveN; simp; omega
  · obtain ⟨x, hx, hc⟩ := s.root
    exact ⟨x, by rw [List.getElem?_set, if_neg hroot]; exact hx, hc⟩
theorem find_live {j : Nat} {x : SlotP} (hs : st.length ≤ 1024) (hx : st[j]? = some x) (hc : x.cls = m) (hg : x.gen = 1) (hl : x.live = true) : findP st (refN j 1 (m == 0) : Nat) = .ok j := by
  have hj := (List.getElem?_eq_some_iff.1 hx).1
  rw [findP_ref ⟨by omega, by omega, by omega⟩]
  unfold outP
  simp [hx, hc, hg, hl]
theorem FrS.free {j : Nat} (s : FrS st m (j :: J) D room0 live0 nr) (hm : m < 4) : ∃ st', freeP st (refN j 1 (m == 0) : Nat) = (0, st') ∧ FrS st' m J (D ++ [j]) room0 live0 nr := by
  obtain ⟨x, hx, hc, hg, hl⟩ := s.live j (by simp)
  have hj := (List.getElem?_eq_some_iff.1 hx).1
  have hff : freeP st (refN j 1 (m == 0) : Nat) = (0, st.set j ⟨m, 2, false, poisonP m⟩) := by
    unfold freeP
    rw [find_live s.small hx hc hg hl]
    simp only [hx, hc, hg]
  have hfx : isFree m x = false := by simp [isFree, hl]
  have hfz : isFree m ⟨m, 2, false, poisonP m⟩ = true := isFree_iff.2 ⟨rfl, rfl, show (2 : Nat) ≤ 1073741824 by decide⟩
  have hr' := room_give hx hfx hfz
  have hl' := live_turn (by omega) hx hc (z := ⟨m, 2, false, poisonP m⟩) rfl
  have hnd := List.nodup_cons.1 s.nd
  have hroot : j ≠ nr := fun e => by
    obtain ⟨y, hy, hc'⟩ := s.root
    rw [← e, hx] at hy; cases hy; omega
  refine ⟨_, hff, ⟨by simpa using s.small, fun i hi => ?_, fun i hi => ?_, hnd.2, fun i y h => by simp at h, ?_, ?_, ?_⟩⟩
  · obtain ⟨y, hy, hr⟩ := s.live i (by simp [hi])
    exact ⟨y, by rw [List.getElem?_set, if_neg (fun e : j = i => hnd.1 (by rw [e]; exact hi))]; exact hy, hr⟩
  · rcases List.mem_append.1 hi with h1 | h1
    · obtain ⟨y, hy, h2, h3, h4⟩ := s.dead i h1
      exact ⟨y, by rw [List.getElem?_set, if_neg (fun e : j = i => by subst e; rw [hx] at hy; cases hy; omega)]; exact hy, h2, h3, h4⟩
    · simp at h1; subst h1
      exact ⟨_, by rw [List.getElem?_set, if_pos rfl, if_pos hj], rfl, rfl, rfl⟩
  · have := s.room; simp at this; omega
  · have := s.liveN; simp at this; omega
  · obtain ⟨y, hy, hc'⟩ := s.root
    exact ⟨y, by rw [List.getElem?_set, if_neg hroot]; exact hy, hc'⟩
theorem FrS.gone {j : Nat} (s : FrS st m J D room0 live0 nr) (hj : j ∈ D) : loadP st (refN j 1 (m == 0) : Nat) = (4, []) := by
  obtain ⟨x, hx, hc, hg, hl⟩ := s.dead j hj
  have := (List.getElem?_eq_some_iff.1 hx).1
  have := s.small
  unfold loadP
  rw [findP_ref ⟨by omega, by omega, by omega⟩]
  unfold outP
  simp [hx, hc, hg]
/-- What clients share, behind such calls of the first one. -/
structure FrM (M : MemP) (m : Nat) (J L D : List Nat) (t : Int) (room0 : Nat) (live0 : Int) (nr : Nat) : Prop where
  ar : FrS M.ar m J D room0 live0 nr
  cl : ∃ x, M.ep.cl 0 = some x ∧ x.limbo = L.map fun j => (((refN j 1 (m == 0) : Nat) : Int), (0 : Int))
  now : M.ep.now = t
  room : 8 ≤ M.ep.room
  len : 1 ≤ M.ep.cls.length
  root : M.root = (refN nr 1 false : Nat)
  nr : nr < 1024
variable {M : MemP} {L : List Nat} {t : Int}
theorem StartP.fr {c : CfgP} {n : Nat} {x : SlotP} (s : StartP c M st n x) (hc : CfgOk c) (hm : m < 4) : ∃ room0 live0, FrM M m [] [] [] 0 room0 live0 n ∧ 4 ≤ room0 ∧ roomP M.ar m = room0 ∧ liveP M.ar = live0 := by
  obtain ⟨har, hn, hcx, hs⟩ := s.ar
  obtain ⟨rk, hrk, hrk4⟩ := hc.roomy hm
  have hlen : M.ep.cls.length = c.clients := by rw [s.is]; simp [newEp]
  have hcl := hc.clients
  have h4 : 4 ≤ roomP M.ar m := by rw [s.room hm, s.new.2.2 m rk hrk]; exact hrk4
  refine ⟨roomP M.ar m, liveP M.ar, ⟨⟨by rw [har]; simpa using hs, fun j hj => by simp at hj, fun j hj => by simp at hj, List.nodup_nil, fun j y _ hy hf => ?_, by simp, by simp, ⟨⟨4, 1, true, rootW⟩, by rw [har, List.getElem?_set, if_pos rfl, if_pos hn], rfl⟩⟩, ⟨⟨-1, []⟩, ?_, rfl⟩, ?_, ?_, by omega, ?_, by omega⟩, h4, rfl, rfl⟩
  · rw [har, List.getElem?_set] at hy
    by_cases e : n = j
    · rw [if_pos e, if_pos hn] at hy; cases hy; rfl
    · rw [if_neg e] at hy; exact (s.new.1 j y hy).1
  · rw [s.is]
    simp only [newEp, EpP.cl]
    simp only [if_pos (show (0 : Int) ≤ 0 by decide), show (0 : Int).toNat = 0 from rfl, List.getElem?_replicate]
    rw [if_pos (by omega)]
  · rw [s.is]; rfl
  · rw [s.is]; exact hc.limbo.1
  · rw [s.is]
theorem cl0_set {ep : EpP} {x : ClP} (hl : 1 ≤ ep.cls.length) : (ep.setCl 0 x).cl 0 = some x := by
  simp only [EpP.cl, EpP.setCl, if_pos (show (0 : Int) ≤ 0 by decide), show (0 : Int).toNat = 0 from rfl, List.getElem?_set, if_true]
  rw [if_pos (by omega)]
theorem FrM.alloc (s : FrM M m J L [] t room0 live0 nr) (hm : m < 4) (hr : J.length < room0) : ∃ i M', doP M 0 ⟨4, 0, m, 0, 0, []⟩ = (⟨0, ((refN i 1 (m == 0) : Nat) : Int), false, []⟩, M') ∧ FrM M' m (J ++ [i]) L [] t room0 live0 nr ∧ i < 1024 ∧ i ≠ nr := by
  obtain ⟨i, st', ha, s', hi, hn⟩ := s.ar.alloc hm hr
  refine ⟨i, { M with ar := st' }, ?_, ⟨s', s.cl, s.now, s.room, s.len, s.root, s.nr⟩, hi, hn⟩
  rw [doP_ar ⟨by decide, by have := s.len; omega⟩ (kind_in (x := 4) rfl (by decide))]
  simp [slotsP, ha]
theorem FrM.retire {i : Nat} (s : FrM M m J L D 0 room0 live0 nr) (hi : i < 1024) (hn : i ≠ nr) (hL : L.length < 8) : ∃ M', doP M 0 ⟨6, ((refN i 1 (m == 0) : Nat) : Int), 0, 0, 0, []⟩ = (⟨0, 0, false, []⟩, M') ∧ FrM M' m J (L ++ [i]) D 0 room0 live0 nr := by
  obtain ⟨x, hx, hxl⟩ := s.cl
  have hv : Valid i 1 := ⟨by omega, by omega, by omega⟩
  have hne : ((refN i 1 (m == 0) : Nat) : Int) ≠ M.root := by
    rw [s.root]
    intro e
    have := refN_inj hv ⟨s.nr, by omega, by omega⟩ (Int.ofNat.inj e)
    exact hn this.1
  have hr := s.room
  refine ⟨{ M with ep := M.ep.setCl 0 { x with limbo := x.limbo ++ [(((refN i 1 (m == 0) : Nat) : Int), M.ep.now)] } }, ?_, ⟨s.ar, ⟨_, cl0_set s.len, ?_⟩, s.now, s.room, by show 1 ≤ (EpP.setCl _ _ _).cls.length; rw [setCl_len]; exact s.len, s.root, s.nr⟩⟩
  · rw [doP_6 ⟨by decide, by have := s.len; omega⟩ rfl, if_neg hne]
    unfold retireE
    simp only [hx]
    rw [if_neg (by rw [Classical.not_not]; exact ⟨i, 1, _, hv, rfl⟩), if_neg (by rw [hxl, List.length_map]; omega)]
  · simp only [hxl, s.now, List.map_append, List.map_cons, List.map_nil]
theorem FrM.adv (s : FrM M m J L D t room0 live0 nr) (ht : t < 1000) : ∃ M', doP M 0 (nA 11 M.ep.now) = (⟨0, 0, true, []⟩, M') ∧ FrM M' m J L D (t + 1) room0 live0 nr := by
  refine ⟨{ M with ep := { M.ep with now := M.ep.now + 1 } }, do_adv (c := 0) s.len (by have := s.now; omega), ⟨s.ar, s.cl, ?_, s.room, s.len, s.root, s.nr⟩⟩
  show M.ep.now + 1 = t + 1
  rw [s.now]
theorem FrM.keep (s : FrM M m J L D t room0 live0 nr) (ht : L = [] ∨ t < 2) : doP M 0 (kA 12) = (⟨0, 0, false, []⟩, M) := by
  obtain ⟨x, hx, hxl⟩ := s.cl
  have hE : collectE M.ep 0 = (0, false, M.ep) := by
    unfold collectE
    simp only [hx, hxl]
    rcases ht with rfl | ht
    · rfl
    · cases L with
      | nil => rfl
      | cons j r =>
        simp only [List.map_cons]
        rw [if_pos (by have := s.now; omega)]
  rw [doP_12 ⟨by decide, by have := s.len; omega⟩ rfl]
  unfold collectP
  rw [hE, if_pos rfl]
theorem FrM.collect {j : Nat} (s : FrM M m (j :: J) (j :: L) D t room0 live0 nr) (hm : m < 4) (ht : 2 ≤ t) : ∃ M', doP M 0 (kA 12) = (⟨0, ((refN j 1 (m == 0) : Nat) : Int), true, []⟩, M') ∧ FrM M' m J L (D ++ [j]) t room0 live0 nr := by
  obtain ⟨x, hx, hxl⟩ := s.cl
  obtain ⟨st', hf, s'⟩ := s.ar.free hm
  have hE : collectE M.ep 0 = (((refN j 1 (m == 0) : Nat) : Int), true, M.ep.setCl 0 { x with limbo := L.map fun j => (((refN j 1 (m == 0) : Nat) : Int), (0 : Int)) }) := by
    unfold collectE
    simp only [hx, hxl, List.map_cons]
    rw [if_neg (by have := s.now; omega)]
  refine ⟨{ M with ep := M.ep.setCl 0 { x with limbo := L.map fun j => (((refN j 1 (m == 0) : Nat) : Int), (0 : Int)) }, ar := st' }, ?_, ⟨s', ⟨_, cl0_set s.len, rfl⟩, s.now, s.room, by show 1 ≤ (EpP.setCl _ _ _).cls.length; rw [setCl_len]; exact s.len, s.root, s.nr⟩⟩
  rw [doP_12 ⟨by decide, by have := s.len; omega⟩ rfl]
  unfold collectP
  rw [hE]
  simp only [hf]
  rfl
theorem FrM.gone {j : Nat} (s : FrM M m J L D t room0 live0 nr) (hj : j ∈ D) : doP M 0 ⟨1, ((refN j 1 (m == 0) : Nat) : Int), 0, 0, 0, []⟩ = (⟨4, 0, false, []⟩, M) := by
  rw [doP_ar ⟨by decide, by have := s.len; omega⟩ (kind_in (x := 1) rfl (by decide))]
  simp [slotsP, s.ar.gone hj]
end Go.Proofs.Ytagcnjhpdopkiaa

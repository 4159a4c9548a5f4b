/- The law ArenaLeast on the machine: what stands beside an arena. -/
import Derived.Test.YtejjkienklaghaaP4Z
import Derived.Test.YtejjkienklaghaaP4M
namespace Go.Proofs.Ytejjkienklaghaa
open Go.Vm
set_option linter.unusedSimpArgs false
set_option linter.unusedVariables false
variable {T : Vm.Prog} {h : AH}
/-- An object that is none of an arena's. -/
def Out (a : Nat) (sv : AV) (S : List Slot) (Q : List PR) (o : Nat) : Prop := o ≠ a ∧ o ∉ objs sv ∧ (∀ q ∈ Q, o ∉ q.foot) ∧ ∀ s ∈ S, o ∉ objs s.wv
theorem Arena.off {h' : AH} {a : Nat} {sv : AV} {S : List Slot} {Q : List PR} (A : Arena h a sv S Q) (hl : Low h) {F : List Nat} (on : Only h h' F) (hF : ∀ o ∈ F, o < h.next → Out a sv S Q o) : Arena h' a sv S Q := by
  obtain ⟨l1, l2, l3, l4⟩ := A.low hl
  exact A.keep (on.2 a l1 fun e => (hF a e l1).1 rfl) (fun o ho => on.2 o (l2 o ho) fun e => (hF o e (l2 o ho)).2.1 ho) (fun q hq o ho => on.2 o (l3 q hq o ho) fun e => (hF o e (l3 q hq o ho)).2.2.1 q hq ho) (fun s hs o ho => on.2 o (l4 s hs o ho) fun e => (hF o e (l4 s hs o ho)).2.2.2 s hs ho)
theorem out_new {a : Nat} {sv : AV} {S : List Slot} {Q : List PR} (A : Arena h a sv S Q) (hl : Low h) {o : Nat} (ho : h.next ≤ o) : Out a sv S Q o := by
  obtain ⟨l1, l2, l3, l4⟩ := A.low hl
  exact ⟨by omega, fun e => by have := l2 o e; omega, fun q hq e => by have := l3 q hq o e; omega, fun s hs e => by have := l4 s hs o e; omega⟩
theorem Out.set {a : Nat} {sv : AV} {S : List Slot} {Q : List PR} {o n c : Nat} {x : Slot} {q q' : PR} (u : Out a sv S Q o) (hlt : o < h.next) (hx : ∀ p ∈ objs x.wv, h.next ≤ p) (hq : Q[c]? = some q) (hf : ∀ p ∈ q'.foot, p ∈ q.foot ∨ h.next ≤ p) : Out a sv (S.set n x) (Q.set c q') o := by
  refine ⟨u.1, u.2.1, fun r hr => ?_, fun s hs => ?_⟩
  · rcases List.mem_or_eq_of_mem_set hr with h1 | rfl
    · exact u.2.2.1 r h1
    · intro e
      rcases hf o e with h2 | h2
      · exact u.2.2.1 q (List.mem_of_getElem? hq) h2
      · omega
  · rcases List.mem_or_eq_of_mem_set hs with h1 | rfl
    · exact u.2.2.2 s h1
    · intro e; have := hx o e; omega
/-- A row of numbers, its own. -/
theorem RowV.idx {v : AV} {L : List Int} (r : RowV h v L) {i : Nat} (hi : i < L.length) : ∃ o, objs v = [o] ∧ idxAddrV 1 v (.int .i64 (i : Int)) = some (.ptr o i) ∧ loadV h false 1 (.ptr o i) = some (.int .i64 (at0 L i)) ∧
    ∀ x : Int, ∃ h', storeV h 1 (.ptr o i) (.int .i64 x) = some h' ∧ Upd h h' o ∧ RowV h' v (L.set i x) := by
  rcases r with ⟨rfl, rfl⟩ | ⟨o, cap, rfl, arr⟩
  · simp at hi
  · refine ⟨o, rfl, by rw [idx_nat hi, Nat.zero_add], arr.load hi, fun x => ?_⟩
    obtain ⟨h', st, u, arr'⟩ := arr.store hi x
    exact ⟨h', st, u, .inr ⟨o, cap, by simp, arr'⟩⟩
theorem RowV.lowV {v : AV} {L : List Int} (r : RowV h v L) (hl : Low h) : ∀ o ∈ objs v, o < h.next := by
  rcases r with ⟨rfl, rfl⟩ | ⟨o, cap, rfl, l, hg, _⟩
  · intro o ho; simp [objs] at ho
  · intro p hp; simp [objs] at hp; subst hp; exact hl _ _ hg
/-- The slots of class 0, some live, some free. -/
structure Least (S : List Slot) (Q : List PR) (n : Nat) (G : Nat → Nat) (live : Nat → Bool) : Prop where
  len : S.length = n
  slot : ∀ (j : Nat) (x : Slot), S[j]? = some x → x.cls = 0 ∧ x.gen = G j ∧ x.live = live j
  pool : ∀ q, Q[0]? = some q → ∀ y : Int, y ∈ q.L ↔ ∃ j : Nat, y = j ∧ j < n ∧ live j = false
  rest : ∀ (c : Nat) (q : PR), Q[c]? = some q → 0 < c → q.L = []
theorem Least.start {ns : List Nat} {n : Nat} {S : List Slot} {Q : List PR} (hns : ns = [n, 0, 0, 0, 0]) (M : Made ns 5 0 S Q) (hQ : Q.length = 5) : Least S Q n (fun _ => 1) (fun _ => false) := by
  subst hns
  obtain ⟨m1, m2⟩ := M.all rfl hQ
  have hrest : ∀ (c : Nat) (q : PR), Q[c]? = some q → 0 < c → q.L = [] := by
    intro c q hq hc
    have hc5 : c < 5 := by have := (List.getElem?_eq_some_iff.1 hq).1; omega
    have : c = 1 ∨ c = 2 ∨ c = 3 ∨ c = 4 := by omega
    have h0 : q.L.length = 0 := by
      rcases this with rfl | rfl | rfl | rfl <;> exact M.room _ q 0 hq rfl (by omega)
    exact List.eq_nil_of_length_eq_zero h0
  have hcls : ∀ (j : Nat) (x : Slot), S[j]? = some x → x.cls = 0 := by
    intro j x hx
    obtain ⟨_, _, _, q, h1, h2⟩ := M.free.1 j x hx
    by_cases e : x.cls = 0
    · exact e
    · rw [hrest _ q h1 (by omega)] at h2; simp at h2
  refine ⟨by rw [m1]; simp, fun j x hx => ⟨hcls j x hx, (M.free.1 j x hx).1, (M.free.1 j x hx).2.1⟩, fun q hq y => ⟨fun hy => ?_, ?_⟩, hrest⟩
  · obtain ⟨j, x, e1, e2, _⟩ := M.free.2 0 q hq y hy
    refine ⟨j, e1, ?_, rfl⟩
    have := (List.getElem?_eq_some_iff.1 e2).1
    rw [m1] at this; simpa using this
  · rintro ⟨j, rfl, hj, _⟩
    obtain ⟨x, hx⟩ : ∃ x, S[j]? = some x := ⟨_, List.getElem?_eq_getElem (by rw [m1]; simpa using hj)⟩
    obtain ⟨_, _, _, q', h1, h2⟩ := M.free.1 j x hx
    rw [hcls j x hx, hq] at h1
    cases h1; exact h2
/-- The least free slot is taken. -/
theorem least_alloc (k : Fits T) {a n i : Nat} {sv : AV} {S : List Slot} {Q : List PR} {G : Nat → Nat} {live : Nat → Bool} (A : Arena h a sv S Q) (hl : Low h) (hQ : Q.length = 5) (E : Least S Q n G live) (hG : ∀ j, j < n → 1 ≤ G j ∧ G j ≤ 1073741824) (hn : n ≤ 1024) (hi : i < n) (hfree : live i = false) (hleast : ∀ j, j < i → live j = true) :
    Gives T 10 [.ptr a 0, .int .i64 0, .nilSlice] h fun r h' => r = .tuple [.int .i64 (refN i (G i) true : Nat), .int .i64 0] ∧ ∃ S' Q', Arena h' a sv S' Q' ∧ Q'.length = 5 ∧ Least S' Q' n G (fun j => if j = i then true else live j) ∧ Low h' ∧ (∀ o, o < h.next → Out a sv S Q o → Out a sv S' Q' o) ∧ ∃ F, Only h h' F ∧ ∀ o ∈ F, o < h.next → ¬ Out a sv S Q o := by
  obtain ⟨q, hq⟩ : ∃ q, Q[0]? = some q := ⟨_, List.getElem?_eq_getElem (by omega)⟩
  have hal := alloc_ok k A hl (show 0 < 5 by omega) hq (v := .nilSlice) (ws := []) (.inl ⟨rfl, rfl⟩) (fun o ho => by simp [objs] at ho) (fun o ho => by simp [objs] at ho) (Nat.zero_le _) (fun y hy => by
    obtain ⟨j, rfl, hj, hlv⟩ := (E.pool q hq y).1 hy
    obtain ⟨x, hx⟩ : ∃ x, S[j]? = some x := ⟨_, List.getElem?_eq_getElem (by rw [E.len]; exact hj)⟩
    obtain ⟨e1, e2, _⟩ := E.slot j x hx
    have := hG j hj
    exact ⟨j, x, rfl, hx, e1, by omega, by omega, by omega⟩)
  refine hal.mono ?_
  rintro r h' ⟨hall, on, lo⟩
  have hin : ((i : Nat) : Int) ∈ q.L := (E.pool q hq _).2 ⟨i, rfl, hi, hfree⟩
  rcases hall with ⟨hnil, _⟩ | ⟨m, x, L', q', w, hx, hperm, hmin, rfl, ⟨rp, rm, rL, rf⟩, A', hwf⟩
  · rw [hnil] at hin; simp at hin
  obtain ⟨j, hj1, hj2, hj3⟩ := (E.pool q hq _).1 (hperm.mem_iff.1 (by simp : ((m : Nat) : Int) ∈ ((m : Nat) : Int) :: L'))
  have hmj : m = j := Int.ofNat.inj hj1
  subst hmj
  have h1 := hmin _ hin
  have hmi : m = i := by
    by_cases e : m < i
    · have := hleast m e; rw [hj3] at this; cases this
    · omega
  subst hmi
  obtain ⟨e1, e2, e3⟩ := E.slot m x hx
  have hmS := (List.getElem?_eq_some_iff.1 hx).1
  have hnd : (((m : Nat) : Int) :: L').Nodup := hperm.nodup_iff.2 (A.pools q (List.mem_of_getElem? hq)).nodup
  refine ⟨by rw [e2]; rfl, _, _, A', by simpa using hQ, ⟨by simpa using E.len, ?_, ?_, ?_⟩, lo, ?_, _, on, ?_⟩
  · intro j y hy
    rw [List.getElem?_set] at hy
    by_cases e : m = j
    · subst e
      rw [if_pos rfl, if_pos hmS] at hy
      cases hy
      exact ⟨e1, e2, by simp⟩
    · rw [if_neg e] at hy
      have := E.slot j y hy
      rw [if_neg (Ne.symm e)]; exact this
  · intro t ht y
    rw [List.getElem?_set, if_pos rfl, if_pos (by omega)] at ht
    cases ht
    rw [rL]
    constructor
    · intro hy
      obtain ⟨j, rfl, g1, g2⟩ := (E.pool q hq y).1 (hperm.mem_iff.1 (List.mem_cons_of_mem _ hy))
      refine ⟨j, rfl, g1, ?_⟩
      rw [if_neg]
      · exact g2
      · intro e; subst e
        exact (List.nodup_cons.1 hnd).1 hy
    · rintro ⟨j, rfl, g1, g2⟩
      by_cases e : j = m
      · rw [if_pos e] at g2; cases g2
      · rw [if_neg e] at g2
        have := hperm.mem_iff.2 ((E.pool q hq _).2 ⟨j, rfl, g1, g2⟩)
        rcases List.mem_cons.1 this with h5 | h5
        · exact absurd (Int.ofNat.inj h5) e
        · exact h5
  · intro c t ht hc
    rw [List.getElem?_set, if_neg (by omega)] at ht
    exact E.rest c t ht hc
  · intro o ho hu
    exact hu.set (h := h) ho hwf hq rf
  · intro o ho hlt hu
    simp only [List.mem_append] at ho
    rcases ho with h5 | h5
    · exact hu.2.1 h5
    · exact hu.2.2.1 q (List.mem_of_getElem? hq) h5
end Go.Proofs.Ytejjkienklaghaa

/- Nodes that a law keeps; the law NodeTurns. -/
import Derived.Test.YtpabmkicdcilpaaP7NodeC
namespace Go.Proofs.Ytpabmkicdcilpaa
open Go.Vm
set_option linter.unusedSimpArgs false
set_option linter.unusedVariables false
set_option maxRecDepth 100000
variable {T : Vm.Prog} {h : AH}
/-- A node that lies at p. -/
structure Held (h : AH) (p : Nat) (kv iv : AV) (n : NodeP) : Prop where
  get : h.get p = some (.cells (n.cells kv iv) true)
  sk : Sees h kv (kcells n.keys)
  si : Sees h iv (icells n.kids)
  ck : capOk kv
  ci : capOk iv
theorem sees_low {v : AV} {xs : List AV} (s : Sees h v xs) (hl : Low h) : ∀ o ∈ objs v, o < h.next := by
  intro p hp
  rcases s with ⟨rfl, _⟩ | ⟨o, off, cap, ex, l, rw, rfl, hg, _⟩
  · simp [objs] at hp
  · simp [objs] at hp; subst hp; exact hl _ _ hg
theorem sees_get {h' : AH} {v : AV} {xs : List AV} (s : Sees h v xs) (hk : ∀ o ∈ objs v, h'.get o = h.get o) : Sees h' v xs := by
  rcases s with ⟨rfl, he⟩ | ⟨o, off, cap, ex, l, rw, rfl, hg, h1⟩
  · exact .inl ⟨rfl, he⟩
  · exact .inr ⟨o, off, cap, ex, l, rw, rfl, (hk o (by simp [objs])).trans hg, h1⟩
theorem Held.keep {h' : AH} {p : Nat} {kv iv : AV} {n : NodeP} (s : Held h p kv iv n) (hl : Low h) (q : Quiet h h') : Held h' p kv iv n :=
  ⟨q.get s.get (hl _ _ s.get), sees_keep s.sk hl q, sees_keep s.si hl q, s.ck, s.ci⟩
theorem Held.v {p : Nat} {kv iv : AV} {n : NodeP} (s : Held h p kv iv n) : NodeV h (.agg (n.cells kv iv)) n := ⟨kv, iv, rfl, s.sk, s.si⟩
theorem Held.load {p : Nat} {kv iv : AV} {n : NodeP} (s : Held h p kv iv n) : loadV h true 5 (.ptr p 0) = some (.agg (n.cells kv iv)) := load_all s.get rfl
theorem Held.kind {p : Nat} {kv iv : AV} {n : NodeP} (s : Held h p kv iv n) : loadV h false 1 (.ptr p 0) = some (.int .i64 n.kind) := load_at s.get rfl
theorem Held.word {p : Nat} {kv iv : AV} {n : NodeP} (s : Held h p kv iv n) : loadV h false 1 (.ptr p 1) = some (.int .u64 (n.word : Int)) := load_at s.get rfl
theorem Held.keys {p : Nat} {kv iv : AV} {n : NodeP} (s : Held h p kv iv n) : loadV h false 1 (.ptr p 3) = some kv := load_at s.get rfl
theorem Held.kids {p : Nat} {kv iv : AV} {n : NodeP} (s : Held h p kv iv n) : loadV h false 1 (.ptr p 4) = some iv := load_at s.get rfl
theorem Held.len {p : Nat} {kv iv : AV} {n : NodeP} (s : Held h p kv iv n) : lenOfV kv = some n.keys.length := by simpa [kcells] using s.sk.len
/-- Another object is written. -/
theorem Held.other {p q : Nat} {kv iv : AV} {n : NodeP} (s : Held h p kv iv n) (hq : p ≠ q) (h1 : q ∉ objs kv) (h2 : q ∉ objs iv) (x : AObj) : Held (h.set q x) p kv iv n :=
  ⟨by rw [AH.get_set, if_neg (Ne.symm hq)]; exact s.get, sees_get s.sk fun o ho => by rw [AH.get_set, if_neg (fun e : q = o => h1 (by rw [e]; exact ho))], sees_get s.si fun o ho => by rw [AH.get_set, if_neg (fun e : q = o => h2 (by rw [e]; exact ho))], s.ck, s.ci⟩
def zeroP : NodeP := ⟨0, 0, [], [], []⟩
theorem RightP.ok {n : NodeP} (r : RightP n) (hw : n.word < 18446744073709551616) : n.Ok := by
  have h1 := r.few
  have h2 := r.same
  have h3 := r.pre
  have hh : highP n.kind ≤ 256 := by unfold highP; (repeat' split) <;> omega
  exact ⟨hw, by omega, by omega, by omega⟩
theorem u64_in {x : Int} (w : (Lit.int .u64 x).wf = true) : ∃ n : Nat, x = n ∧ n < 18446744073709551616 := by
  have h : 0 ≤ x ∧ x ≤ 18446744073709551615 := by simpa [Lit.wf, IntKind.min, IntKind.max, IntKind.signed, IntKind.bits] using w
  exact ⟨x.toNat, by omega, by omega⟩
theorem u8_in {x : Int} (w : (Lit.int .u8 x).wf = true) : ∃ n : Nat, x = n ∧ n < 256 := by
  have h : 0 ≤ x ∧ x ≤ 255 := by simpa [Lit.wf, IntKind.min, IntKind.max, IntKind.signed, IntKind.bits] using w
  exact ⟨x.toNat, by omega, by omega⟩
/-- What nodes are made of, as it came in. -/
theorem kids_in {P : Program} {e : TypeId} {cs : List AV} (c : CellsAre P h [.int .i64, .int .u64, .str, .slice e, .int .i64] cs) :
    ∃ kd wd px v fr, cs = kidsCells kd wd px v fr ∧ wd < 18446744073709551616 ∧ px.length < 9223372036854775808 ∧ ∃ t, P.underlying t = some (.slice e) ∧ Came P h t [v] := by
  obtain ⟨b1, r1, rfl, ⟨kd, rfl, _⟩, c1⟩ := c.cons_inv
  obtain ⟨b2, r2, rfl, ⟨wd, rfl, hw⟩, c2⟩ := c1.cons_inv
  obtain ⟨b3, r3, rfl, ⟨px, rfl, hp⟩, c3⟩ := c2.cons_inv
  obtain ⟨b4, r4, rfl, ⟨t, ht, hc⟩, c4⟩ := c3.cons_inv
  obtain ⟨b5, r5, rfl, ⟨fr, rfl, _⟩, c5⟩ := c4.cons_inv
  cases c5.nil_inv
  obtain ⟨w, rfl, hw'⟩ := u64_in hw
  rw [maxLen_eq] at hp
  exact ⟨kd, w, px, b4, fr, rfl, hw', by omega, t, ht, hc⟩
theorem bytes_in {v : AV} {xs : List Int} (s : Sees h v (xs.map (.int .u8))) (hw : ∀ x ∈ xs, (Lit.int .u8 x).wf = true) : ∃ ks : List Nat, Sees h v (kcells ks) ∧ (∀ x ∈ ks, x < 256) ∧ ks.length = xs.length := by
  refine ⟨xs.map Int.toNat, ?_, fun x hx => ?_, by simp⟩
  · have e : kcells (xs.map Int.toNat) = xs.map (.int .u8) := by
      simp only [kcells, List.map_map]
      apply List.map_congr_left
      intro x hx
      obtain ⟨n, rfl, _⟩ := u8_in (hw x hx)
      rfl
    rw [e]; exact s
  · obtain ⟨y, hy, rfl⟩ := List.mem_map.1 hx
    obtain ⟨n, rfl, hn⟩ := u8_in (hw y hy)
    simpa using hn
end Go.Proofs.Ytpabmkicdcilpaa

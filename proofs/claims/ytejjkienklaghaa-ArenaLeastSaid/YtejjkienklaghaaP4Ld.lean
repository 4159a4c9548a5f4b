/- The law ArenaLeast: a row of numbers that came in. -/
import Derived.Test.YtejjkienklaghaaP4Lc
import Derived.Test.YtejjkienklaghaaVmZb
namespace Go.Proofs.Ytejjkienklaghaa
open Go.Vm
theorem low_came {h : AH} (k : Low h) {i : IntKind} {a : Option Addr} {zs : List Int} : Low (cameH h i a zs) := by
  unfold cameH
  split
  · exact k.new _
  · exact k
theorem came_ints {w : World} {a : Option Addr} {len cap : Nat} {zs : List Int} {h : AH} (hr : RowIn .i64 w a len cap zs) :
    Sees (cameH h .i64 a zs) (cameV h a len cap) ((zs.take len).map (.int .i64)) ∧ ∀ o ∈ objs (cameV h a len cap), ∃ l, (cameH h .i64 a zs).get o = some (.cells l false) := by
  rcases hr with ⟨rfl, rfl, rfl, rfl⟩ | ⟨x, C, t, fz, rfl, hs, h1, h2, hb, h3, h4, h5⟩
  · exact ⟨.inl ⟨rfl, rfl⟩, fun o ho => by simp [cameV, objs] at ho⟩
  · have hlen : ((zs.take len).map (AV.int .i64)).length = len := by simp; omega
    refine ⟨.inr ⟨h.next, 0, cap, true, zs.map (.int .i64), false, ?_, get_new_same, ?_, ?_⟩, fun o ho => ?_⟩
    · rw [hlen]; rfl
    · rw [hlen]; simp; omega
    · intro i y hy
      simp only [List.getElem?_map, List.getElem?_take, Nat.zero_add] at hy ⊢
      split at hy
      · exact hy
      · simp at hy
    · simp [cameV, objs] at ho
      subst ho
      exact ⟨_, get_new_same⟩
end Go.Proofs.Ytejjkienklaghaa

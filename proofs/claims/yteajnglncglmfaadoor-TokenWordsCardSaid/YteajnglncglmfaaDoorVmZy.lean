/- Ranges over functions, in steps. -/
import Derived.Test.YteajnglncglmfaaDoorVmZx
import Derived.Test.YteajnglncglmfaaDoorVmS
namespace Go.Vm
set_option linter.unusedSimpArgs false
set_option linter.unusedVariables false
variable {T : Prog} {it : ItH} {cd : ACode → Fr → AH → Out} {f : Fr} {h : AH}
theorem wr_base {c : ACode} {Q : AExit → Fr → AH → Prop} : Wp (rcode it cd (.base c) f h) Q ↔ Wp (cd c f h) Q := Iff.rfl
theorem wr_seq {a b : RCode} {Q : AExit → Fr → AH → Prop} (hw : Wp (rcode it cd a f h) (Then (fun f h => Wp (rcode it cd b f h) Q) Q)) : Wp (rcode it cd (.seq a b) f h) Q := by
  obtain ⟨e, f', h', hr, hq⟩ := hw
  cases e with
  | normal =>
    obtain ⟨e2, f2, h2, hr2, hq2⟩ := hq
    exact ⟨e2, f2, h2, by simp only [rcode, hr, hr2], hq2⟩
  | exit i => exact ⟨.exit i, f', h', by simp only [rcode, hr], hq⟩
  | ret => exact ⟨.ret, f', h', by simp only [rcode, hr], hq⟩
theorem wr_block {id : Nat} {c : RCode} {Q : AExit → Fr → AH → Prop} (hw : Wp (rcode it cd c f h) (InBlock id Q)) : Wp (rcode it cd (.block id c) f h) Q := by
  obtain ⟨e, f', h', hr, hq⟩ := hw
  cases e with
  | normal => exact ⟨.normal, f', h', by simp only [rcode, hr], hq⟩
  | ret => exact ⟨.ret, f', h', by simp only [rcode, hr], hq⟩
  | exit i =>
    simp only [InBlock] at hq
    by_cases e : i = id
    · rw [if_pos e] at hq; exact ⟨.normal, f', h', by simp only [rcode, hr, if_pos e], hq⟩
    · rw [if_neg e] at hq; exact ⟨.exit i, f', h', by simp only [rcode, hr, if_neg e], hq⟩
theorem wr_range {g : AOpd} {ps : List Nat} {a b : ACode} {gf : Nat} {caps : List AV} {Q : AExit → Fr → AH → Prop} (hg : g.val f = .func (.func gf) [] caps) (he : T.env gf = none) (hlow : gf < YB)
    (hr : Gives (withY T (h.next + 1) (yRun (code T) f ps a b)) gf (.func (.func (YB + (h.next + 1))) [] [] :: caps) ((h.new .dead).new .dead) fun _ h' => Q .normal f h') : Wp (rcode (itL T) (code T) (.range g ps a b) f h) Q := by
  obtain ⟨r, h', hr, hq⟩ := hr
  refine ⟨.normal, f, h', ?_, hq⟩
  simp only [rcode, rangeRun, hg, itL, he, if_pos hlow, hr, Option.map_some]
theorem rL_gives {T' : Prog} {fn : RFunc} {g : Nat} {args : List AV} {Q : AV → AH → Prop} (he : T'.env g = some (rL T fn)) (hl : args.length = fn.nargs) (hw : Wp (rcode (itL T) (code T) fn.body (Fr.ofArgs 0 args .nil) h) (Ends fn.results Q)) : Gives T' g args h Q := by
  obtain ⟨e, f, h', hc, hx⟩ := hw
  cases e with
  | normal =>
    obtain ⟨l, hl', hq⟩ := hx
    exact ⟨tupleV l, h', by rw [run_env he]; simp only [rL, RFunc.run, if_pos hl, hc, hl', Option.map_some], hq⟩
  | ret =>
    obtain ⟨l, hl', hq⟩ := hx
    exact ⟨tupleV l, h', by rw [run_env he]; simp only [rL, RFunc.run, if_pos hl, hc, hl', Option.map_some], hq⟩
  | exit i => exact hx.elim
/-- A call of yield: the assignments, the body. -/
theorem yield_gives {o : Nat} {f0 : Fr} {ps : List Nat} {a b : ACode} {args : List AV} {Q : AV → AH → Prop} (hl : args.length = ps.length)
    (hw : Wp (code T a (putArgs f0 ps args) h) fun e f1 h1 => e = .normal ∧ Wp (code T b f1 h1) fun e _ h2 => e = .normal ∧ Q (.bool true) h2) : Gives (withY T o (yRun (code T) f0 ps a b)) (YB + o) args h Q := by
  obtain ⟨e, f1, h1, hc, rfl, e2, f2, h2, hc2, rfl, hq⟩ := hw
  refine ⟨.bool true, h2, ?_, hq⟩
  rw [run_env (e := yRun (code T) f0 ps a b) (by simp [withY])]
  simp only [yRun, if_pos hl, hc, hc2]
end Go.Vm

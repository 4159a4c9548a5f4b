/- More new objects, loads and stores, maps. -/
import Derived.Test.YtpabmkicdcilpaaVmF
namespace Go.Vm
open Go.RowKit
set_option linter.unusedSimpArgs false
set_option linter.unusedVariables false
section
variable {P : Program} {o : Oper}

/-! ### rows of zeros -/
theorem rep_length (z : List AV) : ∀ n, (rep z n).length = n * z.length
  | 0 => by simp [rep]
  | n + 1 => by simp [rep, rep_length z n, Nat.add_mul]; omega
theorem rep_get (z : List AV) : ∀ (n i : Nat), i < n * z.length → (rep z n)[i]? = z[i % z.length]?
  | 0, i, h => by simp at h
  | n + 1, i, h => by
    rw [Nat.add_mul] at h
    simp only [rep]
    by_cases hi : i < z.length
    · rw [List.getElem?_append_left hi, Nat.mod_eq_of_lt hi]
    · rw [List.getElem?_append_right (by omega), rep_get z n _ (by omega), Nat.mod_eq_sub_mod (by omega : i ≥ z.length)]
theorem rep_rel {μ : Inj} {z : List AV} {zc : Array Value} (hz : VRels μ z zc.toList) (n m : Nat) (hm : m = n * zc.size) : VRels μ (rep z n) ((Array.range m).map (zc[· % zc.size]!)).toList := by
  have hl : z.length = zc.size := by simpa using hz.1
  refine ⟨by simp [rep_length, hl, hm], fun i x y hx hy => ?_⟩
  have hi : i < n * z.length := by
    rcases Nat.lt_or_ge i (n * z.length) with h | h
    · exact h
    · rw [List.getElem?_eq_none (by rw [rep_length]; exact h)] at hx; cases hx
  rw [rep_get z n i hi] at hx
  simp only [Array.toList_map, List.getElem?_map, Array.toList_range] at hy
  rw [List.getElem?_range (by rw [hm, ← hl]; exact hi)] at hy
  simp only [Option.map_some, Option.some.injEq] at hy
  have hpos : 0 < zc.size := by
    rcases Nat.eq_zero_or_pos zc.size with h0 | h0
    · rw [hl, h0] at hi; simp at hi
    · exact h0
  have hlt : i % zc.size < zc.size := Nat.mod_lt _ hpos
  rw [getElem!_pos zc _ hlt] at hy
  subst hy
  exact hz.2 _ _ _ hx (by rw [hl]; simp [hlt])

theorem ok_mkSlice {t e : TypeId} {x y : Operand} {x' y' : AOpd} {inf : TypeInfo} {z : Value} {l : List AV} (ho : o.op = .makeSlice t x y) (hx : cOpd x = some x') (hy : cOpd y = some y') (ht : P.underlying t = some (.slice e))
    (hi : P.info? e = some inf) (hz : inf.zero = some z) (hzs : z.cells.size = inf.size) (hl : cLeaves z.cells.toList = some l) : MakeOk P o (.mkSlice inf.size inf.bytes l x' y') := by
  intro f h res he
  simp only [AOp.eval] at he
  split at he
  · rename_i n c hn hc
    split at he
    · rename_i hcond
      obtain ⟨hnc, hc63, hbytes⟩ := hcond
      cases he
      refine ⟨fun id => .slice id 0 inf.size n c true, .cells (rep l c) true, rfl, fun _ => rfl, fun h₂ => by simp only [AOp.eval, hn, hc]; rw [if_pos ⟨hnc, hc63, hbytes⟩], fun N μ a w hN hr => ?_⟩
      have hxr := cOpd_rel hx hr
      have hyr := cOpd_rel hy hr
      obtain ⟨k1, hk1⟩ := natOf_inv hn
      obtain ⟨k2, hk2⟩ := natOf_inv hc
      rw [hk1] at hxr
      rw [hk2] at hyr
      have hrel := rep_rel (cLeaves_rel hl μ) c (c * inf.size) (by rw [hzs])
      refine ⟨.cells ((Array.range (c * inf.size)).map (z.cells[· % z.cells.size]!)) e (0, 0), c * inf.size, w.drawn, .slice (some ⟨w.heap.size, 0, none⟩) n c, ?_, fun id hid => ?_, ?_⟩
      · refine run_value2 (s := Instr.makeSlice t (a.eval x) (a.eval y)) ?_ (by simp only [execOp, ho])
        rw [hxr.int_inv, hyr.int_inv]
        have hwn : IntKind.i64.wrap (n : Int) = n := wrap_i64 (by omega) (by omega)
        have hwc : IntKind.i64.wrap (c : Int) = c := wrap_i64 (by omega) (by omega)
        have hzr : ∀ w, (zeroValue e).run P w = .ok z w := fun w => by simp [zeroValue, typeInfo, hi, hz]
        have hti : ∀ w, (typeInfo e).run P w = .ok inf w := fun w => by simp [typeInfo, hi]
        have hb2 : ¬ ((inf.bytes : Int) * (c : Int) > 2 ^ 48) := by
          have e48 : (2 : Int) ^ 48 = 281474976710656 := by decide
          rw [← Int.natCast_mul, e48]
          omega
        have hcond : ¬ ((decide ((c : Int) < 0) || decide ((inf.bytes : Int) * (c : Int) > 2 ^ 48) || decide ((n : Int) < 0) || decide ((n : Int) > (c : Int))) = true) := by
          simp only [Bool.or_eq_true, decide_eq_true_eq]; omega
        unfold Instr.makeSlice
        simp only [Sem.run_bind, run_underlying ht, Result.andThen_ok, asInt, asIntOf, Sem.run_pure, hti, hwn, hwc]
        rw [if_neg hcond]
        simp only [Sem.run_bind, Sem.run_pure, Result.andThen_ok, run_askRoom, run_sizeOf' hi, Int.toNat_natCast, newRow, run_newObj, Sem.run_ite]
        by_cases h0 : c * inf.size = 0
        · rw [if_pos h0]
          simp only [Sem.run_bind, Sem.run_pure, Result.andThen_ok, run_newObj, h0, Array.range_zero', Array.map_empty]
        · rw [if_neg h0]
          simp only [Sem.run_bind, Sem.run_pure, Result.andThen_ok, run_newObj, hzr]
      · exact .slice (Inj.add_self _ _ _) hnc (by simp) (by omega) (.inl rfl)
      · exact cells_new hN hrel (by simp) rfl
    · cases he
  · cases he

theorem ok_toBytes {s t e : TypeId} {x : Operand} {x' : AOpd} {d : TypeDesc} (ho : o.op = .convert s t x) (hx : cOpd x = some x') (hs : P.underlying s = some d) (ht : P.underlying t = some (.slice e)) (he' : P.underlying e = some (.int .u8)) :
    MakeOk P o (.toBytes x') := by
  intro f h res he
  simp only [AOp.eval] at he
  split at he
  · rename_i l hv
    split at he
    · rename_i hlen
      cases he
      refine ⟨fun id => .slice id 0 1 l.length l.length false, .marked (bytesOf l), rfl, fun _ => rfl, fun h₂ => by simp only [AOp.eval, hv]; rw [if_pos hlen], fun N μ a w hN hr => ?_⟩
      have hxr := cOpd_rel hx hr
      rw [hv] at hxr
      obtain ⟨b, hb, rfl⟩ := hxr.str_inv
      have hsz : b.data.toList.length = b.size := rfl
      generalize hcap : (Question.appendCap b.size 0 e).cut (w.tape w.drawn (.appendCap b.size 0 e)) = cap
      have hge : b.size ≤ cap := by rw [← hcap]; simp only [Question.cut]; omega
      let elems : Array Value := b.data.map fun b => .int .u8 b.toNat
      have hes : elems.size = b.size := by simp [elems]
      refine ⟨.cells (elems ++ Array.replicate (cap - b.size) (.int .u8 0)) e (cap, cap + 1), cap, w.drawn + 1, .slice (some ⟨w.heap.size, 0, none⟩) b.size cap, ?_, fun id hid => ?_, ?_⟩
      · refine run_value2 (s := convert s t (a.eval x)) ?_ (by simp only [execOp, ho])
        rw [hb]
        have hfr : ∀ (C : Array Value) (hC : C.size = cap), (markStringish ⟨w.heap.size, 0, none⟩).run P { w with heap := w.heap.push (.cells C e (0, 0)), drawn := w.drawn + 1 } = .ok () { w with heap := w.heap.push (.cells C e (cap, cap + 1)), drawn := w.drawn + 1 } := by
          intro C hC
          simp only [markStringish, Sem.run_bind, run_shape, Result.andThen_ok, World.shape?]
          simp only [Array.getElem?_push_size, run_freeze, hC, World.freeze]
          rw [if_neg (by decide)]
          congr 2
          apply Array.ext
          · simp
          · intro i h1 h2
            rw [Array.getElem_modify]
            split
            · rename_i hi
              subst hi
              simp
            · rename_i hi
              simp at h1
              simp only [Array.getElem_push]
              rw [dif_pos (by omega), dif_pos (by omega)]
        simp only [convert, Sem.run_bind, run_underlying hs, run_underlying ht, run_underlying he', Result.andThen_ok]
        have hst : (Conv.stringToBytes e b).run P w = .ok (.slice (some ⟨w.heap.size, 0, none⟩) b.size cap) { w with heap := w.heap.push (.cells (elems ++ Array.replicate (cap - b.size) (.int .u8 0)) e (cap, cap + 1)), drawn := w.drawn + 1 } := by
          simp only [Conv.stringToBytes, Sem.run_bind, run_choose, Question.forced, Result.andThen_ok, Bool.false_eq_true, if_false, hcap, newRow, run_newObj, Sem.run_pure]
          rw [hfr _ (by simp [hes]; omega)]
          rfl
        cases d <;> exact hst
      · exact .slice (Inj.add_self _ _ _) (by omega) (by simp; omega) (by omega) (.inl rfl)
      · refine marked_new_more (us := elems.toList) hN ?_ ?_ ?_ ?_ ?_
        · refine ⟨by simp [bytesOf, elems], fun i u v hu hv => ?_⟩
          simp only [bytesOf, elems, List.getElem?_map, Array.toList_map] at hu hv
          cases hbi : b.data.toList[i]? with
          | none => simp [hbi] at hu
          | some y => simp [hbi] at hu hv; subst hu hv; exact .int _ _
        · intro i u hu
          have hi : i < elems.size := by
            rcases Nat.lt_or_ge i elems.toList.length with h' | h'
            · simpa using h'
            · rw [List.getElem?_eq_none h'] at hu; cases hu
          rw [Array.getElem?_append_left hi]
          simpa using hu
        · simp [hes]; omega
        · simp [hes]; omega
        · exact .inr (Nat.le_refl _)
    · cases he
  · cases he
theorem ok_mkMap {t : TypeId} {r : Option Operand} (ho : o.op = .makeMap t r) (hr' : r = none) : MakeOk P o .mkMap := by
  intro f h res he
  cases he
  subst hr'
  refine ⟨fun id => .map id, .map [], rfl, fun _ => rfl, fun _ => rfl, fun N μ a w hN hr => ⟨.map #[] 0, 0, w.drawn, .map (some w.heap.size), ?_, fun id hid => .map (Inj.add_self _ _ _), fun id w' hid hw => ⟨rfl, hN, #[], 0, hw, rfl, by simp⟩⟩⟩
  simp [execOp, ho, Instr.makeMap]
end
end Go.Vm

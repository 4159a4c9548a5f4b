/- Chapter 23: Text. QueryBack. -/
import Derived.Test.YtjbkjffolnodjaaP23S
import Derived.Test.YtjbkjffolnodjaaP23K
namespace Go.Proofs.Ytjbkjffolnodjaa
open Go.Vm
set_option linter.unusedSimpArgs false
set_option linter.unusedVariables false
set_option maxRecDepth 100000
variable {T : Vm.Prog} {h : AH}
theorem row_upto {v : AV} {xs : List AV} {k : Nat} (r : Row1 h v xs) (hk : k ≤ xs.length) (hne : xs ≠ []) : ∃ v', slcV 1 v none (some (.int .i64 (k : Int))) none = some v' ∧ Row1 h v' (xs.take k) ∧ objs v' = objs v := by
  rcases r with ⟨rfl, e⟩ | ⟨o, cap, ex, l, rfl, hg, h1, h2, h3⟩
  · exact absurd (by simpa using e) hne
  · have h3' := Row1.get h3
    simp only [List.length_map, Nat.mul_one] at h1 h2
    refine ⟨.slice o 0 1 k cap ex, slc_to0 (by omega), row1_of hg h1 (by simp; omega) (by simp; omega) (fun i x hx => ?_), rfl⟩
    rw [List.getElem?_take] at hx
    split at hx
    · exact h3' i x hx
    · cases hx
def tsum : List Ex → Nat
  | [] => 0
  | e :: S => (txt e).length + tsum S
def strs (S : List Ex) : List AV := S.reverse.map fun e => AV.str (txt e)
theorem strs_len (S : List Ex) : (strs S).length = S.length := by simp [strs]
theorem strs_cons (e : Ex) (S : List Ex) : strs (e :: S) = strs S ++ [AV.str (txt e)] := by simp [strs]
/-- What a round of Text leaves. -/
structure TX (h h' : AH) (l : AV) (S : List Ex) (i : Nat) : Prop where
  row : Row1 h' l (strs S)
  own : ∀ o ∈ objs l, h.next ≤ o
  quiet : Quiet h h'
  low : Low h'
  sum : tsum S ≤ 12 * i
  len : S.length ≤ i
theorem TX.push {h' : AH} {l : AV} {S : List Ex} {i : Nat} (x : TX h h' l S i) {t : Txt} (hi : i ≤ 64) : ∃ l' h2, appV 1 16 (h'.new (.cells [AV.str t] true)) l (.slice h'.next 0 1 1 1 true) = some (l', h2) ∧ Row1 h2 l' (strs S ++ [AV.str t]) ∧ (∀ o ∈ objs l', h.next ≤ o) ∧ Quiet h h2 ∧ Low h2 := by
  obtain ⟨l', h2, ap, r, ho, hm, lo⟩ := row_app (bytes := 16) x.low x.row (by decide) (by decide) (by rw [strs_len]; have := x.len; omega) (x := AV.str t) rfl
  have := x.quiet.1
  exact ⟨l', h2, ap, r, fun o hoo => (ho o hoo).elim (x.own o) (fun h1 => by omega), Mods.trans x.quiet hm fun o hoo => .inr (x.own o hoo), lo⟩
theorem text_gives (k : Base T) (hl : Low h) {v : AV} {e : Ex} (ok : OkE e) (hlen : (post e).length ≤ 64) (r : RowS h 2 v (parts (post e))) : Gives T 10 [v] h fun q h' => q = .str (txt e) ∧ Quiet h h' ∧ Low h' := by
  refine gives_func (k.env 10 (by decide)) (k.at (n := 10) rfl) rfl ?_
  have ln : lenOfV v = some (post e).length := by have := RowS.len r; simpa [parts] using this
  simp only [a10, c10, vms, vmc, AOpd.val, Nat.reduceEqDiff, reduceCtorEq, Nat.reduceAdd, Nat.reduceBEq]
  refine Gives.bind ((right_gives k hl ok hlen r).mono ?_)
  rintro _ h0 ⟨rfl, q0, lo0⟩
  simp only [vms, vmc, AOpd.val, Nat.reduceEqDiff, reduceCtorEq, Nat.reduceAdd, Nat.reduceBEq, ln]
  refine wpc_loop (fun m f h' => ∃ (i : Nat) (S : List Ex), m = (post e).length - i ∧ i ≤ (post e).length ∧ runS [] ((post e).take i) = some S ∧ TX h h' (f.at 3) S i ∧ f.at 10 = v ∧ f.at 11 = .int .i64 ((post e).length : Int) ∧ f.at 12 = .int .i64 (i : Int)) ?_ (post e).length _ _ ⟨0, [], by omega, by omega, rfl, ?_, ?_⟩
  · rintro m f h' ⟨i, S, rfl, hi, hS, tx, f10, f11, f12⟩
    have q := tx.quiet
    have lo := tx.low
    have hSi := tx.len
    have hts := tx.sum
    by_cases hlt : i < (post e).length
    · have d1 : decide ((i : Int) < ((post e).length : Int)) = true := by rw [decide_eq_true_eq]; omega
      obtain ⟨p, hp⟩ : ∃ p, (post e)[i]? = some p := ⟨_, List.getElem?_eq_getElem hlt⟩
      obtain ⟨S0, S', hS0, hst, hS'⟩ := prefix_runs hp
      rw [hS] at hS0
      cases hS0
      have hok := post_ok ok p (List.mem_of_getElem? hp)
      have r' : RowS h' 2 v (parts (post e)) := RowS.keep r fun o ho => q.2 o (RowS.low r hl o ho) id
      obtain ⟨ad, ha1, ha2⟩ := part_at r' hp
      obtain ⟨kd, t⟩ := p
      have hg : (h'.new (.cells [AV.int .i64 0, AV.str []] true)).get h'.next = some (.cells [AV.int .i64 0, AV.str []] true) := get_new_same
      have st : storeV (h'.new (.cells [AV.int .i64 0, AV.str []] true)) 2 (.ptr h'.next 0) (.agg [.int .i64 kd, .str t]) = some ((h'.new (.cells [AV.int .i64 0, AV.str []] true)).set h'.next (.cells [.int .i64 kd, .str t] true)) := store_all hg rfl rfl (by simp [AV.flat])
      have q2 : Quiet h' ((h'.new (.cells [AV.int .i64 0, AV.str []] true)).set h'.next (.cells [.int .i64 kd, .str t] true)) := ((Quiet.refl h').new _).set (Nat.le_refl _) _
      have lo2 : Low ((h'.new (.cells [AV.int .i64 0, AV.str []] true)).set h'.next (.cells [.int .i64 kd, .str t] true)) := (lo.new _).set (by rw [next_new]; omega) _
      have g2 : ((h'.new (.cells [AV.int .i64 0, AV.str []] true)).set h'.next (.cells [.int .i64 kd, .str t] true)).get h'.next = some (.cells [.int .i64 kd, .str t] true) := get_set_same
      have row2 := row_quiet tx.row lo q2
      have tx2 : TX h ((h'.new (.cells [AV.int .i64 0, AV.str []] true)).set h'.next (.cells [.int .i64 kd, .str t] true)) (f.at 3) S i := ⟨row2, tx.own, q.trans q2, lo2, tx.sum, tx.len⟩
      have ll : lenOfV (f.at 3) = some S.length := by have := tx.row.sees.len; rwa [strs_len] at this
      have w2 : IntKind.i64.wrap ((i : Int) + 1) = ((i + 1 : Nat) : Int) := by rw [wrap_i64 (by omega) (by omega)]; omega
      simp only [c10l0, vms, vmc, AOpd.val, Nat.reduceEqDiff, reduceCtorEq, Nat.reduceAdd, Nat.reduceBEq, f10, f11, f12, d1, ha1, ha2, st, ll]
      generalize hgen : ((h'.new (.cells [AV.int .i64 0, AV.str []] true)).set h'.next (.cells [.int .i64 kd, .str t] true)) = g at *
      have l0 : loadV g false 1 (.ptr h'.next 0) = some (.int .i64 kd) := load_at g2 rfl
      have l1 : loadV g false 1 (.ptr h'.next 1) = some (.str t) := load_at g2 rfl
      rcases hok with ⟨h1, hgt⟩ | ⟨h1, h2⟩
      · -- a term
        have h1' : kd = 1 := h1
        subst h1'
        have eS' : S' = .w t :: S := by cases S <;> (simp [stepS] at hst; exact hst.symm)
        subst eS'
        have e1 : ((1 : Int) == 1) = true := rfl
        have bf : fillV [AV.str []] [(0, 1, AV.str t)] = some [AV.str t] := fill1 rfl rfl
        obtain ⟨l', h3, ap, r3, o3, q3, lo3⟩ := tx2.push (t := t) (by omega)
        simp only [vms, vmc, AOpd.val, Nat.reduceEqDiff, reduceCtorEq, Nat.reduceAdd, Nat.reduceBEq, fa, l0, e1, l1, bf, ap, f10, f11, f12, w2]
        refine ⟨(post e).length - (i + 1), by omega, i + 1, .w t :: S, rfl, by omega, hS', ⟨?_, o3, q3, lo3, ?_, by simp; omega⟩, by trivial, by trivial, by trivial⟩
        · rw [strs_cons]; exact r3
        · have := hgt.2.1; simp only [tsum, txt]; have : t.length ≤ 12 := this; omega
      · have h2' : t = [] := h2
        subst h2'
        rcases h1 with h1 | h1
        · -- a contrary
          have h1' : kd = 4 := h1
          subst h1'
          match S, hst with
          | [], hst => simp [stepS] at hst
          | a :: S2, hst =>
            have eS' : S' = .n a :: S2 := by simp [stepS] at hst; exact hst.symm
            subst eS'
            simp only [tsum, List.length_cons] at hts hSi
            have e1 : ((4 : Int) == 1) = false := rfl
            have e4 : ((4 : Int) == 4) = true := rfl
            have w3 : IntKind.i64.wrap ((((a :: S2).length : Nat) : Int) - 1) = ((S2.length : Nat) : Int) := by rw [wrap_i64 (by simp only [List.length_cons]; omega) (by simp only [List.length_cons]; omega)]; simp only [List.length_cons]; omega
            have hx : ((strs (a :: S2)).map fun x => [x])[S2.length]? = some [AV.str (txt a)] := by
              rw [strs_cons, List.getElem?_map, List.getElem?_append_right (Nat.le_of_eq (strs_len S2)), strs_len, Nat.sub_self]; rfl
            obtain ⟨o, ho1, ho2, ho3, ho4⟩ := RowS.at row2 hx
            have ld := ho3 0 _ rfl
            obtain ⟨h3, sto, upd, r3⟩ := ho4 0 (AV.str (33 :: txt a)) (by decide) rfl rfl
            rw [Nat.mul_one] at ho2
            rw [Nat.mul_one, Nat.add_zero] at ld sto
            have ba : binV .add (.str [33]) (.str (txt a)) = some (.str (33 :: txt a)) := bin_str_add (by simp; omega)
            have ro := RowS.low row2 lo2 o (by rw [ho1]; simp)
            have oo : h.next ≤ o := tx.own o (by rw [ho1]; simp)
            simp only [vms, vmc, AOpd.val, Nat.reduceEqDiff, reduceCtorEq, Nat.reduceAdd, Nat.reduceBEq, fa, l0, e1, e4, w3, ho2, ld, ba, sto, f10, f11, f12, w2]
            refine ⟨(post e).length - (i + 1), by omega, i + 1, .n a :: S2, rfl, by omega, hS', ⟨?_, tx.own, ?_, lo2.upd upd ro, by simp only [tsum, txt, List.length_cons]; omega, by simp; omega⟩, by trivial, by trivial, by trivial⟩
            · have e5 : (strs (.n a :: S2)).map (fun x => [x]) = ((strs (a :: S2)).map fun x => [x]).set S2.length (([AV.str (txt a)] : List AV).set 0 (AV.str (33 :: txt a))) := by
                rw [strs_cons, strs_cons, List.map_append, List.map_append, List.set_append, if_neg (by simp [strs_len])]
                simp [strs_len, txt]
              show RowS h3 1 (f.at 3) ((strs (.n a :: S2)).map fun x => [x])
              rw [e5]; exact r3
            · exact Mods.trans (q.trans q2) ((upd.only (F := [o]) (.inl (by simp))).mods (G := fun p => p = o) fun p hp => .inl (by simpa using hp)) fun p hp => .inr (by rw [hp]; exact oo)
        · -- two together
          have two : ∃ x y S2, S = y :: x :: S2 ∧ ((kd = 2 ∧ S' = .a x y :: S2) ∨ (kd = 3 ∧ S' = .o x y :: S2)) := by
            rcases h1 with h1 | h1
            · have h1' : kd = 2 := h1
              subst h1'
              match S, hst with
              | [], hst => simp [stepS] at hst
              | [a], hst => simp [stepS] at hst
              | y :: x :: S2, hst => simp [stepS] at hst; exact ⟨x, y, S2, rfl, .inl ⟨rfl, hst.symm⟩⟩
            · have h1' : kd = 3 := h1
              subst h1'
              match S, hst with
              | [], hst => simp [stepS] at hst
              | [a], hst => simp [stepS] at hst
              | y :: x :: S2, hst => simp [stepS] at hst; exact ⟨x, y, S2, rfl, .inr ⟨rfl, hst.symm⟩⟩
          obtain ⟨x, y, S2, rfl, hkd⟩ := two
          simp only [tsum, List.length_cons] at hts hSi
          have w3 : IntKind.i64.wrap ((((y :: x :: S2).length : Nat) : Int) - 2) = ((S2.length : Nat) : Int) := by rw [wrap_i64 (by simp only [List.length_cons]; omega) (by simp only [List.length_cons]; omega)]; simp only [List.length_cons]; omega
          have w4 : IntKind.i64.wrap ((((y :: x :: S2).length : Nat) : Int) - 1) = ((S2.length + 1 : Nat) : Int) := by rw [wrap_i64 (by simp only [List.length_cons]; omega) (by simp only [List.length_cons]; omega)]; simp only [List.length_cons]; omega
          have hsx : (strs (y :: x :: S2))[S2.length]? = some (AV.str (txt x)) := by
            rw [strs_cons, strs_cons, List.append_assoc, List.getElem?_append_right (Nat.le_of_eq (strs_len S2)), strs_len, Nat.sub_self]; rfl
          have hsy : (strs (y :: x :: S2))[S2.length + 1]? = some (AV.str (txt y)) := by
            rw [strs_cons, strs_cons, List.append_assoc, List.getElem?_append_right (by rw [strs_len]; omega), strs_len, show S2.length + 1 - S2.length = 1 by omega]; rfl
          obtain ⟨px, px1, px2⟩ := row2.sees.at hsx .i64
          obtain ⟨py, py1, py2⟩ := row2.sees.at hsy .i64
          obtain ⟨vp, sl1, rp, op⟩ := row_upto (k := S2.length) row2 (by rw [strs_len]; simp; omega) (by rw [strs_cons]; simp)
          have etk : (strs (y :: x :: S2)).take S2.length = strs S2 := by
            rw [strs_cons, strs_cons, List.append_assoc]
            exact List.take_left' (strs_len S2)
          rw [etk] at rp
          have key : ∀ (c : UInt8) (z : Ex), txt z = 40 :: (txt x ++ c :: (txt y ++ [41])) →
              ∃ l' h3, binV .add (.str [40]) (.str (txt x)) = some (.str (40 :: txt x)) ∧ binV .add (.str (40 :: txt x)) (.str [c]) = some (.str (40 :: txt x ++ [c])) ∧ binV .add (.str (40 :: txt x ++ [c])) (.str (txt y)) = some (.str (40 :: txt x ++ [c] ++ txt y)) ∧ binV .add (.str (40 :: txt x ++ [c] ++ txt y)) (.str [41]) = some (.str (txt z)) ∧
                fillV [AV.str []] [(0, 1, AV.str (txt z))] = some [AV.str (txt z)] ∧
                appV 1 16 (g.new (.cells [AV.str (txt z)] true)) vp (.slice g.next 0 1 1 1 true) = some (l', h3) ∧ TX h h3 l' (z :: S2) (i + 1) := by
            intro c z hz
            have txp : TX h g vp S2 i := ⟨rp, fun o ho => tx.own o (by rw [op] at ho; exact ho), q.trans q2, lo2, by omega, by omega⟩
            obtain ⟨l', h3, ap, r3, o3, q3, lo3⟩ := txp.push (t := txt z) (by omega)
            refine ⟨l', h3, bin_str_add (by simp; omega), bin_str_add (by simp; omega), bin_str_add (by simp; omega), ?_, fill1 rfl rfl, ap, ?_, o3, q3, lo3, ?_, by simp; omega⟩
            · rw [bin_str_add (by simp; omega)]
              rw [hz]; simp
            · rw [strs_cons]; exact r3
            · simp only [tsum, hz]; simp; omega
          have qn : ∀ (s : Txt), Quiet g (g.new (.cells [AV.str s] true)) := fun s => (Quiet.refl _).new _
          rcases hkd with ⟨rfl, rfl⟩ | ⟨rfl, rfl⟩
          · obtain ⟨l', h3, b1, b2, b3, b4, bf, ap, tx3⟩ := key 38 (.a x y) rfl
            have e1 : ((2 : Int) == 1) = false := rfl
            have e4 : ((2 : Int) == 4) = false := rfl
            have e2 : ((2 : Int) == 2) = true := rfl
            obtain ⟨px', px1', px2'⟩ := (row_quiet row2 lo2 (qn (txt (.a x y)))).sees.at hsx .i64
            rw [px1] at px1'; cases px1'
            obtain ⟨py', py1', py2'⟩ := (row_quiet row2 lo2 (qn (txt (.a x y)))).sees.at hsy .i64
            rw [py1] at py1'; cases py1'
            simp only [vms, vmc, AOpd.val, Nat.reduceEqDiff, reduceCtorEq, Nat.reduceAdd, Nat.reduceBEq, fa, l0, e1, e4, e2, w3, sl1, px1, px2, b1, b2, w4, py1, py2, b3, b4, bf]
            rw [items_look (look_load (v := AV.str (txt x)) (by show loadV _ _ _ (Fr.at _ _) = _; simp only [vms, vmc, AOpd.val, Nat.reduceEqDiff, reduceCtorEq, Nat.reduceAdd, Nat.reduceBEq]; exact px2') (by simp only [vms, vmc, AOpd.val, Nat.reduceEqDiff, reduceCtorEq, Nat.reduceAdd, Nat.reduceBEq]) (by simp [AV.beq])),
              items_look (look_load (v := AV.str (txt y)) (by show loadV _ _ _ (Fr.at _ _) = _; simp only [vms, vmc, AOpd.val, Nat.reduceEqDiff, reduceCtorEq, Nat.reduceAdd, Nat.reduceBEq]; exact py2') (by simp only [vms, vmc, AOpd.val, Nat.reduceEqDiff, reduceCtorEq, Nat.reduceAdd, Nat.reduceBEq]) (by simp [AV.beq])),
              items_look (look_build (q := g.next) (l := [AV.str (txt (.a x y))]) (by simp only [vms, vmc, AOpd.val, Nat.reduceEqDiff, reduceCtorEq, Nat.reduceAdd, Nat.reduceBEq]; exact bf) (by simp only [vms, vmc, AOpd.val, Nat.reduceEqDiff, reduceCtorEq, Nat.reduceAdd, Nat.reduceBEq]; rfl) get_new_same (beqs1 (by simp [AV.beq])))]
            simp only [vms, vmc, AOpd.val, Nat.reduceEqDiff, reduceCtorEq, Nat.reduceAdd, Nat.reduceBEq, ap, f10, f11, f12, w2]
            exact ⟨(post e).length - (i + 1), by omega, i + 1, .a x y :: S2, rfl, by omega, hS', tx3, by trivial, by trivial, by trivial⟩
          · obtain ⟨l', h3, b1, b2, b3, b4, bf, ap, tx3⟩ := key 124 (.o x y) rfl
            have e1 : ((3 : Int) == 1) = false := rfl
            have e4 : ((3 : Int) == 4) = false := rfl
            have e2 : ((3 : Int) == 2) = false := rfl
            have e3 : ((3 : Int) == 3) = true := rfl
            obtain ⟨px', px1', px2'⟩ := (row_quiet row2 lo2 (qn (txt (.o x y)))).sees.at hsx .i64
            rw [px1] at px1'; cases px1'
            obtain ⟨py', py1', py2'⟩ := (row_quiet row2 lo2 (qn (txt (.o x y)))).sees.at hsy .i64
            rw [py1] at py1'; cases py1'
            simp only [vms, vmc, AOpd.val, Nat.reduceEqDiff, reduceCtorEq, Nat.reduceAdd, Nat.reduceBEq, fa, l0, e1, e4, e2, e3, w3, sl1, px1, px2, b1, b2, w4, py1, py2, b3, b4, bf]
            rw [items_look (look_load (v := AV.str (txt x)) (by show loadV _ _ _ (Fr.at _ _) = _; simp only [vms, vmc, AOpd.val, Nat.reduceEqDiff, reduceCtorEq, Nat.reduceAdd, Nat.reduceBEq]; exact px2') (by simp only [vms, vmc, AOpd.val, Nat.reduceEqDiff, reduceCtorEq, Nat.reduceAdd, Nat.reduceBEq]) (by simp [AV.beq])),
              items_look (look_load (v := AV.str (txt y)) (by show loadV _ _ _ (Fr.at _ _) = _; simp only [vms, vmc, AOpd.val, Nat.reduceEqDiff, reduceCtorEq, Nat.reduceAdd, Nat.reduceBEq]; exact py2') (by simp only [vms, vmc, AOpd.val, Nat.reduceEqDiff, reduceCtorEq, Nat.reduceAdd, Nat.reduceBEq]) (by simp [AV.beq])),
              items_look (look_build (q := g.next) (l := [AV.str (txt (.o x y))]) (by simp only [vms, vmc, AOpd.val, Nat.reduceEqDiff, reduceCtorEq, Nat.reduceAdd, Nat.reduceBEq]; exact bf) (by simp only [vms, vmc, AOpd.val, Nat.reduceEqDiff, reduceCtorEq, Nat.reduceAdd, Nat.reduceBEq]; rfl) get_new_same (beqs1 (by simp [AV.beq])))]
            simp only [vms, vmc, AOpd.val, Nat.reduceEqDiff, reduceCtorEq, Nat.reduceAdd, Nat.reduceBEq, ap, f10, f11, f12, w2]
            exact ⟨(post e).length - (i + 1), by omega, i + 1, .o x y :: S2, rfl, by omega, hS', tx3, by trivial, by trivial, by trivial⟩
    · have d1 : decide ((i : Int) < ((post e).length : Int)) = false := by rw [decide_eq_false_iff_not]; omega
      rw [List.take_of_length_le (by omega), runS_post] at hS
      cases hS
      obtain ⟨o, ho1, ho2⟩ := tx.row.sees.at (i := 0) (x := AV.str (txt e)) rfl .i64
      have ho1' : idxAddrV 1 (f.at 3) (.int .i64 0) = some o := ho1
      simp only [c10l0, vms, vmc, AOpd.val, Nat.reduceEqDiff, reduceCtorEq, Nat.reduceAdd, Nat.reduceBEq, f10, f11, f12, d1, ho1', ho2]
      exact ⟨by trivial, q, lo⟩
  · simp only [vms, vmc, AOpd.val, Nat.reduceEqDiff, reduceCtorEq, Nat.reduceAdd, Nat.reduceBEq]
    exact ⟨.inl ⟨rfl, rfl⟩, fun o ho => by simp [objs] at ho, q0, lo0, by simp [tsum], by simp⟩
  · simp only [vms, vmc, AOpd.val, Nat.reduceEqDiff, reduceCtorEq, Nat.reduceAdd, Nat.reduceBEq]
    simp
theorem back_main (k : Fits T) (hl : Low h) {s : Txt} {f : Fr} (f0 : f.at 0 = .str s) : Wp (code T (cSnd (cSnd c4)) f h) (Vm.Ends [.tmp 2] fun r _ => r = .bool true) := by
  obtain ⟨n, q, e, hn, hb, hne, hz⟩ := parse_total s
  simp only [cSnd, c4, vms, vmc, AOpd.val, Nat.reduceEqDiff, reduceCtorEq, Nat.reduceAdd, Nat.reduceBEq, f0]
  refine Gives.bind ((parse_ok k.base hl hn).mono ?_)
  rintro _ h1 ⟨q1, lo1, v, rfl, r1, ov, hql⟩
  by_cases he : e = 0
  case neg =>
    have hq := hne he
    subst hq
    have e1 : (e != 0) = true := by simpa using he
    have ln : lenOfV v = some 0 := by have := RowS.len r1; simpa [parts] using this
    have e0 : (((0 : Nat) : Int) == 0) = true := rfl
    have h3 : e = 7 ∨ e = 6 ∨ e = 11 := by rcases hb with h | h | h | h <;> simp [h] at he ⊢
    rcases h3 with rfl | rfl | rfl
    · have e7 : ((7 : Int) == 7) = true := rfl
      simp only [vms, vmc, AOpd.val, Nat.reduceEqDiff, reduceCtorEq, Nat.reduceAdd, Nat.reduceBEq, e1, ln, e0, e7]
      refine Gives.bind ((k.yes _).mono ?_)
      rintro _ _ ⟨rfl, rfl⟩
      simp only [vms, vmc, AOpd.val, Nat.reduceEqDiff, reduceCtorEq, Nat.reduceAdd, Nat.reduceBEq]
    · have e7 : ((6 : Int) == 7) = false := rfl
      have e6 : ((6 : Int) == 6) = true := rfl
      simp only [vms, vmc, AOpd.val, Nat.reduceEqDiff, reduceCtorEq, Nat.reduceAdd, Nat.reduceBEq, e1, ln, e0, e7, e6]
      refine Gives.bind ((k.yes _).mono ?_)
      rintro _ _ ⟨rfl, rfl⟩
      simp only [vms, vmc, AOpd.val, Nat.reduceEqDiff, reduceCtorEq, Nat.reduceAdd, Nat.reduceBEq]
    · have e7 : ((11 : Int) == 7) = false := rfl
      have e6 : ((11 : Int) == 6) = false := rfl
      have e11 : ((11 : Int) == 11) = true := rfl
      simp only [vms, vmc, AOpd.val, Nat.reduceEqDiff, reduceCtorEq, Nat.reduceAdd, Nat.reduceBEq, e1, ln, e0, e7, e6, e11]
      refine Gives.bind ((k.yes _).mono ?_)
      rintro _ _ ⟨rfl, rfl⟩
      simp only [vms, vmc, AOpd.val, Nat.reduceEqDiff, reduceCtorEq, Nat.reduceAdd, Nat.reduceBEq]
  subst he
  obtain ⟨hql, x, okx, rfl⟩ := hz rfl
  have e1 : ((0 : Int) != 0) = false := rfl
  simp only [vms, vmc, AOpd.val, Nat.reduceEqDiff, reduceCtorEq, Nat.reduceAdd, Nat.reduceBEq, e1]
  refine Gives.bind ((text_gives k.base lo1 okx hql r1).mono ?_)
  rintro _ h2 ⟨rfl, q2, lo2⟩
  simp only [vms, vmc, AOpd.val, Nat.reduceEqDiff, reduceCtorEq, Nat.reduceAdd, Nat.reduceBEq]
  have r2 : RowS h2 2 v (parts (post x)) := RowS.keep r1 fun o ho => q2.2 o (RowS.low r1 lo1 o ho) id
  obtain ⟨n2, hn2 | hn2⟩ := parse_txt okx hql
  · refine Gives.bind ((parse_ok k.base lo2 hn2).mono ?_)
    rintro _ h3 ⟨q3, lo3, v3, rfl, r3, _, _⟩
    have r2' : RowS h3 2 v (parts (post x)) := RowS.keep r2 fun o ho => q3.2 o (RowS.low r2 lo2 o ho) id
    simp only [vms, vmc, AOpd.val, Nat.reduceEqDiff, reduceCtorEq, Nat.reduceAdd, Nat.reduceBEq]
    refine Gives.bind ((right_gives k.base lo3 okx hql r2').mono ?_)
    rintro _ h4 ⟨rfl, q4, lo4⟩
    have e11 : ((11 : Int) == 11) = true := rfl
    simp only [vms, vmc, AOpd.val, Nat.reduceEqDiff, reduceCtorEq, Nat.reduceAdd, Nat.reduceBEq, e11]
    refine Gives.bind ((k.yes _).mono ?_)
    rintro _ _ ⟨rfl, rfl⟩
    simp only [vms, vmc, AOpd.val, Nat.reduceEqDiff, reduceCtorEq, Nat.reduceAdd, Nat.reduceBEq]
  · refine Gives.bind ((parse_ok k.base lo2 hn2).mono ?_)
    rintro _ h3 ⟨q3, lo3, v3, rfl, r3, _, _⟩
    have r2' : RowS h3 2 v (parts (post x)) := RowS.keep r2 fun o ho => q3.2 o (RowS.low r2 lo2 o ho) id
    simp only [vms, vmc, AOpd.val, Nat.reduceEqDiff, reduceCtorEq, Nat.reduceAdd, Nat.reduceBEq]
    refine Gives.bind ((right_gives k.base lo3 okx hql r2').mono ?_)
    rintro _ h4 ⟨rfl, q4, lo4⟩
    have e11 : ((0 : Int) == 11) = false := rfl
    have e0 : ((0 : Int) == 0) = true := rfl
    have r3' : RowS h4 2 v3 (parts (post x)) := RowS.keep r3 fun o ho => q4.2 o (RowS.low r3 lo3 o ho) id
    have r2'' : RowS h4 2 v (parts (post x)) := RowS.keep r2' fun o ho => q4.2 o (RowS.low r2' lo3 o ho) id
    simp only [vms, vmc, AOpd.val, Nat.reduceEqDiff, reduceCtorEq, Nat.reduceAdd, Nat.reduceBEq, e11, e0]
    refine Gives.bind ((samePart_ok k.base r3' r2'' (by omega)).mono ?_)
    rintro _ _ ⟨rfl, rfl⟩
    simp only [vms, vmc, AOpd.val, Nat.reduceEqDiff, reduceCtorEq, Nat.reduceAdd, Nat.reduceBEq]
    refine Gives.bind ((k.yes _).mono ?_)
    rintro _ _ ⟨rfl, rfl⟩
    simp only [vms, vmc, AOpd.val, Nat.reduceEqDiff, reduceCtorEq, Nat.reduceAdd, Nat.reduceBEq]
theorem c4_eq : c4 = .seq (.ops [⟨(some 2), .mov (.con (.bool false)), none⟩])
  (.seq (.seq (.ops [⟨(some 7), .mov (.tmp 0), none⟩, ⟨(some 8), .lenStr (.tmp 7), none⟩, ⟨(some 9), .bin .gtr (.tmp 8) (.con (.int .i64 200)), none⟩])
  (.cond (.tmp 9) (.ops [⟨(some 10), .mov (.tmp 0), none⟩, ⟨(some 11), .slcStr (.tmp 10) none (some (.con (.int .i64 200))), none⟩, ⟨(some 0), .mov (.tmp 11), none⟩]) .skip)) (cSnd (cSnd c4))) := rfl
theorem back_run (k : Fits T) (hl : Low h) {s : Txt} : Gives T 4 [.str s] h fun r _ => r = .bool true := by
  refine gives_func (k.base.env 4 (by decide)) (k.base.at (n := 4) rfl) rfl ?_
  have main := fun (s : Txt) (f : Fr) (f0 : f.at 0 = .str s) => back_main k hl (f := f) f0
  simp only [a4]
  rw [c4_eq]
  generalize cSnd (cSnd c4) = rest at *
  by_cases hb : (s.length : Int) > 200
  · have s1 : slcStrV (.str s) none (some (.int .i64 200)) = some (.str (s.take 200)) := slcTo (n := 200) (by omega)
    simp only [vms, vmc, AOpd.val, Nat.reduceEqDiff, reduceCtorEq, Nat.reduceAdd, Nat.reduceBEq, decide_eq_true hb, s1]
    exact main (s.take 200) _ (by simp only [vms, vmc, AOpd.val, Nat.reduceEqDiff, reduceCtorEq, Nat.reduceAdd, Nat.reduceBEq])
  · simp only [vms, vmc, AOpd.val, Nat.reduceEqDiff, reduceCtorEq, Nat.reduceAdd, Nat.reduceBEq, decide_eq_false hb]
    exact main s _ (by simp only [vms, vmc, AOpd.val, Nat.reduceEqDiff, reduceCtorEq, Nat.reduceAdd, Nat.reduceBEq])
end Go.Proofs.Ytjbkjffolnodjaa

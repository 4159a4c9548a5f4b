/- The law NodeKids. -/
import Derived.Test.YtpabmkicdcilpaaP7K
namespace Go.Proofs.Ytpabmkicdcilpaa
open Go.Vm
set_option linter.unusedSimpArgs false
set_option linter.unusedVariables false
set_option maxRecDepth 100000
variable {T : Vm.Prog} {h : AH}
theorem wrap_u8' {c : Nat} (hc : c < 256) : IntKind.u8.wrap (c : Int) = (c : Int) := by
  unfold IntKind.wrap; simp [IntKind.bits, IntKind.signed]; omega
/-- What Find tells of two nodes, at each byte. -/
theorem kids_loop (k : Fits T) (hl : Low h) {n m : NodeP} {p7 p11 : Nat} {kv iv mk mi : AV} {b : Nat} {kid : Int} (rn : RightP n) (rm : RightP m) (okn : n.Ok) (okm : m.Ok) (hn : Held h p7 kv iv n) (hm : Held h p11 mk mi m) (hb : b < 256)
    (hat : ∀ c x, At m c x ↔ (c = b ∧ x = kid) ∨ (c ≠ b ∧ At n c x)) {f : Fr} (f1 : f.at 1 = .int .u8 (b : Int)) (f7 : f.at 7 = .ptr p7 0) (f8 : f.at 8 = .int .i64 kid) (f11 : f.at 11 = .ptr p11 0) (f13 : f.at 13 = .int .i64 0) {Q : AExit → Fr → AH → Prop}
    (hq : ∀ f' g, Quiet h g → Low g → (f'.at 1 = f.at 1 ∧ f'.at 7 = f.at 7 ∧ f'.at 8 = f.at 8 ∧ f'.at 9 = f.at 9 ∧ f'.at 10 = f.at 10 ∧ f'.at 11 = f.at 11) → Q (.exit 0) f' g) : Wp (code T (.loop c7l0) f h) Q := by
  refine wpc_loop (fun d f' g => ∃ c, d = 256 - c ∧ c ≤ 256 ∧ Quiet h g ∧ Low g ∧ (f'.at 1 = f.at 1 ∧ f'.at 7 = f.at 7 ∧ f'.at 8 = f.at 8 ∧ f'.at 9 = f.at 9 ∧ f'.at 10 = f.at 10 ∧ f'.at 11 = f.at 11) ∧ f'.at 13 = .int .i64 (c : Nat)) ?_ 256 _ _ ⟨0, rfl, by omega, Quiet.refl _, hl, ⟨rfl, rfl, rfl, rfl, rfl, rfl⟩, f13⟩
  rintro _ f' g ⟨c, rfl, hc, q, lo, hf, g13⟩
  obtain ⟨e1, e7, e8, e9, e10, e11⟩ := hf
  have g1 := e1.trans f1
  have g7 := e7.trans f7
  have g8 := e8.trans f8
  have g11 := e11.trans f11
  by_cases h1 : c < 256
  · have d1 : decide ((c : Int) < 256) = true := by rw [decide_eq_true_eq]; omega
    have w1 : IntKind.i64.wrap ((c : Int) + 1) = ((c + 1 : Nat) : Int) := by rw [wrap_i64 (by omega) (by omega)]; omega
    have hn1 := hn.keep hl q
    simp only [c7l0, vms, vmc, AOpd.val, Nat.reduceEqDiff, reduceCtorEq, Nat.reduceAdd, Nat.reduceBEq, g1, g7, g8, g11, g13, d1, hn1.load, wrap_u8' h1]
    refine Gives.bind ((findR_ok k lo rn okn hn1.v).mono ?_)
    rintro r1 g2 ⟨q2, lo2, hr1⟩
    obtain ⟨x, p, rfl, hxp⟩ : ∃ x p, r1 = .tuple [.int .i64 x, .bool p] ∧ ((p = true ∧ At n c x) ∨ (p = false ∧ x = 0 ∧ ∀ y, ¬ At n c y)) := by
      rcases hr1 with ⟨x, h1, rfl⟩ | ⟨h1, rfl⟩
      · exact ⟨x, true, rfl, .inl ⟨rfl, h1⟩⟩
      · exact ⟨0, false, rfl, .inr ⟨rfl, rfl, h1⟩⟩
    have hm2 := (hm.keep hl q).keep lo q2
    simp only [vms, vmc, AOpd.val, Nat.reduceEqDiff, reduceCtorEq, Nat.reduceAdd, Nat.reduceBEq, g1, g7, g8, g11, g13, hm2.load, wrap_u8' h1]
    refine Gives.bind ((findR_ok k lo2 rm okm hm2.v).mono ?_)
    rintro r2 g3 ⟨q3, lo3, hr2⟩
    obtain ⟨y, p', rfl, hyp⟩ : ∃ y p', r2 = .tuple [.int .i64 y, .bool p'] ∧ ((p' = true ∧ At m c y) ∨ (p' = false ∧ y = 0 ∧ ∀ z, ¬ At m c z)) := by
      rcases hr2 with ⟨x, h1, rfl⟩ | ⟨h1, rfl⟩
      · exact ⟨x, true, rfl, .inl ⟨rfl, h1⟩⟩
      · exact ⟨0, false, rfl, .inr ⟨rfl, rfl, h1⟩⟩
    have next : ∃ m', m' < 256 - c ∧ ∃ c', m' = 256 - c' ∧ c' ≤ 256 ∧ Quiet h g3 ∧ Low g3 ∧ True ∧ c' = c + 1 := ⟨256 - (c + 1), by omega, c + 1, rfl, by omega, (q.trans q2).trans q3, lo3, trivial, rfl⟩
    by_cases hcb : c = b
    · have c1 : ((c : Int) == (b : Int)) = true := by simp [hcb]
      have c1' : ((c : Int) != (b : Int)) = false := by simp [hcb]
      have hAt : At m c kid := (hat c kid).2 (.inl ⟨hcb, rfl⟩)
      have hy : p' = true ∧ y = kid := by
        rcases hyp with ⟨h2, h3⟩ | ⟨h2, _, h3⟩
        · exact ⟨h2, rm.at_eq h3 hAt⟩
        · exact absurd hAt (h3 _)
      obtain ⟨rfl, rfl⟩ := hy
      simp only [vms, vmc, AOpd.val, Nat.reduceEqDiff, reduceCtorEq, Nat.reduceAdd, Nat.reduceBEq, g1, g7, g8, g11, g13, c1, c1', wrap_u8' h1, Bool.not_true, w1]
      refine ⟨256 - (c + 1), by omega, c + 1, rfl, by omega, (q.trans q2).trans q3, lo3, ?_, ?_⟩
      · simp only [vms, vmc, AOpd.val, Nat.reduceEqDiff, reduceCtorEq, Nat.reduceAdd, Nat.reduceBEq, e1, e7, e8, e9, e10, e11, f1, f7, f8, f11]; exact ⟨trivial, trivial, trivial, trivial, trivial, trivial⟩
      · simp only [vms, vmc, AOpd.val, Nat.reduceEqDiff, reduceCtorEq, Nat.reduceAdd, Nat.reduceBEq]
    · have c1 : ((c : Int) == (b : Int)) = false := by rw [beq_eq_false_iff_ne]; omega
      have c1' : ((c : Int) != (b : Int)) = true := by simp only [bne_iff_ne, ne_eq]; omega
      have hxy : x = y ∧ p = p' := by
        rcases hxp with ⟨rfl, h2⟩ | ⟨rfl, rfl, h2⟩ <;> rcases hyp with ⟨rfl, h3⟩ | ⟨rfl, rfl, h3⟩
        · have := (hat c y).1 h3
          rcases this with ⟨h4, _⟩ | ⟨_, h4⟩
          · exact absurd h4 hcb
          · exact ⟨rn.at_eq h2 h4, rfl⟩
        · exact absurd ((hat c x).2 (.inr ⟨hcb, h2⟩)) (h3 _)
        · rcases (hat c y).1 h3 with ⟨h4, _⟩ | ⟨_, h4⟩
          · exact absurd h4 hcb
          · exact absurd h4 (h2 _)
        · exact ⟨rfl, rfl⟩
      obtain ⟨rfl, rfl⟩ := hxy
      have eb : eqBV true (.bool p) (.bool p) = some (.bool false) := by cases p <;> rfl
      simp only [vms, vmc, AOpd.val, Nat.reduceEqDiff, reduceCtorEq, Nat.reduceAdd, Nat.reduceBEq, g1, g7, g8, g11, g13, c1, c1', wrap_u8' h1, eb, w1]
      refine ⟨256 - (c + 1), by omega, c + 1, rfl, by omega, (q.trans q2).trans q3, lo3, ?_, ?_⟩
      · simp only [vms, vmc, AOpd.val, Nat.reduceEqDiff, reduceCtorEq, Nat.reduceAdd, Nat.reduceBEq, e1, e7, e8, e9, e10, e11, f1, f7, f8, f11]; exact ⟨trivial, trivial, trivial, trivial, trivial, trivial⟩
      · simp only [vms, vmc, AOpd.val, Nat.reduceEqDiff, reduceCtorEq, Nat.reduceAdd, Nat.reduceBEq]
  · have d1 : decide ((c : Int) < 256) = false := by rw [decide_eq_false_iff_not]; omega
    simp only [c7l0, vms, vmc, AOpd.val, Nat.reduceEqDiff, reduceCtorEq, Nat.reduceAdd, Nat.reduceBEq, g13, d1]
    refine hq _ _ q lo ?_
    simp only [vms, vmc, AOpd.val, Nat.reduceEqDiff, reduceCtorEq, Nat.reduceAdd, Nat.reduceBEq, e1, e7, e8, e9, e10, e11, f1, f7, f8, f11]; exact ⟨trivial, trivial, trivial, trivial, trivial, trivial⟩
theorem kids_run (k : Fits T) (hl : Low h) {kd : Int} {wd : Nat} {px : List UInt8} {skv : AV} {fr n0 : Int} {ks : List Nat} {b : Nat} (hb : b < 256) (hwd : wd < 18446744073709551616) (hpx : px.length < 9223372036854775808) (ss : Sees h skv (kcells ks)) (hks : ∀ x ∈ ks, x < 256) :
    Gives T 7 [.agg (kidsCells kd wd px skv fr), .int .u8 (b : Int), .int .i64 n0] h fun r _ => r = .bool true := by
  refine gives_func (k.env _ (by decide)) (k.at (fn := a7) rfl) rfl ?_
  have fa : ∀ o j, fieldAddrV j (.ptr o 0) = some (.ptr o (0 + j)) := fun o j => rfl
  have q1 : Quiet h (h.new (.cells (kidsCells kd wd px skv fr) true)) := (Quiet.refl _).new _
  have lo1 : Low (h.new (.cells (kidsCells kd wd px skv fr) true)) := hl.new _
  have g1 : (h.new (.cells (kidsCells kd wd px skv fr) true)).get h.next = some (.cells (kidsCells kd wd px skv fr) true) := get_new_same
  have ss1 := sees_keep ss hl q1
  simp only [a7, c7, vms, vmc, AOpd.val, Nat.reduceEqDiff, reduceCtorEq, Nat.reduceAdd, Nat.reduceBEq, box_agg]
  generalize (h.new (.cells (kidsCells kd wd px skv fr) true)) = h1 at *
  simp only [load_all g1 (n := 5) rfl, vms, vmc, AOpd.val, Nat.reduceEqDiff, reduceCtorEq, Nat.reduceAdd, Nat.reduceBEq]
  refine Gives.bind ((made_ok k lo1 hwd hpx ss1 hks).mono ?_)
  rintro mv h2 ⟨q2, lo2, n, hN, hR, ok, hk1, hk4, hby⟩
  obtain ⟨kv, iv, h3, rfl, st3, he3, q3, lo3, nx3, ob1, ob2, _⟩ := keepN lo2 hN
  simp only [vms, vmc, AOpd.val, Nat.reduceEqDiff, reduceCtorEq, Nat.reduceAdd, Nat.reduceBEq, st3]
  refine Gives.bind ((within_nat k (hi := 1023) (by decide)).mono ?_)
  rintro _ _ ⟨c, rfl, hc, rfl⟩
  rename_i h3
  have hv : Valid c 999 := ⟨by omega, by omega, by omega⟩
  simp only [vms, vmc, AOpd.val, Nat.reduceEqDiff, reduceCtorEq, Nat.reduceAdd, Nat.reduceBEq]
  refine Gives.bind ((ref_ok k (g := 999) (l := false) hv).mono ?_)
  rintro _ _ ⟨rfl, rfl⟩
  rename_i h3
  obtain ⟨kid, hkid⟩ : ∃ kid : Int, kid = ((refN c 999 false : Nat) : Int) := ⟨_, rfl⟩
  have hkr : isRefP kid = true := by rw [hkid]; exact isRefP_ref hv
  rw [← hkid]
  simp only [vms, vmc, AOpd.val, Nat.reduceEqDiff, reduceCtorEq, Nat.reduceAdd, Nat.reduceBEq, he3.load]
  refine Gives.bind ((findR_ok k lo3 hR ok he3.v).mono ?_)
  rintro r1 h4 ⟨q4, lo4, hr1⟩
  obtain ⟨was, there, rfl, hwas⟩ : ∃ x p, r1 = .tuple [.int .i64 x, .bool p] ∧ ((p = true ∧ At n b x) ∨ (p = false ∧ ∀ y, ¬ At n b y)) := by
    rcases hr1 with ⟨x, h1, rfl⟩ | ⟨h1, rfl⟩
    · exact ⟨x, true, rfl, .inl ⟨rfl, h1⟩⟩
    · exact ⟨0, false, rfl, .inr ⟨rfl, h1⟩⟩
  have he4 := he3.keep lo3 q4
  simp only [vms, vmc, AOpd.val, Nat.reduceEqDiff, reduceCtorEq, Nat.reduceAdd, Nat.reduceBEq, he4.load]
  refine Gives.bind ((with_ok k lo4 ok he4.v (b := b) (kid := kid)).mono ?_)
  rintro r2 h5 ⟨q5, lo5, hw⟩
  have he5 := he4.keep lo4 q5
  rcases hw with ⟨hW, rfl⟩ | ⟨m, mv, hW, hM, rfl⟩
  · -- no room
    obtain ⟨zk, zi, h6, hz0, st6, _, q6, lo6, _⟩ := keepN (N := 0) lo5 zeroP_n
    have he6 := he5.keep lo5 q6
    have hfull : (∀ i : Nat, n.keys[i]? ≠ some b) ∧ highP n.kind ≤ n.keys.length := by
      rcases hW with h1 | h1 | h1
      · exact absurd hR h1
      · rw [hkr] at h1; cases h1
      · exact h1
    have hth : there = false := by
      rcases hwas with ⟨_, i, h1, _⟩ | ⟨h1, _⟩
      · exact absurd h1 (hfull.1 i)
      · exact h1
    subst hth
    have hfew := hR.few
    have d1 : ((n.keys.length : Int) == (highP n.kind : Nat)) = true := by rw [beq_iff_eq]; omega
    simp only [items_test, vms, vmc, AOpd.val, Nat.reduceEqDiff, reduceCtorEq, Nat.reduceAdd, Nat.reduceBEq, st6, Bool.not_false, fa, Nat.zero_add, he6.keys, he6.len, he6.kind]
    refine Gives.bind ((high_ok k).mono ?_)
    rintro _ _ ⟨rfl, rfl⟩
    rename_i h6
    simp only [items_test, vms, vmc, AOpd.val, Nat.reduceEqDiff, reduceCtorEq, Nat.reduceAdd, Nat.reduceBEq, d1]
    rw [items_look (look_want (by simp only [vms, vmc, AOpd.val, Nat.reduceEqDiff, reduceCtorEq, Nat.reduceAdd, Nat.reduceBEq]) (look_load (v := kv) (by show loadV _ _ _ (Fr.at _ _) = _; simp only [vms, vmc, AOpd.val, Nat.reduceEqDiff, reduceCtorEq, Nat.reduceAdd, Nat.reduceBEq]; exact he6.keys) (by simp only [vms, vmc, AOpd.val, Nat.reduceEqDiff, reduceCtorEq, Nat.reduceAdd, Nat.reduceBEq]) (sees_beq he6.sk)))]
    simp only [items_test, vms, vmc, AOpd.val, Nat.reduceEqDiff, reduceCtorEq, Nat.reduceAdd, Nat.reduceBEq]
    refine Gives.bind ((k.yes _).mono ?_)
    rintro _ _ ⟨rfl, rfl⟩
    simp only [vms, vmc, AOpd.val, Nat.reduceEqDiff, reduceCtorEq, Nat.reduceAdd, Nat.reduceBEq]
  · obtain ⟨mk, mi, h6, rfl, st6, hm6, q6, lo6, nx6, _⟩ := keepN lo5 hM
    obtain ⟨rm, hat, ek, ew, ep⟩ := with_right hW
    have okm := rm.ok (by rw [ew]; exact ok.word)
    have he6 := he5.keep lo5 q6
    simp only [vms, vmc, AOpd.val, Nat.reduceEqDiff, reduceCtorEq, Nat.reduceAdd, Nat.reduceBEq, st6, Bool.not_true]
    refine kids_loop k lo6 hR rm ok okm he6 hm6 hb hat ?_ ?_ ?_ ?_ ?_ ?_
    · simp only [vms, vmc, AOpd.val, Nat.reduceEqDiff, reduceCtorEq, Nat.reduceAdd, Nat.reduceBEq]
    · simp only [vms, vmc, AOpd.val, Nat.reduceEqDiff, reduceCtorEq, Nat.reduceAdd, Nat.reduceBEq]
    · simp only [vms, vmc, AOpd.val, Nat.reduceEqDiff, reduceCtorEq, Nat.reduceAdd, Nat.reduceBEq]
    · simp only [vms, vmc, AOpd.val, Nat.reduceEqDiff, reduceCtorEq, Nat.reduceAdd, Nat.reduceBEq]
    · simp only [vms, vmc, AOpd.val, Nat.reduceEqDiff, reduceCtorEq, Nat.reduceAdd, Nat.reduceBEq]
    intro f7 h7 q7 lo7 hf
    simp only [vms, vmc, AOpd.val, Nat.reduceEqDiff, reduceCtorEq, Nat.reduceAdd, Nat.reduceBEq] at hf
    obtain ⟨a1, a7', a8, a9, a10, a11⟩ := hf
    have he7 := he6.keep lo6 q7
    have hm7 := hm6.keep lo6 q7
    simp only [vms, vmc, AOpd.val, Nat.reduceEqDiff, reduceCtorEq, Nat.reduceAdd, Nat.reduceBEq, a1, a7', a8, a9, a10, a11, hm7.load]
    refine Gives.bind ((without_ok k lo7 okm hm7.v hm7.capped (b := b)).mono ?_)
    rintro r3 h8 ⟨q8, lo8, hw3⟩
    have hbm : At m b kid := (hat b kid).2 (.inl ⟨rfl, rfl⟩)
    rcases hw3 with ⟨hW3, rfl⟩ | ⟨l, lv, hW3, hL, rfl⟩
    · exfalso
      rcases hW3 with h1 | h1
      · exact h1 rm
      · obtain ⟨i, h2, _⟩ := hbm; exact h1 i h2
    · obtain ⟨lk, li, h9, rfl, st9, hl9, q9, lo9, nx9, _⟩ := keepN lo8 hL
      obtain ⟨rl, hatl, elk, elw, elp⟩ := without_right hW3
      have okl := rl.ok (by rw [elw, ew]; exact ok.word)
      have he9 := (he7.keep lo7 q8).keep lo8 q9
      have hm9 := (hm7.keep lo7 q8).keep lo8 q9
      simp only [vms, vmc, AOpd.val, Nat.reduceEqDiff, reduceCtorEq, Nat.reduceAdd, Nat.reduceBEq, st9, a1, a7', a8, a9, a10, a11, Bool.not_true, hm9.load]
      refine Gives.bind ((right_ok k lo9 okm hm9.v).mono ?_)
      rintro _ h10 ⟨rfl, q10, lo10⟩
      have he10 := he9.keep lo9 q10
      have hl10 := hl9.keep lo9 q10
      simp only [vms, vmc, AOpd.val, Nat.reduceEqDiff, reduceCtorEq, Nat.reduceAdd, Nat.reduceBEq, rightP_iff.2 rm, a1, a7', a8, a9, a10, a11, Bool.not_true, hl10.load]
      refine Gives.bind ((right_ok k lo10 okl hl10.v).mono ?_)
      rintro _ h11 ⟨rfl, q11, lo11⟩
      have he11 := he10.keep lo10 q11
      have hl11 := hl10.keep lo10 q11
      rcases hwas with ⟨rfl, hwb⟩ | ⟨rfl, hwb⟩
      · -- it was there
        simp only [vms, vmc, AOpd.val, Nat.reduceEqDiff, reduceCtorEq, Nat.reduceAdd, Nat.reduceBEq, rightP_iff.2 rl, a1, a7', a8, a9, a10, a11, Bool.not_true, hl11.load]
        refine Gives.bind ((with_ok k lo11 okl hl11.v (b := b) (kid := was)).mono ?_)
        rintro r4 h12 ⟨q12, lo12, hw4⟩
        rcases hw4 with ⟨hW4, rfl⟩ | ⟨o, ov, hW4, hO, rfl⟩
        · exfalso
          rcases hW4 with h1 | h1 | ⟨_, h1⟩
          · exact h1 rl
          · obtain ⟨i, _, h2⟩ := hwb
            have := hR.refs i was h2
            rw [this] at h1; cases h1
          · obtain ⟨_, i, h2, rfl⟩ := hW3
            have := (List.getElem?_eq_some_iff.1 h2).1
            have := rm.few
            simp only [List.length_append, List.length_take, List.length_drop] at h1
            omega
        · obtain ⟨ok', oi', h13, rfl, st13, ho13, q13, lo13, _⟩ := keepN lo12 hO
          obtain ⟨ro, hato, eok, eow, eop⟩ := with_right hW4
          have oko := ro.ok (by rw [eow, elw, ew]; exact ok.word)
          have he13 := (he11.keep lo11 q12).keep lo12 q13
          have hon : o = n := node_ext ro hR (by rw [eok, elk, ek]) (by rw [eow, elw, ew]) (by rw [eop, elp, ep]) fun c x => by
            rw [hato, hatl, hat]
            constructor
            · rintro (⟨rfl, rfl⟩ | ⟨h1, _, h2⟩)
              · exact hwb
              · rcases h2 with ⟨h3, _⟩ | ⟨_, h3⟩
                · exact absurd h3 h1
                · exact h3
            · intro hx
              by_cases hcb : c = b
              · subst hcb; exact .inl ⟨rfl, hR.at_eq hx hwb⟩
              · exact .inr ⟨hcb, hcb, .inr ⟨hcb, hx⟩⟩
          simp only [vms, vmc, AOpd.val, Nat.reduceEqDiff, reduceCtorEq, Nat.reduceAdd, Nat.reduceBEq, st13, a1, a7', a8, a9, a10, a11, ho13.load, he13.load]
          refine Gives.bind ((same_ok k lo13 oko ok ho13.v he13.v).mono ?_)
          rintro _ h14 ⟨q14, lo14, bb, rfl, hbb⟩
          have : bb = true := hbb.2 hon
          subst this
          simp only [vms, vmc, AOpd.val, Nat.reduceEqDiff, reduceCtorEq, Nat.reduceAdd, Nat.reduceBEq]
          refine Gives.bind ((k.yes _).mono ?_)
          rintro _ _ ⟨rfl, rfl⟩
          simp only [vms, vmc, AOpd.val, Nat.reduceEqDiff, reduceCtorEq, Nat.reduceAdd, Nat.reduceBEq]
      · -- it wasn't
        have hln : l = n := node_ext rl hR (by rw [elk, ek]) (by rw [elw, ew]) (by rw [elp, ep]) fun c x => by
          rw [hatl, hat]
          constructor
          · rintro ⟨h1, h2⟩
            rcases h2 with ⟨h3, _⟩ | ⟨_, h3⟩
            · exact absurd h3 h1
            · exact h3
          · intro hx
            have hcb : c ≠ b := fun e => hwb x (e ▸ hx)
            exact ⟨hcb, .inr ⟨hcb, hx⟩⟩
        simp only [vms, vmc, AOpd.val, Nat.reduceEqDiff, reduceCtorEq, Nat.reduceAdd, Nat.reduceBEq, rightP_iff.2 rl, a1, a7', a8, a9, a10, a11, Bool.not_true, hl11.load, he11.load]
        refine Gives.bind ((same_ok k lo11 okl ok hl11.v he11.v).mono ?_)
        rintro _ h14 ⟨q14, lo14, bb, rfl, hbb⟩
        have : bb = true := hbb.2 hln
        subst this
        simp only [vms, vmc, AOpd.val, Nat.reduceEqDiff, reduceCtorEq, Nat.reduceAdd, Nat.reduceBEq]
        refine Gives.bind ((k.yes _).mono ?_)
        rintro _ _ ⟨rfl, rfl⟩
        simp only [vms, vmc, AOpd.val, Nat.reduceEqDiff, reduceCtorEq, Nat.reduceAdd, Nat.reduceBEq]
end Go.Proofs.Ytpabmkicdcilpaa

/- SpanBacks, in plain Lean: the law. -/
import Derived.Test.YtggjkebeejpjfaaDoorSpG
set_option linter.unusedSimpArgs false
set_option linter.unusedVariables false
namespace Go.Am.Sp
open Go.Am
variable {P : Prog}
set_option maxRecDepth 20000
set_option maxHeartbeats 1000000
theorem bak_len (b : List UInt8) : ∀ (l : List Edit) (s : Int), (bak b s l).length = l.length
  | [], _ => rfl
  | e :: r, s => by simp only [bak, List.length_cons, bak_len b r]
theorem bak_law {b c : List UInt8} : ∀ (l : List Edit) (m : Nat) (s : Int) (M : Nat) (p : List UInt8), okD b.length m l → (M : Int) = m + s → p.length = M → c = p ++ appD b m l →
    okD c.length M (bak b s l) ∧ appD c M (bak b s l) = b.drop m ∧ ∀ k, k < l.length → (0 ≤ ((bak b s l).getD k default).f ∧ ((bak b s l).getD k default).f ≤ ((bak b s l).getD k default).t ∧ ((bak b s l).getD k default).t ≤ c.length) ∧
      (c.take ((bak b s l).getD k default).t.toNat).drop ((bak b s l).getD k default).f.toNat = (l.getD k default).x ∧ ((bak b s l).getD k default).x = (b.take (l.getD k default).t.toNat).drop (l.getD k default).f.toNat
  | [], m, s, M, p, h, hM, hp, hc => by
    refine ⟨?_, ?_, fun k hk => by simp at hk⟩
    · simp only [bak, okD, hc, List.length_append]; omega
    · simp only [bak, appD, hc, ← hp, List.drop_left]
  | e :: r, m, s, M, p, h, hM, hp, hc => by
    obtain ⟨h1, h2, h3, h4⟩ := h
    obtain ⟨F, hf⟩ := Int.eq_ofNat_of_zero_le (show 0 ≤ e.f by omega)
    obtain ⟨T, ht⟩ := Int.eq_ofNat_of_zero_le (show 0 ≤ e.t by omega)
    rw [ht, Int.toNat_natCast] at h4
    obtain ⟨A, hA⟩ := Int.eq_ofNat_of_zero_le (show 0 ≤ e.f + s by omega)
    have hl0 : ((b.take F).drop m).length = F - m := by rw [List.length_drop, List.length_take]; omega
    simp only [appD, hf, ht, Int.toNat_natCast] at hc
    have hB : (e.f + s + e.x.length) = ((A + e.x.length : Nat) : Int) := by omega
    obtain ⟨i1, i2, i3⟩ := bak_law (b := b) (c := c) r T (s + (e.x.length - (e.t - e.f))) (A + e.x.length) (p ++ ((b.take F).drop m ++ e.x)) h4 (by omega) (by simp only [List.length_append, hl0]; omega) (by rw [hc]; simp only [List.append_assoc])
    have hcl : A + e.x.length ≤ c.length := by rw [hc]; simp only [List.length_append, hl0]; omega
    have e1 : (c.take A).drop M = (b.take F).drop m := by
      have : c.take A = p ++ (b.take F).drop m := by
        rw [hc, ← List.append_assoc, ← List.append_assoc, List.append_assoc _ e.x]
        exact List.take_left' (by simp only [List.length_append, hl0]; omega)
      rw [this, ← hp, List.drop_left]
    have e2 : (c.take (A + e.x.length)).drop A = e.x := by
      have : c.take (A + e.x.length) = p ++ (b.take F).drop m ++ e.x := by
        rw [hc, ← List.append_assoc, ← List.append_assoc]
        exact List.take_left' (by simp only [List.length_append, hl0]; omega)
      rw [this]
      exact List.drop_left' (by simp only [List.length_append, hl0]; omega)
    have e3 : (b.take F).drop m ++ (b.take T).drop F ++ b.drop T = b.drop m := by
      have a1 : (b.take T).drop F ++ b.drop T = b.drop F := by
        rw [← List.drop_append_of_le_length (by rw [List.length_take]; omega), List.take_append_drop]
      rw [List.append_assoc, a1, ← List.drop_append_of_le_length (by rw [List.length_take]; omega), List.take_append_drop]
    have ek : bak b s (e :: r) = ⟨(A : Int), ((A + e.x.length : Nat) : Int), (b.take T).drop F⟩ :: bak b (s + (e.x.length - (e.t - e.f))) r := by
      simp only [bak, hA, hf, ht, Int.toNat_natCast] at hB ⊢
      rw [hf] at hA
      rw [hB, hA]
    rw [ek]
    refine ⟨⟨by simp only; omega, by simp only; omega, by simp only; omega, by simpa only [Int.toNat_natCast] using i1⟩, ?_, fun k hk => ?_⟩
    · simp only [appD, Int.toNat_natCast]
      rw [e1, i2, e3]
    · cases k with
      | zero =>
        simp only [List.getD_cons_zero, Int.toNat_natCast, hf, ht]
        exact ⟨⟨by omega, by omega, by omega⟩, e2, trivial⟩
      | succ k =>
        simp only [List.getD_cons_succ]
        exact i3 k (by simpa using hk)
theorem backs_fun (hP : SpA P) (h17 : P.pure 17 = 1) (b : List UInt8) (l : List Edit) (n1 f1 n2 f2 : Bool) (hb : b.length ≤ 9223372036854775807) (hl : l.length ≤ 9223372036854775807) (hx : ∀ e ∈ l, e.x.length ≤ 9223372036854775807) (h : Heap) :
    Fun P 5 [slv n1 f1 b, slv n2 f2 l] h (fun v _ => v = .bool true) := by
  refine Fun.of (code := a5c) (by rw [hP.fn]; rfl) (by rw [hP.pure _ (by decide)]; rfl) ?_
  simp (disch := omega) only [go_sem, ne_eq, not_true_eq_false, not_false_eq_true, ↓reduceIte, Nat.reduceEqDiff, Nat.reduceAdd, Nat.reduceLeDiff, Int.toNat_natCast, Int.reduceToNat, and_self, Bool.not_true, Bool.not_false, Bool.false_and, Bool.and_false, Bool.true_and, Bool.and_true, a5c, a5r0, a5r1]
  refine guardS_pf (fun c1 d1 => ?_) (fun c1 d1 => ?_) <;> simp (disch := omega) only [go_sem, ne_eq, not_true_eq_false, not_false_eq_true, ↓reduceIte, Nat.reduceEqDiff, Nat.reduceAdd, Nat.reduceLeDiff, Int.toNat_natCast, Int.reduceToNat, and_self, Bool.not_true, Bool.not_false, Bool.false_and, Bool.and_false, Bool.true_and, Bool.and_true, d1]
  · have hb5 : b.length ≤ 500 := by omega
    refine WO.den (k := 1) (vs := [slv n2 f2 l]) (by rw [hP.pure _ (by decide)]; rfl) (by simp (disch := omega) only [go_sem, ne_eq, not_true_eq_false, not_false_eq_true, ↓reduceIte, Nat.reduceEqDiff, Nat.reduceAdd, Nat.reduceLeDiff, Int.toNat_natCast, Int.reduceToNat, and_self, Bool.not_true, Bool.not_false, Bool.false_and, Bool.and_false, Bool.true_and, Bool.and_true]) (by simp only [lent_11, List.map_cons, List.map_nil, frz_slv]; exact great_den hP.toSpP l n2 f2 hl hx) (fun v hv => by obtain ⟨q, rfl, -⟩ := hv; simp (disch := omega) only [go_sem, ne_eq, not_true_eq_false, not_false_eq_true, ↓reduceIte, Nat.reduceEqDiff, Nat.reduceAdd, Nat.reduceLeDiff, Int.toNat_natCast, Int.reduceToNat, and_self, Bool.not_true, Bool.not_false, Bool.false_and, Bool.and_false, Bool.true_and, Bool.and_true]) (fun v hv => ?_)
    obtain ⟨gb, rfl, hg⟩ := hv
    simp (disch := omega) only [go_sem, ne_eq, not_true_eq_false, not_false_eq_true, ↓reduceIte, Nat.reduceEqDiff, Nat.reduceAdd, Nat.reduceLeDiff, Int.toNat_natCast, Int.reduceToNat, and_self, Bool.not_true, Bool.not_false, Bool.false_and, Bool.and_false, Bool.true_and, Bool.and_true]
    refine condS_split (fun hgb => ?_) (fun hgb => ?_)
    · simp (disch := omega) only [go_sem, ne_eq, not_true_eq_false, not_false_eq_true, ↓reduceIte, Nat.reduceEqDiff, Nat.reduceAdd, Nat.reduceLeDiff, Int.toNat_natCast, Int.reduceToNat, and_self, Bool.not_true, Bool.not_false, Bool.false_and, Bool.and_false, Bool.true_and, Bool.and_true, a5r2]
      refine WO.den (k := 1) (vs := []) (by rw [hP.pure _ (by decide)]; rfl) (by simp (disch := omega) only [go_sem, ne_eq, not_true_eq_false, not_false_eq_true, ↓reduceIte, Nat.reduceEqDiff, Nat.reduceAdd, Nat.reduceLeDiff, Int.toNat_natCast, Int.reduceToNat, and_self, Bool.not_true, Bool.not_false, Bool.false_and, Bool.and_false, Bool.true_and, Bool.and_true]) (awake_den hP) (fun v hv => awake_ok _ _ hv) (fun v hv => ?_)
      subst hv
      simp (disch := omega) only [go_sem, ne_eq, not_true_eq_false, not_false_eq_true, ↓reduceIte, Nat.reduceEqDiff, Nat.reduceAdd, Nat.reduceLeDiff, Int.toNat_natCast, Int.reduceToNat, and_self, Bool.not_true, Bool.not_false, Bool.false_and, Bool.and_false, Bool.true_and, Bool.and_true]
    · obtain ⟨hl6, hx2⟩ := hg hgb
      have hlim := appD_le b 200 l 0 hx2
      have hlim2 : (b.length + 200) * (l.length + 1) ≤ 700 * 601 := Nat.mul_le_mul (by omega) (by omega)
      have chk1 : ∀ h2, Den P 12 (lent (1 + 1) h2 [.int .i64 b.length, slv n2 f2 l]) (fun v => v = .int .i64 (chkE b.length l)) := fun h2 => by
        simp only [lent_11, List.map_cons, List.map_nil, frz_slv, frz_int]; exact refcheck_den hP.toSpP _ l n2 f2 hl
      simp (disch := omega) only [go_sem, ne_eq, not_true_eq_false, not_false_eq_true, ↓reduceIte, Nat.reduceEqDiff, Nat.reduceAdd, Nat.reduceLeDiff, Int.toNat_natCast, Int.reduceToNat, and_self, Bool.not_true, Bool.not_false, Bool.false_and, Bool.and_false, Bool.true_and, Bool.and_true, a5r3]
      refine WO.den (k := 0) (vs := [slv n1 f1 b, slv n2 f2 l]) h17 (by simp (disch := omega) only [go_sem, ne_eq, not_true_eq_false, not_false_eq_true, ↓reduceIte, Nat.reduceEqDiff, Nat.reduceAdd, Nat.reduceLeDiff, Int.toNat_natCast, Int.reduceToNat, and_self, Bool.not_true, Bool.not_false, Bool.false_and, Bool.and_false, Bool.true_and, Bool.and_true]) (by simp only [lent_01]; exact back_den hP.toSpP b l n1 f1 n2 f2 (by omega) (by omega) hx2) (fun v hv => ?_) (fun v hv => ?_)
      · obtain ⟨nl, rfl⟩ := hv
        split
        · refine alone1_tup _ (fun x hx => ?_)
          simp only [List.mem_cons, List.not_mem_nil, or_false] at hx
          rcases hx with rfl | rfl
          · exact pureV_slv _ _ _ _ (Nat.le_refl _)
          · rfl
        · exact alone1_tup _ (fun x hx => by simp only [List.mem_cons, List.not_mem_nil, or_false] at hx; rcases hx with rfl | rfl <;> rfl)
      obtain ⟨nl, rfl⟩ := hv
      by_cases hc : chkE b.length l = 0
      · have hok := (chkE_zero hc).2
        have hT := tame_of l 0 hok (by omega) hx2
        rw [if_pos hc]
        rw [hc] at chk1
        simp (disch := omega) only [go_sem, ne_eq, not_true_eq_false, not_false_eq_true, ↓reduceIte, Nat.reduceEqDiff, Nat.reduceAdd, Nat.reduceLeDiff, Int.toNat_natCast, Int.reduceToNat, and_self, Bool.not_true, Bool.not_false, Bool.false_and, Bool.and_false, Bool.true_and, Bool.and_true, a5r4]
        refine WO.den (k := 1) (vs := [.int .i64 b.length, slv n2 f2 l]) (by rw [hP.pure _ (by decide)]; rfl) (by simp (disch := omega) only [go_sem, ne_eq, not_true_eq_false, not_false_eq_true, ↓reduceIte, Nat.reduceEqDiff, Nat.reduceAdd, Nat.reduceLeDiff, Int.toNat_natCast, Int.reduceToNat, and_self, Bool.not_true, Bool.not_false, Bool.false_and, Bool.and_false, Bool.true_and, Bool.and_true]) (chk1 _) (fun v hv => by subst hv; simp (disch := omega) only [go_sem, ne_eq, not_true_eq_false, not_false_eq_true, ↓reduceIte, Nat.reduceEqDiff, Nat.reduceAdd, Nat.reduceLeDiff, Int.toNat_natCast, Int.reduceToNat, and_self, Bool.not_true, Bool.not_false, Bool.false_and, Bool.and_false, Bool.true_and, Bool.and_true]) (fun v hv => ?_)
        subst hv
        simp (disch := omega) only [go_sem, ne_eq, not_true_eq_false, not_false_eq_true, ↓reduceIte, Nat.reduceEqDiff, Nat.reduceAdd, Nat.reduceLeDiff, Int.toNat_natCast, Int.reduceToNat, and_self, Bool.not_true, Bool.not_false, Bool.false_and, Bool.and_false, Bool.true_and, Bool.and_true, a5r6, a5r8]
        refine WO.fun (vs := [slv n1 f1 b, slv n2 f2 l]) (by simp (disch := omega) only [go_sem, ne_eq, not_true_eq_false, not_false_eq_true, ↓reduceIte, Nat.reduceEqDiff, Nat.reduceAdd, Nat.reduceLeDiff, Int.toNat_natCast, Int.reduceToNat, and_self, Bool.not_true, Bool.not_false, Bool.false_and, Bool.and_false, Bool.true_and, Bool.and_true]) (apply_fun hP _ _ _ (frz_slv _ _ _ _ _ _) (frz_slv _ _ _ _ _ _) (by omega) (by omega) (by omega)) ?_
        rintro v h2 ⟨rfl, rfl⟩
        unfold applyV
        rw [if_pos hc]
        obtain ⟨q1, q2, q3⟩ := bak_law (b := b) (c := appD b 0 l) l 0 0 0 [] hok (by simp) rfl rfl
        have hml := bak_len b l 0
        simp (disch := omega) only [go_sem, ne_eq, not_true_eq_false, not_false_eq_true, ↓reduceIte, Nat.reduceEqDiff, Nat.reduceAdd, Nat.reduceLeDiff, Int.toNat_natCast, Int.reduceToNat, and_self, Bool.not_true, Bool.not_false, Bool.false_and, Bool.and_false, Bool.true_and, Bool.and_true, a5r9, hml, a5r11]
        refine Wp_loop (fun x : Nat × Nat => x.2 ≤ l.length) (fun (t, k) => { fr := [(0, slv n1 f1 b), (1, slv n2 f2 l), (4, .bool false), (5, slv nl false (bak b 0 l)), (7, slv false false (appD b 0 l)), (9, .int .i64 k)], st := t, h := h2 }) (fun x => l.length - x.2) (0, 0) rfl (by simp) ?_
        rintro ⟨t, k⟩ g1
        simp only at g1
        simp (disch := omega) only [go_sem, ne_eq, not_true_eq_false, not_false_eq_true, ↓reduceIte, Nat.reduceEqDiff, Nat.reduceAdd, Nat.reduceLeDiff, Int.toNat_natCast, Int.reduceToNat, and_self, Bool.not_true, Bool.not_false, Bool.false_and, Bool.and_false, Bool.true_and, Bool.and_true, a5l0, a5r12, hml]
        refine condS_if (fun hk => ?_) (fun hk => ?_)
        · have hk' : k < l.length := by omega
          obtain ⟨t0, t1, t2, t3⟩ := hT _ (getD_mem hk')
          obtain ⟨⟨w1, w2, w3⟩, w4, w5⟩ := q3 k hk'
          have hok2 := okD_end hok k hk'
          obtain ⟨F, hf⟩ := Int.eq_ofNat_of_zero_le t0
          obtain ⟨T, ht⟩ := Int.eq_ofNat_of_zero_le (show 0 ≤ (l.getD k default).t by omega)
          obtain ⟨F', hf'⟩ := Int.eq_ofNat_of_zero_le w1
          obtain ⟨T', ht'⟩ := Int.eq_ofNat_of_zero_le (show 0 ≤ ((bak b 0 l).getD k default).t by omega)
          rw [hf', ht'] at w4
          rw [hf, ht] at w5
          simp only [Int.toNat_natCast] at w4 w5
          have z1 : decide ((F' : Int) < 0) = false := by simp only [decide_eq_false_iff_not]; omega
          have z2 : decide (((appD b 0 l).length : Int) < T') = false := by simp only [decide_eq_false_iff_not]; omega
          have z3 : decide ((T' : Int) < F') = false := by simp only [decide_eq_false_iff_not]; omega
          simp (disch := omega) only [go_sem, ne_eq, not_true_eq_false, not_false_eq_true, ↓reduceIte, Nat.reduceEqDiff, Nat.reduceAdd, Nat.reduceLeDiff, Int.toNat_natCast, Int.reduceToNat, and_self, Bool.not_true, Bool.not_false, Bool.false_and, Bool.and_false, Bool.true_and, Bool.and_true, a5d13, hml, hf, ht, hf', ht', z1, z2, z3, w4, w5, decide_false, a5r15]
          exact ⟨(_, k + 1), by simp only; omega, by simp only; omega, rfl⟩
        · have hxb : ∀ e ∈ bak b 0 l, e.x.length ≤ 500 := fun e he => by
            obtain ⟨k, hk, rfl⟩ := List.getElem_of_mem he
            have hk2 : k < l.length := by rw [← hml]; exact hk
            have w5 := (q3 k hk2).2.2
            rw [List.getD_eq_getElem?_getD, List.getElem?_eq_getElem hk, Option.getD_some] at w5
            rw [w5, List.length_drop, List.length_take]; omega
          have hlim3 : ((appD b 0 l).length + 500) * ((bak b 0 l).length + 1) ≤ 421200 * 601 := Nat.mul_le_mul (by omega) (by omega)
          rw [List.drop_zero] at q2
          simp (disch := omega) only [go_sem, ne_eq, not_true_eq_false, not_false_eq_true, ↓reduceIte, Nat.reduceEqDiff, Nat.reduceAdd, Nat.reduceLeDiff, Int.toNat_natCast, Int.reduceToNat, and_self, Bool.not_true, Bool.not_false, Bool.false_and, Bool.and_false, Bool.true_and, Bool.and_true, a5d16]
          refine WD_den (k := 1) (vs := [strv (appD b 0 l), slv nl false (bak b 0 l)]) (by rw [hP.pure _ (by decide)]; rfl) (by simp (disch := omega) only [go_sem, ne_eq, not_true_eq_false, not_false_eq_true, ↓reduceIte, Nat.reduceEqDiff, Nat.reduceAdd, Nat.reduceLeDiff, Int.toNat_natCast, Int.reduceToNat, and_self, Bool.not_true, Bool.not_false, Bool.false_and, Bool.and_false, Bool.true_and, Bool.and_true]) (by simp only [lent_11, List.map_cons, List.map_nil, frz_slv, frz_strv]; exact refapply_den hP.toSpP (appD b 0 l) (bak b 0 l) nl false 500 hxb (by omega) (by omega) q1) (fun v hv => by subst hv; simp (disch := omega) only [go_sem, ne_eq, not_true_eq_false, not_false_eq_true, ↓reduceIte, Nat.reduceEqDiff, Nat.reduceAdd, Nat.reduceLeDiff, Int.toNat_natCast, Int.reduceToNat, and_self, Bool.not_true, Bool.not_false, Bool.false_and, Bool.and_false, Bool.true_and, Bool.and_true]) (fun v hv => ?_) (fun v hv => ?_)
          · subst hv
            simp (disch := omega) only [go_sem, ne_eq, not_true_eq_false, not_false_eq_true, ↓reduceIte, Nat.reduceEqDiff, Nat.reduceAdd, Nat.reduceLeDiff, Int.toNat_natCast, Int.reduceToNat, and_self, Bool.not_true, Bool.not_false, Bool.false_and, Bool.and_false, Bool.true_and, Bool.and_true]
          · subst hv
            rw [q2]
            simp (disch := omega) only [go_sem, ne_eq, not_true_eq_false, not_false_eq_true, ↓reduceIte, Nat.reduceEqDiff, Nat.reduceAdd, Nat.reduceLeDiff, Int.toNat_natCast, Int.reduceToNat, and_self, Bool.not_true, Bool.not_false, Bool.false_and, Bool.and_false, Bool.true_and, Bool.and_true]
            refine WD_den (k := 1) (vs := []) (by rw [hP.pure _ (by decide)]; rfl) (by simp (disch := omega) only [go_sem, ne_eq, not_true_eq_false, not_false_eq_true, ↓reduceIte, Nat.reduceEqDiff, Nat.reduceAdd, Nat.reduceLeDiff, Int.toNat_natCast, Int.reduceToNat, and_self, Bool.not_true, Bool.not_false, Bool.false_and, Bool.and_false, Bool.true_and, Bool.and_true]) (awake_den hP) (fun v hv => awake_ok _ _ hv) (fun v hv => ?_) (fun v hv => ?_)
            · rfl
            · subst hv
              simp (disch := omega) only [go_sem, ne_eq, not_true_eq_false, not_false_eq_true, ↓reduceIte, Nat.reduceEqDiff, Nat.reduceAdd, Nat.reduceLeDiff, Int.toNat_natCast, Int.reduceToNat, and_self, Bool.not_true, Bool.not_false, Bool.false_and, Bool.and_false, Bool.true_and, Bool.and_true]
      · rw [if_neg hc]
        simp (disch := omega) only [go_sem, ne_eq, not_true_eq_false, not_false_eq_true, ↓reduceIte, Nat.reduceEqDiff, Nat.reduceAdd, Nat.reduceLeDiff, Int.toNat_natCast, Int.reduceToNat, and_self, Bool.not_true, Bool.not_false, Bool.false_and, Bool.and_false, Bool.true_and, Bool.and_true, a5r4]
        refine WO.den (k := 1) (vs := [.int .i64 b.length, slv n2 f2 l]) (by rw [hP.pure _ (by decide)]; rfl) (by simp (disch := omega) only [go_sem, ne_eq, not_true_eq_false, not_false_eq_true, ↓reduceIte, Nat.reduceEqDiff, Nat.reduceAdd, Nat.reduceLeDiff, Int.toNat_natCast, Int.reduceToNat, and_self, Bool.not_true, Bool.not_false, Bool.false_and, Bool.and_false, Bool.true_and, Bool.and_true]) (chk1 _) (fun v hv => by subst hv; simp (disch := omega) only [go_sem, ne_eq, not_true_eq_false, not_false_eq_true, ↓reduceIte, Nat.reduceEqDiff, Nat.reduceAdd, Nat.reduceLeDiff, Int.toNat_natCast, Int.reduceToNat, and_self, Bool.not_true, Bool.not_false, Bool.false_and, Bool.and_false, Bool.true_and, Bool.and_true]) (fun v hv => ?_)
        subst hv
        simp (disch := omega) only [go_sem, ne_eq, not_true_eq_false, not_false_eq_true, ↓reduceIte, Nat.reduceEqDiff, Nat.reduceAdd, Nat.reduceLeDiff, Int.toNat_natCast, Int.reduceToNat, and_self, Bool.not_true, Bool.not_false, Bool.false_and, Bool.and_false, Bool.true_and, Bool.and_true, hc, a5r6, a5r7]
        refine WO.den (k := 1) (vs := []) (by rw [hP.pure _ (by decide)]; rfl) (by simp (disch := omega) only [go_sem, ne_eq, not_true_eq_false, not_false_eq_true, ↓reduceIte, Nat.reduceEqDiff, Nat.reduceAdd, Nat.reduceLeDiff, Int.toNat_natCast, Int.reduceToNat, and_self, Bool.not_true, Bool.not_false, Bool.false_and, Bool.and_false, Bool.true_and, Bool.and_true]) (awake_den hP) (fun v hv => awake_ok _ _ hv) (fun v hv => ?_)
        subst hv
        simp (disch := omega) only [go_sem, ne_eq, not_true_eq_false, not_false_eq_true, ↓reduceIte, Nat.reduceEqDiff, Nat.reduceAdd, Nat.reduceLeDiff, Int.toNat_natCast, Int.reduceToNat, and_self, Bool.not_true, Bool.not_false, Bool.false_and, Bool.and_false, Bool.true_and, Bool.and_true]
  · simp (disch := omega) only [go_sem, ne_eq, not_true_eq_false, not_false_eq_true, ↓reduceIte, Nat.reduceEqDiff, Nat.reduceAdd, Nat.reduceLeDiff, Int.toNat_natCast, Int.reduceToNat, and_self, Bool.not_true, Bool.not_false, Bool.false_and, Bool.and_false, Bool.true_and, Bool.and_true, a5r2]
    refine WO.den (k := 1) (vs := []) (by rw [hP.pure _ (by decide)]; rfl) (by simp (disch := omega) only [go_sem, ne_eq, not_true_eq_false, not_false_eq_true, ↓reduceIte, Nat.reduceEqDiff, Nat.reduceAdd, Nat.reduceLeDiff, Int.toNat_natCast, Int.reduceToNat, and_self, Bool.not_true, Bool.not_false, Bool.false_and, Bool.and_false, Bool.true_and, Bool.and_true]) (awake_den hP) (fun v hv => awake_ok _ _ hv) (fun v hv => ?_)
    subst hv
    simp (disch := omega) only [go_sem, ne_eq, not_true_eq_false, not_false_eq_true, ↓reduceIte, Nat.reduceEqDiff, Nat.reduceAdd, Nat.reduceLeDiff, Int.toNat_natCast, Int.reduceToNat, and_self, Bool.not_true, Bool.not_false, Bool.false_and, Bool.and_false, Bool.true_and, Bool.and_true]
end Go.Am.Sp

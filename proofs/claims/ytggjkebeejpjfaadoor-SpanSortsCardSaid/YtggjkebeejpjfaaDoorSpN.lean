/- Merging in a row, in plain Lean: the whole of it. -/
import Derived.Test.YtggjkebeejpjfaaDoorSpM
set_option linter.unusedSimpArgs false
set_option linter.unusedVariables false
namespace Go.Am.Sp
open Go.Am
variable {P : Prog}
set_option maxRecDepth 20000
set_option maxHeartbeats 2000000
theorem stb_nil_left {B : List Edit} (h : Srt B) : Stb ([] ++ B) B := Stb.refl h
theorem sym_fun (hP : SpP P) (o ep N : Nat) (h0 : Heap) (hl : N ≤ 1000000) : ∀ (n : Nat) (p A B q : List Edit) (h : Heap), A.length + B.length ≤ n → A ≠ [] → B ≠ [] → (p ++ A ++ B ++ q).length = N → Srt A → Srt B → At h0 h o ep (p ++ A ++ B ++ q) →
    Fun P 36 [.hs 3 o ep 0 N false, .int .i64 p.length, .int .i64 (p.length + A.length : Nat), .int .i64 (p.length + A.length + B.length : Nat), .fn 26 []] h (fun _ h' => ∃ C, At h0 h' o ep (p ++ C ++ q) ∧ Stb (A ++ B) C)
  | 0, p, A, B, q, h, hn, hA, hB, _, _, _, _ => by
    have := List.length_pos_iff.2 hA
    omega
  | n + 1, p, A, B, q, h, hn, hA, hB, hN, sA, sB, hAt => by
    have ih := sym_fun hP o ep N h0 hl n
    have lA := List.length_pos_iff.2 hA
    have lB := List.length_pos_iff.2 hB
    by_cases a1 : A.length = 1
    · obtain ⟨x, rfl⟩ := List.length_eq_one_iff.1 a1
      exact sym_one hP o ep N h0 hl p B q x h hN sB hAt
    by_cases b1 : B.length = 1
    · obtain ⟨y, rfl⟩ := List.length_eq_one_iff.1 b1
      exact sym_last hP o ep N h0 hl p A q y h (by omega) hN sA hAt
    have hlN : p.length + A.length + B.length + q.length = N := by rw [← hN]; simp only [List.length_append]
    obtain ⟨a, ha⟩ : ∃ a, a = p.length := ⟨_, rfl⟩
    obtain ⟨m, hm⟩ : ∃ m, m = p.length + A.length := ⟨_, rfl⟩
    obtain ⟨b, hb⟩ : ∃ b, b = p.length + A.length + B.length := ⟨_, rfl⟩
    obtain ⟨mid, hmid⟩ : ∃ mid, mid = (a + b) / 2 := ⟨_, rfl⟩
    rw [← hb, ← hm, ← ha]
    refine Fun.of (code := a36c) (by rw [hP.fn]; rfl) (by rw [hP.pure _ (by decide)]; rfl) ?_
    have e1 : decide ((m : Int) - (a : Int) = 1) = false := by simp only [decide_eq_false_iff_not]; omega
    have e2 : decide ((b : Int) - (m : Int) = 1) = false := by simp only [decide_eq_false_iff_not]; omega
    simp (disch := omega) only [go_sem, ne_eq, not_true_eq_false, not_false_eq_true, ↓reduceIte, Nat.reduceEqDiff, Nat.reduceAdd, Nat.reduceLeDiff, Int.toNat_natCast, Int.reduceToNat, and_self, Bool.not_true, Bool.not_false, Bool.false_and, Bool.and_false, Bool.true_and, Bool.and_true, a36c, a36r0, e1, a36r12, e2, a36r24, half, ← hmid, a36r25, a36r26, a36r27]
    obtain ⟨s0, r0, hs0⟩ : ∃ s0 r0, (m > mid ∧ s0 = mid + m - b ∧ r0 = mid) ∨ (¬ m > mid ∧ s0 = a ∧ r0 = m) := by
      by_cases c : m > mid
      · exact ⟨_, _, Or.inl ⟨c, rfl, rfl⟩⟩
      · exact ⟨_, _, Or.inr ⟨c, rfl, rfl⟩⟩
    have x1 : ∀ c, a ≤ c → c < m → (p ++ A ++ B ++ q).getD c default = A.getD (c - a) default := fun c h1 h2 => by
      have := getD_mid p A (B ++ q) (i := c - a) (by omega)
      rw [← this, List.append_assoc _ B]; congr 1; omega
    have x2 : ∀ c, m ≤ c → c < b → (p ++ A ++ B ++ q).getD c default = B.getD (c - m) default := fun c h1 h2 => by
      have := getD_mid (p ++ A) B q (i := c - m) (by omega)
      rw [← this]; congr 1; simp only [List.length_append]; omega
    refine condS_if (fun c0 => ?_) (fun c0 => ?_)
    all_goals
      have hs1 : a ≤ s0 ∧ s0 ≤ r0 ∧ r0 ≤ m ∧ r0 ≤ mid ∧ mid + m ≤ s0 + b := by omega
      have f1 : ((mid + m : Nat) : Int) - 1 = ((mid + m - 1 : Nat) : Int) := by omega
      have f2 : (mid : Int) + (m : Int) = ((mid + m : Nat) : Int) := by omega
      simp (disch := omega) only [go_sem, ne_eq, not_true_eq_false, not_false_eq_true, ↓reduceIte, Nat.reduceEqDiff, Nat.reduceAdd, Nat.reduceLeDiff, Int.toNat_natCast, Int.reduceToNat, and_self, Bool.not_true, Bool.not_false, Bool.false_and, Bool.and_false, Bool.true_and, Bool.and_true, f2, a36r28, a36r29, a36r30, a36r31, a36r32, f1]
      refine Wp_loop (fun x : Nat × Nat × Nat => (s0 ≤ x.2.1 ∧ x.2.1 ≤ x.2.2 ∧ x.2.2 ≤ r0) ∧ (∀ c, s0 ≤ c → c < x.2.1 → (A.getD (c - a) default).f ≤ (B.getD (mid - 1 - c) default).f) ∧ (∀ c, x.2.2 ≤ c → c < r0 → (B.getD (mid - 1 - c) default).f < (A.getD (c - a) default).f))
        (fun (t, s, r) => { fr := [(0, .hs 3 o ep 0 N false), (1, .int .i64 a), (2, .int .i64 m), (3, .int .i64 b), (4, .fn 26 []), (18, .int .i64 mid), (19, .int .i64 (mid + m : Nat)), (20, .int .i64 s), (21, .int .i64 r), (22, .int .i64 (mid + m - 1 : Nat))], st := t, h := h }) (fun x => x.2.2 - x.2.1) (0, s0, r0)
        (by first | (have es0 : ((s0 : Nat) : Int) = ((mid + m : Nat) : Int) - (b : Int) := by omega
                     have er0 : ((r0 : Nat) : Int) = (mid : Int) := by omega
                     simp only [es0, er0]) | (have es0 : ((s0 : Nat) : Int) = (a : Int) := by omega
                                              have er0 : ((r0 : Nat) : Int) = (m : Int) := by omega
                                              simp only [es0, er0])) ⟨⟨by simp, by simp only; omega, by simp⟩, fun c h1 h2 => by simp only at h2; omega, fun c h1 h2 => by simp only at h1; omega⟩ ?_
      rintro ⟨t, s, r⟩ ⟨⟨g1, g2, g3⟩, g4, g5⟩
      simp only at g1 g2 g3 g4 g5
      simp (disch := omega) only [go_sem, ne_eq, not_true_eq_false, not_false_eq_true, ↓reduceIte, Nat.reduceEqDiff, Nat.reduceAdd, Nat.reduceLeDiff, Int.toNat_natCast, Int.reduceToNat, and_self, Bool.not_true, Bool.not_false, Bool.false_and, Bool.and_false, Bool.true_and, Bool.and_true, a36l4, a36r33]
      refine condS_if (fun hk => ?_) (fun hk => ?_)
      · obtain ⟨c, hc⟩ : ∃ c, c = (s + r) / 2 := ⟨_, rfl⟩
        have f3 : ((mid + m - 1 : Nat) : Int) - (c : Int) = ((mid + m - 1 - c : Nat) : Int) := by omega
        have r1 := ld3 (l := p ++ A ++ B ++ q) (k := mid + m - 1 - c) (by omega)
        have r2 := ld3 (l := p ++ A ++ B ++ q) (k := c) (by omega)
        rw [x2 _ (by omega) (by omega), show mid + m - 1 - c - m = mid - 1 - c by omega] at r1
        rw [x1 _ (by omega) (by omega)] at r2
        simp (disch := omega) only [go_sem, ne_eq, not_true_eq_false, not_false_eq_true, ↓reduceIte, Nat.reduceEqDiff, Nat.reduceAdd, Nat.reduceLeDiff, Int.toNat_natCast, Int.reduceToNat, and_self, Bool.not_true, Bool.not_false, Bool.false_and, Bool.and_false, Bool.true_and, Bool.and_true, a36r34, half, ← hc]
        simp (disch := omega) only [go_sem, ne_eq, not_true_eq_false, not_false_eq_true, ↓reduceIte, Nat.reduceEqDiff, Nat.reduceAdd, Nat.reduceLeDiff, Int.toNat_natCast, Int.reduceToNat, and_self, Bool.not_true, Bool.not_false, Bool.false_and, Bool.and_false, Bool.true_and, Bool.and_true, a36d35, f3, hAt.1, r1, r2, Nat.zero_add]
        refine WD_denv (f := 26) (caps := []) (k := 0) (vs := [.agg (Enc.cells (B.getD (mid - 1 - c) default)), .agg (Enc.cells (A.getD (c - a) default))]) (by simp (disch := omega) only [go_sem, ne_eq, not_true_eq_false, not_false_eq_true, ↓reduceIte, Nat.reduceEqDiff, Nat.reduceAdd, Nat.reduceLeDiff, Int.toNat_natCast, Int.reduceToNat, and_self, Bool.not_true, Bool.not_false, Bool.false_and, Bool.and_false, Bool.true_and, Bool.and_true]) (by rw [hP.pure _ (by decide)]; rfl) (by simp (disch := omega) only [go_sem, ne_eq, not_true_eq_false, not_false_eq_true, ↓reduceIte, Nat.reduceEqDiff, Nat.reduceAdd, Nat.reduceLeDiff, Int.toNat_natCast, Int.reduceToNat, and_self, Bool.not_true, Bool.not_false, Bool.false_and, Bool.and_false, Bool.true_and, Bool.and_true]) (cmp_den hP _ _) (fun v hv => by subst hv; simp (disch := omega) only [go_sem, ne_eq, not_true_eq_false, not_false_eq_true, ↓reduceIte, Nat.reduceEqDiff, Nat.reduceAdd, Nat.reduceLeDiff, Int.toNat_natCast, Int.reduceToNat, and_self, Bool.not_true, Bool.not_false, Bool.false_and, Bool.and_false, Bool.true_and, Bool.and_true]) (fun v hv => rfl) (fun v hv => ?_)
        subst hv
        simp (disch := omega) only [go_sem, ne_eq, not_true_eq_false, not_false_eq_true, ↓reduceIte, Nat.reduceEqDiff, Nat.reduceAdd, Nat.reduceLeDiff, Int.toNat_natCast, Int.reduceToNat, and_self, Bool.not_true, Bool.not_false, Bool.false_and, Bool.and_false, Bool.true_and, Bool.and_true, cmpI_lt]
        refine condS_split (fun hd => ?_) (fun hd => ?_) <;> simp only [Bool.not_eq_true', Bool.not_eq_false', decide_eq_true_eq, decide_eq_false_iff_not] at hd
        · simp (disch := omega) only [go_sem, ne_eq, not_true_eq_false, not_false_eq_true, ↓reduceIte, Nat.reduceEqDiff, Nat.reduceAdd, Nat.reduceLeDiff, Int.toNat_natCast, Int.reduceToNat, and_self, Bool.not_true, Bool.not_false, Bool.false_and, Bool.and_false, Bool.true_and, Bool.and_true, a36r36]
          refine ⟨(_, c + 1, r), ⟨⟨by simp only; omega, by simp only; omega, g3⟩, fun u h1 h2 => ?_, g5⟩, by simp only; omega, rfl⟩
          simp only at h2
          have q1 := srt_at sA (i := u - a) (j := c - a) (by omega) (by omega)
          have q2 := srt_at sB (i := mid - 1 - c) (j := mid - 1 - u) (by omega) (by omega)
          omega
        · simp (disch := omega) only [go_sem, ne_eq, not_true_eq_false, not_false_eq_true, ↓reduceIte, Nat.reduceEqDiff, Nat.reduceAdd, Nat.reduceLeDiff, Int.toNat_natCast, Int.reduceToNat, and_self, Bool.not_true, Bool.not_false, Bool.false_and, Bool.and_false, Bool.true_and, Bool.and_true, a36r37]
          refine ⟨(_, s, c), ⟨⟨g1, by simp only; omega, by simp only; omega⟩, g4, fun u h1 h2 => ?_⟩, by simp only; omega, rfl⟩
          simp only at h1
          have q1 := srt_at sA (i := c - a) (j := u - a) (by omega) (by omega)
          have q2 := srt_at sB (i := mid - 1 - u) (j := mid - 1 - c) (by omega) (by omega)
          omega
      · have hr : r = s := by omega
        subst hr
        obtain ⟨A1, A2, hA12, hA1⟩ : ∃ A1 A2, A = A1 ++ A2 ∧ A1.length = r - a := ⟨A.take (r - a), A.drop (r - a), (List.take_append_drop _ _).symm, by rw [List.length_take]; omega⟩
        obtain ⟨B1, B2, hB12, hB1⟩ : ∃ B1 B2, B = B1 ++ B2 ∧ B1.length = mid - r := ⟨B.take (mid - r), B.drop (mid - r), (List.take_append_drop _ _).symm, by rw [List.length_take]; omega⟩
        have hA2 : A1.length + A2.length = A.length := by rw [hA12, List.length_append]
        have hB2 : B1.length + B2.length = B.length := by rw [hB12, List.length_append]
        have gA1 : ∀ u, u < A1.length → A1.getD u default = A.getD u default := fun u hu => by
          rw [hA12, List.getD_eq_getElem?_getD, List.getD_eq_getElem?_getD, List.getElem?_append_left hu]
        have gA2 : ∀ u, A2.getD u default = A.getD (A1.length + u) default := fun u => by
          rw [hA12, List.getD_eq_getElem?_getD, List.getD_eq_getElem?_getD, List.getElem?_append_right (by omega)]; congr 2; omega
        have gB1 : ∀ u, u < B1.length → B1.getD u default = B.getD u default := fun u hu => by
          rw [hB12, List.getD_eq_getElem?_getD, List.getD_eq_getElem?_getD, List.getElem?_append_left hu]
        have gB2 : ∀ u, B2.getD u default = B.getD (B1.length + u) default := fun u => by
          rw [hB12, List.getD_eq_getElem?_getD, List.getD_eq_getElem?_getD, List.getElem?_append_right (by omega)]; congr 2; omega
        have hx : ∀ x ∈ A1, ∀ y ∈ B2, x.f ≤ y.f := fun x hx y hy => by
          obtain ⟨u, u1, u2, rfl⟩ := mem_take_at (s := A1.length) (by rw [List.take_length]; exact hx)
          obtain ⟨v, v1, v2, rfl⟩ := mem_drop_at (s := 0) (by rw [List.drop_zero]; exact hy)
          rw [gA1 _ u1, gB2]
          have q3 := g4 (r - 1) (by omega) (by omega)
          have q1 := srt_at sA (i := u) (j := r - 1 - a) (by omega) (by omega)
          have q2 := srt_at sB (i := mid - 1 - (r - 1)) (j := B1.length + v) (by omega) (by omega)
          omega
        have hy : ∀ x ∈ A2, ∀ y ∈ B1, y.f < x.f := fun x hx y hy => by
          obtain ⟨u, u1, u2, rfl⟩ := mem_drop_at (s := 0) (by rw [List.drop_zero]; exact hx)
          obtain ⟨v, v1, v2, rfl⟩ := mem_take_at (s := B1.length) (by rw [List.take_length]; exact hy)
          rw [gA2, gB1 _ v1]
          have q3 := g5 r (by omega) (by omega)
          have q1 := srt_at sA (i := r - a) (j := A1.length + u) (by omega) (by omega)
          have q2 := srt_at sB (i := v) (j := mid - 1 - r) (by omega) (by omega)
          omega
        have f4 : ((mid + m : Nat) : Int) - (r : Int) = ((m + B1.length : Nat) : Int) := by omega
        have sA' := hA12 ▸ sA
        have sB' := hB12 ▸ sB
        obtain ⟨t1, t2, -⟩ := List.pairwise_append.1 sA'
        obtain ⟨t3, t4, -⟩ := List.pairwise_append.1 sB'
        have k1 : (p.length : Nat) = a := ha.symm
        have k2 : a + A1.length = r := by omega
        have k3 : r + B1.length = mid := by omega
        have k4 : r + A2.length = m := by omega
        have k5 : mid + A2.length = m + B1.length := by omega
        have k6 : mid + A2.length + B2.length = b := by omega
        have cs1 : (decide ((r : Int) < (m : Int)) = true ∧ decide ((m : Int) < ((m + B1.length : Nat) : Int)) = true ∧ A2 ≠ [] ∧ B1 ≠ []) ∨ (decide ((r : Int) < (m : Int)) = true ∧ decide ((m : Int) < ((m + B1.length : Nat) : Int)) = false ∧ B1 = []) ∨ (decide ((r : Int) < (m : Int)) = false ∧ A2 = []) := by
          by_cases z1 : A2.length = 0
          · exact Or.inr (Or.inr ⟨by simp only [decide_eq_false_iff_not]; omega, List.length_eq_zero_iff.1 z1⟩)
          · by_cases z2 : B1.length = 0
            · exact Or.inr (Or.inl ⟨by simp only [decide_eq_true_eq]; omega, by simp only [decide_eq_false_iff_not]; omega, List.length_eq_zero_iff.1 z2⟩)
            · exact Or.inl ⟨by simp only [decide_eq_true_eq]; omega, by simp only [decide_eq_true_eq]; omega, List.length_pos_iff.1 (by omega), List.length_pos_iff.1 (by omega)⟩
        have cs2 : (decide ((a : Int) < (r : Int)) = true ∧ decide ((r : Int) < (mid : Int)) = true ∧ A1 ≠ [] ∧ B1 ≠ []) ∨ (decide ((a : Int) < (r : Int)) = true ∧ decide ((r : Int) < (mid : Int)) = false ∧ B1 = []) ∨ (decide ((a : Int) < (r : Int)) = false ∧ A1 = []) := by
          by_cases z1 : A1.length = 0
          · exact Or.inr (Or.inr ⟨by simp only [decide_eq_false_iff_not]; omega, List.length_eq_zero_iff.1 z1⟩)
          · by_cases z2 : B1.length = 0
            · exact Or.inr (Or.inl ⟨by simp only [decide_eq_true_eq]; omega, by simp only [decide_eq_false_iff_not]; omega, List.length_eq_zero_iff.1 z2⟩)
            · exact Or.inl ⟨by simp only [decide_eq_true_eq]; omega, by simp only [decide_eq_true_eq]; omega, List.length_pos_iff.1 (by omega), List.length_pos_iff.1 (by omega)⟩
        have cs3 : (decide ((mid : Int) < ((m + B1.length : Nat) : Int)) = true ∧ decide (((m + B1.length : Nat) : Int) < (b : Int)) = true ∧ A2 ≠ [] ∧ B2 ≠ []) ∨ (decide ((mid : Int) < ((m + B1.length : Nat) : Int)) = true ∧ decide (((m + B1.length : Nat) : Int) < (b : Int)) = false ∧ B2 = []) ∨ (decide ((mid : Int) < ((m + B1.length : Nat) : Int)) = false ∧ A2 = []) := by
          by_cases z1 : A2.length = 0
          · exact Or.inr (Or.inr ⟨by simp only [decide_eq_false_iff_not]; omega, List.length_eq_zero_iff.1 z1⟩)
          · by_cases z2 : B2.length = 0
            · exact Or.inr (Or.inl ⟨by simp only [decide_eq_true_eq]; omega, by simp only [decide_eq_false_iff_not]; omega, List.length_eq_zero_iff.1 z2⟩)
            · exact Or.inl ⟨by simp only [decide_eq_true_eq]; omega, by simp only [decide_eq_true_eq]; omega, List.length_pos_iff.1 (by omega), List.length_pos_iff.1 (by omega)⟩
        have sn1 : A1 = [] ∨ B1 = [] → Srt (A1 ++ B1) := fun e => by (rcases e with rfl | rfl) <;> first | exact t3 | (rw [List.append_nil]; exact t1)
        have sn2 : A2 = [] ∨ B2 = [] → Srt (A2 ++ B2) := fun e => by (rcases e with rfl | rfl) <;> first | exact t4 | (rw [List.append_nil]; exact t2)
        rw [hA12, hB12] at hAt
        have hn0 : A2 = [] ∨ B1 = [] → At h0 h o ep (p ++ A1 ++ B1 ++ A2 ++ B2 ++ q) := fun e => by
          rcases e with rfl | rfl <;> simpa only [List.append_assoc, List.append_nil, List.nil_append] using hAt
        have fin : ∀ h' C1 C2, At h0 h' o ep (p ++ C1 ++ C2 ++ q) → Stb (A1 ++ B1) C1 → Stb (A2 ++ B2) C2 → ∃ C, At h0 h' o ep (p ++ C ++ q) ∧ Stb (A ++ B) C := fun h' C1 C2 w1 w2 w3 => by
          refine ⟨C1 ++ C2, by simpa only [List.append_assoc] using w1, ?_⟩
          rw [hA12, hB12]
          exact stb_four sA' sB' w2 w3 hx hy
        have len1 : (p ++ A1 ++ A2 ++ B1 ++ (B2 ++ q)).length = N := by simp only [List.length_append]; omega
        have len2 : (p ++ A1 ++ B1 ++ (A2 ++ B2 ++ q)).length = N := by simp only [List.length_append]; omega
        have pl : (p ++ A1).length = r := by rw [List.length_append]; omega
        rcases cs1 with ⟨w1, w2, z1, z2⟩ | ⟨w1, w2, z1⟩ | ⟨w1, z1⟩
        simp (disch := omega) only [go_sem, ne_eq, not_true_eq_false, not_false_eq_true, ↓reduceIte, Nat.reduceEqDiff, Nat.reduceAdd, Nat.reduceLeDiff, Int.toNat_natCast, Int.reduceToNat, and_self, Bool.not_true, Bool.not_false, Bool.false_and, Bool.and_false, Bool.true_and, Bool.and_true, a36r38, f4, a36r39, w1, w2, a36r40]
        refine WO.fun (vs := [.hs 3 o ep 0 N false, .int .i64 r, .int .i64 m, .int .i64 (m + B1.length : Nat), .fn 26 []]) (by simp (disch := omega) only [go_sem, ne_eq, not_true_eq_false, not_false_eq_true, ↓reduceIte, Nat.reduceEqDiff, Nat.reduceAdd, Nat.reduceLeDiff, Int.toNat_natCast, Int.reduceToNat, and_self, Bool.not_true, Bool.not_false, Bool.false_and, Bool.and_false, Bool.true_and, Bool.and_true]) (by
          have := rot_fun hP (p ++ A1) A2 B1 (B2 ++ q) o ep N (.fn 26 []) h0 h z1 z2 len1 (by simpa only [List.append_assoc] using hAt) hl rfl (fun _ => rfl)
          rw [pl, k4] at this
          exact this) ?_
        intro vv h1 hR
        replace hR : At h0 h1 o ep (p ++ A1 ++ B1 ++ A2 ++ B2 ++ q) := by simpa only [List.append_assoc] using hR
        simp (disch := omega) only [go_sem, ne_eq, not_true_eq_false, not_false_eq_true, ↓reduceIte, Nat.reduceEqDiff, Nat.reduceAdd, Nat.reduceLeDiff, Int.toNat_natCast, Int.reduceToNat, and_self, Bool.not_true, Bool.not_false, Bool.false_and, Bool.and_false, Bool.true_and, Bool.and_true, a36r41]
        rotate_left
        have hR := hn0 (Or.inr z1)
        simp (disch := omega) only [go_sem, ne_eq, not_true_eq_false, not_false_eq_true, ↓reduceIte, Nat.reduceEqDiff, Nat.reduceAdd, Nat.reduceLeDiff, Int.toNat_natCast, Int.reduceToNat, and_self, Bool.not_true, Bool.not_false, Bool.false_and, Bool.and_false, Bool.true_and, Bool.and_true, a36r38, f4, a36r39, w1, w2, a36r41]
        rotate_left
        have hR := hn0 (Or.inl z1)
        simp (disch := omega) only [go_sem, ne_eq, not_true_eq_false, not_false_eq_true, ↓reduceIte, Nat.reduceEqDiff, Nat.reduceAdd, Nat.reduceLeDiff, Int.toNat_natCast, Int.reduceToNat, and_self, Bool.not_true, Bool.not_false, Bool.false_and, Bool.and_false, Bool.true_and, Bool.and_true, a36r38, f4, a36r39, w1, a36r41]
        rotate_left
        all_goals
          rcases cs2 with ⟨v1, v2, y1, y2⟩ | ⟨v1, v2, y1⟩ | ⟨v1, y1⟩
          simp (disch := omega) only [go_sem, ne_eq, not_true_eq_false, not_false_eq_true, ↓reduceIte, Nat.reduceEqDiff, Nat.reduceAdd, Nat.reduceLeDiff, Int.toNat_natCast, Int.reduceToNat, and_self, Bool.not_true, Bool.not_false, Bool.false_and, Bool.and_false, Bool.true_and, Bool.and_true, v1, v2, a36r42]
          refine WO.fun (vs := [.hs 3 o ep 0 N false, .int .i64 a, .int .i64 r, .int .i64 mid, .fn 26 []]) (by simp (disch := omega) only [go_sem, ne_eq, not_true_eq_false, not_false_eq_true, ↓reduceIte, Nat.reduceEqDiff, Nat.reduceAdd, Nat.reduceLeDiff, Int.toNat_natCast, Int.reduceToNat, and_self, Bool.not_true, Bool.not_false, Bool.false_and, Bool.and_false, Bool.true_and, Bool.and_true]) (by
            have := ih p A1 B1 (A2 ++ B2 ++ q) _ (by omega) y1 y2 len2 t1 t3 (by simpa only [List.append_assoc] using hR)
            rw [k1, k2, k3] at this
            exact this) ?_
          rintro vv2 h2 ⟨C1, hC, sC⟩
          simp (disch := omega) only [go_sem, ne_eq, not_true_eq_false, not_false_eq_true, ↓reduceIte, Nat.reduceEqDiff, Nat.reduceAdd, Nat.reduceLeDiff, Int.toNat_natCast, Int.reduceToNat, and_self, Bool.not_true, Bool.not_false, Bool.false_and, Bool.and_false, Bool.true_and, Bool.and_true, a36r43]
          rotate_left
          obtain ⟨C1, hC, sC⟩ : ∃ C1, At h0 _ o ep (p ++ C1 ++ (A2 ++ B2 ++ q)) ∧ Stb (A1 ++ B1) C1 := ⟨A1 ++ B1, by simpa only [List.append_assoc] using hR, Stb.refl (sn1 (Or.inr y1))⟩
          simp (disch := omega) only [go_sem, ne_eq, not_true_eq_false, not_false_eq_true, ↓reduceIte, Nat.reduceEqDiff, Nat.reduceAdd, Nat.reduceLeDiff, Int.toNat_natCast, Int.reduceToNat, and_self, Bool.not_true, Bool.not_false, Bool.false_and, Bool.and_false, Bool.true_and, Bool.and_true, v1, v2, a36r43]
          rotate_left
          obtain ⟨C1, hC, sC⟩ : ∃ C1, At h0 _ o ep (p ++ C1 ++ (A2 ++ B2 ++ q)) ∧ Stb (A1 ++ B1) C1 := ⟨A1 ++ B1, by simpa only [List.append_assoc] using hR, Stb.refl (sn1 (Or.inl y1))⟩
          simp (disch := omega) only [go_sem, ne_eq, not_true_eq_false, not_false_eq_true, ↓reduceIte, Nat.reduceEqDiff, Nat.reduceAdd, Nat.reduceLeDiff, Int.toNat_natCast, Int.reduceToNat, and_self, Bool.not_true, Bool.not_false, Bool.false_and, Bool.and_false, Bool.true_and, Bool.and_true, v1, a36r43]
          rotate_left
          all_goals
            have lC : C1.length = A1.length + B1.length := by rw [sC.2.1, List.length_append]
            have pC : (p ++ C1).length = mid := by rw [List.length_append]; omega
            rcases cs3 with ⟨o1, o2, j1, j2⟩ | ⟨o1, o2, j1⟩ | ⟨o1, j1⟩
            · simp (disch := omega) only [go_sem, ne_eq, not_true_eq_false, not_false_eq_true, ↓reduceIte, Nat.reduceEqDiff, Nat.reduceAdd, Nat.reduceLeDiff, Int.toNat_natCast, Int.reduceToNat, and_self, Bool.not_true, Bool.not_false, Bool.false_and, Bool.and_false, Bool.true_and, Bool.and_true, o1, o2, a36r44]
              refine WO.fun (vs := [.hs 3 o ep 0 N false, .int .i64 mid, .int .i64 (m + B1.length : Nat), .int .i64 b, .fn 26 []]) (by simp (disch := omega) only [go_sem, ne_eq, not_true_eq_false, not_false_eq_true, ↓reduceIte, Nat.reduceEqDiff, Nat.reduceAdd, Nat.reduceLeDiff, Int.toNat_natCast, Int.reduceToNat, and_self, Bool.not_true, Bool.not_false, Bool.false_and, Bool.and_false, Bool.true_and, Bool.and_true]) (by
                have := ih (p ++ C1) A2 B2 q _ (by omega) j1 j2 (by simp only [List.length_append]; omega) t2 t4 (by simpa only [List.append_assoc] using hC)
                rw [pC, k5, show m + B1.length + B2.length = b by omega] at this
                exact this) ?_
              rintro vv3 h3 ⟨C2, hC2, sC2⟩
              simp (disch := omega) only [go_sem, ne_eq, not_true_eq_false, not_false_eq_true, ↓reduceIte, Nat.reduceEqDiff, Nat.reduceAdd, Nat.reduceLeDiff, Int.toNat_natCast, Int.reduceToNat, and_self, Bool.not_true, Bool.not_false, Bool.false_and, Bool.and_false, Bool.true_and, Bool.and_true]
              exact fin _ C1 C2 hC2 sC sC2
            · simp (disch := omega) only [go_sem, ne_eq, not_true_eq_false, not_false_eq_true, ↓reduceIte, Nat.reduceEqDiff, Nat.reduceAdd, Nat.reduceLeDiff, Int.toNat_natCast, Int.reduceToNat, and_self, Bool.not_true, Bool.not_false, Bool.false_and, Bool.and_false, Bool.true_and, Bool.and_true, o1, o2]
              exact fin _ C1 (A2 ++ B2) (by simpa only [List.append_assoc] using hC) sC (Stb.refl (sn2 (Or.inr j1)))
            · simp (disch := omega) only [go_sem, ne_eq, not_true_eq_false, not_false_eq_true, ↓reduceIte, Nat.reduceEqDiff, Nat.reduceAdd, Nat.reduceLeDiff, Int.toNat_natCast, Int.reduceToNat, and_self, Bool.not_true, Bool.not_false, Bool.false_and, Bool.and_false, Bool.true_and, Bool.and_true, o1]
              exact fin _ C1 (A2 ++ B2) (by simpa only [List.append_assoc] using hC) sC (Stb.refl (sn2 (Or.inl j1)))
end Go.Am.Sp

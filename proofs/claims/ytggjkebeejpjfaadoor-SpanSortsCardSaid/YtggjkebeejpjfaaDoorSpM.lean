/- Merging in a row, in plain Lean. -/
import Derived.Test.YtggjkebeejpjfaaDoorSpL
set_option linter.unusedSimpArgs false
set_option linter.unusedVariables false
namespace Go.Am.Sp
open Go.Am
variable {P : Prog}
set_option maxRecDepth 20000
set_option maxHeartbeats 1000000
theorem swp_adj (p q : List Edit) (x y : Edit) : swp (p ++ x :: y :: q) p.length (p.length + 1) = p ++ y :: x :: q := by
  have := swr_blocks p [x] [] [y] q rfl
  simpa [swr] using this
theorem swp_comm {l : List Edit} {i j : Nat} (hi : i < l.length) (hj : j < l.length) : swp l i j = swp l j i := by
  refine List.ext_getElem? (fun t => ?_)
  rw [swp_at hi hj, swp_at hj hi]
  by_cases h1 : t = i <;> by_cases h2 : t = j
  · subst h1; subst h2; rfl
  · subst h1; simp [h2]
  · subst h2; simp [h1]
  · simp [h1, h2]
theorem getD_mid (p A q : List Edit) {i : Nat} (hi : i < A.length) : (p ++ A ++ q).getD (p.length + i) default = A.getD i default := by
  rw [List.getD_eq_getElem?_getD, List.getD_eq_getElem?_getD, List.append_assoc, List.getElem?_append_right (by omega), List.getElem?_append_left (by omega)]
  congr 2; omega
theorem mem_take_at {A : List Edit} {s : Nat} {x : Edit} (h : x ∈ A.take s) : ∃ t, t < s ∧ t < A.length ∧ x = A.getD t default := by
  obtain ⟨t, ht, rfl⟩ := List.getElem_of_mem h
  rw [List.length_take] at ht
  exact ⟨t, by omega, by omega, by rw [List.getElem_take, List.getD_eq_getElem?_getD, List.getElem?_eq_getElem (by omega)]; rfl⟩
theorem mem_drop_at {A : List Edit} {s : Nat} {x : Edit} (h : x ∈ A.drop s) : ∃ t, s ≤ t ∧ t < A.length ∧ x = A.getD t default := by
  obtain ⟨t, ht, rfl⟩ := List.getElem_of_mem h
  rw [List.length_drop] at ht
  exact ⟨s + t, by omega, by omega, by rw [List.getElem_drop, List.getD_eq_getElem?_getD, List.getElem?_eq_getElem (by omega)]; rfl⟩
theorem srt_at {A : List Edit} (h : Srt A) {i j : Nat} (hij : i ≤ j) (hj : j < A.length) : (A.getD i default).f ≤ (A.getD j default).f := by
  rcases Nat.eq_or_lt_of_le hij with rfl | hlt
  · exact Int.le_refl _
  · have := List.pairwise_iff_getElem.1 h i j (by omega) hj hlt
    simpa [List.getD_eq_getElem?_getD, List.getElem?_eq_getElem (show i < A.length by omega), List.getElem?_eq_getElem hj] using this
theorem half (i j : Nat) : binA .shr (.int .u64 ((i : Int) + (j : Int))) (.int .u64 1) = some (.int .u64 (((i + j) / 2 : Nat) : Int)) := by
  have : ((i : Int) + (j : Int)).fdiv 2 = (((i + j) / 2 : Nat) : Int) := by
    rw [Int.fdiv_eq_ediv_of_nonneg _ (by omega)]; omega
  show some (AV.int .u64 (((i : Int) + (j : Int)).fdiv 2)) = _
  rw [this]
/-- An element goes to its place, from the left. -/
theorem sym_one (hP : SpP P) (o ep N : Nat) (h0 : Heap) (hl : N ≤ 1000000) (p B q : List Edit) (x : Edit) (h : Heap) (hN : (p ++ [x] ++ B ++ q).length = N) (hB : Srt B) (hA : At h0 h o ep (p ++ [x] ++ B ++ q)) :
    Fun P 36 [.hs 3 o ep 0 N false, .int .i64 p.length, .int .i64 (p.length + 1 : Nat), .int .i64 (p.length + 1 + B.length : Nat), .fn 26 []] h (fun _ h' => ∃ C, At h0 h' o ep (p ++ C ++ q) ∧ Stb ([x] ++ B) C) := by
  refine Fun.of (code := a36c) (by rw [hP.fn]; rfl) (by rw [hP.pure _ (by decide)]; rfl) ?_
  have hlN : p.length + 1 + B.length + q.length = N := by rw [← hN]; simp only [List.length_append, List.length_cons, List.length_nil]
  have e1 : ((p.length + 1 : Nat) : Int) - (p.length : Int) = 1 := by omega
  simp (disch := omega) only [go_sem, ne_eq, not_true_eq_false, not_false_eq_true, ↓reduceIte, Nat.reduceEqDiff, Nat.reduceAdd, Nat.reduceLeDiff, Int.toNat_natCast, Int.reduceToNat, and_self, Bool.not_true, Bool.not_false, Bool.false_and, Bool.and_false, Bool.true_and, Bool.and_true, a36c, a36r0, e1, decide_true, a36r1, a36r2]
  refine Wp_loop (fun x' : Nat × Nat × Nat => (p.length + 1 ≤ x'.2.1 ∧ x'.2.1 ≤ x'.2.2 ∧ x'.2.2 ≤ p.length + 1 + B.length) ∧ (∀ t, t < x'.2.1 - (p.length + 1) → (B.getD t default).f < x.f) ∧ (∀ t, x'.2.2 - (p.length + 1) ≤ t → t < B.length → x.f ≤ (B.getD t default).f))
    (fun (t, i, j) => { fr := [(0, .hs 3 o ep 0 N false), (1, .int .i64 p.length), (4, .fn 26 []), (10, .int .i64 i), (11, .int .i64 j)], st := t, h := h }) (fun x => x.2.2 - x.2.1) (0, p.length + 1, p.length + 1 + B.length) rfl ⟨⟨by simp, by simp, by simp⟩, fun t ht => by simp at ht, fun t ht ht' => by simp at ht; omega⟩ ?_
  rintro ⟨t, i, j⟩ ⟨⟨g1, g2, g3⟩, g4, g5⟩
  simp only at g1 g2 g3 g4 g5
  simp (disch := omega) only [go_sem, ne_eq, not_true_eq_false, not_false_eq_true, ↓reduceIte, Nat.reduceEqDiff, Nat.reduceAdd, Nat.reduceLeDiff, Int.toNat_natCast, Int.reduceToNat, and_self, Bool.not_true, Bool.not_false, Bool.false_and, Bool.and_false, Bool.true_and, Bool.and_true, a36l0, a36r3]
  refine condS_if (fun hk => ?_) (fun hk => ?_)
  · have hk' : i < j := by omega
    have hm : ∃ m, m = (i + j) / 2 := ⟨_, rfl⟩
    obtain ⟨m, hm⟩ := hm
    have r1 := ld3 (l := p ++ [x] ++ B ++ q) (k := m) (by omega)
    have r2 := ld3 (l := p ++ [x] ++ B ++ q) (k := p.length) (by omega)
    have x1 : (p ++ [x] ++ B ++ q).getD m default = B.getD (m - (p.length + 1)) default := by
      have := getD_mid (p ++ [x]) B q (i := m - (p.length + 1)) (by omega)
      rw [← this]; congr 1; simp only [List.length_append, List.length_cons, List.length_nil]; omega
    have x2 : (p ++ [x] ++ B ++ q).getD p.length default = x := by
      simp [List.getD_eq_getElem?_getD]
    rw [x1] at r1
    rw [x2] at r2
    simp (disch := omega) only [go_sem, ne_eq, not_true_eq_false, not_false_eq_true, ↓reduceIte, Nat.reduceEqDiff, Nat.reduceAdd, Nat.reduceLeDiff, Int.toNat_natCast, Int.reduceToNat, and_self, Bool.not_true, Bool.not_false, Bool.false_and, Bool.and_false, Bool.true_and, Bool.and_true, a36r4, half, ← hm]
    simp (disch := omega) only [go_sem, ne_eq, not_true_eq_false, not_false_eq_true, ↓reduceIte, Nat.reduceEqDiff, Nat.reduceAdd, Nat.reduceLeDiff, Int.toNat_natCast, Int.reduceToNat, and_self, Bool.not_true, Bool.not_false, Bool.false_and, Bool.and_false, Bool.true_and, Bool.and_true, a36d5, hA.1, r1, r2, Nat.zero_add]
    refine WD_denv (f := 26) (caps := []) (k := 0) (vs := [.agg (Enc.cells (B.getD (m - (p.length + 1)) default)), .agg (Enc.cells x)]) (by simp (disch := omega) only [go_sem, ne_eq, not_true_eq_false, not_false_eq_true, ↓reduceIte, Nat.reduceEqDiff, Nat.reduceAdd, Nat.reduceLeDiff, Int.toNat_natCast, Int.reduceToNat, and_self, Bool.not_true, Bool.not_false, Bool.false_and, Bool.and_false, Bool.true_and, Bool.and_true]) (by rw [hP.pure _ (by decide)]; rfl) (by simp (disch := omega) only [go_sem, ne_eq, not_true_eq_false, not_false_eq_true, ↓reduceIte, Nat.reduceEqDiff, Nat.reduceAdd, Nat.reduceLeDiff, Int.toNat_natCast, Int.reduceToNat, and_self, Bool.not_true, Bool.not_false, Bool.false_and, Bool.and_false, Bool.true_and, Bool.and_true]) (cmp_den hP _ _) (fun v hv => by subst hv; simp (disch := omega) only [go_sem, ne_eq, not_true_eq_false, not_false_eq_true, ↓reduceIte, Nat.reduceEqDiff, Nat.reduceAdd, Nat.reduceLeDiff, Int.toNat_natCast, Int.reduceToNat, and_self, Bool.not_true, Bool.not_false, Bool.false_and, Bool.and_false, Bool.true_and, Bool.and_true]) (fun v hv => rfl) (fun v hv => ?_)
    subst hv
    simp (disch := omega) only [go_sem, ne_eq, not_true_eq_false, not_false_eq_true, ↓reduceIte, Nat.reduceEqDiff, Nat.reduceAdd, Nat.reduceLeDiff, Int.toNat_natCast, Int.reduceToNat, and_self, Bool.not_true, Bool.not_false, Bool.false_and, Bool.and_false, Bool.true_and, Bool.and_true, cmpI_lt]
    refine condS_if (fun c => ?_) (fun c => ?_)
    · simp (disch := omega) only [go_sem, ne_eq, not_true_eq_false, not_false_eq_true, ↓reduceIte, Nat.reduceEqDiff, Nat.reduceAdd, Nat.reduceLeDiff, Int.toNat_natCast, Int.reduceToNat, and_self, Bool.not_true, Bool.not_false, Bool.false_and, Bool.and_false, Bool.true_and, Bool.and_true, a36r6]
      refine ⟨(_, m + 1, j), ⟨⟨by simp only; omega, by simp only; omega, g3⟩, fun u hu => ?_, g5⟩, by simp only; omega, rfl⟩
      simp only at hu
      have := srt_at hB (i := u) (j := m - (p.length + 1)) (by omega) (by omega)
      omega
    · simp (disch := omega) only [go_sem, ne_eq, not_true_eq_false, not_false_eq_true, ↓reduceIte, Nat.reduceEqDiff, Nat.reduceAdd, Nat.reduceLeDiff, Int.toNat_natCast, Int.reduceToNat, and_self, Bool.not_true, Bool.not_false, Bool.false_and, Bool.and_false, Bool.true_and, Bool.and_true, a36r7]
      refine ⟨(_, i, m), ⟨⟨g1, by simp only; omega, by simp only; omega⟩, g4, fun u hu hu' => ?_⟩, by simp only; omega, rfl⟩
      simp only at hu
      have := srt_at hB (i := m - (p.length + 1)) (j := u) (by omega) (by omega)
      omega
  · obtain ⟨s, hs⟩ : ∃ s, s = i - (p.length + 1) := ⟨_, rfl⟩
    have hj : j = i := by omega
    subst hj
    have hC : Stb ([x] ++ B) (B.take s ++ x :: B.drop s) := by
      have hB' : Srt (B.take s ++ B.drop s) := by rw [List.take_append_drop]; exact hB
      have h1 : ∀ y ∈ B.take s, y.f < x.f := fun y hy => by
        obtain ⟨u, u1, u2, rfl⟩ := mem_take_at hy
        exact g4 u (by omega)
      have h2 : ∀ y ∈ B.drop s, x.f ≤ y.f := fun y hy => by
        obtain ⟨u, u1, u2, rfl⟩ := mem_drop_at hy
        exact g5 u (by omega) u2
      obtain ⟨p1, p2, p3⟩ := List.pairwise_append.1 hB'
      have := stb_four (a1 := []) (a2 := [x]) (b1 := B.take s) (b2 := B.drop s) (c1 := B.take s) (c2 := x :: B.drop s) (by simp [Srt]) hB' (Stb.refl p1) (Stb.refl (List.pairwise_cons.2 ⟨h2, p2⟩)) (by simp) (fun a ha b hb => by simp at ha; subst ha; exact h1 b hb)
      rwa [List.nil_append, List.take_append_drop] at this
    simp (disch := omega) only [go_sem, ne_eq, not_true_eq_false, not_false_eq_true, ↓reduceIte, Nat.reduceEqDiff, Nat.reduceAdd, Nat.reduceLeDiff, Int.toNat_natCast, Int.reduceToNat, and_self, Bool.not_true, Bool.not_false, Bool.false_and, Bool.and_false, Bool.true_and, Bool.and_true, a36r8]
    refine Wp_loop (fun x' : Nat × Nat × Heap => x'.2.1 ≤ s ∧ At h0 x'.2.2 o ep (p ++ (B.take x'.2.1 ++ x :: B.drop x'.2.1) ++ q)) (fun (t, k, h) => { fr := [(0, .hs 3 o ep 0 N false), (10, .int .i64 j), (13, .int .i64 (p.length + k : Nat))], st := t, h := h }) (fun x => s - x.2.1) (t, 0, h) rfl ⟨Nat.zero_le _, by simpa only [List.take_zero, List.drop_zero, List.nil_append, List.singleton_append, List.append_assoc, List.cons_append] using hA⟩ ?_
    rintro ⟨t, k, h⟩ ⟨q1, q2⟩
    simp only at q1 q2
    simp (disch := omega) only [go_sem, ne_eq, not_true_eq_false, not_false_eq_true, ↓reduceIte, Nat.reduceEqDiff, Nat.reduceAdd, Nat.reduceLeDiff, Int.toNat_natCast, Int.reduceToNat, and_self, Bool.not_true, Bool.not_false, Bool.false_and, Bool.and_false, Bool.true_and, Bool.and_true, a36l1, a36r9]
    refine condS_if (fun hk => ?_) (fun hk => ?_)
    · have hk' : k < s := by omega
      have hkB : k < B.length := by omega
      have hlk : (p ++ (B.take k ++ x :: B.drop k) ++ q).length = N := by
        simp only [List.length_append, List.length_cons, List.length_take, List.length_drop]; omega
      have es : swp (p ++ (B.take k ++ x :: B.drop k) ++ q) (p.length + k) (p.length + k + 1) = p ++ (B.take (k + 1) ++ x :: B.drop (k + 1)) ++ q := by
        have := swp_adj (p ++ B.take k) (B.drop (k + 1) ++ q) x (B[k])
        rw [show (p ++ B.take k).length = p.length + k by simp only [List.length_append, List.length_take]; omega] at this
        rw [List.drop_eq_getElem_cons hkB, List.take_succ_eq_append_getElem hkB]
        simpa only [List.append_assoc, List.cons_append, List.nil_append] using this
      generalize p ++ (B.take k ++ x :: B.drop k) ++ q = Lk at es hlk q2
      have r1 := ld3 (l := Lk) (k := p.length + k) (by omega)
      have r2 := ld3 (l := Lk) (k := p.length + k + 1) (by omega)
      have i1 : ((p.length + k : Nat) : Int).toNat = p.length + k := by omega
      have i2 : (((p.length + k : Nat) : Int) + 1).toNat = p.length + k + 1 := by omega
      simp (disch := omega) only [go_sem, ne_eq, not_true_eq_false, not_false_eq_true, ↓reduceIte, Nat.reduceEqDiff, Nat.reduceAdd, Nat.reduceLeDiff, Int.toNat_natCast, Int.reduceToNat, and_self, Bool.not_true, Bool.not_false, Bool.false_and, Bool.and_false, Bool.true_and, Bool.and_true, a36d10, q2.1, r1, r2, i2, Nat.zero_add]
      refine WD_store (o := o) (ep := ep) (k := (p.length + k) * 3) (e := 3) (val := .agg (Enc.cells (Lk.getD (p.length + k + 1) default))) (by simp (disch := omega) only [go_sem, ne_eq, not_true_eq_false, not_false_eq_true, ↓reduceIte, Nat.reduceEqDiff, Nat.reduceAdd, Nat.reduceLeDiff, Int.toNat_natCast, Int.reduceToNat, and_self, Bool.not_true, Bool.not_false, Bool.false_and, Bool.and_false, Bool.true_and, Bool.and_true]) (by simp (disch := omega) only [go_sem, ne_eq, not_true_eq_false, not_false_eq_true, ↓reduceIte, Nat.reduceEqDiff, Nat.reduceAdd, Nat.reduceLeDiff, Int.toNat_natCast, Int.reduceToNat, and_self, Bool.not_true, Bool.not_false, Bool.false_and, Bool.and_false, Bool.true_and, Bool.and_true]) rfl q2.1 (over_flat (α := Edit) (by omega) _) rfl ?_
      simp (disch := omega) only [go_sem, ne_eq, not_true_eq_false, not_false_eq_true, ↓reduceIte, Nat.reduceEqDiff, Nat.reduceAdd, Nat.reduceLeDiff, Int.toNat_natCast, Int.reduceToNat, and_self, Bool.not_true, Bool.not_false, Bool.false_and, Bool.and_false, Bool.true_and, Bool.and_true, i2, Nat.zero_add]
      refine WD_store (o := o) (ep := ep) (k := (p.length + k + 1) * 3) (e := 3) (val := .agg (Enc.cells (Lk.getD (p.length + k) default))) (by simp (disch := omega) only [go_sem, ne_eq, not_true_eq_false, not_false_eq_true, ↓reduceIte, Nat.reduceEqDiff, Nat.reduceAdd, Nat.reduceLeDiff, Int.toNat_natCast, Int.reduceToNat, and_self, Bool.not_true, Bool.not_false, Bool.false_and, Bool.and_false, Bool.true_and, Bool.and_true]) (by simp (disch := omega) only [go_sem, ne_eq, not_true_eq_false, not_false_eq_true, ↓reduceIte, Nat.reduceEqDiff, Nat.reduceAdd, Nat.reduceLeDiff, Int.toNat_natCast, Int.reduceToNat, and_self, Bool.not_true, Bool.not_false, Bool.false_and, Bool.and_false, Bool.true_and, Bool.and_true]) rfl (get_put_same _ _ _) (over_flat (α := Edit) (by rw [List.length_set]; omega) _) rfl ?_
      simp (disch := omega) only [go_sem, ne_eq, not_true_eq_false, not_false_eq_true, ↓reduceIte, Nat.reduceEqDiff, Nat.reduceAdd, Nat.reduceLeDiff, Int.toNat_natCast, Int.reduceToNat, and_self, Bool.not_true, Bool.not_false, Bool.false_and, Bool.and_false, Bool.true_and, Bool.and_true, a36r11]
      exact ⟨(_, k + 1, _), ⟨by simp only; omega, by simp only; rw [← es]; exact (At.put (At.put q2))⟩, by simp only; omega, rfl⟩
    · simp (disch := omega) only [go_sem, ne_eq, not_true_eq_false, not_false_eq_true, ↓reduceIte, Nat.reduceEqDiff, Nat.reduceAdd, Nat.reduceLeDiff, Int.toNat_natCast, Int.reduceToNat, and_self, Bool.not_true, Bool.not_false, Bool.false_and, Bool.and_false, Bool.true_and, Bool.and_true]
      obtain rfl : k = s := by omega
      exact ⟨_, q2, hC⟩
/-- An element goes to its place, from the right. -/
theorem sym_last (hP : SpP P) (o ep N : Nat) (h0 : Heap) (hl : N ≤ 1000000) (p A q : List Edit) (y : Edit) (h : Heap) (h2 : 2 ≤ A.length) (hN : (p ++ A ++ [y] ++ q).length = N) (hS : Srt A) (hA : At h0 h o ep (p ++ A ++ [y] ++ q)) :
    Fun P 36 [.hs 3 o ep 0 N false, .int .i64 p.length, .int .i64 (p.length + A.length : Nat), .int .i64 (p.length + A.length + 1 : Nat), .fn 26 []] h (fun _ h' => ∃ C, At h0 h' o ep (p ++ C ++ q) ∧ Stb (A ++ [y]) C) := by
  refine Fun.of (code := a36c) (by rw [hP.fn]; rfl) (by rw [hP.pure _ (by decide)]; rfl) ?_
  have hlN : p.length + A.length + 1 + q.length = N := by rw [← hN]; simp only [List.length_append, List.length_cons, List.length_nil]
  have e1 : decide (((p.length + A.length : Nat) : Int) - (p.length : Int) = 1) = false := by simp only [decide_eq_false_iff_not]; omega
  have e2 : ((p.length + A.length + 1 : Nat) : Int) - ((p.length + A.length : Nat) : Int) = 1 := by omega
  simp (disch := omega) only [go_sem, ne_eq, not_true_eq_false, not_false_eq_true, ↓reduceIte, Nat.reduceEqDiff, Nat.reduceAdd, Nat.reduceLeDiff, Int.toNat_natCast, Int.reduceToNat, and_self, Bool.not_true, Bool.not_false, Bool.false_and, Bool.and_false, Bool.true_and, Bool.and_true, a36c, a36r0, e1, a36r12, e2, decide_true, a36r13, a36r14]
  refine Wp_loop (fun x' : Nat × Nat × Nat => (p.length ≤ x'.2.1 ∧ x'.2.1 ≤ x'.2.2 ∧ x'.2.2 ≤ p.length + A.length) ∧ (∀ t, t < x'.2.1 - p.length → (A.getD t default).f ≤ y.f) ∧ (∀ t, x'.2.2 - p.length ≤ t → t < A.length → y.f < (A.getD t default).f))
    (fun (t, i, j) => { fr := [(0, .hs 3 o ep 0 N false), (2, .int .i64 (p.length + A.length : Nat)), (4, .fn 26 []), (14, .int .i64 i), (15, .int .i64 j)], st := t, h := h }) (fun x => x.2.2 - x.2.1) (0, p.length, p.length + A.length) rfl ⟨⟨by simp, by simp, by simp⟩, fun t ht => by simp at ht, fun t ht ht' => by simp at ht; omega⟩ ?_
  rintro ⟨t, i, j⟩ ⟨⟨g1, g2, g3⟩, g4, g5⟩
  simp only at g1 g2 g3 g4 g5
  simp (disch := omega) only [go_sem, ne_eq, not_true_eq_false, not_false_eq_true, ↓reduceIte, Nat.reduceEqDiff, Nat.reduceAdd, Nat.reduceLeDiff, Int.toNat_natCast, Int.reduceToNat, and_self, Bool.not_true, Bool.not_false, Bool.false_and, Bool.and_false, Bool.true_and, Bool.and_true, a36l2, a36r15]
  refine condS_if (fun hk => ?_) (fun hk => ?_)
  · have hk' : i < j := by omega
    have hm : ∃ m, m = (i + j) / 2 := ⟨_, rfl⟩
    obtain ⟨m, hm⟩ := hm
    have r1 := ld3 (l := p ++ A ++ [y] ++ q) (k := m) (by omega)
    have r2 := ld3 (l := p ++ A ++ [y] ++ q) (k := p.length + A.length) (by omega)
    have x1 : (p ++ A ++ [y] ++ q).getD m default = A.getD (m - p.length) default := by
      have := getD_mid p A ([y] ++ q) (i := m - p.length) (by omega)
      rw [← this, List.append_assoc]; congr 1; omega
    have x2 : (p ++ A ++ [y] ++ q).getD (p.length + A.length) default = y := by
      simp
    rw [x1] at r1
    rw [x2] at r2
    simp (disch := omega) only [go_sem, ne_eq, not_true_eq_false, not_false_eq_true, ↓reduceIte, Nat.reduceEqDiff, Nat.reduceAdd, Nat.reduceLeDiff, Int.toNat_natCast, Int.reduceToNat, and_self, Bool.not_true, Bool.not_false, Bool.false_and, Bool.and_false, Bool.true_and, Bool.and_true, a36r16, half, ← hm]
    simp (disch := omega) only [go_sem, ne_eq, not_true_eq_false, not_false_eq_true, ↓reduceIte, Nat.reduceEqDiff, Nat.reduceAdd, Nat.reduceLeDiff, Int.toNat_natCast, Int.reduceToNat, and_self, Bool.not_true, Bool.not_false, Bool.false_and, Bool.and_false, Bool.true_and, Bool.and_true, a36d17, hA.1, r1, r2, Nat.zero_add]
    refine WD_denv (f := 26) (caps := []) (k := 0) (vs := [.agg (Enc.cells y), .agg (Enc.cells (A.getD (m - p.length) default))]) (by simp (disch := omega) only [go_sem, ne_eq, not_true_eq_false, not_false_eq_true, ↓reduceIte, Nat.reduceEqDiff, Nat.reduceAdd, Nat.reduceLeDiff, Int.toNat_natCast, Int.reduceToNat, and_self, Bool.not_true, Bool.not_false, Bool.false_and, Bool.and_false, Bool.true_and, Bool.and_true]) (by rw [hP.pure _ (by decide)]; rfl) (by simp (disch := omega) only [go_sem, ne_eq, not_true_eq_false, not_false_eq_true, ↓reduceIte, Nat.reduceEqDiff, Nat.reduceAdd, Nat.reduceLeDiff, Int.toNat_natCast, Int.reduceToNat, and_self, Bool.not_true, Bool.not_false, Bool.false_and, Bool.and_false, Bool.true_and, Bool.and_true]) (cmp_den hP _ _) (fun v hv => by subst hv; simp (disch := omega) only [go_sem, ne_eq, not_true_eq_false, not_false_eq_true, ↓reduceIte, Nat.reduceEqDiff, Nat.reduceAdd, Nat.reduceLeDiff, Int.toNat_natCast, Int.reduceToNat, and_self, Bool.not_true, Bool.not_false, Bool.false_and, Bool.and_false, Bool.true_and, Bool.and_true]) (fun v hv => rfl) (fun v hv => ?_)
    subst hv
    simp (disch := omega) only [go_sem, ne_eq, not_true_eq_false, not_false_eq_true, ↓reduceIte, Nat.reduceEqDiff, Nat.reduceAdd, Nat.reduceLeDiff, Int.toNat_natCast, Int.reduceToNat, and_self, Bool.not_true, Bool.not_false, Bool.false_and, Bool.and_false, Bool.true_and, Bool.and_true, cmpI_lt]
    refine condS_split (fun c => ?_) (fun c => ?_) <;> simp only [Bool.not_eq_true', Bool.not_eq_false', decide_eq_true_eq, decide_eq_false_iff_not] at c
    · simp (disch := omega) only [go_sem, ne_eq, not_true_eq_false, not_false_eq_true, ↓reduceIte, Nat.reduceEqDiff, Nat.reduceAdd, Nat.reduceLeDiff, Int.toNat_natCast, Int.reduceToNat, and_self, Bool.not_true, Bool.not_false, Bool.false_and, Bool.and_false, Bool.true_and, Bool.and_true, a36r18]
      refine ⟨(_, m + 1, j), ⟨⟨by simp only; omega, by simp only; omega, g3⟩, fun u hu => ?_, g5⟩, by simp only; omega, rfl⟩
      simp only at hu
      have := srt_at hS (i := u) (j := m - p.length) (by omega) (by omega)
      omega
    · simp (disch := omega) only [go_sem, ne_eq, not_true_eq_false, not_false_eq_true, ↓reduceIte, Nat.reduceEqDiff, Nat.reduceAdd, Nat.reduceLeDiff, Int.toNat_natCast, Int.reduceToNat, and_self, Bool.not_true, Bool.not_false, Bool.false_and, Bool.and_false, Bool.true_and, Bool.and_true, a36r19]
      refine ⟨(_, i, m), ⟨⟨g1, by simp only; omega, by simp only; omega⟩, g4, fun u hu hu' => ?_⟩, by simp only; omega, rfl⟩
      simp only at hu
      have := srt_at hS (i := m - p.length) (j := u) (by omega) (by omega)
      omega
  · obtain ⟨s, hs⟩ : ∃ s, s = i - p.length := ⟨_, rfl⟩
    have hj : j = i := by omega
    subst hj
    have hsl : s ≤ A.length := by omega
    have hC : Stb (A ++ [y]) (A.take s ++ y :: A.drop s) := by
      have hA' : Srt (A.take s ++ A.drop s) := by rw [List.take_append_drop]; exact hS
      have h1 : ∀ x ∈ A.take s, x.f ≤ y.f := fun x hx => by
        obtain ⟨u, u1, u2, rfl⟩ := mem_take_at hx
        exact g4 u (by omega)
      have h2 : ∀ x ∈ A.drop s, y.f < x.f := fun x hx => by
        obtain ⟨u, u1, u2, rfl⟩ := mem_drop_at hx
        exact g5 u (by omega) u2
      exact Stb.insert (by rw [List.take_append_drop]; exact Stb.refl hS) h1 h2
    simp (disch := omega) only [go_sem, ne_eq, not_true_eq_false, not_false_eq_true, ↓reduceIte, Nat.reduceEqDiff, Nat.reduceAdd, Nat.reduceLeDiff, Int.toNat_natCast, Int.reduceToNat, and_self, Bool.not_true, Bool.not_false, Bool.false_and, Bool.and_false, Bool.true_and, Bool.and_true, a36r20]
    refine Wp_loop (fun x' : Nat × Nat × Heap => x'.2.1 ≤ A.length - s ∧ At h0 x'.2.2 o ep (p ++ (A.take (s + x'.2.1) ++ y :: A.drop (s + x'.2.1)) ++ q)) (fun (t, k, h) => { fr := [(0, .hs 3 o ep 0 N false), (14, .int .i64 j), (17, .int .i64 (p.length + s + k : Nat))], st := t, h := h }) (fun x => x.2.1) (t, A.length - s, h) (by simp only [show p.length + s + (A.length - s) = p.length + A.length by omega]) ⟨Nat.le_refl _, by simp only [show s + (A.length - s) = A.length by omega, List.take_length, List.drop_length]; simpa only [List.append_assoc] using hA⟩ ?_
    rintro ⟨t, k, h⟩ ⟨q1, q2⟩
    simp only at q1 q2
    simp (disch := omega) only [go_sem, ne_eq, not_true_eq_false, not_false_eq_true, ↓reduceIte, Nat.reduceEqDiff, Nat.reduceAdd, Nat.reduceLeDiff, Int.toNat_natCast, Int.reduceToNat, and_self, Bool.not_true, Bool.not_false, Bool.false_and, Bool.and_false, Bool.true_and, Bool.and_true, a36l3, a36r21]
    refine condS_if (fun hk => ?_) (fun hk => ?_)
    · obtain ⟨k, rfl⟩ : ∃ k', k = k' + 1 := ⟨k - 1, by omega⟩
      have hkA : s + k < A.length := by omega
      have hlk : (p ++ (A.take (s + (k + 1)) ++ y :: A.drop (s + (k + 1))) ++ q).length = N := by
        simp only [List.length_append, List.length_cons, List.length_take, List.length_drop]; omega
      have es : swp (p ++ (A.take (s + (k + 1)) ++ y :: A.drop (s + (k + 1))) ++ q) (p.length + s + k + 1) (p.length + s + k) = p ++ (A.take (s + k) ++ y :: A.drop (s + k)) ++ q := by
        have := swp_adj (p ++ A.take (s + k)) (A.drop (s + k + 1) ++ q) (A[s + k]) y
        rw [show (p ++ A.take (s + k)).length = p.length + s + k by simp only [List.length_append, List.length_take]; omega] at this
        rw [swp_comm (by omega) (by omega), List.drop_eq_getElem_cons hkA, ← Nat.add_assoc, List.take_succ_eq_append_getElem hkA]
        simpa only [List.append_assoc, List.cons_append, List.nil_append] using this
      generalize p ++ (A.take (s + (k + 1)) ++ y :: A.drop (s + (k + 1))) ++ q = Lk at es hlk q2
      have r1 := ld3 (l := Lk) (k := p.length + s + k) (by omega)
      have r2 := ld3 (l := Lk) (k := p.length + s + k + 1) (by omega)
      have i1 : ((p.length + s + (k + 1) : Nat) : Int) - 1 = ((p.length + s + k : Nat) : Int) := by omega
      have i2 : ((p.length + s + (k + 1) : Nat) : Int) = ((p.length + s + k + 1 : Nat) : Int) := by omega
      rw [i2] at i1
      simp (disch := omega) only [go_sem, ne_eq, not_true_eq_false, not_false_eq_true, ↓reduceIte, Nat.reduceEqDiff, Nat.reduceAdd, Nat.reduceLeDiff, Int.toNat_natCast, Int.reduceToNat, and_self, Bool.not_true, Bool.not_false, Bool.false_and, Bool.and_false, Bool.true_and, Bool.and_true, a36d22, i2, i1, q2.1, r1, r2, Nat.zero_add]
      refine WD_store (o := o) (ep := ep) (k := (p.length + s + k + 1) * 3) (e := 3) (val := .agg (Enc.cells (Lk.getD (p.length + s + k) default))) (by simp (disch := omega) only [go_sem, ne_eq, not_true_eq_false, not_false_eq_true, ↓reduceIte, Nat.reduceEqDiff, Nat.reduceAdd, Nat.reduceLeDiff, Int.toNat_natCast, Int.reduceToNat, and_self, Bool.not_true, Bool.not_false, Bool.false_and, Bool.and_false, Bool.true_and, Bool.and_true]) (by simp (disch := omega) only [go_sem, ne_eq, not_true_eq_false, not_false_eq_true, ↓reduceIte, Nat.reduceEqDiff, Nat.reduceAdd, Nat.reduceLeDiff, Int.toNat_natCast, Int.reduceToNat, and_self, Bool.not_true, Bool.not_false, Bool.false_and, Bool.and_false, Bool.true_and, Bool.and_true]) rfl q2.1 (over_flat (α := Edit) (by omega) _) rfl ?_
      simp (disch := omega) only [go_sem, ne_eq, not_true_eq_false, not_false_eq_true, ↓reduceIte, Nat.reduceEqDiff, Nat.reduceAdd, Nat.reduceLeDiff, Int.toNat_natCast, Int.reduceToNat, and_self, Bool.not_true, Bool.not_false, Bool.false_and, Bool.and_false, Bool.true_and, Bool.and_true, Nat.zero_add]
      refine WD_store (o := o) (ep := ep) (k := (p.length + s + k) * 3) (e := 3) (val := .agg (Enc.cells (Lk.getD (p.length + s + k + 1) default))) (by simp (disch := omega) only [go_sem, ne_eq, not_true_eq_false, not_false_eq_true, ↓reduceIte, Nat.reduceEqDiff, Nat.reduceAdd, Nat.reduceLeDiff, Int.toNat_natCast, Int.reduceToNat, and_self, Bool.not_true, Bool.not_false, Bool.false_and, Bool.and_false, Bool.true_and, Bool.and_true]) (by simp (disch := omega) only [go_sem, ne_eq, not_true_eq_false, not_false_eq_true, ↓reduceIte, Nat.reduceEqDiff, Nat.reduceAdd, Nat.reduceLeDiff, Int.toNat_natCast, Int.reduceToNat, and_self, Bool.not_true, Bool.not_false, Bool.false_and, Bool.and_false, Bool.true_and, Bool.and_true]) rfl (get_put_same _ _ _) (over_flat (α := Edit) (by rw [List.length_set]; omega) _) rfl ?_
      simp (disch := omega) only [go_sem, ne_eq, not_true_eq_false, not_false_eq_true, ↓reduceIte, Nat.reduceEqDiff, Nat.reduceAdd, Nat.reduceLeDiff, Int.toNat_natCast, Int.reduceToNat, and_self, Bool.not_true, Bool.not_false, Bool.false_and, Bool.and_false, Bool.true_and, Bool.and_true, a36r23, i1]
      exact ⟨(_, k, _), ⟨by simp only; omega, by simp only; rw [← es]; exact (At.put (At.put q2))⟩, by simp only; omega, rfl⟩
    · simp (disch := omega) only [go_sem, ne_eq, not_true_eq_false, not_false_eq_true, ↓reduceIte, Nat.reduceEqDiff, Nat.reduceAdd, Nat.reduceLeDiff, Int.toNat_natCast, Int.reduceToNat, and_self, Bool.not_true, Bool.not_false, Bool.false_and, Bool.and_false, Bool.true_and, Bool.and_true]
      obtain rfl : k = 0 := by omega
      exact ⟨_, q2, hC⟩
end Go.Am.Sp

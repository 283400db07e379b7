/- Insertion sort in a row, in plain Lean. -/
import Derived.Test.YtggjkebeejpjfaaDoorSpN
set_option linter.unusedSimpArgs false
set_option linter.unusedVariables false
namespace Go.Am.Sp
open Go.Am
variable {P : Prog}
set_option maxRecDepth 20000
set_option maxHeartbeats 2000000
theorem ins_fun (hP : SpP P) (o ep N : Nat) (h0 : Heap) (hl : N ≤ 1000000) (p A q : List Edit) (h : Heap) (hN : (p ++ A ++ q).length = N) (hAt : At h0 h o ep (p ++ A ++ q)) :
    Fun P 35 [.hs 3 o ep 0 N false, .int .i64 p.length, .int .i64 (p.length + A.length : Nat), .fn 26 []] h (fun _ h' => ∃ C, At h0 h' o ep (p ++ C ++ q) ∧ Stb A C) := by
  have hlN : p.length + A.length + q.length = N := by rw [← hN]; simp only [List.length_append]
  refine Fun.of (code := a35c) (by rw [hP.fn]; rfl) (by rw [hP.pure _ (by decide)]; rfl) ?_
  simp (disch := omega) only [go_sem, ne_eq, not_true_eq_false, not_false_eq_true, ↓reduceIte, Nat.reduceEqDiff, Nat.reduceAdd, Nat.reduceLeDiff, Int.toNat_natCast, Int.reduceToNat, and_self, Bool.not_true, Bool.not_false, Bool.false_and, Bool.and_false, Bool.true_and, Bool.and_true, a35c, a35r0]
  refine Wp_loop (fun x : Nat × Nat × Heap × List Edit => (x.2.1 + 1 ≤ A.length ∨ x.2.1 = 0) ∧ Stb (A.take (x.2.1 + 1)) x.2.2.2 ∧ At h0 x.2.2.1 o ep (p ++ x.2.2.2 ++ A.drop (x.2.1 + 1) ++ q))
    (fun (t, k, h, D) => { fr := [(0, .hs 3 o ep 0 N false), (1, .int .i64 p.length), (2, .int .i64 (p.length + A.length : Nat)), (3, .fn 26 []), (8, .int .i64 ((p.length : Int) + 1 + k))], st := t, h := h }) (fun x => A.length - x.2.1) (0, 0, h, A.take 1) (by simp) ⟨Or.inr rfl, Stb.refl ?_, ?_⟩ ?_
  · cases A with
    | nil => exact List.Pairwise.nil
    | cons x r => simp [Srt]
  · have : A.take 1 ++ A.drop 1 = A := List.take_append_drop _ _
    simp only [Nat.zero_add]
    rw [List.append_assoc p, this]; exact hAt
  rintro ⟨t, k, h, D⟩ ⟨g1, g2, g3⟩
  simp only at g1 g2 g3
  simp (disch := omega) only [go_sem, ne_eq, not_true_eq_false, not_false_eq_true, ↓reduceIte, Nat.reduceEqDiff, Nat.reduceAdd, Nat.reduceLeDiff, Int.toNat_natCast, Int.reduceToNat, and_self, Bool.not_true, Bool.not_false, Bool.false_and, Bool.and_false, Bool.true_and, Bool.and_true, a35l1, a35r1]
  refine condS_if (fun hk => ?_) (fun hk => ?_)
  · have hk' : k + 1 < A.length := by omega
    have hD : D.length = k + 1 := by rw [g2.2.1, List.length_take]; omega
    obtain ⟨x, hx⟩ : ∃ x, x = A[k + 1] := ⟨_, rfl⟩
    have hsplit : A.drop (k + 1) = x :: A.drop (k + 2) := by rw [hx]; exact List.drop_eq_getElem_cons hk'
    have htake : A.take (k + 2) = A.take (k + 1) ++ [x] := by rw [hx]; exact List.take_succ_eq_append_getElem hk'
    rw [hsplit] at g3
    simp (disch := omega) only [go_sem, ne_eq, not_true_eq_false, not_false_eq_true, ↓reduceIte, Nat.reduceEqDiff, Nat.reduceAdd, Nat.reduceLeDiff, Int.toNat_natCast, Int.reduceToNat, and_self, Bool.not_true, Bool.not_false, Bool.false_and, Bool.and_false, Bool.true_and, Bool.and_true, a35r2]
    refine Wp_loop (fun x' : Nat × Nat × Heap => x'.2.1 ≤ D.length ∧ (∀ u, x'.2.1 ≤ u → u < D.length → x.f < (D.getD u default).f) ∧ At h0 x'.2.2 o ep (p ++ (D.take x'.2.1 ++ x :: D.drop x'.2.1) ++ (A.drop (k + 2) ++ q)))
      (fun (t, d, h) => { fr := [(0, .hs 3 o ep 0 N false), (1, .int .i64 p.length), (2, .int .i64 (p.length + A.length : Nat)), (3, .fn 26 []), (8, .int .i64 ((p.length : Int) + 1 + k)), (9, .int .i64 (p.length + d : Nat))], st := t, h := h }) (fun x => x.2.1) (t, D.length, h) (by simp only [show ((p.length + D.length : Nat) : Int) = (p.length : Int) + 1 + k by omega]) ⟨Nat.le_refl _, fun u h1 h2 => by simp only at h1; omega, by simp only [List.take_length, List.drop_length]; simpa only [List.append_assoc, List.cons_append, List.nil_append] using g3⟩ ?_
    rintro ⟨t, d, h⟩ ⟨q1, q2, q3⟩
    simp only at q1 q2 q3
    have hlk : (p ++ (D.take d ++ x :: D.drop d) ++ (A.drop (k + 2) ++ q)).length = N := by
      simp only [List.length_append, List.length_cons, List.length_take, List.length_drop]; omega
    have done : (d = 0 ∨ (∃ e, d = e + 1 ∧ (D.getD e default).f ≤ x.f)) → Stb (A.take (k + 2)) (D.take d ++ x :: D.drop d) := fun e => by
      rw [htake]
      refine Stb.insert (by rw [List.take_append_drop]; exact g2) (fun y hy => ?_) (fun y hy => ?_)
      · obtain ⟨u, u1, u2, rfl⟩ := mem_take_at hy
        rcases e with rfl | ⟨e, rfl, he⟩
        · omega
        · have := srt_at g2.1 (i := u) (j := e) (by omega) (by omega)
          omega
      · obtain ⟨u, u1, u2, rfl⟩ := mem_drop_at hy
        exact q2 u u1 u2
    have ec : ((p.length : Int) + 1 + (k : Int)) + 1 = (p.length : Int) + 1 + ((k + 1 : Nat) : Int) := by omega
    simp (disch := omega) only [go_sem, ne_eq, not_true_eq_false, not_false_eq_true, ↓reduceIte, Nat.reduceEqDiff, Nat.reduceAdd, Nat.reduceLeDiff, Int.toNat_natCast, Int.reduceToNat, and_self, Bool.not_true, Bool.not_false, Bool.false_and, Bool.and_false, Bool.true_and, Bool.and_true, a35l0]
    cases d with
    | zero =>
      have w1 : decide ((p.length : Int) < ((p.length + 0 : Nat) : Int)) = false := by simp only [decide_eq_false_iff_not]; omega
      have w2 : decide ((p.length : Int) < (p.length : Int)) = false := by simp
      simp (disch := omega) only [go_sem, ne_eq, not_true_eq_false, not_false_eq_true, ↓reduceIte, Nat.reduceEqDiff, Nat.reduceAdd, Nat.reduceLeDiff, Int.toNat_natCast, Int.reduceToNat, and_self, Bool.not_true, Bool.not_false, Bool.false_and, Bool.and_false, Bool.true_and, Bool.and_true, a35d3, w1, w2, a35r6, ec]
      exact ⟨(_, k + 1, h, D.take 0 ++ x :: D.drop 0), ⟨Or.inl (by simp only; omega), done (Or.inl rfl), by simpa only [List.append_assoc] using q3⟩, by simp only; omega, rfl⟩
    | succ e =>
      have w1 : decide ((p.length : Int) < ((p.length + (e + 1) : Nat) : Int)) = true := by simp only [decide_eq_true_eq]; omega
      have i1 : ((p.length + (e + 1) : Nat) : Int) - 1 = ((p.length + e : Nat) : Int) := by omega
      have heD : e < D.length := by omega
      have r1 := ld3 (l := p ++ (D.take (e + 1) ++ x :: D.drop (e + 1)) ++ (A.drop (k + 2) ++ q)) (k := p.length + (e + 1)) (by omega)
      have r2 := ld3 (l := p ++ (D.take (e + 1) ++ x :: D.drop (e + 1)) ++ (A.drop (k + 2) ++ q)) (k := p.length + e) (by omega)
      have x1 : (p ++ (D.take (e + 1) ++ x :: D.drop (e + 1)) ++ (A.drop (k + 2) ++ q)).getD (p.length + (e + 1)) default = x := by
        rw [getD_mid _ _ _ (by simp only [List.length_append, List.length_cons, List.length_take, List.length_drop]; omega), List.getD_eq_getElem?_getD, List.getElem?_append_right (by rw [List.length_take]; omega)]
        simp [show e + 1 - min (e + 1) D.length = 0 by omega]
      have x2 : (p ++ (D.take (e + 1) ++ x :: D.drop (e + 1)) ++ (A.drop (k + 2) ++ q)).getD (p.length + e) default = D.getD e default := by
        rw [getD_mid _ _ _ (by simp only [List.length_append, List.length_cons, List.length_take, List.length_drop]; omega), List.getD_eq_getElem?_getD, List.getElem?_append_left (by rw [List.length_take]; omega), List.getElem?_take, if_pos (by omega), List.getD_eq_getElem?_getD]
      have es : swp (p ++ (D.take (e + 1) ++ x :: D.drop (e + 1)) ++ (A.drop (k + 2) ++ q)) (p.length + (e + 1)) (p.length + e) = p ++ (D.take e ++ x :: D.drop e) ++ (A.drop (k + 2) ++ q) := by
        have := swp_adj (p ++ D.take e) (D.drop (e + 1) ++ (A.drop (k + 2) ++ q)) (D[e]) x
        rw [show (p ++ D.take e).length = p.length + e by simp only [List.length_append, List.length_take]; omega, Nat.add_assoc] at this
        rw [swp_comm (by omega) (by omega), List.drop_eq_getElem_cons heD, List.take_succ_eq_append_getElem heD]
        simpa only [List.append_assoc, List.cons_append, List.nil_append] using this
      have hrest : ∀ h', At h0 h' o ep (p ++ (D.take (e + 1) ++ x :: D.drop (e + 1)) ++ (A.drop (k + 2) ++ q)) → At h0 h' o ep (p ++ (D.take (e + 1) ++ x :: D.drop (e + 1)) ++ A.drop (k + 1 + 1) ++ q) := fun h' w => by simpa only [List.append_assoc] using w
      generalize p ++ (D.take (e + 1) ++ x :: D.drop (e + 1)) ++ (A.drop (k + 2) ++ q) = Lk at es hlk q3 r1 r2 x1 x2 hrest
      have s1 := r1
      have s2 := r2
      rw [x1] at s1
      rw [x2] at s2
      simp (disch := omega) only [go_sem, ne_eq, not_true_eq_false, not_false_eq_true, ↓reduceIte, Nat.reduceEqDiff, Nat.reduceAdd, Nat.reduceLeDiff, Int.toNat_natCast, Int.reduceToNat, and_self, Bool.not_true, Bool.not_false, Bool.false_and, Bool.and_false, Bool.true_and, Bool.and_true, a35d3, w1, i1, q3.1, s1, s2, Nat.zero_add]
      refine WD_denv (f := 26) (caps := []) (k := 0) (vs := [.agg (Enc.cells x), .agg (Enc.cells (D.getD e default))]) (by simp (disch := omega) only [go_sem, ne_eq, not_true_eq_false, not_false_eq_true, ↓reduceIte, Nat.reduceEqDiff, Nat.reduceAdd, Nat.reduceLeDiff, Int.toNat_natCast, Int.reduceToNat, and_self, Bool.not_true, Bool.not_false, Bool.false_and, Bool.and_false, Bool.true_and, Bool.and_true]) (by rw [hP.pure _ (by decide)]; rfl) (by simp (disch := omega) only [go_sem, ne_eq, not_true_eq_false, not_false_eq_true, ↓reduceIte, Nat.reduceEqDiff, Nat.reduceAdd, Nat.reduceLeDiff, Int.toNat_natCast, Int.reduceToNat, and_self, Bool.not_true, Bool.not_false, Bool.false_and, Bool.and_false, Bool.true_and, Bool.and_true]) (cmp_den hP _ _) (fun v hv => by subst hv; simp (disch := omega) only [go_sem, ne_eq, not_true_eq_false, not_false_eq_true, ↓reduceIte, Nat.reduceEqDiff, Nat.reduceAdd, Nat.reduceLeDiff, Int.toNat_natCast, Int.reduceToNat, and_self, Bool.not_true, Bool.not_false, Bool.false_and, Bool.and_false, Bool.true_and, Bool.and_true]) (fun v hv => rfl) (fun v hv => ?_)
      subst hv
      simp (disch := omega) only [go_sem, ne_eq, not_true_eq_false, not_false_eq_true, ↓reduceIte, Nat.reduceEqDiff, Nat.reduceAdd, Nat.reduceLeDiff, Int.toNat_natCast, Int.reduceToNat, and_self, Bool.not_true, Bool.not_false, Bool.false_and, Bool.and_false, Bool.true_and, Bool.and_true, cmpI_lt]
      refine condS_if (fun c => ?_) (fun c => ?_)
      · simp (disch := omega) only [go_sem, ne_eq, not_true_eq_false, not_false_eq_true, ↓reduceIte, Nat.reduceEqDiff, Nat.reduceAdd, Nat.reduceLeDiff, Int.toNat_natCast, Int.reduceToNat, and_self, Bool.not_true, Bool.not_false, Bool.false_and, Bool.and_false, Bool.true_and, Bool.and_true, a35d4, i1, q3.1, r1, r2, Nat.zero_add]
        refine WD_store (o := o) (ep := ep) (k := (p.length + (e + 1)) * 3) (e := 3) (val := .agg (Enc.cells (Lk.getD (p.length + e) default))) (by simp (disch := omega) only [go_sem, ne_eq, not_true_eq_false, not_false_eq_true, ↓reduceIte, Nat.reduceEqDiff, Nat.reduceAdd, Nat.reduceLeDiff, Int.toNat_natCast, Int.reduceToNat, and_self, Bool.not_true, Bool.not_false, Bool.false_and, Bool.and_false, Bool.true_and, Bool.and_true]) (by simp (disch := omega) only [go_sem, ne_eq, not_true_eq_false, not_false_eq_true, ↓reduceIte, Nat.reduceEqDiff, Nat.reduceAdd, Nat.reduceLeDiff, Int.toNat_natCast, Int.reduceToNat, and_self, Bool.not_true, Bool.not_false, Bool.false_and, Bool.and_false, Bool.true_and, Bool.and_true]) rfl q3.1 (over_flat (α := Edit) (by omega) _) rfl ?_
        simp (disch := omega) only [go_sem, ne_eq, not_true_eq_false, not_false_eq_true, ↓reduceIte, Nat.reduceEqDiff, Nat.reduceAdd, Nat.reduceLeDiff, Int.toNat_natCast, Int.reduceToNat, and_self, Bool.not_true, Bool.not_false, Bool.false_and, Bool.and_false, Bool.true_and, Bool.and_true, Nat.zero_add]
        refine WD_store (o := o) (ep := ep) (k := (p.length + e) * 3) (e := 3) (val := .agg (Enc.cells (Lk.getD (p.length + (e + 1)) default))) (by simp (disch := omega) only [go_sem, ne_eq, not_true_eq_false, not_false_eq_true, ↓reduceIte, Nat.reduceEqDiff, Nat.reduceAdd, Nat.reduceLeDiff, Int.toNat_natCast, Int.reduceToNat, and_self, Bool.not_true, Bool.not_false, Bool.false_and, Bool.and_false, Bool.true_and, Bool.and_true]) (by simp (disch := omega) only [go_sem, ne_eq, not_true_eq_false, not_false_eq_true, ↓reduceIte, Nat.reduceEqDiff, Nat.reduceAdd, Nat.reduceLeDiff, Int.toNat_natCast, Int.reduceToNat, and_self, Bool.not_true, Bool.not_false, Bool.false_and, Bool.and_false, Bool.true_and, Bool.and_true]) rfl (get_put_same _ _ _) (over_flat (α := Edit) (by rw [List.length_set]; omega) _) rfl ?_
        simp (disch := omega) only [go_sem, ne_eq, not_true_eq_false, not_false_eq_true, ↓reduceIte, Nat.reduceEqDiff, Nat.reduceAdd, Nat.reduceLeDiff, Int.toNat_natCast, Int.reduceToNat, and_self, Bool.not_true, Bool.not_false, Bool.false_and, Bool.and_false, Bool.true_and, Bool.and_true, a35r5, i1]
        refine ⟨(_, e, _), ⟨by simp only; omega, fun u h1 h2 => ?_, by simp only; rw [← es]; exact (At.put (At.put q3))⟩, by simp only; omega, rfl⟩
        rcases Nat.eq_or_lt_of_le h1 with h3 | h3
        · simp only at h3; rw [← h3]; exact c
        · exact q2 u h3 h2
      · simp (disch := omega) only [go_sem, ne_eq, not_true_eq_false, not_false_eq_true, ↓reduceIte, Nat.reduceEqDiff, Nat.reduceAdd, Nat.reduceLeDiff, Int.toNat_natCast, Int.reduceToNat, and_self, Bool.not_true, Bool.not_false, Bool.false_and, Bool.and_false, Bool.true_and, Bool.and_true, a35r6, ec]
        exact ⟨(_, k + 1, h, D.take (e + 1) ++ x :: D.drop (e + 1)), ⟨Or.inl (by simp only; omega), done (Or.inr ⟨e, rfl, by omega⟩), hrest _ q3⟩, by simp only; omega, rfl⟩
  · simp (disch := omega) only [go_sem, ne_eq, not_true_eq_false, not_false_eq_true, ↓reduceIte, Nat.reduceEqDiff, Nat.reduceAdd, Nat.reduceLeDiff, Int.toNat_natCast, Int.reduceToNat, and_self, Bool.not_true, Bool.not_false, Bool.false_and, Bool.and_false, Bool.true_and, Bool.and_true]
    rw [List.take_of_length_le (by omega)] at g2
    rw [List.drop_of_length_le (by omega), List.append_nil] at g3
    exact ⟨D, g3, g2⟩
end Go.Am.Sp

/- The stable sort of a row, in plain Lean. -/
import Derived.Test.YtggjkebeejpjfaaDoorSpO
set_option linter.unusedSimpArgs false
set_option linter.unusedVariables false
namespace Go.Am.Sp
open Go.Am
variable {P : Prog}
set_option maxRecDepth 20000
set_option maxHeartbeats 2000000
/-- The same edits, each key's in their order. -/
def Fl (L L0 : List Edit) : Prop := L.length = L0.length ∧ ∀ k, fl k L = fl k L0
theorem Fl.mid {p A C q L0 : List Edit} (h : Fl (p ++ A ++ q) L0) (hs : Stb A C) : Fl (p ++ C ++ q) L0 := by
  refine ⟨by have := h.1; simp only [List.length_append, hs.2.1] at this ⊢; exact this, fun k => ?_⟩
  rw [← h.2 k]
  simp only [fl_append, hs.2.2]
/-- Sorted blocks of one length. -/
def Blk (s : Nat) (bs : List (List Edit)) : Prop := ∀ b ∈ bs, b.length = s ∧ Srt b
theorem blk_len {s : Nat} : ∀ {bs : List (List Edit)}, Blk s bs → bs.flatten.length = bs.length * s
  | [], _ => by simp
  | b :: bs, h => by
    have h1 := blk_len (bs := bs) (fun x hx => h x (by simp [hx]))
    have h2 := (h b (by simp)).1
    simp only [List.flatten_cons, List.length_append, List.length_cons, h1, h2, Nat.add_mul]
    omega
theorem blk_end {s : Nat} {bs : List (List Edit)} {last L : List Edit} (hb : Blk s bs) (hl : Srt last) (hls : last.length < s) (hL : bs.flatten ++ last = L) (hn : L.length ≤ s) : Srt L := by
  have h1 := blk_len hb
  have h2 : bs.length * s + last.length ≤ s := by rw [← h1, ← List.length_append, hL]; exact hn
  match bs, hb with
  | [], _ => rw [← hL]; simpa using hl
  | [b], hb =>
    simp only [List.length_cons, List.length_nil, Nat.zero_add, Nat.one_mul] at h2
    have : last = [] := List.length_eq_zero_iff.1 (by omega)
    subst this
    rw [← hL]
    simpa using (hb b (by simp)).2
  | b :: c :: bs, hb =>
    simp only [List.length_cons] at h2
    have : 2 * s ≤ (bs.length + 1 + 1) * s := Nat.mul_le_mul_right _ (by omega)
    omega
theorem stable_fun (hP : SpP P) (o ep N : Nat) (h0 h : Heap) (L0 : List Edit) (hN : L0.length = N) (hl : N ≤ 1000000) (hAt : At h0 h o ep L0) :
    Fun P 30 [.hs 3 o ep 0 N false, .int .i64 N, .fn 26 []] h (fun _ h' => ∃ C, At h0 h' o ep C ∧ Stb L0 C) := by
  refine Fun.of (code := a30c) (by rw [hP.fn]; rfl) (by rw [hP.pure _ (by decide)]; rfl) ?_
  simp (disch := omega) only [go_sem, ne_eq, not_true_eq_false, not_false_eq_true, ↓reduceIte, Nat.reduceEqDiff, Nat.reduceAdd, Nat.reduceLeDiff, Int.toNat_natCast, Int.reduceToNat, and_self, Bool.not_true, Bool.not_false, Bool.false_and, Bool.and_false, Bool.true_and, Bool.and_true, a30c, a30r0, a30r1]
  refine Wp_loop (fun x : Nat × Heap × List (List Edit) × List Edit => Blk 20 x.2.2.1 ∧ Fl (x.2.2.1.flatten ++ x.2.2.2) L0 ∧ At h0 x.2.1 o ep (x.2.2.1.flatten ++ x.2.2.2))
    (fun (t, h, bs, R) => { fr := [(0, .hs 3 o ep 0 N false), (1, .int .i64 N), (2, .fn 26 []), (6, .int .i64 20), (7, .int .i64 (bs.flatten.length : Nat)), (8, .int .i64 (bs.flatten.length + 20 : Nat))], st := t, h := h }) (fun x => x.2.2.2.length) (0, h, [], L0) (by rfl) ⟨fun b hb => by simp at hb, by simp [Fl], by simpa using hAt⟩ ?_
  rintro ⟨t, h, bs, R⟩ ⟨g1, g2, g3⟩
  simp only at g1 g2 g3
  have hlen : bs.flatten.length + R.length = N := by rw [← hN, ← g2.1, List.length_append]
  simp (disch := omega) only [go_sem, ne_eq, not_true_eq_false, not_false_eq_true, ↓reduceIte, Nat.reduceEqDiff, Nat.reduceAdd, Nat.reduceLeDiff, Int.toNat_natCast, Int.reduceToNat, and_self, Bool.not_true, Bool.not_false, Bool.false_and, Bool.and_false, Bool.true_and, Bool.and_true, a30l0, a30r2]
  refine condS_if (fun hk => ?_) (fun hk => ?_)
  · obtain ⟨A, q, hR, hA⟩ : ∃ A q, R = A ++ q ∧ A.length = 20 := ⟨R.take 20, R.drop 20, (List.take_append_drop _ _).symm, by rw [List.length_take]; omega⟩
    have hRl : A.length + q.length = R.length := by rw [hR, List.length_append]
    rw [hR, ← List.append_assoc] at g2 g3
    simp (disch := omega) only [go_sem, ne_eq, not_true_eq_false, not_false_eq_true, ↓reduceIte, Nat.reduceEqDiff, Nat.reduceAdd, Nat.reduceLeDiff, Int.toNat_natCast, Int.reduceToNat, and_self, Bool.not_true, Bool.not_false, Bool.false_and, Bool.and_false, Bool.true_and, Bool.and_true, a30r3]
    refine WO.fun (vs := [.hs 3 o ep 0 N false, .int .i64 (bs.flatten.length : Nat), .int .i64 (bs.flatten.length + 20 : Nat), .fn 26 []]) (by simp (disch := omega) only [go_sem, ne_eq, not_true_eq_false, not_false_eq_true, ↓reduceIte, Nat.reduceEqDiff, Nat.reduceAdd, Nat.reduceLeDiff, Int.toNat_natCast, Int.reduceToNat, and_self, Bool.not_true, Bool.not_false, Bool.false_and, Bool.and_false, Bool.true_and, Bool.and_true]) (by
      have := ins_fun hP o ep N h0 hl bs.flatten A q h (by simp only [List.length_append]; omega) g3
      rw [hA] at this
      exact this) ?_
    rintro vv h1 ⟨C, hC, sC⟩
    have hCl : C.length = 20 := by rw [sC.2.1, hA]
    have efl : (bs ++ [C]).flatten = bs.flatten ++ C := by simp
    have el : ((bs.flatten.length + 20 : Nat) : Int) + 20 = ((bs.flatten.length + 20 + 20 : Nat) : Int) := by omega
    simp (disch := omega) only [go_sem, ne_eq, not_true_eq_false, not_false_eq_true, ↓reduceIte, Nat.reduceEqDiff, Nat.reduceAdd, Nat.reduceLeDiff, Int.toNat_natCast, Int.reduceToNat, and_self, Bool.not_true, Bool.not_false, Bool.false_and, Bool.and_false, Bool.true_and, Bool.and_true, a30r4, a30r5, el]
    refine ⟨(t, h1, bs ++ [C], q), ⟨fun b hb => ?_, by simp only [efl]; exact g2.mid sC, by simp only [efl]; exact hC⟩, by simp only; omega, by simp only [efl, List.length_append, hCl]⟩
    rcases List.mem_append.1 hb with hb | hb
    · exact g1 b hb
    · simp only [List.mem_singleton] at hb
      subst hb
      exact ⟨hCl, sC.1⟩
  · have hR20 : R.length < 20 := by omega
    simp (disch := omega) only [go_sem, ne_eq, not_true_eq_false, not_false_eq_true, ↓reduceIte, Nat.reduceEqDiff, Nat.reduceAdd, Nat.reduceLeDiff, Int.toNat_natCast, Int.reduceToNat, and_self, Bool.not_true, Bool.not_false, Bool.false_and, Bool.and_false, Bool.true_and, Bool.and_true, a30r6]
    refine WO.fun (vs := [.hs 3 o ep 0 N false, .int .i64 (bs.flatten.length : Nat), .int .i64 N, .fn 26 []]) (by simp (disch := omega) only [go_sem, ne_eq, not_true_eq_false, not_false_eq_true, ↓reduceIte, Nat.reduceEqDiff, Nat.reduceAdd, Nat.reduceLeDiff, Int.toNat_natCast, Int.reduceToNat, and_self, Bool.not_true, Bool.not_false, Bool.false_and, Bool.and_false, Bool.true_and, Bool.and_true]) (by
      have := ins_fun hP o ep N h0 hl bs.flatten R [] h (by simp only [List.length_append, List.length_nil]; omega) (by simpa using g3)
      rw [hlen] at this
      exact this) ?_
    rintro vv h1 ⟨C, hC, sC⟩
    have hCl : C.length = R.length := sC.2.1
    rw [List.append_nil] at hC
    have g2' : Fl (bs.flatten ++ C) L0 := by
      have := (show Fl (bs.flatten ++ R ++ []) L0 by rwa [List.append_nil]).mid sC
      rwa [List.append_nil] at this
    simp (disch := omega) only [go_sem, ne_eq, not_true_eq_false, not_false_eq_true, ↓reduceIte, Nat.reduceEqDiff, Nat.reduceAdd, Nat.reduceLeDiff, Int.toNat_natCast, Int.reduceToNat, and_self, Bool.not_true, Bool.not_false, Bool.false_and, Bool.and_false, Bool.true_and, Bool.and_true]
    refine Wp_loop (fun x : Nat × Heap × Nat × List (List Edit) × List Edit => 0 < x.2.2.1 ∧ x.2.2.1 ≤ 10000000 ∧ Blk x.2.2.1 x.2.2.2.1 ∧ Srt x.2.2.2.2 ∧ x.2.2.2.2.length < x.2.2.1 ∧ Fl (x.2.2.2.1.flatten ++ x.2.2.2.2) L0 ∧ At h0 x.2.1 o ep (x.2.2.2.1.flatten ++ x.2.2.2.2))
      (fun (t, h, s, bs, last) => { fr := [(0, .hs 3 o ep 0 N false), (1, .int .i64 N), (2, .fn 26 []), (6, .int .i64 (s : Nat))], st := t, h := h }) (fun x => N - x.2.2.1) (t, h1, 20, bs, C) (by rfl) ⟨by simp only; omega, by simp only; omega, g1, sC.1, by simp only; omega, g2', hC⟩ ?_
    rintro ⟨t, h, s, bs, last⟩ ⟨s0, s1, s2, s3, s4, s5, s6⟩
    simp only at s0 s1 s2 s3 s4 s5 s6
    simp (disch := omega) only [go_sem, ne_eq, not_true_eq_false, not_false_eq_true, ↓reduceIte, Nat.reduceEqDiff, Nat.reduceAdd, Nat.reduceLeDiff, Int.toNat_natCast, Int.reduceToNat, and_self, Bool.not_true, Bool.not_false, Bool.false_and, Bool.and_false, Bool.true_and, Bool.and_true, a30l2, a30r7]
    refine condS_if (fun hk => ?_) (fun hk => ?_)
    · have hs2 : s + s = 2 * s := by omega
      have es : (2 : Int) * (s : Int) = ((2 * s : Nat) : Int) := by omega
      have es' : (s : Int) * 2 = ((2 * s : Nat) : Int) := by omega
      simp (disch := omega) only [go_sem, ne_eq, not_true_eq_false, not_false_eq_true, ↓reduceIte, Nat.reduceEqDiff, Nat.reduceAdd, Nat.reduceLeDiff, Int.toNat_natCast, Int.reduceToNat, and_self, Bool.not_true, Bool.not_false, Bool.false_and, Bool.and_false, Bool.true_and, Bool.and_true, a30r8, es]
      refine Wp_loop (fun x : Nat × Heap × List (List Edit) × List (List Edit) => Blk (2 * s) x.2.2.1 ∧ Blk s x.2.2.2 ∧ Fl (x.2.2.1.flatten ++ x.2.2.2.flatten ++ last) L0 ∧ At h0 x.2.1 o ep (x.2.2.1.flatten ++ x.2.2.2.flatten ++ last))
        (fun (t, h, dn, td) => { fr := [(0, .hs 3 o ep 0 N false), (1, .int .i64 N), (2, .fn 26 []), (6, .int .i64 (s : Nat)), (7, .int .i64 (dn.flatten.length : Nat)), (8, .int .i64 (dn.flatten.length + 2 * s : Nat))], st := t, h := h }) (fun x => x.2.2.2.length) (t, h, [], bs) (by simp) ⟨fun b hb => by simp at hb, s2, by simpa using s5, by simpa using s6⟩ ?_
      rintro ⟨t, h, dn, td⟩ ⟨d1, d2, d3, d4⟩
      simp only at d1 d2 d3 d4
      have hlt := blk_len d2
      have hlen2 : dn.flatten.length + td.flatten.length + last.length = N := by rw [← hN, ← d3.1]; simp only [List.length_append]
      simp (disch := omega) only [go_sem, ne_eq, not_true_eq_false, not_false_eq_true, ↓reduceIte, Nat.reduceEqDiff, Nat.reduceAdd, Nat.reduceLeDiff, Int.toNat_natCast, Int.reduceToNat, and_self, Bool.not_true, Bool.not_false, Bool.false_and, Bool.and_false, Bool.true_and, Bool.and_true, a30l1, a30r9]
      refine condS_if (fun hk2 => ?_) (fun hk2 => ?_)
      · match td, d2, d3, d4, hlt, hlen2 with
        | [], _, _, _, _, hlen2 => simp only [List.flatten_nil, List.length_nil] at hlen2; omega
        | [x], d2, _, _, hlt, hlen2 =>
          simp only [List.length_cons, List.length_nil, Nat.zero_add, Nat.one_mul] at hlt
          omega
        | x :: y :: td, d2, d3, d4, hlt, hlen2 =>
          obtain ⟨xl, xs⟩ := d2 x (by simp)
          obtain ⟨yl, ys⟩ := d2 y (by simp)
          have e0 : dn.flatten ++ (x :: y :: td).flatten ++ last = dn.flatten ++ x ++ y ++ (td.flatten ++ last) := by simp only [List.flatten_cons, List.append_assoc]
          rw [e0] at d3 d4
          have hle : dn.flatten.length + s + s + (td.flatten.length + last.length) = N := by rw [← hN, ← d3.1]; simp only [List.length_append, xl, yl]
          have ea : (dn.flatten.length : Int) + (s : Int) = ((dn.flatten.length + s : Nat) : Int) := by omega
          simp (disch := omega) only [go_sem, ne_eq, not_true_eq_false, not_false_eq_true, ↓reduceIte, Nat.reduceEqDiff, Nat.reduceAdd, Nat.reduceLeDiff, Int.toNat_natCast, Int.reduceToNat, and_self, Bool.not_true, Bool.not_false, Bool.false_and, Bool.and_false, Bool.true_and, Bool.and_true, a30r10, ea]
          refine WO.fun (vs := [.hs 3 o ep 0 N false, .int .i64 (dn.flatten.length : Nat), .int .i64 (dn.flatten.length + s : Nat), .int .i64 (dn.flatten.length + 2 * s : Nat), .fn 26 []]) (by simp (disch := omega) only [go_sem, ne_eq, not_true_eq_false, not_false_eq_true, ↓reduceIte, Nat.reduceEqDiff, Nat.reduceAdd, Nat.reduceLeDiff, Int.toNat_natCast, Int.reduceToNat, and_self, Bool.not_true, Bool.not_false, Bool.false_and, Bool.and_false, Bool.true_and, Bool.and_true]) (by
            have := sym_fun hP o ep N h0 hl (x.length + y.length) dn.flatten x y (td.flatten ++ last) h (Nat.le_refl _) (List.length_pos_iff.1 (by omega)) (List.length_pos_iff.1 (by omega)) (by simp only [List.length_append, xl, yl]; omega) xs ys d4
            rw [xl, yl, show dn.flatten.length + s + s = dn.flatten.length + 2 * s by omega] at this
            exact this) ?_
          rintro vv h1 ⟨C, hC, sC⟩
          have hCl : C.length = 2 * s := by rw [sC.2.1, List.length_append]; omega
          have efl : (dn ++ [C]).flatten = dn.flatten ++ C := by simp
          have e1 : ((dn.flatten.length + 2 * s : Nat) : Int) + ((2 * s : Nat) : Int) = ((dn.flatten.length + 2 * s + 2 * s : Nat) : Int) := by omega
          simp (disch := omega) only [go_sem, ne_eq, not_true_eq_false, not_false_eq_true, ↓reduceIte, Nat.reduceEqDiff, Nat.reduceAdd, Nat.reduceLeDiff, Int.toNat_natCast, Int.reduceToNat, and_self, Bool.not_true, Bool.not_false, Bool.false_and, Bool.and_false, Bool.true_and, Bool.and_true, a30r11, a30r12, es, e1]
          refine ⟨(t, h1, dn ++ [C], td), ⟨fun b hb => ?_, fun b hb => d2 b (by simp [hb]), ?_, by simp only [efl]; simpa only [List.append_assoc] using hC⟩, by simp only [List.length_cons]; omega, by simp only [efl, List.length_append, hCl]⟩
          · rcases List.mem_append.1 hb with hb | hb
            · exact d1 b hb
            · simp only [List.mem_singleton] at hb
              subst hb
              exact ⟨hCl, sC.1⟩
          · have := (show Fl (dn.flatten ++ (x ++ y) ++ (td.flatten ++ last)) L0 by simpa only [List.append_assoc] using d3).mid sC
            simp only [efl]
            simpa only [List.append_assoc] using this
      · have ea : (dn.flatten.length : Int) + (s : Int) = ((dn.flatten.length + s : Nat) : Int) := by omega
        match td, d2, d3, d4, hlt, hlen2 with
        | x :: y :: td, _, _, _, hlt, hlen2 =>
          simp only [List.length_cons] at hlt
          have : 2 * s ≤ (td.length + 1 + 1) * s := Nat.mul_le_mul_right _ (by omega)
          omega
        | [], _, d3, d4, _, hlen2 =>
          simp only [List.flatten_nil, List.append_nil, List.length_nil] at d3 d4 hlen2
          have w1 : decide (((dn.flatten.length + s : Nat) : Int) < (N : Int)) = false := by simp only [decide_eq_false_iff_not]; omega
          simp (disch := omega) only [go_sem, ne_eq, not_true_eq_false, not_false_eq_true, ↓reduceIte, Nat.reduceEqDiff, Nat.reduceAdd, Nat.reduceLeDiff, Int.toNat_natCast, Int.reduceToNat, and_self, Bool.not_true, Bool.not_false, Bool.false_and, Bool.and_false, Bool.true_and, Bool.and_true, a30r13, ea, a30r14, w1, a30r16, es']
          exact ⟨(t, h, 2 * s, dn, last), ⟨by simp only; omega, by simp only; omega, d1, s3, by simp only; omega, d3, d4⟩, by simp only; omega, rfl⟩
        | [x], d2, d3, d4, hlt, hlen2 =>
          obtain ⟨xl, xs⟩ := d2 x (by simp)
          simp only [List.flatten_cons, List.flatten_nil, List.append_nil] at d3 d4 hlen2
          by_cases hz : last = []
          · subst hz
            simp only [List.append_nil, List.length_nil] at d3 d4 hlen2
            have w1 : decide (((dn.flatten.length + s : Nat) : Int) < (N : Int)) = false := by simp only [decide_eq_false_iff_not]; omega
            simp (disch := omega) only [go_sem, ne_eq, not_true_eq_false, not_false_eq_true, ↓reduceIte, Nat.reduceEqDiff, Nat.reduceAdd, Nat.reduceLeDiff, Int.toNat_natCast, Int.reduceToNat, and_self, Bool.not_true, Bool.not_false, Bool.false_and, Bool.and_false, Bool.true_and, Bool.and_true, a30r13, ea, a30r14, w1, a30r16, es']
            exact ⟨(t, h, 2 * s, dn, x), ⟨by simp only; omega, by simp only; omega, d1, xs, by simp only; omega, d3, d4⟩, by simp only; omega, rfl⟩
          · have hz' := List.length_pos_iff.2 hz
            have w1 : decide (((dn.flatten.length + s : Nat) : Int) < (N : Int)) = true := by simp only [decide_eq_true_eq]; omega
            simp (disch := omega) only [go_sem, ne_eq, not_true_eq_false, not_false_eq_true, ↓reduceIte, Nat.reduceEqDiff, Nat.reduceAdd, Nat.reduceLeDiff, Int.toNat_natCast, Int.reduceToNat, and_self, Bool.not_true, Bool.not_false, Bool.false_and, Bool.and_false, Bool.true_and, Bool.and_true, a30r13, ea, a30r14, w1, a30r15]
            refine WO.fun (vs := [.hs 3 o ep 0 N false, .int .i64 (dn.flatten.length : Nat), .int .i64 (dn.flatten.length + s : Nat), .int .i64 N, .fn 26 []]) (by simp (disch := omega) only [go_sem, ne_eq, not_true_eq_false, not_false_eq_true, ↓reduceIte, Nat.reduceEqDiff, Nat.reduceAdd, Nat.reduceLeDiff, Int.toNat_natCast, Int.reduceToNat, and_self, Bool.not_true, Bool.not_false, Bool.false_and, Bool.and_false, Bool.true_and, Bool.and_true]) (by
              have := sym_fun hP o ep N h0 hl (x.length + last.length) dn.flatten x last [] h (Nat.le_refl _) (List.length_pos_iff.1 (by omega)) hz (by simp only [List.length_append, List.length_nil]; omega) xs s3 (by simpa only [List.append_nil] using d4)
              rw [xl, show dn.flatten.length + s + last.length = N by omega] at this
              exact this) ?_
            rintro vv h1 ⟨C, hC, sC⟩
            have hCl : C.length = s + last.length := by rw [sC.2.1, List.length_append]; omega
            rw [List.append_nil] at hC
            simp (disch := omega) only [go_sem, ne_eq, not_true_eq_false, not_false_eq_true, ↓reduceIte, Nat.reduceEqDiff, Nat.reduceAdd, Nat.reduceLeDiff, Int.toNat_natCast, Int.reduceToNat, and_self, Bool.not_true, Bool.not_false, Bool.false_and, Bool.and_false, Bool.true_and, Bool.and_true, a30r16, es']
            refine ⟨(t, h1, 2 * s, dn, C), ⟨by simp only; omega, by simp only; omega, d1, sC.1, by simp only; omega, ?_, hC⟩, by simp only; omega, rfl⟩
            have := (show Fl (dn.flatten ++ (x ++ last) ++ []) L0 by simpa only [List.append_nil, List.append_assoc] using d3).mid sC
            rwa [List.append_nil] at this
    · simp (disch := omega) only [go_sem, ne_eq, not_true_eq_false, not_false_eq_true, ↓reduceIte, Nat.reduceEqDiff, Nat.reduceAdd, Nat.reduceLeDiff, Int.toNat_natCast, Int.reduceToNat, and_self, Bool.not_true, Bool.not_false, Bool.false_and, Bool.and_false, Bool.true_and, Bool.and_true]
      exact ⟨_, s6, blk_end s2 s3 s4 rfl (by rw [s5.1]; omega), s5.1, s5.2⟩
end Go.Am.Sp

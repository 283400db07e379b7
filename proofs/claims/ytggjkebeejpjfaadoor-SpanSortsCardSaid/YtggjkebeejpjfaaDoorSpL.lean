/- Sorting's parts, in plain Lean: exchanges in a row. -/
import Derived.Test.YtggjkebeejpjfaaDoorSpI
import Derived.Test.YtggjkebeejpjfaaDoorSpK2
import Derived.Test.YtggjkebeejpjfaaDoorAmAll4
set_option linter.unusedSimpArgs false
set_option linter.unusedVariables false
namespace Go.Am.Sp
open Go.Am
variable {P : Prog}
set_option maxRecDepth 20000
set_option maxHeartbeats 1000000
/-- The row 'o' holds 'l'; nothing else has turned. -/
def At (h0 h : Heap) (o ep : Nat) (l : List Edit) : Prop := h.get o = some (.row 3 ep (l.flatMap Enc.cells)) ∧ h.next = h0.next ∧ ∀ q, q ≠ o → h.get q = h0.get q
theorem At.trans {h0 h1 h2 : Heap} {o ep : Nat} {l l' : List Edit} (h : At h0 h1 o ep l) (h' : At h1 h2 o ep l') : At h0 h2 o ep l' := ⟨h'.1, h'.2.1.trans h.2.1, fun q hq => (h'.2.2 q hq).trans (h.2.2 q hq)⟩
theorem At.put {h0 h : Heap} {o ep : Nat} {l l' : List Edit} (h' : At h0 h o ep l) : At h0 (h.put o (.row 3 ep (l'.flatMap Enc.cells))) o ep l' :=
  ⟨get_put_same _ _ _, h'.2.1, fun q hq => (get_put_ne _ _ _ _ hq).trans (h'.2.2 q hq)⟩
theorem ld3 {l : List Edit} {k : Nat} (hk : k < l.length) : ((dropN (k * 3) (l.flatMap Enc.cells)).bind fun r => takeN 3 r) = some [.int .i64 (l.getD k default).f, .int .i64 (l.getD k default).t, strv (l.getD k default).x] := by
  have h1 := sub_flat (α := Edit) (l := l) (off := 0) (n := 3) hk (Nat.le_refl _)
  rw [sz_Edit, Nat.add_zero] at h1
  refine (show _ = sub (l.flatMap Enc.cells) (k * 3) 3 from rfl).trans ?_
  rw [h1, cells_Edit]
  rfl
theorem swap_fun (hP : SpP P) (l : List Edit) (a b n o ep N : Nat) (fv : AV) (h0 h : Heap) (hN : l.length = N) (hA : At h0 h o ep l) (ha : a + n ≤ l.length) (hb : b + n ≤ l.length) (hl : l.length ≤ 1000000) :
    Fun P 39 [.hs 3 o ep 0 N false, .int .i64 a, .int .i64 b, .int .i64 n, fv] h (fun _ h' => At h0 h' o ep (swr l a b n)) := by
  subst hN
  refine Fun.of (code := a39c) (by rw [hP.fn]; rfl) (by rw [hP.pure _ (by decide)]; rfl) ?_
  simp (disch := omega) only [go_sem, ne_eq, not_true_eq_false, not_false_eq_true, ↓reduceIte, Nat.reduceEqDiff, Nat.reduceAdd, Nat.reduceLeDiff, Int.toNat_natCast, Int.reduceToNat, and_self, Bool.not_true, Bool.not_false, Bool.false_and, Bool.and_false, Bool.true_and, Bool.and_true, a39c, a39r0]
  refine Wp_loop (fun x : Nat × Nat × Heap => x.2.1 ≤ n ∧ At h0 x.2.2 o ep (swr l a b x.2.1)) (fun (t, k, h) => { fr := [(0, .hs 3 o ep 0 l.length false), (1, .int .i64 a), (2, .int .i64 b), (3, .int .i64 n), (10, .int .i64 k)], st := t, h := h }) (fun x => n - x.2.1) (0, 0, h) rfl ⟨Nat.zero_le _, hA⟩ ?_
  rintro ⟨t, k, h⟩ ⟨g1, g2⟩
  simp only at g1 g2
  simp (disch := omega) only [go_sem, ne_eq, not_true_eq_false, not_false_eq_true, ↓reduceIte, Nat.reduceEqDiff, Nat.reduceAdd, Nat.reduceLeDiff, Int.toNat_natCast, Int.reduceToNat, and_self, Bool.not_true, Bool.not_false, Bool.false_and, Bool.and_false, Bool.true_and, Bool.and_true, a39l0, a39r1]
  refine condS_if (fun hk => ?_) (fun hk => ?_)
  · have hk' : k < n := by omega
    have e1 : ((a : Int) + (k : Int)).toNat = a + k := by omega
    have e2 : ((b : Int) + (k : Int)).toNat = b + k := by omega
    have hlen := swr_len l a b k
    have r1 := ld3 (l := swr l a b k) (k := a + k) (by omega)
    have r2 := ld3 (l := swr l a b k) (k := b + k) (by omega)
    simp (disch := omega) only [go_sem, ne_eq, not_true_eq_false, not_false_eq_true, ↓reduceIte, Nat.reduceEqDiff, Nat.reduceAdd, Nat.reduceLeDiff, Int.toNat_natCast, Int.reduceToNat, and_self, Bool.not_true, Bool.not_false, Bool.false_and, Bool.and_false, Bool.true_and, Bool.and_true, a39d2, e1, e2, g2.1, r1, r2, Nat.zero_add]
    refine WD_store (o := o) (ep := ep) (k := (a + k) * 3) (e := 3) (val := .agg (Enc.cells ((swr l a b k).getD (b + k) default))) (by simp (disch := omega) only [go_sem, ne_eq, not_true_eq_false, not_false_eq_true, ↓reduceIte, Nat.reduceEqDiff, Nat.reduceAdd, Nat.reduceLeDiff, Int.toNat_natCast, Int.reduceToNat, and_self, Bool.not_true, Bool.not_false, Bool.false_and, Bool.and_false, Bool.true_and, Bool.and_true]) (by simp (disch := omega) only [go_sem, ne_eq, not_true_eq_false, not_false_eq_true, ↓reduceIte, Nat.reduceEqDiff, Nat.reduceAdd, Nat.reduceLeDiff, Int.toNat_natCast, Int.reduceToNat, and_self, Bool.not_true, Bool.not_false, Bool.false_and, Bool.and_false, Bool.true_and, Bool.and_true]) rfl g2.1 (over_flat (α := Edit) (by omega) _) rfl ?_
    simp (disch := omega) only [go_sem, ne_eq, not_true_eq_false, not_false_eq_true, ↓reduceIte, Nat.reduceEqDiff, Nat.reduceAdd, Nat.reduceLeDiff, Int.toNat_natCast, Int.reduceToNat, and_self, Bool.not_true, Bool.not_false, Bool.false_and, Bool.and_false, Bool.true_and, Bool.and_true, e2, Nat.zero_add]
    refine WD_store (o := o) (ep := ep) (k := (b + k) * 3) (e := 3) (val := .agg (Enc.cells ((swr l a b k).getD (a + k) default))) (by simp (disch := omega) only [go_sem, ne_eq, not_true_eq_false, not_false_eq_true, ↓reduceIte, Nat.reduceEqDiff, Nat.reduceAdd, Nat.reduceLeDiff, Int.toNat_natCast, Int.reduceToNat, and_self, Bool.not_true, Bool.not_false, Bool.false_and, Bool.and_false, Bool.true_and, Bool.and_true]) (by simp (disch := omega) only [go_sem, ne_eq, not_true_eq_false, not_false_eq_true, ↓reduceIte, Nat.reduceEqDiff, Nat.reduceAdd, Nat.reduceLeDiff, Int.toNat_natCast, Int.reduceToNat, and_self, Bool.not_true, Bool.not_false, Bool.false_and, Bool.and_false, Bool.true_and, Bool.and_true]) rfl (get_put_same _ _ _) (over_flat (α := Edit) (by rw [List.length_set]; omega) _) rfl ?_
    simp (disch := omega) only [go_sem, ne_eq, not_true_eq_false, not_false_eq_true, ↓reduceIte, Nat.reduceEqDiff, Nat.reduceAdd, Nat.reduceLeDiff, Int.toNat_natCast, Int.reduceToNat, and_self, Bool.not_true, Bool.not_false, Bool.false_and, Bool.and_false, Bool.true_and, Bool.and_true, a39r3]
    exact ⟨(_, k + 1, _), ⟨by simp only; omega, (At.put (At.put g2))⟩, by simp only; omega, rfl⟩
  · simp (disch := omega) only [go_sem, ne_eq, not_true_eq_false, not_false_eq_true, ↓reduceIte, Nat.reduceEqDiff, Nat.reduceAdd, Nat.reduceLeDiff, Int.toNat_natCast, Int.reduceToNat, and_self, Bool.not_true, Bool.not_false, Bool.false_and, Bool.and_false, Bool.true_and, Bool.and_true]
    obtain rfl : k = n := by omega
    exact g2
/-! ### Comparing -/
def cmpI (a b : Int) : Int := if a < b then -1 else if b < a then 1 else 0
theorem cmpI_lt (a b : Int) : decide (cmpI a b < 0) = decide (a < b) := by
  unfold cmpI
  split
  · simp [*]
  · split <;> simp [*]
theorem nan_den (hP : SpP P) (a : Int) : Den P 31 [.int .i64 a] (fun v => v = .bool false) := by
  refine Den.of (code := a31c) (by rw [hP.fn]; rfl) (fun N => ?_)
  simp (disch := omega) only [go_sem, ne_eq, not_true_eq_false, not_false_eq_true, ↓reduceIte, Nat.reduceEqDiff, Nat.reduceAdd, Nat.reduceLeDiff, Int.toNat_natCast, Int.reduceToNat, and_self, Bool.not_true, Bool.not_false, Bool.false_and, Bool.and_false, Bool.true_and, Bool.and_true, a31c, a31r0, a31r1, decide_false]
theorem compare_den (hP : SpP P) (a b : Int) : Den P 27 [.int .i64 a, .int .i64 b] (fun v => v = .int .i64 (cmpI a b)) := by
  refine Den.of (code := a27c) (by rw [hP.fn]; rfl) (fun N => ?_)
  simp (disch := omega) only [go_sem, ne_eq, not_true_eq_false, not_false_eq_true, ↓reduceIte, Nat.reduceEqDiff, Nat.reduceAdd, Nat.reduceLeDiff, Int.toNat_natCast, Int.reduceToNat, and_self, Bool.not_true, Bool.not_false, Bool.false_and, Bool.and_false, Bool.true_and, Bool.and_true, a27c, a27r0, a27r1]
  refine WO.den (k := 0) (vs := [.int .i64 a]) (by rw [hP.pure _ (by decide)]; rfl) (by simp (disch := omega) only [go_sem, ne_eq, not_true_eq_false, not_false_eq_true, ↓reduceIte, Nat.reduceEqDiff, Nat.reduceAdd, Nat.reduceLeDiff, Int.toNat_natCast, Int.reduceToNat, and_self, Bool.not_true, Bool.not_false, Bool.false_and, Bool.and_false, Bool.true_and, Bool.and_true]) (nan_den hP a) (fun v hv => by subst hv; simp (disch := omega) only [go_sem, ne_eq, not_true_eq_false, not_false_eq_true, ↓reduceIte, Nat.reduceEqDiff, Nat.reduceAdd, Nat.reduceLeDiff, Int.toNat_natCast, Int.reduceToNat, and_self, Bool.not_true, Bool.not_false, Bool.false_and, Bool.and_false, Bool.true_and, Bool.and_true]) (fun v hv => ?_)
  subst hv
  simp (disch := omega) only [go_sem, ne_eq, not_true_eq_false, not_false_eq_true, ↓reduceIte, Nat.reduceEqDiff, Nat.reduceAdd, Nat.reduceLeDiff, Int.toNat_natCast, Int.reduceToNat, and_self, Bool.not_true, Bool.not_false, Bool.false_and, Bool.and_false, Bool.true_and, Bool.and_true, a27r2]
  refine WO.den (k := 0) (vs := [.int .i64 b]) (by rw [hP.pure _ (by decide)]; rfl) (by simp (disch := omega) only [go_sem, ne_eq, not_true_eq_false, not_false_eq_true, ↓reduceIte, Nat.reduceEqDiff, Nat.reduceAdd, Nat.reduceLeDiff, Int.toNat_natCast, Int.reduceToNat, and_self, Bool.not_true, Bool.not_false, Bool.false_and, Bool.and_false, Bool.true_and, Bool.and_true]) (nan_den hP b) (fun v hv => by subst hv; simp (disch := omega) only [go_sem, ne_eq, not_true_eq_false, not_false_eq_true, ↓reduceIte, Nat.reduceEqDiff, Nat.reduceAdd, Nat.reduceLeDiff, Int.toNat_natCast, Int.reduceToNat, and_self, Bool.not_true, Bool.not_false, Bool.false_and, Bool.and_false, Bool.true_and, Bool.and_true]) (fun v hv => ?_)
  subst hv
  simp (disch := omega) only [go_sem, ne_eq, not_true_eq_false, not_false_eq_true, ↓reduceIte, Nat.reduceEqDiff, Nat.reduceAdd, Nat.reduceLeDiff, Int.toNat_natCast, Int.reduceToNat, and_self, Bool.not_true, Bool.not_false, Bool.false_and, Bool.and_false, Bool.true_and, Bool.and_true, a27r3, a27r7, a27r9]
  unfold cmpI
  refine condS_if (fun c => ?_) (fun c => ?_)
  · simp (disch := omega) only [go_sem, ne_eq, not_true_eq_false, not_false_eq_true, ↓reduceIte, Nat.reduceEqDiff, Nat.reduceAdd, Nat.reduceLeDiff, Int.toNat_natCast, Int.reduceToNat, and_self, Bool.not_true, Bool.not_false, Bool.false_and, Bool.and_false, Bool.true_and, Bool.and_true, a27r10]
    rw [if_pos c]
  · simp (disch := omega) only [go_sem, ne_eq, not_true_eq_false, not_false_eq_true, ↓reduceIte, Nat.reduceEqDiff, Nat.reduceAdd, Nat.reduceLeDiff, Int.toNat_natCast, Int.reduceToNat, and_self, Bool.not_true, Bool.not_false, Bool.false_and, Bool.and_false, Bool.true_and, Bool.and_true, a27r11]
    refine condS_if (fun c2 => ?_) (fun c2 => ?_)
    · simp (disch := omega) only [go_sem, ne_eq, not_true_eq_false, not_false_eq_true, ↓reduceIte, Nat.reduceEqDiff, Nat.reduceAdd, Nat.reduceLeDiff, Int.toNat_natCast, Int.reduceToNat, and_self, Bool.not_true, Bool.not_false, Bool.false_and, Bool.and_false, Bool.true_and, Bool.and_true, a27r12]
      rw [if_neg c, if_pos c2]
    · simp (disch := omega) only [go_sem, ne_eq, not_true_eq_false, not_false_eq_true, ↓reduceIte, Nat.reduceEqDiff, Nat.reduceAdd, Nat.reduceLeDiff, Int.toNat_natCast, Int.reduceToNat, and_self, Bool.not_true, Bool.not_false, Bool.false_and, Bool.and_false, Bool.true_and, Bool.and_true, a27r13]
      rw [if_neg c, if_neg c2]
theorem cmp_den (hP : SpP P) (x y : Edit) : Den P 26 [.agg [.int .i64 x.f, .int .i64 x.t, strv x.x], .agg [.int .i64 y.f, .int .i64 y.t, strv y.x]] (fun v => v = .int .i64 (cmpI x.f y.f)) := by
  refine Den.of (code := a26c) (by rw [hP.fn]; rfl) (fun N => ?_)
  simp (disch := omega) only [go_sem, ne_eq, not_true_eq_false, not_false_eq_true, ↓reduceIte, Nat.reduceEqDiff, Nat.reduceAdd, Nat.reduceLeDiff, Int.toNat_natCast, Int.reduceToNat, and_self, Bool.not_true, Bool.not_false, Bool.false_and, Bool.and_false, Bool.true_and, Bool.and_true, a26c, a26r0, a26r1]
  refine WO.den (k := 0) (vs := [.int .i64 x.f, .int .i64 y.f]) (by rw [hP.pure _ (by decide)]; rfl) (by simp (disch := omega) only [go_sem, ne_eq, not_true_eq_false, not_false_eq_true, ↓reduceIte, Nat.reduceEqDiff, Nat.reduceAdd, Nat.reduceLeDiff, Int.toNat_natCast, Int.reduceToNat, and_self, Bool.not_true, Bool.not_false, Bool.false_and, Bool.and_false, Bool.true_and, Bool.and_true]) (compare_den hP x.f y.f) (fun v hv => by subst hv; simp (disch := omega) only [go_sem, ne_eq, not_true_eq_false, not_false_eq_true, ↓reduceIte, Nat.reduceEqDiff, Nat.reduceAdd, Nat.reduceLeDiff, Int.toNat_natCast, Int.reduceToNat, and_self, Bool.not_true, Bool.not_false, Bool.false_and, Bool.and_false, Bool.true_and, Bool.and_true]) (fun v hv => ?_)
  subst hv
  simp (disch := omega) only [go_sem, ne_eq, not_true_eq_false, not_false_eq_true, ↓reduceIte, Nat.reduceEqDiff, Nat.reduceAdd, Nat.reduceLeDiff, Int.toNat_natCast, Int.reduceToNat, and_self, Bool.not_true, Bool.not_false, Bool.false_and, Bool.and_false, Bool.true_and, Bool.and_true]
/-! ### Blocks -/
theorem rot_fun (hP : SpP P) (p u v q : List Edit) (o ep N : Nat) (fv : AV) (h0 h : Heap) (hu : u ≠ []) (hv : v ≠ []) (hN : (p ++ u ++ v ++ q).length = N) (hA : At h0 h o ep (p ++ u ++ v ++ q)) (hl : N ≤ 1000000) (hfv : datW (some fv) = some fv) (hfe : ∀ i, evS i (some fv) = some fv) :
    Fun P 38 [.hs 3 o ep 0 N false, .int .i64 p.length, .int .i64 (p.length + u.length : Nat), .int .i64 (p.length + u.length + v.length : Nat), fv] h (fun _ h' => At h0 h' o ep (p ++ v ++ u ++ q)) := by
  refine Fun.of (code := a38c) (by rw [hP.fn]; rfl) (by rw [hP.pure _ (by decide)]; rfl) ?_
  have hlN : p.length + u.length + v.length + q.length = N := by rw [← hN]; simp only [List.length_append]
  have e1 : ((p.length + u.length : Nat) : Int) - (p.length : Int) = (u.length : Int) := by omega
  have e2 : ((p.length + u.length + v.length : Nat) : Int) - ((p.length + u.length : Nat) : Int) = (v.length : Int) := by omega
  simp (disch := omega) only [go_sem, ne_eq, not_true_eq_false, not_false_eq_true, ↓reduceIte, Nat.reduceEqDiff, Nat.reduceAdd, Nat.reduceLeDiff, Int.toNat_natCast, Int.reduceToNat, and_self, Bool.not_true, Bool.not_false, Bool.false_and, Bool.and_false, Bool.true_and, Bool.and_true, a38c, a38r0, a38r1, e1, e2, hfe]
  refine Wp_loop (fun x : Nat × Heap × List Edit × List Edit × List Edit × List Edit => At h0 x.2.1 o ep (x.2.2.1 ++ x.2.2.2.1 ++ x.2.2.2.2.1 ++ x.2.2.2.2.2) ∧ x.2.2.1.length + x.2.2.2.1.length = p.length + u.length ∧ x.2.2.2.1 ≠ [] ∧ x.2.2.2.2.1 ≠ [] ∧ x.2.2.1 ++ x.2.2.2.2.1 ++ x.2.2.2.1 ++ x.2.2.2.2.2 = p ++ v ++ u ++ q)
    (fun (t, h, p', u', v', q') => { fr := [(0, .hs 3 o ep 0 N false), (2, .int .i64 (p.length + u.length : Nat)), (4, fv), (10, .int .i64 u'.length), (11, .int .i64 v'.length)], st := t, h := h }) (fun x => x.2.2.2.1.length + x.2.2.2.2.1.length) (0, h, p, u, v, q) rfl ⟨hA, rfl, hu, hv, rfl⟩ ?_
  rintro ⟨t, h, p', u', v', q'⟩ ⟨g1, g2, g3, g4, g5⟩
  simp only at g1 g2 g3 g4 g5
  have hlen : p'.length + u'.length + v'.length + q'.length = N := by
    have := congrArg List.length g5
    simp only [List.length_append] at this
    omega
  have hu1 : 0 < u'.length := List.length_pos_iff.2 g3
  have hv1 : 0 < v'.length := List.length_pos_iff.2 g4
  have hLen : (p' ++ u' ++ v' ++ q').length = N := by simp only [List.length_append]; omega
  have f1 : ((p.length + u.length : Nat) : Int) - (u'.length : Int) = (p'.length : Int) := by omega
  simp (disch := omega) only [go_sem, ne_eq, not_true_eq_false, not_false_eq_true, ↓reduceIte, Nat.reduceEqDiff, Nat.reduceAdd, Nat.reduceLeDiff, Int.toNat_natCast, Int.reduceToNat, and_self, Bool.not_true, Bool.not_false, Bool.false_and, Bool.and_false, Bool.true_and, Bool.and_true, a38l0, a38r2, hfe]
  refine condS_if (fun c => ?_) (fun c => ?_)
  · simp (disch := omega) only [go_sem, ne_eq, not_true_eq_false, not_false_eq_true, ↓reduceIte, Nat.reduceEqDiff, Nat.reduceAdd, Nat.reduceLeDiff, Int.toNat_natCast, Int.reduceToNat, and_self, Bool.not_true, Bool.not_false, Bool.false_and, Bool.and_false, Bool.true_and, Bool.and_true, a38r3, hfe]
    refine condS_if (fun c2 => ?_) (fun c2 => ?_)
    · obtain ⟨u1, u2, eu, hu1l⟩ : ∃ u1 u2, u' = u1 ++ u2 ∧ u1.length = v'.length := ⟨u'.take v'.length, u'.drop v'.length, (List.take_append_drop _ _).symm, by rw [List.length_take]; omega⟩
      have hu2l : u1.length + u2.length = u'.length := by rw [eu, List.length_append]
      have f2 : (u'.length : Int) - (v'.length : Int) = (u2.length : Int) := by omega
      have es := swr_blocks p' u1 u2 v' q' hu1l
      rw [show (p' ++ u1 ++ u2).length = p.length + u.length by simp only [List.length_append]; omega, hu1l, show p' ++ u1 ++ u2 ++ v' ++ q' = p' ++ u' ++ v' ++ q' by rw [eu]; simp only [List.append_assoc]] at es
      simp (disch := omega) only [go_sem, ne_eq, not_true_eq_false, not_false_eq_true, ↓reduceIte, Nat.reduceEqDiff, Nat.reduceAdd, Nat.reduceLeDiff, Int.toNat_natCast, Int.reduceToNat, and_self, Bool.not_true, Bool.not_false, Bool.false_and, Bool.and_false, Bool.true_and, Bool.and_true, a38r4, f1, hfe]
      refine WO.fun (vs := [.hs 3 o ep 0 N false, .int .i64 p'.length, .int .i64 (p.length + u.length : Nat), .int .i64 v'.length, fv]) (by simp (disch := omega) only [go_sem, ne_eq, not_true_eq_false, not_false_eq_true, ↓reduceIte, Nat.reduceEqDiff, Nat.reduceAdd, Nat.reduceLeDiff, Int.toNat_natCast, Int.reduceToNat, and_self, Bool.not_true, Bool.not_false, Bool.false_and, Bool.and_false, Bool.true_and, Bool.and_true, hfv, hfe]) (swap_fun hP (p' ++ u' ++ v' ++ q') p'.length (p.length + u.length) v'.length o ep N fv h0 _ hLen g1 (by omega) (by omega) (by omega)) ?_
      intro vv h' hA'
      rw [es] at hA'
      simp (disch := omega) only [go_sem, ne_eq, not_true_eq_false, not_false_eq_true, ↓reduceIte, Nat.reduceEqDiff, Nat.reduceAdd, Nat.reduceLeDiff, Int.toNat_natCast, Int.reduceToNat, and_self, Bool.not_true, Bool.not_false, Bool.false_and, Bool.and_false, Bool.true_and, Bool.and_true, a38r5, f2, hfe]
      refine ⟨(_, h', p' ++ v', u2, u1, q'), ⟨by simpa only [List.append_assoc] using hA', by simp only [List.length_append]; omega, ?_, ?_, by rw [← g5, eu]; simp only [List.append_assoc]⟩, by simp only; omega, by rw [hu1l]⟩
      · exact List.length_pos_iff.1 (by simp only; omega)
      · exact List.length_pos_iff.1 (by simp only; omega)
    · obtain ⟨v1, v2, ev, hv2l⟩ : ∃ v1 v2, v' = v1 ++ v2 ∧ v2.length = u'.length := ⟨v'.take (v'.length - u'.length), v'.drop (v'.length - u'.length), (List.take_append_drop _ _).symm, by rw [List.length_drop]; omega⟩
      have hv1l : v1.length + v2.length = v'.length := by rw [ev, List.length_append]
      have f2 : (v'.length : Int) - (u'.length : Int) = (v1.length : Int) := by omega
      have f3 : ((p.length + u.length : Nat) : Int) + (v'.length : Int) - (u'.length : Int) = ((p.length + u.length + v1.length : Nat) : Int) := by omega
      have es := swr_blocks p' u' v1 v2 q' hv2l.symm
      rw [show (p' ++ u' ++ v1).length = p.length + u.length + v1.length by simp only [List.length_append]; omega, show p' ++ u' ++ v1 ++ v2 ++ q' = p' ++ u' ++ v' ++ q' by rw [ev]; simp only [List.append_assoc]] at es
      simp (disch := omega) only [go_sem, ne_eq, not_true_eq_false, not_false_eq_true, ↓reduceIte, Nat.reduceEqDiff, Nat.reduceAdd, Nat.reduceLeDiff, Int.toNat_natCast, Int.reduceToNat, and_self, Bool.not_true, Bool.not_false, Bool.false_and, Bool.and_false, Bool.true_and, Bool.and_true, a38r6, f1, f3, hfe]
      refine WO.fun (vs := [.hs 3 o ep 0 N false, .int .i64 p'.length, .int .i64 (p.length + u.length + v1.length : Nat), .int .i64 u'.length, fv]) (by simp (disch := omega) only [go_sem, ne_eq, not_true_eq_false, not_false_eq_true, ↓reduceIte, Nat.reduceEqDiff, Nat.reduceAdd, Nat.reduceLeDiff, Int.toNat_natCast, Int.reduceToNat, and_self, Bool.not_true, Bool.not_false, Bool.false_and, Bool.and_false, Bool.true_and, Bool.and_true, hfv, hfe]) (swap_fun hP (p' ++ u' ++ v' ++ q') p'.length (p.length + u.length + v1.length) u'.length o ep N fv h0 _ hLen g1 (by omega) (by omega) (by omega)) ?_
      intro vv h' hA'
      rw [es] at hA'
      simp (disch := omega) only [go_sem, ne_eq, not_true_eq_false, not_false_eq_true, ↓reduceIte, Nat.reduceEqDiff, Nat.reduceAdd, Nat.reduceLeDiff, Int.toNat_natCast, Int.reduceToNat, and_self, Bool.not_true, Bool.not_false, Bool.false_and, Bool.and_false, Bool.true_and, Bool.and_true, a38r7, f2, hfe]
      refine ⟨(_, h', p', v2, v1, u' ++ q'), ⟨by simpa only [List.append_assoc] using hA', by simp only; omega, ?_, ?_, by rw [← g5, ev]; simp only [List.append_assoc]⟩, by simp only; omega, by rw [hv2l]⟩
      · exact List.length_pos_iff.1 (by simp only; omega)
      · exact List.length_pos_iff.1 (by simp only; omega)
  · have huv : u'.length = v'.length := by omega
    have es := swr_blocks p' u' [] v' q' huv
    simp only [List.append_nil] at es
    rw [show (p' ++ u').length = p.length + u.length by simp only [List.length_append]; omega] at es
    simp (disch := omega) only [go_sem, ne_eq, not_true_eq_false, not_false_eq_true, ↓reduceIte, Nat.reduceEqDiff, Nat.reduceAdd, Nat.reduceLeDiff, Int.toNat_natCast, Int.reduceToNat, and_self, Bool.not_true, Bool.not_false, Bool.false_and, Bool.and_false, Bool.true_and, Bool.and_true, a38r8, f1, hfe]
    refine WO.fun (vs := [.hs 3 o ep 0 N false, .int .i64 p'.length, .int .i64 (p.length + u.length : Nat), .int .i64 u'.length, fv]) (by simp (disch := omega) only [go_sem, ne_eq, not_true_eq_false, not_false_eq_true, ↓reduceIte, Nat.reduceEqDiff, Nat.reduceAdd, Nat.reduceLeDiff, Int.toNat_natCast, Int.reduceToNat, and_self, Bool.not_true, Bool.not_false, Bool.false_and, Bool.and_false, Bool.true_and, Bool.and_true, hfv, hfe]) (swap_fun hP (p' ++ u' ++ v' ++ q') p'.length (p.length + u.length) u'.length o ep N fv h0 _ hLen g1 (by omega) (by omega) (by omega)) ?_
    intro vv h' hA'
    rw [es, g5] at hA'
    simp (disch := omega) only [go_sem, ne_eq, not_true_eq_false, not_false_eq_true, ↓reduceIte, Nat.reduceEqDiff, Nat.reduceAdd, Nat.reduceLeDiff, Int.toNat_natCast, Int.reduceToNat, and_self, Bool.not_true, Bool.not_false, Bool.false_and, Bool.and_false, Bool.true_and, Bool.and_true]
    exact hA'
end Go.Am.Sp

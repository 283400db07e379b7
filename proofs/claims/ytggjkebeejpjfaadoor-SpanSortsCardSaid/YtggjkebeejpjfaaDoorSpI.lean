/- SpanNone, in plain Lean. -/
import Derived.Test.YtggjkebeejpjfaaDoorSpH
set_option linter.unusedSimpArgs false
set_option linter.unusedVariables false
namespace Go.Am.Sp
open Go.Am
variable {P : Prog}
set_option maxRecDepth 20000
set_option maxHeartbeats 1000000
@[go_sem] theorem same_edit (k0 k1 : IntKind) (a b a' b' : Int) (x x' : List UInt8) : same 64 (.agg [.int k0 a, .int k1 b, strv x]) (.agg [.int k0 a', .int k1 b', strv x']) = some (decide (a = a' ∧ b = b' ∧ x = x')) := by
  show eqCells [.int k0 a, .int k1 b, strv x] [.int k0 a', .int k1 b', strv x'] 58 = _
  simp only [eqCells, eqCell, strv, eqK_self, eqI_eq, eqS_strv, nbeq]
  simp
  by_cases h1 : a = a' <;> by_cases h2 : b = b' <;> by_cases h3 : x = x' <;> simp [h1, h2, h3]
theorem esame_den (hP : SpP P) (a : List Edit) (n1 f1 n2 f2 : Bool) (hl : a.length ≤ 9223372036854775807) : Den P 18 [slv n1 f1 a, slv n2 f2 a] (fun v => v = .bool true) := by
  refine Den.of (code := a18c) (by rw [hP.fn]; rfl) (fun N => ?_)
  simp (disch := omega) only [go_sem, ne_eq, not_true_eq_false, not_false_eq_true, ↓reduceIte, Nat.reduceEqDiff, Nat.reduceAdd, Nat.reduceLeDiff, Int.toNat_natCast, Int.reduceToNat, and_self, Bool.not_true, Bool.not_false, Bool.false_and, Bool.and_false, Bool.true_and, Bool.and_true, a18c, a18r0, a18r1, decide_false, a18r3]
  refine Wp_loop (fun x : Nat × Nat => x.2 ≤ a.length) (fun (t, k) => { fr := [(0, slv n1 f1 a), (1, slv n2 f2 a), (5, .int .i64 k)], st := t, h := { next := N, m := .leaf } }) (fun x => a.length - x.2) (0, 0) rfl (by simp) ?_
  rintro ⟨t, k⟩ g1
  simp only at g1
  simp (disch := omega) only [go_sem, ne_eq, not_true_eq_false, not_false_eq_true, ↓reduceIte, Nat.reduceEqDiff, Nat.reduceAdd, Nat.reduceLeDiff, Int.toNat_natCast, Int.reduceToNat, and_self, Bool.not_true, Bool.not_false, Bool.false_and, Bool.and_false, Bool.true_and, Bool.and_true, a18l0, a18r4]
  refine condS_if (fun hk => ?_) (fun hk => ?_)
  · have hk' : k < a.length := by omega
    simp (disch := omega) only [go_sem, ne_eq, not_true_eq_false, not_false_eq_true, ↓reduceIte, Nat.reduceEqDiff, Nat.reduceAdd, Nat.reduceLeDiff, Int.toNat_natCast, Int.reduceToNat, and_self, Bool.not_true, Bool.not_false, Bool.false_and, Bool.and_false, Bool.true_and, Bool.and_true, a18d5, decide_true, a18r7]
    exact ⟨(_, k + 1), by simp only; omega, by simp only; omega, rfl⟩
  · simp (disch := omega) only [go_sem, ne_eq, not_true_eq_false, not_false_eq_true, ↓reduceIte, Nat.reduceEqDiff, Nat.reduceAdd, Nat.reduceLeDiff, Int.toNat_natCast, Int.reduceToNat, and_self, Bool.not_true, Bool.not_false, Bool.false_and, Bool.and_false, Bool.true_and, Bool.and_true, a18r8]
theorem back_hs (hP : SpP P) (b : List UInt8) (l : List Edit) (n1 f1 : Bool) (o ep : Nat) (h0 : Heap) (hg : h0.get o = some (.row 3 ep (l.flatMap Enc.cells))) (ho : o < h0.next) (h17 : P.pure 17 = 0) (hb : b.length ≤ 1000000) (hl : l.length ≤ 1000000) (hx : ∀ e ∈ l, e.x.length ≤ 1000) (hok : chkE b.length l = 0) :
    Fun P 17 [slv n1 f1 b, .hs 3 o ep 0 l.length false] h0 (fun v h' => ∃ y, v = .tup [y, .int .i64 0] ∧ RowV h' y (bak b 0 l) ∧ h'.get o = h0.get o ∧ h0.next ≤ h'.next) := by
  refine Fun.of (code := a17c) (by rw [hP.fn]; rfl) h17 ?_
  have e0 : ∀ h, h.get o = some (.row 3 ep (l.flatMap Enc.cells)) → frz h 0 40 (.hs 3 o ep 0 l.length false) = slv false false l := fun h hg =>
    (frz_hs (α := Edit) (off := 0) (len := l.length) (N := 0) (n := 39) (full := false) (l := l) hg (by simp) (Nat.zero_le _)).trans (by simp)
  simp (disch := omega) only [go_sem, ne_eq, not_true_eq_false, not_false_eq_true, ↓reduceIte, Nat.reduceEqDiff, Nat.reduceAdd, Nat.reduceLeDiff, Int.toNat_natCast, Int.reduceToNat, and_self, Bool.not_true, Bool.not_false, Bool.false_and, Bool.and_false, Bool.true_and, Bool.and_true, a17c, a17r0, a17r1]
  refine WO.den (k := 1) (vs := [.int .i64 b.length, .hs 3 o ep 0 l.length false]) (by rw [hP.pure _ (by decide)]; rfl) (by simp (disch := omega) only [go_sem, ne_eq, not_true_eq_false, not_false_eq_true, ↓reduceIte, Nat.reduceEqDiff, Nat.reduceAdd, Nat.reduceLeDiff, Int.toNat_natCast, Int.reduceToNat, and_self, Bool.not_true, Bool.not_false, Bool.false_and, Bool.and_false, Bool.true_and, Bool.and_true]) (by simp only [lent_11, List.map_cons, List.map_nil, frz_int, e0 _ hg]; exact check_den hP _ l false false (by omega)) (fun v hv => by subst hv; simp (disch := omega) only [go_sem, ne_eq, not_true_eq_false, not_false_eq_true, ↓reduceIte, Nat.reduceEqDiff, Nat.reduceAdd, Nat.reduceLeDiff, Int.toNat_natCast, Int.reduceToNat, and_self, Bool.not_true, Bool.not_false, Bool.false_and, Bool.and_false, Bool.true_and, Bool.and_true]) (fun v hv => ?_)
  subst hv
  rw [hok]
  simp (disch := omega) only [go_sem, ne_eq, not_true_eq_false, not_false_eq_true, ↓reduceIte, Nat.reduceEqDiff, Nat.reduceAdd, Nat.reduceLeDiff, Int.toNat_natCast, Int.reduceToNat, and_self, Bool.not_true, Bool.not_false, Bool.false_and, Bool.and_false, Bool.true_and, Bool.and_true, a17r2, decide_false, a17r4, a17r5, a17r6]
  have hokd := (chkE_zero hok).2
  have hT : ∀ e ∈ l, 0 ≤ e.f ∧ e.f ≤ e.t ∧ e.t ≤ 1000000 ∧ e.x.length ≤ 1000 := fun e he => by
    obtain ⟨k, hk, rfl⟩ := List.getElem_of_mem he
    have h1 := okD_end hokd k hk
    rw [List.getD_eq_getElem?_getD, List.getElem?_eq_getElem hk, Option.getD_some] at h1
    exact ⟨by omega, h1.2.1, by omega, hx _ he⟩
  refine Wp_loop (fun x : Nat × Nat × Int × AV × Heap × List Edit => x.2.1 ≤ l.length ∧ (-(1000000 * (x.2.1 : Int)) ≤ x.2.2.1 ∧ x.2.2.1 ≤ 1000000 * x.2.1) ∧ RowV x.2.2.2.2.1 x.2.2.2.1 x.2.2.2.2.2 ∧ (∀ q, rowOf x.2.2.2.1 = some q → h0.next ≤ q) ∧ h0.next ≤ x.2.2.2.2.1.next ∧ x.2.2.2.2.1.get o = h0.get o ∧ x.2.2.2.2.2.length = x.2.1 ∧ x.2.2.2.2.2 ++ bak b x.2.2.1 (l.drop x.2.1) = bak b 0 l)
    (fun (t, k, m, v, h, d) => { fr := [(0, slv n1 f1 b), (7, v), (8, .int .i64 m), (19, .hs 3 o ep 0 l.length false), (20, .int .i64 l.length), (21, .int .i64 k)], st := t, h := h }) (fun x => l.length - x.2.1) (0, 0, 0, .nils, h0, []) rfl ⟨by simp, by simp, Or.inl ⟨rfl, rfl⟩, by simp [rowOf], Nat.le_refl _, rfl, rfl, rfl⟩ ?_
  rintro ⟨t, k, m, v, h, d⟩ ⟨g1, g2, g3, g4, g5, g8, g6, g7⟩
  simp only at g1 g2 g3 g4 g5 g6 g7 g8
  have hevd : ∀ i, evS i (some v) = some v := fun i => by rcases g3 with ⟨rfl, -⟩ | ⟨o, ep, rfl, -⟩ <;> rfl
  have hdat : datW (some v) = some v := by rcases g3 with ⟨rfl, -⟩ | ⟨o, ep, rfl, -⟩ <;> rfl
  simp (disch := omega) only [go_sem, ne_eq, not_true_eq_false, not_false_eq_true, ↓reduceIte, Nat.reduceEqDiff, Nat.reduceAdd, Nat.reduceLeDiff, Int.toNat_natCast, Int.reduceToNat, and_self, Bool.not_true, Bool.not_false, Bool.false_and, Bool.and_false, Bool.true_and, Bool.and_true, a17l0, a17r7, hevd]
  refine condS_if (fun hk => ?_) (fun hk => ?_)
  · have hk' : k < l.length := by omega
    obtain ⟨t0, t1, t2, t3⟩ := hT _ (getD_mem hk')
    rw [getD_drop hk'] at g7
    simp only [bak] at g7
    have hok2 := okD_end hokd k hk'
    obtain ⟨F, hf⟩ := Int.eq_ofNat_of_zero_le t0
    obtain ⟨T, ht⟩ := Int.eq_ofNat_of_zero_le (show 0 ≤ (l.getD k default).t by omega)
    have hsub : ((dropN (k * 3) (l.flatMap Enc.cells)).bind fun r => takeN 3 r) = some [.int .i64 F, .int .i64 T, strv (l.getD k default).x] := by
      have h1 := sub_flat (α := Edit) (l := l) (off := 0) (n := 3) hk' (Nat.le_refl _)
      rw [sz_Edit, Nat.add_zero] at h1
      refine (show _ = sub (l.flatMap Enc.cells) (k * 3) 3 from rfl).trans ?_
      rw [h1, cells_Edit, hf, ht]
      rfl
    rw [hf, ht] at g7
    simp only [Int.toNat_natCast] at g7
    have hgo := g8.trans hg
    simp (disch := omega) only [go_sem, ne_eq, not_true_eq_false, not_false_eq_true, ↓reduceIte, Nat.reduceEqDiff, Nat.reduceAdd, Nat.reduceLeDiff, Int.toNat_natCast, Int.reduceToNat, and_self, Bool.not_true, Bool.not_false, Bool.false_and, Bool.and_false, Bool.true_and, Bool.and_true, a17r8, a17r9, hevd, hgo, hsub]
    simp (disch := omega) only [go_sem, ne_eq, not_true_eq_false, not_false_eq_true, ↓reduceIte, Nat.reduceEqDiff, Nat.reduceAdd, Nat.reduceLeDiff, Int.toNat_natCast, Int.reduceToNat, and_self, Bool.not_true, Bool.not_false, Bool.false_and, Bool.and_false, Bool.true_and, Bool.and_true, a17d10, hevd]
    refine dS_app (α := Edit) (bytes := 32) (l := d) (new := [⟨(F : Int) + m, (F : Int) + m + (l.getD k default).x.length, (b.take T).drop F⟩]) (by exact g3) (adds_one (α := Edit) _ _ _ true rfl) rfl (by simp [two47]; omega) (fun v' h' hr hn ho' hfr => ?_)
    have hevd' : ∀ i, evS i (some v') = some v' := fun i => by rcases hr with ⟨rfl, -⟩ | ⟨o, ep, rfl, -⟩ <;> rfl
    have hn' : h'.next = h.next + 1 := hn
    have hget : h'.get o = h0.get o := (hfr o (by omega) (fun e => by have := g4 o e; omega)).trans g8
    simp (disch := omega) only [go_sem, ne_eq, not_true_eq_false, not_false_eq_true, ↓reduceIte, Nat.reduceEqDiff, Nat.reduceAdd, Nat.reduceLeDiff, Int.toNat_natCast, Int.reduceToNat, and_self, Bool.not_true, Bool.not_false, Bool.false_and, Bool.and_false, Bool.true_and, Bool.and_true, a17r11, hevd', a17r12]
    refine ⟨(_, k + 1, m + ((l.getD k default).x.length - ((T : Int) - F)), v', h', d ++ [⟨(F : Int) + m, (F : Int) + m + (l.getD k default).x.length, (b.take T).drop F⟩]), ⟨by simp only; omega, ⟨by simp only; omega, by simp only; omega⟩, hr, fun o h1 => ?_, by simp only; omega, hget, by simp [g6], by rw [List.append_assoc]; exact g7⟩, by simp only; omega, rfl⟩
    simp only at h1
    rcases ho' with h2 | h2
    · rw [h2] at h1; exact g4 o h1
    · rw [h2] at h1; cases h1; exact g5
  · simp (disch := omega) only [go_sem, ne_eq, not_true_eq_false, not_false_eq_true, ↓reduceIte, Nat.reduceEqDiff, Nat.reduceAdd, Nat.reduceLeDiff, Int.toNat_natCast, Int.reduceToNat, and_self, Bool.not_true, Bool.not_false, Bool.false_and, Bool.and_false, Bool.true_and, Bool.and_true, a17r13, hevd, hdat]
    rw [List.drop_of_length_le (by omega)] at g7
    simp only [bak, List.append_nil] at g7
    subst g7
    exact ⟨v, rfl, g3, g8, g5⟩
end Go.Am.Sp

/- SpanBacks, in plain Lean. -/
import Derived.Test.YtggjkebeejpjfaaDoorSpF
set_option linter.unusedSimpArgs false
set_option linter.unusedVariables false
namespace Go.Am.Sp
open Go.Am
variable {P : Prog}
set_option maxRecDepth 20000
set_option maxHeartbeats 1000000
/-- The edits that take edits back. -/
def bak (b : List UInt8) : Int → List Edit → List Edit
  | _, [] => []
  | m, e :: r => ⟨e.f + m, e.f + m + e.x.length, (b.take e.t.toNat).drop e.f.toNat⟩ :: bak b (m + (e.x.length - (e.t - e.f))) r
def backR (b : List UInt8) (l : List Edit) (v : AV) : Prop := ∃ nl : Bool, v = if chkE b.length l = 0 then .tup [slv nl false (bak b 0 l), .int .i64 0] else .tup [.nils, .int .i64 (chkE b.length l)]
theorem back_den (hP : SpP P) (b : List UInt8) (l : List Edit) (n1 f1 n2 f2 : Bool) (hb : b.length ≤ 1000000) (hl : l.length ≤ 1000000) (hx : ∀ e ∈ l, e.x.length ≤ 200) : Den P 17 [slv n1 f1 b, slv n2 f2 l] (backR b l) := by
  refine Den.of (code := a17c) (by rw [hP.fn]; rfl) (fun N => ?_)
  have chk2 : ∀ h2, Den P 13 (lent (1 + 1) h2 [.int .i64 b.length, slv n2 f2 l]) (fun v => v = .int .i64 (chkE b.length l)) := fun h2 => by
    simp only [lent_11, List.map_cons, List.map_nil, frz_slv, frz_int]; exact check_den hP _ l n2 f2 (by omega)
  simp (disch := omega) only [go_sem, ne_eq, not_true_eq_false, not_false_eq_true, ↓reduceIte, Nat.reduceEqDiff, Nat.reduceAdd, Nat.reduceLeDiff, Int.toNat_natCast, Int.reduceToNat, and_self, Bool.not_true, Bool.not_false, Bool.false_and, Bool.and_false, Bool.true_and, Bool.and_true, a17c, a17r0, a17r1]
  refine WO.den (k := 1) (vs := [.int .i64 b.length, slv n2 f2 l]) (by rw [hP.pure _ (by decide)]; rfl) (by simp (disch := omega) only [go_sem, ne_eq, not_true_eq_false, not_false_eq_true, ↓reduceIte, Nat.reduceEqDiff, Nat.reduceAdd, Nat.reduceLeDiff, Int.toNat_natCast, Int.reduceToNat, and_self, Bool.not_true, Bool.not_false, Bool.false_and, Bool.and_false, Bool.true_and, Bool.and_true]) (chk2 _) (fun v hv => by subst hv; simp (disch := omega) only [go_sem, ne_eq, not_true_eq_false, not_false_eq_true, ↓reduceIte, Nat.reduceEqDiff, Nat.reduceAdd, Nat.reduceLeDiff, Int.toNat_natCast, Int.reduceToNat, and_self, Bool.not_true, Bool.not_false, Bool.false_and, Bool.and_false, Bool.true_and, Bool.and_true]) (fun v hv => ?_)
  subst hv
  simp (disch := omega) only [go_sem, ne_eq, not_true_eq_false, not_false_eq_true, ↓reduceIte, Nat.reduceEqDiff, Nat.reduceAdd, Nat.reduceLeDiff, Int.toNat_natCast, Int.reduceToNat, and_self, Bool.not_true, Bool.not_false, Bool.false_and, Bool.and_false, Bool.true_and, Bool.and_true, a17r2]
  refine condS_split (fun hc => ?_) (fun hc => ?_)
  · simp (disch := omega) only [go_sem, ne_eq, not_true_eq_false, not_false_eq_true, ↓reduceIte, Nat.reduceEqDiff, Nat.reduceAdd, Nat.reduceLeDiff, Int.toNat_natCast, Int.reduceToNat, and_self, Bool.not_true, Bool.not_false, Bool.false_and, Bool.and_false, Bool.true_and, Bool.and_true, a17r3]
    have hc0 : ¬ chkE b.length l = 0 := by simpa using hc
    exact ⟨false, by rw [if_neg hc0]⟩
  · have hc0 : chkE b.length l = 0 := by simpa using hc
    have hok := (chkE_zero hc0).2
    have hT := tame_of l 0 hok (by omega) hx
    simp (disch := omega) only [go_sem, ne_eq, not_true_eq_false, not_false_eq_true, ↓reduceIte, Nat.reduceEqDiff, Nat.reduceAdd, Nat.reduceLeDiff, Int.toNat_natCast, Int.reduceToNat, and_self, Bool.not_true, Bool.not_false, Bool.false_and, Bool.and_false, Bool.true_and, Bool.and_true, a17r4, a17r5, a17r6]
    refine Wp_loop (fun x : Nat × Nat × Int × AV × Heap × List Edit => x.2.1 ≤ l.length ∧ (-(1000000 * (x.2.1 : Int)) ≤ x.2.2.1 ∧ x.2.2.1 ≤ 1000000 * x.2.1) ∧ RowV x.2.2.2.2.1 x.2.2.2.1 x.2.2.2.2.2 ∧ (∀ o, rowOf x.2.2.2.1 = some o → N ≤ o) ∧ N ≤ x.2.2.2.2.1.next ∧ x.2.2.2.2.2.length = x.2.1 ∧ x.2.2.2.2.2 ++ bak b x.2.2.1 (l.drop x.2.1) = bak b 0 l)
      (fun (t, k, m, v, h, d) => { fr := [(0, slv n1 f1 b), (7, v), (8, .int .i64 m), (19, slv n2 f2 l), (20, .int .i64 l.length), (21, .int .i64 k)], st := t, h := h }) (fun x => l.length - x.2.1) (0, 0, 0, .nils, { next := N, m := .leaf }, []) rfl ⟨by simp, by simp, Or.inl ⟨rfl, rfl⟩, by simp [rowOf], Nat.le_refl _, rfl, rfl⟩ ?_
    rintro ⟨t, k, m, v, h, d⟩ ⟨g1, g2, g3, g4, g5, g6, g7⟩
    simp only at g1 g2 g3 g4 g5 g6 g7
    have hevd : ∀ i, evS i (some v) = some v := fun i => by rcases g3 with ⟨rfl, -⟩ | ⟨o, ep, rfl, -⟩ <;> rfl
    have hdat : datW (some v) = some v := by rcases g3 with ⟨rfl, -⟩ | ⟨o, ep, rfl, -⟩ <;> rfl
    simp (disch := omega) only [go_sem, ne_eq, not_true_eq_false, not_false_eq_true, ↓reduceIte, Nat.reduceEqDiff, Nat.reduceAdd, Nat.reduceLeDiff, Int.toNat_natCast, Int.reduceToNat, and_self, Bool.not_true, Bool.not_false, Bool.false_and, Bool.and_false, Bool.true_and, Bool.and_true, a17l0, a17r7, hevd]
    refine condS_if (fun hk => ?_) (fun hk => ?_)
    · have hk' : k < l.length := by omega
      obtain ⟨t0, t1, t2, t3⟩ := hT _ (getD_mem hk')
      rw [getD_drop hk'] at g7
      simp only [bak] at g7
      have hok2 := okD_end hok k hk'
      have hxk := hx _ (getD_mem hk')
      obtain ⟨F, hf⟩ := Int.eq_ofNat_of_zero_le t0
      obtain ⟨T, ht⟩ := Int.eq_ofNat_of_zero_le (show 0 ≤ (l.getD k default).t by omega)
      rw [hf, ht] at g7
      simp (disch := omega) only [go_sem, ne_eq, not_true_eq_false, not_false_eq_true, ↓reduceIte, Nat.reduceEqDiff, Nat.reduceAdd, Nat.reduceLeDiff, Int.toNat_natCast, Int.reduceToNat, and_self, Bool.not_true, Bool.not_false, Bool.false_and, Bool.and_false, Bool.true_and, Bool.and_true, a17r8, a17r9, hevd, hf, ht]
      simp only [Int.toNat_natCast] at g7
      simp (disch := omega) only [go_sem, ne_eq, not_true_eq_false, not_false_eq_true, ↓reduceIte, Nat.reduceEqDiff, Nat.reduceAdd, Nat.reduceLeDiff, Int.toNat_natCast, Int.reduceToNat, and_self, Bool.not_true, Bool.not_false, Bool.false_and, Bool.and_false, Bool.true_and, Bool.and_true, a17d10, hevd]
      refine dS_app (α := Edit) (bytes := 32) (l := d) (new := [⟨(F : Int) + m, (F : Int) + m + (l.getD k default).x.length, (b.take T).drop F⟩]) (by exact g3) (adds_one (α := Edit) _ _ _ true rfl) rfl (by simp [two47]; omega) (fun v' h' hr hn ho hf => ?_)
      have hevd' : ∀ i, evS i (some v') = some v' := fun i => by rcases hr with ⟨rfl, -⟩ | ⟨o, ep, rfl, -⟩ <;> rfl
      have hn' : h'.next = h.next + 1 := hn
      simp (disch := omega) only [go_sem, ne_eq, not_true_eq_false, not_false_eq_true, ↓reduceIte, Nat.reduceEqDiff, Nat.reduceAdd, Nat.reduceLeDiff, Int.toNat_natCast, Int.reduceToNat, and_self, Bool.not_true, Bool.not_false, Bool.false_and, Bool.and_false, Bool.true_and, Bool.and_true, a17r11, hevd', a17r12]
      refine ⟨(_, k + 1, m + ((l.getD k default).x.length - ((T : Int) - F)), v', h', d ++ [⟨(F : Int) + m, (F : Int) + m + (l.getD k default).x.length, (b.take T).drop F⟩]), ⟨by simp only; omega, ⟨by simp only; omega, by simp only; omega⟩, hr, fun o h1 => ?_, by simp only; omega, by simp [g6], by rw [List.append_assoc]; exact g7⟩, by simp only; omega, rfl⟩
      simp only at h1
      rcases ho with h2 | h2
      · rw [h2] at h1; exact g4 o h1
      · rw [h2] at h1; cases h1; exact g5
    · simp (disch := omega) only [go_sem, ne_eq, not_true_eq_false, not_false_eq_true, ↓reduceIte, Nat.reduceEqDiff, Nat.reduceAdd, Nat.reduceLeDiff, Int.toNat_natCast, Int.reduceToNat, and_self, Bool.not_true, Bool.not_false, Bool.false_and, Bool.and_false, Bool.true_and, Bool.and_true, a17r13, hevd, hdat]
      rw [List.drop_of_length_le (by omega)] at g7
      simp only [bak, List.append_nil] at g7
      subst g7
      obtain ⟨nl, e⟩ := g3.back g4 38
      refine ⟨nl, ?_⟩
      rw [if_pos hc0, ← e]
end Go.Am.Sp

/- SpanApplies, in plain Lean. -/
import Derived.Test.YtggjkebeejpjfaaDoorSpD
import Derived.Test.YtggjkebeejpjfaaDoorSpPrim
set_option linter.unusedSimpArgs false
set_option linter.unusedVariables false
namespace Go.Am.Sp
open Go.Am
variable {P : Prog}
set_option maxRecDepth 20000
set_option maxHeartbeats 1000000
structure SpA (P : Prog) : Prop extends SpP P where
  prim : P.prim = primOn 11 applyF
theorem apply_fun (hP : SpA P) (h : Heap) (x y : AV) {n1 f1 : Bool} {b : List UInt8} {n2 f2 : Bool} {l : List Edit} (hx : frz h 0 40 x = slv n1 f1 b) (hy : frz h 0 40 y = slv n2 f2 l) (hb : b.length ≤ 1000000000000) (hl : l.length ≤ 9223372036854775807) (hlim : (appD b 0 l).length ≤ 140737488355328) :
    Fun P 11 [x, y] h (fun v h' => v = applyV b l ∧ h' = h) := by
  refine Fun.prim (v := applyV b l) (h' := h) (by rw [hP.fn]; rfl) (by rw [hP.pure _ (by decide)]; rfl) ?_ ⟨rfl, rfl⟩
  rw [hP.prim]
  simp only [primOn, nbeq, decide_true, cond_true, List.map_cons, List.map_nil, hx, hy]
  rw [applyF_of ⟨n1, f1, b, n2, f2, l, rfl, hb, hl, hlim, rfl⟩]
  rfl
theorem awake_v : applyV [97, 98, 99] [⟨1, 2, [120, 121]⟩] = .tup [slv false false ([97, 120, 121, 99] : List UInt8), .int .i64 0] := by
  unfold applyV
  rw [if_pos (by decide)]
  rfl
theorem awake_den (hP : SpA P) : Den P 9 [] (fun v => v = .bool true) := by
  refine Den.of (code := a9c) (by rw [hP.fn]; rfl) (fun N => ?_)
  simp (disch := omega) only [go_sem, ne_eq, not_true_eq_false, not_false_eq_true, ↓reduceIte, Nat.reduceEqDiff, Nat.reduceAdd, Nat.reduceLeDiff, Int.toNat_natCast, Int.reduceToNat, and_self, Bool.not_true, Bool.not_false, Bool.false_and, Bool.and_false, Bool.true_and, Bool.and_true, a9c, a9r0, a9r1]
  refine WO.fun (vs := [.hs 1 N 0 0 3 false, .sl 3 1 (fun i => List.take 3 (List.drop (i * 3) [AV.int .i64 1, AV.int .i64 2, strv [120, 121]])) true]) (by simp (disch := omega) only [go_sem, ne_eq, not_true_eq_false, not_false_eq_true, ↓reduceIte, Nat.reduceEqDiff, Nat.reduceAdd, Nat.reduceLeDiff, Int.toNat_natCast, Int.reduceToNat, and_self, Bool.not_true, Bool.not_false, Bool.false_and, Bool.and_false, Bool.true_and, Bool.and_true]) (apply_fun hP _ _ _ (n1 := false) (f1 := false) (b := [97, 98, 99]) (n2 := false) (f2 := true) (l := [⟨1, 2, [120, 121]⟩]) ?_ ?_ (by decide) (by decide) (by decide)) ?_
  · exact (frz_hs (α := UInt8) (l := [97, 98, 99]) (off := 0) (len := 3) (N := 0) (n := 39) (full := false) (get_put_same _ _ _) (by decide) (Nat.zero_le _))
  · rw [frz_sl]
    exact lit_one (⟨1, 2, [120, 121]⟩ : Edit) _ rfl (by decide) true
  · rintro v h' ⟨rfl, rfl⟩
    rw [awake_v]
    simp (disch := omega) only [go_sem, ne_eq, not_true_eq_false, not_false_eq_true, ↓reduceIte, Nat.reduceEqDiff, Nat.reduceAdd, Nat.reduceLeDiff, Int.toNat_natCast, Int.reduceToNat, and_self, Bool.not_true, Bool.not_false, Bool.false_and, Bool.and_false, Bool.true_and, Bool.and_true, a9r2]
theorem awake_ok (k : Nat) (v : AV) (h : v = .bool true) : alone k v = true := by
  subst h
  unfold alone
  cases Nat.beq k 2 <;> rfl
/-- The law of the first row. -/
theorem applies_fun (hP : SpA P) (b : List UInt8) (l : List Edit) (n1 f1 n2 f2 : Bool) (hb : b.length ≤ 9223372036854775807) (hl : l.length ≤ 9223372036854775807) (hx : ∀ e ∈ l, e.x.length ≤ 9223372036854775807) (h : Heap) :
    Fun P 3 [slv n1 f1 b, slv n2 f2 l] h (fun v _ => v = .bool true) := by
  refine Fun.of (code := a3c) (by rw [hP.fn]; rfl) (by rw [hP.pure _ (by decide)]; rfl) ?_
  simp (disch := omega) only [go_sem, ne_eq, not_true_eq_false, not_false_eq_true, ↓reduceIte, Nat.reduceEqDiff, Nat.reduceAdd, Nat.reduceLeDiff, Int.toNat_natCast, Int.reduceToNat, and_self, Bool.not_true, Bool.not_false, Bool.false_and, Bool.and_false, Bool.true_and, Bool.and_true, a3c, a3r0, a3r1]
  refine guardS_pf (fun c1 d1 => ?_) (fun c1 d1 => ?_) <;> simp (disch := omega) only [go_sem, ne_eq, not_true_eq_false, not_false_eq_true, ↓reduceIte, Nat.reduceEqDiff, Nat.reduceAdd, Nat.reduceLeDiff, Int.toNat_natCast, Int.reduceToNat, and_self, Bool.not_true, Bool.not_false, Bool.false_and, Bool.and_false, Bool.true_and, Bool.and_true, d1]
  · have hb5 : b.length ≤ 500 := by omega
    refine WO.den (k := 1) (vs := [slv n2 f2 l]) (by rw [hP.pure _ (by decide)]; rfl) (by simp (disch := omega) only [go_sem, ne_eq, not_true_eq_false, not_false_eq_true, ↓reduceIte, Nat.reduceEqDiff, Nat.reduceAdd, Nat.reduceLeDiff, Int.toNat_natCast, Int.reduceToNat, and_self, Bool.not_true, Bool.not_false, Bool.false_and, Bool.and_false, Bool.true_and, Bool.and_true]) (by simp only [lent_11, List.map_cons, List.map_nil, frz_slv]; exact great_den hP.toSpP l n2 f2 hl hx) (fun v hv => by obtain ⟨q, rfl, -⟩ := hv; simp (disch := omega) only [go_sem, ne_eq, not_true_eq_false, not_false_eq_true, ↓reduceIte, Nat.reduceEqDiff, Nat.reduceAdd, Nat.reduceLeDiff, Int.toNat_natCast, Int.reduceToNat, and_self, Bool.not_true, Bool.not_false, Bool.false_and, Bool.and_false, Bool.true_and, Bool.and_true]) (fun v hv => ?_)
    obtain ⟨gb, rfl, hg⟩ := hv
    simp (disch := omega) only [go_sem, ne_eq, not_true_eq_false, not_false_eq_true, ↓reduceIte, Nat.reduceEqDiff, Nat.reduceAdd, Nat.reduceLeDiff, Int.toNat_natCast, Int.reduceToNat, and_self, Bool.not_true, Bool.not_false, Bool.false_and, Bool.and_false, Bool.true_and, Bool.and_true]
    refine condS_split (fun hgb => ?_) (fun hgb => ?_)
    · simp (disch := omega) only [go_sem, ne_eq, not_true_eq_false, not_false_eq_true, ↓reduceIte, Nat.reduceEqDiff, Nat.reduceAdd, Nat.reduceLeDiff, Int.toNat_natCast, Int.reduceToNat, and_self, Bool.not_true, Bool.not_false, Bool.false_and, Bool.and_false, Bool.true_and, Bool.and_true, a3r2]
      refine WO.den (k := 1) (vs := []) (by rw [hP.pure _ (by decide)]; rfl) (by simp (disch := omega) only [go_sem, ne_eq, not_true_eq_false, not_false_eq_true, ↓reduceIte, Nat.reduceEqDiff, Nat.reduceAdd, Nat.reduceLeDiff, Int.toNat_natCast, Int.reduceToNat, and_self, Bool.not_true, Bool.not_false, Bool.false_and, Bool.and_false, Bool.true_and, Bool.and_true]) (awake_den hP) (fun v hv => awake_ok _ _ hv) (fun v hv => ?_)
      subst hv
      simp (disch := omega) only [go_sem, ne_eq, not_true_eq_false, not_false_eq_true, ↓reduceIte, Nat.reduceEqDiff, Nat.reduceAdd, Nat.reduceLeDiff, Int.toNat_natCast, Int.reduceToNat, and_self, Bool.not_true, Bool.not_false, Bool.false_and, Bool.and_false, Bool.true_and, Bool.and_true]
    · obtain ⟨hl6, hx2⟩ := hg hgb
      have hlim := appD_le b 200 l 0 hx2
      have hlim2 : (b.length + 200) * (l.length + 1) ≤ 700 * 601 := Nat.mul_le_mul (by omega) (by omega)
      simp (disch := omega) only [go_sem, ne_eq, not_true_eq_false, not_false_eq_true, ↓reduceIte, Nat.reduceEqDiff, Nat.reduceAdd, Nat.reduceLeDiff, Int.toNat_natCast, Int.reduceToNat, and_self, Bool.not_true, Bool.not_false, Bool.false_and, Bool.and_false, Bool.true_and, Bool.and_true, a3r3]
      refine WO.fun (vs := [slv n1 f1 b]) (by simp (disch := omega) only [go_sem, ne_eq, not_true_eq_false, not_false_eq_true, ↓reduceIte, Nat.reduceEqDiff, Nat.reduceAdd, Nat.reduceLeDiff, Int.toNat_natCast, Int.reduceToNat, and_self, Bool.not_true, Bool.not_false, Bool.false_and, Bool.and_false, Bool.true_and, Bool.and_true]) (lent_fun hP.toSpP b n1 f1 (by omega) _) (fun v h1 hL => ?_)
      obtain ⟨o, ep, rfl, hgo⟩ := id hL
      have e0 : frz h1 0 40 (.hs 1 o ep 0 b.length false) = slv false false b :=
        (frz_hs (α := UInt8) (off := 0) (len := b.length) (N := 0) (n := 39) (full := false) (l := b ++ [77, 78, 79]) hgo (by simp) (Nat.zero_le _)).trans (by simp)
      simp (disch := omega) only [go_sem, ne_eq, not_true_eq_false, not_false_eq_true, ↓reduceIte, Nat.reduceEqDiff, Nat.reduceAdd, Nat.reduceLeDiff, Int.toNat_natCast, Int.reduceToNat, and_self, Bool.not_true, Bool.not_false, Bool.false_and, Bool.and_false, Bool.true_and, Bool.and_true, a3r4]
      refine WO.fun (vs := [.hs 1 o ep 0 b.length false, slv n2 f2 l]) (by simp (disch := omega) only [go_sem, ne_eq, not_true_eq_false, not_false_eq_true, ↓reduceIte, Nat.reduceEqDiff, Nat.reduceAdd, Nat.reduceLeDiff, Int.toNat_natCast, Int.reduceToNat, and_self, Bool.not_true, Bool.not_false, Bool.false_and, Bool.and_false, Bool.true_and, Bool.and_true]) (apply_fun hP _ _ _ e0 (frz_slv _ _ _ _ _ _) (by omega) (by omega) (by omega)) ?_
      rintro v h2 ⟨rfl, rfl⟩
      have chk1 : Den P 12 (lent (1 + 1) h2 [.int .i64 b.length, slv n2 f2 l]) (fun v => v = .int .i64 (chkE b.length l)) := by
        simp only [lent_11, List.map_cons, List.map_nil, frz_slv, frz_int]; exact refcheck_den hP.toSpP _ l n2 f2 hl
      have chk2 : Den P 13 (lent (1 + 1) h2 [.int .i64 b.length, slv n2 f2 l]) (fun v => v = .int .i64 (chkE b.length l)) := by
        simp only [lent_11, List.map_cons, List.map_nil, frz_slv, frz_int]; exact check_den hP.toSpP _ l n2 f2 hl
      by_cases hc : chkE b.length l = 0
      · have hok := (chkE_zero hc).2
        unfold applyV
        rw [if_pos hc]
        rw [hc] at chk1 chk2
        simp (disch := omega) only [go_sem, ne_eq, not_true_eq_false, not_false_eq_true, ↓reduceIte, Nat.reduceEqDiff, Nat.reduceAdd, Nat.reduceLeDiff, Int.toNat_natCast, Int.reduceToNat, and_self, Bool.not_true, Bool.not_false, Bool.false_and, Bool.and_false, Bool.true_and, Bool.and_true, a3r5]
        refine WO.den (k := 1) (vs := [.int .i64 b.length, slv n2 f2 l]) (by rw [hP.pure _ (by decide)]; rfl) (by simp (disch := omega) only [go_sem, ne_eq, not_true_eq_false, not_false_eq_true, ↓reduceIte, Nat.reduceEqDiff, Nat.reduceAdd, Nat.reduceLeDiff, Int.toNat_natCast, Int.reduceToNat, and_self, Bool.not_true, Bool.not_false, Bool.false_and, Bool.and_false, Bool.true_and, Bool.and_true]) chk1 (fun v hv => by subst hv; simp (disch := omega) only [go_sem, ne_eq, not_true_eq_false, not_false_eq_true, ↓reduceIte, Nat.reduceEqDiff, Nat.reduceAdd, Nat.reduceLeDiff, Int.toNat_natCast, Int.reduceToNat, and_self, Bool.not_true, Bool.not_false, Bool.false_and, Bool.and_false, Bool.true_and, Bool.and_true]) (fun v hv => ?_)
        subst hv
        simp (disch := omega) only [go_sem, ne_eq, not_true_eq_false, not_false_eq_true, ↓reduceIte, Nat.reduceEqDiff, Nat.reduceAdd, Nat.reduceLeDiff, Int.toNat_natCast, Int.reduceToNat, and_self, Bool.not_true, Bool.not_false, Bool.false_and, Bool.and_false, Bool.true_and, Bool.and_true, a3r6]
        refine WO.den (k := 1) (vs := [.int .i64 b.length, slv n2 f2 l]) (by rw [hP.pure _ (by decide)]; rfl) (by simp (disch := omega) only [go_sem, ne_eq, not_true_eq_false, not_false_eq_true, ↓reduceIte, Nat.reduceEqDiff, Nat.reduceAdd, Nat.reduceLeDiff, Int.toNat_natCast, Int.reduceToNat, and_self, Bool.not_true, Bool.not_false, Bool.false_and, Bool.and_false, Bool.true_and, Bool.and_true]) chk2 (fun v hv => by subst hv; simp (disch := omega) only [go_sem, ne_eq, not_true_eq_false, not_false_eq_true, ↓reduceIte, Nat.reduceEqDiff, Nat.reduceAdd, Nat.reduceLeDiff, Int.toNat_natCast, Int.reduceToNat, and_self, Bool.not_true, Bool.not_false, Bool.false_and, Bool.and_false, Bool.true_and, Bool.and_true]) (fun v hv => ?_)
        subst hv
        simp (disch := omega) only [go_sem, ne_eq, not_true_eq_false, not_false_eq_true, ↓reduceIte, Nat.reduceEqDiff, Nat.reduceAdd, Nat.reduceLeDiff, Int.toNat_natCast, Int.reduceToNat, and_self, Bool.not_true, Bool.not_false, Bool.false_and, Bool.and_false, Bool.true_and, Bool.and_true]
        refine WO.fun (vs := [.hs 1 o ep 0 b.length false, slv n1 f1 b]) (by simp (disch := omega) only [go_sem, ne_eq, not_true_eq_false, not_false_eq_true, ↓reduceIte, Nat.reduceEqDiff, Nat.reduceAdd, Nat.reduceLeDiff, Int.toNat_natCast, Int.reduceToNat, and_self, Bool.not_true, Bool.not_false, Bool.false_and, Bool.and_false, Bool.true_and, Bool.and_true]) (kept_fun hP.toSpP b n1 f1 (by omega) _ _ hL) ?_
        rintro v h3 ⟨rfl, rfl⟩
        simp (disch := omega) only [go_sem, ne_eq, not_true_eq_false, not_false_eq_true, ↓reduceIte, Nat.reduceEqDiff, Nat.reduceAdd, Nat.reduceLeDiff, Int.toNat_natCast, Int.reduceToNat, and_self, Bool.not_true, Bool.not_false, Bool.false_and, Bool.and_false, Bool.true_and, Bool.and_true, a3r8, a3d10]
        refine WD_den (k := 1) (vs := [strv b, slv n2 f2 l]) (by rw [hP.pure _ (by decide)]; rfl) (by simp (disch := omega) only [go_sem, ne_eq, not_true_eq_false, not_false_eq_true, ↓reduceIte, Nat.reduceEqDiff, Nat.reduceAdd, Nat.reduceLeDiff, Int.toNat_natCast, Int.reduceToNat, and_self, Bool.not_true, Bool.not_false, Bool.false_and, Bool.and_false, Bool.true_and, Bool.and_true]) (by simp only [lent_11, List.map_cons, List.map_nil, frz_slv, frz_strv]; exact refapply_den hP.toSpP b l n2 f2 200 hx2 (by omega) (by omega) hok) (fun v hv => by subst hv; simp (disch := omega) only [go_sem, ne_eq, not_true_eq_false, not_false_eq_true, ↓reduceIte, Nat.reduceEqDiff, Nat.reduceAdd, Nat.reduceLeDiff, Int.toNat_natCast, Int.reduceToNat, and_self, Bool.not_true, Bool.not_false, Bool.false_and, Bool.and_false, Bool.true_and, Bool.and_true]) (fun v hv => ?_) (fun v hv => ?_)
        · subst hv
          simp (disch := omega) only [go_sem, ne_eq, not_true_eq_false, not_false_eq_true, ↓reduceIte, Nat.reduceEqDiff, Nat.reduceAdd, Nat.reduceLeDiff, Int.toNat_natCast, Int.reduceToNat, and_self, Bool.not_true, Bool.not_false, Bool.false_and, Bool.and_false, Bool.true_and, Bool.and_true]
        · subst hv
          simp (disch := omega) only [go_sem, ne_eq, not_true_eq_false, not_false_eq_true, ↓reduceIte, Nat.reduceEqDiff, Nat.reduceAdd, Nat.reduceLeDiff, Int.toNat_natCast, Int.reduceToNat, and_self, Bool.not_true, Bool.not_false, Bool.false_and, Bool.and_false, Bool.true_and, Bool.and_true]
          refine WD_den (k := 1) (vs := []) (by rw [hP.pure _ (by decide)]; rfl) (by simp (disch := omega) only [go_sem, ne_eq, not_true_eq_false, not_false_eq_true, ↓reduceIte, Nat.reduceEqDiff, Nat.reduceAdd, Nat.reduceLeDiff, Int.toNat_natCast, Int.reduceToNat, and_self, Bool.not_true, Bool.not_false, Bool.false_and, Bool.and_false, Bool.true_and, Bool.and_true]) (awake_den hP) (fun v hv => awake_ok _ _ hv) (fun v hv => ?_) (fun v hv => ?_)
          · rfl
          · subst hv
            simp (disch := omega) only [go_sem, ne_eq, not_true_eq_false, not_false_eq_true, ↓reduceIte, Nat.reduceEqDiff, Nat.reduceAdd, Nat.reduceLeDiff, Int.toNat_natCast, Int.reduceToNat, and_self, Bool.not_true, Bool.not_false, Bool.false_and, Bool.and_false, Bool.true_and, Bool.and_true]
      · have hc' : decide (chkE b.length l = 0) = false := by simpa using hc
        unfold applyV
        rw [if_neg hc]
        simp (disch := omega) only [go_sem, ne_eq, not_true_eq_false, not_false_eq_true, ↓reduceIte, Nat.reduceEqDiff, Nat.reduceAdd, Nat.reduceLeDiff, Int.toNat_natCast, Int.reduceToNat, and_self, Bool.not_true, Bool.not_false, Bool.false_and, Bool.and_false, Bool.true_and, Bool.and_true, a3r5]
        refine WO.den (k := 1) (vs := [.int .i64 b.length, slv n2 f2 l]) (by rw [hP.pure _ (by decide)]; rfl) (by simp (disch := omega) only [go_sem, ne_eq, not_true_eq_false, not_false_eq_true, ↓reduceIte, Nat.reduceEqDiff, Nat.reduceAdd, Nat.reduceLeDiff, Int.toNat_natCast, Int.reduceToNat, and_self, Bool.not_true, Bool.not_false, Bool.false_and, Bool.and_false, Bool.true_and, Bool.and_true]) chk1 (fun v hv => by subst hv; simp (disch := omega) only [go_sem, ne_eq, not_true_eq_false, not_false_eq_true, ↓reduceIte, Nat.reduceEqDiff, Nat.reduceAdd, Nat.reduceLeDiff, Int.toNat_natCast, Int.reduceToNat, and_self, Bool.not_true, Bool.not_false, Bool.false_and, Bool.and_false, Bool.true_and, Bool.and_true]) (fun v hv => ?_)
        subst hv
        simp (disch := omega) only [go_sem, ne_eq, not_true_eq_false, not_false_eq_true, ↓reduceIte, Nat.reduceEqDiff, Nat.reduceAdd, Nat.reduceLeDiff, Int.toNat_natCast, Int.reduceToNat, and_self, Bool.not_true, Bool.not_false, Bool.false_and, Bool.and_false, Bool.true_and, Bool.and_true, a3r6]
        refine WO.den (k := 1) (vs := [.int .i64 b.length, slv n2 f2 l]) (by rw [hP.pure _ (by decide)]; rfl) (by simp (disch := omega) only [go_sem, ne_eq, not_true_eq_false, not_false_eq_true, ↓reduceIte, Nat.reduceEqDiff, Nat.reduceAdd, Nat.reduceLeDiff, Int.toNat_natCast, Int.reduceToNat, and_self, Bool.not_true, Bool.not_false, Bool.false_and, Bool.and_false, Bool.true_and, Bool.and_true]) chk2 (fun v hv => by subst hv; simp (disch := omega) only [go_sem, ne_eq, not_true_eq_false, not_false_eq_true, ↓reduceIte, Nat.reduceEqDiff, Nat.reduceAdd, Nat.reduceLeDiff, Int.toNat_natCast, Int.reduceToNat, and_self, Bool.not_true, Bool.not_false, Bool.false_and, Bool.and_false, Bool.true_and, Bool.and_true]) (fun v hv => ?_)
        subst hv
        simp (disch := omega) only [go_sem, ne_eq, not_true_eq_false, not_false_eq_true, ↓reduceIte, Nat.reduceEqDiff, Nat.reduceAdd, Nat.reduceLeDiff, Int.toNat_natCast, Int.reduceToNat, and_self, Bool.not_true, Bool.not_false, Bool.false_and, Bool.and_false, Bool.true_and, Bool.and_true]
        refine WO.fun (vs := [.hs 1 o ep 0 b.length false, slv n1 f1 b]) (by simp (disch := omega) only [go_sem, ne_eq, not_true_eq_false, not_false_eq_true, ↓reduceIte, Nat.reduceEqDiff, Nat.reduceAdd, Nat.reduceLeDiff, Int.toNat_natCast, Int.reduceToNat, and_self, Bool.not_true, Bool.not_false, Bool.false_and, Bool.and_false, Bool.true_and, Bool.and_true]) (kept_fun hP.toSpP b n1 f1 (by omega) _ _ hL) ?_
        rintro v h3 ⟨rfl, rfl⟩
        simp (disch := omega) only [go_sem, ne_eq, not_true_eq_false, not_false_eq_true, ↓reduceIte, Nat.reduceEqDiff, Nat.reduceAdd, Nat.reduceLeDiff, Int.toNat_natCast, Int.reduceToNat, and_self, Bool.not_true, Bool.not_false, Bool.false_and, Bool.and_false, Bool.true_and, Bool.and_true, a3r8, hc, a3r9]
        refine WO.den (k := 1) (vs := []) (by rw [hP.pure _ (by decide)]; rfl) (by simp (disch := omega) only [go_sem, ne_eq, not_true_eq_false, not_false_eq_true, ↓reduceIte, Nat.reduceEqDiff, Nat.reduceAdd, Nat.reduceLeDiff, Int.toNat_natCast, Int.reduceToNat, and_self, Bool.not_true, Bool.not_false, Bool.false_and, Bool.and_false, Bool.true_and, Bool.and_true]) (awake_den hP) (fun v hv => awake_ok _ _ hv) (fun v hv => ?_)
        subst hv
        simp (disch := omega) only [go_sem, ne_eq, not_true_eq_false, not_false_eq_true, ↓reduceIte, Nat.reduceEqDiff, Nat.reduceAdd, Nat.reduceLeDiff, Int.toNat_natCast, Int.reduceToNat, and_self, Bool.not_true, Bool.not_false, Bool.false_and, Bool.and_false, Bool.true_and, Bool.and_true]
  · simp (disch := omega) only [go_sem, ne_eq, not_true_eq_false, not_false_eq_true, ↓reduceIte, Nat.reduceEqDiff, Nat.reduceAdd, Nat.reduceLeDiff, Int.toNat_natCast, Int.reduceToNat, and_self, Bool.not_true, Bool.not_false, Bool.false_and, Bool.and_false, Bool.true_and, Bool.and_true, a3r2]
    refine WO.den (k := 1) (vs := []) (by rw [hP.pure _ (by decide)]; rfl) (by simp (disch := omega) only [go_sem, ne_eq, not_true_eq_false, not_false_eq_true, ↓reduceIte, Nat.reduceEqDiff, Nat.reduceAdd, Nat.reduceLeDiff, Int.toNat_natCast, Int.reduceToNat, and_self, Bool.not_true, Bool.not_false, Bool.false_and, Bool.and_false, Bool.true_and, Bool.and_true]) (awake_den hP) (fun v hv => awake_ok _ _ hv) (fun v hv => ?_)
    subst hv
    simp (disch := omega) only [go_sem, ne_eq, not_true_eq_false, not_false_eq_true, ↓reduceIte, Nat.reduceEqDiff, Nat.reduceAdd, Nat.reduceLeDiff, Int.toNat_natCast, Int.reduceToNat, and_self, Bool.not_true, Bool.not_false, Bool.false_and, Bool.and_false, Bool.true_and, Bool.and_true]
end Go.Am.Sp

/- SpanNone, in plain Lean: the law. -/
import Derived.Test.YtggjkebeejpjfaaDoorSpI
set_option linter.unusedSimpArgs false
set_option linter.unusedVariables false
namespace Go.Am.Sp
open Go.Am
variable {P : Prog}
set_option maxRecDepth 20000
set_option maxHeartbeats 1000000
/-- The edits that put what stands there. -/
def sm (b : List UInt8) (l : List Edit) : List Edit := l.map fun e => ⟨e.f, e.t, (b.take e.t.toNat).drop e.f.toNat⟩
theorem sm_chk (b : List UInt8) (n : Int) : ∀ (l : List Edit) (to fr : Int), chk n to fr (sm b l) = chk n to fr l
  | [], _, _ => rfl
  | e :: r, to, fr => by
    simp only [sm, List.map_cons, chk]
    rw [← sm_chk b n r e.t e.f]
    rfl
theorem sm_chkE (b : List UInt8) (n : Int) (l : List Edit) : chkE n (sm b l) = chkE n l := by
  unfold chkE
  rw [sm_chk]
  simp only [sm, List.length_map]
theorem sm_app {b : List UInt8} : ∀ (l : List Edit) (m : Nat), okD b.length m l → appD b m (sm b l) = b.drop m
  | [], _, _ => rfl
  | e :: r, m, h => by
    obtain ⟨h1, h2, h3, h4⟩ := h
    have ih := sm_app r _ h4
    simp only [sm, List.map_cons, appD] at ih ⊢
    rw [ih]
    have a1 : (b.take e.t.toNat).drop e.f.toNat ++ b.drop e.t.toNat = b.drop e.f.toNat := by
      rw [← List.drop_append_of_le_length (by rw [List.length_take]; omega), List.take_append_drop]
    rw [List.append_assoc, a1, ← List.drop_append_of_le_length (by rw [List.length_take]; omega), List.take_append_drop]
theorem sm_len {b : List UInt8} {e : Edit} (h0 : 0 ≤ e.f) (h1 : e.f ≤ e.t) (h2 : e.t ≤ b.length) : (((b.take e.t.toNat).drop e.f.toNat).length : Int) = e.t - e.f := by
  rw [List.length_drop, List.length_take]; omega
theorem sm_bak {b : List UInt8} : ∀ (l : List Edit) (m : Nat), okD b.length m l → bak b 0 (sm b l) = sm b l
  | [], _, _ => rfl
  | e :: r, m, h => by
    obtain ⟨h1, h2, h3, h4⟩ := h
    have ih := sm_bak r _ h4
    have hl := sm_len (show 0 ≤ e.f by omega) h2 h3
    simp only [sm, List.map_cons, bak] at ih ⊢
    rw [show (0 : Int) + ((((b.take e.t.toNat).drop e.f.toNat).length : Int) - (e.t - e.f)) = 0 by omega, ih, show e.f + 0 + (((b.take e.t.toNat).drop e.f.toNat).length : Int) = e.t by omega, Int.add_zero]
theorem sm_mor {b : List UInt8} (i : Int) : ∀ (l : List Edit) (m : Nat), okD b.length m l → mor i (sm b l) = 0
  | [], _, _ => rfl
  | e :: r, m, h => by
    obtain ⟨h1, h2, h3, h4⟩ := h
    have ih := sm_mor i r _ h4
    have hl := sm_len (show 0 ≤ e.f by omega) h2 h3
    simp only [sm, List.map_cons, mor] at ih ⊢
    rw [ih, hl]
    split <;> omega
theorem back_row (hP : SpP P) (b : List UInt8) (l : List Edit) (n1 f1 : Bool) (y : AV) (h0 : Heap) (hr : RowV h0 y l) (ho : ∀ q, rowOf y = some q → q < h0.next) (h17 : P.pure 17 = 0) (hb : b.length ≤ 1000000) (hl : l.length ≤ 1000000) (hx : ∀ e ∈ l, e.x.length ≤ 1000) (hok : chkE b.length l = 0) :
    Fun P 17 [slv n1 f1 b, y] h0 (fun v h' => ∃ z, v = .tup [z, .int .i64 0] ∧ RowV h' z (bak b 0 l) ∧ RowV h' y l) := by
  rcases hr with ⟨rfl, rfl⟩ | ⟨o, ep, rfl, hg⟩
  · refine Fun.of (code := a17c) (by rw [hP.fn]; rfl) h17 ?_
    simp (disch := omega) only [go_sem, ne_eq, not_true_eq_false, not_false_eq_true, ↓reduceIte, Nat.reduceEqDiff, Nat.reduceAdd, Nat.reduceLeDiff, Int.toNat_natCast, Int.reduceToNat, and_self, Bool.not_true, Bool.not_false, Bool.false_and, Bool.and_false, Bool.true_and, Bool.and_true, a17c, a17r0, a17r1]
    refine WO.den (k := 1) (vs := [.int .i64 b.length, .nils]) (by rw [hP.pure _ (by decide)]; rfl) (by simp (disch := omega) only [go_sem, ne_eq, not_true_eq_false, not_false_eq_true, ↓reduceIte, Nat.reduceEqDiff, Nat.reduceAdd, Nat.reduceLeDiff, Int.toNat_natCast, Int.reduceToNat, and_self, Bool.not_true, Bool.not_false, Bool.false_and, Bool.and_false, Bool.true_and, Bool.and_true]) (by simp only [lent_11, List.map_cons, List.map_nil, frz_int]; exact check_den hP _ [] true false (by simp)) (fun v hv => by subst hv; simp (disch := omega) only [go_sem, ne_eq, not_true_eq_false, not_false_eq_true, ↓reduceIte, Nat.reduceEqDiff, Nat.reduceAdd, Nat.reduceLeDiff, Int.toNat_natCast, Int.reduceToNat, and_self, Bool.not_true, Bool.not_false, Bool.false_and, Bool.and_false, Bool.true_and, Bool.and_true]) (fun v hv => ?_)
    subst hv
    rw [hok]
    simp (disch := omega) only [go_sem, ne_eq, not_true_eq_false, not_false_eq_true, ↓reduceIte, Nat.reduceEqDiff, Nat.reduceAdd, Nat.reduceLeDiff, Int.toNat_natCast, Int.reduceToNat, and_self, Bool.not_true, Bool.not_false, Bool.false_and, Bool.and_false, Bool.true_and, Bool.and_true, a17r2, decide_false, a17r4, a17r5, a17r6]
    refine Wp_loop (fun x : Nat => True) (fun t => { fr := [(0, slv n1 f1 b), (7, .nils), (8, .int .i64 0), (19, .nils), (20, .int .i64 0), (21, .int .i64 0)], st := t, h := h0 }) (fun x => 0) 0 rfl trivial ?_
    intro t _
    simp (disch := omega) only [go_sem, ne_eq, not_true_eq_false, not_false_eq_true, ↓reduceIte, Nat.reduceEqDiff, Nat.reduceAdd, Nat.reduceLeDiff, Int.toNat_natCast, Int.reduceToNat, and_self, Bool.not_true, Bool.not_false, Bool.false_and, Bool.and_false, Bool.true_and, Bool.and_true, a17l0, a17r7]
    refine condS_if (fun hk => absurd hk (by omega)) (fun hk => ?_)
    simp (disch := omega) only [go_sem, ne_eq, not_true_eq_false, not_false_eq_true, ↓reduceIte, Nat.reduceEqDiff, Nat.reduceAdd, Nat.reduceLeDiff, Int.toNat_natCast, Int.reduceToNat, and_self, Bool.not_true, Bool.not_false, Bool.false_and, Bool.and_false, Bool.true_and, Bool.and_true, a17r13]
    exact ⟨.nils, rfl, Or.inl ⟨rfl, rfl⟩, Or.inl ⟨rfl, rfl⟩⟩
  · obtain ⟨n, v, h', h1, y, rfl, h2, h3, h4⟩ := back_hs hP b l n1 f1 o ep h0 hg (ho o rfl) h17 hb hl hx hok
    exact ⟨n, _, h', h1, y, rfl, h2, Or.inr ⟨o, ep, rfl, h3.trans hg⟩⟩
/-- The law of the fourth row. -/
theorem none_fun (hP : SpA P) (h17 : P.pure 17 = 0) (b : List UInt8) (l : List Edit) (n1 f1 n2 f2 : Bool) (hb : b.length ≤ 9223372036854775807) (hl : l.length ≤ 9223372036854775807) (hx : ∀ e ∈ l, e.x.length ≤ 9223372036854775807) (h : Heap) :
    Fun P 6 [slv n1 f1 b, slv n2 f2 l] h (fun v _ => v = .bool true) := by
  refine Fun.of (code := a6c) (by rw [hP.fn]; rfl) (by rw [hP.pure _ (by decide)]; rfl) ?_
  simp (disch := omega) only [go_sem, ne_eq, not_true_eq_false, not_false_eq_true, ↓reduceIte, Nat.reduceEqDiff, Nat.reduceAdd, Nat.reduceLeDiff, Int.toNat_natCast, Int.reduceToNat, and_self, Bool.not_true, Bool.not_false, Bool.false_and, Bool.and_false, Bool.true_and, Bool.and_true, a6c, a6r0, a6r1]
  refine guardS_pf (fun c1 d1 => ?_) (fun c1 d1 => ?_) <;> simp (disch := omega) only [go_sem, ne_eq, not_true_eq_false, not_false_eq_true, ↓reduceIte, Nat.reduceEqDiff, Nat.reduceAdd, Nat.reduceLeDiff, Int.toNat_natCast, Int.reduceToNat, and_self, Bool.not_true, Bool.not_false, Bool.false_and, Bool.and_false, Bool.true_and, Bool.and_true, d1]
  · have hb5 : b.length ≤ 500 := by omega
    refine WO.den (k := 1) (vs := [slv n2 f2 l]) (by rw [hP.pure _ (by decide)]; rfl) (by simp (disch := omega) only [go_sem, ne_eq, not_true_eq_false, not_false_eq_true, ↓reduceIte, Nat.reduceEqDiff, Nat.reduceAdd, Nat.reduceLeDiff, Int.toNat_natCast, Int.reduceToNat, and_self, Bool.not_true, Bool.not_false, Bool.false_and, Bool.and_false, Bool.true_and, Bool.and_true]) (by simp only [lent_11, List.map_cons, List.map_nil, frz_slv]; exact great_den hP.toSpP l n2 f2 hl hx) (fun v hv => by obtain ⟨q, rfl, -⟩ := hv; simp (disch := omega) only [go_sem, ne_eq, not_true_eq_false, not_false_eq_true, ↓reduceIte, Nat.reduceEqDiff, Nat.reduceAdd, Nat.reduceLeDiff, Int.toNat_natCast, Int.reduceToNat, and_self, Bool.not_true, Bool.not_false, Bool.false_and, Bool.and_false, Bool.true_and, Bool.and_true]) (fun v hv => ?_)
    obtain ⟨gb, rfl, hg⟩ := hv
    simp (disch := omega) only [go_sem, ne_eq, not_true_eq_false, not_false_eq_true, ↓reduceIte, Nat.reduceEqDiff, Nat.reduceAdd, Nat.reduceLeDiff, Int.toNat_natCast, Int.reduceToNat, and_self, Bool.not_true, Bool.not_false, Bool.false_and, Bool.and_false, Bool.true_and, Bool.and_true]
    cases gb with
    | true =>
      simp (disch := omega) only [go_sem, ne_eq, not_true_eq_false, not_false_eq_true, ↓reduceIte, Nat.reduceEqDiff, Nat.reduceAdd, Nat.reduceLeDiff, Int.toNat_natCast, Int.reduceToNat, and_self, Bool.not_true, Bool.not_false, Bool.false_and, Bool.and_false, Bool.true_and, Bool.and_true, a6r2]
      refine WO.den (k := 1) (vs := []) (by rw [hP.pure _ (by decide)]; rfl) (by simp (disch := omega) only [go_sem, ne_eq, not_true_eq_false, not_false_eq_true, ↓reduceIte, Nat.reduceEqDiff, Nat.reduceAdd, Nat.reduceLeDiff, Int.toNat_natCast, Int.reduceToNat, and_self, Bool.not_true, Bool.not_false, Bool.false_and, Bool.and_false, Bool.true_and, Bool.and_true]) (awake_den hP) (fun v hv => awake_ok _ _ hv) (fun v hv => ?_)
      subst hv
      simp (disch := omega) only [go_sem, ne_eq, not_true_eq_false, not_false_eq_true, ↓reduceIte, Nat.reduceEqDiff, Nat.reduceAdd, Nat.reduceLeDiff, Int.toNat_natCast, Int.reduceToNat, and_self, Bool.not_true, Bool.not_false, Bool.false_and, Bool.and_false, Bool.true_and, Bool.and_true]
    | false =>
      obtain ⟨hl6, hx2⟩ := hg rfl
      have chk1 : ∀ h2, Den P 12 (lent (1 + 1) h2 [.int .i64 b.length, slv n2 f2 l]) (fun v => v = .int .i64 (chkE b.length l)) := fun h2 => by
        simp only [lent_11, List.map_cons, List.map_nil, frz_slv, frz_int]; exact refcheck_den hP.toSpP _ l n2 f2 hl
      simp (disch := omega) only [go_sem, ne_eq, not_true_eq_false, not_false_eq_true, ↓reduceIte, Nat.reduceEqDiff, Nat.reduceAdd, Nat.reduceLeDiff, Int.toNat_natCast, Int.reduceToNat, and_self, Bool.not_true, Bool.not_false, Bool.false_and, Bool.and_false, Bool.true_and, Bool.and_true]
      refine WO.den (k := 1) (vs := [.int .i64 b.length, slv n2 f2 l]) (by rw [hP.pure _ (by decide)]; rfl) (by simp (disch := omega) only [go_sem, ne_eq, not_true_eq_false, not_false_eq_true, ↓reduceIte, Nat.reduceEqDiff, Nat.reduceAdd, Nat.reduceLeDiff, Int.toNat_natCast, Int.reduceToNat, and_self, Bool.not_true, Bool.not_false, Bool.false_and, Bool.and_false, Bool.true_and, Bool.and_true]) (chk1 _) (fun v hv => by subst hv; simp (disch := omega) only [go_sem, ne_eq, not_true_eq_false, not_false_eq_true, ↓reduceIte, Nat.reduceEqDiff, Nat.reduceAdd, Nat.reduceLeDiff, Int.toNat_natCast, Int.reduceToNat, and_self, Bool.not_true, Bool.not_false, Bool.false_and, Bool.and_false, Bool.true_and, Bool.and_true]) (fun v hv => ?_)
      subst hv
      simp (disch := omega) only [go_sem, ne_eq, not_true_eq_false, not_false_eq_true, ↓reduceIte, Nat.reduceEqDiff, Nat.reduceAdd, Nat.reduceLeDiff, Int.toNat_natCast, Int.reduceToNat, and_self, Bool.not_true, Bool.not_false, Bool.false_and, Bool.and_false, Bool.true_and, Bool.and_true]
      refine condS_split (fun hc => ?_) (fun hc => ?_)
      · simp (disch := omega) only [go_sem, ne_eq, not_true_eq_false, not_false_eq_true, ↓reduceIte, Nat.reduceEqDiff, Nat.reduceAdd, Nat.reduceLeDiff, Int.toNat_natCast, Int.reduceToNat, and_self, Bool.not_true, Bool.not_false, Bool.false_and, Bool.and_false, Bool.true_and, Bool.and_true, a6r2]
        refine WO.den (k := 1) (vs := []) (by rw [hP.pure _ (by decide)]; rfl) (by simp (disch := omega) only [go_sem, ne_eq, not_true_eq_false, not_false_eq_true, ↓reduceIte, Nat.reduceEqDiff, Nat.reduceAdd, Nat.reduceLeDiff, Int.toNat_natCast, Int.reduceToNat, and_self, Bool.not_true, Bool.not_false, Bool.false_and, Bool.and_false, Bool.true_and, Bool.and_true]) (awake_den hP) (fun v hv => awake_ok _ _ hv) (fun v hv => ?_)
        subst hv
        simp (disch := omega) only [go_sem, ne_eq, not_true_eq_false, not_false_eq_true, ↓reduceIte, Nat.reduceEqDiff, Nat.reduceAdd, Nat.reduceLeDiff, Int.toNat_natCast, Int.reduceToNat, and_self, Bool.not_true, Bool.not_false, Bool.false_and, Bool.and_false, Bool.true_and, Bool.and_true]
      · have hc0 : chkE b.length l = 0 := by simpa using hc
        have hok := (chkE_zero hc0).2
        have hT := tame_of l 0 hok (by omega) hx2
        simp (disch := omega) only [go_sem, ne_eq, not_true_eq_false, not_false_eq_true, ↓reduceIte, Nat.reduceEqDiff, Nat.reduceAdd, Nat.reduceLeDiff, Int.toNat_natCast, Int.reduceToNat, and_self, Bool.not_true, Bool.not_false, Bool.false_and, Bool.and_false, Bool.true_and, Bool.and_true, a6r3, a6r4]
        refine Wp_loop (fun x : Nat × Nat × AV × Heap => x.2.1 ≤ l.length ∧ RowV x.2.2.2 x.2.2.1 (sm b (l.take x.2.1)) ∧ (∀ q, rowOf x.2.2.1 = some q → q < x.2.2.2.next))
          (fun (t, k, v, h) => { fr := [(0, slv n1 f1 b), (1, slv n2 f2 l), (5, v), (6, .int .i64 k)], st := t, h := h }) (fun x => l.length - x.2.1) (0, 0, .nils, h) rfl ⟨by simp, Or.inl ⟨rfl, rfl⟩, by simp [rowOf]⟩ ?_
        rintro ⟨t, k, v, h⟩ ⟨g1, g3, g4⟩
        simp only at g1 g3 g4
        have hevd : ∀ i, evS i (some v) = some v := fun i => by rcases g3 with ⟨rfl, -⟩ | ⟨o, ep, rfl, -⟩ <;> rfl
        simp (disch := omega) only [go_sem, ne_eq, not_true_eq_false, not_false_eq_true, ↓reduceIte, Nat.reduceEqDiff, Nat.reduceAdd, Nat.reduceLeDiff, Int.toNat_natCast, Int.reduceToNat, and_self, Bool.not_true, Bool.not_false, Bool.false_and, Bool.and_false, Bool.true_and, Bool.and_true, a6l0, a6r5, hevd]
        refine condS_if (fun hk => ?_) (fun hk => ?_)
        · have hk' : k < l.length := by omega
          obtain ⟨t0, t1, t2, t3⟩ := hT _ (getD_mem hk')
          have hok2 := okD_end hok k hk'
          obtain ⟨F, hf⟩ := Int.eq_ofNat_of_zero_le t0
          obtain ⟨T, ht⟩ := Int.eq_ofNat_of_zero_le (show 0 ≤ (l.getD k default).t by omega)
          simp (disch := omega) only [go_sem, ne_eq, not_true_eq_false, not_false_eq_true, ↓reduceIte, Nat.reduceEqDiff, Nat.reduceAdd, Nat.reduceLeDiff, Int.toNat_natCast, Int.reduceToNat, and_self, Bool.not_true, Bool.not_false, Bool.false_and, Bool.and_false, Bool.true_and, Bool.and_true, a6d6, hevd, hf, ht]
          refine dS_app (α := Edit) (bytes := 32) (l := sm b (l.take k)) (new := [⟨(F : Int), (T : Int), (b.take T).drop F⟩]) (by exact g3) (adds_one (α := Edit) _ _ _ true rfl) rfl (by simp [two47, sm]; omega) (fun v' h' hr hn ho' hfr => ?_)
          have hevd' : ∀ i, evS i (some v') = some v' := fun i => by rcases hr with ⟨rfl, -⟩ | ⟨o, ep, rfl, -⟩ <;> rfl
          have hn' : h'.next = h.next + 1 := hn
          simp (disch := omega) only [go_sem, ne_eq, not_true_eq_false, not_false_eq_true, ↓reduceIte, Nat.reduceEqDiff, Nat.reduceAdd, Nat.reduceLeDiff, Int.toNat_natCast, Int.reduceToNat, and_self, Bool.not_true, Bool.not_false, Bool.false_and, Bool.and_false, Bool.true_and, Bool.and_true, hevd', a6r7]
          have e1 : sm b (l.take k) ++ [⟨(F : Int), (T : Int), (b.take T).drop F⟩] = sm b (l.take (k + 1)) := by
            have e : l.getD k default = l[k] := by simp [List.getD_eq_getElem?_getD, hk']
            rw [List.take_succ_eq_append_getElem hk', sm, sm, List.map_append, ← e]
            simp only [List.map_cons, List.map_nil, hf, ht, Int.toNat_natCast]
          rw [e1] at hr
          refine ⟨(_, k + 1, v', h'), ⟨by simp only; omega, hr, fun o h1 => ?_⟩, by simp only; omega, rfl⟩
          simp only at h1
          rcases ho' with h2 | h2
          · rw [h2] at h1; have := g4 o h1; simp only; omega
          · rw [h2] at h1; cases h1; simp only; omega
        · have e0 : k = l.length := by omega
          rw [List.take_of_length_le (by omega)] at g3
          have hsx : ∀ e ∈ sm b l, e.x.length ≤ 500 := fun e he => by
            obtain ⟨a, ha, rfl⟩ := List.mem_map.1 he
            simp only [List.length_drop, List.length_take]; omega
          have hsl : (sm b l).length = l.length := by simp only [sm, List.length_map]
          have hsc : chkE b.length (sm b l) = 0 := by rw [sm_chkE]; exact hc0
          have hsok := (chkE_zero hsc).2
          have hsa := sm_app l 0 hok
          rw [List.drop_zero] at hsa
          have hdat : datW (some v) = some v := by rcases g3 with ⟨rfl, -⟩ | ⟨o, ep, rfl, -⟩ <;> rfl
          obtain ⟨nl, hfz⟩ := g3.back (N := 0) (fun _ _ => Nat.zero_le _) 39
          simp (disch := omega) only [go_sem, ne_eq, not_true_eq_false, not_false_eq_true, ↓reduceIte, Nat.reduceEqDiff, Nat.reduceAdd, Nat.reduceLeDiff, Int.toNat_natCast, Int.reduceToNat, and_self, Bool.not_true, Bool.not_false, Bool.false_and, Bool.and_false, Bool.true_and, Bool.and_true, a6r8, hevd]
          refine WO.fun (vs := [slv n1 f1 b, v]) (by simp (disch := omega) only [go_sem, ne_eq, not_true_eq_false, not_false_eq_true, ↓reduceIte, Nat.reduceEqDiff, Nat.reduceAdd, Nat.reduceLeDiff, Int.toNat_natCast, Int.reduceToNat, and_self, Bool.not_true, Bool.not_false, Bool.false_and, Bool.and_false, Bool.true_and, Bool.and_true, hevd, hdat]) (apply_fun hP _ _ _ (frz_slv _ _ _ _ _ _) hfz (by omega) (by omega) (by rw [hsa]; omega)) ?_
          rintro v1 h1 ⟨rfl, rfl⟩
          unfold applyV
          rw [if_pos hsc, hsa]
          simp (disch := omega) only [go_sem, ne_eq, not_true_eq_false, not_false_eq_true, ↓reduceIte, Nat.reduceEqDiff, Nat.reduceAdd, Nat.reduceLeDiff, Int.toNat_natCast, Int.reduceToNat, and_self, Bool.not_true, Bool.not_false, Bool.false_and, Bool.and_false, Bool.true_and, Bool.and_true, a6r9, hevd]
          refine WO.fun (vs := [slv n1 f1 b, .nils]) (by simp (disch := omega) only [go_sem, ne_eq, not_true_eq_false, not_false_eq_true, ↓reduceIte, Nat.reduceEqDiff, Nat.reduceAdd, Nat.reduceLeDiff, Int.toNat_natCast, Int.reduceToNat, and_self, Bool.not_true, Bool.not_false, Bool.false_and, Bool.and_false, Bool.true_and, Bool.and_true, hevd]) (apply_fun hP _ _ .nils (n2 := true) (f2 := false) (l := []) (frz_slv _ _ _ _ _ _) rfl (by omega) (by simp) (by simp only [appD, List.drop_zero]; omega)) ?_
          rintro v1 h1 ⟨rfl, rfl⟩
          have hn0 : chkE b.length [] = 0 := rfl
          unfold applyV
          rw [if_pos hn0]
          simp (disch := omega) only [go_sem, ne_eq, not_true_eq_false, not_false_eq_true, ↓reduceIte, Nat.reduceEqDiff, Nat.reduceAdd, Nat.reduceLeDiff, Int.toNat_natCast, Int.reduceToNat, and_self, Bool.not_true, Bool.not_false, Bool.false_and, Bool.and_false, Bool.true_and, Bool.and_true, a6r10, hevd]
          refine WO.fun (vs := [slv n1 f1 b, v]) (by simp (disch := omega) only [go_sem, ne_eq, not_true_eq_false, not_false_eq_true, ↓reduceIte, Nat.reduceEqDiff, Nat.reduceAdd, Nat.reduceLeDiff, Int.toNat_natCast, Int.reduceToNat, and_self, Bool.not_true, Bool.not_false, Bool.false_and, Bool.and_false, Bool.true_and, Bool.and_true, hevd, hdat]) (back_row hP.toSpP b (sm b l) n1 f1 v _ g3 g4 h17 (by omega) (by omega) (fun e he => by have := hsx e he; omega) hsc) ?_
          rintro v1 h3 ⟨z, rfl, hz, hv⟩
          rw [sm_bak l 0 hok] at hz
          have hevz : ∀ i, evS i (some z) = some z := fun i => by rcases hz with ⟨rfl, -⟩ | ⟨o, ep, rfl, -⟩ <;> rfl
          have hdaz : datW (some z) = some z := by rcases hz with ⟨rfl, -⟩ | ⟨o, ep, rfl, -⟩ <;> rfl
          obtain ⟨nz, hfzz⟩ := hz.back (N := 0) (fun _ _ => Nat.zero_le _) 39
          obtain ⟨nv, hfzv⟩ := hv.back (N := 0) (fun _ _ => Nat.zero_le _) 39
          have happ0 : appD b 0 [] = b := rfl
          have hTs : ∀ e ∈ sm b l, Tame e := fun e he => by
            obtain ⟨a, ha, rfl⟩ := List.mem_map.1 he
            obtain ⟨u1, u2, u3, u4⟩ := hT a ha
            exact ⟨u1, u2, u3, by simp only [List.length_drop, List.length_take]; omega⟩
          simp (disch := omega) only [go_sem, ne_eq, not_true_eq_false, not_false_eq_true, ↓reduceIte, Nat.reduceEqDiff, Nat.reduceAdd, Nat.reduceLeDiff, Int.toNat_natCast, Int.reduceToNat, and_self, Bool.not_true, Bool.not_false, Bool.false_and, Bool.and_false, Bool.true_and, Bool.and_true, hevd, hevz, happ0, a6r11]
          refine Wp_loop (fun x : Nat × Nat => x.2 ≤ b.length) (fun (t, i) => { fr := [(0, slv n1 f1 b), (5, v), (7, slv false false b), (8, .int .i64 0), (9, slv false false b), (10, .int .i64 0), (11, z), (12, .int .i64 0), (13, .int .i64 i)], st := t, h := h3 }) (fun x => b.length - x.2) (t, 0) rfl (by simp) ?_
          rintro ⟨t, i⟩ q1
          simp only at q1
          simp (disch := omega) only [go_sem, ne_eq, not_true_eq_false, not_false_eq_true, ↓reduceIte, Nat.reduceEqDiff, Nat.reduceAdd, Nat.reduceLeDiff, Int.toNat_natCast, Int.reduceToNat, and_self, Bool.not_true, Bool.not_false, Bool.false_and, Bool.and_false, Bool.true_and, Bool.and_true, a6l1, a6r12, hevd, hevz]
          refine condS_if (fun hk => ?_) (fun hk => ?_)
          · have e3 : (i : Int) + mor i (sm b l) = i := by rw [sm_mor i l 0 hok]; omega
            simp (disch := omega) only [go_sem, ne_eq, not_true_eq_false, not_false_eq_true, ↓reduceIte, Nat.reduceEqDiff, Nat.reduceAdd, Nat.reduceLeDiff, Int.toNat_natCast, Int.reduceToNat, and_self, Bool.not_true, Bool.not_false, Bool.false_and, Bool.and_false, Bool.true_and, Bool.and_true, a6r13, hevd, hevz]
            refine WO.den (k := 1) (vs := [v, .int .i64 i]) (by rw [hP.pure _ (by decide)]; rfl) (by simp (disch := omega) only [go_sem, ne_eq, not_true_eq_false, not_false_eq_true, ↓reduceIte, Nat.reduceEqDiff, Nat.reduceAdd, Nat.reduceLeDiff, Int.toNat_natCast, Int.reduceToNat, and_self, Bool.not_true, Bool.not_false, Bool.false_and, Bool.and_false, Bool.true_and, Bool.and_true, hevd, hdat]) (by simp only [lent_11, List.map_cons, List.map_nil, hfzv, frz_int]; exact place_den hP.toSpP (sm b l) nv false i (by omega) (by omega) hTs) (fun v hv => by subst hv; simp (disch := omega) only [go_sem, ne_eq, not_true_eq_false, not_false_eq_true, ↓reduceIte, Nat.reduceEqDiff, Nat.reduceAdd, Nat.reduceLeDiff, Int.toNat_natCast, Int.reduceToNat, and_self, Bool.not_true, Bool.not_false, Bool.false_and, Bool.and_false, Bool.true_and, Bool.and_true]) (fun v hv => ?_)
            subst hv
            rw [e3]
            simp (disch := omega) only [go_sem, ne_eq, not_true_eq_false, not_false_eq_true, ↓reduceIte, Nat.reduceEqDiff, Nat.reduceAdd, Nat.reduceLeDiff, Int.toNat_natCast, Int.reduceToNat, and_self, Bool.not_true, Bool.not_false, Bool.false_and, Bool.and_false, Bool.true_and, Bool.and_true, decide_false, a6r15, hevd, hevz]
            exact ⟨(_, i + 1), by simp only; omega, by simp only; omega, rfl⟩
          · simp (disch := omega) only [go_sem, ne_eq, not_true_eq_false, not_false_eq_true, ↓reduceIte, Nat.reduceEqDiff, Nat.reduceAdd, Nat.reduceLeDiff, Int.toNat_natCast, Int.reduceToNat, and_self, Bool.not_true, Bool.not_false, Bool.false_and, Bool.and_false, Bool.true_and, Bool.and_true, a6r16, hevd, hevz]
            refine WO.den (k := 1) (vs := [z, v]) (by rw [hP.pure _ (by decide)]; rfl) (by simp (disch := omega) only [go_sem, ne_eq, not_true_eq_false, not_false_eq_true, ↓reduceIte, Nat.reduceEqDiff, Nat.reduceAdd, Nat.reduceLeDiff, Int.toNat_natCast, Int.reduceToNat, and_self, Bool.not_true, Bool.not_false, Bool.false_and, Bool.and_false, Bool.true_and, Bool.and_true, hevd, hdat, hevz, hdaz]) (by simp only [lent_11, List.map_cons, List.map_nil, hfzv, hfzz]; exact esame_den hP.toSpP (sm b l) nz false nv false (by omega)) (fun v hv => by subst hv; simp (disch := omega) only [go_sem, ne_eq, not_true_eq_false, not_false_eq_true, ↓reduceIte, Nat.reduceEqDiff, Nat.reduceAdd, Nat.reduceLeDiff, Int.toNat_natCast, Int.reduceToNat, and_self, Bool.not_true, Bool.not_false, Bool.false_and, Bool.and_false, Bool.true_and, Bool.and_true]) (fun v hv => ?_)
            subst hv
            simp (disch := omega) only [go_sem, ne_eq, not_true_eq_false, not_false_eq_true, ↓reduceIte, Nat.reduceEqDiff, Nat.reduceAdd, Nat.reduceLeDiff, Int.toNat_natCast, Int.reduceToNat, and_self, Bool.not_true, Bool.not_false, Bool.false_and, Bool.and_false, Bool.true_and, Bool.and_true]
            refine WO.den (k := 1) (vs := []) (by rw [hP.pure _ (by decide)]; rfl) (by simp (disch := omega) only [go_sem, ne_eq, not_true_eq_false, not_false_eq_true, ↓reduceIte, Nat.reduceEqDiff, Nat.reduceAdd, Nat.reduceLeDiff, Int.toNat_natCast, Int.reduceToNat, and_self, Bool.not_true, Bool.not_false, Bool.false_and, Bool.and_false, Bool.true_and, Bool.and_true]) (awake_den hP) (fun v hv => awake_ok _ _ hv) (fun v hv => ?_)
            subst hv
            simp (disch := omega) only [go_sem, ne_eq, not_true_eq_false, not_false_eq_true, ↓reduceIte, Nat.reduceEqDiff, Nat.reduceAdd, Nat.reduceLeDiff, Int.toNat_natCast, Int.reduceToNat, and_self, Bool.not_true, Bool.not_false, Bool.false_and, Bool.and_false, Bool.true_and, Bool.and_true]
  · simp (disch := omega) only [go_sem, ne_eq, not_true_eq_false, not_false_eq_true, ↓reduceIte, Nat.reduceEqDiff, Nat.reduceAdd, Nat.reduceLeDiff, Int.toNat_natCast, Int.reduceToNat, and_self, Bool.not_true, Bool.not_false, Bool.false_and, Bool.and_false, Bool.true_and, Bool.and_true, a6r2]
    refine WO.den (k := 1) (vs := []) (by rw [hP.pure _ (by decide)]; rfl) (by simp (disch := omega) only [go_sem, ne_eq, not_true_eq_false, not_false_eq_true, ↓reduceIte, Nat.reduceEqDiff, Nat.reduceAdd, Nat.reduceLeDiff, Int.toNat_natCast, Int.reduceToNat, and_self, Bool.not_true, Bool.not_false, Bool.false_and, Bool.and_false, Bool.true_and, Bool.and_true]) (awake_den hP) (fun v hv => awake_ok _ _ hv) (fun v hv => ?_)
    subst hv
    simp (disch := omega) only [go_sem, ne_eq, not_true_eq_false, not_false_eq_true, ↓reduceIte, Nat.reduceEqDiff, Nat.reduceAdd, Nat.reduceLeDiff, Int.toNat_natCast, Int.reduceToNat, and_self, Bool.not_true, Bool.not_false, Bool.false_and, Bool.and_false, Bool.true_and, Bool.and_true]
end Go.Am.Sp

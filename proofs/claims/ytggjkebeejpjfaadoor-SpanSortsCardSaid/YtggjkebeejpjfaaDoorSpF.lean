/- SpanPlaces, in plain Lean. -/
import Derived.Test.YtggjkebeejpjfaaDoorSpE
set_option linter.unusedSimpArgs false
set_option linter.unusedVariables false
namespace Go.Am.Sp
open Go.Am
variable {P : Prog}
set_option maxRecDepth 20000
set_option maxHeartbeats 1000000
/-- By how much a place goes. -/
def mor (i : Int) : List Edit → Int
  | [] => 0
  | e :: r => (if e.t ≤ i then (e.x.length : Int) - (e.t - e.f) else 0) + mor i r
def Tame (e : Edit) : Prop := 0 ≤ e.f ∧ e.f ≤ e.t ∧ e.t ≤ 1000000 ∧ e.x.length ≤ 1000000
theorem getD_mem {l : List Edit} {k : Nat} (h : k < l.length) : l.getD k default ∈ l := by
  have e : l.getD k default = l[k] := by simp [List.getD_eq_getElem?_getD, h]
  rw [e]; exact List.getElem_mem _
theorem getD_drop {l : List Edit} {k : Nat} (h : k < l.length) : l.drop k = l.getD k default :: l.drop (k + 1) := by
  have e : l.getD k default = l[k] := by simp [List.getD_eq_getElem?_getD, h]
  rw [e]; exact List.drop_eq_getElem_cons h
theorem mor_bound (i : Int) : ∀ (l : List Edit), (∀ e ∈ l, Tame e) → -(1000000 * (l.length : Int)) ≤ mor i l ∧ mor i l ≤ 1000000 * (l.length : Int)
  | [], _ => by simp [mor]
  | e :: r, h => by
    have h1 := mor_bound i r (fun e he => h e (by simp [he]))
    have h2 := h e (by simp)
    simp only [mor, List.length_cons]
    obtain ⟨a, b, c, d⟩ := h2
    split <;> omega
theorem place_den (hP : SpP P) (l : List Edit) (nl full : Bool) (i : Int) (hl : l.length ≤ 1000000) (hi : 0 ≤ i ∧ i ≤ 1000000) (hT : ∀ e ∈ l, Tame e) : Den P 16 [slv nl full l, .int .i64 i] (fun v => v = .int .i64 (i + mor i l)) := by
  refine Den.of (code := a16c) (by rw [hP.fn]; rfl) (fun N => ?_)
  simp (disch := omega) only [go_sem, ne_eq, not_true_eq_false, not_false_eq_true, ↓reduceIte, Nat.reduceEqDiff, Nat.reduceAdd, Nat.reduceLeDiff, Int.toNat_natCast, Int.reduceToNat, and_self, Bool.not_true, Bool.not_false, Bool.false_and, Bool.and_false, Bool.true_and, Bool.and_true, a16c, a16r0, a16r1, a16r2]
  refine Wp_loop (fun x : Nat × Nat × Int => x.2.1 ≤ l.length ∧ x.2.2 + mor i (l.drop x.2.1) = mor i l) (fun (t, k, m) => { fr := [(1, .int .i64 i), (5, .int .i64 m), (8, slv nl full l), (9, .int .i64 l.length), (10, .int .i64 k)], st := t, h := { next := N, m := .leaf } }) (fun x => l.length - x.2.1) (0, 0, 0) rfl ⟨by simp, by simp⟩ ?_
  rintro ⟨t, k, m⟩ ⟨h1, h2⟩
  simp only at h1 h2
  have hb := mor_bound i l hT
  have hb2 := mor_bound i (l.drop k) (fun e he => hT e (List.mem_of_mem_drop he))
  rw [List.length_drop] at hb2
  have hm : -2000000000000 ≤ m ∧ m ≤ 2000000000000 := by omega
  simp (disch := omega) only [go_sem, ne_eq, not_true_eq_false, not_false_eq_true, ↓reduceIte, Nat.reduceEqDiff, Nat.reduceAdd, Nat.reduceLeDiff, Int.toNat_natCast, Int.reduceToNat, and_self, Bool.not_true, Bool.not_false, Bool.false_and, Bool.and_false, Bool.true_and, Bool.and_true, a16l0, a16r3]
  refine condS_if (fun hk => ?_) (fun hk => ?_)
  · have hk' : k < l.length := by omega
    obtain ⟨t0, t1, t2, t3⟩ := hT _ (getD_mem hk')
    rw [getD_drop hk'] at h2
    simp only [mor] at h2
    simp (disch := omega) only [go_sem, ne_eq, not_true_eq_false, not_false_eq_true, ↓reduceIte, Nat.reduceEqDiff, Nat.reduceAdd, Nat.reduceLeDiff, Int.toNat_natCast, Int.reduceToNat, and_self, Bool.not_true, Bool.not_false, Bool.false_and, Bool.and_false, Bool.true_and, Bool.and_true, a16r4, a16r5]
    refine condS_if (fun c1 => ?_) (fun c1 => ?_)
    · simp (disch := omega) only [go_sem, ne_eq, not_true_eq_false, not_false_eq_true, ↓reduceIte, Nat.reduceEqDiff, Nat.reduceAdd, Nat.reduceLeDiff, Int.toNat_natCast, Int.reduceToNat, and_self, Bool.not_true, Bool.not_false, Bool.false_and, Bool.and_false, Bool.true_and, Bool.and_true, a16r6, a16r7]
      rw [if_pos c1] at h2
      exact ⟨(_, k + 1, _), ⟨by simp only; omega, by simp only; omega⟩, by simp only; omega, rfl⟩
    · simp (disch := omega) only [go_sem, ne_eq, not_true_eq_false, not_false_eq_true, ↓reduceIte, Nat.reduceEqDiff, Nat.reduceAdd, Nat.reduceLeDiff, Int.toNat_natCast, Int.reduceToNat, and_self, Bool.not_true, Bool.not_false, Bool.false_and, Bool.and_false, Bool.true_and, Bool.and_true, a16r7]
      rw [if_neg c1] at h2
      exact ⟨(_, k + 1, _), ⟨by simp only; omega, by simp only; omega⟩, by simp only; omega, rfl⟩
  · simp (disch := omega) only [go_sem, ne_eq, not_true_eq_false, not_false_eq_true, ↓reduceIte, Nat.reduceEqDiff, Nat.reduceAdd, Nat.reduceLeDiff, Int.toNat_natCast, Int.reduceToNat, and_self, Bool.not_true, Bool.not_false, Bool.false_and, Bool.and_false, Bool.true_and, Bool.and_true, a16r8]
    rw [List.drop_of_length_le (by omega)] at h2
    simp only [mor] at h2
    rw [show m = mor i l by omega]
/-- Is a place taken by an edit? -/
def takenB (i : Int) : List Edit → Bool
  | [] => false
  | e :: r => (decide (e.f ≤ i) && decide (i < e.t)) || takenB i r
theorem mor_far {n : Nat} {i : Int} : ∀ (l : List Edit) (m : Nat), okD n m l → i < m → mor i l = 0
  | [], _, _, _ => rfl
  | e :: r, m, h, hi => by
    obtain ⟨h1, h2, h3, h4⟩ := h
    simp only [mor, if_neg (show ¬ e.t ≤ i by omega), mor_far r _ h4 (show i < (e.t.toNat : Int) by omega), Int.add_zero]
theorem place_ge {n : Nat} {j : Int} : ∀ (l : List Edit) (m : Nat), okD n m l → m ≤ j → takenB j l = false → m ≤ j + mor j l
  | [], m, _, hj, _ => by simp only [mor]; omega
  | e :: r, m, h, hj, ht => by
    obtain ⟨h1, h2, h3, h4⟩ := h
    simp only [takenB, Bool.or_eq_false_iff, Bool.and_eq_false_iff, decide_eq_false_iff_not] at ht
    by_cases c : j < e.f
    · simp only [mor, if_neg (show ¬ e.t ≤ j by omega), mor_far r _ h4 (show j < (e.t.toNat : Int) by omega)]; omega
    · have := place_ge r e.t.toNat h4 (by omega) ht.2
      simp only [mor, if_pos (show e.t ≤ j by omega)]
      omega
theorem place_mono {n : Nat} {i j : Int} (hij : i < j) : ∀ (l : List Edit) (m : Nat), okD n m l → m ≤ i → takenB i l = false → takenB j l = false → i + mor i l < j + mor j l
  | [], m, _, _, _, _ => by simp only [mor]; omega
  | e :: r, m, h, hm, hi, hj => by
    obtain ⟨h1, h2, h3, h4⟩ := h
    simp only [takenB, Bool.or_eq_false_iff, Bool.and_eq_false_iff, decide_eq_false_iff_not] at hi hj
    by_cases c : i < e.f
    · have e1 : mor i (e :: r) = 0 := by simp only [mor, if_neg (show ¬ e.t ≤ i by omega), mor_far r _ h4 (show i < (e.t.toNat : Int) by omega), Int.add_zero]
      rw [e1]
      by_cases c2 : j < e.f
      · simp only [mor, if_neg (show ¬ e.t ≤ j by omega), mor_far r _ h4 (show j < (e.t.toNat : Int) by omega)]; omega
      · have := place_ge r e.t.toNat h4 (show (e.t.toNat : Int) ≤ j by omega) hj.2
        simp only [mor, if_pos (show e.t ≤ j by omega)]
        omega
    · have := place_mono hij r e.t.toNat h4 (by omega) hi.2 hj.2
      simp only [mor, if_pos (show e.t ≤ i by omega), if_pos (show e.t ≤ j by omega)]
      omega
theorem place_at {b : List UInt8} {i : Nat} (hi : i < b.length) : ∀ (l : List Edit) (m : Nat), okD b.length m l → m ≤ i → takenB i l = false → ∃ q : Nat, (q : Int) = i + mor i l - m ∧ (appD b m l)[q]? = some (b.getD i 0)
  | [], m, _, hm, _ => by
    refine ⟨i - m, by simp only [mor]; omega, ?_⟩
    simp only [appD, List.getElem?_drop, show m + (i - m) = i by omega]
    simp [List.getD_eq_getElem?_getD, hi]
  | e :: r, m, h, hm, ht => by
    obtain ⟨h1, h2, h3, h4⟩ := h
    simp only [takenB, Bool.or_eq_false_iff, Bool.and_eq_false_iff, decide_eq_false_iff_not] at ht
    have hl0 : ((b.take e.f.toNat).drop m).length = e.f.toNat - m := by rw [List.length_drop, List.length_take]; omega
    by_cases c : (i : Int) < e.f
    · refine ⟨i - m, ?_, ?_⟩
      · simp only [mor, if_neg (show ¬ e.t ≤ (i : Int) by omega), mor_far r _ h4 (show (i : Int) < (e.t.toNat : Int) by omega)]; omega
      · simp only [appD, List.append_assoc]
        rw [List.getElem?_append_left (by omega), List.getElem?_drop, show m + (i - m) = i by omega, List.getElem?_take, if_pos (by omega)]
        simp [List.getD_eq_getElem?_getD, hi]
    · obtain ⟨q, e1, e2⟩ := place_at hi r e.t.toNat h4 (by omega) ht.2
      refine ⟨(e.f.toNat - m) + e.x.length + q, ?_, ?_⟩
      · simp only [mor, if_pos (show e.t ≤ (i : Int) by omega)]; omega
      · simp only [appD]
        rw [List.getElem?_append_right (by rw [List.length_append]; omega), List.length_append, hl0]
        rw [show e.f.toNat - m + e.x.length + q - (e.f.toNat - m + e.x.length) = q by omega]
        exact e2
theorem tame_of {n : Nat} : ∀ (l : List Edit) (m : Nat), okD n m l → n ≤ 1000000 → (∀ e ∈ l, e.x.length ≤ 200) → ∀ e ∈ l, Tame e
  | [], _, _, _, _ => by simp
  | e :: r, m, h, hn, hx => by
    obtain ⟨h1, h2, h3, h4⟩ := h
    intro y hy
    rcases List.mem_cons.1 hy with rfl | hy
    · have := hx y (by simp)
      exact ⟨by omega, h2, by omega, by omega⟩
    · exact tame_of r _ h4 hn (fun z hz => hx z (by simp [hz])) y hy
/-- The law of the second row. -/
theorem places_fun (hP : SpA P) (b : List UInt8) (l : List Edit) (n1 f1 n2 f2 : Bool) (hb : b.length ≤ 9223372036854775807) (hl : l.length ≤ 9223372036854775807) (hx : ∀ e ∈ l, e.x.length ≤ 9223372036854775807) (h : Heap) :
    Fun P 4 [slv n1 f1 b, slv n2 f2 l] h (fun v _ => v = .bool true) := by
  refine Fun.of (code := a4c) (by rw [hP.fn]; rfl) (by rw [hP.pure _ (by decide)]; rfl) ?_
  simp (disch := omega) only [go_sem, ne_eq, not_true_eq_false, not_false_eq_true, ↓reduceIte, Nat.reduceEqDiff, Nat.reduceAdd, Nat.reduceLeDiff, Int.toNat_natCast, Int.reduceToNat, and_self, Bool.not_true, Bool.not_false, Bool.false_and, Bool.and_false, Bool.true_and, Bool.and_true, a4c, a4r0, a4r1]
  refine guardS_pf (fun c1 d1 => ?_) (fun c1 d1 => ?_) <;> simp (disch := omega) only [go_sem, ne_eq, not_true_eq_false, not_false_eq_true, ↓reduceIte, Nat.reduceEqDiff, Nat.reduceAdd, Nat.reduceLeDiff, Int.toNat_natCast, Int.reduceToNat, and_self, Bool.not_true, Bool.not_false, Bool.false_and, Bool.and_false, Bool.true_and, Bool.and_true, d1]
  · have hb5 : b.length ≤ 500 := by omega
    refine WO.den (k := 1) (vs := [slv n2 f2 l]) (by rw [hP.pure _ (by decide)]; rfl) (by simp (disch := omega) only [go_sem, ne_eq, not_true_eq_false, not_false_eq_true, ↓reduceIte, Nat.reduceEqDiff, Nat.reduceAdd, Nat.reduceLeDiff, Int.toNat_natCast, Int.reduceToNat, and_self, Bool.not_true, Bool.not_false, Bool.false_and, Bool.and_false, Bool.true_and, Bool.and_true]) (by simp only [lent_11, List.map_cons, List.map_nil, frz_slv]; exact great_den hP.toSpP l n2 f2 hl hx) (fun v hv => by obtain ⟨q, rfl, -⟩ := hv; simp (disch := omega) only [go_sem, ne_eq, not_true_eq_false, not_false_eq_true, ↓reduceIte, Nat.reduceEqDiff, Nat.reduceAdd, Nat.reduceLeDiff, Int.toNat_natCast, Int.reduceToNat, and_self, Bool.not_true, Bool.not_false, Bool.false_and, Bool.and_false, Bool.true_and, Bool.and_true]) (fun v hv => ?_)
    obtain ⟨gb, rfl, hg⟩ := hv
    simp (disch := omega) only [go_sem, ne_eq, not_true_eq_false, not_false_eq_true, ↓reduceIte, Nat.reduceEqDiff, Nat.reduceAdd, Nat.reduceLeDiff, Int.toNat_natCast, Int.reduceToNat, and_self, Bool.not_true, Bool.not_false, Bool.false_and, Bool.and_false, Bool.true_and, Bool.and_true]
    cases gb with
    | true =>
      simp (disch := omega) only [go_sem, ne_eq, not_true_eq_false, not_false_eq_true, ↓reduceIte, Nat.reduceEqDiff, Nat.reduceAdd, Nat.reduceLeDiff, Int.toNat_natCast, Int.reduceToNat, and_self, Bool.not_true, Bool.not_false, Bool.false_and, Bool.and_false, Bool.true_and, Bool.and_true, a4r2]
      refine WO.den (k := 1) (vs := []) (by rw [hP.pure _ (by decide)]; rfl) (by simp (disch := omega) only [go_sem, ne_eq, not_true_eq_false, not_false_eq_true, ↓reduceIte, Nat.reduceEqDiff, Nat.reduceAdd, Nat.reduceLeDiff, Int.toNat_natCast, Int.reduceToNat, and_self, Bool.not_true, Bool.not_false, Bool.false_and, Bool.and_false, Bool.true_and, Bool.and_true]) (awake_den hP) (fun v hv => awake_ok _ _ hv) (fun v hv => ?_)
      subst hv
      simp (disch := omega) only [go_sem, ne_eq, not_true_eq_false, not_false_eq_true, ↓reduceIte, Nat.reduceEqDiff, Nat.reduceAdd, Nat.reduceLeDiff, Int.toNat_natCast, Int.reduceToNat, and_self, Bool.not_true, Bool.not_false, Bool.false_and, Bool.and_false, Bool.true_and, Bool.and_true]
    | false =>
      obtain ⟨hl6, hx2⟩ := hg rfl
      have hlim := appD_le b 200 l 0 hx2
      have hlim2 : (b.length + 200) * (l.length + 1) ≤ 700 * 601 := Nat.mul_le_mul (by omega) (by omega)
      have chk1 : ∀ h2, Den P 12 (lent (1 + 1) h2 [.int .i64 b.length, slv n2 f2 l]) (fun v => v = .int .i64 (chkE b.length l)) := fun h2 => by
        simp only [lent_11, List.map_cons, List.map_nil, frz_slv, frz_int]; exact refcheck_den hP.toSpP _ l n2 f2 hl
      simp (disch := omega) only [go_sem, ne_eq, not_true_eq_false, not_false_eq_true, ↓reduceIte, Nat.reduceEqDiff, Nat.reduceAdd, Nat.reduceLeDiff, Int.toNat_natCast, Int.reduceToNat, and_self, Bool.not_true, Bool.not_false, Bool.false_and, Bool.and_false, Bool.true_and, Bool.and_true]
      refine WO.den (k := 1) (vs := [.int .i64 b.length, slv n2 f2 l]) (by rw [hP.pure _ (by decide)]; rfl) (by simp (disch := omega) only [go_sem, ne_eq, not_true_eq_false, not_false_eq_true, ↓reduceIte, Nat.reduceEqDiff, Nat.reduceAdd, Nat.reduceLeDiff, Int.toNat_natCast, Int.reduceToNat, and_self, Bool.not_true, Bool.not_false, Bool.false_and, Bool.and_false, Bool.true_and, Bool.and_true]) (chk1 _) (fun v hv => by subst hv; simp (disch := omega) only [go_sem, ne_eq, not_true_eq_false, not_false_eq_true, ↓reduceIte, Nat.reduceEqDiff, Nat.reduceAdd, Nat.reduceLeDiff, Int.toNat_natCast, Int.reduceToNat, and_self, Bool.not_true, Bool.not_false, Bool.false_and, Bool.and_false, Bool.true_and, Bool.and_true]) (fun v hv => ?_)
      subst hv
      simp (disch := omega) only [go_sem, ne_eq, not_true_eq_false, not_false_eq_true, ↓reduceIte, Nat.reduceEqDiff, Nat.reduceAdd, Nat.reduceLeDiff, Int.toNat_natCast, Int.reduceToNat, and_self, Bool.not_true, Bool.not_false, Bool.false_and, Bool.and_false, Bool.true_and, Bool.and_true]
      refine condS_split (fun hc => ?_) (fun hc => ?_)
      · simp (disch := omega) only [go_sem, ne_eq, not_true_eq_false, not_false_eq_true, ↓reduceIte, Nat.reduceEqDiff, Nat.reduceAdd, Nat.reduceLeDiff, Int.toNat_natCast, Int.reduceToNat, and_self, Bool.not_true, Bool.not_false, Bool.false_and, Bool.and_false, Bool.true_and, Bool.and_true, a4r2]
        refine WO.den (k := 1) (vs := []) (by rw [hP.pure _ (by decide)]; rfl) (by simp (disch := omega) only [go_sem, ne_eq, not_true_eq_false, not_false_eq_true, ↓reduceIte, Nat.reduceEqDiff, Nat.reduceAdd, Nat.reduceLeDiff, Int.toNat_natCast, Int.reduceToNat, and_self, Bool.not_true, Bool.not_false, Bool.false_and, Bool.and_false, Bool.true_and, Bool.and_true]) (awake_den hP) (fun v hv => awake_ok _ _ hv) (fun v hv => ?_)
        subst hv
        simp (disch := omega) only [go_sem, ne_eq, not_true_eq_false, not_false_eq_true, ↓reduceIte, Nat.reduceEqDiff, Nat.reduceAdd, Nat.reduceLeDiff, Int.toNat_natCast, Int.reduceToNat, and_self, Bool.not_true, Bool.not_false, Bool.false_and, Bool.and_false, Bool.true_and, Bool.and_true]
      · have hc0 : chkE b.length l = 0 := by simpa using hc
        have hok := (chkE_zero hc0).2
        have hT := tame_of l 0 hok (by omega) hx2
        simp (disch := omega) only [go_sem, ne_eq, not_true_eq_false, not_false_eq_true, ↓reduceIte, Nat.reduceEqDiff, Nat.reduceAdd, Nat.reduceLeDiff, Int.toNat_natCast, Int.reduceToNat, and_self, Bool.not_true, Bool.not_false, Bool.false_and, Bool.and_false, Bool.true_and, Bool.and_true, a4r3]
        refine WO.fun (vs := [slv n1 f1 b, slv n2 f2 l]) (by simp (disch := omega) only [go_sem, ne_eq, not_true_eq_false, not_false_eq_true, ↓reduceIte, Nat.reduceEqDiff, Nat.reduceAdd, Nat.reduceLeDiff, Int.toNat_natCast, Int.reduceToNat, and_self, Bool.not_true, Bool.not_false, Bool.false_and, Bool.and_false, Bool.true_and, Bool.and_true]) (apply_fun hP _ _ _ (frz_slv _ _ _ _ _ _) (frz_slv _ _ _ _ _ _) (by omega) (by omega) (by omega)) ?_
        rintro v h2 ⟨rfl, rfl⟩
        unfold applyV
        rw [if_pos hc0]
        have hm : ∀ i : Nat, i < b.length → takenB i l = false → (i : Int) + mor i l ≤ 1000000000 := fun i _ _ => by
          have := mor_bound (i : Int) l hT
          omega
        simp (disch := omega) only [go_sem, ne_eq, not_true_eq_false, not_false_eq_true, ↓reduceIte, Nat.reduceEqDiff, Nat.reduceAdd, Nat.reduceLeDiff, Int.toNat_natCast, Int.reduceToNat, and_self, Bool.not_true, Bool.not_false, Bool.false_and, Bool.and_false, Bool.true_and, Bool.and_true, a4r4, a4r6, a4r7]
        refine Wp_loop (fun x : Nat × Nat × Int => x.2.1 ≤ b.length ∧ (-1 ≤ x.2.2 ∧ x.2.2 ≤ 1000000000000) ∧ ∀ j : Nat, x.2.1 ≤ j → takenB j l = false → x.2.2 < j + mor j l) (fun (t, i, last) => { fr := [(0, slv n1 f1 b), (1, slv n2 f2 l), (5, slv false false (appD b 0 l)), (7, .int .i64 last), (8, .int .i64 i)], st := t, h := h2 }) (fun x => b.length - x.2.1) (0, 0, -1) rfl ⟨by simp, ⟨by decide, by decide⟩, fun j _ hj => by have := place_ge l 0 hok (j := (j : Int)) (by omega) hj; simp only; omega⟩ ?_
        rintro ⟨t, i, last⟩ ⟨h1, h4, h3⟩
        simp only at h1 h3 h4
        simp (disch := omega) only [go_sem, ne_eq, not_true_eq_false, not_false_eq_true, ↓reduceIte, Nat.reduceEqDiff, Nat.reduceAdd, Nat.reduceLeDiff, Int.toNat_natCast, Int.reduceToNat, and_self, Bool.not_true, Bool.not_false, Bool.false_and, Bool.and_false, Bool.true_and, Bool.and_true, a4l1, a4r8]
        refine condS_if (fun hk => ?_) (fun hk => ?_)
        · have hib : i < b.length := by omega
          simp (disch := omega) only [go_sem, ne_eq, not_true_eq_false, not_false_eq_true, ↓reduceIte, Nat.reduceEqDiff, Nat.reduceAdd, Nat.reduceLeDiff, Int.toNat_natCast, Int.reduceToNat, and_self, Bool.not_true, Bool.not_false, Bool.false_and, Bool.and_false, Bool.true_and, Bool.and_true, a4r9, a4r10]
          refine Wp_loop (fun x : Nat × Nat × Bool => x.2.1 ≤ l.length ∧ (x.2.2 || takenB i (l.drop x.2.1)) = takenB i l) (fun (t, k, tk) => { fr := [(0, slv n1 f1 b), (1, slv n2 f2 l), (5, slv false false (appD b 0 l)), (7, .int .i64 last), (8, .int .i64 i), (9, .bool tk), (10, .int .i64 k)], st := t, h := h2 }) (fun x => l.length - x.2.1) (t, 0, false) rfl ⟨by simp, by simp⟩ ?_
          rintro ⟨t, k, tk⟩ ⟨g1, g2⟩
          simp only at g1 g2
          simp (disch := omega) only [go_sem, ne_eq, not_true_eq_false, not_false_eq_true, ↓reduceIte, Nat.reduceEqDiff, Nat.reduceAdd, Nat.reduceLeDiff, Int.toNat_natCast, Int.reduceToNat, and_self, Bool.not_true, Bool.not_false, Bool.false_and, Bool.and_false, Bool.true_and, Bool.and_true, a4l0, a4r11]
          refine condS_if (fun hk2 => ?_) (fun hk2 => ?_)
          · have hk' : k < l.length := by omega
            obtain ⟨t0, t1, t2, t3⟩ := hT _ (getD_mem hk')
            rw [getD_drop hk'] at g2
            simp only [takenB] at g2
            simp (disch := omega) only [go_sem, ne_eq, not_true_eq_false, not_false_eq_true, ↓reduceIte, Nat.reduceEqDiff, Nat.reduceAdd, Nat.reduceLeDiff, Int.toNat_natCast, Int.reduceToNat, and_self, Bool.not_true, Bool.not_false, Bool.false_and, Bool.and_false, Bool.true_and, Bool.and_true, a4r12]
            cases tk with
            | true =>
              simp (disch := omega) only [go_sem, ne_eq, not_true_eq_false, not_false_eq_true, ↓reduceIte, Nat.reduceEqDiff, Nat.reduceAdd, Nat.reduceLeDiff, Int.toNat_natCast, Int.reduceToNat, and_self, Bool.not_true, Bool.not_false, Bool.false_and, Bool.and_false, Bool.true_and, Bool.and_true, a4r13]
              exact ⟨(_, k + 1, true), ⟨by simp only; omega, by simpa using g2⟩, by simp only; omega, rfl⟩
            | false =>
              simp (disch := omega) only [go_sem, ne_eq, not_true_eq_false, not_false_eq_true, ↓reduceIte, Nat.reduceEqDiff, Nat.reduceAdd, Nat.reduceLeDiff, Int.toNat_natCast, Int.reduceToNat, and_self, Bool.not_true, Bool.not_false, Bool.false_and, Bool.and_false, Bool.true_and, Bool.and_true]
              refine guardS_pt (fun c d => ?_) (fun c d => ?_) <;> simp (disch := omega) only [go_sem, ne_eq, not_true_eq_false, not_false_eq_true, ↓reduceIte, Nat.reduceEqDiff, Nat.reduceAdd, Nat.reduceLeDiff, Int.toNat_natCast, Int.reduceToNat, and_self, Bool.not_true, Bool.not_false, Bool.false_and, Bool.and_false, Bool.true_and, Bool.and_true, d, a4r13]
              · exact ⟨(_, k + 1, decide ((i : Int) < (l.getD k default).t)), ⟨by simp only; omega, by rw [d] at g2; simpa only [Bool.true_and, Bool.false_or] using g2⟩, by simp only; omega, rfl⟩
              · exact ⟨(_, k + 1, false), ⟨by simp only; omega, by rw [d] at g2; simpa only [Bool.false_and, Bool.false_or] using g2⟩, by simp only; omega, rfl⟩
          · simp (disch := omega) only [go_sem, ne_eq, not_true_eq_false, not_false_eq_true, ↓reduceIte, Nat.reduceEqDiff, Nat.reduceAdd, Nat.reduceLeDiff, Int.toNat_natCast, Int.reduceToNat, and_self, Bool.not_true, Bool.not_false, Bool.false_and, Bool.and_false, Bool.true_and, Bool.and_true, a4r14]
            rw [List.drop_of_length_le (by omega)] at g2
            simp only [takenB, Bool.or_false] at g2
            subst g2
            cases htk : takenB i l with
            | true =>
              simp (disch := omega) only [go_sem, ne_eq, not_true_eq_false, not_false_eq_true, ↓reduceIte, Nat.reduceEqDiff, Nat.reduceAdd, Nat.reduceLeDiff, Int.toNat_natCast, Int.reduceToNat, and_self, Bool.not_true, Bool.not_false, Bool.false_and, Bool.and_false, Bool.true_and, Bool.and_true, a4r19]
              exact ⟨(_, i + 1, last), ⟨by simp only; omega, h4, fun j hj => h3 j (by simp only at hj; omega)⟩, by simp only; omega, rfl⟩
            | false =>
              obtain ⟨q, e1, e2⟩ := place_at hib l 0 hok (Nat.zero_le _) htk
              have e3 : (i : Int) + mor i l = q := by omega
              have hql : q < (appD b 0 l).length := (List.getElem?_eq_some_iff.1 e2).1
              have hq1 : decide ((q : Int) ≤ last) = false := by have := h3 i (Nat.le_refl _) htk; simp only [decide_eq_false_iff_not]; omega
              have hq2 : decide (((appD b 0 l).length : Int) ≤ q) = false := by simp only [decide_eq_false_iff_not]; omega
              simp (disch := omega) only [go_sem, ne_eq, not_true_eq_false, not_false_eq_true, ↓reduceIte, Nat.reduceEqDiff, Nat.reduceAdd, Nat.reduceLeDiff, Int.toNat_natCast, Int.reduceToNat, and_self, Bool.not_true, Bool.not_false, Bool.false_and, Bool.and_false, Bool.true_and, Bool.and_true, a4r15]
              refine WO.den (k := 1) (vs := [slv n2 f2 l, .int .i64 i]) (by rw [hP.pure _ (by decide)]; rfl) (by simp (disch := omega) only [go_sem, ne_eq, not_true_eq_false, not_false_eq_true, ↓reduceIte, Nat.reduceEqDiff, Nat.reduceAdd, Nat.reduceLeDiff, Int.toNat_natCast, Int.reduceToNat, and_self, Bool.not_true, Bool.not_false, Bool.false_and, Bool.and_false, Bool.true_and, Bool.and_true]) (by simp only [lent_11, List.map_cons, List.map_nil, frz_slv, frz_int]; exact place_den hP.toSpP l n2 f2 i (by omega) (by omega) hT) (fun v hv => by subst hv; simp (disch := omega) only [go_sem, ne_eq, not_true_eq_false, not_false_eq_true, ↓reduceIte, Nat.reduceEqDiff, Nat.reduceAdd, Nat.reduceLeDiff, Int.toNat_natCast, Int.reduceToNat, and_self, Bool.not_true, Bool.not_false, Bool.false_and, Bool.and_false, Bool.true_and, Bool.and_true]) (fun v hv => ?_)
              subst hv
              rw [e3]
              have hq3 : (appD b 0 l).getD q default = b.getD i default := by rw [List.getD_eq_getElem?_getD, e2]; rfl
              simp (disch := omega) only [go_sem, ne_eq, not_true_eq_false, not_false_eq_true, ↓reduceIte, Nat.reduceEqDiff, Nat.reduceAdd, Nat.reduceLeDiff, Int.toNat_natCast, Int.reduceToNat, and_self, Bool.not_true, Bool.not_false, Bool.false_and, Bool.and_false, Bool.true_and, Bool.and_true, a4d16, hq1, hq2, hq3, decide_false, a4r18, a4r19]
              have hq4 := hm i hib htk
              exact ⟨(_, i + 1, (q : Int)), ⟨by simp only; omega, ⟨by simp only; omega, by simp only; omega⟩, fun j hj htj => by have := place_mono (i := (i : Int)) (j := (j : Int)) (by simp only at hj; omega) l 0 hok (by omega) htk htj; simp only; omega⟩, by simp only; omega, rfl⟩
        · simp (disch := omega) only [go_sem, ne_eq, not_true_eq_false, not_false_eq_true, ↓reduceIte, Nat.reduceEqDiff, Nat.reduceAdd, Nat.reduceLeDiff, Int.toNat_natCast, Int.reduceToNat, and_self, Bool.not_true, Bool.not_false, Bool.false_and, Bool.and_false, Bool.true_and, Bool.and_true, a4r20]
          refine WO.den (k := 1) (vs := []) (by rw [hP.pure _ (by decide)]; rfl) (by simp (disch := omega) only [go_sem, ne_eq, not_true_eq_false, not_false_eq_true, ↓reduceIte, Nat.reduceEqDiff, Nat.reduceAdd, Nat.reduceLeDiff, Int.toNat_natCast, Int.reduceToNat, and_self, Bool.not_true, Bool.not_false, Bool.false_and, Bool.and_false, Bool.true_and, Bool.and_true]) (awake_den hP) (fun v hv => awake_ok _ _ hv) (fun v hv => ?_)
          subst hv
          simp (disch := omega) only [go_sem, ne_eq, not_true_eq_false, not_false_eq_true, ↓reduceIte, Nat.reduceEqDiff, Nat.reduceAdd, Nat.reduceLeDiff, Int.toNat_natCast, Int.reduceToNat, and_self, Bool.not_true, Bool.not_false, Bool.false_and, Bool.and_false, Bool.true_and, Bool.and_true]
  · simp (disch := omega) only [go_sem, ne_eq, not_true_eq_false, not_false_eq_true, ↓reduceIte, Nat.reduceEqDiff, Nat.reduceAdd, Nat.reduceLeDiff, Int.toNat_natCast, Int.reduceToNat, and_self, Bool.not_true, Bool.not_false, Bool.false_and, Bool.and_false, Bool.true_and, Bool.and_true, a4r2]
    refine WO.den (k := 1) (vs := []) (by rw [hP.pure _ (by decide)]; rfl) (by simp (disch := omega) only [go_sem, ne_eq, not_true_eq_false, not_false_eq_true, ↓reduceIte, Nat.reduceEqDiff, Nat.reduceAdd, Nat.reduceLeDiff, Int.toNat_natCast, Int.reduceToNat, and_self, Bool.not_true, Bool.not_false, Bool.false_and, Bool.and_false, Bool.true_and, Bool.and_true]) (awake_den hP) (fun v hv => awake_ok _ _ hv) (fun v hv => ?_)
    subst hv
    simp (disch := omega) only [go_sem, ne_eq, not_true_eq_false, not_false_eq_true, ↓reduceIte, Nat.reduceEqDiff, Nat.reduceAdd, Nat.reduceLeDiff, Int.toNat_natCast, Int.reduceToNat, and_self, Bool.not_true, Bool.not_false, Bool.false_and, Bool.and_false, Bool.true_and, Bool.and_true]
end Go.Am.Sp

/- SpanSorts, in plain Lean. -/
import Derived.Test.YtggjkebeejpjfaaDoorSpQ
set_option linter.unusedSimpArgs false
set_option linter.unusedVariables false
namespace Go.Am.Sp
open Go.Am
variable {P : Prog}
set_option maxRecDepth 20000
set_option maxHeartbeats 2000000
theorem sortst_fun (hP : SpP P) (o ep N : Nat) (h0 h : Heap) (L0 : List Edit) (hN : L0.length = N) (hl : N ≤ 1000000) (hAt : At h0 h o ep L0) :
    Fun P 25 [.hs 3 o ep 0 N false, .fn 26 []] h (fun _ h' => ∃ C, At h0 h' o ep C ∧ Stb L0 C) := by
  refine Fun.of (code := a25c) (by rw [hP.fn]; rfl) (by rw [hP.pure _ (by decide)]; rfl) ?_
  simp (disch := omega) only [go_sem, ne_eq, not_true_eq_false, not_false_eq_true, ↓reduceIte, Nat.reduceEqDiff, Nat.reduceAdd, Nat.reduceLeDiff, Int.toNat_natCast, Int.reduceToNat, and_self, Bool.not_true, Bool.not_false, Bool.false_and, Bool.and_false, Bool.true_and, Bool.and_true, a25c, a25r0]
  refine WO.fun (vs := [.hs 3 o ep 0 N false, .int .i64 N, .fn 26 []]) (by simp (disch := omega) only [go_sem, ne_eq, not_true_eq_false, not_false_eq_true, ↓reduceIte, Nat.reduceEqDiff, Nat.reduceAdd, Nat.reduceLeDiff, Int.toNat_natCast, Int.reduceToNat, and_self, Bool.not_true, Bool.not_false, Bool.false_and, Bool.and_false, Bool.true_and, Bool.and_true]) (stable_fun hP o ep N h0 h L0 hN hl hAt) ?_
  rintro vv h1 hC
  simp (disch := omega) only [go_sem, ne_eq, not_true_eq_false, not_false_eq_true, ↓reduceIte, Nat.reduceEqDiff, Nat.reduceAdd, Nat.reduceLeDiff, Int.toNat_natCast, Int.reduceToNat, and_self, Bool.not_true, Bool.not_false, Bool.false_and, Bool.and_false, Bool.true_and, Bool.and_true]
  exact hC
theorem rowv_hs {h : Heap} {v : AV} {l : List Edit} {q : Nat} (hr : RowV h v l) (hq : rowOf v = some q) : ∃ ep, v = .hs 3 q ep 0 l.length false ∧ h.get q = some (.row 3 ep (l.flatMap Enc.cells)) := by
  rcases hr with ⟨rfl, -⟩ | ⟨o, ep, rfl, hg⟩
  · simp [rowOf] at hq
  · simp only [rowOf, Option.some.injEq] at hq
    subst hq
    exact ⟨ep, rfl, hg⟩
@[go_sem] theorem same_hs_nils (e o ep off n : Nat) (f : Bool) : same 2 (.hs e o ep off n f) .nils = some false := rfl
theorem clone_fun (hP : SpP P) (o ep N : Nat) (h : Heap) (L : List Edit) (hN : L.length = N) (hl : N ≤ 1000000) (hg : h.get o = some (.row 3 ep (L.flatMap Enc.cells))) (ho : o < h.next) :
    Fun P 24 [.hs 3 o ep 0 N false] h (fun v h' => ∃ o' ep', v = .hs 3 o' ep' 0 N false ∧ h'.get o' = some (.row 3 ep' (L.flatMap Enc.cells)) ∧ h.next ≤ o' ∧ o' < h'.next ∧ ∀ q, q < h.next → h'.get q = h.get q) := by
  subst hN
  refine Fun.of (code := a24c) (by rw [hP.fn]; rfl) (by rw [hP.pure _ (by decide)]; rfl) ?_
  simp (disch := omega) only [go_sem, ne_eq, not_true_eq_false, not_false_eq_true, ↓reduceIte, Nat.reduceEqDiff, Nat.reduceAdd, Nat.reduceLeDiff, Int.toNat_natCast, Int.reduceToNat, and_self, Bool.not_true, Bool.not_false, Bool.false_and, Bool.and_false, Bool.true_and, Bool.and_true, a24c, a24r0, a24r1, a24r3]
  have hne : o ≠ h.next := by omega
  have hg' : ((h.reserve 2).put h.next (.row 3 0 [])).get o = some (.row 3 ep (L.flatMap Enc.cells)) := (get_put_ne _ _ _ _ hne).trans hg
  refine step_app (α := Edit) (bytes := 32) (l := []) (new := L) (Or.inr ⟨h.next, 0, rfl, get_put_same _ _ _⟩) (adds_row (Or.inr ⟨o, ep, rfl, hg'⟩)) rfl (by simp [two47]; omega) (fun v' h' hr hn ho' hf => ?_)
  rw [List.nil_append] at hr
  have hn' : h'.next = h.next + 2 := hn
  obtain ⟨q, hq, hq1, hq2⟩ : ∃ q, rowOf v' = some q ∧ h.next ≤ q ∧ q < h'.next := by
    rcases ho' with e | e
    · exact ⟨h.next, e, Nat.le_refl _, by omega⟩
    · exact ⟨h.next + 1, e, by omega, by omega⟩
  obtain ⟨ep', rfl, hg2⟩ := rowv_hs hr hq
  simp (disch := omega) only [go_sem, ne_eq, not_true_eq_false, not_false_eq_true, ↓reduceIte, Nat.reduceEqDiff, Nat.reduceAdd, Nat.reduceLeDiff, Int.toNat_natCast, Int.reduceToNat, and_self, Bool.not_true, Bool.not_false, Bool.false_and, Bool.and_false, Bool.true_and, Bool.and_true]
  refine ⟨q, ep', rfl, hg2, hq1, hq2, fun u hu => ?_⟩
  rw [hf u (by omega) (fun e => by simp only [rowOf, Option.some.injEq] at e; omega)]
  exact get_put_ne _ _ _ _ (by omega)
theorem sort_fun (hP : SpP P) (o ep N : Nat) (h : Heap) (L : List Edit) (hN : L.length = N) (hl : N ≤ 1000000) (hg : h.get o = some (.row 3 ep (L.flatMap Enc.cells))) (ho : o < h.next) :
    Fun P 19 [.hs 3 o ep 0 N false] h (fun v h' => ∃ o' ep' C, v = .hs 3 o' ep' 0 N false ∧ h'.get o' = some (.row 3 ep' (C.flatMap Enc.cells)) ∧ Stb L C ∧ h.next ≤ o' ∧ o' < h'.next ∧ ∀ q, q < h.next → h'.get q = h.get q) := by
  refine Fun.of (code := a19c) (by rw [hP.fn]; rfl) (by rw [hP.pure _ (by decide)]; rfl) ?_
  simp (disch := omega) only [go_sem, ne_eq, not_true_eq_false, not_false_eq_true, ↓reduceIte, Nat.reduceEqDiff, Nat.reduceAdd, Nat.reduceLeDiff, Int.toNat_natCast, Int.reduceToNat, and_self, Bool.not_true, Bool.not_false, Bool.false_and, Bool.and_false, Bool.true_and, Bool.and_true, a19c, a19r0, a19r1]
  refine WO.fun (vs := [.hs 3 o ep 0 N false]) (by simp (disch := omega) only [go_sem, ne_eq, not_true_eq_false, not_false_eq_true, ↓reduceIte, Nat.reduceEqDiff, Nat.reduceAdd, Nat.reduceLeDiff, Int.toNat_natCast, Int.reduceToNat, and_self, Bool.not_true, Bool.not_false, Bool.false_and, Bool.and_false, Bool.true_and, Bool.and_true]) (clone_fun hP o ep N h L hN hl hg ho) ?_
  rintro vv h1 ⟨o', ep', rfl, k1, k2, k3, k4⟩
  simp (disch := omega) only [go_sem, ne_eq, not_true_eq_false, not_false_eq_true, ↓reduceIte, Nat.reduceEqDiff, Nat.reduceAdd, Nat.reduceLeDiff, Int.toNat_natCast, Int.reduceToNat, and_self, Bool.not_true, Bool.not_false, Bool.false_and, Bool.and_false, Bool.true_and, Bool.and_true, a19r2]
  refine WO.fun (vs := [.hs 3 o' ep' 0 N false, .fn 26 []]) (by simp (disch := omega) only [go_sem, ne_eq, not_true_eq_false, not_false_eq_true, ↓reduceIte, Nat.reduceEqDiff, Nat.reduceAdd, Nat.reduceLeDiff, Int.toNat_natCast, Int.reduceToNat, and_self, Bool.not_true, Bool.not_false, Bool.false_and, Bool.and_false, Bool.true_and, Bool.and_true]) (sortst_fun hP o' ep' N h1 h1 L hN hl ⟨k1, rfl, fun _ _ => rfl⟩) ?_
  rintro vv h2 ⟨C, hC, sC⟩
  simp (disch := omega) only [go_sem, ne_eq, not_true_eq_false, not_false_eq_true, ↓reduceIte, Nat.reduceEqDiff, Nat.reduceAdd, Nat.reduceLeDiff, Int.toNat_natCast, Int.reduceToNat, and_self, Bool.not_true, Bool.not_false, Bool.false_and, Bool.and_false, Bool.true_and, Bool.and_true, a19r3]
  have e1 := hC.2.1
  exact ⟨o', ep', C, rfl, hC.1, sC, k2, by omega, fun q hq => (hC.2.2 q (by omega)).trans (k4 q hq)⟩
theorem sliceA_nils' (fr : Fr) (lo hi : Option Opd) : sliceA fr (some 3) .nils lo hi none = slL true false ([] : List Edit) (bound fr lo 0) (bound fr hi 0) := sliceA_edit fr true false [] lo hi
/-- A part of a row, as elements that are put behind another one. -/
theorem adds_part {h : Heap} {o ep a n : Nat} {l : List Edit} (hg : h.get o = some (.row 3 ep (l.flatMap Enc.cells))) (hb : a + n ≤ l.length) : Adds h (.hs 3 o ep a n false) ((l.drop a).take n) := by
  have hl : ((l.drop a).take n).length = n := by rw [List.length_take, List.length_drop]; omega
  refine ⟨by rw [hl]; rfl, ?_⟩
  rw [hl]
  simp only [cellsAt, nble, nbeq, Nat.le_refl, decide_true, Bool.and_self, cond_true, hg, sz_Edit]
  have h1 : (l.flatMap Enc.cells).length = l.length * 3 := by rw [flatMap_len, sz_Edit]
  have h2 : ((l.take a).flatMap Enc.cells).length = a * 3 := by rw [flatMap_len, sz_Edit, List.length_take, Nat.min_eq_left (by omega)]
  have h3 : (((l.drop a).take n).flatMap Enc.cells).length = n * 3 := by rw [flatMap_len, sz_Edit, hl]
  rw [sub_take _ _ _ (by rw [h1]; omega)]
  have h4 : (l.flatMap Enc.cells).drop (a * 3) = (l.drop a).flatMap Enc.cells := by
    conv => lhs; rw [← List.take_append_drop a l, List.flatMap_append, ← h2]
    exact List.drop_left
  have h5 : ((l.drop a).flatMap Enc.cells).take (n * 3) = ((l.drop a).take n).flatMap Enc.cells := by
    conv => lhs; rw [← List.take_append_drop n (l.drop a), List.flatMap_append, ← h3]
    exact List.take_left
  rw [h4, h5]
theorem ld1 {l : List Edit} {k : Nat} (hk : k < l.length) : ((dropN (k * 3) (l.flatMap Enc.cells)).bind fun r => takeN 1 r) = some [.int .i64 (l.getD k default).f] := by
  have h1 := sub_flat (α := Edit) (l := l) (off := 0) (n := 1) hk (by decide)
  rw [sz_Edit, Nat.add_zero] at h1
  refine (show _ = sub (l.flatMap Enc.cells) (k * 3) 1 from rfl).trans ?_
  rw [h1, cells_Edit]
  rfl
theorem sorts_fun (hP : SpA P) (l : List Edit) (n2 f2 : Bool) (hl : l.length ≤ 9223372036854775807) (hx : ∀ e ∈ l, e.x.length ≤ 9223372036854775807) (h : Heap) :
    Fun P 7 [slv n2 f2 l] h (fun v _ => v = .bool true) := by
  refine Fun.of (code := a7c) (by rw [hP.fn]; rfl) (by rw [hP.pure _ (by decide)]; rfl) ?_
  simp (disch := omega) only [go_sem, ne_eq, not_true_eq_false, not_false_eq_true, ↓reduceIte, Nat.reduceEqDiff, Nat.reduceAdd, Nat.reduceLeDiff, Int.toNat_natCast, Int.reduceToNat, and_self, Bool.not_true, Bool.not_false, Bool.false_and, Bool.and_false, Bool.true_and, Bool.and_true, a7c, a7r0, a7r1]
  refine WO.den (k := 1) (vs := [slv n2 f2 l]) (by rw [hP.pure _ (by decide)]; rfl) (by simp (disch := omega) only [go_sem, ne_eq, not_true_eq_false, not_false_eq_true, ↓reduceIte, Nat.reduceEqDiff, Nat.reduceAdd, Nat.reduceLeDiff, Int.toNat_natCast, Int.reduceToNat, and_self, Bool.not_true, Bool.not_false, Bool.false_and, Bool.and_false, Bool.true_and, Bool.and_true]) (by simp only [lent_11, List.map_cons, List.map_nil, frz_slv]; exact great_den hP.toSpP l n2 f2 hl hx) (fun v hv => by obtain ⟨q, rfl, -⟩ := hv; simp (disch := omega) only [go_sem, ne_eq, not_true_eq_false, not_false_eq_true, ↓reduceIte, Nat.reduceEqDiff, Nat.reduceAdd, Nat.reduceLeDiff, Int.toNat_natCast, Int.reduceToNat, and_self, Bool.not_true, Bool.not_false, Bool.false_and, Bool.and_false, Bool.true_and, Bool.and_true]) (fun v hv => ?_)
  obtain ⟨gb, rfl, hgr⟩ := hv
  simp (disch := omega) only [go_sem, ne_eq, not_true_eq_false, not_false_eq_true, ↓reduceIte, Nat.reduceEqDiff, Nat.reduceAdd, Nat.reduceLeDiff, Int.toNat_natCast, Int.reduceToNat, and_self, Bool.not_true, Bool.not_false, Bool.false_and, Bool.and_false, Bool.true_and, Bool.and_true]
  refine condS_split (fun hgb => ?_) (fun hgb => ?_)
  · simp (disch := omega) only [go_sem, ne_eq, not_true_eq_false, not_false_eq_true, ↓reduceIte, Nat.reduceEqDiff, Nat.reduceAdd, Nat.reduceLeDiff, Int.toNat_natCast, Int.reduceToNat, and_self, Bool.not_true, Bool.not_false, Bool.false_and, Bool.and_false, Bool.true_and, Bool.and_true, a7r2]
    refine WO.den (k := 1) (vs := []) (by rw [hP.pure _ (by decide)]; rfl) (by simp (disch := omega) only [go_sem, ne_eq, not_true_eq_false, not_false_eq_true, ↓reduceIte, Nat.reduceEqDiff, Nat.reduceAdd, Nat.reduceLeDiff, Int.toNat_natCast, Int.reduceToNat, and_self, Bool.not_true, Bool.not_false, Bool.false_and, Bool.and_false, Bool.true_and, Bool.and_true]) (awake_den hP) (fun v hv => awake_ok _ _ hv) (fun v hv => ?_)
    subst hv
    simp (disch := omega) only [go_sem, ne_eq, not_true_eq_false, not_false_eq_true, ↓reduceIte, Nat.reduceEqDiff, Nat.reduceAdd, Nat.reduceLeDiff, Int.toNat_natCast, Int.reduceToNat, and_self, Bool.not_true, Bool.not_false, Bool.false_and, Bool.and_false, Bool.true_and, Bool.and_true]
  · obtain ⟨hl6, hx2⟩ := hgr hgb
    simp (disch := omega) only [go_sem, ne_eq, not_true_eq_false, not_false_eq_true, ↓reduceIte, Nat.reduceEqDiff, Nat.reduceAdd, Nat.reduceLeDiff, Int.toNat_natCast, Int.reduceToNat, and_self, Bool.not_true, Bool.not_false, Bool.false_and, Bool.and_false, Bool.true_and, Bool.and_true, a7r3]
    refine step_app (α := Edit) (bytes := 32) (l := []) (new := l) (Or.inr ⟨h.next, 0, rfl, get_put_same _ _ _⟩) (adds_slv _ _ _ _) rfl (by simp [two47]; omega) (fun v' h' hr hn ho' hf => ?_)
    rw [List.nil_append] at hr
    have hn' : h'.next = h.next + 2 := hn
    obtain ⟨oi, hq, hq1, hq2⟩ : ∃ q, rowOf v' = some q ∧ h.next ≤ q ∧ q < h'.next := by
      rcases ho' with e | e
      · exact ⟨h.next, e, Nat.le_refl _, by omega⟩
      · exact ⟨h.next + 1, e, by omega, by omega⟩
    obtain ⟨ei, rfl, hgi⟩ := rowv_hs hr hq
    simp (disch := omega) only [go_sem, ne_eq, not_true_eq_false, not_false_eq_true, ↓reduceIte, Nat.reduceEqDiff, Nat.reduceAdd, Nat.reduceLeDiff, Int.toNat_natCast, Int.reduceToNat, and_self, Bool.not_true, Bool.not_false, Bool.false_and, Bool.and_false, Bool.true_and, Bool.and_true, a7r4]
    refine WO.fun (vs := [.hs 3 oi ei 0 l.length false]) (by simp (disch := omega) only [go_sem, ne_eq, not_true_eq_false, not_false_eq_true, ↓reduceIte, Nat.reduceEqDiff, Nat.reduceAdd, Nat.reduceLeDiff, Int.toNat_natCast, Int.reduceToNat, and_self, Bool.not_true, Bool.not_false, Bool.false_and, Bool.and_false, Bool.true_and, Bool.and_true]) (sort_fun hP.toSpP oi ei l.length h' l rfl (by omega) hgi hq2) ?_
    rintro vv hS ⟨og, eg, G, rfl, hgG, sG, k2, k3, k4⟩
    have hgi2 := (k4 oi hq2).trans hgi
    have hi3 : oi < hS.next := by omega
    simp (disch := omega) only [go_sem, ne_eq, not_true_eq_false, not_false_eq_true, ↓reduceIte, Nat.reduceEqDiff, Nat.reduceAdd, Nat.reduceLeDiff, Int.toNat_natCast, Int.reduceToNat, and_self, Bool.not_true, Bool.not_false, Bool.false_and, Bool.and_false, Bool.true_and, Bool.and_true, a7r5, a7r6]
    refine Wp_loop (fun x : Nat × Nat × AV × Heap × List Edit => x.2.1 ≤ l.length ∧ RowV x.2.2.2.1 x.2.2.1 x.2.2.2.2 ∧ Stb (l.take x.2.1) x.2.2.2.2 ∧ hS.next ≤ x.2.2.2.1.next ∧ (∀ q, q < hS.next → x.2.2.2.1.get q = hS.get q) ∧ (∀ q, rowOf x.2.2.1 = some q → q < x.2.2.2.1.next))
      (fun (t, i, v, h, D) => { fr := [(0, slv n2 f2 l), (3, .hs 3 oi ei 0 l.length false), (4, .hs 3 og eg 0 l.length false), (5, v), (6, .int .i64 i)], st := t, h := h }) (fun x => l.length - x.2.1) (0, 0, .nils, hS, []) rfl ⟨by simp, Or.inl ⟨rfl, rfl⟩, Stb.refl List.Pairwise.nil, Nat.le_refl _, fun _ _ => rfl, by simp [rowOf]⟩ ?_
    rintro ⟨t, i, v, h, D⟩ ⟨g1, g2, g3, g4, g5, g6⟩
    simp only at g1 g2 g3 g4 g5 g6
    have hDl : D.length = i := by rw [g3.2.1, List.length_take]; omega
    have hevd : ∀ i, evS i (some v) = some v := fun i => by rcases g2 with ⟨rfl, -⟩ | ⟨o, ep, rfl, -⟩ <;> rfl
    have hdat : datW (some v) = some v := by rcases g2 with ⟨rfl, -⟩ | ⟨o, ep, rfl, -⟩ <;> rfl
    simp (disch := omega) only [go_sem, ne_eq, not_true_eq_false, not_false_eq_true, ↓reduceIte, Nat.reduceEqDiff, Nat.reduceAdd, Nat.reduceLeDiff, Int.toNat_natCast, Int.reduceToNat, and_self, Bool.not_true, Bool.not_false, Bool.false_and, Bool.and_false, Bool.true_and, Bool.and_true, a7l1, a7r7, hevd]
    refine condS_if (fun hk => ?_) (fun hk => ?_)
    · have hil : i < l.length := by omega
      have htake : l.take (i + 1) = l.take i ++ [l.getD i default] := by
        rw [List.take_succ_eq_append_getElem hil]; congr 2; simp [List.getD_eq_getElem?_getD, hil]
      rcases g2 with ⟨rfl, rfl⟩ | ⟨ow, ew, rfl, hgw⟩
      · have hi0 : i = 0 := hDl.symm
        subst hi0
        simp (disch := omega) only [go_sem, ne_eq, not_true_eq_false, not_false_eq_true, ↓reduceIte, Nat.reduceEqDiff, Nat.reduceAdd, Nat.reduceLeDiff, Int.toNat_natCast, Int.reduceToNat, and_self, Bool.not_true, Bool.not_false, Bool.false_and, Bool.and_false, Bool.true_and, Bool.and_true, a7r8]
        refine Wp_loop (fun x : Nat => True)
          (fun t => { fr := [(0, slv n2 f2 l), (3, .hs 3 oi ei 0 l.length false), (4, .hs 3 og eg 0 l.length false), (5, .nils), (6, .int .i64 (0 : Nat)), (7, .int .i64 0)], st := t, h := h }) (fun x => 0) t rfl trivial ?_
        intro t _
        simp (disch := omega) only [go_sem, ne_eq, not_true_eq_false, not_false_eq_true, ↓reduceIte, Nat.reduceEqDiff, Nat.reduceAdd, Nat.reduceLeDiff, Int.toNat_natCast, Int.reduceToNat, and_self, Bool.not_true, Bool.not_false, Bool.false_and, Bool.and_false, Bool.true_and, Bool.and_true, a7l0, a7d9, Int.lt_irrefl, decide_false, a7r11, sliceA_nils']
        refine step_app (α := Edit) (bytes := 32) (l := []) (new := []) (Or.inr ⟨h.next, 0, rfl, get_put_same _ _ _⟩) (adds_slv _ _ _ ([] : List Edit)) rfl (by simp [two47]) (fun v1 h1 hr1 hn1 ho1 hf1 => ?_)
        have en1 : h1.next = h.next + 2 := hn1
        obtain ⟨u1, hu1, hu1a, hu1b⟩ : ∃ q, rowOf v1 = some q ∧ h.next ≤ q ∧ q < h1.next := by
          rcases ho1 with e | e
          · exact ⟨h.next, e, Nat.le_refl _, by omega⟩
          · exact ⟨h.next + 1, e, by omega, by omega⟩
        have hk1 : ∀ q, q < h.next → h1.get q = h.get q := fun q hq => (hf1 q (by omega) (fun e => by simp only [rowOf, Option.some.injEq] at e; omega)).trans (get_put_ne _ _ _ _ (by omega))
        have hev1 : ∀ i, evS i (some v1) = some v1 := fun i => by rcases hr1 with ⟨rfl, -⟩ | ⟨o, ep, rfl, -⟩ <;> rfl
        simp (disch := omega) only [go_sem, ne_eq, not_true_eq_false, not_false_eq_true, ↓reduceIte, Nat.reduceEqDiff, Nat.reduceAdd, Nat.reduceLeDiff, Int.toNat_natCast, Int.reduceToNat, and_self, Bool.not_true, Bool.not_false, Bool.false_and, Bool.and_false, Bool.true_and, Bool.and_true, a7r12, hev1]
        refine step_app (α := Edit) (bytes := 32) (l := [] ++ []) (new := [l.getD 0 default]) (by exact hr1) (adds_one (α := Edit) _ _ _ true rfl) rfl (by simp [two47]) (fun v2 h2 hr2 hn2 ho2 hf2 => ?_)
        have en2 : h2.next = h1.next + 1 := hn2
        obtain ⟨u2, hu2, hu2a, hu2b⟩ : ∃ q, rowOf v2 = some q ∧ h.next ≤ q ∧ q < h2.next := by
          rcases ho2 with e | e
          · exact ⟨u1, e.trans hu1, hu1a, by omega⟩
          · exact ⟨h1.next, e, by omega, by omega⟩
        have hk2 : ∀ q, q < h.next → h2.get q = h.get q := fun q hq => (hf2 q (by omega) (fun e => by rw [hu1] at e; cases e; omega)).trans (hk1 q hq)
        have hev2 : ∀ i, evS i (some v2) = some v2 := fun i => by rcases hr2 with ⟨rfl, -⟩ | ⟨o, ep, rfl, -⟩ <;> rfl
        simp (disch := omega) only [go_sem, ne_eq, not_true_eq_false, not_false_eq_true, ↓reduceIte, Nat.reduceEqDiff, Nat.reduceAdd, Nat.reduceLeDiff, Int.toNat_natCast, Int.reduceToNat, and_self, Bool.not_true, Bool.not_false, Bool.false_and, Bool.and_false, Bool.true_and, Bool.and_true, a7r13, hev1, hev2, sliceA_nils']
        refine step_app (α := Edit) (bytes := 32) (l := ([] ++ []) ++ [l.getD 0 default]) (new := []) (by exact hr2) (adds_slv _ _ _ ([] : List Edit)) rfl (by simp [two47]) (fun v3 h3 hr3 hn3 ho3 hf3 => ?_)
        have en3 : h3.next = h2.next + 1 := hn3
        obtain ⟨u3, hu3, hu3a, hu3b⟩ : ∃ q, rowOf v3 = some q ∧ h.next ≤ q ∧ q < h3.next := by
          rcases ho3 with e | e
          · exact ⟨u2, e.trans hu2, hu2a, by omega⟩
          · exact ⟨h2.next, e, by omega, by omega⟩
        have hk3 : ∀ q, q < h.next → h3.get q = h.get q := fun q hq => (hf3 q (by omega) (fun e => by rw [hu2] at e; cases e; omega)).trans (hk2 q hq)
        have hev3 : ∀ i, evS i (some v3) = some v3 := fun i => by rcases hr3 with ⟨rfl, -⟩ | ⟨o, ep, rfl, -⟩ <;> rfl
        have st : Stb (l.take 1) [l.getD 0 default] := by
          rw [htake]; exact Stb.refl (by simp [Srt])
        simp (disch := omega) only [go_sem, ne_eq, not_true_eq_false, not_false_eq_true, ↓reduceIte, Nat.reduceEqDiff, Nat.reduceAdd, Nat.reduceLeDiff, Int.toNat_natCast, Int.reduceToNat, and_self, Bool.not_true, Bool.not_false, Bool.false_and, Bool.and_false, Bool.true_and, Bool.and_true, a7r14, hev3]
        exact ⟨(_, 1, v3, h3, [l.getD 0 default]), ⟨by simp only; omega, hr3, st, by simp only; omega, fun q hq => (hk3 q (by omega)).trans (g5 q hq), fun q hq => by simp only at hq ⊢; rw [hu3] at hq; cases hq; exact hu3b⟩, by simp only; omega, rfl⟩
      · simp (disch := omega) only [go_sem, ne_eq, not_true_eq_false, not_false_eq_true, ↓reduceIte, Nat.reduceEqDiff, Nat.reduceAdd, Nat.reduceLeDiff, Int.toNat_natCast, Int.reduceToNat, and_self, Bool.not_true, Bool.not_false, Bool.false_and, Bool.and_false, Bool.true_and, Bool.and_true, a7r8]
        refine Wp_loop (fun x : Nat × Nat => x.2 ≤ D.length ∧ ∀ u, x.2 ≤ u → u < D.length → (l.getD i default).f < (D.getD u default).f)
          (fun (t, k) => { fr := [(0, slv n2 f2 l), (3, .hs 3 oi ei 0 l.length false), (4, .hs 3 og eg 0 l.length false), (5, .hs 3 ow ew 0 D.length false), (6, .int .i64 i), (7, .int .i64 k)], st := t, h := h }) (fun x => x.2) (t, D.length) rfl ⟨Nat.le_refl _, fun u h1 h2 => by simp only at h1; omega⟩ ?_
        rintro ⟨t, k⟩ ⟨q1, q2⟩
        simp only at q1 q2
        have done : (k = 0 ∨ ∃ e, k = e + 1 ∧ (D.getD e default).f ≤ (l.getD i default).f) → Stb (l.take (i + 1)) (D.take k ++ l.getD i default :: D.drop k) := fun e => by
          rw [htake]
          refine Stb.insert (by rw [List.take_append_drop]; exact g3) (fun y hy => ?_) (fun y hy => ?_)
          · obtain ⟨u, u1, u2, rfl⟩ := mem_take_at hy
            rcases e with rfl | ⟨e, rfl, he⟩
            · omega
            · have := srt_at g3.1 (i := u) (j := e) (by omega) (by omega)
              omega
          · obtain ⟨u, u1, u2, rfl⟩ := mem_drop_at hy
            exact q2 u u1 u2
        simp (disch := omega) only [go_sem, ne_eq, not_true_eq_false, not_false_eq_true, ↓reduceIte, Nat.reduceEqDiff, Nat.reduceAdd, Nat.reduceLeDiff, Int.toNat_natCast, Int.reduceToNat, and_self, Bool.not_true, Bool.not_false, Bool.false_and, Bool.and_false, Bool.true_and, Bool.and_true, a7l0, a7d9]
        refine dguardS_pt (fun c w => ?_) (fun c w => ?_)
        have i1 : (k : Int) - 1 = ((k - 1 : Nat) : Int) := by omega
        have r1 := ld1 (l := D) (k := k - 1) (by omega)
        simp (disch := omega) only [go_sem, ne_eq, not_true_eq_false, not_false_eq_true, ↓reduceIte, Nat.reduceEqDiff, Nat.reduceAdd, Nat.reduceLeDiff, Int.toNat_natCast, Int.reduceToNat, and_self, Bool.not_true, Bool.not_false, Bool.false_and, Bool.and_false, Bool.true_and, Bool.and_true, w, i1, hgw, r1, Nat.zero_add]
        refine condS_if (fun c2 => ?_) (fun c2 => ?_)
        simp (disch := omega) only [go_sem, ne_eq, not_true_eq_false, not_false_eq_true, ↓reduceIte, Nat.reduceEqDiff, Nat.reduceAdd, Nat.reduceLeDiff, Int.toNat_natCast, Int.reduceToNat, and_self, Bool.not_true, Bool.not_false, Bool.false_and, Bool.and_false, Bool.true_and, Bool.and_true, a7r10, i1]
        exact ⟨(_, k - 1), ⟨by simp only; omega, fun u h1 h2 => by
          rcases Nat.lt_or_ge u k with h3 | h3
          · obtain rfl : u = k - 1 := by simp only at h1; omega
            exact c2
          · exact q2 u h3 h2⟩, by simp only; omega, rfl⟩
        have st := done (Or.inr ⟨k - 1, by omega, by omega⟩)
        simp (disch := omega) only [go_sem, ne_eq, not_true_eq_false, not_false_eq_true, ↓reduceIte, Nat.reduceEqDiff, Nat.reduceAdd, Nat.reduceLeDiff, Int.toNat_natCast, Int.reduceToNat, and_self, Bool.not_true, Bool.not_false, Bool.false_and, Bool.and_false, Bool.true_and, Bool.and_true]
        rotate_left
        have st := done (Or.inl (by omega))
        simp (disch := omega) only [go_sem, ne_eq, not_true_eq_false, not_false_eq_true, ↓reduceIte, Nat.reduceEqDiff, Nat.reduceAdd, Nat.reduceLeDiff, Int.toNat_natCast, Int.reduceToNat, and_self, Bool.not_true, Bool.not_false, Bool.false_and, Bool.and_false, Bool.true_and, Bool.and_true, w]
        all_goals
          have hne : ow ≠ h.next := by have := g6 ow rfl; omega
          have hlt : ow < h.next := g6 ow rfl
          have gw1 : ((h.reserve 2).put h.next (.row 3 0 [])).get ow = some (.row 3 ew (D.flatMap Enc.cells)) := (get_put_ne _ _ _ _ hne).trans hgw
          simp (disch := omega) only [go_sem, ne_eq, not_true_eq_false, not_false_eq_true, ↓reduceIte, Nat.reduceEqDiff, Nat.reduceAdd, Nat.reduceLeDiff, Int.toNat_natCast, Int.reduceToNat, and_self, Bool.not_true, Bool.not_false, Bool.false_and, Bool.and_false, Bool.true_and, Bool.and_true, a7r11]
          refine step_app (α := Edit) (bytes := 32) (l := []) (new := (D.drop 0).take k) (Or.inr ⟨h.next, 0, rfl, get_put_same _ _ _⟩) (by exact adds_part (a := 0) (n := k) gw1 (by omega)) rfl (by simp [two47]; omega) (fun v1 h1 hr1 hn1 ho1 hf1 => ?_)
          have en1 : h1.next = h.next + 2 := hn1
          obtain ⟨u1, hu1, hu1a, hu1b⟩ : ∃ q, rowOf v1 = some q ∧ h.next ≤ q ∧ q < h1.next := by
            rcases ho1 with e | e
            · exact ⟨h.next, e, Nat.le_refl _, by omega⟩
            · exact ⟨h.next + 1, e, by omega, by omega⟩
          have hk1 : ∀ q, q < h.next → h1.get q = h.get q := fun q hq => (hf1 q (by omega) (fun e => by simp only [rowOf, Option.some.injEq] at e; omega)).trans (get_put_ne _ _ _ _ (by omega))
          have hev1 : ∀ i, evS i (some v1) = some v1 := fun i => by rcases hr1 with ⟨rfl, -⟩ | ⟨o, ep, rfl, -⟩ <;> rfl
          simp (disch := omega) only [go_sem, ne_eq, not_true_eq_false, not_false_eq_true, ↓reduceIte, Nat.reduceEqDiff, Nat.reduceAdd, Nat.reduceLeDiff, Int.toNat_natCast, Int.reduceToNat, and_self, Bool.not_true, Bool.not_false, Bool.false_and, Bool.and_false, Bool.true_and, Bool.and_true, a7r12, hev1]
          refine step_app (α := Edit) (bytes := 32) (l := [] ++ (D.drop 0).take k) (new := [l.getD i default]) (by exact hr1) (adds_one (α := Edit) _ _ _ true rfl) rfl (by simp [two47]; omega) (fun v2 h2 hr2 hn2 ho2 hf2 => ?_)
          have en2 : h2.next = h1.next + 1 := hn2
          obtain ⟨u2, hu2, hu2a, hu2b⟩ : ∃ q, rowOf v2 = some q ∧ h.next ≤ q ∧ q < h2.next := by
            rcases ho2 with e | e
            · exact ⟨u1, e.trans hu1, hu1a, by omega⟩
            · exact ⟨h1.next, e, by omega, by omega⟩
          have hk2 : ∀ q, q < h.next → h2.get q = h.get q := fun q hq => (hf2 q (by omega) (fun e => by rw [hu1] at e; cases e; omega)).trans (hk1 q hq)
          have hev2 : ∀ i, evS i (some v2) = some v2 := fun i => by rcases hr2 with ⟨rfl, -⟩ | ⟨o, ep, rfl, -⟩ <;> rfl
          have gw2 : (h2.reserve 1).get ow = some (.row 3 ew (D.flatMap Enc.cells)) := (hk2 ow hlt).trans hgw
          simp (disch := omega) only [go_sem, ne_eq, not_true_eq_false, not_false_eq_true, ↓reduceIte, Nat.reduceEqDiff, Nat.reduceAdd, Nat.reduceLeDiff, Int.toNat_natCast, Int.reduceToNat, and_self, Bool.not_true, Bool.not_false, Bool.false_and, Bool.and_false, Bool.true_and, Bool.and_true, a7r13, hev1, hev2]
          refine step_app (α := Edit) (bytes := 32) (l := ([] ++ (D.drop 0).take k) ++ [l.getD i default]) (new := (D.drop k).take (D.length - k)) (by exact hr2) (by exact adds_part (a := k) (n := D.length - k) gw2 (by omega)) rfl (by simp [two47]; omega) (fun v3 h3 hr3 hn3 ho3 hf3 => ?_)
          have en3 : h3.next = h2.next + 1 := hn3
          obtain ⟨u3, hu3, hu3a, hu3b⟩ : ∃ q, rowOf v3 = some q ∧ h.next ≤ q ∧ q < h3.next := by
            rcases ho3 with e | e
            · exact ⟨u2, e.trans hu2, hu2a, by omega⟩
            · exact ⟨h2.next, e, by omega, by omega⟩
          have hk3 : ∀ q, q < h.next → h3.get q = h.get q := fun q hq => (hf3 q (by omega) (fun e => by rw [hu2] at e; cases e; omega)).trans (hk2 q hq)
          have hev3 : ∀ i, evS i (some v3) = some v3 := fun i => by rcases hr3 with ⟨rfl, -⟩ | ⟨o, ep, rfl, -⟩ <;> rfl
          have eD : (([] ++ (D.drop 0).take k) ++ [l.getD i default]) ++ (D.drop k).take (D.length - k) = D.take k ++ l.getD i default :: D.drop k := by
            have e1 : (D.drop k).take (D.length - k) = D.drop k := List.take_of_length_le (by rw [List.length_drop]; omega)
            rw [e1, List.drop_zero, List.nil_append, List.append_assoc, List.singleton_append]
          rw [eD] at hr3
          simp (disch := omega) only [go_sem, ne_eq, not_true_eq_false, not_false_eq_true, ↓reduceIte, Nat.reduceEqDiff, Nat.reduceAdd, Nat.reduceLeDiff, Int.toNat_natCast, Int.reduceToNat, and_self, Bool.not_true, Bool.not_false, Bool.false_and, Bool.and_false, Bool.true_and, Bool.and_true, a7r14, hev3]
          exact ⟨(_, i + 1, v3, h3, _), ⟨by simp only; omega, hr3, st, by simp only; omega, fun q hq => (hk3 q (by omega)).trans (g5 q hq), fun q hq => by simp only at hq ⊢; rw [hu3] at hq; cases hq; exact hu3b⟩, by simp only; omega, rfl⟩
    · have hi : i = l.length := by omega
      rw [List.take_of_length_le (by omega)] at g3
      obtain rfl : D = G := g3.uniq sG
      have eG : D.length = l.length := sG.2.1
      have rG : RowV h (.hs 3 og eg 0 D.length false) D := Or.inr ⟨og, eg, rfl, (g5 og k3).trans hgG⟩
      have rI : RowV h (.hs 3 oi ei 0 l.length false) l := Or.inr ⟨oi, ei, rfl, (g5 oi hi3).trans hgi2⟩
      rw [eG] at rG
      obtain ⟨ng, hfG⟩ := rG.back (N := 0) (fun _ _ => Nat.zero_le _) 39
      obtain ⟨ni, hfI⟩ := rI.back (N := 0) (fun _ _ => Nat.zero_le _) 39
      obtain ⟨nv, hfV⟩ := g2.back (N := 0) (fun _ _ => Nat.zero_le _) 39
      simp (disch := omega) only [go_sem, ne_eq, not_true_eq_false, not_false_eq_true, ↓reduceIte, Nat.reduceEqDiff, Nat.reduceAdd, Nat.reduceLeDiff, Int.toNat_natCast, Int.reduceToNat, and_self, Bool.not_true, Bool.not_false, Bool.false_and, Bool.and_false, Bool.true_and, Bool.and_true, a7r15, hevd]
      refine WO.den (k := 1) (vs := [.hs 3 og eg 0 l.length false, v]) (by rw [hP.pure _ (by decide)]; rfl) (by simp (disch := omega) only [go_sem, ne_eq, not_true_eq_false, not_false_eq_true, ↓reduceIte, Nat.reduceEqDiff, Nat.reduceAdd, Nat.reduceLeDiff, Int.toNat_natCast, Int.reduceToNat, and_self, Bool.not_true, Bool.not_false, Bool.false_and, Bool.and_false, Bool.true_and, Bool.and_true, hevd, hdat]) (by simp only [lent_11, List.map_cons, List.map_nil, hfG, hfV]; exact esame_den hP.toSpP D ng false nv false (by omega)) (fun v hv => by subst hv; simp (disch := omega) only [go_sem, ne_eq, not_true_eq_false, not_false_eq_true, ↓reduceIte, Nat.reduceEqDiff, Nat.reduceAdd, Nat.reduceLeDiff, Int.toNat_natCast, Int.reduceToNat, and_self, Bool.not_true, Bool.not_false, Bool.false_and, Bool.and_false, Bool.true_and, Bool.and_true]) (fun vr hv => ?_)
      subst hv
      simp (disch := omega) only [go_sem, ne_eq, not_true_eq_false, not_false_eq_true, ↓reduceIte, Nat.reduceEqDiff, Nat.reduceAdd, Nat.reduceLeDiff, Int.toNat_natCast, Int.reduceToNat, and_self, Bool.not_true, Bool.not_false, Bool.false_and, Bool.and_false, Bool.true_and, Bool.and_true, hevd]
      refine WO.den (k := 1) (vs := [.hs 3 oi ei 0 l.length false, slv n2 f2 l]) (by rw [hP.pure _ (by decide)]; rfl) (by simp (disch := omega) only [go_sem, ne_eq, not_true_eq_false, not_false_eq_true, ↓reduceIte, Nat.reduceEqDiff, Nat.reduceAdd, Nat.reduceLeDiff, Int.toNat_natCast, Int.reduceToNat, and_self, Bool.not_true, Bool.not_false, Bool.false_and, Bool.and_false, Bool.true_and, Bool.and_true]) (by simp only [lent_11, List.map_cons, List.map_nil, hfI, frz_slv]; exact esame_den hP.toSpP l ni false n2 f2 (by omega)) (fun v hv => by subst hv; simp (disch := omega) only [go_sem, ne_eq, not_true_eq_false, not_false_eq_true, ↓reduceIte, Nat.reduceEqDiff, Nat.reduceAdd, Nat.reduceLeDiff, Int.toNat_natCast, Int.reduceToNat, and_self, Bool.not_true, Bool.not_false, Bool.false_and, Bool.and_false, Bool.true_and, Bool.and_true]) (fun vr hv => ?_)
      subst hv
      simp (disch := omega) only [go_sem, ne_eq, not_true_eq_false, not_false_eq_true, ↓reduceIte, Nat.reduceEqDiff, Nat.reduceAdd, Nat.reduceLeDiff, Int.toNat_natCast, Int.reduceToNat, and_self, Bool.not_true, Bool.not_false, Bool.false_and, Bool.and_false, Bool.true_and, Bool.and_true]
      refine WO.den (k := 1) (vs := []) (by rw [hP.pure _ (by decide)]; rfl) (by simp (disch := omega) only [go_sem, ne_eq, not_true_eq_false, not_false_eq_true, ↓reduceIte, Nat.reduceEqDiff, Nat.reduceAdd, Nat.reduceLeDiff, Int.toNat_natCast, Int.reduceToNat, and_self, Bool.not_true, Bool.not_false, Bool.false_and, Bool.and_false, Bool.true_and, Bool.and_true]) (awake_den hP) (fun v hv => awake_ok _ _ hv) (fun vr hv => ?_)
      subst hv
      simp (disch := omega) only [go_sem, ne_eq, not_true_eq_false, not_false_eq_true, ↓reduceIte, Nat.reduceEqDiff, Nat.reduceAdd, Nat.reduceLeDiff, Int.toNat_natCast, Int.reduceToNat, and_self, Bool.not_true, Bool.not_false, Bool.false_and, Bool.and_false, Bool.true_and, Bool.and_true]
end Go.Am.Sp

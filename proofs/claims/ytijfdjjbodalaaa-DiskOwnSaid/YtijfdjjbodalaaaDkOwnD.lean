/- Append and Read, on a disk of one file. -/
import Derived.Test.YtijfdjjbodalaaaDkOwnC
set_option linter.unusedSimpArgs false
set_option linter.unusedVariables false
namespace Go.Am.Dk
open Go.Am
set_option maxRecDepth 20000
set_option maxHeartbeats 1000000
theorem prim2_add : ∀ args h r, prim1 63 args h = some r → PO.prim 63 args h = some r := fun args h r e => by
  show prim2 63 args h = some r
  simp only [prim2, orP, e]
theorem append_fun (h : Heap) (d m f o : Nat) (b : List UInt8) (n : Int) (hD : Disk1 h d m f o b n) (o2 e2 : Nat) (x : List UInt8) (hl : LentAt h o2 e2 x) (ho2 : o2 < h.next) (hne : o2 ≠ d ∧ o2 ≠ m ∧ o2 ≠ f ∧ o2 ≠ o) (hb : b.length ≤ 500) (hx : x.length ≤ 500) (h1 : 0 ≤ n) (h2 : n < 9000000000000000000) :
    Fun PO 11 [.ptr d 0, strv [97], .hs 1 o2 e2 0 x.length false] h (fun v h' => v = .int .i64 0 ∧ (∃ o', Disk1 h' d m f o' (b ++ x) (n + 1) ∧ (o' = o ∨ h.next ≤ o')) ∧ h.next ≤ h'.next ∧ ∀ q, q < h.next → q ≠ d → q ≠ f → q ≠ o → h'.get q = h.get q) := by
  obtain ⟨c2, c3, c4, e, su, ep, b0, ck, gd, gm, hbk, gf, go, ⟨n1, n2, n3, n4, n5, n6⟩, l1, l2, l3, l4⟩ := hD
  refine Fun.of (code := a11c) rfl rfl ?_
  simp (disch := omega) only [go_sem, ne_eq, not_true_eq_false, not_false_eq_true, ↓reduceIte, Nat.reduceEqDiff, Nat.reduceAdd, Nat.reduceLeDiff, Int.toNat_natCast, Int.reduceToNat, and_self, Bool.not_true, Bool.not_false, Bool.false_and, Bool.and_false, Bool.true_and, Bool.and_true, Int.reduceEq, Int.reduceLT, Int.reduceLE, Int.reduceAdd, Int.reduceSub, Int.reduceNeg, decide_true, decide_false, Bool.not_true, Bool.not_false, Option.bind_some, Bool.or_true, Bool.or_false, Bool.true_or, Bool.false_or, a11c, a11r0, a11r1]
  refine WO.fun (vs := [.ptr d 0, strv [97]]) (by simp (disch := omega) only [go_sem, ne_eq, not_true_eq_false, not_false_eq_true, ↓reduceIte, Nat.reduceEqDiff, Nat.reduceAdd, Nat.reduceLeDiff, Int.toNat_natCast, Int.reduceToNat, and_self, Bool.not_true, Bool.not_false, Bool.false_and, Bool.and_false, Bool.true_and, Bool.and_true]) (open_fun (P := PO) rfl rfl rfl rfl rfl rfl prim2_add h d m b0 ck f [97] n (.int .i64 2000) c2 c3 c4 e gd h1 h2 (Ne.symm n1) gm) (fun v h' hv => ?_)
  obtain ⟨rfl, rfl⟩ := hv
  simp (disch := omega) only [go_sem, ne_eq, not_true_eq_false, not_false_eq_true, ↓reduceIte, Nat.reduceEqDiff, Nat.reduceAdd, Nat.reduceLeDiff, Int.toNat_natCast, Int.reduceToNat, and_self, Bool.not_true, Bool.not_false, Bool.false_and, Bool.and_false, Bool.true_and, Bool.and_true, Int.reduceEq, Int.reduceLT, Int.reduceLE, Int.reduceAdd, Int.reduceSub, Int.reduceNeg, decide_true, decide_false, Bool.not_true, Bool.not_false, Option.bind_some, Bool.or_true, Bool.or_false, Bool.true_or, Bool.false_or, a11r2]
  simp (disch := omega) only [go_sem, ne_eq, not_true_eq_false, not_false_eq_true, ↓reduceIte, Nat.reduceEqDiff, Nat.reduceAdd, Nat.reduceLeDiff, Int.toNat_natCast, Int.reduceToNat, and_self, Bool.not_true, Bool.not_false, Bool.false_and, Bool.and_false, Bool.true_and, Bool.and_true, Int.reduceEq, Int.reduceLT, Int.reduceLE, Int.reduceAdd, Int.reduceSub, Int.reduceNeg, decide_true, decide_false, Bool.not_true, Bool.not_false, Option.bind_some, Bool.or_true, Bool.or_false, Bool.true_or, Bool.false_or, a11d4, get_put_same]
  refine WD_fun (vs := [.ptr d 0]) (by simp (disch := omega) only [go_sem, ne_eq, not_true_eq_false, not_false_eq_true, ↓reduceIte, Nat.reduceEqDiff, Nat.reduceAdd, Nat.reduceLeDiff, Int.toNat_natCast, Int.reduceToNat, and_self, Bool.not_true, Bool.not_false, Bool.false_and, Bool.and_false, Bool.true_and, Bool.and_true]) (used_one (P := PO) rfl rfl _ d m ck b0 f b.length (.int .i64 2000) c2 c3 c4 (strv [97]) (.hs 1 o ep 0 b.length false) su _ (get_put_same _ _ _) (by rw [get_put_ne _ _ _ _ (Ne.symm n1)]; exact gm) l2 hbk (by rw [get_put_ne _ _ _ _ (Ne.symm n2)]; exact gf) l3 (fun _ => rfl) rfl (fun _ => rfl) (fun _ => rfl) (by omega)) (fun v h' hv => ?_) (fun v h' hv => ?_)
  · obtain ⟨rfl, hx1⟩ := hv
    have gd' : h'.get d = some (.cells [.int .i64 2000, .mp m, c2, c3, c4, .bool false, .int .i64 (n + 1), .int .i64 0, .int .i64 0, e]) := by rw [hx1.2 d l1, get_put_same]
    simp (disch := omega) only [go_sem, ne_eq, not_true_eq_false, not_false_eq_true, ↓reduceIte, Nat.reduceEqDiff, Nat.reduceAdd, Nat.reduceLeDiff, Int.toNat_natCast, Int.reduceToNat, and_self, Bool.not_true, Bool.not_false, Bool.false_and, Bool.and_false, Bool.true_and, Bool.and_true, Int.reduceEq, Int.reduceLT, Int.reduceLE, Int.reduceAdd, Int.reduceSub, Int.reduceNeg, decide_true, decide_false, Bool.not_true, Bool.not_false, Option.bind_some, Bool.or_true, Bool.or_false, Bool.true_or, Bool.false_or, looks, look, sees, wantedA, List.getElem?_cons_succ, List.getElem?_cons_zero, gd', eqAV, eqK, eqI_eq, cond_true, Bool.and_self, beq_self_eq_true]
  · obtain ⟨rfl, hx1⟩ := hv
    have gd' : h'.get d = some (.cells [.int .i64 2000, .mp m, c2, c3, c4, .bool false, .int .i64 (n + 1), .int .i64 0, .int .i64 0, e]) := by rw [hx1.2 d l1, get_put_same]
    have gm' : h'.get m = some (.map (kv [([97], .ptr f 0)]) [b0] ck) := by rw [hx1.2 m l2, get_put_ne _ _ _ _ (Ne.symm n1), gm]
    have gf' : h'.get f = some (.cells [.hs 1 o ep 0 b.length false, su]) := by rw [hx1.2 f l3, get_put_ne _ _ _ _ (Ne.symm n2), gf]
    have go' : h'.get o = some (.row 1 ep (b.flatMap Enc.cells)) := by rw [hx1.2 o l4, get_put_ne _ _ _ _ (Ne.symm n3), go]
    have gl' : LentAt h' o2 e2 x := by unfold LentAt; rw [hx1.2 o2 ho2, get_put_ne _ _ _ _ hne.1]; exact hl
    have hn' : h.next ≤ h'.next := hx1.1
    have w1 : decide (2000 - (b.length : Int) < (x.length : Int)) = false := by simp only [decide_eq_false_iff_not]; omega
    simp (disch := omega) only [go_sem, ne_eq, not_true_eq_false, not_false_eq_true, ↓reduceIte, Nat.reduceEqDiff, Nat.reduceAdd, Nat.reduceLeDiff, Int.toNat_natCast, Int.reduceToNat, and_self, Bool.not_true, Bool.not_false, Bool.false_and, Bool.and_false, Bool.true_and, Bool.and_true, Int.reduceEq, Int.reduceLT, Int.reduceLE, Int.reduceAdd, Int.reduceSub, Int.reduceNeg, decide_true, decide_false, Bool.not_true, Bool.not_false, Option.bind_some, Bool.or_true, Bool.or_false, Bool.true_or, Bool.false_or, w1]
    simp (disch := omega) only [go_sem, ne_eq, not_true_eq_false, not_false_eq_true, ↓reduceIte, Nat.reduceEqDiff, Nat.reduceAdd, Nat.reduceLeDiff, Int.toNat_natCast, Int.reduceToNat, and_self, Bool.not_true, Bool.not_false, Bool.false_and, Bool.and_false, Bool.true_and, Bool.and_true, Int.reduceEq, Int.reduceLT, Int.reduceLE, Int.reduceAdd, Int.reduceSub, Int.reduceNeg, decide_true, decide_false, Bool.not_true, Bool.not_false, Option.bind_some, Bool.or_true, Bool.or_false, Bool.true_or, Bool.false_or, a11r6, gf']
    refine step_app (α := UInt8) (bytes := 1) (l := b) (new := x) (Or.inr ⟨o, ep, rfl, go'⟩) (adds_lent (h := h'.reserve 1) gl' false) rfl (by simp [two47]; omega) (fun v3 h3 hr3 hn3 ho3 hf3 => ?_)
    have hrow : ∃ o' ep', v3 = .hs 1 o' ep' 0 (b ++ x).length false ∧ h3.get o' = some (.row 1 ep' ((b ++ x).flatMap Enc.cells)) ∧ (o' = o ∨ o' = h'.next) := by
      rcases hr3 with ⟨rfl, -⟩ | ⟨o', ep', rfl, hg⟩
      · rcases ho3 with ho | ho <;> cases ho
      · refine ⟨o', ep', rfl, hg, ?_⟩
        rcases ho3 with e | e
        · exact Or.inl (Option.some.inj e)
        · exact Or.inr (Option.some.inj e)
    obtain ⟨o', ep', rfl, hg', ho'⟩ := hrow
    have hn3' : h3.next = h'.next + 1 := hn3
    have f3 : ∀ q, q ≠ h'.next → q ≠ o → h3.get q = h'.get q := fun q hq1 hq2 => hf3 q hq1 (by simp only [rowOf, ne_eq, Option.some.injEq]; omega)
    have k1 : h3.get f = some (.cells [.hs 1 o ep 0 b.length false, su]) := by rw [f3 _ (by omega) (by omega), gf']
    simp (disch := omega) only [go_sem, ne_eq, not_true_eq_false, not_false_eq_true, ↓reduceIte, Nat.reduceEqDiff, Nat.reduceAdd, Nat.reduceLeDiff, Int.toNat_natCast, Int.reduceToNat, and_self, Bool.not_true, Bool.not_false, Bool.false_and, Bool.and_false, Bool.true_and, Bool.and_true, Int.reduceEq, Int.reduceLT, Int.reduceLE, Int.reduceAdd, Int.reduceSub, Int.reduceNeg, decide_true, decide_false, Bool.not_true, Bool.not_false, Option.bind_some, Bool.or_true, Bool.or_false, Bool.true_or, Bool.false_or, k1]
    simp (disch := omega) only [go_sem, ne_eq, not_true_eq_false, not_false_eq_true, ↓reduceIte, Nat.reduceEqDiff, Nat.reduceAdd, Nat.reduceLeDiff, Int.toNat_natCast, Int.reduceToNat, and_self, Bool.not_true, Bool.not_false, Bool.false_and, Bool.and_false, Bool.true_and, Bool.and_true, Int.reduceEq, Int.reduceLT, Int.reduceLE, Int.reduceAdd, Int.reduceSub, Int.reduceNeg, decide_true, decide_false, Bool.not_true, Bool.not_false, Option.bind_some, Bool.or_true, Bool.or_false, Bool.true_or, Bool.false_or, a11r7]
    have hf' : f ≠ o' := by omega
    refine ⟨trivial, ⟨o', ⟨c2, c3, c4, e, su, ep', b0, ck, ?_, ?_, hbk, get_put_same _ _ _, ?_, by omega, ?_⟩, by omega⟩, ?_, fun q hq p1 p2 p3 => ?_⟩
    · rw [get_put_ne _ _ _ _ (by omega), f3 _ (by omega) (by omega), gd']
    · rw [get_put_ne _ _ _ _ (by omega), f3 _ (by omega) (by omega), gm']
    · rw [get_put_ne _ _ _ _ (by omega), hg']
    · simp only [next_put]; omega
    · omega
    · rw [get_put_ne _ _ _ _ p2, f3 _ (by omega) p3, hx1.2 q hq, get_put_ne _ _ _ _ p1]
/-- Read, of the file that is there. -/
theorem read_fun (h : Heap) (d m f o : Nat) (b : List UInt8) (n : Int) (hD : Disk1 h d m f o b n) (hb : b.length ≤ 1000) :
    Fun PO 13 [.ptr d 0, strv [97]] h (fun v h' => ∃ w, v = .tup [w, .int .i64 0] ∧ NewRow h h' w b ∧ Ext h h') := by
  obtain ⟨c2, c3, c4, e, su, ep, b0, ck, gd, gm, hbk, gf, go, ⟨n1, n2, n3, n4, n5, n6⟩, l1, l2, l3, l4⟩ := hD
  have hg : tget [97] [(([97] : List UInt8), AV.ptr f 0)] = some (.ptr f 0) := by simp [tget]
  refine Fun.of (code := a13c) rfl rfl ?_
  simp (disch := omega) only [go_sem, ne_eq, not_true_eq_false, not_false_eq_true, ↓reduceIte, Nat.reduceEqDiff, Nat.reduceAdd, Nat.reduceLeDiff, Int.toNat_natCast, Int.reduceToNat, and_self, Bool.not_true, Bool.not_false, Bool.false_and, Bool.and_false, Bool.true_and, Bool.and_true, Int.reduceEq, Int.reduceLT, Int.reduceLE, Int.reduceAdd, Int.reduceSub, Int.reduceNeg, decide_true, decide_false, Bool.not_true, Bool.not_false, Option.bind_some, Bool.or_true, Bool.or_false, Bool.true_or, Bool.false_or, a13c, a13r0, a13r1]
  simp (disch := omega) only [go_sem, ne_eq, not_true_eq_false, not_false_eq_true, ↓reduceIte, Nat.reduceEqDiff, Nat.reduceAdd, Nat.reduceLeDiff, Int.toNat_natCast, Int.reduceToNat, and_self, Bool.not_true, Bool.not_false, Bool.false_and, Bool.and_false, Bool.true_and, Bool.and_true, Int.reduceEq, Int.reduceLT, Int.reduceLE, Int.reduceAdd, Int.reduceSub, Int.reduceNeg, decide_true, decide_false, Bool.not_true, Bool.not_false, Option.bind_some, Bool.or_true, Bool.or_false, Bool.true_or, Bool.false_or, a13r3, gd]
  simp (disch := omega) only [go_sem, ne_eq, not_true_eq_false, not_false_eq_true, ↓reduceIte, Nat.reduceEqDiff, Nat.reduceAdd, Nat.reduceLeDiff, Int.toNat_natCast, Int.reduceToNat, and_self, Bool.not_true, Bool.not_false, Bool.false_and, Bool.and_false, Bool.true_and, Bool.and_true, Int.reduceEq, Int.reduceLT, Int.reduceLE, Int.reduceAdd, Int.reduceSub, Int.reduceNeg, decide_true, decide_false, Bool.not_true, Bool.not_false, Option.bind_some, Bool.or_true, Bool.or_false, Bool.true_or, Bool.false_or, a13r5, gd, gm, hg, Option.getD_some]
  simp (disch := omega) only [go_sem, ne_eq, not_true_eq_false, not_false_eq_true, ↓reduceIte, Nat.reduceEqDiff, Nat.reduceAdd, Nat.reduceLeDiff, Int.toNat_natCast, Int.reduceToNat, and_self, Bool.not_true, Bool.not_false, Bool.false_and, Bool.and_false, Bool.true_and, Bool.and_true, Int.reduceEq, Int.reduceLT, Int.reduceLE, Int.reduceAdd, Int.reduceSub, Int.reduceNeg, decide_true, decide_false, Bool.not_true, Bool.not_false, Option.bind_some, Bool.or_true, Bool.or_false, Bool.true_or, Bool.false_or, a13r7, gd, gm, hg, gf, Option.getD_some]
  refine WO.fun (vs := [.hs 1 o ep 0 b.length false]) (by simp (disch := omega) only [go_sem, ne_eq, not_true_eq_false, not_false_eq_true, ↓reduceIte, Nat.reduceEqDiff, Nat.reduceAdd, Nat.reduceLeDiff, Int.toNat_natCast, Int.reduceToNat, and_self, Bool.not_true, Bool.not_false, Bool.false_and, Bool.and_false, Bool.true_and, Bool.and_true]) (clone_fun (P := PO) rfl rfl (.hs 1 o ep 0 b.length false) b h (by omega) (fun h'' hq => adds_row (Or.inr ⟨o, ep, rfl, (hq.2 o l4).trans go⟩)) rfl (fun _ => rfl) rfl) (fun v h' hv => ?_)
  obtain ⟨⟨oc, ec, rfl, q1, q2, q3⟩, hx⟩ := hv
  simp (disch := omega) only [go_sem, ne_eq, not_true_eq_false, not_false_eq_true, ↓reduceIte, Nat.reduceEqDiff, Nat.reduceAdd, Nat.reduceLeDiff, Int.toNat_natCast, Int.reduceToNat, and_self, Bool.not_true, Bool.not_false, Bool.false_and, Bool.and_false, Bool.true_and, Bool.and_true, Int.reduceEq, Int.reduceLT, Int.reduceLE, Int.reduceAdd, Int.reduceSub, Int.reduceNeg, decide_true, decide_false, Bool.not_true, Bool.not_false, Option.bind_some, Bool.or_true, Bool.or_false, Bool.true_or, Bool.false_or]
  exact ⟨_, rfl, ⟨oc, ec, rfl, q1, q2, q3⟩, hx⟩
end Go.Am.Dk

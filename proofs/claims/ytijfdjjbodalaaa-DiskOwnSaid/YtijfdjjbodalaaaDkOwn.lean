/- DiskOwn on the abstract machine. -/
import Derived.Test.YtijfdjjbodalaaaDkOwnD
set_option linter.unusedSimpArgs false
set_option linter.unusedVariables false
namespace Go.Am.Dk
open Go.Am
set_option maxRecDepth 20000
set_option maxHeartbeats 1000000
theorem awake_fun (h : Heap) : Fun PO 8 [] h (fun v h' => v = .bool true ∧ h' = h) := by
  refine Fun.prim (v := .bool true) (h' := h) rfl rfl ?_ ⟨rfl, rfl⟩
  rfl
theorem Disk1.ext {h h' : Heap} {d m f o : Nat} {b : List UInt8} {n : Int} (hD : Disk1 h d m f o b n) (hx : Ext h h') : Disk1 h' d m f o b n := by
  obtain ⟨c2, c3, c4, e, su, ep, b0, ck, gd, gm, hbk, gf, go, hn, l1, l2, l3, l4⟩ := hD
  have := hx.1
  exact ⟨c2, c3, c4, e, su, ep, b0, ck, (hx.2 d l1).trans gd, (hx.2 m l2).trans gm, hbk, (hx.2 f l3).trans gf, (hx.2 o l4).trans go, hn, by omega, by omega, by omega, by omega⟩
theorem Disk1.lt {h : Heap} {d m f o : Nat} {b : List UInt8} {n : Int} (hD : Disk1 h d m f o b n) : d < h.next ∧ m < h.next ∧ f < h.next ∧ o < h.next := by
  obtain ⟨c2, c3, c4, e, su, ep, b0, ck, gd, gm, hbk, gf, go, hn, l1, l2, l3, l4⟩ := hD
  exact ⟨l1, l2, l3, l4⟩
theorem wrap_u8 (c : UInt8) : wrapA .u8 ((c.toNat : Int) + 1) = ((c + 1 : UInt8).toNat : Int) := by
  have hc : c.toNat < 256 := c.toNat_lt
  have e1 : (c + 1 : UInt8).toNat = (c.toNat + 1) % 256 := by rw [UInt8.toNat_add]; rfl
  rw [e1]
  show wrapA .u8 (Int.ofNat (c.toNat + 1)) = _
  by_cases h : c.toNat = 255
  · rw [h]; decide
  · show (bif Nat.blt (c.toNat + 1) 256 then Int.ofNat (c.toNat + 1) else _) = _
    rw [show Nat.blt (c.toNat + 1) 256 = true by simp only [nblt, decide_eq_true_eq]; omega, Nat.mod_eq_of_lt (by omega)]
    rfl
theorem ld_u8 {Lr : List UInt8} {k : Nat} (hk : k < Lr.length) : ((dropN (k * 1) (Lr.flatMap Enc.cells)).bind fun r => takeN 1 r) = some [.int .u8 ((Lr.getD k default).toNat : Int)] := by
  have := sub_one (α := UInt8) (l := Lr) (i := k) rfl hk
  rw [Nat.mul_one]
  exact this
theorem st_u8 {Lr : List UInt8} {k : Nat} (hk : k < Lr.length) (c : UInt8) : over (Lr.flatMap Enc.cells) (k * 1) [.int .u8 (wrapA .u8 ((c.toNat : Int) + 1))] = some ((Lr.set k (c + 1)).flatMap Enc.cells) := by
  rw [wrap_u8]
  exact over_flat (α := UInt8) hk (c + 1)
/-- Where all but one other object is as it was. -/
theorem Disk1.other {h h' : Heap} {d m f o q : Nat} {b : List UInt8} {n : Int} (hD : Disk1 h d m f o b n) (hn : h'.next = h.next) (hq : ∀ i, i ≠ q → h'.get i = h.get i) (h1 : q ≠ d ∧ q ≠ m ∧ q ≠ f ∧ q ≠ o) : Disk1 h' d m f o b n := by
  obtain ⟨c2, c3, c4, e, su, ep, b0, ck, gd, gm, hbk, gf, go, hne, l1, l2, l3, l4⟩ := hD
  exact ⟨c2, c3, c4, e, su, ep, b0, ck, (hq d (by omega)).trans gd, (hq m (by omega)).trans gm, hbk, (hq f (by omega)).trans gf, (hq o (by omega)).trans go, hne, by omega, by omega, by omega, by omega⟩
theorem own_fun (a b : List UInt8) (na nb : Bool) (ha : a.length ≤ 9223372036854775807) (hb : b.length ≤ 9223372036854775807) : Fun PO 3 [slv na false a, slv nb false b] h0 (fun v _ => v = .bool true) := by
  refine Fun.of (code := a3c) rfl rfl ?_
  simp (disch := omega) only [go_sem, ne_eq, not_true_eq_false, not_false_eq_true, ↓reduceIte, Nat.reduceEqDiff, Nat.reduceAdd, Nat.reduceLeDiff, Int.toNat_natCast, Int.reduceToNat, and_self, Bool.not_true, Bool.not_false, Bool.false_and, Bool.and_false, Bool.true_and, Bool.and_true, Int.reduceEq, Int.reduceLT, Int.reduceLE, Int.reduceAdd, Int.reduceSub, Int.reduceNeg, decide_true, decide_false, Bool.not_true, Bool.not_false, Option.bind_some, Bool.or_true, Bool.or_false, Bool.true_or, Bool.false_or, a3c, a3r0, a3r1]
  refine guardS_pf (fun c1 w1 => ?_) (fun c1 w1 => ?_) <;> simp (disch := omega) only [go_sem, ne_eq, not_true_eq_false, not_false_eq_true, ↓reduceIte, Nat.reduceEqDiff, Nat.reduceAdd, Nat.reduceLeDiff, Int.toNat_natCast, Int.reduceToNat, and_self, Bool.not_true, Bool.not_false, Bool.false_and, Bool.and_false, Bool.true_and, Bool.and_true, Int.reduceEq, Int.reduceLT, Int.reduceLE, Int.reduceAdd, Int.reduceSub, Int.reduceNeg, decide_true, decide_false, Bool.not_true, Bool.not_false, Option.bind_some, Bool.or_true, Bool.or_false, Bool.true_or, Bool.false_or, w1]
  · refine condS_if (fun c2 => ?_) (fun c2 => ?_)
    · simp (disch := omega) only [go_sem, ne_eq, not_true_eq_false, not_false_eq_true, ↓reduceIte, Nat.reduceEqDiff, Nat.reduceAdd, Nat.reduceLeDiff, Int.toNat_natCast, Int.reduceToNat, and_self, Bool.not_true, Bool.not_false, Bool.false_and, Bool.and_false, Bool.true_and, Bool.and_true, Int.reduceEq, Int.reduceLT, Int.reduceLE, Int.reduceAdd, Int.reduceSub, Int.reduceNeg, decide_true, decide_false, Bool.not_true, Bool.not_false, Option.bind_some, Bool.or_true, Bool.or_false, Bool.true_or, Bool.false_or, a3r2]
      refine WO.fun (vs := []) (by simp (disch := omega) only [go_sem, ne_eq, not_true_eq_false, not_false_eq_true, ↓reduceIte, Nat.reduceEqDiff, Nat.reduceAdd, Nat.reduceLeDiff, Int.toNat_natCast, Int.reduceToNat, and_self, Bool.not_true, Bool.not_false, Bool.false_and, Bool.and_false, Bool.true_and, Bool.and_true]) (awake_fun _) (fun v h' hv => ?_)
      obtain ⟨rfl, rfl⟩ := hv
      simp (disch := omega) only [go_sem, ne_eq, not_true_eq_false, not_false_eq_true, ↓reduceIte, Nat.reduceEqDiff, Nat.reduceAdd, Nat.reduceLeDiff, Int.toNat_natCast, Int.reduceToNat, and_self, Bool.not_true, Bool.not_false, Bool.false_and, Bool.and_false, Bool.true_and, Bool.and_true, Int.reduceEq, Int.reduceLT, Int.reduceLE, Int.reduceAdd, Int.reduceSub, Int.reduceNeg, decide_true, decide_false, Bool.not_true, Bool.not_false, Option.bind_some, Bool.or_true, Bool.or_false, Bool.true_or, Bool.false_or]
    · simp (disch := omega) only [go_sem, ne_eq, not_true_eq_false, not_false_eq_true, ↓reduceIte, Nat.reduceEqDiff, Nat.reduceAdd, Nat.reduceLeDiff, Int.toNat_natCast, Int.reduceToNat, and_self, Bool.not_true, Bool.not_false, Bool.false_and, Bool.and_false, Bool.true_and, Bool.and_true, Int.reduceEq, Int.reduceLT, Int.reduceLE, Int.reduceAdd, Int.reduceSub, Int.reduceNeg, decide_true, decide_false, Bool.not_true, Bool.not_false, Option.bind_some, Bool.or_true, Bool.or_false, Bool.true_or, Bool.false_or, a3r3]
      refine WO.fun (vs := [slv na false a]) (by simp (disch := omega) only [go_sem, ne_eq, not_true_eq_false, not_false_eq_true, ↓reduceIte, Nat.reduceEqDiff, Nat.reduceAdd, Nat.reduceLeDiff, Int.toNat_natCast, Int.reduceToNat, and_self, Bool.not_true, Bool.not_false, Bool.false_and, Bool.and_false, Bool.true_and, Bool.and_true]) (lent_fun (P := PO) rfl rfl a na false (by omega) _) (fun v hA hv => ?_)
      obtain ⟨o1, e1, rfl, l1, l2, gin, hx1⟩ := hv
      simp (disch := omega) only [go_sem, ne_eq, not_true_eq_false, not_false_eq_true, ↓reduceIte, Nat.reduceEqDiff, Nat.reduceAdd, Nat.reduceLeDiff, Int.toNat_natCast, Int.reduceToNat, and_self, Bool.not_true, Bool.not_false, Bool.false_and, Bool.and_false, Bool.true_and, Bool.and_true, Int.reduceEq, Int.reduceLT, Int.reduceLE, Int.reduceAdd, Int.reduceSub, Int.reduceNeg, decide_true, decide_false, Bool.not_true, Bool.not_false, Option.bind_some, Bool.or_true, Bool.or_false, Bool.true_or, Bool.false_or]
      simp (disch := omega) only [go_sem, ne_eq, not_true_eq_false, not_false_eq_true, ↓reduceIte, Nat.reduceEqDiff, Nat.reduceAdd, Nat.reduceLeDiff, Int.toNat_natCast, Int.reduceToNat, and_self, Bool.not_true, Bool.not_false, Bool.false_and, Bool.and_false, Bool.true_and, Bool.and_true, Int.reduceEq, Int.reduceLT, Int.reduceLE, Int.reduceAdd, Int.reduceSub, Int.reduceNeg, decide_true, decide_false, Bool.not_true, Bool.not_false, Option.bind_some, Bool.or_true, Bool.or_false, Bool.true_or, Bool.false_or, a3r4]
      refine WO.fun (vs := [.sl 2 1 (fun i => List.take 2 (List.drop (i * 2) [strv [97], AV.hs 1 o1 e1 0 a.length false])) true, .int .i64 2000]) (by simp (disch := omega) only [go_sem, ne_eq, not_true_eq_false, not_false_eq_true, ↓reduceIte, Nat.reduceEqDiff, Nat.reduceAdd, Nat.reduceLeDiff, Int.toNat_natCast, Int.reduceToNat, and_self, Bool.not_true, Bool.not_false, Bool.false_and, Bool.and_false, Bool.true_and, Bool.and_true]) (new_fun _ o1 e1 a hA (by omega) rfl l2 gin) (fun v hB hv => ?_)
      obtain ⟨d, m, f, o, rfl, hD, ⟨m1, m2, m3, m4⟩, hx2⟩ := hv
      simp (disch := omega) only [go_sem, ne_eq, not_true_eq_false, not_false_eq_true, ↓reduceIte, Nat.reduceEqDiff, Nat.reduceAdd, Nat.reduceLeDiff, Int.toNat_natCast, Int.reduceToNat, and_self, Bool.not_true, Bool.not_false, Bool.false_and, Bool.and_false, Bool.true_and, Bool.and_true, Int.reduceEq, Int.reduceLT, Int.reduceLE, Int.reduceAdd, Int.reduceSub, Int.reduceNeg, decide_true, decide_false, Bool.not_true, Bool.not_false, Option.bind_some, Bool.or_true, Bool.or_false, Bool.true_or, Bool.false_or]
      simp (disch := omega) only [go_sem, ne_eq, not_true_eq_false, not_false_eq_true, ↓reduceIte, Nat.reduceEqDiff, Nat.reduceAdd, Nat.reduceLeDiff, Int.toNat_natCast, Int.reduceToNat, and_self, Bool.not_true, Bool.not_false, Bool.false_and, Bool.and_false, Bool.true_and, Bool.and_true, Int.reduceEq, Int.reduceLT, Int.reduceLE, Int.reduceAdd, Int.reduceSub, Int.reduceNeg, decide_true, decide_false, Bool.not_true, Bool.not_false, Option.bind_some, Bool.or_true, Bool.or_false, Bool.true_or, Bool.false_or, a3r5]
      refine WO.fun (vs := [slv nb false b]) (by simp (disch := omega) only [go_sem, ne_eq, not_true_eq_false, not_false_eq_true, ↓reduceIte, Nat.reduceEqDiff, Nat.reduceAdd, Nat.reduceLeDiff, Int.toNat_natCast, Int.reduceToNat, and_self, Bool.not_true, Bool.not_false, Bool.false_and, Bool.and_false, Bool.true_and, Bool.and_true]) (lent_fun (P := PO) rfl rfl b nb false (by omega) _) (fun v hC hv => ?_)
      obtain ⟨o2, e2, rfl, l3, l4, gadd, hx3⟩ := hv
      simp (disch := omega) only [go_sem, ne_eq, not_true_eq_false, not_false_eq_true, ↓reduceIte, Nat.reduceEqDiff, Nat.reduceAdd, Nat.reduceLeDiff, Int.toNat_natCast, Int.reduceToNat, and_self, Bool.not_true, Bool.not_false, Bool.false_and, Bool.and_false, Bool.true_and, Bool.and_true, Int.reduceEq, Int.reduceLT, Int.reduceLE, Int.reduceAdd, Int.reduceSub, Int.reduceNeg, decide_true, decide_false, Bool.not_true, Bool.not_false, Option.bind_some, Bool.or_true, Bool.or_false, Bool.true_or, Bool.false_or]
      have hD3 : Disk1 hC d m f o a 0 := hD.ext hx3
      have hDl := hD.lt
      have gin3 : LentAt hC o1 e1 a := (gin.ext hx2 l2).ext hx3 (Nat.lt_of_lt_of_le l2 hx2.1)
      have hAB : hA.next ≤ hB.next := hx2.1
      have hBC : hB.next ≤ hC.next := hx3.1
      have l3' : hB.next ≤ o2 := l3
      have m1' : hA.next ≤ d := m1
      have m2' : hA.next ≤ m := m2
      have m3' : hA.next ≤ f := m3
      have m4' : hA.next ≤ o := m4
      simp (disch := omega) only [go_sem, ne_eq, not_true_eq_false, not_false_eq_true, ↓reduceIte, Nat.reduceEqDiff, Nat.reduceAdd, Nat.reduceLeDiff, Int.toNat_natCast, Int.reduceToNat, and_self, Bool.not_true, Bool.not_false, Bool.false_and, Bool.and_false, Bool.true_and, Bool.and_true, Int.reduceEq, Int.reduceLT, Int.reduceLE, Int.reduceAdd, Int.reduceSub, Int.reduceNeg, decide_true, decide_false, Bool.not_true, Bool.not_false, Option.bind_some, Bool.or_true, Bool.or_false, Bool.true_or, Bool.false_or, a3r6]
      refine WO.fun (vs := [.ptr d 0, strv [97], .hs 1 o2 e2 0 b.length false]) (by simp (disch := omega) only [go_sem, ne_eq, not_true_eq_false, not_false_eq_true, ↓reduceIte, Nat.reduceEqDiff, Nat.reduceAdd, Nat.reduceLeDiff, Int.toNat_natCast, Int.reduceToNat, and_self, Bool.not_true, Bool.not_false, Bool.false_and, Bool.and_false, Bool.true_and, Bool.and_true]) (append_fun hC d m f o a 0 hD3 o2 e2 b gadd l4 (by omega) (by omega) (by omega) (by omega) (by omega)) (fun v hE hv => ?_)
      obtain ⟨rfl, ⟨o', hD4, ho'⟩, hCE, f4⟩ := hv
      have gin4 : LentAt hE o1 e1 a := (f4 o1 (by omega) (by omega) (by omega) (by omega)).trans gin3
      have gadd4 : LentAt hE o2 e2 b := (f4 o2 (by omega) (by omega) (by omega) (by omega)).trans gadd
      simp (disch := omega) only [go_sem, ne_eq, not_true_eq_false, not_false_eq_true, ↓reduceIte, Nat.reduceEqDiff, Nat.reduceAdd, Nat.reduceLeDiff, Int.toNat_natCast, Int.reduceToNat, and_self, Bool.not_true, Bool.not_false, Bool.false_and, Bool.and_false, Bool.true_and, Bool.and_true, Int.reduceEq, Int.reduceLT, Int.reduceLE, Int.reduceAdd, Int.reduceSub, Int.reduceNeg, decide_true, decide_false, Bool.not_true, Bool.not_false, Option.bind_some, Bool.or_true, Bool.or_false, Bool.true_or, Bool.false_or]
      refine WO.fun (vs := [.hs 1 o1 e1 0 a.length false, slv na false a]) (by simp (disch := omega) only [go_sem, ne_eq, not_true_eq_false, not_false_eq_true, ↓reduceIte, Nat.reduceEqDiff, Nat.reduceAdd, Nat.reduceLeDiff, Int.toNat_natCast, Int.reduceToNat, and_self, Bool.not_true, Bool.not_false, Bool.false_and, Bool.and_false, Bool.true_and, Bool.and_true]) (kept_fun (P := PO) rfl rfl rfl rfl a na false (by omega) hE o1 e1 gin4) (fun v h' hv => ?_)
      obtain ⟨rfl, rfl⟩ := hv
      simp (disch := omega) only [go_sem, ne_eq, not_true_eq_false, not_false_eq_true, ↓reduceIte, Nat.reduceEqDiff, Nat.reduceAdd, Nat.reduceLeDiff, Int.toNat_natCast, Int.reduceToNat, and_self, Bool.not_true, Bool.not_false, Bool.false_and, Bool.and_false, Bool.true_and, Bool.and_true, Int.reduceEq, Int.reduceLT, Int.reduceLE, Int.reduceAdd, Int.reduceSub, Int.reduceNeg, decide_true, decide_false, Bool.not_true, Bool.not_false, Option.bind_some, Bool.or_true, Bool.or_false, Bool.true_or, Bool.false_or]
      refine WO.fun (vs := [.hs 1 o2 e2 0 b.length false, slv nb false b]) (by simp (disch := omega) only [go_sem, ne_eq, not_true_eq_false, not_false_eq_true, ↓reduceIte, Nat.reduceEqDiff, Nat.reduceAdd, Nat.reduceLeDiff, Int.toNat_natCast, Int.reduceToNat, and_self, Bool.not_true, Bool.not_false, Bool.false_and, Bool.and_false, Bool.true_and, Bool.and_true]) (kept_fun (P := PO) rfl rfl rfl rfl b nb false (by omega) h' o2 e2 gadd4) (fun v h'' hv => ?_)
      obtain ⟨rfl, rfl⟩ := hv
      simp (disch := omega) only [go_sem, ne_eq, not_true_eq_false, not_false_eq_true, ↓reduceIte, Nat.reduceEqDiff, Nat.reduceAdd, Nat.reduceLeDiff, Int.toNat_natCast, Int.reduceToNat, and_self, Bool.not_true, Bool.not_false, Bool.false_and, Bool.and_false, Bool.true_and, Bool.and_true, Int.reduceEq, Int.reduceLT, Int.reduceLE, Int.reduceAdd, Int.reduceSub, Int.reduceNeg, decide_true, decide_false, Bool.not_true, Bool.not_false, Option.bind_some, Bool.or_true, Bool.or_false, Bool.true_or, Bool.false_or]
      simp (disch := omega) only [go_sem, ne_eq, not_true_eq_false, not_false_eq_true, ↓reduceIte, Nat.reduceEqDiff, Nat.reduceAdd, Nat.reduceLeDiff, Int.toNat_natCast, Int.reduceToNat, and_self, Bool.not_true, Bool.not_false, Bool.false_and, Bool.and_false, Bool.true_and, Bool.and_true, Int.reduceEq, Int.reduceLT, Int.reduceLE, Int.reduceAdd, Int.reduceSub, Int.reduceNeg, decide_true, decide_false, Bool.not_true, Bool.not_false, Option.bind_some, Bool.or_true, Bool.or_false, Bool.true_or, Bool.false_or, a3r8]
      have hlen1 : (a ++ [77, 78, 79]).length = a.length + 3 := by simp
      refine Wp_loop (fun x : Nat × Nat × Heap => x.2.1 ≤ a.length ∧ (∃ Lr : List UInt8, Lr.length = a.length + 3 ∧ x.2.2.get o1 = some (.row 1 e1 (Lr.flatMap Enc.cells))) ∧ x.2.2.next = h''.next ∧ ∀ i, i ≠ o1 → x.2.2.get i = h''.get i)
        (fun (t, k, hh) => { fr := [(0, slv na false a), (1, slv nb false b), (5, .hs 1 o1 e1 0 a.length false), (6, .ptr d 0), (7, .hs 1 o2 e2 0 b.length false), (8, .int .i64 k)], st := t, h := hh }) (fun x => a.length - x.2.1) (0, 0, h'') rfl ⟨by simp, ⟨_, hlen1, gin4⟩, rfl, fun i _ => rfl⟩ ?_
      rintro ⟨t, k, hh⟩ ⟨g1, ⟨Lr, g2, g3⟩, g4, g5⟩
      simp only at g1 g2 g3 g4 g5
      simp (disch := omega) only [go_sem, ne_eq, not_true_eq_false, not_false_eq_true, ↓reduceIte, Nat.reduceEqDiff, Nat.reduceAdd, Nat.reduceLeDiff, Int.toNat_natCast, Int.reduceToNat, and_self, Bool.not_true, Bool.not_false, Bool.false_and, Bool.and_false, Bool.true_and, Bool.and_true, Int.reduceEq, Int.reduceLT, Int.reduceLE, Int.reduceAdd, Int.reduceSub, Int.reduceNeg, decide_true, decide_false, Bool.not_true, Bool.not_false, Option.bind_some, Bool.or_true, Bool.or_false, Bool.true_or, Bool.false_or, a3l0, a3r9]
      refine condS_if (fun hk => ?_) (fun hk => ?_)
      · have hk' : k < a.length := by omega
        have r1 := ld_u8 (Lr := Lr) (k := k) (by omega)
        have r2 := st_u8 (Lr := Lr) (k := k) (by omega) (Lr.getD k default)
        simp (disch := omega) only [go_sem, ne_eq, not_true_eq_false, not_false_eq_true, ↓reduceIte, Nat.reduceEqDiff, Nat.reduceAdd, Nat.reduceLeDiff, Int.toNat_natCast, Int.reduceToNat, and_self, Bool.not_true, Bool.not_false, Bool.false_and, Bool.and_false, Bool.true_and, Bool.and_true, Int.reduceEq, Int.reduceLT, Int.reduceLE, Int.reduceAdd, Int.reduceSub, Int.reduceNeg, decide_true, decide_false, Bool.not_true, Bool.not_false, Option.bind_some, Bool.or_true, Bool.or_false, Bool.true_or, Bool.false_or, a3r10, g3, r1, r2]
        simp (disch := omega) only [go_sem, ne_eq, not_true_eq_false, not_false_eq_true, ↓reduceIte, Nat.reduceEqDiff, Nat.reduceAdd, Nat.reduceLeDiff, Int.toNat_natCast, Int.reduceToNat, and_self, Bool.not_true, Bool.not_false, Bool.false_and, Bool.and_false, Bool.true_and, Bool.and_true, Int.reduceEq, Int.reduceLT, Int.reduceLE, Int.reduceAdd, Int.reduceSub, Int.reduceNeg, decide_true, decide_false, Bool.not_true, Bool.not_false, Option.bind_some, Bool.or_true, Bool.or_false, Bool.true_or, Bool.false_or, a3r11]
        refine ⟨(t, k + 1, hh.put o1 (.row 1 e1 ((Lr.set k (Lr.getD k default + 1)).flatMap Enc.cells))), ⟨by simp only; omega, ⟨Lr.set k (Lr.getD k default + 1), by simp only [List.length_set]; exact g2, get_put_same _ _ _⟩, g4, fun i hi => ?_⟩, by simp only; omega, rfl⟩
        exact (get_put_ne _ _ _ _ hi).trans (g5 i hi)
      · have hD5 : Disk1 hh d m f o' (a ++ b) (0 + 1) := hD4.other g4 g5 (by omega)
        have gadd5 : LentAt hh o2 e2 b := (g5 o2 (by omega)).trans gadd4
        simp (disch := omega) only [go_sem, ne_eq, not_true_eq_false, not_false_eq_true, ↓reduceIte, Nat.reduceEqDiff, Nat.reduceAdd, Nat.reduceLeDiff, Int.toNat_natCast, Int.reduceToNat, and_self, Bool.not_true, Bool.not_false, Bool.false_and, Bool.and_false, Bool.true_and, Bool.and_true, Int.reduceEq, Int.reduceLT, Int.reduceLE, Int.reduceAdd, Int.reduceSub, Int.reduceNeg, decide_true, decide_false, Bool.not_true, Bool.not_false, Option.bind_some, Bool.or_true, Bool.or_false, Bool.true_or, Bool.false_or, a3r12]
        have hlen2 : (b ++ [77, 78, 79]).length = b.length + 3 := by simp
        refine Wp_loop (fun x : Nat × Nat × Heap => x.2.1 ≤ b.length ∧ (∃ Lr : List UInt8, Lr.length = b.length + 3 ∧ x.2.2.get o2 = some (.row 1 e2 (Lr.flatMap Enc.cells))) ∧ x.2.2.next = hh.next ∧ ∀ i, i ≠ o2 → x.2.2.get i = hh.get i)
          (fun (t, k, hh) => { fr := [(0, slv na false a), (1, slv nb false b), (6, .ptr d 0), (7, .hs 1 o2 e2 0 b.length false), (9, .int .i64 k)], st := t, h := hh }) (fun x => b.length - x.2.1) (t, 0, hh) rfl ⟨by simp, ⟨_, hlen2, gadd5⟩, rfl, fun i _ => rfl⟩ ?_
        rintro ⟨t, k, hi⟩ ⟨p1, ⟨Lr, p2, p3⟩, p4, p5⟩
        simp only at p1 p2 p3 p4 p5
        simp (disch := omega) only [go_sem, ne_eq, not_true_eq_false, not_false_eq_true, ↓reduceIte, Nat.reduceEqDiff, Nat.reduceAdd, Nat.reduceLeDiff, Int.toNat_natCast, Int.reduceToNat, and_self, Bool.not_true, Bool.not_false, Bool.false_and, Bool.and_false, Bool.true_and, Bool.and_true, Int.reduceEq, Int.reduceLT, Int.reduceLE, Int.reduceAdd, Int.reduceSub, Int.reduceNeg, decide_true, decide_false, Bool.not_true, Bool.not_false, Option.bind_some, Bool.or_true, Bool.or_false, Bool.true_or, Bool.false_or, a3l1, a3r13]
        refine condS_if (fun hk => ?_) (fun hk => ?_)
        · have hk' : k < b.length := by omega
          have r1 := ld_u8 (Lr := Lr) (k := k) (by omega)
          have r2 := st_u8 (Lr := Lr) (k := k) (by omega) (Lr.getD k default)
          simp (disch := omega) only [go_sem, ne_eq, not_true_eq_false, not_false_eq_true, ↓reduceIte, Nat.reduceEqDiff, Nat.reduceAdd, Nat.reduceLeDiff, Int.toNat_natCast, Int.reduceToNat, and_self, Bool.not_true, Bool.not_false, Bool.false_and, Bool.and_false, Bool.true_and, Bool.and_true, Int.reduceEq, Int.reduceLT, Int.reduceLE, Int.reduceAdd, Int.reduceSub, Int.reduceNeg, decide_true, decide_false, Bool.not_true, Bool.not_false, Option.bind_some, Bool.or_true, Bool.or_false, Bool.true_or, Bool.false_or, a3r14, p3, r1, r2]
          simp (disch := omega) only [go_sem, ne_eq, not_true_eq_false, not_false_eq_true, ↓reduceIte, Nat.reduceEqDiff, Nat.reduceAdd, Nat.reduceLeDiff, Int.toNat_natCast, Int.reduceToNat, and_self, Bool.not_true, Bool.not_false, Bool.false_and, Bool.and_false, Bool.true_and, Bool.and_true, Int.reduceEq, Int.reduceLT, Int.reduceLE, Int.reduceAdd, Int.reduceSub, Int.reduceNeg, decide_true, decide_false, Bool.not_true, Bool.not_false, Option.bind_some, Bool.or_true, Bool.or_false, Bool.true_or, Bool.false_or, a3r15]
          refine ⟨(t, k + 1, hi.put o2 (.row 1 e2 ((Lr.set k (Lr.getD k default + 1)).flatMap Enc.cells))), ⟨by simp only; omega, ⟨Lr.set k (Lr.getD k default + 1), by simp only [List.length_set]; exact p2, get_put_same _ _ _⟩, p4, fun i hi => ?_⟩, by simp only; omega, rfl⟩
          exact (get_put_ne _ _ _ _ hi).trans (p5 i hi)
        · have hD6 : Disk1 hi d m f o' (a ++ b) (0 + 1) := hD5.other p4 p5 (by omega)
          simp (disch := omega) only [go_sem, ne_eq, not_true_eq_false, not_false_eq_true, ↓reduceIte, Nat.reduceEqDiff, Nat.reduceAdd, Nat.reduceLeDiff, Int.toNat_natCast, Int.reduceToNat, and_self, Bool.not_true, Bool.not_false, Bool.false_and, Bool.and_false, Bool.true_and, Bool.and_true, Int.reduceEq, Int.reduceLT, Int.reduceLE, Int.reduceAdd, Int.reduceSub, Int.reduceNeg, decide_true, decide_false, Bool.not_true, Bool.not_false, Option.bind_some, Bool.or_true, Bool.or_false, Bool.true_or, Bool.false_or, a3r16]
          refine WO.fun (vs := [.ptr d 0, strv [97]]) (by simp (disch := omega) only [go_sem, ne_eq, not_true_eq_false, not_false_eq_true, ↓reduceIte, Nat.reduceEqDiff, Nat.reduceAdd, Nat.reduceLeDiff, Int.toNat_natCast, Int.reduceToNat, and_self, Bool.not_true, Bool.not_false, Bool.false_and, Bool.and_false, Bool.true_and, Bool.and_true]) (read_fun hi d m f o' (a ++ b) (0 + 1) hD6 (by simp; omega)) (fun v hF hv => ?_)
          obtain ⟨_, rfl, ⟨o3, e3, rfl, l5, l6, g7⟩, hx5⟩ := hv
          have hD7 : Disk1 hF d m f o' (a ++ b) (0 + 1) := hD6.ext hx5
          have hl6 := hD6.lt
          have l5' : hi.next ≤ o3 := l5
          simp (disch := omega) only [go_sem, ne_eq, not_true_eq_false, not_false_eq_true, ↓reduceIte, Nat.reduceEqDiff, Nat.reduceAdd, Nat.reduceLeDiff, Int.toNat_natCast, Int.reduceToNat, and_self, Bool.not_true, Bool.not_false, Bool.false_and, Bool.and_false, Bool.true_and, Bool.and_true, Int.reduceEq, Int.reduceLT, Int.reduceLE, Int.reduceAdd, Int.reduceSub, Int.reduceNeg, decide_true, decide_false, Bool.not_true, Bool.not_false, Option.bind_some, Bool.or_true, Bool.or_false, Bool.true_or, Bool.false_or]
          simp (disch := omega) only [go_sem, ne_eq, not_true_eq_false, not_false_eq_true, ↓reduceIte, Nat.reduceEqDiff, Nat.reduceAdd, Nat.reduceLeDiff, Int.toNat_natCast, Int.reduceToNat, and_self, Bool.not_true, Bool.not_false, Bool.false_and, Bool.and_false, Bool.true_and, Bool.and_true, Int.reduceEq, Int.reduceLT, Int.reduceLE, Int.reduceAdd, Int.reduceSub, Int.reduceNeg, decide_true, decide_false, Bool.not_true, Bool.not_false, Option.bind_some, Bool.or_true, Bool.or_false, Bool.true_or, Bool.false_or, a3r17]
          refine Wp_loop (fun x : Nat × Nat × Heap => x.2.1 ≤ (a ++ b).length ∧ (∃ Lr : List UInt8, Lr.length = (a ++ b).length ∧ x.2.2.get o3 = some (.row 1 e3 (Lr.flatMap Enc.cells))) ∧ x.2.2.next = hF.next ∧ ∀ i, i ≠ o3 → x.2.2.get i = hF.get i)
            (fun (t, k, hh) => { fr := [(0, slv na false a), (1, slv nb false b), (6, .ptr d 0), (10, .hs 1 o3 e3 0 (a ++ b).length false), (12, .int .i64 k)], st := t, h := hh }) (fun x => (a ++ b).length - x.2.1) (t, 0, hF) rfl ⟨by simp, ⟨_, rfl, g7⟩, rfl, fun i _ => rfl⟩ ?_
          rintro ⟨t, k, hj⟩ ⟨u1, ⟨Lr, u2, u3⟩, u4, u5⟩
          simp only at u1 u2 u3 u4 u5
          simp (disch := omega) only [go_sem, ne_eq, not_true_eq_false, not_false_eq_true, ↓reduceIte, Nat.reduceEqDiff, Nat.reduceAdd, Nat.reduceLeDiff, Int.toNat_natCast, Int.reduceToNat, and_self, Bool.not_true, Bool.not_false, Bool.false_and, Bool.and_false, Bool.true_and, Bool.and_true, Int.reduceEq, Int.reduceLT, Int.reduceLE, Int.reduceAdd, Int.reduceSub, Int.reduceNeg, decide_true, decide_false, Bool.not_true, Bool.not_false, Option.bind_some, Bool.or_true, Bool.or_false, Bool.true_or, Bool.false_or, a3l2, a3r18]
          have hab : (a ++ b).length ≤ 1000 := by simp; omega
          refine condS_if (fun hk => ?_) (fun hk => ?_)
          · have hk' : k < (a ++ b).length := by omega
            have r1 := ld_u8 (Lr := Lr) (k := k) (by omega)
            have r2 := st_u8 (Lr := Lr) (k := k) (by omega) (Lr.getD k default)
            simp (disch := omega) only [go_sem, ne_eq, not_true_eq_false, not_false_eq_true, ↓reduceIte, Nat.reduceEqDiff, Nat.reduceAdd, Nat.reduceLeDiff, Int.toNat_natCast, Int.reduceToNat, and_self, Bool.not_true, Bool.not_false, Bool.false_and, Bool.and_false, Bool.true_and, Bool.and_true, Int.reduceEq, Int.reduceLT, Int.reduceLE, Int.reduceAdd, Int.reduceSub, Int.reduceNeg, decide_true, decide_false, Bool.not_true, Bool.not_false, Option.bind_some, Bool.or_true, Bool.or_false, Bool.true_or, Bool.false_or, a3r19, u3, r1, r2]
            simp (disch := omega) only [go_sem, ne_eq, not_true_eq_false, not_false_eq_true, ↓reduceIte, Nat.reduceEqDiff, Nat.reduceAdd, Nat.reduceLeDiff, Int.toNat_natCast, Int.reduceToNat, and_self, Bool.not_true, Bool.not_false, Bool.false_and, Bool.and_false, Bool.true_and, Bool.and_true, Int.reduceEq, Int.reduceLT, Int.reduceLE, Int.reduceAdd, Int.reduceSub, Int.reduceNeg, decide_true, decide_false, Bool.not_true, Bool.not_false, Option.bind_some, Bool.or_true, Bool.or_false, Bool.true_or, Bool.false_or, a3r20]
            refine ⟨(t, k + 1, hj.put o3 (.row 1 e3 ((Lr.set k (Lr.getD k default + 1)).flatMap Enc.cells))), ⟨by simp only; omega, ⟨Lr.set k (Lr.getD k default + 1), by simp only [List.length_set]; exact u2, get_put_same _ _ _⟩, u4, fun i hi => ?_⟩, by simp only; omega, rfl⟩
            exact (get_put_ne _ _ _ _ hi).trans (u5 i hi)
          · have hD8 : Disk1 hj d m f o' (a ++ b) (0 + 1) := hD7.other u4 u5 (by omega)
            simp (disch := omega) only [go_sem, ne_eq, not_true_eq_false, not_false_eq_true, ↓reduceIte, Nat.reduceEqDiff, Nat.reduceAdd, Nat.reduceLeDiff, Int.toNat_natCast, Int.reduceToNat, and_self, Bool.not_true, Bool.not_false, Bool.false_and, Bool.and_false, Bool.true_and, Bool.and_true, Int.reduceEq, Int.reduceLT, Int.reduceLE, Int.reduceAdd, Int.reduceSub, Int.reduceNeg, decide_true, decide_false, Bool.not_true, Bool.not_false, Option.bind_some, Bool.or_true, Bool.or_false, Bool.true_or, Bool.false_or, a3r21]
            refine WO.fun (vs := [.ptr d 0, strv [97]]) (by simp (disch := omega) only [go_sem, ne_eq, not_true_eq_false, not_false_eq_true, ↓reduceIte, Nat.reduceEqDiff, Nat.reduceAdd, Nat.reduceLeDiff, Int.toNat_natCast, Int.reduceToNat, and_self, Bool.not_true, Bool.not_false, Bool.false_and, Bool.and_false, Bool.true_and, Bool.and_true]) (read_fun hj d m f o' (a ++ b) (0 + 1) hD8 hab) (fun v hG hv => ?_)
            obtain ⟨_, rfl, ⟨o4, e4, rfl, l7, l8, g8⟩, hx6⟩ := hv
            simp (disch := omega) only [go_sem, ne_eq, not_true_eq_false, not_false_eq_true, ↓reduceIte, Nat.reduceEqDiff, Nat.reduceAdd, Nat.reduceLeDiff, Int.toNat_natCast, Int.reduceToNat, and_self, Bool.not_true, Bool.not_false, Bool.false_and, Bool.and_false, Bool.true_and, Bool.and_true, Int.reduceEq, Int.reduceLT, Int.reduceLE, Int.reduceAdd, Int.reduceSub, Int.reduceNeg, decide_true, decide_false, Bool.not_true, Bool.not_false, Option.bind_some, Bool.or_true, Bool.or_false, Bool.true_or, Bool.false_or]
            simp (disch := omega) only [go_sem, ne_eq, not_true_eq_false, not_false_eq_true, ↓reduceIte, Nat.reduceEqDiff, Nat.reduceAdd, Nat.reduceLeDiff, Int.toNat_natCast, Int.reduceToNat, and_self, Bool.not_true, Bool.not_false, Bool.false_and, Bool.and_false, Bool.true_and, Bool.and_true, Int.reduceEq, Int.reduceLT, Int.reduceLE, Int.reduceAdd, Int.reduceSub, Int.reduceNeg, decide_true, decide_false, Bool.not_true, Bool.not_false, Option.bind_some, Bool.or_true, Bool.or_false, Bool.true_or, Bool.false_or, a3r22]
            refine step_app (α := UInt8) (bytes := 1) (l := []) (new := a) (Or.inr ⟨hG.next, 0, rfl, get_put_same _ _ _⟩) (adds_slv _ _ _ _) rfl (by simp [two47]; omega) (fun v1 h1 hr1 hn1 ho1 hf1 => ?_)
            rw [List.nil_append] at hr1
            have hev1 : ∀ i, evS i (some v1) = some v1 := fun i => by rcases hr1 with ⟨rfl, -⟩ | ⟨o, ep, rfl, -⟩ <;> rfl
            have hro1 : ∀ q, rowOf v1 = some q → q = hG.next ∨ q = hG.next + 1 := fun q hq => by
              rcases ho1 with e | e
              · rw [e] at hq; exact Or.inl (Option.some.inj hq).symm
              · rw [e] at hq; exact Or.inr (Option.some.inj hq).symm
            simp (disch := omega) only [go_sem, ne_eq, not_true_eq_false, not_false_eq_true, ↓reduceIte, Nat.reduceEqDiff, Nat.reduceAdd, Nat.reduceLeDiff, Int.toNat_natCast, Int.reduceToNat, and_self, Bool.not_true, Bool.not_false, Bool.false_and, Bool.and_false, Bool.true_and, Bool.and_true, Int.reduceEq, Int.reduceLT, Int.reduceLE, Int.reduceAdd, Int.reduceSub, Int.reduceNeg, decide_true, decide_false, Bool.not_true, Bool.not_false, Option.bind_some, Bool.or_true, Bool.or_false, Bool.true_or, Bool.false_or, hev1]
            refine step_app (α := UInt8) (bytes := 1) (l := a) (new := b) (by exact hr1) (adds_slv _ _ _ _) rfl (by simp [two47]; omega) (fun v2 h2 hr2 hn2 ho2 hf2 => ?_)
            have hev2 : ∀ i, evS i (some v2) = some v2 := fun i => by rcases hr2 with ⟨rfl, -⟩ | ⟨o, ep, rfl, -⟩ <;> rfl
            have hdt2 : datW (some v2) = some v2 := by rcases hr2 with ⟨rfl, -⟩ | ⟨o, ep, rfl, -⟩ <;> rfl
            have l8' : o4 < hG.next := l8
            have g9 : h2.get o4 = some (.row 1 e4 ((a ++ b).flatMap Enc.cells)) := by
              rw [hf2 o4 (by omega) (fun hq => by rcases hro1 o4 hq with e | e <;> omega), hf1 o4 (by omega) (by simp only [rowOf, ne_eq, Option.some.injEq]; omega), get_put_ne _ _ _ _ (by omega)]
              exact g8
            have e0 : frz h2 0 40 (.hs 1 o4 e4 0 (a ++ b).length false) = slv false false (a ++ b) :=
              (frz_hs (α := UInt8) (off := 0) (len := (a ++ b).length) (N := 0) (n := 39) (full := false) (l := a ++ b) g9 (by omega) (Nat.zero_le _)).trans (by rw [List.drop_zero, List.take_of_length_le (Nat.le_refl _)])
            obtain ⟨nl2, e1⟩ := hr2.back (N := 0) (fun _ _ => Nat.zero_le _) 39
            simp (disch := omega) only [go_sem, ne_eq, not_true_eq_false, not_false_eq_true, ↓reduceIte, Nat.reduceEqDiff, Nat.reduceAdd, Nat.reduceLeDiff, Int.toNat_natCast, Int.reduceToNat, and_self, Bool.not_true, Bool.not_false, Bool.false_and, Bool.and_false, Bool.true_and, Bool.and_true, Int.reduceEq, Int.reduceLT, Int.reduceLE, Int.reduceAdd, Int.reduceSub, Int.reduceNeg, decide_true, decide_false, Bool.not_true, Bool.not_false, Option.bind_some, Bool.or_true, Bool.or_false, Bool.true_or, Bool.false_or, hev2, hdt2]
            refine WO.den (k := 1) (vs := [.hs 1 o4 e4 0 (a ++ b).length false, v2]) rfl (by simp (disch := omega) only [go_sem, ne_eq, not_true_eq_false, not_false_eq_true, ↓reduceIte, Nat.reduceEqDiff, Nat.reduceAdd, Nat.reduceLeDiff, Int.toNat_natCast, Int.reduceToNat, and_self, Bool.not_true, Bool.not_false, Bool.false_and, Bool.and_false, Bool.true_and, Bool.and_true, hev2, hdt2]) (R := fun v => v = .bool true) ?_ (fun v hv => ?_) (fun v hv => ?_)
            · simp only [lent_11, List.map_cons, List.map_nil, e0, e1]
              exact (same_den (P := PO) rfl (a ++ b) (a ++ b) false false nl2 false (by omega) (by omega)).mono (fun v h => by rw [h]; simp)
            · subst hv; simp (disch := omega) only [go_sem, ne_eq, not_true_eq_false, not_false_eq_true, ↓reduceIte, Nat.reduceEqDiff, Nat.reduceAdd, Nat.reduceLeDiff, Int.toNat_natCast, Int.reduceToNat, and_self, Bool.not_true, Bool.not_false, Bool.false_and, Bool.and_false, Bool.true_and, Bool.and_true]
            · subst hv
              simp (disch := omega) only [go_sem, ne_eq, not_true_eq_false, not_false_eq_true, ↓reduceIte, Nat.reduceEqDiff, Nat.reduceAdd, Nat.reduceLeDiff, Int.toNat_natCast, Int.reduceToNat, and_self, Bool.not_true, Bool.not_false, Bool.false_and, Bool.and_false, Bool.true_and, Bool.and_true, Int.reduceEq, Int.reduceLT, Int.reduceLE, Int.reduceAdd, Int.reduceSub, Int.reduceNeg, decide_true, decide_false, Bool.not_true, Bool.not_false, Option.bind_some, Bool.or_true, Bool.or_false, Bool.true_or, Bool.false_or]
              refine WO.fun (vs := []) (by simp (disch := omega) only [go_sem, ne_eq, not_true_eq_false, not_false_eq_true, ↓reduceIte, Nat.reduceEqDiff, Nat.reduceAdd, Nat.reduceLeDiff, Int.toNat_natCast, Int.reduceToNat, and_self, Bool.not_true, Bool.not_false, Bool.false_and, Bool.and_false, Bool.true_and, Bool.and_true]) (awake_fun _) (fun v h' hv => ?_)
              obtain ⟨rfl, rfl⟩ := hv
              simp (disch := omega) only [go_sem, ne_eq, not_true_eq_false, not_false_eq_true, ↓reduceIte, Nat.reduceEqDiff, Nat.reduceAdd, Nat.reduceLeDiff, Int.toNat_natCast, Int.reduceToNat, and_self, Bool.not_true, Bool.not_false, Bool.false_and, Bool.and_false, Bool.true_and, Bool.and_true, Int.reduceEq, Int.reduceLT, Int.reduceLE, Int.reduceAdd, Int.reduceSub, Int.reduceNeg, decide_true, decide_false, Bool.not_true, Bool.not_false, Option.bind_some, Bool.or_true, Bool.or_false, Bool.true_or, Bool.false_or]
  · simp (disch := omega) only [go_sem, ne_eq, not_true_eq_false, not_false_eq_true, ↓reduceIte, Nat.reduceEqDiff, Nat.reduceAdd, Nat.reduceLeDiff, Int.toNat_natCast, Int.reduceToNat, and_self, Bool.not_true, Bool.not_false, Bool.false_and, Bool.and_false, Bool.true_and, Bool.and_true, Int.reduceEq, Int.reduceLT, Int.reduceLE, Int.reduceAdd, Int.reduceSub, Int.reduceNeg, decide_true, decide_false, Bool.not_true, Bool.not_false, Option.bind_some, Bool.or_true, Bool.or_false, Bool.true_or, Bool.false_or, a3r2]
    refine WO.fun (vs := []) (by simp (disch := omega) only [go_sem, ne_eq, not_true_eq_false, not_false_eq_true, ↓reduceIte, Nat.reduceEqDiff, Nat.reduceAdd, Nat.reduceLeDiff, Int.toNat_natCast, Int.reduceToNat, and_self, Bool.not_true, Bool.not_false, Bool.false_and, Bool.and_false, Bool.true_and, Bool.and_true]) (awake_fun _) (fun v h' hv => ?_)
    obtain ⟨rfl, rfl⟩ := hv
    simp (disch := omega) only [go_sem, ne_eq, not_true_eq_false, not_false_eq_true, ↓reduceIte, Nat.reduceEqDiff, Nat.reduceAdd, Nat.reduceLeDiff, Int.toNat_natCast, Int.reduceToNat, and_self, Bool.not_true, Bool.not_false, Bool.false_and, Bool.and_false, Bool.true_and, Bool.and_true, Int.reduceEq, Int.reduceLT, Int.reduceLE, Int.reduceAdd, Int.reduceSub, Int.reduceNeg, decide_true, decide_false, Bool.not_true, Bool.not_false, Option.bind_some, Bool.or_true, Bool.or_false, Bool.true_or, Bool.false_or]
end Go.Am.Dk

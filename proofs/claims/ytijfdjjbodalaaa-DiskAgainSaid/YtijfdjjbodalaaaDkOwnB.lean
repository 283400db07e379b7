/- Used, on a disk of at most one file. -/
import Derived.Test.YtijfdjjbodalaaaDkOwnA
import Derived.Test.YtijfdjjbodalaaaAmAll4
set_option linter.unusedSimpArgs false
set_option linter.unusedVariables false
namespace Go.Am.Dk
open Go.Am
attribute [local go_sem] ne_eq not_true_eq_false not_false_eq_true Nat.reduceEqDiff Nat.reduceAdd Nat.reduceLeDiff Int.toNat_natCast Int.reduceToNat and_self Bool.not_true Bool.not_false Bool.false_and Bool.and_false Bool.true_and Bool.and_true Int.reduceEq Int.reduceLT Int.reduceLE Int.reduceAdd Int.reduceSub Int.reduceNeg decide_true decide_false Option.bind_some Bool.or_true Bool.or_false Bool.true_or Bool.false_or
attribute [local go_sem ↓] reduceIte
set_option maxRecDepth 20000
set_option maxHeartbeats 1000000
variable {P : Prog}
theorem used_none (hf : P.fn 33 = some a33) (hp : P.pure 33 = 0) (h : Heap) (d m ck : Nat) (c0 c2 c3 c4 : AV) (r : List AV) (hd : h.get d = some (.cells (c0 :: .mp m :: c2 :: c3 :: c4 :: .bool false :: r))) (hm : h.get m = some (.map [] [] ck)) (hm' : m < h.next) :
    Fun P 33 [.ptr d 0] h (fun v h' => v = .int .i64 0 ∧ Ext h h') := by
  have hb : Nat.ble ck ck = true := by simp
  have hne : m ≠ h.next := by omega
  refine Fun.of (code := a33c) hf hp ?_
  simp (disch := omega) only [go_sem, a33c, a33r0, a33r1, a33r2, hd]
  simp (disch := omega) only [go_sem, a33r4, hd, hm]
  refine Wp_unroll ?_
  simp (disch := omega) only [go_sem, a33l0, a33r5, get_put_ne, get_put_same, hm, allBel, leftA, hb, cond_true]
  simp (disch := omega) only [go_sem, a33r8]
  exact ⟨trivial, by show h.next ≤ h.next + 1; omega, fun i hi => get_put_ne _ _ _ _ (by omega)⟩
theorem used_one (hf : P.fn 33 = some a33) (hp : P.pure 33 = 0) (h : Heap) (d m ck b f n : Nat) (c0 c2 c3 c4 k bv su : AV) (r : List AV) (hd : h.get d = some (.cells (c0 :: .mp m :: c2 :: c3 :: c4 :: .bool false :: r))) (hm : h.get m = some (.map [(k, .ptr f 0)] [b] ck)) (hm' : m < h.next) (hbc : b < ck)
    (hfl : h.get f = some (.cells [bv, su])) (hfl' : f < h.next) (hln : ∀ h', lenA h' bv = some n) (htg : lenTag 1 bv = true) (hev : ∀ i, evS i (some bv) = some bv) (hkv : ∀ i, evS i (some k) = some k) (hn : n ≤ 9223372036854775807) :
    Fun P 33 [.ptr d 0] h (fun v h' => v = .int .i64 n ∧ Ext h h') := by
  have hb : Nat.ble ck ck = true := by simp
  have hb1 : Nat.blt b ck = true := by simp only [nblt, decide_eq_true_eq]; exact hbc
  have hb2 : Nat.beq b b = true := by simp
  have hb3 : Nat.beq ck ck = true := by simp
  have hne : m ≠ h.next := by omega
  have hne2 : f ≠ h.next := by omega
  refine Fun.of (code := a33c) hf hp ?_
  simp (disch := omega) only [go_sem, a33c, a33r0, a33r1, a33r2, hd]
  simp (disch := omega) only [go_sem, a33r4, hd, hm]
  refine Wp_unroll ?_
  simp (disch := omega) only [go_sem, a33l0, a33r5, get_put_ne, get_put_same, hm, allBel, leftA, memN, hb, hb1, hb2, cond_true, cond_false, List.nil_append]
  simp (disch := omega) only [go_sem, a33r6, get_put_ne, get_put_same, hm, hb1, hb2, hb3, cond_true, lastN, findB]
  simp (disch := omega) only [go_sem, a33r7, get_put_ne, get_put_same, hfl, hev, hln, htg]
  refine Wp_unroll ?_
  simp (disch := omega) only [go_sem, a33l0, a33r5, get_put_ne, get_put_same, hm, allBel, leftA, memN, hb, hb1, hb2, cond_true, cond_false, List.nil_append]
  simp (disch := omega) only [go_sem, a33r8]
  refine ⟨by rw [Int.zero_add], by show h.next ≤ h.next + 1; omega, fun i hi => ?_⟩
  rw [get_put_ne _ _ _ _ (by omega), get_put_ne _ _ _ _ (by omega)]
  rfl
theorem add_fun (hf : P.fn 63 = none) (hp : P.pure 63 = 0) (hq : ∀ args h r, prim1 63 args h = some r → P.prim 63 args h = some r) (h : Heap) (d : Nat) (n : Int) (c0 c1 c2 c3 c4 c5 : AV) (r : List AV) (hd : h.get d = some (.cells (c0 :: c1 :: c2 :: c3 :: c4 :: c5 :: .int .i64 n :: r))) (h1 : 0 ≤ n) (h2 : n < 9000000000000000000) :
    Fun P 63 [.ptr d 6, .int .i64 1] h (fun v h' => v = .int .i64 (n + 1) ∧ h' = h.put d (.cells (c0 :: c1 :: c2 :: c3 :: c4 :: c5 :: .int .i64 (n + 1) :: r))) := by
  have hw : wrapA .i64 (n + 1) = n + 1 := by
    obtain ⟨m, rfl⟩ := Int.eq_ofNat_of_zero_le h1
    show (bif Nat.blt (m + 1) 9223372036854775808 then Int.ofNat (m + 1) else IntKind.i64.wrap (Int.ofNat (m + 1))) = _
    rw [show Nat.blt (m + 1) 9223372036854775808 = true by simp only [nblt, decide_eq_true_eq]; omega]
    rfl
  refine Fun.prim (v := .int .i64 (n + 1)) (h' := h.put d (.cells (c0 :: c1 :: c2 :: c3 :: c4 :: c5 :: .int .i64 (n + 1) :: r))) hf hp (hq _ _ _ ?_) ⟨rfl, rfl⟩
  simp only [prim1, orP, primOn, prim0, loadOn, addOn, cloneOn, hd]
  have b1 : Nat.beq 63 8 = false := rfl
  have b2 : Nat.beq 63 61 = false := rfl
  have b3 : Nat.beq 63 63 = true := rfl
  have b4 : intOf (c0 :: c1 :: c2 :: c3 :: c4 :: c5 :: AV.int IntKind.i64 n :: r)[6]? = some n := rfl
  simp only [b1, b2, b3, cond_false, cond_true, atCell, b4, wr, hd, over, over0, hw, Option.bind_some]
theorem begin_fun (hf : P.fn 38 = some a38) (hp : P.pure 38 = 0) (hf3 : P.fn 63 = none) (hp3 : P.pure 63 = 0) (hq : ∀ args h r, prim1 63 args h = some r → P.prim 63 args h = some r) (h : Heap) (d : Nat) (n : Int) (c0 c1 c2 c3 c4 e : AV) (hd : h.get d = some (.cells [c0, c1, c2, c3, c4, .bool false, .int .i64 n, .int .i64 0, .int .i64 0, e])) (h1 : 0 ≤ n) (h2 : n < 9000000000000000000) :
    Fun P 38 [.ptr d 0] h (fun v h' => v = .int .i64 0 ∧ h' = h.put d (.cells [c0, c1, c2, c3, c4, .bool false, .int .i64 (n + 1), .int .i64 0, .int .i64 0, e])) := by
  refine Fun.of (code := a38c) hf hp ?_
  simp (disch := omega) only [go_sem, a38c, a38r0, a38r1, a38r3, hd, a38r5]
  refine WO.fun (vs := [.ptr d 6, .int .i64 1]) (by simp (disch := omega) only [go_sem]) (add_fun hf3 hp3 hq h d n c0 c1 c2 c3 c4 (.bool false) [.int .i64 0, .int .i64 0, e] hd h1 h2) (fun v h' hv => ?_)
  obtain ⟨rfl, rfl⟩ := hv
  have w1 : decide (n + 1 = 0) = false := by simp only [decide_eq_false_iff_not]; omega
  simp (disch := omega) only [go_sem, a38r6, get_put_same, w1, a38r9, a38r12]
theorem open_fun (hf : P.fn 37 = some a37) (hp : P.pure 37 = 0) (hf8 : P.fn 38 = some a38) (hp8 : P.pure 38 = 0) (hf3 : P.fn 63 = none) (hp3 : P.pure 63 = 0) (hq : ∀ args h r, prim1 63 args h = some r → P.prim 63 args h = some r) (h : Heap) (d m b ck f : Nat) (s : List UInt8) (n : Int) (c0 c2 c3 c4 e : AV) (hd : h.get d = some (.cells [c0, .mp m, c2, c3, c4, .bool false, .int .i64 n, .int .i64 0, .int .i64 0, e])) (h1 : 0 ≤ n) (h2 : n < 9000000000000000000)
    (hmd : m ≠ d) (hm : h.get m = some (.map (kv [(s, .ptr f 0)]) [b] ck)) :
    Fun P 37 [.ptr d 0, strv s] h (fun v h' => v = .tup [.ptr f 0, .int .i64 0] ∧ h' = h.put d (.cells [c0, .mp m, c2, c3, c4, .bool false, .int .i64 (n + 1), .int .i64 0, .int .i64 0, e])) := by
  refine Fun.of (code := a37c) hf hp ?_
  simp (disch := omega) only [go_sem, a37c, a37r0, a37r1]
  refine WO.fun (vs := [.ptr d 0]) (by simp (disch := omega) only [go_sem]) (begin_fun hf8 hp8 hf3 hp3 hq h d n c0 (.mp m) c2 c3 c4 e hd h1 h2) (fun v h' hv => ?_)
  obtain ⟨rfl, rfl⟩ := hv
  simp (disch := omega) only [go_sem, a37r2]
  have hg : tget s [(s, AV.ptr f 0)] = some (.ptr f 0) := by simp [tget]
  simp (disch := omega) only [go_sem, a37r4, get_put_same, get_put_ne, hmd, hm, hg, Option.getD_some]
  simp (disch := omega) only [go_sem, a37r5, a37r7]
end Go.Am.Dk

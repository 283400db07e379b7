/- List: the names, sorted. -/
import Derived.Test.YtijfdjjbodalaaaDkSort
import Derived.Test.YtijfdjjbodalaaaDkSureE
set_option linter.unusedSimpArgs false
set_option linter.unusedVariables false
namespace Go.Am.Dk
open Go.Am
attribute [local go_sem] ne_eq not_true_eq_false not_false_eq_true Nat.reduceEqDiff Nat.reduceAdd Nat.reduceLeDiff Int.toNat_natCast Int.reduceToNat and_self Bool.not_true Bool.not_false Bool.false_and Bool.and_false Bool.true_and Bool.and_true Int.reduceEq Int.reduceLT Int.reduceLE Int.reduceAdd Int.reduceSub Int.reduceNeg decide_true decide_false Option.bind_some Bool.or_true Bool.or_false Bool.true_or Bool.false_or
attribute [local go_sem ↓] reduceIte
set_option maxRecDepth 20000
set_option maxHeartbeats 1000000
variable {P : Prog}
structure DkR (P : Prog) : Prop extends DkQ P where
  list24 : P.fn 24 = some a24
  none53 : P.fn 53 = none
  sorted : ∀ args h r, sortedOn 53 72 53 args h = some r → P.prim 53 args h = some r
  none21 : P.fn 21 = none
  boot : ∀ args h r, bootF args h = some r → P.prim 21 args h = some r
def listS (σ : DSt) : List (List UInt8) := if σ.dead then [] else (σ.names.map (·.1)).mergeSort leT
theorem listD_fun (hP : DkR P) (h : Heap) (d : Nat) (σ : DSt) (y : Lay) (hD : DiskAt h d σ y) (hl : σ.names.length ≤ 1000000) (hn : ∀ p ∈ σ.names, p.1.length ≤ 1000000) :
    Fun P 24 [.ptr d 0] h (fun v h' => v = slv true false (listS σ) ∧ Ext h h') := by
  have hd := hD.disk
  simp only [DSt.cells] at hd
  refine Fun.of (code := a24c) hP.list24 (by rw [hP.pure]; rfl) ?_
  simp (disch := omega) only [go_sem, a24c, a24r0]
  simp (disch := omega) only [go_sem, a24r1, hd]
  unfold listS
  cases hdd : σ.dead with
  | true =>
    simp (disch := omega) only [go_sem]
    simp (disch := omega) only [go_sem, a24r2]
    exact ⟨rfl, Ext.refl h⟩
  | false =>
    simp (disch := omega) only [go_sem]
    simp (disch := omega) only [go_sem, a24r3, hd]
    have keysF : Fun P 54 [.mp y.m] h (fun v h' => v = .fn 72 [.ptr h.next 0] ∧ h' = (h.reserve 1).put h.next (.cells [.mp y.m])) := by
      refine Fun.of (code := a54c) (hP.toDkP.code rfl) (by rw [hP.pure]; rfl) ?_
      simp (disch := omega) only [go_sem, a54c, a54r0]
      simp (disch := omega) only [go_sem, a54r1]
    refine WO.fun (vs := [.mp y.m]) (by simp (disch := omega) only [go_sem]) keysF (fun v h' hv => ?_)
    obtain ⟨rfl, rfl⟩ := hv
    simp (disch := omega) only [go_sem]
    obtain ⟨bs, ck, hm, hs⟩ := hD.names
    have hmlt := hD.lt y.m (Or.inr (Or.inl rfl))
    have hpr : P.prim 53 [.fn 72 [.ptr h.next 0]] ((h.reserve 1).put h.next (.cells [.mp y.m])) = some (slv true false ((σ.names.map (·.1)).mergeSort leT), (h.reserve 1).put h.next (.cells [.mp y.m])) := by
      refine hP.sorted _ _ _ ?_
      have b1 : Nat.beq 53 53 = true := rfl
      have b2 : Nat.beq 72 72 = true := rfl
      have g1 : ((h.reserve 1).put h.next (.cells [.mp y.m])).get h.next = some (.cells [.mp y.m]) := get_put_same _ _ _
      have g2 : ((h.reserve 1).put h.next (.cells [.mp y.m])).get y.m = some (.map (kv (fp σ.names)) bs ck) := by rw [get_put_ne _ _ _ _ (by omega), get_reserve]; exact hm
      have e1 : (fp σ.names).map (·.1) = σ.names.map (·.1) := by simp [fp, List.map_map, Function.comp_def]
      simp only [sortedOn, b1, b2, cond_true, g1, g2, keysA_kv, Option.bind_some, e1]
      rw [if_pos ⟨hD.ok.nd, hs.nd, hs.lt, by simpa using hl, fun k hk => by
        obtain ⟨p, hp, rfl⟩ := List.mem_map.1 hk
        exact hn p hp⟩]
    refine WO.fun (vs := [.fn 72 [.ptr h.next 0]]) (by simp (disch := omega) only [go_sem]) (Fun.prim (R := fun v h' => v = slv true false ((σ.names.map (·.1)).mergeSort leT) ∧ h' = (h.reserve 1).put h.next (.cells [.mp y.m])) hP.none53 (by rw [hP.pure]; rfl) hpr ⟨rfl, rfl⟩) (fun v h' hv => ?_)
    obtain ⟨rfl, rfl⟩ := hv
    simp (disch := omega) only [go_sem]
    exact ⟨by trivial, by show h.next ≤ h.next + 1; omega, fun i hi => by rw [get_put_ne _ _ _ _ (by omega), get_reserve]⟩
end Go.Am.Dk

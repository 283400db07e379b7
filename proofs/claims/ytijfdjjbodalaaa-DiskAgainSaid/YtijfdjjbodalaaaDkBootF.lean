/- Boot whole. -/
import Derived.Test.YtijfdjjbodalaaaDkBootE
import Derived.Test.YtijfdjjbodalaaaDkDiskE
set_option linter.unusedSimpArgs false
set_option linter.unusedVariables false
namespace Go.Am.Dk
open Go.Am
attribute [local go_sem] ne_eq not_true_eq_false not_false_eq_true Nat.reduceEqDiff Nat.reduceAdd Nat.reduceLeDiff Int.toNat_natCast Int.reduceToNat and_self Bool.not_true Bool.not_false Bool.false_and Bool.and_false Bool.true_and Bool.and_true Int.reduceEq Int.reduceLT Int.reduceLE Int.reduceAdd Int.reduceSub Int.reduceNeg decide_true decide_false Option.bind_some Bool.or_true Bool.or_false Bool.true_or Bool.false_or
attribute [local go_sem ↓] reduceIte
set_option maxRecDepth 20000
set_option maxHeartbeats 2000000
def bootS (σ : DSt) (turns : Int) (keep : List Int) : DSt := endS { σ with sure := bootNames σ (tkS σ turns), file := (cutN keep σ.all σ.file σ.all.length).1 }
theorem boot_x {h : Heap} {d : Nat} {σ : DSt} {y : Lay} (hD : DiskAt h d σ y) (turns : Int) (keep : List Int) (n full : Bool) (hdd : σ.dead = true) (hall : σ.all.length ≤ 1000000000) (hw : σ.waits.length ≤ 1000000000) (hsu : ∀ f ∈ σ.all, (σ.file f).sure ≤ (σ.file f).b.length ∧ (σ.file f).b.length ≤ 1000000000000) (hk : keep.length ≤ 9223372036854775807 ∧ ∀ z ∈ keep, -9223372036854775808 ≤ z ∧ z ≤ 9223372036854775807) :
    ∃ H y', Step h H d σ y (bootS σ turns keep) y' ∧ FunX PU 21 [.ptr d 0, .int .i64 turns, slv n full keep] h (fun v2 h2 => v2 = .int .i64 0 ∧ SubH H h2) := by
  obtain ⟨n1, e1, s1, r1, rfl, p0, p2, p12, pD, pn, po⟩ := boot_turns PU_P h d σ y hD turns (slv n full keep) hw 0 (fun i => evS_slv i n full keep) (datW_slv n full keep)
  have W1 : Wp PU (.seq (.dreg 0 a21d3 [0, 2, 12, 32, 33, 34]) (.block 0 (.loop a21l0))) { fr := [(0, .ptr d 0), (1, .int .i64 turns), (2, slv n full keep), (19, .bool false)], st := 0, h := h } (fun e s => e = .normal ∧ s = s1) := ⟨n1, _, s1, r1, rfl, rfl⟩
  obtain ⟨n2, e2, s2, r2, rfl, k0, ⟨bv, kD, kb⟩, kn, ko⟩ := boot_cut PU_P s1.h d { σ with sure := bootNames σ (tkS σ turns) } y pD keep n full hall hsu hk s1.st [(0, .ptr d 0), (2, slv n full keep), (9, .int .i64 0)] rfl rfl rfl rfl
  have W2 : Wp PU (.seq (.reg 0 a21r9 [0, 2, 9, 12, 48, 49, 50]) (.block 2 (.loop a21l1))) { fr := [(0, .ptr d 0), (2, slv n full keep), (9, .int .i64 0)], st := s1.st, h := s1.h } (fun e s => e = .normal ∧ s = s2) := ⟨n2, _, s2, r2, rfl, rfl⟩
  obtain ⟨H, y', hst, hrun⟩ := boot_mid kD hall
  have S1 : Step h s1.h d σ y { σ with sure := bootNames σ (tkS σ turns) } y := ⟨pD, ⟨by omega, fun o _ hn => po o (fun e => hn (Or.inr (Or.inr (Or.inl e))))⟩, fun o ho => Or.inl ho⟩
  have S2 : Step s1.h s2.h d { σ with sure := bootNames σ (tkS σ turns) } y { σ with sure := bootNames σ (tkS σ turns), file := (cutN keep σ.all σ.file σ.all.length).1 } { y with bv := bv } :=
    ⟨kD, ⟨by omega, fun o _ hn => ko o (fun e => hn (Or.inr (Or.inr (Or.inr (Or.inr (Or.inr ⟨o, e, Or.inl rfl⟩))))))⟩, fun o ho => Or.inl (by
      rcases ho with h1 | h1 | h1 | h1 | h1 | ⟨f, hf, h1 | h1⟩
      · exact Or.inl h1
      · exact Or.inr (Or.inl h1)
      · exact Or.inr (Or.inr (Or.inl h1))
      · exact Or.inr (Or.inr (Or.inr (Or.inl h1)))
      · exact Or.inr (Or.inr (Or.inr (Or.inr (Or.inl h1))))
      · exact Or.inr (Or.inr (Or.inr (Or.inr (Or.inr ⟨f, hf, Or.inl h1⟩))))
      · exact Or.inr (Or.inr (Or.inr (Or.inr (Or.inr ⟨f, hf, Or.inr (kb f hf o h1)⟩)))))⟩
  refine ⟨H, y', (S1.trans S2).trans hst, ?_⟩
  have hd := hD.disk
  simp only [DSt.cells] at hd
  refine FunX.of (code := a21c) rfl ?_
  rw [a21c]
  refine WX_seq (WX.det ?_)
  simp (disch := omega) only [go_sem, a21r0]
  refine WX_seq (WX_seq (WX.det ?_))
  simp (disch := omega) only [go_sem, a21r1]
  refine WO.fun (vs := [.ptr d 0]) (by simp (disch := omega) only [go_sem]) (deadD_fun PU_P h d σ y hD) (fun v h' hv => ?_)
  obtain ⟨rfl, rfl⟩ := hv
  simp (disch := omega) only [go_sem, hdd]
  refine WX.det ?_
  simp (disch := omega) only [go_sem]
  refine WX_seq (WX.det (W1.mono ?_))
  rintro e s ⟨rfl, rfl⟩
  simp (disch := omega) only [go_sem]
  refine WX_seq (WX.det ?_)
  simp (disch := omega) only [go_sem, a21r8, p0, p2, p12]
  refine WX_seq (WX.det (W2.mono ?_))
  rintro e s ⟨rfl, rfl⟩
  simp (disch := omega) only [go_sem]
  exact hrun _ _ k0
theorem boot_on {h : Heap} {d : Nat} {σ : DSt} {y : Lay} (hD : DiskAt h d σ y) (turns : Int) (kv : AV) (hdd : σ.dead = false) : FunX PU 21 [.ptr d 0, .int .i64 turns, kv] h (fun v2 h2 => v2 = .int .i64 1 ∧ SubH h h2) := by
  refine FunX.of (code := a21c) rfl (WX.det ?_)
  simp (disch := omega) only [go_sem, a21c, a21r0]
  simp (disch := omega) only [go_sem, a21r1]
  refine WO.fun (vs := [.ptr d 0]) (by simp (disch := omega) only [go_sem]) (deadD_fun PU_P h d σ y hD) (fun v h' hv => ?_)
  obtain ⟨rfl, rfl⟩ := hv
  simp (disch := omega) only [go_sem, hdd]
  simp (disch := omega) only [go_sem, a21r2]
  exact ⟨by trivial, SubH.refl _⟩
def bootR (σ : DSt) (turns : Int) (keep : List Int) : Int × DSt := if σ.dead then (0, bootS σ turns keep) else (1, σ)
end Go.Am.Dk

/- The program of the laws with power failures and lists: awake, Used, Boot and slices.Sorted are told. -/
import Derived.Test.YtijfdjjbodalaaaDkAgainA
set_option linter.unusedSimpArgs false
set_option linter.unusedVariables false
namespace Go.Am.Dk
open Go.Am
set_option maxRecDepth 20000
set_option maxHeartbeats 1000000
def codeA : Nat → Option AFn := fun n => bif Nat.beq n 8 || Nat.beq n 33 || Nat.beq n 21 then none else code n
noncomputable def primA : Nat → List AV → Heap → Option (AV × Heap) := orP (primOn 8 awakeF) (orP (onF 33 usedF) (orP (onF 21 bootF) (orP (sortedOn 53 72) prim0)))
theorem codeA_sim : ∀ n fn, codeA n = some fn → FnSim L n fn := fun n fn h => by
  unfold codeA at h
  cases hb : Nat.beq n 8 || Nat.beq n 33 || Nat.beq n 21 <;> rw [hb] at h
  · exact code_sim n fn h
  · simp at h
theorem primA_sim : CallSim L primA := orP_sim (primOn_sim awake_ok) (orP_sim used_sim (orP_sim boot_sim (orP_sim sorted_prim prim0_sim)))
noncomputable def PA : Prog := { fn := codeA, prim := primA, pure := pures }
theorem PA_code (n : Nat) (h8 : n ≠ 8) (h33 : n ≠ 33) (h21 : n ≠ 21) : PA.fn n = code n := by
  show codeA n = code n
  unfold codeA
  simp only [nbeq, h8, h33, h21, decide_false, Bool.or_false, cond_false]
theorem PA_R : DkR PA := by
  have hs : ∀ n, Nat.beq n 53 = false → ∀ args h, sortedOn 53 72 n args h = none := fun n hn args h => by
    unfold sortedOn
    rw [hn]; rfl
  have hp : ∀ n, Nat.beq n 8 = false → Nat.beq n 33 = false → Nat.beq n 21 = false → Nat.beq n 53 = false → ∀ args h, PA.prim n args h = prim0 n args h := fun n h1 h2 h3 h4 args h => by
    show primA n args h = _
    simp only [primA, orP, primOn, onF, h1, h2, h3, cond_false, hs n h4]
  refine ⟨⟨⟨fun n h8 h33 h21 h24 => PA_code n h8 h33 h21, rfl, fun args h r e => ?_, fun args h r e => ?_, fun args h r e => ?_⟩, rfl, fun args h r e => ?_⟩, rfl, rfl, fun args h r e => ?_, rfl, fun args h r e => ?_⟩
  · rw [hp 63 rfl rfl rfl rfl]; exact e
  · rw [hp 61 rfl rfl rfl rfl]; exact e
  · rw [hp 36 rfl rfl rfl rfl]; exact e
  · show primA 33 args h = _
    have b1 : Nat.beq 33 8 = false := rfl
    have b2 : Nat.beq 33 33 = true := rfl
    simp only [primA, orP, primOn, onF, b1, b2, cond_false, cond_true, e]
  · show primA 53 args h = _
    have b1 : Nat.beq 53 8 = false := rfl
    have b2 : Nat.beq 53 33 = false := rfl
    have b3 : Nat.beq 53 21 = false := rfl
    simp only [primA, orP, primOn, onF, b1, b2, b3, cond_false, e]
  · show primA 21 args h = _
    have b1 : Nat.beq 21 8 = false := rfl
    have b2 : Nat.beq 21 33 = false := rfl
    have b3 : Nat.beq 21 21 = true := rfl
    simp only [primA, orP, primOn, onF, b1, b2, b3, cond_false, cond_true, e]
theorem awake_funA (h : Heap) : Fun PA 8 [] h (fun v h' => v = .bool true ∧ h' = h) := by
  refine Fun.prim (v := .bool true) (h' := h) rfl rfl ?_ ⟨rfl, rfl⟩
  rfl
theorem boot_funA {h : Heap} {d : Nat} {σ : DSt} {y : Lay} {k : Nat} (hD : DiskAt h d σ y) (hB : Bnd σ k) (hk1 : k ≤ 100) (turns : Int) (keep : List Int) (n full : Bool) (hdd : σ.dead = true) (hk : keep.length ≤ 9223372036854775807 ∧ ∀ z ∈ keep, -9223372036854775808 ≤ z ∧ z ≤ 9223372036854775807) :
    Fun PA 21 [.ptr d 0, .int .i64 turns, slv n full keep] h (fun v h' => v = .int .i64 0 ∧ ∃ y', Step h h' d σ y (bootS σ turns keep) y') := by
  have := boot_funR PA_R.none21 rfl PA_R.boot hD turns keep n full (by have := hB.al; omega) (by have := hB.wl; omega) (fun f hf => by have := hB.fl f hf; exact ⟨this.1, by omega⟩) hk
  have e : bootR σ turns keep = (0, bootS σ turns keep) := by unfold bootR; rw [hdd]; rfl
  rw [e] at this
  exact this
structure OneV where
  v : AV
instance : Inhabited OneV := ⟨⟨.nils⟩⟩
instance celOne : Cel OneV where
  csz := 1
  ccells x := [x.v]
  clen _ := rfl
def HoldB (h : Heap) (v : AV) (l : List UInt8) : Prop := (v = .nils ∧ l = []) ∨ ∃ o ep, v = .hs 1 o ep 0 l.length false ∧ o < h.next ∧ h.get o = some (.row 1 ep (l.flatMap Enc.cells))
theorem HoldB.keep {h h' : Heap} {v : AV} {l : List UInt8} (a : HoldB h v l) (hn : h.next ≤ h'.next) (hk : ∀ o, rowOf v = some o → h'.get o = h.get o) : HoldB h' v l := by
  rcases a with ⟨rfl, e⟩ | ⟨o, ep, rfl, h1, h2⟩
  · exact Or.inl ⟨rfl, e⟩
  · exact Or.inr ⟨o, ep, rfl, by omega, (hk o rfl).trans h2⟩
theorem HoldB.frz {h : Heap} {v : AV} {l : List UInt8} (a : HoldB h v l) : ∃ n, frz h 0 40 v = slv n false l := by
  rcases a with ⟨rfl, e⟩ | ⟨o, ep, rfl, h1, h2⟩
  · exact ⟨true, by rw [e]; rfl⟩
  · refine ⟨false, ?_⟩
    have := frz_hs (α := UInt8) (off := 0) (len := l.length) (N := 0) (n := 39) (full := false) (l := l) h2 (by simp) (Nat.zero_le _)
    rw [List.drop_zero, List.take_length] at this
    exact this
def again3 : ACode := (.seq (.seq (.reg 0 a5r28 [9, 11, 12, 16, 17]) (.block 4 (.loop a5l2))) (.seq (.reg 0 a5r34 [8]) .ret))
def again2 : ACode := (.seq (.reg 0 a5r22 [9, 11, 12]) (.seq (.seq (.reg 0 a5r23 [9, 11, 12, 94]) (.cond (.s 94) (.seq (.reg 0 a5r24 [8]) .ret) .skip)) (.seq (.reg 0 a5r25 [9, 11, 12, 16]) (.seq (.seq (.reg 0 a5r26 [9, 11, 12, 16, 101]) (.cond (.s 101) (.seq (.reg 0 a5r27 [8]) .ret) .skip)) again3))))
def again1 : ACode := (.seq (.seq (.reg 0 a5r13 [9, 63]) (.cond (.s 63) (.seq (.reg 0 a5r14 [8]) .ret) .skip)) (.seq (.reg 0 a5r15 [9, 11]) (.seq (.reg 0 a5r16 [9, 11, 12]) (.seq (.seq (.reg 0 a5r17 [9, 11, 12, 13]) (.block 2 (.loop a5l1))) again2))))
theorem a5c_eq : a5c = (.seq (.reg 0 a5r0 [0, 1, 2, 3]) (.seq (.seq (.reg 0 a5r1 [0, 1, 2, 3, 31]) (.cond (.s 31) (.seq (.reg 0 a5r2 [8]) .ret) .skip)) (.seq (.reg 0 a5r3 [1, 2, 3, 9]) (.seq (.seq (.reg 0 a5r4 [1, 2, 3, 9, 36]) (.cond (.s 36) (.seq (.reg 0 a5r5 [8]) .ret) .skip)) (.seq (.seq (.reg 0 a5r6 [1, 2, 3, 9, 10]) (.block 0 (.loop a5l0))) (.seq (.seq (.reg 0 a5r10 [2, 3, 9, 54]) (.cond (.s 54) (.seq (.reg 0 a5r11 [2, 3, 9]) (.reg 0 a5r12 [2, 3, 9])) .skip)) again1)))))) := rfl
end Go.Am.Dk

/- New, with one file whose name is "a". -/
import Derived.Test.YtijfdjjbodalaaaDkOwnB
import Derived.Test.YtijfdjjbodalaaaAmAll5
set_option linter.unusedSimpArgs false
set_option linter.unusedVariables false
namespace Go.Am.Dk
open Go.Am
attribute [local go_sem] ne_eq not_true_eq_false not_false_eq_true Nat.reduceEqDiff Nat.reduceAdd Nat.reduceLeDiff Int.toNat_natCast Int.reduceToNat and_self Bool.not_true Bool.not_false Bool.false_and Bool.and_false Bool.true_and Bool.and_true Int.reduceEq Int.reduceLT Int.reduceLE Int.reduceAdd Int.reduceSub Int.reduceNeg decide_true decide_false Option.bind_some Bool.or_true Bool.or_false Bool.true_or Bool.false_or
attribute [local go_sem ↓] reduceIte
set_option maxRecDepth 20000
set_option maxHeartbeats 1000000
theorem name_run : ∃ h', call P0 1000 28 [.str [97]] h0 = some (.bool true, h') := by
  have : (match call P0 1000 28 [.str [97]] h0 with | some (.bool true, _) => true | _ => false) = true := by decide +kernel
  split at this
  · rename_i h' he; exact ⟨h', he⟩
  · simp at this
theorem vr_str {L : Link} {g : Gh} {w : World} {l : List Nat} {x : Value} (h : VR L g w (.str l) x) : ∃ s : ByteArray, x = .string s ∧ s.data.toList.map UInt8.toNat = l := by
  generalize hq : AV.str l = a at h
  cases h with
  | str s => exact ⟨s, rfl, by injection hq with hq; exact hq.symm⟩
  | _ => cases hq
def nameF : List AV → Option AV
  | [.str [97]] => some (.bool true)
  | _ => none
theorem name_ok : PrimOk L 28 nameF := by
  intro args v hv g w vals _ ha
  unfold nameF at hv
  split at hv
  · simp only [Option.some.injEq] at hv
    subst hv
    obtain ⟨h', hr⟩ := name_run
    obtain ⟨hsz, hav⟩ := ha
    obtain ⟨x, rfl⟩ : ∃ x, vals = #[x] := ⟨vals[0]'(by simp at hsz; omega), by apply Array.ext (by simp at hsz ⊢; exact hsz); intro i h1 h2; simp at h2; subst h2; rfl⟩
    have hx := hav 0 (.str [97]) x rfl rfl
    have hx' : VR L (gh0 w) w (.str [97]) x := by
      obtain ⟨s, rfl, hs⟩ := vr_str hx
      rw [← hs]
      exact .str s
    refine (law_true (PA := P0) (vals := #[x]) (W := w) allFn mixed code_sim prim0_sim hr (argsR_cons (vs := []) hx' argsR_nil)).mono ?_
    rintro e w' ⟨rfl, hb⟩
    exact ⟨_, rfl, hb, fun g' _ => .bool _⟩
  · simp at hv
def code2 : Nat → Option AFn := fun n => bif Nat.beq n 28 then none else code1 n
def prim2 : Nat → List AV → Heap → Option (AV × Heap) := orP prim1 (primOn 28 nameF)
theorem code2_sim : ∀ n fn, code2 n = some fn → FnSim L n fn := fun n fn h => by
  unfold code2 at h
  cases hb : Nat.beq n 28 <;> rw [hb] at h
  · exact code1_sim n fn h
  · simp at h
theorem prim2_sim : CallSim L prim2 := orP_sim prim1_sim (primOn_sim name_ok)
def PO : Prog := { fn := code2, prim := prim2, pure := fun n => match n with | 14 => 2 | _ => 0 }
theorem name_fun (h : Heap) : Fun PO 28 [strv [97]] h (fun v h' => v = .bool true ∧ h' = h) := by
  refine Fun.prim (v := .bool true) (h' := h) rfl rfl ?_ ⟨rfl, rfl⟩
  show prim2 28 [.str [97]] h = _
  have b1 : Nat.beq 28 8 = false := rfl
  have b2 : Nat.beq 28 61 = false := rfl
  have b3 : Nat.beq 28 63 = false := rfl
  have b4 : Nat.beq 28 36 = false := rfl
  have b5 : Nat.beq 28 28 = true := rfl
  simp only [prim2, prim1, prim0, orP, primOn, loadOn, addOn, cloneOn, b1, b2, b3, b4, b5, cond_false, cond_true, List.map_cons, List.map_nil, frz_str, nameF, Option.bind_some]
structure FilP where
  o : Nat
  deriving Inhabited
instance celFilP : Cel FilP where
  csz := 1
  ccells f := [.ptr f.o 0]
  clen _ := rfl
theorem adds_lent {h : Heap} {o ep : Nat} {b : List UInt8} (hl : LentAt h o ep b) (f : Bool) : Adds h (.hs 1 o ep 0 b.length f) b := by
  refine ⟨rfl, ?_⟩
  unfold LentAt at hl
  simp only [cellsAt, sz_U8, hl, nble, nbeq, Nat.le_refl, decide_true, Bool.and_self, cond_true, Nat.zero_mul, Nat.mul_one, sub_eq, dropN_zero, Option.bind_some, List.flatMap_append]
  rw [show b.length = (b.flatMap (Enc.cells (α := UInt8))).length by rw [flatMap_len, sz_U8, Nat.mul_one], takeN_app]
theorem LentAt.ext {h h' : Heap} {o ep : Nat} {b : List UInt8} (hl : LentAt h o ep b) (hx : Ext h h') (ho : o < h.next) : LentAt h' o ep b := (hx.2 o ho).trans hl
theorem mclone_fun (h : Heap) (m : Nat) (es : List (AV × AV)) (bs : List Nat) (ck : Nat) (hm : h.get m = some (.map es bs ck)) : Fun PO 36 [.mp m] h (fun v h' => v = .mp h.next ∧ h' = (h.reserve 1).put h.next (.map es bs ck)) := by
  refine Fun.prim (v := .mp h.next) (h' := (h.reserve 1).put h.next (.map es bs ck)) rfl rfl ?_ ⟨rfl, rfl⟩
  show prim2 36 [.mp m] h = _
  have b1 : Nat.beq 36 8 = false := rfl
  have b2 : Nat.beq 36 61 = false := rfl
  have b3 : Nat.beq 36 63 = false := rfl
  have b4 : Nat.beq 36 36 = true := rfl
  simp only [prim2, prim1, prim0, orP, primOn, loadOn, addOn, cloneOn, b1, b2, b3, b4, cond_false, cond_true, hm]
def Disk1 (h : Heap) (d m f o : Nat) (b : List UInt8) (n : Int) : Prop := ∃ c2 c3 c4 e su ep b0 ck, h.get d = some (.cells [.int .i64 2000, .mp m, c2, c3, c4, .bool false, .int .i64 n, .int .i64 0, .int .i64 0, e]) ∧
  h.get m = some (.map (kv [([97], .ptr f 0)]) [b0] ck) ∧ b0 < ck ∧ h.get f = some (.cells [.hs 1 o ep 0 b.length false, su]) ∧ h.get o = some (.row 1 ep (b.flatMap Enc.cells)) ∧
  (d ≠ m ∧ d ≠ f ∧ d ≠ o ∧ m ≠ f ∧ m ≠ o ∧ f ≠ o) ∧ d < h.next ∧ m < h.next ∧ f < h.next ∧ o < h.next
theorem new_fun (g : Nat → List AV) (o ep : Nat) (b : List UInt8) (h : Heap) (hb : b.length ≤ 500) (hg : g 0 = [strv [97], .hs 1 o ep 0 b.length false]) (ho : o < h.next) (hl : LentAt h o ep b) :
    Fun PO 10 [.sl 2 1 g true, .int .i64 2000] h (fun v h' => ∃ d m f o, v = .ptr d 0 ∧ Disk1 h' d m f o b 0 ∧ (h.next ≤ d ∧ h.next ≤ m ∧ h.next ≤ f ∧ h.next ≤ o) ∧ Ext h h') := by
  have l1 : lenTag 1 (.sl 2 1 g true) = true := rfl
  have l2 : ∀ h, lenA h (.sl 2 1 g true) = some 1 := fun _ => rfl
  have c1 : ((1 : Nat) : Int) = 1 := rfl
  have ix : indexA none 2 (.sl 2 1 g true) (.int .i64 0) = some (.vptr [strv [97], .hs 1 o ep 0 b.length false]) := by rw [← hg]; rfl
  refine Fun.of (code := a10c) rfl rfl ?_
  simp (disch := omega) only [go_sem, a10c, a10r0, a10r1, l1, l2, c1, cond_true]
  simp (disch := omega) only [go_sem, a10r3]
  simp (disch := omega) only [go_sem, a10r4, l1, l2, c1, cond_true]
  refine Wp_unroll ?_
  simp (disch := omega) only [go_sem, a10l0, a10r5, a10r6, ix]
  simp (disch := omega) only [go_sem, a10d7]
  refine WD_fun (vs := [strv [97]]) (by simp (disch := omega) only [go_sem]) (name_fun _) (fun v h' hv => rfl) (fun v h' hv => ?_)
  obtain ⟨rfl, rfl⟩ := hv
  have hne : h.next ≠ h.next + 1 := by omega
  have e0 : AObj.map [] [] 0 = AObj.map (kv []) [] 0 := rfl
  have e1 : tget [97] [] = none := rfl
  simp (disch := omega) only [go_sem, get_put_same, get_put_ne, hne, e0, e1, Option.getD_none]
  refine WD_fun (vs := [.ptr (h.next + 1) 0]) (by simp (disch := omega) only [go_sem]) (used_none (P := PO) rfl rfl _ (h.next + 1) h.next 0 (.int .i64 2000) .nilm .nils .nils _ (get_put_same _ _ _) (by rw [get_put_ne _ _ _ _ hne, get_put_same]; rfl) (by show h.next < h.next + 2; omega)) (fun v h' hv => ?_) (fun v h' hv => ?_)
  · obtain ⟨rfl, -⟩ := hv
    simp (disch := omega) only [go_sem, looks, look, sees, wantedA, List.getElem?_cons_succ, List.getElem?_cons_zero, eqAV, eqK, nbeq, cond_true, Bool.and_self, beq_self_eq_true]
  · obtain ⟨rfl, hx1⟩ := hv
    have hbl : decide (2000 < (b.length : Int)) = false := by simp only [decide_eq_false_iff_not]; omega
    simp (disch := omega) only [go_sem, hbl]
    simp (disch := omega) only [go_sem, a10d9]
    have hx2 : Ext h (h'.reserve 1) := ⟨by have := hx1.1; simp only [next_put, next_reserve] at this ⊢; omega, fun i hi => by
      have := hx1.2 i (by simp only [next_put, next_reserve]; omega)
      rw [get_reserve, this, get_put_ne _ _ _ _ (by omega), get_put_ne _ _ _ _ (by omega), get_reserve]⟩
    refine WD_fun (vs := [.hs 1 o ep 0 b.length false]) (by simp (disch := omega) only [go_sem]) (clone_fun (P := PO) rfl rfl (.hs 1 o ep 0 b.length false) b _ (by omega) (fun h'' hq => adds_lent (hl.ext (hx2.trans hq) ho) false) rfl (fun _ => rfl) rfl) (fun v h'' hv => ?_) (fun v h'' hv => ?_)
    · simp (disch := omega) only [go_sem, looks, look, sees, wantedA, List.getElem?_cons_succ, List.getElem?_cons_zero, eqAV, eqK, nbeq, cond_true, Bool.and_self, beq_self_eq_true]
    · obtain ⟨⟨oc, ec, rfl, q1, q2, q3⟩, hx3⟩ := hv
      have n1 : h.next + 2 ≤ h'.next := by have := hx1.1; simpa only [next_put, next_reserve] using this
      have n2 : h'.next + 1 ≤ h''.next := by have := hx3.1; simpa only [next_reserve] using this
      have fd : h''.get (h.next + 1) = some (.cells [.int .i64 2000, .mp h.next, .nilm, .nils, .nils, .bool false, .int .i64 0, .int .i64 0, .int .i64 0, .int .i64 0]) := by
        rw [hx3.2 _ (by rw [next_reserve]; omega), get_reserve, hx1.2 _ (by simp only [next_put, next_reserve]; omega), get_put_same]
      have fm : h''.get h.next = some (.map (kv []) [] 0) := by
        rw [hx3.2 _ (by rw [next_reserve]; omega), get_reserve, hx1.2 _ (by simp only [next_put, next_reserve]; omega), get_put_ne _ _ _ _ hne, get_put_same]
      have d1 : h.next ≠ h'.next := by omega
      have d2 : h.next + 1 ≠ h'.next := by omega
      have pm : ∀ v, putM [97] v [] [] 0 = .map (kv [([97], v)]) [0] 1 := fun v => rfl
      simp (disch := omega) only [go_sem]
      simp (disch := omega) only [go_sem, a10d10, get_put_same, get_put_ne, fd, fm, d1, d2, pm]
      simp (disch := omega) only [go_sem, a10r11, get_put_same, get_put_ne, fd, fm, d1, d2, hne]
      refine stepC_app (α := FilP) (bytes := 8) (l := []) (new := [⟨h'.next⟩]) (Or.inl ⟨rfl, rfl⟩) (addsC_one _ _ _ _ rfl) rfl (by simp [two47]) (fun v3 h3 hr3 hn3 ho3 hf3 => ?_)
      rcases hr3 with ⟨-, e⟩ | ⟨oa, ea, rfl, hga⟩
      · simp at e
      have hoa : oa = h''.next := by
        rcases ho3 with e | e
        · simp [rowOf] at e
        · exact Option.some.inj e
      subst hoa
      have hn3' : h3.next = h''.next + 1 := hn3
      have hlen : ([] ++ [(⟨h'.next⟩ : FilP)]).length = 1 := rfl
      have f3 : ∀ q, q ≠ h''.next → h3.get q = ((h''.put h'.next (AObj.cells [AV.hs 1 oc ec 0 b.length false, AV.int IntKind.i64 ↑b.length])).put h.next (AObj.map (kv [([97], AV.ptr h'.next 0)]) [0] 1)).get q := fun q hq => hf3 q hq (by simp [rowOf])
      have g1 : h3.get (h.next + 1) = some (.cells [.int .i64 2000, .mp h.next, .nilm, .nils, .nils, .bool false, .int .i64 0, .int .i64 0, .int .i64 0, .int .i64 0]) := by
        rw [f3 _ (by omega), get_put_ne _ _ _ _ (by omega), get_put_ne _ _ _ _ (by omega), fd]
      have g2 : h3.get h.next = some (.map (kv [([97], AV.ptr h'.next 0)]) [0] 1) := by
        rw [f3 _ (by omega), get_put_same]
      simp (disch := omega) only [go_sem, g1, hlen]
      simp (disch := omega) only [go_sem, a10r12]
      refine Wp_unroll ?_
      simp (disch := omega) only [go_sem, a10r5]
      simp (disch := omega) only [go_sem, a10r13, get_put_same, g1]
      refine WO.fun (vs := [.mp h.next]) (by simp (disch := omega) only [go_sem]) (mclone_fun _ h.next _ _ _ (by rw [get_put_ne _ _ _ _ (by omega)]; exact g2)) (fun v h4 hv => ?_)
      obtain ⟨rfl, rfl⟩ := hv
      have d3 : h.next + 1 ≠ h3.next := by omega
      simp (disch := omega) only [go_sem, get_put_same, get_put_ne, d3]
      simp (disch := omega) only [go_sem, a10r14]
      have q1' : h'.next + 1 ≤ oc := q1
      have q3' : h''.get oc = some (.row 1 ec (b.flatMap Enc.cells)) := q3
      have k1 : h3.get h'.next = some (.cells [.hs 1 oc ec 0 b.length false, .int .i64 (b.length : Nat)]) := by
        rw [f3 _ (by omega), get_put_ne _ _ _ _ (by omega), get_put_same]
      have k2 : h3.get oc = some (.row 1 ec (b.flatMap Enc.cells)) := by
        rw [f3 _ (by omega), get_put_ne _ _ _ _ (by omega), get_put_ne _ _ _ _ (by omega), q3']
      refine ⟨h.next + 1, h.next, h'.next, oc, rfl, ⟨.mp h3.next, .hs (Cel.csz FilP) h''.next ea 0 1 false, .nils, .int .i64 0, .int .i64 (b.length : Nat), ec, 0, 1, get_put_same _ _ _, ?_, by decide, ?_, ?_, by omega, ?_⟩, by omega, ?_⟩
      · rw [get_put_ne _ _ _ _ (by omega), get_put_ne _ _ _ _ (by omega), get_reserve, get_put_ne _ _ _ _ (by omega), g2]
      · rw [get_put_ne _ _ _ _ (by omega), get_put_ne _ _ _ _ (by omega), get_reserve, get_put_ne _ _ _ _ (by omega), k1]
      · rw [get_put_ne _ _ _ _ (by omega), get_put_ne _ _ _ _ (by omega), get_reserve, get_put_ne _ _ _ _ (by omega), k2]
      · simp only [next_put, next_reserve]; omega
      · refine ⟨by simp only [next_put, next_reserve]; omega, fun i hi => ?_⟩
        rw [get_put_ne _ _ _ _ (by omega), get_put_ne _ _ _ _ (by omega), get_reserve, get_put_ne _ _ _ _ (by omega), f3 _ (by omega), get_put_ne _ _ _ _ (by omega), get_put_ne _ _ _ _ (by omega), hx3.2 i (by rw [next_reserve]; omega)]
        exact hx2.2 i hi
end Go.Am.Dk

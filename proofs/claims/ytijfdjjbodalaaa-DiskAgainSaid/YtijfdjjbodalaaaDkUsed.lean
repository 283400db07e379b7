/- Used is told: the sum of the bytes of the files that have names, whatever the order in which they are met. -/
import Derived.Test.YtijfdjjbodalaaaDkDiskC
import Derived.Test.YtijfdjjbodalaaaAmAll5
set_option linter.unusedSimpArgs false
set_option linter.unusedVariables false
namespace Go.Am.Dk
open Go.Am
attribute [local go_sem] ne_eq not_true_eq_false not_false_eq_true Nat.reduceEqDiff Nat.reduceAdd Nat.reduceLeDiff Int.toNat_natCast Int.reduceToNat and_self Bool.not_true Bool.not_false Bool.false_and Bool.and_false Bool.true_and Bool.and_true Int.reduceEq Int.reduceLT Int.reduceLE Int.reduceAdd Int.reduceSub Int.reduceNeg decide_true decide_false Option.bind_some Bool.or_true Bool.or_false Bool.true_or Bool.false_or
attribute [local go_sem ↓] reduceIte
set_option maxRecDepth 20000
set_option maxHeartbeats 1000000
def lenF (h : Heap) : AV → Option Nat
  | .ptr f 0 => (match h.get f with
    | some (.cells [bv, _]) => if lenTag 1 bv && Nat.blt f h.next then (match bv with | .nils => some 0 | .hs _ _ _ _ n _ => some n | _ => none) else none
    | _ => none)
  | _ => none
def sumL (h : Heap) : List AV → Option Nat
  | [] => some 0
  | v :: r => (lenF h v).bind fun a => (sumL h r).bind fun b => some (a + b)
def usedF : List AV → Heap → Option (AV × Heap)
  | [.ptr d 0], h => (match h.get d with
    | some (.cells [_, .mp m, _, _, _, .bool false, _, _, _, _]) => (match h.get m with
      | some (.map es bs ck) => (sumL h (es.map (·.2))).bind fun n =>
        if n ≤ 4611686018427387904 ∧ bs.length = es.length ∧ bs.Nodup ∧ (∀ b ∈ bs, b < ck) ∧ m < h.next then some (.int .i64 n, (h.reserve 1).put h.next .dead) else none
      | _ => none)
    | _ => none)
  | _, _ => none
theorem sumL_app (h : Heap) : ∀ (a b : List AV) (n : Nat), sumL h (a ++ b) = some n ↔ ∃ x y, sumL h a = some x ∧ sumL h b = some y ∧ n = x + y
  | [], b, n => by
    constructor
    · intro e; exact ⟨0, n, rfl, e, by omega⟩
    · rintro ⟨x, y, e1, e2, rfl⟩
      simp only [sumL, Option.some.injEq] at e1
      subst e1
      rw [Nat.zero_add]; exact e2
  | v :: a, b, n => by
    simp only [List.cons_append, sumL, Option.bind_eq_some_iff, Option.some.injEq, sumL_app h a b]
    constructor
    · rintro ⟨p, h1, q, ⟨x, y, h2, h3, rfl⟩, rfl⟩
      exact ⟨p + x, y, ⟨p, h1, x, h2, rfl⟩, h3, by omega⟩
    · rintro ⟨x, y, ⟨p, h1, q, h2, rfl⟩, h3, rfl⟩
      exact ⟨p, h1, q + y, ⟨q, y, h2, h3, rfl⟩, by omega⟩
theorem sumL_pick {h : Heap} {l1 l2 : List (Nat × AV × AV)} {p : Nat × AV × AV} {n : Nat} (hs : sumL h ((l1 ++ p :: l2).map (·.2.2)) = some n) : ∃ a r, lenF h p.2.2 = some a ∧ sumL h ((l1 ++ l2).map (·.2.2)) = some r ∧ n = a + r := by
  rw [List.map_append, sumL_app] at hs
  obtain ⟨x, y, h1, h2, rfl⟩ := hs
  simp only [List.map_cons, sumL, Option.bind_eq_some_iff, Option.some.injEq] at h2
  obtain ⟨a, h3, b, h4, rfl⟩ := h2
  exact ⟨a, x + b, h3, by rw [List.map_append, sumL_app]; exact ⟨x, b, h1, h4, rfl⟩, by omega⟩
def PU : Prog := { fn := code, prim := prim0, pure := pures }
theorem lenF_ext {h h' : Heap} (hx : Ext h h') {v : AV} {a : Nat} (hl : lenF h v = some a) : ∃ f bv su, v = .ptr f 0 ∧ h'.get f = some (.cells [bv, su]) ∧ lenTag 1 bv = true ∧ (∀ h, lenA h bv = some a) ∧ f < h.next ∧ (∀ i, evS i (some bv) = some bv) := by
  unfold lenF at hl
  split at hl
  · rename_i f
    split at hl
    · rename_i bv su hg
      split at hl
      · rename_i hc
        simp only [Bool.and_eq_true, nblt, decide_eq_true_eq] at hc
        split at hl
        · obtain rfl := Option.some.inj hl
          exact ⟨f, _, su, rfl, (hx.2 f hc.2).trans hg, hc.1, fun _ => rfl, hc.2, fun _ => rfl⟩
        · obtain rfl := Option.some.inj hl
          exact ⟨f, _, su, rfl, (hx.2 f hc.2).trans hg, hc.1, fun _ => rfl, hc.2, fun _ => rfl⟩
        · simp at hl
      · simp at hl
    · simp at hl
  · simp at hl
theorem used_x (args : List AV) (h : Heap) (v : AV) (h' : Heap) (hF : usedF args h = some (v, h')) : FunX PU 33 args h (fun v2 h2 => v2 = v ∧ SubH h' h2) := by
  unfold usedF at hF
  split at hF
  · rename_i d
    split at hF
    · rename_i c0 m c2 c3 c4 c6 c7 c8 c9 hd
      split at hF
      · rename_i es bs ck hm
        simp only [Option.bind_eq_some_iff] at hF
        obtain ⟨n, hn, hF⟩ := hF
        split at hF
        · rename_i hc
          obtain ⟨n1, n2, n3, n4, n5⟩ := hc
          simp only [Option.some.injEq, Prod.mk.injEq] at hF
          obtain ⟨rfl, rfl⟩ := hF
          have hbel : allBel ck bs = true := by
            clear hm hn n2 n3
            induction bs with
            | nil => rfl
            | cons b r ih => simp only [allBel, Bool.and_eq_true, nblt, decide_eq_true_eq]; exact ⟨n4 b List.mem_cons_self, ih (fun x hx => n4 x (List.mem_cons_of_mem _ hx))⟩
          refine FunX.of (code := a33c) rfl ?_
          rw [a33c]
          refine WX_seq (WX.det ?_)
          simp (disch := omega) only [go_sem, a33r0]
          refine WX_seq (WX.det ?_)
          simp (disch := omega) only [go_sem, a33r1]
          refine WX_seq (WX.det ?_)
          simp (disch := omega) only [go_sem, a33r2, hd]
          refine WX_seq ?_
          refine WX_seq (WX.det ?_)
          simp (disch := omega) only [go_sem, a33r4, hd, hm]
          refine WX_block ?_
          have hb3 : Nat.ble ck ck = true := by simp
          refine WX_loop (fun x : Nat × Nat × List Nat × Heap => (∃ r, sumL h ((leftA x.2.2.1 bs es).map (·.2.2)) = some r ∧ x.2.1 + r = n) ∧ x.2.2.2.get h.next = some (.miter (some m) ck x.2.2.1 ck) ∧ x.2.2.2.next = h.next + 1 ∧ ∀ i, i ≠ h.next → x.2.2.2.get i = h.get i)
            (fun (t, a, seen, hh) => { fr := [(3, .int .i64 a), (18, .ptr h.next 0)], st := t, h := hh }) (fun x => (leftA x.2.2.1 bs es).length) ?_ _ (0, 0, [], _) (Nat.le_refl _) ⟨⟨n, by
              have := leftA_nil bs es n2
              rw [← this, List.map_map] at hn
              exact hn, Nat.zero_add n⟩, get_put_same _ _ _, rfl, fun i hi => get_put_ne _ _ _ _ hi⟩
          rintro ⟨t, a, seen, hh⟩ ⟨⟨r, g1, g2⟩, g3, g4, g5⟩
          simp only at g1 g2 g3 g4 g5
          have hm' : hh.get m = some (.map es bs ck) := (g5 m (by omega)).trans hm
          rw [a33l0]
          refine WX_seq ?_
          rw [a33r5]
          refine WX.next (a := .ptr h.next 0) (rs := nextsL { fr := [(3, .int .i64 a), (18, .ptr h.next 0)], st := t, h := hh } h.next m ck seen ck (leftA seen bs es)) (by simp (disch := omega) only [go_sem]) (by simp only [nexts, g3, hm', hbel, hb3, Bool.and_self, if_true]) (fun v s1 hmem => ?_)
          unfold nextsL at hmem
          by_cases he : (leftA seen bs es).isEmpty
          · rw [if_pos he, List.mem_singleton] at hmem
            obtain ⟨rfl, rfl⟩ := Prod.mk.inj hmem
            have hnil : leftA seen bs es = [] := by simpa using he
            rw [hnil] at g1
            simp only [List.map_nil, sumL, Option.some.injEq] at g1
            simp (disch := omega) only [go_sem]
            refine WX_seq (WX.det ?_)
            simp (disch := omega) only [go_sem]
            refine WX_seq (WX.det ?_)
            simp (disch := omega) only [go_sem, a33r8]
            refine WX.det ?_
            simp (disch := omega) only [go_sem]
            refine ⟨by rw [show a = n by omega], g4.symm, fun o x ho => ?_⟩
            by_cases e : o = h.next
            · subst e
              rw [get_put_same] at ho
              exact Or.inl (Option.some.inj ho).symm
            · rw [get_put_ne _ _ _ _ e, get_reserve] at ho
              exact Or.inr ((g5 o e).trans ho)
          · rw [if_neg he, List.mem_map] at hmem
            obtain ⟨p, hp, e⟩ := hmem
            obtain ⟨rfl, rfl⟩ := Prod.mk.inj e
            obtain ⟨l1, l2, q1, q2⟩ := leftA_pick bs es n3 hp
            rw [q1] at g1
            obtain ⟨x, r', x1, x2, x3⟩ := sumL_pick g1
            obtain ⟨f, bv, su, y1, y2, y3, y4, y5, y6⟩ := lenF_ext (h' := hh) ⟨by omega, fun i hi => g5 i (by omega)⟩ x1
            simp (disch := omega) only [go_sem]
            refine WX_seq (WX.det ?_)
            simp (disch := omega) only [go_sem]
            refine WX.det ?_
            obtain ⟨b1, pk, pv⟩ := p
            simp only at y1 q2 q1 x1 hp
            subst y1
            have fb := findB_pick bs es n3 hp
            have ck3 : Nat.beq ck ck = true := by simp
            have dm : m ≠ h.next := by omega
            have df : f ≠ h.next := by omega
            simp only at fb
            simp (disch := omega) only [go_sem, a33r6, get_put_same, get_put_ne, dm, hm', ck3, cond_true, lastN_app, fb]
            simp (disch := omega) only [go_sem, a33r7, get_put_ne, df, y2, y3, y4, y6]
            refine ⟨(t, a + x, seen ++ [b1], hh.put h.next (.miter (some m) ck (seen ++ [b1]) ck)), ⟨⟨r', by rw [q2]; exact x2, by simp only; omega⟩, get_put_same _ _ _, g4, fun i hi => (get_put_ne _ _ _ _ hi).trans (g5 i hi)⟩, by simp only; rw [q1, q2]; simp, ?_⟩
            rfl
        · simp at hF
      · simp at hF
    · simp at hF
  · simp at hF
theorem used_sim : CallSim L (onF 33 usedF) := onF_sim (PA := PU) allFn mixed code_sim prim0_sim used_x
def usedS (σ : DSt) : Nat := (σ.names.map fun p => (σ.file p.2).b.length).sum
theorem sumL_files {h : Heap} {d : Nat} {σ : DSt} {y : Lay} (hD : DiskAt h d σ y) : ∀ n : NMap, (∀ p ∈ n, p.2 ∈ σ.all) → sumL h ((kv (fp n)).map (·.2)) = some (n.map fun p => (σ.file p.2).b.length).sum
  | [], _ => rfl
  | p :: r, hp => by
    have ih := sumL_files hD r (fun q hq => hp q (List.mem_cons_of_mem _ hq))
    have hf := hp p List.mem_cons_self
    have hc := hD.cell _ hf
    have hb := hD.bytes _ hf
    have hlt := hD.lt p.2 (Or.inr (Or.inr (Or.inr (Or.inr (Or.inr ⟨p.2, hf, Or.inl rfl⟩)))))
    have e1 : lenF h (.ptr p.2 0) = some (σ.file p.2).b.length := by
      have hblt : Nat.blt p.2 h.next = true := by simp only [nblt, decide_eq_true_eq]; exact hlt
      simp only [lenF, hc]
      rcases hb with ⟨e, e'⟩ | ⟨o, ep, j, e, -⟩
      · rw [e, e', hblt]; rfl
      · rw [e, hblt]; rfl
    rw [fp_cons, kv_cons]
    simp only [List.map_cons, sumL, e1, ih, Option.bind_some, List.sum_cons]
theorem usedF_eq {h : Heap} {d : Nat} {σ : DSt} {y : Lay} (hD : DiskAt h d σ y) (hd : σ.dead = false) (hu : usedS σ ≤ 4611686018427387904) : usedF [.ptr d 0] h = some (.int .i64 (usedS σ), (h.reserve 1).put h.next .dead) := by
  obtain ⟨bs, ck, hg, hs⟩ := hD.names
  have hlt := hD.lt y.m (Or.inr (Or.inl rfl))
  have hdk := hD.disk
  simp only [DSt.cells, hd] at hdk
  simp only [usedF, hdk, hg, sumL_files hD σ.names hD.ok.names, Option.bind_some]
  rw [if_pos ⟨hu, by rw [hs.len, kv_length, fp_length], hs.nd, hs.lt, hlt⟩]
  rfl
theorem ext_dead (h : Heap) : Ext h ((h.reserve 1).put h.next .dead) := ⟨by show h.next ≤ h.next + 1; omega, fun i hi => by rw [get_put_ne _ _ _ _ (by omega)]; rfl⟩
end Go.Am.Dk

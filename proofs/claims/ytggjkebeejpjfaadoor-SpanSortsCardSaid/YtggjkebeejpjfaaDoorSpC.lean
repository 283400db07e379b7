/- The span layer's small functions: Great, Same, Lent, Kept. -/
import Derived.Test.YtggjkebeejpjfaaDoorAmAll3
import Derived.Test.YtggjkebeejpjfaaDoorSpB
set_option linter.unusedSimpArgs false
set_option linter.unusedVariables false
namespace Go.Am.Sp
open Go.Am
variable {P : Prog}
set_option maxHeartbeats 1000000
set_option maxRecDepth 20000
/-- Great: where it says no, all is small. -/
theorem great_den (hP : SpP P) (l : List Edit) (nl full : Bool) (hl : l.length ≤ 9223372036854775807) (hw : ∀ e ∈ l, e.x.length ≤ 9223372036854775807) : Den P 8 [slv nl full l] (fun v => ∃ b, v = .bool b ∧ (b = false → l.length ≤ 600 ∧ ∀ e ∈ l, e.x.length ≤ 200)) := by
  refine Den.of (code := a8c) (by rw [hP.fn]; rfl) (fun N => ?_)
  simp (disch := omega) only [go_sem, ne_eq, not_true_eq_false, not_false_eq_true, ↓reduceIte, Nat.reduceEqDiff, Nat.reduceAdd, Nat.reduceLeDiff, Int.toNat_natCast, Int.reduceToNat, and_self, Bool.not_true, Bool.not_false, Bool.false_and, Bool.and_false, Bool.true_and, Bool.and_true, a8c, a8r0, a8r1]
  refine Wp_loop (fun x : Nat => x ≤ l.length ∧ x ≤ 600 ∧ ∀ i, i < x → (l.getD i default).x.length ≤ 200) (fun k => { fr := [(0, slv nl full l), (3, .int .i64 k)], st := 0, h := { next := N, m := .leaf } }) (fun x => l.length - x) 0 rfl ⟨by simp, by simp, fun i hi => by omega⟩ ?_
  rintro k ⟨h1, h2, h3⟩
  have exit : ∀ b, (b = false → l.length ≤ 600 ∧ k = l.length) → ∃ b', AV.bool b = .bool b' ∧ (b' = false → l.length ≤ 600 ∧ ∀ e ∈ l, e.x.length ≤ 200) := fun b hb => ⟨b, rfl, fun h => by
    obtain ⟨p, q⟩ := hb h
    refine ⟨p, fun e he => ?_⟩
    obtain ⟨i, hi, rfl⟩ := List.getElem_of_mem he
    have := h3 i (by omega)
    rwa [List.getD_eq_getElem?_getD, List.getElem?_eq_getElem hi, Option.getD_some] at this⟩
  simp (disch := omega) only [go_sem, ne_eq, not_true_eq_false, not_false_eq_true, ↓reduceIte, Nat.reduceEqDiff, Nat.reduceAdd, Nat.reduceLeDiff, Int.toNat_natCast, Int.reduceToNat, and_self, Bool.not_true, Bool.not_false, Bool.false_and, Bool.and_false, Bool.true_and, Bool.and_true, a8l0, a8r2]
  refine guardS_pt (fun c1 d1 => ?_) (fun c1 d1 => ?_) <;> simp (disch := omega) only [go_sem, ne_eq, not_true_eq_false, not_false_eq_true, ↓reduceIte, Nat.reduceEqDiff, Nat.reduceAdd, Nat.reduceLeDiff, Int.toNat_natCast, Int.reduceToNat, and_self, Bool.not_true, Bool.not_false, Bool.false_and, Bool.and_false, Bool.true_and, Bool.and_true, d1, a8r6]
  · refine condS_if (fun c2 => ?_) (fun c2 => ?_) <;> simp (disch := omega) only [go_sem, ne_eq, not_true_eq_false, not_false_eq_true, ↓reduceIte, Nat.reduceEqDiff, Nat.reduceAdd, Nat.reduceLeDiff, Int.toNat_natCast, Int.reduceToNat, and_self, Bool.not_true, Bool.not_false, Bool.false_and, Bool.and_false, Bool.true_and, Bool.and_true, a8r3, a8r6]
    · refine condS_if (fun c3 => ?_) (fun c3 => ?_) <;> simp (disch := omega) only [go_sem, ne_eq, not_true_eq_false, not_false_eq_true, ↓reduceIte, Nat.reduceEqDiff, Nat.reduceAdd, Nat.reduceLeDiff, Int.toNat_natCast, Int.reduceToNat, and_self, Bool.not_true, Bool.not_false, Bool.false_and, Bool.and_false, Bool.true_and, Bool.and_true, a8r4, a8r5]
      · exact ⟨true, rfl, fun h => by cases h⟩
      · refine ⟨k + 1, ⟨by omega, by omega, fun i hi => ?_⟩, by omega, rfl⟩
        by_cases e : i = k
        · subst e; omega
        · exact h3 i (by omega)
    · exact exit _ (fun h => by simp at h; omega)
  · exact exit _ (fun h => by simp at h; omega)
theorem take_succ_eq {α : Type} [Inhabited α] {a b : List α} {k : Nat} (ha : k < a.length) (hb : k < b.length) (h : a.take k = b.take k) (hk : a.getD k default = b.getD k default) : a.take (k + 1) = b.take (k + 1) := by
  rw [List.take_succ_eq_append_getElem ha, List.take_succ_eq_append_getElem hb, h]
  simp only [List.getD_eq_getElem?_getD, List.getElem?_eq_getElem ha, List.getElem?_eq_getElem hb, Option.getD_some] at hk
  rw [hk]
theorem same_den (hP : SpP P) (a b : List UInt8) (n1 f1 n2 f2 : Bool) (hl : a.length ≤ 9223372036854775807) (hl' : b.length ≤ 9223372036854775807) : Den P 23 [slv n1 f1 a, slv n2 f2 b] (fun v => v = .bool (decide (a = b))) := by
  refine Den.of (code := a23c) (by rw [hP.fn]; rfl) (fun N => ?_)
  simp (disch := omega) only [go_sem, ne_eq, not_true_eq_false, not_false_eq_true, ↓reduceIte, Nat.reduceEqDiff, Nat.reduceAdd, Nat.reduceLeDiff, Int.toNat_natCast, Int.reduceToNat, and_self, Bool.not_true, Bool.not_false, Bool.false_and, Bool.and_false, Bool.true_and, Bool.and_true, a23c, a23r0, a23r1]
  refine condS_if (fun h => ?_) (fun h => ?_) <;> simp (disch := omega) only [go_sem, ne_eq, not_true_eq_false, not_false_eq_true, ↓reduceIte, Nat.reduceEqDiff, Nat.reduceAdd, Nat.reduceLeDiff, Int.toNat_natCast, Int.reduceToNat, and_self, Bool.not_true, Bool.not_false, Bool.false_and, Bool.and_false, Bool.true_and, Bool.and_true, a23r2, a23r3]
  · have : ¬ a = b := fun e => h (by rw [e])
    simp [this]
  · have hlen : a.length = b.length := by omega
    refine Wp_loop (fun x : Nat × Nat => x.2 ≤ a.length ∧ a.take x.2 = b.take x.2) (fun (t, k) => { fr := [(0, slv n1 f1 a), (1, slv n2 f2 b), (5, .int .i64 k)], st := t, h := { next := N, m := .leaf } }) (fun x => a.length - x.2) (0, 0) rfl ⟨by simp, by simp⟩ ?_
    rintro ⟨t, k⟩ ⟨h1, h2⟩
    simp only at h1 h2
    simp (disch := omega) only [go_sem, ne_eq, not_true_eq_false, not_false_eq_true, ↓reduceIte, Nat.reduceEqDiff, Nat.reduceAdd, Nat.reduceLeDiff, Int.toNat_natCast, Int.reduceToNat, and_self, Bool.not_true, Bool.not_false, Bool.false_and, Bool.and_false, Bool.true_and, Bool.and_true, a23l0, a23r4]
    refine condS_if (fun hk => ?_) (fun hk => ?_)
    · simp (disch := omega) only [go_sem, ne_eq, not_true_eq_false, not_false_eq_true, ↓reduceIte, Nat.reduceEqDiff, Nat.reduceAdd, Nat.reduceLeDiff, Int.toNat_natCast, Int.reduceToNat, and_self, Bool.not_true, Bool.not_false, Bool.false_and, Bool.and_false, Bool.true_and, Bool.and_true, a23d5]
      refine condS_if (fun c => ?_) (fun c => ?_) <;> simp (disch := omega) only [go_sem, ne_eq, not_true_eq_false, not_false_eq_true, ↓reduceIte, Nat.reduceEqDiff, Nat.reduceAdd, Nat.reduceLeDiff, Int.toNat_natCast, Int.reduceToNat, and_self, Bool.not_true, Bool.not_false, Bool.false_and, Bool.and_false, Bool.true_and, Bool.and_true, a23r6, a23r7]
      · have : ¬ a = b := fun e => c (by rw [e])
        simp [this]
      · refine ⟨(t + 1, k + 1), ⟨by simp only; omega, ?_⟩, by simp only; omega, rfl⟩
        refine take_succ_eq (by omega) (by omega) h2 ?_
        have c' : ((a.getD k default).toNat : Int) = ((b.getD k default).toNat : Int) := by simpa using c
        exact UInt8.toNat_inj.1 (by exact_mod_cast c')
    · simp (disch := omega) only [go_sem, ne_eq, not_true_eq_false, not_false_eq_true, ↓reduceIte, Nat.reduceEqDiff, Nat.reduceAdd, Nat.reduceLeDiff, Int.toNat_natCast, Int.reduceToNat, and_self, Bool.not_true, Bool.not_false, Bool.false_and, Bool.and_false, Bool.true_and, Bool.and_true, a23r8]
      have : a = b := by
        have := h2
        rwa [List.take_of_length_le (by omega), List.take_of_length_le (by omega)] at this
      simp [this]

/-! ### Lent, Kept -/
/-- Bytes in memory that has three more behind them. -/
def LentV (h : Heap) (v : AV) (b : List UInt8) : Prop := ∃ o ep, v = .hs 1 o ep 0 b.length false ∧ h.get o = some (.row 1 ep ((b ++ [77, 78, 79]).flatMap Enc.cells))
theorem three (h : Heap) : Adds h (.sl 1 3 (fun i => (([.int .u8 77, .int .u8 78, .int .u8 79] : List AV).drop (i * 1)).take 1) true) ([77, 78, 79] : List UInt8) := ⟨rfl, rfl⟩
theorem lent_fun (hP : SpP P) (b : List UInt8) (n1 f1 : Bool) (hl : b.length ≤ 1000000000000) (h : Heap) : Fun P 10 [slv n1 f1 b] h (fun v h' => LentV h' v b) := by
  refine Fun.of (code := a10c) (by rw [hP.fn]; rfl) (by rw [hP.pure _ (by decide)]; rfl) ?_
  simp (disch := omega) only [go_sem, ne_eq, not_true_eq_false, not_false_eq_true, ↓reduceIte, Nat.reduceEqDiff, Nat.reduceAdd, Nat.reduceLeDiff, Int.toNat_natCast, Int.reduceToNat, and_self, Bool.not_true, Bool.not_false, Bool.false_and, Bool.and_false, Bool.true_and, Bool.and_true, a10c, a10r0, a10r1]
  refine step_app (α := UInt8) (bytes := 1) (l := []) (new := b) (Or.inr ⟨h.next + 0, 0, rfl, ?_⟩) (adds_slv _ _ _ _) rfl (by simp [two47]; omega) (fun v' h' hr hn ho hf => ?_)
  · simp (disch := omega) only [go_sem, ne_eq, not_true_eq_false, not_false_eq_true, ↓reduceIte, Nat.reduceEqDiff, Nat.reduceAdd, Nat.reduceLeDiff, Int.toNat_natCast, Int.reduceToNat, and_self, Bool.not_true, Bool.not_false, Bool.false_and, Bool.and_false, Bool.true_and, Bool.and_true]; rfl
  simp (disch := omega) only [go_sem, ne_eq, not_true_eq_false, not_false_eq_true, ↓reduceIte, Nat.reduceEqDiff, Nat.reduceAdd, Nat.reduceLeDiff, Int.toNat_natCast, Int.reduceToNat, and_self, Bool.not_true, Bool.not_false, Bool.false_and, Bool.and_false, Bool.true_and, Bool.and_true, a10r2]
  rw [List.nil_append] at hr
  have hevd : ∀ i, evS i (some v') = some v' := fun i => by rcases hr with ⟨rfl, -⟩ | ⟨o, ep, rfl, -⟩ <;> rfl
  simp (disch := omega) only [go_sem, ne_eq, not_true_eq_false, not_false_eq_true, ↓reduceIte, Nat.reduceEqDiff, Nat.reduceAdd, Nat.reduceLeDiff, Int.toNat_natCast, Int.reduceToNat, and_self, Bool.not_true, Bool.not_false, Bool.false_and, Bool.and_false, Bool.true_and, Bool.and_true, hevd]
  refine step_app (α := UInt8) (bytes := 1) (l := b) (new := [77, 78, 79]) (by exact hr) (three _) rfl (by simp [two47]; omega) (fun v2 h2 hr2 hn2 ho2 hf2 => ?_)
  rcases hr2 with ⟨-, e⟩ | ⟨o, ep, rfl, hg⟩
  · simp at e
  · have hlen : (b ++ [77, 78, 79]).length = b.length + 3 := by simp
    simp (disch := omega) only [go_sem, ne_eq, not_true_eq_false, not_false_eq_true, ↓reduceIte, Nat.reduceEqDiff, Nat.reduceAdd, Nat.reduceLeDiff, Int.toNat_natCast, Int.reduceToNat, and_self, Bool.not_true, Bool.not_false, Bool.false_and, Bool.and_false, Bool.true_and, Bool.and_true, a10r3, hlen, sz_U8]
    exact ⟨o, ep, by simp, hg⟩
theorem kept_fun (hP : SpP P) (b : List UInt8) (n1 f1 : Bool) (hl : b.length ≤ 1000000000000) (h : Heap) (v0 : AV) (hv : LentV h v0 b) : Fun P 14 [v0, slv n1 f1 b] h (fun v h' => v = .bool true ∧ h' = h) := by
  obtain ⟨o, ep, rfl, hg⟩ := hv
  have hfl : ((b ++ [77, 78, 79]).flatMap Enc.cells).length = b.length + 3 := by rw [flatMap_len, sz_U8]; simp
  have hlen : (b ++ [77, 78, 79]).length = b.length + 3 := by simp
  have t3 : ((b.length : Int) + 3).toNat = b.length + 3 := by omega
  have t1 : ((b.length : Int) + 1).toNat = b.length + 1 := by omega
  have t2 : ((b.length : Int) + 2).toNat = b.length + 2 := by omega
  have s1 := slxR_some 1 1 o ep 0 0 (b.length + 3) 1 ((b ++ [77, 78, 79]).flatMap Enc.cells) rfl (by omega) (by omega) (by rw [hfl]; omega)
  have s2 := slxR_some 1 1 o ep 0 0 b.length 1 ((b ++ [77, 78, 79]).flatMap Enc.cells) rfl (by omega) (by omega) (by rw [hfl]; omega)
  have q0 : sub ((b ++ [77, 78, 79]).flatMap Enc.cells) b.length 1 = some [.int .u8 77] := 
    (sub_one (α := UInt8) (l := b ++ [77, 78, 79]) (i := b.length) rfl (by omega)).trans (by rw [show List.getD (b ++ [77, 78, 79]) b.length default = (77 : UInt8) by simp]; rfl)
  have q1 : sub ((b ++ [77, 78, 79]).flatMap Enc.cells) (b.length + 1) 1 = some [.int .u8 78] := 
    (sub_one (α := UInt8) (l := b ++ [77, 78, 79]) (i := b.length + 1) rfl (by omega)).trans (by rw [show List.getD (b ++ [77, 78, 79]) (b.length + 1) default = (78 : UInt8) by simp]; rfl)
  have q2 : sub ((b ++ [77, 78, 79]).flatMap Enc.cells) (b.length + 2) 1 = some [.int .u8 79] := 
    (sub_one (α := UInt8) (l := b ++ [77, 78, 79]) (i := b.length + 2) rfl (by omega)).trans (by rw [show List.getD (b ++ [77, 78, 79]) (b.length + 2) default = (79 : UInt8) by simp]; rfl)
  refine Fun.of (code := a14c) (by rw [hP.fn]; rfl) (by rw [hP.pure _ (by decide)]; rfl) ?_
  simp (disch := omega) only [go_sem, ne_eq, not_true_eq_false, not_false_eq_true, ↓reduceIte, Nat.reduceEqDiff, Nat.reduceAdd, Nat.reduceLeDiff, Int.toNat_natCast, Int.reduceToNat, and_self, Bool.not_true, Bool.not_false, Bool.false_and, Bool.and_false, Bool.true_and, Bool.and_true, a14c, a14r0, a14r1, hg, t3, s1, Nat.sub_zero]
  simp (disch := omega) only [go_sem, ne_eq, not_true_eq_false, not_false_eq_true, ↓reduceIte, Nat.reduceEqDiff, Nat.reduceAdd, Nat.reduceLeDiff, Int.toNat_natCast, Int.reduceToNat, and_self, Bool.not_true, Bool.not_false, Bool.false_and, Bool.and_false, Bool.true_and, Bool.and_true, a14r2, hg, s2, Nat.sub_zero]
  have e0 : frz h 0 40 (.hs 1 o ep 0 b.length false) = slv false false b := by
    refine (frz_hs (α := UInt8) (off := 0) (len := b.length) (N := 0) (n := 39) (full := false) (l := b ++ [77, 78, 79]) hg (by omega) (Nat.zero_le _)).trans (by simp)
  refine WO.den (k := 1) (vs := [.hs 1 o ep 0 b.length false, slv n1 f1 b]) (by rw [hP.pure _ (by decide)]; rfl) (by simp (disch := omega) only [go_sem, ne_eq, not_true_eq_false, not_false_eq_true, ↓reduceIte, Nat.reduceEqDiff, Nat.reduceAdd, Nat.reduceLeDiff, Int.toNat_natCast, Int.reduceToNat, and_self, Bool.not_true, Bool.not_false, Bool.false_and, Bool.and_false, Bool.true_and, Bool.and_true]) (R := fun v => v = .bool true) ?_ (fun v hv => ?_) (fun v hv => ?_)
  · simp only [lent_11, List.map_cons, List.map_nil, e0, frz_slv]
    exact (same_den hP b b false false n1 f1 (by omega) (by omega)).mono (fun v h => by rw [h]; simp)
  · subst hv; simp (disch := omega) only [go_sem, ne_eq, not_true_eq_false, not_false_eq_true, ↓reduceIte, Nat.reduceEqDiff, Nat.reduceAdd, Nat.reduceLeDiff, Int.toNat_natCast, Int.reduceToNat, and_self, Bool.not_true, Bool.not_false, Bool.false_and, Bool.and_false, Bool.true_and, Bool.and_true]
  · subst hv
    simp (disch := omega) only [go_sem, ne_eq, not_true_eq_false, not_false_eq_true, ↓reduceIte, Nat.reduceEqDiff, Nat.reduceAdd, Nat.reduceLeDiff, Int.toNat_natCast, Int.reduceToNat, and_self, Bool.not_true, Bool.not_false, Bool.false_and, Bool.and_false, Bool.true_and, Bool.and_true, hg, t1, t2, q0, q1, q2, Nat.mul_one, decide_true]
end Go.Am.Sp

/- Clone, Lent, Kept, Same on the abstract machine, with what they leave alone. -/
import Derived.Test.YtijfdjjbodalaaaDkGreat
set_option linter.unusedSimpArgs false
set_option linter.unusedVariables false
namespace Go.Am.Dk
open Go.Am
attribute [local go_sem] ne_eq not_true_eq_false not_false_eq_true Nat.reduceEqDiff Nat.reduceAdd Nat.reduceLeDiff Int.toNat_natCast Int.reduceToNat and_self Bool.not_true Bool.not_false Bool.false_and Bool.and_false Bool.true_and Bool.and_true
attribute [local go_sem ↓] reduceIte
set_option maxRecDepth 20000
set_option maxHeartbeats 1000000
def Ext (h h' : Heap) : Prop := h.next ≤ h'.next ∧ ∀ i, i < h.next → h'.get i = h.get i
theorem Ext.refl (h : Heap) : Ext h h := ⟨Nat.le_refl _, fun _ _ => rfl⟩
theorem Ext.trans {h h' h'' : Heap} (a : Ext h h') (b : Ext h' h'') : Ext h h'' := ⟨Nat.le_trans a.1 b.1, fun i hi => (b.2 i (Nat.lt_of_lt_of_le hi a.1)).trans (a.2 i hi)⟩
def NewRow (h h' : Heap) (v : AV) (l : List UInt8) : Prop := ∃ o ep, v = .hs 1 o ep 0 l.length false ∧ h.next ≤ o ∧ o < h'.next ∧ h'.get o = some (.row 1 ep (l.flatMap Enc.cells))
variable {P : Prog}
theorem clone_fun (hf : P.fn 35 = some a35) (hp : P.pure 35 = 0) (v : AV) (l : List UInt8) (h : Heap) (hl : l.length ≤ 1000000000000) (ha : ∀ h', Ext h h' → Adds h' v l) (hn : same 2 v .nils = some false) (hev : ∀ i, evS i (some v) = some v) (hdv : datW (some v) = some v) :
    Fun P 35 [v] h (fun v' h' => NewRow h h' v' l ∧ Ext h h') := by
  refine Fun.of (code := a35c) hf hp ?_
  simp (disch := omega) only [go_sem, a35c, a35r0, a35r1, hev, hdv, hn]
  simp (disch := omega) only [go_sem, a35r3, hev, hdv]
  have hx : Ext h ((h.reserve 2).put h.next (AObj.row 1 0 [])) := ⟨by show h.next ≤ h.next + 2; omega, fun i hi => get_put_ne _ _ _ _ (by omega)⟩
  refine step_app (α := UInt8) (bytes := 1) (l := []) (new := l) (Or.inr ⟨h.next, 0, rfl, get_put_same _ _ _⟩) (ha _ hx) rfl (by simp [two47]; omega) (fun v' h' hr hnx ho hfr => ?_)
  rw [List.nil_append] at hr
  have hrow : ∃ o ep, v' = .hs 1 o ep 0 l.length false ∧ h'.get o = some (.row 1 ep (l.flatMap Enc.cells)) ∧ (o = h.next ∨ o = h.next + 1) := by
    rcases hr with ⟨rfl, -⟩ | ⟨o, ep, rfl, hg⟩
    · rcases ho with ho | ho <;> cases ho
    · exact ⟨o, ep, rfl, hg, by simpa [rowOf] using ho⟩
  obtain ⟨o, ep, rfl, hg, ho⟩ := hrow
  have hnx' : h'.next = h.next + 2 := hnx
  simp (disch := omega) only [go_sem]
  refine ⟨⟨o, ep, rfl, by omega, by omega, hg⟩, by omega, fun i hi => ?_⟩
  rw [hfr i (by omega) (by simp only [rowOf, ne_eq, Option.some.injEq]; omega)]
  exact hx.2 i hi
def LentAt (h : Heap) (o ep : Nat) (b : List UInt8) : Prop := h.get o = some (.row 1 ep ((b ++ [77, 78, 79]).flatMap Enc.cells))
theorem three (h : Heap) : Adds h (.sl 1 3 (fun i => (([.int .u8 77, .int .u8 78, .int .u8 79] : List AV).drop (i * 1)).take 1) true) ([77, 78, 79] : List UInt8) := ⟨rfl, rfl⟩
theorem lent_fun (hf : P.fn 9 = some a9) (hp : P.pure 9 = 0) (b : List UInt8) (n1 f1 : Bool) (hl : b.length ≤ 1000000000000) (h : Heap) :
    Fun P 9 [slv n1 f1 b] h (fun v h' => ∃ o ep, v = .hs 1 o ep 0 b.length false ∧ h.next ≤ o ∧ o < h'.next ∧ LentAt h' o ep b ∧ Ext h h') := by
  refine Fun.of (code := a9c) hf hp ?_
  simp (disch := omega) only [go_sem, a9c, a9r0, a9r1]
  have hx : Ext h ((h.reserve 2).put h.next (AObj.row 1 0 [])) := ⟨by show h.next ≤ h.next + 2; omega, fun i hi => get_put_ne _ _ _ _ (by omega)⟩
  refine step_app (α := UInt8) (bytes := 1) (l := []) (new := b) (Or.inr ⟨h.next, 0, rfl, get_put_same _ _ _⟩) (adds_slv _ _ _ _) rfl (by simp [two47]; omega) (fun v' h' hr hnx ho hfr => ?_)
  rw [List.nil_append] at hr
  have hrow : ∃ o ep, v' = .hs 1 o ep 0 b.length false ∧ h'.get o = some (.row 1 ep (b.flatMap Enc.cells)) ∧ (o = h.next ∨ o = h.next + 1) := by
    rcases hr with ⟨rfl, -⟩ | ⟨o, ep, rfl, hg⟩
    · rcases ho with ho | ho <;> cases ho
    · exact ⟨o, ep, rfl, hg, by simpa [rowOf] using ho⟩
  obtain ⟨o, ep, rfl, hg, ho⟩ := hrow
  have hnx' : h'.next = h.next + 2 := hnx
  simp (disch := omega) only [go_sem, a9r2]
  refine step_app (α := UInt8) (bytes := 1) (l := b) (new := [77, 78, 79]) (Or.inr ⟨o, ep, rfl, by show Heap.get (Heap.reserve h' 1) o = _; exact hg⟩) (three _) rfl (by simp [two47]; omega) (fun v2 h2 hr2 hn2 ho2 hf2 => ?_)
  have hrow2 : ∃ o2 ep2, v2 = .hs 1 o2 ep2 0 (b ++ [77, 78, 79]).length false ∧ h2.get o2 = some (.row 1 ep2 ((b ++ [77, 78, 79]).flatMap Enc.cells)) ∧ (o2 = o ∨ o2 = h'.next) := by
    rcases hr2 with ⟨rfl, -⟩ | ⟨o, ep, rfl, hg⟩
    · rcases ho2 with ho | ho <;> cases ho
    · exact ⟨o, ep, rfl, hg, by simpa [rowOf] using ho2⟩
  obtain ⟨o2, ep2, rfl, hg2, ho2⟩ := hrow2
  have hlen : (b ++ [77, 78, 79]).length = b.length + 3 := by simp
  have hn2' : h2.next = h'.next + 1 := hn2
  simp (disch := omega) only [go_sem, a9r3, hlen, sz_U8]
  refine ⟨o2, ep2, by simp, by omega, by omega, hg2, by omega, fun i hi => ?_⟩
  rw [hf2 i (by omega) (by simp only [rowOf, ne_eq, Option.some.injEq]; omega)]
  show h'.get i = _
  rw [hfr i (by omega) (by simp only [rowOf, ne_eq, Option.some.injEq]; omega)]
  exact hx.2 i hi
theorem take_succ_eq {α : Type} [Inhabited α] {a b : List α} {k : Nat} (ha : k < a.length) (hb : k < b.length) (h : a.take k = b.take k) (hk : a.getD k default = b.getD k default) : a.take (k + 1) = b.take (k + 1) := by
  rw [List.take_succ_eq_append_getElem ha, List.take_succ_eq_append_getElem hb, h]
  simp only [List.getD_eq_getElem?_getD, List.getElem?_eq_getElem ha, List.getElem?_eq_getElem hb, Option.getD_some] at hk
  rw [hk]
theorem same_den (hf : P.fn 14 = some a14) (a b : List UInt8) (n1 f1 n2 f2 : Bool) (hl : a.length ≤ 9223372036854775807) (hl' : b.length ≤ 9223372036854775807) : Den P 14 [slv n1 f1 a, slv n2 f2 b] (fun v => v = .bool (decide (a = b))) := by
  refine Den.of (code := a14c) hf (fun N => ?_)
  simp (disch := omega) only [go_sem, a14c, a14r0, a14r1]
  refine condS_if (fun h => ?_) (fun h => ?_) <;> simp (disch := omega) only [go_sem, a14r2, a14r3]
  · have : ¬ a = b := fun e => h (by rw [e])
    simp [this]
  · have hlen : a.length = b.length := by omega
    refine Wp_loop (fun x : Nat × Nat => x.2 ≤ a.length ∧ a.take x.2 = b.take x.2) (fun (t, k) => { fr := [(0, slv n1 f1 a), (1, slv n2 f2 b), (5, .int .i64 k)], st := t, h := { next := N, m := .leaf } }) (fun x => a.length - x.2) (0, 0) rfl ⟨by simp, by simp⟩ ?_
    rintro ⟨t, k⟩ ⟨h1, h2⟩
    simp only at h1 h2
    simp (disch := omega) only [go_sem, a14l0, a14r4]
    refine condS_if (fun hk => ?_) (fun hk => ?_)
    · simp (disch := omega) only [go_sem, a14d5]
      refine condS_if (fun c => ?_) (fun c => ?_) <;> simp (disch := omega) only [go_sem, a14r6, a14r7]
      · have : ¬ a = b := fun e => c (by rw [e])
        simp [this]
      · refine ⟨(t + 1, k + 1), ⟨by simp only; omega, ?_⟩, by simp only; omega, rfl⟩
        refine take_succ_eq (by omega) (by omega) h2 ?_
        have c' : ((a.getD k default).toNat : Int) = ((b.getD k default).toNat : Int) := by simpa using c
        exact UInt8.toNat_inj.1 (by exact_mod_cast c')
    · simp (disch := omega) only [go_sem, a14r8]
      have : a = b := by
        have := h2
        rwa [List.take_of_length_le (by omega), List.take_of_length_le (by omega)] at this
      simp [this]
theorem kept_fun (hf : P.fn 12 = some a12) (hp : P.pure 12 = 0) (hf14 : P.fn 14 = some a14) (hp14 : P.pure 14 = 2) (b : List UInt8) (n1 f1 : Bool) (hl : b.length ≤ 1000000000000) (h : Heap) (o ep : Nat) (hg : LentAt h o ep b) : Fun P 12 [.hs 1 o ep 0 b.length false, slv n1 f1 b] h (fun v h' => v = .bool true ∧ h' = h) := by
  unfold LentAt at hg
  have hfl : ((b ++ [77, 78, 79]).flatMap Enc.cells).length = b.length + 3 := by rw [flatMap_len, sz_U8]; simp
  have hlen : (b ++ [77, 78, 79]).length = b.length + 3 := by simp
  have t3 : ((b.length : Int) + 3).toNat = b.length + 3 := by omega
  have t1 : ((b.length : Int) + 1).toNat = b.length + 1 := by omega
  have t2 : ((b.length : Int) + 2).toNat = b.length + 2 := by omega
  have s1 := slxR_some 1 1 o ep 0 0 (b.length + 3) 1 ((b ++ [77, 78, 79]).flatMap Enc.cells) rfl (by omega) (by omega) (by rw [hfl]; omega)
  have s2 := slxR_some 1 1 o ep 0 0 b.length 1 ((b ++ [77, 78, 79]).flatMap Enc.cells) rfl (by omega) (by omega) (by rw [hfl]; omega)
  have q0 : sub ((b ++ [77, 78, 79]).flatMap Enc.cells) b.length 1 = some [.int .u8 77] := 
    (sub_one (α := UInt8) (l := b ++ [77, 78, 79]) (i := b.length) rfl (by omega)).trans (by rw [show List.getD (b ++ [77, 78, 79]) b.length default = (77 : UInt8) by simp]; rfl)
  have q1 : sub ((b ++ [77, 78, 79]).flatMap Enc.cells) (b.length + 1) 1 = some [.int .u8 78] := 
    (sub_one (α := UInt8) (l := b ++ [77, 78, 79]) (i := b.length + 1) rfl (by omega)).trans (by rw [show List.getD (b ++ [77, 78, 79]) (b.length + 1) default = (78 : UInt8) by simp]; rfl)
  have q2 : sub ((b ++ [77, 78, 79]).flatMap Enc.cells) (b.length + 2) 1 = some [.int .u8 79] := 
    (sub_one (α := UInt8) (l := b ++ [77, 78, 79]) (i := b.length + 2) rfl (by omega)).trans (by rw [show List.getD (b ++ [77, 78, 79]) (b.length + 2) default = (79 : UInt8) by simp]; rfl)
  refine Fun.of (code := a12c) hf hp ?_
  simp (disch := omega) only [go_sem, a12c, a12r0, a12r1, hg, t3, s1, Nat.sub_zero]
  simp (disch := omega) only [go_sem, a12r2, hg, s2, Nat.sub_zero]
  have e0 : frz h 0 40 (.hs 1 o ep 0 b.length false) = slv false false b := by
    refine (frz_hs (α := UInt8) (off := 0) (len := b.length) (N := 0) (n := 39) (full := false) (l := b ++ [77, 78, 79]) hg (by omega) (Nat.zero_le _)).trans (by simp)
  refine WO.den (k := 1) (vs := [.hs 1 o ep 0 b.length false, slv n1 f1 b]) hp14 (by simp (disch := omega) only [go_sem]) (R := fun v => v = .bool true) ?_ (fun v hv => ?_) (fun v hv => ?_)
  · simp only [lent_11, List.map_cons, List.map_nil, e0, frz_slv]
    exact (same_den hf14 b b false false n1 f1 (by omega) (by omega)).mono (fun v h => by rw [h]; simp)
  · subst hv; simp (disch := omega) only [go_sem]
  · subst hv
    simp (disch := omega) only [go_sem, hg, t1, t2, q0, q1, q2, Nat.mul_one]
end Go.Am.Dk

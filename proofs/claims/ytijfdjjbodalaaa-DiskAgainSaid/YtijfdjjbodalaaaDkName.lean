/- Name, on any text. -/
import Derived.Test.YtijfdjjbodalaaaDkDiskB
set_option linter.unusedSimpArgs false
set_option linter.unusedVariables false
namespace Go.Am.Dk
open Go.Am
attribute [local go_sem] ne_eq not_true_eq_false not_false_eq_true Nat.reduceEqDiff Nat.reduceAdd Nat.reduceLeDiff Int.toNat_natCast Int.reduceToNat and_self Bool.not_true Bool.not_false Bool.false_and Bool.and_false Bool.true_and Bool.and_true Int.reduceEq Int.reduceLT Int.reduceLE Int.reduceAdd Int.reduceSub Int.reduceNeg decide_true decide_false Option.bind_some Bool.or_true Bool.or_false Bool.true_or Bool.false_or
attribute [local go_sem ↓] reduceIte
set_option maxRecDepth 20000
set_option maxHeartbeats 1000000
variable {P : Prog}
def goodR (r : Int) : Bool := (decide (97 ≤ r) && decide (r ≤ 122)) || (decide (48 ≤ r) && decide (r ≤ 57)) || decide (r = 45) || decide (r = 46) || decide (r = 126)
theorem bad_den (hP : DkP P) (r : Int) : Den P 59 [.int .i32 r] (fun v => v = .bool (!goodR r)) := by
  refine Den.of (code := a59c) (hP.code rfl) (fun N => ?_)
  unfold goodR
  by_cases c1 : 97 ≤ r <;> by_cases c2 : r ≤ 122 <;> by_cases c3 : 48 ≤ r <;> by_cases c4 : r ≤ 57 <;> by_cases c5 : r = 45 <;> by_cases c6 : r = 46 <;> by_cases c7 : r = 126 <;> first
    | omega
    | (simp (disch := omega) only [go_sem, a59c, a59r0, a59r1, c1, c2, c3, c4, c5, c6, c7]; try rfl)
theorem decA_bytes (l : List UInt8) (k : Nat) : decA (l.map UInt8.toNat) k = Utf8.decode ⟨l.toArray⟩ k := by
  unfold decA
  congr 3
  rw [List.map_map]
  conv => rhs; rw [← List.map_id l]
  exact List.map_congr_left (fun x _ => by simp)
theorem at_bytes {l : List UInt8} {k : Nat} (hk : k < l.length) : ((⟨l.toArray⟩ : ByteArray).get! (k + 0)).toNat = (l.getD k default).toNat := by
  have : (⟨l.toArray⟩ : ByteArray).get! (k + 0) = l.toArray[k]! := rfl
  rw [this, List.getD_eq_getElem?_getD, List.getElem?_eq_getElem hk]
  simp [hk]
theorem dec_lo {l : List UInt8} {k : Nat} (hk : k < l.length) (h : (l.getD k default).toNat < 128) : decA (l.map UInt8.toNat) k = ((l.getD k default).toNat, 1) := by
  rw [decA_bytes]
  simp only [Utf8.decode, at_bytes hk]
  rw [if_pos h]
theorem dec_hi {l : List UInt8} {k : Nat} (hk : k < l.length) (h : ¬ (l.getD k default).toNat < 128) : 128 ≤ (decA (l.map UInt8.toNat) k).1 ∧ 1 ≤ (decA (l.map UInt8.toNat) k).2 := by
  rw [decA_bytes]
  simp only [Utf8.decode, at_bytes hk]
  rw [if_neg h]
  split
  · split
    · rename_i q; exact ⟨q, by simp⟩
    · decide
  · split
    · split
      · rename_i q
        simp only [Bool.and_eq_true, decide_eq_true_eq, ge_iff_le] at q
        exact ⟨by omega, by simp⟩
      · decide
    · split
      · split
        · rename_i q
          simp only [Bool.and_eq_true, decide_eq_true_eq, ge_iff_le] at q
          exact ⟨by omega, by simp⟩
        · decide
      · decide
theorem goodR_hi {r : Int} (h : 128 ≤ r) : goodR r = false := by
  unfold goodR
  rw [decide_eq_false (show ¬ r ≤ 122 by omega), decide_eq_false (show ¬ r ≤ 57 by omega), decide_eq_false (show ¬ r = 45 by omega), decide_eq_false (show ¬ r = 46 by omega), decide_eq_false (show ¬ r = 126 by omega)]
  simp
def goodB (b : UInt8) : Bool := goodR (b.toNat : Int)
theorem index_fun (hP : DkP P) (s : List UInt8) (h : Heap) (hl : s.length ≤ 9223372036854775807) :
    Fun P 80 [strv s, .fn 59 [], .bool true] h (fun v h' => ∃ r : Int, v = .int .i64 r ∧ (0 ≤ r ↔ s.all goodB = false) ∧ Ext h h') := by
  refine Fun.of (code := a80c) (hP.code rfl) (by rw [hP.pure]; rfl) ?_
  simp (disch := omega) only [go_sem, a80c, a80r0]
  simp (disch := omega) only [go_sem, a80r1]
  refine Wp_loop (fun x : Fr × Nat × Nat × Heap => (fget x.1 1 = some (.fn 59 []) ∧ fget x.1 2 = some (.bool true) ∧ fget x.1 10 = some (.ptr h.next 0)) ∧ x.2.2.1 ≤ s.length ∧ (s.take x.2.2.1).all goodB = true ∧ x.2.2.2.get h.next = some (.siter (s.map UInt8.toNat) x.2.2.1) ∧ x.2.2.2.next = h.next + 1 ∧ ∀ i, i < h.next → x.2.2.2.get i = h.get i)
    (fun (fr0, t, k, hh) => { fr := fr0, st := t, h := hh }) (fun x => s.length - x.2.2.1) ([(1, .fn 59 []), (2, .bool true), (10, .ptr h.next 0)], 0, 0, _) rfl ⟨⟨rfl, rfl, rfl⟩, Nat.zero_le _, rfl, get_put_same _ _ _, rfl, fun i hi => get_put_ne _ _ _ _ (by omega)⟩ ?_
  rintro ⟨fr0, t, k, hh⟩ ⟨⟨q1, q2, q3⟩, g1, g2, g3, g4, g5⟩
  simp only at q1 q2 q3 g1 g2 g3 g4 g5
  by_cases hk : k < s.length
  · have b1 : Nat.blt k (s.map UInt8.toNat).length = true := by simp only [nblt, decide_eq_true_eq, List.length_map]; exact hk
    simp (disch := omega) only [go_sem, a80l0, a80r2, g3, b1, cond_true, q1, q2, q3]
    simp (disch := omega) only [go_sem, a80r3]
    simp (disch := omega) only [go_sem, a80r4]
    refine WO_denv (k := 0) (vs := [.int .i32 (.ofNat (decA (s.map UInt8.toNat) k).1)]) rfl (by rw [hP.pure]; rfl) (by simp (disch := omega) only [go_sem]) (bad_den hP _) (fun v hv => by subst hv; rfl) (fun v hv => ?_)
    subst hv
    have hlo : goodR (.ofNat (decA (s.map UInt8.toNat) k).1) = goodB (s.getD k default) ∧ (goodB (s.getD k default) = true → (decA (s.map UInt8.toNat) k).2 = 1) := by
      by_cases c : (s.getD k default).toNat < 128
      · rw [dec_lo hk c]
        exact ⟨rfl, fun _ => rfl⟩
      · have := (dec_hi hk c).1
        have e1 : goodB (s.getD k default) = false := goodR_hi (by omega)
        refine ⟨?_, fun h => by rw [e1] at h; simp at h⟩
        rw [e1]
        exact goodR_hi (by show (128 : Int) ≤ ((decA (s.map UInt8.toNat) k).1 : Nat); omega)
    rw [hlo.1]
    cases hg : goodB (s.getD k default) with
    | true =>
      rw [hlo.2 hg]
      simp (disch := omega) only [go_sem]
      have hs1 : (s.take (k + 1)).all goodB = true := by
        rw [List.take_succ_eq_append_getElem hk, List.all_append, g2]
        rw [List.getD_eq_getElem?_getD, List.getElem?_eq_getElem hk] at hg
        simpa using hg
      exact ⟨(_, t, k + 1, hh.put h.next (.siter (s.map UInt8.toNat) (k + 1))), ⟨⟨rfl, rfl, rfl⟩, by simp only; omega, hs1, get_put_same _ _ _, g4, fun i hi => (get_put_ne _ _ _ _ (by omega)).trans (g5 i hi)⟩, by simp only; omega, rfl⟩
    | false =>
      simp (disch := omega) only [go_sem]
      simp (disch := omega) only [go_sem, a80r5]
      have hs1 : s.all goodB = false := by
        rw [List.all_eq_false]
        refine ⟨s[k], List.getElem_mem hk, ?_⟩
        rw [List.getD_eq_getElem?_getD, List.getElem?_eq_getElem hk] at hg
        have hg' : goodB s[k] = false := hg
        simp [hg']
      exact ⟨_, rfl, ⟨fun _ => hs1, fun _ => by show (0 : Int) ≤ (k : Int); omega⟩, by show h.next ≤ hh.next; omega, fun i hi => (get_put_ne _ _ _ _ (by omega)).trans (g5 i hi)⟩
  · have b1 : Nat.blt k (s.map UInt8.toNat).length = false := by simp only [nblt, decide_eq_false_iff_not, List.length_map]; exact hk
    simp (disch := omega) only [go_sem, a80l0, a80r2, g3, b1, cond_false, q1, q2, q3]
    simp (disch := omega) only [go_sem, a80r6]
    have hs1 : s.all goodB = true := by rw [List.take_of_length_le (by omega)] at g2; exact g2
    exact ⟨_, rfl, ⟨fun h => by omega, fun h => by rw [hs1] at h; simp at h⟩, by show h.next ≤ hh.next; omega, g5⟩
theorem indexF_fun (hP : DkP P) (s : List UInt8) (h : Heap) (hl : s.length ≤ 9223372036854775807) :
    Fun P 73 [strv s, .fn 59 []] h (fun v h' => ∃ r : Int, v = .int .i64 r ∧ (0 ≤ r ↔ s.all goodB = false) ∧ Ext h h') := by
  refine Fun.of (code := a73c) (hP.code rfl) (by rw [hP.pure]; rfl) ?_
  simp (disch := omega) only [go_sem, a73c, a73r0, a73r1]
  refine WO.fun (vs := [strv s, .fn 59 [], .bool true]) (by simp (disch := omega) only [go_sem]) (index_fun hP s h hl) (fun v h' hv => ?_)
  obtain ⟨r, rfl, hr, hx⟩ := hv
  simp (disch := omega) only [go_sem]
  exact ⟨r, rfl, hr, hx⟩
theorem contains_fun (hP : DkP P) (s : List UInt8) (h : Heap) (hl : s.length ≤ 9223372036854775807) :
    Fun P 60 [strv s, .fn 59 []] h (fun v h' => v = .bool (!s.all goodB) ∧ Ext h h') := by
  refine Fun.of (code := a60c) (hP.code rfl) (by rw [hP.pure]; rfl) ?_
  simp (disch := omega) only [go_sem, a60c, a60r0, a60r1]
  refine WO.fun (vs := [strv s, .fn 59 []]) (by simp (disch := omega) only [go_sem]) (indexF_fun hP s h hl) (fun v h' hv => ?_)
  obtain ⟨r, rfl, hr, hx⟩ := hv
  simp (disch := omega) only [go_sem]
  refine ⟨?_, hx⟩
  cases hq : s.all goodB with
  | true => have : ¬ 0 ≤ r := fun h => by rw [hr, hq] at h; simp at h
            simp [this]
  | false => have := hr.2 hq
             simp [this]
def nameL (s : List UInt8) : Bool := decide (s ≠ []) && decide (s.length ≤ 24) && s.all goodB
theorem name_funD (hP : DkP P) (s : List UInt8) (h : Heap) (hl : s.length ≤ 9223372036854775807) :
    Fun P 28 [strv s] h (fun v h' => v = .bool (nameL s) ∧ Ext h h') := by
  refine Fun.of (code := a28c) (hP.code rfl) (by rw [hP.pure]; rfl) ?_
  unfold nameL
  simp (disch := omega) only [go_sem, a28c, a28r0, a28r1]
  simp (disch := omega) only [go_sem, a28r2]
  refine guardS_pt (fun c1 w1 => ?_) (fun c1 w1 => ?_) <;> simp (disch := omega) only [go_sem, w1]
  · refine guardS_pt (fun c2 w2 => ?_) (fun c2 w2 => ?_) <;> simp (disch := omega) only [go_sem, w2]
    · refine WO.fun (vs := [strv s, .fn 59 []]) (by simp (disch := omega) only [go_sem]) (contains_fun hP s h hl) (fun v h' hv => ?_)
      obtain ⟨rfl, hx⟩ := hv
      simp (disch := omega) only [go_sem]
      exact ⟨by have : s.length ≤ 24 := by omega
                simp [this], hx⟩
    · exact ⟨by have : ¬ s.length ≤ 24 := by omega
                simp [this], Ext.refl h⟩
  · trace_state
    exact ⟨by simp, Ext.refl h⟩
end Go.Am.Dk

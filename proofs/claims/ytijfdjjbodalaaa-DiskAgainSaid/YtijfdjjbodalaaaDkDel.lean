/- slices.DeleteFunc over the disk's files. -/
import Derived.Test.YtijfdjjbodalaaaDkDiskE
set_option linter.unusedSimpArgs false
set_option linter.unusedVariables false
namespace Go.Am.Dk
open Go.Am
attribute [local go_sem] ne_eq not_true_eq_false not_false_eq_true Nat.reduceEqDiff Nat.reduceAdd Nat.reduceLeDiff Int.toNat_natCast Int.reduceToNat and_self Bool.not_true Bool.not_false Bool.false_and Bool.and_false Bool.true_and Bool.and_true Int.reduceEq Int.reduceLT Int.reduceLE Int.reduceAdd Int.reduceSub Int.reduceNeg decide_true decide_false Option.bind_some Bool.or_true Bool.or_false Bool.true_or Bool.false_or
attribute [local go_sem ↓] reduceIte
set_option maxRecDepth 20000
set_option maxHeartbeats 1000000
variable {P : Prog}
def pents (L : List Nat) : List (AV × AV) := L.map fun g => (.ptr g 0, .bool true)
theorem keyEq_ptr {h : Heap} {f g : Nat} (h1 : liveP h f 0 = true) (h2 : liveP h g 0 = true) : keyEq h (.ptr f 0) (.ptr g 0) = some (decide (f = g)) := by
  simp only [keyEq, nbeq, h1, h2, Bool.and_self, cond_true]
  by_cases e : f = g <;> simp [e]
theorem findA_ptr {h : Heap} {f : Nat} (hf : liveP h f 0 = true) : ∀ L : List Nat, (∀ g ∈ L, liveP h g 0 = true) → findA h (.ptr f 0) (pents L) = some (if f ∈ L then some (.bool true) else none)
  | [], _ => rfl
  | g :: L, hL => by
    have ih := findA_ptr hf L (fun x hx => hL x (List.mem_cons_of_mem _ hx))
    simp only [pents, List.map_cons, findA, keyEq_ptr hf (hL g List.mem_cons_self), Option.bind_some]
    by_cases e : f = g
    · simp [e]
    · simp only [e, decide_false, cond_false, List.mem_cons, false_or]
      exact ih
theorem updA_ptr {h : Heap} {f : Nat} (hf : liveP h f 0 = true) : ∀ L : List Nat, (∀ g ∈ L, liveP h g 0 = true) → updA h (.ptr f 0) (.bool true) (pents L) = some (pents (if f ∈ L then L else L ++ [f]))
  | [], _ => rfl
  | g :: L, hL => by
    have ih := updA_ptr hf L (fun x hx => hL x (List.mem_cons_of_mem _ hx))
    simp only [pents, List.map_cons, updA, keyEq_ptr hf (hL g List.mem_cons_self), Option.bind_some] at ih ⊢
    by_cases e : f = g
    · simp [e]
    · simp only [e, decide_false, cond_false, List.mem_cons, false_or, ih, Option.bind_some]
      split <;> simp
structure HasAt (h : Heap) (hb hm : Nat) (L : List Nat) : Prop where
  box : h.get hb = some (.cells [.mp hm])
  map : ∃ bs ck, h.get hm = some (.map (pents L) bs ck)
  live : ∀ g ∈ L, liveP h g 0 = true
theorem has_fun (hP : DkP P) (h : Heap) (hb hm f : Nat) (L : List Nat) (hH : HasAt h hb hm L) (hf : liveP h f 0 = true) : Fun P 52 [.ptr f 0, .ptr hb 0] h (fun v h' => v = .bool (!decide (f ∈ L)) ∧ h' = h) := by
  obtain ⟨hbx, ⟨bs, ck, hmp⟩, hlv⟩ := hH
  have hl : lookM h 2 (.bool false) false (.ptr f 0) (h.get hm) = some (.bool (decide (f ∈ L))) := by
    rw [hmp]
    show (findA h (.ptr f 0) (pents L)).bind _ = _
    rw [findA_ptr hf L hlv, Option.bind_some]
    by_cases e : f ∈ L <;> simp [e]
  refine Fun.of (code := a52c) (hP.code rfl) (by rw [hP.pure]; rfl) ?_
  simp (disch := omega) only [go_sem, a52c, a52r0]
  simp (disch := omega) only [go_sem, a52r1, hbx, hl]
theorem idx_fun (hP : DkP P) (h : Heap) (hb hm o ep : Nat) (l L : List Nat) (j : List AV) (hH : HasAt h hb hm L) (hg : h.get o = some (.row 1 ep (l.map (fun f => AV.ptr f 0) ++ j))) (hl : l.length ≤ 1000000000) (hlv : ∀ f ∈ l, liveP h f 0 = true) :
    Fun P 69 [.hs 1 o ep 0 l.length false, .fn 52 [.ptr hb 0]] h (fun v h' => h' = h ∧ ((v = .int .i64 (-1) ∧ ∀ f ∈ l, f ∈ L) ∨ ∃ k : Nat, v = .int .i64 k ∧ k < l.length ∧ (∀ f ∈ l.take k, f ∈ L) ∧ l.getD k 0 ∉ L)) := by
  refine Fun.of (code := a69c) (hP.code rfl) (by rw [hP.pure]; rfl) ?_
  simp (disch := omega) only [go_sem, a69c, a69r0]
  have lt1 : lenTag 1 (.hs 1 o ep 0 l.length false) = true := rfl
  have ln1 : ∀ h, lenA h (.hs 1 o ep 0 l.length false) = some l.length := fun _ => rfl
  simp (disch := omega) only [go_sem, a69r1, lt1, ln1, cond_true]
  refine Wp_loop (fun x : Fr × Nat × Nat => (fget x.1 0 = some (.hs 1 o ep 0 l.length false) ∧ fget x.1 1 = some (.fn 52 [.ptr hb 0]) ∧ fget x.1 7 = some (.int .i64 l.length) ∧ fget x.1 8 = some (.int .i64 x.2.2)) ∧ x.2.2 ≤ l.length ∧ ∀ f ∈ l.take x.2.2, f ∈ L)
    (fun (fr0, t, k) => { fr := fr0, st := t, h := h }) (fun x => l.length - x.2.2) (_, 0, 0) rfl ⟨⟨rfl, rfl, rfl, rfl⟩, Nat.zero_le _, by simp⟩ ?_
  rintro ⟨fr0, t, k⟩ ⟨⟨q0, q1, q7, q8⟩, g1, g2⟩
  simp only at q0 q1 q7 q8 g1 g2
  simp (disch := omega) only [go_sem, a69l0, a69r2, q0, q1, q7, q8]
  refine condS_if (fun hk => ?_) (fun hk => ?_)
  · have hk' : k < l.length := by omega
    have hc : (l.map (fun f => AV.ptr f 0) ++ j)[k]? = some (.ptr (l.getD k 0) 0) := by
      rw [List.getElem?_append_left (by simpa using hk'), List.getElem?_map, List.getD_eq_getElem?_getD, List.getElem?_eq_getElem hk']
      rfl
    have r1 := ld_raw _ _ _ hc
    simp (disch := omega) only [go_sem, a69r3, q0, q1, q7, q8]
    simp (disch := omega) only [go_sem, a69r4, hg, r1, Nat.mul_one, Nat.zero_add]
    have hmem : l.getD k 0 ∈ l := by
      rw [List.getD_eq_getElem?_getD, List.getElem?_eq_getElem hk']
      exact List.getElem_mem hk'
    refine WO_funv (vs := [.ptr (l.getD k 0) 0]) rfl (by simp (disch := omega) only [go_sem]) (has_fun hP h hb hm (l.getD k 0) L hH (hlv _ hmem)) (fun v h' hv => ?_)
    obtain ⟨rfl, rfl⟩ := hv
    simp (disch := omega) only [go_sem]
    by_cases e : l.getD k 0 ∈ L
    · simp (disch := omega) only [go_sem, decide_eq_true e]
      simp (disch := omega) only [go_sem, a69r6]
      refine ⟨(_, t, k + 1), ⟨⟨rfl, rfl, rfl, rfl⟩, by simp only; omega, fun f hf => ?_⟩, by simp only; omega, rfl⟩
      simp only at hf
      rw [List.take_succ_eq_append_getElem hk', List.mem_append, List.mem_singleton] at hf
      rcases hf with hf | hf
      · exact g2 f hf
      · rw [List.getD_eq_getElem?_getD, List.getElem?_eq_getElem hk'] at e
        rw [hf]; exact e
    · simp (disch := omega) only [go_sem, decide_eq_false e]
      simp (disch := omega) only [go_sem, a69r5]
      exact ⟨trivial, Or.inr ⟨k, rfl, hk', g2, e⟩⟩
  · simp (disch := omega) only [go_sem, a69r7]
    refine ⟨trivial, Or.inl ⟨by trivial, fun f hf => g2 f ?_⟩⟩
    rw [List.take_of_length_le (by omega)]
    exact hf
theorem del_fun (hP : DkP P) (h : Heap) (hb hm o ep : Nat) (l L : List Nat) (j : List AV) (hH : HasAt h hb hm L) (hg : h.get o = some (.row 1 ep (l.map (fun f => AV.ptr f 0) ++ j))) (hl : l.length ≤ 1000000000) (hlv : ∀ f ∈ l, liveP h f 0 = true) :
    Fun P 51 [.hs 1 o ep 0 l.length false, .fn 52 [.ptr hb 0]] h (fun v h' => v = .hs 1 o ep 0 (l.filter (fun f => decide (f ∈ L))).length false ∧ h'.get o = some (.row 1 ep ((l.filter (fun f => decide (f ∈ L))).map (fun f => AV.ptr f 0) ++ (List.replicate (l.length - (l.filter (fun f => decide (f ∈ L))).length) AV.nilp ++ j))) ∧ h'.next = h.next ∧ ∀ q, q ≠ o → h'.get q = h.get q) := by
  refine Fun.of (code := a51c) (hP.code rfl) (by rw [hP.pure]; rfl) ?_
  simp (disch := omega) only [go_sem, a51c, a51r0]
  simp (disch := omega) only [go_sem, a51r1]
  refine WO.fun (vs := [.hs 1 o ep 0 l.length false, .fn 52 [.ptr hb 0]]) (by simp (disch := omega) only [go_sem]) (idx_fun hP h hb hm o ep l L j hH hg hl hlv) (fun v h' hv => ?_)
  obtain ⟨rfl, hv⟩ := hv
  rcases hv with ⟨rfl, hall⟩ | ⟨k0, rfl, hk0, hpre, hat⟩
  · simp (disch := omega) only [go_sem]
    simp (disch := omega) only [go_sem, a51r2]
    simp (disch := omega) only [go_sem, a51r3]
    have hfl : l.filter (fun f => decide (f ∈ L)) = l := List.filter_eq_self.2 (fun f hf => by simpa using hall f hf)
    rw [hfl]
    rw [Nat.sub_self]
    exact ⟨by trivial, hg, by trivial, fun _ _ => by trivial⟩
  · have w0 : decide ((k0 : Int) = -1) = false := by simp only [decide_eq_false_iff_not]; omega
    have lt1 : lenTag 1 (.hs 1 o ep 0 l.length false) = true := rfl
    have ln1 : ∀ h, lenA h (.hs 1 o ep 0 l.length false) = some l.length := fun _ => rfl
    simp (disch := omega) only [go_sem]
    simp (disch := omega) only [go_sem, a51r2, w0]
    simp (disch := omega) only [go_sem, a51r4]
    have live' : ∀ (hh : Heap), (∀ q, q ≠ o → hh.get q = h'.get q) → ∀ g, liveP h' g 0 = true → liveP hh g 0 = true := fun hh hx g hl => by
      have hne : g ≠ o := fun e => by
        subst e
        simp [liveP, hg] at hl
      unfold liveP at hl ⊢
      rw [hx g hne]; exact hl
    have has' : ∀ (hh : Heap), (∀ q, q ≠ o → hh.get q = h'.get q) → HasAt hh hb hm L := fun hh hx => by
      obtain ⟨hbx, ⟨bs, ck, hmp⟩, hlv⟩ := hH
      have n1 : hb ≠ o := fun e => by subst e; rw [hbx] at hg; simp at hg
      have n2 : hm ≠ o := fun e => by subst e; rw [hmp] at hg; simp at hg
      exact ⟨(hx hb n1).trans hbx, ⟨bs, ck, (hx hm n2).trans hmp⟩, fun g hgl => live' hh hx g (hlv g hgl)⟩
    have R0len : (l.map (fun f => AV.ptr f 0) ++ j).length = l.length + j.length := by simp
    have R0at : ∀ n, n < l.length → (l.map (fun f => AV.ptr f 0) ++ j)[n]? = some (.ptr (l.getD n 0) 0) := fun n hn => by
      rw [List.getElem?_append_left (by simpa using hn), List.getElem?_map, List.getD_eq_getElem?_getD, List.getElem?_eq_getElem hn]
      rfl
    generalize hR0 : (l.map (fun f => AV.ptr f 0) ++ j) = R0 at hg R0len R0at
    have kp0 : (l.take (k0 + 1)).filter (fun f => decide (f ∈ L)) = l.take k0 := by
      rw [List.take_succ_eq_append_getElem hk0, List.filter_append]
      have h1 : (l.take k0).filter (fun f => decide (f ∈ L)) = l.take k0 := List.filter_eq_self.2 (fun f hf => by simpa using hpre f hf)
      have h2 : l[k0] ∉ L := by
        rw [List.getD_eq_getElem?_getD, List.getElem?_eq_getElem hk0] at hat
        exact hat
      rw [h1]
      simp [h2]
    refine Wp_loop (fun x : Fr × Nat × Nat × Nat × List AV × Heap => (fget x.1 0 = some (.hs 1 o ep 0 l.length false) ∧ fget x.1 1 = some (.fn 52 [.ptr hb 0]) ∧ fget x.1 5 = some (.int .i64 x.2.2.1) ∧ fget x.1 6 = some (.int .i64 x.2.2.2.1)) ∧
        (x.2.2.1 < x.2.2.2.1 ∧ x.2.2.2.1 ≤ l.length ∧ x.2.2.1 = ((l.take x.2.2.2.1).filter (fun f => decide (f ∈ L))).length) ∧ (x.2.2.2.2.1.length = R0.length ∧ x.2.2.2.2.1.take x.2.2.1 = ((l.take x.2.2.2.1).filter (fun f => decide (f ∈ L))).map (fun f => AV.ptr f 0) ∧ ∀ n, x.2.2.2.1 ≤ n → x.2.2.2.2.1[n]? = R0[n]?) ∧
        x.2.2.2.2.2.get o = some (.row 1 ep x.2.2.2.2.1) ∧ x.2.2.2.2.2.next = h'.next ∧ ∀ q, q ≠ o → x.2.2.2.2.2.get q = h'.get q)
      (fun (fr0, t, i, n, R, hh) => { fr := fr0, st := t, h := hh }) (fun x => l.length - x.2.2.2.1) (_, 0, k0, k0 + 1, R0, h') rfl ⟨⟨rfl, rfl, rfl, rfl⟩, ⟨by simp only; omega, by simp only; omega, by simp only; rw [kp0, List.length_take]; omega⟩, ⟨rfl, ?_, fun _ _ => rfl⟩, hg, rfl, fun _ _ => rfl⟩ ?_
    · simp only
      rw [kp0, ← hR0, List.take_append_of_le_length (by simp; omega), List.map_take]
    rintro ⟨fr0, t, i, n, R, hh⟩ ⟨⟨q0, q1, q5, q6⟩, ⟨g1, g2, g3⟩, ⟨g4, g5, g6⟩, g7, g8, g9⟩
    simp only at q0 q1 q5 q6 g1 g2 g3 g4 g5 g6 g7 g8 g9
    simp (disch := omega) only [go_sem, a51l0, a51r5, q0, q1, q5, q6, lt1, ln1, cond_true]
    refine condS_if (fun hk => ?_) (fun hk => ?_)
    · have hk' : n < l.length := by omega
      have hc : R[n]? = some (.ptr (l.getD n 0) 0) := (g6 n (Nat.le_refl _)).trans (R0at n hk')
      have r1 := ld_raw _ _ _ hc
      have hmem : l.getD n 0 ∈ l := by
        rw [List.getD_eq_getElem?_getD, List.getElem?_eq_getElem hk']
        exact List.getElem_mem hk'
      simp (disch := omega) only [go_sem, a51r6, q0, q1, q5, q6, g7, r1, Nat.mul_one, Nat.zero_add]
      simp (disch := omega) only [go_sem, a51r7]
      refine WO_funv (vs := [.ptr (l.getD n 0) 0]) rfl (by simp (disch := omega) only [go_sem]) (has_fun hP hh hb hm (l.getD n 0) L (has' hh g9) (live' hh g9 _ (hlv _ hmem))) (fun v h2 hv => ?_)
      obtain ⟨rfl, rfl⟩ := hv
      simp (disch := omega) only [go_sem]
      have tk : l.take (n + 1) = l.take n ++ [l.getD n 0] := by
        rw [List.take_succ_eq_append_getElem hk', List.getD_eq_getElem?_getD, List.getElem?_eq_getElem hk']
        rfl
      by_cases e : l.getD n 0 ∈ L
      · have kp : (l.take (n + 1)).filter (fun f => decide (f ∈ L)) = (l.take n).filter (fun f => decide (f ∈ L)) ++ [l.getD n 0] := by
          rw [tk, List.filter_append]
          simp only [List.filter_cons, decide_eq_true e, if_true, List.filter_nil]
        have r2 := st_raw R i (.ptr (l.getD n 0) 0) (by omega)
        simp (disch := omega) only [go_sem, decide_eq_true e]
        simp (disch := omega) only [go_sem, a51r8, g7, r2, Nat.mul_one, Nat.zero_add]
        simp (disch := omega) only [go_sem, a51r9]
        simp (disch := omega) only [go_sem, a51r10]
        have hiR : i < R.length := by rw [g4]; omega
        refine ⟨(_, t, i + 1, n + 1, R.set i (.ptr (l.getD n 0) 0), h2.put o (.row 1 ep (R.set i (.ptr (l.getD n 0) 0)))), ⟨⟨rfl, rfl, rfl, rfl⟩, ⟨by simp only; omega, by simp only; omega, by simp only; rw [kp, List.length_append, ← g3]; rfl⟩, ⟨by simp only [List.length_set]; exact g4, ?_, fun n' hn' => ?_⟩, get_put_same _ _ _, g8, fun q hq => (get_put_ne _ _ _ _ hq).trans (g9 q hq)⟩, by simp only; omega, rfl⟩
        · simp only
          rw [kp, List.map_append, ← g5]
          rw [List.take_succ_eq_append_getElem (by rw [List.length_set]; exact hiR), List.take_set_of_le (Nat.le_refl _)]
          simp
        · simp only at hn' ⊢
          rw [List.getElem?_set_ne (by omega)]
          exact g6 n' (by omega)
      · have kp : (l.take (n + 1)).filter (fun f => decide (f ∈ L)) = (l.take n).filter (fun f => decide (f ∈ L)) := by
          rw [tk, List.filter_append]
          simp only [List.filter_cons, decide_eq_false e, Bool.false_eq_true, if_false, List.filter_nil, List.append_nil]
        simp (disch := omega) only [go_sem, decide_eq_false e]
        simp (disch := omega) only [go_sem, a51r10]
        refine ⟨(_, t, i, n + 1, R, h2), ⟨⟨rfl, rfl, rfl, rfl⟩, ⟨by simp only; omega, by simp only; omega, by simp only; rw [kp]; exact g3⟩, ⟨g4, by simp only; rw [kp]; exact g5, fun n' hn' => g6 n' (by simp only at hn'; omega)⟩, g7, g8, g9⟩, by simp only; omega, rfl⟩
    · have hn : n = l.length := by omega
      subst hn
      have b0 : Nat.beq (l.length - i) 0 = false := by
        simp only [nbeq, decide_eq_false_iff_not]; omega
      have ov := over_raw R i (List.replicate (l.length - i) AV.nilp) (by simp; omega)
      have hclr : ∀ (fr1 : Fr) (t1 : Nat), clrO { fr := fr1, st := t1, h := hh } .nilp (some (.hs 1 o ep i (l.length - i) false)) = some (.tup [], { fr := fr1, st := t1, h := hh.put o (.row 1 ep (R.take i ++ (List.replicate (l.length - i) AV.nilp ++ R.drop (i + (List.replicate (l.length - i) AV.nilp).length)))) }) := fun fr1 t1 => by
        have b1 : Nat.beq 1 1 = true := rfl
        simp only [clrO, b0, b1, cond_false, cond_true, wr_eptr, g7, wrE_row, ov, Option.bind_some, undefA]
      simp (disch := omega) only [go_sem, a51r11, hclr]
      simp (disch := omega) only [go_sem, a51r12]
      rw [List.take_length] at g3 g5
      rw [g5]
      have hdr : R.drop (i + (List.replicate (l.length - i) AV.nilp).length) = j := by
        rw [List.length_replicate, show i + (l.length - i) = l.length by omega]
        have : R0.drop l.length = j := by rw [← hR0]; exact List.drop_left' (by simp)
        rw [← this]
        refine List.ext_getElem? (fun n => ?_)
        rw [List.getElem?_drop, List.getElem?_drop]
        exact g6 _ (by omega)
      rw [hdr, ← g3]
      refine ⟨by rfl, rfl, g8, fun q hq => (get_put_ne _ _ _ _ hq).trans (g9 q hq)⟩
end Go.Am.Dk

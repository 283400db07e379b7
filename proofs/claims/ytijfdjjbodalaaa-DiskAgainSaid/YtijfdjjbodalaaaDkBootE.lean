/- Boot, whatever order its names are met in. -/
import Derived.Test.YtijfdjjbodalaaaDkBootD
set_option linter.unusedSimpArgs false
set_option linter.unusedVariables false
namespace Go.Am.Dk
open Go.Am
attribute [local go_sem] ne_eq not_true_eq_false not_false_eq_true Nat.reduceEqDiff Nat.reduceAdd Nat.reduceLeDiff Int.toNat_natCast Int.reduceToNat and_self Bool.not_true Bool.not_false Bool.false_and Bool.and_false Bool.true_and Bool.and_true Int.reduceEq Int.reduceLT Int.reduceLE Int.reduceAdd Int.reduceSub Int.reduceNeg decide_true decide_false Option.bind_some Bool.or_true Bool.or_false Bool.true_or Bool.false_or
attribute [local go_sem ↓] reduceIte
set_option maxRecDepth 20000
set_option maxHeartbeats 2000000
def bootMid : ACode := .seq (.reg 2 a21r21 [0, 14]) (.seq (.seq (.reg 1 a21r22 [0, 14, 107]) (.block 4 (.loop a21l2))) bootEnd)
theorem allBel_of {ck : Nat} : ∀ {bs : List Nat}, (∀ b ∈ bs, b < ck) → allBel ck bs = true
  | [], _ => rfl
  | b :: r, h => by simp only [allBel, Bool.and_eq_true, nblt, decide_eq_true_eq]; exact ⟨h b List.mem_cons_self, allBel_of (fun x hx => h x (List.mem_cons_of_mem _ hx))⟩
def putS (f : Nat) (L : List Nat) (bs : List Nat) (ck : Nat) : AObj := if f ∈ L then .map (pents L) bs ck else .map (pents (L ++ [f])) (bs ++ [ck]) (ck + 1)
theorem updM_ptr (s : St) (o f : Nat) (L bs : List Nat) (ck : Nat) (hf : liveP s.h f 0 = true) (hL : ∀ g ∈ L, liveP s.h g 0 = true) : updM s 2 o (.ptr f 0) (.bool true) (some (.map (pents L) bs ck)) = some (.tup [], { s with h := s.h.put o (putS f L bs ck) }) := by
  show (updA s.h (.ptr f 0) (.bool true) (pents L)).bind _ = _
  rw [updA_ptr hf L hL, Option.bind_some]
  unfold putS
  by_cases e : f ∈ L
  · simp [e, undefA]
  · have b0 : (L.length + 1).beq L.length = false := by
      have := @nbeq (L.length + 1) L.length
      rw [this]; simp
    simp [e, undefA, pents, b0]
theorem boot_mid {h : Heap} {d : Nat} {σ : DSt} {y : Lay} (hD : DiskAt h d σ y) (hl : σ.all.length ≤ 1000000000) :
    ∃ H y', Step h H d σ y (endS σ) y' ∧ ∀ (fr : Fr) (st : Nat), fget fr 0 = some (.ptr d 0) → WX PU bootMid { fr := fr, st := st, h := h } (bodyQ [.slot 6] fun v2 h2 => v2 = .int .i64 0 ∧ SubH H h2) := by
  obtain ⟨H, y', hst, hrun⟩ := boot_end PU_P hD hl
  refine ⟨H, y', hst, fun fr st f0 => ?_⟩
  obtain ⟨bs, ck, hm2, hstp⟩ := hD.sure
  have hd := hD.disk
  simp only [DSt.cells] at hd
  have S := hD.sep
  have own := hD.lt
  have dlt : d < h.next := own d (Or.inl rfl)
  have m2lt : y.m2 < h.next := own y.m2 (Or.inr (Or.inr (Or.inl rfl)))
  have dn1 : d ≠ h.next := by omega
  have dn2 : d ≠ h.next + 1 := by omega
  have mn1 : y.m2 ≠ h.next := by omega
  have mn2 : y.m2 ≠ h.next + 1 := by omega
  have dn3 : d ≠ h.next + 2 := by omega
  have mn3 : y.m2 ≠ h.next + 2 := by omega
  have n01 : h.next ≠ h.next + 1 := by omega
  obtain ⟨o14, f14⟩ : ∃ o, fget fr 14 = o := ⟨_, rfl⟩
  rw [bootMid]
  refine WX_seq (WX.det ?_)
  simp (disch := omega) only [go_sem, a21r21, f0, f14, fget_keepV]
  refine WX_seq (WX_seq (WX.det ?_))
  simp (disch := omega) only [go_sem, a21r22, f0, f14, fget_keepV, hd, hm2, get_put_ne, dn1, dn2, mn1, mn2]
  refine WX_block ?_
  have n2' : bs.length = (kv (fp σ.sure)).length := by rw [hstp.len, kv_length, fp_length]
  have hbel := allBel_of hstp.lt
  have hb3 : Nat.ble ck ck = true := by simp
  obtain ⟨h0, hh0⟩ : ∃ h0, ((((h.reserve 2).put h.next (.map [] [] 0)).put (h.next + 1) (.cells [.nilm])).put (h.next + 1) (.cells [.mp h.next])).reserve 1 = h0 := ⟨_, rfl⟩
  rw [hh0]
  have g0 : h0.get h.next = some (.map [] [] 0) := by
    rw [← hh0, get_reserve, get_put_ne _ _ _ _ n01, get_put_ne _ _ _ _ n01, get_put_same]
  have g1 : h0.get (h.next + 1) = some (.cells [.mp h.next]) := by rw [← hh0, get_reserve, get_put_same]
  have gn : h0.next = h.next + 3 := by rw [← hh0]; rfl
  have go : ∀ o, o ≠ h.next → o ≠ h.next + 1 → h0.get o = h.get o := fun o h1 h2 => by
    rw [← hh0, get_reserve, get_put_ne _ _ _ _ h2, get_put_ne _ _ _ _ h2, get_put_ne _ _ _ _ h1, get_reserve]
  have hes : ∀ e ∈ kv (fp σ.sure), ∃ q ∈ σ.sure, e = (strv q.1, .ptr q.2 0) := fun e he => by
    simp only [kv, fp, List.map_map, List.mem_map] at he
    obtain ⟨q, hq, rfl⟩ := he
    exact ⟨q, hq, rfl⟩
  refine WX_loop (fun x : Nat × List Nat × List Nat × Heap => x.2.2.2.next = h.next + 3 ∧ x.2.2.2.get (h.next + 2) = some (.miter (some y.m2) ck x.2.1 ck) ∧ (∀ o, o < h.next ∨ h.next + 3 ≤ o → x.2.2.2.get o = h.get o) ∧ (x.2.2.2.get (h.next + 1) = some (.cells [.mp h.next]) ∧ ∃ b' c', x.2.2.2.get h.next = some (.map (pents x.2.2.1) b' c')) ∧
      (∀ f ∈ x.2.2.1, f ∈ σ.sure.map (·.2)) ∧ ∀ q ∈ σ.sure, q.2 ∈ x.2.2.1 ∨ ∃ r ∈ leftA x.2.1 bs (kv (fp σ.sure)), r.2.2 = .ptr q.2 0)
    (fun (t, seen, L, hh) => { fr := [(0, .ptr d 0), (14, .ptr (h.next + 1) 0), (107, .ptr (h.next + 2) 0)], st := t, h := hh }) (fun x => (leftA x.2.1 bs (kv (fp σ.sure))).length) ?_ _ (st, [], [], h0.put (h.next + 2) (.miter (some y.m2) ck [] ck)) (Nat.le_refl _) ⟨gn, get_put_same _ _ _, fun o ho => by
      simp only
      rw [get_put_ne _ _ _ _ (by omega), go o (by omega) (by omega)], ⟨by
      simp only
      rw [get_put_ne _ _ _ _ (by omega)]; exact g1, [], 0, by
      simp only
      rw [get_put_ne _ _ _ _ (by omega)]; exact g0⟩, by simp, fun q hq => Or.inr ?_⟩
  · rintro ⟨t, seen, L, hh⟩ ⟨i1, i2, i3, ⟨i4, b', c', i5⟩, i6, i7⟩
    simp only at i1 i2 i3 i4 i5 i6 i7
    have hm' : hh.get y.m2 = some (.map (kv (fp σ.sure)) bs ck) := (i3 y.m2 (Or.inl m2lt)).trans hm2
    rw [a21l2]
    refine WX_seq ?_
    rw [a21r23]
    refine WX.next (a := .ptr (h.next + 2) 0) (rs := nextsL { fr := [(0, .ptr d 0), (14, .ptr (h.next + 1) 0), (107, .ptr (h.next + 2) 0)], st := t, h := hh } (h.next + 2) y.m2 ck seen ck (leftA seen bs (kv (fp σ.sure)))) (by simp (disch := omega) only [go_sem]) (by simp only [nexts, i2, hm', hbel, hb3, Bool.and_self, if_true]) (fun v s1 hmem => ?_)
    unfold nextsL at hmem
    by_cases he : (leftA seen bs (kv (fp σ.sure))).isEmpty
    · rw [if_pos he, List.mem_singleton] at hmem
      obtain ⟨rfl, rfl⟩ := Prod.mk.inj hmem
      have hnil : leftA seen bs (kv (fp σ.sure)) = [] := by simpa using he
      simp (disch := omega) only [go_sem]
      refine WX_seq (WX.det ?_)
      simp (disch := omega) only [go_sem]
      refine WX.det ?_
      refine hrun hh _ _ L i1 i3 ⟨i4, ⟨b', c', i5⟩, fun g hg => ?_⟩ (fun f => ⟨fun hf => i6 f hf, fun hf => ?_⟩) rfl rfl
      · obtain ⟨q, hq, rfl⟩ := List.mem_map.1 (i6 g hg)
        have hqa := hD.ok.sure q hq
        have hc := hD.cell _ hqa
        rw [← i3 _ (Or.inl (own q.2 (Or.inr (Or.inr (Or.inr (Or.inr (Or.inr ⟨q.2, hqa, Or.inl rfl⟩)))))))] at hc
        simp [liveP, hc]
      · obtain ⟨q, hq, rfl⟩ := List.mem_map.1 hf
        rcases i7 q hq with h1 | ⟨r, h1, -⟩
        · exact h1
        · rw [hnil] at h1; simp at h1
    · rw [if_neg he, List.mem_map] at hmem
      obtain ⟨p, hp, e⟩ := hmem
      obtain ⟨rfl, rfl⟩ := Prod.mk.inj e
      obtain ⟨l1, l2, q1, q2⟩ := leftA_pick bs _ hstp.nd hp
      have fb := findB_pick bs _ hstp.nd hp
      obtain ⟨q, hq, hpq⟩ := hes _ (leftA_mem bs _ hp)
      obtain ⟨b1, pk, pv⟩ := p
      simp only at hpq fb q1 q2 hp
      obtain ⟨rfl, rfl⟩ := Prod.mk.inj hpq
      simp (disch := omega) only [go_sem]
      refine WX_seq (WX.det ?_)
      simp (disch := omega) only [go_sem]
      refine WX.det ?_
      have ck3 : Nat.beq ck ck = true := by simp
      simp (disch := omega) only [go_sem, a21r24, get_put_same, get_put_ne, mn3, hm', ck3, cond_true, lastN_app, fb]
      simp (disch := omega) only [go_sem, a21r25, get_put_ne, i4]
      have hqa := hD.ok.sure q hq
      have lv : ∀ f, f ∈ σ.all → ∀ k : Heap, (∀ o, o < h.next → k.get o = h.get o) → liveP k f 0 = true := fun f hf k hk => by
        have hc := hD.cell _ hf
        rw [← hk _ (own f (Or.inr (Or.inr (Or.inr (Or.inr (Or.inr ⟨f, hf, Or.inl rfl⟩))))))] at hc
        simp [liveP, hc]
      have i3' : ∀ o, o < h.next ∨ h.next + 3 ≤ o → (hh.put (h.next + 2) (.miter (some y.m2) ck (seen ++ [b1]) ck)).get o = h.get o := fun o ho => by
        rw [get_put_ne _ _ _ _ (by omega), i3 o ho]
      rw [i5, updM_ptr _ _ _ _ _ _ (lv q.2 hqa _ (fun o ho => i3' o (Or.inl ho))) (fun g hg => by
        obtain ⟨q', hq', rfl⟩ := List.mem_map.1 (i6 g hg)
        exact lv q'.2 (hD.ok.sure q' hq') _ (fun o ho => i3' o (Or.inl ho)))]
      simp (disch := omega) only [go_sem]
      refine ⟨(t, seen ++ [b1], if q.2 ∈ L then L else L ++ [q.2], (hh.put (h.next + 2) (.miter (some y.m2) ck (seen ++ [b1]) ck)).put h.next (putS q.2 L b' c')), ⟨i1, ?_, fun o ho => ?_, ⟨?_, ?_⟩, fun f hf => ?_, fun q' hq' => ?_⟩, by simp only; rw [q1, q2]; simp, rfl⟩
      · simp only
        rw [get_put_ne _ _ _ _ (by omega), get_put_same]
      · simp only
        rw [get_put_ne _ _ _ _ (by omega)]
        exact i3' o ho
      · simp only
        rw [get_put_ne _ _ _ _ (by omega), get_put_ne _ _ _ _ (by omega)]
        exact i4
      · simp only
        rw [get_put_same]
        unfold putS
        split
        · exact ⟨_, _, rfl⟩
        · exact ⟨_, _, rfl⟩
      · simp only at hf
        split at hf
        · exact i6 f hf
        · rcases List.mem_append.1 hf with h1 | h1
          · exact i6 f h1
          · rw [List.mem_singleton.1 h1]
            exact List.mem_map.2 ⟨q, hq, rfl⟩
      · simp only
        rcases i7 q' hq' with h1 | ⟨r, h1, h2⟩
        · refine Or.inl ?_
          split
          · exact h1
          · exact List.mem_append_left _ h1
        · rw [q1] at h1
          have : r = (b1, strv q.1, .ptr q.2 0) ∨ r ∈ l1 ++ l2 := by
            rcases List.mem_append.1 h1 with h1 | h1
            · exact Or.inr (List.mem_append_left _ h1)
            · rcases List.mem_cons.1 h1 with h1 | h1
              · exact Or.inl h1
              · exact Or.inr (List.mem_append_right _ h1)
          rcases this with rfl | h3
          · refine Or.inl ?_
            simp only [AV.ptr.injEq, and_true] at h2
            rw [← h2]
            split
            · assumption
            · exact List.mem_append_right _ (List.mem_singleton.2 rfl)
          · exact Or.inr ⟨r, by rw [q2]; exact h3, h2⟩
  · have := leftA_nil bs (kv (fp σ.sure)) n2'
    have hm : (strv q.1, AV.ptr q.2 0) ∈ kv (fp σ.sure) := by
      simp only [kv, fp, List.map_map, List.mem_map]
      exact ⟨q, hq, rfl⟩
    rw [← this] at hm
    obtain ⟨r, hr, e⟩ := List.mem_map.1 hm
    exact ⟨r, hr, by rw [e]⟩
end Go.Am.Dk

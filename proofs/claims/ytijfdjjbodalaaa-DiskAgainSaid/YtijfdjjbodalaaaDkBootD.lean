/- Boot: its end, whatever order the names were met in. -/
import Derived.Test.YtijfdjjbodalaaaDkBootC
set_option linter.unusedSimpArgs false
set_option linter.unusedVariables false
namespace Go.Am.Dk
open Go.Am
attribute [local go_sem] ne_eq not_true_eq_false not_false_eq_true Nat.reduceEqDiff Nat.reduceAdd Nat.reduceLeDiff Int.toNat_natCast Int.reduceToNat and_self Bool.not_true Bool.not_false Bool.false_and Bool.and_false Bool.true_and Bool.and_true Int.reduceEq Int.reduceLT Int.reduceLE Int.reduceAdd Int.reduceSub Int.reduceNeg decide_true decide_false Option.bind_some Bool.or_true Bool.or_false Bool.true_or Bool.false_or
attribute [local go_sem ↓] reduceIte
set_option maxRecDepth 20000
set_option maxHeartbeats 2000000
variable {P : Prog}
def endS (σ : DSt) : DSt := { σ with names := σ.sure, waits := [], all := σ.all.filter (fun f => decide (f ∈ σ.sure.map (·.2))), dead := false, fuse := 0, fault := 0 }
def roH (h : Heap) : Option (Nat × AObj) → Heap
  | none => h
  | some (o, x) => h.put o x
theorem roH_get (h : Heap) (ro : Option (Nat × AObj)) (q : Nat) : (roH h ro).get q = putO h ro q := by
  rcases ro with _ | ⟨o, x⟩
  · rfl
  · simp only [roH, putO]
    split
    · rename_i e; rw [e, get_put_same]
    · rename_i e; rw [get_put_ne _ _ _ _ e]
theorem roH_next (h : Heap) (ro : Option (Nat × AObj)) : (roH h ro).next = h.next := by rcases ro with _ | ⟨o, x⟩ <;> rfl
def bootH (h : Heap) (d : Nat) (ro : Option (Nat × AObj)) (c : List AV) (mo : AObj) : Heap :=
  (((((roH (h.reserve 4) ro).put d (.cells c)).put (h.next + 3) mo).put h.next .dead).put (h.next + 1) .dead).put (h.next + 2) .dead
theorem bootH_get (h : Heap) (d : Nat) (ro : Option (Nat × AObj)) (c : List AV) (mo : AObj) (q : Nat) :
    (bootH h d ro c mo).get q = if q = h.next + 2 then some .dead else if q = h.next + 1 then some .dead else if q = h.next then some .dead else if q = h.next + 3 then some mo else if q = d then some (.cells c) else putO h ro q := by
  have st : ∀ (h : Heap) (o : Nat) (x : AObj), (h.put o x).get q = if q = o then some x else h.get q := fun h o x => by
    split
    · rename_i e; rw [e, get_put_same]
    · rename_i e; rw [get_put_ne _ _ _ _ e]
  simp only [bootH, st, roH_get]
  rcases ro with _ | ⟨o, x⟩ <;> rfl
theorem bootH_next (h : Heap) (d : Nat) (ro : Option (Nat × AObj)) (c : List AV) (mo : AObj) : (bootH h d ro c mo).next = h.next + 4 := by
  show (roH (h.reserve 4) ro).next = _
  rw [roH_next]; rfl
def bootEnd : ACode := .seq (.reg 0 a21r26 [0]) (.seq (.reg 0 a21r27 [0]) (.seq (.reg 0 a21r28 []) (.seq (.reg 0 a21r29 [6]) .ret)))
theorem boot_end (hP : DkP P) {h : Heap} {d : Nat} {σ : DSt} {y : Lay} (hD : DiskAt h d σ y) (hl : σ.all.length ≤ 1000000000) :
    ∃ H y', Step h H d σ y (endS σ) y' ∧
      ∀ (hh : Heap) (fr : Fr) (st : Nat) (L : List Nat), hh.next = h.next + 3 → (∀ o, o < h.next ∨ h.next + 3 ≤ o → hh.get o = h.get o) → HasAt hh (h.next + 1) h.next L → (∀ f, f ∈ L ↔ f ∈ σ.sure.map (·.2)) → fget fr 0 = some (.ptr d 0) → fget fr 14 = some (.ptr (h.next + 1) 0) →
        Wp P bootEnd { fr := fr, st := st, h := hh } (bodyQ [.slot 6] fun v2 h2 => v2 = .int .i64 0 ∧ SubH H h2) := by
  obtain ⟨av', ro, hro, hpre, hrow, hrun⟩ := del_all hP hD hl (fun f => decide (f ∈ σ.sure.map (·.2)))
  obtain ⟨bs, ck, hm2, hstp⟩ := hD.sure
  have hd := hD.disk
  simp only [DSt.cells] at hd
  have S := hD.sep
  have own := hD.lt
  have hae := hD.all.ev
  have had := hD.all.dt
  have acs : (AV.int .i64 0).cellsOf = [AV.int .i64 0] := rfl
  have avc : av'.cellsOf = [av'] ∧ (∀ i, evS i (some av') = some av') ∧ datW (some av') = some av' := by
    have := hpre (roH h ro) (fun q _ => roH_get h ro q)
    refine ⟨?_, this.ev, this.dt⟩
    rcases this with ⟨rfl, -⟩ | ⟨o, ep, j, rfl, -⟩ <;> rfl
  obtain ⟨avc, ave, avd⟩ := avc
  refine ⟨bootH h d ro [.int .i64 σ.cap, .mp (h.next + 3), .mp y.m2, av', .nils, .bool false, .int .i64 σ.calls, .int .i64 0, .int .i64 0, .int .i64 σ.e] (.map (kv (fp σ.sure)) bs ck), { y with m := h.next + 3, av := av', wv := .nils }, ?_, ?_⟩
  rotate_right
  · intro hh fr st L n1 n2' hH hL f0 f14
    have n2 : ∀ o, o < h.next → hh.get o = h.get o := fun o ho => n2' o (Or.inl ho)
    have hdh : hh.get d = some (.cells [.int .i64 σ.cap, .mp y.m, .mp y.m2, y.av, y.wv, .bool σ.dead, .int .i64 σ.calls, .int .i64 σ.fuse, .int .i64 σ.fault, .int .i64 σ.e]) := (n2 d (own d (Or.inl rfl))).trans hd
    simp (disch := omega) only [go_sem, bootEnd, a21r26, f0, f14, hdh]
    have avo : ∀ q, rowOf y.av = some q → q < h.next := fun q hq => own q (Or.inr (Or.inr (Or.inr (Or.inl hq))))
    have fo : ∀ f ∈ σ.all, f < h.next := fun f hf => own f (Or.inr (Or.inr (Or.inr (Or.inr (Or.inr ⟨f, hf, Or.inl rfl⟩)))))
    refine WO.fun (vs := [y.av, .fn 52 [.ptr (h.next + 1) 0]]) (by simp (disch := omega) only [go_sem, hae, had]) (hrun hh (h.next + 1) h.next L (fun q hq => n2 q (avo q hq)) hH (fun f _ => by rw [hL]; simp) (fun f hf => by
      have := hD.cell f hf
      rw [← n2 f (fo f hf)] at this
      simp [liveP, this])) (fun v h' hv => ?_)
    obtain ⟨rfl, e1, e2⟩ := hv
    have rod : ∀ q, q ≠ d → q ≠ d := fun _ h => h
    have pd : ∀ (k : Heap) (q : Nat), (∀ o, rowOf y.av = some o → q ≠ o) → putO k ro q = k.get q := fun k q hq => by
      cases hr : ro with
      | none => rfl
      | some ox =>
        obtain ⟨o, x⟩ := ox
        simp only [putO]
        rw [if_neg (hq o (hro o x hr))]
    have hd' : h'.get d = some (.cells [.int .i64 σ.cap, .mp y.m, .mp y.m2, y.av, y.wv, .bool σ.dead, .int .i64 σ.calls, .int .i64 σ.fuse, .int .i64 σ.fault, .int .i64 σ.e]) := by
      rw [e2, pd hh d (fun o ho e => (S.av o ho).1 e.symm)]; exact hdh
    simp (disch := omega) only [go_sem, f0, f14, hd', ave, avd, avc]
    have S6 : ∀ q, q ≠ d → (h'.put d (.cells [.int .i64 σ.cap, .mp y.m, .mp y.m2, v, y.wv, .bool σ.dead, .int .i64 σ.calls, .int .i64 σ.fuse, .int .i64 σ.fault, .int .i64 σ.e])).get q = h'.get q := fun q hq => get_put_ne _ _ _ _ hq
    have D6 : (h'.put d (.cells [.int .i64 σ.cap, .mp y.m, .mp y.m2, v, y.wv, .bool σ.dead, .int .i64 σ.calls, .int .i64 σ.fuse, .int .i64 σ.fault, .int .i64 σ.e])).get d = some (.cells [.int .i64 σ.cap, .mp y.m, .mp y.m2, v, y.wv, .bool σ.dead, .int .i64 σ.calls, .int .i64 σ.fuse, .int .i64 σ.fault, .int .i64 σ.e]) := get_put_same _ _ _
    have N6 : (h'.put d (.cells [.int .i64 σ.cap, .mp y.m, .mp y.m2, v, y.wv, .bool σ.dead, .int .i64 σ.calls, .int .i64 σ.fuse, .int .i64 σ.fault, .int .i64 σ.e])).next = h.next + 3 := e1.trans n1
    generalize (h'.put d (.cells [.int .i64 σ.cap, .mp y.m, .mp y.m2, v, y.wv, .bool σ.dead, .int .i64 σ.calls, .int .i64 σ.fuse, .int .i64 σ.fault, .int .i64 σ.e])) = h6 at S6 D6 N6
    have m2lt : y.m2 < h.next := own y.m2 (Or.inr (Or.inr (Or.inl rfl)))
    have dlt : d < h.next := own d (Or.inl rfl)
    have g6 : h6.get y.m2 = some (.map (kv (fp σ.sure)) bs ck) := by
      rw [S6 _ S.dm2, e2, pd hh y.m2 (fun o ho e => (S.av o ho).2.2.1 e.symm), n2 _ m2lt]
      exact hm2
    simp (disch := omega) only [go_sem, a21r27, D6]
    refine WO.fun (vs := [.mp y.m2]) (by simp (disch := omega) only [go_sem]) (Fun.prim (h' := (h6.reserve 1).put h6.next (.map (kv (fp σ.sure)) bs ck)) (v := .mp h6.next) (R := fun v k => v = .mp h6.next ∧ k = (h6.reserve 1).put h6.next (.map (kv (fp σ.sure)) bs ck)) (hP.fn 36 (by decide) (by decide) (by decide) (by decide)) (by rw [hP.pure]; rfl) (hP.clone _ _ _ (by
      have b1 : Nat.beq 36 61 = false := rfl
      have b2 : Nat.beq 36 63 = false := rfl
      have b3 : Nat.beq 36 36 = true := rfl
      simp only [prim0, orP, loadOn, addOn, cloneOn, b1, b2, b3, cond_false, cond_true, g6])) ⟨rfl, rfl⟩) (fun v7 h7 hv => ?_)
    obtain ⟨rfl, hh7⟩ := hv
    have D7 : h7.get d = some (.cells [.int .i64 σ.cap, .mp y.m, .mp y.m2, v, y.wv, .bool σ.dead, .int .i64 σ.calls, .int .i64 σ.fuse, .int .i64 σ.fault, .int .i64 σ.e]) := by
      rw [hh7, get_put_ne _ _ _ _ (by omega)]; exact D6
    simp (disch := omega) only [go_sem, D7]
    simp (disch := omega) only [go_sem, a21r28]
    simp (disch := omega) only [go_sem, a21r29]
    refine ⟨by trivial, ?_, fun o x ho => ?_⟩
    · rw [bootH_next]
      show h.next + 4 = h7.next
      rw [hh7]
      show h.next + 4 = h6.next + 1
      omega
    · rw [bootH_get] at ho
      by_cases c2 : o = h.next + 2
      · rw [if_pos c2] at ho; exact Or.inl (Option.some.inj ho).symm
      rw [if_neg c2] at ho
      by_cases c1 : o = h.next + 1
      · rw [if_pos c1] at ho; exact Or.inl (Option.some.inj ho).symm
      rw [if_neg c1] at ho
      by_cases c0 : o = h.next
      · rw [if_pos c0] at ho; exact Or.inl (Option.some.inj ho).symm
      rw [if_neg c0] at ho
      refine Or.inr ?_
      by_cases c3 : o = h.next + 3
      · rw [if_pos c3] at ho
        rw [get_put_ne _ _ _ _ (by omega), get_put_ne _ _ _ _ (by omega), get_put_ne _ _ _ _ (by omega), get_put_ne _ _ _ _ (by omega), get_put_ne _ _ _ _ (by omega), hh7, c3, ← N6, get_put_same]
        exact ho
      rw [if_neg c3] at ho
      by_cases cd : o = d
      · rw [if_pos cd] at ho
        rw [cd, get_put_same, N6]
        exact ho
      · rw [if_neg cd] at ho
        rw [get_put_ne _ _ _ _ cd, get_put_ne _ _ _ _ cd, get_put_ne _ _ _ _ cd, get_put_ne _ _ _ _ cd, get_put_ne _ _ _ _ cd, hh7, get_put_ne _ _ _ _ (by omega)]
        show h6.get o = _
        rw [S6 o cd, e2]
        have hol : hh.get o = h.get o := n2' o (by omega)
        rw [← ho]
        cases ro with
        | none => exact hol
        | some ox =>
          obtain ⟨o', x'⟩ := ox
          simp only [putO]
          split
          · rfl
          · exact hol
  · have pd : ∀ (q : Nat), (∀ o, rowOf y.av = some o → q ≠ o) → putO h ro q = h.get q := fun q hq => by
      cases hr : ro with
      | none => rfl
      | some ox =>
        obtain ⟨o, x⟩ := ox
        simp only [putO]
        rw [if_neg (hq o (hro o x hr))]
    obtain ⟨H, hH⟩ : ∃ H, bootH h d ro [.int .i64 σ.cap, .mp (h.next + 3), .mp y.m2, av', .nils, .bool false, .int .i64 σ.calls, .int .i64 0, .int .i64 0, .int .i64 σ.e] (.map (kv (fp σ.sure)) bs ck) = H := ⟨_, rfl⟩
    have Hn : H.next = h.next + 4 := by rw [← hH, bootH_next]
    have Hd : H.get d = some (.cells [.int .i64 σ.cap, .mp (h.next + 3), .mp y.m2, av', .nils, .bool false, .int .i64 σ.calls, .int .i64 0, .int .i64 0, .int .i64 σ.e]) := by
      have := own d (Or.inl rfl)
      rw [← hH, bootH_get, if_neg (by omega), if_neg (by omega), if_neg (by omega), if_neg (by omega), if_pos rfl]
    have H3 : H.get (h.next + 3) = some (.map (kv (fp σ.sure)) bs ck) := by
      rw [← hH, bootH_get, if_neg (by omega), if_neg (by omega), if_neg (by omega), if_pos rfl]
    have Hr : ∀ q, q < h.next → q ≠ d → H.get q = putO h ro q := fun q h1 h2 => by
      rw [← hH, bootH_get, if_neg (by omega), if_neg (by omega), if_neg (by omega), if_neg (by omega), if_neg h2]
    have Ho : ∀ q, q < h.next → q ≠ d → (∀ o, rowOf y.av = some o → q ≠ o) → H.get q = h.get q := fun q h1 h2 h3 => (Hr q h1 h2).trans (pd q h3)
    rw [hH]
    have fown : ∀ f ∈ σ.all, f < h.next := fun f hf => own f (Or.inr (Or.inr (Or.inr (Or.inr (Or.inr ⟨f, hf, Or.inl rfl⟩)))))
    have bown : ∀ f ∈ σ.all, ∀ o, rowOf (y.bv f) = some o → o < h.next := fun f hf o ho => own o (Or.inr (Or.inr (Or.inr (Or.inr (Or.inr ⟨f, hf, Or.inr ho⟩)))))
    have aown : ∀ o, rowOf y.av = some o → o < h.next := fun o ho => own o (Or.inr (Or.inr (Or.inr (Or.inl ho))))
    have sub : ∀ f, f ∈ (endS σ).all → f ∈ σ.all := fun f hf => (List.mem_filter.1 hf).1
    have inn : ∀ p ∈ σ.sure, p.2 ∈ (endS σ).all := fun p hp => List.mem_filter.2 ⟨hD.ok.sure p hp, by simpa using ⟨p.1, hp⟩⟩
    have m2lt : y.m2 < h.next := own y.m2 (Or.inr (Or.inr (Or.inl rfl)))
    have hat : DiskAt H d (endS σ) { y with m := h.next + 3, av := av', wv := .nils } := by
      refine { ok := ⟨inn, inn, fun t ht => by simp [endS] at ht, hD.ok.sd, hD.ok.sd, hD.ok.ad.sublist List.filter_sublist⟩, disk := Hd, names := ⟨bs, ck, H3, hstp⟩, sure := ?_, all := hpre H (fun q hq => Hr q (aown q hq) (S.av q hq).1), waits := Or.inl ⟨rfl, rfl⟩, cell := ?_, bytes := ?_, mm := by show h.next + 3 ≠ y.m2; omega, bb := fun f hf f' hf' => hD.bb f (sub f hf) f' (sub f' hf'), ab := fun f hf o ho => hD.ab f (sub f hf) o (hrow o ho), wb := fun f hf o ho => by simp [rowOf] at ho, aw := fun o _ ho => by simp [rowOf] at ho, lt := ?_ }
      · exact ⟨bs, ck, (Ho y.m2 m2lt S.dm2 (fun o ho e => (S.av o ho).2.2.1 e.symm)).trans hm2, hstp⟩
      · intro f hf
        rw [Ho f (fown f (sub f hf)) (S.df f (sub f hf)) (fun o ho e => (S.av o ho).2.2.2 f (sub f hf) e)]
        exact hD.cell f (sub f hf)
      · intro f hf
        exact (hD.bytes f (sub f hf)).keep (fun o ho => Ho o (bown f (sub f hf) o ho) (S.bv f (sub f hf) o ho).1 (fun o' ho' e => hD.ab f (sub f hf) o' ho' (by rw [← e]; exact ho)))
      · rintro o (h1 | h1 | h1 | h1 | h1 | ⟨f, hf, h1 | h1⟩)
        · have := own d (Or.inl rfl); rw [Hn]; omega
        · rw [Hn]; simp only at h1; omega
        · simp only at h1; rw [Hn]; omega
        · have := aown o (hrow o h1); rw [Hn]; omega
        · simp [rowOf] at h1
        · have := fown f (sub f hf); rw [Hn]; omega
        · have := bown f (sub f hf) o h1; rw [Hn]; omega
    refine ⟨hat, ⟨by omega, fun o h1 h2 => Ho o h1 (fun e => h2 (Or.inl e)) (fun q hq e => h2 (Or.inr (Or.inr (Or.inr (Or.inl (by rw [e]; exact hq))))))⟩, ?_⟩
    rintro o (h1 | h1 | h1 | h1 | h1 | ⟨f, hf, h1 | h1⟩)
    · exact Or.inl (Or.inl h1)
    · refine Or.inr ?_; simp only at h1; omega
    · exact Or.inl (Or.inr (Or.inr (Or.inl h1)))
    · exact Or.inl (Or.inr (Or.inr (Or.inr (Or.inl (hrow o h1)))))
    · simp [rowOf] at h1
    · exact Or.inl (Or.inr (Or.inr (Or.inr (Or.inr (Or.inr ⟨f, sub f hf, Or.inl h1⟩)))))
    · exact Or.inl (Or.inr (Or.inr (Or.inr (Or.inr (Or.inr ⟨f, sub f hf, Or.inr h1⟩)))))
end Go.Am.Dk

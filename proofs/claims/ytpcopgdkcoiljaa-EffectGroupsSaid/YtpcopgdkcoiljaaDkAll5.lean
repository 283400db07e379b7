/- The document's groups (blazonref24.Groups), whole. -/
import Derived.Test.YtpcopgdkcoiljaaDkAll4
set_option linter.unusedSimpArgs false
set_option linter.unusedVariables false
namespace Go.Am.Ef
open Go.Am
variable {P : Prog}
set_option maxRecDepth 20000
set_option maxHeartbeats 1000000
theorem find_range {n a : Nat} {q : Nat → Bool} (ha : a < n) (h1 : q a = true) (h2 : ∀ b, b < a → q b = false) : (List.range n).find? q = some a := by
  rw [List.find?_eq_some_iff_getElem]
  exact ⟨h1, a, by simpa using ha, by simp, fun j hj => by rw [List.getElem_range, h2 j hj]; rfl⟩
theorem castL_get {l : List Nat} {i : Nat} (hi : i < l.length) : (castL l).getD i default = ((l.getD i 0 : Nat) : Int) := by
  unfold castL
  rw [List.getD_eq_getElem?_getD, List.getElem?_map, List.getElem?_eq_getElem hi, List.getD_eq_getElem?_getD, List.getElem?_eq_getElem hi]; rfl
theorem refg_done {n u od : Nat} {v4 : AV} {l : List Nat} (hl : ∀ x ∈ l, x < n) (hn : n ≤ 100000) (hll : l.length ≤ n) {F : Nat → Bool} {g : Heap} {v6 w : AV} {t : Nat} {K : AExit → St → Prop} (hE : Evs v6) (hE4 : Evs v4) (hw : RowV g w (castL l)) (hod : g.get od = some (.row 1 0 (boolsT n F))) (hne : rowOf w ≠ some od)
    (hK : ∀ t, ∀ tl : Fr, K (.exit 6) { fr := [(3, .int .i64 (n : Nat)), (4, v4), (5, .hs 1 od 0 0 n false), (6, v6), (7, .int .i64 (u : Nat)), (10, w)] ++ tl, st := t, h := g.put od (.row 1 0 (boolsT n (orF F l))) }) :
    Wp P (.loop a14l1) { fr := [(3, .int .i64 (n : Nat)), (4, v4), (5, .hs 1 od 0 0 n false), (6, v6), (7, .int .i64 (u : Nat)), (10, w), (12, .int .i64 0)], st := t, h := g } K := by
  have hF := (RowV.p hw).evs
  refine Wp_loop (fun z : Nat × Nat × Heap => z.2.1 ≤ l.length ∧ z.2.2 = g.put od (.row 1 0 (boolsT n (orF F (l.take z.2.1))))) (fun (t, i, h) => { fr := [(3, .int .i64 (n : Nat)), (4, v4), (5, .hs 1 od 0 0 n false), (6, v6), (7, .int .i64 (u : Nat)), (10, w), (12, .int .i64 (i : Nat))], st := t, h := h }) (fun z => l.length - z.2.1) (t, 0, g) rfl ⟨Nat.zero_le _, ?_⟩ ?_
  · have : orF F (l.take 0) = F := by funext x; simp [orF]
    simp only [this]
    exact (put_self hod).symm
  rintro ⟨t, i, h⟩ ⟨i1, eh⟩
  simp only at i1 eh
  have hlen : (castL l).length = l.length := by simp [castL]
  have hg0 : h.get od = some (.row 1 0 (boolsT n (orF F (l.take i)))) := by rw [eh]; exact get_put_same _ _ _
  by_cases hi : i < l.length
  · rcases hw with ⟨-, e⟩ | ⟨o, ep, rfl, q⟩
    · rw [e] at hlen; simp at hlen; omega
    · have hoo : o ≠ od := fun e => hne (by rw [e]; rfl)
      have hgo : h.get o = some (.row 1 ep (natsI l)) := by
        rw [eh, get_put_ne _ _ _ _ hoo, q, flat_int, castL, List.map_map]; rfl
      have f0 := natsI_get (l := l) [] hi
      rw [List.append_nil] at f0
      have f1 := sub1 f0
      have hx := hl _ (getD_mem hi)
      have w1 : decide (((i : Nat) : Int) < ((l.length : Nat) : Int)) = true := decide_eq_true (by omega)
      generalize hxe : l.getD i 0 = x at f1 hx
      have x1 := ovB (f := orF F (l.take i)) (v := true) hx
      have hup : upd (orF F (l.take i)) x true = orF F (l.take (i + 1)) := by
        funext y
        unfold upd orF
        rw [List.take_succ_eq_append_getElem hi]
        rw [List.getD_eq_getElem?_getD, List.getElem?_eq_getElem hi] at hxe
        simp only [Option.getD_some] at hxe
        by_cases hy : y = x
        · subst hy; simp [hxe]
        · simp [hy, hxe]
      simp only [sz_Int] at hE hF ⊢
      simp (disch := omega) only [go_sem, a14l1, a14r21, hlen, w1, hE.ev, hE4.ev]
      simp (disch := omega) only [go_sem, a14r22, hlen, hi, hgo, hg0, f1, hx, Nat.mul_one, x1, hE.ev, hE4.ev]
      simp (disch := omega) only [go_sem, a14r23, hE.ev, hE4.ev]
      refine ⟨(t, i + 1, h.put od (.row 1 0 (boolsT n (upd (orF F (l.take i)) x true)))), ⟨by simp only; omega, ?_⟩, by simp only; omega, by push_cast; simp only [hlen]⟩
      simp only [eh, hup, put_put]
  · have e : i = l.length := by omega
    subst e
    rw [List.take_length] at eh
    have w1 : decide (((l.length : Nat) : Int) < ((l.length : Nat) : Int)) = false := decide_eq_false (by omega)
    have hlw : ∀ h, lenA h w = some l.length := fun h => by
      rcases hw with ⟨rfl, e⟩ | ⟨o, ep, rfl, q⟩
      · rw [e] at hlen; simp at hlen; simp only [lenA]; rw [← hlen]
      · simp only [lenA, hlen]
    simp (disch := omega) only [go_sem, a14l1, a14r21, hF.tag, hlw, hF.ev, w1, hE.ev, hE4.ev]
    rw [eh]
    exact hK _ _
end Go.Am.Ef
/- The document's groups (blazonref24.Groups), the turns. -/
namespace Go.Am.Ef
open Go.Am
variable {P : Prog}
set_option maxRecDepth 20000
set_option maxHeartbeats 1000000
def addG (ld : Nat → Nat → Bool) (n : Nat) (F : Nat → Bool) : List (List Int) := match (List.range n).find? (pickB ld n F) with
  | none => []
  | some a => [castL (sccB ld n a)]
def nextF (ld : Nat → Nat → Bool) (n : Nat) (F : Nat → Bool) : Nat → Bool := match (List.range n).find? (pickB ld n F) with
  | none => F
  | some a => orF F (sccB ld n a)
theorem runB_succ (ld : Nat → Nat → Bool) (n t : Nat) (F : Nat → Bool) : (runB ld n (t + 1) F).map castL = addG ld n F ++ (runB ld n t (nextF ld n F)).map castL := by
  rw [runB, addG, nextF]
  cases (List.range n).find? (pickB ld n F) <;> rfl
theorem refg_turn {n u od base : Nat} {ls : List SlB} {ld : Nat → Nat → Bool} (hls : ls.map (·.l) = (List.range n).map (fun a => (List.range n).map (ld a))) (hn : n ≤ 100000) {nl : Bool} {F : Nat → Bool} {g : Heap} {v6 : AV} {us : List AV} {gs : List (List Int)} {t : Nat} {K : AExit → St → Prop} (R : RG base n od g v6 us gs F) (hgs : gs.length ≤ n)
    (hK : ∀ t, ∀ g v us, ∀ tl : Fr, RG base n od g v us (gs ++ addG ld n F) (nextF ld n F) → K (.exit 2) { fr := [(3, .int .i64 (n : Nat)), (4, slv nl false ls), (5, .hs 1 od 0 0 n false), (6, v), (7, .int .i64 (u : Nat))] ++ tl, st := t, h := g }) :
    Wp P (.loop a14l2) { fr := [(3, .int .i64 (n : Nat)), (4, slv nl false ls), (5, .hs 1 od 0 0 n false), (6, v6), (7, .int .i64 (u : Nat)), (8, .int .i64 0)], st := t, h := g } K := by
  have hE := R.evs
  refine Wp_loop (fun z : Nat × Nat × Heap => z.2.1 ≤ n ∧ RG base n od z.2.2 v6 us gs F ∧ ∀ b, b < z.2.1 → pickB ld n F b = false) (fun (t, a, g) => { fr := [(3, .int .i64 (n : Nat)), (4, slv nl false ls), (5, .hs 1 od 0 0 n false), (6, v6), (7, .int .i64 (u : Nat)), (8, .int .i64 (a : Nat))], st := t, h := g }) (fun z => n - z.2.1) (t, 0, g) rfl ⟨Nat.zero_le _, R, fun b hb => by simp only at hb; omega⟩ ?_
  clear R
  rintro ⟨t, a, g⟩ ⟨a1, R, hp⟩
  simp only at a1 R hp
  simp (disch := omega) only [go_sem, a14l2, a14r8, hE.ev]
  refine condS_if (fun c1 => ?_) (fun c1 => ?_)
  · have ha : a < n := by omega
    have l1 := ldB (f := F) ha
    have hnot : pickB ld n F a = false → ∀ b, b < a + 1 → pickB ld n F b = false := fun h b hb => by
      by_cases e : b = a
      · rw [e]; exact h
      · exact hp b (by omega)
    cases hFa : F a with
    | true =>
      rw [hFa] at l1
      simp (disch := omega) only [go_sem, a14r9, ha, R.done, Nat.mul_one, l1, hE.ev]
      simp (disch := omega) only [go_sem, a14r25, hE.ev]
      exact ⟨(t, a + 1, g), ⟨by simp only; omega, R, hnot (by simp [pickB, hFa])⟩, by simp only; omega, by push_cast; rfl⟩
    | false =>
      rw [hFa] at l1
      simp (disch := omega) only [go_sem, a14r9, ha, R.done, Nat.mul_one, l1, hE.ev]
      simp (disch := omega) only [go_sem, a14r10, hE.ev]
      simp (disch := omega) only [go_sem, a14r11, hE.ev]
      simp (disch := omega) only [go_sem, a14r12, hE.ev]
      refine refg_inner (F := F) hls hn ha hE R.done R.lt.2 (fun t g2 w tl B => ?_)
      have R2 := R.grow B.le B.keep
      have hF := B.evs
      have hpick : pickB ld n F a = (List.range n).all (okB ld F a) := by simp [pickB, hFa]
      cases hall : (List.range n).all (okB ld F a) with
      | false =>
        simp (disch := omega) only [go_sem, a14r19, hE.ev, hF.ev]
        simp (disch := omega) only [go_sem, a14r25, hE.ev]
        exact ⟨(t, a + 1, g2), ⟨by simp only; omega, R2, hnot (by rw [hpick, hall])⟩, by simp only; omega, by push_cast; rfl⟩
      | true =>
        have hfind := find_range (q := pickB ld n F) ha (by rw [hpick, hall]) hp
        have hadd : addG ld n F = [castL (sccB ld n a)] := by rw [addG, hfind]
        have hnext : nextF ld n F = orF F (sccB ld n a) := by rw [nextF, hfind]
        have hsl : (sccB ld n a).length ≤ n := Nat.le_trans (List.length_filter_le _ _) (by simp)
        have hsm : ∀ x ∈ sccB ld n a, x < n := fun x hx => List.mem_range.1 (List.mem_filter.1 hx).1
        have hwne : ∀ o, rowOf w = some o → o ≠ od := fun o e e2 => by have := (B.own o e).1; have := R.lt.2; omega
        simp (disch := omega) only [go_sem, a14r19, hE.ev, hF.ev]
        simp (disch := omega) only [go_sem, a14r20, hE.ev, hF.ev]
        refine refg_done (n := n) (v4 := slv nl false ls) hsm hn hsl hE ⟨fun i => by simp (disch := omega) only [go_sem], by simp (disch := omega) only [go_sem], by simp (disch := omega) only [go_sem], by simp (disch := omega) only [go_sem]⟩ B.row R2.done (fun e => hwne od e rfl) (fun t tl => ?_)
        have R3 := R2.setF (orF F (sccB ld n a))
        have hrow : RowP (g2.put od (.row 1 0 (boolsT n (orF F (sccB ld n a))))) w (castL (sccB ld n a)) := (RowV.p B.row).keep (fun o e => get_put_ne _ _ _ _ (hwne o e))
        have hn3 : (g2.put od (.row 1 0 (boolsT n (orF F (sccB ld n a))))).next = g2.next := rfl
        generalize g2.put od _ = g3 at R3 hrow hn3 ⊢
        simp (disch := omega) only [go_sem, a14r24, hE.ev, hE.dat, hF.ev, hF.dat, hF.cel]
        have hrv : RowV (g3.reserve 1) v6 us := R3.w.row
        refine step_app (α := AV) hrv (adds_one (α := AV) (g3.reserve 1) w _ true rfl) rfl (by rw [R3.w.len]; simp only [List.length_cons, List.length_nil, two47]; omega) (fun v' g4 q1 q2 q3 q4 => ?_)
        have hwo : ∀ o, rowOf w = some o → base ≤ o ∧ o < g3.next ∧ o ≠ od ∧ rowOf v6 ≠ some o := fun o e => by
          have h1 := B.own o e
          have h2 := R.lt
          exact ⟨by omega, by omega, hwne o e, fun e2 => by have := (R.hv o e2).1; omega⟩
        have R4 := R3.add (x := w) (l := castL (sccB ld n a)) hrow hwo q1 (by rw [q2, reserve_next]) q3 q4
        have hE4 := R4.evs
        simp (disch := omega) only [go_sem, hE4.ev]
        rw [← hadd, ← hnext] at R4
        exact hK _ g4 v' _ _ R4
  · have e : a = n := by omega
    subst e
    have hnone : (List.range a).find? (pickB ld a F) = none := by
      rw [List.find?_eq_none]
      intro b hb
      rw [hp b (List.mem_range.1 hb)]; simp
    simp (disch := omega) only [go_sem]
    have hadd : addG ld a F = [] := by rw [addG, hnone]
    have hnext : nextF ld a F = F := by rw [nextF, hnone]
    exact hK _ g v6 us _ (by rw [hadd, hnext, List.append_nil]; exact R)
theorem refgroups_den (hP : EfP P) {p : ProgV} (Rf : RefOk p) : Den P 14 [p.av] (fun v => ∃ nl, ∃ cs : List SlI, v = slv nl false cs ∧ cs.map (·.l) = (runB (leadS (cR p) p.fns.length) p.fns.length p.fns.length (fun _ => false)).map castL) := by
  refine Den.of (code := a14c) (hP.code rfl) (fun N => ?_)
  unfold ProgV.av
  have hn := Rf.big
  simp (disch := omega) only [go_sem, a14c, a14r0]
  simp (disch := omega) only [go_sem, a14r1]
  simp (disch := omega) only [go_sem, a14r2]
  refine WO.den (k := 0) (vs := [p.av]) (by rw [hP.pure]; rfl) (by simp (disch := omega) only [go_sem]; rfl) (leads_den hP Rf) (fun v hv => by obtain ⟨nl, ls, rfl, -⟩ := hv; exact alone1_slv _ _ _) (fun v hv => ?_)
  obtain ⟨nl, ls, rfl, hls⟩ := hv
  have hmk2 : ∀ (s' : St) (o : Nat), mkslO s' o 1 1 [.bool false] (some (.int .i64 (p.fns.length : Nat))) (some (.int .i64 (p.fns.length : Nat))) = some (.hs 1 o 0 0 p.fns.length false, { s' with h := s'.h.put o (.row 1 0 (repl [.bool false] p.fns.length)) }) := fun s' o => mksl_ok (by unfold two47; omega)
  simp (disch := omega) only [go_sem]
  simp (disch := omega) only [go_sem, a14r3, hmk2, repl_bool]
  simp (disch := omega) only [go_sem, a14r4]
  simp (disch := omega) only [go_sem, a14r5]
  generalize leadS (cR p) p.fns.length = ld at hls ⊢
  generalize p.fns.length = n at hls hn ⊢
  have hR0 : RG N n N (({ next := N, m := Tr.leaf } : Heap).reserve 1 |>.put N (.row 1 0 (boolsT n fun x => false))) .nils [] [] (fun _ => false) :=
    ⟨⟨.inl ⟨rfl, rfl⟩, rfl, fun i hi => by simp at hi, fun o e => by simp [rowOf] at e, fun i o hi => by simp at hi⟩, fun o e => by simp [rowOf] at e, fun i o hi => by simp at hi, get_put_same _ _ _, ⟨Nat.le_refl _, by show N < N + 1; omega⟩⟩
  generalize Heap.put _ N _ = hG at hR0 ⊢
  refine Wp_loop (fun z : Nat × Nat × AV × List AV × Heap × List (List Int) × (Nat → Bool) => z.2.1 ≤ n ∧ z.2.2.2.2.2.1.length ≤ z.2.1 ∧ RG N n N z.2.2.2.2.1 z.2.2.1 z.2.2.2.1 z.2.2.2.2.2.1 z.2.2.2.2.2.2 ∧ z.2.2.2.2.2.1 ++ (runB ld n (n - z.2.1) z.2.2.2.2.2.2).map castL = (runB ld n n (fun _ => false)).map castL)
    (fun (t, u, v, us, g, gs, F) => { fr := [(3, .int .i64 (n : Nat)), (4, slv nl false ls), (5, .hs 1 N 0 0 n false), (6, v), (7, .int .i64 (u : Nat))], st := t, h := g }) (fun z => n - z.2.1) (1, 0, .nils, [], hG, [], fun _ => false) rfl ⟨Nat.zero_le _, Nat.le_refl _, hR0, rfl⟩ ?_
  rintro ⟨t, u, v, us, g, gs, F⟩ ⟨u1, u2, R, hrun⟩
  simp only at u1 u2 R hrun
  have hE := R.evs
  simp (disch := omega) only [go_sem, a14l3, a14r6, hE.ev]
  refine condS_if (fun c1 => ?_) (fun c1 => ?_)
  · simp (disch := omega) only [go_sem, a14r7, hE.ev]
    refine refg_turn (ls := ls) hls hn R (by omega) (fun t2 g2 v2 us2 tl R2 => ?_)
    have hE2 := R2.evs
    simp (disch := omega) only [go_sem, a14r26, hE2.ev]
    have hadd : (addG ld n F).length ≤ 1 := by rw [addG]; split <;> simp
    refine ⟨(t2, u + 1, v2, us2, g2, gs ++ addG ld n F, nextF ld n F), ⟨by simp only; omega, by simp only [List.length_append]; omega, R2, ?_⟩, by simp only; omega, by push_cast; rfl⟩
    simp only
    rw [← hrun, show n - u = (n - (u + 1)) + 1 by omega, runB_succ, List.append_assoc]
  · have e : u = n := by omega
    subst e
    rw [Nat.sub_self] at hrun
    have hrun' : gs = (runB ld u u (fun _ => false)).map castL := by rw [← hrun]; simp [runB]
    simp (disch := omega) only [go_sem, a14r27, hE.ev, hE.dat]
    rw [← hrun']
    exact R.w.back 38
end Go.Am.Ef
/- Calls, groups and sizes in plain words. Own work. -/
namespace Go.Am.Ef
open Go.Am
theorem codeD_may {ns nf : Nat} : ∀ (c : Code) (d : Nat), mayC ns nf c d = true → ∀ x ∈ codeD c, 0 ≤ x.fn ∧ x.fn < nf := by
  refine Code.ind fun k a n s f nm nl l ih d h x hx => ?_
  rw [mayC, Bool.and_eq_true, Bool.and_eq_true, mayCs_all, List.all_eq_true] at h
  rw [codeD] at hx
  rcases List.mem_append.1 hx with h1 | h1
  · have : ∀ l' : List Code, (∀ c ∈ l', c ∈ l) → ∀ x ∈ codeDs l', 0 ≤ x.fn ∧ x.fn < nf := fun l' => by
      induction l' with
      | nil => intro _ x hx; simp [codeDs] at hx
      | cons c r ihr =>
        intro hm x hx
        rw [codeDs] at hx
        rcases List.mem_append.1 hx with h2 | h2
        · exact ih c (hm c List.mem_cons_self) (d + 1) (h.2 c (hm c List.mem_cons_self)) x h2
        · exact ihr (fun c hc => hm c (List.mem_cons_of_mem _ hc)) x h2
    exact this l (fun c hc => hc) x h1
  · split at h1
    · rename_i hk
      have h2 : inR f nf = true := by have := h.1.1; rw [hk] at this; simpa [okK] using this
      simp only [inR, Bool.and_eq_true, decide_eq_true_eq] at h2
      rw [List.mem_singleton.1 h1]
      exact h2
    · simp at h1
theorem actDs_may {ns nf : Nat} : ∀ (x : Act) (d : Nat), mayA ns nf x d = true → ∀ y ∈ actD x, y.fn = -1 ∨ (0 ≤ y.fn ∧ y.fn < nf) := by
  refine Act.ind fun k a s nm e nl l ne els ih ih2 d h y hy => ?_
  have hs : ∀ (l0 : List Act) (d : Nat), (∀ x ∈ l0, ∀ (d : Nat), mayA ns nf x d = true → ∀ y ∈ actD x, y.fn = -1 ∨ (0 ≤ y.fn ∧ y.fn < nf)) → mayAs ns nf l0 d = true → ∀ y ∈ actDs l0, y.fn = -1 ∨ (0 ≤ y.fn ∧ y.fn < nf) := fun l0 => by
    induction l0 with
    | nil => intro d _ _ y hy; simp [actDs] at hy
    | cons c r ihr =>
      intro d h1 h2 y hy
      rw [mayAs, Bool.and_eq_true] at h2
      rw [actDs] at hy
      rcases List.mem_append.1 hy with h3 | h3
      · exact h1 c List.mem_cons_self d h2.1 y h3
      · exact ihr d (fun x hx => h1 x (List.mem_cons_of_mem _ hx)) h2.2 y h3
  rw [mayA_eq, Bool.and_eq_true] at h
  obtain ⟨h1, h2⟩ := h
  rw [actD_eq] at hy
  have ek : (Act.mk k a s nm e nl l ne els).kind = k := rfl
  have el : (Act.mk k a s nm e nl l ne els).l = l := rfl
  have ee : (Act.mk k a s nm e nl l ne els).els = els := rfl
  have ex : (Act.mk k a s nm e nl l ne els).e = e := rfl
  rw [ek, el, ee] at h2
  rw [ek, el, ee, ex] at hy
  split at hy
  · rw [List.mem_singleton.1 hy]; exact .inl rfl
  · rename_i hk
    rcases List.mem_append.1 hy with h3 | h3
    · simp only [mayK, Bool.and_eq_true, Bool.or_eq_true, decide_eq_true_eq] at h1
      exact .inr (codeD_may e 1 (h1.2.resolve_left hk) y h3)
    · split at h3
      · rename_i h4
        rw [Bool.or_eq_true, decide_eq_true h4] at h2
        have h5 := h2.resolve_left (by simp)
        rw [Bool.and_eq_true] at h5
        rcases List.mem_append.1 h3 with h6 | h6
        · exact hs l (d + 1) ih h5.1 y h6
        · exact hs els (d + 1) ih2 h5.2 y h6
      · simp at h3
theorem deedsF_may {p : ProgV} (h : mayP p = true) : ∀ f ∈ p.fns, ∀ d ∈ deedsF f, d.fn = -1 ∨ (0 ≤ d.fn ∧ d.fn < p.fns.length) := by
  intro f hf d hd
  rw [mayP, Bool.and_eq_true, List.all_eq_true] at h
  have h1 := h.1 f hf
  simp only [mayF, Bool.and_eq_true] at h1
  rw [deedsF] at hd
  rcases List.mem_append.1 hd with h2 | h2
  · have hs : ∀ (l0 : List Act) (d : Nat), mayAs p.sites.length p.fns.length l0 d = true → ∀ y ∈ actDs l0, y.fn = -1 ∨ (0 ≤ y.fn ∧ y.fn < p.fns.length) := fun l0 => by
      induction l0 with
      | nil => intro d _ y hy; simp [actDs] at hy
      | cons c r ihr =>
        intro d h2 y hy
        rw [mayAs, Bool.and_eq_true] at h2
        rw [actDs] at hy
        rcases List.mem_append.1 hy with h3 | h3
        · exact actDs_may c d h2.1 y h3
        · exact ihr d h2.2 y h3
    exact hs f.body 1 h1.2.1.2 d h2
  · exact .inr (codeD_may f.ret 1 h1.2.2 d h2)
theorem sizeC_deeds : ∀ (c : Code) (left : Int), 0 ≤ sizeC c left → ((codeD c).length : Int) ≤ left - sizeC c left ∧ 0 ≤ left := by
  refine Code.ind fun k a n s f nm nl l ih left h => ?_
  have hc := cost_le nm.length
  rw [sizeC] at h ⊢
  have key : ∀ (l0 : List Code), (∀ c ∈ l0, ∀ left, 0 ≤ sizeC c left → ((codeD c).length : Int) ≤ left - sizeC c left ∧ 0 ≤ left) → ∀ left, 0 ≤ sizeCs l0 left → ((codeDs l0).length : Int) ≤ left - sizeCs l0 left ∧ 0 ≤ left := fun l0 => by
    induction l0 with
    | nil => intro _ left h; simp only [sizeCs, codeDs, List.length_nil] at *; omega
    | cons c r ihr =>
      intro h1 left h2
      rw [sizeCs] at h2 ⊢
      split at h2
      · rename_i hl
        rw [if_pos hl]
        have h3 := ihr (fun x hx => h1 x (List.mem_cons_of_mem _ hx)) _ h2
        have h4 := h1 c List.mem_cons_self left h3.2
        rw [codeDs, List.length_append]
        push_cast
        omega
      · omega
  have h1 := key l ih _ h
  rw [codeD, List.length_append]
  have : ((if k = 3 then [(⟨a, [], f⟩ : Deed)] else []).length : Int) ≤ 1 := by split <;> simp
  push_cast at this ⊢
  omega
theorem sizeAs_deeds : ∀ (l0 : List Act), (∀ c ∈ l0, ∀ left, 0 ≤ sizeA c left → ((actD c).length : Int) ≤ left - sizeA c left ∧ 0 ≤ left) → ∀ left, 0 ≤ sizeAs l0 left → ((actDs l0).length : Int) ≤ left - sizeAs l0 left ∧ 0 ≤ left
  | [], _, left, h => by simp only [sizeAs, actDs, List.length_nil] at *; omega
  | c :: r, h1, left, h2 => by
    rw [sizeAs] at h2 ⊢
    split at h2
    · rename_i hl
      rw [if_pos hl]
      have h3 := sizeAs_deeds r (fun x hx => h1 x (List.mem_cons_of_mem _ hx)) _ h2
      have h4 := h1 c List.mem_cons_self left h3.2
      rw [actDs, List.length_append]
      push_cast
      omega
    · omega
theorem sizeA_deeds : ∀ (c : Act) (left : Int), 0 ≤ sizeA c left → ((actD c).length : Int) ≤ left - sizeA c left ∧ 0 ≤ left := by
  refine Act.ind fun k a s nm e nl l ne els ih ih2 left h => ?_
  have hc := cost_le nm.length
  rw [sizeA_eq] at h ⊢
  have ek : (Act.mk k a s nm e nl l ne els).kind = k := rfl
  have el : (Act.mk k a s nm e nl l ne els).l = l := rfl
  have ee : (Act.mk k a s nm e nl l ne els).els = els := rfl
  have ex : (Act.mk k a s nm e nl l ne els).e = e := rfl
  have en : (Act.mk k a s nm e nl l ne els).name = nm := rfl
  rw [ee, el, ex, en] at h ⊢
  have h1 := sizeAs_deeds els ih2 _ h
  have h2 := sizeAs_deeds l ih _ h1.2
  have h3 := sizeC_deeds e _ h2.2
  rw [actD_eq, ek, el, ee, ex]
  split
  · simp only [List.length_cons, List.length_nil]; omega
  · split
    · simp only [List.length_append]; push_cast; omega
    · simp only [List.length_append, List.length_nil]; push_cast; omega
theorem sizeFs_deeds : ∀ (l : List FuncV) (left : Int), 0 ≤ sizeFs l left → (l.length : Int) ≤ left - sizeFs l left ∧ 0 ≤ left ∧ ∀ f ∈ l, ((deedsF f).length : Int) ≤ left
  | [], left, h => by simp only [sizeFs, List.length_nil] at *; exact ⟨by omega, h, fun f hf => by simp at hf⟩
  | f :: r, left, h => by
    rw [sizeFs] at h ⊢
    split at h
    · rename_i hl
      rw [if_pos hl]
      have h1 := sizeFs_deeds r _ h
      have h2 : 0 ≤ sizeF f left := h1.2.1
      have h3 : ((deedsF f).length : Int) + 1 ≤ left - sizeF f left := by
        unfold sizeF at h2 ⊢
        have h4 := sizeC_deeds f.ret _ h2
        have h5 := sizeAs_deeds f.body (fun c _ => sizeA_deeds c) _ h4.2
        rw [deedsF, List.length_append]
        push_cast
        omega
      refine ⟨by simp only [List.length_cons]; push_cast; omega, hl, fun g hg => ?_⟩
      rcases List.mem_cons.1 hg with rfl | hg
      · omega
      · have := h1.2.2 g hg; omega
    · omega
theorem great_bnd {p : ProgV} (h : greatB p = false) : p.fns.length ≤ 400 ∧ p.sites.length ≤ 400 ∧ ∀ f ∈ p.fns, (deedsF f).length ≤ 400 := by
  rw [greatB, decide_eq_false_iff_not] at h
  have h1 := sizeFs_deeds p.fns _ (Int.not_lt.1 h)
  refine ⟨by omega, by omega, fun f hf => ?_⟩
  have := h1.2.2 f hf
  omega
theorem uq_mem (l : List Int) : ∀ m, m ≤ l.length → ∀ x, x ∈ uq l m ↔ x ∈ l.take m
  | 0, _, x => by simp [uq]
  | m + 1, hm, x => by
    have hml : m < l.length := by omega
    have hd : l.getD m 0 = l[m] := by rw [List.getD_eq_getElem?_getD, List.getElem?_eq_getElem hml]; rfl
    rw [uq, List.take_succ_eq_append_getElem hml, List.mem_append, List.mem_singleton, ← hd]
    split
    · rw [List.mem_append, List.mem_singleton, uq_mem l m (by omega) x]
    · rename_i h
      rw [uq_mem l m (by omega) x]
      refine ⟨.inl, fun h1 => h1.elim id (fun e => ?_)⟩
      have h2 : l.getD m 0 = l.getD (m - 1) 0 := Classical.byContradiction (fun h3 => h (.inr h3))
      have hm0 : m ≠ 0 := fun e => h (.inl e)
      rw [e, h2, List.getD_eq_getElem?_getD, List.getElem?_eq_getElem (by omega)]
      exact List.mem_take_iff_getElem.2 ⟨m - 1, by omega, rfl⟩
theorem uq_lt {l : List Int} (hs : l.Pairwise (· ≤ ·)) : ∀ m, m ≤ l.length → (uq l m).Pairwise (· < ·)
  | 0, _ => List.Pairwise.nil
  | m + 1, hm => by
    have hml : m < l.length := by omega
    have hd : l.getD m 0 = l[m] := by rw [List.getD_eq_getElem?_getD, List.getElem?_eq_getElem hml]; rfl
    rw [uq]
    split
    · rename_i h
      refine List.pairwise_append.2 ⟨uq_lt hs m (by omega), List.pairwise_singleton _ _, fun a ha b hb => ?_⟩
      rw [List.mem_singleton.1 hb, hd]
      have ha' := (uq_mem l m (by omega) a).1 ha
      obtain ⟨i, hi, rfl⟩ := List.mem_take_iff_getElem.1 ha'
      have h0 : m ≠ 0 := by omega
      have hne := h.resolve_left h0
      have hd1 : l.getD (m - 1) 0 = l[m - 1] := by rw [List.getD_eq_getElem?_getD, List.getElem?_eq_getElem (by omega)]; rfl
      rw [hd, hd1] at hne
      have h1 := List.pairwise_iff_getElem.1 hs (m - 1) m (by omega) hml (by omega)
      have h2 : l[i] ≤ l[m - 1] := by
        by_cases e : i = m - 1
        · subst e; exact Int.le_refl _
        · exact List.pairwise_iff_getElem.1 hs i (m - 1) (by omega) (by omega) (by omega)
      omega
    · exact uq_lt hs m (by omega)
theorem callsF_mem (f : FuncV) (x : Int) : x ∈ callsF f ↔ x ∈ fnsOf (deedsF f) := by
  unfold callsF
  rw [uq_mem _ _ (Nat.le_refl _), List.take_length, (sortBy_perm _ _).mem_iff]
  rfl
theorem fnsOf_mem {l : List Deed} {x : Int} : x ∈ fnsOf l ↔ 0 ≤ x ∧ ∃ d ∈ l, d.fn = x := by
  unfold fnsOf
  rw [List.mem_map]
  constructor
  · rintro ⟨d, hd, rfl⟩
    have := List.mem_filter.1 hd
    exact ⟨by simpa using this.2, d, this.1, rfl⟩
  · rintro ⟨h, d, hd, rfl⟩
    exact ⟨d, List.mem_filter.2 ⟨hd, by simpa using h⟩, rfl⟩
theorem anyFn_mem {l : List Deed} {x : Nat} : anyFn l ((x : Nat) : Int) = true ↔ ((x : Nat) : Int) ∈ fnsOf l := by
  rw [fnsOf_mem, anyFn, List.any_eq_true]
  simp
theorem callsF_eq {p : ProgV} (h : mayP p = true) {f : FuncV} (hf : f ∈ p.fns) : callsF f = castL ((List.range p.fns.length).filter (fun b => anyFn (deedsF f) ((b : Nat) : Int))) := by
  have h1 : (callsF f).Pairwise (· < ·) := uq_lt (sortBy_sorted _ _) _ (Nat.le_refl _)
  have h2 : (castL ((List.range p.fns.length).filter (fun b => anyFn (deedsF f) ((b : Nat) : Int)))).Pairwise (· < ·) := by
    unfold castL
    rw [List.pairwise_map]
    exact (List.Pairwise.filter _ (List.pairwise_lt_range)).imp (fun h => by omega)
  have hperm : (callsF f).Perm (castL ((List.range p.fns.length).filter (fun b => anyFn (deedsF f) ((b : Nat) : Int)))) := by
    refine (List.perm_ext_iff_of_nodup (h1.imp (fun h => by omega)) (h2.imp (fun h => by omega))).2 (fun x => ?_)
    rw [callsF_mem]
    unfold castL
    rw [List.mem_map]
    constructor
    · intro hx
      obtain ⟨q1, d, hd, q2⟩ := fnsOf_mem.1 hx
      have := deedsF_may h f hf d hd
      refine ⟨x.toNat, List.mem_filter.2 ⟨List.mem_range.2 (by omega), ?_⟩, by omega⟩
      rw [anyFn_mem, show ((x.toNat : Nat) : Int) = x by omega]; exact hx
    · rintro ⟨b, hb, rfl⟩
      exact anyFn_mem.1 (List.mem_filter.1 hb).2
  exact List.Perm.eq_of_pairwise (fun a b _ _ h3 h4 => absurd h3 (by omega)) h1 h2 hperm
theorem calls_ok {p : ProgV} (h : mayP p = true) (hg : greatB p = false) : CallsOk p := by
  obtain ⟨g1, g2, g3⟩ := great_bnd hg
  refine ⟨by omega, fun f hf => by have := g3 f hf; omega, fun f hf x hx => ?_⟩
  obtain ⟨q1, d, hd, q2⟩ := fnsOf_mem.1 ((callsF_mem f x).1 hx)
  have := deedsF_may h f hf d hd
  omega
theorem ref_ok {p : ProgV} (hw : ProgWf p) (h : mayP p = true) (hg : greatB p = false) : RefOk p := by
  obtain ⟨g1, g2, g3⟩ := great_bnd hg
  exact ⟨hw, by omega, fun f hf => by have := g3 f hf; omega, fun f hf d hd => by have := deedsF_may h f hf d hd; omega⟩
theorem cN_cR {p : ProgV} {f x : Nat} : x ∈ cN p f ↔ x ∈ cR p f := by
  unfold cN cR natsOf
  rw [List.mem_map, List.mem_map]
  constructor <;> rintro ⟨y, hy, e⟩
  · exact ⟨y, (callsF_mem _ y).1 hy, e⟩
  · exact ⟨y, (callsF_mem _ y).2 hy, e⟩
section
variable {c : Nat → List Nat} {N : Nat}
theorem turnS_le (S : Nat → Bool) : ∀ b x, S x = true → turnS c S b x = true
  | 0, x, h => h
  | b + 1, x, h => by rw [turnS, addS, turnS_le S b x h]; rfl
theorem turnS_reach {a : Nat} {S : Nat → Bool} (h : ∀ x, S x = true → Reach c a x) : ∀ b x, turnS c S b x = true → Reach c a x
  | 0, x, hx => h x hx
  | b + 1, x, hx => by
    rw [turnS, addS, Bool.or_eq_true, Bool.and_eq_true, decide_eq_true_eq] at hx
    rcases hx with hx | hx
    · exact turnS_reach h b x hx
    · exact (turnS_reach h b b hx.1).trans (.one hx.2)
theorem turnS_fix {S : Nat → Bool} : ∀ b, (∀ x, turnS c S b x = S x) → ∀ y, y < b → S y = true → ∀ x ∈ c y, S x = true
  | 0, _, y, hy, _, _, _ => by omega
  | b + 1, h, y, hy, hS, x, hx => by
    have hb : ∀ x, turnS c S b x = S x := fun x => by
      cases e : S x with
      | true => exact turnS_le S b x e
      | false =>
        have := h x
        rw [e, turnS, addS, Bool.or_eq_false_iff] at this
        exact this.1
    by_cases e : y = b
    · subst e
      have := h x
      rw [← this, turnS, addS, hb y, hS, decide_eq_true hx]; simp
    · exact turnS_fix b hb y (by omega) hS x hx
theorem leads_count (hc : ∀ f, f < N → ∀ x ∈ c f, x < N) {S0 : Nat → Bool} (h0 : ∀ x, S0 x = true → x < N) (h1 : ∃ x, S0 x = true) : ∀ t, (∀ x, turnsS c N S0 t x = true → x < N) ∧ (t + 1 ≤ (List.range N).countP (turnsS c N S0 t) ∨ ∀ y, y < N → turnsS c N S0 t y = true → ∀ x ∈ c y, turnsS c N S0 t x = true)
  | 0 => by
    refine ⟨h0, .inl ?_⟩
    obtain ⟨x, hx⟩ := h1
    exact List.countP_pos_iff.2 ⟨x, List.mem_range.2 (h0 x hx), hx⟩
  | t + 1 => by
    obtain ⟨q1, q2⟩ := leads_count hc h0 h1 t
    have hin : ∀ b, b ≤ N → ∀ x, turnS c (turnsS c N S0 t) b x = true → x < N := fun b => by
      induction b with
      | zero => intro _ x hx; exact q1 x hx
      | succ b ih =>
        intro hb x hx
        rw [turnS, addS, Bool.or_eq_true, Bool.and_eq_true, decide_eq_true_eq] at hx
        rcases hx with hx | hx
        · exact ih (by omega) x hx
        · exact hc b (by omega) x hx.2
    refine ⟨hin N (Nat.le_refl _), ?_⟩
    have hfix : (∀ x, turnS c (turnsS c N S0 t) N x = turnsS c N S0 t x) → (∀ y, y < N → turnsS c N S0 (t + 1) y = true → ∀ x ∈ c y, turnsS c N S0 (t + 1) x = true) := fun h y hy hyS x hx => by
      have e : turnsS c N S0 (t + 1) = turnsS c N S0 t := by funext z; exact h z
      rw [e] at hyS ⊢
      exact turnS_fix N h y hy hyS x hx
    by_cases hE : ∀ x, turnS c (turnsS c N S0 t) N x = turnsS c N S0 t x
    · exact .inr (hfix hE)
    · rcases q2 with q2 | q2
      · left
        have hex : ∃ x, turnS c (turnsS c N S0 t) N x = true ∧ turnsS c N S0 t x = false := by
          refine Classical.byContradiction (fun h => hE (fun x => ?_))
          cases e : turnsS c N S0 t x with
          | true => exact turnS_le _ N x e
          | false =>
            cases e2 : turnS c (turnsS c N S0 t) N x with
            | false => rfl
            | true => exact absurd ⟨x, e2, e⟩ h
        obtain ⟨x, x1, x2⟩ := hex
        have hxN := hin N (Nat.le_refl _) x x1
        have hlt : ∀ l : List Nat, (l.countP (turnsS c N S0 t) ≤ l.countP (turnS c (turnsS c N S0 t) N)) ∧ (x ∈ l → l.countP (turnsS c N S0 t) + 1 ≤ l.countP (turnS c (turnsS c N S0 t) N)) := fun l => by
          induction l with
          | nil => simp
          | cons y l ih =>
            rw [List.countP_cons, List.countP_cons]
            refine ⟨?_, fun hm => ?_⟩
            · have := ih.1
              split
              · rename_i h; rw [turnS_le _ N y h]; simp; omega
              · split <;> omega
            · rcases List.mem_cons.1 hm with e | hm
              · subst e
                rw [x1, x2]
                have := ih.1
                simp; omega
              · have := ih.2 hm
                split
                · rename_i h; rw [turnS_le _ N y h]; simp; omega
                · split <;> omega
        have := (hlt (List.range N)).2 (List.mem_range.2 hxN)
        show t + 1 + 1 ≤ (List.range N).countP (turnS c (turnsS c N S0 t) N)
        omega
      · right
        refine hfix (fun x => ?_)
        have : ∀ b, b ≤ N → ∀ x, turnS c (turnsS c N S0 t) b x = turnsS c N S0 t x := fun b => by
          induction b with
          | zero => intro _ x; rfl
          | succ b ih =>
            intro hb x
            rw [turnS, addS, ih (by omega) x, ih (by omega) b]
            cases e : turnsS c N S0 t x with
            | true => rfl
            | false =>
              cases e2 : turnsS c N S0 t b with
              | false => rfl
              | true =>
                have : x ∉ c b := fun hx => by rw [q2 b (by omega) e2 x hx] at e; simp at e
                simp [this]
        exact this N (Nat.le_refl _) x
theorem leadS_reach (hc : ∀ f, f < N → ∀ x ∈ c f, x < N) {a b : Nat} (ha : a < N) : leadS c N a b = true ↔ Reach c a b := by
  have hr : ∀ t x, turnsS c N (fun x => decide (x = a)) t x = true → Reach c a x := fun t => by
    induction t with
    | zero => intro x hx; rw [turnsS, decide_eq_true_eq] at hx; rw [hx]; exact .refl _
    | succ t ih => exact fun x hx => turnS_reach ih N x hx
  constructor
  · exact hr N b
  · intro h
    have h0 := leads_count (S0 := fun x => decide (x = a)) hc (fun x hx => by rw [decide_eq_true_eq] at hx; rw [hx]; exact ha) ⟨a, by simp⟩ N
    have hclosed := h0.2.resolve_left (fun h2 => by
      have := List.countP_le_length (p := turnsS c N (fun x => decide (x = a)) N) (l := List.range N)
      rw [List.length_range] at this; omega)
    have hmono : ∀ t, turnsS c N (fun x => decide (x = a)) t a = true := fun t => by
      induction t with
      | zero => simp [turnsS]
      | succ t ih => exact turnS_le _ N a ih
    refine h.closed (q := fun x => leadS c N a x = true) (fun x hx y hy => ?_) (hmono N)
    exact hclosed x (h0.1 x hx) hx y hy
open Classical in
theorem runB_runA {c' : Nat → List Nat} {ld : Nat → Nat → Bool} (h : ∀ a b, a < N → b < N → (ld a b = true ↔ Reach c' a b)) : ∀ (t : Nat) (F : Nat → Bool), runB ld N t F = runA c' N t F := by
  have hscc : ∀ a, a < N → sccB ld N a = sccL c' N a := fun a ha => by
    unfold sccB sccL
    refine List.filter_congr (fun b hb => ?_)
    have hb' := List.mem_range.1 hb
    have : (ld a b && ld b a) = true ↔ (Reach c' a b ∧ Reach c' b a) := by rw [Bool.and_eq_true, h a b ha hb', h b a hb' ha]
    cases e : (ld a b && ld b a) with
    | true => exact (decide_eq_true (this.1 e)).symm
    | false => exact (decide_eq_false (fun h2 => by rw [this.2 h2] at e; simp at e)).symm
  have hpick : ∀ F a, a < N → pickB ld N F a = pickA c' N F a := fun F a ha => by
    unfold pickB pickA
    congr 1
    have : (List.range N).all (okB ld F a) = true ↔ (∀ b, b < N → Reach c' a b → Reach c' b a ∨ F b = true) := by
      rw [List.all_eq_true]
      constructor
      · intro h1 b hb hab
        have := h1 b (List.mem_range.2 hb)
        rw [okB, (h a b ha hb).2 hab] at this
        simp only [Bool.not_true, Bool.false_or, Bool.or_eq_true] at this
        exact this.imp (h b a hb ha).1 id
      · intro h1 b hb
        have hb' := List.mem_range.1 hb
        cases e : ld a b with
        | false => simp [okB, e]
        | true =>
          have := h1 b hb' ((h a b ha hb').1 e)
          rw [okB, e]
          simp only [Bool.not_true, Bool.false_or, Bool.or_eq_true]
          exact this.imp (h b a hb' ha).2 id
    cases e : (List.range N).all (okB ld F a) with
    | true => exact (@decide_eq_true _ (Classical.propDecidable _) (this.1 e)).symm
    | false => exact (@decide_eq_false _ (Classical.propDecidable _) (fun h2 => by rw [this.2 h2] at e; simp at e)).symm
  intro t
  induction t with
  | zero => intro F; rfl
  | succ t ih =>
    intro F
    have hfind : (List.range N).find? (pickB ld N F) = (List.range N).find? (pickA c' N F) := by
      have : ∀ l : List Nat, (∀ x ∈ l, x < N) → l.find? (pickB ld N F) = l.find? (pickA c' N F) := fun l => by
        induction l with
        | nil => intro _; rfl
        | cons x l ihl =>
          intro hx
          rw [List.find?_cons, List.find?_cons, hpick F x (hx x List.mem_cons_self), ihl (fun y hy => hx y (List.mem_cons_of_mem _ hy))]
      exact this _ (fun x hx => List.mem_range.1 hx)
    rw [runB, runA, hfind]
    cases e : (List.range N).find? (pickA c' N F) with
    | none => exact ih F
    | some a =>
      have ha : a < N := List.mem_range.1 (List.mem_of_find?_eq_some e)
      show sccB ld N a :: _ = sccL c' N a :: _
      rw [hscc a ha, ih]; rfl
end
theorem reach_same {c c' : Nat → List Nat} (h : ∀ f x, x ∈ c f ↔ x ∈ c' f) {a b : Nat} : Reach c a b ↔ Reach c' a b := by
  constructor
  · intro hr
    induction hr with
    | refl => exact .refl _
    | step h1 _ ih => exact .step ((h _ _).1 h1) ih
  · intro hr
    induction hr with
    | refl => exact .refl _
    | step h1 _ ih => exact .step ((h _ _).2 h1) ih
theorem groups_eq {p : ProgV} (h : mayP p = true) {s : TS} (Gn : GrN (cN p) p.fns.length s) : runB (leadS (cR p) p.fns.length) p.fns.length p.fns.length (fun _ => false) = (runK (cN p) s p.fns.length s.n []).map (grp s p.fns.length) := by
  rw [← groups_same Gn]
  refine runB_runA (fun a b ha hb => ?_) _ _
  rw [leadS_reach (fun f hf x hx => ?_) ha]
  · exact reach_same (fun f x => cN_cR.symm)
  · obtain ⟨y, hy, rfl⟩ := List.mem_map.1 hx
    obtain ⟨q1, d, hd, q2⟩ := fnsOf_mem.1 hy
    have := deedsF_may h _ (slv_get hf) d hd
    omega
end Go.Am.Ef
/- EffectGroups: any program's calls and groups are what the document says. -/
namespace Go.Am.Ef
open Go.Am
variable {P : Prog}
set_option maxRecDepth 20000
set_option maxHeartbeats 1000000
theorem alone_two {α : Type} [EncP α] (nl : Bool) (l : List α) (n : Int) : alone 1 (.tup [slv nl false l, .int .i64 n]) = true := by
  refine alone1_tup _ (fun x hx => ?_)
  simp only [List.mem_cons, List.not_mem_nil, or_false] at hx
  rcases hx with rfl | rfl
  · exact pureV_slv _ _ _ _ (Nat.le_refl _)
  · rfl
theorem getD_map_l {cs : List SlI} {gs : List (List Int)} (h : cs.map (·.l) = gs) {i : Nat} (hi : i < gs.length) : (cs.getD i default).l = gs.getD i [] := by
  subst h
  have hi' : i < cs.length := by simpa using hi
  simp only [List.getD_eq_getElem?_getD, List.getElem?_map, List.getElem?_eq_getElem hi', Option.map_some, Option.getD_some]
theorem filter_at {n b : Nat} {q : Nat → Bool} (hb : b < n) (hq : q b = true) : ((List.range b).filter q).length < ((List.range n).filter q).length ∧ ((List.range n).filter q).getD ((List.range b).filter q).length 0 = b := by
  have h1 : List.range n = List.range b ++ b :: ((List.range (n - b - 1)).map (fun i => b + 1 + i)) := by
    refine List.ext_getElem (by simp; omega) (fun i h1 h2 => ?_)
    rw [List.getElem_range, List.getElem_append]
    split
    · simp
    · rename_i h3
      simp only [List.length_range] at h3 ⊢
      rw [List.getElem_cons]
      split
      · omega
      · simp; omega
  rw [h1, List.filter_append, List.filter_cons_of_pos hq]
  refine ⟨by simp, ?_⟩
  rw [List.getD_eq_getElem?_getD, List.getElem?_append_right (Nat.le_refl _), Nat.sub_self]
  rfl
theorem runK_len (c : Nat → List Nat) (s : TS) (N : Nat) : ∀ (t : Nat) (D : List Nat), (runK c s N t D).length ≤ D.length + t
  | 0, D => Nat.le_refl _
  | t + 1, D => by
    rw [runK]
    split
    · omega
    · have := runK_len c s N t (D ++ [‹Nat›])
      simp only [List.length_append, List.length_cons, List.length_nil] at this
      omega
theorem effectGroups_fun (hP : EfP P) (p : ProgV) (hw : ProgWf p) (h : Heap) : Fun P 3 [p.av] h (fun v _ => v = .bool true) := by
  refine Fun.of (code := a3c) (hP.code rfl) (by rw [hP.pure]; rfl) ?_
  unfold ProgV.av
  simp (disch := omega) only [go_sem, a3c, a3r0]
  simp (disch := omega) only [go_sem, a3r1]
  refine WO.den (k := 0) (vs := [p.av, .int .i64 400]) (by rw [hP.pure]; rfl) (by simp (disch := omega) only [go_sem]; rfl) (great_den hP p hw) (fun v hv => by subst hv; rfl) (fun v hv => ?_)
  subst hv
  simp (disch := omega) only [go_sem]
  cases hg : greatB p with
  | true =>
    simp (disch := omega) only [go_sem, a3r2]
    refine WO.den (k := 0) (vs := []) (by rw [hP.pure]; rfl) (by simp (disch := omega) only [go_sem]) hP.awake_den (fun v hv => by subst hv; rfl) (fun v hv => ?_)
    subst hv
    simp (disch := omega) only [go_sem]
  | false =>
  obtain ⟨g1, g2, g3⟩ := great_bnd hg
  have hd : ∀ f ∈ p.fns, (deedsF f).length ≤ 100000 := fun f hf => by have := g3 f hf; omega
  simp (disch := omega) only [go_sem, a3r3]
  refine WO.den (k := 0) (vs := [p.av]) (by rw [hP.pure]; rfl) (by simp (disch := omega) only [go_sem]; rfl) (calls_den hP p hw (by omega) hd) (fun v hv => ?_) (fun v hv => ?_)
  · rcases hv with ⟨-, rfl⟩ | ⟨-, nl, cs, rfl, -⟩
    · rfl
    · exact alone_two _ _ _
  rcases hv with ⟨hm, rfl⟩ | ⟨hm, ncs, cs, rfl, hcs⟩
  · simp (disch := omega) only [go_sem]
    simp (disch := omega) only [go_sem, a3r4]
    refine WO.den (k := 0) (vs := [p.av]) (by rw [hP.pure]; rfl) (by simp (disch := omega) only [go_sem]; rfl) (groups_den hP p hw (fun hm' => by rw [hm] at hm'; simp at hm') (by omega) hd) (fun v hv => ?_) (fun v hv => ?_)
    · rcases hv with ⟨-, rfl⟩ | ⟨-, s, -, nl, cs, rfl, -⟩
      · rfl
      · exact alone_two _ _ _
    rcases hv with ⟨-, rfl⟩ | ⟨hm', -⟩
    · simp (disch := omega) only [go_sem]
      simp (disch := omega) only [go_sem, a3r5]
      refine WO.den (k := 0) (vs := [p.av]) (by rw [hP.pure]; rfl) (by simp (disch := omega) only [go_sem]; rfl) (may_den hP p hw) (fun v hv => by subst hv; rfl) (fun v hv => ?_)
      subst hv
      rw [hm]
      simp (disch := omega) only [go_sem]
      simp (disch := omega) only [go_sem, a3r6]
      refine WO.den (k := 0) (vs := []) (by rw [hP.pure]; rfl) (by simp (disch := omega) only [go_sem]) hP.awake_den (fun v hv => by subst hv; rfl) (fun v hv => ?_)
      subst hv
      simp (disch := omega) only [go_sem]
    · rw [hm] at hm'; simp at hm'
  · simp (disch := omega) only [go_sem]
    simp (disch := omega) only [go_sem, a3r4]
    refine WO.den (k := 0) (vs := [p.av]) (by rw [hP.pure]; rfl) (by simp (disch := omega) only [go_sem]; rfl) (groups_den hP p hw (fun hm' => calls_ok hm' hg) (by omega) hd) (fun v hv => ?_) (fun v hv => ?_)
    · rcases hv with ⟨-, rfl⟩ | ⟨-, s, -, nl, cs, rfl, -⟩
      · rfl
      · exact alone_two _ _ _
    rcases hv with ⟨hm', -⟩ | ⟨-, s, Gn, ngs, gs, rfl, hgs⟩
    · rw [hm] at hm'; simp at hm'
    simp (disch := omega) only [go_sem]
    simp (disch := omega) only [go_sem, a3r5]
    refine WO.den (k := 0) (vs := [p.av]) (by rw [hP.pure]; rfl) (by simp (disch := omega) only [go_sem]; rfl) (may_den hP p hw) (fun v hv => by subst hv; rfl) (fun v hv => ?_)
    subst hv
    rw [hm]
    have hlen : cs.length = p.fns.length := by have := congrArg List.length hcs; simpa using this
    simp (disch := omega) only [go_sem]
    simp (disch := omega) only [go_sem, a3r7, hlen]
    simp (disch := omega) only [go_sem, a3r9]
    have hcl : ∀ a, a < p.fns.length → (cs.getD a default).l = castL ((List.range p.fns.length).filter (fun b => anyFn (deedsF (p.fns.getD a default)) ((b : Nat) : Int))) := fun a ha => by
      rw [getD_map_l hcs (by simpa using ha), ← callsF_eq hm (slv_get ha)]
      simp only [List.getD_eq_getElem?_getD, List.getElem?_map, List.getElem?_eq_getElem ha, Option.map_some, Option.getD_some]
    refine Wp_loop (fun z : Nat × Nat => z.2 ≤ p.fns.length) (fun (t, a) => { fr := [(1, .lbox 0 [slv p.sn false p.sites, slv p.fn false p.fns]), (3, slv ncs false cs), (5, slv ngs false gs), (7, .int .i64 (a : Nat))], st := t, h := h }) (fun z => p.fns.length - z.2) (1, 0) rfl (Nat.zero_le _) ?_
    rintro ⟨t, a⟩ a1
    simp only at a1
    simp (disch := omega) only [go_sem, a3l1, a3r10, hlen]
    refine condS_if (fun c1 => ?_) (fun c1 => ?_)
    · have ha : a < p.fns.length := by omega
      have ha2 : a < cs.length := by omega
      have hca := hcl a ha
      generalize hq : (fun b : Nat => anyFn (deedsF (p.fns.getD a default)) ((b : Nat) : Int)) = q at hca
      have hql : ((List.range p.fns.length).filter q).length ≤ p.fns.length := Nat.le_trans (List.length_filter_le _ _) (by simp)
      have hlc : (cs.getD a default).l.length = ((List.range p.fns.length).filter q).length := by rw [hca]; simp [castL]
      simp (disch := omega) only [go_sem, a3r11]
      simp (disch := omega) only [go_sem, a3r12]
      refine Wp_loop (fun z : Nat × Nat => z.2 ≤ p.fns.length) (fun (t, b) => { fr := [(1, .lbox 0 [slv p.sn false p.sites, slv p.fn false p.fns]), (3, slv ncs false cs), (5, slv ngs false gs), (7, .int .i64 (a : Nat)), (8, .int .i64 (((List.range b).filter q).length : Nat)), (9, .int .i64 (b : Nat))], st := t, h := h }) (fun z => p.fns.length - z.2) (t, 0) rfl (Nat.zero_le _) ?_
      rintro ⟨t2, b⟩ b1
      simp only at b1
      simp (disch := omega) only [go_sem, a3l0, a3r13]
      refine condS_if (fun c2 => ?_) (fun c2 => ?_)
      · have hb : b < p.fns.length := by omega
        have hfil : (List.range (b + 1)).filter q = (List.range b).filter q ++ (if q b = true then [b] else []) := by
          rw [List.range_succ, List.filter_append]
          congr 1
          by_cases e : q b = true
          · rw [if_pos e, List.filter_cons_of_pos e]; rfl
          · rw [if_neg e, List.filter_cons_of_neg e]; rfl
        simp (disch := omega) only [go_sem, a3r14]
        refine WO.den (k := 0) (vs := [p.av, .int .i64 (a : Nat), .int .i64 (b : Nat)]) (by rw [hP.pure]; rfl) (by simp (disch := omega) only [go_sem]; rfl) (refcalls_den hP p hw hd ha ((b : Nat) : Int)) (fun v hv => by subst hv; rfl) (fun v hv => ?_)
        subst hv
        have hqb : anyFn (deedsF (p.fns.getD a default)) ((b : Nat) : Int) = q b := by rw [← hq]
        rw [hqb]
        simp (disch := omega) only [go_sem]
        cases hqv : q b with
        | false =>
          rw [hqv] at hfil
          simp (disch := omega) only [go_sem]
          simp (disch := omega) only [go_sem, a3r18]
          refine ⟨(t2, b + 1), by simp only; omega, by simp only; omega, ?_⟩
          simp only [hfil]; push_cast; simp
        | true =>
          rw [hqv] at hfil
          obtain ⟨f1, f2⟩ := filter_at hb hqv
          have hgd : (cs.getD a default).l.getD ((List.range b).filter q).length default = ((b : Nat) : Int) := by rw [hca, castL_get f1, f2]
          generalize hnn : ((List.range b).filter q).length = nn at f1 hgd
          have w1 : decide (((((List.range p.fns.length).filter q).length : Nat) : Int) ≤ ((nn : Nat) : Int)) = false := decide_eq_false (by omega)
          have w2 : decide (¬ ((b : Nat) : Int) = ((b : Nat) : Int)) = false := by simp
          have hnb : nn < 1000000 := by omega
          have hnl : nn < (cs.getD a default).l.length := by rw [hlc]; exact f1
          simp (disch := omega) only [go_sem]
          simp (disch := omega) only [go_sem, a3r15, ha2, hlc, hgd, f1, w1, w2]
          simp (disch := omega) only [go_sem, a3r17]
          simp (disch := omega) only [go_sem, a3r18]
          refine ⟨(t2, b + 1), by simp only; omega, by simp only; omega, ?_⟩
          simp only [hfil, if_true, List.length_append, hnn, List.length_cons, List.length_nil]; push_cast; rfl
      · have e : b = p.fns.length := by omega
        subst e
        have w3 : decide (¬ ((((List.range p.fns.length).filter q).length : Nat) : Int) = ((((List.range p.fns.length).filter q).length : Nat) : Int)) = false := by simp
        simp (disch := omega) only [go_sem, a3r19, ha2, hlc, w3]
        simp (disch := omega) only [go_sem, a3r21]
        exact ⟨(t2, a + 1), by simp only; omega, by simp only; omega, by push_cast; rfl⟩
    · simp (disch := omega) only [go_sem, a3r22]
      refine WO.den (k := 0) (vs := [p.av]) (by rw [hP.pure]; rfl) (by simp (disch := omega) only [go_sem]; rfl) (refgroups_den hP (ref_ok hw hm hg)) (fun v hv => by obtain ⟨nl, cs, rfl, -⟩ := hv; exact alone1_slv _ _ _) (fun v hv => ?_)
      obtain ⟨nw, ws, rfl, hws⟩ := hv
      rw [groups_eq hm Gn, List.map_map] at hws
      have hgw : ws.map (·.l) = gs.map (·.l) := hws.trans hgs.symm
      have hwl : ws.length = gs.length := by have := congrArg List.length hgw; simpa using this
      have hgl : ∀ i, i < gs.length → (ws.getD i default).l = (gs.getD i default).l := fun i hi => by
        rw [getD_map_l hgw (by simpa using hi), getD_map_l rfl (by simpa using hi)]
      have hgsl : gs.length ≤ p.fns.length := by
        have := congrArg List.length hgs
        simp only [List.length_map] at this
        have h2 := runK_len (cN p) s p.fns.length s.n []
        have := Gn.n
        simp only [List.length_nil] at h2; omega
      have hgll : ∀ i, i < gs.length → (gs.getD i default).l.length ≤ p.fns.length := fun i hi => by
        have h1 : (gs.getD i default).l ∈ gs.map (·.l) := by
          rw [List.getD_eq_getElem?_getD, List.getElem?_eq_getElem hi]
          exact List.mem_map_of_mem (List.getElem_mem hi)
        rw [hgs] at h1
        obtain ⟨k, -, e⟩ := List.mem_map.1 h1
        rw [← e, castL, List.length_map]
        exact Nat.le_trans (List.length_filter_le _ _) (by simp)
      clear hcs hgs hws
      simp (disch := omega) only [go_sem]
      have w4 : decide (¬ ((gs.length : Nat) : Int) = ((gs.length : Nat) : Int)) = false := by simp
      simp (disch := omega) only [go_sem, a3r23, hwl, w4]
      simp (disch := omega) only [go_sem, a3r25]
      refine Wp_loop (fun z : Nat × Nat => z.2 ≤ gs.length) (fun (t, i) => { fr := [(5, slv ngs false gs), (10, slv nw false ws), (11, .int .i64 (i : Nat))], st := t, h := h }) (fun z => gs.length - z.2) (t, 0) rfl (Nat.zero_le _) ?_
      rintro ⟨t3, i⟩ i1
      simp only at i1
      simp (disch := omega) only [go_sem, a3l3, a3r26, hwl]
      refine condS_if (fun c3 => ?_) (fun c3 => ?_)
      · have hi : i < gs.length := by omega
        have hiw : i < ws.length := by omega
        have hli := hgll i hi
        have hwi := hgl i hi
        have hwil : (ws.getD i default).l.length = (gs.getD i default).l.length := by rw [hwi]
        have w5 : decide (¬ (((gs.getD i default).l.length : Nat) : Int) = (((gs.getD i default).l.length : Nat) : Int)) = false := by simp
        simp (disch := omega) only [go_sem, a3d27, hi, hiw, hwil, w5]
        simp (disch := omega) only [go_sem, a3r29]
        refine Wp_loop (fun z : Nat × Nat => z.2 ≤ (gs.getD i default).l.length) (fun (t, k) => { fr := [(5, slv ngs false gs), (10, slv nw false ws), (11, .int .i64 (i : Nat)), (12, .int .i64 (k : Nat))], st := t, h := h }) (fun z => (gs.getD i default).l.length - z.2) (_, 0) rfl (Nat.zero_le _) ?_
        rintro ⟨t4, k⟩ k1
        simp only at k1
        simp (disch := omega) only [go_sem, a3l2, a3r30, hi, hiw, hwil]
        refine condS_if (fun c4 => ?_) (fun c4 => ?_)
        · have hk : k < (gs.getD i default).l.length := by omega
          have hkw : k < (ws.getD i default).l.length := by omega
          have hgk : (ws.getD i default).l.getD k default = (gs.getD i default).l.getD k default := by rw [hwi]
          have w6 : decide (¬ (gs.getD i default).l.getD k default = (gs.getD i default).l.getD k default) = false := by simp
          simp (disch := omega) only [go_sem, a3d31, hi, hiw, hk, hkw, hgk, w6]
          simp (disch := omega) only [go_sem, a3r33]
          exact ⟨(_, k + 1), by simp only; omega, by simp only; omega, by push_cast; rfl⟩
        · simp (disch := omega) only [go_sem, a3r34]
          exact ⟨(_, i + 1), by simp only; omega, by simp only; omega, by push_cast; rfl⟩
      · simp (disch := omega) only [go_sem, a3r35]
        refine WO.den (k := 0) (vs := []) (by rw [hP.pure]; rfl) (by simp (disch := omega) only [go_sem]) hP.awake_den (fun v hv => by subst hv; rfl) (fun v hv => ?_)
        subst hv
        simp (disch := omega) only [go_sem]
end Go.Am.Ef

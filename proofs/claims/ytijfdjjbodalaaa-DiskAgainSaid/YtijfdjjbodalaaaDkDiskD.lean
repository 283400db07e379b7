/- The disk's functions: Append, Sync, SyncDir. -/
import Derived.Test.YtijfdjjbodalaaaDkUsed
set_option linter.unusedSimpArgs false
set_option linter.unusedVariables false
namespace Go.Am.Dk
open Go.Am
attribute [local go_sem] ne_eq not_true_eq_false not_false_eq_true Nat.reduceEqDiff Nat.reduceAdd Nat.reduceLeDiff Int.toNat_natCast Int.reduceToNat and_self Bool.not_true Bool.not_false Bool.false_and Bool.and_false Bool.true_and Bool.and_true Int.reduceEq Int.reduceLT Int.reduceLE Int.reduceAdd Int.reduceSub Int.reduceNeg decide_true decide_false Option.bind_some Bool.or_true Bool.or_false Bool.true_or Bool.false_or
attribute [local go_sem ↓] reduceIte
set_option maxRecDepth 20000
set_option maxHeartbeats 1000000
variable {P : Prog}
structure DkQ (P : Prog) : Prop extends DkP P where
  none33 : P.fn 33 = none
  used : ∀ args h r, usedF args h = some r → P.prim 33 args h = some r
theorem usedD_fun (hP : DkQ P) {h : Heap} {d : Nat} {σ : DSt} {y : Lay} (hD : DiskAt h d σ y) (hd : σ.dead = false) (hu : usedS σ ≤ 4611686018427387904) : Fun P 33 [.ptr d 0] h (fun v h' => v = .int .i64 (usedS σ) ∧ Ext h h') :=
  Fun.prim hP.none33 (by rw [hP.pure]; rfl) (hP.used _ _ _ (usedF_eq hD hd hu)) ⟨rfl, ext_dead h⟩
def setF (σ : DSt) (f : Nat) (x : DFile) : DSt := { σ with file := fun g => if g = f then x else σ.file g }
theorem DiskAt.fput {h h' : Heap} {d f : Nat} {σ : DSt} {y : Lay} {x : DFile} {bv' : AV} (hD : DiskAt h d σ y) (hf : f ∈ σ.all) (hc : h'.get f = some (.cells [bv', .int .i64 x.sure])) (hb : PreC h' bv' x.b) (hro : ∀ o, rowOf bv' = some o → rowOf (y.bv f) = some o ∨ h.next ≤ o)
    (hlt : ∀ o, rowOf bv' = some o → o < h'.next) (ho : ∀ o, o < h.next → o ≠ f → rowOf (y.bv f) ≠ some o → h'.get o = h.get o) (hn : h.next ≤ h'.next) : Step h h' d σ y (setF σ f x) { y with bv := fun g => if g = f then bv' else y.bv g } := by
  have S := hD.sep
  have own : ∀ q, Own d σ y q → q < h.next := hD.lt
  have fown : ∀ f ∈ σ.all, Own d σ y f := fun f hf => Or.inr (Or.inr (Or.inr (Or.inr (Or.inr ⟨f, hf, Or.inl rfl⟩))))
  have bown : ∀ f ∈ σ.all, ∀ o, rowOf (y.bv f) = some o → Own d σ y o := fun f hf o ho => Or.inr (Or.inr (Or.inr (Or.inr (Or.inr ⟨f, hf, Or.inr ho⟩))))
  have aown : ∀ o, rowOf y.av = some o → Own d σ y o := fun o ho => Or.inr (Or.inr (Or.inr (Or.inl ho)))
  have wown : ∀ o, rowOf y.wv = some o → Own d σ y o := fun o ho => Or.inr (Or.inr (Or.inr (Or.inr (Or.inl ho))))
  have rn : ∀ o, o < h.next → rowOf bv' = some o → rowOf (y.bv f) = some o := fun o h1 h2 => (hro o h2).elim id (fun h3 => by omega)
  have bvi : ∀ g o, rowOf (if g = f then bv' else y.bv g) = some o → rowOf (y.bv g) = some o ∨ (g = f ∧ h.next ≤ o) := fun g o hq => by
    by_cases e : g = f
    · rw [if_pos e] at hq
      rcases hro o hq with e2 | e2
      · exact Or.inl (by rw [e]; exact e2)
      · exact Or.inr ⟨e, e2⟩
    · rw [if_neg e] at hq; exact Or.inl hq
  refine ⟨{ ok := ⟨hD.ok.names, hD.ok.sure, hD.ok.waits, hD.ok.nd, hD.ok.sd, hD.ok.ad⟩, disk := ?_, names := ?_, sure := ?_, all := ?_, waits := ?_, cell := ?_, bytes := ?_, mm := hD.mm, bb := ?_, ab := ?_, wb := ?_, aw := hD.aw, lt := ?_ }, ⟨hn, fun o h1 h2 => ho o h1 (fun e => h2 (by rw [e]; exact fown f hf)) (fun e => h2 (bown f hf o e))⟩, ?_⟩
  · rw [ho d (own d (Or.inl rfl)) (Ne.symm (S.df f hf)) (fun e => (S.bv f hf d e).1 rfl)]
    exact hD.disk
  · exact hD.names.of_get (ho _ (own _ (Or.inr (Or.inl rfl))) (Ne.symm (S.fm f hf)) (fun e => (S.bv f hf _ e).2.1 rfl))
  · exact hD.sure.of_get (ho _ (own _ (Or.inr (Or.inr (Or.inl rfl)))) (Ne.symm (S.fm2 f hf)) (fun e => (S.bv f hf _ e).2.2.1 rfl))
  · exact hD.all.keep (fun o hq => ho o (own o (aown o hq)) (Ne.symm ((S.av o hq).2.2.2 f hf)) (hD.ab f hf o hq))
  · exact hD.waits.keep (fun o hq => ho o (own o (wown o hq)) (Ne.symm ((S.wv o hq).2.2.2 f hf)) (hD.wb f hf o hq))
  · intro g hg
    by_cases e : g = f
    · subst e
      show h'.get g = some (.cells [if g = g then bv' else y.bv g, .int .i64 ((if g = g then x else σ.file g).sure : Nat)])
      rw [if_pos rfl, if_pos rfl]
      exact hc
    · show h'.get g = some (.cells [if g = f then bv' else y.bv g, .int .i64 ((if g = f then x else σ.file g).sure : Nat)])
      rw [if_neg e, if_neg e, ho g (own g (fown g hg)) e (fun e2 => (S.bv f hf g e2).2.2.2 g hg rfl)]
      exact hD.cell g hg
  · intro g hg
    by_cases e : g = f
    · subst e
      show PreC h' (if g = g then bv' else y.bv g) ((if g = g then x else σ.file g).b)
      rw [if_pos rfl, if_pos rfl]
      exact hb
    · show PreC h' (if g = f then bv' else y.bv g) ((if g = f then x else σ.file g).b)
      rw [if_neg e, if_neg e]
      exact (hD.bytes g hg).keep (fun o hq => ho o (own o (bown g hg o hq)) (Ne.symm ((S.bv g hg o hq).2.2.2 f hf)) (hD.bb g hg f hf e o hq))
  · intro g hg g' hg' hne o h1 h2
    rcases bvi g o h1 with a | ⟨a, a'⟩ <;> rcases bvi g' o h2 with b | ⟨b, b'⟩
    · exact hD.bb g hg g' hg' hne o a b
    · have := own o (bown g hg o a); omega
    · have := own o (bown g' hg' o b); omega
    · exact hne (a.trans b.symm)
  · intro g hg o h1 h2
    rcases bvi g o h2 with a | ⟨a, a'⟩
    · exact hD.ab g hg o h1 a
    · have := own o (aown o h1); omega
  · intro g hg o h1 h2
    rcases bvi g o h2 with a | ⟨a, a'⟩
    · exact hD.wb g hg o h1 a
    · have := own o (wown o h1); omega
  · intro o h1
    have ho' : o = d ∨ o = y.m ∨ o = y.m2 ∨ rowOf y.av = some o ∨ rowOf y.wv = some o ∨ ∃ g ∈ σ.all, o = g ∨ rowOf (if g = f then bv' else y.bv g) = some o := h1
    have lt : o < h.next → o < h'.next := fun h => by omega
    rcases ho' with h1 | h1 | h1 | h1 | h1 | ⟨g, hg, h1 | h1⟩
    · exact lt (own o (Or.inl h1))
    · exact lt (own o (Or.inr (Or.inl h1)))
    · exact lt (own o (Or.inr (Or.inr (Or.inl h1))))
    · exact lt (own o (aown o h1))
    · exact lt (own o (wown o h1))
    · exact lt (own o (by rw [h1]; exact fown g hg))
    · by_cases e : g = f
      · rw [if_pos e] at h1; exact hlt o h1
      · rw [if_neg e] at h1; exact lt (own o (bown g hg o h1))
  · intro o h1
    have ho' : o = d ∨ o = y.m ∨ o = y.m2 ∨ rowOf y.av = some o ∨ rowOf y.wv = some o ∨ ∃ g ∈ σ.all, o = g ∨ rowOf (if g = f then bv' else y.bv g) = some o := h1
    rcases ho' with h1 | h1 | h1 | h1 | h1 | ⟨g, hg, h1 | h1⟩
    · exact Or.inl (Or.inl h1)
    · exact Or.inl (Or.inr (Or.inl h1))
    · exact Or.inl (Or.inr (Or.inr (Or.inl h1)))
    · exact Or.inl (aown o h1)
    · exact Or.inl (wown o h1)
    · exact Or.inl (by rw [h1]; exact fown g hg)
    · rcases bvi g o h1 with a | ⟨a, a'⟩
      · exact Or.inl (bown g hg o a)
      · exact Or.inr a'
theorem openS_some {σ : DSt} {s : List UInt8} (h : (openS σ s).2.1 = 0) : ∃ f, (openS σ s).1 = some f ∧ nget s σ.names = some f := by
  unfold openS at h ⊢
  split
  · rename_i c
    rw [if_pos c] at h
    exact absurd h c
  · rename_i c
    rw [if_neg c] at h
    rw [(beginS_all σ).2.1] at h ⊢
    cases hg : nget s σ.names with
    | none => rw [hg] at h; simp at h
    | some f => exact ⟨f, rfl, rfl⟩
theorem begin_dead {σ : DSt} (h : (beginS σ).1 = 0) : (beginS σ).2.dead = false := by
  unfold beginS at h ⊢
  split at h
  · simp at h
  · rename_i c
    rw [if_neg c]
    have c' : σ.dead = false := by simpa using c
    split at h
    · simp at h
    · rename_i c2
      rw [if_neg c2]
      split <;> exact c'
theorem open_begin {σ : DSt} {s : List UInt8} (h : (openS σ s).2.1 = 0) : (beginS σ).1 = 0 := by
  unfold openS at h
  split at h
  · rename_i c; exact absurd h c
  · rename_i c; simpa using c
def appendS (σ : DSt) (s b : List UInt8) : Int × DSt :=
  if (openS σ s).2.1 ≠ 0 then ((openS σ s).2.1, (beginS σ).2)
  else match (openS σ s).1 with
    | none => (0, (beginS σ).2)
    | some f => if σ.cap - usedS σ < b.length then (8, (beginS σ).2) else (0, setF (beginS σ).2 f ⟨(σ.file f).b ++ b, (σ.file f).sure⟩)
theorem appendD_fun (hP : DkQ P) (s b : List UInt8) (n full : Bool) (h : Heap) (d : Nat) (σ : DSt) (y : Lay) (hD : DiskAt h d σ y) (h1 : 0 ≤ σ.calls) (h2 : σ.calls < 9000000000000000000) (hu : usedS σ ≤ 1000000000000) (hc : 0 ≤ σ.cap ∧ σ.cap ≤ 1048576) (hb : b.length ≤ 1000000000) (hfl : ∀ f ∈ σ.all, (σ.file f).b.length ≤ 1000000000000) :
    Fun P 11 [.ptr d 0, strv s, slv n full b] h (fun v h' => v = .int .i64 (appendS σ s b).1 ∧ ∃ y', Step h h' d σ y (appendS σ s b).2 y') := by
  have hB := beginS_all σ
  have hO := openS_all σ s
  refine Fun.of (code := a11c) (hP.code rfl) (by rw [hP.pure]; rfl) ?_
  simp (disch := omega) only [go_sem, a11c, a11r0, a11r1]
  refine WO.fun (vs := [.ptr d 0, strv s]) (by simp (disch := omega) only [go_sem]) (openD_step hP.toDkP s h d σ y hD h1 h2) (fun v hA hv => ?_)
  obtain ⟨rfl, sA⟩ := hv
  rw [hO] at sA
  simp (disch := omega) only [go_sem]
  unfold appendS
  simp (disch := omega) only [go_sem, a11r2]
  refine condS_if (fun c => ?_) (fun c => ?_)
  · rw [if_pos c]
    simp (disch := omega) only [go_sem, a11r3]
    exact ⟨trivial, y, sA⟩
  · rw [if_neg c]
    obtain ⟨f, hf1, hf2⟩ := openS_some (by simpa using c)
    have hdead := begin_dead (open_begin (by simpa using c))
    rw [hf1]
    have dA := sA.at'
    have hd := dA.disk
    simp only [DSt.cells] at hd
    have hus : usedS (beginS σ).2 = usedS σ := by unfold usedS; rw [hB.2.1, hB.2.2.2.2.1]
    have hcap : (beginS σ).2.cap = σ.cap := hB.2.2.2.2.2
    rw [hcap] at hd
    simp (disch := omega) only [go_sem, a11d4, hd, fcell_some]
    refine WD_fun (vs := [.ptr d 0]) (by simp (disch := omega) only [go_sem]) (usedD_fun hP dA hdead (by rw [hus]; omega)) (fun v hB' hv => ?_) (fun v hB' hv => ?_)
    · obtain ⟨rfl, hx⟩ := hv
      have hd' : hB'.get d = _ := (hx.2 d (dA.lt d (Or.inl rfl))).trans hd
      simp (disch := omega) only [go_sem, looks, look, sees, wantedA, List.getElem?_cons_succ, List.getElem?_cons_zero, hd', eqAV, eqK, eqI_eq, cond_true, Bool.and_self, beq_self_eq_true]
    · obtain ⟨rfl, hx⟩ := hv
      rw [hus]
      simp (disch := omega) only [go_sem]
      refine condS_if (fun c2 => ?_) (fun c2 => ?_)
      · simp only [if_pos c2]
        simp (disch := omega) only [go_sem, a11r5]
        exact ⟨trivial, y, sA.trans (Step.ext dA hx)⟩
      · simp only [if_neg c2]
        have dB := (Step.ext dA hx).at'
        have hfa : f ∈ (beginS σ).2.all := by rw [hB.1]; exact hD.ok.names (s, f) (nget_mem hf2)
        have hcf := dB.cell f hfa
        have hbf := dB.bytes f hfa
        rw [hB.2.2.2.2.1] at hcf hbf
        have own : ∀ q, Own d (beginS σ).2 y q → q < hB'.next := dB.lt
        have SB := dB.sep
        have bown : ∀ o, rowOf (y.bv f) = some o → o < hB'.next := fun o ho => own o (Or.inr (Or.inr (Or.inr (Or.inr (Or.inr ⟨f, hfa, Or.inr ho⟩)))))
        have flt : f < hB'.next := own f (Or.inr (Or.inr (Or.inr (Or.inr (Or.inr ⟨f, hfa, Or.inl rfl⟩)))))
        have hbe := hbf.ev
        have hbd := hbf.dt
        simp (disch := omega) only [go_sem, a11r6, hcf, hbe, hbd]
        have hfl' := hfl f (by rw [← hB.1]; exact hfa)
        refine stepP_app (α := UInt8) (bytes := 1) (l := (σ.file f).b) (new := b) (hbf.keep (fun o ho => rfl)) (adds_slv _ _ _ _) rfl (by simp [two47]; omega) (fun v' h3 hr3 hn3 ho3 hf3 hnn => ?_)
        have hn3' : h3.next = hB'.next + 1 := hn3
        have hro : ∀ o, rowOf v' = some o → rowOf (y.bv f) = some o ∨ o = hB'.next := fun o ho => by
          rcases ho3 with e | e
          · exact Or.inl (by rw [← e]; exact ho)
          · rw [e] at ho; exact Or.inr (Option.some.inj ho).symm
        have hve := hr3.ev
        have hvd := hr3.dt
        have hcl : v'.cellsOf = [v'] := by rcases hr3 with ⟨rfl, -⟩ | ⟨o, ep, j, rfl, -⟩ <;> rfl
        have g3 : h3.get f = some (.cells [y.bv f, .int .i64 (σ.file f).sure]) := by
          rw [hf3 f (by show f ≠ hB'.next + 0; omega) (fun e => (SB.bv f hfa f e).2.2.2 f hfa rfl)]; exact hcf
        simp (disch := omega) only [go_sem, hve, hvd, hcl, g3, List.length_cons, List.length_nil]
        simp (disch := omega) only [go_sem, a11r7]
        have sF : Step hB' (h3.put f (.cells [v', .int .i64 (σ.file f).sure])) d (beginS σ).2 y (setF (beginS σ).2 f ⟨(σ.file f).b ++ b, (σ.file f).sure⟩) { y with bv := fun g => if g = f then v' else y.bv g } := by
          refine dB.fput hfa (get_put_same _ _ _) (hr3.keep (fun o ho => get_put_ne _ _ _ _ ?_)) (fun o ho => ?_) (fun o ho => ?_) (fun o h5 h6 h7 => ?_) ?_
          · rcases hro o ho with e | e
            · exact Ne.symm ((SB.bv f hfa o e).2.2.2 f hfa)
            · omega
          · rcases hro o ho with e | e
            · exact Or.inl e
            · exact Or.inr (by omega)
          · show o < h3.next
            rcases hro o ho with e | e
            · have := bown o e; omega
            · omega
          · rw [get_put_ne _ _ _ _ h6, hf3 o (by show o ≠ hB'.next + 0; omega) h7]; rfl
          · show hB'.next ≤ h3.next
            omega
        exact ⟨trivial, _, (sA.trans (Step.ext dA hx)).trans sF⟩
def syncS (σ : DSt) (s : List UInt8) : Int × DSt :=
  if (openS σ s).2.1 ≠ 0 then ((openS σ s).2.1, (beginS σ).2)
  else match (openS σ s).1 with
    | none => (0, (beginS σ).2)
    | some f => (0, setF (beginS σ).2 f ⟨(σ.file f).b, (σ.file f).b.length⟩)
theorem syncD_fun (hP : DkP P) (s : List UInt8) (h : Heap) (d : Nat) (σ : DSt) (y : Lay) (hD : DiskAt h d σ y) (h1 : 0 ≤ σ.calls) (h2 : σ.calls < 9000000000000000000) :
    Fun P 17 [.ptr d 0, strv s] h (fun v h' => v = .int .i64 (syncS σ s).1 ∧ ∃ y', Step h h' d σ y (syncS σ s).2 y') := by
  have hB := beginS_all σ
  have hO := openS_all σ s
  refine Fun.of (code := a17c) (hP.code rfl) (by rw [hP.pure]; rfl) ?_
  simp (disch := omega) only [go_sem, a17c, a17r0, a17r1]
  refine WO.fun (vs := [.ptr d 0, strv s]) (by simp (disch := omega) only [go_sem]) (openD_step hP s h d σ y hD h1 h2) (fun v hA hv => ?_)
  obtain ⟨rfl, sA⟩ := hv
  rw [hO] at sA
  simp (disch := omega) only [go_sem]
  unfold syncS
  simp (disch := omega) only [go_sem, a17r2]
  refine condS_if (fun c => ?_) (fun c => ?_)
  · rw [if_neg (by simpa using c)]
    obtain ⟨f, hf1, hf2⟩ := openS_some c
    rw [hf1]
    have dA := sA.at'
    have hfa : f ∈ (beginS σ).2.all := by rw [hB.1]; exact hD.ok.names (s, f) (nget_mem hf2)
    have hcf := dA.cell f hfa
    have hbf := dA.bytes f hfa
    rw [hB.2.2.2.2.1] at hcf hbf
    have hbe := hbf.ev
    have hbt := hbf.tag
    have hbl := hbf.len
    have own : ∀ q, Own d (beginS σ).2 y q → q < hA.next := dA.lt
    have SA := dA.sep
    simp (disch := omega) only [go_sem, a17r3, fcell_some, hcf, hbe, hbt, hbl, cond_true]
    simp (disch := omega) only [go_sem, a17r4]
    rw [c]
    have sF : Step hA (hA.put f (.cells [y.bv f, .int .i64 ((σ.file f).b.length : Nat)])) d (beginS σ).2 y (setF (beginS σ).2 f ⟨(σ.file f).b, (σ.file f).b.length⟩) { y with bv := fun g => if g = f then y.bv f else y.bv g } :=
      dA.fput hfa (get_put_same _ _ _) (hbf.keep (fun o ho => get_put_ne _ _ _ _ (Ne.symm ((SA.bv f hfa o ho).2.2.2 f hfa)))) (fun o ho => Or.inl ho) (fun o ho => own o (Or.inr (Or.inr (Or.inr (Or.inr (Or.inr ⟨f, hfa, Or.inr ho⟩)))))) (fun o _ h6 _ => get_put_ne _ _ _ _ h6) (Nat.le_refl _)
    exact ⟨rfl, _, sA.trans sF⟩
  · rw [if_pos c]
    simp (disch := omega) only [go_sem, a17r4]
    exact ⟨trivial, y, sA⟩
def renameS (σ : DSt) (s t : List UInt8) : Int × DSt :=
  if (openS σ s).2.1 ≠ 0 then ((openS σ s).2.1, (beginS σ).2)
  else if nameL t = false then (1, (beginS σ).2)
  else (0, turnsS (beginS σ).2 ⟨s, t, none⟩)
theorem renameD_fun (hP : DkP P) (s t : List UInt8) (h : Heap) (d : Nat) (σ : DSt) (y : Lay) (hD : DiskAt h d σ y) (h1 : 0 ≤ σ.calls) (h2 : σ.calls < 9000000000000000000) (hl : t.length ≤ 9223372036854775807) (hw : σ.waits.length ≤ 1000000000) :
    Fun P 31 [.ptr d 0, strv s, strv t] h (fun v h' => v = .int .i64 (renameS σ s t).1 ∧ ∃ y', Step h h' d σ y (renameS σ s t).2 y') := by
  have hB := beginS_all σ
  have hO := openS_all σ s
  refine Fun.of (code := a31c) (hP.code rfl) (by rw [hP.pure]; rfl) ?_
  simp (disch := omega) only [go_sem, a31c, a31r0, a31r1]
  refine WO.fun (vs := [.ptr d 0, strv s]) (by simp (disch := omega) only [go_sem]) (openD_step hP s h d σ y hD h1 h2) (fun v hA hv => ?_)
  obtain ⟨rfl, sA⟩ := hv
  rw [hO] at sA
  simp (disch := omega) only [go_sem]
  unfold renameS
  simp (disch := omega) only [go_sem, a31r2]
  refine condS_if (fun c => ?_) (fun c => ?_)
  · rw [if_pos c]
    simp (disch := omega) only [go_sem, a31r3]
    exact ⟨trivial, y, sA⟩
  · rw [if_neg c]
    simp (disch := omega) only [go_sem, a31r4]
    refine WO.fun (vs := [strv t]) (by simp (disch := omega) only [go_sem]) (name_funD hP t hA hl) (fun v hB' hv => ?_)
    obtain ⟨rfl, hxB⟩ := hv
    have sB := sA.trans (Step.ext sA.at' hxB)
    simp (disch := omega) only [go_sem]
    cases hN : nameL t with
    | false =>
      simp (disch := omega) only [go_sem, a31r5]
      exact ⟨by trivial, y, sB⟩
    | true =>
      simp (disch := omega) only [go_sem, a31r6]
      refine WO.fun (vs := [.ptr d 0, .agg [strv s, strv t, fcell none]]) (by simp (disch := omega) only [go_sem]) (turnsD_step hP ⟨s, t, none⟩ _ d _ _ sB.at' (fun f hf => by cases hf) (by rw [hB.2.2.2.1]; exact hw)) (fun v h5 hv => ?_)
      obtain ⟨rfl, y5, s5⟩ := hv
      simp (disch := omega) only [go_sem]
      exact ⟨by trivial, y5, sB.trans s5⟩
def removeS (σ : DSt) (s : List UInt8) : Int × DSt :=
  if (openS σ s).2.1 ≠ 0 then ((openS σ s).2.1, (beginS σ).2)
  else (0, turnsS (beginS σ).2 ⟨s, [], none⟩)
theorem removeD_fun (hP : DkP P) (s : List UInt8) (h : Heap) (d : Nat) (σ : DSt) (y : Lay) (hD : DiskAt h d σ y) (h1 : 0 ≤ σ.calls) (h2 : σ.calls < 9000000000000000000) (hw : σ.waits.length ≤ 1000000000) :
    Fun P 32 [.ptr d 0, strv s] h (fun v h' => v = .int .i64 (removeS σ s).1 ∧ ∃ y', Step h h' d σ y (removeS σ s).2 y') := by
  have hB := beginS_all σ
  have hO := openS_all σ s
  refine Fun.of (code := a32c) (hP.code rfl) (by rw [hP.pure]; rfl) ?_
  simp (disch := omega) only [go_sem, a32c, a32r0, a32r1]
  refine WO.fun (vs := [.ptr d 0, strv s]) (by simp (disch := omega) only [go_sem]) (openD_step hP s h d σ y hD h1 h2) (fun v hA hv => ?_)
  obtain ⟨rfl, sA⟩ := hv
  rw [hO] at sA
  simp (disch := omega) only [go_sem]
  unfold removeS
  simp (disch := omega) only [go_sem, a32r2]
  refine condS_if (fun c => ?_) (fun c => ?_)
  · rw [if_pos c]
    simp (disch := omega) only [go_sem, a32r3]
    exact ⟨trivial, y, sA⟩
  · rw [if_neg c]
    simp (disch := omega) only [go_sem, a32r4]
    refine WO.fun (vs := [.ptr d 0, .agg [strv s, strv [], fcell none]]) (by simp (disch := omega) only [go_sem]) (turnsD_step hP ⟨s, [], none⟩ _ d _ _ sA.at' (fun f hf => by cases hf) (by rw [hB.2.2.2.1]; exact hw)) (fun v h5 hv => ?_)
    obtain ⟨rfl, y5, s5⟩ := hv
    simp (disch := omega) only [go_sem]
    exact ⟨trivial, y5, sA.trans s5⟩
end Go.Am.Dk

/- The disk's functions: SyncDir, Read, Fuse. -/
import Derived.Test.YtijfdjjbodalaaaDkDiskD
set_option linter.unusedSimpArgs false
set_option linter.unusedVariables false
namespace Go.Am.Dk
open Go.Am
attribute [local go_sem] ne_eq not_true_eq_false not_false_eq_true Nat.reduceEqDiff Nat.reduceAdd Nat.reduceLeDiff Int.toNat_natCast Int.reduceToNat and_self Bool.not_true Bool.not_false Bool.false_and Bool.and_false Bool.true_and Bool.and_true Int.reduceEq Int.reduceLT Int.reduceLE Int.reduceAdd Int.reduceSub Int.reduceNeg decide_true decide_false Option.bind_some Bool.or_true Bool.or_false Bool.true_or Bool.false_or
attribute [local go_sem ↓] reduceIte
set_option maxRecDepth 20000
set_option maxHeartbeats 1000000
variable {P : Prog}
theorem mclone_funP (hP : DkP P) (h : Heap) (m : Nat) (es : List (AV × AV)) (bs : List Nat) (ck : Nat) (hm : h.get m = some (.map es bs ck)) : Fun P 36 [.mp m] h (fun v h' => v = .mp h.next ∧ h' = (h.reserve 1).put h.next (.map es bs ck)) := by
  refine Fun.prim (v := .mp h.next) (h' := (h.reserve 1).put h.next (.map es bs ck)) (by rw [hP.fn 36 (by decide) (by decide) (by decide) (by decide)]; rfl) (by rw [hP.pure]; rfl) (hP.clone _ _ _ ?_) ⟨rfl, rfl⟩
  have b2 : Nat.beq 36 61 = false := rfl
  have b3 : Nat.beq 36 63 = false := rfl
  have b4 : Nat.beq 36 36 = true := rfl
  simp only [prim0, orP, loadOn, addOn, cloneOn, b2, b3, b4, cond_false, cond_true, hm]
def syncDirS (σ : DSt) : Int × DSt :=
  if (beginS σ).1 ≠ 0 then beginS σ
  else (0, { (beginS σ).2 with sure := σ.names, waits := [] })
theorem DiskAt.sdir {h h' : Heap} {d k : Nat} {σ : DSt} {y : Lay} (hD : DiskAt h d σ y) (hk : h.next ≤ k) (hk' : k < h'.next) (hd : h'.get d = some (.cells ({ σ with sure := σ.names, waits := [] }.cells { y with m2 := k, wv := .nils }))) (hm : MapAt h' k σ.names)
    (ho : ∀ o, o < h.next → o ≠ d → h'.get o = h.get o) : Step h h' d σ y { σ with sure := σ.names, waits := [] } { y with m2 := k, wv := .nils } := by
  have S := hD.sep
  have own : ∀ q, Own d σ y q → q < h.next := hD.lt
  have fown : ∀ f ∈ σ.all, Own d σ y f := fun f hf => Or.inr (Or.inr (Or.inr (Or.inr (Or.inr ⟨f, hf, Or.inl rfl⟩))))
  have bown : ∀ f ∈ σ.all, ∀ o, rowOf (y.bv f) = some o → Own d σ y o := fun f hf o ho => Or.inr (Or.inr (Or.inr (Or.inr (Or.inr ⟨f, hf, Or.inr ho⟩))))
  have aown : ∀ o, rowOf y.av = some o → Own d σ y o := fun o ho => Or.inr (Or.inr (Or.inr (Or.inl ho)))
  have cases' : ∀ o, Own d { σ with sure := σ.names, waits := [] } { y with m2 := k, wv := .nils } o → Own d σ y o ∨ o = k := fun o h1 => by
    have ho' : o = d ∨ o = y.m ∨ o = k ∨ rowOf y.av = some o ∨ rowOf AV.nils = some o ∨ ∃ g ∈ σ.all, o = g ∨ rowOf (y.bv g) = some o := h1
    rcases ho' with h1 | h1 | h1 | h1 | h1 | h1
    · exact Or.inl (Or.inl h1)
    · exact Or.inl (Or.inr (Or.inl h1))
    · exact Or.inr h1
    · exact Or.inl (aown o h1)
    · cases h1
    · exact Or.inl (Or.inr (Or.inr (Or.inr (Or.inr (Or.inr h1)))))
  refine ⟨{ ok := ⟨hD.ok.names, hD.ok.names, fun t ht => by simp at ht, hD.ok.nd, hD.ok.nd, hD.ok.ad⟩, disk := hd, names := ?_, sure := hm, all := ?_, waits := Or.inl ⟨rfl, rfl⟩, cell := ?_, bytes := ?_, mm := ?_, bb := hD.bb, ab := hD.ab, wb := fun f hf o h1 => (by cases h1), aw := fun o _ h1 => (by cases h1), lt := ?_ }, ⟨by omega, fun o h1 h2 => ho o h1 (fun e => h2 (Or.inl e))⟩, ?_⟩
  · exact hD.names.of_get (ho _ (own _ (Or.inr (Or.inl rfl))) S.dm)
  · exact hD.all.keep (fun o hq => ho o (own o (aown o hq)) (S.av o hq).1)
  · intro f hf
    show h'.get f = _
    rw [ho f (own f (fown f hf)) (S.df f hf)]
    exact hD.cell f hf
  · intro f hf
    exact (hD.bytes f hf).keep (fun o hq => ho o (own o (bown f hf o hq)) (S.bv f hf o hq).1)
  · show y.m ≠ k
    have := own y.m (Or.inr (Or.inl rfl))
    omega
  · intro o h1
    rcases cases' o h1 with h1 | h1
    · have := own o h1; omega
    · omega
  · intro o h1
    rcases cases' o h1 with h1 | h1
    · exact Or.inl h1
    · exact Or.inr (by omega)
theorem syncDirD_fun (hP : DkP P) (h : Heap) (d : Nat) (σ : DSt) (y : Lay) (hD : DiskAt h d σ y) (h1 : 0 ≤ σ.calls) (h2 : σ.calls < 9000000000000000000) :
    Fun P 18 [.ptr d 0] h (fun v h' => v = .int .i64 (syncDirS σ).1 ∧ ∃ y', Step h h' d σ y (syncDirS σ).2 y') := by
  have hB := beginS_all σ
  refine Fun.of (code := a18c) (hP.code rfl) (by rw [hP.pure]; rfl) ?_
  simp (disch := omega) only [go_sem, a18c, a18r0, a18r1]
  refine WO.fun (vs := [.ptr d 0]) (by simp (disch := omega) only [go_sem]) (beginD_step hP h d σ y hD h1 h2) (fun v hA hv => ?_)
  obtain ⟨rfl, sA⟩ := hv
  unfold syncDirS
  simp (disch := omega) only [go_sem, a18r2]
  refine condS_if (fun c => ?_) (fun c => ?_)
  · rw [if_neg (by simpa using c)]
    have dA := sA.at'
    have hd := dA.disk
    simp only [DSt.cells] at hd
    obtain ⟨bs, ck, hm, hs⟩ := dA.names
    have own : ∀ q, Own d (beginS σ).2 y q → q < hA.next := dA.lt
    have dlt := own d (Or.inl rfl)
    have dne : d ≠ hA.next := by omega
    simp (disch := omega) only [go_sem, a18r3, hd]
    refine WO.fun (vs := [.mp y.m]) (by simp (disch := omega) only [go_sem]) (mclone_funP hP hA y.m _ _ _ hm) (fun v hB' hv => ?_)
    obtain ⟨rfl, rfl⟩ := hv
    simp (disch := omega) only [go_sem, get_put_ne, get_put_same, dne, hd]
    simp (disch := omega) only [go_sem, a18r4]
    rw [c]
    refine ⟨rfl, { y with m2 := hA.next, wv := .nils }, sA.trans ?_⟩
    have e0 : ({ (beginS σ).2 with sure := σ.names, waits := [] } : DSt) = { (beginS σ).2 with sure := (beginS σ).2.names, waits := [] } := by rw [hB.2.1]
    rw [e0]
    refine dA.sdir (k := hA.next) (Nat.le_refl _) (by show hA.next < hA.next + 1; omega) (get_put_same _ _ _) ?_ (fun o h5 h6 => ?_)
    · exact ⟨bs, ck, by rw [get_put_ne _ _ _ _ (Ne.symm dne), get_put_ne _ _ _ _ (Ne.symm dne), get_put_same], hs⟩
    · rw [get_put_ne _ _ _ _ h6, get_put_ne _ _ _ _ h6, get_put_ne _ _ _ _ (by omega)]; rfl
  · rw [if_pos c]
    simp (disch := omega) only [go_sem, a18r4]
    exact ⟨trivial, y, sA⟩
theorem cloneP_fun (hP : DkP P) (v : AV) (l : List UInt8) (h : Heap) (hl : l.length ≤ 1000000000000) (hv : PreC h v l) (hlt : ∀ o, rowOf v = some o → o < h.next) :
    Fun P 35 [v] h (fun v' h' => (∃ nl, v' = .nils ∧ l = [] ∧ nl = true ∨ NewRow h h' v' l) ∧ Ext h h') := by
  have hev := hv.ev
  have hdv := hv.dt
  rcases id hv with ⟨rfl, rfl⟩ | ⟨o, ep, j, rfl, hg⟩
  · refine Fun.of (code := a35c) (hP.code rfl) (by rw [hP.pure]; rfl) ?_
    simp (disch := omega) only [go_sem, a35c, a35r0, a35r1]
    simp (disch := omega) only [go_sem, a35r2]
    exact ⟨⟨true, Or.inl (by simp)⟩, Ext.refl h⟩
  · obtain ⟨n, w, h', e, q1, q2⟩ := clone_fun (P := P) (hP.code rfl) (by rw [hP.pure]; rfl) (.hs (Cel.csz UInt8) o ep 0 l.length false) l h hl (fun h' hx => addsC_pre (hv.keep (fun q hq => hx.2 q (hlt q hq)))) rfl hev hdv
    exact ⟨n, w, h', e, ⟨true, Or.inr q1⟩, q2⟩
def readS (σ : DSt) (s : List UInt8) : Option (List UInt8) × Int :=
  if σ.dead then (none, 9) else match nget s σ.names with
    | none => (none, 6)
    | some f => (some (σ.file f).b, 0)
def Bts (h h' : Heap) (v : AV) : Option (List UInt8) → Prop
  | none => v = .nils
  | some l => (v = .nils ∧ l = []) ∨ NewRow h h' v l
theorem readD_fun (hP : DkP P) (s : List UInt8) (h : Heap) (d : Nat) (σ : DSt) (y : Lay) (hD : DiskAt h d σ y) (hfl : ∀ f ∈ σ.all, (σ.file f).b.length ≤ 1000000000000) :
    Fun P 13 [.ptr d 0, strv s] h (fun v h' => ∃ w, v = .tup [w, .int .i64 (readS σ s).2] ∧ Bts h h' w (readS σ s).1 ∧ Ext h h') := by
  have hd := hD.disk
  simp only [DSt.cells] at hd
  have hl := hD.names.look
  refine Fun.of (code := a13c) (hP.code rfl) (by rw [hP.pure]; rfl) ?_
  unfold readS
  simp (disch := omega) only [go_sem, a13c, a13r0, a13r1]
  simp (disch := omega) only [go_sem, a13r3, hd]
  refine condS_split (fun c => ?_) (fun c => ?_)
  · rw [if_pos c]
    simp (disch := omega) only [go_sem, a13r4]
    exact ⟨_, rfl, rfl, Ext.refl h⟩
  · rw [if_neg (by simp [c])]
    simp (disch := omega) only [go_sem, a13r5, hd, hl]
    cases hg : nget s σ.names with
    | none =>
      simp (disch := omega) only [go_sem, Option.isNone_none, a13r6]
      exact ⟨_, rfl, rfl, Ext.refl h⟩
    | some f =>
      have hfa := hD.ok.names (s, f) (nget_mem hg)
      have hcf := hD.cell f hfa
      have hbf := hD.bytes f hfa
      have hbe := hbf.ev
      have hbd := hbf.dt
      simp (disch := omega) only [go_sem, Option.isNone_some, a13r7, hd, hl, hg, fcell_some, hcf, hbe]
      refine WO.fun (vs := [y.bv f]) (by simp (disch := omega) only [go_sem, hbe, hbd]) (cloneP_fun hP (y.bv f) (σ.file f).b h (hfl f hfa) hbf (fun o ho => hD.lt o (Or.inr (Or.inr (Or.inr (Or.inr (Or.inr ⟨f, hfa, Or.inr ho⟩))))))) (fun v h' hv => ?_)
      obtain ⟨⟨_, hv⟩, hx⟩ := hv
      have hve : ∀ i, evS i (some v) = some v := fun i => by rcases hv with ⟨rfl, -⟩ | ⟨o, ep, rfl, -⟩ <;> rfl
      have hvd : datW (some v) = some v := by rcases hv with ⟨rfl, -⟩ | ⟨o, ep, rfl, -⟩ <;> rfl
      simp (disch := omega) only [go_sem, hve, hvd]
      refine ⟨v, rfl, ?_, hx⟩
      rcases hv with ⟨e1, e2, -⟩ | e
      · exact Or.inl ⟨e1, e2⟩
      · exact Or.inr e
theorem deadD_fun (hP : DkP P) (h : Heap) (d : Nat) (σ : DSt) (y : Lay) (hD : DiskAt h d σ y) : Fun P 23 [.ptr d 0] h (fun v h' => v = .bool σ.dead ∧ h' = h) := by
  have hd := hD.disk
  simp only [DSt.cells] at hd
  refine Fun.of (code := a23c) (hP.code rfl) (by rw [hP.pure]; rfl) ?_
  simp (disch := omega) only [go_sem, a23c, a23r0, a23r1, hd]
theorem load_funP (hP : DkP P) (h : Heap) (d : Nat) (n : Int) (c0 c1 c2 c3 c4 c5 : AV) (r : List AV) (hd : h.get d = some (.cells (c0 :: c1 :: c2 :: c3 :: c4 :: c5 :: .int .i64 n :: r))) :
    Fun P 61 [.ptr d 6] h (fun v h' => v = .int .i64 n ∧ h' = h) := by
  refine Fun.prim (v := .int .i64 n) (h' := h) (by rw [hP.fn 61 (by decide) (by decide) (by decide) (by decide)]; rfl) (by rw [hP.pure]; rfl) (hP.load _ _ _ ?_) ⟨rfl, rfl⟩
  have b2 : Nat.beq 61 61 = true := rfl
  have b4 : intOf (c0 :: c1 :: c2 :: c3 :: c4 :: c5 :: AV.int IntKind.i64 n :: r)[6]? = some n := rfl
  simp only [prim0, orP, loadOn, b2, cond_true, atCell, b4, hd, Option.bind_some]
def aheadS (σ : DSt) (n : Int) : Int := if n < 1 ∨ 1099511627776 < n then 0 else σ.calls + n
theorem aheadD_fun (hP : DkP P) (n : Int) (h : Heap) (d : Nat) (σ : DSt) (y : Lay) (hD : DiskAt h d σ y) (h1 : 0 ≤ σ.calls) (h2 : σ.calls < 8000000000000000000) : Fun P 49 [.ptr d 0, .int .i64 n] h (fun v h' => v = .int .i64 (aheadS σ n) ∧ h' = h) := by
  have hd := hD.disk
  simp only [DSt.cells] at hd
  refine Fun.of (code := a49c) (hP.code rfl) (by rw [hP.pure]; rfl) ?_
  unfold aheadS
  simp (disch := omega) only [go_sem, a49c, a49r0, a49r1]
  refine guardS_pf (fun c w => ?_) (fun c w => ?_) <;> simp (disch := omega) only [go_sem, w]
  · refine condS_if (fun c2 => ?_) (fun c2 => ?_)
    · simp (disch := omega) only [go_sem, a49r2]
      rw [if_pos (Or.inr c2)]
      exact ⟨rfl, trivial⟩
    · simp (disch := omega) only [go_sem, a49r3]
      refine WO.fun (vs := [.ptr d 6]) (by simp (disch := omega) only [go_sem]) (load_funP hP h d σ.calls _ _ _ _ _ _ _ hd) (fun v h' hv => ?_)
      obtain ⟨rfl, rfl⟩ := hv
      rw [if_neg (by omega)]
      simp (disch := omega) only [go_sem]
  · simp (disch := omega) only [go_sem, a49r2]
    rw [if_pos (Or.inl c)]
    exact ⟨rfl, trivial⟩
def fuseS (σ : DSt) (n : Int) : DSt := { σ with fuse := aheadS σ n }
theorem fuseD_fun (hP : DkP P) (n : Int) (h : Heap) (d : Nat) (σ : DSt) (y : Lay) (hD : DiskAt h d σ y) (h1 : 0 ≤ σ.calls) (h2 : σ.calls < 8000000000000000000) : Fun P 20 [.ptr d 0, .int .i64 n] h (fun v h' => Step h h' d σ y (fuseS σ n) y) := by
  have hd := hD.disk
  simp only [DSt.cells] at hd
  refine Fun.of (code := a20c) (hP.code rfl) (by rw [hP.pure]; rfl) ?_
  simp (disch := omega) only [go_sem, a20c, a20r0]
  simp (disch := omega) only [go_sem, a20r1]
  refine WO.fun (vs := [.ptr d 0, .int .i64 n]) (by simp (disch := omega) only [go_sem]) (aheadD_fun hP n h d σ y hD h1 h2) (fun v h' hv => ?_)
  obtain ⟨rfl, rfl⟩ := hv
  simp (disch := omega) only [go_sem, hd]
  exact Step.only (hD.turn (get_put_same _ _ _) (fun o _ ho => get_put_ne _ _ _ _ ho) (Nat.le_refl _) rfl rfl rfl rfl rfl) rfl (fun o ho => get_put_ne _ _ _ _ ho) rfl
end Go.Am.Dk

/- The disk's functions: open, turns. -/
import Derived.Test.YtijfdjjbodalaaaDkDiskA
set_option linter.unusedSimpArgs false
set_option linter.unusedVariables false
namespace Go.Am.Dk
open Go.Am
attribute [local go_sem] ne_eq not_true_eq_false not_false_eq_true Nat.reduceEqDiff Nat.reduceAdd Nat.reduceLeDiff Int.toNat_natCast Int.reduceToNat and_self Bool.not_true Bool.not_false Bool.false_and Bool.and_false Bool.true_and Bool.and_true Int.reduceEq Int.reduceLT Int.reduceLE Int.reduceAdd Int.reduceSub Int.reduceNeg decide_true decide_false Option.bind_some Bool.or_true Bool.or_false Bool.true_or Bool.false_or
attribute [local go_sem ↓] reduceIte
set_option maxRecDepth 20000
set_option maxHeartbeats 1000000
variable {P : Prog}
theorem DkP.code (hP : DkP P) {n : Nat} {a : AFn} (h : code n = some a) (h8 : n ≠ 8 := by decide) (h33 : n ≠ 33 := by decide) (h21 : n ≠ 21 := by decide) (h24 : n ≠ 24 := by decide) : P.fn n = some a := (hP.fn n h8 h33 h21 h24).trans h
def kd : Option AObj → Nat
  | some (.cells c) => 10 + c.length
  | some (.row _ _ _) => 1
  | some (.map _ _ _) => 2
  | _ => 0
theorem ne_kd {h : Heap} {a b : Nat} (hk : kd (h.get a) ≠ kd (h.get b)) : a ≠ b := fun e => hk (by rw [e])
theorem pre_kd {α : Type} [Cel α] {h : Heap} {v : AV} {l : List α} (hr : PreC h v l) {o : Nat} (ho : rowOf v = some o) : Dk.kd (h.get o) = 1 := by
  rcases hr with ⟨rfl, -⟩ | ⟨o', ep, j, rfl, hg⟩
  · cases ho
  · obtain rfl := Option.some.inj ho
    rw [hg]; rfl
theorem MapAt.kd {h : Heap} {m : Nat} {n : NMap} (hm : MapAt h m n) : Dk.kd (h.get m) = 2 := by
  obtain ⟨bs, ck, hg, -⟩ := hm
  rw [hg]; rfl
theorem DiskAt.kd {h : Heap} {d : Nat} {σ : DSt} {y : Lay} (hD : DiskAt h d σ y) : Dk.kd (h.get d) = 20 := by rw [hD.disk]; rfl
theorem DiskAt.fkd {h : Heap} {d : Nat} {σ : DSt} {y : Lay} (hD : DiskAt h d σ y) {f : Nat} (hf : f ∈ σ.all) : Dk.kd (h.get f) = 12 := by rw [hD.cell f hf]; rfl
structure Sep (d : Nat) (σ : DSt) (y : Lay) : Prop where
  dm : y.m ≠ d
  dm2 : y.m2 ≠ d
  df : ∀ f ∈ σ.all, f ≠ d
  fm : ∀ f ∈ σ.all, f ≠ y.m
  fm2 : ∀ f ∈ σ.all, f ≠ y.m2
  av : ∀ o, rowOf y.av = some o → o ≠ d ∧ o ≠ y.m ∧ o ≠ y.m2 ∧ ∀ f ∈ σ.all, f ≠ o
  wv : ∀ o, rowOf y.wv = some o → o ≠ d ∧ o ≠ y.m ∧ o ≠ y.m2 ∧ ∀ f ∈ σ.all, f ≠ o
  bv : ∀ g ∈ σ.all, ∀ o, rowOf (y.bv g) = some o → o ≠ d ∧ o ≠ y.m ∧ o ≠ y.m2 ∧ ∀ f ∈ σ.all, f ≠ o
theorem DiskAt.sep {h : Heap} {d : Nat} {σ : DSt} {y : Lay} (hD : DiskAt h d σ y) : Sep d σ y := by
  have row : ∀ {o : Nat}, Dk.kd (h.get o) = 1 → o ≠ d ∧ o ≠ y.m ∧ o ≠ y.m2 ∧ ∀ f ∈ σ.all, f ≠ o := fun hk =>
    ⟨ne_kd (by rw [hk, hD.kd]; decide), ne_kd (by rw [hk, hD.names.kd]; decide), ne_kd (by rw [hk, hD.sure.kd]; decide), fun f hf => ne_kd (by rw [hk, hD.fkd hf]; decide)⟩
  exact ⟨ne_kd (by rw [hD.kd, hD.names.kd]; decide), ne_kd (by rw [hD.kd, hD.sure.kd]; decide), fun f hf => ne_kd (by rw [hD.kd, hD.fkd hf]; decide), fun f hf => ne_kd (by rw [hD.names.kd, hD.fkd hf]; decide),
    fun f hf => ne_kd (by rw [hD.sure.kd, hD.fkd hf]; decide), fun o ho => row (pre_kd hD.all ho), fun o ho => row (pre_kd hD.waits ho), fun g hg o ho => row (pre_kd (hD.bytes g hg) ho)⟩
def Frm (h h' : Heap) (O : Nat → Prop) : Prop := h.next ≤ h'.next ∧ ∀ o, o < h.next → ¬ O o → h'.get o = h.get o
theorem Frm.refl (h : Heap) (O : Nat → Prop) : Frm h h O := ⟨Nat.le_refl _, fun _ _ _ => rfl⟩
def openS (σ : DSt) (s : List UInt8) : Option Nat × Int × DSt :=
  if (beginS σ).1 ≠ 0 then (none, (beginS σ).1, (beginS σ).2)
  else match nget s (beginS σ).2.names with
    | none => (none, 6, (beginS σ).2)
    | some f => (some f, 0, (beginS σ).2)
theorem openD_fun (hP : DkP P) (s : List UInt8) (h : Heap) (d : Nat) (σ : DSt) (y : Lay) (hD : DiskAt h d σ y) (h1 : 0 ≤ σ.calls) (h2 : σ.calls < 9000000000000000000) :
    Fun P 37 [.ptr d 0, strv s] h (fun v h' => v = .tup [fcell (openS σ s).1, .int .i64 (openS σ s).2.1] ∧ DiskAt h' d (openS σ s).2.2 y ∧ h'.next = h.next ∧ ∀ o, o ≠ d → h'.get o = h.get o) := by
  refine Fun.of (code := a37c) (hP.code rfl) (by rw [hP.pure]; rfl) ?_
  simp (disch := omega) only [go_sem, a37c, a37r0, a37r1]
  refine WO.fun (vs := [.ptr d 0]) (by simp (disch := omega) only [go_sem]) (beginD_fun hP h d σ y hD h1 h2) (fun v h' hv => ?_)
  obtain ⟨rfl, hD', e1, e2⟩ := hv
  unfold openS
  simp (disch := omega) only [go_sem, a37r2]
  refine condS_if (fun c => ?_) (fun c => ?_)
  · rw [if_pos c]
    simp (disch := omega) only [go_sem, a37r3]
    exact ⟨trivial, hD', e1, e2⟩
  · rw [if_neg c]
    have hd := hD'.disk
    simp only [DSt.cells] at hd
    have hl := hD'.names.look
    simp (disch := omega) only [go_sem, a37r4, hd, hl]
    cases hg : nget s (beginS σ).2.names with
    | none =>
      simp (disch := omega) only [go_sem, a37r5, Option.isNone_none, a37r6]
      exact ⟨trivial, hD', e1, e2⟩
    | some f =>
      simp (disch := omega) only [go_sem, a37r5, Option.isNone_some, a37r7, fcell_some]
      exact ⟨trivial, hD', e1, e2⟩
def turnsS (σ : DSt) (t : DTurn) : DSt := { σ with names := turnDo t σ.names, waits := σ.waits ++ [t] }
theorem turnDo_mem {t : DTurn} {n : NMap} {p : List UInt8 × Nat} (h : p ∈ turnDo t n) : p ∈ n ∨ t.f = some p.2 ∨ (t.f = none ∧ nget t.fr n = some p.2) := by
  unfold turnDo at h
  split at h
  · rename_i f hf
    split at h
    · exact Or.inl h
    · rcases mem_nput h with h | h
      · exact Or.inl h
      · exact Or.inr (Or.inl (by rw [h]; exact hf))
  · rename_i hf
    split at h
    · exact Or.inl (mem_ndel h)
    · rename_i f hg
      split at h
      · exact Or.inl (mem_ndel h)
      · rcases mem_nput h with h | h
        · exact Or.inl (mem_ndel h)
        · exact Or.inr (Or.inr ⟨hf, by rw [h]; exact hg⟩)
theorem nodup_turnDo {t : DTurn} {n : NMap} (h : (n.map (·.1)).Nodup) : ((turnDo t n).map (·.1)).Nodup := by
  unfold turnDo
  split
  · split
    · exact h
    · exact nodup_nput h
  · split
    · exact nodup_ndel h
    · split
      · exact nodup_ndel h
      · exact nodup_nput (nodup_ndel h)
theorem turnDo_all {t : DTurn} {n : NMap} {all : List Nat} (h : ∀ p ∈ n, p.2 ∈ all) (ht : ∀ f, t.f = some f → f ∈ all) : ∀ p ∈ turnDo t n, p.2 ∈ all := fun p hp => by
  rcases turnDo_mem hp with h1 | h1 | ⟨h1, h2⟩
  · exact h p h1
  · exact ht _ h1
  · exact h (t.fr, p.2) (nget_mem h2)
theorem turnsD_fun (hP : DkP P) (t : DTurn) (h : Heap) (d : Nat) (σ : DSt) (y : Lay) (hD : DiskAt h d σ y) (ht : ∀ f, t.f = some f → f ∈ σ.all) (hw : σ.waits.length ≤ 1000000000) :
    Fun P 39 [.ptr d 0, .agg [strv t.fr, strv t.to, fcell t.f]] h (fun v h' => v = .int .i64 0 ∧ ∃ wv, DiskAt h' d (turnsS σ t) { y with wv := wv } ∧ (∀ o, rowOf wv = some o → rowOf y.wv = some o ∨ h.next ≤ o) ∧ Frm h h' (Own d σ y)) := by
  have hd := hD.disk
  simp only [DSt.cells] at hd
  have S := hD.sep
  refine Fun.of (code := a39c) (hP.code rfl) (by rw [hP.pure]; rfl) ?_
  simp (disch := omega) only [go_sem, a39c, a39r0]
  simp (disch := omega) only [go_sem, a39d1, hd]
  refine WD_fun (vs := [.agg [strv t.fr, strv t.to, fcell t.f], .mp y.m]) (by simp (disch := omega) only [go_sem]) (do_fun hP t h y.m σ.names hD.names) (fun v h' hv => rfl) (fun v h' hv => ?_)
  obtain ⟨hm', e1, e2⟩ := hv
  have hd' : h'.get d = some (.cells [.int .i64 σ.cap, .mp y.m, .mp y.m2, y.av, y.wv, .bool σ.dead, .int .i64 σ.calls, .int .i64 σ.fuse, .int .i64 σ.fault, .int .i64 σ.e]) := (e2 d (Ne.symm S.dm)).trans hd
  have hwe := hD.waits.ev
  have hwd := hD.waits.dt
  simp (disch := omega) only [go_sem]
  simp (disch := omega) only [go_sem, a39d2, hd', hwe, hwd]
  refine dSP_app (α := DTurn) (bytes := 40) (l := σ.waits) (new := [t]) (hD.waits.keep (fun o ho => e2 o (S.wv o ho).2.1)) (addsC_one _ t _ _ rfl) rfl (by simp [two47]; omega) (fun v' h2 hr2 hn2 ho2 hf2 hnn => ?_)
  have hwe' := hr2.ev
  have hwd' := hr2.dt
  have hn2' : h2.next = h'.next + 1 := hn2
  have hlt := hD.lt
  have f2 : ∀ q, q < h.next → rowOf y.wv ≠ some q → h2.get q = h'.get q := fun q hq hw => hf2 q (by show q ≠ h'.next + 0; omega) hw
  have hd2 : h2.get d = some (.cells [.int .i64 σ.cap, .mp y.m, .mp y.m2, y.av, y.wv, .bool σ.dead, .int .i64 σ.calls, .int .i64 σ.fuse, .int .i64 σ.fault, .int .i64 σ.e]) := by
    rw [f2 d (hlt d (Or.inl rfl)) (fun e => (S.wv d e).1 rfl)]; exact hd'
  simp (disch := omega) only [go_sem, hwe', hwd', hd2]
  have hcl : v'.cellsOf = [v'] := by
    rcases hr2 with ⟨rfl, -⟩ | ⟨o, ep, j, rfl, -⟩ <;> rfl
  refine WD_storeP (val := v') (off := 4) (o := d) (by simp (disch := omega) only [go_sem, hwe', hwd']) (by simp (disch := omega) only [go_sem, hwe', hwd']) (by rw [hcl]; rfl) hd2 (by rw [hcl]; rfl) rfl ?_
  simp (disch := omega) only [go_sem, a39r3]
  have hlt' : ∀ f ∈ σ.all, f < h.next := fun f hf => hlt f (Or.inr (Or.inr (Or.inr (Or.inr (Or.inr ⟨f, hf, Or.inl rfl⟩)))))
  have hnx : h'.next = h.next := e1
  have hg2 : ∀ q, q < h.next → q ≠ y.m → rowOf y.wv ≠ some q → h2.get q = h.get q := fun q h1 h3 h4 => (f2 q h1 h4).trans (e2 q h3)
  have hro : ∀ o, rowOf v' = some o → rowOf y.wv = some o ∨ o = h.next := fun o ho => by
    rcases ho2 with e | e
    · exact Or.inl (by rw [← e]; exact ho)
    · rw [e] at ho; exact Or.inr ((Option.some.inj ho).symm.trans (by show h'.next + 0 = h.next; omega))
  have h4 : ∀ q, q ≠ d → (h2.put d (.cells [.int .i64 σ.cap, .mp y.m, .mp y.m2, y.av, v', .bool σ.dead, .int .i64 σ.calls, .int .i64 σ.fuse, .int .i64 σ.fault, .int .i64 σ.e])).get q = h2.get q := fun q hq => get_put_ne _ _ _ _ hq
  have own : ∀ q, Own d σ y q → q < h.next := hlt
  have fown : ∀ f ∈ σ.all, Own d σ y f := fun f hf => Or.inr (Or.inr (Or.inr (Or.inr (Or.inr ⟨f, hf, Or.inl rfl⟩))))
  have bown : ∀ f ∈ σ.all, ∀ o, rowOf (y.bv f) = some o → Own d σ y o := fun f hf o ho => Or.inr (Or.inr (Or.inr (Or.inr (Or.inr ⟨f, hf, Or.inr ho⟩))))
  have aown : ∀ o, rowOf y.av = some o → Own d σ y o := fun o ho => Or.inr (Or.inr (Or.inr (Or.inl ho)))
  have wown : ∀ o, rowOf y.wv = some o → Own d σ y o := fun o ho => Or.inr (Or.inr (Or.inr (Or.inr (Or.inl ho))))
  have bw : ∀ f ∈ σ.all, ∀ o, rowOf (y.bv f) = some o → rowOf v' ≠ some o := fun f hf o ho hq => by
    rcases hro o hq with e | e
    · exact hD.wb f hf o e ho
    · have := own o (bown f hf o ho); omega
  refine ⟨trivial, v', { ok := ⟨turnDo_all hD.ok.names ht, hD.ok.sure, ?_, nodup_turnDo hD.ok.nd, hD.ok.sd, hD.ok.ad⟩, disk := get_put_same _ _ _, names := ?_, sure := ?_, all := ?_, waits := ?_, cell := ?_, bytes := ?_, mm := hD.mm, bb := hD.bb, ab := hD.ab, wb := ?_, aw := ?_, lt := ?_ }, ?_, ?_, ?_⟩
  · intro t' ht' f hf
    rcases List.mem_append.1 ht' with h5 | h5
    · exact hD.ok.waits t' h5 f hf
    · rw [List.mem_singleton] at h5
      subst h5
      exact ht f hf
  · exact hm'.of_get (by rw [h4 _ S.dm, f2 _ (own _ (Or.inr (Or.inl rfl))) (fun e => (S.wv _ e).2.1 rfl)])
  · exact hD.sure.of_get (by rw [h4 _ S.dm2, hg2 _ (own _ (Or.inr (Or.inr (Or.inl rfl)))) (Ne.symm hD.mm) (fun e => (S.wv _ e).2.2.1 rfl)])
  · exact hD.all.keep (fun o ho => by rw [h4 _ (S.av o ho).1, hg2 _ (own o (aown o ho)) (S.av o ho).2.1 (fun e => hD.aw o ho e)])
  · refine hr2.keep (fun o ho => h4 o ?_)
    rcases hro o ho with e | e
    · exact (S.wv o e).1
    · have := own d (Or.inl rfl); omega
  · intro f hf
    rw [h4 _ (S.df f hf), hg2 _ (hlt' f hf) (S.fm f hf) (fun e => (S.wv _ e).2.2.2 f hf rfl)]
    exact hD.cell f hf
  · intro f hf
    exact (hD.bytes f hf).keep (fun o ho => by rw [h4 _ (S.bv f hf o ho).1, hg2 _ (own o (bown f hf o ho)) (S.bv f hf o ho).2.1 (fun e => hD.wb f hf o e ho)])
  · intro f hf o ho hq
    exact bw f hf o hq ho
  · intro o ho hq
    rcases hro o hq with e | e
    · exact hD.aw o ho e
    · have := own o (aown o ho); omega
  · intro o ho
    show o < h2.next
    have ho' : o = d ∨ o = y.m ∨ o = y.m2 ∨ rowOf y.av = some o ∨ rowOf v' = some o ∨ ∃ f ∈ σ.all, o = f ∨ rowOf (y.bv f) = some o := ho
    rcases ho' with rfl | rfl | rfl | ho | ho | ⟨f, hf, rfl | ho⟩
    · have := own o (Or.inl rfl); omega
    · have := own y.m (Or.inr (Or.inl rfl)); omega
    · have := own y.m2 (Or.inr (Or.inr (Or.inl rfl))); omega
    · have := own o (aown o ho); omega
    · rcases hro o ho with e | e
      · have := own o (wown o e); omega
      · omega
    · have := own o (fown o hf); omega
    · have := own o (bown f hf o ho); omega
  · intro o ho
    rcases hro o ho with e | e
    · exact Or.inl e
    · exact Or.inr (by omega)
  · show h.next ≤ h2.next
    omega
  · intro q hq hn
    rw [h4 q (fun e => hn (Or.inl e)), hg2 q hq (fun e => hn (Or.inr (Or.inl e))) (fun e => hn (wown q e))]
end Go.Am.Dk

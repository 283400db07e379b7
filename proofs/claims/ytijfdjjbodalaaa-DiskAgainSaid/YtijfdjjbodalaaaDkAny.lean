/- Any act, done on any disk, and on an empty one of the document. -/
import Derived.Test.YtijfdjjbodalaaaDkBnd
import Derived.Test.YtijfdjjbodalaaaDkList
set_option linter.unusedSimpArgs false
set_option linter.unusedVariables false
namespace Go.Am.Dk
open Go.Am
attribute [local go_sem] ne_eq not_true_eq_false not_false_eq_true Nat.reduceEqDiff Nat.reduceAdd Nat.reduceLeDiff Int.toNat_natCast Int.reduceToNat and_self Bool.not_true Bool.not_false Bool.false_and Bool.and_false Bool.true_and Bool.and_true Int.reduceEq Int.reduceLT Int.reduceLE Int.reduceAdd Int.reduceSub Int.reduceNeg decide_true decide_false Option.bind_some Bool.or_true Bool.or_false Bool.true_or Bool.false_or
attribute [local go_sem ↓] reduceIte
set_option maxRecDepth 20000
set_option maxHeartbeats 1000000
variable {P : Prog}
theorem do_any (hR : DkR P) (a : DAct) (ha : ActWf a) (hb : a.b.length ≤ 500) (hl : a.name.length ≤ 100 ∧ a.to.length ≤ 100) (h : Heap) (d x : Nat) (σ : DSt) (y : Lay) (hD : DiskAt h d σ y) (k : Nat) (hk2 : k ≤ 100) (hS : Bnd σ k)
    (hx : h.get x = some (.cells (refC 0))) (hlt : x < h.next) (hxo : ¬ Own d σ y x) :
    Fun P 19 [.ptr d 0, .ptr x 0, .agg (Enc.cells a)] h (fun v h' => ∃ σ' y', DiskAt h' d σ' y' ∧ Bnd σ' (k + 1)) := by
  have hP : DkQ P := hR.toDkQ
  have hO := hD.ok
  have hc := hS.calls
  have hwl := hS.wl
  have hal := hS.al
  have hus := hS.used hO hk2
  have hfl : ∀ f ∈ σ.all, (σ.file f).b.length ≤ 1000000000000 := fun f hf => by have := (hS.fl f hf).2; omega
  have mid : ∀ {h1 σ1 y1}, Step h h1 d σ y σ1 y1 → h1.get x = some (.cells (refC 0)) ∧ x < h1.next := fun hst => ⟨(hst.frm.2 x hlt hxo).trans hx, Nat.lt_of_lt_of_le hlt hst.frm.1⟩
  have fin : ∀ {h1 σ1 y1 v h2}, Step h h1 d σ y σ1 y1 → RefEnds h1 x v h2 → DiskAt h2 d σ1 y1 := fun hst hr => hst.at'.ext (fun o ho => hr.2.2 o (hst.at'.lt o ho) (fun e => by
    subst e
    rcases hst.own _ ho with h1 | h1
    · exact hxo h1
    · omega)) hr.2.1
  refine Fun.of (code := a19c) (hP.toDkP.code rfl) (by rw [hP.pure]; rfl) ?_
  rw [cells_Act]
  simp (disch := omega) only [go_sem, a19c, a19r0]
  simp (disch := omega) only [go_sem, a19r1]
  simp (disch := omega) only [go_sem, a19r2]
  refine condS_if (fun c0 => ?_) (fun c0 => ?_)
  · simp (disch := omega) only [go_sem, a19d3]
    refine WD_fun (vs := [.ptr d 0, strv a.name]) (by simp (disch := omega) only [go_sem]) (createD_fun hP.toDkP a.name h d σ y hD hc.1 (by omega) (by omega) (by omega) (by omega)) (fun v h' hv => ?_) (fun v h' hv => ?_)
    · obtain ⟨f, y1, hf, rfl, hst⟩ := hv
      simp (disch := omega) only [go_sem]
    · obtain ⟨f, y1, hf, rfl, hst⟩ := hv
      obtain ⟨hx1, hlt1⟩ := mid hst
      simp (disch := omega) only [go_sem]
      refine WD_fun (vs := [.ptr x 0, strv a.name]) (by simp (disch := omega) only [go_sem]) (createR_fun hP.toDkP a.name h' x hx1 hlt1 (by omega)) (fun v h2 hv => rfl) (fun v h2 hv => ?_)
      have hat := fin hst hv
      obtain ⟨⟨n, rfl⟩, -, -⟩ := hv
      simp (disch := omega) only [go_sem]
      exact ⟨_, _, hat, hS.create _ (by omega) _⟩
  simp (disch := omega) only [go_sem, a19r4]
  refine condS_if (fun c1 => ?_) (fun c1 => ?_)
  · simp (disch := omega) only [go_sem, a19d5]
    refine WD_fun (vs := [.ptr d 0, strv a.name, slv a.bn false a.b]) (by simp (disch := omega) only [go_sem]) (appendD_fun hP a.name a.b a.bn false h d σ y hD hc.1 (by omega) (by omega) hS.cap (by omega) hfl) (fun v h' hv => ?_) (fun v h' hv => ?_)
    · obtain ⟨rfl, y1, hst⟩ := hv
      simp (disch := omega) only [go_sem]
    · obtain ⟨rfl, y1, hst⟩ := hv
      obtain ⟨hx1, hlt1⟩ := mid hst
      simp (disch := omega) only [go_sem]
      refine WD_fun (vs := [.ptr x 0, strv a.name, slv a.bn false a.b]) (by simp (disch := omega) only [go_sem]) (appendR_fun hP.toDkP a.name _ h' x hx1 (fun i => evS_slv i _ _ _)) (fun v h2 hv => rfl) (fun v h2 hv => ?_)
      have hat := fin hst hv
      obtain ⟨⟨n, rfl⟩, -, -⟩ := hv
      simp (disch := omega) only [go_sem]
      exact ⟨_, _, hat, hS.append hO _ _ hb⟩
  simp (disch := omega) only [go_sem, a19r6]
  refine condS_if (fun c2 => ?_) (fun c2 => ?_)
  · simp (disch := omega) only [go_sem, a19d7]
    refine WD_fun (vs := [.ptr d 0, strv a.name]) (by simp (disch := omega) only [go_sem]) (syncD_fun hP.toDkP a.name h d σ y hD hc.1 (by omega)) (fun v h' hv => ?_) (fun v h' hv => ?_)
    · obtain ⟨rfl, y1, hst⟩ := hv
      simp (disch := omega) only [go_sem]
    · obtain ⟨rfl, y1, hst⟩ := hv
      obtain ⟨hx1, hlt1⟩ := mid hst
      simp (disch := omega) only [go_sem]
      refine WD_fun (vs := [.ptr x 0, strv a.name]) (by simp (disch := omega) only [go_sem]) (syncR_fun hP.toDkP a.name h' x hx1) (fun v h2 hv => rfl) (fun v h2 hv => ?_)
      have hat := fin hst hv
      obtain ⟨⟨n, rfl⟩, -, -⟩ := hv
      simp (disch := omega) only [go_sem]
      exact ⟨_, _, hat, hS.sync hO _⟩
  simp (disch := omega) only [go_sem, a19r8]
  refine condS_if (fun c3 => ?_) (fun c3 => ?_)
  · simp (disch := omega) only [go_sem, a19r9]
    refine WO.fun (vs := [.ptr d 0]) (by simp (disch := omega) only [go_sem]) (syncDirD_fun hP.toDkP h d σ y hD hc.1 (by omega)) (fun v h' hv => ?_)
    obtain ⟨rfl, y1, hst⟩ := hv
    obtain ⟨hx1, hlt1⟩ := mid hst
    simp (disch := omega) only [go_sem]
    refine WO.fun (vs := [.ptr x 0]) (by simp (disch := omega) only [go_sem]) (syncdirR_fun hP.toDkP h' x hx1) (fun v h2 hv => ?_)
    have hat := fin hst hv
    obtain ⟨⟨n, rfl⟩, -, -⟩ := hv
    simp (disch := omega) only [go_sem]
    exact ⟨_, _, hat, hS.syncDir⟩
  simp (disch := omega) only [go_sem, a19r10]
  refine condS_if (fun c4 => ?_) (fun c4 => ?_)
  · simp (disch := omega) only [go_sem, a19d11]
    refine WD_fun (vs := [.ptr d 0, strv a.name, strv a.to]) (by simp (disch := omega) only [go_sem]) (renameD_fun hP.toDkP a.name a.to h d σ y hD hc.1 (by omega) (by omega) (by omega)) (fun v h' hv => ?_) (fun v h' hv => ?_)
    · obtain ⟨rfl, y1, hst⟩ := hv
      simp (disch := omega) only [go_sem]
    · obtain ⟨rfl, y1, hst⟩ := hv
      obtain ⟨hx1, hlt1⟩ := mid hst
      simp (disch := omega) only [go_sem]
      refine WD_fun (vs := [.ptr x 0, strv a.name, strv a.to]) (by simp (disch := omega) only [go_sem]) (renameR_fun hP.toDkP a.name a.to h' x hx1) (fun v h2 hv => rfl) (fun v h2 hv => ?_)
      have hat := fin hst hv
      obtain ⟨⟨n, rfl⟩, -, -⟩ := hv
      simp (disch := omega) only [go_sem]
      exact ⟨_, _, hat, hS.rename _ _ (by omega)⟩
  simp (disch := omega) only [go_sem, a19r12]
  refine condS_if (fun c5 => ?_) (fun c5 => ?_)
  · simp (disch := omega) only [go_sem, a19d13]
    refine WD_fun (vs := [.ptr d 0, strv a.name]) (by simp (disch := omega) only [go_sem]) (removeD_fun hP.toDkP a.name h d σ y hD hc.1 (by omega) (by omega)) (fun v h' hv => ?_) (fun v h' hv => ?_)
    · obtain ⟨rfl, y1, hst⟩ := hv
      simp (disch := omega) only [go_sem]
    · obtain ⟨rfl, y1, hst⟩ := hv
      obtain ⟨hx1, hlt1⟩ := mid hst
      simp (disch := omega) only [go_sem]
      refine WD_fun (vs := [.ptr x 0, strv a.name]) (by simp (disch := omega) only [go_sem]) (removeR_fun hP.toDkP a.name h' x hx1) (fun v h2 hv => rfl) (fun v h2 hv => ?_)
      have hat := fin hst hv
      obtain ⟨⟨n, rfl⟩, -, -⟩ := hv
      simp (disch := omega) only [go_sem]
      exact ⟨_, _, hat, hS.remove _⟩
  simp (disch := omega) only [go_sem, a19r14]
  refine condS_if (fun c6 => ?_) (fun c6 => ?_)
  · simp (disch := omega) only [go_sem, a19r15]
    refine WO.fun (vs := [.ptr d 0, .int .i64 a.n]) (by simp (disch := omega) only [go_sem]) (fuseD_fun hP.toDkP a.n h d σ y hD hc.1 (by omega)) (fun v h' hst => ?_)
    obtain ⟨hx1, hlt1⟩ := mid hst
    unfold refC at hx1
    simp (disch := omega) only [go_sem]
    simp (disch := omega) only [go_sem, a19r16]
    refine WO.fun (vs := [.int .i64 a.n]) (by simp (disch := omega) only [go_sem]) (armR_fun hP.toDkP a.n h') (fun v h2 hv => ?_)
    obtain ⟨rfl, rfl⟩ := hv
    simp (disch := omega) only [go_sem, hx1]
    simp (disch := omega) only [go_sem, a19r22]
    exact ⟨_, _, fin hst (ends_put h2 x _ 0), hS.fuse _⟩
  simp (disch := omega) only [go_sem, a19r17]
  refine condS_if (fun c7 => ?_) (fun c7 => ?_)
  · simp (disch := omega) only [go_sem, a19r18]
    refine WO.fun (vs := [.ptr d 0, .int .i64 a.n, .int .i64 a.e]) (by simp (disch := omega) only [go_sem]) (faultD_fun hP.toDkP a.n a.e h d σ y hD hc.1 (by omega)) (fun v h' hst => ?_)
    obtain ⟨hx1, hlt1⟩ := mid hst
    simp (disch := omega) only [go_sem]
    simp (disch := omega) only [go_sem, a19r19]
    refine WO.fun (vs := [.ptr x 0, .int .i64 a.n, .int .i64 a.e]) (by simp (disch := omega) only [go_sem]) (setFaultR_fun hP.toDkP a.n a.e h' x hx1) (fun v h2 hv => ?_)
    simp (disch := omega) only [go_sem]
    simp (disch := omega) only [go_sem, a19r22]
    exact ⟨_, _, fin hst ⟨⟨0, rfl⟩, hv⟩, hS.fault _ _⟩
  simp (disch := omega) only [go_sem, a19r20]
  refine condS_if (fun c8 => ?_) (fun c8 => ?_)
  · simp (disch := omega) only [go_sem, a19d21]
    refine WD_fun (vs := [.ptr d 0, .int .i64 a.n, slv a.kn false a.keep]) (by simp (disch := omega) only [go_sem]) (boot_funR hR.none21 (by rw [hR.pure]; rfl) hR.boot hD a.n a.keep a.kn false (by omega) (by omega) (fun f hf => by have := hS.fl f hf; exact ⟨this.1, by omega⟩) ⟨ha.2.2.2.2.2.2.1, ha.2.2.2.2.2.2.2⟩) (fun v h' hv => ?_) (fun v h' hv => ?_)
    · obtain ⟨rfl, y1, hst⟩ := hv
      simp (disch := omega) only [go_sem]
    · obtain ⟨rfl, y1, hst⟩ := hv
      obtain ⟨hx1, hlt1⟩ := mid hst
      simp (disch := omega) only [go_sem]
      refine WD_fun (vs := [.ptr x 0, .int .i64 a.n, slv a.kn false a.keep]) (by simp (disch := omega) only [go_sem]) (bootR_fun hP.toDkP a.n _ h' x hx1) (fun v h2 hv => ?_) (fun v h2 hv => ?_)
      · obtain ⟨rfl, rfl⟩ := hv; rfl
      obtain ⟨rfl, rfl⟩ := hv
      simp (disch := omega) only [go_sem]
      exact ⟨_, _, hst.at', hS.bootR hk2 _ _⟩
  simp (disch := omega) only [go_sem]
  simp (disch := omega) only [go_sem, a19r22]
  exact ⟨_, _, hD, hS.mono⟩
end Go.Am.Dk

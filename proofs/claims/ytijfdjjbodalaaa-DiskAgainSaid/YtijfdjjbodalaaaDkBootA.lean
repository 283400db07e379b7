/- Boot, its deterministic beginning: the turns are done, the files are cut. -/
import Derived.Test.YtijfdjjbodalaaaDkDel
set_option linter.unusedSimpArgs false
set_option linter.unusedVariables false
namespace Go.Am.Dk
open Go.Am
attribute [local go_sem] ne_eq not_true_eq_false not_false_eq_true Nat.reduceEqDiff Nat.reduceAdd Nat.reduceLeDiff Int.toNat_natCast Int.reduceToNat and_self Bool.not_true Bool.not_false Bool.false_and Bool.and_false Bool.true_and Bool.and_true Int.reduceEq Int.reduceLT Int.reduceLE Int.reduceAdd Int.reduceSub Int.reduceNeg decide_true decide_false Option.bind_some Bool.or_true Bool.or_false Bool.true_or Bool.false_or
attribute [local go_sem ↓] reduceIte
set_option maxRecDepth 20000
set_option maxHeartbeats 1000000
variable {P : Prog}
theorem DiskAt.sput {h h' : Heap} {d : Nat} {σ : DSt} {y : Lay} {n : NMap} (hD : DiskAt h d σ y) (hm : MapAt h' y.m2 n) (hn : ∀ p ∈ n, p.2 ∈ σ.all) (hnd : (n.map (·.1)).Nodup) (ho : ∀ o, o ≠ y.m2 → h'.get o = h.get o) (hx : h'.next = h.next) : DiskAt h' d { σ with sure := n } y := by
  have S := hD.sep
  refine ⟨⟨hD.ok.names, hn, hD.ok.waits, hD.ok.nd, hnd, hD.ok.ad⟩, ?_, ?_, hm, ?_, ?_, ?_, ?_, hD.mm, hD.bb, hD.ab, hD.wb, hD.aw, ?_⟩
  · rw [ho d (Ne.symm S.dm2)]; exact hD.disk
  · exact hD.names.of_get (ho _ hD.mm)
  · exact hD.all.keep (fun o hq => ho o (S.av o hq).2.2.1)
  · exact hD.waits.keep (fun o hq => ho o (S.wv o hq).2.2.1)
  · intro f hf
    rw [ho f (S.fm2 f hf)]
    exact hD.cell f hf
  · intro f hf
    exact (hD.bytes f hf).keep (fun o hq => ho o (S.bv f hf o hq).2.2.1)
  · intro o hq
    rw [hx]
    exact hD.lt o hq
def tkS (σ : DSt) (turns : Int) : Nat := (max 0 (min turns σ.waits.length)).toNat
def bootNames (σ : DSt) (k : Nat) : NMap := (σ.waits.take k).foldl (fun n t => turnDo t n) σ.sure
theorem bootNames_succ {σ : DSt} {k : Nat} (hk : k < σ.waits.length) : bootNames σ (k + 1) = turnDo (σ.waits.getD k default) (bootNames σ k) := by
  unfold bootNames
  rw [List.take_succ_eq_append_getElem hk, List.foldl_append, List.getD_eq_getElem?_getD, List.getElem?_eq_getElem hk]
  rfl
theorem bootNames_ok {σ : DSt} (hO : σ.Ok) : ∀ k, k ≤ σ.waits.length → (∀ p ∈ bootNames σ k, p.2 ∈ σ.all) ∧ ((bootNames σ k).map (·.1)).Nodup
  | 0, _ => ⟨hO.sure, hO.sd⟩
  | k + 1, hk => by
    obtain ⟨h1, h2⟩ := bootNames_ok hO k (by omega)
    rw [bootNames_succ (by omega)]
    have hm : σ.waits.getD k default ∈ σ.waits := by
      rw [List.getD_eq_getElem?_getD, List.getElem?_eq_getElem (show k < σ.waits.length by omega)]
      exact List.getElem_mem _
    exact ⟨turnDo_all h1 (hO.waits _ hm), nodup_turnDo h2⟩
theorem boot_turns (hP : DkP P) (h : Heap) (d : Nat) (σ : DSt) (y : Lay) (hD : DiskAt h d σ y) (turns : Int) (bv : AV) (hw : σ.waits.length ≤ 1000000000) (st : Nat) (hbe : ∀ i, evS i (some bv) = some bv) (hbd : datW (some bv) = some bv) :
    Wp P (.seq (.dreg 0 a21d3 [0, 2, 12, 32, 33, 34]) (.block 0 (.loop a21l0))) { fr := [(0, .ptr d 0), (1, .int .i64 turns), (2, bv), (19, .bool false)], st := st, h := h }
      (fun e s' => e = .normal ∧ fget s'.fr 0 = some (.ptr d 0) ∧ fget s'.fr 2 = some bv ∧ fget s'.fr 12 = none ∧ DiskAt s'.h d { σ with sure := bootNames σ (tkS σ turns) } y ∧ s'.h.next = h.next ∧ ∀ o, o ≠ y.m2 → s'.h.get o = h.get o) := by
  have hd := hD.disk
  simp only [DSt.cells] at hd
  have hwe := hD.waits.ev
  have hwd := hD.waits.dt
  have hwl := hD.waits.len
  have hwt := hD.waits.tag
  have htk : tkS σ turns ≤ σ.waits.length := by unfold tkS; omega
  have loop : ∀ (o ep : Nat) (j : List AV) (fr0 : Fr) (st : Nat), h.get o = some (.row 3 ep (σ.waits.flatMap Cel.ccells ++ j)) → y.wv = .hs 3 o ep 0 σ.waits.length false → fget fr0 12 = none → fget fr0 0 = some (.ptr d 0) → fget fr0 2 = some bv → fget fr0 32 = some (.hs 3 o ep 0 (tkS σ turns) false) → fget fr0 33 = some (.int .i64 (tkS σ turns)) → fget fr0 34 = some (.int .i64 0) →
      Wp P (.loop a21l0) { fr := fr0, st := st, h := h } (blockQ 0 fun e s' => e = .normal ∧ fget s'.fr 0 = some (.ptr d 0) ∧ fget s'.fr 2 = some bv ∧ fget s'.fr 12 = none ∧ DiskAt s'.h d { σ with sure := bootNames σ (tkS σ turns) } y ∧ s'.h.next = h.next ∧ ∀ o, o ≠ y.m2 → s'.h.get o = h.get o) := by
    intro o ep j fr0 st hg hwv f12 f0 f2 f32 f33 f34
    refine Wp_loop (fun x : Fr × Nat × Nat × Heap => (fget x.1 12 = none ∧ fget x.1 0 = some (.ptr d 0) ∧ fget x.1 2 = some bv ∧ fget x.1 32 = some (.hs 3 o ep 0 (tkS σ turns) false) ∧ fget x.1 33 = some (.int .i64 (tkS σ turns)) ∧ fget x.1 34 = some (.int .i64 x.2.2.1)) ∧ x.2.2.1 ≤ tkS σ turns ∧ DiskAt x.2.2.2 d { σ with sure := bootNames σ x.2.2.1 } y ∧ x.2.2.2.next = h.next ∧ ∀ o, o ≠ y.m2 → x.2.2.2.get o = h.get o)
      (fun (fr0, t, k, hh) => { fr := fr0, st := t, h := hh }) (fun x => tkS σ turns - x.2.2.1) (fr0, st, 0, h) rfl ⟨⟨f12, f0, f2, f32, f33, f34⟩, Nat.zero_le _, hD, rfl, fun _ _ => rfl⟩ ?_
    rintro ⟨fr1, t, k, hh⟩ ⟨⟨q12, q0, q2, q32, q33, q34⟩, g1, g2, g3, g4⟩
    simp only at q12 q0 q2 q32 q33 q34 g1 g2 g3 g4
    simp (disch := omega) only [go_sem, a21l0, a21r4, q12, q0, q2, q32, q33, q34, hbe]
    refine condS_if (fun hk => ?_) (fun hk => ?_)
    · have hk' : k < σ.waits.length := by omega
      have hon : o ≠ y.m2 := fun e => (hD.sep.wv o (by rw [hwv]; rfl)).2.2.1 e
      have hgh : hh.get o = some (.row 3 ep (σ.waits.flatMap Cel.ccells ++ j)) := (g4 o hon).trans hg
      have r1 := ld_pre (α := DTurn) (l := σ.waits) (j := j) hk'
      have hcs : Cel.csz DTurn = 3 := rfl
      obtain ⟨wt, hwt⟩ : ∃ wt, σ.waits.getD k default = wt := ⟨_, rfl⟩
      have ce : Cel.ccells wt = [strv wt.fr, strv wt.to, fcell wt.f] := rfl
      rw [hcs, hwt, ce] at r1
      have hdh := g2.disk
      simp only [DSt.cells] at hdh
      simp (disch := omega) only [go_sem, a21r5, q12, q0, q2, q32, q33, q34, hbe, hgh, r1]
      simp (disch := omega) only [go_sem, a21d6, hdh]
      refine WD_fun (vs := [.agg [strv wt.fr, strv wt.to, fcell wt.f], .mp y.m2]) (by simp (disch := omega) only [go_sem]) (do_fun hP wt hh y.m2 _ g2.sure) (fun v h' hv => rfl) (fun v h' hv => ?_)
      obtain ⟨hm', e1, e2⟩ := hv
      simp (disch := omega) only [go_sem]
      simp (disch := omega) only [go_sem, a21r7]
      have hO := bootNames_ok (σ := σ) hD.ok (k + 1) (by omega)
      have hs : DiskAt h' d { σ with sure := bootNames σ (k + 1) } y := by
        refine g2.sput (n := bootNames σ (k + 1)) ?_ hO.1 hO.2 e2 e1
        rw [bootNames_succ hk', hwt]
        exact hm'
      exact ⟨(_, t + 2, k + 1, h'), ⟨⟨rfl, rfl, rfl, rfl, rfl, rfl⟩, by simp only; omega, hs, e1.trans g3, fun o ho => (e2 o ho).trans (g4 o ho)⟩, by simp only; omega, rfl⟩
    · have hkk : k = tkS σ turns := by omega
      simp (disch := omega) only [go_sem]
      rw [hkk] at g2
      exact ⟨by trivial, by trivial, by trivial, by trivial, g2, g3, g4⟩
  rcases hD.waits with ⟨hwv, hwn⟩ | ⟨o, ep, j, hwv, hg⟩
  · rw [hwv] at hd
    have htk0 : tkS σ turns = 0 := by rw [hwn] at htk; simpa using htk
    have htk2 : (max 0 (min turns (σ.waits.length : Int))).toNat = 0 := htk0
    have lt1 : lenTag 1 .nils = true := rfl
    have ln1 : ∀ h, lenA h .nils = some σ.waits.length := fun _ => by rw [hwn]; rfl
    have ln2 : ∀ h, lenA h .nils = some 0 := fun _ => rfl
    simp (disch := omega) only [go_sem, a21d3, hd, lt1, ln1, htk2, cond_true]
    refine Wp_unroll ?_
    have w0 : decide ((0 : Int) < (σ.waits.length : Int)) = false := by rw [hwn]; rfl
    simp (disch := omega) only [go_sem, a21l0, a21r4, w0]
    rw [htk0]
    exact ⟨by trivial, by trivial, by trivial, by trivial, hD, by trivial, fun _ _ => by trivial⟩
  · rw [hwv] at hd
    have htk2 : (max 0 (min turns (σ.waits.length : Int))).toNat = tkS σ turns := rfl
    have hcs : Cel.csz DTurn = 3 := rfl
    rw [hcs] at hd hwv hg
    have lt1 : ∀ n, lenTag 1 (.hs 3 o ep 0 n false) = true := fun _ => rfl
    have ln1 : ∀ h n, lenA h (.hs 3 o ep 0 n false) = some n := fun _ _ => rfl
    simp (disch := omega) only [go_sem, a21d3, hd, lt1, ln1, htk2, cond_true]
    simp only [Nat.sub_zero]
    exact loop o ep j _ _ hg hwv rfl rfl rfl rfl rfl rfl
end Go.Am.Dk

/- DiskAgain: the power goes off again at once. -/
import Derived.Test.YtijfdjjbodalaaaDkAgainC
set_option linter.unusedSimpArgs false
set_option linter.unusedVariables false
namespace Go.Am.Dk
open Go.Am
attribute [local go_sem] ne_eq not_true_eq_false not_false_eq_true Nat.reduceEqDiff Nat.reduceAdd Nat.reduceLeDiff Int.toNat_natCast Int.reduceToNat and_self Bool.not_true Bool.not_false Bool.false_and Bool.and_false Bool.true_and Bool.and_true Int.reduceEq Int.reduceLT Int.reduceLE Int.reduceAdd Int.reduceSub Int.reduceNeg decide_true decide_false Option.bind_some Bool.or_true Bool.or_false Bool.true_or Bool.false_or
attribute [local go_sem ↓] reduceIte
set_option maxRecDepth 20000
set_option maxHeartbeats 2000000
theorem PreC.kept {α : Type} [Cel α] {h h' : Heap} {v : AV} {l : List α} (a : PreC h v l) (hk : ∀ o, rowOf v = some o → h'.get o = h.get o) : PreC h' v l := a.keep hk
theorem again2_ok (σ0 : DSt) (hO : σ0.Ok) (turns : Int) (keep : List Int) {kk : Nat} (hB0 : Bnd σ0 kk) (hkk : kk ≤ 90) (bl : List OneV) (bv : AV) (hh : Heap) (d : Nat) (y : Lay) (hD : DiskAt hh d (bootS σ0 turns keep) y) (hl : bl.length = (listS (bootS σ0 turns keep)).length) (hbv : PreC hh bv bl)
    (hr : ∀ i, i < bl.length → ∃ l, readS (bootS σ0 turns keep) ((listS (bootS σ0 turns keep)).getD i default) = (some l, 0) ∧ HoldB hh (bl.getD i default).v l ∧ l.length ≤ 1000000000)
    (hbl : ∀ o, rowOf bv = some o → o < hh.next ∧ ¬ Own d (bootS σ0 turns keep) y o) (hbl2 : ∀ i, i < bl.length → ∀ o, rowOf (bl.getD i default).v = some o → ¬ Own d (bootS σ0 turns keep) y o) (st : Nat) (fr0 : Fr) (f9 : fget fr0 9 = some (.ptr d 0)) (f11 : fget fr0 11 = some (slv true false (listS (bootS σ0 turns keep)))) (f12 : fget fr0 12 = some bv) :
    Wp PA again2 { fr := fr0, st := st, h := hh } (bodyQ [.slot 8] fun v _ => v = .bool true) := by
  obtain ⟨ks, hks⟩ : ∃ ks, listS (bootS σ0 turns keep) = ks := ⟨_, rfl⟩
  obtain ⟨t1, t2, t3⟩ := boot_twice hO turns keep [] (fun f hf => (hB0.fl f hf).1)
  have hB1 := hB0.bootS (by omega) turns keep
  have hd1 : (bootS σ0 turns keep).dead = false := rfl
  rw [hks] at hl hr f11
  generalize bootS σ0 turns keep = σ1 at *
  have ev := hbv.ev
  have dt := hbv.dt
  have hB2 := hB1.off
  have hB3 := hB2.bootS (by omega) 0 []
  have hc := hB1.calls
  have hP := PA_R.toDkQ.toDkP
  have hnl : σ1.names.length ≤ 1000000 := by have := hB1.nl; omega
  have hkl : ks.length ≤ 1000000 := by
    rw [← hks]
    unfold listS
    rw [if_neg (by simp [hd1]), List.length_mergeSort, List.length_map]; exact hnl
  simp (disch := omega) only [go_sem, again2, a5r22, ev, dt, f9, f11, f12]
  refine WO.fun (vs := [.ptr d 0, .int .i64 1]) (by simp (disch := omega) only [go_sem]) (fuseD_fun hP 1 hh d σ1 y hD hc.1 (by omega)) (fun v h1 hs1 => ?_)
  simp (disch := omega) only [go_sem, f9, f11, f12]
  simp (disch := omega) only [go_sem, a5r23, ev, dt]
  refine WO.fun (vs := [.ptr d 0]) (by simp (disch := omega) only [go_sem]) (syncDirD_fun hP h1 d _ y hs1.at' hc.1 (by show σ1.calls < _; omega)) (fun v h2 hv => ?_)
  obtain ⟨rfl, y2, hs2⟩ := hv
  rw [off_any hd1] at hs2 ⊢
  simp (disch := omega) only [go_sem]
  have hbt := boot_funA hs2.at' hB2 (by omega) 0 [] true false rfl ⟨by simp, fun z hz => by simp at hz⟩
  have hn : slv true false ([] : List Int) = .nils := rfl
  rw [hn] at hbt
  refine WO.fun (vs := [.ptr d 0, .int .i64 0, .nils]) (by simp (disch := omega) only [go_sem]) hbt (fun v h3 hv => ?_)
  obtain ⟨rfl, y3, hs3⟩ := hv
  have hst := (hs1.trans hs2).trans hs3
  have hD3 := hst.at'
  simp only at hD3 hst
  obtain ⟨σ2, hσ2⟩ : ∃ σ2, bootS (offA σ1) 0 [] = σ2 := ⟨_, rfl⟩
  rw [hσ2] at hD3 hst t1 t2 t3 hB3
  simp (disch := omega) only [go_sem]
  simp (disch := omega) only [go_sem, a5r25, ev, dt]
  have hls : listS σ2 = ks := by
    rw [← hks]
    unfold listS
    rw [t1, t3, hd1]
  refine WO.fun (vs := [.ptr d 0]) (by simp (disch := omega) only [go_sem]) (listD_fun PA_R h3 d σ2 y3 hD3 (by rw [t1]; exact hnl) (fun p hp => by rw [t1] at hp; have := hB1.nk p hp; omega)) (fun v h4 hv => ?_)
  obtain ⟨rfl, hx4⟩ := hv
  rw [hls]
  simp (disch := omega) only [go_sem]
  simp (disch := omega) only [go_sem, a5r26, ev, dt]
  have keep4 : ∀ o, o < hh.next → ¬ Own d σ1 y o → h4.get o = hh.get o := fun o h5 h6 => by
    rw [hx4.2 o (Nat.lt_of_lt_of_le h5 hst.frm.1), hst.frm.2 o h5 h6]
  have hn4 : hh.next ≤ h4.next := Nat.le_trans hst.frm.1 hx4.1
  refine again3_ok ks bl bv h4 d σ2 y3 (hD3.ext' hx4) hB3 (by omega) hl hkl (hbv.keep (fun o ho => keep4 o (hbl o ho).1 (hbl o ho).2)) (fun i hi => ?_) (fun o ho => by have := (hbl o ho).1; omega) _
  obtain ⟨l, r1, r2, r3⟩ := hr i (by omega)
  refine ⟨l, ?_, ?_, r3⟩
  · rw [← r1]
    unfold readS
    rw [t1, t2, t3, hd1]
  · refine r2.keep hn4 (fun o ho => ?_)
    have hlt : o < hh.next := by
      rcases r2 with ⟨e, -⟩ | ⟨o', ep, e, e2, -⟩
      · rw [e] at ho; simp [rowOf] at ho
      · rw [e] at ho
        obtain rfl : o' = o := Option.some.inj ho
        exact e2
    exact keep4 o hlt (hbl2 i (by omega) o ho)
end Go.Am.Dk

/- The disk's functions: Create. -/
import Derived.Test.YtijfdjjbodalaaaDkName
set_option linter.unusedSimpArgs false
set_option linter.unusedVariables false
namespace Go.Am.Dk
open Go.Am
attribute [local go_sem] ne_eq not_true_eq_false not_false_eq_true Nat.reduceEqDiff Nat.reduceAdd Nat.reduceLeDiff Int.toNat_natCast Int.reduceToNat and_self Bool.not_true Bool.not_false Bool.false_and Bool.and_false Bool.true_and Bool.and_true Int.reduceEq Int.reduceLT Int.reduceLE Int.reduceAdd Int.reduceSub Int.reduceNeg decide_true decide_false Option.bind_some Bool.or_true Bool.or_false Bool.true_or Bool.false_or
attribute [local go_sem ↓] reduceIte
set_option maxRecDepth 20000
set_option maxHeartbeats 1000000
variable {P : Prog}
structure Step (h h' : Heap) (d : Nat) (σ : DSt) (y : Lay) (σ' : DSt) (y' : Lay) : Prop where
  at' : DiskAt h' d σ' y'
  frm : Frm h h' (Own d σ y)
  own : ∀ o, Own d σ' y' o → Own d σ y o ∨ h.next ≤ o
theorem Step.refl {h : Heap} {d : Nat} {σ : DSt} {y : Lay} (hD : DiskAt h d σ y) : Step h h d σ y σ y := ⟨hD, Frm.refl _ _, fun _ h => Or.inl h⟩
theorem Step.trans {h h1 h2 : Heap} {d : Nat} {σ σ1 σ2 : DSt} {y y1 y2 : Lay} (a : Step h h1 d σ y σ1 y1) (b : Step h1 h2 d σ1 y1 σ2 y2) : Step h h2 d σ y σ2 y2 := by
  refine ⟨b.at', ⟨Nat.le_trans a.frm.1 b.frm.1, fun o ho hn => ?_⟩, fun o ho => ?_⟩
  · rw [b.frm.2 o (Nat.lt_of_lt_of_le ho a.frm.1) (fun hq => (a.own o hq).elim hn (fun h => by omega)), a.frm.2 o ho hn]
  · rcases b.own o ho with h | h
    · exact a.own o h
    · exact Or.inr (Nat.le_trans a.frm.1 h)
theorem Step.ext {h h' : Heap} {d : Nat} {σ : DSt} {y : Lay} (hD : DiskAt h d σ y) (hx : Ext h h') : Step h h' d σ y σ y :=
  ⟨hD.ext (fun o ho => hx.2 o (hD.lt o ho)) hx.1, ⟨hx.1, fun o ho _ => hx.2 o ho⟩, fun _ h => Or.inl h⟩
theorem Step.only {h h' : Heap} {d : Nat} {σ σ' : DSt} {y : Lay} (hD : DiskAt h' d σ' y) (e1 : h'.next = h.next) (e2 : ∀ o, o ≠ d → h'.get o = h.get o) (s3 : σ'.all = σ.all) : Step h h' d σ y σ' y :=
  ⟨hD, ⟨by omega, fun o _ hn => e2 o (fun e => hn (Or.inl e))⟩, fun o ho => Or.inl (by simpa only [Own, s3] using ho)⟩
theorem beginS_all (σ : DSt) : (beginS σ).2.all = σ.all ∧ (beginS σ).2.names = σ.names ∧ (beginS σ).2.sure = σ.sure ∧ (beginS σ).2.waits = σ.waits ∧ (beginS σ).2.file = σ.file ∧ (beginS σ).2.cap = σ.cap := by
  unfold beginS
  split
  · exact ⟨rfl, rfl, rfl, rfl, rfl, rfl⟩
  · split
    · exact ⟨rfl, rfl, rfl, rfl, rfl, rfl⟩
    · split <;> exact ⟨rfl, rfl, rfl, rfl, rfl, rfl⟩
theorem beginD_step (hP : DkP P) (h : Heap) (d : Nat) (σ : DSt) (y : Lay) (hD : DiskAt h d σ y) (h1 : 0 ≤ σ.calls) (h2 : σ.calls < 9000000000000000000) :
    Fun P 38 [.ptr d 0] h (fun v h' => v = .int .i64 (beginS σ).1 ∧ Step h h' d σ y (beginS σ).2 y) := by
  obtain ⟨n, v, h', e, q1, q2, q3, q4⟩ := beginD_fun hP h d σ y hD h1 h2
  exact ⟨n, v, h', e, q1, Step.only q2 q3 q4 (beginS_all σ).1⟩
theorem openS_all (σ : DSt) (s : List UInt8) : (openS σ s).2.2 = (beginS σ).2 := by
  unfold openS
  split
  · rfl
  · split <;> rfl
theorem openD_step (hP : DkP P) (s : List UInt8) (h : Heap) (d : Nat) (σ : DSt) (y : Lay) (hD : DiskAt h d σ y) (h1 : 0 ≤ σ.calls) (h2 : σ.calls < 9000000000000000000) :
    Fun P 37 [.ptr d 0, strv s] h (fun v h' => v = .tup [fcell (openS σ s).1, .int .i64 (openS σ s).2.1] ∧ Step h h' d σ y (openS σ s).2.2 y) := by
  obtain ⟨n, v, h', e, q1, q2, q3, q4⟩ := openD_fun hP s h d σ y hD h1 h2
  exact ⟨n, v, h', e, q1, Step.only q2 q3 q4 (by rw [openS_all]; exact (beginS_all σ).1)⟩
theorem turnsD_step (hP : DkP P) (t : DTurn) (h : Heap) (d : Nat) (σ : DSt) (y : Lay) (hD : DiskAt h d σ y) (ht : ∀ f, t.f = some f → f ∈ σ.all) (hw : σ.waits.length ≤ 1000000000) :
    Fun P 39 [.ptr d 0, .agg [strv t.fr, strv t.to, fcell t.f]] h (fun v h' => v = .int .i64 0 ∧ ∃ y', Step h h' d σ y (turnsS σ t) y') := by
  obtain ⟨n, v, h', e, q1, wv, q2, q3, q4⟩ := turnsD_fun hP t h d σ y hD ht hw
  refine ⟨n, v, h', e, q1, { y with wv := wv }, q2, q4, fun o ho => ?_⟩
  have ho' : o = d ∨ o = y.m ∨ o = y.m2 ∨ rowOf y.av = some o ∨ rowOf wv = some o ∨ ∃ f ∈ σ.all, o = f ∨ rowOf (y.bv f) = some o := ho
  rcases ho' with e | e | e | e | e | e
  · exact Or.inl (Or.inl e)
  · exact Or.inl (Or.inr (Or.inl e))
  · exact Or.inl (Or.inr (Or.inr (Or.inl e)))
  · exact Or.inl (Or.inr (Or.inr (Or.inr (Or.inl e))))
  · rcases q3 o e with e | e
    · exact Or.inl (Or.inr (Or.inr (Or.inr (Or.inr (Or.inl e)))))
    · exact Or.inr e
  · exact Or.inl (Or.inr (Or.inr (Or.inr (Or.inr (Or.inr e)))))
theorem MapAt.len {h : Heap} {m : Nat} {n : NMap} (hm : MapAt h m n) : lenA h (.mp m) = some n.length := by
  obtain ⟨bs, ck, hg, -⟩ := hm
  simp only [lenA, hg, kv_length, fp_length]
def newS (σ : DSt) (f : Nat) : DSt := { σ with all := σ.all ++ [f], file := fun g => if g = f then ⟨[], 0⟩ else σ.file g }
def createS (σ : DSt) (s : List UInt8) (f : Nat) : Int × DSt :=
  if (beginS σ).1 ≠ 0 then beginS σ
  else if nameL s = false then (1, (beginS σ).2)
  else if (nget s σ.names).isSome then (7, (beginS σ).2)
  else if 64 ≤ σ.names.length then (8, (beginS σ).2)
  else (0, turnsS (newS (beginS σ).2 f) ⟨[], s, some f⟩)
theorem DiskAt.new {h h' : Heap} {d f : Nat} {σ : DSt} {y : Lay} {av : AV} (hD : DiskAt h d σ y) (hn : h.next ≤ f) (hn' : f < h'.next) (hlt : ∀ o, rowOf av = some o → o < h'.next) (hro : ∀ o, rowOf av = some o → rowOf y.av = some o ∨ (h.next ≤ o ∧ o ≠ f))
    (hd : h'.get d = some (.cells (σ.cells { y with av := av }))) (hf : h'.get f = some (.cells [.nils, .int .i64 0])) (ha : PreC h' av ((σ.all ++ [f]).map FilP.mk)) (ho : ∀ o, o < h.next → o ≠ d → rowOf y.av ≠ some o → h'.get o = h.get o) :
    Step h h' d σ y (newS σ f) { y with av := av, bv := fun g => if g = f then .nils else y.bv g } := by
  have S := hD.sep
  have own : ∀ q, Own d σ y q → q < h.next := hD.lt
  have fown : ∀ f ∈ σ.all, Own d σ y f := fun f hf => Or.inr (Or.inr (Or.inr (Or.inr (Or.inr ⟨f, hf, Or.inl rfl⟩))))
  have bown : ∀ f ∈ σ.all, ∀ o, rowOf (y.bv f) = some o → Own d σ y o := fun f hf o ho => Or.inr (Or.inr (Or.inr (Or.inr (Or.inr ⟨f, hf, Or.inr ho⟩))))
  have aown : ∀ o, rowOf y.av = some o → Own d σ y o := fun o ho => Or.inr (Or.inr (Or.inr (Or.inl ho)))
  have wown : ∀ o, rowOf y.wv = some o → Own d σ y o := fun o ho => Or.inr (Or.inr (Or.inr (Or.inr (Or.inl ho))))
  have fne : ∀ g ∈ σ.all, g ≠ f := fun g hg e => by have := own g (fown g hg); omega
  have hnn : h.next ≤ h'.next := by omega
  have mem : ∀ g, g ∈ (newS σ f).all ↔ g ∈ σ.all ∨ g = f := fun g => by simp [newS]
  have bve : ∀ g ∈ σ.all, (if g = f then AV.nils else y.bv g) = y.bv g := fun g hg => if_neg (fne g hg)
  have fle : ∀ g ∈ σ.all, (newS σ f).file g = σ.file g := fun g hg => if_neg (fne g hg)
  refine ⟨{ ok := ⟨fun p hp => (mem _).2 (Or.inl (hD.ok.names p hp)), fun p hp => (mem _).2 (Or.inl (hD.ok.sure p hp)), fun t ht g hg => (mem _).2 (Or.inl (hD.ok.waits t ht g hg)), hD.ok.nd, hD.ok.sd, ?_⟩, disk := hd, names := ?_, sure := ?_, all := ha, waits := ?_, cell := ?_, bytes := ?_, mm := hD.mm, bb := ?_, ab := ?_, wb := ?_, aw := ?_, lt := ?_ }, ⟨hnn, fun o h1 h2 => ho o h1 (fun e => h2 (Or.inl e)) (fun e => h2 (aown o e))⟩, ?_⟩
  · show (σ.all ++ [f]).Nodup
    rw [List.nodup_append]
    exact ⟨hD.ok.ad, by simp, fun a ha2 b hb => by rw [List.mem_singleton] at hb; subst hb; exact fne a ha2⟩
  · exact hD.names.of_get (ho _ (own _ (Or.inr (Or.inl rfl))) S.dm (fun e => (S.av _ e).2.1 rfl))
  · exact hD.sure.of_get (ho _ (own _ (Or.inr (Or.inr (Or.inl rfl)))) S.dm2 (fun e => (S.av _ e).2.2.1 rfl))
  · exact hD.waits.keep (fun o hq => ho o (own o (wown o hq)) (S.wv o hq).1 (fun e => hD.aw o e hq))
  · intro g hg
    rcases (mem g).1 hg with hg | rfl
    · show h'.get g = some (.cells [if g = f then .nils else y.bv g, _])
      rw [bve g hg, fle g hg, ho g (own g (fown g hg)) (S.df g hg) (fun e => (S.av _ e).2.2.2 g hg rfl)]
      exact hD.cell g hg
    · show h'.get g = some (.cells [if g = g then .nils else y.bv g, .int .i64 ((if g = g then (⟨[], 0⟩ : DFile) else σ.file g).sure : Nat)])
      rw [if_pos rfl, if_pos rfl]
      exact hf
  · intro g hg
    rcases (mem g).1 hg with hg | rfl
    · show PreC h' (if g = f then .nils else y.bv g) _
      rw [bve g hg, fle g hg]
      exact (hD.bytes g hg).keep (fun o hq => ho o (own o (bown g hg o hq)) (S.bv g hg o hq).1 (fun e => hD.ab g hg o e hq))
    · show PreC h' (if g = g then .nils else y.bv g) ((if g = g then (⟨[], 0⟩ : DFile) else σ.file g).b)
      rw [if_pos rfl, if_pos rfl]
      exact Or.inl ⟨rfl, rfl⟩
  · intro g hg g' hg' hne o h1 h2
    have h1' : rowOf (if g = f then AV.nils else y.bv g) = some o := h1
    have h2' : rowOf (if g' = f then AV.nils else y.bv g') = some o := h2
    rcases (mem g).1 hg with hg | rfl
    · rcases (mem g').1 hg' with hg' | rfl
      · rw [bve g hg] at h1'
        rw [bve g' hg'] at h2'
        exact hD.bb g hg g' hg' hne o h1' h2'
      · rw [if_pos rfl] at h2'; cases h2'
    · rw [if_pos rfl] at h1'; cases h1'
  · intro g hg o h1 h2
    have h2' : rowOf (if g = f then AV.nils else y.bv g) = some o := h2
    rcases (mem g).1 hg with hg | rfl
    · rw [bve g hg] at h2'
      rcases hro o h1 with e | e
      · exact hD.ab g hg o e h2'
      · have := own o (bown g hg o h2'); omega
    · rw [if_pos rfl] at h2'; cases h2'
  · intro g hg o h1 h2
    have h2' : rowOf (if g = f then AV.nils else y.bv g) = some o := h2
    rcases (mem g).1 hg with hg | rfl
    · rw [bve g hg] at h2'
      exact hD.wb g hg o h1 h2'
    · rw [if_pos rfl] at h2'; cases h2'
  · intro o h1 h2
    rcases hro o h1 with e | e
    · exact hD.aw o e h2
    · have := own o (wown o h2); omega
  · intro o h1
    have ho' : o = d ∨ o = y.m ∨ o = y.m2 ∨ rowOf av = some o ∨ rowOf y.wv = some o ∨ ∃ g ∈ (newS σ f).all, o = g ∨ rowOf (if g = f then AV.nils else y.bv g) = some o := h1
    rcases ho' with rfl | rfl | rfl | h1 | h1 | ⟨g, hg, h1⟩
    · have := own o (Or.inl rfl); omega
    · have := own y.m (Or.inr (Or.inl rfl)); omega
    · have := own y.m2 (Or.inr (Or.inr (Or.inl rfl))); omega
    · exact hlt o h1
    · have := own o (wown o h1); omega
    · rcases (mem g).1 hg with hg | rfl
      · rcases h1 with rfl | h1
        · have := own o (fown o hg); omega
        · rw [bve g hg] at h1
          have := own o (bown g hg o h1); omega
      · rcases h1 with rfl | h1
        · exact hn'
        · rw [if_pos rfl] at h1; cases h1
  · intro o h1
    have ho' : o = d ∨ o = y.m ∨ o = y.m2 ∨ rowOf av = some o ∨ rowOf y.wv = some o ∨ ∃ g ∈ (newS σ f).all, o = g ∨ rowOf (if g = f then AV.nils else y.bv g) = some o := h1
    rcases ho' with rfl | rfl | rfl | h1 | h1 | ⟨g, hg, h1⟩
    · exact Or.inl (Or.inl rfl)
    · exact Or.inl (Or.inr (Or.inl rfl))
    · exact Or.inl (Or.inr (Or.inr (Or.inl rfl)))
    · rcases hro o h1 with e | e
      · exact Or.inl (aown o e)
      · exact Or.inr e.1
    · exact Or.inl (wown o h1)
    · rcases (mem g).1 hg with hg | rfl
      · rcases h1 with rfl | h1
        · exact Or.inl (fown o hg)
        · rw [bve g hg] at h1
          exact Or.inl (bown g hg o h1)
      · rcases h1 with rfl | h1
        · exact Or.inr hn
        · rw [if_pos rfl] at h1; cases h1
theorem createD_fun (hP : DkP P) (s : List UInt8) (h : Heap) (d : Nat) (σ : DSt) (y : Lay) (hD : DiskAt h d σ y) (h1 : 0 ≤ σ.calls) (h2 : σ.calls < 9000000000000000000) (hl : s.length ≤ 9223372036854775807) (hw : σ.waits.length ≤ 1000000000) (hall : σ.all.length ≤ 1000000000) :
    Fun P 16 [.ptr d 0, strv s] h (fun v h' => ∃ f y', h.next ≤ f ∧ v = .int .i64 (createS σ s f).1 ∧ Step h h' d σ y (createS σ s f).2 y') := by
  have hB := beginS_all σ
  refine Fun.of (code := a16c) (hP.code rfl) (by rw [hP.pure]; rfl) ?_
  simp (disch := omega) only [go_sem, a16c, a16r0, a16r1]
  refine WO.fun (vs := [.ptr d 0]) (by simp (disch := omega) only [go_sem]) (beginD_step hP h d σ y hD h1 h2) (fun v hA hv => ?_)
  obtain ⟨rfl, sA⟩ := hv
  have early : ∀ (hq : Heap) (e : Int), Step h hq d σ y (beginS σ).2 y → (∀ f, createS σ s f = (e, (beginS σ).2)) → ∃ f y', h.next ≤ f ∧ AV.int .i64 e = .int .i64 (createS σ s f).1 ∧ Step h hq d σ y (createS σ s f).2 y' := fun hq e hS hc =>
    ⟨h.next, y, Nat.le_refl _, by rw [hc], by rw [hc]; exact hS⟩
  simp (disch := omega) only [go_sem, a16r2]
  refine condS_if (fun c => ?_) (fun c => ?_)
  · simp (disch := omega) only [go_sem, a16r3]
    refine early hA _ sA (fun f => ?_)
    unfold createS
    rw [if_pos c]
  · simp (disch := omega) only [go_sem, a16r4]
    refine WO.fun (vs := [strv s]) (by simp (disch := omega) only [go_sem]) (name_funD hP s hA hl) (fun v hB' hv => ?_)
    obtain ⟨rfl, hxB⟩ := hv
    have sB := sA.trans (Step.ext sA.at' hxB)
    simp (disch := omega) only [go_sem]
    cases hN : nameL s with
    | false =>
      simp (disch := omega) only [go_sem, a16r5]
      refine early hB' _ sB (fun f => ?_)
      unfold createS
      rw [if_neg c, if_pos hN]
    | true =>
      have hd := sB.at'.disk
      simp only [DSt.cells] at hd
      have hlk := sB.at'.names.look
      have hln := sB.at'.names.len
      rw [hB.2.1] at hlk hln
      simp (disch := omega) only [go_sem, a16r6, hd, hlk]
      cases hg : nget s σ.names with
      | some g =>
        simp (disch := omega) only [go_sem, Option.isNone_some, a16r7]
        refine early hB' _ sB (fun f => ?_)
        unfold createS
        rw [if_neg c, if_neg (by simp [hN]), if_pos (by simp [hg])]
      | none =>
        have lt2 : lenTag 2 (.mp y.m) = true := rfl
        simp (disch := omega) only [go_sem, Option.isNone_none, a16r8, hd, hln, lt2, cond_true]
        refine condS_if (fun c2 => ?_) (fun c2 => ?_)
        · simp (disch := omega) only [go_sem, a16r9]
          refine early hB' _ sB (fun f => ?_)
          unfold createS
          rw [if_neg c, if_neg (by simp [hN]), if_neg (by simp [hg]), if_pos (by omega)]
        · simp (disch := omega) only [go_sem, a16r10]
          have dB := sB.at'
          have SB := dB.sep
          have own : ∀ q, Own d (beginS σ).2 y q → q < hB'.next := dB.lt
          have dlt := own d (Or.inl rfl)
          have dne : d ≠ hB'.next := by omega
          have aown : ∀ o, rowOf y.av = some o → o < hB'.next := fun o ho => own o (Or.inr (Or.inr (Or.inr (Or.inl ho))))
          have hae := dB.all.ev
          have had := dB.all.dt
          simp (disch := omega) only [go_sem, a16r11, get_put_ne, dne, hd, hae, had]
          refine stepP_app (α := FilP) (bytes := 8) (l := (beginS σ).2.all.map FilP.mk) (new := [⟨hB'.next⟩]) (dB.all.keep (fun o ho => by rw [get_reserve, get_put_ne _ _ _ _ (by have := aown o ho; omega), get_reserve])) (addsC_one _ _ _ _ rfl) rfl (by rw [hB.1]; simp [two47]; omega) (fun v' h3 hr3 hn3 ho3 hf3 hnn => ?_)
          have hn3' : h3.next = hB'.next + 2 := hn3
          have hro : ∀ o, rowOf v' = some o → rowOf y.av = some o ∨ o = hB'.next + 1 := fun o ho => by
            rcases ho3 with e | e
            · exact Or.inl (by rw [← e]; exact ho)
            · rw [e] at ho; exact Or.inr (Option.some.inj ho).symm
          have f3 : ∀ q, q ≠ hB'.next + 1 → rowOf y.av ≠ some q → h3.get q = (((hB'.reserve 1).put hB'.next (AObj.cells [AV.nils, AV.int IntKind.i64 0])).reserve 1).get q := fun q hq hw => hf3 q hq hw
          have hd3 : h3.get d = some (.cells [.int .i64 (beginS σ).2.cap, .mp y.m, .mp y.m2, y.av, y.wv, .bool (beginS σ).2.dead, .int .i64 (beginS σ).2.calls, .int .i64 (beginS σ).2.fuse, .int .i64 (beginS σ).2.fault, .int .i64 (beginS σ).2.e]) := by
            rw [f3 d (by omega) (fun e => (SB.av d e).1 rfl), get_reserve, get_put_ne _ _ _ _ dne, get_reserve]; exact hd
          have hve := hr3.ev
          have hvd := hr3.dt
          have hcl : v'.cellsOf = [v'] := by rcases hr3 with ⟨rfl, -⟩ | ⟨o, ep, j, rfl, -⟩ <;> rfl
          simp (disch := omega) only [go_sem, hve, hvd, hd3, hcl, List.length_cons, List.length_nil]
          have sN : Step hB' (h3.put d (.cells [.int .i64 (beginS σ).2.cap, .mp y.m, .mp y.m2, v', y.wv, .bool (beginS σ).2.dead, .int .i64 (beginS σ).2.calls, .int .i64 (beginS σ).2.fuse, .int .i64 (beginS σ).2.fault, .int .i64 (beginS σ).2.e])) d (beginS σ).2 y (newS (beginS σ).2 hB'.next) { y with av := v', bv := fun g => if g = hB'.next then .nils else y.bv g } := by
            refine dB.new (Nat.le_refl _) (by show hB'.next < h3.next; omega) (fun o ho => ?_) (fun o ho => ?_) (get_put_same _ _ _) ?_ ?_ (fun o h5 h6 h7 => ?_)
            · show o < h3.next
              rcases hro o ho with e | e
              · have := aown o e; omega
              · omega
            · rcases hro o ho with e | e
              · exact Or.inl e
              · exact Or.inr ⟨by omega, by omega⟩
            · rw [get_put_ne _ _ _ _ (Ne.symm dne), f3 _ (by omega) (fun e => by have := aown _ e; omega), get_reserve, get_put_same]
            · rw [List.map_append]
              refine hr3.keep (fun o ho => get_put_ne _ _ _ _ ?_)
              rcases hro o ho with e | e
              · exact (SB.av o e).1
              · omega
            · rw [get_put_ne _ _ _ _ h6, f3 o (by omega) h7, get_reserve, get_put_ne _ _ _ _ (by omega), get_reserve]
          simp (disch := omega) only [go_sem, a16r12]
          refine WO.fun (vs := [.ptr d 0, .agg [strv [], strv s, fcell (some hB'.next)]]) (by simp (disch := omega) only [go_sem]; rfl) (turnsD_step hP ⟨[], s, some hB'.next⟩ _ d _ _ sN.at' (fun f hf => by obtain rfl := Option.some.inj hf; exact List.mem_append.2 (Or.inr (List.mem_singleton.2 rfl))) (by show (beginS σ).2.waits.length ≤ _; rw [hB.2.2.2.1]; exact hw)) (fun v h5 hv => ?_)
          obtain ⟨rfl, y5, s5⟩ := hv
          simp (disch := omega) only [go_sem]
          refine ⟨hB'.next, y5, sB.frm.1, ?_, ?_⟩
          · unfold createS
            rw [if_neg c, if_neg (by simp [hN]), if_neg (by simp [hg]), if_neg (by omega)]
          · unfold createS
            rw [if_neg c, if_neg (by simp [hN]), if_neg (by simp [hg]), if_neg (by omega)]
            exact (sB.trans sN).trans s5
end Go.Am.Dk

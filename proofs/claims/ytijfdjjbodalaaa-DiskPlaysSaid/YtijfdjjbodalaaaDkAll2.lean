/- The disk's functions: SyncDir, Read, Fuse. -/
import Derived.Test.YtijfdjjbodalaaaDkAll1
set_option linter.unusedSimpArgs false
set_option linter.unusedVariables false
namespace Go.Am.Dk
open Go.Am
set_option maxRecDepth 20000
set_option maxHeartbeats 1000000
variable {P : Prog}
theorem mclone_funP (hP : DkP P) (h : Heap) (m : Nat) (es : List (AV × AV)) (bs : List Nat) (ck : Nat) (hm : h.get m = some (.map es bs ck)) : Fun P 36 [.mp m] h (fun v h' => v = .mp h.next ∧ h' = (h.reserve 1).put h.next (.map es bs ck)) := by
  refine Fun.prim (v := .mp h.next) (h' := (h.reserve 1).put h.next (.map es bs ck)) (by rw [hP.fn 36 (by decide) (by decide) (by decide) (by decide)]; rfl) (by rw [hP.pure]; rfl) (hP.clone _ _ _ ?_) ⟨rfl, rfl⟩
  have b2 : Nat.beq 36 61 = false := rfl
  have b3 : Nat.beq 36 63 = false := rfl
  have b4 : Nat.beq 36 36 = true := rfl
  simp only [prim0, orP, loadOn, addOn, cloneOn, b2, b3, b4, cond_false, cond_true, hm]
def syncDirS (σ : DSt) : Int × DSt :=
  if (beginS σ).1 ≠ 0 then beginS σ
  else (0, { (beginS σ).2 with sure := σ.names, waits := [] })
theorem DiskAt.sdir {h h' : Heap} {d k : Nat} {σ : DSt} {y : Lay} (hD : DiskAt h d σ y) (hk : h.next ≤ k) (hk' : k < h'.next) (hd : h'.get d = some (.cells ({ σ with sure := σ.names, waits := [] }.cells { y with m2 := k, wv := .nils }))) (hm : MapAt h' k σ.names)
    (ho : ∀ o, o < h.next → o ≠ d → h'.get o = h.get o) : Step h h' d σ y { σ with sure := σ.names, waits := [] } { y with m2 := k, wv := .nils } := by
  have S := hD.sep
  have own : ∀ q, Own d σ y q → q < h.next := hD.lt
  have fown : ∀ f ∈ σ.all, Own d σ y f := fun f hf => Or.inr (Or.inr (Or.inr (Or.inr (Or.inr ⟨f, hf, Or.inl rfl⟩))))
  have bown : ∀ f ∈ σ.all, ∀ o, rowOf (y.bv f) = some o → Own d σ y o := fun f hf o ho => Or.inr (Or.inr (Or.inr (Or.inr (Or.inr ⟨f, hf, Or.inr ho⟩))))
  have aown : ∀ o, rowOf y.av = some o → Own d σ y o := fun o ho => Or.inr (Or.inr (Or.inr (Or.inl ho)))
  have cases' : ∀ o, Own d { σ with sure := σ.names, waits := [] } { y with m2 := k, wv := .nils } o → Own d σ y o ∨ o = k := fun o h1 => by
    have ho' : o = d ∨ o = y.m ∨ o = k ∨ rowOf y.av = some o ∨ rowOf AV.nils = some o ∨ ∃ g ∈ σ.all, o = g ∨ rowOf (y.bv g) = some o := h1
    rcases ho' with h1 | h1 | h1 | h1 | h1 | h1
    · exact Or.inl (Or.inl h1)
    · exact Or.inl (Or.inr (Or.inl h1))
    · exact Or.inr h1
    · exact Or.inl (aown o h1)
    · cases h1
    · exact Or.inl (Or.inr (Or.inr (Or.inr (Or.inr (Or.inr h1)))))
  refine ⟨{ ok := ⟨hD.ok.names, hD.ok.names, fun t ht => by simp at ht, hD.ok.nd, hD.ok.nd, hD.ok.ad⟩, disk := hd, names := ?_, sure := hm, all := ?_, waits := Or.inl ⟨rfl, rfl⟩, cell := ?_, bytes := ?_, mm := ?_, bb := hD.bb, ab := hD.ab, wb := fun f hf o h1 => (by cases h1), aw := fun o _ h1 => (by cases h1), lt := ?_ }, ⟨by omega, fun o h1 h2 => ho o h1 (fun e => h2 (Or.inl e))⟩, ?_⟩
  · exact hD.names.of_get (ho _ (own _ (Or.inr (Or.inl rfl))) S.dm)
  · exact hD.all.keep (fun o hq => ho o (own o (aown o hq)) (S.av o hq).1)
  · intro f hf
    show h'.get f = _
    rw [ho f (own f (fown f hf)) (S.df f hf)]
    exact hD.cell f hf
  · intro f hf
    exact (hD.bytes f hf).keep (fun o hq => ho o (own o (bown f hf o hq)) (S.bv f hf o hq).1)
  · show y.m ≠ k
    have := own y.m (Or.inr (Or.inl rfl))
    omega
  · intro o h1
    rcases cases' o h1 with h1 | h1
    · have := own o h1; omega
    · omega
  · intro o h1
    rcases cases' o h1 with h1 | h1
    · exact Or.inl h1
    · exact Or.inr (by omega)
theorem syncDirD_fun (hP : DkP P) (h : Heap) (d : Nat) (σ : DSt) (y : Lay) (hD : DiskAt h d σ y) (h1 : 0 ≤ σ.calls) (h2 : σ.calls < 9000000000000000000) :
    Fun P 18 [.ptr d 0] h (fun v h' => v = .int .i64 (syncDirS σ).1 ∧ ∃ y', Step h h' d σ y (syncDirS σ).2 y') := by
  have hB := beginS_all σ
  refine Fun.of (code := a18c) (hP.code rfl) (by rw [hP.pure]; rfl) ?_
  simp (disch := omega) only [go_sem, a18c, a18r0, a18r1]
  refine WO.fun (vs := [.ptr d 0]) (by simp (disch := omega) only [go_sem]) (beginD_step hP h d σ y hD h1 h2) (fun v hA hv => ?_)
  obtain ⟨rfl, sA⟩ := hv
  unfold syncDirS
  simp (disch := omega) only [go_sem, a18r2]
  refine condS_if (fun c => ?_) (fun c => ?_)
  · rw [if_neg (by simpa using c)]
    have dA := sA.at'
    have hd := dA.disk
    simp only [DSt.cells] at hd
    obtain ⟨bs, ck, hm, hs⟩ := dA.names
    have own : ∀ q, Own d (beginS σ).2 y q → q < hA.next := dA.lt
    have dlt := own d (Or.inl rfl)
    have dne : d ≠ hA.next := by omega
    simp (disch := omega) only [go_sem, a18r3, hd]
    refine WO.fun (vs := [.mp y.m]) (by simp (disch := omega) only [go_sem]) (mclone_funP hP hA y.m _ _ _ hm) (fun v hB' hv => ?_)
    obtain ⟨rfl, rfl⟩ := hv
    simp (disch := omega) only [go_sem, get_put_ne, get_put_same, dne, hd]
    simp (disch := omega) only [go_sem, a18r4]
    rw [c]
    refine ⟨rfl, { y with m2 := hA.next, wv := .nils }, sA.trans ?_⟩
    have e0 : ({ (beginS σ).2 with sure := σ.names, waits := [] } : DSt) = { (beginS σ).2 with sure := (beginS σ).2.names, waits := [] } := by rw [hB.2.1]
    rw [e0]
    refine dA.sdir (k := hA.next) (Nat.le_refl _) (by show hA.next < hA.next + 1; omega) (get_put_same _ _ _) ?_ (fun o h5 h6 => ?_)
    · exact ⟨bs, ck, by rw [get_put_ne _ _ _ _ (Ne.symm dne), get_put_ne _ _ _ _ (Ne.symm dne), get_put_same], hs⟩
    · rw [get_put_ne _ _ _ _ h6, get_put_ne _ _ _ _ h6, get_put_ne _ _ _ _ (by omega)]; rfl
  · rw [if_pos c]
    simp (disch := omega) only [go_sem, a18r4]
    exact ⟨trivial, y, sA⟩
theorem cloneP_fun (hP : DkP P) (v : AV) (l : List UInt8) (h : Heap) (hl : l.length ≤ 1000000000000) (hv : PreC h v l) (hlt : ∀ o, rowOf v = some o → o < h.next) :
    Fun P 35 [v] h (fun v' h' => (∃ nl, v' = .nils ∧ l = [] ∧ nl = true ∨ NewRow h h' v' l) ∧ Ext h h') := by
  have hev := hv.ev
  have hdv := hv.dt
  rcases id hv with ⟨rfl, rfl⟩ | ⟨o, ep, j, rfl, hg⟩
  · refine Fun.of (code := a35c) (hP.code rfl) (by rw [hP.pure]; rfl) ?_
    simp (disch := omega) only [go_sem, a35c, a35r0, a35r1]
    simp (disch := omega) only [go_sem, a35r2]
    exact ⟨⟨true, Or.inl (by simp)⟩, Ext.refl h⟩
  · obtain ⟨n, w, h', e, q1, q2⟩ := clone_fun (P := P) (hP.code rfl) (by rw [hP.pure]; rfl) (.hs (Cel.csz UInt8) o ep 0 l.length false) l h hl (fun h' hx => addsC_pre (hv.keep (fun q hq => hx.2 q (hlt q hq)))) rfl hev hdv
    exact ⟨n, w, h', e, ⟨true, Or.inr q1⟩, q2⟩
def readS (σ : DSt) (s : List UInt8) : Option (List UInt8) × Int :=
  if σ.dead then (none, 9) else match nget s σ.names with
    | none => (none, 6)
    | some f => (some (σ.file f).b, 0)
def Bts (h h' : Heap) (v : AV) : Option (List UInt8) → Prop
  | none => v = .nils
  | some l => (v = .nils ∧ l = []) ∨ NewRow h h' v l
theorem readD_fun (hP : DkP P) (s : List UInt8) (h : Heap) (d : Nat) (σ : DSt) (y : Lay) (hD : DiskAt h d σ y) (hfl : ∀ f ∈ σ.all, (σ.file f).b.length ≤ 1000000000000) :
    Fun P 13 [.ptr d 0, strv s] h (fun v h' => ∃ w, v = .tup [w, .int .i64 (readS σ s).2] ∧ Bts h h' w (readS σ s).1 ∧ Ext h h') := by
  have hd := hD.disk
  simp only [DSt.cells] at hd
  have hl := hD.names.look
  refine Fun.of (code := a13c) (hP.code rfl) (by rw [hP.pure]; rfl) ?_
  unfold readS
  simp (disch := omega) only [go_sem, a13c, a13r0, a13r1]
  simp (disch := omega) only [go_sem, a13r3, hd]
  refine condS_split (fun c => ?_) (fun c => ?_)
  · rw [if_pos c]
    simp (disch := omega) only [go_sem, a13r4]
    exact ⟨_, rfl, rfl, Ext.refl h⟩
  · rw [if_neg (by simp [c])]
    simp (disch := omega) only [go_sem, a13r5, hd, hl]
    cases hg : nget s σ.names with
    | none =>
      simp (disch := omega) only [go_sem, Option.isNone_none, a13r6]
      exact ⟨_, rfl, rfl, Ext.refl h⟩
    | some f =>
      have hfa := hD.ok.names (s, f) (nget_mem hg)
      have hcf := hD.cell f hfa
      have hbf := hD.bytes f hfa
      have hbe := hbf.ev
      have hbd := hbf.dt
      simp (disch := omega) only [go_sem, Option.isNone_some, a13r7, hd, hl, hg, fcell_some, hcf, hbe]
      refine WO.fun (vs := [y.bv f]) (by simp (disch := omega) only [go_sem, hbe, hbd]) (cloneP_fun hP (y.bv f) (σ.file f).b h (hfl f hfa) hbf (fun o ho => hD.lt o (Or.inr (Or.inr (Or.inr (Or.inr (Or.inr ⟨f, hfa, Or.inr ho⟩))))))) (fun v h' hv => ?_)
      obtain ⟨⟨_, hv⟩, hx⟩ := hv
      have hve : ∀ i, evS i (some v) = some v := fun i => by rcases hv with ⟨rfl, -⟩ | ⟨o, ep, rfl, -⟩ <;> rfl
      have hvd : datW (some v) = some v := by rcases hv with ⟨rfl, -⟩ | ⟨o, ep, rfl, -⟩ <;> rfl
      simp (disch := omega) only [go_sem, hve, hvd]
      refine ⟨v, rfl, ?_, hx⟩
      rcases hv with ⟨e1, e2, -⟩ | e
      · exact Or.inl ⟨e1, e2⟩
      · exact Or.inr e
theorem deadD_fun (hP : DkP P) (h : Heap) (d : Nat) (σ : DSt) (y : Lay) (hD : DiskAt h d σ y) : Fun P 23 [.ptr d 0] h (fun v h' => v = .bool σ.dead ∧ h' = h) := by
  have hd := hD.disk
  simp only [DSt.cells] at hd
  refine Fun.of (code := a23c) (hP.code rfl) (by rw [hP.pure]; rfl) ?_
  simp (disch := omega) only [go_sem, a23c, a23r0, a23r1, hd]
theorem load_funP (hP : DkP P) (h : Heap) (d : Nat) (n : Int) (c0 c1 c2 c3 c4 c5 : AV) (r : List AV) (hd : h.get d = some (.cells (c0 :: c1 :: c2 :: c3 :: c4 :: c5 :: .int .i64 n :: r))) :
    Fun P 61 [.ptr d 6] h (fun v h' => v = .int .i64 n ∧ h' = h) := by
  refine Fun.prim (v := .int .i64 n) (h' := h) (by rw [hP.fn 61 (by decide) (by decide) (by decide) (by decide)]; rfl) (by rw [hP.pure]; rfl) (hP.load _ _ _ ?_) ⟨rfl, rfl⟩
  have b2 : Nat.beq 61 61 = true := rfl
  have b4 : intOf (c0 :: c1 :: c2 :: c3 :: c4 :: c5 :: AV.int IntKind.i64 n :: r)[6]? = some n := rfl
  simp only [prim0, orP, loadOn, b2, cond_true, atCell, b4, hd, Option.bind_some]
def aheadS (σ : DSt) (n : Int) : Int := if n < 1 ∨ 1099511627776 < n then 0 else σ.calls + n
theorem aheadD_fun (hP : DkP P) (n : Int) (h : Heap) (d : Nat) (σ : DSt) (y : Lay) (hD : DiskAt h d σ y) (h1 : 0 ≤ σ.calls) (h2 : σ.calls < 8000000000000000000) : Fun P 49 [.ptr d 0, .int .i64 n] h (fun v h' => v = .int .i64 (aheadS σ n) ∧ h' = h) := by
  have hd := hD.disk
  simp only [DSt.cells] at hd
  refine Fun.of (code := a49c) (hP.code rfl) (by rw [hP.pure]; rfl) ?_
  unfold aheadS
  simp (disch := omega) only [go_sem, a49c, a49r0, a49r1]
  refine guardS_pf (fun c w => ?_) (fun c w => ?_) <;> simp (disch := omega) only [go_sem, w]
  · refine condS_if (fun c2 => ?_) (fun c2 => ?_)
    · simp (disch := omega) only [go_sem, a49r2]
      rw [if_pos (Or.inr c2)]
      exact ⟨rfl, trivial⟩
    · simp (disch := omega) only [go_sem, a49r3]
      refine WO.fun (vs := [.ptr d 6]) (by simp (disch := omega) only [go_sem]) (load_funP hP h d σ.calls _ _ _ _ _ _ _ hd) (fun v h' hv => ?_)
      obtain ⟨rfl, rfl⟩ := hv
      rw [if_neg (by omega)]
      simp (disch := omega) only [go_sem]
  · simp (disch := omega) only [go_sem, a49r2]
    rw [if_pos (Or.inl c)]
    exact ⟨rfl, trivial⟩
def fuseS (σ : DSt) (n : Int) : DSt := { σ with fuse := aheadS σ n }
theorem fuseD_fun (hP : DkP P) (n : Int) (h : Heap) (d : Nat) (σ : DSt) (y : Lay) (hD : DiskAt h d σ y) (h1 : 0 ≤ σ.calls) (h2 : σ.calls < 8000000000000000000) : Fun P 20 [.ptr d 0, .int .i64 n] h (fun v h' => Step h h' d σ y (fuseS σ n) y) := by
  have hd := hD.disk
  simp only [DSt.cells] at hd
  refine Fun.of (code := a20c) (hP.code rfl) (by rw [hP.pure]; rfl) ?_
  simp (disch := omega) only [go_sem, a20c, a20r0]
  simp (disch := omega) only [go_sem, a20r1]
  refine WO.fun (vs := [.ptr d 0, .int .i64 n]) (by simp (disch := omega) only [go_sem]) (aheadD_fun hP n h d σ y hD h1 h2) (fun v h' hv => ?_)
  obtain ⟨rfl, rfl⟩ := hv
  simp (disch := omega) only [go_sem, hd]
  exact Step.only (hD.turn (get_put_same _ _ _) (fun o _ ho => get_put_ne _ _ _ _ ho) (Nat.le_refl _) rfl rfl rfl rfl rfl) rfl (fun o ho => get_put_ne _ _ _ _ ho) rfl
end Go.Am.Dk
/- slices.DeleteFunc over the disk's files. -/
namespace Go.Am.Dk
open Go.Am
set_option maxRecDepth 20000
set_option maxHeartbeats 1000000
variable {P : Prog}
def pents (L : List Nat) : List (AV × AV) := L.map fun g => (.ptr g 0, .bool true)
theorem keyEq_ptr {h : Heap} {f g : Nat} (h1 : liveP h f 0 = true) (h2 : liveP h g 0 = true) : keyEq h (.ptr f 0) (.ptr g 0) = some (decide (f = g)) := by
  simp only [keyEq, nbeq, h1, h2, Bool.and_self, cond_true]
  by_cases e : f = g <;> simp [e]
theorem findA_ptr {h : Heap} {f : Nat} (hf : liveP h f 0 = true) : ∀ L : List Nat, (∀ g ∈ L, liveP h g 0 = true) → findA h (.ptr f 0) (pents L) = some (if f ∈ L then some (.bool true) else none)
  | [], _ => rfl
  | g :: L, hL => by
    have ih := findA_ptr hf L (fun x hx => hL x (List.mem_cons_of_mem _ hx))
    simp only [pents, List.map_cons, findA, keyEq_ptr hf (hL g List.mem_cons_self), Option.bind_some]
    by_cases e : f = g
    · simp [e]
    · simp only [e, decide_false, cond_false, List.mem_cons, false_or]
      exact ih
theorem updA_ptr {h : Heap} {f : Nat} (hf : liveP h f 0 = true) : ∀ L : List Nat, (∀ g ∈ L, liveP h g 0 = true) → updA h (.ptr f 0) (.bool true) (pents L) = some (pents (if f ∈ L then L else L ++ [f]))
  | [], _ => rfl
  | g :: L, hL => by
    have ih := updA_ptr hf L (fun x hx => hL x (List.mem_cons_of_mem _ hx))
    simp only [pents, List.map_cons, updA, keyEq_ptr hf (hL g List.mem_cons_self), Option.bind_some] at ih ⊢
    by_cases e : f = g
    · simp [e]
    · simp only [e, decide_false, cond_false, List.mem_cons, false_or, ih, Option.bind_some]
      split <;> simp
structure HasAt (h : Heap) (hb hm : Nat) (L : List Nat) : Prop where
  box : h.get hb = some (.cells [.mp hm])
  map : ∃ bs ck, h.get hm = some (.map (pents L) bs ck)
  live : ∀ g ∈ L, liveP h g 0 = true
theorem has_fun (hP : DkP P) (h : Heap) (hb hm f : Nat) (L : List Nat) (hH : HasAt h hb hm L) (hf : liveP h f 0 = true) : Fun P 52 [.ptr f 0, .ptr hb 0] h (fun v h' => v = .bool (!decide (f ∈ L)) ∧ h' = h) := by
  obtain ⟨hbx, ⟨bs, ck, hmp⟩, hlv⟩ := hH
  have hl : lookM h 2 (.bool false) false (.ptr f 0) (h.get hm) = some (.bool (decide (f ∈ L))) := by
    rw [hmp]
    show (findA h (.ptr f 0) (pents L)).bind _ = _
    rw [findA_ptr hf L hlv, Option.bind_some]
    by_cases e : f ∈ L <;> simp [e]
  refine Fun.of (code := a52c) (hP.code rfl) (by rw [hP.pure]; rfl) ?_
  simp (disch := omega) only [go_sem, a52c, a52r0]
  simp (disch := omega) only [go_sem, a52r1, hbx, hl]
theorem idx_fun (hP : DkP P) (h : Heap) (hb hm o ep : Nat) (l L : List Nat) (j : List AV) (hH : HasAt h hb hm L) (hg : h.get o = some (.row 1 ep (l.map (fun f => AV.ptr f 0) ++ j))) (hl : l.length ≤ 1000000000) (hlv : ∀ f ∈ l, liveP h f 0 = true) :
    Fun P 69 [.hs 1 o ep 0 l.length false, .fn 52 [.ptr hb 0]] h (fun v h' => h' = h ∧ ((v = .int .i64 (-1) ∧ ∀ f ∈ l, f ∈ L) ∨ ∃ k : Nat, v = .int .i64 k ∧ k < l.length ∧ (∀ f ∈ l.take k, f ∈ L) ∧ l.getD k 0 ∉ L)) := by
  refine Fun.of (code := a69c) (hP.code rfl) (by rw [hP.pure]; rfl) ?_
  simp (disch := omega) only [go_sem, a69c, a69r0]
  have lt1 : lenTag 1 (.hs 1 o ep 0 l.length false) = true := rfl
  have ln1 : ∀ h, lenA h (.hs 1 o ep 0 l.length false) = some l.length := fun _ => rfl
  simp (disch := omega) only [go_sem, a69r1, lt1, ln1, cond_true]
  refine Wp_loop (fun x : Fr × Nat × Nat => (fget x.1 0 = some (.hs 1 o ep 0 l.length false) ∧ fget x.1 1 = some (.fn 52 [.ptr hb 0]) ∧ fget x.1 7 = some (.int .i64 l.length) ∧ fget x.1 8 = some (.int .i64 x.2.2)) ∧ x.2.2 ≤ l.length ∧ ∀ f ∈ l.take x.2.2, f ∈ L)
    (fun (fr0, t, k) => { fr := fr0, st := t, h := h }) (fun x => l.length - x.2.2) (_, 0, 0) rfl ⟨⟨rfl, rfl, rfl, rfl⟩, Nat.zero_le _, by simp⟩ ?_
  rintro ⟨fr0, t, k⟩ ⟨⟨q0, q1, q7, q8⟩, g1, g2⟩
  simp only at q0 q1 q7 q8 g1 g2
  simp (disch := omega) only [go_sem, a69l0, a69r2, q0, q1, q7, q8]
  refine condS_if (fun hk => ?_) (fun hk => ?_)
  · have hk' : k < l.length := by omega
    have hc : (l.map (fun f => AV.ptr f 0) ++ j)[k]? = some (.ptr (l.getD k 0) 0) := by
      rw [List.getElem?_append_left (by simpa using hk'), List.getElem?_map, List.getD_eq_getElem?_getD, List.getElem?_eq_getElem hk']
      rfl
    have r1 := ld_raw _ _ _ hc
    simp (disch := omega) only [go_sem, a69r3, q0, q1, q7, q8]
    simp (disch := omega) only [go_sem, a69r4, hg, r1, Nat.mul_one, Nat.zero_add]
    have hmem : l.getD k 0 ∈ l := by
      rw [List.getD_eq_getElem?_getD, List.getElem?_eq_getElem hk']
      exact List.getElem_mem hk'
    refine WO_funv (vs := [.ptr (l.getD k 0) 0]) rfl (by simp (disch := omega) only [go_sem]) (has_fun hP h hb hm (l.getD k 0) L hH (hlv _ hmem)) (fun v h' hv => ?_)
    obtain ⟨rfl, rfl⟩ := hv
    simp (disch := omega) only [go_sem]
    by_cases e : l.getD k 0 ∈ L
    · simp (disch := omega) only [go_sem, decide_eq_true e]
      simp (disch := omega) only [go_sem, a69r6]
      refine ⟨(_, t, k + 1), ⟨⟨rfl, rfl, rfl, rfl⟩, by simp only; omega, fun f hf => ?_⟩, by simp only; omega, rfl⟩
      simp only at hf
      rw [List.take_succ_eq_append_getElem hk', List.mem_append, List.mem_singleton] at hf
      rcases hf with hf | hf
      · exact g2 f hf
      · rw [List.getD_eq_getElem?_getD, List.getElem?_eq_getElem hk'] at e
        rw [hf]; exact e
    · simp (disch := omega) only [go_sem, decide_eq_false e]
      simp (disch := omega) only [go_sem, a69r5]
      exact ⟨trivial, Or.inr ⟨k, rfl, hk', g2, e⟩⟩
  · simp (disch := omega) only [go_sem, a69r7]
    refine ⟨trivial, Or.inl ⟨by trivial, fun f hf => g2 f ?_⟩⟩
    rw [List.take_of_length_le (by omega)]
    exact hf
theorem del_fun (hP : DkP P) (h : Heap) (hb hm o ep : Nat) (l L : List Nat) (j : List AV) (hH : HasAt h hb hm L) (hg : h.get o = some (.row 1 ep (l.map (fun f => AV.ptr f 0) ++ j))) (hl : l.length ≤ 1000000000) (hlv : ∀ f ∈ l, liveP h f 0 = true) :
    Fun P 51 [.hs 1 o ep 0 l.length false, .fn 52 [.ptr hb 0]] h (fun v h' => v = .hs 1 o ep 0 (l.filter (fun f => decide (f ∈ L))).length false ∧ h'.get o = some (.row 1 ep ((l.filter (fun f => decide (f ∈ L))).map (fun f => AV.ptr f 0) ++ (List.replicate (l.length - (l.filter (fun f => decide (f ∈ L))).length) AV.nilp ++ j))) ∧ h'.next = h.next ∧ ∀ q, q ≠ o → h'.get q = h.get q) := by
  refine Fun.of (code := a51c) (hP.code rfl) (by rw [hP.pure]; rfl) ?_
  simp (disch := omega) only [go_sem, a51c, a51r0]
  simp (disch := omega) only [go_sem, a51r1]
  refine WO.fun (vs := [.hs 1 o ep 0 l.length false, .fn 52 [.ptr hb 0]]) (by simp (disch := omega) only [go_sem]) (idx_fun hP h hb hm o ep l L j hH hg hl hlv) (fun v h' hv => ?_)
  obtain ⟨rfl, hv⟩ := hv
  rcases hv with ⟨rfl, hall⟩ | ⟨k0, rfl, hk0, hpre, hat⟩
  · simp (disch := omega) only [go_sem]
    simp (disch := omega) only [go_sem, a51r2]
    simp (disch := omega) only [go_sem, a51r3]
    have hfl : l.filter (fun f => decide (f ∈ L)) = l := List.filter_eq_self.2 (fun f hf => by simpa using hall f hf)
    rw [hfl]
    rw [Nat.sub_self]
    exact ⟨by trivial, hg, by trivial, fun _ _ => by trivial⟩
  · have w0 : decide ((k0 : Int) = -1) = false := by simp only [decide_eq_false_iff_not]; omega
    have lt1 : lenTag 1 (.hs 1 o ep 0 l.length false) = true := rfl
    have ln1 : ∀ h, lenA h (.hs 1 o ep 0 l.length false) = some l.length := fun _ => rfl
    simp (disch := omega) only [go_sem]
    simp (disch := omega) only [go_sem, a51r2, w0]
    simp (disch := omega) only [go_sem, a51r4]
    have live' : ∀ (hh : Heap), (∀ q, q ≠ o → hh.get q = h'.get q) → ∀ g, liveP h' g 0 = true → liveP hh g 0 = true := fun hh hx g hl => by
      have hne : g ≠ o := fun e => by
        subst e
        simp [liveP, hg] at hl
      unfold liveP at hl ⊢
      rw [hx g hne]; exact hl
    have has' : ∀ (hh : Heap), (∀ q, q ≠ o → hh.get q = h'.get q) → HasAt hh hb hm L := fun hh hx => by
      obtain ⟨hbx, ⟨bs, ck, hmp⟩, hlv⟩ := hH
      have n1 : hb ≠ o := fun e => by subst e; rw [hbx] at hg; simp at hg
      have n2 : hm ≠ o := fun e => by subst e; rw [hmp] at hg; simp at hg
      exact ⟨(hx hb n1).trans hbx, ⟨bs, ck, (hx hm n2).trans hmp⟩, fun g hgl => live' hh hx g (hlv g hgl)⟩
    have R0len : (l.map (fun f => AV.ptr f 0) ++ j).length = l.length + j.length := by simp
    have R0at : ∀ n, n < l.length → (l.map (fun f => AV.ptr f 0) ++ j)[n]? = some (.ptr (l.getD n 0) 0) := fun n hn => by
      rw [List.getElem?_append_left (by simpa using hn), List.getElem?_map, List.getD_eq_getElem?_getD, List.getElem?_eq_getElem hn]
      rfl
    generalize hR0 : (l.map (fun f => AV.ptr f 0) ++ j) = R0 at hg R0len R0at
    have kp0 : (l.take (k0 + 1)).filter (fun f => decide (f ∈ L)) = l.take k0 := by
      rw [List.take_succ_eq_append_getElem hk0, List.filter_append]
      have h1 : (l.take k0).filter (fun f => decide (f ∈ L)) = l.take k0 := List.filter_eq_self.2 (fun f hf => by simpa using hpre f hf)
      have h2 : l[k0] ∉ L := by
        rw [List.getD_eq_getElem?_getD, List.getElem?_eq_getElem hk0] at hat
        exact hat
      rw [h1]
      simp [h2]
    refine Wp_loop (fun x : Fr × Nat × Nat × Nat × List AV × Heap => (fget x.1 0 = some (.hs 1 o ep 0 l.length false) ∧ fget x.1 1 = some (.fn 52 [.ptr hb 0]) ∧ fget x.1 5 = some (.int .i64 x.2.2.1) ∧ fget x.1 6 = some (.int .i64 x.2.2.2.1)) ∧
        (x.2.2.1 < x.2.2.2.1 ∧ x.2.2.2.1 ≤ l.length ∧ x.2.2.1 = ((l.take x.2.2.2.1).filter (fun f => decide (f ∈ L))).length) ∧ (x.2.2.2.2.1.length = R0.length ∧ x.2.2.2.2.1.take x.2.2.1 = ((l.take x.2.2.2.1).filter (fun f => decide (f ∈ L))).map (fun f => AV.ptr f 0) ∧ ∀ n, x.2.2.2.1 ≤ n → x.2.2.2.2.1[n]? = R0[n]?) ∧
        x.2.2.2.2.2.get o = some (.row 1 ep x.2.2.2.2.1) ∧ x.2.2.2.2.2.next = h'.next ∧ ∀ q, q ≠ o → x.2.2.2.2.2.get q = h'.get q)
      (fun (fr0, t, i, n, R, hh) => { fr := fr0, st := t, h := hh }) (fun x => l.length - x.2.2.2.1) (_, 0, k0, k0 + 1, R0, h') rfl ⟨⟨rfl, rfl, rfl, rfl⟩, ⟨by simp only; omega, by simp only; omega, by simp only; rw [kp0, List.length_take]; omega⟩, ⟨rfl, ?_, fun _ _ => rfl⟩, hg, rfl, fun _ _ => rfl⟩ ?_
    · simp only
      rw [kp0, ← hR0, List.take_append_of_le_length (by simp; omega), List.map_take]
    rintro ⟨fr0, t, i, n, R, hh⟩ ⟨⟨q0, q1, q5, q6⟩, ⟨g1, g2, g3⟩, ⟨g4, g5, g6⟩, g7, g8, g9⟩
    simp only at q0 q1 q5 q6 g1 g2 g3 g4 g5 g6 g7 g8 g9
    simp (disch := omega) only [go_sem, a51l0, a51r5, q0, q1, q5, q6, lt1, ln1, cond_true]
    refine condS_if (fun hk => ?_) (fun hk => ?_)
    · have hk' : n < l.length := by omega
      have hc : R[n]? = some (.ptr (l.getD n 0) 0) := (g6 n (Nat.le_refl _)).trans (R0at n hk')
      have r1 := ld_raw _ _ _ hc
      have hmem : l.getD n 0 ∈ l := by
        rw [List.getD_eq_getElem?_getD, List.getElem?_eq_getElem hk']
        exact List.getElem_mem hk'
      simp (disch := omega) only [go_sem, a51r6, q0, q1, q5, q6, g7, r1, Nat.mul_one, Nat.zero_add]
      simp (disch := omega) only [go_sem, a51r7]
      refine WO_funv (vs := [.ptr (l.getD n 0) 0]) rfl (by simp (disch := omega) only [go_sem]) (has_fun hP hh hb hm (l.getD n 0) L (has' hh g9) (live' hh g9 _ (hlv _ hmem))) (fun v h2 hv => ?_)
      obtain ⟨rfl, rfl⟩ := hv
      simp (disch := omega) only [go_sem]
      have tk : l.take (n + 1) = l.take n ++ [l.getD n 0] := by
        rw [List.take_succ_eq_append_getElem hk', List.getD_eq_getElem?_getD, List.getElem?_eq_getElem hk']
        rfl
      by_cases e : l.getD n 0 ∈ L
      · have kp : (l.take (n + 1)).filter (fun f => decide (f ∈ L)) = (l.take n).filter (fun f => decide (f ∈ L)) ++ [l.getD n 0] := by
          rw [tk, List.filter_append]
          simp only [List.filter_cons, decide_eq_true e, if_true, List.filter_nil]
        have r2 := st_raw R i (.ptr (l.getD n 0) 0) (by omega)
        simp (disch := omega) only [go_sem, decide_eq_true e]
        simp (disch := omega) only [go_sem, a51r8, g7, r2, Nat.mul_one, Nat.zero_add]
        simp (disch := omega) only [go_sem, a51r9]
        simp (disch := omega) only [go_sem, a51r10]
        have hiR : i < R.length := by rw [g4]; omega
        refine ⟨(_, t, i + 1, n + 1, R.set i (.ptr (l.getD n 0) 0), h2.put o (.row 1 ep (R.set i (.ptr (l.getD n 0) 0)))), ⟨⟨rfl, rfl, rfl, rfl⟩, ⟨by simp only; omega, by simp only; omega, by simp only; rw [kp, List.length_append, ← g3]; rfl⟩, ⟨by simp only [List.length_set]; exact g4, ?_, fun n' hn' => ?_⟩, get_put_same _ _ _, g8, fun q hq => (get_put_ne _ _ _ _ hq).trans (g9 q hq)⟩, by simp only; omega, rfl⟩
        · simp only
          rw [kp, List.map_append, ← g5]
          rw [List.take_succ_eq_append_getElem (by rw [List.length_set]; exact hiR), List.take_set_of_le (Nat.le_refl _)]
          simp
        · simp only at hn' ⊢
          rw [List.getElem?_set_ne (by omega)]
          exact g6 n' (by omega)
      · have kp : (l.take (n + 1)).filter (fun f => decide (f ∈ L)) = (l.take n).filter (fun f => decide (f ∈ L)) := by
          rw [tk, List.filter_append]
          simp only [List.filter_cons, decide_eq_false e, Bool.false_eq_true, if_false, List.filter_nil, List.append_nil]
        simp (disch := omega) only [go_sem, decide_eq_false e]
        simp (disch := omega) only [go_sem, a51r10]
        refine ⟨(_, t, i, n + 1, R, h2), ⟨⟨rfl, rfl, rfl, rfl⟩, ⟨by simp only; omega, by simp only; omega, by simp only; rw [kp]; exact g3⟩, ⟨g4, by simp only; rw [kp]; exact g5, fun n' hn' => g6 n' (by simp only at hn'; omega)⟩, g7, g8, g9⟩, by simp only; omega, rfl⟩
    · have hn : n = l.length := by omega
      subst hn
      have b0 : Nat.beq (l.length - i) 0 = false := by
        simp only [nbeq, decide_eq_false_iff_not]; omega
      have ov := over_raw R i (List.replicate (l.length - i) AV.nilp) (by simp; omega)
      have hclr : ∀ (fr1 : Fr) (t1 : Nat), clrO { fr := fr1, st := t1, h := hh } .nilp (some (.hs 1 o ep i (l.length - i) false)) = some (.tup [], { fr := fr1, st := t1, h := hh.put o (.row 1 ep (R.take i ++ (List.replicate (l.length - i) AV.nilp ++ R.drop (i + (List.replicate (l.length - i) AV.nilp).length)))) }) := fun fr1 t1 => by
        have b1 : Nat.beq 1 1 = true := rfl
        simp only [clrO, b0, b1, cond_false, cond_true, wr_eptr, g7, wrE_row, ov, Option.bind_some, undefA]
      simp (disch := omega) only [go_sem, a51r11, hclr]
      simp (disch := omega) only [go_sem, a51r12]
      rw [List.take_length] at g3 g5
      rw [g5]
      have hdr : R.drop (i + (List.replicate (l.length - i) AV.nilp).length) = j := by
        rw [List.length_replicate, show i + (l.length - i) = l.length by omega]
        have : R0.drop l.length = j := by rw [← hR0]; exact List.drop_left' (by simp)
        rw [← this]
        refine List.ext_getElem? (fun n => ?_)
        rw [List.getElem?_drop, List.getElem?_drop]
        exact g6 _ (by omega)
      rw [hdr, ← g3]
      refine ⟨by rfl, rfl, g8, fun q hq => (get_put_ne _ _ _ _ hq).trans (g9 q hq)⟩
end Go.Am.Dk
/- Boot, its deterministic beginning: the turns are done, the files are cut. -/
namespace Go.Am.Dk
open Go.Am
set_option maxRecDepth 20000
set_option maxHeartbeats 1000000
variable {P : Prog}
theorem DiskAt.sput {h h' : Heap} {d : Nat} {σ : DSt} {y : Lay} {n : NMap} (hD : DiskAt h d σ y) (hm : MapAt h' y.m2 n) (hn : ∀ p ∈ n, p.2 ∈ σ.all) (hnd : (n.map (·.1)).Nodup) (ho : ∀ o, o ≠ y.m2 → h'.get o = h.get o) (hx : h'.next = h.next) : DiskAt h' d { σ with sure := n } y := by
  have S := hD.sep
  refine ⟨⟨hD.ok.names, hn, hD.ok.waits, hD.ok.nd, hnd, hD.ok.ad⟩, ?_, ?_, hm, ?_, ?_, ?_, ?_, hD.mm, hD.bb, hD.ab, hD.wb, hD.aw, ?_⟩
  · rw [ho d (Ne.symm S.dm2)]; exact hD.disk
  · exact hD.names.of_get (ho _ hD.mm)
  · exact hD.all.keep (fun o hq => ho o (S.av o hq).2.2.1)
  · exact hD.waits.keep (fun o hq => ho o (S.wv o hq).2.2.1)
  · intro f hf
    rw [ho f (S.fm2 f hf)]
    exact hD.cell f hf
  · intro f hf
    exact (hD.bytes f hf).keep (fun o hq => ho o (S.bv f hf o hq).2.2.1)
  · intro o hq
    rw [hx]
    exact hD.lt o hq
def tkS (σ : DSt) (turns : Int) : Nat := (max 0 (min turns σ.waits.length)).toNat
def bootNames (σ : DSt) (k : Nat) : NMap := (σ.waits.take k).foldl (fun n t => turnDo t n) σ.sure
theorem bootNames_succ {σ : DSt} {k : Nat} (hk : k < σ.waits.length) : bootNames σ (k + 1) = turnDo (σ.waits.getD k default) (bootNames σ k) := by
  unfold bootNames
  rw [List.take_succ_eq_append_getElem hk, List.foldl_append, List.getD_eq_getElem?_getD, List.getElem?_eq_getElem hk]
  rfl
theorem bootNames_ok {σ : DSt} (hO : σ.Ok) : ∀ k, k ≤ σ.waits.length → (∀ p ∈ bootNames σ k, p.2 ∈ σ.all) ∧ ((bootNames σ k).map (·.1)).Nodup
  | 0, _ => ⟨hO.sure, hO.sd⟩
  | k + 1, hk => by
    obtain ⟨h1, h2⟩ := bootNames_ok hO k (by omega)
    rw [bootNames_succ (by omega)]
    have hm : σ.waits.getD k default ∈ σ.waits := by
      rw [List.getD_eq_getElem?_getD, List.getElem?_eq_getElem (show k < σ.waits.length by omega)]
      exact List.getElem_mem _
    exact ⟨turnDo_all h1 (hO.waits _ hm), nodup_turnDo h2⟩
theorem boot_turns (hP : DkP P) (h : Heap) (d : Nat) (σ : DSt) (y : Lay) (hD : DiskAt h d σ y) (turns : Int) (bv : AV) (hw : σ.waits.length ≤ 1000000000) (st : Nat) (hbe : ∀ i, evS i (some bv) = some bv) (hbd : datW (some bv) = some bv) :
    Wp P (.seq (.dreg 0 a21d3 [0, 2, 12, 32, 33, 34]) (.block 0 (.loop a21l0))) { fr := [(0, .ptr d 0), (1, .int .i64 turns), (2, bv), (19, .bool false)], st := st, h := h }
      (fun e s' => e = .normal ∧ fget s'.fr 0 = some (.ptr d 0) ∧ fget s'.fr 2 = some bv ∧ fget s'.fr 12 = none ∧ DiskAt s'.h d { σ with sure := bootNames σ (tkS σ turns) } y ∧ s'.h.next = h.next ∧ ∀ o, o ≠ y.m2 → s'.h.get o = h.get o) := by
  have hd := hD.disk
  simp only [DSt.cells] at hd
  have hwe := hD.waits.ev
  have hwd := hD.waits.dt
  have hwl := hD.waits.len
  have hwt := hD.waits.tag
  have htk : tkS σ turns ≤ σ.waits.length := by unfold tkS; omega
  have loop : ∀ (o ep : Nat) (j : List AV) (fr0 : Fr) (st : Nat), h.get o = some (.row 3 ep (σ.waits.flatMap Cel.ccells ++ j)) → y.wv = .hs 3 o ep 0 σ.waits.length false → fget fr0 12 = none → fget fr0 0 = some (.ptr d 0) → fget fr0 2 = some bv → fget fr0 32 = some (.hs 3 o ep 0 (tkS σ turns) false) → fget fr0 33 = some (.int .i64 (tkS σ turns)) → fget fr0 34 = some (.int .i64 0) →
      Wp P (.loop a21l0) { fr := fr0, st := st, h := h } (blockQ 0 fun e s' => e = .normal ∧ fget s'.fr 0 = some (.ptr d 0) ∧ fget s'.fr 2 = some bv ∧ fget s'.fr 12 = none ∧ DiskAt s'.h d { σ with sure := bootNames σ (tkS σ turns) } y ∧ s'.h.next = h.next ∧ ∀ o, o ≠ y.m2 → s'.h.get o = h.get o) := by
    intro o ep j fr0 st hg hwv f12 f0 f2 f32 f33 f34
    refine Wp_loop (fun x : Fr × Nat × Nat × Heap => (fget x.1 12 = none ∧ fget x.1 0 = some (.ptr d 0) ∧ fget x.1 2 = some bv ∧ fget x.1 32 = some (.hs 3 o ep 0 (tkS σ turns) false) ∧ fget x.1 33 = some (.int .i64 (tkS σ turns)) ∧ fget x.1 34 = some (.int .i64 x.2.2.1)) ∧ x.2.2.1 ≤ tkS σ turns ∧ DiskAt x.2.2.2 d { σ with sure := bootNames σ x.2.2.1 } y ∧ x.2.2.2.next = h.next ∧ ∀ o, o ≠ y.m2 → x.2.2.2.get o = h.get o)
      (fun (fr0, t, k, hh) => { fr := fr0, st := t, h := hh }) (fun x => tkS σ turns - x.2.2.1) (fr0, st, 0, h) rfl ⟨⟨f12, f0, f2, f32, f33, f34⟩, Nat.zero_le _, hD, rfl, fun _ _ => rfl⟩ ?_
    rintro ⟨fr1, t, k, hh⟩ ⟨⟨q12, q0, q2, q32, q33, q34⟩, g1, g2, g3, g4⟩
    simp only at q12 q0 q2 q32 q33 q34 g1 g2 g3 g4
    simp (disch := omega) only [go_sem, a21l0, a21r4, q12, q0, q2, q32, q33, q34, hbe]
    refine condS_if (fun hk => ?_) (fun hk => ?_)
    · have hk' : k < σ.waits.length := by omega
      have hon : o ≠ y.m2 := fun e => (hD.sep.wv o (by rw [hwv]; rfl)).2.2.1 e
      have hgh : hh.get o = some (.row 3 ep (σ.waits.flatMap Cel.ccells ++ j)) := (g4 o hon).trans hg
      have r1 := ld_pre (α := DTurn) (l := σ.waits) (j := j) hk'
      have hcs : Cel.csz DTurn = 3 := rfl
      obtain ⟨wt, hwt⟩ : ∃ wt, σ.waits.getD k default = wt := ⟨_, rfl⟩
      have ce : Cel.ccells wt = [strv wt.fr, strv wt.to, fcell wt.f] := rfl
      rw [hcs, hwt, ce] at r1
      have hdh := g2.disk
      simp only [DSt.cells] at hdh
      simp (disch := omega) only [go_sem, a21r5, q12, q0, q2, q32, q33, q34, hbe, hgh, r1]
      simp (disch := omega) only [go_sem, a21d6, hdh]
      refine WD_fun (vs := [.agg [strv wt.fr, strv wt.to, fcell wt.f], .mp y.m2]) (by simp (disch := omega) only [go_sem]) (do_fun hP wt hh y.m2 _ g2.sure) (fun v h' hv => rfl) (fun v h' hv => ?_)
      obtain ⟨hm', e1, e2⟩ := hv
      simp (disch := omega) only [go_sem]
      simp (disch := omega) only [go_sem, a21r7]
      have hO := bootNames_ok (σ := σ) hD.ok (k + 1) (by omega)
      have hs : DiskAt h' d { σ with sure := bootNames σ (k + 1) } y := by
        refine g2.sput (n := bootNames σ (k + 1)) ?_ hO.1 hO.2 e2 e1
        rw [bootNames_succ hk', hwt]
        exact hm'
      exact ⟨(_, t + 2, k + 1, h'), ⟨⟨rfl, rfl, rfl, rfl, rfl, rfl⟩, by simp only; omega, hs, e1.trans g3, fun o ho => (e2 o ho).trans (g4 o ho)⟩, by simp only; omega, rfl⟩
    · have hkk : k = tkS σ turns := by omega
      simp (disch := omega) only [go_sem]
      rw [hkk] at g2
      exact ⟨by trivial, by trivial, by trivial, by trivial, g2, g3, g4⟩
  rcases hD.waits with ⟨hwv, hwn⟩ | ⟨o, ep, j, hwv, hg⟩
  · rw [hwv] at hd
    have htk0 : tkS σ turns = 0 := by rw [hwn] at htk; simpa using htk
    have htk2 : (max 0 (min turns (σ.waits.length : Int))).toNat = 0 := htk0
    have lt1 : lenTag 1 .nils = true := rfl
    have ln1 : ∀ h, lenA h .nils = some σ.waits.length := fun _ => by rw [hwn]; rfl
    have ln2 : ∀ h, lenA h .nils = some 0 := fun _ => rfl
    simp (disch := omega) only [go_sem, a21d3, hd, lt1, ln1, htk2, cond_true]
    refine Wp_unroll ?_
    have w0 : decide ((0 : Int) < (σ.waits.length : Int)) = false := by rw [hwn]; rfl
    simp (disch := omega) only [go_sem, a21l0, a21r4, w0]
    rw [htk0]
    exact ⟨by trivial, by trivial, by trivial, by trivial, hD, by trivial, fun _ _ => by trivial⟩
  · rw [hwv] at hd
    have htk2 : (max 0 (min turns (σ.waits.length : Int))).toNat = tkS σ turns := rfl
    have hcs : Cel.csz DTurn = 3 := rfl
    rw [hcs] at hd hwv hg
    have lt1 : ∀ n, lenTag 1 (.hs 3 o ep 0 n false) = true := fun _ => rfl
    have ln1 : ∀ h n, lenA h (.hs 3 o ep 0 n false) = some n := fun _ _ => rfl
    simp (disch := omega) only [go_sem, a21d3, hd, lt1, ln1, htk2, cond_true]
    simp only [Nat.sub_zero]
    exact loop o ep j _ _ hg hwv rfl rfl rfl rfl rfl rfl
end Go.Am.Dk
/- Boot, its deterministic beginning: the files are cut. -/
namespace Go.Am.Dk
open Go.Am
set_option maxRecDepth 20000
set_option maxHeartbeats 2000000
variable {P : Prog}
def kpS (x : DFile) (keep : List Int) (i : Nat) : Nat := if i < keep.length then (max 0 (min (keep.getD i 0) ((x.b.length : Int) - x.sure))).toNat else 0
def cutOne (x : DFile) (keep : List Int) (i : Nat) : DFile × Nat := if x.b.length = x.sure then (x, i) else (⟨x.b.take (x.sure + kpS x keep i), x.sure + kpS x keep i⟩, i + 1)
def cutN (keep : List Int) (all : List Nat) (file : Nat → DFile) : Nat → (Nat → DFile) × Nat
  | 0 => (file, 0)
  | k + 1 => ((fun g => if g = all.getD k 0 then (cutOne ((cutN keep all file k).1 (all.getD k 0)) keep (cutN keep all file k).2).1 else (cutN keep all file k).1 g), (cutOne ((cutN keep all file k).1 (all.getD k 0)) keep (cutN keep all file k).2).2)
theorem kp_le {x : DFile} {keep : List Int} {i : Nat} (h : x.sure ≤ x.b.length) : x.sure + kpS x keep i ≤ x.b.length := by
  unfold kpS
  split
  · omega
  · omega
theorem cutOne_ok {x : DFile} {keep : List Int} {i : Nat} (h : x.sure ≤ x.b.length) : (cutOne x keep i).1.sure ≤ (cutOne x keep i).1.b.length ∧ (cutOne x keep i).1.b.length ≤ x.b.length ∧ (cutOne x keep i).2 ≤ i + 1 := by
  have := kp_le (keep := keep) (i := i) h
  unfold cutOne
  split
  · exact ⟨h, Nat.le_refl _, by simp⟩
  · simp only [List.length_take]
    omega
theorem cutN_ok {keep : List Int} {all : List Nat} {file : Nat → DFile} (h : ∀ f ∈ all, (file f).sure ≤ (file f).b.length) : ∀ k, k ≤ all.length → (∀ f ∈ all, ((cutN keep all file k).1 f).sure ≤ ((cutN keep all file k).1 f).b.length ∧ ((cutN keep all file k).1 f).b.length ≤ (file f).b.length) ∧ (cutN keep all file k).2 ≤ k
  | 0, _ => ⟨fun f hf => ⟨h f hf, Nat.le_refl _⟩, Nat.le_refl _⟩
  | k + 1, hk => by
    obtain ⟨h1, h2⟩ := cutN_ok h k (by omega)
    have hm : all.getD k 0 ∈ all := by
      rw [List.getD_eq_getElem?_getD, List.getElem?_eq_getElem (show k < all.length by omega)]
      exact List.getElem_mem _
    have hc := cutOne_ok (keep := keep) (i := (cutN keep all file k).2) (h1 _ hm).1
    refine ⟨fun f hf => ?_, Nat.le_trans hc.2.2 (by omega)⟩
    simp only [cutN]
    by_cases e : f = all.getD k 0
    · rw [if_pos e]
      have := (h1 _ hm).2
      rw [e]
      exact ⟨hc.1, by omega⟩
    · rw [if_neg e]
      exact h1 f hf
theorem fget_keepV (j : Nat) (o : Option AV) (r : Fr) (i : Nat) : fget (keepV j o r) i = if i = j then (match o with | some v => some v | none => fget r i) else fget r i := by
  cases o with
  | none => simp [keepV]
  | some v => rw [keepV_some, fget_cons']
theorem boot_cut (hP : DkP P) (h : Heap) (d : Nat) (σ : DSt) (y : Lay) (hD : DiskAt h d σ y) (keep : List Int) (n full : Bool) (hall : σ.all.length ≤ 1000000000) (hsu : ∀ f ∈ σ.all, (σ.file f).sure ≤ (σ.file f).b.length ∧ (σ.file f).b.length ≤ 1000000000000) (hk : keep.length ≤ 9223372036854775807 ∧ ∀ z ∈ keep, -9223372036854775808 ≤ z ∧ z ≤ 9223372036854775807) (st : Nat)
    (fr0 : Fr) (f0 : fget fr0 0 = some (.ptr d 0)) (f2 : fget fr0 2 = some (slv n full keep)) (f9 : fget fr0 9 = some (.int .i64 0)) (f12 : fget fr0 12 = none) :
    Wp P (.seq (.reg 0 a21r9 [0, 2, 9, 12, 48, 49, 50]) (.block 2 (.loop a21l1))) { fr := fr0, st := st, h := h }
      (fun e s' => e = .normal ∧ fget s'.fr 0 = some (.ptr d 0) ∧ (∃ bv, DiskAt s'.h d { σ with file := (cutN keep σ.all σ.file σ.all.length).1 } { y with bv := bv } ∧ ∀ f ∈ σ.all, ∀ o, rowOf (bv f) = some o → rowOf (y.bv f) = some o) ∧ s'.h.next = h.next ∧ ∀ o, o ∉ σ.all → s'.h.get o = h.get o) := by
  have hd := hD.disk
  simp only [DSt.cells] at hd
  have hae := hD.all.ev
  have had := hD.all.dt
  have hal := hD.all.len
  have hat := hD.all.tag
  rw [List.length_map] at hal
  simp (disch := omega) only [go_sem, a21r9, f0, f2, f9, f12, hd, hae, had, hal, hat, cond_true]
  refine Wp_loop (fun x : Fr × Nat × Nat × Heap => (fget x.1 0 = some (.ptr d 0) ∧ fget x.1 2 = some (slv n full keep) ∧ fget x.1 9 = some (.int .i64 (cutN keep σ.all σ.file x.2.2.1).2) ∧ fget x.1 48 = some y.av ∧ fget x.1 49 = some (.int .i64 σ.all.length) ∧ fget x.1 50 = some (.int .i64 x.2.2.1)) ∧ x.2.2.1 ≤ σ.all.length ∧
      (∃ bv, DiskAt x.2.2.2 d { σ with file := (cutN keep σ.all σ.file x.2.2.1).1 } { y with bv := bv } ∧ ∀ f ∈ σ.all, ∀ o, rowOf (bv f) = some o → rowOf (y.bv f) = some o) ∧ x.2.2.2.next = h.next ∧ ∀ o, o ∉ σ.all → x.2.2.2.get o = h.get o)
    (fun (fr0, t, k, hh) => { fr := fr0, st := t, h := hh }) (fun x => σ.all.length - x.2.2.1) (_, st, 0, h) rfl ⟨⟨rfl, rfl, rfl, rfl, rfl, rfl⟩, Nat.zero_le _, ⟨y.bv, hD, fun _ _ _ h => h⟩, rfl, fun _ _ => rfl⟩ ?_
  rintro ⟨fr1, t, k, hh⟩ ⟨⟨q0, q2, q9, q48, q49, q50⟩, g1, ⟨bv, g2, g5⟩, g3, g4⟩
  simp only at q0 q2 q9 q48 q49 q50 g1 g2 g3 g4
  obtain ⟨o12, q12⟩ : ∃ o, fget fr1 12 = o := ⟨_, rfl⟩
  have own : ∀ q, Own d { σ with file := (cutN keep σ.all σ.file k).1 } { y with bv := bv } q → q < hh.next := g2.lt
  have SB := g2.sep
  simp (disch := omega) only [go_sem, a21l1, a21r10, q0, q2, q9, q12, q48, q49, q50, hae, fget_keepV]
  refine condS_if (fun hk => ?_) (fun hk => ?_)
  · have hk' : k < σ.all.length := by omega
    obtain ⟨f, hf⟩ : ∃ f, σ.all.getD k 0 = f := ⟨_, rfl⟩
    have hfa : f ∈ σ.all := by
      rw [← hf, List.getD_eq_getElem?_getD, List.getElem?_eq_getElem hk']
      exact List.getElem_mem hk'
    obtain ⟨i, hi⟩ : ∃ i, (cutN keep σ.all σ.file k).2 = i := ⟨_, rfl⟩
    obtain ⟨x, hx⟩ : ∃ x, (cutN keep σ.all σ.file k).1 f = x := ⟨_, rfl⟩
    obtain ⟨c1, c2⟩ := cutN_ok (keep := keep) (fun g hg => (hsu g hg).1) k g1
    have hi2 : i ≤ k := by rw [← hi]; exact c2
    have hx1 : x.sure ≤ x.b.length := by rw [← hx]; exact (c1 f hfa).1
    have hx2 : x.b.length ≤ 1000000000000 := by rw [← hx]; exact Nat.le_trans (c1 f hfa).2 (hsu f hfa).2
    have hcf := g2.cell f hfa
    have hbf := g2.bytes f hfa
    have e1 : ({ σ with file := (cutN keep σ.all σ.file k).1 } : DSt).file f = x := hx
    rw [e1] at hcf hbf
    have ce : ∀ (z : AV), (Cel.ccells (⟨f⟩ : FilP)) = [.ptr f 0] := fun _ => rfl
    rcases hD.all with ⟨hav, hnil⟩ | ⟨oa, ea, ja, hav, hga⟩
    · have : σ.all = [] := by simpa using hnil
      rw [this] at hk'; simp at hk'
    · have hoa : oa ∉ σ.all := fun hm => (hD.sep.av oa (by rw [hav]; rfl)).2.2.2 oa hm rfl
      have hgh : hh.get oa = some (.row 1 ea ((σ.all.map FilP.mk).flatMap Cel.ccells ++ ja)) := (g4 oa hoa).trans hga
      have hfl : (σ.all.map FilP.mk).flatMap Cel.ccells = σ.all.map (fun f => AV.ptr f 0) := by
        rw [List.flatMap_map]
        induction σ.all with
        | nil => rfl
        | cons a r ih => simp only [List.flatMap_cons, List.map_cons, ih]; rfl
      rw [hfl] at hgh
      have r1 := ld_raw (σ.all.map (fun f => AV.ptr f 0) ++ ja) k (.ptr f 0) (by
        rw [List.getElem?_append_left (by simpa using hk'), List.getElem?_map, ← hf, List.getD_eq_getElem?_getD, List.getElem?_eq_getElem hk']
        rfl)
      rw [hav]
      have hcs : Cel.csz FilP = 1 := rfl
      have hln : (σ.all.map FilP.mk).length = σ.all.length := by simp
      rw [hcs, hln]
      have hbe := hbf.ev
      have hbd := hbf.dt
      have hbl := hbf.len
      have hbt := hbf.tag
      simp (disch := omega) only [go_sem, a21r11, fget_keepV, hgh, r1, Nat.mul_one, Nat.zero_add]
      simp (disch := omega) only [go_sem, a21d12, fget_keepV, hcf, hbe, hbd, hbl, hbt, cond_true]
      simp (disch := omega) only [go_sem, a21r13, fget_keepV]
      have hcut : cutN keep σ.all σ.file (k + 1) = ((fun g => if g = f then (cutOne x keep i).1 else (cutN keep σ.all σ.file k).1 g), (cutOne x keep i).2) := by
        simp only [cutN]
        rw [hf, hx, hi]
      rw [hi]
      refine condS_if (fun hz => ?_) (fun hz => ?_)
      · simp (disch := omega) only [go_sem, a21r20, fget_keepV]
        have hce : cutOne x keep i = (x, i) := if_pos (by omega)
        refine ⟨(_, t + 1, k + 1, hh), ⟨⟨rfl, rfl, ?_, rfl, rfl, rfl⟩, by simp only; omega, ⟨bv, ?_, g5⟩, g3, g4⟩, by simp only; omega, rfl⟩
        · simp only [hcut, hce]; rfl
        · have : (cutN keep σ.all σ.file (k + 1)).1 = (cutN keep σ.all σ.file k).1 := by
            rw [hcut, hce]
            funext g
            simp only
            split
            · rename_i e; rw [e, hx]
            · rfl
          simp only [this]
          rw [hav, hcs, hln] at g2
          exact g2
      · rcases hbf with ⟨hbv, hb0⟩ | ⟨ob, eb, jb, hbv, hbg⟩
        · rw [hb0] at hz hx1; simp at hz hx1; omega
        have kle := kp_le (keep := keep) (i := i) hx1
        have hc8 : Cel.csz UInt8 = 1 := rfl
        replace hbv : bv f = .hs (Cel.csz UInt8) ob eb 0 x.b.length false := hbv
        rw [hc8] at hbv
        have hbr : rowOf (bv f) = some ob := by rw [hbv]; rfl
        have hw0 : ob ≠ f := fun e => (SB.bv f hfa ob hbr).2.2.2 f hfa e.symm
        have hcf' : hh.get f = some (.cells [bv f, .int .i64 x.sure]) := hcf
        rw [hbv] at hcf'
        simp (disch := omega) only [go_sem, a21r14, a21r15, fget_keepV]
        refine condS_if (fun hi1 => ?wa) (fun hi1 => ?wb)
        case' wa =>
          simp (disch := omega) only [go_sem, a21r16, fget_keepV]
          have e13 : max 0 (min (keep.getD i default) ((x.b.length : Int) - x.sure)) = (kpS x keep i : Int) := by
            unfold kpS
            rw [if_pos (by omega)]
            show max 0 (min (keep.getD i 0) ((x.b.length : Int) - x.sure)) = _
            omega
          rw [e13]
        case' wb =>
          have e13 : (0 : Int) = (kpS x keep i : Int) := by
            unfold kpS
            rw [if_neg (by omega)]
            rfl
          rw [e13]
          simp (disch := omega) only [go_sem, fget_keepV]
        all_goals
          simp (disch := omega) only [go_sem, a21r17, fget_keepV]
          simp (disch := omega) only [go_sem, a21d18, fget_keepV, hcf', hbv]
          refine WD_storeP (val := .hs 1 ob eb 0 (x.sure + kpS x keep i) false) (off := 0) (o := f) (by simp (disch := omega) only [go_sem]) (by simp (disch := omega) only [go_sem, Nat.sub_zero]; rfl) rfl hcf' rfl rfl ?_
          simp (disch := omega) only [go_sem, a21r19, fget_keepV, Nat.sub_zero]
          simp (disch := omega) only [go_sem, a21r20, fget_keepV]
          have hce : cutOne x keep i = (⟨x.b.take (x.sure + kpS x keep i), x.sure + kpS x keep i⟩, i + 1) := if_neg (by omega)
          obtain ⟨h2, hh2⟩ : ∃ h2, (hh.put f (.cells [.hs 1 ob eb 0 (x.sure + kpS x keep i) false, .int .i64 x.sure])).put f (.cells [.hs 1 ob eb 0 (x.sure + kpS x keep i) false, .int .i64 (x.sure + kpS x keep i : Nat)]) = h2 := ⟨_, rfl⟩
          rw [hh2]
          have n2 : h2.next = hh.next := by rw [← hh2]; rfl
          have ge : h2.get f = some (.cells [.hs 1 ob eb 0 (x.sure + kpS x keep i) false, .int .i64 (x.sure + kpS x keep i : Nat)]) := by rw [← hh2, get_put_same]
          have go : ∀ o, o ≠ f → h2.get o = hh.get o := fun o ho => by rw [← hh2, get_put_ne _ _ _ _ ho, get_put_ne _ _ _ _ ho]
          have hst := g2.fput (h' := h2) (x := ⟨x.b.take (x.sure + kpS x keep i), x.sure + kpS x keep i⟩) (bv' := .hs 1 ob eb 0 (x.sure + kpS x keep i) false) hfa ge
            (Or.inr ⟨ob, eb, (x.b.drop (x.sure + kpS x keep i)).flatMap Cel.ccells ++ jb, by rw [List.length_take, Nat.min_eq_left kle]; rfl, by
              rw [go ob hw0, hbg, ← List.append_assoc, ← List.flatMap_append, List.take_append_drop]⟩)
            (fun o ho => Or.inl (hbr.trans ho)) (fun o ho => by rw [n2]; exact own o (Or.inr (Or.inr (Or.inr (Or.inr (Or.inr ⟨f, hfa, Or.inr (hbr.trans ho)⟩)))))) (fun o _ ho _ => go o ho) (by omega)
          have hse : setF { σ with file := (cutN keep σ.all σ.file k).1 } f ⟨x.b.take (x.sure + kpS x keep i), x.sure + kpS x keep i⟩ = { σ with file := (cutN keep σ.all σ.file (k + 1)).1 } := by
            rw [hcut, hce]; rfl
          refine ⟨(_, t + 2, k + 1, h2), ⟨⟨rfl, rfl, ?_, rfl, rfl, rfl⟩, by simp only; omega, ⟨fun g => if g = f then .hs 1 ob eb 0 (x.sure + kpS x keep i) false else bv g, ?_, fun g hg o ho => by
            simp only at ho
            by_cases e : g = f
            · rw [if_pos e] at ho; rw [e]; exact g5 f hfa o (hbr.trans ho)
            · rw [if_neg e] at ho; exact g5 g hg o ho⟩, n2.trans g3, fun o ho => (go o (fun e => ho (by rw [e]; exact hfa))).trans (g4 o ho)⟩, by simp only; omega, rfl⟩
          · simp only [hcut, hce]; rfl
          · have := hst.1
            rw [hse] at this
            rw [hav, hcs, hln] at this
            exact this
  · simp (disch := omega) only [go_sem, fget_keepV]
    have hkk : k = σ.all.length := by omega
    rw [hkk] at g2
    exact ⟨by trivial, by trivial, ⟨bv, g2, g5⟩, g3, g4⟩
end Go.Am.Dk
/- Boot: the files that have no name go; the names are those that are sure. -/
namespace Go.Am.Dk
open Go.Am
set_option maxRecDepth 20000
set_option maxHeartbeats 2000000
variable {P : Prog}
theorem PU_P : DkP PU := ⟨fun _ _ _ _ _ => rfl, rfl, fun _ _ _ h => h, fun _ _ _ h => h, fun _ _ _ h => h⟩
theorem Fun.mono' {f : Nat} {args : List AV} {h : Heap} {R R' : AV → Heap → Prop} (hf : Fun P f args h R) (hr : ∀ v h', R v h' → R' v h') : Fun P f args h R' := by
  obtain ⟨n, v, h', e, q⟩ := hf
  exact ⟨n, v, h', e, hr v h' q⟩
def putO (h : Heap) : Option (Nat × AObj) → Nat → Option AObj
  | none, q => h.get q
  | some (o, x), q => if q = o then some x else h.get q
theorem idx_nil (hP : DkP P) (h : Heap) (hb : Nat) : Fun P 69 [.nils, .fn 52 [.ptr hb 0]] h (fun v h' => h' = h ∧ v = .int .i64 (-1)) := by
  refine Fun.of (code := a69c) (hP.code rfl) (by rw [hP.pure]; rfl) ?_
  simp (disch := omega) only [go_sem, a69c, a69r0]
  have lt1 : lenTag 1 .nils = true := rfl
  have ln1 : ∀ h, lenA h .nils = some 0 := fun _ => rfl
  simp (disch := omega) only [go_sem, a69r1, lt1, ln1, cond_true]
  refine Wp_unroll ?_
  have w0 : decide (((0 : Nat) : Int) > (0 : Int)) = false := rfl
  have w1 : decide ((0 : Int) < ((0 : Nat) : Int)) = false := rfl
  simp (disch := omega) only [go_sem, a69l0, a69r2, w0, w1]
  simp (disch := omega) only [go_sem, a69r7]
theorem del_nil (hP : DkP P) (h : Heap) (hb : Nat) : Fun P 51 [.nils, .fn 52 [.ptr hb 0]] h (fun v h' => v = .nils ∧ h' = h) := by
  refine Fun.of (code := a51c) (hP.code rfl) (by rw [hP.pure]; rfl) ?_
  simp (disch := omega) only [go_sem, a51c, a51r0]
  simp (disch := omega) only [go_sem, a51r1]
  refine WO.fun (vs := [.nils, .fn 52 [.ptr hb 0]]) (by simp (disch := omega) only [go_sem]) (idx_nil hP h hb) (fun v h' hv => ?_)
  obtain ⟨rfl, rfl⟩ := hv
  simp (disch := omega) only [go_sem]
  simp (disch := omega) only [go_sem, a51r2]
  simp (disch := omega) only [go_sem, a51r3]
theorem flat_fil (l : List Nat) : (l.map FilP.mk).flatMap Cel.ccells = l.map (fun f => AV.ptr f 0) := by
  rw [List.flatMap_map]
  induction l with
  | nil => rfl
  | cons a r ih => simp only [List.flatMap_cons, List.map_cons, ih]; rfl
theorem del_all (hP : DkP P) {h : Heap} {d : Nat} {σ : DSt} {y : Lay} (hD : DiskAt h d σ y) (hl : σ.all.length ≤ 1000000000) (p : Nat → Bool) :
    ∃ av' ro, (∀ q x, ro = some (q, x) → rowOf y.av = some q) ∧ (∀ h' : Heap, (∀ q, rowOf y.av = some q → h'.get q = putO h ro q) → PreC h' av' ((σ.all.filter p).map FilP.mk)) ∧ (∀ o, rowOf av' = some o → rowOf y.av = some o) ∧
      ∀ hh hb hm L, (∀ q, rowOf y.av = some q → hh.get q = h.get q) → HasAt hh hb hm L → (∀ f ∈ σ.all, f ∈ L ↔ p f = true) → (∀ f ∈ σ.all, liveP hh f 0 = true) → Fun P 51 [y.av, .fn 52 [.ptr hb 0]] hh (fun v h' => v = av' ∧ h'.next = hh.next ∧ ∀ q, h'.get q = putO hh ro q) := by
  rcases hD.all with ⟨hav, hnil⟩ | ⟨o, ep, j, hav, hg⟩
  · have h0 : σ.all = [] := by simpa using hnil
    refine ⟨.nils, none, fun q x e => by simp at e, fun h' _ => Or.inl ⟨rfl, by rw [h0]; rfl⟩, fun o ho => by simp [rowOf] at ho, fun hh hb hm L _ _ _ _ => ?_⟩
    rw [hav]
    exact Fun.mono' (del_nil hP hh hb) fun v h' hv => ⟨hv.1, by rw [hv.2], fun q => by rw [hv.2]; rfl⟩
  · rw [flat_fil] at hg
    have hln : (σ.all.map FilP.mk).length = σ.all.length := by simp
    have hcs : Cel.csz FilP = 1 := rfl
    rw [hcs] at hg
    rw [hcs, hln] at hav
    refine ⟨.hs 1 o ep 0 (σ.all.filter p).length false, some (o, .row 1 ep ((σ.all.filter p).map (fun f => AV.ptr f 0) ++ (List.replicate (σ.all.length - (σ.all.filter p).length) AV.nilp ++ j))), fun q x e => ?_, fun h' hh' => Or.inr ⟨o, ep, List.replicate (σ.all.length - (σ.all.filter p).length) AV.nilp ++ j, by simp; rfl, ?_⟩, fun q hq => by rw [hav]; exact hq, fun hh hb hm L hx hH hL hlv => ?_⟩
    · simp only [Option.some.injEq, Prod.mk.injEq] at e
      rw [hav, ← e.1]; rfl
    · rw [hh' o (by rw [hav]; rfl), flat_fil]
      simp only [putO, if_true]
      rfl
    · rw [hav]
      have hp : σ.all.filter p = σ.all.filter (fun f => decide (f ∈ L)) := List.filter_congr (fun f hf => by
        rw [Bool.eq_iff_iff, ← hL f hf]; simp)
      refine Fun.mono' (del_fun hP hh hb hm o ep σ.all L j hH ((hx o (by rw [hav]; rfl)).trans hg) hl hlv) fun v h' hv => ?_
      rw [hp]
      refine ⟨hv.1, hv.2.2.1, fun q => ?_⟩
      simp only [putO]
      split
      · rename_i e; rw [e]; exact hv.2.1
      · rename_i e; exact hv.2.2.2 q e
end Go.Am.Dk
/- Boot: its end, whatever order the names were met in. -/
namespace Go.Am.Dk
open Go.Am
set_option maxRecDepth 20000
set_option maxHeartbeats 2000000
variable {P : Prog}
def endS (σ : DSt) : DSt := { σ with names := σ.sure, waits := [], all := σ.all.filter (fun f => decide (f ∈ σ.sure.map (·.2))), dead := false, fuse := 0, fault := 0 }
def roH (h : Heap) : Option (Nat × AObj) → Heap
  | none => h
  | some (o, x) => h.put o x
theorem roH_get (h : Heap) (ro : Option (Nat × AObj)) (q : Nat) : (roH h ro).get q = putO h ro q := by
  rcases ro with _ | ⟨o, x⟩
  · rfl
  · simp only [roH, putO]
    split
    · rename_i e; rw [e, get_put_same]
    · rename_i e; rw [get_put_ne _ _ _ _ e]
theorem roH_next (h : Heap) (ro : Option (Nat × AObj)) : (roH h ro).next = h.next := by rcases ro with _ | ⟨o, x⟩ <;> rfl
def bootH (h : Heap) (d : Nat) (ro : Option (Nat × AObj)) (c : List AV) (mo : AObj) : Heap :=
  (((((roH (h.reserve 4) ro).put d (.cells c)).put (h.next + 3) mo).put h.next .dead).put (h.next + 1) .dead).put (h.next + 2) .dead
theorem bootH_get (h : Heap) (d : Nat) (ro : Option (Nat × AObj)) (c : List AV) (mo : AObj) (q : Nat) :
    (bootH h d ro c mo).get q = if q = h.next + 2 then some .dead else if q = h.next + 1 then some .dead else if q = h.next then some .dead else if q = h.next + 3 then some mo else if q = d then some (.cells c) else putO h ro q := by
  have st : ∀ (h : Heap) (o : Nat) (x : AObj), (h.put o x).get q = if q = o then some x else h.get q := fun h o x => by
    split
    · rename_i e; rw [e, get_put_same]
    · rename_i e; rw [get_put_ne _ _ _ _ e]
  simp only [bootH, st, roH_get]
  rcases ro with _ | ⟨o, x⟩ <;> rfl
theorem bootH_next (h : Heap) (d : Nat) (ro : Option (Nat × AObj)) (c : List AV) (mo : AObj) : (bootH h d ro c mo).next = h.next + 4 := by
  show (roH (h.reserve 4) ro).next = _
  rw [roH_next]; rfl
def bootEnd : ACode := .seq (.reg 0 a21r26 [0]) (.seq (.reg 0 a21r27 [0]) (.seq (.reg 0 a21r28 []) (.seq (.reg 0 a21r29 [6]) .ret)))
theorem boot_end (hP : DkP P) {h : Heap} {d : Nat} {σ : DSt} {y : Lay} (hD : DiskAt h d σ y) (hl : σ.all.length ≤ 1000000000) :
    ∃ H y', Step h H d σ y (endS σ) y' ∧
      ∀ (hh : Heap) (fr : Fr) (st : Nat) (L : List Nat), hh.next = h.next + 3 → (∀ o, o < h.next ∨ h.next + 3 ≤ o → hh.get o = h.get o) → HasAt hh (h.next + 1) h.next L → (∀ f, f ∈ L ↔ f ∈ σ.sure.map (·.2)) → fget fr 0 = some (.ptr d 0) → fget fr 14 = some (.ptr (h.next + 1) 0) →
        Wp P bootEnd { fr := fr, st := st, h := hh } (bodyQ [.slot 6] fun v2 h2 => v2 = .int .i64 0 ∧ SubH H h2) := by
  obtain ⟨av', ro, hro, hpre, hrow, hrun⟩ := del_all hP hD hl (fun f => decide (f ∈ σ.sure.map (·.2)))
  obtain ⟨bs, ck, hm2, hstp⟩ := hD.sure
  have hd := hD.disk
  simp only [DSt.cells] at hd
  have S := hD.sep
  have own := hD.lt
  have hae := hD.all.ev
  have had := hD.all.dt
  have acs : (AV.int .i64 0).cellsOf = [AV.int .i64 0] := rfl
  have avc : av'.cellsOf = [av'] ∧ (∀ i, evS i (some av') = some av') ∧ datW (some av') = some av' := by
    have := hpre (roH h ro) (fun q _ => roH_get h ro q)
    refine ⟨?_, this.ev, this.dt⟩
    rcases this with ⟨rfl, -⟩ | ⟨o, ep, j, rfl, -⟩ <;> rfl
  obtain ⟨avc, ave, avd⟩ := avc
  refine ⟨bootH h d ro [.int .i64 σ.cap, .mp (h.next + 3), .mp y.m2, av', .nils, .bool false, .int .i64 σ.calls, .int .i64 0, .int .i64 0, .int .i64 σ.e] (.map (kv (fp σ.sure)) bs ck), { y with m := h.next + 3, av := av', wv := .nils }, ?_, ?_⟩
  rotate_right
  · intro hh fr st L n1 n2' hH hL f0 f14
    have n2 : ∀ o, o < h.next → hh.get o = h.get o := fun o ho => n2' o (Or.inl ho)
    have hdh : hh.get d = some (.cells [.int .i64 σ.cap, .mp y.m, .mp y.m2, y.av, y.wv, .bool σ.dead, .int .i64 σ.calls, .int .i64 σ.fuse, .int .i64 σ.fault, .int .i64 σ.e]) := (n2 d (own d (Or.inl rfl))).trans hd
    simp (disch := omega) only [go_sem, bootEnd, a21r26, f0, f14, hdh]
    have avo : ∀ q, rowOf y.av = some q → q < h.next := fun q hq => own q (Or.inr (Or.inr (Or.inr (Or.inl hq))))
    have fo : ∀ f ∈ σ.all, f < h.next := fun f hf => own f (Or.inr (Or.inr (Or.inr (Or.inr (Or.inr ⟨f, hf, Or.inl rfl⟩)))))
    refine WO.fun (vs := [y.av, .fn 52 [.ptr (h.next + 1) 0]]) (by simp (disch := omega) only [go_sem, hae, had]) (hrun hh (h.next + 1) h.next L (fun q hq => n2 q (avo q hq)) hH (fun f _ => by rw [hL]; simp) (fun f hf => by
      have := hD.cell f hf
      rw [← n2 f (fo f hf)] at this
      simp [liveP, this])) (fun v h' hv => ?_)
    obtain ⟨rfl, e1, e2⟩ := hv
    have rod : ∀ q, q ≠ d → q ≠ d := fun _ h => h
    have pd : ∀ (k : Heap) (q : Nat), (∀ o, rowOf y.av = some o → q ≠ o) → putO k ro q = k.get q := fun k q hq => by
      cases hr : ro with
      | none => rfl
      | some ox =>
        obtain ⟨o, x⟩ := ox
        simp only [putO]
        rw [if_neg (hq o (hro o x hr))]
    have hd' : h'.get d = some (.cells [.int .i64 σ.cap, .mp y.m, .mp y.m2, y.av, y.wv, .bool σ.dead, .int .i64 σ.calls, .int .i64 σ.fuse, .int .i64 σ.fault, .int .i64 σ.e]) := by
      rw [e2, pd hh d (fun o ho e => (S.av o ho).1 e.symm)]; exact hdh
    simp (disch := omega) only [go_sem, f0, f14, hd', ave, avd, avc]
    have S6 : ∀ q, q ≠ d → (h'.put d (.cells [.int .i64 σ.cap, .mp y.m, .mp y.m2, v, y.wv, .bool σ.dead, .int .i64 σ.calls, .int .i64 σ.fuse, .int .i64 σ.fault, .int .i64 σ.e])).get q = h'.get q := fun q hq => get_put_ne _ _ _ _ hq
    have D6 : (h'.put d (.cells [.int .i64 σ.cap, .mp y.m, .mp y.m2, v, y.wv, .bool σ.dead, .int .i64 σ.calls, .int .i64 σ.fuse, .int .i64 σ.fault, .int .i64 σ.e])).get d = some (.cells [.int .i64 σ.cap, .mp y.m, .mp y.m2, v, y.wv, .bool σ.dead, .int .i64 σ.calls, .int .i64 σ.fuse, .int .i64 σ.fault, .int .i64 σ.e]) := get_put_same _ _ _
    have N6 : (h'.put d (.cells [.int .i64 σ.cap, .mp y.m, .mp y.m2, v, y.wv, .bool σ.dead, .int .i64 σ.calls, .int .i64 σ.fuse, .int .i64 σ.fault, .int .i64 σ.e])).next = h.next + 3 := e1.trans n1
    generalize (h'.put d (.cells [.int .i64 σ.cap, .mp y.m, .mp y.m2, v, y.wv, .bool σ.dead, .int .i64 σ.calls, .int .i64 σ.fuse, .int .i64 σ.fault, .int .i64 σ.e])) = h6 at S6 D6 N6
    have m2lt : y.m2 < h.next := own y.m2 (Or.inr (Or.inr (Or.inl rfl)))
    have dlt : d < h.next := own d (Or.inl rfl)
    have g6 : h6.get y.m2 = some (.map (kv (fp σ.sure)) bs ck) := by
      rw [S6 _ S.dm2, e2, pd hh y.m2 (fun o ho e => (S.av o ho).2.2.1 e.symm), n2 _ m2lt]
      exact hm2
    simp (disch := omega) only [go_sem, a21r27, D6]
    refine WO.fun (vs := [.mp y.m2]) (by simp (disch := omega) only [go_sem]) (Fun.prim (h' := (h6.reserve 1).put h6.next (.map (kv (fp σ.sure)) bs ck)) (v := .mp h6.next) (R := fun v k => v = .mp h6.next ∧ k = (h6.reserve 1).put h6.next (.map (kv (fp σ.sure)) bs ck)) (hP.fn 36 (by decide) (by decide) (by decide) (by decide)) (by rw [hP.pure]; rfl) (hP.clone _ _ _ (by
      have b1 : Nat.beq 36 61 = false := rfl
      have b2 : Nat.beq 36 63 = false := rfl
      have b3 : Nat.beq 36 36 = true := rfl
      simp only [prim0, orP, loadOn, addOn, cloneOn, b1, b2, b3, cond_false, cond_true, g6])) ⟨rfl, rfl⟩) (fun v7 h7 hv => ?_)
    obtain ⟨rfl, hh7⟩ := hv
    have D7 : h7.get d = some (.cells [.int .i64 σ.cap, .mp y.m, .mp y.m2, v, y.wv, .bool σ.dead, .int .i64 σ.calls, .int .i64 σ.fuse, .int .i64 σ.fault, .int .i64 σ.e]) := by
      rw [hh7, get_put_ne _ _ _ _ (by omega)]; exact D6
    simp (disch := omega) only [go_sem, D7]
    simp (disch := omega) only [go_sem, a21r28]
    simp (disch := omega) only [go_sem, a21r29]
    refine ⟨by trivial, ?_, fun o x ho => ?_⟩
    · rw [bootH_next]
      show h.next + 4 = h7.next
      rw [hh7]
      show h.next + 4 = h6.next + 1
      omega
    · rw [bootH_get] at ho
      by_cases c2 : o = h.next + 2
      · rw [if_pos c2] at ho; exact Or.inl (Option.some.inj ho).symm
      rw [if_neg c2] at ho
      by_cases c1 : o = h.next + 1
      · rw [if_pos c1] at ho; exact Or.inl (Option.some.inj ho).symm
      rw [if_neg c1] at ho
      by_cases c0 : o = h.next
      · rw [if_pos c0] at ho; exact Or.inl (Option.some.inj ho).symm
      rw [if_neg c0] at ho
      refine Or.inr ?_
      by_cases c3 : o = h.next + 3
      · rw [if_pos c3] at ho
        rw [get_put_ne _ _ _ _ (by omega), get_put_ne _ _ _ _ (by omega), get_put_ne _ _ _ _ (by omega), get_put_ne _ _ _ _ (by omega), get_put_ne _ _ _ _ (by omega), hh7, c3, ← N6, get_put_same]
        exact ho
      rw [if_neg c3] at ho
      by_cases cd : o = d
      · rw [if_pos cd] at ho
        rw [cd, get_put_same, N6]
        exact ho
      · rw [if_neg cd] at ho
        rw [get_put_ne _ _ _ _ cd, get_put_ne _ _ _ _ cd, get_put_ne _ _ _ _ cd, get_put_ne _ _ _ _ cd, get_put_ne _ _ _ _ cd, hh7, get_put_ne _ _ _ _ (by omega)]
        show h6.get o = _
        rw [S6 o cd, e2]
        have hol : hh.get o = h.get o := n2' o (by omega)
        rw [← ho]
        cases ro with
        | none => exact hol
        | some ox =>
          obtain ⟨o', x'⟩ := ox
          simp only [putO]
          split
          · rfl
          · exact hol
  · have pd : ∀ (q : Nat), (∀ o, rowOf y.av = some o → q ≠ o) → putO h ro q = h.get q := fun q hq => by
      cases hr : ro with
      | none => rfl
      | some ox =>
        obtain ⟨o, x⟩ := ox
        simp only [putO]
        rw [if_neg (hq o (hro o x hr))]
    obtain ⟨H, hH⟩ : ∃ H, bootH h d ro [.int .i64 σ.cap, .mp (h.next + 3), .mp y.m2, av', .nils, .bool false, .int .i64 σ.calls, .int .i64 0, .int .i64 0, .int .i64 σ.e] (.map (kv (fp σ.sure)) bs ck) = H := ⟨_, rfl⟩
    have Hn : H.next = h.next + 4 := by rw [← hH, bootH_next]
    have Hd : H.get d = some (.cells [.int .i64 σ.cap, .mp (h.next + 3), .mp y.m2, av', .nils, .bool false, .int .i64 σ.calls, .int .i64 0, .int .i64 0, .int .i64 σ.e]) := by
      have := own d (Or.inl rfl)
      rw [← hH, bootH_get, if_neg (by omega), if_neg (by omega), if_neg (by omega), if_neg (by omega), if_pos rfl]
    have H3 : H.get (h.next + 3) = some (.map (kv (fp σ.sure)) bs ck) := by
      rw [← hH, bootH_get, if_neg (by omega), if_neg (by omega), if_neg (by omega), if_pos rfl]
    have Hr : ∀ q, q < h.next → q ≠ d → H.get q = putO h ro q := fun q h1 h2 => by
      rw [← hH, bootH_get, if_neg (by omega), if_neg (by omega), if_neg (by omega), if_neg (by omega), if_neg h2]
    have Ho : ∀ q, q < h.next → q ≠ d → (∀ o, rowOf y.av = some o → q ≠ o) → H.get q = h.get q := fun q h1 h2 h3 => (Hr q h1 h2).trans (pd q h3)
    rw [hH]
    have fown : ∀ f ∈ σ.all, f < h.next := fun f hf => own f (Or.inr (Or.inr (Or.inr (Or.inr (Or.inr ⟨f, hf, Or.inl rfl⟩)))))
    have bown : ∀ f ∈ σ.all, ∀ o, rowOf (y.bv f) = some o → o < h.next := fun f hf o ho => own o (Or.inr (Or.inr (Or.inr (Or.inr (Or.inr ⟨f, hf, Or.inr ho⟩)))))
    have aown : ∀ o, rowOf y.av = some o → o < h.next := fun o ho => own o (Or.inr (Or.inr (Or.inr (Or.inl ho))))
    have sub : ∀ f, f ∈ (endS σ).all → f ∈ σ.all := fun f hf => (List.mem_filter.1 hf).1
    have inn : ∀ p ∈ σ.sure, p.2 ∈ (endS σ).all := fun p hp => List.mem_filter.2 ⟨hD.ok.sure p hp, by simpa using ⟨p.1, hp⟩⟩
    have m2lt : y.m2 < h.next := own y.m2 (Or.inr (Or.inr (Or.inl rfl)))
    have hat : DiskAt H d (endS σ) { y with m := h.next + 3, av := av', wv := .nils } := by
      refine { ok := ⟨inn, inn, fun t ht => by simp [endS] at ht, hD.ok.sd, hD.ok.sd, hD.ok.ad.sublist List.filter_sublist⟩, disk := Hd, names := ⟨bs, ck, H3, hstp⟩, sure := ?_, all := hpre H (fun q hq => Hr q (aown q hq) (S.av q hq).1), waits := Or.inl ⟨rfl, rfl⟩, cell := ?_, bytes := ?_, mm := by show h.next + 3 ≠ y.m2; omega, bb := fun f hf f' hf' => hD.bb f (sub f hf) f' (sub f' hf'), ab := fun f hf o ho => hD.ab f (sub f hf) o (hrow o ho), wb := fun f hf o ho => by simp [rowOf] at ho, aw := fun o _ ho => by simp [rowOf] at ho, lt := ?_ }
      · exact ⟨bs, ck, (Ho y.m2 m2lt S.dm2 (fun o ho e => (S.av o ho).2.2.1 e.symm)).trans hm2, hstp⟩
      · intro f hf
        rw [Ho f (fown f (sub f hf)) (S.df f (sub f hf)) (fun o ho e => (S.av o ho).2.2.2 f (sub f hf) e)]
        exact hD.cell f (sub f hf)
      · intro f hf
        exact (hD.bytes f (sub f hf)).keep (fun o ho => Ho o (bown f (sub f hf) o ho) (S.bv f (sub f hf) o ho).1 (fun o' ho' e => hD.ab f (sub f hf) o' ho' (by rw [← e]; exact ho)))
      · rintro o (h1 | h1 | h1 | h1 | h1 | ⟨f, hf, h1 | h1⟩)
        · have := own d (Or.inl rfl); rw [Hn]; omega
        · rw [Hn]; simp only at h1; omega
        · simp only at h1; rw [Hn]; omega
        · have := aown o (hrow o h1); rw [Hn]; omega
        · simp [rowOf] at h1
        · have := fown f (sub f hf); rw [Hn]; omega
        · have := bown f (sub f hf) o h1; rw [Hn]; omega
    refine ⟨hat, ⟨by omega, fun o h1 h2 => Ho o h1 (fun e => h2 (Or.inl e)) (fun q hq e => h2 (Or.inr (Or.inr (Or.inr (Or.inl (by rw [e]; exact hq))))))⟩, ?_⟩
    rintro o (h1 | h1 | h1 | h1 | h1 | ⟨f, hf, h1 | h1⟩)
    · exact Or.inl (Or.inl h1)
    · refine Or.inr ?_; simp only at h1; omega
    · exact Or.inl (Or.inr (Or.inr (Or.inl h1)))
    · exact Or.inl (Or.inr (Or.inr (Or.inr (Or.inl (hrow o h1)))))
    · simp [rowOf] at h1
    · exact Or.inl (Or.inr (Or.inr (Or.inr (Or.inr (Or.inr ⟨f, sub f hf, Or.inl h1⟩)))))
    · exact Or.inl (Or.inr (Or.inr (Or.inr (Or.inr (Or.inr ⟨f, sub f hf, Or.inr h1⟩)))))
end Go.Am.Dk
/- Boot, whatever order its names are met in. -/
namespace Go.Am.Dk
open Go.Am
set_option maxRecDepth 20000
set_option maxHeartbeats 2000000
def bootMid : ACode := .seq (.reg 2 a21r21 [0, 14]) (.seq (.seq (.reg 1 a21r22 [0, 14, 107]) (.block 4 (.loop a21l2))) bootEnd)
theorem allBel_of {ck : Nat} : ∀ {bs : List Nat}, (∀ b ∈ bs, b < ck) → allBel ck bs = true
  | [], _ => rfl
  | b :: r, h => by simp only [allBel, Bool.and_eq_true, nblt, decide_eq_true_eq]; exact ⟨h b List.mem_cons_self, allBel_of (fun x hx => h x (List.mem_cons_of_mem _ hx))⟩
def putS (f : Nat) (L : List Nat) (bs : List Nat) (ck : Nat) : AObj := if f ∈ L then .map (pents L) bs ck else .map (pents (L ++ [f])) (bs ++ [ck]) (ck + 1)
theorem updM_ptr (s : St) (o f : Nat) (L bs : List Nat) (ck : Nat) (hf : liveP s.h f 0 = true) (hL : ∀ g ∈ L, liveP s.h g 0 = true) : updM s 2 o (.ptr f 0) (.bool true) (some (.map (pents L) bs ck)) = some (.tup [], { s with h := s.h.put o (putS f L bs ck) }) := by
  show (updA s.h (.ptr f 0) (.bool true) (pents L)).bind _ = _
  rw [updA_ptr hf L hL, Option.bind_some]
  unfold putS
  by_cases e : f ∈ L
  · simp [e, undefA]
  · have b0 : (L.length + 1).beq L.length = false := by
      have := @nbeq (L.length + 1) L.length
      rw [this]; simp
    simp [e, undefA, pents, b0]
theorem boot_mid {h : Heap} {d : Nat} {σ : DSt} {y : Lay} (hD : DiskAt h d σ y) (hl : σ.all.length ≤ 1000000000) :
    ∃ H y', Step h H d σ y (endS σ) y' ∧ ∀ (fr : Fr) (st : Nat), fget fr 0 = some (.ptr d 0) → WX PU bootMid { fr := fr, st := st, h := h } (bodyQ [.slot 6] fun v2 h2 => v2 = .int .i64 0 ∧ SubH H h2) := by
  obtain ⟨H, y', hst, hrun⟩ := boot_end PU_P hD hl
  refine ⟨H, y', hst, fun fr st f0 => ?_⟩
  obtain ⟨bs, ck, hm2, hstp⟩ := hD.sure
  have hd := hD.disk
  simp only [DSt.cells] at hd
  have S := hD.sep
  have own := hD.lt
  have dlt : d < h.next := own d (Or.inl rfl)
  have m2lt : y.m2 < h.next := own y.m2 (Or.inr (Or.inr (Or.inl rfl)))
  have dn1 : d ≠ h.next := by omega
  have dn2 : d ≠ h.next + 1 := by omega
  have mn1 : y.m2 ≠ h.next := by omega
  have mn2 : y.m2 ≠ h.next + 1 := by omega
  have dn3 : d ≠ h.next + 2 := by omega
  have mn3 : y.m2 ≠ h.next + 2 := by omega
  have n01 : h.next ≠ h.next + 1 := by omega
  obtain ⟨o14, f14⟩ : ∃ o, fget fr 14 = o := ⟨_, rfl⟩
  rw [bootMid]
  refine WX_seq (WX.det ?_)
  simp (disch := omega) only [go_sem, a21r21, f0, f14, fget_keepV]
  refine WX_seq (WX_seq (WX.det ?_))
  simp (disch := omega) only [go_sem, a21r22, f0, f14, fget_keepV, hd, hm2, get_put_ne, dn1, dn2, mn1, mn2]
  refine WX_block ?_
  have n2' : bs.length = (kv (fp σ.sure)).length := by rw [hstp.len, kv_length, fp_length]
  have hbel := allBel_of hstp.lt
  have hb3 : Nat.ble ck ck = true := by simp
  obtain ⟨h0, hh0⟩ : ∃ h0, ((((h.reserve 2).put h.next (.map [] [] 0)).put (h.next + 1) (.cells [.nilm])).put (h.next + 1) (.cells [.mp h.next])).reserve 1 = h0 := ⟨_, rfl⟩
  rw [hh0]
  have g0 : h0.get h.next = some (.map [] [] 0) := by
    rw [← hh0, get_reserve, get_put_ne _ _ _ _ n01, get_put_ne _ _ _ _ n01, get_put_same]
  have g1 : h0.get (h.next + 1) = some (.cells [.mp h.next]) := by rw [← hh0, get_reserve, get_put_same]
  have gn : h0.next = h.next + 3 := by rw [← hh0]; rfl
  have go : ∀ o, o ≠ h.next → o ≠ h.next + 1 → h0.get o = h.get o := fun o h1 h2 => by
    rw [← hh0, get_reserve, get_put_ne _ _ _ _ h2, get_put_ne _ _ _ _ h2, get_put_ne _ _ _ _ h1, get_reserve]
  have hes : ∀ e ∈ kv (fp σ.sure), ∃ q ∈ σ.sure, e = (strv q.1, .ptr q.2 0) := fun e he => by
    simp only [kv, fp, List.map_map, List.mem_map] at he
    obtain ⟨q, hq, rfl⟩ := he
    exact ⟨q, hq, rfl⟩
  refine WX_loop (fun x : Nat × List Nat × List Nat × Heap => x.2.2.2.next = h.next + 3 ∧ x.2.2.2.get (h.next + 2) = some (.miter (some y.m2) ck x.2.1 ck) ∧ (∀ o, o < h.next ∨ h.next + 3 ≤ o → x.2.2.2.get o = h.get o) ∧ (x.2.2.2.get (h.next + 1) = some (.cells [.mp h.next]) ∧ ∃ b' c', x.2.2.2.get h.next = some (.map (pents x.2.2.1) b' c')) ∧
      (∀ f ∈ x.2.2.1, f ∈ σ.sure.map (·.2)) ∧ ∀ q ∈ σ.sure, q.2 ∈ x.2.2.1 ∨ ∃ r ∈ leftA x.2.1 bs (kv (fp σ.sure)), r.2.2 = .ptr q.2 0)
    (fun (t, seen, L, hh) => { fr := [(0, .ptr d 0), (14, .ptr (h.next + 1) 0), (107, .ptr (h.next + 2) 0)], st := t, h := hh }) (fun x => (leftA x.2.1 bs (kv (fp σ.sure))).length) ?_ _ (st, [], [], h0.put (h.next + 2) (.miter (some y.m2) ck [] ck)) (Nat.le_refl _) ⟨gn, get_put_same _ _ _, fun o ho => by
      simp only
      rw [get_put_ne _ _ _ _ (by omega), go o (by omega) (by omega)], ⟨by
      simp only
      rw [get_put_ne _ _ _ _ (by omega)]; exact g1, [], 0, by
      simp only
      rw [get_put_ne _ _ _ _ (by omega)]; exact g0⟩, by simp, fun q hq => Or.inr ?_⟩
  · rintro ⟨t, seen, L, hh⟩ ⟨i1, i2, i3, ⟨i4, b', c', i5⟩, i6, i7⟩
    simp only at i1 i2 i3 i4 i5 i6 i7
    have hm' : hh.get y.m2 = some (.map (kv (fp σ.sure)) bs ck) := (i3 y.m2 (Or.inl m2lt)).trans hm2
    rw [a21l2]
    refine WX_seq ?_
    rw [a21r23]
    refine WX.next (a := .ptr (h.next + 2) 0) (rs := nextsL { fr := [(0, .ptr d 0), (14, .ptr (h.next + 1) 0), (107, .ptr (h.next + 2) 0)], st := t, h := hh } (h.next + 2) y.m2 ck seen ck (leftA seen bs (kv (fp σ.sure)))) (by simp (disch := omega) only [go_sem]) (by simp only [nexts, i2, hm', hbel, hb3, Bool.and_self, if_true]) (fun v s1 hmem => ?_)
    unfold nextsL at hmem
    by_cases he : (leftA seen bs (kv (fp σ.sure))).isEmpty
    · rw [if_pos he, List.mem_singleton] at hmem
      obtain ⟨rfl, rfl⟩ := Prod.mk.inj hmem
      have hnil : leftA seen bs (kv (fp σ.sure)) = [] := by simpa using he
      simp (disch := omega) only [go_sem]
      refine WX_seq (WX.det ?_)
      simp (disch := omega) only [go_sem]
      refine WX.det ?_
      refine hrun hh _ _ L i1 i3 ⟨i4, ⟨b', c', i5⟩, fun g hg => ?_⟩ (fun f => ⟨fun hf => i6 f hf, fun hf => ?_⟩) rfl rfl
      · obtain ⟨q, hq, rfl⟩ := List.mem_map.1 (i6 g hg)
        have hqa := hD.ok.sure q hq
        have hc := hD.cell _ hqa
        rw [← i3 _ (Or.inl (own q.2 (Or.inr (Or.inr (Or.inr (Or.inr (Or.inr ⟨q.2, hqa, Or.inl rfl⟩)))))))] at hc
        simp [liveP, hc]
      · obtain ⟨q, hq, rfl⟩ := List.mem_map.1 hf
        rcases i7 q hq with h1 | ⟨r, h1, -⟩
        · exact h1
        · rw [hnil] at h1; simp at h1
    · rw [if_neg he, List.mem_map] at hmem
      obtain ⟨p, hp, e⟩ := hmem
      obtain ⟨rfl, rfl⟩ := Prod.mk.inj e
      obtain ⟨l1, l2, q1, q2⟩ := leftA_pick bs _ hstp.nd hp
      have fb := findB_pick bs _ hstp.nd hp
      obtain ⟨q, hq, hpq⟩ := hes _ (leftA_mem bs _ hp)
      obtain ⟨b1, pk, pv⟩ := p
      simp only at hpq fb q1 q2 hp
      obtain ⟨rfl, rfl⟩ := Prod.mk.inj hpq
      simp (disch := omega) only [go_sem]
      refine WX_seq (WX.det ?_)
      simp (disch := omega) only [go_sem]
      refine WX.det ?_
      have ck3 : Nat.beq ck ck = true := by simp
      simp (disch := omega) only [go_sem, a21r24, get_put_same, get_put_ne, mn3, hm', ck3, cond_true, lastN_app, fb]
      simp (disch := omega) only [go_sem, a21r25, get_put_ne, i4]
      have hqa := hD.ok.sure q hq
      have lv : ∀ f, f ∈ σ.all → ∀ k : Heap, (∀ o, o < h.next → k.get o = h.get o) → liveP k f 0 = true := fun f hf k hk => by
        have hc := hD.cell _ hf
        rw [← hk _ (own f (Or.inr (Or.inr (Or.inr (Or.inr (Or.inr ⟨f, hf, Or.inl rfl⟩))))))] at hc
        simp [liveP, hc]
      have i3' : ∀ o, o < h.next ∨ h.next + 3 ≤ o → (hh.put (h.next + 2) (.miter (some y.m2) ck (seen ++ [b1]) ck)).get o = h.get o := fun o ho => by
        rw [get_put_ne _ _ _ _ (by omega), i3 o ho]
      rw [i5, updM_ptr _ _ _ _ _ _ (lv q.2 hqa _ (fun o ho => i3' o (Or.inl ho))) (fun g hg => by
        obtain ⟨q', hq', rfl⟩ := List.mem_map.1 (i6 g hg)
        exact lv q'.2 (hD.ok.sure q' hq') _ (fun o ho => i3' o (Or.inl ho)))]
      simp (disch := omega) only [go_sem]
      refine ⟨(t, seen ++ [b1], if q.2 ∈ L then L else L ++ [q.2], (hh.put (h.next + 2) (.miter (some y.m2) ck (seen ++ [b1]) ck)).put h.next (putS q.2 L b' c')), ⟨i1, ?_, fun o ho => ?_, ⟨?_, ?_⟩, fun f hf => ?_, fun q' hq' => ?_⟩, by simp only; rw [q1, q2]; simp, rfl⟩
      · simp only
        rw [get_put_ne _ _ _ _ (by omega), get_put_same]
      · simp only
        rw [get_put_ne _ _ _ _ (by omega)]
        exact i3' o ho
      · simp only
        rw [get_put_ne _ _ _ _ (by omega), get_put_ne _ _ _ _ (by omega)]
        exact i4
      · simp only
        rw [get_put_same]
        unfold putS
        split
        · exact ⟨_, _, rfl⟩
        · exact ⟨_, _, rfl⟩
      · simp only at hf
        split at hf
        · exact i6 f hf
        · rcases List.mem_append.1 hf with h1 | h1
          · exact i6 f h1
          · rw [List.mem_singleton.1 h1]
            exact List.mem_map.2 ⟨q, hq, rfl⟩
      · simp only
        rcases i7 q' hq' with h1 | ⟨r, h1, h2⟩
        · refine Or.inl ?_
          split
          · exact h1
          · exact List.mem_append_left _ h1
        · rw [q1] at h1
          have : r = (b1, strv q.1, .ptr q.2 0) ∨ r ∈ l1 ++ l2 := by
            rcases List.mem_append.1 h1 with h1 | h1
            · exact Or.inr (List.mem_append_left _ h1)
            · rcases List.mem_cons.1 h1 with h1 | h1
              · exact Or.inl h1
              · exact Or.inr (List.mem_append_right _ h1)
          rcases this with rfl | h3
          · refine Or.inl ?_
            simp only [AV.ptr.injEq, and_true] at h2
            rw [← h2]
            split
            · assumption
            · exact List.mem_append_right _ (List.mem_singleton.2 rfl)
          · exact Or.inr ⟨r, by rw [q2]; exact h3, h2⟩
  · have := leftA_nil bs (kv (fp σ.sure)) n2'
    have hm : (strv q.1, AV.ptr q.2 0) ∈ kv (fp σ.sure) := by
      simp only [kv, fp, List.map_map, List.mem_map]
      exact ⟨q, hq, rfl⟩
    rw [← this] at hm
    obtain ⟨r, hr, e⟩ := List.mem_map.1 hm
    exact ⟨r, hr, by rw [e]⟩
end Go.Am.Dk
/- Boot whole. -/
namespace Go.Am.Dk
open Go.Am
set_option maxRecDepth 20000
set_option maxHeartbeats 2000000
def bootS (σ : DSt) (turns : Int) (keep : List Int) : DSt := endS { σ with sure := bootNames σ (tkS σ turns), file := (cutN keep σ.all σ.file σ.all.length).1 }
theorem boot_x {h : Heap} {d : Nat} {σ : DSt} {y : Lay} (hD : DiskAt h d σ y) (turns : Int) (keep : List Int) (n full : Bool) (hdd : σ.dead = true) (hall : σ.all.length ≤ 1000000000) (hw : σ.waits.length ≤ 1000000000) (hsu : ∀ f ∈ σ.all, (σ.file f).sure ≤ (σ.file f).b.length ∧ (σ.file f).b.length ≤ 1000000000000) (hk : keep.length ≤ 9223372036854775807 ∧ ∀ z ∈ keep, -9223372036854775808 ≤ z ∧ z ≤ 9223372036854775807) :
    ∃ H y', Step h H d σ y (bootS σ turns keep) y' ∧ FunX PU 21 [.ptr d 0, .int .i64 turns, slv n full keep] h (fun v2 h2 => v2 = .int .i64 0 ∧ SubH H h2) := by
  obtain ⟨n1, e1, s1, r1, rfl, p0, p2, p12, pD, pn, po⟩ := boot_turns PU_P h d σ y hD turns (slv n full keep) hw 0 (fun i => evS_slv i n full keep) (datW_slv n full keep)
  have W1 : Wp PU (.seq (.dreg 0 a21d3 [0, 2, 12, 32, 33, 34]) (.block 0 (.loop a21l0))) { fr := [(0, .ptr d 0), (1, .int .i64 turns), (2, slv n full keep), (19, .bool false)], st := 0, h := h } (fun e s => e = .normal ∧ s = s1) := ⟨n1, _, s1, r1, rfl, rfl⟩
  obtain ⟨n2, e2, s2, r2, rfl, k0, ⟨bv, kD, kb⟩, kn, ko⟩ := boot_cut PU_P s1.h d { σ with sure := bootNames σ (tkS σ turns) } y pD keep n full hall hsu hk s1.st [(0, .ptr d 0), (2, slv n full keep), (9, .int .i64 0)] rfl rfl rfl rfl
  have W2 : Wp PU (.seq (.reg 0 a21r9 [0, 2, 9, 12, 48, 49, 50]) (.block 2 (.loop a21l1))) { fr := [(0, .ptr d 0), (2, slv n full keep), (9, .int .i64 0)], st := s1.st, h := s1.h } (fun e s => e = .normal ∧ s = s2) := ⟨n2, _, s2, r2, rfl, rfl⟩
  obtain ⟨H, y', hst, hrun⟩ := boot_mid kD hall
  have S1 : Step h s1.h d σ y { σ with sure := bootNames σ (tkS σ turns) } y := ⟨pD, ⟨by omega, fun o _ hn => po o (fun e => hn (Or.inr (Or.inr (Or.inl e))))⟩, fun o ho => Or.inl ho⟩
  have S2 : Step s1.h s2.h d { σ with sure := bootNames σ (tkS σ turns) } y { σ with sure := bootNames σ (tkS σ turns), file := (cutN keep σ.all σ.file σ.all.length).1 } { y with bv := bv } :=
    ⟨kD, ⟨by omega, fun o _ hn => ko o (fun e => hn (Or.inr (Or.inr (Or.inr (Or.inr (Or.inr ⟨o, e, Or.inl rfl⟩))))))⟩, fun o ho => Or.inl (by
      rcases ho with h1 | h1 | h1 | h1 | h1 | ⟨f, hf, h1 | h1⟩
      · exact Or.inl h1
      · exact Or.inr (Or.inl h1)
      · exact Or.inr (Or.inr (Or.inl h1))
      · exact Or.inr (Or.inr (Or.inr (Or.inl h1)))
      · exact Or.inr (Or.inr (Or.inr (Or.inr (Or.inl h1))))
      · exact Or.inr (Or.inr (Or.inr (Or.inr (Or.inr ⟨f, hf, Or.inl h1⟩))))
      · exact Or.inr (Or.inr (Or.inr (Or.inr (Or.inr ⟨f, hf, Or.inr (kb f hf o h1)⟩)))))⟩
  refine ⟨H, y', (S1.trans S2).trans hst, ?_⟩
  have hd := hD.disk
  simp only [DSt.cells] at hd
  refine FunX.of (code := a21c) rfl ?_
  rw [a21c]
  refine WX_seq (WX.det ?_)
  simp (disch := omega) only [go_sem, a21r0]
  refine WX_seq (WX_seq (WX.det ?_))
  simp (disch := omega) only [go_sem, a21r1]
  refine WO.fun (vs := [.ptr d 0]) (by simp (disch := omega) only [go_sem]) (deadD_fun PU_P h d σ y hD) (fun v h' hv => ?_)
  obtain ⟨rfl, rfl⟩ := hv
  simp (disch := omega) only [go_sem, hdd]
  refine WX.det ?_
  simp (disch := omega) only [go_sem]
  refine WX_seq (WX.det (W1.mono ?_))
  rintro e s ⟨rfl, rfl⟩
  simp (disch := omega) only [go_sem]
  refine WX_seq (WX.det ?_)
  simp (disch := omega) only [go_sem, a21r8, p0, p2, p12]
  refine WX_seq (WX.det (W2.mono ?_))
  rintro e s ⟨rfl, rfl⟩
  simp (disch := omega) only [go_sem]
  exact hrun _ _ k0
theorem boot_on {h : Heap} {d : Nat} {σ : DSt} {y : Lay} (hD : DiskAt h d σ y) (turns : Int) (kv : AV) (hdd : σ.dead = false) : FunX PU 21 [.ptr d 0, .int .i64 turns, kv] h (fun v2 h2 => v2 = .int .i64 1 ∧ SubH h h2) := by
  refine FunX.of (code := a21c) rfl (WX.det ?_)
  simp (disch := omega) only [go_sem, a21c, a21r0]
  simp (disch := omega) only [go_sem, a21r1]
  refine WO.fun (vs := [.ptr d 0]) (by simp (disch := omega) only [go_sem]) (deadD_fun PU_P h d σ y hD) (fun v h' hv => ?_)
  obtain ⟨rfl, rfl⟩ := hv
  simp (disch := omega) only [go_sem, hdd]
  simp (disch := omega) only [go_sem, a21r2]
  exact ⟨by trivial, SubH.refl _⟩
def bootR (σ : DSt) (turns : Int) (keep : List Int) : Int × DSt := if σ.dead then (0, bootS σ turns keep) else (1, σ)
end Go.Am.Dk
/- A heap says which disk it holds. -/
namespace Go.Am.Dk
open Go.Am
set_option maxRecDepth 20000
set_option maxHeartbeats 1000000
theorem strv_eq {a b : List UInt8} (h : strv a = strv b) : a = b := by
  unfold strv at h
  injection h with h
  exact strv_inj h
theorem flat_inj {α : Type} [Cel α] (hi : ∀ a b : α, Cel.ccells a = Cel.ccells b → a = b) : ∀ (l l' : List α) (j j' : List AV), l.length = l'.length → l.flatMap Cel.ccells ++ j = l'.flatMap Cel.ccells ++ j' → l = l'
  | [], [], _, _, _, _ => rfl
  | [], _ :: _, _, _, h, _ => by simp at h
  | _ :: _, [], _, _, h, _ => by simp at h
  | a :: l, b :: l', j, j', h, e => by
    simp only [List.flatMap_cons, List.append_assoc] at e
    obtain ⟨e1, e2⟩ := List.append_inj e (by rw [Cel.clen, Cel.clen])
    rw [hi a b e1, flat_inj hi l l' j j' (by simpa using h) e2]
theorem PreC.inj {α : Type} [Cel α] (hi : ∀ a b : α, Cel.ccells a = Cel.ccells b → a = b) {h : Heap} {v : AV} {l l' : List α} (a : PreC h v l) (b : PreC h v l') : l = l' := by
  rcases a with ⟨e, h1⟩ | ⟨o, ep, j, e, h1⟩ <;> rcases b with ⟨e', h2⟩ | ⟨o', ep', j', e', h2⟩
  · rw [h1, h2]
  · rw [e] at e'; cases e'
  · rw [e] at e'; cases e'
  · rw [e] at e'
    injection e' with q1 q2 q3 q4 q5 q6
    subst q2 q3
    rw [h1] at h2
    injection h2 with h2
    injection h2 with q7 q8 q9
    exact flat_inj hi l l' j j' q5 q9
theorem fp_inj : ∀ {n n' : NMap}, kv (fp n) = kv (fp n') → n = n'
  | [], [], _ => rfl
  | [], _ :: _, h => by simp [fp, kv] at h
  | _ :: _, [], h => by simp [fp, kv] at h
  | p :: r, p' :: r', h => by
    rw [fp_cons, fp_cons] at h
    simp only [kv, List.map_cons, List.cons.injEq, Prod.mk.injEq, AV.ptr.injEq, and_true] at h
    rw [fp_inj (n := r) (n' := r') h.2]
    have e1 := strv_eq h.1.1
    have e2 : p = p' := Prod.ext e1 h.1.2
    rw [e2]
theorem MapAt.inj {h : Heap} {m : Nat} {n n' : NMap} (a : MapAt h m n) (b : MapAt h m n') : n = n' := by
  obtain ⟨bs, ck, e, -⟩ := a
  obtain ⟨bs', ck', e', -⟩ := b
  rw [e] at e'
  injection e' with e'
  injection e' with e'
  exact fp_inj e'
theorem fcell_inj : ∀ {a b : Option Nat}, fcell a = fcell b → a = b
  | none, none, _ => rfl
  | none, some _, h => by cases h
  | some _, none, h => by cases h
  | some _, some _, h => by injection h with h; rw [h]
theorem turn_inj (a b : DTurn) (h : Cel.ccells a = Cel.ccells b) : a = b := by
  have h' : [strv a.fr, strv a.to, fcell a.f] = [strv b.fr, strv b.to, fcell b.f] := h
  simp only [List.cons.injEq, and_true] at h'
  obtain ⟨x, y, z⟩ := a
  obtain ⟨x', y', z'⟩ := b
  simp only at h'
  rw [strv_eq h'.1, strv_eq h'.2.1, fcell_inj h'.2.2]
theorem filP_inj (a b : FilP) (h : Cel.ccells a = Cel.ccells b) : a = b := by
  obtain ⟨x⟩ := a
  obtain ⟨y⟩ := b
  have h' : [AV.ptr x 0] = [AV.ptr y 0] := h
  simp only [List.cons.injEq, AV.ptr.injEq, and_true] at h'
  rw [h']
theorem u8_inj (a b : UInt8) (h : Cel.ccells a = Cel.ccells b) : a = b := by
  have h' : [AV.int .u8 a.toNat] = [AV.int .u8 b.toNat] := h
  simp only [List.cons.injEq, AV.int.injEq, and_true, true_and] at h'
  exact UInt8.toNat_inj.1 (by omega)
theorem slv_inj {n n' full full' : Bool} {l l' : List Int} (h : slv n full l = slv n' full' l') : l = l' := by
  rcases slv_cases n full l with ⟨e, e1, -⟩ | e <;> rcases slv_cases n' full' l' with ⟨e', e2, -⟩ | e' <;> rw [e, e'] at h
  · rw [e1, e2]
  · cases h
  · cases h
  · injection h with q1 q2 q3 q4
    refine List.ext_getElem q2 (fun i h1 h2 => ?_)
    have := congrFun q3 i
    rw [cellsAtL_in h1, cellsAtL_in h2] at this
    have h' : [AV.int .i64 (l.getD i default)] = [AV.int .i64 (l'.getD i default)] := this
    simp only [List.cons.injEq, AV.int.injEq, and_true, true_and] at h'
    rw [List.getD_eq_getElem?_getD, List.getElem?_eq_getElem h1, List.getD_eq_getElem?_getD, List.getElem?_eq_getElem h2] at h'
    exact h'
theorem DiskAt.inj {h : Heap} {d : Nat} {σ σ' : DSt} {y y' : Lay} (a : DiskAt h d σ y) (b : DiskAt h d σ' y') : σ' = { σ with file := σ'.file } ∧ y' = { y with bv := y'.bv } ∧ ∀ f ∈ σ.all, σ'.file f = σ.file f ∧ y'.bv f = y.bv f := by
  have e := a.disk
  rw [b.disk] at e
  injection e with e
  injection e with e
  simp only [DSt.cells, List.cons.injEq, AV.int.injEq, AV.mp.injEq, AV.bool.injEq, and_true, true_and] at e
  obtain ⟨e0, e1, e2, e3, e4, e5, e6, e7, e8, e9⟩ := e
  have n1 : σ'.names = σ.names := MapAt.inj (by rw [← e1]; exact b.names) a.names
  have n2 : σ'.sure = σ.sure := MapAt.inj (by rw [← e2]; exact b.sure) a.sure
  have n3 : σ'.all = σ.all := by
    have := PreC.inj filP_inj (by rw [← e3]; exact b.all) a.all
    have := congrArg (List.map FilP.o) this
    simpa [List.map_map, Function.comp_def] using this
  have n4 : σ'.waits = σ.waits := PreC.inj turn_inj (by rw [← e4]; exact b.waits) a.waits
  refine ⟨?_, ?_, fun f hf => ?_⟩
  · cases σ'; cases σ; simp_all
  · cases y'; cases y; simp_all
  · have c1 := a.cell f hf
    have c2 := b.cell f (by rw [n3]; exact hf)
    rw [c1] at c2
    injection c2 with c2
    injection c2 with c2
    simp only [List.cons.injEq, AV.int.injEq, and_true, true_and] at c2
    have c3 : (σ'.file f).b = (σ.file f).b := PreC.inj u8_inj (by rw [c2.1]; exact b.bytes f (by rw [n3]; exact hf)) (a.bytes f hf)
    refine ⟨?_, c2.1.symm⟩
    have c4 : (σ'.file f).sure = (σ.file f).sure := by omega
    generalize σ'.file f = x at c3 c4
    generalize σ.file f = x' at c3 c4
    cases x; cases x'; simp_all
end Go.Am.Dk
/- Boot is told. -/
namespace Go.Am.Dk
open Go.Am
set_option maxRecDepth 20000
set_option maxHeartbeats 1000000
variable {P : Prog}
theorem DiskAt.files {h : Heap} {d : Nat} {σ : DSt} {y : Lay} {g : Nat → DFile} {b : Nat → AV} (a : DiskAt h d σ y) (hg : ∀ f ∈ σ.all, g f = σ.file f) (hb : ∀ f ∈ σ.all, b f = y.bv f) : DiskAt h d { σ with file := g } { y with bv := b } := by
  refine { ok := ⟨a.ok.names, a.ok.sure, a.ok.waits, a.ok.nd, a.ok.sd, a.ok.ad⟩, disk := a.disk, names := a.names, sure := a.sure, all := a.all, waits := a.waits, cell := fun f hf => ?_, bytes := fun f hf => ?_, mm := a.mm, bb := fun f hf f' hf' hn o h1 => ?_, ab := fun f hf o h1 => ?_, wb := fun f hf o h1 => ?_, aw := a.aw, lt := fun o h1 => ?_ }
  · show h.get f = some (.cells [b f, .int .i64 (g f).sure])
    rw [hg f hf, hb f hf]
    exact a.cell f hf
  · show PreC h (b f) (g f).b
    rw [hg f hf, hb f hf]
    exact a.bytes f hf
  · show rowOf (b f') ≠ some o
    have h1 : rowOf (b f) = some o := h1
    rw [hb f hf] at h1
    rw [hb f' hf']
    exact a.bb f hf f' hf' hn o h1
  · show rowOf (b f) ≠ some o
    rw [hb f hf]
    exact a.ab f hf o h1
  · show rowOf (b f) ≠ some o
    rw [hb f hf]
    exact a.wb f hf o h1
  · refine a.lt o ?_
    rcases h1 with h1 | h1 | h1 | h1 | h1 | ⟨f, hf, h1⟩
    · exact Or.inl h1
    · exact Or.inr (Or.inl h1)
    · exact Or.inr (Or.inr (Or.inl h1))
    · exact Or.inr (Or.inr (Or.inr (Or.inl h1)))
    · exact Or.inr (Or.inr (Or.inr (Or.inr (Or.inl h1))))
    · refine Or.inr (Or.inr (Or.inr (Or.inr (Or.inr ⟨f, hf, ?_⟩))))
      have h1 : o = f ∨ rowOf (b f) = some o := h1
      rw [hb f hf] at h1
      exact h1
theorem own_congr {d : Nat} {σ : DSt} {y : Lay} {g : Nat → DFile} {b : Nat → AV} (hb : ∀ f ∈ σ.all, b f = y.bv f) (o : Nat) : Own d { σ with file := g } { y with bv := b } o ↔ Own d σ y o := by
  unfold Own
  simp only
  constructor
  · rintro (h1 | h1 | h1 | h1 | h1 | ⟨f, hf, h1⟩)
    · exact Or.inl h1
    · exact Or.inr (Or.inl h1)
    · exact Or.inr (Or.inr (Or.inl h1))
    · exact Or.inr (Or.inr (Or.inr (Or.inl h1)))
    · exact Or.inr (Or.inr (Or.inr (Or.inr (Or.inl h1))))
    · rw [hb f hf] at h1; exact Or.inr (Or.inr (Or.inr (Or.inr (Or.inr ⟨f, hf, h1⟩))))
  · rintro (h1 | h1 | h1 | h1 | h1 | ⟨f, hf, h1⟩)
    · exact Or.inl h1
    · exact Or.inr (Or.inl h1)
    · exact Or.inr (Or.inr (Or.inl h1))
    · exact Or.inr (Or.inr (Or.inr (Or.inl h1)))
    · exact Or.inr (Or.inr (Or.inr (Or.inr (Or.inl h1))))
    · rw [← hb f hf] at h1; exact Or.inr (Or.inr (Or.inr (Or.inr (Or.inr ⟨f, hf, h1⟩))))
theorem cutN_congr {keep : List Int} {all : List Nat} {file g : Nat → DFile} (hg : ∀ f ∈ all, g f = file f) : ∀ k, k ≤ all.length → (∀ f ∈ all, (cutN keep all g k).1 f = (cutN keep all file k).1 f) ∧ (cutN keep all g k).2 = (cutN keep all file k).2
  | 0, _ => ⟨hg, rfl⟩
  | k + 1, hk => by
    obtain ⟨h1, h2⟩ := cutN_congr (keep := keep) hg k (by omega)
    have hm : all.getD k 0 ∈ all := by
      rw [List.getD_eq_getElem?_getD, List.getElem?_eq_getElem (show k < all.length by omega)]
      exact List.getElem_mem _
    simp only [cutN, h1 _ hm, h2, and_true]
    intro f hf
    split
    · rfl
    · exact h1 f hf
def BootGood (d : Nat) (turns : Int) (kv : AV) (h : Heap) (r : Int × Heap) : Prop :=
  (∃ σ y y' keep n full, kv = slv n full keep ∧ DiskAt h d σ y ∧ r.1 = (bootR σ turns keep).1 ∧ Step h r.2 d σ y (bootR σ turns keep).2 y') ∧ FunX PU 21 [.ptr d 0, .int .i64 turns, kv] h (fun v2 h2 => v2 = .int .i64 r.1 ∧ SubH r.2 h2)
open Classical in
noncomputable def bootF : List AV → Heap → Option (AV × Heap)
  | [.ptr d 0, .int .i64 turns, kv], h => if ex : ∃ r, BootGood d turns kv h r then some (.int .i64 ex.choose.1, ex.choose.2) else none
  | _, _ => none
theorem boot_told (args : List AV) (h : Heap) (v : AV) (h' : Heap) (hF : bootF args h = some (v, h')) : FunX PU 21 args h (fun v2 h2 => v2 = v ∧ SubH h' h2) := by
  unfold bootF at hF
  split at hF
  · split at hF
    · rename_i ex
      simp only [Option.some.injEq, Prod.mk.injEq] at hF
      obtain ⟨rfl, rfl⟩ := hF
      exact ex.choose_spec.2
    · simp at hF
  · simp at hF
theorem boot_sim : CallSim L (onF 21 bootF) := onF_sim (PA := PU) allFn mixed code_sim prim0_sim boot_told
theorem bootF_eq {h : Heap} {d : Nat} {σ : DSt} {y : Lay} (hD : DiskAt h d σ y) (turns : Int) (keep : List Int) (n full : Bool) (hall : σ.all.length ≤ 1000000000) (hw : σ.waits.length ≤ 1000000000) (hsu : ∀ f ∈ σ.all, (σ.file f).sure ≤ (σ.file f).b.length ∧ (σ.file f).b.length ≤ 1000000000000) (hk : keep.length ≤ 9223372036854775807 ∧ ∀ z ∈ keep, -9223372036854775808 ≤ z ∧ z ≤ 9223372036854775807) :
    ∃ H y', bootF [.ptr d 0, .int .i64 turns, slv n full keep] h = some (.int .i64 (bootR σ turns keep).1, H) ∧ Step h H d σ y (bootR σ turns keep).2 y' := by
  have ex0 : ∃ H y', Step h H d σ y (bootR σ turns keep).2 y' ∧ FunX PU 21 [.ptr d 0, .int .i64 turns, slv n full keep] h (fun v2 h2 => v2 = .int .i64 (bootR σ turns keep).1 ∧ SubH H h2) := by
    cases hdd : σ.dead with
    | true =>
      have e : bootR σ turns keep = (0, bootS σ turns keep) := by unfold bootR; rw [hdd]; rfl
      rw [e]
      exact boot_x hD turns keep n full hdd hall hw hsu hk
    | false =>
      have e : bootR σ turns keep = (1, σ) := by unfold bootR; rw [hdd]; rfl
      rw [e]
      exact ⟨h, y, Step.refl hD, boot_on hD turns _ hdd⟩
  obtain ⟨H0, y0, hs0, hf0⟩ := ex0
  have ex : ∃ r, BootGood d turns (slv n full keep) h r := ⟨((bootR σ turns keep).1, H0), ⟨σ, y, y0, keep, n, full, rfl, hD, rfl, hs0⟩, hf0⟩
  obtain ⟨σ', y1, y2, keep', n', full', e, hD', hr1, hst⟩ := ex.choose_spec.1
  have ek : keep = keep' := slv_inj e
  subst ek
  obtain ⟨e1, e2, e3⟩ := hD.inj hD'
  obtain ⟨g, hg⟩ : ∃ g, σ'.file = g := ⟨_, rfl⟩
  obtain ⟨b, hb⟩ : ∃ b, y1.bv = b := ⟨_, rfl⟩
  rw [hg] at e1 e3
  rw [hb] at e2 e3
  rw [e1, e2] at hst
  rw [e1] at hr1
  have hr2 : (bootR { σ with file := g } turns keep).1 = (bootR σ turns keep).1 := by unfold bootR; simp only; split <;> rfl
  refine ⟨ex.choose.2, y2, by simp only [bootF, dif_pos ex, hr1, hr2], ?_⟩
  have fil : ∀ f ∈ (bootR { σ with file := g } turns keep).2.all, (bootR σ turns keep).2.file f = (bootR { σ with file := g } turns keep).2.file f := fun f hf => by
    unfold bootR at hf ⊢
    simp only at hf ⊢
    split at hf
    · rename_i hd
      rw [if_pos hd, if_pos hd]
      exact ((cutN_congr (keep := keep) (fun f hf => (e3 f hf).1) σ.all.length (Nat.le_refl _)).1 f (List.mem_filter.1 hf).1).symm
    · rename_i hd
      rw [if_neg hd, if_neg hd]
      exact (e3 f hf).1.symm
  have at' : DiskAt ex.choose.2 d { (bootR { σ with file := g } turns keep).2 with file := (bootR σ turns keep).2.file } { y2 with bv := y2.bv } := hst.at'.files fil (fun _ _ => rfl)
  have eq : ({ (bootR { σ with file := g } turns keep).2 with file := (bootR σ turns keep).2.file } : DSt) = (bootR σ turns keep).2 := by
    unfold bootR
    simp only
    split <;> rfl
  rw [eq] at at'
  refine ⟨at', ⟨hst.frm.1, fun o h1 h2 => hst.frm.2 o h1 (fun h3 => h2 ((own_congr (fun f hf => (e3 f hf).2) o).1 h3))⟩, fun o ho => ?_⟩
  have ho' : Own d (bootR { σ with file := g } turns keep).2 y2 o := by
    rw [← eq] at ho
    exact ho
  rcases hst.own o ho' with h1 | h1
  · exact Or.inl ((own_congr (fun f hf => (e3 f hf).2) o).1 h1)
  · exact Or.inr h1
end Go.Am.Dk
/- Entries, turns and files of the document's disk; Arm, Fault. -/
namespace Go.Am.Dk
open Go.Am
set_option maxRecDepth 20000
set_option maxHeartbeats 1000000
variable {P : Prog}
structure REnt where
  s : List UInt8
  n : Int
  deriving Inhabited
instance celREnt : Cel REnt where
  csz := 2
  ccells t := [strv t.s, .int .i64 t.n]
  clen _ := rfl
structure RTurn where
  fr : List UInt8
  to : List UInt8
  n : Int
  deriving Inhabited
instance celRTurn : Cel RTurn where
  csz := 3
  ccells t := [strv t.fr, strv t.to, .int .i64 t.n]
  clen _ := rfl
structure RFile where
  v : AV
  n : Int
  deriving Inhabited
instance celRFile : Cel RFile where
  csz := 2
  ccells t := [t.v, .int .i64 t.n]
  clen _ := rfl
theorem dSP_appC {α : Type} [Cel α] {base st0 : Nat} {all : List DItem} {live : List Nat} {Q : AExit → St → Prop} {s : St} {fr : Fr} {st : Nat} {h : Heap} {o' e bytes : Nat} {v y : AV} {l new : List α} {d : Option Nat} {r : List DItem} {ch : List Nat} (hr : PreC h v l) (hy : AddsC h y new) (he : Cel.csz α = e) (hb : (l.length + new.length) * bytes ≤ two47)
    (hl : ∀ v' h', PreC h' v' (l ++ new) → h'.next = h.next → (rowOf v' = rowOf v ∨ rowOf v' = some o') → (∀ q, q ≠ o' → rowOf v ≠ some q → h'.get q = h.get q) → looks base st0 all { fr := setD s.fr d v', st := s.st, h := h' } ch = true)
    (H : ∀ v' h', PreC h' v' (l ++ new) → h'.next = h.next → (rowOf v' = rowOf v ∨ rowOf v' = some o') → (∀ q, q ≠ o' → rowOf v ≠ some q → h'.get q = h.get q) → (new ≠ [] ∨ v ≠ .nils → v' ≠ .nils) → WD P base st0 all r live { fr := setD s.fr d v', st := s.st, h := h' } Q) :
    dS P base st0 all (appA { fr := fr, st := st, h := h } o' e bytes v y) d ch r live s Q := by
  obtain ⟨v', h', e1, e2, e3, e4, e5, e6⟩ := appP_row (s := { fr := fr, st := st, h := h }) (o' := o') hr hy he hb
  rw [e1]
  exact ⟨hl v' h' e2 e3 e4 e5, H v' h' e2 e3 e4 e5 e6⟩
def armS (n : Int) : Int := if n < 1 ∨ 1099511627776 < n then 0 else n
theorem armR_fun (hP : DkP P) (n : Int) (h : Heap) : Fun P 46 [.int .i64 n] h (fun v h' => v = .int .i64 (armS n) ∧ h' = h) := by
  refine Fun.of (code := a46c) (hP.code rfl) (by rw [hP.pure]; rfl) ?_
  unfold armS
  simp (disch := omega) only [go_sem, a46c, a46r0, a46r1]
  refine guardS_pf (fun c w => ?_) (fun c w => ?_) <;> simp (disch := omega) only [go_sem, w]
  · refine condS_if (fun c2 => ?_) (fun c2 => ?_)
    · simp (disch := omega) only [go_sem, a46r2]
      rw [if_pos (Or.inr c2)]
      exact ⟨rfl, trivial⟩
    · simp (disch := omega) only [go_sem, a46r3]
      rw [if_neg (by omega)]
      exact ⟨rfl, trivial⟩
  · simp (disch := omega) only [go_sem, a46r2]
    rw [if_pos (Or.inl c)]
    exact ⟨rfl, trivial⟩
def faultS (σ : DSt) (n e : Int) : DSt := { σ with fault := if e = 0 ∨ e = 9 then 0 else aheadS σ n, e := e }
theorem faultD_fun (hP : DkP P) (n e : Int) (h : Heap) (d : Nat) (σ : DSt) (y : Lay) (hD : DiskAt h d σ y) (h1 : 0 ≤ σ.calls) (h2 : σ.calls < 8000000000000000000) : Fun P 30 [.ptr d 0, .int .i64 n, .int .i64 e] h (fun v h' => Step h h' d σ y (faultS σ n e) y) := by
  have hd := hD.disk
  simp only [DSt.cells] at hd
  refine Fun.of (code := a30c) (hP.code rfl) (by rw [hP.pure]; rfl) ?_
  simp (disch := omega) only [go_sem, a30c, a30r0]
  simp (disch := omega) only [go_sem, a30r1]
  refine WO.fun (vs := [.ptr d 0, .int .i64 n]) (by simp (disch := omega) only [go_sem]) (aheadD_fun hP n h d σ y hD h1 h2) (fun v h' hv => ?_)
  obtain ⟨rfl, rfl⟩ := hv
  simp (disch := omega) only [go_sem, hd, get_put_same]
  simp (disch := omega) only [go_sem, a30r2]
  have fin : ∀ h2 : Heap, h2.get d = some (.cells ((faultS σ n e).cells y)) → (∀ o, o ≠ d → h2.get o = h'.get o) → h2.next = h'.next → Step h' h2 d σ y (faultS σ n e) y := fun h2 g1 g2 g3 =>
    Step.only (hD.turn g1 (fun o _ ho => g2 o ho) (Nat.le_of_eq g3.symm) rfl rfl rfl rfl rfl) g3 g2 rfl
  have e1 : ∀ a, (faultS σ n e).cells y = [.int .i64 σ.cap, .mp y.m, .mp y.m2, y.av, y.wv, .bool σ.dead, .int .i64 σ.calls, .int .i64 σ.fuse, .int .i64 a, .int .i64 e] ↔ (if e = 0 ∨ e = 9 then 0 else aheadS σ n) = a := fun a => by
    unfold faultS DSt.cells
    simp
  refine guardS_pf (fun c w => ?_) (fun c w => ?_) <;> simp (disch := omega) only [go_sem, w]
  · refine condS_if (fun c2 => ?_) (fun c2 => ?_)
    · simp (disch := omega) only [go_sem, a30r3, get_put_same]
      refine fin _ (by rw [get_put_same, (e1 0).2 (if_pos (Or.inr c2))]) (fun o ho => ?_) rfl
      simp only [get_put_ne _ _ _ _ ho]
    · simp (disch := omega) only [go_sem]
      refine fin _ (by rw [get_put_same, (e1 _).2 (if_neg (by omega))]) (fun o ho => ?_) rfl
      simp only [get_put_ne _ _ _ _ ho]
  · simp (disch := omega) only [go_sem, a30r3, get_put_same]
    refine fin _ (by rw [get_put_same, (e1 0).2 (if_pos (Or.inl c))]) (fun o ho => ?_) rfl
    simp only [get_put_ne _ _ _ _ ho]
def Only (h : Heap) (x : Nat) (h' : Heap) : Prop := h.next ≤ h'.next ∧ ∀ o, o < h.next → o ≠ x → h'.get o = h.get o
end Go.Am.Dk
/- The document's disk: find, without, put, do, on rows of entries. -/
namespace Go.Am.Dk
open Go.Am
set_option maxRecDepth 20000
set_option maxHeartbeats 1000000
variable {P : Prog}
theorem ld_pre1 {α : Type} [Cel α] {l : List α} {j : List AV} {k f : Nat} (hk : k < l.length) (hf : f < Cel.csz α) : ((dropN (k * Cel.csz α + f) (l.flatMap Cel.ccells ++ j)).bind fun r => takeN 1 r) = some [(Cel.ccells (l.getD k default)).getD f .nilp] := by
  have hs : l = l.take k ++ (l.getD k default :: l.drop (k + 1)) := by
    have : l.getD k default = l[k] := by rw [List.getD_eq_getElem?_getD, List.getElem?_eq_getElem hk]; rfl
    rw [this, ← List.drop_eq_getElem_cons hk, List.take_append_drop]
  have hlen : f < (Cel.ccells (l.getD k default)).length := by rw [Cel.clen]; exact hf
  have hc : Cel.ccells (l.getD k default) = (Cel.ccells (l.getD k default)).take f ++ ((Cel.ccells (l.getD k default)).getD f .nilp :: (Cel.ccells (l.getD k default)).drop (f + 1)) := by
    have : (Cel.ccells (l.getD k default)).getD f .nilp = (Cel.ccells (l.getD k default))[f] := by rw [List.getD_eq_getElem?_getD, List.getElem?_eq_getElem hlen]; rfl
    rw [this, ← List.drop_eq_getElem_cons hlen, List.take_append_drop]
  have h1 : l.flatMap Cel.ccells ++ j = ((l.take k).flatMap Cel.ccells ++ (Cel.ccells (l.getD k default)).take f) ++ ([(Cel.ccells (l.getD k default)).getD f .nilp] ++ ((Cel.ccells (l.getD k default)).drop (f + 1) ++ ((l.drop (k + 1)).flatMap Cel.ccells ++ j))) := by
    conv => lhs; rw [hs]
    rw [List.flatMap_append, List.flatMap_cons]
    conv => lhs; rw [hc]
    simp
  have h2 : ((l.take k).flatMap Cel.ccells ++ (Cel.ccells (l.getD k default)).take f).length = k * Cel.csz α + f := by
    rw [List.length_append, flatC_len, List.length_take, Nat.min_eq_left (Nat.le_of_lt hk), List.length_take, Nat.min_eq_left (Nat.le_of_lt hlen)]
  rw [h1, ← h2, dropN_app, Option.bind_some]
  exact takeN_app [_] _
def Has {α : Type} [Cel α] (h : Heap) (v : AV) (l : List α) : Prop := PreC h v l ∧ ∀ o, rowOf v = some o → o < h.next
theorem Has.ext {α : Type} [Cel α] {h h' : Heap} {v : AV} {l : List α} (a : Has h v l) (hx : Ext h h') : Has h' v l := ⟨a.1.keep (fun o ho => hx.2 o (a.2 o ho)), fun o ho => by have := a.2 o ho; have := hx.1; omega⟩
theorem Has.keep {α : Type} [Cel α] {h h' : Heap} {v : AV} {l : List α} (a : Has h v l) (hn : h.next ≤ h'.next) (hk : ∀ o, rowOf v = some o → h'.get o = h.get o) : Has h' v l := ⟨a.1.keep hk, fun o ho => by have := a.2 o ho; omega⟩
theorem Has.nil {α : Type} [Cel α] (h : Heap) : Has h .nils ([] : List α) := ⟨Or.inl ⟨rfl, rfl⟩, fun o ho => by simp [rowOf] at ho⟩
def findL (l : List REnt) (s : List UInt8) : Int := match l with
  | [] => -1
  | e :: r => if e.s = s then e.n else findL r s
theorem findL_app (s : List UInt8) : ∀ (a b : List REnt), (∀ e ∈ a, e.s ≠ s) → findL (a ++ b) s = findL b s
  | [], b, _ => rfl
  | e :: a, b, h => by
    rw [List.cons_append, findL, if_neg (h e List.mem_cons_self), findL_app s a b (fun x hx => h x (List.mem_cons_of_mem _ hx))]
theorem find_fun (hP : DkP P) (l : List REnt) (s : List UInt8) (v : AV) (h : Heap) (hv : PreC h v l) (hl : l.length ≤ 1000000000) : Fun P 55 [v, strv s] h (fun r h' => r = .int .i64 (findL l s) ∧ h' = h) := by
  have ev := hv.ev
  have dt := hv.dt
  have ln := hv.len
  have tg := hv.tag
  refine Fun.of (code := a55c) (hP.code rfl) (by rw [hP.pure]; rfl) ?_
  simp (disch := omega) only [go_sem, a55c, a55r0, ev, dt]
  simp (disch := omega) only [go_sem, a55r1, ev, dt]
  refine Wp_loop (fun x : Nat × Nat => x.2 ≤ l.length ∧ ∀ e ∈ l.take x.2, e.s ≠ s) (fun (t, k) => { fr := [(0, v), (1, strv s), (5, .int .i64 k)], st := t, h := h }) (fun x => l.length - x.2) (0, 0) rfl ⟨Nat.zero_le _, by simp⟩ ?_
  rintro ⟨t, k⟩ ⟨i1, i2⟩
  simp only at i1 i2
  simp (disch := omega) only [go_sem, a55l0, a55r2, ev, dt, ln, tg, cond_true]
  refine condS_if (fun c => ?_) (fun c => ?_)
  · have hk : k < l.length := by omega
    have hne : l ≠ [] := fun e => by rw [e] at hk; simp at hk
    obtain ⟨o, ep, j, rfl, hg⟩ := hv.resolve_left (fun e => hne e.2)
    have hcs : Cel.csz REnt = 2 := rfl
    obtain ⟨b, hb⟩ : ∃ b, l.getD k default = b := ⟨_, rfl⟩
    have ce : Cel.ccells b = [strv b.s, .int .i64 b.n] := rfl
    have l0 := ld_pre1 (α := REnt) (l := l) (j := j) (k := k) (f := 0) hk (by decide)
    have l1 := ld_pre1 (α := REnt) (l := l) (j := j) (k := k) (f := 1) hk (by decide)
    rw [hcs, hb, ce] at l0 l1
    simp only [Nat.add_zero, List.getD_cons_zero, List.getD_cons_succ] at l0 l1
    simp (disch := omega) only [go_sem, a55r3, ev, dt, hcs, hg, l0]
    refine condS_if (fun c2 => ?_) (fun c2 => ?_)
    · simp (disch := omega) only [go_sem, a55r4, ev, dt, hcs, hg, l1]
      refine ⟨?_, trivial⟩
      have e1 : l = l.take k ++ (b :: l.drop (k + 1)) := by
        have : b = l[k] := by rw [← hb, List.getD_eq_getElem?_getD, List.getElem?_eq_getElem hk]; rfl
        rw [this, ← List.drop_eq_getElem_cons hk, List.take_append_drop]
      rw [e1, findL_app s _ _ i2, findL, if_pos c2]
    · simp (disch := omega) only [go_sem, a55r5, ev, dt, hcs]
      refine ⟨(t, k + 1), ⟨by simp only; omega, ?_⟩, by simp only; omega, rfl⟩
      simp only
      rw [List.take_succ_eq_append_getElem hk]
      intro e he
      rcases List.mem_append.1 he with he | he
      · exact i2 e he
      · rw [List.mem_singleton.1 he]
        have : b = l[k] := by rw [← hb, List.getD_eq_getElem?_getD, List.getElem?_eq_getElem hk]; rfl
        rw [← this]; exact c2
  · simp (disch := omega) only [go_sem, a55r6]
    refine ⟨?_, trivial⟩
    have := findL_app s l [] (by rw [List.take_of_length_le (by omega)] at i2; exact i2)
    rw [List.append_nil] at this
    rw [this]; rfl
def Loc {α : Type} [Cel α] (h0 hx : Heap) (v : AV) (l : List α) : Prop := Has hx v l ∧ (∀ o, rowOf v = some o → h0.next ≤ o) ∧ Ext h0 hx
theorem Loc.nil {α : Type} [Cel α] (h : Heap) : Loc h h .nils ([] : List α) := ⟨Has.nil h, fun o ho => by simp [rowOf] at ho, Ext.refl h⟩
theorem Loc.step {α : Type} [Cel α] {h0 hx h3 : Heap} {v v' : AV} {l l' : List α} (a : Loc h0 hx v l) (hr3 : PreC h3 v' l') (hn3 : h3.next = (hx.reserve 1).next) (ho3 : rowOf v' = rowOf v ∨ rowOf v' = some (hx.next + 0)) (hf3 : ∀ q, q ≠ hx.next + 0 → rowOf v ≠ some q → h3.get q = (hx.reserve 1).get q) : Loc h0 h3 v' l' := by
  obtain ⟨⟨a1, a2⟩, a3, a4⟩ := a
  have n3 : h3.next = hx.next + 1 := hn3
  have vr : ∀ o, rowOf v' = some o → rowOf v = some o ∨ o = hx.next := fun o ho => by
    rcases ho3 with e | e
    · exact Or.inl (by rw [← e]; exact ho)
    · rw [e] at ho; exact Or.inr (Option.some.inj ho).symm
  have := a4.1
  refine ⟨⟨hr3, fun o ho => ?_⟩, fun o ho => ?_, by omega, fun q hq => ?_⟩
  · rcases vr o ho with e | e
    · have := a2 o e; omega
    · omega
  · rcases vr o ho with e | e
    · exact a3 o e
    · omega
  · rw [hf3 q (by omega) (fun e => by have := a3 q e; omega), get_reserve, a4.2 q hq]
theorem take_snoc {α : Type} [Inhabited α] {l : List α} {k : Nat} {b : α} (hk : k < l.length) (hb : l.getD k default = b) : l.take (k + 1) = l.take k ++ [b] ∧ l = l.take k ++ (b :: l.drop (k + 1)) ∧ b ∈ l := by
  have e : b = l[k] := by rw [← hb, List.getD_eq_getElem?_getD, List.getElem?_eq_getElem hk]; rfl
  exact ⟨by rw [List.take_succ_eq_append_getElem hk, e], by rw [e, ← List.drop_eq_getElem_cons hk, List.take_append_drop], by rw [e]; exact List.getElem_mem hk⟩
def withoutL (l : List REnt) (s : List UInt8) : List REnt := l.filter fun e => decide (e.s ≠ s)
theorem without_fun (hP : DkP P) (l : List REnt) (s : List UInt8) (v : AV) (h : Heap) (hv : Has h v l) (hl : l.length ≤ 1000000000) : Fun P 76 [v, strv s] h (fun r h' => Loc h h' r (withoutL l s)) := by
  have ev := hv.1.ev
  have dt := hv.1.dt
  have ln := hv.1.len
  have tg := hv.1.tag
  refine Fun.of (code := a76c) (hP.code rfl) (by rw [hP.pure]; rfl) ?_
  simp (disch := omega) only [go_sem, a76c, a76r0, ev, dt]
  simp (disch := omega) only [go_sem, a76r1, ev, dt]
  simp (disch := omega) only [go_sem, a76r2, ev, dt]
  refine Wp_loop (fun x : Nat × Nat × Heap × AV => x.2.1 ≤ l.length ∧ Loc h x.2.2.1 x.2.2.2 (withoutL (l.take x.2.1) s)) (fun x => { fr := [(0, v), (1, strv s), (5, x.2.2.2), (6, .int .i64 x.2.1)], st := x.1, h := x.2.2.1 }) (fun x => l.length - x.2.1) (0, 0, h, .nils) rfl ⟨Nat.zero_le _, by simp [withoutL]; exact Loc.nil h⟩ ?_
  rintro ⟨t, k, hx, w⟩ ⟨i1, i2⟩
  simp only at i1 i2
  have wev := i2.1.1.ev
  have wdt := i2.1.1.dt
  simp (disch := omega) only [go_sem, a76l0, a76r3, ev, dt, ln, tg, wev, wdt, cond_true]
  refine condS_if (fun c => ?_) (fun c => ?_)
  · have hk : k < l.length := by omega
    have hne : l ≠ [] := fun e => by rw [e] at hk; simp at hk
    obtain ⟨o, ep, j, rfl, hg⟩ := (hv.ext i2.2.2).1.resolve_left (fun e => hne e.2)
    have hcs : Cel.csz REnt = 2 := rfl
    obtain ⟨b, hb⟩ : ∃ b, l.getD k default = b := ⟨_, rfl⟩
    obtain ⟨b1, b2, b3⟩ := take_snoc hk hb
    have ce : Cel.ccells b = [strv b.s, .int .i64 b.n] := rfl
    have l0 := ld_pre1 (α := REnt) (l := l) (j := j) (k := k) (f := 0) hk (by decide)
    have ll := ld_pre (α := REnt) (l := l) (j := j) (k := k) hk
    rw [hcs, hb, ce] at l0 ll
    simp only [Nat.add_zero, List.getD_cons_zero, List.getD_cons_succ] at l0
    simp (disch := omega) only [go_sem, a76r4, ev, dt, wev, wdt, hcs, hg, l0]
    refine condS_if (fun c2 => ?_) (fun c2 => ?_)
    · simp (disch := omega) only [go_sem, a76r5, ev, dt, wev, wdt, hcs, hg, ll]
      have hlw : (withoutL (l.take k) s).length ≤ 1000000000 := by
        have h1 := List.length_filter_le (fun e : REnt => decide (e.s ≠ s)) (l.take k)
        have h2 : (l.take k).length ≤ l.length := by rw [List.length_take]; omega
        unfold withoutL; omega
      refine stepP_app (α := REnt) (bytes := 24) (l := withoutL (l.take k) s) (new := [b]) (i2.1.1.keep (fun o ho => get_reserve _ _ _)) (addsC_one _ _ _ _ rfl) rfl (by simp [two47]; omega) (fun v' h3 hr3 hn3 ho3 hf3 hnn => ?_)
      have hev := hr3.ev
      have hdt := hr3.dt
      simp (disch := omega) only [go_sem, hev, hdt]
      simp (disch := omega) only [go_sem, a76r6, ev, dt, hev, hdt, hcs]
      refine ⟨(t, k + 1, h3, v'), ⟨by simp only; omega, ?_⟩, by simp only; omega, rfl⟩
      have e1 : withoutL (l.take (k + 1)) s = withoutL (l.take k) s ++ [b] := by rw [b1]; simp [withoutL, c2]
      simp only
      rw [e1]
      exact i2.step hr3 hn3 ho3 hf3
    · simp (disch := omega) only [go_sem, a76r6, ev, dt, wev, wdt, hcs]
      refine ⟨(t, k + 1, hx, w), ⟨by simp only; omega, ?_⟩, by simp only; omega, rfl⟩
      have e1 : withoutL (l.take (k + 1)) s = withoutL (l.take k) s := by rw [b1]; simp [withoutL]; exact Classical.not_not.1 c2
      simp only
      rw [e1]
      exact i2
  · simp (disch := omega) only [go_sem, a76r7, wev, wdt]
    rw [List.take_of_length_le (by omega)] at i2
    exact i2
end Go.Am.Dk
/- The document's disk: put, do. -/
namespace Go.Am.Dk
open Go.Am
set_option maxRecDepth 20000
set_option maxHeartbeats 1000000
variable {P : Prog}
def gtB (a b : List UInt8) : Bool := !(ltB a b || decide (a = b))
def putStep (x : REnt) (acc : List REnt × Bool) (e : REnt) : List REnt × Bool :=
  if e.s = x.s then acc else if (!acc.2 && gtB e.s x.s) = true then (acc.1 ++ [x] ++ [e], true) else (acc.1 ++ [e], acc.2)
def putF (l : List REnt) (x : REnt) : List REnt × Bool := l.foldl (putStep x) ([], false)
def putL (l : List REnt) (x : REnt) : List REnt := if (putF l x).2 then (putF l x).1 else (putF l x).1 ++ [x]
theorem putF_snoc (l : List REnt) (x b : REnt) : putF (l ++ [b]) x = putStep x (putF l x) b := by unfold putF; rw [List.foldl_append]; rfl
theorem putF_len (l : List REnt) (x : REnt) : (putF l x).1.length ≤ 2 * l.length := by
  suffices ∀ (l : List REnt) (a : List REnt × Bool), (l.foldl (putStep x) a).1.length ≤ a.1.length + 2 * l.length by
    have := this l ([], false)
    simpa [putF] using this
  intro l
  induction l with
  | nil => intro a; simp
  | cons e r ih =>
    intro a
    rw [List.foldl_cons]
    have := ih (putStep x a e)
    have h1 : (putStep x a e).1.length ≤ a.1.length + 2 := by
      unfold putStep
      split
      · simp
      · split <;> simp
    simp only [List.length_cons]
    omega
theorem put_fun (hP : DkP P) (l : List REnt) (x : REnt) (v : AV) (h : Heap) (hv : Has h v l) (hl : l.length ≤ 100000000) : Fun P 56 [v, .agg [strv x.s, .int .i64 x.n]] h (fun r h' => Loc h h' r (putL l x)) := by
  have ev := hv.1.ev
  have dt := hv.1.dt
  have ln := hv.1.len
  have tg := hv.1.tag
  have hcs : Cel.csz REnt = 2 := rfl
  refine Fun.of (code := a56c) (hP.code rfl) (by rw [hP.pure]; rfl) ?_
  simp (disch := omega) only [go_sem, a56c, a56r0, ev, dt]
  simp (disch := omega) only [go_sem, a56r1, ev, dt]
  simp (disch := omega) only [go_sem, a56r2, ev, dt]
  simp (disch := omega) only [go_sem, a56r3, ev, dt]
  refine Wp_loop (fun y : Nat × Nat × Heap × AV => y.2.1 ≤ l.length ∧ Loc h y.2.2.1 y.2.2.2 (putF (l.take y.2.1) x).1) (fun y => { fr := [(0, v), (3, .lbox 0 [strv x.s, .int .i64 x.n]), (5, y.2.2.2), (6, .bool (putF (l.take y.2.1) x).2), (7, .int .i64 y.2.1)], st := y.1, h := y.2.2.1 }) (fun y => l.length - y.2.1) (1, 0, h, .nils) rfl ⟨Nat.zero_le _, Loc.nil h⟩ ?_
  rintro ⟨t, k, hx, w⟩ ⟨i1, i2⟩
  simp only at i1 i2
  have wev := i2.1.1.ev
  have wdt := i2.1.1.dt
  simp (disch := omega) only [go_sem, a56l0, a56r4, ev, dt, ln, tg, wev, wdt, cond_true]
  refine condS_if (fun c => ?_) (fun c => ?_)
  · have hk : k < l.length := by omega
    have hne : l ≠ [] := fun e => by rw [e] at hk; simp at hk
    obtain ⟨o, ep, j, rfl, hg⟩ := (hv.ext i2.2.2).1.resolve_left (fun e => hne e.2)
    obtain ⟨b, hb⟩ : ∃ b, l.getD k default = b := ⟨_, rfl⟩
    obtain ⟨b1, b2, b3⟩ := take_snoc hk hb
    have ce : Cel.ccells b = [strv b.s, .int .i64 b.n] := rfl
    have l0 := ld_pre1 (α := REnt) (l := l) (j := j) (k := k) (f := 0) hk (by decide)
    have ll := ld_pre (α := REnt) (l := l) (j := j) (k := k) hk
    rw [hcs, hb, ce] at l0 ll
    simp only [Nat.add_zero, List.getD_cons_zero, List.getD_cons_succ] at l0
    have hpl := putF_len (l.take k) x
    have htl : (l.take k).length ≤ l.length := by rw [List.length_take]; omega
    have hst : putF (l.take (k + 1)) x = putStep x (putF (l.take k) x) b := by rw [b1, putF_snoc]
    simp (disch := omega) only [go_sem, a56d5, ev, dt, wev, wdt, hcs, hg, l0]
    refine condS_if (fun c2 => ?_) (fun c2 => ?_)
    · simp (disch := omega) only [go_sem, a56r10, ev, dt, wev, wdt, hcs]
      have e1 : putF (l.take (k + 1)) x = putF (l.take k) x := by rw [hst, putStep, if_pos c2]
      refine ⟨(t + 1, k + 1, hx, w), ⟨by simp only; omega, by simp only; rw [e1]; exact i2⟩, by simp only; omega, by simp only [e1]; rfl⟩
    · obtain ⟨pl, hpf⟩ : ∃ pl, (putF (l.take k) x).1 = pl := ⟨_, rfl⟩
      rw [hpf] at i2 hpl
      obtain ⟨pd, hpd⟩ : ∃ pd, (putF (l.take k) x).2 = pd := ⟨_, rfl⟩
      rw [hpd]
      have pe : putF (l.take k) x = (pl, pd) := by rw [← hpf, ← hpd]
      rw [pe] at hst
      cases pd with
      | true =>
        have e1 : putF (l.take (k + 1)) x = (pl ++ [b], true) := by rw [hst, putStep, if_neg c2, if_neg (by simp)]
        simp (disch := omega) only [go_sem, a56d6, ev, dt, wev, wdt, hcs, hg, l0]
        simp (disch := omega) only [go_sem, a56r9, wev, wdt, hcs, hg, ll]
        refine stepP_app (α := REnt) (bytes := 24) (l := pl) (new := [b]) (i2.1.1.keep (fun o ho => get_reserve _ _ _)) (addsC_one _ _ _ _ rfl) rfl (by simp [two47]; omega) (fun v' h3 hr3 hn3 ho3 hf3 hnn => ?_)
        have hev := hr3.ev
        have hdt := hr3.dt
        simp (disch := omega) only [go_sem, hev, hdt]
        simp (disch := omega) only [go_sem, a56r10, hev, hdt]
        exact ⟨(t + 1 + 1, k + 1, h3, v'), ⟨by simp only; omega, by simp only; rw [e1]; exact i2.step hr3 hn3 ho3 hf3⟩, by simp only; omega, by simp only [e1]; rfl⟩
      | false =>
        simp (disch := omega) only [go_sem, a56d6, ev, dt, wev, wdt, hcs, hg, l0]
        cases hgt : gtB b.s x.s with
        | true =>
          have hgt' : (!(ltB b.s x.s || decide (b.s = x.s))) = true := hgt
          have e1 : putF (l.take (k + 1)) x = (pl ++ [x] ++ [b], true) := by rw [hst, putStep, if_neg c2, if_pos (by simp [hgt])]
          simp (disch := omega) only [go_sem, hgt']
          simp (disch := omega) only [go_sem, a56r7, wev, wdt, hcs]
          refine stepP_app (α := REnt) (bytes := 24) (l := pl) (new := [x]) (i2.1.1.keep (fun o ho => get_reserve _ _ _)) (addsC_one _ _ _ _ rfl) rfl (by simp [two47]; omega) (fun v1 h4 hr4 hn4 ho4 hf4 hnn4 => ?_)
          have hev4 := hr4.ev
          have hdt4 := hr4.dt
          have i4 := i2.step hr4 hn4 ho4 hf4
          obtain ⟨o', ep', j', e2, hg1⟩ := (hv.ext i4.2.2).1.resolve_left (fun e => hne e.2)
          have e3 : o = o' ∧ ep = ep' := by
            have := AV.hs.inj e2
            exact ⟨this.2.1, this.2.2.1⟩
          obtain ⟨rfl, rfl⟩ := e3
          have ll' := ld_pre (α := REnt) (l := l) (j := j') (k := k) hk
          rw [hcs, hb, ce] at ll'
          simp (disch := omega) only [go_sem, hev4, hdt4]
          simp (disch := omega) only [go_sem, a56r8, hev4, hdt4]
          simp (disch := omega) only [go_sem, a56r9, hev4, hdt4, hcs, hg1, ll']
          refine stepP_app (α := REnt) (bytes := 24) (l := pl ++ [x]) (new := [b]) (i4.1.1.keep (fun o ho => get_reserve _ _ _)) (addsC_one _ _ _ _ rfl) rfl (by simp [two47]; omega) (fun v' h3 hr3 hn3 ho3 hf3 hnn => ?_)
          have hev := hr3.ev
          have hdt := hr3.dt
          simp (disch := omega) only [go_sem, hev, hdt]
          simp (disch := omega) only [go_sem, a56r10, hev, hdt]
          exact ⟨(t + 1 + 1, k + 1, h3, v'), ⟨by simp only; omega, by simp only; rw [e1]; exact i4.step hr3 hn3 ho3 hf3⟩, by simp only; omega, by simp only [e1]; rfl⟩
        | false =>
          have hgt' : (!(ltB b.s x.s || decide (b.s = x.s))) = false := hgt
          have e1 : putF (l.take (k + 1)) x = (pl ++ [b], false) := by rw [hst, putStep, if_neg c2, if_neg (by simp [hgt])]
          simp (disch := omega) only [go_sem, hgt']
          simp (disch := omega) only [go_sem, a56r9, wev, wdt, hcs, hg, ll]
          refine stepP_app (α := REnt) (bytes := 24) (l := pl) (new := [b]) (i2.1.1.keep (fun o ho => get_reserve _ _ _)) (addsC_one _ _ _ _ rfl) rfl (by simp [two47]; omega) (fun v' h3 hr3 hn3 ho3 hf3 hnn => ?_)
          have hev := hr3.ev
          have hdt := hr3.dt
          simp (disch := omega) only [go_sem, hev, hdt]
          simp (disch := omega) only [go_sem, a56r10, hev, hdt]
          exact ⟨(t + 1 + 1, k + 1, h3, v'), ⟨by simp only; omega, by simp only; rw [e1]; exact i2.step hr3 hn3 ho3 hf3⟩, by simp only; omega, by simp only [e1]; rfl⟩
  · simp (disch := omega) only [go_sem, a56r11, wev, wdt]
    have htk : l.take k = l := List.take_of_length_le (by omega)
    rw [htk] at i2 ⊢
    have hpl := putF_len l x
    unfold putL
    cases hpd : (putF l x).2 with
    | true =>
      simp (disch := omega) only [go_sem]
      simp (disch := omega) only [go_sem, a56r13, wev, wdt]
      exact i2
    | false =>
      simp (disch := omega) only [go_sem]
      simp (disch := omega) only [go_sem, a56r12, wev, wdt]
      refine stepP_app (α := REnt) (bytes := 24) (l := (putF l x).1) (new := [x]) (i2.1.1.keep (fun o ho => get_reserve _ _ _)) (addsC_one _ _ _ _ rfl) rfl (by simp [two47]; omega) (fun v' h3 hr3 hn3 ho3 hf3 hnn => ?_)
      have hev := hr3.ev
      have hdt := hr3.dt
      simp (disch := omega) only [go_sem, hev, hdt]
      simp (disch := omega) only [go_sem, a56r13, hev, hdt]
      exact i2.step hr3 hn3 ho3 hf3
def doN (l : List REnt) (t : RTurn) : Int := if t.n < 0 then findL l t.fr else t.n
def doW (l : List REnt) (t : RTurn) : List REnt := if t.n < 0 then withoutL l t.fr else l
def doL (l : List REnt) (t : RTurn) : List REnt := if t.to = [] ∨ doN l t < 0 then doW l t else putL (doW l t) ⟨t.to, doN l t⟩
theorem doW_len (l : List REnt) (t : RTurn) : (doW l t).length ≤ l.length := by
  unfold doW withoutL
  split
  · exact List.length_filter_le _ _
  · exact Nat.le_refl _
theorem doR_fun (hP : DkP P) (l : List REnt) (u : RTurn) (v : AV) (h : Heap) (hv : Has h v l) (hl : l.length ≤ 100000000) : Fun P 67 [v, .agg [strv u.fr, strv u.to, .int .i64 u.n]] h (fun r h' => Has h' r (doL l u) ∧ Ext h h' ∧ ∀ o, rowOf r = some o → rowOf v = some o ∨ h.next ≤ o) := by
  have ev := hv.1.ev
  have dt := hv.1.dt
  have hwl := doW_len l u
  refine Fun.of (code := a67c) (hP.code rfl) (by rw [hP.pure]; rfl) ?_
  have rest : ∀ (hx : Heap) (w : AV) (fr0 : Fr), fget fr0 0 = some w → fget fr0 3 = some (.lbox 0 [strv u.fr, strv u.to, .int .i64 u.n]) → fget fr0 5 = some (.int .i64 (doN l u)) → Has hx w (doW l u) → Ext h hx → (∀ o, rowOf w = some o → rowOf v = some o ∨ h.next ≤ o) → Wp P (.seq (.seq (.reg 0 a67r5 [0, 3, 5, 24]) (.cond (.s 24) (.seq (.reg 0 a67r6 [4]) .ret) .skip)) (.seq (.reg 0 a67r7 [4]) .ret)) { fr := fr0, st := 1, h := hx } (bodyQ [.slot 4] fun r h' => Has h' r (doL l u) ∧ Ext h h' ∧ ∀ o, rowOf r = some o → rowOf v = some o ∨ h.next ≤ o) := by
    intro hx w fr0 f0 f3 f5 hw hxx hro
    have wev := hw.1.ev
    have wdt := hw.1.dt
    simp (disch := omega) only [go_sem, a67r5, wev, wdt, f0, f3, f5]
    refine guardS_pf (fun c cw => ?_) (fun c cw => ?_) <;> simp (disch := omega) only [go_sem, cw, f0, f3, f5]
    · refine condS_if (fun c2 => ?_) (fun c2 => ?_)
      · simp (disch := omega) only [go_sem, a67r6, wev, wdt]
        unfold doL
        rw [if_pos (Or.inr c2)]
        exact ⟨hw, hxx, hro⟩
      · simp (disch := omega) only [go_sem, a67r7, wev, wdt]
        have hp := put_fun hP (doW l u) ⟨u.to, doN l u⟩ w hx hw (by omega)
        refine WO.fun (vs := [w, .agg [strv u.to, .int .i64 (doN l u)]]) (by simp (disch := omega) only [go_sem, wev, wdt]) hp (fun v h' hv => ?_)
        have hev := hv.1.1.ev
        have hdt := hv.1.1.dt
        simp (disch := omega) only [go_sem, hev, hdt]
        unfold doL
        rw [if_neg (by intro e; rcases e with e | e; exact c e; exact c2 e)]
        exact ⟨hv.1, hxx.trans hv.2.2, fun o ho => Or.inr (Nat.le_trans hxx.1 (hv.2.1 o ho))⟩
    · simp (disch := omega) only [go_sem, a67r6, wev, wdt]
      unfold doL
      rw [if_pos (Or.inl c)]
      exact ⟨hw, hxx, hro⟩
  obtain ⟨B, hB⟩ : ∃ B : ACode, B = (.seq (.seq (.reg 0 a67r5 [0, 3, 5, 24]) (.cond (.s 24) (.seq (.reg 0 a67r6 [4]) .ret) .skip)) (.seq (.reg 0 a67r7 [4]) .ret)) := ⟨_, rfl⟩
  rw [← hB] at rest
  unfold a67c
  rw [← hB]
  simp (disch := omega) only [go_sem, a67r0, ev, dt]
  simp (disch := omega) only [go_sem, a67r1, ev, dt]
  simp (disch := omega) only [go_sem, a67r2, ev, dt]
  refine condS_if (fun c => ?_) (fun c => ?_)
  · simp (disch := omega) only [go_sem, a67r3, ev, dt]
    refine WO.fun (vs := [v, strv u.fr]) (by simp (disch := omega) only [go_sem, ev, dt]) (find_fun hP l u.fr v h hv.1 (by omega)) (fun r h' hr => ?_)
    obtain ⟨rfl, rfl⟩ := hr
    simp (disch := omega) only [go_sem, ev, dt]
    simp (disch := omega) only [go_sem, a67r4, ev, dt]
    refine WO.fun (vs := [v, strv u.fr]) (by simp (disch := omega) only [go_sem, ev, dt]) (without_fun hP l u.fr v h' hv (by omega)) (fun r h2 hr => ?_)
    have hev := hr.1.1.ev
    have hdt := hr.1.1.dt
    simp (disch := omega) only [go_sem, hev, hdt]
    have e1 : doN l u = findL l u.fr := if_pos c
    have e2 : doW l u = withoutL l u.fr := if_pos c
    exact rest h2 r _ (by simp (disch := omega) only [go_sem]) (by simp (disch := omega) only [go_sem]) (by rw [e1]; simp (disch := omega) only [go_sem]) (by rw [e2]; exact hr.1) hr.2.2 (fun o ho => Or.inr (hr.2.1 o ho))
  · simp (disch := omega) only [go_sem, ev, dt]
    have e1 : doN l u = u.n := if_neg c
    have e2 : doW l u = l := if_neg c
    exact rest h v _ (by simp (disch := omega) only [go_sem]) (by simp (disch := omega) only [go_sem]) (by rw [e1]; simp (disch := omega) only [go_sem]) (by rw [e2]; exact hv) (Ext.refl h) (fun o ho => Or.inl ho)
end Go.Am.Dk
/- The document's disk, any: where it lies; Name, begin. -/
namespace Go.Am.Dk
open Go.Am
set_option maxRecDepth 20000
set_option maxHeartbeats 1000000
variable {P : Prog}
theorem nameR_exact (hP : DkP P) (s : List UInt8) (hl : s.length ≤ 9223372036854775807) : Den P 29 [strv s] (fun v => v = .bool (nameL s)) := by
  refine Den.of (code := a29c) (hP.code rfl) (fun N => ?_)
  simp (disch := omega) only [go_sem, a29c, a29r0]
  simp (disch := omega) only [go_sem, a29r1]
  refine Wp_loop (fun x : Nat × Nat => x.2 ≤ s.length ∧ (s.take x.2).all goodB = true) (fun (t, k) => { fr := [(0, strv s), (3, .int .i64 k)], st := t, h := { next := N, m := .leaf } }) (fun x => s.length - x.2) (0, 0) rfl ⟨by simp, rfl⟩ ?_
  rintro ⟨t, k⟩ ⟨h1, h2⟩
  simp only at h1 h2
  simp (disch := omega) only [go_sem, a29l0, a29r2]
  refine condS_if (fun hk => ?_) (fun hk => ?_)
  · have hk' : k < s.length := by omega
    have hsn : (s.take (k + 1)).all goodB = ((s.take k).all goodB && goodB (s.getD k 0)) := by
      rw [List.take_succ_eq_append_getElem hk', List.all_append, List.getD_eq_getElem?_getD, List.getElem?_eq_getElem hk']
      simp
    have hno : goodB (s.getD k 0) = false → nameL s = false := fun e => by
      have hm : s.getD k 0 ∈ s := by
        rw [List.getD_eq_getElem?_getD, List.getElem?_eq_getElem hk']
        exact List.getElem_mem hk'
      have : s.all goodB = false := by
        rw [List.all_eq_false]
        exact ⟨_, hm, by rw [e]; simp⟩
      unfold nameL
      rw [this]; simp
    simp (disch := omega) only [go_sem, a29r3]
    simp (disch := omega) only [go_sem, a29r4]
    obtain ⟨c, hc⟩ : ∃ c, s.getD k 0 = c := ⟨_, rfl⟩
    rw [hc] at hsn hno ⊢
    have hgood : ∀ b, goodB c = b → (decide ((97 : Int) ≤ (c.toNat : Int)) && decide ((c.toNat : Int) ≤ 122) || decide ((48 : Int) ≤ (c.toNat : Int)) && decide ((c.toNat : Int) ≤ 57) || decide ((c.toNat : Int) = 45) || decide ((c.toNat : Int) = 46) || decide ((c.toNat : Int) = 126)) = b := fun b e => e
    have yes : goodB c = true → ∃ y : Nat × Nat, (y.2 ≤ s.length ∧ (s.take y.2).all goodB = true) ∧ s.length - y.2 < s.length - (t, k).2 ∧ ({ fr := [(0, strv s), (3, .int .i64 ((k : Int) + 1))], st := t, h := { next := N, m := .leaf } } : St) = { fr := [(0, strv s), (3, .int .i64 y.2)], st := y.1, h := { next := N, m := .leaf } } := fun e =>
      ⟨(t, k + 1), ⟨by simp only; omega, by simp only; rw [hsn, h2, e]; rfl⟩, by simp only; omega, rfl⟩
    repeat' (first | (refine guardS_split (fun w => ?_) (fun w => ?_) <;> simp (disch := omega) only [go_sem, w]) | (refine condS_split (fun w => ?_) (fun w => ?_) <;> simp (disch := omega) only [go_sem, w]))
    all_goals
      simp only [decide_eq_true_eq, Bool.not_true, Bool.not_false, decide_eq_false_iff_not, Bool.not_eq_true', Bool.not_eq_false'] at *
    all_goals first
      | (have hb : goodB c = true := by
           unfold goodB goodR
           simp only [Bool.or_eq_true, Bool.and_eq_true, decide_eq_true_eq]
           omega
         simp (disch := omega) only [go_sem, a29r6]
         exact yes hb)
      | (have hb : goodB c = false := by
           unfold goodB goodR
           simp only [Bool.or_eq_false_iff, Bool.and_eq_false_iff, decide_eq_false_iff_not]
           omega
         simp (disch := omega) only [go_sem, a29r5, hno hb])
  · rw [List.take_of_length_le (by omega)] at h2
    have hn : nameL s = (decide (1 ≤ (s.length : Int)) && decide ((s.length : Int) ≤ 24)) := by
      unfold nameL
      rw [h2, Bool.and_true]
      cases s with
      | nil => rfl
      | cons a r =>
        have e1 : decide ((1 : Int) ≤ ((a :: r).length : Int)) = true := by simp; omega
        have e2 : decide (a :: r ≠ []) = true := by simp
        rw [e1, e2]
        simp
        omega
    simp (disch := omega) only [go_sem, a29r7]
    refine guardS_pt (fun c w => ?_) (fun c w => ?_) <;> simp (disch := omega) only [go_sem, w]
    · rw [hn]; simp [c]
    · rw [hn]; simp [c]
end Go.Am.Dk
/- The document's disk, any: where it lies; begin. -/
namespace Go.Am.Dk
open Go.Am
set_option maxRecDepth 20000
set_option maxHeartbeats 1000000
variable {P : Prog}
structure FilR where
  b : List UInt8
  sure : Nat
  deriving Inhabited
structure RSt where
  files : List FilR
  now : List REnt
  sure : List REnt
  waits : List RTurn
  cap : Int
  dead : Bool
  calls : Int
  fuse : Int
  fault : Int
  e : Int
structure RLay where
  fv : AV
  nv : AV
  sv : AV
  wv : AV
  rfs : List RFile
def RSt.cells (ρ : RSt) (y : RLay) : List AV := [y.fv, y.nv, y.sv, y.wv, .int .i64 ρ.cap, .bool ρ.dead, .int .i64 ρ.calls, .int .i64 ρ.fuse, .int .i64 ρ.fault, .int .i64 ρ.e]
def HoldX (h : Heap) (v : AV) (l : List UInt8) : Prop := (∃ n full, v = slv n full l) ∨ ∃ (o ep : Nat) (l' : List UInt8), v = .hs 1 o ep 0 l.length false ∧ o < h.next ∧ h.get o = some (.row 1 ep (l'.flatMap Enc.cells)) ∧ l = l'.take l.length
theorem HoldX.ext {h h' : Heap} {v : AV} {l : List UInt8} (a : HoldX h v l) (hn : h.next ≤ h'.next) (hk : ∀ o, rowOf v = some o → h'.get o = h.get o) : HoldX h' v l := by
  rcases a with e | ⟨o, ep, l', rfl, h1, h2, h3⟩
  · exact Or.inl e
  · exact Or.inr ⟨o, ep, l', rfl, by omega, (hk o rfl).trans h2, h3⟩
theorem HoldX.lt {h : Heap} {v : AV} {l : List UInt8} (a : HoldX h v l) : ∀ o, rowOf v = some o → o < h.next ∧ ∃ ep c, h.get o = some (.row 1 ep c) := fun o ho => by
  rcases a with ⟨n, full, rfl⟩ | ⟨o', ep, l', rfl, h1, h2, h3⟩
  · rcases slv_cases n full l with ⟨e, -⟩ | e <;> rw [e] at ho <;> simp [rowOf] at ho
  · obtain rfl : o' = o := Option.some.inj ho
    exact ⟨h1, ep, _, h2⟩
theorem HoldX.ev {h : Heap} {v : AV} {l : List UInt8} (a : HoldX h v l) (i : Nat) : evS i (some v) = some v := by
  rcases a with ⟨n, full, rfl⟩ | ⟨o', ep, l', rfl, h1, h2, h3⟩
  · exact evS_slv _ _ _ _
  · rfl
theorem HoldX.dt {h : Heap} {v : AV} {l : List UInt8} (a : HoldX h v l) : datW (some v) = some v := by
  rcases a with ⟨n, full, rfl⟩ | ⟨o', ep, l', rfl, h1, h2, h3⟩
  · exact datW_slv _ _ _
  · rfl
theorem HoldX.cl {h : Heap} {v : AV} {l : List UInt8} (a : HoldX h v l) : v.cellsOf = [v] := by
  rcases a with ⟨n, full, rfl⟩ | ⟨o', ep, l', rfl, h1, h2, h3⟩
  · rcases slv_cases n full l with ⟨e, -⟩ | e <;> rw [e] <;> rfl
  · rfl
theorem HoldX.len {h : Heap} {v : AV} {l : List UInt8} (a : HoldX h v l) (h' : Heap) : lenA h' v = some l.length := by
  rcases a with ⟨n, full, rfl⟩ | ⟨o', ep, l', rfl, h1, h2, h3⟩
  · exact lenA_slv _ _ _ _
  · rfl
theorem HoldX.tag {h : Heap} {v : AV} {l : List UInt8} (a : HoldX h v l) : lenTag 1 v = true := by
  rcases a with ⟨n, full, rfl⟩ | ⟨o', ep, l', rfl, h1, h2, h3⟩
  · exact lenTag_slv _ _ _
  · rfl
theorem HoldX.frz {h : Heap} {v : AV} {l : List UInt8} (a : HoldX h v l) : ∃ n full, frz h 0 40 v = slv n full l := by
  rcases a with ⟨n, full, rfl⟩ | ⟨o, ep, l', rfl, h1, h2, h3⟩
  · exact ⟨n, full, frz_slv _ _ _ _ _ _⟩
  · refine ⟨false, false, ?_⟩
    have hl : l.length ≤ l'.length := by
      have := congrArg List.length h3
      rw [List.length_take] at this; omega
    have := frz_hs (α := UInt8) (off := 0) (len := l.length) (N := 0) (n := 39) (full := false) (l := l') h2 (by omega) (Nat.zero_le _)
    rw [List.drop_zero, ← h3] at this
    exact this
structure RefAt (h : Heap) (x : Nat) (ρ : RSt) (y : RLay) : Prop where
  cell : h.get x = some (.cells (ρ.cells y))
  lt : x < h.next
  files : Has h y.fv y.rfs
  len : y.rfs.length = ρ.files.length
  hold : ∀ i, i < ρ.files.length → HoldX h (y.rfs.getD i default).v (ρ.files.getD i default).b ∧ (y.rfs.getD i default).n = (ρ.files.getD i default).sure
  now : Has h y.nv ρ.now
  sure : Has h y.sv ρ.sure
  waits : Has h y.wv ρ.waits
theorem Has.row {α : Type} [Cel α] {h : Heap} {v : AV} {l : List α} (a : Has h v l) : ∀ o, rowOf v = some o → ∃ s ep c, h.get o = some (.row s ep c) := fun o ho => by
  rcases a.1 with ⟨rfl, -⟩ | ⟨o', ep, j, rfl, hg⟩
  · simp [rowOf] at ho
  · obtain rfl : o' = o := Option.some.inj ho
    exact ⟨_, ep, _, hg⟩
theorem row_ne {h : Heap} {x o : Nat} {c : List AV} (hx : h.get x = some (.cells c)) (hr : ∃ s ep c, h.get o = some (.row s ep c)) : o ≠ x := fun e => by
  obtain ⟨s, ep, c', h'⟩ := hr
  rw [e, hx] at h'; simp at h'
theorem RefAt.turn {h h' : Heap} {x : Nat} {ρ ρ' : RSt} {y : RLay} (a : RefAt h x ρ y) (hc : h'.get x = some (.cells (ρ'.cells y))) (ho : Only h x h') (e1 : ρ'.files = ρ.files) (e2 : ρ'.now = ρ.now) (e3 : ρ'.sure = ρ.sure) (e4 : ρ'.waits = ρ.waits) : RefAt h' x ρ' y := by
  have hk : ∀ o, o < h.next → (∃ s ep c, h.get o = some (.row s ep c)) → h'.get o = h.get o := fun o h1 h2 => ho.2 o h1 (row_ne a.cell h2)
  refine ⟨hc, Nat.lt_of_lt_of_le a.lt ho.1, a.files.keep ho.1 (fun o h1 => hk o (a.files.2 o h1) (a.files.row o h1)), by rw [e1]; exact a.len, fun i hi => ?_, ?_, ?_, ?_⟩
  · rw [e1] at hi ⊢
    have := a.hold i hi
    exact ⟨this.1.ext ho.1 (fun o h1 => by obtain ⟨h2, ep, c, h3⟩ := this.1.lt o h1; exact hk o h2 ⟨_, ep, c, h3⟩), this.2⟩
  · rw [e2]; exact a.now.keep ho.1 (fun o h1 => hk o (a.now.2 o h1) (a.now.row o h1))
  · rw [e3]; exact a.sure.keep ho.1 (fun o h1 => hk o (a.sure.2 o h1) (a.sure.row o h1))
  · rw [e4]; exact a.waits.keep ho.1 (fun o h1 => hk o (a.waits.2 o h1) (a.waits.row o h1))
theorem Only.refl (h : Heap) (x : Nat) : Only h x h := ⟨Nat.le_refl _, fun _ _ _ => rfl⟩
theorem Only.trans {h h1 h2 : Heap} {x : Nat} (a : Only h x h1) (b : Only h1 x h2) : Only h x h2 := ⟨Nat.le_trans a.1 b.1, fun o h3 h4 => (b.2 o (Nat.lt_of_lt_of_le h3 a.1) h4).trans (a.2 o h3 h4)⟩
theorem Only.of_ext {h h1 : Heap} {x : Nat} (a : Ext h h1) : Only h x h1 := ⟨a.1, fun o h3 _ => a.2 o h3⟩
theorem Only.put (h : Heap) (x : Nat) (o : AObj) : Only h x (h.put x o) := ⟨Nat.le_refl _, fun q _ h4 => get_put_ne _ _ _ _ h4⟩
def RefOwn (y : RLay) (o : Nat) : Prop := rowOf y.fv = some o ∨ rowOf y.nv = some o ∨ rowOf y.sv = some o ∨ rowOf y.wv = some o ∨ ∃ r ∈ y.rfs, rowOf r.v = some o
def RStep (h h' : Heap) (x : Nat) (y y' : RLay) : Prop := Only h x h' ∧ ∀ o, RefOwn y' o → RefOwn y o ∨ h.next ≤ o
theorem RStep.same {h h' : Heap} {x : Nat} {y : RLay} (a : Only h x h') : RStep h h' x y y := ⟨a, fun _ h => Or.inl h⟩
theorem RStep.trans {h h1 h2 : Heap} {x : Nat} {y y1 y2 : RLay} (a : RStep h h1 x y y1) (b : RStep h1 h2 x y1 y2) : RStep h h2 x y y2 := ⟨a.1.trans b.1, fun o ho => (b.2 o ho).elim (a.2 o) (fun h => Or.inr (Nat.le_trans a.1.1 h))⟩
theorem RefAt.ext {h h' : Heap} {x : Nat} {ρ : RSt} {y : RLay} (a : RefAt h x ρ y) (hx : Ext h h') : RefAt h' x ρ y := a.turn ((hx.2 x a.lt).trans a.cell) (Only.of_ext hx) rfl rfl rfl rfl
def beginR (ρ : RSt) : Int × RSt :=
  if ρ.dead then (9, ρ)
  else if ρ.fuse = 1 then (9, { ρ with calls := ρ.calls + 1, dead := true, fuse := (if 0 < ρ.fuse then ρ.fuse - 1 else ρ.fuse), fault := (if 0 < ρ.fault then ρ.fault - 1 else ρ.fault) })
  else if ρ.fault = 1 then (ρ.e, { ρ with calls := ρ.calls + 1, fuse := (if 0 < ρ.fuse then ρ.fuse - 1 else ρ.fuse), fault := (if 0 < ρ.fault then ρ.fault - 1 else ρ.fault) })
  else (0, { ρ with calls := ρ.calls + 1, fuse := (if 0 < ρ.fuse then ρ.fuse - 1 else ρ.fuse), fault := (if 0 < ρ.fault then ρ.fault - 1 else ρ.fault) })
def I62 (n : Int) : Prop := 0 ≤ n ∧ n ≤ 4000000000000000000
theorem beginRR_fun (hP : DkP P) (h : Heap) (x : Nat) (ρ : RSt) (y : RLay) (hx : RefAt h x ρ y) (hc : I62 ρ.calls) (hf : I62 ρ.fuse) (hf2 : I62 ρ.fault) : Fun P 64 [.ptr x 0] h (fun v h' => v = .int .i64 (beginR ρ).1 ∧ RefAt h' x (beginR ρ).2 y ∧ Only h x h' ∧ h'.next = h.next) := by
  have hg := hx.cell
  simp only [RSt.cells] at hg
  obtain ⟨c1, c2⟩ := hc
  obtain ⟨f1, f2⟩ := hf
  obtain ⟨g1, g2⟩ := hf2
  refine Fun.of (code := a64c) (hP.code rfl) (by rw [hP.pure]; rfl) ?_
  have rest : ∀ (h2 : Heap) (fr0 : Fr) (fu fa : Int), fget fr0 0 = some (.ptr x 0) → fget fr0 3 = some (.bool (decide (ρ.fuse = 1))) → fget fr0 4 = some (.bool (decide (ρ.fault = 1))) → h2.get x = some (.cells ({ ρ with calls := ρ.calls + 1, fuse := fu, fault := fa }.cells y)) → Only h x h2 → h2.next = h.next → ρ.dead = false →
      fu = (if 0 < ρ.fuse then ρ.fuse - 1 else ρ.fuse) → fa = (if 0 < ρ.fault then ρ.fault - 1 else ρ.fault) →
      Wp P (.seq (.seq (.reg 0 a64r10 [0, 4, 50]) (.cond (.s 50) (.seq (.reg 0 a64r11 []) (.seq (.reg 0 a64r12 [2]) .ret)) .skip)) (.seq (.seq (.reg 0 a64r13 [0, 54]) (.cond (.s 54) (.seq (.reg 0 a64r14 [2]) .ret) .skip)) (.seq (.reg 0 a64r15 [2]) .ret))) { fr := fr0, st := 0, h := h2 } (bodyQ [.slot 2] fun v h' => v = .int .i64 (beginR ρ).1 ∧ RefAt h' x (beginR ρ).2 y ∧ Only h x h' ∧ h'.next = h.next) := by
    intro h2 fr0 fu fa f0 f3 f4 hg2 ho hn hd hfu hfa
    simp only [RSt.cells, hd] at hg2
    simp (disch := omega) only [go_sem, a64r10, f0, f3, f4]
    unfold beginR
    rw [hd, ← hfu, ← hfa, if_neg (by simp)]
    refine condS_if (fun c1 => ?_) (fun c1 => ?_)
    · simp (disch := omega) only [go_sem, a64r11, f0, hg2]
      simp (disch := omega) only [go_sem, a64r12]
      rw [if_pos c1]
      have ho' := ho.trans (Only.put h2 x (.cells [y.fv, y.nv, y.sv, y.wv, .int .i64 ρ.cap, .bool true, .int .i64 (ρ.calls + 1), .int .i64 fu, .int .i64 fa, .int .i64 ρ.e]))
      exact ⟨by trivial, hx.turn (get_put_same _ _ _) ho' rfl rfl rfl rfl, ho', hn⟩
    · simp (disch := omega) only [go_sem, a64r13, f0, f4]
      rw [if_neg c1]
      refine condS_if (fun c2 => ?_) (fun c2 => ?_)
      · simp (disch := omega) only [go_sem, a64r14, f0, hg2]
        rw [if_pos c2]
        exact ⟨by trivial, hx.turn (by rw [hg2]; simp only [RSt.cells, hd]) ho rfl rfl rfl rfl, ho, hn⟩
      · simp (disch := omega) only [go_sem, a64r15]
        rw [if_neg c2]
        exact ⟨by trivial, hx.turn (by rw [hg2]; simp only [RSt.cells, hd]) ho rfl rfl rfl rfl, ho, hn⟩
  obtain ⟨B, hB⟩ : ∃ B : ACode, B = (.seq (.seq (.reg 0 a64r10 [0, 4, 50]) (.cond (.s 50) (.seq (.reg 0 a64r11 []) (.seq (.reg 0 a64r12 [2]) .ret)) .skip)) (.seq (.seq (.reg 0 a64r13 [0, 54]) (.cond (.s 54) (.seq (.reg 0 a64r14 [2]) .ret) .skip)) (.seq (.reg 0 a64r15 [2]) .ret))) := ⟨_, rfl⟩
  rw [← hB] at rest
  unfold a64c
  rw [← hB]
  simp (disch := omega) only [go_sem, a64r0]
  simp (disch := omega) only [go_sem, a64r1, hg]
  cases hd : ρ.dead with
  | true =>
    simp (disch := omega) only [go_sem]
    simp (disch := omega) only [go_sem, a64r2]
    unfold beginR
    rw [hd]
    exact ⟨by trivial, hx, Only.refl _ _, by trivial⟩
  | false =>
    rw [hd] at hg
    have fin : ∀ (h2 : Heap) (fr0 : Fr) (fu fa : Int), fget fr0 0 = some (.ptr x 0) → fget fr0 3 = some (.bool (decide (ρ.fuse = 1))) → fget fr0 4 = some (.bool (decide (ρ.fault = 1))) → h2.get x = some (.cells [y.fv, y.nv, y.sv, y.wv, .int .i64 ρ.cap, .bool false, .int .i64 (ρ.calls + 1), .int .i64 fu, .int .i64 fa, .int .i64 ρ.e]) → Only h x h2 → h2.next = h.next → fu = (if 0 < ρ.fuse then ρ.fuse - 1 else ρ.fuse) → fa = (if 0 < ρ.fault then ρ.fault - 1 else ρ.fault) → Wp P B { fr := fr0, st := 0, h := h2 } (bodyQ [.slot 2] fun v h' => v = .int .i64 (beginR ρ).1 ∧ RefAt h' x (beginR ρ).2 y ∧ Only h x h' ∧ h'.next = h.next) := fun h2 fr0 fu fa q0 q3 q4 q5 q6 q7 q8 q9 => rest h2 fr0 fu fa q0 q3 q4 (by rw [q5]; simp only [RSt.cells, hd]) q6 q7 hd q8 q9
    simp (disch := omega) only [go_sem]
    simp (disch := omega) only [go_sem, a64r3, hg]
    simp (disch := omega) only [go_sem, a64r4, get_put_same]
    simp (disch := omega) only [go_sem, a64r5, get_put_same]
    simp (disch := omega) only [go_sem, a64r6, get_put_same]
    refine condS_if (fun c1 => ?_) (fun c1 => ?_)
    · simp (disch := omega) only [go_sem, a64r7, get_put_same]
      simp (disch := omega) only [go_sem, a64r8, get_put_same]
      refine condS_if (fun c2 => ?_) (fun c2 => ?_)
      · simp (disch := omega) only [go_sem, a64r9, get_put_same]
        exact fin _ _ _ _ (by simp (disch := omega) only [go_sem]) (by simp (disch := omega) only [go_sem]) (by simp (disch := omega) only [go_sem]) (get_put_same _ _ _) (((Only.put _ _ _).trans (Only.put _ _ _)).trans (Only.put _ _ _)) rfl (if_pos c1).symm (if_pos c2).symm
      · simp (disch := omega) only [go_sem]
        exact fin _ _ _ _ (by simp (disch := omega) only [go_sem]) (by simp (disch := omega) only [go_sem]) (by simp (disch := omega) only [go_sem]) (get_put_same _ _ _) ((Only.put _ _ _).trans (Only.put _ _ _)) rfl (if_pos c1).symm (if_neg c2).symm
    · simp (disch := omega) only [go_sem]
      simp (disch := omega) only [go_sem, a64r8, get_put_same]
      refine condS_if (fun c2 => ?_) (fun c2 => ?_)
      · simp (disch := omega) only [go_sem, a64r9, get_put_same]
        exact fin _ _ _ _ (by simp (disch := omega) only [go_sem]) (by simp (disch := omega) only [go_sem]) (by simp (disch := omega) only [go_sem]) (get_put_same _ _ _) ((Only.put _ _ _).trans (Only.put _ _ _)) rfl (if_neg c1).symm (if_pos c2).symm
      · simp (disch := omega) only [go_sem]
        exact fin _ _ _ _ (by simp (disch := omega) only [go_sem]) (by simp (disch := omega) only [go_sem]) (by simp (disch := omega) only [go_sem]) (get_put_same _ _ _) (Only.put _ _ _) rfl (if_neg c1).symm (if_neg c2).symm
end Go.Am.Dk

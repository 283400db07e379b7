/- Create on the document's empty disk ends. -/
import Derived.Test.YtijfdjjbodalaaaDkRef
set_option linter.unusedSimpArgs false
set_option linter.unusedVariables false
namespace Go.Am.Dk
open Go.Am
attribute [local go_sem] ne_eq not_true_eq_false not_false_eq_true Nat.reduceEqDiff Nat.reduceAdd Nat.reduceLeDiff Int.toNat_natCast Int.reduceToNat and_self Bool.not_true Bool.not_false Bool.false_and Bool.and_false Bool.true_and Bool.and_true Int.reduceEq Int.reduceLT Int.reduceLE Int.reduceAdd Int.reduceSub Int.reduceNeg decide_true decide_false Option.bind_some Bool.or_true Bool.or_false Bool.true_or Bool.false_or
attribute [local go_sem ↓] reduceIte
set_option maxRecDepth 20000
set_option maxHeartbeats 1000000
variable {P : Prog}
structure REnt where
  s : List UInt8
  n : Int
  deriving Inhabited
instance celREnt : Cel REnt where
  csz := 2
  ccells t := [strv t.s, .int .i64 t.n]
  clen _ := rfl
structure RTurn where
  fr : List UInt8
  to : List UInt8
  n : Int
  deriving Inhabited
instance celRTurn : Cel RTurn where
  csz := 3
  ccells t := [strv t.fr, strv t.to, .int .i64 t.n]
  clen _ := rfl
structure RFile where
  v : AV
  n : Int
  deriving Inhabited
instance celRFile : Cel RFile where
  csz := 2
  ccells t := [t.v, .int .i64 t.n]
  clen _ := rfl
theorem putR_nil (hP : DkP P) (s : List UInt8) (n : Int) (h : Heap) : Fun P 56 [.nils, .agg [strv s, .int .i64 n]] h (fun v h' => PreC h' v [(⟨s, n⟩ : REnt)] ∧ (∀ o, rowOf v = some o → h.next ≤ o) ∧ Ext h h') := by
  refine Fun.of (code := a56c) (hP.code rfl) (by rw [hP.pure]; rfl) ?_
  have lt1 : lenTag 1 .nils = true := rfl
  have ln1 : ∀ h, lenA h .nils = some 0 := fun _ => rfl
  have w1 : decide ((0 : Int) < ((0 : Nat) : Int)) = false := rfl
  simp (disch := omega) only [go_sem, a56c, a56r0]
  simp (disch := omega) only [go_sem, a56r1]
  simp (disch := omega) only [go_sem, a56r2]
  simp (disch := omega) only [go_sem, a56r3]
  refine Wp_unroll ?_
  simp (disch := omega) only [go_sem, a56l0, a56r4, lt1, ln1, cond_true, w1]
  simp (disch := omega) only [go_sem, a56r11]
  simp (disch := omega) only [go_sem, a56r12]
  refine stepP_app (α := REnt) (bytes := 24) (l := []) (new := [⟨s, n⟩]) (Or.inl ⟨rfl, rfl⟩) (addsC_one _ _ _ _ rfl) rfl (by simp [two47]) (fun v' h3 hr3 hn3 ho3 hf3 hnn => ?_)
  have hev := hr3.ev
  have hdt := hr3.dt
  simp (disch := omega) only [go_sem, hev, hdt]
  simp (disch := omega) only [go_sem, a56r13, hev, hdt]
  refine ⟨hr3, fun o ho => ?_, by show h.next ≤ h3.next; rw [hn3]; exact Nat.le_succ _, fun i hi => (hf3 i (by show i ≠ h.next + 0; omega) (by simp [rowOf])).trans rfl⟩
  rcases ho3 with e | e
  · rw [e] at ho; simp [rowOf] at ho
  · rw [e] at ho
    have : h.next + 0 = o := Option.some.inj ho
    omega
theorem doR_nil (hP : DkP P) (a s : List UInt8) (h : Heap) : Fun P 67 [.nils, .agg [strv a, strv s, .int .i64 0]] h (fun v h' => (∃ l : List REnt, PreC h' v l) ∧ (∀ o, rowOf v = some o → h.next ≤ o) ∧ Ext h h') := by
  refine Fun.of (code := a67c) (hP.code rfl) (by rw [hP.pure]; rfl) ?_
  simp (disch := omega) only [go_sem, a67c, a67r0]
  simp (disch := omega) only [go_sem, a67r1]
  simp (disch := omega) only [go_sem, a67r2]
  simp (disch := omega) only [go_sem, a67r5]
  refine guardS_pf (fun c w => ?_) (fun c w => ?_) <;> simp (disch := omega) only [go_sem, w]
  · simp (disch := omega) only [go_sem, a67r7]
    refine WO.fun (vs := [.nils, .agg [strv s, .int .i64 0]]) (by simp (disch := omega) only [go_sem]) (putR_nil hP s 0 h) (fun v h' hv => ?_)
    obtain ⟨hp, h1, hx⟩ := hv
    have hev := hp.ev
    have hdt := hp.dt
    simp (disch := omega) only [go_sem, hev, hdt]
    exact ⟨⟨_, hp⟩, h1, hx⟩
  · simp (disch := omega) only [go_sem, a67r6]
    exact ⟨⟨[], Or.inl ⟨rfl, rfl⟩⟩, fun o ho => by simp [rowOf] at ho, Ext.refl h⟩
theorem dSP_appC {α : Type} [Cel α] {base st0 : Nat} {all : List DItem} {live : List Nat} {Q : AExit → St → Prop} {s : St} {fr : Fr} {st : Nat} {h : Heap} {o' e bytes : Nat} {v y : AV} {l new : List α} {d : Option Nat} {r : List DItem} {ch : List Nat} (hr : PreC h v l) (hy : AddsC h y new) (he : Cel.csz α = e) (hb : (l.length + new.length) * bytes ≤ two47)
    (hl : ∀ v' h', PreC h' v' (l ++ new) → h'.next = h.next → (rowOf v' = rowOf v ∨ rowOf v' = some o') → (∀ q, q ≠ o' → rowOf v ≠ some q → h'.get q = h.get q) → looks base st0 all { fr := setD s.fr d v', st := s.st, h := h' } ch = true)
    (H : ∀ v' h', PreC h' v' (l ++ new) → h'.next = h.next → (rowOf v' = rowOf v ∨ rowOf v' = some o') → (∀ q, q ≠ o' → rowOf v ≠ some q → h'.get q = h.get q) → (new ≠ [] ∨ v ≠ .nils → v' ≠ .nils) → WD P base st0 all r live { fr := setD s.fr d v', st := s.st, h := h' } Q) :
    dS P base st0 all (appA { fr := fr, st := st, h := h } o' e bytes v y) d ch r live s Q := by
  obtain ⟨v', h', e1, e2, e3, e4, e5, e6⟩ := appP_row (s := { fr := fr, st := st, h := h }) (o' := o') hr hy he hb
  rw [e1]
  exact ⟨hl v' h' e2 e3 e4 e5, H v' h' e2 e3 e4 e5 e6⟩
theorem turnR_fun (hP : DkP P) (a s : List UInt8) (h : Heap) (x : Nat) (fv : AV) (n : Int) (hx : h.get x = some (.cells [fv, .nils, .nils, .nils, .int .i64 0, .bool false, .int .i64 n, .int .i64 0, .int .i64 0, .int .i64 0])) (hlt : x < h.next) :
    Fun P 65 [.ptr x 0, .agg [strv a, strv s, .int .i64 0]] h (fun v h' => h.next ≤ h'.next ∧ ∀ o, o < h.next → o ≠ x → h'.get o = h.get o) := by
  refine Fun.of (code := a65c) (hP.code rfl) (by rw [hP.pure]; rfl) ?_
  simp (disch := omega) only [go_sem, a65c, a65r0]
  simp (disch := omega) only [go_sem, a65d1, hx]
  refine WD_fun (vs := [.nils, .agg [strv a, strv s, .int .i64 0]]) (by simp (disch := omega) only [go_sem]) (doR_nil hP a s h) (fun v h' hv => rfl) (fun v h' hv => ?_)
  obtain ⟨⟨l, hp⟩, h1, hxx⟩ := hv
  have hev := hp.ev
  have hdt := hp.dt
  have hx' := (hxx.2 x hlt).trans hx
  simp (disch := omega) only [go_sem, hev, hdt]
  refine WD_storeP (val := v) (off := 1) (o := x) (c' := [fv, v, .nils, .nils, .int .i64 0, .bool false, .int .i64 n, .int .i64 0, .int .i64 0, .int .i64 0]) (by simp (disch := omega) only [go_sem]) (by simp (disch := omega) only [go_sem, hev, hdt]) (by rcases hp with ⟨rfl, -⟩ | ⟨o, ep, j, rfl, -⟩ <;> rfl) hx' (by rcases hp with ⟨rfl, -⟩ | ⟨o, ep, j, rfl, -⟩ <;> rfl) rfl ?_
  have xne : x ≠ h'.next := by have := hxx.1; omega
  have lkn : lookE 40 (some .nils) (some .nils) = true := rfl
  simp (disch := omega) only [go_sem, a65d2, get_put_same, get_put_ne, xne, get_reserve]
  have lka : ∀ a s : List UInt8, lookE 40 (some (.agg [strv a, strv s, .int .i64 0])) (some (.agg [strv a, strv s, .int .i64 0])) = true := fun a s => by
    show (eqAV 38 (strv a) (strv a) && (eqAV 37 (strv s) (strv s) && (eqAV 36 (.int .i64 0) (.int .i64 0) && true))) = true
    rw [eqAV_strv 37, eqAV_strv 36, eqAV_int 35]
    rfl
  refine ⟨by simp (disch := omega) only [go_sem, get_put_same, get_put_ne, xne, get_reserve, lkn, lka], ?_⟩
  simp (disch := omega) only [go_sem]
  refine dSP_appC (α := RTurn) (bytes := 40) (l := []) (new := []) (Or.inr ⟨h'.next, 0, [], rfl, get_put_same _ _ _⟩) ⟨rfl, rfl⟩ rfl (by simp [two47]) (fun v1 h3 hr3 hn3 ho3 hf3 => by simp (disch := omega) only [go_sem, lka]) (fun v1 h3 hr3 hn3 ho3 hf3 hnn => ?_)
  have hev1 := hr3.ev
  have hdt1 := hr3.dt
  simp (disch := omega) only [go_sem, hev1, hdt1]
  refine dSP_app (α := RTurn) (bytes := 40) (l := []) (new := [⟨a, s, 0⟩]) hr3 (addsC_one _ _ _ _ rfl) rfl (by simp [two47]) (fun v2 h4 hr4 hn4 ho4 hf4 hnn => ?_)
  have hev2 := hr4.ev
  have hdt2 := hr4.dt
  have hl' : h.next ≤ h'.next := hxx.1
  have r1 : ∀ q, rowOf v1 = some q → h'.next ≤ q := fun q hq => by
    rcases ho3 with e | e
    · rw [e] at hq; exact Nat.le_of_eq (Option.some.inj hq)
    · rw [e] at hq; have : h'.next + 1 = q := Option.some.inj hq; omega
  have gx : ∀ q, q < h'.next → h4.get q = (h'.put x (.cells [fv, v, .nils, .nils, .int .i64 0, .bool false, .int .i64 n, .int .i64 0, .int .i64 0, .int .i64 0])).get q := fun q hq => by
    rw [hf4 q (by show q ≠ h'.next + 2; omega) (fun e => by have := r1 q e; omega), hf3 q (by show q ≠ h'.next + 1; omega) (by simp only [rowOf, ne_eq, Option.some.injEq]; omega), get_put_ne _ _ _ _ (by omega), get_reserve]
  have hx4 := (gx x (by omega)).trans (get_put_same _ _ _)
  have n4 : h4.next = h'.next + 3 := (hn4.trans hn3).trans rfl
  simp (disch := omega) only [go_sem, hev2, hdt2]
  refine WD_storeP (val := v2) (off := 3) (o := x) (c' := [fv, v, .nils, v2, .int .i64 0, .bool false, .int .i64 n, .int .i64 0, .int .i64 0, .int .i64 0]) (by simp (disch := omega) only [go_sem]) (by simp (disch := omega) only [go_sem, hev2, hdt2]) (by rcases hr4 with ⟨rfl, -⟩ | ⟨o, ep, j, rfl, -⟩ <;> rfl) hx4 (by rcases hr4 with ⟨rfl, -⟩ | ⟨o, ep, j, rfl, -⟩ <;> rfl) rfl ?_
  simp (disch := omega) only [go_sem]
  refine ⟨by show h.next ≤ h4.next; omega, fun o h5 h6 => ?_⟩
  rw [get_put_ne _ _ _ _ h6, gx o (by omega), get_put_ne _ _ _ _ h6]
  exact hxx.2 o h5
theorem createR_fun (hP : DkP P) (s : List UInt8) (h : Heap) (x : Nat) (hx : h.get x = some (.cells (refC 0))) (hlt : x < h.next) (hl : s.length ≤ 9223372036854775807) : Fun P 40 [.ptr x 0, strv s] h (RefEnds h x) := by
  refine Fun.of (code := a40c) (hP.code rfl) (by rw [hP.pure]; rfl) ?_
  simp (disch := omega) only [go_sem, a40c, a40r0]
  simp (disch := omega) only [go_sem, a40r1]
  refine WO.fun (vs := [.ptr x 0]) (by simp (disch := omega) only [go_sem]) (beginR_fun hP h x hx) (fun v h' hv => ?_)
  obtain ⟨rfl, rfl⟩ := hv
  unfold refC
  simp (disch := omega) only [go_sem, a40r2]
  simp (disch := omega) only [go_sem, a40r4]
  refine WO.den (k := 1) (vs := [strv s]) (by rw [hP.pure]; rfl) (by simp (disch := omega) only [go_sem]) (R := fun v => ∃ b, v = .bool b) ?_ (fun v hv => ?_) (fun v hv => ?_)
  · simp only [lent_11, List.map_cons, List.map_nil, frz_str]
    exact nameR_den hP s hl
  · obtain ⟨b, rfl⟩ := hv; rfl
  · obtain ⟨b, rfl⟩ := hv
    simp (disch := omega) only [go_sem]
    refine condS_split (fun w => ?_) (fun w => ?_)
    · simp (disch := omega) only [go_sem, a40r5]
      exact ends_put _ _ _ _
    simp (disch := omega) only [go_sem, a40r6, get_put_same]
    refine WO.fun (vs := [.nils, strv s]) (by simp (disch := omega) only [go_sem]) (findR_nil hP s _) (fun v h' hv => ?_)
    obtain ⟨rfl, rfl⟩ := hv
    have lt1 : lenTag 1 .nils = true := rfl
    have ln1 : ∀ h, lenA h .nils = some 0 := fun _ => rfl
    have w1 : decide ((64 : Int) ≤ ((0 : Nat) : Int)) = false := rfl
    simp (disch := omega) only [go_sem]
    simp (disch := omega) only [go_sem, a40r8, get_put_same, lt1, ln1, cond_true, w1]
    have xne : x ≠ h.next := by omega
    simp (disch := omega) only [go_sem, a40r10, get_put_same, get_put_ne, xne, get_reserve]
    refine stepP_app (α := RFile) (bytes := 32) (l := []) (new := []) (Or.inr ⟨h.next, 0, [], rfl, get_put_same _ _ _⟩) ⟨rfl, rfl⟩ rfl (by simp [two47]) (fun v1 h3 hr3 hn3 ho3 hf3 hnn => ?_)
    have hev1 := hr3.ev
    have hdt1 := hr3.dt
    simp (disch := omega) only [go_sem, hev1, hdt1]
    refine stepP_app (α := RFile) (bytes := 32) (l := []) (new := [⟨.nils, 0⟩]) hr3 (addsC_one _ _ _ _ rfl) rfl (by simp [two47]) (fun v2 h4 hr4 hn4 ho4 hf4 hnn => ?_)
    have hev2 := hr4.ev
    have hdt2 := hr4.dt
    have r1 : ∀ q, rowOf v1 = some q → h.next ≤ q := fun q hq => by
      rcases ho3 with e | e
      · rw [e] at hq; exact Nat.le_of_eq (Option.some.inj hq)
      · rw [e] at hq; have : h.next + 1 = q := Option.some.inj hq; omega
    have gx : ∀ q, q < h.next → h4.get q = (h.put x (.cells [.nils, .nils, .nils, .nils, .int .i64 0, .bool false, .int .i64 1, .int .i64 0, .int .i64 0, .int .i64 0])).get q := fun q hq => by
      rw [hf4 q (by show q ≠ h.next + 2; omega) (fun e => by have := r1 q e; omega), hf3 q (by show q ≠ h.next + 1; omega) (by simp only [rowOf, ne_eq, Option.some.injEq]; omega), get_put_ne _ _ _ _ (by omega), get_reserve]
    have hx4 := (gx x (by omega)).trans (get_put_same _ _ _)
    have n4 : h4.next = h.next + 3 := (hn4.trans hn3).trans rfl
    have hcl : v2.cellsOf = [v2] := by rcases hr4 with ⟨rfl, -⟩ | ⟨o, ep, j, rfl, -⟩ <;> rfl
    have hle : ∀ h', lenA h' v2 = some 1 := hr4.len
    have hlt' := hr4.tag
    simp (disch := omega) only [go_sem, hev2, hdt2, hx4, hcl]
    have e1 : ((1 : Nat) : Int) - 1 = 0 := rfl
    simp (disch := omega) only [go_sem, a40r11, get_put_same, hev2, hle, hlt', cond_true, e1]
    refine WO.fun (vs := [.ptr x 0, .agg [strv [], strv s, .int .i64 0]]) (by simp (disch := omega) only [go_sem]) (turnR_fun hP [] s _ x v2 1 (get_put_same _ _ _) (by show x < h4.next; omega)) (fun v h' hv => ?_)
    obtain ⟨q1, q2⟩ := hv
    simp (disch := omega) only [go_sem]
    simp (disch := omega) only [go_sem, a40r12]
    have q1' : h4.next ≤ h'.next := q1
    refine ⟨⟨_, rfl⟩, by omega, fun o h5 h6 => ?_⟩
    rw [q2 o (by show o < h4.next; omega) h6, get_put_ne _ _ _ _ h6, gx o h5, get_put_ne _ _ _ _ h6]
end Go.Am.Dk

/- The document's disk, any: a turn of the names. -/
import Derived.Test.YtijfdjjbodalaaaDkAll2
import Derived.Test.YtijfdjjbodalaaaSort
import Derived.Test.YtijfdjjbodalaaaAmAll5
import Derived.Test.YtijfdjjbodalaaaDkCode
import Derived.StringKeys
set_option linter.unusedSimpArgs false
set_option linter.unusedVariables false
namespace Go.Am.Dk
open Go.Am
set_option maxRecDepth 20000
set_option maxHeartbeats 1000000
variable {P : Prog}
theorem eqAV_hs (n a b c d e : Nat) (f : Bool) : eqAV (n + 1) (.hs a b c d e f) (.hs a b c d e f) = true := by
  show (Nat.beq a a && Nat.beq b b && Nat.beq c c && Nat.beq d d && Nat.beq e e && (f == f)) = true
  simp
theorem Has.look {α : Type} [Cel α] {h : Heap} {v : AV} {l : List α} (a : Has h v l) : lookE 40 (some v) (some v) = true := by
  rcases a.1 with ⟨rfl, -⟩ | ⟨o', ep, j, rfl, hg⟩
  · rfl
  · exact eqAV_hs 39 _ _ _ _ _ _
theorem Has.cl {α : Type} [Cel α] {h : Heap} {v : AV} {l : List α} (a : Has h v l) : v.cellsOf = [v] := by
  rcases a.1 with ⟨rfl, -⟩ | ⟨o', ep, j, rfl, hg⟩ <;> rfl
theorem Has.ev {α : Type} [Cel α] {h : Heap} {v : AV} {l : List α} (a : Has h v l) (i : Nat) : evS i (some v) = some v := a.1.ev i
theorem Has.dt {α : Type} [Cel α] {h : Heap} {v : AV} {l : List α} (a : Has h v l) : datW (some v) = some v := a.1.dt
theorem Has.len {α : Type} [Cel α] {h : Heap} {v : AV} {l : List α} (a : Has h v l) (h' : Heap) : lenA h' v = some l.length := a.1.len h'
theorem Has.tag {α : Type} [Cel α] {h : Heap} {v : AV} {l : List α} (a : Has h v l) : lenTag 1 v = true := a.1.tag
theorem Loc.stepR {α : Type} [Cel α] {h0 hx h3 : Heap} {v v' : AV} {l l' : List α} {o' : Nat} (a : Loc h0 hx v l) (ho' : h0.next ≤ o' ∧ o' < hx.next) (hr3 : PreC h3 v' l') (hn3 : h3.next = hx.next) (ho3 : rowOf v' = rowOf v ∨ rowOf v' = some o') (hf3 : ∀ q, q ≠ o' → rowOf v ≠ some q → h3.get q = hx.get q) : Loc h0 h3 v' l' := by
  obtain ⟨⟨a1, a2⟩, a3, a4⟩ := a
  have vr : ∀ o, rowOf v' = some o → rowOf v = some o ∨ o = o' := fun o ho => by
    rcases ho3 with e | e
    · exact Or.inl (by rw [← e]; exact ho)
    · rw [e] at ho; exact Or.inr (Option.some.inj ho).symm
  have := a4.1
  refine ⟨⟨hr3, fun o ho => ?_⟩, fun o ho => ?_, by omega, fun q hq => ?_⟩
  · rcases vr o ho with e | e
    · have := a2 o e; omega
    · omega
  · rcases vr o ho with e | e
    · exact a3 o e
    · omega
  · rw [hf3 q (by omega) (fun e => by have := a3 q e; omega), a4.2 q hq]
theorem Loc.mk0 {α : Type} [Cel α] (h : Heap) (n : Nat) (s : Nat) (hs : Cel.csz α = s) : Loc h ((h.reserve (n + 1)).put h.next (.row s 0 [])) (.hs s h.next 0 0 0 false) ([] : List α) := by
  subst hs
  refine ⟨⟨Or.inr ⟨h.next, 0, [], rfl, get_put_same _ _ _⟩, fun o ho => ?_⟩, fun o ho => ?_, by show h.next ≤ h.next + (n + 1); omega, fun q hq => by rw [get_put_ne _ _ _ _ (by omega), get_reserve]⟩
  · obtain rfl : h.next = o := Option.some.inj ho
    show h.next < h.next + (n + 1); omega
  · obtain rfl : h.next = o := Option.some.inj ho
    exact Nat.le_refl _
theorem RefAt.set {h : Heap} {x : Nat} {c : List AV} (hc : h.get x = some (.cells c)) (hlt : x < h.next) (ρ' : RSt) (y' : RLay) (f : Has h y'.fv y'.rfs) (hl : y'.rfs.length = ρ'.files.length) (hh : ∀ i, i < ρ'.files.length → HoldX h (y'.rfs.getD i default).v (ρ'.files.getD i default).b ∧ (y'.rfs.getD i default).n = (ρ'.files.getD i default).sure)
    (n : Has h y'.nv ρ'.now) (s : Has h y'.sv ρ'.sure) (w : Has h y'.wv ρ'.waits) : RefAt (h.put x (.cells (ρ'.cells y'))) x ρ' y' := by
  have hk : ∀ o, o ≠ x → (h.put x (.cells (ρ'.cells y'))).get o = h.get o := fun o ho => get_put_ne _ _ _ _ ho
  exact ⟨get_put_same _ _ _, hlt, f.keep (Nat.le_refl _) (fun o ho => hk o (row_ne hc (f.row o ho))), hl, fun i hi => ⟨(hh i hi).1.ext (Nat.le_refl _) (fun o ho => hk o (row_ne hc ⟨_, ((hh i hi).1.lt o ho).2⟩)), (hh i hi).2⟩,
    n.keep (Nat.le_refl _) (fun o ho => hk o (row_ne hc (n.row o ho))), s.keep (Nat.le_refl _) (fun o ho => hk o (row_ne hc (s.row o ho))), w.keep (Nat.le_refl _) (fun o ho => hk o (row_ne hc (w.row o ho)))⟩
def turnRS (ρ : RSt) (t : RTurn) : RSt := { ρ with now := doL ρ.now t, waits := ρ.waits ++ [t] }
theorem turnRR_fun (hP : DkP P) (u : RTurn) (h : Heap) (x : Nat) (ρ : RSt) (y : RLay) (hx : RefAt h x ρ y) (hl : ρ.now.length ≤ 100000000) (hw : ρ.waits.length ≤ 100000000) :
    Fun P 65 [.ptr x 0, .agg [strv u.fr, strv u.to, .int .i64 u.n]] h (fun v h' => ∃ y', RefAt h' x (turnRS ρ u) y' ∧ RStep h h' x y y') := by
  have hg := hx.cell
  simp only [RSt.cells] at hg
  have nev := hx.now.ev
  have ndt := hx.now.dt
  have wev := hx.waits.ev
  have wdt := hx.waits.dt
  refine Fun.of (code := a65c) (hP.code rfl) (by rw [hP.pure]; rfl) ?_
  simp (disch := omega) only [go_sem, a65c, a65r0]
  simp (disch := omega) only [go_sem, a65d1, hg, nev, ndt]
  refine WD_fun (vs := [y.nv, .agg [strv u.fr, strv u.to, .int .i64 u.n]]) (by simp (disch := omega) only [go_sem, nev, ndt]) (doR_fun hP ρ.now u y.nv h hx.now hl) (fun v h' hv => rfl) (fun v h' hv => ?_)
  obtain ⟨hn, hxx, hro⟩ := hv
  have hx1 := hx.ext hxx
  have hg1 := hx1.cell
  simp only [RSt.cells] at hg1
  have hev := hn.ev
  have hdt := hn.dt
  simp (disch := omega) only [go_sem, hev, hdt]
  refine WD_storeP (val := v) (off := 1) (o := x) (c' := [y.fv, v, y.sv, y.wv, .int .i64 ρ.cap, .bool ρ.dead, .int .i64 ρ.calls, .int .i64 ρ.fuse, .int .i64 ρ.fault, .int .i64 ρ.e]) (by simp (disch := omega) only [go_sem]) (by simp (disch := omega) only [go_sem, hev, hdt]) (by rcases hn.1 with ⟨rfl, -⟩ | ⟨o, ep, j, rfl, -⟩ <;> rfl) hg1 (by rcases hn.1 with ⟨rfl, -⟩ | ⟨o, ep, j, rfl, -⟩ <;> rfl) rfl ?_
  have xne : x ≠ h'.next := by have := hx1.lt; omega
  have lkw := hx.waits.look
  have lka : lookE 40 (some (.agg [strv u.fr, strv u.to, .int .i64 u.n])) (some (.agg [strv u.fr, strv u.to, .int .i64 u.n])) = true := by
    show (eqAV 38 (strv u.fr) (strv u.fr) && (eqAV 37 (strv u.to) (strv u.to) && (eqAV 36 (.int .i64 u.n) (.int .i64 u.n) && true))) = true
    rw [eqAV_strv 37, eqAV_strv 36, eqAV_int 35]
    rfl
  simp (disch := omega) only [go_sem, a65d2, get_put_same, get_put_ne, xne, get_reserve, wev, wdt]
  refine ⟨by simp (disch := omega) only [go_sem, get_put_same, get_put_ne, xne, get_reserve, lkw, lka, wev, wdt], ?_⟩
  simp (disch := omega) only [go_sem, wev, wdt]
  have hox : Only h' x (h'.put x (.cells [y.fv, v, y.sv, y.wv, .int .i64 ρ.cap, .bool ρ.dead, .int .i64 ρ.calls, .int .i64 ρ.fuse, .int .i64 ρ.fault, .int .i64 ρ.e])) := Only.put _ _ _
  have hx2 : RefAt (h'.put x (.cells [y.fv, v, y.sv, y.wv, .int .i64 ρ.cap, .bool ρ.dead, .int .i64 ρ.calls, .int .i64 ρ.fuse, .int .i64 ρ.fault, .int .i64 ρ.e])) x { ρ with now := doL ρ.now u } { y with nv := v } := RefAt.set hg1 hx1.lt { ρ with now := doL ρ.now u } { y with nv := v } hx1.files hx1.len hx1.hold hn hx1.sure hx1.waits
  obtain ⟨H, hH⟩ : ∃ H, h'.put x (.cells [y.fv, v, y.sv, y.wv, .int .i64 ρ.cap, .bool ρ.dead, .int .i64 ρ.calls, .int .i64 ρ.fuse, .int .i64 ρ.fault, .int .i64 ρ.e]) = H := ⟨_, rfl⟩
  have hHn : h'.next = H.next := by rw [← hH]; rfl
  rw [hH] at hox hx2 ⊢
  rw [hHn]
  have L0 := Loc.mk0 (α := RTurn) H 2 3 rfl
  have hH1 : ((H.reserve 3).put H.next (.row 3 0 [])).next = H.next + 3 := rfl
  have hH2 : ((H.reserve (2 + 1)).put H.next (.row 3 0 [])).next = H.next + 3 := rfl
  refine dSP_appC (α := RTurn) (bytes := 40) (l := []) (new := ρ.waits) L0.1.1 (addsC_pre (hx2.waits.ext L0.2.2).1) rfl (by simp [two47]; omega) (fun v1 h3 hr3 hn3 ho3 hf3 => by simp (disch := omega) only [go_sem, lka]) (fun v1 h3 hr3 hn3 ho3 hf3 hnn => ?_)
  have L1 := L0.stepR (by omega) hr3 hn3 ho3 hf3
  have n3 : h3.next = H.next + 3 := hn3
  have ev1 := L1.1.ev
  have dt1 := L1.1.dt
  simp (disch := omega) only [go_sem, ev1, dt1]
  refine dSP_app (α := RTurn) (bytes := 40) (l := [] ++ ρ.waits) (new := [u]) L1.1.1 (addsC_one _ _ _ _ rfl) rfl (by simp [two47]; omega) (fun v2 h4 hr4 hn4 ho4 hf4 hnn => ?_)
  have L2 := L1.stepR (by omega) hr4 hn4 ho4 hf4
  rw [List.nil_append] at L2
  have ev2 := L2.1.ev
  have dt2 := L2.1.dt
  have hx4 := hx2.ext L2.2.2
  have hg4 := hx4.cell
  simp only [RSt.cells] at hg4
  simp (disch := omega) only [go_sem, ev2, dt2]
  refine WD_storeP (val := v2) (off := 3) (o := x) (c' := [y.fv, v, y.sv, v2, .int .i64 ρ.cap, .bool ρ.dead, .int .i64 ρ.calls, .int .i64 ρ.fuse, .int .i64 ρ.fault, .int .i64 ρ.e]) (by simp (disch := omega) only [go_sem]) (by simp (disch := omega) only [go_sem, ev2, dt2]) (by rw [L2.1.cl]; rfl) hg4 (by rw [L2.1.cl]; rfl) rfl ?_
  simp (disch := omega) only [go_sem]
  have hnx := hxx.1
  refine ⟨{ y with nv := v, wv := v2 }, RefAt.set hg4 hx4.lt (turnRS ρ u) { y with nv := v, wv := v2 } hx4.files hx4.len hx4.hold hx4.now hx4.sure L2.1, (((Only.of_ext hxx).trans hox).trans (Only.of_ext L2.2.2)).trans (Only.put _ _ _), fun o ho => ?_⟩
  rcases ho with ho | ho | ho | ho | ho
  · exact Or.inl (Or.inl ho)
  · exact (hro o ho).imp (fun h => Or.inr (Or.inl h)) id
  · exact Or.inl (Or.inr (Or.inr (Or.inl ho)))
  · exact Or.inr (by have := L2.2.1 o ho; omega)
  · exact Or.inl (Or.inr (Or.inr (Or.inr (Or.inr ho))))
end Go.Am.Dk
/- The document's disk, any: a file in the place of one. -/
namespace Go.Am.Dk
open Go.Am
set_option maxRecDepth 20000
set_option maxHeartbeats 1000000
variable {P : Prog}
theorem flatC_drop {α : Type} [Cel α] (l : List α) (a : Nat) : (l.flatMap Cel.ccells).drop (a * Cel.csz α) = (l.drop a).flatMap Cel.ccells := by
  by_cases h : a ≤ l.length
  · have h1 : l = l.take a ++ l.drop a := (List.take_append_drop a l).symm
    have h2 : ((l.take a).flatMap Cel.ccells).length = a * Cel.csz α := by rw [flatC_len, List.length_take, Nat.min_eq_left h]
    conv => lhs; rw [h1, List.flatMap_append]
    rw [← h2, List.drop_left]
  · rw [List.drop_of_length_le (by rw [flatC_len]; exact Nat.mul_le_mul_right _ (by omega)), List.drop_of_length_le (by omega)]; rfl
theorem flatC_take {α : Type} [Cel α] (l : List α) (a : Nat) : (l.flatMap Cel.ccells).take (a * Cel.csz α) = (l.take a).flatMap Cel.ccells := by
  by_cases h : a ≤ l.length
  · have h1 : l = l.take a ++ l.drop a := (List.take_append_drop a l).symm
    have h2 : ((l.take a).flatMap Cel.ccells).length = a * Cel.csz α := by rw [flatC_len, List.length_take, Nat.min_eq_left h]
    conv => lhs; rw [h1, List.flatMap_append]
    rw [← h2, List.take_left]
  · rw [List.take_of_length_le (by rw [flatC_len]; exact Nat.mul_le_mul_right _ (by omega)), List.take_of_length_le (by omega)]
theorem addsC_sub {α : Type} [Cel α] {h : Heap} {o ep a m : Nat} {full : Bool} {l : List α} {j : List AV} (hg : h.get o = some (.row (Cel.csz α) ep (l.flatMap Cel.ccells ++ j))) (hm : a + m ≤ l.length) : AddsC h (.hs (Cel.csz α) o ep a m full) ((l.drop a).take m) := by
  have hl : ((l.drop a).take m).length = m := by rw [List.length_take, List.length_drop]; omega
  refine ⟨by rw [hl]; rfl, ?_⟩
  have h1 : (a + m) * Cel.csz α ≤ l.length * Cel.csz α := Nat.mul_le_mul_right _ hm
  have h2 : a * Cel.csz α + m * Cel.csz α ≤ (l.flatMap Cel.ccells ++ j).length := by
    rw [List.length_append, flatC_len, ← Nat.add_mul]; omega
  rw [hl]
  simp only [cellsAt, nble, nbeq, Nat.le_refl, decide_true, Bool.and_self, cond_true, hg]
  rw [sub_take _ _ _ h2, List.drop_append_of_le_length (by rw [flatC_len]; exact Nat.mul_le_mul_right _ (by omega)), flatC_drop, List.take_append_of_le_length (by rw [flatC_len, List.length_drop]; exact Nat.mul_le_mul_right _ (by omega)), flatC_take]
theorem getD_with {α : Type} [Inhabited α] (l : List α) (i : Nat) (b : α) (hi : i < l.length) (k : Nat) : (l.take i ++ [b] ++ l.drop (i + 1)).getD k default = if k = i then b else l.getD k default := by
  have ht : (l.take i).length = i := by rw [List.length_take]; omega
  simp only [List.getD_eq_getElem?_getD]
  by_cases h1 : k < i
  · rw [if_neg (by omega), List.append_assoc, List.getElem?_append_left (by omega), List.getElem?_take_of_lt h1]
  · by_cases h2 : k = i
    · subst h2
      rw [if_pos rfl, List.append_assoc, List.getElem?_append_right (by omega), ht, Nat.sub_self]
      rfl
    · rw [if_neg h2, List.getElem?_append_right (by rw [List.length_append, ht]; simp; omega), List.getElem?_drop, List.length_append, ht, List.length_singleton]
      congr 2
      omega
theorem len_with {α : Type} (l : List α) (i : Nat) (b : α) (hi : i < l.length) : (l.take i ++ [b] ++ l.drop (i + 1)).length = l.length := by
  simp only [List.length_append, List.length_take, List.length_drop, List.length_singleton]; omega
def withRS (ρ : RSt) (i : Nat) (f : FilR) : RSt := { ρ with files := ρ.files.take i ++ [f] ++ ρ.files.drop (i + 1) }
theorem withR_fun (hP : DkP P) (i : Nat) (bv : AV) (f : FilR) (h : Heap) (x : Nat) (ρ : RSt) (y : RLay) (hx : RefAt h x ρ y) (hi : i < ρ.files.length) (hl : ρ.files.length ≤ 100000000) (hb : HoldX h bv f.b) :
    Fun P 66 [.ptr x 0, .int .i64 i, .agg [bv, .int .i64 f.sure]] h (fun v h' => ∃ y', RefAt h' x (withRS ρ i f) y' ∧ Only h x h' ∧ ∀ o, RefOwn y' o → RefOwn y o ∨ h.next ≤ o ∨ rowOf bv = some o) := by
  have hg := hx.cell
  simp only [RSt.cells] at hg
  have hlen := hx.len
  have hne : y.rfs ≠ [] := fun e => by rw [e] at hlen; simp at hlen; omega
  obtain ⟨o, ep, j, hfv, hrow⟩ := hx.files.1.resolve_left (fun e => hne e.2)
  have hcs : Cel.csz RFile = 2 := rfl
  have bev := hb.ev
  have bdt := hb.dt
  have bcl := hb.cl
  rw [hfv, hcs] at hg
  refine Fun.of (code := a66c) (hP.code rfl) (by rw [hP.pure]; rfl) ?_
  simp (disch := omega) only [go_sem, a66c, a66r0, bev, bdt, bcl]
  have xlt := hx.lt
  have L0 := Loc.mk0 (α := RFile) h 1 2 rfl
  have hg1 := (L0.2.2.2 x xlt).trans hg
  have hrow1 := (L0.2.2.2 o (hx.files.2 o (by rw [hfv]; rfl))).trans hrow
  simp (disch := omega) only [go_sem, a66r1, hg1, bev, bdt, bcl, hlen]
  refine stepP_app (α := RFile) (bytes := 32) (l := []) (new := (y.rfs.drop 0).take i) L0.1.1 (addsC_sub (α := RFile) hrow1 (by omega)) rfl (by simp [two47]; omega) (fun v1 h3 hr3 hn3 ho3 hf3 hnn => ?_)
  have L1 := L0.stepR (by show h.next ≤ h.next + 1 ∧ h.next + 1 < h.next + 2; omega) hr3 hn3 ho3 hf3
  rw [List.nil_append, List.drop_zero] at L1
  have ev1 := L1.1.ev
  have dt1 := L1.1.dt
  simp (disch := omega) only [go_sem, ev1, dt1]
  simp (disch := omega) only [go_sem, a66r2, ev1, dt1, bev, bdt, bcl]
  refine stepP_app (α := RFile) (bytes := 32) (l := y.rfs.take i) (new := [⟨bv, f.sure⟩]) (L1.1.1.keep (fun o ho => get_reserve _ _ _)) (addsC_one _ _ _ _ rfl) rfl (by simp [two47]; omega) (fun v2 h4 hr4 hn4 ho4 hf4 hnn => ?_)
  have L2 := L1.step hr4 hn4 ho4 hf4
  have ev2 := L2.1.ev
  have dt2 := L2.1.dt
  have hg4 := (L2.2.2.2 x xlt).trans hg
  have hrow4 := (L2.2.2.2 o (hx.files.2 o (by rw [hfv]; rfl))).trans hrow
  simp (disch := omega) only [go_sem, ev2, dt2]
  have ei : ((i : Int) + 1).toNat = i + 1 := by omega
  simp (disch := omega) only [go_sem, a66r3, ev2, dt2, hg4, hlen, ei]
  refine stepP_app (α := RFile) (bytes := 32) (l := y.rfs.take i ++ [⟨bv, f.sure⟩]) (new := (y.rfs.drop (i + 1)).take (ρ.files.length - (i + 1))) (L2.1.1.keep (fun o ho => get_reserve _ _ _)) (addsC_sub (α := RFile) (((get_reserve _ _ _).trans hrow4)) (by omega)) rfl (by
    have h1 : ((y.rfs.drop (i + 1)).take (ρ.files.length - (i + 1))).length ≤ ρ.files.length := by rw [List.length_take]; omega
    have h2 : (y.rfs.take i ++ [(⟨bv, f.sure⟩ : RFile)]).length ≤ ρ.files.length + 1 := by rw [List.length_append, List.length_take, List.length_singleton]; omega
    simp only [two47]; omega) (fun v3 h5 hr5 hn5 ho5 hf5 hnn => ?_)
  have L3 := L2.step hr5 hn5 ho5 hf5
  have e5 : (y.rfs.drop (i + 1)).take (ρ.files.length - (i + 1)) = y.rfs.drop (i + 1) := List.take_of_length_le (by rw [List.length_drop]; omega)
  rw [e5] at L3
  have ev3 := L3.1.ev
  have dt3 := L3.1.dt
  have cl3 := L3.1.cl
  have hx5 := hx.ext L3.2.2
  have hg5 := (L3.2.2.2 x xlt).trans hg
  simp (disch := omega) only [go_sem, ev3, dt3, cl3, hg5]
  refine ⟨{ y with fv := v3, rfs := y.rfs.take i ++ [⟨bv, f.sure⟩] ++ y.rfs.drop (i + 1) }, ?_, (Only.of_ext L3.2.2).trans (Only.put _ _ _), fun o ho => ?_⟩
  rotate_left
  · rcases ho with ho | ho | ho | ho | ⟨r, hr, ho⟩
    · exact Or.inr (Or.inl (L3.2.1 o ho))
    · exact Or.inl (Or.inr (Or.inl ho))
    · exact Or.inl (Or.inr (Or.inr (Or.inl ho)))
    · exact Or.inl (Or.inr (Or.inr (Or.inr (Or.inl ho))))
    · rcases List.mem_append.1 hr with hr | hr
      · rcases List.mem_append.1 hr with hr | hr
        · exact Or.inl (Or.inr (Or.inr (Or.inr (Or.inr ⟨r, List.mem_of_mem_take hr, ho⟩))))
        · rw [List.mem_singleton.1 hr] at ho
          exact Or.inr (Or.inr ho)
      · exact Or.inl (Or.inr (Or.inr (Or.inr (Or.inr ⟨r, List.mem_of_mem_drop hr, ho⟩))))
  refine RefAt.set hg5 hx5.lt (withRS ρ i f) { y with fv := v3, rfs := y.rfs.take i ++ [⟨bv, f.sure⟩] ++ y.rfs.drop (i + 1) } L3.1 ?_ (fun k hk => ?_) hx5.now hx5.sure hx5.waits
  · show (y.rfs.take i ++ [(⟨bv, f.sure⟩ : RFile)] ++ y.rfs.drop (i + 1)).length = (ρ.files.take i ++ [f] ++ ρ.files.drop (i + 1)).length
    rw [len_with _ _ _ (by omega), len_with _ _ _ hi, hlen]
  · show HoldX h5 ((y.rfs.take i ++ [(⟨bv, f.sure⟩ : RFile)] ++ y.rfs.drop (i + 1)).getD k default).v ((ρ.files.take i ++ [f] ++ ρ.files.drop (i + 1)).getD k default).b ∧ ((y.rfs.take i ++ [(⟨bv, f.sure⟩ : RFile)] ++ y.rfs.drop (i + 1)).getD k default).n = ((ρ.files.take i ++ [f] ++ ρ.files.drop (i + 1)).getD k default).sure
    rw [getD_with _ _ _ (by omega), getD_with _ _ _ hi]
    have hk' : k < (ρ.files.take i ++ [f] ++ ρ.files.drop (i + 1)).length := hk
    rw [len_with _ _ _ hi] at hk'
    split
    · exact ⟨hb.ext L3.2.2.1 (fun o ho => L3.2.2.2 o (hb.lt o ho).1), rfl⟩
    · exact hx5.hold k hk'
end Go.Am.Dk
/- The document's disk, any: Read, Used. -/
namespace Go.Am.Dk
open Go.Am
set_option maxRecDepth 20000
set_option maxHeartbeats 1000000
variable {P : Prog}
def Idx (ρ : RSt) : Prop := ∀ e ∈ ρ.now, 0 ≤ e.n ∧ e.n < ρ.files.length
theorem findL_mem {s : List UInt8} : ∀ {l : List REnt}, 0 ≤ findL l s → ∃ e ∈ l, e.s = s ∧ findL l s = e.n
  | [], h => by simp [findL] at h
  | e :: r, h => by
    rw [findL] at h ⊢
    split
    · exact ⟨e, List.mem_cons_self, by assumption, rfl⟩
    · rename_i hne
      rw [if_neg hne] at h
      obtain ⟨e', h1, h2, h3⟩ := findL_mem h
      exact ⟨e', List.mem_cons_of_mem _ h1, h2, h3⟩
theorem Idx.find {ρ : RSt} (h : Idx ρ) {s : List UInt8} (hs : 0 ≤ findL ρ.now s) : ∃ i : Nat, i < ρ.files.length ∧ findL ρ.now s = (i : Int) := by
  obtain ⟨e, h1, -, h3⟩ := findL_mem hs
  have := h e h1
  exact ⟨(findL ρ.now s).toNat, by omega, by omega⟩
theorem RefAt.row' {h : Heap} {x : Nat} {ρ : RSt} {y : RLay} (a : RefAt h x ρ y) {i : Nat} (hi : i < ρ.files.length) : ∃ o ep j w, y.fv = .hs 2 o ep 0 ρ.files.length false ∧ h.get o = some (.row 2 ep (y.rfs.flatMap Cel.ccells ++ j)) ∧
    (((dropN (i * 2) (y.rfs.flatMap Cel.ccells ++ j)).bind fun r => takeN 1 r) = some [w]) ∧ (((dropN (i * 2 + 1) (y.rfs.flatMap Cel.ccells ++ j)).bind fun r => takeN 1 r) = some [.int .i64 ((ρ.files.getD i default).sure : Nat)]) ∧ (((dropN (i * 2) (y.rfs.flatMap Cel.ccells ++ j)).bind fun r => takeN 2 r) = some [w, .int .i64 ((ρ.files.getD i default).sure : Nat)]) ∧ HoldX h w (ρ.files.getD i default).b ∧ y.rfs.getD i default = ⟨w, ((ρ.files.getD i default).sure : Nat)⟩ := by
  have hlen := a.len
  have hne : y.rfs ≠ [] := fun e => by rw [e] at hlen; simp at hlen; omega
  obtain ⟨o, ep, j, hfv, hrow⟩ := a.files.1.resolve_left (fun e => hne e.2)
  have hcs : Cel.csz RFile = 2 := rfl
  obtain ⟨h1, h2⟩ := a.hold i hi
  have hk : i < y.rfs.length := by omega
  have l0 := ld_pre1 (α := RFile) (l := y.rfs) (j := j) (k := i) (f := 0) hk (by decide)
  have l1 := ld_pre1 (α := RFile) (l := y.rfs) (j := j) (k := i) (f := 1) hk (by decide)
  have ll := ld_pre (α := RFile) (l := y.rfs) (j := j) (k := i) hk
  have ce : Cel.ccells (y.rfs.getD i default) = [(y.rfs.getD i default).v, .int .i64 (y.rfs.getD i default).n] := rfl
  rw [hcs, ce] at l0 l1 ll
  simp only [Nat.add_zero, List.getD_cons_zero, List.getD_cons_succ] at l0 l1
  rw [h2] at l1 ll
  exact ⟨o, ep, j, (y.rfs.getD i default).v, by rw [hfv, hcs, hlen], hrow, l0, l1, ll, h1, by rw [← h2]⟩
theorem RefAt.row {h : Heap} {x : Nat} {ρ : RSt} {y : RLay} (a : RefAt h x ρ y) {i : Nat} (hi : i < ρ.files.length) : ∃ o ep j w, y.fv = .hs 2 o ep 0 ρ.files.length false ∧ h.get o = some (.row 2 ep (y.rfs.flatMap Cel.ccells ++ j)) ∧
    (((dropN (i * 2) (y.rfs.flatMap Cel.ccells ++ j)).bind fun r => takeN 1 r) = some [w]) ∧ (((dropN (i * 2 + 1) (y.rfs.flatMap Cel.ccells ++ j)).bind fun r => takeN 1 r) = some [.int .i64 ((ρ.files.getD i default).sure : Nat)]) ∧ (((dropN (i * 2) (y.rfs.flatMap Cel.ccells ++ j)).bind fun r => takeN 2 r) = some [w, .int .i64 ((ρ.files.getD i default).sure : Nat)]) ∧ HoldX h w (ρ.files.getD i default).b := by
  obtain ⟨o, ep, j, w, q1, q2, q3, q4, q5, q6, -⟩ := a.row' hi
  exact ⟨o, ep, j, w, q1, q2, q3, q4, q5, q6⟩
def readX (ρ : RSt) (s : List UInt8) : List UInt8 × Int :=
  if ρ.dead then ([], 9) else if findL ρ.now s < 0 then ([], 6) else ((ρ.files.getD (findL ρ.now s).toNat default).b, 0)
theorem readR_fun (hP : DkP P) (s : List UInt8) (h : Heap) (x : Nat) (ρ : RSt) (y : RLay) (hx : RefAt h x ρ y) (hI : Idx ρ) (hl : ρ.now.length ≤ 100000000) (hfl : ρ.files.length ≤ 100000000) :
    Fun P 27 [.ptr x 0, strv s] h (fun v h' => (∃ w, v = .tup [w, .int .i64 (readX ρ s).2] ∧ HoldX h w (readX ρ s).1) ∧ h' = h) := by
  have hg := hx.cell
  simp only [RSt.cells] at hg
  have nev := hx.now.ev
  have ndt := hx.now.dt
  have nil : HoldX h .nils [] := Or.inl ⟨true, false, rfl⟩
  refine Fun.of (code := a27c) (hP.code rfl) (by rw [hP.pure]; rfl) ?_
  simp (disch := omega) only [go_sem, a27c, a27r0]
  simp (disch := omega) only [go_sem, a27r1, hg]
  unfold readX
  cases hd : ρ.dead with
  | true =>
    simp (disch := omega) only [go_sem]
    simp (disch := omega) only [go_sem, a27r2]
    exact ⟨⟨_, rfl, nil⟩, by trivial⟩
  | false =>
    rw [hd] at hg
    simp (disch := omega) only [go_sem]
    simp (disch := omega) only [go_sem, a27r3, hg, nev, ndt]
    refine WO.fun (vs := [y.nv, strv s]) (by simp (disch := omega) only [go_sem, nev, ndt]) (find_fun hP ρ.now s y.nv h hx.now.1 (by omega)) (fun r h' hr => ?_)
    obtain ⟨rfl, rfl⟩ := hr
    simp (disch := omega) only [go_sem]
    simp (disch := omega) only [go_sem, a27r4]
    refine condS_if (fun c => ?_) (fun c => ?_)
    · simp (disch := omega) only [go_sem, a27r5]
      rw [if_pos c]
      exact ⟨⟨_, rfl, nil⟩, by trivial⟩
    · obtain ⟨i, hi, ei⟩ := hI.find (s := s) (by omega)
      rw [ei]
      obtain ⟨o, ep, j, w, q1, q2, q3, q4, q5, q6⟩ := hx.row hi
      have wev := q6.ev
      have wdt := q6.dt
      rw [q1] at hg
      simp (disch := omega) only [go_sem, a27r6, hg, q2, q3, wev, wdt]
      rw [if_neg (show ¬ ((i : Int) < 0) by omega)]
      exact ⟨⟨_, rfl, q6⟩, by trivial⟩
def usedX (ρ : RSt) : Nat := (ρ.now.map fun e => (ρ.files.getD e.n.toNat default).b.length).sum
theorem usedR_fun (hP : DkP P) (h : Heap) (x : Nat) (ρ : RSt) (y : RLay) (hx : RefAt h x ρ y) (hI : Idx ρ) (hl : ρ.now.length ≤ 100000000) (hfl : ρ.files.length ≤ 100000000) (hu : usedX ρ ≤ 4000000000000000000) :
    Fun P 58 [.ptr x 0] h (fun v h' => v = .int .i64 (usedX ρ) ∧ h' = h) := by
  have hg := hx.cell
  simp only [RSt.cells] at hg
  have nev := hx.now.ev
  have ndt := hx.now.dt
  have nln := hx.now.len
  have ntg := hx.now.tag
  refine Fun.of (code := a58c) (hP.code rfl) (by rw [hP.pure]; rfl) ?_
  simp (disch := omega) only [go_sem, a58c, a58r0]
  simp (disch := omega) only [go_sem, a58r1]
  simp (disch := omega) only [go_sem, a58r2]
  refine Wp_loop (fun z : Nat × Nat => z.2 ≤ ρ.now.length) (fun (t, k) => { fr := [(0, .ptr x 0), (3, .int .i64 (((ρ.now.take k).map fun e => (ρ.files.getD e.n.toNat default).b.length).sum : Nat)), (4, .int .i64 k)], st := t, h := h }) (fun z => ρ.now.length - z.2) (0, 0) rfl (Nat.zero_le _) ?_
  rintro ⟨t, k⟩ i1
  simp only at i1
  simp (disch := omega) only [go_sem, a58l0, a58r3, hg, nev, ndt, nln, ntg, cond_true]
  refine condS_if (fun c => ?_) (fun c => ?_)
  · have hk : k < ρ.now.length := by omega
    have hne : ρ.now ≠ [] := fun e => by rw [e] at hk; simp at hk
    obtain ⟨o, ep, j, hnv, hrow⟩ := hx.now.1.resolve_left (fun e => hne e.2)
    have hcs : Cel.csz REnt = 2 := rfl
    obtain ⟨b, hb⟩ : ∃ b, ρ.now.getD k default = b := ⟨_, rfl⟩
    obtain ⟨b1, b2, b3⟩ := take_snoc hk hb
    have ce : Cel.ccells b = [strv b.s, .int .i64 b.n] := rfl
    have l1 := ld_pre1 (α := REnt) (l := ρ.now) (j := j) (k := k) (f := 1) hk (by decide)
    rw [hcs, hb, ce] at l1
    simp only [Nat.add_zero, List.getD_cons_zero, List.getD_cons_succ] at l1
    rw [hcs] at hrow hnv
    have hbi := hI b b3
    obtain ⟨i, hi⟩ : ∃ i : Nat, b.n = (i : Int) := ⟨b.n.toNat, by omega⟩
    obtain ⟨o', ep', j', w, q1, q2, q3, q4, q5, q6⟩ := hx.row (i := i) (by omega)
    have wev := q6.ev
    have wdt := q6.dt
    have wln := q6.len
    have wtg := q6.tag
    rw [hi] at l1
    rw [q1, hnv] at hg
    have hsm : ((ρ.now.take k).map fun e => (ρ.files.getD e.n.toNat default).b.length).sum + (ρ.files.getD i default).b.length = ((ρ.now.take (k + 1)).map fun e => (ρ.files.getD e.n.toNat default).b.length).sum := by
      rw [b1, List.map_append, List.sum_append]
      simp [hi]
    have hle : ((ρ.now.take (k + 1)).map fun e => (ρ.files.getD e.n.toNat default).b.length).sum ≤ usedX ρ := by
      have : ρ.now = ρ.now.take (k + 1) ++ ρ.now.drop (k + 1) := (List.take_append_drop _ _).symm
      unfold usedX
      conv => rhs; rw [this, List.map_append, List.sum_append]
      omega
    obtain ⟨S, hS⟩ : ∃ S, ((ρ.now.take k).map fun e => (ρ.files.getD e.n.toNat default).b.length).sum = S := ⟨_, rfl⟩
    rw [hS] at hsm ⊢
    simp (disch := omega) only [go_sem, a58d4, hg, hrow, l1, q2, q3, wev, wdt, wln, wtg, cond_true]
    simp (disch := omega) only [go_sem, a58r5]
    exact ⟨(t + 1, k + 1), by simp only; omega, by simp only; omega, by simp only [← hsm]; rfl⟩
  · simp (disch := omega) only [go_sem, a58r6]
    rw [List.take_of_length_le (by omega)]
    exact ⟨rfl, trivial⟩
end Go.Am.Dk
/- The document's disk, any: the calls that change. -/
namespace Go.Am.Dk
open Go.Am
set_option maxRecDepth 20000
set_option maxHeartbeats 2000000
variable {P : Prog}
theorem beginR_all (ρ : RSt) : (beginR ρ).2.files = ρ.files ∧ (beginR ρ).2.now = ρ.now ∧ (beginR ρ).2.sure = ρ.sure ∧ (beginR ρ).2.waits = ρ.waits ∧ (beginR ρ).2.cap = ρ.cap ∧ (beginR ρ).2.e = ρ.e := by
  unfold beginR
  split
  · exact ⟨rfl, rfl, rfl, rfl, rfl, rfl⟩
  · split
    · exact ⟨rfl, rfl, rfl, rfl, rfl, rfl⟩
    · split <;> exact ⟨rfl, rfl, rfl, rfl, rfl, rfl⟩
structure ROk (ρ : RSt) : Prop where
  idx : Idx ρ
  nl : ρ.now.length ≤ 10000000
  fl : ρ.files.length ≤ 10000000
  wl : ρ.waits.length ≤ 10000000
  calls : I62 ρ.calls
  fuse : I62 ρ.fuse
  fault : I62 ρ.fault
  cap : 0 ≤ ρ.cap ∧ ρ.cap ≤ 1048576
  used : usedX ρ ≤ 1000000000000
  bl : ∀ i, i < ρ.files.length → (ρ.files.getD i default).b.length ≤ 1000000000000
def syncDirX (ρ : RSt) : Int × RSt := if (beginR ρ).1 ≠ 0 then beginR ρ else (0, { (beginR ρ).2 with sure := ρ.now, waits := [] })
theorem syncDirR_fun (hP : DkP P) (h : Heap) (x : Nat) (ρ : RSt) (y : RLay) (hx : RefAt h x ρ y) (hk : ROk ρ) : Fun P 43 [.ptr x 0] h (fun v h' => v = .int .i64 (syncDirX ρ).1 ∧ ∃ y', RefAt h' x (syncDirX ρ).2 y' ∧ RStep h h' x y y') := by
  obtain ⟨b1, b2, b3, b4, b5, b6⟩ := beginR_all ρ
  refine Fun.of (code := a43c) (hP.code rfl) (by rw [hP.pure]; rfl) ?_
  simp (disch := omega) only [go_sem, a43c, a43r0]
  simp (disch := omega) only [go_sem, a43r1]
  refine WO.fun (vs := [.ptr x 0]) (by simp (disch := omega) only [go_sem]) (beginRR_fun hP h x ρ y hx hk.calls hk.fuse hk.fault) (fun v h1 hv => ?_)
  obtain ⟨rfl, hx1, ho1, -⟩ := hv
  simp (disch := omega) only [go_sem]
  simp (disch := omega) only [go_sem, a43r2]
  unfold syncDirX
  refine condS_if (fun c => ?_) (fun c => ?_)
  · simp (disch := omega) only [go_sem, a43r3]
    rw [if_pos c]
    exact ⟨by trivial, _, hx1, RStep.same ho1⟩
  · have hg := hx1.cell
    simp only [RSt.cells] at hg
    have nev := hx1.now.ev
    have ndt := hx1.now.dt
    have ncl := hx1.now.cl
    simp (disch := omega) only [go_sem, a43r4, hg, nev, ndt, ncl]
    simp (disch := omega) only [go_sem, a43r5, get_put_same]
    simp (disch := omega) only [go_sem, a43r6]
    rw [if_neg c]
    refine ⟨by trivial, { y with sv := y.nv, wv := .nils }, ?_, ho1.trans ((Only.put _ _ _).trans (Only.put _ _ _)), fun o ho => ?_⟩
    rotate_left
    · rcases ho with ho | ho | ho | ho | ho
      · exact Or.inl (Or.inl ho)
      · exact Or.inl (Or.inr (Or.inl ho))
      · exact Or.inl (Or.inr (Or.inl ho))
      · simp [rowOf] at ho
      · exact Or.inl (Or.inr (Or.inr (Or.inr (Or.inr ho))))
    refine RefAt.set (get_put_same _ _ _) hx1.lt { (beginR ρ).2 with sure := ρ.now, waits := [] } { y with sv := y.nv, wv := .nils } ?_ hx1.len (fun i hi => ⟨?_, (hx1.hold i hi).2⟩) ?_ ?_ (Has.nil _)
    all_goals have hk : ∀ o, o ≠ x → (h1.put x (.cells [y.fv, y.nv, y.nv, y.wv, .int .i64 (beginR ρ).2.cap, .bool (beginR ρ).2.dead, .int .i64 (beginR ρ).2.calls, .int .i64 (beginR ρ).2.fuse, .int .i64 (beginR ρ).2.fault, .int .i64 (beginR ρ).2.e])).get o = h1.get o := fun o ho => get_put_ne _ _ _ _ ho
    · exact hx1.files.keep (Nat.le_refl _) (fun o ho => hk o (row_ne hg (hx1.files.row o ho)))
    · exact (hx1.hold i hi).1.ext (Nat.le_refl _) (fun o ho => hk o (row_ne hg ⟨_, ((hx1.hold i hi).1.lt o ho).2⟩))
    · exact hx1.now.keep (Nat.le_refl _) (fun o ho => hk o (row_ne hg (hx1.now.row o ho)))
    · show Has _ y.nv ρ.now
      rw [← b2]
      exact hx1.now.keep (Nat.le_refl _) (fun o ho => hk o (row_ne hg (hx1.now.row o ho)))
def renameX (ρ : RSt) (s t : List UInt8) : Int × RSt :=
  if (beginR ρ).1 ≠ 0 then beginR ρ
  else if findL ρ.now s < 0 then (6, (beginR ρ).2)
  else if nameL t = false then (1, (beginR ρ).2)
  else (0, turnRS (beginR ρ).2 ⟨s, t, -1⟩)
theorem renameRR_fun (hP : DkP P) (s t : List UInt8) (ht : t.length ≤ 1000000000) (h : Heap) (x : Nat) (ρ : RSt) (y : RLay) (hx : RefAt h x ρ y) (hk : ROk ρ) : Fun P 44 [.ptr x 0, strv s, strv t] h (fun v h' => v = .int .i64 (renameX ρ s t).1 ∧ ∃ y', RefAt h' x (renameX ρ s t).2 y' ∧ RStep h h' x y y') := by
  obtain ⟨b1, b2, b3, b4, b5, b6⟩ := beginR_all ρ
  refine Fun.of (code := a44c) (hP.code rfl) (by rw [hP.pure]; rfl) ?_
  simp (disch := omega) only [go_sem, a44c, a44r0]
  simp (disch := omega) only [go_sem, a44r1]
  refine WO.fun (vs := [.ptr x 0]) (by simp (disch := omega) only [go_sem]) (beginRR_fun hP h x ρ y hx hk.calls hk.fuse hk.fault) (fun v h1 hv => ?_)
  obtain ⟨rfl, hx1, ho1, -⟩ := hv
  simp (disch := omega) only [go_sem]
  simp (disch := omega) only [go_sem, a44r2]
  unfold renameX
  refine condS_if (fun c => ?_) (fun c => ?_)
  · simp (disch := omega) only [go_sem, a44r3]
    rw [if_pos c]
    exact ⟨by trivial, _, hx1, RStep.same ho1⟩
  · have hg := hx1.cell
    simp only [RSt.cells] at hg
    have nev := hx1.now.ev
    have ndt := hx1.now.dt
    rw [if_neg c]
    simp (disch := omega) only [go_sem, a44r4, hg, nev, ndt]
    refine WO.fun (vs := [y.nv, strv s]) (by simp (disch := omega) only [go_sem, nev, ndt]) (find_fun hP (beginR ρ).2.now s y.nv h1 hx1.now.1 (by rw [b2]; have := hk.nl; omega)) (fun r h' hr => ?_)
    obtain ⟨rfl, rfl⟩ := hr
    rw [b2]
    simp (disch := omega) only [go_sem]
    refine condS_if (fun c2 => ?_) (fun c2 => ?_)
    · simp (disch := omega) only [go_sem, a44r5]
      rw [if_pos c2]
      exact ⟨by trivial, _, hx1, RStep.same ho1⟩
    · rw [if_neg c2]
      simp (disch := omega) only [go_sem, a44r6]
      refine WO.den (k := 1) (vs := [strv t]) (by rw [hP.pure]; rfl) (by simp (disch := omega) only [go_sem]) (R := fun v => v = .bool (nameL t)) ?_ (fun v hv => by subst hv; rfl) (fun v hv => ?_)
      · simp only [lent_11, List.map_cons, List.map_nil, frz_str]
        exact nameR_exact hP t (by omega)
      subst hv
      cases hn : nameL t with
      | false =>
        simp (disch := omega) only [go_sem]
        simp (disch := omega) only [go_sem, a44r7]
        exact ⟨by trivial, _, hx1, RStep.same ho1⟩
      | true =>
        simp (disch := omega) only [go_sem]
        simp (disch := omega) only [go_sem, a44r8]
        refine WO.fun (vs := [.ptr x 0, .agg [strv s, strv t, .int .i64 (-1)]]) (by simp (disch := omega) only [go_sem]) (turnRR_fun hP ⟨s, t, -1⟩ h' x (beginR ρ).2 y hx1 (by rw [b2]; have := hk.nl; omega) (by rw [b4]; have := hk.wl; omega)) (fun v h2 hv => ?_)
        obtain ⟨y', q1, q2⟩ := hv
        simp (disch := omega) only [go_sem]
        simp (disch := omega) only [go_sem, a44r9]
        exact ⟨by trivial, _, q1, (RStep.same ho1).trans q2⟩
def removeX (ρ : RSt) (s : List UInt8) : Int × RSt :=
  if (beginR ρ).1 ≠ 0 then beginR ρ
  else if findL ρ.now s < 0 then (6, (beginR ρ).2)
  else (0, turnRS (beginR ρ).2 ⟨s, [], -1⟩)
theorem removeRR_fun (hP : DkP P) (s : List UInt8) (h : Heap) (x : Nat) (ρ : RSt) (y : RLay) (hx : RefAt h x ρ y) (hk : ROk ρ) : Fun P 45 [.ptr x 0, strv s] h (fun v h' => v = .int .i64 (removeX ρ s).1 ∧ ∃ y', RefAt h' x (removeX ρ s).2 y' ∧ RStep h h' x y y') := by
  obtain ⟨b1, b2, b3, b4, b5, b6⟩ := beginR_all ρ
  refine Fun.of (code := a45c) (hP.code rfl) (by rw [hP.pure]; rfl) ?_
  simp (disch := omega) only [go_sem, a45c, a45r0]
  simp (disch := omega) only [go_sem, a45r1]
  refine WO.fun (vs := [.ptr x 0]) (by simp (disch := omega) only [go_sem]) (beginRR_fun hP h x ρ y hx hk.calls hk.fuse hk.fault) (fun v h1 hv => ?_)
  obtain ⟨rfl, hx1, ho1, -⟩ := hv
  simp (disch := omega) only [go_sem]
  simp (disch := omega) only [go_sem, a45r2]
  unfold removeX
  refine condS_if (fun c => ?_) (fun c => ?_)
  · simp (disch := omega) only [go_sem, a45r3]
    rw [if_pos c]
    exact ⟨by trivial, _, hx1, RStep.same ho1⟩
  · have hg := hx1.cell
    simp only [RSt.cells] at hg
    have nev := hx1.now.ev
    have ndt := hx1.now.dt
    rw [if_neg c]
    simp (disch := omega) only [go_sem, a45r4, hg, nev, ndt]
    refine WO.fun (vs := [y.nv, strv s]) (by simp (disch := omega) only [go_sem, nev, ndt]) (find_fun hP (beginR ρ).2.now s y.nv h1 hx1.now.1 (by rw [b2]; have := hk.nl; omega)) (fun r h' hr => ?_)
    obtain ⟨rfl, rfl⟩ := hr
    rw [b2]
    simp (disch := omega) only [go_sem]
    refine condS_if (fun c2 => ?_) (fun c2 => ?_)
    · simp (disch := omega) only [go_sem, a45r5]
      rw [if_pos c2]
      exact ⟨by trivial, _, hx1, RStep.same ho1⟩
    · rw [if_neg c2]
      simp (disch := omega) only [go_sem, a45r6]
      refine WO.fun (vs := [.ptr x 0, .agg [strv s, strv [], .int .i64 (-1)]]) (by simp (disch := omega) only [go_sem]) (turnRR_fun hP ⟨s, [], -1⟩ h' x (beginR ρ).2 y hx1 (by rw [b2]; have := hk.nl; omega) (by rw [b4]; have := hk.wl; omega)) (fun v h2 hv => ?_)
      obtain ⟨y', q1, q2⟩ := hv
      simp (disch := omega) only [go_sem]
      simp (disch := omega) only [go_sem, a45r7]
      exact ⟨by trivial, _, q1, (RStep.same ho1).trans q2⟩
end Go.Am.Dk
/- The document's disk, any: Create, Sync, Append, SetFault. -/
namespace Go.Am.Dk
open Go.Am
set_option maxRecDepth 20000
set_option maxHeartbeats 2000000
variable {P : Prog}
def createX (ρ : RSt) (s : List UInt8) : Int × RSt :=
  if (beginR ρ).1 ≠ 0 then beginR ρ
  else if nameL s = false then (1, (beginR ρ).2)
  else if 0 ≤ findL ρ.now s then (7, (beginR ρ).2)
  else if 64 ≤ ρ.now.length then (8, (beginR ρ).2)
  else (0, turnRS { (beginR ρ).2 with files := ρ.files ++ [⟨[], 0⟩] } ⟨[], s, ρ.files.length⟩)
theorem createRR_fun (hP : DkP P) (s : List UInt8) (hs : s.length ≤ 1000000000) (h : Heap) (x : Nat) (ρ : RSt) (y : RLay) (hx : RefAt h x ρ y) (hk : ROk ρ) : Fun P 40 [.ptr x 0, strv s] h (fun v h' => v = .int .i64 (createX ρ s).1 ∧ ∃ y', RefAt h' x (createX ρ s).2 y' ∧ RStep h h' x y y') := by
  obtain ⟨b1, b2, b3, b4, b5, b6⟩ := beginR_all ρ
  refine Fun.of (code := a40c) (hP.code rfl) (by rw [hP.pure]; rfl) ?_
  simp (disch := omega) only [go_sem, a40c, a40r0]
  simp (disch := omega) only [go_sem, a40r1]
  refine WO.fun (vs := [.ptr x 0]) (by simp (disch := omega) only [go_sem]) (beginRR_fun hP h x ρ y hx hk.calls hk.fuse hk.fault) (fun v h1 hv => ?_)
  obtain ⟨rfl, hx1, ho1, -⟩ := hv
  simp (disch := omega) only [go_sem]
  simp (disch := omega) only [go_sem, a40r2]
  unfold createX
  refine condS_if (fun c => ?_) (fun c => ?_)
  · simp (disch := omega) only [go_sem, a40r3]
    rw [if_pos c]
    exact ⟨by trivial, _, hx1, RStep.same ho1⟩
  have hg := hx1.cell
  simp only [RSt.cells] at hg
  have nev := hx1.now.ev
  have ndt := hx1.now.dt
  have nln := hx1.now.len
  have ntg := hx1.now.tag
  rw [b2] at nln
  rw [if_neg c]
  simp (disch := omega) only [go_sem, a40r4]
  refine WO.den (k := 1) (vs := [strv s]) (by rw [hP.pure]; rfl) (by simp (disch := omega) only [go_sem]) (R := fun v => v = .bool (nameL s)) ?_ (fun v hv => by subst hv; rfl) (fun v hv => ?_)
  · simp only [lent_11, List.map_cons, List.map_nil, frz_str]
    exact nameR_exact hP s (by omega)
  subst hv
  cases hn : nameL s with
  | false =>
    simp (disch := omega) only [go_sem]
    simp (disch := omega) only [go_sem, a40r5]
    exact ⟨by trivial, _, hx1, RStep.same ho1⟩
  | true =>
    simp (disch := omega) only [go_sem]
    simp (disch := omega) only [go_sem, a40r6, hg, nev, ndt]
    refine WO.fun (vs := [y.nv, strv s]) (by simp (disch := omega) only [go_sem, nev, ndt]) (find_fun hP (beginR ρ).2.now s y.nv h1 hx1.now.1 (by rw [b2]; have := hk.nl; omega)) (fun r h' hr => ?_)
    obtain ⟨rfl, rfl⟩ := hr
    have e2 : findL (beginR ρ).2.now s = findL ρ.now s := by rw [b2]
    rw [e2]
    have et : ¬ (true = false) := by simp
    rw [if_neg et]
    simp (disch := omega) only [go_sem]
    refine condS_if (fun c2 => ?_) (fun c2 => ?_)
    · simp (disch := omega) only [go_sem, a40r7]
      rw [if_pos c2]
      exact ⟨by trivial, _, hx1, RStep.same ho1⟩
    rw [if_neg c2]
    simp (disch := omega) only [go_sem, a40r8, hg, nev, ndt, nln, ntg, cond_true]
    refine condS_if (fun c3 => ?_) (fun c3 => ?_)
    · simp (disch := omega) only [go_sem, a40r9]
      rw [if_pos (by omega)]
      exact ⟨by trivial, _, hx1, RStep.same ho1⟩
    rw [if_neg (by omega)]
    have fev := hx1.files.ev
    have fdt := hx1.files.dt
    have xlt := hx1.lt
    have hlen : y.rfs.length = ρ.files.length := by rw [hx1.len, b1]
    have hfl := hk.fl
    have L0 := Loc.mk0 (α := RFile) h' 2 2 rfl
    have hg1 := (L0.2.2.2 x xlt).trans hg
    simp (disch := omega) only [go_sem, a40r10, hg1, fev, fdt]
    refine stepP_app (α := RFile) (bytes := 32) (l := []) (new := y.rfs) L0.1.1 (addsC_pre (hx1.files.ext L0.2.2).1) rfl (by simp [two47]; omega) (fun v1 h3 hr3 hn3 ho3 hf3 hnn => ?_)
    have n3 : h3.next = h'.next + 3 := hn3
    have L1 := L0.stepR (by show h'.next ≤ h'.next + 1 ∧ h'.next + 1 < h'.next + 3; omega) hr3 hn3 ho3 hf3
    rw [List.nil_append] at L1
    have ev1 := L1.1.ev
    have dt1 := L1.1.dt
    simp (disch := omega) only [go_sem, ev1, dt1]
    refine stepP_app (α := RFile) (bytes := 32) (l := y.rfs) (new := [⟨.nils, 0⟩]) L1.1.1 (addsC_one _ _ _ _ rfl) rfl (by simp [two47]; omega) (fun v2 h4 hr4 hn4 ho4 hf4 hnn => ?_)
    have L2 := L1.stepR (by omega) hr4 hn4 ho4 hf4
    have ev2 := L2.1.ev
    have dt2 := L2.1.dt
    have cl2 := L2.1.cl
    have hx4 := hx1.ext L2.2.2
    have hg4 := (L2.2.2.2 x xlt).trans hg
    simp (disch := omega) only [go_sem, ev2, dt2, cl2, hg4]
    have hx5 : RefAt (h4.put x (.cells [v2, y.nv, y.sv, y.wv, .int .i64 (beginR ρ).2.cap, .bool (beginR ρ).2.dead, .int .i64 (beginR ρ).2.calls, .int .i64 (beginR ρ).2.fuse, .int .i64 (beginR ρ).2.fault, .int .i64 (beginR ρ).2.e])) x { (beginR ρ).2 with files := ρ.files ++ [⟨[], 0⟩] } { y with fv := v2, rfs := y.rfs ++ [⟨.nils, 0⟩] } := by
      refine RefAt.set hg4 hx4.lt { (beginR ρ).2 with files := ρ.files ++ [⟨[], 0⟩] } { y with fv := v2, rfs := y.rfs ++ [⟨.nils, 0⟩] } L2.1 ?_ (fun k hk => ?_) hx4.now hx4.sure hx4.waits
      · show (y.rfs ++ [_]).length = (ρ.files ++ [_]).length
        simp [hlen]
      · have hk' : k < (ρ.files ++ [(⟨[], 0⟩ : FilR)]).length := hk
        rw [List.length_append, List.length_singleton] at hk'
        show HoldX h4 ((y.rfs ++ [(⟨.nils, 0⟩ : RFile)]).getD k default).v ((ρ.files ++ [(⟨[], 0⟩ : FilR)]).getD k default).b ∧ ((y.rfs ++ [(⟨.nils, 0⟩ : RFile)]).getD k default).n = ((ρ.files ++ [(⟨[], 0⟩ : FilR)]).getD k default).sure
        simp only [List.getD_eq_getElem?_getD]
        by_cases e : k < ρ.files.length
        · rw [List.getElem?_append_left (by omega), List.getElem?_append_left e]
          have := hx4.hold k (by rw [b1]; exact e)
          rw [b1] at this
          simpa only [List.getD_eq_getElem?_getD] using this
        · obtain rfl : k = ρ.files.length := by omega
          rw [List.getElem?_append_right (by omega), List.getElem?_append_right (by omega), hlen, Nat.sub_self]
          exact ⟨Or.inl ⟨true, false, rfl⟩, rfl⟩
    have tg2 := L2.1.tag
    have ln2 := L2.1.len
    rw [List.length_append, List.length_singleton, hlen] at ln2
    have e1 : ((ρ.files.length + 1 : Nat) : Int) - 1 = (ρ.files.length : Int) := by omega
    simp (disch := omega) only [go_sem, a40r11, get_put_same, ev2, dt2, tg2, ln2, cond_true, e1]
    refine WO.fun (vs := [.ptr x 0, .agg [strv [], strv s, .int .i64 ρ.files.length]]) (by simp (disch := omega) only [go_sem]) (turnRR_fun hP ⟨[], s, ρ.files.length⟩ _ x _ _ hx5 (by show (beginR ρ).2.now.length ≤ _; rw [b2]; have := hk.nl; omega) (by show (beginR ρ).2.waits.length ≤ _; rw [b4]; have := hk.wl; omega)) (fun v h6 hv => ?_)
    obtain ⟨y', q1, q2⟩ := hv
    simp (disch := omega) only [go_sem]
    simp (disch := omega) only [go_sem, a40r12]
    refine ⟨by trivial, _, q1, RStep.trans (h1 := h4.put x (.cells [v2, y.nv, y.sv, y.wv, .int .i64 (beginR ρ).2.cap, .bool (beginR ρ).2.dead, .int .i64 (beginR ρ).2.calls, .int .i64 (beginR ρ).2.fuse, .int .i64 (beginR ρ).2.fault, .int .i64 (beginR ρ).2.e])) ⟨(ho1.trans (Only.of_ext L2.2.2)).trans (Only.put _ _ _), fun o ho => ?_⟩ q2⟩
    have ho1n := ho1.1
    rcases ho with ho | ho | ho | ho | ⟨r, hr, ho⟩
    · exact Or.inr (by have := L2.2.1 o ho; omega)
    · exact Or.inl (Or.inr (Or.inl ho))
    · exact Or.inl (Or.inr (Or.inr (Or.inl ho)))
    · exact Or.inl (Or.inr (Or.inr (Or.inr (Or.inl ho))))
    · rcases List.mem_append.1 hr with hr | hr
      · exact Or.inl (Or.inr (Or.inr (Or.inr (Or.inr ⟨r, hr, ho⟩))))
      · rw [List.mem_singleton.1 hr] at ho
        simp [rowOf] at ho
def syncX (ρ : RSt) (s : List UInt8) : Int × RSt :=
  if (beginR ρ).1 ≠ 0 then beginR ρ
  else if findL ρ.now s < 0 then (6, (beginR ρ).2)
  else (0, withRS (beginR ρ).2 (findL ρ.now s).toNat ⟨(ρ.files.getD (findL ρ.now s).toNat default).b, (ρ.files.getD (findL ρ.now s).toNat default).b.length⟩)
theorem syncRR_fun (hP : DkP P) (s : List UInt8) (h : Heap) (x : Nat) (ρ : RSt) (y : RLay) (hx : RefAt h x ρ y) (hk : ROk ρ) : Fun P 42 [.ptr x 0, strv s] h (fun v h' => v = .int .i64 (syncX ρ s).1 ∧ ∃ y', RefAt h' x (syncX ρ s).2 y' ∧ RStep h h' x y y') := by
  obtain ⟨b1, b2, b3, b4, b5, b6⟩ := beginR_all ρ
  refine Fun.of (code := a42c) (hP.code rfl) (by rw [hP.pure]; rfl) ?_
  simp (disch := omega) only [go_sem, a42c, a42r0]
  simp (disch := omega) only [go_sem, a42r1]
  refine WO.fun (vs := [.ptr x 0]) (by simp (disch := omega) only [go_sem]) (beginRR_fun hP h x ρ y hx hk.calls hk.fuse hk.fault) (fun v h1 hv => ?_)
  obtain ⟨rfl, hx1, ho1, -⟩ := hv
  simp (disch := omega) only [go_sem]
  simp (disch := omega) only [go_sem, a42r2]
  unfold syncX
  refine condS_if (fun c => ?_) (fun c => ?_)
  · simp (disch := omega) only [go_sem, a42r3]
    rw [if_pos c]
    exact ⟨by trivial, _, hx1, RStep.same ho1⟩
  have hg := hx1.cell
  simp only [RSt.cells] at hg
  have nev := hx1.now.ev
  have ndt := hx1.now.dt
  rw [if_neg c]
  simp (disch := omega) only [go_sem, a42r4, hg, nev, ndt]
  refine WO.fun (vs := [y.nv, strv s]) (by simp (disch := omega) only [go_sem, nev, ndt]) (find_fun hP (beginR ρ).2.now s y.nv h1 hx1.now.1 (by rw [b2]; have := hk.nl; omega)) (fun r h' hr => ?_)
  obtain ⟨rfl, rfl⟩ := hr
  rw [b2]
  simp (disch := omega) only [go_sem]
  simp (disch := omega) only [go_sem, a42r5]
  refine condS_if (fun c2 => ?_) (fun c2 => ?_)
  · simp (disch := omega) only [go_sem, a42r6]
    rw [if_pos c2]
    exact ⟨by trivial, _, hx1, RStep.same ho1⟩
  rw [if_neg c2]
  obtain ⟨i, hi, ei⟩ := hk.idx.find (s := s) (by omega)
  have hfl := hk.fl
  have hbl := hk.bl i hi
  rw [ei, Int.toNat_natCast]
  obtain ⟨o, ep, j, w, q1, q2, q3, q4, q5, q6, q7⟩ := hx1.row' (i := i) (by rw [b1]; exact hi)
  have wev := q6.ev
  have wdt := q6.dt
  have wln := q6.len
  have wtg := q6.tag
  have wcl := q6.cl
  rw [b1] at q1 wln q6
  rw [q1] at hg
  simp (disch := omega) only [go_sem, a42d7, hg, q2, q3, wev, wdt, wln, wtg, wcl, cond_true]
  refine WD_fun (vs := [.ptr x 0, .int .i64 i, .agg [w, .int .i64 (ρ.files.getD i default).b.length]]) (by simp (disch := omega) only [go_sem, wev, wdt]) (withR_fun hP i w ⟨(ρ.files.getD i default).b, (ρ.files.getD i default).b.length⟩ h' x _ y hx1 (by rw [b1]; exact hi) (by rw [b1]; omega) q6) (fun v h2 hv => rfl) (fun v h2 hv => ?_)
  obtain ⟨y', r1, r2, r3⟩ := hv
  simp (disch := omega) only [go_sem]
  simp (disch := omega) only [go_sem, a42r8]
  have ho1n := ho1.1
  have hlen := hx1.len
  rw [b1] at hlen
  refine ⟨by trivial, y', r1, ho1.trans r2, fun o' ho => ?_⟩
  rcases r3 o' ho with h3 | h3 | h3
  · exact Or.inl h3
  · exact Or.inr (by omega)
  · refine Or.inl (Or.inr (Or.inr (Or.inr (Or.inr ⟨y.rfs.getD i default, ?_, by rw [q7]; exact h3⟩))))
    rw [List.getD_eq_getElem?_getD, List.getElem?_eq_getElem (show i < y.rfs.length by omega)]
    exact List.getElem_mem _
end Go.Am.Dk
/- The document's disk, any: Append, SetFault. -/
namespace Go.Am.Dk
open Go.Am
set_option maxRecDepth 20000
set_option maxHeartbeats 2000000
variable {P : Prog}
theorem HoldX.adds {h h' : Heap} {v : AV} {l : List UInt8} (a : HoldX h v l) (hk : ∀ o, rowOf v = some o → h'.get o = h.get o) : AddsC h' v l := by
  rcases a with ⟨n, full, rfl⟩ | ⟨o, ep, l', rfl, h1, h2, h3⟩
  · exact adds_slv h' n full l
  · have hl : l.length ≤ l'.length := by
      have := congrArg List.length h3
      rw [List.length_take] at this; omega
    have h4 := addsC_sub (α := UInt8) (h := h') (o := o) (ep := ep) (a := 0) (m := l.length) (full := false) (l := l') (j := []) (by rw [List.append_nil]; exact (hk o rfl).trans h2) (by omega)
    rw [List.drop_zero, ← h3] at h4
    exact h4
theorem HoldX.look {h : Heap} {v : AV} {l : List UInt8} (a : HoldX h v l) : lookE 40 (some v) (some v) = true := by
  rcases a with ⟨n, full, rfl⟩ | ⟨o, ep, l', rfl, h1, h2, h3⟩
  · exact lookE_slv _ _ _
  · exact eqAV_hs 39 _ _ _ _ _ _
theorem dSC_appC {α : Type} [Cel α] {base st0 : Nat} {all : List DItem} {live : List Nat} {Q : AExit → St → Prop} {s : St} {fr : Fr} {st : Nat} {h : Heap} {o' e bytes : Nat} {v y : AV} {l new : List α} {d : Option Nat} {r : List DItem} {ch : List Nat} (hr : RowC h v l) (hy : AddsC h y new) (he : Cel.csz α = e) (hb : (l.length + new.length) * bytes ≤ two47)
    (hl : ∀ v' h', RowC h' v' (l ++ new) → h'.next = h.next → (rowOf v' = rowOf v ∨ rowOf v' = some o') → (∀ q, q ≠ o' → rowOf v ≠ some q → h'.get q = h.get q) → looks base st0 all { fr := setD s.fr d v', st := s.st, h := h' } ch = true)
    (H : ∀ v' h', RowC h' v' (l ++ new) → h'.next = h.next → (rowOf v' = rowOf v ∨ rowOf v' = some o') → (∀ q, q ≠ o' → rowOf v ≠ some q → h'.get q = h.get q) → WD P base st0 all r live { fr := setD s.fr d v', st := s.st, h := h' } Q) :
    dS P base st0 all (appA { fr := fr, st := st, h := h } o' e bytes v y) d ch r live s Q := by
  obtain ⟨v', h', e1, e2, e3, e4, e5⟩ := appC_row (s := { fr := fr, st := st, h := h }) (o' := o') hr hy he hb
  rw [e1]
  exact ⟨hl v' h' e2 e3 e4 e5, H v' h' e2 e3 e4 e5⟩
def appendX (ρ : RSt) (s b : List UInt8) : Int × RSt :=
  if (beginR ρ).1 ≠ 0 then beginR ρ
  else if findL ρ.now s < 0 then (6, (beginR ρ).2)
  else if ρ.cap - usedX ρ < b.length then (8, (beginR ρ).2)
  else (0, withRS (beginR ρ).2 (findL ρ.now s).toNat ⟨(ρ.files.getD (findL ρ.now s).toNat default).b ++ b, (ρ.files.getD (findL ρ.now s).toNat default).sure⟩)
theorem appendRR_fun (hP : DkP P) (s b : List UInt8) (bn full : Bool) (hb : b.length ≤ 1000000000) (h : Heap) (x : Nat) (ρ : RSt) (y : RLay) (hx : RefAt h x ρ y) (hk : ROk ρ) : Fun P 41 [.ptr x 0, strv s, slv bn full b] h (fun v h' => v = .int .i64 (appendX ρ s b).1 ∧ ∃ y', RefAt h' x (appendX ρ s b).2 y' ∧ RStep h h' x y y') := by
  obtain ⟨b1, b2, b3, b4, b5, b6⟩ := beginR_all ρ
  refine Fun.of (code := a41c) (hP.code rfl) (by rw [hP.pure]; rfl) ?_
  simp (disch := omega) only [go_sem, a41c, a41r0]
  simp (disch := omega) only [go_sem, a41r1]
  refine WO.fun (vs := [.ptr x 0]) (by simp (disch := omega) only [go_sem]) (beginRR_fun hP h x ρ y hx hk.calls hk.fuse hk.fault) (fun v h1 hv => ?_)
  obtain ⟨rfl, hx1, ho1, -⟩ := hv
  simp (disch := omega) only [go_sem]
  simp (disch := omega) only [go_sem, a41r2]
  unfold appendX
  refine condS_if (fun c => ?_) (fun c => ?_)
  · simp (disch := omega) only [go_sem, a41r3]
    rw [if_pos c]
    exact ⟨by trivial, _, hx1, RStep.same ho1⟩
  have hg := hx1.cell
  simp only [RSt.cells] at hg
  have nev := hx1.now.ev
  have ndt := hx1.now.dt
  rw [if_neg c]
  simp (disch := omega) only [go_sem, a41r4, hg, nev, ndt]
  refine WO.fun (vs := [y.nv, strv s]) (by simp (disch := omega) only [go_sem, nev, ndt]) (find_fun hP (beginR ρ).2.now s y.nv h1 hx1.now.1 (by rw [b2]; have := hk.nl; omega)) (fun r h' hr => ?_)
  obtain ⟨rfl, rfl⟩ := hr
  have e2 : findL (beginR ρ).2.now s = findL ρ.now s := by rw [b2]
  rw [e2]
  simp (disch := omega) only [go_sem]
  simp (disch := omega) only [go_sem, a41r5]
  refine condS_if (fun c2 => ?_) (fun c2 => ?_)
  · simp (disch := omega) only [go_sem, a41r6]
    rw [if_pos c2]
    exact ⟨by trivial, _, hx1, RStep.same ho1⟩
  rw [if_neg c2]
  obtain ⟨i, hi, ei⟩ := hk.idx.find (s := s) (by omega)
  have hfl := hk.fl
  have hbl := hk.bl i hi
  have hcp := hk.cap
  have hus := hk.used
  rw [ei, Int.toNat_natCast]
  have hu1 : usedX (beginR ρ).2 = usedX ρ := by unfold usedX; rw [b1, b2]
  rw [b5] at hg
  simp (disch := omega) only [go_sem, a41d7, hg]
  refine WD_fun (vs := [.ptr x 0]) (by simp (disch := omega) only [go_sem]) (usedR_fun hP h' x (beginR ρ).2 y hx1 (by unfold Idx; rw [b1, b2]; exact hk.idx) (by rw [b2]; have := hk.nl; omega) (by rw [b1]; omega) (by rw [hu1]; omega)) (fun v h2 hv => ?_) (fun v h2 hv => ?_)
  · obtain ⟨rfl, rfl⟩ := hv
    simp (disch := omega) only [go_sem, hg]
  obtain ⟨rfl, rfl⟩ := hv
  rw [hu1]
  simp (disch := omega) only [go_sem]
  refine condS_if (fun c3 => ?_) (fun c3 => ?_)
  · simp (disch := omega) only [go_sem, a41r8]
    rw [if_pos c3]
    exact ⟨by trivial, _, hx1, RStep.same ho1⟩
  rw [if_neg c3]
  obtain ⟨o, ep, j, w, q1, q2, q3, q4, q5, q6⟩ := hx1.row (i := i) (by rw [b1]; exact hi)
  have wev := q6.ev
  have wdt := q6.dt
  have wcl := q6.cl
  have wlk := q6.look
  rw [b1] at q1 q4 q5 q6
  have L0 := Loc.mk0 (α := UInt8) h2 2 1 rfl
  have xlt := hx1.lt
  have olt : o < h2.next := hx1.files.2 o (by rw [q1]; rfl)
  rw [q1] at hg
  have hg1 : ((h2.reserve 3).put h2.next (.row 1 0 [])).get x = _ := (L0.2.2.2 x xlt).trans hg
  have hq1 : ((h2.reserve 3).put h2.next (.row 1 0 [])).get o = _ := (L0.2.2.2 o olt).trans q2
  have lkh : ∀ a b c d e f, lookE 40 (some (.hs a b c d e f)) (some (.hs a b c d e f)) = true := fun a b c d e f => eqAV_hs 39 a b c d e f
  have lke : ∀ a b c, lookE 40 (some (.eptr a b c)) (some (.eptr a b c)) = true := fun a b c => by
    show (Nat.beq a a && Nat.beq b b && Nat.beq c c) = true
    simp
  simp (disch := omega) only [go_sem, a41d9, get_reserve, hg, q2, q3, q4, wev, wdt]
  refine ⟨by simp (disch := omega) only [go_sem, hg1, hq1, q3, q4, wev, wdt, lkh, lke, wlk], ?_⟩
  simp (disch := omega) only [go_sem, wev, wdt]
  have R0 : RowC ((h2.reserve 3).put h2.next (.row 1 0 [])) (.hs 1 h2.next 0 0 0 false) ([] : List UInt8) := Or.inr ⟨h2.next, 0, rfl, get_put_same _ _ _⟩
  refine dSC_appC (α := UInt8) (bytes := 1) (l := []) (new := (ρ.files.getD i default).b) R0 (q6.adds (fun o ho => L0.2.2.2 o (q6.lt o ho).1)) rfl (by simp only [two47, List.length_nil]; omega) (fun v1 h3 hr3 hn3 ho3 hf3 => ?_) (fun v1 h3 hr3 hn3 ho3 hf3 => ?_)
  · have hg3 : h3.get x = _ := (hf3 x (by omega) (by simp only [rowOf, ne_eq, Option.some.injEq]; omega)).trans hg1
    have hq3 : h3.get o = _ := (hf3 o (by omega) (by simp only [rowOf, ne_eq, Option.some.injEq]; omega)).trans hq1
    simp (disch := omega) only [go_sem, hg3, hq3, q3, q4, wev, wdt, lkh, lke, wlk]
  have n3 : h3.next = h2.next + 3 := hn3
  have L1 := L0.stepR (by show h2.next ≤ h2.next + 1 ∧ h2.next + 1 < h2.next + 3; omega) hr3.pre hn3 ho3 hf3
  have hg3 : h3.get x = _ := (L1.2.2.2 x xlt).trans hg
  have hq3 : h3.get o = _ := (L1.2.2.2 o olt).trans q2
  have ev1 := L1.1.ev
  have dt1 := L1.1.dt
  simp (disch := omega) only [go_sem, ev1, dt1]
  refine dSC_appC (α := UInt8) (bytes := 1) (l := [] ++ (ρ.files.getD i default).b) (new := b) hr3 (adds_slv _ _ _ _) rfl (by simp only [two47, List.nil_append]; omega) (fun v2 h4 hr4 hn4 ho4 hf4 => ?_) (fun v2 h4 hr4 hn4 ho4 hf4 => ?_)
  · have L2 := L1.stepR (by omega) hr4.pre hn4 ho4 hf4
    have hg4 : h4.get x = _ := (L2.2.2.2 x xlt).trans hg
    have hq4 : h4.get o = _ := (L2.2.2.2 o olt).trans q2
    simp (disch := omega) only [go_sem, hg4, hq4, q3, q4, wev, wdt, lkh, lke, wlk]
  have L2 := L1.stepR (by omega) hr4.pre hn4 ho4 hf4
  rw [List.nil_append] at L2 hr4
  have ev2 := L2.1.ev
  have dt2 := L2.1.dt
  have cl2 := L2.1.cl
  have hx4 := hx1.ext L2.2.2
  have hx5 : HoldX h4 v2 ((ρ.files.getD i default).b ++ b) := by
    rcases hr4 with ⟨e1, e3⟩ | ⟨o', ep', e1, e3⟩
    · exact Or.inl ⟨true, false, by rw [e1, e3]; rfl⟩
    · refine Or.inr ⟨o', ep', _, e1, L2.1.2 o' (by rw [e1]; rfl), e3, ?_⟩
      rw [List.take_length]
  simp (disch := omega) only [go_sem, ev2, dt2, cl2]
  refine WD_fun (vs := [.ptr x 0, .int .i64 i, .agg [v2, .int .i64 (ρ.files.getD i default).sure]]) (by simp (disch := omega) only [go_sem, ev2, dt2]) (withR_fun hP i v2 ⟨(ρ.files.getD i default).b ++ b, (ρ.files.getD i default).sure⟩ h4 x _ y hx4 (by rw [b1]; exact hi) (by rw [b1]; omega) hx5) (fun v h5 hv => rfl) (fun v h5 hv => ?_)
  obtain ⟨y', r1, r2, r3⟩ := hv
  simp (disch := omega) only [go_sem]
  simp (disch := omega) only [go_sem, a41r10]
  have ho1n := ho1.1
  have h4n := L2.2.2.1
  refine ⟨by trivial, y', r1, (ho1.trans (Only.of_ext L2.2.2)).trans r2, fun o' ho => ?_⟩
  rcases r3 o' ho with h3 | h3 | h3
  · exact Or.inl h3
  · exact Or.inr (by omega)
  · exact Or.inr (by have := L2.2.1 o' h3; omega)
end Go.Am.Dk
/- The document's disk, any: SetFault; files without a name are gone. -/
namespace Go.Am.Dk
open Go.Am
set_option maxRecDepth 20000
set_option maxHeartbeats 2000000
variable {P : Prog}
def faultX (ρ : RSt) (n e : Int) : RSt := { ρ with fault := if e = 0 ∨ e = 9 then 0 else armS n, e := e }
theorem faultRR_fun (hP : DkP P) (n e : Int) (h : Heap) (x : Nat) (ρ : RSt) (y : RLay) (hx : RefAt h x ρ y) : Fun P 47 [.ptr x 0, .int .i64 n, .int .i64 e] h (fun v h' => RefAt h' x (faultX ρ n e) y ∧ Only h x h') := by
  have hg := hx.cell
  simp only [RSt.cells] at hg
  refine Fun.of (code := a47c) (hP.code rfl) (by rw [hP.pure]; rfl) ?_
  simp (disch := omega) only [go_sem, a47c, a47r0]
  refine WO.fun (vs := [.int .i64 n]) (by simp (disch := omega) only [go_sem]) (armR_fun hP n h) (fun v h' hv => ?_)
  obtain ⟨rfl, rfl⟩ := hv
  simp (disch := omega) only [go_sem, hg]
  simp (disch := omega) only [go_sem, a47r1, get_put_same]
  simp (disch := omega) only [go_sem, a47r2]
  have fin : ∀ h2 : Heap, h2.get x = some (.cells ((faultX ρ n e).cells y)) → Only h' x h2 → RefAt h2 x (faultX ρ n e) y ∧ Only h' x h2 := fun h2 q1 q2 => ⟨hx.turn q1 q2 rfl rfl rfl rfl, q2⟩
  refine guardS_pf (fun c w => ?_) (fun c w => ?_) <;> simp (disch := omega) only [go_sem, w]
  · refine condS_if (fun c2 => ?_) (fun c2 => ?_)
    · simp (disch := omega) only [go_sem, a47r3, get_put_same]
      exact fin _ (by rw [get_put_same]; simp only [RSt.cells, faultX]; rw [if_pos (Or.inr c2)]) (((Only.put _ _ _).trans (Only.put _ _ _)).trans (Only.put _ _ _))
    · simp (disch := omega) only [go_sem]
      exact fin _ (by rw [get_put_same]; simp only [RSt.cells, faultX]; rw [if_neg (by omega)]) ((Only.put _ _ _).trans (Only.put _ _ _))
  · simp (disch := omega) only [go_sem, a47r3, get_put_same]
    exact fin _ (by rw [get_put_same]; simp only [RSt.cells, faultX]; rw [if_pos (Or.inl c)]) (((Only.put _ _ _).trans (Only.put _ _ _)).trans (Only.put _ _ _))
def goneN (names : List REnt) (i : Nat) (m : Nat) (now : List REnt) : List REnt := names.foldl (fun a e => if e.n = (i : Int) then putL a ⟨e.s, m⟩ else a) now
def hadN (names : List REnt) (i : Nat) : Bool := names.any fun e => decide (e.n = (i : Int))
def goneStep (names : List REnt) (a : List Nat × List REnt) (i : Nat) : List Nat × List REnt := (if hadN names i then a.1 ++ [i] else a.1, goneN names i a.1.length a.2)
def goneF (names : List REnt) (n : Nat) : List Nat × List REnt := (List.range n).foldl (goneStep names) ([], [])
def goneX (ρ : RSt) (names : List REnt) : RSt := { ρ with files := (goneF names ρ.files.length).1.map (fun i => ρ.files.getD i default), now := (goneF names ρ.files.length).2, sure := (goneF names ρ.files.length).2 }
theorem goneF_succ (names : List REnt) (n : Nat) : goneF names (n + 1) = goneStep names (goneF names n) n := by unfold goneF; rw [List.range_succ, List.foldl_append]; rfl
theorem goneF_len (names : List REnt) : ∀ n, (goneF names n).1.length ≤ n
  | 0 => Nat.le_refl _
  | n + 1 => by
    have := goneF_len names n
    rw [goneF_succ, goneStep]
    simp only
    split
    · rw [List.length_append, List.length_singleton]; omega
    · omega
theorem goneF_lt (names : List REnt) : ∀ n, ∀ i ∈ (goneF names n).1, i < n
  | 0, i, h => by simp [goneF] at h
  | n + 1, i, h => by
    rw [goneF_succ, goneStep] at h
    simp only at h
    split at h
    · rcases List.mem_append.1 h with h | h
      · have := goneF_lt names n i h; omega
      · rw [List.mem_singleton.1 h]; omega
    · have := goneF_lt names n i h; omega
theorem putL_len (l : List REnt) (x : REnt) : (putL l x).length ≤ l.length + 1 := by
  have key : ∀ (l : List REnt) (a : List REnt × Bool), (l.foldl (putStep x) a).1.length + (if (l.foldl (putStep x) a).2 then 0 else 1) ≤ a.1.length + (if a.2 then 0 else 1) + l.length := by
    intro l
    induction l with
    | nil => intro a; simp only [List.foldl_nil, List.length_nil, Nat.add_zero]; exact Nat.le_refl _
    | cons e r ih =>
      intro a
      rw [List.foldl_cons]
      have := ih (putStep x a e)
      have h1 : (putStep x a e).1.length + (if (putStep x a e).2 then 0 else 1) ≤ a.1.length + (if a.2 then 0 else 1) + 1 := by
        unfold putStep
        split
        · omega
        · split
          · rename_i h
            have : a.2 = false := by cases h2 : a.2 <;> simp [h2] at h ⊢
            simp [this]
          · simp; omega
      simp only [List.length_cons]
      omega
  have := key l ([], false)
  unfold putL putF
  split
  · rename_i h
    rw [h] at this
    simp at this
    omega
  · rename_i h
    have h' : (List.foldl (putStep x) ([], false) l).2 = false := by simpa using h
    rw [h'] at this
    simp at this
    rw [List.length_append, List.length_singleton]
    omega
theorem goneN_len (names : List REnt) (i m : Nat) : ∀ now : List REnt, (goneN names i m now).length ≤ now.length + names.length := by
  unfold goneN
  induction names with
  | nil => intro now; simp
  | cons e r ih =>
    intro now
    rw [List.foldl_cons]
    have := ih (if e.n = (i : Int) then putL now ⟨e.s, m⟩ else now)
    have h1 : (if e.n = (i : Int) then putL now ⟨e.s, m⟩ else now).length ≤ now.length + 1 := by
      split
      · exact putL_len _ _
      · omega
    simp only [List.length_cons]
    omega
theorem goneF_len2 (names : List REnt) : ∀ n, (goneF names n).2.length ≤ n * names.length
  | 0 => by simp [goneF]
  | n + 1 => by
    have := goneF_len2 names n
    rw [goneF_succ, goneStep]
    have h1 := goneN_len names n (goneF names n).1.length (goneF names n).2
    simp only
    rw [Nat.add_mul]
    omega
theorem goneN_snoc (names : List REnt) (b : REnt) (i m : Nat) (now : List REnt) : goneN (names ++ [b]) i m now = if b.n = (i : Int) then putL (goneN names i m now) ⟨b.s, m⟩ else goneN names i m now := by
  unfold goneN; rw [List.foldl_append]; rfl
theorem hadN_snoc (names : List REnt) (b : REnt) (i : Nat) : hadN (names ++ [b]) i = (hadN names i || decide (b.n = (i : Int))) := by
  unfold hadN; rw [List.any_append]; simp
theorem gone_fun (hP : DkP P) (names : List REnt) (v : AV) (h : Heap) (x : Nat) (ρ : RSt) (y : RLay) (hx : RefAt h x ρ y) (hv : Has h v names) (hb : ρ.files.length * names.length ≤ 10000000 ∧ names.length ≤ 10000000 ∧ ρ.files.length ≤ 10000000) :
    Fun P 68 [.ptr x 0, v] h (fun r h' => ∃ y', RefAt h' x (goneX ρ names) y' ∧ RStep h h' x y y') := by
  have hg := hx.cell
  simp only [RSt.cells] at hg
  have vev := hv.ev
  have vdt := hv.dt
  have vln := hv.len
  have vtg := hv.tag
  have fev := hx.files.ev
  have fdt := hx.files.dt
  have fln := hx.files.len
  have ftg := hx.files.tag
  have hlen := hx.len
  rw [hlen] at fln
  refine Fun.of (code := a68c) (hP.code rfl) (by rw [hP.pure]; rfl) ?_
  simp (disch := omega) only [go_sem, a68c, a68r0, vev, vdt]
  simp (disch := omega) only [go_sem, a68r1, vev, vdt]
  simp (disch := omega) only [go_sem, a68r2, vev, vdt]
  refine Wp_loop (fun z : Nat × Nat × Heap × AV × AV => z.2.1 ≤ ρ.files.length ∧ Loc h z.2.2.1 z.2.2.2.1 ((goneF names z.2.1).1.map (fun i => y.rfs.getD i default)) ∧ Has z.2.2.1 z.2.2.2.2 (goneF names z.2.1).2 ∧ (∀ o, rowOf z.2.2.2.2 = some o → h.next ≤ o ∧ rowOf z.2.2.2.1 ≠ some o))
    (fun z => { fr := [(0, .ptr x 0), (1, v), (4, z.2.2.2.1), (5, z.2.2.2.2), (6, .int .i64 z.2.1)], st := z.1, h := z.2.2.1 }) (fun z => ρ.files.length - z.2.1) (0, 0, h, .nils, .nils) rfl ⟨Nat.zero_le _, Loc.nil h, Has.nil h, fun o ho => by simp [rowOf] at ho⟩ ?_
  rintro ⟨t, i, hx1, fv, nv⟩ ⟨i1, i2, i3, i4⟩
  simp only at i1 i2 i3 i4
  have hgx := (i2.2.2.2 x hx.lt).trans hg
  have gev := i2.1.ev
  have gdt := i2.1.dt
  have gln := i2.1.len
  have gtg := i2.1.tag
  rw [List.length_map] at gln
  have nev := i3.ev
  have ndt := i3.dt
  simp (disch := omega) only [go_sem, a68l1, a68r3, hgx, vev, vdt, fev, fdt, fln, ftg, gev, gdt, nev, ndt, cond_true]
  refine condS_if (fun c => ?_) (fun c => ?_)
  · have hi : i < ρ.files.length := by omega
    have hm := goneF_len names i
    have hm2 := goneF_len2 names i
    have hmul : i * names.length ≤ ρ.files.length * names.length := Nat.mul_le_mul_right _ (by omega)
    simp (disch := omega) only [go_sem, a68r4, vev, vdt, gev, gdt, nev, ndt]
    simp (disch := omega) only [go_sem, a68r5, vev, vdt, gev, gdt, nev, ndt]
    refine Wp_loop (fun z : Nat × Nat × Heap × AV => z.2.1 ≤ names.length ∧ Ext hx1 z.2.2.1 ∧ Has z.2.2.1 z.2.2.2 (goneN (names.take z.2.1) i (goneF names i).1.length (goneF names i).2) ∧ (∀ o, rowOf z.2.2.2 = some o → h.next ≤ o ∧ rowOf fv ≠ some o))
      (fun z => { fr := [(0, .ptr x 0), (1, v), (4, fv), (5, z.2.2.2), (6, .int .i64 i), (7, .bool (hadN (names.take z.2.1) i)), (8, .int .i64 z.2.1)], st := z.1, h := z.2.2.1 }) (fun z => names.length - z.2.1) (t, 0, hx1, nv) rfl ⟨Nat.zero_le _, Ext.refl _, i3, i4⟩ ?_
    rintro ⟨t2, k, hx2, nv2⟩ ⟨j1, j2, j3, j4⟩
    simp only at j1 j2 j3 j4
    have n2ev := j3.ev
    have n2dt := j3.dt
    simp (disch := omega) only [go_sem, a68l0, a68r6, vev, vdt, vln, vtg, gev, gdt, n2ev, n2dt, cond_true]
    refine condS_if (fun c2 => ?_) (fun c2 => ?_)
    · have hk : k < names.length := by omega
      have hne : names ≠ [] := fun e => by rw [e] at hk; simp at hk
      obtain ⟨o, ep, j, rfl, hrow⟩ := (hv.ext (i2.2.2.trans j2)).1.resolve_left (fun e => hne e.2)
      have hcs : Cel.csz REnt = 2 := rfl
      obtain ⟨b, hbb⟩ : ∃ b, names.getD k default = b := ⟨_, rfl⟩
      obtain ⟨t1, t2', t3⟩ := take_snoc hk hbb
      have ce : Cel.ccells b = [strv b.s, .int .i64 b.n] := rfl
      have l0 := ld_pre1 (α := REnt) (l := names) (j := j) (k := k) (f := 0) hk (by decide)
      have l1 := ld_pre1 (α := REnt) (l := names) (j := j) (k := k) (f := 1) hk (by decide)
      rw [hcs, hbb, ce] at l0 l1
      simp only [Nat.add_zero, List.getD_cons_zero, List.getD_cons_succ] at l0 l1
      rw [hcs] at hrow
      have hgn := goneN_snoc (names.take k) b i (goneF names i).1.length (goneF names i).2
      have hhn := hadN_snoc (names.take k) b i
      rw [← t1] at hgn hhn
      simp (disch := omega) only [go_sem, a68r7, vev, vdt, gev, gdt, n2ev, n2dt, hcs, hrow, l1]
      refine condS_if (fun c3 => ?_) (fun c3 => ?_)
      · rw [if_pos c3] at hgn
        simp (disch := omega) only [go_sem, a68r8, vev, vdt, gev, gdt, gln, gtg, n2ev, n2dt, hcs, hrow, l0, cond_true]
        have hlk := goneN_len (names.take k) i (goneF names i).1.length (goneF names i).2
        have htk : (names.take k).length ≤ names.length := by rw [List.length_take]; omega
        refine WO.fun (vs := [nv2, .agg [strv b.s, .int .i64 (goneF names i).1.length]]) (by simp (disch := omega) only [go_sem, n2ev, n2dt]) (put_fun hP _ ⟨b.s, (goneF names i).1.length⟩ nv2 hx2 j3 (by omega)) (fun r h3 hr => ?_)
        have rev := hr.1.ev
        have rdt := hr.1.dt
        simp (disch := omega) only [go_sem, rev, rdt]
        simp (disch := omega) only [go_sem, a68r9, rev, rdt, gev, gdt, hcs]
        simp (disch := omega) only [go_sem, a68r10, rev, rdt, gev, gdt, hcs]
        refine ⟨(t2, k + 1, h3, r), ⟨by simp only; omega, j2.trans hr.2.2, by simp only; rw [hgn]; exact hr.1, fun o ho => ⟨?_, fun e => ?_⟩⟩, by simp only; omega, ?_⟩
        · have h5 := hr.2.1 o ho
          have h7 := j2.1
          have h8 := i2.2.2.1
          omega
        · have h5 := hr.2.1 o ho
          have h6 := i2.1.2 o e
          have h7 := j2.1
          omega
        · simp only [hhn, decide_eq_true c3, Bool.or_true]; rfl
      · rw [if_neg c3] at hgn
        simp (disch := omega) only [go_sem, a68r10, vev, vdt, n2ev, n2dt, gev, gdt, hcs]
        refine ⟨(t2, k + 1, hx2, nv2), ⟨by simp only; omega, j2, by simp only; rw [hgn]; exact j3, j4⟩, by simp only; omega, ?_⟩
        simp only [hhn, decide_eq_false c3, Bool.or_false]; rfl
    · rw [List.take_of_length_le (by omega)] at j3 ⊢
      simp (disch := omega) only [go_sem, a68r11, vev, vdt, gev, gdt, n2ev, n2dt]
      have hst : goneF names (i + 1) = (if hadN names i then (goneF names i).1 ++ [i] else (goneF names i).1, goneN names i (goneF names i).1.length (goneF names i).2) := by rw [goneF_succ]; rfl
      have L1 : Loc h hx2 fv ((goneF names i).1.map (fun i => y.rfs.getD i default)) := ⟨i2.1.ext j2, i2.2.1, i2.2.2.trans j2⟩
      cases hh : hadN names i with
      | true =>
        rw [hh] at hst
        simp only [if_true] at hst
        have hx3 := hx.ext L1.2.2
        obtain ⟨o, ep, j, w, q1, q2, q3, q4, q5, q6, q7⟩ := hx3.row' hi
        have hg3 := hx3.cell
        simp only [RSt.cells] at hg3
        rw [q1] at hg3
        have wev := q6.ev
        have wdt := q6.dt
        have wcl := q6.cl
        simp (disch := omega) only [go_sem]
        simp (disch := omega) only [go_sem, a68r12, hg3, q2, q5, gev, gdt, n2ev, n2dt, wev, wdt, wcl]
        refine stepP_app (α := RFile) (bytes := 32) (l := (goneF names i).1.map (fun i => y.rfs.getD i default)) (new := [⟨w, ((ρ.files.getD i default).sure : Nat)⟩]) (L1.1.1.keep (fun o ho => get_reserve _ _ _)) (addsC_one _ _ _ _ rfl) rfl (by simp only [two47, List.length_map, List.length_singleton]; omega) (fun v' h3 hr3 hn3 ho3 hf3 hnn => ?_)
        have L2 := L1.step hr3 hn3 ho3 hf3
        have hev := hr3.ev
        have hdt := hr3.dt
        simp (disch := omega) only [go_sem, hev, hdt, n2ev, n2dt]
        simp (disch := omega) only [go_sem, a68r13, hev, hdt, n2ev, n2dt]
        have n3 : h3.next = hx2.next + 1 := hn3
        have v'r : ∀ o, rowOf v' = some o → rowOf fv = some o ∨ o = hx2.next := fun o ho => by
          rcases ho3 with e | e
          · exact Or.inl (by rw [← e]; exact ho)
          · rw [e] at ho; exact Or.inr (Option.some.inj ho).symm
        refine ⟨(t2, i + 1, h3, v', nv2), ⟨by simp only; omega, ?_, ?_, fun o ho => ⟨(j4 o ho).1, fun e => ?_⟩⟩, by simp only; omega, rfl⟩
        · simp only
          rw [hst]
          simp only
          rw [List.map_append, List.map_singleton, q7]
          exact L2
        · simp only
          rw [hst]
          refine j3.keep (by omega) (fun o ho => ?_)
          have h5 := j3.2 o ho
          rw [hf3 o (by omega) (j4 o ho).2]
          exact get_reserve _ _ _
        · simp only at ho e
          rcases v'r o e with e2 | e2
          · exact (j4 o ho).2 e2
          · have := j3.2 o ho; omega
      | false =>
        rw [hh] at hst
        simp only [Bool.false_eq_true, if_false] at hst
        simp (disch := omega) only [go_sem]
        simp (disch := omega) only [go_sem, a68r13, gev, gdt, n2ev, n2dt]
        refine ⟨(t2, i + 1, hx2, fv, nv2), ⟨by simp only; omega, by simp only; rw [hst]; exact L1, by simp only; rw [hst]; exact j3, j4⟩, by simp only; omega, rfl⟩
  · have hil : i = ρ.files.length := by omega
    subst hil
    have gcl := i2.1.cl
    have ncl := i3.cl
    simp (disch := omega) only [go_sem, gev, gdt, nev, ndt]
    simp (disch := omega) only [go_sem, a68r14, hgx, gev, gdt, nev, ndt, gcl, ncl]
    simp (disch := omega) only [go_sem, a68r15, get_put_same, nev, ndt, ncl]
    simp (disch := omega) only [go_sem, a68r16, get_put_same, nev, ndt, ncl]
    have hx4 := hx.ext i2.2.2
    have hl2 := goneF_lt names ρ.files.length
    refine ⟨{ y with fv := fv, nv := nv, sv := nv, rfs := (goneF names ρ.files.length).1.map (fun i => y.rfs.getD i default) }, ?_, (Only.of_ext i2.2.2).trans (((Only.put _ _ _).trans (Only.put _ _ _)).trans (Only.put _ _ _)), fun o ho => ?_⟩
    rotate_left
    · rcases ho with ho | ho | ho | ho | ⟨r, hr, ho⟩
      · exact Or.inr (i2.2.1 o ho)
      · exact Or.inr (i4 o ho).1
      · exact Or.inr (i4 o ho).1
      · exact Or.inl (Or.inr (Or.inr (Or.inr (Or.inl ho))))
      · obtain ⟨k, hk, rfl⟩ := List.mem_map.1 hr
        refine Or.inl (Or.inr (Or.inr (Or.inr (Or.inr ⟨_, ?_, ho⟩))))
        have hk2 := hl2 k hk
        rw [List.getD_eq_getElem?_getD, List.getElem?_eq_getElem (show k < y.rfs.length by omega)]
        exact List.getElem_mem _
    have hk : ∀ c1 c2 o, o ≠ x → ((hx1.put x c1).put x c2).get o = hx1.get o := fun c1 c2 o ho => by rw [get_put_ne _ _ _ _ ho, get_put_ne _ _ _ _ ho]
    refine RefAt.set (h := (hx1.put x _).put x _) (get_put_same _ _ _) hx4.lt (goneX ρ names) { y with fv := fv, nv := nv, sv := nv, rfs := (goneF names ρ.files.length).1.map (fun i => y.rfs.getD i default) } ?_ ?_ (fun k hk2 => ?_) ?_ ?_ ?_
    · exact i2.1.keep (Nat.le_refl _) (fun o ho => hk _ _ o (row_ne hgx (i2.1.row o ho)))
    · show (List.map _ _).length = (List.map _ _).length
      rw [List.length_map, List.length_map]
    · have hk3 : k < ((goneF names ρ.files.length).1.map (fun i => ρ.files.getD i default)).length := hk2
      rw [List.length_map] at hk3
      show HoldX _ (((goneF names ρ.files.length).1.map (fun i => y.rfs.getD i default)).getD k default).v (((goneF names ρ.files.length).1.map (fun i => ρ.files.getD i default)).getD k default).b ∧ (((goneF names ρ.files.length).1.map (fun i => y.rfs.getD i default)).getD k default).n = (((goneF names ρ.files.length).1.map (fun i => ρ.files.getD i default)).getD k default).sure
      have e1 : ((goneF names ρ.files.length).1.map (fun i => y.rfs.getD i default)).getD k default = y.rfs.getD ((goneF names ρ.files.length).1[k]) default := by
        simp only [List.getD_eq_getElem?_getD, List.getElem?_map, List.getElem?_eq_getElem hk3, Option.map_some, Option.getD_some]
      have e2 : ((goneF names ρ.files.length).1.map (fun i => ρ.files.getD i default)).getD k default = ρ.files.getD ((goneF names ρ.files.length).1[k]) default := by
        simp only [List.getD_eq_getElem?_getD, List.getElem?_map, List.getElem?_eq_getElem hk3, Option.map_some, Option.getD_some]
      rw [e1, e2]
      have h5 := hx4.hold _ (hl2 _ (List.getElem_mem hk3))
      exact ⟨h5.1.ext (Nat.le_refl _) (fun o ho => hk _ _ o (row_ne hgx ⟨_, (h5.1.lt o ho).2⟩)), h5.2⟩
    · exact i3.keep (Nat.le_refl _) (fun o ho => hk _ _ o (row_ne hgx (i3.row o ho)))
    · exact i3.keep (Nat.le_refl _) (fun o ho => hk _ _ o (row_ne hgx (i3.row o ho)))
    · exact hx4.waits.keep (Nat.le_refl _) (fun o ho => hk _ _ o (row_ne hgx (hx4.waits.row o ho)))
end Go.Am.Dk
/- The document's disk, any: Boot. -/
namespace Go.Am.Dk
open Go.Am
set_option maxRecDepth 20000
set_option maxHeartbeats 2000000
variable {P : Prog}
def tkX (ρ : RSt) (turns : Int) : Nat := (max 0 (min turns ρ.waits.length)).toNat
def bnamesX (ρ : RSt) (j : Nat) : List REnt := (ρ.waits.take j).foldl doL ρ.sure
theorem doL_len (l : List REnt) (t : RTurn) : (doL l t).length ≤ l.length + 1 := by
  unfold doL
  have h1 := doW_len l t
  split
  · omega
  · have := putL_len (doW l t) ⟨t.to, doN l t⟩; omega
theorem bnamesX_len (ρ : RSt) : ∀ j, j ≤ ρ.waits.length → (bnamesX ρ j).length ≤ ρ.sure.length + j
  | 0, _ => Nat.le_refl _
  | j + 1, hj => by
    have ih := bnamesX_len ρ j (by omega)
    have e : bnamesX ρ (j + 1) = doL (bnamesX ρ j) (ρ.waits[j]'(by omega)) := by
      unfold bnamesX
      rw [List.take_succ_eq_append_getElem (by omega), List.foldl_append]; rfl
    rw [e]
    have := doL_len (bnamesX ρ j) (ρ.waits[j]'(by omega))
    omega
def kpX (f : FilR) (keep : List Int) (k : Nat) : Nat := if k < keep.length then (max 0 (min (keep.getD k 0) ((f.b.length : Int) - f.sure))).toNat else 0
def cutX (keep : List Int) (ρ : RSt) : Nat → RSt × Nat
  | 0 => (ρ, 0)
  | i + 1 =>
    let a := cutX keep ρ i
    let f := ρ.files.getD i default
    if f.b.length = f.sure then a else (withRS a.1 i ⟨f.b.take (f.sure + kpX f keep a.2), f.sure + kpX f keep a.2⟩, a.2 + 1)
def bootX (ρ : RSt) (turns : Int) (keep : List Int) : Int × RSt :=
  if ρ.dead = false then (1, ρ)
  else (0, { goneX (cutX keep ρ ρ.files.length).1 (bnamesX ρ (tkX ρ turns)) with dead := false, fuse := 0, fault := 0, waits := [] })
theorem cutX_all (keep : List Int) (ρ : RSt) : ∀ i, i ≤ ρ.files.length → (cutX keep ρ i).1.files.length = ρ.files.length ∧ (∀ j, i ≤ j → (cutX keep ρ i).1.files.getD j default = ρ.files.getD j default) ∧ (cutX keep ρ i).1.now = ρ.now ∧ (cutX keep ρ i).1.sure = ρ.sure ∧ (cutX keep ρ i).1.waits = ρ.waits ∧ (cutX keep ρ i).1.dead = ρ.dead ∧ (cutX keep ρ i).2 ≤ i ∧ (cutX keep ρ i).1.cap = ρ.cap ∧ (cutX keep ρ i).1.calls = ρ.calls ∧ (cutX keep ρ i).1.fuse = ρ.fuse ∧ (cutX keep ρ i).1.fault = ρ.fault ∧ (cutX keep ρ i).1.e = ρ.e
  | 0, _ => ⟨rfl, fun _ _ => rfl, rfl, rfl, rfl, rfl, Nat.le_refl _, rfl, rfl, rfl, rfl, rfl⟩
  | i + 1, hi => by
    obtain ⟨h1, h2, h3, h4, h5, h6, h7, h8, h9, h10, h11, h12⟩ := cutX_all keep ρ i (by omega)
    unfold cutX
    simp only
    split
    · exact ⟨h1, fun j hj => h2 j (by omega), h3, h4, h5, h6, by omega, h8, h9, h10, h11, h12⟩
    · refine ⟨?_, fun j hj => ?_, h3, h4, h5, h6, by simp only; omega, h8, h9, h10, h11, h12⟩
      · show ((cutX keep ρ i).1.files.take i ++ [_] ++ (cutX keep ρ i).1.files.drop (i + 1)).length = _
        rw [len_with _ _ _ (by omega), h1]
      · show ((cutX keep ρ i).1.files.take i ++ [_] ++ (cutX keep ρ i).1.files.drop (i + 1)).getD j default = _
        rw [getD_with _ _ _ (by omega), if_neg (by omega)]
        exact h2 j (by omega)
def bootTail : ACode := (.seq (.seq (.reg 0 a48r9 [0, 2, 7, 9, 10]) (.block 2 (.loop a48l1))) (.seq (.reg 0 a48r19 [0]) (.seq (.reg 0 a48r20 [0]) (.seq (.reg 0 a48r21 [0]) (.seq (.reg 0 a48r22 [0]) (.seq (.reg 0 a48r23 []) (.seq (.reg 0 a48r24 [6]) .ret)))))))
theorem a48c_eq : a48c = (.seq (.reg 0 a48r0 [0, 1, 2]) (.seq (.seq (.reg 0 a48r1 [0, 1, 2, 17]) (.cond (.s 17) (.seq (.reg 0 a48r2 [6]) .ret) .skip)) (.seq (.reg 0 a48r3 [0, 1, 2, 7]) (.seq (.seq (.reg 0 a48r4 [0, 1, 2, 7, 8]) (.block 0 (.loop a48l0))) (.seq (.reg 0 a48r8 [0, 2, 7, 9]) bootTail))))) := rfl
theorem HoldX.slice {h : Heap} {v : AV} {l : List UInt8} (a : HoldX h v l) (m : Nat) (hm : m ≤ l.length) : ∃ v', HoldX h v' (l.take m) ∧ (∀ o, rowOf v' = some o → rowOf v = some o) ∧ ∀ (fr : Fr) (hi : Opd), bound fr (some hi) l.length = some m → sliceA fr (some 1) v none (some hi) none = some v' := by
  rcases a with ⟨n, full, rfl⟩ | ⟨o, ep, l', rfl, h1, h2, h3⟩
  · refine ⟨slv (n && l.isEmpty) (full && decide (m = l.length)) ((l.take m).drop 0), Or.inl ⟨_, _, by rw [List.drop_zero]⟩, fun o ho => ?_, fun fr hi e => ?_⟩
    · rcases slv_cases (n && l.isEmpty) (full && decide (m = l.length)) ((l.take m).drop 0) with ⟨e, -⟩ | e <;> rw [e] at ho <;> simp [rowOf] at ho
    rw [sliceA_slv _ _ _ _ _ _ _ rfl, e]
    exact slL_some n full l 0 m (Nat.zero_le _) hm
  · have hl : (l.take m).length = m := by rw [List.length_take]; omega
    refine ⟨.hs 1 o ep 0 (l.take m).length false, Or.inr ⟨o, ep, l', rfl, h1, h2, ?_⟩, fun o' ho => ho, fun fr hi e => ?_⟩
    · rw [hl]
      conv => lhs; rw [h3]
      rw [List.take_take]
      congr 1
      omega
    · rw [sliceA_hs, e, hl]
      have := slHf_some 1 1 o ep 0 l.length 0 m (Nat.zero_le _) hm
      rw [if_pos rfl, Nat.zero_add, Nat.sub_zero] at this
      exact this
theorem bootTail_ok (hP : DkP P) (keep : List Int) (kn full : Bool) (hkw : keep.length ≤ 9223372036854775807 ∧ ∀ z ∈ keep, -9223372036854775808 ≤ z ∧ z ≤ 9223372036854775807) (nm : List REnt) (nv : AV) (hh : Heap) (x : Nat) (ρ : RSt) (y : RLay) (hx : RefAt hh x ρ y) (hn : Has hh nv nm) (hb : ρ.files.length * nm.length ≤ 10000000 ∧ nm.length ≤ 10000000 ∧ ρ.files.length ≤ 10000000)
    (hf : ∀ i, i < ρ.files.length → (ρ.files.getD i default).sure ≤ (ρ.files.getD i default).b.length ∧ (ρ.files.getD i default).b.length ≤ 1000000000000) (h0 : Heap) (y0 : RLay) (ho : RStep h0 hh x y0 y) (st : Nat) (fr0 : Fr) (f0 : fget fr0 0 = some (.ptr x 0)) (f2 : fget fr0 2 = some (slv kn full keep)) (f7 : fget fr0 7 = some nv) (f9 : fget fr0 9 = some (.int .i64 0)) :
    Wp P bootTail { fr := fr0, st := st, h := hh } (bodyQ [.slot 6] fun v h' => v = .int .i64 0 ∧ ∃ y', RefAt h' x { goneX (cutX keep ρ ρ.files.length).1 nm with dead := false, fuse := 0, fault := 0, waits := [] } y' ∧ RStep h0 h' x y0 y') := by
  have nev := hn.ev
  have ndt := hn.dt
  simp (disch := omega) only [go_sem, bootTail, a48r9, f0, f2, f7, f9, nev, ndt]
  refine Wp_loop (fun z : Nat × Nat × Heap × RLay => z.2.1 ≤ ρ.files.length ∧ RefAt z.2.2.1 x (cutX keep ρ z.2.1).1 z.2.2.2 ∧ RStep hh z.2.2.1 x y z.2.2.2) (fun z => { fr := [(0, .ptr x 0), (2, slv kn full keep), (7, nv), (9, .int .i64 (cutX keep ρ z.2.1).2), (10, .int .i64 z.2.1)], st := z.1, h := z.2.2.1 }) (fun z => ρ.files.length - z.2.1) (st, 0, hh, y) rfl ⟨Nat.zero_le _, hx, RStep.same (Only.refl _ _)⟩ ?_
  rintro ⟨t, i, h1, y1⟩ ⟨i1, i2, i3⟩
  simp only at i1 i2 i3
  obtain ⟨c1, c2, c3, c4, c5, c6, c7, -⟩ := cutX_all keep ρ i i1
  have hg := i2.cell
  simp only [RSt.cells] at hg
  have fev := i2.files.ev
  have fdt := i2.files.dt
  have fln := i2.files.len
  have ftg := i2.files.tag
  rw [i2.len, c1] at fln
  simp (disch := omega) only [go_sem, a48l1, a48r10, hg, nev, ndt, fev, fdt, fln, ftg, cond_true]
  refine condS_if (fun c => ?_) (fun c => ?_)
  · have hi : i < ρ.files.length := by omega
    obtain ⟨o, ep, j, w, q1, q2, q3, q4, q5, q6, q7⟩ := i2.row' (i := i) (by rw [c1]; exact hi)
    rw [c2 i (Nat.le_refl _)] at q4 q5 q6
    rw [c1] at q1
    obtain ⟨f1, f2'⟩ := hf i hi
    obtain ⟨F, hF⟩ : ∃ F, ρ.files.getD i default = F := ⟨_, rfl⟩
    rw [hF] at q4 q5 q6 f1 f2'
    have wev := q6.ev
    have wdt := q6.dt
    have wcl := q6.cl
    have wln := q6.len
    have wtg := q6.tag
    rw [q1] at hg
    have hst : cutX keep ρ (i + 1) = if F.b.length = F.sure then cutX keep ρ i else (withRS (cutX keep ρ i).1 i ⟨F.b.take (F.sure + kpX F keep (cutX keep ρ i).2), F.sure + kpX F keep (cutX keep ρ i).2⟩, (cutX keep ρ i).2 + 1) := by
      conv => lhs; unfold cutX
      simp only [hF]
    obtain ⟨k, hk⟩ : ∃ k, (cutX keep ρ i).2 = k := ⟨_, rfl⟩
    rw [hk] at hst c7 ⊢
    simp (disch := omega) only [go_sem, a48r11, hg, q2, q5, nev, ndt, wev, wdt, wcl]
    simp (disch := omega) only [go_sem, a48r12, nev, ndt, wev, wdt, wcl, wln, wtg, cond_true]
    refine condS_if (fun c3' => ?_) (fun c3' => ?_)
    · rw [if_pos (by omega)] at hst
      simp (disch := omega) only [go_sem, a48r18, nev, ndt]
      refine ⟨(t + 1, i + 1, h1, y1), ⟨by simp only; omega, by simp only; rw [hst]; exact i2, i3⟩, by simp only; omega, ?_⟩
      simp only [hst, hk]; rfl
    · rw [if_neg (by omega)] at hst
      simp (disch := omega) only [go_sem, a48r13, nev, ndt, wev, wdt]
      have fin : ∀ (t' : Nat) (fr1 : Fr), fget fr1 0 = some (.ptr x 0) → fget fr1 2 = some (slv kn full keep) → fget fr1 7 = some nv → fget fr1 9 = some (.int .i64 k) → fget fr1 10 = some (.int .i64 i) → fget fr1 11 = some (.lbox t [w, .int .i64 F.sure]) → fget fr1 12 = some (.int .i64 (kpX F keep k)) →
          Wp P (.seq (.reg 0 a48r16 [0, 2, 7, 9, 10, 11, 12]) (.dreg 0 a48d17 [0, 2, 7, 9, 10])) { fr := fr1, st := t', h := h1 } (fun e s' => e = .normal ∧ ∃ h2 y2, s' = { fr := [(0, .ptr x 0), (2, slv kn full keep), (7, nv), (9, .int .i64 ((k : Int) + 1)), (10, .int .i64 i)], st := t' + 1, h := h2 } ∧ RefAt h2 x (cutX keep ρ (i + 1)).1 y2 ∧ RStep hh h2 x y y2) := by
        intro t' fr1 g0 g2 g7 g9 g10 g11 g12
        have hkp : F.sure + kpX F keep k ≤ F.b.length := by
          unfold kpX
          split <;> omega
        obtain ⟨v', s1, s0, s2⟩ := q6.slice (F.sure + kpX F keep k) hkp
        have v'ev := s1.ev
        have v'dt := s1.dt
        have v'cl := s1.cl
        simp (disch := omega) only [go_sem, a48r16, g0, g2, g7, g9, g10, g11, g12, nev, ndt, wev, wdt]
        simp (disch := omega) only [go_sem, a48d17, g0, g2, g7, g9, g10, g11, g12, nev, ndt, wev, wdt]
        have etn : ((F.sure : Int) + (kpX F keep k : Nat)).toNat = F.sure + kpX F keep k := by omega
        have s3 := s2 [(94, w), (98, .int .i64 ((F.sure : Int) + (kpX F keep k : Nat)))] (.s 98) (by simp (disch := omega) only [go_sem, etn])
        simp (disch := omega) only [go_sem, s3, v'ev, v'dt, v'cl]
        have hw := withR_fun hP i v' ⟨F.b.take (F.sure + kpX F keep k), F.sure + kpX F keep k⟩ h1 x _ y1 i2 (by rw [c1]; exact hi) (by rw [c1]; omega) s1
        rw [Int.natCast_add] at hw
        refine WD_fun (vs := [.ptr x 0, .int .i64 i, .agg [v', .int .i64 ((F.sure : Int) + (kpX F keep k : Nat))]]) (by simp (disch := omega) only [go_sem, v'ev, v'dt]) hw (fun v h2 hv => rfl) (fun v h2 hv => ?_)
        obtain ⟨y2, r1, r2, r3⟩ := hv
        simp (disch := omega) only [go_sem, g0, g2, g7, g9, g10, nev, ndt]
        refine ⟨by trivial, h2, y2, rfl, by rw [hst]; exact r1, i3.trans ⟨r2, fun o' ho' => ?_⟩⟩
        rcases r3 o' ho' with h3 | h3 | h3
        · exact Or.inl h3
        · exact Or.inr h3
        · have hlen1 := i2.len
          rw [c1] at hlen1
          refine Or.inl (Or.inr (Or.inr (Or.inr (Or.inr ⟨y1.rfs.getD i default, ?_, by rw [q7]; exact s0 o' h3⟩))))
          rw [List.getD_eq_getElem?_getD, List.getElem?_eq_getElem (show i < y1.rfs.length by omega)]
          exact List.getElem_mem _
      obtain ⟨B, hB⟩ : ∃ B : ACode, B = (.seq (.reg 0 a48r16 [0, 2, 7, 9, 10, 11, 12]) (.dreg 0 a48d17 [0, 2, 7, 9, 10])) := ⟨_, rfl⟩
      rw [← hB] at fin ⊢
      have after : ∀ (t' : Nat) (fr1 : Fr), fget fr1 0 = some (.ptr x 0) → fget fr1 2 = some (slv kn full keep) → fget fr1 7 = some nv → fget fr1 9 = some (.int .i64 k) → fget fr1 10 = some (.int .i64 i) → fget fr1 11 = some (.lbox t [w, .int .i64 F.sure]) → fget fr1 12 = some (.int .i64 (kpX F keep k)) →
          ∀ Q : AExit → St → Prop, (∀ h2 y2, RefAt h2 x (cutX keep ρ (i + 1)).1 y2 → RStep hh h2 x y y2 → Q .normal { fr := [(0, .ptr x 0), (2, slv kn full keep), (7, nv), (9, .int .i64 ((k : Int) + 1)), (10, .int .i64 i)], st := t' + 1, h := h2 }) → Wp P B { fr := fr1, st := t', h := h1 } Q := by
        intro t' fr1 g0 g2 g7 g9 g10 g11 g12 Q hQ
        refine (fin t' fr1 g0 g2 g7 g9 g10 g11 g12).mono (fun e s' he => ?_)
        obtain ⟨rfl, h2, y2, rfl, r1, r2⟩ := he
        exact hQ h2 y2 r1 r2
      have last : ∀ (t' : Nat) h2 y2, RefAt h2 x (cutX keep ρ (i + 1)).1 y2 → RStep hh h2 x y y2 → ∃ z : Nat × Nat × Heap × RLay, (z.2.1 ≤ ρ.files.length ∧ RefAt z.2.2.1 x (cutX keep ρ z.2.1).1 z.2.2.2 ∧ RStep hh z.2.2.1 x y z.2.2.2) ∧ ρ.files.length - z.2.1 < ρ.files.length - i ∧ ({ fr := [(0, .ptr x 0), (2, slv kn full keep), (7, nv), (9, .int .i64 ((k : Int) + 1)), (10, .int .i64 ((i : Int) + 1))], st := t', h := h2 } : St) = { fr := [(0, .ptr x 0), (2, slv kn full keep), (7, nv), (9, .int .i64 (cutX keep ρ z.2.1).2), (10, .int .i64 z.2.1)], st := z.1, h := z.2.2.1 } := fun t' h2 y2 r1 r2 =>
        ⟨(t', i + 1, h2, y2), ⟨by simp only; omega, r1, r2⟩, by simp only; omega, by simp only [hst]; rfl⟩
      simp (disch := omega) only [go_sem, a48r14]
      refine guardS_pt (fun c4 w4 => ?_) (fun c4 w4 => ?_) <;> simp (disch := omega) only [go_sem, w4]
      · have hkk : k < keep.length := by omega
        have hkm : keep.getD k default ∈ keep := by
          rw [List.getD_eq_getElem?_getD, List.getElem?_eq_getElem hkk]
          exact List.getElem_mem hkk
        have hkz := hkw.2 _ hkm
        have ekp : kpX F keep k = (max 0 (min (keep.getD k default) ((F.b.length : Int) - F.sure))).toNat := by
          unfold kpX; rw [if_pos hkk]; rfl
        obtain ⟨z, hz⟩ : ∃ z, keep.getD k default = z := ⟨_, rfl⟩
        rw [hz] at ekp hkz ⊢
        refine condS_if (fun c5 => ?_) (fun c5 => ?_)
        · simp (disch := omega) only [go_sem, a48d15, hz, wev, wdt, wln, wtg, nev, ndt, cond_true]
          refine after _ _ (by simp (disch := omega) only [go_sem]) (by simp (disch := omega) only [go_sem]) (by simp (disch := omega) only [go_sem]) (by simp (disch := omega) only [go_sem]) (by simp (disch := omega) only [go_sem]) (by simp (disch := omega) only [go_sem]) (by rw [show ((kpX F keep k : Nat) : Int) = min z ((F.b.length : Int) - F.sure) by rw [ekp]; omega]; simp (disch := omega) only [go_sem]) _ (fun h2 y2 r1 r2 => ?_)
          simp (disch := omega) only [go_sem, a48r18, nev, ndt]
          exact last _ h2 y2 r1 r2
        · simp (disch := omega) only [go_sem]
          refine after _ _ (by simp (disch := omega) only [go_sem]) (by simp (disch := omega) only [go_sem]) (by simp (disch := omega) only [go_sem]) (by simp (disch := omega) only [go_sem]) (by simp (disch := omega) only [go_sem]) (by simp (disch := omega) only [go_sem]) (by rw [show kpX F keep k = 0 by rw [ekp]; omega]; simp (disch := omega) only [go_sem]) _ (fun h2 y2 r1 r2 => ?_)
          simp (disch := omega) only [go_sem, a48r18, nev, ndt]
          exact last _ h2 y2 r1 r2
      · refine after _ _ (by simp (disch := omega) only [go_sem]) (by simp (disch := omega) only [go_sem]) (by simp (disch := omega) only [go_sem]) (by simp (disch := omega) only [go_sem]) (by simp (disch := omega) only [go_sem]) (by simp (disch := omega) only [go_sem]) (by rw [show kpX F keep k = 0 by unfold kpX; rw [if_neg (by omega)]]; simp (disch := omega) only [go_sem]) _ (fun h2 y2 r1 r2 => ?_)
        simp (disch := omega) only [go_sem, a48r18, nev, ndt]
        exact last _ h2 y2 r1 r2
  · have hil : i = ρ.files.length := by omega
    subst hil
    simp (disch := omega) only [go_sem]
    simp (disch := omega) only [go_sem, a48r19, nev, ndt]
    refine WO.fun (vs := [.ptr x 0, nv]) (by simp (disch := omega) only [go_sem, nev, ndt]) (gone_fun hP nm nv h1 x _ y1 i2 (hn.keep i3.1.1 (fun o ho => i3.1.2 o (hn.2 o ho) (row_ne hx.cell (hn.row o ho)))) (by rw [c1]; exact hb)) (fun v h2 hv => ?_)
    obtain ⟨y2, r1, r2⟩ := hv
    have hg2 := r1.cell
    simp only [RSt.cells] at hg2
    simp (disch := omega) only [go_sem]
    simp (disch := omega) only [go_sem, a48r20, hg2]
    simp (disch := omega) only [go_sem, a48r21, get_put_same]
    simp (disch := omega) only [go_sem, a48r22, get_put_same]
    simp (disch := omega) only [go_sem, a48r23, get_put_same]
    simp (disch := omega) only [go_sem, a48r24]
    have hk : ∀ c1 c2 c3 o, o ≠ x → (((h2.put x c1).put x c2).put x c3).get o = h2.get o := fun c1 c2 c3 o ho => by rw [get_put_ne _ _ _ _ ho, get_put_ne _ _ _ _ ho, get_put_ne _ _ _ _ ho]
    refine ⟨by trivial, { y2 with wv := .nils }, ?_, ((ho.trans i3).trans r2).trans ⟨(((Only.put _ _ _).trans (Only.put _ _ _)).trans (Only.put _ _ _)).trans (Only.put _ _ _), fun o' ho' => ?_⟩⟩
    rotate_left
    · rcases ho' with ho' | ho' | ho' | ho' | ho'
      · exact Or.inl (Or.inl ho')
      · exact Or.inl (Or.inr (Or.inl ho'))
      · exact Or.inl (Or.inr (Or.inr (Or.inl ho')))
      · simp [rowOf] at ho'
      · exact Or.inl (Or.inr (Or.inr (Or.inr (Or.inr ho'))))
    refine RefAt.set (h := ((h2.put x _).put x _).put x _) (get_put_same _ _ _) r1.lt { goneX (cutX keep ρ ρ.files.length).1 nm with dead := false, fuse := 0, fault := 0, waits := [] } { y2 with wv := .nils } ?_ r1.len (fun k hk2 => ?_) ?_ ?_ (Has.nil _)
    · exact r1.files.keep (Nat.le_refl _) (fun o ho => hk _ _ _ o (row_ne hg2 (r1.files.row o ho)))
    · have h5 := r1.hold k hk2
      exact ⟨h5.1.ext (Nat.le_refl _) (fun o ho => hk _ _ _ o (row_ne hg2 ⟨_, (h5.1.lt o ho).2⟩)), h5.2⟩
    · exact r1.now.keep (Nat.le_refl _) (fun o ho => hk _ _ _ o (row_ne hg2 (r1.now.row o ho)))
    · exact r1.sure.keep (Nat.le_refl _) (fun o ho => hk _ _ _ o (row_ne hg2 (r1.sure.row o ho)))
theorem bootRR_fun (hP : DkP P) (turns : Int) (keep : List Int) (kn full : Bool) (hkw : keep.length ≤ 9223372036854775807 ∧ ∀ z ∈ keep, -9223372036854775808 ≤ z ∧ z ≤ 9223372036854775807) (h : Heap) (x : Nat) (ρ : RSt) (y : RLay) (hx : RefAt h x ρ y) (hb : ρ.files.length * (ρ.sure.length + ρ.waits.length) ≤ 10000000 ∧ ρ.sure.length + ρ.waits.length ≤ 10000000 ∧ ρ.files.length ≤ 10000000)
    (hf : ∀ i, i < ρ.files.length → (ρ.files.getD i default).sure ≤ (ρ.files.getD i default).b.length ∧ (ρ.files.getD i default).b.length ≤ 1000000000000) :
    Fun P 48 [.ptr x 0, .int .i64 turns, slv kn full keep] h (fun v h' => v = .int .i64 (bootX ρ turns keep).1 ∧ ∃ y', RefAt h' x (bootX ρ turns keep).2 y' ∧ RStep h h' x y y') := by
  have hg := hx.cell
  simp only [RSt.cells] at hg
  have sev := hx.sure.ev
  have sdt := hx.sure.dt
  have wev := hx.waits.ev
  have wdt := hx.waits.dt
  have wln := hx.waits.len
  have wtg := hx.waits.tag
  refine Fun.of (code := a48c) (hP.code rfl) (by rw [hP.pure]; rfl) ?_
  simp (disch := omega) only [go_sem, a48c_eq, a48r0]
  simp (disch := omega) only [go_sem, a48r1, hg]
  unfold bootX
  cases hd : ρ.dead with
  | false =>
    simp (disch := omega) only [go_sem]
    simp (disch := omega) only [go_sem, a48r2]
    exact ⟨by trivial, _, hx, RStep.same (Only.refl _ _)⟩
  | true =>
    rw [hd] at hg
    have ht : ¬ (true = false) := by simp
    rw [if_neg ht]
    simp (disch := omega) only [go_sem]
    simp (disch := omega) only [go_sem, a48r3, hg, sev, sdt]
    simp (disch := omega) only [go_sem, a48r4, sev, sdt]
    have htk : tkX ρ turns ≤ ρ.waits.length := by unfold tkX; omega
    refine Wp_loop (fun z : Nat × Nat × Heap × AV => z.2.1 ≤ tkX ρ turns ∧ Ext h z.2.2.1 ∧ Has z.2.2.1 z.2.2.2 (bnamesX ρ z.2.1)) (fun z => { fr := [(0, .ptr x 0), (1, .int .i64 turns), (2, slv kn full keep), (7, z.2.2.2), (8, .int .i64 z.2.1)], st := z.1, h := z.2.2.1 }) (fun z => tkX ρ turns - z.2.1) (0, 0, h, y.sv) rfl ⟨Nat.zero_le _, Ext.refl _, hx.sure⟩ ?_
    rintro ⟨t, i, hx1, nv⟩ ⟨i1, i2, i3⟩
    simp only at i1 i2 i3
    have nev := i3.ev
    have ndt := i3.dt
    have hgx := (i2.2 x hx.lt).trans hg
    have hle := bnamesX_len ρ i (by omega)
    simp (disch := omega) only [go_sem, a48l0, a48r5, hgx, nev, ndt, wev, wdt, wln, wtg, cond_true]
    have tail : tkX ρ turns ≤ i → ∀ (t' : Nat) (fr1 : Fr), fget fr1 0 = some (.ptr x 0) → fget fr1 2 = some (slv kn full keep) → fget fr1 7 = some nv → fget fr1 9 = some (.int .i64 0) → Wp P bootTail { fr := fr1, st := t', h := hx1 } (bodyQ [.slot 6] fun v h' => v = .int .i64 0 ∧ ∃ y', RefAt h' x { goneX (cutX keep ρ ρ.files.length).1 (bnamesX ρ (tkX ρ turns)) with dead := false, fuse := 0, fault := 0, waits := [] } y' ∧ RStep h h' x y y') := by
      intro hle2 t' fr1 g0 g2 g7 g9
      have ei : i = tkX ρ turns := by omega
      rw [← ei]
      have hm : ρ.files.length * (bnamesX ρ i).length ≤ ρ.files.length * (ρ.sure.length + ρ.waits.length) := Nat.mul_le_mul_left _ (by omega)
      exact bootTail_ok hP keep kn full hkw (bnamesX ρ i) nv hx1 x ρ y (hx.ext i2) i3 ⟨by omega, by omega, by omega⟩ hf h y (RStep.same (Only.of_ext i2)) t' fr1 g0 g2 g7 g9
    refine guardS_pt (fun c1 w1 => ?_) (fun c1 w1 => ?_) <;> simp (disch := omega) only [go_sem, w1]
    · refine condS_if (fun c2 => ?_) (fun c2 => ?_)
      · have hiw : i < ρ.waits.length := by omega
        have hit : i < tkX ρ turns := by unfold tkX; omega
        have hne : ρ.waits ≠ [] := fun e => by rw [e] at hiw; simp at hiw
        obtain ⟨o, ep, j, hwv, hrow⟩ := (hx.waits.ext i2).1.resolve_left (fun e => hne e.2)
        have hcs : Cel.csz RTurn = 3 := rfl
        obtain ⟨b, hbb⟩ : ∃ b, ρ.waits.getD i default = b := ⟨_, rfl⟩
        obtain ⟨t1, t2', t3⟩ := take_snoc hiw hbb
        have ce : Cel.ccells b = [strv b.fr, strv b.to, .int .i64 b.n] := rfl
        have ll := ld_pre (α := RTurn) (l := ρ.waits) (j := j) (k := i) hiw
        rw [hcs, hbb, ce] at ll
        rw [hcs] at hrow hwv
        rw [hwv] at hgx
        have hbn : bnamesX ρ (i + 1) = doL (bnamesX ρ i) b := by unfold bnamesX; rw [t1, List.foldl_append]; rfl
        simp (disch := omega) only [go_sem]
        simp (disch := omega) only [go_sem, a48r6, hgx, hrow, ll, nev, ndt]
        refine WO.fun (vs := [nv, .agg [strv b.fr, strv b.to, .int .i64 b.n]]) (by simp (disch := omega) only [go_sem, nev, ndt]) (doR_fun hP (bnamesX ρ i) b nv hx1 i3 (by omega)) (fun v h2 hv => ?_)
        obtain ⟨r1, r2, -⟩ := hv
        have hev := r1.ev
        have hdt := r1.dt
        simp (disch := omega) only [go_sem, hev, hdt]
        simp (disch := omega) only [go_sem, a48r7, hev, hdt]
        exact ⟨(t, i + 1, h2, v), ⟨by simp only; omega, i2.trans r2, by simp only; rw [hbn]; exact r1⟩, by simp only; omega, rfl⟩
      · simp (disch := omega) only [go_sem]
        simp (disch := omega) only [go_sem, a48r8, nev, ndt]
        exact tail (by unfold tkX; omega) _ _ (by simp (disch := omega) only [go_sem]) (by simp (disch := omega) only [go_sem]) (by simp (disch := omega) only [go_sem]) (by simp (disch := omega) only [go_sem])
    · simp (disch := omega) only [go_sem, a48r8, nev, ndt]
      exact tail (by unfold tkX; omega) _ _ (by simp (disch := omega) only [go_sem]) (by simp (disch := omega) only [go_sem]) (by simp (disch := omega) only [go_sem]) (by simp (disch := omega) only [go_sem])
end Go.Am.Dk
/- slices.Sorted(maps.Keys(m)) at this program: what the kit's contracts say. -/
namespace Go.Proofs
open Go.RowKit Go.Maps Go.Sort Go.Shelf Go.WideElems
theorem Try.sortsA (m : Nat) : AnyZ.SortsIn Try.prog Try.sortedA_ren Fence.wide m :=
  ⟨fun blk off cap ss W hH hblk hsz => callsIn_wide.2 (AnyM.slices_Sort_string Try.sortA blk off cap ss W hH hblk hsz),
   fun p cap W => callsIn_wide.2 (AnyM.slices_Sort_string_none Try.sortA p cap W)⟩
theorem _root_.List.Nodup.map' {α β : Type} {f : α → β} (hf : ∀ a b, f a = f b → a = b) {l : List α} (h : l.Nodup) : (l.map f).Nodup := by
  unfold List.Nodup at *
  rw [List.pairwise_map]
  exact h.imp (fun hab e => hab (hf _ _ e))
theorem insert_perm {H : Type} (x : Lit × DataW H) : ∀ l : List (Lit × DataW H), (DataW.insert x l).Perm (x :: l)
  | [] => List.Perm.refl _
  | y :: r => by
    rw [DataW.insert]
    split
    · exact List.Perm.refl _
    · exact ((insert_perm x r).cons y).trans (List.Perm.swap x y r)
theorem sort_perm {H : Type} : ∀ l : List (Lit × DataW H), (l.foldr DataW.insert []).Perm l
  | [] => List.Perm.refl _
  | x :: r => (insert_perm x _).trans ((sort_perm r).cons x)
set_option maxHeartbeats 1000000 in
theorem Try.sorted_walk (w : World) (b bm : Nat) (ms : Array MapEntry) (ck : Nat) (ks : List (List UInt8)) (hb : b < w.heap.size) (hc : w.cell? ⟨b, 0, none⟩ = some (.map (some bm))) (hm : w.heap[bm]? = some (.map ms ck))
    (hk : ms.toList.map (·.key) = ks.map (fun k => Value.string ⟨k.toArray⟩)) (h1 : ∀ x ∈ ms.toList, x.born < ck) (h2 : (ms.toList.map (·.born)).Nodup) (h3 : ks.Nodup) (h4 : ks.length ≤ 1000000) (h5 : ∀ k ∈ ks, k.length ≤ 1000000) :
    Calls Try.prog 53 #[.func (.func 72) #[] #[.pointer (some ⟨b, 0, none⟩)]] w (fun e w' => ∃ v t, e = .returned v ∧ w'.ownsRow w.heap.size t 1 v ks.length ((ks.mergeSort (fun x y => decide (x ≤ y))).map (fun k => Value.string ⟨k.toArray⟩)) ∧ (v = .slice none 0 0 ↔ ks = []) ∧ Below w.heap.size w w') := by
  refine (callsIn_wide (n := 5)).1 ?_
  have hlen : ms.size = ks.length := by
    have := congrArg List.length hk
    simpa using this
  let R : Value → Option (DataW Unit × List MemPlace) := fun _ => some (.nil, [])
  have hread : ∀ x ∈ ms.toList, ∃ k ∈ ks, x.key = .string ⟨k.toArray⟩ ∧ WideElems.rd Try.prog 9 R x = some (.string k, .nil) := fun x hx => by
    have : x.key ∈ ms.toList.map (·.key) := List.mem_map.2 ⟨x, hx, rfl⟩
    rw [hk] at this
    obtain ⟨k, hk1, hk2⟩ := List.mem_map.1 this
    refine ⟨k, hk1, hk2.symm, ?_⟩
    have hl := h5 k hk1
    have e1 : keyOf Try.prog 9 x.key = some (.string k) := by
      rw [← hk2]
      rw [Go.WideMaps.keyOf_string_mk Try.underlying9 (by show k.toArray.size ≤ _; simp only [List.size_toArray]; unfold maxLen; omega)]
    simp only [WideElems.rd, e1, Option.bind_some, R, Option.map_some]
  have hfit : Fit Try.prog 9 R ms ck := ⟨by rw [hlen]; unfold maxLen; omega, ⟨h1, h2, by
    rw [hk]
    exact List.Nodup.map' (fun a b e => by simpa using e) h3⟩, fun x hx => by
    obtain ⟨k, -, -, e⟩ := hread x hx
    exact ⟨_, e⟩⟩
  have hown : w.ownsMap Try.prog 9 R bm ms.size (.map ((ms.toList.map (rg Try.prog 9 R)).foldr DataW.insert [])) := ⟨ms, ck, hm, hfit, Nat.le_refl _, rfl⟩
  have hkeys : (strKeys (DataW.map ((ms.toList.map (rg Try.prog 9 R)).foldr DataW.insert []))).Perm ks := by
    show (List.map (fun p => strOf p.1) ((ms.toList.map (rg Try.prog 9 R)).foldr DataW.insert [])).Perm ks
    refine ((sort_perm _).map _).trans ?_
    rw [List.map_map]
    have : ms.toList.map ((fun p => strOf p.1) ∘ rg Try.prog 9 R) = ks := by
      have e2 : ms.toList.map ((fun p => strOf p.1) ∘ rg Try.prog 9 R) = ms.toList.map (fun x => match x.key with | .string s => s.data.toList | _ => []) := List.map_congr_left (fun x hx => by
        obtain ⟨k, -, e3, e⟩ := hread x hx
        simp only [Function.comp_apply, rg, e, Option.getD_some, strOf, e3])
      rw [e2]
      have e4 : ms.toList.map (fun x => match x.key with | .string s => s.data.toList | _ => []) = (ms.toList.map (·.key)).map (fun v => match v with | Value.string s => s.data.toList | _ => []) := by rw [List.map_map]; rfl
      rw [e4, hk, List.map_map]
      conv => rhs; rw [← List.map_id ks]
      exact List.map_congr_left (fun k _ => rfl)
    rw [this]
  have hsz : Maps.size (DataW.map ((ms.toList.map (rg Try.prog 9 R)).foldr DataW.insert [])) = ks.length := by
    show ((ms.toList.map (rg Try.prog 9 R)).foldr DataW.insert []).length = _
    rw [(sort_perm _).length_eq]
    simp [hlen]
  have hseq : SeqGives Fence.wide 2 Try.prog 72 #[.pointer (some ⟨b, 0, none⟩)] encStr (fun ss => ss.Perm (strKeys (DataW.map ((ms.toList.map (rg Try.prog 9 R)).foldr DataW.insert [])))) ks.length w := by
    have := AnyZ.keys_gives (ρ := Try.keysA_ren) { Try.keysA with } Fence.wide 2 trivial rfl (by omega) b bm ms.size _ w hb hc hown
    rw [hsz] at this
    exact this
  have cS := AnyZ.sorted_in Try.sortedA Fence.wide 5 trivial trivial trivial trivial rfl (by omega) (Try.sortsA _) (enters_of Try.func71 (by kernel_rfl) rfl) 72 #[.pointer (some ⟨b, 0, none⟩)] trivial (enters_of Try.func72 (by kernel_rfl) rfl) _ ks.length (by unfold maxLen; omega) (by omega) w hseq
  change CallsIn _ _ Try.prog 53 _ _ _ at cS
  refine cS.mono ?_
  rintro e w' ⟨v, ss, rfl, hS, hrow, hnil, hbel⟩
  have hp : ss.Perm ks := hS.trans hkeys
  refine ⟨v, 9, rfl, ?_, ?_, hbel⟩
  · have e1 : ss.mergeSort (fun x y => decide (x ≤ y)) = ks.mergeSort (fun x y => decide (x ≤ y)) := mergeSort_of_perm hp
    rw [e1, hp.length_eq] at hrow
    exact hrow
  · rw [hnil]
    constructor
    · rintro rfl; exact List.nil_perm.1 hp
    · rintro rfl; exact List.perm_nil.1 hp
end Go.Proofs
namespace Go.Am.Dk
open Go.Am
theorem sorted_ok : SortedOk L 53 72 := fun w b bm ms ck ks h0 h1 h2 h3 h4 h5 h6 h7 h8 => Go.Proofs.Try.sorted_walk w b bm ms ck ks h0 h1 h2 h3 h4 h5 h6 h7 h8
theorem sorted_prim : CallSim L (sortedOn 53 72) := sorted_sim sorted_ok
end Go.Am.Dk
/- Boot, as a call in a heap. -/
namespace Go.Am.Dk
open Go.Am
set_option maxRecDepth 20000
set_option maxHeartbeats 1000000
theorem boot_funR {P : Prog} (hn : P.fn 21 = none) (hp : P.pure 21 = 0) (hb : ∀ args h r, bootF args h = some r → P.prim 21 args h = some r) {h : Heap} {d : Nat} {σ : DSt} {y : Lay} (hD : DiskAt h d σ y) (turns : Int) (keep : List Int) (n full : Bool) (hall : σ.all.length ≤ 1000000000) (hw : σ.waits.length ≤ 1000000000) (hsu : ∀ f ∈ σ.all, (σ.file f).sure ≤ (σ.file f).b.length ∧ (σ.file f).b.length ≤ 1000000000000) (hk : keep.length ≤ 9223372036854775807 ∧ ∀ z ∈ keep, -9223372036854775808 ≤ z ∧ z ≤ 9223372036854775807) :
    Fun P 21 [.ptr d 0, .int .i64 turns, slv n full keep] h (fun v h' => v = .int .i64 (bootR σ turns keep).1 ∧ ∃ y', Step h h' d σ y (bootR σ turns keep).2 y') := by
  obtain ⟨H, y', e, hst⟩ := bootF_eq hD turns keep n full hall hw hsu hk
  exact Fun.prim hn hp (hb _ _ _ e) ⟨rfl, y', hst⟩
end Go.Am.Dk
/- List: the names, sorted. -/
namespace Go.Am.Dk
open Go.Am
set_option maxRecDepth 20000
set_option maxHeartbeats 1000000
variable {P : Prog}
structure DkR (P : Prog) : Prop extends DkQ P where
  list24 : P.fn 24 = some a24
  none53 : P.fn 53 = none
  sorted : ∀ args h r, sortedOn 53 72 53 args h = some r → P.prim 53 args h = some r
  none21 : P.fn 21 = none
  boot : ∀ args h r, bootF args h = some r → P.prim 21 args h = some r
def listS (σ : DSt) : List (List UInt8) := if σ.dead then [] else (σ.names.map (·.1)).mergeSort leT
theorem listD_fun (hP : DkR P) (h : Heap) (d : Nat) (σ : DSt) (y : Lay) (hD : DiskAt h d σ y) (hl : σ.names.length ≤ 1000000) (hn : ∀ p ∈ σ.names, p.1.length ≤ 1000000) :
    Fun P 24 [.ptr d 0] h (fun v h' => v = slv true false (listS σ) ∧ Ext h h') := by
  have hd := hD.disk
  simp only [DSt.cells] at hd
  refine Fun.of (code := a24c) hP.list24 (by rw [hP.pure]; rfl) ?_
  simp (disch := omega) only [go_sem, a24c, a24r0]
  simp (disch := omega) only [go_sem, a24r1, hd]
  unfold listS
  cases hdd : σ.dead with
  | true =>
    simp (disch := omega) only [go_sem]
    simp (disch := omega) only [go_sem, a24r2]
    exact ⟨rfl, Ext.refl h⟩
  | false =>
    simp (disch := omega) only [go_sem]
    simp (disch := omega) only [go_sem, a24r3, hd]
    have keysF : Fun P 54 [.mp y.m] h (fun v h' => v = .fn 72 [.ptr h.next 0] ∧ h' = (h.reserve 1).put h.next (.cells [.mp y.m])) := by
      refine Fun.of (code := a54c) (hP.toDkP.code rfl) (by rw [hP.pure]; rfl) ?_
      simp (disch := omega) only [go_sem, a54c, a54r0]
      simp (disch := omega) only [go_sem, a54r1]
    refine WO.fun (vs := [.mp y.m]) (by simp (disch := omega) only [go_sem]) keysF (fun v h' hv => ?_)
    obtain ⟨rfl, rfl⟩ := hv
    simp (disch := omega) only [go_sem]
    obtain ⟨bs, ck, hm, hs⟩ := hD.names
    have hmlt := hD.lt y.m (Or.inr (Or.inl rfl))
    have hpr : P.prim 53 [.fn 72 [.ptr h.next 0]] ((h.reserve 1).put h.next (.cells [.mp y.m])) = some (slv true false ((σ.names.map (·.1)).mergeSort leT), (h.reserve 1).put h.next (.cells [.mp y.m])) := by
      refine hP.sorted _ _ _ ?_
      have b1 : Nat.beq 53 53 = true := rfl
      have b2 : Nat.beq 72 72 = true := rfl
      have g1 : ((h.reserve 1).put h.next (.cells [.mp y.m])).get h.next = some (.cells [.mp y.m]) := get_put_same _ _ _
      have g2 : ((h.reserve 1).put h.next (.cells [.mp y.m])).get y.m = some (.map (kv (fp σ.names)) bs ck) := by rw [get_put_ne _ _ _ _ (by omega), get_reserve]; exact hm
      have e1 : (fp σ.names).map (·.1) = σ.names.map (·.1) := by simp [fp, List.map_map, Function.comp_def]
      simp only [sortedOn, b1, b2, cond_true, g1, g2, keysA_kv, Option.bind_some, e1]
      rw [if_pos ⟨hD.ok.nd, hs.nd, hs.lt, by simpa using hl, fun k hk => by
        obtain ⟨p, hp, rfl⟩ := List.mem_map.1 hk
        exact hn p hp⟩]
    refine WO.fun (vs := [.fn 72 [.ptr h.next 0]]) (by simp (disch := omega) only [go_sem]) (Fun.prim (R := fun v h' => v = slv true false ((σ.names.map (·.1)).mergeSort leT) ∧ h' = (h.reserve 1).put h.next (.cells [.mp y.m])) hP.none53 (by rw [hP.pure]; rfl) hpr ⟨rfl, rfl⟩) (fun v h' hv => ?_)
    obtain ⟨rfl, rfl⟩ := hv
    simp (disch := omega) only [go_sem]
    exact ⟨by trivial, by show h.next ≤ h.next + 1; omega, fun i hi => by rw [get_put_ne _ _ _ _ (by omega), get_reserve]⟩
end Go.Am.Dk
/- Bulk: how many bytes files have. -/
namespace Go.Am.Dk
open Go.Am
set_option maxRecDepth 20000
set_option maxHeartbeats 1000000
variable {P : Prog}
def sumX (fs : List FileV) : Nat := (fs.map (·.data.length)).sum
def OkFile (cap : Int) (fs : List FileV) (f : FileV) : Prop := nameL f.name = true ∧ f.name ∉ fs.map (·.name) ∧ ((sumX fs + f.data.length : Nat) : Int) ≤ cap
def NewOk (cap : Int) (fl : List FileV) : Prop := 0 ≤ cap ∧ cap ≤ 1048576 ∧ fl.length ≤ 64 ∧ ∀ k, k < fl.length → OkFile cap (fl.take k) (fl.getD k default)
def Small (l : List FileV) : Prop := l.length ≤ 2000 ∧ ∀ f ∈ l, f.name.length ≤ 2000 ∧ f.data.length ≤ 2000
theorem bulk_den (hP : DkP P) (l : List FileV) (nl full : Bool) (hl : l.length ≤ 9223372036854775807) (hw : ∀ f ∈ l, f.name.length ≤ 9223372036854775807 ∧ f.data.length ≤ 9223372036854775807) :
    Den P 22 [slv nl full l, .int .i64 2000] (fun v => ∃ k : Int, v = .int .i64 k ∧ (¬ 2000 < k → Small l)) := by
  refine Den.of (code := a22c) (hP.code rfl) (fun N => ?_)
  simp (disch := omega) only [go_sem, a22c, a22r0]
  simp (disch := omega) only [go_sem, a22r1]
  simp (disch := omega) only [go_sem, a22r2]
  refine Wp_loop (fun x : Nat × Nat × Nat => x.2.2 ≤ l.length ∧ x.2.1 ≤ 6003 ∧ x.2.2 ≤ x.2.1 ∧ ∀ f ∈ l.take x.2.2, min f.name.length 2001 ≤ x.2.1 ∧ min f.data.length 2001 ≤ x.2.1) (fun (t, n, k) => { fr := [(0, slv nl full l), (1, .int .i64 2000), (5, .int .i64 n), (6, .int .i64 k)], st := t, h := { next := N, m := .leaf } }) (fun x => l.length - x.2.2) (0, 0, 0) rfl ⟨by simp, by simp, by simp, by simp⟩ ?_
  rintro ⟨t, n, k⟩ ⟨h1, h2, h3, h4⟩
  simp only at h1 h2 h3 h4
  simp (disch := omega) only [go_sem, a22l0, a22r3]
  refine guardS_pt (fun c1 w1 => ?_) (fun c1 w1 => ?_) <;> simp (disch := omega) only [go_sem, w1]
  · refine condS_if (fun c2 => ?_) (fun c2 => ?_)
    · have hk : k < l.length := by omega
      have hm : l.getD k default ∈ l := by
        rw [List.getD_eq_getElem?_getD, List.getElem?_eq_getElem hk]
        exact List.getElem_mem hk
      have hwk := hw _ hm
      simp (disch := omega) only [go_sem, a22d4]
      simp (disch := omega) only [go_sem, a22r5]
      have e : (n : Int) + 1 + min ((l.getD k default).data.length : Int) 2001 + min ((l.getD k default).name.length : Int) 2001 = ((n + 1 + min (l.getD k default).data.length 2001 + min (l.getD k default).name.length 2001 : Nat) : Int) := by omega
      rw [e]
      refine ⟨(t + 1, n + 1 + min (l.getD k default).data.length 2001 + min (l.getD k default).name.length 2001, k + 1), ⟨by simp only; omega, by simp only; omega, by simp only; omega, fun f hf => ?_⟩, by simp only; omega, rfl⟩
      simp only at hf ⊢
      rw [List.take_succ_eq_append_getElem hk, List.mem_append, List.mem_singleton] at hf
      rcases hf with hf | hf
      · have := h4 f hf
        omega
      · have e2 : l.getD k default = f := by
          rw [hf, List.getD_eq_getElem?_getD, List.getElem?_eq_getElem hk]; rfl
        rw [e2]
        omega
    · simp (disch := omega) only [go_sem, a22r6]
      exact ⟨_, rfl, fun h => by omega⟩
  · simp (disch := omega) only [go_sem, a22r6]
    refine ⟨_, rfl, fun h => ⟨by omega, fun f hf => ?_⟩⟩
    rw [List.take_of_length_le (by omega)] at h4
    have := h4 f hf
    omega
end Go.Am.Dk
/- The document's disk: New. -/
namespace Go.Am.Dk
open Go.Am
set_option maxRecDepth 20000
set_option maxHeartbeats 2000000
variable {P : Prog}
theorem findL_skip (s : List UInt8) (e : REnt) (he : e.s ≠ s) : ∀ (a r : List REnt), findL (a ++ e :: r) s = findL (a ++ r) s
  | [], r => by rw [List.nil_append, List.nil_append, findL, if_neg he]
  | b :: a, r => by
    rw [List.cons_append, List.cons_append, findL, findL, findL_skip s e he a r]
theorem putF_ne {x : REnt} {s : List UInt8} (hs : x.s ≠ s) : ∀ (l : List REnt) (a : List REnt × Bool), findL (l.foldl (putStep x) a).1 s = findL (a.1 ++ l) s
  | [], a => by simp
  | e :: r, a => by
    rw [List.foldl_cons, putF_ne hs r]
    unfold putStep
    split
    · rename_i h
      rw [findL_skip s e (by rw [h]; exact hs)]
    · split
      · simp only [List.append_assoc]
        show findL (a.1 ++ x :: (e :: r)) s = _
        rw [findL_skip s x hs]
      · simp only [List.append_assoc, List.singleton_append]
def PutGood (x : REnt) (a : List REnt × Bool) : Prop := (a.2 = true → ∃ p q, a.1 = p ++ x :: q ∧ ∀ e ∈ p, e.s ≠ x.s) ∧ (a.2 = false → ∀ e ∈ a.1, e.s ≠ x.s)
theorem putF_good {x : REnt} : ∀ (l : List REnt) (a : List REnt × Bool), PutGood x a → PutGood x (l.foldl (putStep x) a)
  | [], a, h => h
  | e :: r, a, h => by
    rw [List.foldl_cons]
    refine putF_good r _ ?_
    unfold putStep
    split
    · exact h
    · rename_i hne
      split
      · rename_i hc
        have hd : a.2 = false := by cases h2 : a.2 <;> simp [h2] at hc ⊢
        refine ⟨fun _ => ⟨a.1, [e], by simp, h.2 hd⟩, fun h2 => by simp at h2⟩
      · refine ⟨fun h2 => ?_, fun h2 b hb => ?_⟩
        · obtain ⟨p, q, h3, h4⟩ := h.1 h2
          exact ⟨p, q ++ [e], by simp only; rw [h3]; simp, h4⟩
        · rcases List.mem_append.1 hb with hb | hb
          · exact h.2 h2 b hb
          · rw [List.mem_singleton.1 hb]; exact hne
theorem findL_putL (l : List REnt) (x : REnt) (s : List UInt8) : findL (putL l x) s = if x.s = s then x.n else findL l s := by
  by_cases hs : x.s = s
  · rw [if_pos hs]
    subst hs
    have hg : PutGood x (putF l x) := putF_good l _ ⟨fun h => by simp at h, fun _ e he => by simp at he⟩
    unfold putL
    split
    · rename_i h
      obtain ⟨p, q, h3, h4⟩ := hg.1 h
      rw [h3, findL_app _ _ _ h4, findL, if_pos rfl]
    · rename_i h
      rw [findL_app _ _ _ (hg.2 (by simpa using h)), findL, if_pos rfl]
  · rw [if_neg hs]
    have h1 := putF_ne hs l ([], false)
    rw [List.nil_append] at h1
    unfold putL
    split
    · exact h1
    · rw [findL_skip s x hs _ [], List.append_nil]; exact h1
def nowF (fl : List FileV) : Nat → List REnt
  | 0 => []
  | k + 1 => putL (nowF fl k) ⟨(fl.getD k default).name, k⟩
theorem nowF_len (fl : List FileV) : ∀ k, (nowF fl k).length ≤ k
  | 0 => Nat.le_refl _
  | k + 1 => by
    have := nowF_len fl k
    have := putL_len (nowF fl k) ⟨(fl.getD k default).name, k⟩
    rw [nowF]; omega
theorem nowF_find (fl : List FileV) (s : List UInt8) : ∀ k, k ≤ fl.length → (0 ≤ findL (nowF fl k) s ↔ s ∈ (fl.take k).map (·.name))
  | 0, _ => by simp [nowF, findL]
  | k + 1, hk => by
    obtain ⟨b, hb⟩ : ∃ b, fl.getD k default = b := ⟨_, rfl⟩
    obtain ⟨t1, t2, t3⟩ := take_snoc (show k < fl.length by omega) hb
    rw [nowF, findL_putL, t1, List.map_append, List.mem_append, hb]
    have ih := nowF_find fl s k (by omega)
    simp only [List.map_cons, List.map_nil, List.mem_singleton]
    split
    · rename_i h
      exact ⟨fun _ => Or.inr h.symm, fun _ => by omega⟩
    · rename_i h
      exact ih.trans ⟨Or.inl, fun h2 => h2.elim id (fun e => absurd e.symm h)⟩
def newRS (cap : Int) (fl : List FileV) : RSt := { files := fl.map (fun f => ⟨f.data, f.data.length⟩), now := nowF fl fl.length, sure := nowF fl fl.length, waits := [], cap := cap, dead := false, calls := 0, fuse := 0, fault := 0, e := 0 }
def rfOf (f : FileV) : RFile := ⟨slv f.nl false f.data, f.data.length⟩
theorem newRR_fun (hP : DkP P) (fl : List FileV) (nl : Bool) (cap : Int) (h : Heap) (hlen : fl.length ≤ 9223372036854775807) (hsm : ∀ f ∈ fl, f.name.length ≤ 2000 ∧ f.data.length ≤ 2000) :
    Fun P 25 [slv nl false fl, .int .i64 cap] h (fun v h' => (v = .nilp ∧ ¬ NewOk cap fl ∨ NewOk cap fl ∧ ∃ y, v = .ptr h.next 0 ∧ RefAt h' h.next (newRS cap fl) y ∧ ∀ o, RefOwn y o → h.next ≤ o) ∧ Ext h h') := by
  refine Fun.of (code := a25c) (hP.code rfl) (by rw [hP.pure]; rfl) ?_
  simp (disch := omega) only [go_sem, a25c, a25r0]
  simp (disch := omega) only [go_sem, a25r1]
  refine guardS_pf (fun c1 w1 => ?_) (fun c1 w1 => ?_) <;> simp (disch := omega) only [go_sem, w1]
  rotate_left
  · simp (disch := omega) only [go_sem, a25r2]
    exact ⟨Or.inl ⟨by trivial, fun hn => by have := hn.1; omega⟩, Ext.refl h⟩
  refine guardS_pf (fun c2 w2 => ?_) (fun c2 w2 => ?_) <;> simp (disch := omega) only [go_sem, w2]
  rotate_left
  · simp (disch := omega) only [go_sem, a25r2]
    exact ⟨Or.inl ⟨by trivial, fun hn => by have := hn.2.1; omega⟩, Ext.refl h⟩
  refine condS_if (fun c3 => ?_) (fun c3 => ?_)
  · simp (disch := omega) only [go_sem, a25r2]
    exact ⟨Or.inl ⟨by trivial, fun hn => by have := hn.2.2.1; omega⟩, Ext.refl h⟩
  simp (disch := omega) only [go_sem, a25r3]
  simp (disch := omega) only [go_sem, a25r4]
  simp (disch := omega) only [go_sem, a25r5]
  have hE : Ext h ((h.reserve 1).put h.next (.cells [.nils, .nils, .nils, .nils, .int .i64 cap, .bool false, .int .i64 0, .int .i64 0, .int .i64 0, .int .i64 0])) := ⟨by show h.next ≤ h.next + 1; omega, fun i hi => by rw [get_put_ne _ _ _ _ (by omega), get_reserve]⟩
  refine Wp_loop (fun z : Fr × Nat × Nat × Heap × AV × AV => z.2.2.1 ≤ fl.length ∧ (fget z.1 0 = some (slv nl false fl) ∧ fget z.1 1 = some (.int .i64 cap) ∧ fget z.1 5 = some (.ptr h.next 0) ∧ fget z.1 6 = some (.int .i64 (sumX (fl.take z.2.2.1))) ∧ fget z.1 7 = some (.int .i64 z.2.2.1)) ∧
      z.2.2.2.1.get h.next = some (.cells [z.2.2.2.2.1, z.2.2.2.2.2, .nils, .nils, .int .i64 cap, .bool false, .int .i64 0, .int .i64 0, .int .i64 0, .int .i64 0]) ∧ h.next < z.2.2.2.1.next ∧ Ext h z.2.2.2.1 ∧ Has z.2.2.2.1 z.2.2.2.2.1 ((fl.take z.2.2.1).map rfOf) ∧ Has z.2.2.2.1 z.2.2.2.2.2 (nowF fl z.2.2.1) ∧
      (∀ o, rowOf z.2.2.2.2.1 = some o → h.next < o) ∧ (∀ o, rowOf z.2.2.2.2.2 = some o → h.next < o ∧ rowOf z.2.2.2.2.1 ≠ some o) ∧ (∀ k, k < z.2.2.1 → OkFile cap (fl.take k) (fl.getD k default)) ∧ ((sumX (fl.take z.2.2.1) : Nat) : Int) ≤ cap)
    (fun z => { fr := z.1, st := z.2.1, h := z.2.2.2.1 }) (fun z => fl.length - z.2.2.1) (_, 0, 0, _, .nils, .nils) rfl ⟨Nat.zero_le _, ⟨by simp (disch := omega) only [go_sem], by simp (disch := omega) only [go_sem], by simp (disch := omega) only [go_sem], rfl, rfl⟩, get_put_same _ _ _, by show h.next < h.next + 1; omega, hE, Has.nil _, Has.nil _, fun o ho => by simp [rowOf] at ho, fun o ho => by simp [rowOf] at ho, fun k hk => by simp at hk, by simp [sumX]; omega⟩ ?_
  rintro ⟨fr, t, k, hx, fv, nv⟩ ⟨i1, ⟨f0, f1, f5, f6, f7⟩, hg, hlt, hxx, i4, i5, i6, i7, i8, i9⟩
  simp only at i1 f0 f1 f5 f6 f7 hg hlt hxx i4 i5 i6 i7 i8 i9
  have fev := i4.ev
  have fdt := i4.dt
  have nev := i5.ev
  have ndt := i5.dt
  simp (disch := omega) only [go_sem, a25l0, a25r6, f0, f1, f5, f6, f7, fget_keepV]
  refine condS_if (fun c => ?_) (fun c => ?_)
  · have hk : k < fl.length := by omega
    obtain ⟨f, hf⟩ : ∃ f, fl.getD k default = f := ⟨_, rfl⟩
    obtain ⟨t1, t2, t3⟩ := take_snoc hk hf
    obtain ⟨m1, m2⟩ := hsm f t3
    have lkt : ∀ x : Option AV, lookG (some (.bool true)) false x = some undefA := fun _ => rfl
    have lku2 : lookE 40 (some (.tup [])) (some (.tup [])) = true := rfl
    have lku : lookE 40 (some undefA) (some undefA) = true := rfl
    have hnl := nowF_len fl k
    simp (disch := omega) only [go_sem, a25r7, hf]
    simp (disch := omega) only [go_sem, a25d8, hg]
    have hsp : sumX (fl.take (k + 1)) = sumX (fl.take k) + f.data.length := by rw [t1]; simp [sumX]
    have hle : sumX (fl.take k) ≤ 1048576 + 2000 ∨ True := Or.inr trivial
    refine WD_den (k := 1) (vs := [strv f.name]) (by rw [hP.pure]; rfl) (by simp (disch := omega) only [go_sem]) (R := fun v => v = .bool (nameL f.name)) ?_ (fun v hv => by subst hv; rfl) (fun v hv => rfl) (fun v hv => ?_)
    · simp only [lent_11, List.map_cons, List.map_nil, frz_str]
      exact nameR_exact hP f.name (by omega)
    subst hv
    have bad : ¬ OkFile cap (fl.take k) f → (True ∧ ¬ NewOk cap fl ∨ NewOk cap fl ∧ ∃ y, AV.nilp = .ptr h.next 0 ∧ RefAt hx h.next (newRS cap fl) y ∧ ∀ o, RefOwn y o → h.next ≤ o) ∧ Ext h hx := fun hb => ⟨Or.inl ⟨trivial, fun hn => hb (by have := hn.2.2.2 k hk; rw [hf] at this; exact this)⟩, hxx⟩
    cases hnm : nameL f.name with
    | false =>
      simp (disch := omega) only [go_sem, hg]
      simp (disch := omega) only [go_sem, a25r9]
      exact bad (fun ho => by have := ho.1; rw [hnm] at this; simp at this)
    | true =>
      simp (disch := omega) only [go_sem, hg, nev, ndt]
      refine WD_fun (vs := [nv, strv f.name]) (by simp (disch := omega) only [go_sem, nev, ndt]) (find_fun hP (nowF fl k) f.name nv hx i5.1 (by omega)) (fun r h' hr => rfl) (fun r h' hr => ?_)
      obtain ⟨rfl, rfl⟩ := hr
      have hfind := nowF_find fl f.name k (by omega)
      simp (disch := omega) only [go_sem]
      by_cases c2 : 0 ≤ findL (nowF fl k) f.name
      · simp (disch := omega) only [go_sem, decide_eq_true c2]
        simp (disch := omega) only [go_sem, a25r9]
        exact bad (fun ho => ho.2.1 (hfind.1 c2))
      · simp (disch := omega) only [go_sem, decide_eq_false c2]
        refine condS_if (fun c3 => ?_) (fun c3 => ?_)
        · simp (disch := omega) only [go_sem, a25r9]
          exact bad (fun ho => by have := ho.2.2; omega)
        · have hok : OkFile cap (fl.take k) f := ⟨hnm, fun hm => c2 (hfind.2 hm), by omega⟩
          simp (disch := omega) only [go_sem, a25r10]
          simp (disch := omega) only [go_sem, a25d11, hg, fev, fdt]
          refine dSP_app (α := RFile) (bytes := 32) (l := (fl.take k).map rfOf) (new := [rfOf f]) (i4.1.keep (fun o ho => get_reserve _ _ _)) (addsC_one _ _ _ _ rfl) rfl (by simp only [two47, List.length_map, List.length_take, List.length_singleton]; omega) (fun v' h3 hr3 hn3 ho3 hf3 hnn => ?_)
          have n3 : h3.next = h'.next + 1 := hn3
          have v'r : ∀ o, rowOf v' = some o → rowOf fv = some o ∨ o = h'.next := fun o ho => by
            rcases ho3 with e | e
            · exact Or.inl (by rw [← e]; exact ho)
            · rw [e] at ho; exact Or.inr (Option.some.inj ho).symm
          have g3 : ∀ q, q < h'.next → rowOf fv ≠ some q → h3.get q = h'.get q := fun q h5 h6 => (hf3 q (by omega) h6).trans (get_reserve _ _ _)
          have hg3 : h3.get h.next = _ := (g3 h.next hlt (fun e => by have := i6 _ e; omega)).trans hg
          have hev := hr3.ev
          have hdt := hr3.dt
          have hcl : v'.cellsOf = [v'] := by rcases hr3 with ⟨rfl, -⟩ | ⟨o, ep, j, rfl, -⟩ <;> rfl
          simp (disch := omega) only [go_sem, hev, hdt]
          refine WD_storeP (val := v') (off := 0) (o := h.next) (c' := [v', nv, .nils, .nils, .int .i64 cap, .bool false, .int .i64 0, .int .i64 0, .int .i64 0, .int .i64 0]) (by simp (disch := omega) only [go_sem]) (by simp (disch := omega) only [go_sem, hev, hdt]) (by rw [hcl]; rfl) hg3 (by rw [hcl]; rfl) rfl ?_
          simp (disch := omega) only [go_sem]
          simp (disch := omega) only [go_sem, a25d12, get_put_same, nev, ndt]
          have nvk : Has (h3.put h.next (.cells [v', nv, .nils, .nils, .int .i64 cap, .bool false, .int .i64 0, .int .i64 0, .int .i64 0, .int .i64 0])) nv (nowF fl k) := i5.keep (by show h'.next ≤ h3.next; omega) (fun o ho => by
            have h5 := i5.2 o ho
            have h6 := i7 o ho
            rw [get_put_ne _ _ _ _ (by omega), g3 o h5 h6.2])
          refine WD_fun (vs := [nv, .agg [strv f.name, .int .i64 k]]) (by simp (disch := omega) only [go_sem, nev, ndt]) (put_fun hP (nowF fl k) ⟨f.name, k⟩ nv _ nvk (by omega)) (fun r h4 hr => rfl) (fun r h4 hr => ?_)
          have rev := hr.1.ev
          have rdt := hr.1.dt
          have rcl := hr.1.cl
          have hx4 : h3.next ≤ h4.next := hr.2.2.1
          have g4 : ∀ q, q < h3.next → h4.get q = (h3.put h.next (.cells [v', nv, .nils, .nils, .int .i64 cap, .bool false, .int .i64 0, .int .i64 0, .int .i64 0, .int .i64 0])).get q := fun q hq => hr.2.2.2 q hq
          have hg4 : h4.get h.next = _ := (g4 h.next (by omega)).trans (get_put_same _ _ _)
          simp (disch := omega) only [go_sem, rev, rdt]
          refine WD_storeP (val := r) (off := 1) (o := h.next) (c' := [v', r, .nils, .nils, .int .i64 cap, .bool false, .int .i64 0, .int .i64 0, .int .i64 0, .int .i64 0]) (by simp (disch := omega) only [go_sem]) (by simp (disch := omega) only [go_sem, rev, rdt]) (by rw [rcl]; rfl) hg4 (by rw [rcl]; rfl) rfl ?_
          simp (disch := omega) only [go_sem]
          simp (disch := omega) only [go_sem, a25r13]
          have eput : nowF fl (k + 1) = putL (nowF fl k) ⟨f.name, k⟩ := by rw [nowF, hf]
          have erf : (fl.take (k + 1)).map rfOf = (fl.take k).map rfOf ++ [rfOf f] := by rw [t1]; simp
          have esum : ((sumX (fl.take k) : Nat) : Int) + f.data.length = ((sumX (fl.take (k + 1)) : Nat) : Int) := by omega
          rw [esum]
          have keepx : ∀ c q, q ≠ h.next → (h4.put h.next c).get q = h4.get q := fun c q hq => get_put_ne _ _ _ _ hq
          refine ⟨(_, t + 1 + 1 + 1 + 1, k + 1, h4.put h.next (.cells [v', r, .nils, .nils, .int .i64 cap, .bool false, .int .i64 0, .int .i64 0, .int .i64 0, .int .i64 0]), v', r), ⟨by simp only; omega, ⟨by simp (disch := omega) only [go_sem], by simp (disch := omega) only [go_sem], by simp (disch := omega) only [go_sem], by simp (disch := omega) only [go_sem], by simp (disch := omega) only [go_sem]; rfl⟩, get_put_same _ _ _, by show h.next < h4.next; omega, ⟨by show h.next ≤ h4.next; omega, fun q hq => ?_⟩, ?_, ?_, fun o ho => ?_, fun o ho => ?_, fun j hj => ?_, by simp only; omega⟩, by simp only; omega, rfl⟩
          · show (h4.put h.next _).get q = _
            rw [keepx _ _ (by omega), g4 q (by omega), get_put_ne _ _ _ _ (by omega), g3 q (by omega) (fun e => by have := i6 _ e; omega), hxx.2 q hq]
          · simp only
            rw [erf]
            refine ⟨hr3.keep (fun o ho => ?_), fun o ho => ?_⟩
            · rcases v'r o ho with e | e
              · have h5 := i6 o e
                have h6 := i4.2 o e
                rw [keepx _ _ (by omega), g4 o (by omega), get_put_ne _ _ _ _ (by omega)]
              · rw [keepx _ _ (by omega), g4 o (by omega), get_put_ne _ _ _ _ (by omega)]
            · show o < h4.next
              rcases v'r o ho with e | e
              · have h6 := i4.2 o e; omega
              · omega
          · simp only
            rw [eput]
            exact hr.1.keep (Nat.le_refl _) (fun o ho => keepx _ _ (by have h5 : h3.next ≤ o := hr.2.1 o ho; omega))
          · simp only at ho
            rcases v'r o ho with e | e
            · exact i6 o e
            · omega
          · simp only at ho ⊢
            have h5 : h3.next ≤ o := hr.2.1 o ho
            refine ⟨by omega, fun e => ?_⟩
            rcases v'r o e with e2 | e2
            · have h6 := i4.2 o e2; omega
            · omega
          · simp only at hj
            by_cases e : j < k
            · exact i8 j e
            · obtain rfl : j = k := by omega
              rw [hf]; exact hok
  · have hkl : k = fl.length := by omega
    subst hkl
    rw [List.take_length] at i4
    simp (disch := omega) only [go_sem]
    have ncl := i5.cl
    simp (disch := omega) only [go_sem, a25r14, hg, nev, ndt, ncl]
    simp (disch := omega) only [go_sem, a25r15]
    refine ⟨Or.inr ⟨⟨by omega, by omega, by omega, i8⟩, ⟨fv, nv, nv, .nils, fl.map rfOf⟩, by trivial, ?_, fun o ho => ?_⟩, ⟨by show h.next ≤ hx.next; omega, fun q hq => by rw [get_put_ne _ _ _ _ (by omega)]; exact hxx.2 q hq⟩⟩
    rotate_left
    · rcases ho with ho | ho | ho | ho | ⟨r, hr, ho⟩
      · have := i6 o ho; omega
      · have := (i7 o ho).1; omega
      · have := (i7 o ho).1; omega
      · simp [rowOf] at ho
      · obtain ⟨f, hf, rfl⟩ := List.mem_map.1 hr
        have ho : rowOf (slv f.nl false f.data) = some o := ho
        rcases slv_cases f.nl false f.data with ⟨e, -⟩ | e <;> rw [e] at ho <;> simp [rowOf] at ho
    refine RefAt.set hg hlt (newRS cap fl) ⟨fv, nv, nv, .nils, fl.map rfOf⟩ i4 (by simp [newRS]) (fun j hj => ?_) i5 i5 (Has.nil _)
    have hj' : j < fl.length := by simpa [newRS] using hj
    have e1 : (fl.map rfOf).getD j default = rfOf fl[j] := by simp [List.getD_eq_getElem?_getD, hj']
    have e2 : (newRS cap fl).files.getD j default = ⟨fl[j].data, fl[j].data.length⟩ := by simp [newRS, List.getD_eq_getElem?_getD, hj']
    show HoldX hx ((fl.map rfOf).getD j default).v _ ∧ _
    rw [e1, e2]
    exact ⟨Or.inl ⟨_, _, rfl⟩, rfl⟩
end Go.Am.Dk
/- The document's disk: List. -/
namespace Go.Am.Dk
open Go.Am
set_option maxRecDepth 20000
set_option maxHeartbeats 2000000
variable {P : Prog}
structure LFile where
  s : List UInt8
  v : AV
instance : Inhabited LFile := ⟨⟨[], .nils⟩⟩
instance celLFile : Cel LFile where
  csz := 2
  ccells x := [strv x.s, x.v]
  clen _ := rfl
def ListR (h : Heap) (ρ : RSt) (k : Nat) (lst : List LFile) : Prop := lst.length = k ∧ ∀ i, i < k → (lst.getD i default).s = (ρ.now.getD i default).s ∧ HoldX h (lst.getD i default).v (ρ.files.getD (ρ.now.getD i default).n.toNat default).b
theorem listRR_fun (hP : DkP P) (h : Heap) (x : Nat) (ρ : RSt) (y : RLay) (hx : RefAt h x ρ y) (hk : ROk ρ) : Fun P 57 [.ptr x 0] h (fun v h' => (∃ lst, Has h' v lst ∧ ListR h' ρ ρ.now.length lst) ∧ Ext h h') := by
  have hg := hx.cell
  simp only [RSt.cells] at hg
  have nev := hx.now.ev
  have ndt := hx.now.dt
  have nln := hx.now.len
  have ntg := hx.now.tag
  have hnl := hk.nl
  refine Fun.of (code := a57c) (hP.code rfl) (by rw [hP.pure]; rfl) ?_
  simp (disch := omega) only [go_sem, a57c, a57r0]
  simp (disch := omega) only [go_sem, a57r1]
  simp (disch := omega) only [go_sem, a57r2]
  refine Wp_loop (fun z : Nat × Nat × Heap × AV × List LFile => z.2.1 ≤ ρ.now.length ∧ Loc h z.2.2.1 z.2.2.2.1 z.2.2.2.2 ∧ ListR h ρ z.2.1 z.2.2.2.2) (fun z => { fr := [(0, .ptr x 0), (3, z.2.2.2.1), (4, .int .i64 z.2.1)], st := z.1, h := z.2.2.1 }) (fun z => ρ.now.length - z.2.1) (0, 0, h, .nils, []) rfl ⟨Nat.zero_le _, Loc.nil h, rfl, fun i hi => by simp at hi⟩ ?_
  rintro ⟨t, k, hx1, w, lst⟩ ⟨i1, i2, i3⟩
  simp only at i1 i2 i3
  have wev := i2.1.ev
  have wdt := i2.1.dt
  have hgx := (i2.2.2.2 x hx.lt).trans hg
  simp (disch := omega) only [go_sem, a57l0, a57r3, hgx, nev, ndt, nln, ntg, wev, wdt, cond_true]
  refine condS_if (fun c => ?_) (fun c => ?_)
  · have hkk : k < ρ.now.length := by omega
    have hne : ρ.now ≠ [] := fun e => by rw [e] at hkk; simp at hkk
    have hx2 := hx.ext i2.2.2
    obtain ⟨o, ep, j, hnv, hrow⟩ := hx2.now.1.resolve_left (fun e => hne e.2)
    have hcs : Cel.csz REnt = 2 := rfl
    obtain ⟨b, hb⟩ : ∃ b, ρ.now.getD k default = b := ⟨_, rfl⟩
    obtain ⟨b1, b2, b3⟩ := take_snoc hkk hb
    have ce : Cel.ccells b = [strv b.s, .int .i64 b.n] := rfl
    have l0 := ld_pre1 (α := REnt) (l := ρ.now) (j := j) (k := k) (f := 0) hkk (by decide)
    have l1 := ld_pre1 (α := REnt) (l := ρ.now) (j := j) (k := k) (f := 1) hkk (by decide)
    rw [hcs, hb, ce] at l0 l1
    simp only [Nat.add_zero, List.getD_cons_zero, List.getD_cons_succ] at l0 l1
    rw [hcs] at hrow hnv
    have hbi := hk.idx b b3
    obtain ⟨i, hi⟩ : ∃ i : Nat, b.n = (i : Int) := ⟨b.n.toNat, by omega⟩
    obtain ⟨o', ep', j', w', q1, q2, q3, q4, q5, q6, q7⟩ := hx2.row' (i := i) (by omega)
    obtain ⟨q1', q2', q3', w2, p1, p2, p3, p4, p5, p6, p7⟩ := hx.row' (i := i) (by omega)
    have ew : w2 = w' := congrArg RFile.v (p7.symm.trans q7)
    rw [ew] at p6
    have w'ev := q6.ev
    have w'dt := q6.dt
    have w'cl := q6.cl
    rw [hi] at l1
    rw [q1, hnv] at hgx
    simp (disch := omega) only [go_sem, a57d4, get_reserve, hgx, hrow, l0, l1, q2, q3, wev, wdt, w'ev, w'dt, w'cl]
    refine dSP_app (α := LFile) (bytes := 40) (l := lst) (new := [⟨b.s, w'⟩]) (i2.1.1.keep (fun o ho => get_reserve _ _ _)) (addsC_one _ _ _ _ rfl) rfl (by simp only [two47, i3.1, List.length_singleton]; omega) (fun v' h3 hr3 hn3 ho3 hf3 hnn => ?_)
    have L2 := i2.step hr3 hn3 ho3 hf3
    have hev := hr3.ev
    have hdt := hr3.dt
    simp (disch := omega) only [go_sem, hev, hdt]
    simp (disch := omega) only [go_sem, a57r5, hev, hdt]
    refine ⟨(t + 1, k + 1, h3, v', lst ++ [⟨b.s, w'⟩]), ⟨by simp only; omega, L2, by simp [i3.1], fun m hm => ?_⟩, by simp only; omega, rfl⟩
    simp only
    by_cases e : m < k
    · have h5 := i3.2 m e
      rw [List.getD_eq_getElem?_getD, List.getElem?_append_left (by rw [i3.1]; exact e), ← List.getD_eq_getElem?_getD]
      exact h5
    · have hm' : m < k + 1 := hm
      obtain rfl : m = k := by omega
      rw [List.getD_eq_getElem?_getD, List.getElem?_append_right (by rw [i3.1]; exact Nat.le_refl _), i3.1, Nat.sub_self, hb]
      refine ⟨rfl, ?_⟩
      rw [hi, Int.toNat_natCast]
      exact p6
  · simp (disch := omega) only [go_sem, a57r6, wev, wdt]
    have hkl : k = ρ.now.length := by omega
    subst hkl
    exact ⟨⟨lst, i2.1, i3.1, fun i hi => ⟨(i3.2 i hi).1, (i3.2 i hi).2.ext i2.2.2.1 (fun o ho => i2.2.2.2 o ((i3.2 i hi).2.lt o ho).1)⟩⟩, i2.2.2⟩
end Go.Am.Dk

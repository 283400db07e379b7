/- span.Apply as a function whose answer is told: its contract against the program. -/
import Derived.Test.YtggjkebeejpjfaaDoorSpApply
import Derived.Test.YtggjkebeejpjfaaDoorSpA
import Derived.Test.YtggjkebeejpjfaaDoorAmAll4
set_option linter.unusedSimpArgs false
set_option linter.unusedVariables false
namespace Go.Am.Sp
open Go.Am Go.Proofs

/-! ### Values of the abstract machine against the program's -/
theorem vr_int {g : Gh} {w : World} {k : IntKind} {n : Int} {v : Value} (h : VR L g w (.int k n) v) : v = .int k n := by cases h; rfl
theorem bsl_of {g : Gh} {w : World} {nl full : Bool} {b : List UInt8} {v : Value} (hi : ∀ b, g.ρ b = .imm → b < w.heap.size) (h : VR L g w (slv nl full b) v) : BSl w v b := by
  rcases slv_cases nl full b with ⟨e, h', -⟩ | e <;> rw [e] at h
  · cases h
    subst h'
    exact ⟨none, 0, rfl, Nat.le_refl _, fun _ => rfl, fun h => absurd rfl h⟩
  · generalize hn : b.length = n at h
    cases h with
    | sl0 _ _ _ ao cap hf hno => exact ⟨ao, cap, by rw [hn], by omega, hno, fun h => absurd hn h⟩
    | sl _ _ _ _ B a cap c hi' hcap hf hl hc hv =>
      refine ⟨some ⟨B, a, none⟩, cap, by rw [hn], by omega, (by simp), fun _ => ⟨B, a, rfl, hi B hi', fun i x hx => ?_⟩⟩
      have hin : i < n := by rw [← hn]; exact (List.getElem?_eq_some_iff.1 hx).1
      have e1 : (cellsAtL b i)[0]? = some (.int .u8 (x.toNat : Int)) := by simp only [cellsAtL, hx, cells_U8]; rfl
      have h1 := hc i 0 _ hin e1
      have h2 := hv i 0 _ hin e1
      simp only [sz_U8, Nat.mul_one, Nat.add_zero] at h1
      rw [h1.1, vr_int h2]
theorem esl_of {g : Gh} {w : World} {nl full : Bool} {l : List Edit} {v : Value} (hi : ∀ b, g.ρ b = .imm → b < w.heap.size) (h : VR L g w (slv nl full l) v) : ESl w v l := by
  rcases slv_cases nl full l with ⟨e, h', -⟩ | e <;> rw [e] at h
  · cases h
    subst h'
    exact ⟨none, 0, rfl, Nat.le_refl _, fun h => absurd rfl h⟩
  · generalize hn : l.length = n at h
    cases h with
    | sl0 _ _ _ ao cap hf hno => exact ⟨ao, cap, by rw [hn], by omega, fun h => absurd hn h⟩
    | sl _ _ _ _ B a cap c hi' hcap hf hl hc hv =>
      refine ⟨some ⟨B, a, none⟩, cap, by rw [hn], by omega, fun _ => ⟨B, a, rfl, hi B hi', fun i x hx => ?_⟩⟩
      have hin : i < n := by rw [← hn]; exact (List.getElem?_eq_some_iff.1 hx).1
      have e0 : (cellsAtL l i)[0]? = some (.int .i64 x.f) := by simp only [cellsAtL, hx, cells_Edit]; rfl
      have e1 : (cellsAtL l i)[1]? = some (.int .i64 x.t) := by simp only [cellsAtL, hx, cells_Edit]; rfl
      have e2 : (cellsAtL l i)[2]? = some (strv x.x) := by simp only [cellsAtL, hx, cells_Edit]; rfl
      have p0 := hc i 0 _ hin e0
      have p1 := hc i 1 _ hin e1
      have p2 := hc i 2 _ hin e2
      have q0 := hv i 0 _ hin e0
      have q1 := hv i 1 _ hin e1
      have q2 := hv i 2 _ hin e2
      simp only [sz_Edit, Nat.add_zero] at p0 p1 p2
      rw [p0.1, p1.1, p2.1, vr_int q0, vr_int q1]
      refine ⟨rfl, rfl, ?_⟩
      generalize hs : strv x.x = sv at q2
      generalize c i 2 = u at q2
      cases q2 <;> first | (simp only [strv] at hs; cases hs; done) | skip
      rename_i s
      simp only [strv, AV.str.injEq] at hs
      have := strv_inj hs
      rw [this]
/-- A row of bytes that a call has made. -/
theorem vr_owns {w : World} {B : Nat} {v : Value} {n : Nat} {out : List UInt8} {g : Gh} (h : w.ownsRow B 5 1 v n (Lib.byteCells out)) (hg : ∀ b, B ≤ b → b < w.heap.size → g.ρ b = .imm) : VR L g w (slv false false out) v := by
  obtain ⟨h1, h2⟩ := h
  rw [Lib.byteCells_length, Nat.mul_one] at h1
  subst h1
  show VR L g w (.sl 1 out.length (cellsAtL out) false) v
  rcases h2 with ⟨rfl, h0⟩ | ⟨gb, cap, cur, rfl, hB, hb, hnc, hcm, hcs, ht⟩
  · rw [h0]; exact .sl0 _ _ _ none 0 (by simp) (fun _ => rfl)
  · rw [Nat.mul_one] at hcs ht
    have hcell : ∀ i x, out[i]? = some x → w.cell? ⟨gb, 0 + i * 1 + 0, none⟩ = some (.int .u8 (x.toNat : Int)) := fun i x hx => by
      have hin : i < out.length := (List.getElem?_eq_some_iff.1 hx).1
      have e1 : (cur.toList.take out.length)[i]? = some (.int .u8 (x.toNat : Int)) := by
        rw [ht]; simp only [Lib.byteCells, List.getElem?_map, hx, Option.map_some]
      rw [List.getElem?_take, if_pos hin] at e1
      have e2 : cur[i]? = some (.int .u8 (x.toNat : Int)) := by simpa using e1
      simp only [World.cell?, hb, Nat.mul_one, Nat.zero_add, Nat.add_zero]
      simpa using e2
    have hone : ∀ i j y, i < out.length → (cellsAtL out i)[j]? = some y → j = 0 ∧ ∃ x, out[i]? = some x ∧ y = .int .u8 (x.toNat : Int) := fun i j y hi hy => by
      simp only [cellsAtL, List.getElem?_eq_getElem hi, cells_U8] at hy
      cases j with
      | zero => exact ⟨rfl, out[i], List.getElem?_eq_getElem hi, by simpa using hy.symm⟩
      | succ j => simp at hy
    refine VR.sl 1 out.length (cellsAtL out) false gb 0 cap (fun i j => (w.cell? ⟨gb, 0 + i * 1 + j, none⟩).getD undef) (hg gb hB (Array.getElem?_eq_some_iff.1 hb).1) hnc (by simp) (fun i hi => ?_) (fun i j y hi hy => ?_) (fun i j y hi hy => ?_)
    · simp only [cellsAtL, List.getElem?_eq_getElem hi, cells_U8]; rfl
    · obtain ⟨rfl, x, hx, rfl⟩ := hone i j y hi hy
      rw [hcell i x hx]
      exact ⟨rfl, rfl⟩
    · obtain ⟨rfl, x, hx, rfl⟩ := hone i j y hi hy
      simp only [hcell i x hx, Option.getD_some]
      exact .int _ _

/-! ### Apply -/
def applyRel (args : List AV) (v : AV) : Prop := ∃ (n1 f1 : Bool) (b : List UInt8) (n2 f2 : Bool) (l : List Edit), args = [slv n1 f1 b, slv n2 f2 l] ∧ b.length ≤ 1000000000000 ∧ l.length ≤ 9223372036854775807 ∧ (appD b 0 l).length ≤ 140737488355328 ∧ v = applyV b l
theorem applyRel_fun {args : List AV} {v v' : AV} (h : applyRel args v) (h' : applyRel args v') : v = v' := by
  obtain ⟨n1, f1, b, n2, f2, l, rfl, -, -, -, rfl⟩ := h
  obtain ⟨n1', f1', b', n2', f2', l', e, -, -, -, rfl⟩ := h'
  simp only [List.cons.injEq, and_true] at e
  rw [slv_inj u8_inj e.1, slv_inj edit_inj e.2]
open Classical in
noncomputable def applyF (args : List AV) : Option AV := if h : ∃ v, applyRel args v then some h.choose else none
theorem applyF_rel {args : List AV} {v : AV} (h : applyF args = some v) : applyRel args v := by
  unfold applyF at h
  split at h
  · rename_i hx
    obtain rfl := Option.some.inj h
    exact hx.choose_spec
  · simp at h
theorem applyF_of {args : List AV} {v : AV} (h : applyRel args v) : applyF args = some v := by
  unfold applyF
  rw [dif_pos ⟨v, h⟩]
  congr 1
  exact applyRel_fun (Exists.choose_spec (⟨v, h⟩ : ∃ v, applyRel args v)) h
noncomputable def P0 : Prog := { fn := code, prim := noPrim, pure := pures }
theorem sp0 : SpP P0 := ⟨rfl, fun _ _ => rfl⟩
theorem apply_ok : PrimOk L 11 applyF := by
  intro args v hF g w vals hi ha
  obtain ⟨n1, f1, b, n2, f2, l, rfl, hb, hl, hlim, rfl⟩ := applyF_rel hF
  obtain ⟨hsz, hav⟩ := ha
  obtain ⟨vb, vl, rfl⟩ : ∃ x y, vals = #[x, y] := by
    have : vals.size = 2 := by simpa using hsz
    exact ⟨vals[0], vals[1], by apply Array.ext (by simp [this]); intro i h1 h2; match i, h1, h2 with | 0, _, _ => rfl | 1, _, _ => rfl⟩
  have v1 := hav 0 (slv n1 f1 b) vb rfl rfl
  have v2 := hav 1 (slv n2 f2 l) vl rfl rfl
  have hb1 := bsl_of hi v1
  have hl1 := esl_of hi v2
  have v2' : VR L (gh0 w) w (slv n2 f2 l) vl := pure_vr (fun b hb => by simp only [gh0]; rw [if_pos (hi b hb)]) 1000001 _ _ (pureV_slv _ _ _ _ (Nat.le_refl _)) v2
  have hchk : Calls L.P (L.fn 13) #[.int .i64 b.length, vl] w fun e w' => e = .returned (.int .i64 (chkE b.length l)) ∧ RowKit.Below w.heap.size w w' := by
    refine (den_calls (PA := P0) allFn mixed code_sim noPrim_sim (check_den sp0 b.length l n2 f2 hl) (W := w) (vals := #[.int .i64 b.length, vl]) ?_).mono ?_
    · exact argsR_cons (vs := [vl]) (.int _ _) (argsR_cons (vs := []) v2' argsR_nil)
    · rintro e W' ⟨v, x, g', rfl, rfl, hv, hbw⟩
      cases hv
      exact ⟨rfl, hbw⟩
  by_cases hc : chkE b.length l = 0
  · rw [hc] at hchk
    obtain ⟨h512, hok⟩ := chkE_zero hc
    refine (Tryd.apply_ok b l vb vl w hb1 hl1 h512 hok hlim hchk).mono ?_
    rintro e w' ⟨v, n, rfl, hown, hbw⟩
    refine ⟨_, rfl, hbw, fun g' hg' => ?_⟩
    unfold applyV
    rw [if_pos hc]
    refine .tup _ _ rfl (fun i c u h1 h2 => ?_)
    match i with
    | 0 =>
      simp at h1 h2
      subst h1; subst h2
      exact vr_owns hown hg'
    | 1 =>
      simp at h1 h2
      subst h1; subst h2
      exact .int _ _
    | i + 2 => simp at h1
  · refine (Tryd.apply_bad b l vb vl (chkE b.length l) w hb1 hc (by rcases chkE_range b.length l with h | h | h <;> omega) hchk).mono ?_
    rintro e w' ⟨rfl, hbw⟩
    refine ⟨_, rfl, hbw, fun g' hg' => ?_⟩
    unfold applyV
    rw [if_neg hc]
    refine .tup _ _ rfl (fun i c u h1 h2 => ?_)
    match i with
    | 0 =>
      simp at h1 h2
      subst h1; subst h2
      exact .nils
    | 1 =>
      simp at h1 h2
      subst h1; subst h2
      exact .int _ _
    | i + 2 => simp at h1
end Go.Am.Sp

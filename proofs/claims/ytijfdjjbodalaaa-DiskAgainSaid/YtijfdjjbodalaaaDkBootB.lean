/- Boot, its deterministic beginning: the files are cut. -/
import Derived.Test.YtijfdjjbodalaaaDkBootA
set_option linter.unusedSimpArgs false
set_option linter.unusedVariables false
namespace Go.Am.Dk
open Go.Am
attribute [local go_sem] ne_eq not_true_eq_false not_false_eq_true Nat.reduceEqDiff Nat.reduceAdd Nat.reduceLeDiff Int.toNat_natCast Int.reduceToNat and_self Bool.not_true Bool.not_false Bool.false_and Bool.and_false Bool.true_and Bool.and_true Int.reduceEq Int.reduceLT Int.reduceLE Int.reduceAdd Int.reduceSub Int.reduceNeg decide_true decide_false Option.bind_some Bool.or_true Bool.or_false Bool.true_or Bool.false_or
attribute [local go_sem ↓] reduceIte
set_option maxRecDepth 20000
set_option maxHeartbeats 2000000
variable {P : Prog}
def kpS (x : DFile) (keep : List Int) (i : Nat) : Nat := if i < keep.length then (max 0 (min (keep.getD i 0) ((x.b.length : Int) - x.sure))).toNat else 0
def cutOne (x : DFile) (keep : List Int) (i : Nat) : DFile × Nat := if x.b.length = x.sure then (x, i) else (⟨x.b.take (x.sure + kpS x keep i), x.sure + kpS x keep i⟩, i + 1)
def cutN (keep : List Int) (all : List Nat) (file : Nat → DFile) : Nat → (Nat → DFile) × Nat
  | 0 => (file, 0)
  | k + 1 => ((fun g => if g = all.getD k 0 then (cutOne ((cutN keep all file k).1 (all.getD k 0)) keep (cutN keep all file k).2).1 else (cutN keep all file k).1 g), (cutOne ((cutN keep all file k).1 (all.getD k 0)) keep (cutN keep all file k).2).2)
theorem kp_le {x : DFile} {keep : List Int} {i : Nat} (h : x.sure ≤ x.b.length) : x.sure + kpS x keep i ≤ x.b.length := by
  unfold kpS
  split
  · omega
  · omega
theorem cutOne_ok {x : DFile} {keep : List Int} {i : Nat} (h : x.sure ≤ x.b.length) : (cutOne x keep i).1.sure ≤ (cutOne x keep i).1.b.length ∧ (cutOne x keep i).1.b.length ≤ x.b.length ∧ (cutOne x keep i).2 ≤ i + 1 := by
  have := kp_le (keep := keep) (i := i) h
  unfold cutOne
  split
  · exact ⟨h, Nat.le_refl _, by simp⟩
  · simp only [List.length_take]
    omega
theorem cutN_ok {keep : List Int} {all : List Nat} {file : Nat → DFile} (h : ∀ f ∈ all, (file f).sure ≤ (file f).b.length) : ∀ k, k ≤ all.length → (∀ f ∈ all, ((cutN keep all file k).1 f).sure ≤ ((cutN keep all file k).1 f).b.length ∧ ((cutN keep all file k).1 f).b.length ≤ (file f).b.length) ∧ (cutN keep all file k).2 ≤ k
  | 0, _ => ⟨fun f hf => ⟨h f hf, Nat.le_refl _⟩, Nat.le_refl _⟩
  | k + 1, hk => by
    obtain ⟨h1, h2⟩ := cutN_ok h k (by omega)
    have hm : all.getD k 0 ∈ all := by
      rw [List.getD_eq_getElem?_getD, List.getElem?_eq_getElem (show k < all.length by omega)]
      exact List.getElem_mem _
    have hc := cutOne_ok (keep := keep) (i := (cutN keep all file k).2) (h1 _ hm).1
    refine ⟨fun f hf => ?_, Nat.le_trans hc.2.2 (by omega)⟩
    simp only [cutN]
    by_cases e : f = all.getD k 0
    · rw [if_pos e]
      have := (h1 _ hm).2
      rw [e]
      exact ⟨hc.1, by omega⟩
    · rw [if_neg e]
      exact h1 f hf
theorem fget_keepV (j : Nat) (o : Option AV) (r : Fr) (i : Nat) : fget (keepV j o r) i = if i = j then (match o with | some v => some v | none => fget r i) else fget r i := by
  cases o with
  | none => simp [keepV]
  | some v => rw [keepV_some, fget_cons']
theorem boot_cut (hP : DkP P) (h : Heap) (d : Nat) (σ : DSt) (y : Lay) (hD : DiskAt h d σ y) (keep : List Int) (n full : Bool) (hall : σ.all.length ≤ 1000000000) (hsu : ∀ f ∈ σ.all, (σ.file f).sure ≤ (σ.file f).b.length ∧ (σ.file f).b.length ≤ 1000000000000) (hk : keep.length ≤ 9223372036854775807 ∧ ∀ z ∈ keep, -9223372036854775808 ≤ z ∧ z ≤ 9223372036854775807) (st : Nat)
    (fr0 : Fr) (f0 : fget fr0 0 = some (.ptr d 0)) (f2 : fget fr0 2 = some (slv n full keep)) (f9 : fget fr0 9 = some (.int .i64 0)) (f12 : fget fr0 12 = none) :
    Wp P (.seq (.reg 0 a21r9 [0, 2, 9, 12, 48, 49, 50]) (.block 2 (.loop a21l1))) { fr := fr0, st := st, h := h }
      (fun e s' => e = .normal ∧ fget s'.fr 0 = some (.ptr d 0) ∧ (∃ bv, DiskAt s'.h d { σ with file := (cutN keep σ.all σ.file σ.all.length).1 } { y with bv := bv } ∧ ∀ f ∈ σ.all, ∀ o, rowOf (bv f) = some o → rowOf (y.bv f) = some o) ∧ s'.h.next = h.next ∧ ∀ o, o ∉ σ.all → s'.h.get o = h.get o) := by
  have hd := hD.disk
  simp only [DSt.cells] at hd
  have hae := hD.all.ev
  have had := hD.all.dt
  have hal := hD.all.len
  have hat := hD.all.tag
  rw [List.length_map] at hal
  simp (disch := omega) only [go_sem, a21r9, f0, f2, f9, f12, hd, hae, had, hal, hat, cond_true]
  refine Wp_loop (fun x : Fr × Nat × Nat × Heap => (fget x.1 0 = some (.ptr d 0) ∧ fget x.1 2 = some (slv n full keep) ∧ fget x.1 9 = some (.int .i64 (cutN keep σ.all σ.file x.2.2.1).2) ∧ fget x.1 48 = some y.av ∧ fget x.1 49 = some (.int .i64 σ.all.length) ∧ fget x.1 50 = some (.int .i64 x.2.2.1)) ∧ x.2.2.1 ≤ σ.all.length ∧
      (∃ bv, DiskAt x.2.2.2 d { σ with file := (cutN keep σ.all σ.file x.2.2.1).1 } { y with bv := bv } ∧ ∀ f ∈ σ.all, ∀ o, rowOf (bv f) = some o → rowOf (y.bv f) = some o) ∧ x.2.2.2.next = h.next ∧ ∀ o, o ∉ σ.all → x.2.2.2.get o = h.get o)
    (fun (fr0, t, k, hh) => { fr := fr0, st := t, h := hh }) (fun x => σ.all.length - x.2.2.1) (_, st, 0, h) rfl ⟨⟨rfl, rfl, rfl, rfl, rfl, rfl⟩, Nat.zero_le _, ⟨y.bv, hD, fun _ _ _ h => h⟩, rfl, fun _ _ => rfl⟩ ?_
  rintro ⟨fr1, t, k, hh⟩ ⟨⟨q0, q2, q9, q48, q49, q50⟩, g1, ⟨bv, g2, g5⟩, g3, g4⟩
  simp only at q0 q2 q9 q48 q49 q50 g1 g2 g3 g4
  obtain ⟨o12, q12⟩ : ∃ o, fget fr1 12 = o := ⟨_, rfl⟩
  have own : ∀ q, Own d { σ with file := (cutN keep σ.all σ.file k).1 } { y with bv := bv } q → q < hh.next := g2.lt
  have SB := g2.sep
  simp (disch := omega) only [go_sem, a21l1, a21r10, q0, q2, q9, q12, q48, q49, q50, hae, fget_keepV]
  refine condS_if (fun hk => ?_) (fun hk => ?_)
  · have hk' : k < σ.all.length := by omega
    obtain ⟨f, hf⟩ : ∃ f, σ.all.getD k 0 = f := ⟨_, rfl⟩
    have hfa : f ∈ σ.all := by
      rw [← hf, List.getD_eq_getElem?_getD, List.getElem?_eq_getElem hk']
      exact List.getElem_mem hk'
    obtain ⟨i, hi⟩ : ∃ i, (cutN keep σ.all σ.file k).2 = i := ⟨_, rfl⟩
    obtain ⟨x, hx⟩ : ∃ x, (cutN keep σ.all σ.file k).1 f = x := ⟨_, rfl⟩
    obtain ⟨c1, c2⟩ := cutN_ok (keep := keep) (fun g hg => (hsu g hg).1) k g1
    have hi2 : i ≤ k := by rw [← hi]; exact c2
    have hx1 : x.sure ≤ x.b.length := by rw [← hx]; exact (c1 f hfa).1
    have hx2 : x.b.length ≤ 1000000000000 := by rw [← hx]; exact Nat.le_trans (c1 f hfa).2 (hsu f hfa).2
    have hcf := g2.cell f hfa
    have hbf := g2.bytes f hfa
    have e1 : ({ σ with file := (cutN keep σ.all σ.file k).1 } : DSt).file f = x := hx
    rw [e1] at hcf hbf
    have ce : ∀ (z : AV), (Cel.ccells (⟨f⟩ : FilP)) = [.ptr f 0] := fun _ => rfl
    rcases hD.all with ⟨hav, hnil⟩ | ⟨oa, ea, ja, hav, hga⟩
    · have : σ.all = [] := by simpa using hnil
      rw [this] at hk'; simp at hk'
    · have hoa : oa ∉ σ.all := fun hm => (hD.sep.av oa (by rw [hav]; rfl)).2.2.2 oa hm rfl
      have hgh : hh.get oa = some (.row 1 ea ((σ.all.map FilP.mk).flatMap Cel.ccells ++ ja)) := (g4 oa hoa).trans hga
      have hfl : (σ.all.map FilP.mk).flatMap Cel.ccells = σ.all.map (fun f => AV.ptr f 0) := by
        rw [List.flatMap_map]
        induction σ.all with
        | nil => rfl
        | cons a r ih => simp only [List.flatMap_cons, List.map_cons, ih]; rfl
      rw [hfl] at hgh
      have r1 := ld_raw (σ.all.map (fun f => AV.ptr f 0) ++ ja) k (.ptr f 0) (by
        rw [List.getElem?_append_left (by simpa using hk'), List.getElem?_map, ← hf, List.getD_eq_getElem?_getD, List.getElem?_eq_getElem hk']
        rfl)
      rw [hav]
      have hcs : Cel.csz FilP = 1 := rfl
      have hln : (σ.all.map FilP.mk).length = σ.all.length := by simp
      rw [hcs, hln]
      have hbe := hbf.ev
      have hbd := hbf.dt
      have hbl := hbf.len
      have hbt := hbf.tag
      simp (disch := omega) only [go_sem, a21r11, fget_keepV, hgh, r1, Nat.mul_one, Nat.zero_add]
      simp (disch := omega) only [go_sem, a21d12, fget_keepV, hcf, hbe, hbd, hbl, hbt, cond_true]
      simp (disch := omega) only [go_sem, a21r13, fget_keepV]
      have hcut : cutN keep σ.all σ.file (k + 1) = ((fun g => if g = f then (cutOne x keep i).1 else (cutN keep σ.all σ.file k).1 g), (cutOne x keep i).2) := by
        simp only [cutN]
        rw [hf, hx, hi]
      rw [hi]
      refine condS_if (fun hz => ?_) (fun hz => ?_)
      · simp (disch := omega) only [go_sem, a21r20, fget_keepV]
        have hce : cutOne x keep i = (x, i) := if_pos (by omega)
        refine ⟨(_, t + 1, k + 1, hh), ⟨⟨rfl, rfl, ?_, rfl, rfl, rfl⟩, by simp only; omega, ⟨bv, ?_, g5⟩, g3, g4⟩, by simp only; omega, rfl⟩
        · simp only [hcut, hce]; rfl
        · have : (cutN keep σ.all σ.file (k + 1)).1 = (cutN keep σ.all σ.file k).1 := by
            rw [hcut, hce]
            funext g
            simp only
            split
            · rename_i e; rw [e, hx]
            · rfl
          simp only [this]
          rw [hav, hcs, hln] at g2
          exact g2
      · rcases hbf with ⟨hbv, hb0⟩ | ⟨ob, eb, jb, hbv, hbg⟩
        · rw [hb0] at hz hx1; simp at hz hx1; omega
        have kle := kp_le (keep := keep) (i := i) hx1
        have hc8 : Cel.csz UInt8 = 1 := rfl
        replace hbv : bv f = .hs (Cel.csz UInt8) ob eb 0 x.b.length false := hbv
        rw [hc8] at hbv
        have hbr : rowOf (bv f) = some ob := by rw [hbv]; rfl
        have hw0 : ob ≠ f := fun e => (SB.bv f hfa ob hbr).2.2.2 f hfa e.symm
        have hcf' : hh.get f = some (.cells [bv f, .int .i64 x.sure]) := hcf
        rw [hbv] at hcf'
        simp (disch := omega) only [go_sem, a21r14, a21r15, fget_keepV]
        refine condS_if (fun hi1 => ?wa) (fun hi1 => ?wb)
        case' wa =>
          simp (disch := omega) only [go_sem, a21r16, fget_keepV]
          have e13 : max 0 (min (keep.getD i default) ((x.b.length : Int) - x.sure)) = (kpS x keep i : Int) := by
            unfold kpS
            rw [if_pos (by omega)]
            show max 0 (min (keep.getD i 0) ((x.b.length : Int) - x.sure)) = _
            omega
          rw [e13]
        case' wb =>
          have e13 : (0 : Int) = (kpS x keep i : Int) := by
            unfold kpS
            rw [if_neg (by omega)]
            rfl
          rw [e13]
          simp (disch := omega) only [go_sem, fget_keepV]
        all_goals
          simp (disch := omega) only [go_sem, a21r17, fget_keepV]
          simp (disch := omega) only [go_sem, a21d18, fget_keepV, hcf', hbv]
          refine WD_storeP (val := .hs 1 ob eb 0 (x.sure + kpS x keep i) false) (off := 0) (o := f) (by simp (disch := omega) only [go_sem]) (by simp (disch := omega) only [go_sem, Nat.sub_zero]; rfl) rfl hcf' rfl rfl ?_
          simp (disch := omega) only [go_sem, a21r19, fget_keepV, Nat.sub_zero]
          simp (disch := omega) only [go_sem, a21r20, fget_keepV]
          have hce : cutOne x keep i = (⟨x.b.take (x.sure + kpS x keep i), x.sure + kpS x keep i⟩, i + 1) := if_neg (by omega)
          obtain ⟨h2, hh2⟩ : ∃ h2, (hh.put f (.cells [.hs 1 ob eb 0 (x.sure + kpS x keep i) false, .int .i64 x.sure])).put f (.cells [.hs 1 ob eb 0 (x.sure + kpS x keep i) false, .int .i64 (x.sure + kpS x keep i : Nat)]) = h2 := ⟨_, rfl⟩
          rw [hh2]
          have n2 : h2.next = hh.next := by rw [← hh2]; rfl
          have ge : h2.get f = some (.cells [.hs 1 ob eb 0 (x.sure + kpS x keep i) false, .int .i64 (x.sure + kpS x keep i : Nat)]) := by rw [← hh2, get_put_same]
          have go : ∀ o, o ≠ f → h2.get o = hh.get o := fun o ho => by rw [← hh2, get_put_ne _ _ _ _ ho, get_put_ne _ _ _ _ ho]
          have hst := g2.fput (h' := h2) (x := ⟨x.b.take (x.sure + kpS x keep i), x.sure + kpS x keep i⟩) (bv' := .hs 1 ob eb 0 (x.sure + kpS x keep i) false) hfa ge
            (Or.inr ⟨ob, eb, (x.b.drop (x.sure + kpS x keep i)).flatMap Cel.ccells ++ jb, by rw [List.length_take, Nat.min_eq_left kle]; rfl, by
              rw [go ob hw0, hbg, ← List.append_assoc, ← List.flatMap_append, List.take_append_drop]⟩)
            (fun o ho => Or.inl (hbr.trans ho)) (fun o ho => by rw [n2]; exact own o (Or.inr (Or.inr (Or.inr (Or.inr (Or.inr ⟨f, hfa, Or.inr (hbr.trans ho)⟩)))))) (fun o _ ho _ => go o ho) (by omega)
          have hse : setF { σ with file := (cutN keep σ.all σ.file k).1 } f ⟨x.b.take (x.sure + kpS x keep i), x.sure + kpS x keep i⟩ = { σ with file := (cutN keep σ.all σ.file (k + 1)).1 } := by
            rw [hcut, hce]; rfl
          refine ⟨(_, t + 2, k + 1, h2), ⟨⟨rfl, rfl, ?_, rfl, rfl, rfl⟩, by simp only; omega, ⟨fun g => if g = f then .hs 1 ob eb 0 (x.sure + kpS x keep i) false else bv g, ?_, fun g hg o ho => by
            simp only at ho
            by_cases e : g = f
            · rw [if_pos e] at ho; rw [e]; exact g5 f hfa o (hbr.trans ho)
            · rw [if_neg e] at ho; exact g5 g hg o ho⟩, n2.trans g3, fun o ho => (go o (fun e => ho (by rw [e]; exact hfa))).trans (g4 o ho)⟩, by simp only; omega, rfl⟩
          · simp only [hcut, hce]; rfl
          · have := hst.1
            rw [hse] at this
            rw [hav, hcs, hln] at this
            exact this
  · simp (disch := omega) only [go_sem, fget_keepV]
    have hkk : k = σ.all.length := by omega
    rw [hkk] at g2
    exact ⟨by trivial, by trivial, ⟨bv, g2, g5⟩, g3, g4⟩
end Go.Am.Dk

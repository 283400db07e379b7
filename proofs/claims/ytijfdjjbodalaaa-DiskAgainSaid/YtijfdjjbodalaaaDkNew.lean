/- New of any files. -/
import Derived.Test.YtijfdjjbodalaaaDkBulk
set_option linter.unusedSimpArgs false
set_option linter.unusedVariables false
namespace Go.Am.Dk
open Go.Am
attribute [local go_sem] ne_eq not_true_eq_false not_false_eq_true Nat.reduceEqDiff Nat.reduceAdd Nat.reduceLeDiff Int.toNat_natCast Int.reduceToNat and_self Bool.not_true Bool.not_false Bool.false_and Bool.and_false Bool.true_and Bool.and_true Int.reduceEq Int.reduceLT Int.reduceLE Int.reduceAdd Int.reduceSub Int.reduceNeg decide_true decide_false Option.bind_some Bool.or_true Bool.or_false Bool.true_or Bool.false_or
attribute [local go_sem ↓] reduceIte
set_option maxRecDepth 20000
set_option maxHeartbeats 2000000
variable {P : Prog}
theorem cloneV_fun (hP : DkP P) (nl : Bool) (l : List UInt8) (h : Heap) (hl : l.length ≤ 1000000000000) :
    Fun P 35 [slv nl false l] h (fun v' h' => ((v' = .nils ∧ l = []) ∨ NewRow h h' v' l) ∧ Ext h h') := by
  rcases slv_cases nl false l with ⟨e, e1, -⟩ | e
  · rw [e]
    refine Fun.of (code := a35c) (hP.code rfl) (by rw [hP.pure]; rfl) ?_
    simp (disch := omega) only [go_sem, a35c, a35r0]
    simp (disch := omega) only [go_sem, a35r1]
    simp (disch := omega) only [go_sem, a35r2]
    exact ⟨Or.inl ⟨by trivial, e1⟩, Ext.refl h⟩
  · refine Fun.mono' (clone_fun (P := P) (hP.code rfl) (by rw [hP.pure]; rfl) (slv nl false l) l h hl (fun h' _ => adds_slv h' nl false l) (by rw [e, same_sl_nils]) (fun i => evS_slv i _ _ _) (datW_slv _ _ _)) (fun v' h' hv => ⟨Or.inr hv.1, hv.2⟩)
structure NewAt (h : Heap) (d m : Nat) (av : AV) (bv : Nat → AV) (σ : DSt) : Prop where
  disk : h.get d = some (.cells [.int .i64 σ.cap, .mp m, .nilm, av, .nils, .bool false, .int .i64 0, .int .i64 0, .int .i64 0, .int .i64 0])
  names : MapAt h m σ.names
  all : PreC h av (σ.all.map FilP.mk)
  cell : ∀ f ∈ σ.all, h.get f = some (.cells [bv f, .int .i64 (σ.file f).sure])
  bytes : ∀ f ∈ σ.all, PreC h (bv f) (σ.file f).b
  nm : ∀ p ∈ σ.names, p.2 ∈ σ.all
  nd : (σ.names.map (·.1)).Nodup
  ad : σ.all.Nodup
  bb : ∀ f ∈ σ.all, ∀ f' ∈ σ.all, f ≠ f' → ∀ o, rowOf (bv f) = some o → rowOf (bv f') ≠ some o
  ab : ∀ f ∈ σ.all, ∀ o, rowOf av = some o → rowOf (bv f) ≠ some o
  lt : d < h.next ∧ m < h.next ∧ (∀ o, rowOf av = some o → o < h.next) ∧ ∀ f ∈ σ.all, f < h.next ∧ ∀ o, rowOf (bv f) = some o → o < h.next
def filesS (cap : Int) (fs : List FileV) (ids : List Nat) (file : Nat → DFile) : DSt := { cap := cap, names := (fs.map (·.name)).zip ids, sure := [], all := ids, waits := [], dead := false, calls := 0, fuse := 0, fault := 0, e := 0, file := file }
theorem NewAt.ext {h h' : Heap} {d m : Nat} {av : AV} {bv : Nat → AV} {σ : DSt} (hN : NewAt h d m av bv σ) (hx : Ext h h') : NewAt h' d m av bv σ := by
  obtain ⟨l1, l2, l3, l4⟩ := hN.lt
  have := hx.1
  refine ⟨(hx.2 d l1).trans hN.disk, hN.names.of_get (hx.2 m l2), hN.all.keep (fun o ho => hx.2 o (l3 o ho)), fun f hf => (hx.2 f (l4 f hf).1).trans (hN.cell f hf), fun f hf => (hN.bytes f hf).keep (fun o ho => hx.2 o ((l4 f hf).2 o ho)), hN.nm, hN.nd, hN.ad, hN.bb, hN.ab, by omega, by omega, fun o ho => by have := l3 o ho; omega, fun f hf => ⟨by have := (l4 f hf).1; omega, fun o ho => by have := (l4 f hf).2 o ho; omega⟩⟩
theorem NewAt.sum {h : Heap} {d m : Nat} {av : AV} {bv : Nat → AV} {σ : DSt} (hN : NewAt h d m av bv σ) : ∀ n : NMap, (∀ p ∈ n, p.2 ∈ σ.all) → sumL h ((kv (fp n)).map (·.2)) = some (n.map fun p => (σ.file p.2).b.length).sum
  | [], _ => rfl
  | p :: r, hp => by
    have ih := hN.sum r (fun q hq => hp q (List.mem_cons_of_mem _ hq))
    have hf := hp p List.mem_cons_self
    have hc := hN.cell _ hf
    have hb := hN.bytes _ hf
    have hlt := (hN.lt.2.2.2 _ hf).1
    have e1 : lenF h (.ptr p.2 0) = some (σ.file p.2).b.length := by
      have hblt : Nat.blt p.2 h.next = true := by simp only [nblt, decide_eq_true_eq]; exact hlt
      simp only [lenF, hc]
      rcases hb with ⟨e, e'⟩ | ⟨o, ep, j, e, -⟩
      · rw [e, e', hblt]; rfl
      · rw [e, hblt]; rfl
    rw [fp_cons, kv_cons]
    simp only [List.map_cons, sumL, e1, ih, Option.bind_some, List.sum_cons]
theorem usedN_fun (hP : DkQ P) {h : Heap} {d m : Nat} {av : AV} {bv : Nat → AV} {σ : DSt} (hN : NewAt h d m av bv σ) (hu : usedS σ ≤ 4611686018427387904) : Fun P 33 [.ptr d 0] h (fun v h' => v = .int .i64 (usedS σ) ∧ Ext h h') := by
  obtain ⟨bs, ck, hg, hs⟩ := hN.names
  have hdk := hN.disk
  refine Fun.prim hP.none33 (by rw [hP.pure]; rfl) (hP.used _ _ (.int .i64 (usedS σ), (h.reserve 1).put h.next .dead) ?_) ⟨rfl, ext_dead h⟩
  simp only [usedF, hdk, hg, hN.sum σ.names hN.nm, Option.bind_some]
  rw [if_pos ⟨hu, by rw [hs.len, kv_length, fp_length], hs.nd, hs.lt, hN.lt.2.1⟩]
  rfl
def sumF (fs : List FileV) : Nat := (fs.map (·.data.length)).sum
theorem usedS_files {cap : Int} {fs : List FileV} {ids : List Nat} {file : Nat → DFile} (hln : ids.length = fs.length) (hfile : ids.map file = fs.map (fun f => ⟨f.data, f.data.length⟩)) : usedS (filesS cap fs ids file) = sumF fs := by
  unfold usedS filesS sumF
  simp only
  have e1 : ((fs.map (·.name)).zip ids).map (fun p => (file p.2).b.length) = (((fs.map (·.name)).zip ids).map (·.2)).map (fun g => (file g).b.length) := by rw [List.map_map]; rfl
  rw [e1, List.map_snd_zip (by simp [hln])]
  have e2 : ids.map (fun g => (file g).b.length) = (ids.map file).map (fun x => x.b.length) := by rw [List.map_map]; rfl
  rw [e2, hfile, List.map_map]
  rfl
theorem nput_none (k : List UInt8) (f : Nat) : ∀ n : NMap, nget k n = none → nput k f n = n ++ [(k, f)]
  | [], _ => rfl
  | p :: r, h => by
    rw [nget] at h
    split at h
    · simp at h
    · rename_i e
      rw [nput, if_neg e, nput_none k f r h]
      rfl
theorem new_body (hP : DkQ P) (cap : Int) (f : FileV) (h : Heap) (d m : Nat) (av : AV) (bv : Nat → AV) (fs : List FileV) (ids : List Nat) (file : Nat → DFile) (hN : NewAt h d m av bv (filesS cap fs ids file)) (hln : ids.length = fs.length) (hfile : ids.map file = fs.map (fun f => ⟨f.data, f.data.length⟩))
    (hsum : (sumF fs : Int) ≤ cap) (hfl : fs.length ≤ 1000) (hcap : 0 ≤ cap ∧ cap ≤ 1048576) (hf : f.name.length ≤ 2000 ∧ f.data.length ≤ 2000) (fr0 : Fr) (st : Nat) (f1 : fget fr0 1 = some (.int .i64 cap)) (f5 : fget fr0 5 = some (.ptr d 0)) (f7 : fget fr0 7 = some (.lbox st [strv f.name, slv f.nl false f.data])) :
    Wp P (.seq (.seq (.dreg 0 a10d7 [1, 5, 7, 8, 24, 25, 26, 53]) (.cond (.s 53) (.seq (.reg 0 a10r8 [4]) .ret) .skip)) (.seq (.dreg 1 a10d9 [1, 5, 7, 8, 24, 25, 26]) (.seq (.dreg 0 a10d10 [1, 5, 8, 24, 25, 26]) (.reg 1 a10r11 [1, 5, 8, 24, 25, 26])))) { fr := fr0, st := st + 1, h := h }
      (fun e s' => (e = .ret ∧ fget s'.fr 4 = some .nilp) ∨ (e = .normal ∧ fget s'.fr 1 = some (.int .i64 cap) ∧ fget s'.fr 5 = some (.ptr d 0) ∧ fget s'.fr 24 = fget fr0 24 ∧ fget s'.fr 25 = fget fr0 25 ∧ fget s'.fr 26 = fget fr0 26 ∧
        ∃ id av' bv' file', NewAt s'.h d m av' bv' (filesS cap (fs ++ [f]) (ids ++ [id]) file') ∧ (ids ++ [id]).map file' = (fs ++ [f]).map (fun f => ⟨f.data, f.data.length⟩) ∧ (sumF (fs ++ [f]) : Int) ≤ cap)) := by
  have hd := hN.disk
  simp only [filesS] at hd
  have hl := hN.names.look
  simp only [filesS] at hl
  have lkt : ∀ x : Option AV, lookG (some (.bool true)) false x = some undefA := fun _ => rfl
  have lku2 : lookE 40 (some (.tup [])) (some (.tup [])) = true := rfl
  have lku : lookE 40 (some undefA) (some undefA) = true := rfl
  obtain ⟨o8, f8⟩ : ∃ o, fget fr0 8 = o := ⟨_, rfl⟩
  obtain ⟨o24, f24⟩ : ∃ o, fget fr0 24 = o := ⟨_, rfl⟩
  obtain ⟨o25, f25⟩ : ∃ o, fget fr0 25 = o := ⟨_, rfl⟩
  obtain ⟨o26, f26⟩ : ∃ o, fget fr0 26 = o := ⟨_, rfl⟩
  simp (disch := omega) only [go_sem, a10d7, f1, f5, f7, f8, f24, f25, f26]
  refine WD_fun (vs := [strv f.name]) (by simp (disch := omega) only [go_sem]) (name_funD hP.toDkP f.name h (by omega)) (fun v h' hv => rfl) (fun v h' hv => ?_)
  obtain ⟨rfl, hx1⟩ := hv
  cases hnm : nameL f.name with
  | false =>
    simp (disch := omega) only [go_sem, f1, f5, f7]
    refine dguardS_split (fun e => by simp at e) (fun _ => ⟨by simp (disch := omega) only [go_sem, f1, f5, f7, lkt, lku, lku2], ?_⟩)
    simp (disch := omega) only [go_sem, f1, f5, f7, f8, f24, f25, f26, fget_keepV]
    simp (disch := omega) only [go_sem, a10r8]
    exact Or.inl trivial
  | true =>
    have hd1 : h'.get d = _ := (hx1.2 d hN.lt.1).trans hd
    have hl1 : lookM h' 1 .nilp false (strv f.name) (h'.get m) = some (fcell (nget f.name ((fs.map (·.name)).zip ids))) := by rw [hx1.2 m hN.lt.2.1]; exact hl _ _
    simp (disch := omega) only [go_sem, hd1, f1, f5, f7, hl1]
    cases hg : nget f.name ((fs.map (·.name)).zip ids) with
    | some g =>
      simp (disch := omega) only [go_sem, Option.isNone_some, f1, f5, f7]
      refine dguardS_split (fun e => by simp at e) (fun _ => ⟨by simp (disch := omega) only [go_sem, f1, f5, f7, lkt, lku, lku2], ?_⟩)
      simp (disch := omega) only [go_sem, f1, f5, f7, f8, f24, f25, f26, fget_keepV]
      simp (disch := omega) only [go_sem, a10r8]
      exact Or.inl trivial
    | none =>
      simp (disch := omega) only [go_sem, Option.isNone_none, f1, f5, f7]
      have hN1 := hN.ext hx1
      have hus := usedS_files (cap := cap) hln hfile
      refine WD_fun (vs := [.ptr d 0]) (by simp (disch := omega) only [go_sem]) (usedN_fun hP hN1 (by rw [hus]; omega)) (fun v hB hv => ?_) (fun v hB hv => ?_)
      · obtain ⟨rfl, hx2⟩ := hv
        simp (disch := omega) only [go_sem, f1, f5, f7]
      obtain ⟨rfl, hx2⟩ := hv
      rw [hus]
      simp (disch := omega) only [go_sem, f1, f5, f7, f8, f24, f25, f26, fget_keepV]
      refine condS_if (fun c => ?_) (fun c => ?_)
      · simp (disch := omega) only [go_sem, a10r8]
        exact Or.inl trivial
      have hN2 := hN1.ext hx2
      simp (disch := omega) only [go_sem, a10d9, fget_keepV]
      refine WD_fun (vs := [slv f.nl false f.data]) (by simp (disch := omega) only [go_sem]) (cloneV_fun hP.toDkP f.nl f.data (hB.reserve 1) (by omega)) (fun v hC hv => by simp (disch := omega) only [go_sem, fget_keepV]) (fun v hC hv => ?_)
      obtain ⟨hcl, hx3⟩ := hv
      have vp : PreC hC v f.data := by
        rcases hcl with ⟨rfl, e⟩ | ⟨o, ep, rfl, q1, q2, q3⟩
        · exact Or.inl ⟨rfl, e⟩
        · exact Or.inr ⟨o, ep, [], rfl, by rw [List.append_nil]; exact q3⟩
      have vro : ∀ o, rowOf v = some o → hB.next + 1 ≤ o ∧ o < hC.next := fun o ho => by
        rcases hcl with ⟨rfl, e⟩ | ⟨o', ep, rfl, q1, q2, q3⟩
        · simp [rowOf] at ho
        · obtain rfl : o' = o := Option.some.inj ho
          exact ⟨q1, q2⟩
      have vev := vp.ev
      have vdt := vp.dt
      have vcl : v.cellsOf = [v] := by rcases vp with ⟨rfl, -⟩ | ⟨o, ep, j, rfl, -⟩ <;> rfl
      have hC1 : hB.next + 1 ≤ hC.next := hx3.1
      have hN3 : NewAt hC d m av bv (filesS cap fs ids file) := hN2.ext ⟨by omega, fun i hi => (hx3.2 i (by show i < hB.next + 1; omega)).trans rfl⟩
      have hBd : d < hB.next := hN2.lt.1
      have hBm : m < hB.next := hN2.lt.2.1
      have hdC := hN3.disk
      simp only [filesS] at hdC
      obtain ⟨bs, ck, hmC, hsC⟩ := hN3.names
      simp only [filesS] at hmC hsC
      have dB : d ≠ hB.next := by omega
      have mB : m ≠ hB.next := by omega
      have dm : d ≠ m := fun e => by rw [e] at hdC; rw [hdC] at hmC; simp at hmC
      simp (disch := omega) only [go_sem, vev, vdt, vcl, fget_keepV]
      simp (disch := omega) only [go_sem, a10d10, fget_keepV, get_put_ne, dB, mB, hdC, hmC]
      have ave := hN3.all.ev
      have avd := hN3.all.dt
      have hall := hN3.all
      simp only [filesS] at hall
      have avlt : ∀ o, rowOf av = some o → o < hB.next := hN2.lt.2.2.1
      have avm : ∀ o, rowOf av = some o → o ≠ m := fun o ho e => by
        rcases hall with ⟨e1, -⟩ | ⟨o', ep, j, e1, hg'⟩
        · rw [e1] at ho; simp [rowOf] at ho
        · rw [e1] at ho
          obtain rfl : o' = o := Option.some.inj ho
          rw [e] at hg'; rw [hg'] at hmC; simp at hmC
      have avd' : ∀ o, rowOf av = some o → o ≠ d := fun o ho e => by
        rcases hall with ⟨e1, -⟩ | ⟨o', ep, j, e1, hg'⟩
        · rw [e1] at ho; simp [rowOf] at ho
        · rw [e1] at ho
          obtain rfl : o' = o := Option.some.inj ho
          rw [e] at hg'; rw [hg'] at hdC; simp at hdC
      simp (disch := omega) only [go_sem, a10r11, fget_keepV, get_put_ne, dB, mB, dm, hdC, ave, avd]
      refine stepP_app (α := FilP) (bytes := 8) (l := ids.map FilP.mk) (new := [⟨hB.next⟩]) (hall.keep (fun o ho => by
        have := avlt o ho
        rw [get_reserve, get_put_ne _ _ _ _ (avm o ho), get_put_ne _ _ _ _ (by omega)])) (addsC_one _ _ _ _ rfl) rfl (by simp [two47]; omega) (fun v' h3 hr3 hn3 ho3 hf3 hnn => ?_)
      have v'e := hr3.ev
      have v'd := hr3.dt
      have v'c : v'.cellsOf = [v'] := by rcases hr3 with ⟨rfl, -⟩ | ⟨o, ep, j, rfl, -⟩ <;> rfl
      have n3 : h3.next = hC.next + 1 := hn3
      have f3 : ∀ q, q ≠ hC.next → rowOf av ≠ some q → h3.get q = (((hC.put hB.next (.cells [v, .int .i64 f.data.length])).put m (putM f.name (.ptr hB.next 0) (fp ((fs.map (·.name)).zip ids)) bs ck)).reserve 1).get q := fun q h1 h2 => hf3 q h1 h2
      have hd3 : h3.get d = some (.cells [.int .i64 cap, .mp m, .nilm, av, .nils, .bool false, .int .i64 0, .int .i64 0, .int .i64 0, .int .i64 0]) := by
        rw [f3 d (by omega) (fun e => avd' d e rfl), get_reserve, get_put_ne _ _ _ _ dm, get_put_ne _ _ _ _ dB]
        exact hdC
      simp (disch := omega) only [go_sem, v'e, v'd, v'c, hd3]
      have hmap : MapAt h3 m (((fs ++ [f]).map (·.name)).zip (ids ++ [hB.next])) := by
        have e1 : ((fs ++ [f]).map (·.name)).zip (ids ++ [hB.next]) = nput f.name hB.next ((fs.map (·.name)).zip ids) := by
          rw [nput_none _ _ _ hg, List.map_append, List.zip_append (by simp [hln])]
          rfl
        rw [e1]
        refine (putM_at (h := hC.put hB.next (.cells [v, .int .i64 f.data.length])) (m := m) hsC f.name hB.next).of_get ?_
        rw [f3 m (by omega) (fun e => avm m e rfl), get_reserve]
      have G : ∀ q, q < hC.next → q ≠ d → q ≠ m → q ≠ hB.next → rowOf av ≠ some q → (h3.put d (.cells [.int .i64 cap, .mp m, .nilm, v', .nils, .bool false, .int .i64 0, .int .i64 0, .int .i64 0, .int .i64 0])).get q = hC.get q := fun q h1 h2 h3' h4 h5 => by
        rw [get_put_ne _ _ _ _ h2, f3 q (by omega) h5, get_reserve, get_put_ne _ _ _ _ h3', get_put_ne _ _ _ _ h4]
      have gB : (h3.put d (.cells [.int .i64 cap, .mp m, .nilm, v', .nils, .bool false, .int .i64 0, .int .i64 0, .int .i64 0, .int .i64 0])).get hB.next = some (.cells [v, .int .i64 f.data.length]) := by
        rw [get_put_ne _ _ _ _ (Ne.symm dB), f3 _ (by omega) (fun e => by have := avlt _ e; omega), get_reserve, get_put_ne _ _ _ _ (Ne.symm mB), get_put_same]
      have ilt : ∀ g ∈ ids, g < hB.next := fun g hg' => (hN2.lt.2.2.2 g hg').1
      have blt : ∀ g ∈ ids, ∀ o, rowOf (bv g) = some o → o < hB.next := fun g hg' => (hN2.lt.2.2.2 g hg').2
      have ikd : ∀ g ∈ ids, g ≠ m ∧ rowOf av ≠ some g ∧ g ≠ d := fun g hg' => by
        have hcg := hN3.cell g hg'
        refine ⟨fun e => ?_, fun e => ?_, fun e => ?_⟩
        · rw [e, hmC] at hcg; simp at hcg
        · rcases hall with ⟨e1, -⟩ | ⟨o', ep, j, e1, hg''⟩
          · rw [e1] at e; simp [rowOf] at e
          · rw [e1] at e
            obtain rfl : o' = g := Option.some.inj e
            rw [hg''] at hcg; simp at hcg
        · rw [e, hdC] at hcg; simp at hcg
      have bkd : ∀ g ∈ ids, ∀ o, rowOf (bv g) = some o → o ≠ m ∧ o ≠ d := fun g hg' o ho => by
        have hbg := hN3.bytes g hg'
        rcases hbg with ⟨e1, -⟩ | ⟨o', ep, j, e1, hg''⟩
        · rw [e1] at ho; simp [rowOf] at ho
        · rw [e1] at ho
          obtain rfl : o' = o := Option.some.inj ho
          exact ⟨fun e => by rw [e, hmC] at hg''; simp at hg'', fun e => by rw [e, hdC] at hg''; simp at hg''⟩
      have ine : ∀ g ∈ ids, g ≠ hB.next := fun g hg' => by have := ilt g hg'; omega
      have v'r : ∀ o, rowOf v' = some o → rowOf av = some o ∨ o = hC.next := fun o ho => by
        rcases ho3 with e | e
        · exact Or.inl (by rw [← e]; exact ho)
        · rw [e] at ho; exact Or.inr (Option.some.inj ho).symm
      refine Or.inr ⟨by trivial, by trivial, by trivial, ?_, ?_, ?_, hB.next, v', fun g => if g = hB.next then v else bv g, fun g => if g = hB.next then ⟨f.data, f.data.length⟩ else file g, ?_, ?_, by
        have : sumF (fs ++ [f]) = sumF fs + f.data.length := by simp [sumF, List.sum_append]
        rw [this]; omega⟩
      · simp only [fget_keepV]
        cases o24 <;> simp [fget]
      · simp only [fget_keepV]
        cases o25 <;> simp [fget]
      · simp only [fget_keepV]
        cases o26 <;> simp [fget]
      · refine { disk := get_put_same _ _ _, names := hmap.of_get (by rw [get_put_ne _ _ _ _ (Ne.symm dm)]), all := ?_, cell := fun g hg' => ?_, bytes := fun g hg' => ?_, nm := fun p hp => ?_, nd := ?_, ad := ?_, bb := ?_, ab := ?_, lt := ?_ }
        · have : ((filesS cap (fs ++ [f]) (ids ++ [hB.next]) fun g => if g = hB.next then ⟨f.data, f.data.length⟩ else file g).all.map FilP.mk) = ids.map FilP.mk ++ [⟨hB.next⟩] := by simp [filesS]
          rw [this]
          refine hr3.keep (fun o ho => get_put_ne _ _ _ _ (fun e => ?_))
          rcases v'r o ho with h1 | h1
          · exact avd' o h1 e
          · omega
        · rcases List.mem_append.1 hg' with h1 | h1
          · show _ = some (AObj.cells [if g = hB.next then v else bv g, .int .i64 ((if g = hB.next then (⟨f.data, f.data.length⟩ : DFile) else file g).sure : Nat)])
            rw [if_neg (ine g h1), if_neg (ine g h1), G g (by have := ilt g h1; omega) (ikd g h1).2.2 (ikd g h1).1 (ine g h1) (ikd g h1).2.1]
            exact hN3.cell g h1
          · obtain rfl := List.mem_singleton.1 h1
            show _ = some (AObj.cells [if hB.next = hB.next then v else bv hB.next, .int .i64 ((if hB.next = hB.next then (⟨f.data, f.data.length⟩ : DFile) else file hB.next).sure : Nat)])
            rw [if_pos rfl, if_pos rfl]
            exact gB
        · rcases List.mem_append.1 hg' with h1 | h1
          · show PreC _ (if g = hB.next then v else bv g) (if g = hB.next then (⟨f.data, f.data.length⟩ : DFile) else file g).b
            rw [if_neg (ine g h1), if_neg (ine g h1)]
            refine (hN3.bytes g h1).keep (fun o ho => ?_)
            have hl := blt g h1 o ho
            exact G o (by omega) (bkd g h1 o ho).2 (bkd g h1 o ho).1 (by omega) (fun e => hN3.ab g h1 o e ho)
          · obtain rfl := List.mem_singleton.1 h1
            show PreC _ (if hB.next = hB.next then v else bv hB.next) (if hB.next = hB.next then (⟨f.data, f.data.length⟩ : DFile) else file hB.next).b
            rw [if_pos rfl, if_pos rfl]
            refine vp.keep (fun o ho => ?_)
            have h2 := vro o ho
            exact G o (by omega) (by omega) (by omega) (by omega) (fun e => by have := avlt o e; omega)
        · have hp' : p ∈ ((fs ++ [f]).map (·.name)).zip (ids ++ [hB.next]) := hp
          exact (List.of_mem_zip hp').2
        · obtain ⟨bs', ck', -, -⟩ := hmap
          have e1 : ((fs ++ [f]).map (·.name)).zip (ids ++ [hB.next]) = nput f.name hB.next ((fs.map (·.name)).zip ids) := by
            rw [nput_none _ _ _ hg, List.map_append, List.zip_append (by simp [hln])]
            rfl
          show ((((fs ++ [f]).map (·.name)).zip (ids ++ [hB.next])).map (·.1)).Nodup
          rw [e1]
          exact nodup_nput hN.nd
        · show (ids ++ [hB.next]).Nodup
          rw [List.nodup_append]
          exact ⟨hN.ad, by simp, fun a ha b hb => by rw [List.mem_singleton.1 hb]; exact ine a ha⟩
        · intro g hg1 g' hg2 hne o h1 h2
          have h1 : rowOf (if g = hB.next then v else bv g) = some o := h1
          have h2 : rowOf (if g' = hB.next then v else bv g') = some o := h2
          rcases List.mem_append.1 hg1 with q1 | q1 <;> rcases List.mem_append.1 hg2 with q2 | q2
          · rw [if_neg (ine g q1)] at h1
            rw [if_neg (ine g' q2)] at h2
            exact hN3.bb g q1 g' q2 hne o h1 h2
          · obtain rfl := List.mem_singleton.1 q2
            rw [if_neg (ine g q1)] at h1
            rw [if_pos rfl] at h2
            have := blt g q1 o h1
            have := (vro o h2).1
            omega
          · obtain rfl := List.mem_singleton.1 q1
            rw [if_pos rfl] at h1
            rw [if_neg (ine g' q2)] at h2
            have := blt g' q2 o h2
            have := (vro o h1).1
            omega
          · exact hne ((List.mem_singleton.1 q1).trans (List.mem_singleton.1 q2).symm)
        · intro g hg1 o h1 h2
          have h2 : rowOf (if g = hB.next then v else bv g) = some o := h2
          rcases List.mem_append.1 hg1 with q1 | q1
          · rw [if_neg (ine g q1)] at h2
            rcases v'r o h1 with e | e
            · exact hN3.ab g q1 o e h2
            · have := blt g q1 o h2; omega
          · obtain rfl := List.mem_singleton.1 q1
            rw [if_pos rfl] at h2
            have h3' := vro o h2
            rcases v'r o h1 with e | e
            · have := avlt o e; omega
            · omega
        · have nn : (h3.put d (.cells [.int .i64 cap, .mp m, .nilm, v', .nils, .bool false, .int .i64 0, .int .i64 0, .int .i64 0, .int .i64 0])).next = hC.next + 1 := n3
          rw [nn]
          refine ⟨by omega, by omega, fun o ho => ?_, fun g hg1 => ?_⟩
          · rcases v'r o ho with e | e
            · have := avlt o e; omega
            · omega
          · rcases List.mem_append.1 hg1 with q1 | q1
            · have := ilt g q1
              refine ⟨by omega, fun o ho => ?_⟩
              have ho : rowOf (if g = hB.next then v else bv g) = some o := ho
              rw [if_neg (ine g q1)] at ho
              have := blt g q1 o ho
              omega
            · obtain rfl := List.mem_singleton.1 q1
              refine ⟨by omega, fun o ho => ?_⟩
              have ho : rowOf (if hB.next = hB.next then v else bv hB.next) = some o := ho
              rw [if_pos rfl] at ho
              have := (vro o ho).2
              omega
      · rw [List.map_append, List.map_append]
        congr 1
        · rw [← hfile]
          exact List.map_congr_left (fun g hg' => if_neg (ine g hg'))
        · simp
end Go.Am.Dk

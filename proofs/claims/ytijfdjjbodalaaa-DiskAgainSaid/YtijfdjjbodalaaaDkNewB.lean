/- New of any files, told. -/
import Derived.Test.YtijfdjjbodalaaaDkNew
set_option linter.unusedSimpArgs false
set_option linter.unusedVariables false
namespace Go.Am.Dk
open Go.Am
attribute [local go_sem] ne_eq not_true_eq_false not_false_eq_true Nat.reduceEqDiff Nat.reduceAdd Nat.reduceLeDiff Int.toNat_natCast Int.reduceToNat and_self Bool.not_true Bool.not_false Bool.false_and Bool.and_false Bool.true_and Bool.and_true Int.reduceEq Int.reduceLT Int.reduceLE Int.reduceAdd Int.reduceSub Int.reduceNeg decide_true decide_false Option.bind_some Bool.or_true Bool.or_false Bool.true_or Bool.false_or
attribute [local go_sem ↓] reduceIte
set_option maxRecDepth 20000
set_option maxHeartbeats 2000000
variable {P : Prog}
theorem newD_fun (hP : DkQ P) (fl : List FileV) (nl : Bool) (cap : Int) (h : Heap) (hlen : fl.length ≤ 9223372036854775807) (hsm : ∀ f ∈ fl, f.name.length ≤ 2000 ∧ f.data.length ≤ 2000) :
    Fun P 10 [slv nl false fl, .int .i64 cap] h (fun v h' => v = .nilp ∨ ∃ d y ids file, v = .ptr d 0 ∧ DiskAt h' d { filesS cap fl ids file with sure := (fl.map (·.name)).zip ids } y ∧ ids.length = fl.length ∧ ids.map file = fl.map (fun f => ⟨f.data, f.data.length⟩) ∧ fl.length ≤ 64 ∧ 0 ≤ cap ∧ cap ≤ 1048576 ∧ (sumF fl : Int) ≤ cap) := by
  refine Fun.of (code := a10c) (hP.toDkP.code rfl) (by rw [hP.pure]; rfl) ?_
  simp (disch := omega) only [go_sem, a10c, a10r0]
  simp (disch := omega) only [go_sem, a10r1]
  refine guardS_pf (fun c1 w1 => ?_) (fun c1 w1 => ?_) <;> simp (disch := omega) only [go_sem, w1]
  rotate_left
  · simp (disch := omega) only [go_sem, a10r2]
    exact Or.inl (by trivial)
  refine guardS_pf (fun c2 w2 => ?_) (fun c2 w2 => ?_) <;> simp (disch := omega) only [go_sem, w2]
  rotate_left
  · simp (disch := omega) only [go_sem, a10r2]
    exact Or.inl (by trivial)
  refine condS_if (fun c3 => ?_) (fun c3 => ?_)
  · simp (disch := omega) only [go_sem, a10r2]
    exact Or.inl (by trivial)
  simp (disch := omega) only [go_sem, a10r3]
  simp (disch := omega) only [go_sem, a10r4]
  refine Wp_loop (fun x : Fr × Nat × Nat × Heap × AV × (Nat → AV) × List Nat × (Nat → DFile) =>
      x.2.2.1 ≤ fl.length ∧ fget x.1 1 = some (.int .i64 cap) ∧ fget x.1 5 = some (.ptr (h.next + 1) 0) ∧ fget x.1 24 = some (slv nl false fl) ∧ fget x.1 25 = some (.int .i64 fl.length) ∧ fget x.1 26 = some (.int .i64 x.2.2.1) ∧
      NewAt x.2.2.2.1 (h.next + 1) h.next x.2.2.2.2.1 x.2.2.2.2.2.1 (filesS cap (fl.take x.2.2.1) x.2.2.2.2.2.2.1 x.2.2.2.2.2.2.2) ∧ x.2.2.2.2.2.2.1.length = x.2.2.1 ∧ x.2.2.2.2.2.2.1.map x.2.2.2.2.2.2.2 = (fl.take x.2.2.1).map (fun f => ⟨f.data, f.data.length⟩) ∧ (sumF (fl.take x.2.2.1) : Int) ≤ cap)
    (fun x => { fr := x.1, st := x.2.1, h := x.2.2.2.1 }) (fun x => fl.length - x.2.2.1) (_, 0, 0, _, .nils, fun _ => .nils, [], fun _ => ⟨[], 0⟩) rfl ?_ ?_
  · have hN0 : NewAt (((h.reserve 2).put h.next (.map [] [] 0)).put (h.next + 1) (.cells [.int .i64 cap, .mp h.next, .nilm, .nils, .nils, .bool false, .int .i64 0, .int .i64 0, .int .i64 0, .int .i64 0])) (h.next + 1) h.next .nils (fun _ => .nils) (filesS cap [] [] fun _ => ⟨[], 0⟩) := by
      refine { disk := get_put_same _ _ _, names := ⟨[], 0, ?_, rfl, List.nodup_nil, fun b hb => by simp at hb⟩, all := Or.inl ⟨rfl, rfl⟩, cell := fun f hf => by simp [filesS] at hf, bytes := fun f hf => by simp [filesS] at hf, nm := fun p hp => by simp [filesS] at hp, nd := List.nodup_nil, ad := List.nodup_nil, bb := fun f hf => by simp [filesS] at hf, ab := fun f hf => by simp [filesS] at hf, lt := ⟨?_, ?_, fun o ho => by simp [rowOf] at ho, fun f hf => by simp [filesS] at hf⟩ }
      · rw [get_put_ne _ _ _ _ (by omega), get_put_same]; rfl
      · show h.next + 1 < h.next + 2; omega
      · show h.next < h.next + 2; omega
    exact ⟨Nat.zero_le _, by simp (disch := omega) only [go_sem], by simp (disch := omega) only [go_sem], by simp (disch := omega) only [go_sem, fget_keepV], by simp (disch := omega) only [go_sem, fget_keepV], by simp (disch := omega) only [go_sem, fget_keepV]; try trivial, hN0, rfl, rfl, by simp [sumF]; omega⟩
  rintro ⟨fr, st, k, hh, av, bv, ids, file⟩ ⟨i1, f1, f5, f24, f25, f26, hN, hln, hfile, hsum⟩
  simp only at i1 f1 f5 f24 f25 f26 hN hln hfile hsum
  simp (disch := omega) only [go_sem, a10l0, a10r5, f1, f5, f24, f25, f26, fget_keepV]
  refine condS_if (fun hk => ?_) (fun hk => ?_)
  · have hk' : k < fl.length := by omega
    obtain ⟨B, hB⟩ : ∃ B : ACode, B = (.seq (.seq (.dreg 0 a10d7 [1, 5, 7, 8, 24, 25, 26, 53]) (.cond (.s 53) (.seq (.reg 0 a10r8 [4]) .ret) .skip)) (.seq (.dreg 1 a10d9 [1, 5, 7, 8, 24, 25, 26]) (.seq (.dreg 0 a10d10 [1, 5, 8, 24, 25, 26]) (.reg 1 a10r11 [1, 5, 8, 24, 25, 26])))) := ⟨_, rfl⟩
    rw [← hB]
    simp (disch := omega) only [go_sem, a10r6, fget_keepV]
    have ham : fl.getD k default ∈ fl := by
      rw [List.getD_eq_getElem?_getD, List.getElem?_eq_getElem hk']
      exact List.getElem_mem hk'
    have htk : fl.take (k + 1) = fl.take k ++ [fl.getD k default] := by
      rw [List.take_add_one, List.getD_eq_getElem?_getD, List.getElem?_eq_getElem hk']; rfl
    rw [hB]
    have hlk : ids.length = (fl.take k).length := by rw [hln, List.length_take]; omega
    refine (new_body hP cap (fl.getD k default) hh (h.next + 1) h.next av bv (fl.take k) ids file hN hlk hfile hsum (by rw [List.length_take]; omega) (by omega) (hsm _ ham) _ st rfl rfl rfl).mono (fun e s' hs => ?_)
    rcases hs with ⟨rfl, h4⟩ | ⟨rfl, g1, g5, g24, g25, g26, id, av', bv', file', hN', hf', hs'⟩
    · simp (disch := omega) only [go_sem, h4]
      exact Or.inl trivial
    · rw [← htk] at hN' hf' hs'
      have e24 : fget s'.fr 24 = some (slv nl false fl) := g24.trans (by simp (disch := omega) only [go_sem, fget_keepV])
      have e25 : fget s'.fr 25 = some (.int .i64 fl.length) := g25.trans (by simp (disch := omega) only [go_sem, fget_keepV])
      have e26 : fget s'.fr 26 = some (.int .i64 k) := g26.trans (by simp (disch := omega) only [go_sem, fget_keepV])
      simp (disch := omega) only [go_sem, a10r12, g1, g5, e24, e25, e26, fget_keepV]
      exact ⟨(_, s'.st, k + 1, s'.h, av', bv', ids ++ [id], file'), ⟨by simp only; omega, by simp (disch := omega) only [go_sem], by simp (disch := omega) only [go_sem], by simp (disch := omega) only [go_sem, fget_keepV], by simp (disch := omega) only [go_sem, fget_keepV], by simp (disch := omega) only [go_sem, fget_keepV]; trivial, hN', by simp [hln], hf', hs'⟩, by simp only; omega, rfl⟩
  · have hkl : k = fl.length := by omega
    subst hkl
    rw [List.take_length] at hN hfile hsum
    simp (disch := omega) only [go_sem, fget_keepV]
    have hd := hN.disk
    simp only [filesS] at hd
    obtain ⟨bs, ck, hm, hs⟩ := hN.names
    simp (disch := omega) only [go_sem, a10r13, fget_keepV, hd]
    refine WO.fun (vs := [.mp h.next]) (by simp (disch := omega) only [go_sem]) (mclone_funP hP.toDkP hh h.next _ bs ck hm) (fun v h' hv => ?_)
    obtain ⟨rfl, rfl⟩ := hv
    obtain ⟨l1, l2, l3, l4⟩ := hN.lt
    have q1 : ¬ h.next + 1 = hh.next := by omega
    have q2 : ¬ h.next = hh.next := by omega
    have hd2 : ((hh.reserve 1).put hh.next (.map (kv (fp (filesS cap fl ids file).names)) bs ck)).get (h.next + 1) = some (.cells [.int .i64 cap, .mp h.next, .nilm, av, .nils, .bool false, .int .i64 0, .int .i64 0, .int .i64 0, .int .i64 0]) := by rw [get_put_ne _ _ _ _ q1, get_reserve]; exact hd
    simp (disch := omega) only [go_sem, hd2]
    simp (disch := omega) only [go_sem, a10r14]
    refine Or.inr ⟨h.next + 1, ⟨h.next, hh.next, av, .nils, bv⟩, ids, file, by trivial, ?_, hln, hfile, by omega, by omega, by omega, hsum⟩
    have G : ∀ o, o < hh.next → o ≠ h.next + 1 → (((hh.reserve 1).put hh.next (.map (kv (fp (filesS cap fl ids file).names)) bs ck)).put (h.next + 1) (.cells [.int .i64 cap, .mp h.next, .mp hh.next, av, .nils, .bool false, .int .i64 0, .int .i64 0, .int .i64 0, .int .i64 0])).get o = hh.get o := fun o h1 h2 => by
      rw [get_put_ne _ _ _ _ h2, get_put_ne _ _ _ _ (by omega), get_reserve]
    have ha := hN.all
    have avd : ∀ o, rowOf av = some o → o ≠ h.next + 1 := fun o ho e => by
      rcases ha with ⟨e1, -⟩ | ⟨o', ep, j, e1, hg'⟩
      · rw [e1] at ho; simp [rowOf] at ho
      · rw [e1] at ho
        obtain rfl : o' = o := Option.some.inj ho
        rw [e] at hg'; rw [hg'] at hd; simp at hd
    have idd : ∀ g ∈ ids, g ≠ h.next + 1 := fun g hg e => by
      have := hN.cell g hg
      rw [e, hd] at this; simp at this
    have bdd : ∀ g ∈ ids, ∀ o, rowOf (bv g) = some o → o ≠ h.next + 1 := fun g hg o ho e => by
      rcases hN.bytes g hg with ⟨e1, -⟩ | ⟨o', ep, j, e1, hg'⟩
      · rw [e1] at ho; simp [rowOf] at ho
      · rw [e1] at ho
        obtain rfl : o' = o := Option.some.inj ho
        rw [e] at hg'; rw [hg'] at hd; simp at hd
    exact { ok := ⟨hN.nm, hN.nm, fun t ht => by simp [filesS] at ht, hN.nd, hN.nd, hN.ad⟩
            disk := get_put_same _ _ _
            names := ⟨bs, ck, (G h.next (by omega) (by omega)).trans hm, hs⟩
            sure := ⟨bs, ck, by show ((((hh.reserve 1).put hh.next _).put (h.next + 1) _).get hh.next) = _; rw [get_put_ne _ _ _ _ (by omega), get_put_same]; rfl, hs⟩
            all := hN.all.keep (fun o ho => G o (l3 o ho) (avd o ho))
            waits := Or.inl ⟨rfl, rfl⟩
            cell := fun g hg => (G g (l4 g hg).1 (idd g hg)).trans (hN.cell g hg)
            bytes := fun g hg => (hN.bytes g hg).keep (fun o ho => G o ((l4 g hg).2 o ho) (bdd g hg o ho))
            mm := q2
            bb := hN.bb
            ab := hN.ab
            wb := fun g hg o ho => by simp [rowOf] at ho
            aw := fun o ho => by simp [rowOf]
            lt := fun o ho => by
              show o < hh.next + 1
              rcases ho with rfl | rfl | rfl | h1 | h1 | ⟨g, hg, rfl | h1⟩
              · omega
              · show h.next < _; omega
              · show hh.next < _; omega
              · have := l3 o h1; omega
              · simp [rowOf] at h1
              · have := (l4 o hg).1; omega
              · have := (l4 g hg).2 o h1; omega }
end Go.Am.Dk

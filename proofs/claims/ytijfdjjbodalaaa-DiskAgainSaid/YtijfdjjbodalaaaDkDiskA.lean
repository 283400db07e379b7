/- The disk's smaller functions: begin, open, a turn. -/
import Derived.Test.YtijfdjjbodalaaaDkState
set_option linter.unusedSimpArgs false
set_option linter.unusedVariables false
namespace Go.Am.Dk
open Go.Am
attribute [local go_sem] ne_eq not_true_eq_false not_false_eq_true Nat.reduceEqDiff Nat.reduceAdd Nat.reduceLeDiff Int.toNat_natCast Int.reduceToNat and_self Bool.not_true Bool.not_false Bool.false_and Bool.and_false Bool.true_and Bool.and_true Int.reduceEq Int.reduceLT Int.reduceLE Int.reduceAdd Int.reduceSub Int.reduceNeg decide_true decide_false Option.bind_some Bool.or_true Bool.or_false Bool.true_or Bool.false_or
attribute [local go_sem ↓] reduceIte
set_option maxRecDepth 20000
set_option maxHeartbeats 1000000
structure DkP (P : Prog) : Prop where
  fn : ∀ n, n ≠ 8 → n ≠ 33 → n ≠ 21 → n ≠ 24 → P.fn n = code n
  pure : P.pure = pures
  add : ∀ args h r, prim0 63 args h = some r → P.prim 63 args h = some r
  load : ∀ args h r, prim0 61 args h = some r → P.prim 61 args h = some r
  clone : ∀ args h r, prim0 36 args h = some r → P.prim 36 args h = some r
variable {P : Prog}
theorem tdel_sub (k : List UInt8) : ∀ (es : TMap) (bs : List Nat), ((tdel k es bs).2).Sublist bs
  | [], bs => List.Sublist.refl _
  | _ :: _, [] => List.Sublist.refl _
  | p :: r, b :: bs => by
    rw [tdel]
    split
    · exact List.sublist_cons_self _ _
    · exact List.Sublist.cons_cons _ (tdel_sub k r bs)
theorem tdel_len (k : List UInt8) : ∀ (n : NMap) (bs : List Nat), bs.length = n.length → ((tdel k (fp n) bs).2).length = (ndel k n).length
  | [], [], _ => rfl
  | [], _ :: _, h => by simp at h
  | p :: r, [], h => by simp at h
  | p :: r, b :: bs, h => by
    rw [fp_cons, tdel, ndel]
    split
    · simpa using h
    · simp only [List.length_cons, tdel_len k r bs (by simpa using h)]
theorem putM_at {h : Heap} {m ck : Nat} {bs : List Nat} {n : NMap} (hs : Stp bs ck n.length) (k : List UInt8) (f : Nat) : MapAt (h.put m (putM k (.ptr f 0) (fp n) bs ck)) m (nput k f n) := by
  have hl : (nput k f n).length = if (tget k (fp n)).isSome then n.length else n.length + 1 := by
    have := tput_length k (.ptr f 0) (fp n)
    rw [tput_fp, fp_length, fp_length] at this
    exact this
  unfold putM
  rw [tput_fp]
  split
  · rename_i hq
    refine ⟨bs, ck, get_put_same _ _ _, ⟨?_, hs.nd, hs.lt⟩⟩
    rw [hl, if_pos hq, hs.len]
  · rename_i hq
    refine ⟨bs ++ [ck], ck + 1, get_put_same _ _ _, ⟨?_, ?_, fun b hb => ?_⟩⟩
    · rw [hl, if_neg hq, List.length_append, hs.len]; rfl
    · rw [List.nodup_append]
      exact ⟨hs.nd, by simp, fun a ha b hb => by
        rw [List.mem_singleton] at hb
        subst hb
        exact Nat.ne_of_lt (hs.lt a ha)⟩
    · rcases List.mem_append.1 hb with hb | hb
      · exact Nat.lt_succ_of_lt (hs.lt b hb)
      · rw [List.mem_singleton] at hb; omega
theorem delM_at {h : Heap} {m ck : Nat} {bs : List Nat} {n : NMap} (hs : Stp bs ck n.length) (k : List UInt8) : MapAt (h.put m (.map (kv (tdel k (fp n) bs).1) (tdel k (fp n) bs).2 ck)) m (ndel k n) := by
  rw [tdel_fp k n bs hs.len]
  exact ⟨_, ck, get_put_same _ _ _, ⟨tdel_len k n bs hs.len, List.Sublist.nodup (tdel_sub k _ _) hs.nd, fun b hb => hs.lt b ((tdel_sub k _ _).subset hb)⟩⟩
theorem MapAt.look {h : Heap} {m : Nat} {n : NMap} (hm : MapAt h m n) (h0 : Heap) (k : List UInt8) : lookM h0 1 .nilp false (strv k) (h.get m) = some (fcell (nget k n)) := by
  obtain ⟨bs, ck, hg, -⟩ := hm
  rw [hg, lookM_kv, tget_fp]
  cases nget k n <;> rfl
theorem MapAt.of_get {h h' : Heap} {m : Nat} {n : NMap} (hm : MapAt h m n) (e : h'.get m = h.get m) : MapAt h' m n := by
  obtain ⟨bs, ck, hg, hs⟩ := hm
  exact ⟨bs, ck, by rw [e]; exact hg, hs⟩
@[go_sem] theorem evS_fcell (i : Nat) (f : Option Nat) : evS i (some (fcell f)) = some (fcell f) := by cases f <;> rfl
@[go_sem] theorem datW_fcell (f : Option Nat) : datW (some (fcell f)) = some (fcell f) := by cases f <;> rfl
@[go_sem] theorem same_fcell (f : Option Nat) : same 1 (fcell f) .nilp = some f.isNone := by cases f <;> rfl
@[go_sem] theorem fcell_none : fcell none = .nilp := rfl
theorem fcell_some (f : Nat) : fcell (some f) = .ptr f 0 := rfl
theorem do_fun (hP : DkP P) (t : DTurn) (h : Heap) (m : Nat) (n : NMap) (hm : MapAt h m n) :
    Fun P 50 [.agg [strv t.fr, strv t.to, fcell t.f], .mp m] h (fun v h' => MapAt h' m (turnDo t n) ∧ h'.next = h.next ∧ ∀ o, o ≠ m → h'.get o = h.get o) := by
  obtain ⟨fr, to, f⟩ := t
  refine Fun.of (code := a50c) (by rw [hP.fn _ (by decide) (by decide) (by decide) (by decide)]; rfl) (by rw [hP.pure]; rfl) ?_
  have tail : ∀ (fr0 : Fr) (st : Nat) (h1 : Heap) (n1 : NMap) (g : Option Nat), fget fr0 1 = some (.mp m) → fget fr0 2 = some (.lbox 0 [strv fr, strv to, fcell f]) → fget fr0 4 = some (fcell g) → MapAt h1 m n1 → h1.next = h.next → (∀ o, o ≠ m → h1.get o = h.get o) → turnDo ⟨fr, to, f⟩ n = (match g with | some f => if to = [] then n1 else nput to f n1 | none => n1) →
      WO P h1.next a50r5 { fr := fr0, st := st, h := h1 } (regK (seqQ P (.cond (.s 22) (.reg 0 a50r6 []) .skip)
        (bodyQ [] fun v h' => MapAt h' m (turnDo ⟨fr, to, f⟩ n) ∧ h'.next = h.next ∧ ∀ (o : Nat), o ≠ m → h'.get o = h.get o)) [1, 2, 4, 22]) := fun fr0 st h1 n1 g q1 q2 q4 hm1 e1 e2 e3 => by
    rw [e3]
    simp (disch := omega) only [go_sem, a50r5, q1, q2, q4]
    refine guardS_pt (fun c w => ?_) (fun c w => ?_) <;> simp (disch := omega) only [go_sem, w, q1, q2, q4]
    · cases g with
      | none =>
        simp (disch := omega) only [go_sem, Option.isNone_none]
        exact ⟨hm1, e1, e2⟩
      | some f1 =>
        simp (disch := omega) only [go_sem, Option.isNone_some]
        obtain ⟨bs, ck, hg, hs⟩ := hm1
        simp (disch := omega) only [go_sem, a50r6, hg, fcell_some]
        rw [if_neg c]
        exact ⟨putM_at hs to f1, e1, fun o ho => by rw [get_put_ne _ _ _ _ ho]; exact e2 o ho⟩
    · have c' : to = [] := by simpa using c
      cases g with
      | none => exact ⟨hm1, e1, e2⟩
      | some f1 => simp only [c', if_true]; exact ⟨hm1, e1, e2⟩
  simp (disch := omega) only [go_sem, a50c, a50r0]
  simp (disch := omega) only [go_sem, a50r1]
  simp (disch := omega) only [go_sem, a50r2]
  cases f with
  | some f =>
    simp (disch := omega) only [go_sem, Option.isNone_some]
    exact tail _ _ h n (some f) rfl rfl rfl hm rfl (fun _ _ => rfl) rfl
  | none =>
    obtain ⟨bs, ck, hg, hs⟩ := id hm
    have hl := hm.look
    simp (disch := omega) only [go_sem, Option.isNone_none, a50r3, hl]
    simp (disch := omega) only [go_sem, a50r4, hg]
    rw [delM_kv _ _ _ _ _ _ (by rw [fp_length]; exact hs.len)]
    simp (disch := omega) only [go_sem]
    refine tail _ _ _ (ndel fr n) (nget fr n) rfl rfl rfl (delM_at hs fr) rfl (fun o ho => get_put_ne _ _ _ _ ho) ?_
    simp only [turnDo]
    cases nget fr n <;> rfl
def beginS (σ : DSt) : Int × DSt :=
  if σ.dead then (9, σ)
  else if σ.calls + 1 = σ.fuse then (9, { σ with calls := σ.calls + 1, dead := true })
  else if σ.calls + 1 = σ.fault then (σ.e, { σ with calls := σ.calls + 1, fault := 0 })
  else (0, { σ with calls := σ.calls + 1 })
theorem DiskAt.turn {h h' : Heap} {d : Nat} {σ σ' : DSt} {y : Lay} (hD : DiskAt h d σ y) (hd : h'.get d = some (.cells (σ'.cells y))) (ho : ∀ o, Own d σ y o → o ≠ d → h'.get o = h.get o) (hn : h.next ≤ h'.next)
    (s1 : σ'.names = σ.names) (s2 : σ'.sure = σ.sure) (s3 : σ'.all = σ.all) (s4 : σ'.waits = σ.waits) (s5 : σ'.file = σ.file) : DiskAt h' d σ' y := by
  have cne : ∀ o, h.get o ≠ h.get d → o ≠ d := fun o h1 e => h1 (by rw [e])
  have rne : ∀ {α : Type} [Cel α] {v : AV} {l : List α}, PreC h v l → ∀ o, rowOf v = some o → o ≠ d := fun hr o hq => by
    rcases hr with ⟨rfl, -⟩ | ⟨o', ep, j, rfl, hg⟩
    · cases hq
    · obtain rfl := Option.some.inj hq
      refine cne _ ?_
      rw [hg, hD.disk]
      simp
  have mne : ∀ {m : Nat} {n : NMap}, MapAt h m n → m ≠ d := fun ⟨bs, ck, hg, _⟩ => cne _ (by rw [hg, hD.disk]; simp)
  have fne : ∀ f ∈ σ.all, f ≠ d := fun f hf => cne _ (by rw [hD.cell f hf, hD.disk]; simp [DSt.cells])
  have ownE : ∀ o, Own d σ' y o ↔ Own d σ y o := fun o => by simp only [Own, s3]
  refine ⟨⟨by rw [s1, s3]; exact hD.ok.names, by rw [s2, s3]; exact hD.ok.sure, by rw [s4, s3]; exact hD.ok.waits, by rw [s1]; exact hD.ok.nd, by rw [s2]; exact hD.ok.sd, by rw [s3]; exact hD.ok.ad⟩, hd, ?_, ?_, ?_, ?_, ?_, ?_, hD.mm, by rw [s3]; exact hD.bb, by rw [s3]; exact hD.ab, by rw [s3]; exact hD.wb, hD.aw, fun o hq => Nat.lt_of_lt_of_le (hD.lt o ((ownE o).1 hq)) hn⟩
  · rw [s1]; exact hD.names.of_get (ho _ (Or.inr (Or.inl rfl)) (mne hD.names))
  · rw [s2]; exact hD.sure.of_get (ho _ (Or.inr (Or.inr (Or.inl rfl))) (mne hD.sure))
  · rw [s3]; exact hD.all.keep (fun o hq => ho o (Or.inr (Or.inr (Or.inr (Or.inl hq)))) (rne hD.all o hq))
  · rw [s4]; exact hD.waits.keep (fun o hq => ho o (Or.inr (Or.inr (Or.inr (Or.inr (Or.inl hq))))) (rne hD.waits o hq))
  · rw [s3, s5]
    intro f hf
    rw [ho f (Or.inr (Or.inr (Or.inr (Or.inr (Or.inr ⟨f, hf, Or.inl rfl⟩))))) (fne f hf)]
    exact hD.cell f hf
  · rw [s3, s5]
    intro f hf
    exact (hD.bytes f hf).keep (fun o hq => ho o (Or.inr (Or.inr (Or.inr (Or.inr (Or.inr ⟨f, hf, Or.inr hq⟩))))) (rne (hD.bytes f hf) o hq))
theorem DiskAt.ext {h h' : Heap} {d : Nat} {σ : DSt} {y : Lay} (hD : DiskAt h d σ y) (ho : ∀ o, Own d σ y o → h'.get o = h.get o) (hn : h.next ≤ h'.next) : DiskAt h' d σ y :=
  hD.turn ((ho d (Or.inl rfl)).trans hD.disk) (fun o h1 _ => ho o h1) hn rfl rfl rfl rfl rfl
theorem add_funP (hP : DkP P) (h : Heap) (d : Nat) (n : Int) (c0 c1 c2 c3 c4 c5 : AV) (r : List AV) (hd : h.get d = some (.cells (c0 :: c1 :: c2 :: c3 :: c4 :: c5 :: .int .i64 n :: r))) (h1 : 0 ≤ n) (h2 : n < 9000000000000000000) :
    Fun P 63 [.ptr d 6, .int .i64 1] h (fun v h' => v = .int .i64 (n + 1) ∧ h' = h.put d (.cells (c0 :: c1 :: c2 :: c3 :: c4 :: c5 :: .int .i64 (n + 1) :: r))) := by
  have hw : wrapA .i64 (n + 1) = n + 1 := by
    obtain ⟨m, rfl⟩ := Int.eq_ofNat_of_zero_le h1
    show (bif Nat.blt (m + 1) 9223372036854775808 then Int.ofNat (m + 1) else IntKind.i64.wrap (Int.ofNat (m + 1))) = _
    rw [show Nat.blt (m + 1) 9223372036854775808 = true by simp only [nblt, decide_eq_true_eq]; omega]
    rfl
  refine Fun.prim (v := .int .i64 (n + 1)) (h' := h.put d (.cells (c0 :: c1 :: c2 :: c3 :: c4 :: c5 :: .int .i64 (n + 1) :: r))) (by rw [hP.fn _ (by decide) (by decide) (by decide) (by decide)]; rfl) (by rw [hP.pure]; rfl) (hP.add _ _ _ ?_) ⟨rfl, rfl⟩
  have b2 : Nat.beq 63 61 = false := rfl
  have b3 : Nat.beq 63 63 = true := rfl
  have b4 : intOf (c0 :: c1 :: c2 :: c3 :: c4 :: c5 :: AV.int IntKind.i64 n :: r)[6]? = some n := rfl
  simp only [prim0, orP, loadOn, addOn, cloneOn, b2, b3, cond_false, cond_true, atCell, b4, wr, hd, over, over0, hw, Option.bind_some]
theorem beginD_fun (hP : DkP P) (h : Heap) (d : Nat) (σ : DSt) (y : Lay) (hD : DiskAt h d σ y) (h1 : 0 ≤ σ.calls) (h2 : σ.calls < 9000000000000000000) :
    Fun P 38 [.ptr d 0] h (fun v h' => v = .int .i64 (beginS σ).1 ∧ DiskAt h' d (beginS σ).2 y ∧ h'.next = h.next ∧ ∀ o, o ≠ d → h'.get o = h.get o) := by
  have hd := hD.disk
  have fin : ∀ (h' : Heap) (σ' : DSt), h'.get d = some (.cells (σ'.cells y)) → h'.next = h.next → (∀ o, o ≠ d → h'.get o = h.get o) → σ'.names = σ.names → σ'.sure = σ.sure → σ'.all = σ.all → σ'.waits = σ.waits → σ'.file = σ.file → DiskAt h' d σ' y :=
    fun h' σ' q1 q2 q3 s1 s2 s3 s4 s5 => hD.turn q1 (fun o _ ho => q3 o ho) (by omega) s1 s2 s3 s4 s5
  refine Fun.of (code := a38c) (by rw [hP.fn _ (by decide) (by decide) (by decide) (by decide)]; rfl) (by rw [hP.pure]; rfl) ?_
  simp only [DSt.cells] at hd
  simp (disch := omega) only [go_sem, a38c, a38r0, a38r1, a38r3, hd]
  unfold beginS
  refine condS_split (fun c => ?_) (fun c => ?_)
  · rw [if_pos c]
    simp (disch := omega) only [go_sem, a38r4]
    exact ⟨trivial, hD, trivial, fun _ _ => trivial⟩
  · rw [if_neg (by simp [c])]
    simp (disch := omega) only [go_sem, a38r5]
    refine WO.fun (vs := [.ptr d 6, .int .i64 1]) (by simp (disch := omega) only [go_sem]) (add_funP hP h d σ.calls (.int .i64 σ.cap) (.mp y.m) (.mp y.m2) y.av y.wv (.bool σ.dead) [.int .i64 σ.fuse, .int .i64 σ.fault, .int .i64 σ.e] hd h1 h2) (fun v h' hv => ?_)
    obtain ⟨rfl, rfl⟩ := hv
    simp (disch := omega) only [go_sem, a38r6, get_put_same]
    refine condS_if (fun c2 => ?_) (fun c2 => ?_)
    · rw [if_pos c2]
      simp (disch := omega) only [go_sem, a38r7, get_put_same]
      simp (disch := omega) only [go_sem, a38r8]
      exact ⟨trivial, fin _ { σ with calls := σ.calls + 1, dead := true } (get_put_same _ _ _) rfl (fun o ho => by rw [get_put_ne _ _ _ _ ho, get_put_ne _ _ _ _ ho]) rfl rfl rfl rfl rfl, trivial, fun o ho => by rw [get_put_ne _ _ _ _ ho, get_put_ne _ _ _ _ ho]⟩
    · rw [if_neg c2]
      simp (disch := omega) only [go_sem, a38r9, get_put_same]
      refine condS_if (fun c3 => ?_) (fun c3 => ?_)
      · rw [if_pos c3]
        simp (disch := omega) only [go_sem, a38r10, get_put_same]
        simp (disch := omega) only [go_sem, a38r11, get_put_same]
        exact ⟨trivial, fin _ { σ with calls := σ.calls + 1, fault := 0 } (get_put_same _ _ _) rfl (fun o ho => by rw [get_put_ne _ _ _ _ ho, get_put_ne _ _ _ _ ho]) rfl rfl rfl rfl rfl, trivial, fun o ho => by rw [get_put_ne _ _ _ _ ho, get_put_ne _ _ _ _ ho]⟩
      · rw [if_neg c3]
        simp (disch := omega) only [go_sem, a38r12]
        exact ⟨trivial, fin _ { σ with calls := σ.calls + 1 } (get_put_same _ _ _) rfl (fun o ho => get_put_ne _ _ _ _ ho) rfl rfl rfl rfl rfl, trivial, fun o ho => get_put_ne _ _ _ _ ho⟩
end Go.Am.Dk

/- May a program be? (typing.May: a walker that notes what is bad) -/
import Derived.Test.YtpcopgdkcoiljaaDkAll2
set_option linter.unusedSimpArgs false
set_option linter.unusedVariables false
namespace Go.Am
theorem Tr.ins_self {α : Type} : ∀ (f : Nat) (t : Tr α) (k : Nat) (v : α), k < f → t.get k = some v → Tr.ins f t k v = t
 | 0, _, _, _, h, _ => by omega
 | f + 1, .leaf, k, v, _, h => by simp [Tr.get] at h
 | f + 1, .node x l r, k, v, hk, h => by
  simp only [Tr.get] at h
  simp only [Tr.ins]
  by_cases k0 : k = 0
  ·rw [if_pos k0] at h ⊢; rw [h]
  ·rw [if_neg k0] at h ⊢
   by_cases k1 : k % 2 = 1
   ·rw [if_pos k1] at h ⊢; rw [Tr.ins_self f l _ v (by omega) h]
   ·rw [if_neg k1] at h ⊢; rw [Tr.ins_self f r _ v (by omega) h]
theorem Tr.ins_ins {α : Type} : ∀ (f : Nat) (t : Tr α) (k : Nat) (v w : α), k < f → Tr.ins f (Tr.ins f t k v) k w = Tr.ins f t k w
 | 0, _, _, _, _, h => by omega
 | f + 1, t, k, v, w, hk => by
  by_cases k0 : k = 0
  ·cases t <;> simp [Tr.ins, k0]
  ·by_cases k1 : k % 2 = 1 <;> cases t <;> simp [Tr.ins, k0, k1] <;> exact Tr.ins_ins f _ _ v w (by omega)
theorem put_self {h : Heap} {o : Nat} {x : AObj} (hg : h.get o = some x) : h.put o x = h := by
 unfold Heap.put
 rw [show h.m.set o x = h.m from Tr.ins_self _ _ _ _ (by omega) hg]
@[go_sem] theorem put_put (h : Heap) (o : Nat) (x y : AObj) : (h.put o x).put o y = h.put o y := by
 unfold Heap.put
 simp only [Tr.set]
 rw [Tr.ins_ins _ _ _ _ _ (by omega)]
end Go.Am
namespace Go.Am.Ef
open Go.Am
variable {P : Prog}
set_option maxRecDepth 20000
set_option maxHeartbeats 1000000
def QC (p : ProgV) : AObj := .cells [slv p.sn false p.sites, slv p.fn false p.fns]
def WC (p : ProgV) (q : Nat) (b : Bool) : AObj := .cells [slv p.sn false p.sites, slv p.fn false p.fns, .fn 75 [.ptr q 0], .bool b]
structure WAt (h : Heap) (w q : Nat) (p : ProgV) (b : Bool) : Prop where
 wk : h.get w = some (WC p q b)
 pr : h.get q = some (QC p)
 ne : q ≠ w
theorem WAt.put {h : Heap} {w q : Nat} {p : ProgV} {b : Bool} (H : WAt h w q p b) (b' : Bool) : WAt (h.put w (WC p q b')) w q p b' :=
 ⟨get_put_same _ _ _, by rw [get_put_ne _ _ _ _ H.ne]; exact H.pr, H.ne⟩
theorem site75_fun (hP : EfP P) (p : ProgV) (hw : Len p.sites.length) (i : Int) (h : Heap) (q : Nat) (hq : h.get q = some (QC p)) : Fun P 75 [.int .i64 i, .ptr q 0] h (fun v h' => v = .bool (inR i p.sites.length) ∧ h' = h) := by
 refine Fun.of (code := a75c) (hP.code rfl) (by rw [hP.pure]; rfl) ?_
 unfold QC at hq
 simp (disch := omega) only [go_sem, a75c, a75r0]
 simp (disch := omega) only [go_sem, a75r1, hq]
 refine guardS_pt (fun c1 v1 => ?_) (fun c1 v1 => ?_) <;> simp (disch := omega) only [go_sem, v1, hq]
 ·rw [inR, v1, Bool.true_and]; exact ⟨rfl, trivial⟩
 ·rw [inR, v1, Bool.false_and]; exact ⟨rfl, trivial⟩
def a54t : ACode := (.seq (.seq (.reg 0 a54r17 [0, 2, 4]) (.seq (.reg 0 a54r18 [0, 2, 4, 87]) (.cond (.s 87) .ret .skip))) (.seq (.reg 0 a54r19 [0, 2, 89, 90, 91]) (.block 1 (.loop a54l0))))
theorem a54c_eq : a54c = (.seq (.reg 0 a54r0 [0, 2, 4]) (.seq (.reg 0 a54r1 [0, 2, 4, 6]) (.seq (.seq (.reg 0 a54r2 [0, 2, 4, 6, 10]) (.block 0 (.seq (.seq (.reg 0 a54r3 [0, 2, 4, 6, 10, 11]) (.cond (.s 11) .skip (.reg 0 a54r4 [0, 2, 4, 6, 10, 11]))) (.cond (.s 11) (.reg 0 a54r5 [0, 2, 4, 6]) (.seq (.reg 0 a54r6 [0, 2, 4, 6, 10, 14]) (.cond (.s 14) (.seq (.reg 0 a54r7 [0, 2, 4, 6]) (.dreg 0 a54d8 [0, 2, 4, 6])) (.seq (.reg 0 a54r9 [0, 2, 4, 6, 10, 33]) (.cond (.s 33) (.seq (.reg 0 a54r10 [0, 2, 4, 6]) (.dreg 0 a54d11 [0, 2, 4, 6])) (.seq (.seq (.reg 0 a54r12 [0, 2, 4, 6, 10, 61]) (.cond (.s 61) .skip (.reg 0 a54r13 [0, 2, 4, 6, 10, 61]))) (.cond (.s 61) (.reg 0 a54r14 [0, 2, 4, 6]) (.seq (.reg 0 a54r15 [0, 2, 4, 6, 64]) (.cond (.s 64) (.reg 0 a54r16 [0, 2, 4, 6]) .skip)))))))))))) a54t))) := rfl
theorem code_rest (hP : EfP P) (p : ProgV) {w q : Nat} {kd a n s f : Int} {nm : List UInt8} {nl : Bool} {l : List Code} (w6 : Len l.length) (w7 : ∀ x ∈ l, CodeWf x)
  (ih : ∀ x ∈ l, ∀ (d : Nat) (b : Bool) (h : Heap), d ≤ 1000 → CodeWf x → WAt h w q p b → Fun P 54 [.ptr w 0, .agg (Enc.cells x), .int .i64 d] h (fun v h' => v = .tup [] ∧ h' = h.put w (WC p q (b || !mayC p.sites.length p.fns.length x d)))) (d t : Nat) (hd : d ≤ 1000) (m : Int) (b : Bool) (h : Heap) (hw : WAt h w q p b) (tl : Fr) :
  Wp P a54t { fr := (0, .ptr w 0) :: (2, .int .i64 d) :: (4, .lbox 0 [.int .i64 kd, .int .i64 a, .int .i64 n, .int .i64 s, .int .i64 f, strv nm, slv nl false l]) :: (6, .int .i64 m) :: tl, st := t, h := h }
   (bodyQ [] fun v h' => v = .tup [] ∧ h' = h.put w (WC p q (b || !(decide (m = l.length) && decide (d ≤ 64) && mayCs p.sites.length p.fns.length l (d + 1))))) := by
 obtain ⟨g1, g2, g3⟩ := id hw
 unfold WC at g1
 cases b with
 | true =>
  simp (disch := omega) only [go_sem, a54t, a54r17, g1, a54r18]
  exact ⟨trivial, rfl⟩
 | false =>
  simp (disch := omega) only [go_sem, a54t, a54r17, g1]
  by_cases c1 : m = (l.length : Int)
  ·have v1 : decide (m = (l.length : Int)) = true := decide_eq_true c1
   have v1' : decide (¬ m = (l.length : Int)) = false := decide_eq_false (fun h => h c1)
   simp (disch := omega) only [go_sem, v1', g1, a54r18]
   refine condS_if (fun c2 => ?_) (fun c2 => ?_)
   ·have v3 : decide (d ≤ 64) = false := decide_eq_false (by omega)
    have v2 : decide (64 < (d : Int)) = true := decide_eq_true (by omega)
    simp (disch := omega) only [go_sem, v1, v2, v3]
    exact ⟨trivial, rfl⟩
   ·have v3 : decide (d ≤ 64) = true := decide_eq_true (by omega)
    have v2 : decide (64 < (d : Int)) = false := decide_eq_false (by omega)
    rw [mayCs_all, v1, v3]
    simp (disch := omega) only [go_sem, a54r19, v2]
    refine Wp_loop (fun x : Nat × Nat => x.2 ≤ l.length) (fun (t, k) => { fr := [(0, .ptr w 0), (2, .int .i64 d), (89, slv nl false l), (90, .int .i64 l.length), (91, .int .i64 k)], st := t, h := h.put w (WC p q (!(l.take k).all (fun c => mayC p.sites.length p.fns.length c (d + 1)))) }) (fun x => l.length - x.2) (t, 0) ?_ (by simp) ?_
    ·simp only [List.take_zero, List.all_nil]; rfl
    rintro ⟨t, k⟩ h1
    simp only at h1
    simp (disch := omega) only [go_sem, a54l0, a54r20]
    refine condS_if (fun c5 => ?_) (fun c5 => ?_)
    ·have hk : k < l.length := by omega
     simp (disch := omega) only [go_sem, a54r21]
     simp (disch := omega) only [go_sem, a54r22]
     refine WO.fun (vs := [.ptr w 0, .agg (Enc.cells (l.getD k default)), .int .i64 ((d + 1 : Nat) : Int)]) (by simp (disch := omega) only [go_sem]; push_cast; rfl) (ih _ (slv_get hk) (d + 1) _ _ (by omega) (w7 _ (slv_get hk)) (hw.put _)) (fun v h' hv => ?_)
     obtain ⟨rfl, rfl⟩ := hv
     simp (disch := omega) only [go_sem, a54r23]
     refine ⟨(t + 1, k + 1), by simp only; omega, by simp only; omega, ?_⟩
     simp only
     have e : (!(l.take (k + 1)).all (fun c => mayC p.sites.length p.fns.length c (d + 1))) = (!(l.take k).all (fun c => mayC p.sites.length p.fns.length c (d + 1)) || !mayC p.sites.length p.fns.length (l.getD k default) (d + 1)) := by
      rw [List.take_succ_eq_append_getElem hk, List.all_append, List.getD_eq_getElem?_getD, List.getElem?_eq_getElem hk, Bool.not_and]
      simp
     rw [e]
     push_cast
     rfl
    ·simp (disch := omega) only [go_sem]
     rw [List.take_of_length_le (by omega)]
     exact ⟨trivial, rfl⟩
  ·have v1 : decide (m = (l.length : Int)) = false := decide_eq_false c1
   have v1' : decide (¬ m = (l.length : Int)) = true := decide_eq_true c1
   simp (disch := omega) only [go_sem, v1', g1, a54r18]
   simp (disch := omega) only [go_sem, v1]
   exact ⟨trivial, rfl⟩
theorem code_fun (hP : EfP P) (p : ProgV) {w q : Nat} (hw1 : Len p.sites.length) (hw2 : Len p.fns.length) : ∀ (c : Code) (d : Nat) (b : Bool) (h : Heap), d ≤ 1000 → CodeWf c → WAt h w q p b → Fun P 54 [.ptr w 0, .agg (Enc.cells c), .int .i64 d] h (fun v h' => v = .tup [] ∧ h' = h.put w (WC p q (b || !mayC p.sites.length p.fns.length c d))) := by
 refine Code.ind fun kd a n s f nm nl l ih d b h hd hcw H => ?_
 obtain ⟨w1, w2, w3, w4, w5, w6, w7⟩ := hcw
 have hrest := code_rest hP p (w := w) (q := q) (kd := kd) (a := a) (n := n) (s := s) (f := f) (nm := nm) (nl := nl) w6 w7 ih
 obtain ⟨g1, g2, g3⟩ := id H
 unfold WC at g1
 generalize hT : (b || !mayC p.sites.length p.fns.length (.mk kd a n s f nm nl l) d) = T
 rw [mayC] at hT
 have hfin : ∀ (b' : Bool) (m : Int) (tl : Fr) (st : Nat), (b' || !(decide (m = l.length) && decide (d ≤ 64) && mayCs p.sites.length p.fns.length l (d + 1))) = T →
   Wp P a54t { fr := (0, .ptr w 0) :: (2, .int .i64 d) :: (4, .lbox 0 [.int .i64 kd, .int .i64 a, .int .i64 n, .int .i64 s, .int .i64 f, strv nm, slv nl false l]) :: (6, .int .i64 m) :: tl, st := st, h := h.put w (WC p q b') } (bodyQ [] fun v h' => v = .tup [] ∧ h' = h.put w (WC p q T)) := fun b' m tl st e => by
  have := hrest d st hd m b' (h.put w (WC p q b')) (H.put b') tl
  rw [e] at this
  simpa only [put_put] using this
 have hfin0 : ∀ (m : Int) (tl : Fr) (st : Nat), (b || !(decide (m = l.length) && decide (d ≤ 64) && mayCs p.sites.length p.fns.length l (d + 1))) = T →
   Wp P a54t { fr := (0, .ptr w 0) :: (2, .int .i64 d) :: (4, .lbox 0 [.int .i64 kd, .int .i64 a, .int .i64 n, .int .i64 s, .int .i64 f, strv nm, slv nl false l]) :: (6, .int .i64 m) :: tl, st := st, h := h } (bodyQ [] fun v h' => v = .tup [] ∧ h' = h.put w (WC p q T)) := fun m tl st e => by
  have := hfin b m tl st e
  rwa [put_self (show h.get w = some (WC p q b) from g1)] at this
 refine Fun.of (code := a54c) (hP.code rfl) (by rw [hP.pure]; rfl) ?_
 simp (disch := omega) only [go_sem, a54c_eq, a54r0]
 simp (disch := omega) only [go_sem, a54r1]
 simp (disch := omega) only [go_sem, a54r2]
 simp (disch := omega) only [go_sem, a54r3]
 have dl : ∀ (m : Nat), decide (l.length = m) = decide ((m : Int) = l.length) := fun m => decide_eq_decide.2 (by omega)
 have e0 : kd = 0 ∨ kd = 1 → okK p.sites.length p.fns.length kd s f l.length = decide (l.length = 0) := fun h => by
  rw [okK, if_neg (by omega), if_neg (by omega), if_neg (by omega), if_neg (by omega), if_pos h]
 refine condS_if (fun k0 => ?_) (fun k0 => ?_)
 ·simp (disch := omega) only [go_sem, a54r5, show decide (kd = 0) = true from decide_eq_true k0]
  exact hfin0 0 [] 1 (by rw [← hT, e0 (.inl k0), dl 0]; rfl)
 have k0' : decide (kd = 0) = false := decide_eq_false k0
 simp (disch := omega) only [go_sem, a54r4, k0']
 refine condS_if (fun k1 => ?_) (fun k1 => ?_)
 ·simp (disch := omega) only [go_sem, a54r5]
  exact hfin0 0 [] 1 (by rw [← hT, e0 (.inr k1), dl 0]; rfl)
 have k1' : decide (kd = 1) = false := decide_eq_false k1
 simp (disch := omega) only [go_sem, a54r6, k1']
 refine condS_if (fun k2 => ?_) (fun k2 => ?_)
 ·have e : okK p.sites.length p.fns.length kd s f l.length = (inR s p.sites.length && decide ((0 : Int) = l.length)) := by
   rw [okK, if_pos k2, dl 0]; rfl
  simp (disch := omega) only [go_sem, a54r7]
  cases b with
  | true =>
   simp (disch := omega) only [go_sem, a54d8, g1]
   refine WD_storeP (val := .bool true) (off := 3) (o := w) (c' := [slv p.sn false p.sites, slv p.fn false p.fns, .fn 75 [.ptr q 0], .bool true]) (by simp (disch := omega) only [go_sem]) (by simp (disch := omega) only [go_sem]) rfl g1 rfl rfl ?_
   simp (disch := omega) only [go_sem]
   exact hfin true 0 [] _ (by rw [← hT, Bool.true_or, Bool.true_or])
  | false =>
   simp (disch := omega) only [go_sem, a54d8, g1]
   refine WD_funv (f := 75) (caps := [.ptr q 0]) (vs := [.int .i64 s]) (by simp (disch := omega) only [go_sem]) (by simp (disch := omega) only [go_sem]) (site75_fun hP p hw1 s h q g2) (fun v h' hv => ?_) (fun v h' hv => ?_)
   ·obtain ⟨rfl, rfl⟩ := hv
    simp (disch := omega) only [go_sem]
   obtain ⟨rfl, rfl⟩ := hv
   simp (disch := omega) only [go_sem, g1]
   refine WD_storeP (val := .bool (!inR s p.sites.length)) (off := 3) (o := w) (c' := [slv p.sn false p.sites, slv p.fn false p.fns, .fn 75 [.ptr q 0], .bool (!inR s p.sites.length)]) (by simp (disch := omega) only [go_sem]) (by simp (disch := omega) only [go_sem]) rfl g1 rfl rfl ?_
   simp (disch := omega) only [go_sem]
   exact hfin (!inR s p.sites.length) 0 [] _ (by rw [← hT, e]; cases inR s p.sites.length <;> simp)
 have k2' : decide (kd = 2) = false := decide_eq_false k2
 simp (disch := omega) only [go_sem, a54r9, k2']
 refine condS_if (fun k3 => ?_) (fun k3 => ?_)
 ·have e : okK p.sites.length p.fns.length kd s f l.length = inR f p.fns.length := by rw [okK, if_neg k2, if_pos k3]
  simp (disch := omega) only [go_sem, a54r10]
  cases b with
  | true =>
   simp (disch := omega) only [go_sem, a54d11, g1]
   refine WD_storeP (val := .bool true) (off := 3) (o := w) (c' := [slv p.sn false p.sites, slv p.fn false p.fns, .fn 75 [.ptr q 0], .bool true]) (by simp (disch := omega) only [go_sem]) (by simp (disch := omega) only [go_sem]) rfl g1 rfl rfl ?_
   simp (disch := omega) only [go_sem]
   exact hfin true l.length [] _ (by rw [← hT, Bool.true_or, Bool.true_or])
  | false =>
   have dd : decide ((l.length : Int) = l.length) = true := decide_eq_true rfl
   simp (disch := omega) only [go_sem, a54d11, g1]
   refine dguardS_f (fun c1 => ?_) (fun c1 => ?_)
   ·have v1 := c1
    rw [decide_eq_false_iff_not] at v1
    simp (disch := omega) only [go_sem, c1, g1]
    refine WD_storeP (val := .bool (decide ((p.fns.length : Int) ≤ f))) (off := 3) (o := w) (c' := [slv p.sn false p.sites, slv p.fn false p.fns, .fn 75 [.ptr q 0], .bool (decide ((p.fns.length : Int) ≤ f))]) (by simp (disch := omega) only [go_sem]) (by simp (disch := omega) only [go_sem]) rfl g1 rfl rfl ?_
    simp (disch := omega) only [go_sem]
    refine hfin (decide ((p.fns.length : Int) ≤ f)) l.length [] _ ?_
    rw [← hT, e, dd, inR, show decide (0 ≤ f) = true from decide_eq_true (by omega)]
    by_cases hf : (p.fns.length : Int) ≤ f
    ·rw [decide_eq_true hf, show decide (f < (p.fns.length : Int)) = false from decide_eq_false (by omega)]; simp
    ·rw [decide_eq_false hf, show decide (f < (p.fns.length : Int)) = true from decide_eq_true (by omega)]; simp
   ·have v1 := c1
    rw [decide_eq_true_eq] at v1
    simp (disch := omega) only [go_sem, c1, g1]
    refine WD_storeP (val := .bool true) (off := 3) (o := w) (c' := [slv p.sn false p.sites, slv p.fn false p.fns, .fn 75 [.ptr q 0], .bool true]) (by simp (disch := omega) only [go_sem]) (by simp (disch := omega) only [go_sem]) rfl g1 rfl rfl ?_
    simp (disch := omega) only [go_sem]
    refine hfin true l.length [] _ ?_
    rw [← hT, e, inR, show decide (0 ≤ f) = false from decide_eq_false (by omega)]; simp
 have k3' : decide (kd = 3) = false := decide_eq_false k3
 simp (disch := omega) only [go_sem, a54r12, k3']
 refine condS_if (fun k4 => ?_) (fun k4 => ?_)
 ·simp (disch := omega) only [go_sem, a54r14, show decide (kd = 4) = true from decide_eq_true k4]
  exact hfin0 1 [] _ (by rw [← hT, okK, if_neg k2, if_neg k3, if_pos (.inl k4), dl 1]; rfl)
 have k4' : decide (kd = 4) = false := decide_eq_false k4
 simp (disch := omega) only [go_sem, a54r13, k4']
 refine condS_if (fun k6 => ?_) (fun k6 => ?_)
 ·simp (disch := omega) only [go_sem, a54r14]
  exact hfin0 1 [] _ (by rw [← hT, okK, if_neg k2, if_neg k3, if_pos (.inr k6), dl 1]; rfl)
 have k6' : decide (kd = 6) = false := decide_eq_false k6
 simp (disch := omega) only [go_sem, a54r15, k6']
 refine condS_if (fun k5 => ?_) (fun k5 => ?_)
 ·simp (disch := omega) only [go_sem, a54r16]
  exact hfin0 2 [] _ (by rw [← hT, okK, if_neg k2, if_neg k3, if_neg (by omega), if_pos k5, dl 2]; rfl)
 have k5' : decide (kd = 5) = false := decide_eq_false k5
 simp (disch := omega) only [go_sem, k5']
 refine hfin0 (-1) [(64, .bool false)] _ ?_
 rw [← hT, okK, if_neg k2, if_neg k3, if_neg (by omega), if_neg k5, if_neg (by omega), show decide ((-1 : Int) = l.length) = false from decide_eq_false (by omega)]
end Go.Am.Ef
/- May a program be? (typing.May: a walker of acts) -/
namespace Go.Am.Ef
open Go.Am
variable {P : Prog}
set_option maxRecDepth 20000
set_option maxHeartbeats 1000000
def headA (ns : Nat) (x : Act) (d : Nat) : Bool := decide (0 ≤ x.kind ∧ x.kind ≤ 4) && decide (d ≤ 64) && (decide (x.kind ≠ 0) || inR x.site ns)
theorem mayK_head (ns nf : Nat) (x : Act) (d : Nat) : mayK ns nf x d = (headA ns x d && (decide (x.kind = 3) || mayC ns nf x.e 1)) := rfl
theorem acts_head (hP : EfP P) (p : ProgV) {w q : Nat} (hw1 : Len p.sites.length) (x : Act) (hx : ActWf' x) {l8 : AV} {n9 n10 : Int} (d t u : Nat) (b : Bool) (h : Heap) (H : WAt h w q p b) {tl : Fr} {K : AExit → St → Prop}
  (hK : K .normal { fr := [(0, .ptr w 0), (2, .int .i64 d), (7, .lbox u (Enc.cells x)), (8, l8), (9, .int .i64 n9), (10, .int .i64 n10)], st := t + 1, h := h.put w (WC p q (b || !headA p.sites.length x d)) }) :
  Wp P (.dreg 0 a53d3 [0, 2, 7, 8, 9, 10]) { fr := (0, .ptr w 0) :: (2, .int .i64 d) :: (7, .lbox u (Enc.cells x)) :: (8, l8) :: (9, .int .i64 n9) :: (10, .int .i64 n10) :: tl, st := t, h := h } K := by
 obtain ⟨w1, w2, w3, w4, w5, w6, w7, w8⟩ := hx.parts
 obtain ⟨g1, g2, g3⟩ := id H
 unfold WC at g1
 have st : ∀ (b' : Bool), b' = (b || !headA p.sites.length x d) → K .normal { fr := [(0, .ptr w 0), (2, .int .i64 d), (7, .lbox u (Enc.cells x)), (8, l8), (9, .int .i64 n9), (10, .int .i64 n10)], st := t + 1, h := h.put w (.cells [slv p.sn false p.sites, slv p.fn false p.fns, .fn 75 [.ptr q 0], .bool b']) } := fun b' e => by
  rw [e]; exact hK
 cases b with
 | true =>
  simp (disch := omega) only [go_sem, a53d3, g1]
  refine WD_storeP (val := .bool true) (off := 3) (o := w) (c' := [slv p.sn false p.sites, slv p.fn false p.fns, .fn 75 [.ptr q 0], .bool true]) (by simp (disch := omega) only [go_sem]) (by simp (disch := omega) only [go_sem]) rfl g1 rfl rfl ?_
  simp (disch := omega) only [go_sem]
  exact st true rfl
 | false =>
  have fin : ∀ (b' : Bool), b' = (false || !headA p.sites.length x d) → True := fun _ _ => trivial
  simp (disch := omega) only [go_sem, a53d3, g1]
  refine dguardS_f (fun c1 => ?_) (fun c1 => ?_)
  ·have v1 := c1
   rw [decide_eq_false_iff_not] at v1
   simp (disch := omega) only [go_sem, c1, g1]
   refine dguardS_f (fun c2 => ?_) (fun c2 => ?_)
   ·have v2 := c2
    rw [decide_eq_false_iff_not] at v2
    simp (disch := omega) only [go_sem, c2, g1]
    refine dguardS_f (fun c3 => ?_) (fun c3 => ?_)
    ·have v3 := c3
     rw [decide_eq_false_iff_not] at v3
     have e1 : decide (0 ≤ x.kind ∧ x.kind ≤ 4) = true := decide_eq_true (by omega)
     have e2 : decide (d ≤ 64) = true := decide_eq_true (by omega)
     simp (disch := omega) only [go_sem, c3, g1]
     by_cases c4 : x.kind = 0
     ·have e3 : decide (x.kind = 0) = true := decide_eq_true c4
      simp (disch := omega) only [go_sem, e3, g1]
      refine WD_funv (f := 75) (caps := [.ptr q 0]) (vs := [.int .i64 x.site]) (by simp (disch := omega) only [go_sem]) (by simp (disch := omega) only [go_sem]) (site75_fun hP p hw1 x.site h q g2) (fun v h' hv => ?_) (fun v h' hv => ?_)
      ·obtain ⟨rfl, rfl⟩ := hv
       simp (disch := omega) only [go_sem]
      obtain ⟨rfl, rfl⟩ := hv
      simp (disch := omega) only [go_sem, g1]
      refine WD_storeP (val := .bool (!inR x.site p.sites.length)) (off := 3) (o := w) (c' := [slv p.sn false p.sites, slv p.fn false p.fns, .fn 75 [.ptr q 0], .bool (!inR x.site p.sites.length)]) (by simp (disch := omega) only [go_sem]) (by simp (disch := omega) only [go_sem]) rfl g1 rfl rfl ?_
      simp (disch := omega) only [go_sem]
      exact st _ (by rw [headA, e1, e2, show decide (x.kind ≠ 0) = false from decide_eq_false (fun h => h c4)]; simp)
     ·have e3 : decide (x.kind = 0) = false := decide_eq_false c4
      simp (disch := omega) only [go_sem, e3, g1]
      refine WD_storeP (val := .bool false) (off := 3) (o := w) (c' := [slv p.sn false p.sites, slv p.fn false p.fns, .fn 75 [.ptr q 0], .bool false]) (by simp (disch := omega) only [go_sem]) (by simp (disch := omega) only [go_sem]) rfl g1 rfl rfl ?_
      simp (disch := omega) only [go_sem]
      exact st _ (by rw [headA, e1, e2, show decide (x.kind ≠ 0) = true from decide_eq_true c4]; simp)
    ·have v3 := c3
     rw [decide_eq_true_eq] at v3
     simp (disch := omega) only [go_sem, c3, g1]
     refine WD_storeP (val := .bool true) (off := 3) (o := w) (c' := [slv p.sn false p.sites, slv p.fn false p.fns, .fn 75 [.ptr q 0], .bool true]) (by simp (disch := omega) only [go_sem]) (by simp (disch := omega) only [go_sem]) rfl g1 rfl rfl ?_
     simp (disch := omega) only [go_sem]
     exact st _ (by rw [headA, show decide (d ≤ 64) = false from decide_eq_false (by omega)]; simp)
   ·have v2 := c2
    rw [decide_eq_true_eq] at v2
    simp (disch := omega) only [go_sem, c2, g1]
    refine WD_storeP (val := .bool true) (off := 3) (o := w) (c' := [slv p.sn false p.sites, slv p.fn false p.fns, .fn 75 [.ptr q 0], .bool true]) (by simp (disch := omega) only [go_sem]) (by simp (disch := omega) only [go_sem]) rfl g1 rfl rfl ?_
    simp (disch := omega) only [go_sem]
    exact st _ (by rw [headA, show decide (0 ≤ x.kind ∧ x.kind ≤ 4) = false from decide_eq_false (by omega)]; simp)
  ·have v1 := c1
   rw [decide_eq_true_eq] at v1
   simp (disch := omega) only [go_sem, c1, g1]
   refine WD_storeP (val := .bool true) (off := 3) (o := w) (c' := [slv p.sn false p.sites, slv p.fn false p.fns, .fn 75 [.ptr q 0], .bool true]) (by simp (disch := omega) only [go_sem]) (by simp (disch := omega) only [go_sem]) rfl g1 rfl rfl ?_
   simp (disch := omega) only [go_sem]
   exact st _ (by rw [headA, show decide (0 ≤ x.kind ∧ x.kind ≤ 4) = false from decide_eq_false (by omega)]; simp)
def a53h : ACode := .dreg 0 a53d3 [0, 2, 7, 8, 9, 10]
def a53s : ACode := (.seq (.reg 0 a53r7 [0, 2, 7, 8, 9, 10, 68]) (.cond (.s 68) (.seq (.reg 0 a53r8 [0, 2, 7, 8, 9, 10]) (.reg 0 a53r9 [0, 2, 8, 9, 10])) .skip))
theorem a53l0_eq : a53l0 = (.seq (.reg 0 a53r1 [0, 2, 8, 9, 10, 11]) (.seq (.cond (.s 11) .skip (.exit 0)) (.seq (.block 1 (.seq (.reg 0 a53r2 [0, 2, 7, 8, 9, 10]) (.seq a53h (.seq (.seq (.reg 0 a53r4 [0, 2, 7, 8, 9, 10, 53]) (.cond (.s 53) .ret .skip)) (.seq (.seq (.reg 0 a53r5 [0, 2, 7, 8, 9, 10, 56]) (.cond (.s 56) (.reg 0 a53r6 [0, 2, 7, 8, 9, 10]) .skip)) a53s))))) (.reg 0 a53r10 [0, 2, 8, 9, 10])))) := rfl
def ActsFun (P : Prog) (p : ProgV) (w q : Nat) (l : List Act) : Prop := ∀ (nl : Bool) (d : Nat) (b : Bool) (h : Heap), d ≤ 1000 → WAt h w q p b → Fun P 53 [.ptr w 0, slv nl false l, .int .i64 d] h (fun v h' => v = .tup [] ∧ h' = h.put w (WC p q (b || !mayAs p.sites.length p.fns.length l d)))
theorem acts_tail (hP : EfP P) (p : ProgV) {w q : Nat} (x : Act) (hih : ActsFun P p w q x.l ∧ ActsFun P p w q x.els) {l8 : AV} {n9 n10 : Int} (d t u : Nat) (hd : d + 1 ≤ 1000) (b : Bool) (h : Heap) (H : WAt h w q p b) {tl : Fr} {K : AExit → St → Prop}
  (hK : ∀ fr', fget fr' 0 = some (.ptr w 0) → fget fr' 2 = some (.int .i64 d) → fget fr' 8 = some l8 → fget fr' 9 = some (.int .i64 n9) → fget fr' 10 = some (.int .i64 n10) → K .normal { fr := fr', st := t, h := h.put w (WC p q (b || !(!decide (x.kind = 1 ∨ x.kind = 2) || (mayAs p.sites.length p.fns.length x.l (d + 1) && mayAs p.sites.length p.fns.length x.els (d + 1))))) }) :
  Wp P a53s { fr := (0, .ptr w 0) :: (2, .int .i64 d) :: (7, .lbox u (Enc.cells x)) :: (8, l8) :: (9, .int .i64 n9) :: (10, .int .i64 n10) :: tl, st := t, h := h } K := by
 simp (disch := omega) only [go_sem, a53s, a53r7]
 refine guardS_pf (fun c1 v1 => ?_) (fun c1 v1 => ?_) <;> simp (disch := omega) only [go_sem, v1]
 ·by_cases c2 : x.kind = 2
  ·have v2 : decide (x.kind = 2) = true := decide_eq_true c2
   have hkk : decide (x.kind = 1 ∨ x.kind = 2) = true := decide_eq_true (.inr c2)
   simp (disch := omega) only [go_sem, v2]
   simp (disch := omega) only [go_sem, a53r8]
   refine WO.fun (vs := [.ptr w 0, slv x.nl false x.l, .int .i64 ((d + 1 : Nat) : Int)]) (by simp (disch := omega) only [go_sem]; push_cast; rfl) (hih.1 _ (d + 1) _ _ hd H) (fun v h' hv => ?_)
   obtain ⟨rfl, rfl⟩ := hv
   simp (disch := omega) only [go_sem, a53r9]
   refine WO.fun (vs := [.ptr w 0, slv x.ne false x.els, .int .i64 ((d + 1 : Nat) : Int)]) (by simp (disch := omega) only [go_sem]; push_cast; rfl) (hih.2 _ (d + 1) _ _ hd (H.put _)) (fun v h' hv => ?_)
   obtain ⟨rfl, rfl⟩ := hv
   simp (disch := omega) only [go_sem]
   have := hK [(0, .ptr w 0), (2, .int .i64 d), (8, l8), (9, .int .i64 n9), (10, .int .i64 n10)] rfl rfl rfl rfl rfl
   rw [hkk] at this
   have e : (b || !(!true || (mayAs p.sites.length p.fns.length x.l (d + 1) && mayAs p.sites.length p.fns.length x.els (d + 1)))) = (b || !mayAs p.sites.length p.fns.length x.l (d + 1) || !mayAs p.sites.length p.fns.length x.els (d + 1)) := by
    cases b <;> cases mayAs p.sites.length p.fns.length x.l (d + 1) <;> cases mayAs p.sites.length p.fns.length x.els (d + 1) <;> rfl
   rw [e] at this
   exact this
  ·have v2 : decide (x.kind = 2) = false := decide_eq_false c2
   have hkk : decide (x.kind = 1 ∨ x.kind = 2) = false := decide_eq_false (by omega)
   simp (disch := omega) only [go_sem, v2]
   have := hK [(0, .ptr w 0), (2, .int .i64 d), (7, .lbox u (Enc.cells x)), (8, l8), (9, .int .i64 n9), (10, .int .i64 n10), (68, .bool false)] rfl rfl rfl rfl rfl
   rw [hkk] at this
   have e : (b || !(!false || (mayAs p.sites.length p.fns.length x.l (d + 1) && mayAs p.sites.length p.fns.length x.els (d + 1)))) = b := by simp
   rw [e, put_self H.wk] at this
   exact this
 ·have hkk : decide (x.kind = 1 ∨ x.kind = 2) = true := decide_eq_true (.inl c1)
  simp (disch := omega) only [go_sem, a53r8]
  refine WO.fun (vs := [.ptr w 0, slv x.nl false x.l, .int .i64 ((d + 1 : Nat) : Int)]) (by simp (disch := omega) only [go_sem]; push_cast; rfl) (hih.1 _ (d + 1) _ _ hd H) (fun v h' hv => ?_)
  obtain ⟨rfl, rfl⟩ := hv
  simp (disch := omega) only [go_sem, a53r9]
  refine WO.fun (vs := [.ptr w 0, slv x.ne false x.els, .int .i64 ((d + 1 : Nat) : Int)]) (by simp (disch := omega) only [go_sem]; push_cast; rfl) (hih.2 _ (d + 1) _ _ hd (H.put _)) (fun v h' hv => ?_)
  obtain ⟨rfl, rfl⟩ := hv
  simp (disch := omega) only [go_sem]
  have := hK [(0, .ptr w 0), (2, .int .i64 d), (8, l8), (9, .int .i64 n9), (10, .int .i64 n10)] rfl rfl rfl rfl rfl
  rw [hkk] at this
  have e : (b || !(!true || (mayAs p.sites.length p.fns.length x.l (d + 1) && mayAs p.sites.length p.fns.length x.els (d + 1)))) = (b || !mayAs p.sites.length p.fns.length x.l (d + 1) || !mayAs p.sites.length p.fns.length x.els (d + 1)) := by
   cases b <;> cases mayAs p.sites.length p.fns.length x.l (d + 1) <;> cases mayAs p.sites.length p.fns.length x.els (d + 1) <;> rfl
  rw [e] at this
  exact this
theorem acts_one (hP : EfP P) (p : ProgV) {w q : Nat} (hw1 : Len p.sites.length) (hw2 : Len p.fns.length) (l : List Act) (hih : ∀ x ∈ l, ActsFun P p w q x.l ∧ ActsFun P p w q x.els) (hwl : ∀ x ∈ l, ActWf' x) (hl : Len l.length) : ActsFun P p w q l := by
 intro nl d b h hd H
 refine Fun.of (code := a53c) (hP.code rfl) (by rw [hP.pure]; rfl) ?_
 rw [mayAs_all]
 simp (disch := omega) only [go_sem, a53c, a53r0]
 refine Wp_loop (fun x : Nat × Nat => x.2 ≤ l.length) (fun (t, k) => { fr := [(0, .ptr w 0), (2, .int .i64 d), (8, slv nl false l), (9, .int .i64 l.length), (10, .int .i64 k)], st := t, h := h.put w (WC p q (b || !(l.take k).all (fun c => mayA p.sites.length p.fns.length c d))) }) (fun x => l.length - x.2) (0, 0) ?_ (by simp) ?_
 ·simp only [List.take_zero, List.all_nil, Bool.not_true, Bool.or_false]
  rw [put_self H.wk]
  rfl
 rintro ⟨t, k⟩ h1
 simp only at h1
 simp (disch := omega) only [go_sem, a53l0_eq, a53r1]
 refine condS_if (fun c5 => ?_) (fun c5 => ?_)
 ·have hk : k < l.length := by omega
  have hx := hwl _ (slv_get hk)
  obtain ⟨w1, w2, w3, w4, w5, w6, w7, w8⟩ := hx.parts
  generalize hbk : (b || !(l.take k).all (fun c => mayA p.sites.length p.fns.length c d)) = bk
  have nxt : mayA p.sites.length p.fns.length (l.getD k default) d = false → (b || !l.all (fun c => mayA p.sites.length p.fns.length c d)) = true := fun e => by
   rw [all_in (q := fun c => mayA p.sites.length p.fns.length c d) hk e]; simp
  have pre : bk = true → (b || !l.all (fun c => mayA p.sites.length p.fns.length c d)) = true := fun e => by
   rw [e] at hbk
   cases b with
   | true => rfl
   | false =>
    have e2 : (l.take k).all (fun c => mayA p.sites.length p.fns.length c d) = false := by simpa using hbk
    have : l.all (fun c => mayA p.sites.length p.fns.length c d) = false := by
     rw [← List.take_append_drop k l, List.all_append, e2, Bool.false_and]
    rw [this]; rfl
  have suc : (b || !(l.take (k + 1)).all (fun c => mayA p.sites.length p.fns.length c d)) = (bk || !mayA p.sites.length p.fns.length (l.getD k default) d) := by
   rw [← hbk, List.take_succ_eq_append_getElem hk, List.all_append, List.getD_eq_getElem?_getD, List.getElem?_eq_getElem hk]
   simp [Bool.or_assoc]
  simp (disch := omega) only [go_sem, a53r2]
  refine acts_head hP p hw1 (l.getD k default) hx d _ _ bk (h.put w (WC p q bk)) (H.put bk) ?_
  rw [put_put]
  have hW : ∀ b', WAt (h.put w (WC p q b')) w q p b' := fun b' => H.put b'
  generalize hb1 : (bk || !headA p.sites.length (l.getD k default) d) = b1
  have g1 := (hW b1).wk
  unfold WC at g1
  cases b1 with
  | true =>
   simp (disch := omega) only [go_sem, a53r4, WC]
   refine ⟨trivial, ?_⟩
   have e : (b || !l.all (fun c => mayA p.sites.length p.fns.length c d)) = true := by
    cases bk with
    | true => exact pre rfl
    | false =>
     refine nxt ?_
     rw [mayA_eq, mayK_head, show headA p.sites.length (l.getD k default) d = false by simpa using hb1]
     rfl
   rw [e]
  | false =>
   obtain ⟨rfl, hh⟩ : bk = false ∧ headA p.sites.length (l.getD k default) d = true := by simpa using hb1
   have hd64 : d + 1 ≤ 1000 := by
    simp only [headA, Bool.and_eq_true, decide_eq_true_eq] at hh
    omega
   simp (disch := omega) only [go_sem, a53r4, WC]
   simp (disch := omega) only [go_sem, a53r5]
   have tl : ∀ (b2 : Bool) (fr0 : Fr), b2 = !(decide ((l.getD k default).kind = 3) || mayC p.sites.length p.fns.length (l.getD k default).e 1) → (false || !(l.take (k + 1)).all (fun c => mayA p.sites.length p.fns.length c d)) = (false || !mayA p.sites.length p.fns.length (l.getD k default) d) → True := fun _ _ _ _ => trivial
   have e3 : ∀ b2, b2 = (!(decide ((l.getD k default).kind = 3) || mayC p.sites.length p.fns.length (l.getD k default).e 1)) → (b2 || !(!decide ((l.getD k default).kind = 1 ∨ (l.getD k default).kind = 2) || (mayAs p.sites.length p.fns.length (l.getD k default).l (d + 1) && mayAs p.sites.length p.fns.length (l.getD k default).els (d + 1)))) = (b || !(l.take (k + 1)).all (fun c => mayA p.sites.length p.fns.length c d)) := fun b2 e => by
    rw [suc, e, mayA_eq, mayK_head, hh]
    simp [Bool.not_and]
   refine condS_if (fun c6 => ?_) (fun c6 => ?_)
   ·simp (disch := omega) only [go_sem, a53r6]
    refine WO.fun (vs := [.ptr w 0, .agg (Enc.cells (l.getD k default).e), .int .i64 ((1 : Nat) : Int)]) (by simp (disch := omega) only [go_sem]) (code_fun hP p hw1 hw2 _ 1 false (h.put w (WC p q false)) (by omega) w4 (hW false)) (fun v h' hv => ?_)
    obtain ⟨rfl, rfl⟩ := hv
    simp (disch := omega) only [go_sem]
    refine acts_tail hP p (l.getD k default) (hih _ (slv_get hk)) d _ _ hd64 (!mayC p.sites.length p.fns.length (l.getD k default).e 1) (h.put w (WC p q (!mayC p.sites.length p.fns.length (l.getD k default).e 1))) (hW _) (fun fr' q0 q2 q8 q9 q10 => ?_)
    rw [put_put, e3 _ (by rw [show decide ((l.getD k default).kind = 3) = false from decide_eq_false c6, Bool.false_or])]
    simp (disch := omega) only [go_sem, a53r10, q0, q2, q8, q9, q10]
    exact ⟨(t + 1 + 1, k + 1), by simp only; omega, by simp only; omega, by push_cast; rfl⟩
   ·have c7 : (l.getD k default).kind = 3 := by omega
    simp (disch := omega) only [go_sem]
    refine acts_tail hP p (l.getD k default) (hih _ (slv_get hk)) d _ _ hd64 false (h.put w (WC p q false)) (hW _) (fun fr' q0 q2 q8 q9 q10 => ?_)
    rw [put_put, e3 _ (by rw [c7]; rfl)]
    simp (disch := omega) only [go_sem, a53r10, q0, q2, q8, q9, q10]
    exact ⟨(t + 1 + 1, k + 1), by simp only; omega, by simp only; omega, by push_cast; rfl⟩
 ·simp (disch := omega) only [go_sem]
  rw [List.take_of_length_le (by omega)]
  exact ⟨trivial, rfl⟩
end Go.Am.Ef
/- typing.May: a program may be just if the document says so. -/
namespace Go.Am.Ef
open Go.Am
variable {P : Prog}
set_option maxRecDepth 20000
set_option maxHeartbeats 1000000
theorem acts_act (hP : EfP P) (p : ProgV) {w q : Nat} (hw1 : Len p.sites.length) (hw2 : Len p.fns.length) : ∀ x : Act, ActWf' x → ActsFun P p w q x.l ∧ ActsFun P p w q x.els := by
 refine Act.ind fun k a s nm e nl l ne els ih ih2 hx => ?_
 obtain ⟨w1, w2, w3, w4, w5, w6, w7, w8⟩ := hx.parts
 exact ⟨acts_one hP p hw1 hw2 l (fun x h => ih x h (w6 x h)) w6 w5, acts_one hP p hw1 hw2 els (fun x h => ih2 x h (w8 x h)) w8 w7⟩
theorem acts_fun (hP : EfP P) (p : ProgV) {w q : Nat} (hw1 : Len p.sites.length) (hw2 : Len p.fns.length) (l : List Act) (hwl : ∀ x ∈ l, ActWf' x) (hl : Len l.length) : ActsFun P p w q l :=
 acts_one hP p hw1 hw2 l (fun x hx => acts_act hP p hw1 hw2 x (hwl x hx)) hwl hl
structure MAt (h : Heap) (c w q : Nat) (p : ProgV) (b : Bool) : Prop extends WAt h w q p b where
 cv : h.get c = some (.cells [.ptr w 0])
 nw : c ≠ w
theorem MAt.put' {h : Heap} {c w q : Nat} {p : ProgV} {b : Bool} (H : MAt h c w q p b) (b' : Bool) : MAt (h.put w (WC p q b')) c w q p b' :=
 ⟨H.toWAt.put b', by rw [get_put_ne _ _ _ _ H.nw]; exact H.cv, H.nw⟩
theorem may1_fun (hP : EfP P) (p : ProgV) {c w q : Nat} {b : Bool} {h : Heap} (hw1 : Len p.sites.length) (H : MAt h c w q p b) (i : Int) : Fun P 52 [.int .i64 i, .ptr c 0] h (fun v h' => v = .bool (!inR i p.sites.length) ∧ h' = h) := by
 have g1 := H.wk
 have g2 := H.cv
 unfold WC at g1
 refine Fun.of (code := a52c) (hP.code rfl) (by rw [hP.pure]; rfl) ?_
 simp (disch := omega) only [go_sem, a52c, a52r0]
 simp (disch := omega) only [go_sem, a52r1, g1, g2]
 refine WO_funv (f := 75) (caps := [.ptr q 0]) (vs := [.int .i64 i]) (by simp (disch := omega) only [go_sem]) (by simp (disch := omega) only [go_sem]) (site75_fun hP p hw1 i h q H.pr) (fun v h' hv => ?_)
 obtain ⟨rfl, rfl⟩ := hv
 simp (disch := omega) only [go_sem]
theorem index_fun (hP : EfP P) (p : ProgV) {c w q : Nat} {b : Bool} {h : Heap} (hw1 : Len p.sites.length) (H : MAt h c w q p b) (l : List Int) (nl : Bool) (hl : Len l.length) : Fun P 76 [slv nl false l, .fn 52 [.ptr c 0]] h (fun v h' => (∃ i : Int, v = .int .i64 i ∧ (decide (0 ≤ i) = !l.all (fun i => inR i p.sites.length)) ∧ I64 i) ∧ h' = h) := by
 refine Fun.of (code := a76c) (hP.code rfl) (by rw [hP.pure]; rfl) ?_
 simp (disch := omega) only [go_sem, a76c, a76r0]
 simp (disch := omega) only [go_sem, a76r1]
 refine Wp_loop (fun x : Nat × Nat => x.2 ≤ l.length ∧ (l.take x.2).all (fun i => inR i p.sites.length) = true) (fun (t, k) => { fr := [(0, slv nl false l), (1, .fn 52 [.ptr c 0]), (7, .int .i64 l.length), (8, .int .i64 k)], st := t, h := h }) (fun x => l.length - x.2) (0, 0) rfl ⟨by simp, by simp⟩ ?_
 rintro ⟨t, k⟩ ⟨h1, h2⟩
 simp only at h1 h2
 simp (disch := omega) only [go_sem, a76l0, a76r2]
 refine condS_if (fun c5 => ?_) (fun c5 => ?_)
 ·have hk : k < l.length := by omega
  simp (disch := omega) only [go_sem, a76r3]
  simp (disch := omega) only [go_sem, a76r4]
  refine WO_funv (f := 52) (caps := [.ptr c 0]) (vs := [.int .i64 (l.getD k default)]) (by simp (disch := omega) only [go_sem]) (by simp (disch := omega) only [go_sem]) (may1_fun hP p hw1 H _) (fun v h' hv => ?_)
  obtain ⟨rfl, rfl⟩ := hv
  cases hm : inR (l.getD k default) p.sites.length with
  | false =>
   simp (disch := omega) only [go_sem, a76r5, hm]
   refine ⟨⟨k, rfl, ?_, by omega, by omega⟩, trivial⟩
   rw [all_in (q := fun i => inR i p.sites.length) hk hm]
   simp
  | true =>
   simp (disch := omega) only [go_sem, a76r6, hm]
   exact ⟨(t, k + 1), ⟨by simp only; omega, all_step hk (q := fun i => inR i p.sites.length) hm h2⟩, by simp only; omega, by push_cast; rfl⟩
 ·simp (disch := omega) only [go_sem, a76r7]
  rw [List.take_of_length_le (by omega)] at h2
  exact ⟨⟨-1, rfl, by rw [h2]; rfl, by omega, by omega⟩, trivial⟩
theorem contains_fun (hP : EfP P) (p : ProgV) {c w q : Nat} {b : Bool} {h : Heap} (hw1 : Len p.sites.length) (H : MAt h c w q p b) (l : List Int) (nl : Bool) (hl : Len l.length) : Fun P 51 [slv nl false l, .fn 52 [.ptr c 0]] h (fun v h' => v = .bool (!l.all (fun i => inR i p.sites.length)) ∧ h' = h) := by
 refine Fun.of (code := a51c) (hP.code rfl) (by rw [hP.pure]; rfl) ?_
 simp (disch := omega) only [go_sem, a51c, a51r0]
 simp (disch := omega) only [go_sem, a51r1]
 refine WO.fun (vs := [slv nl false l, .fn 52 [.ptr c 0]]) (by simp (disch := omega) only [go_sem]) (index_fun hP p hw1 H l nl hl) (fun v h' hv => ?_)
 obtain ⟨⟨i, rfl, hi, hi2⟩, rfl⟩ := hv
 simp (disch := omega) only [go_sem, hi]
theorem newWalker_fun (hP : EfP P) (p : ProgV) (hw1 : Len p.sites.length) (h : Heap) : Fun P 50 [p.av] h (fun v h' => v = .ptr (h.next + 1) 0 ∧ WAt h' (h.next + 1) h.next p (decide (512 < (p.sites.length : Int))) ∧ h'.next = h.next + 2) := by
 refine Fun.of (code := a50c) (hP.code rfl) (by rw [hP.pure]; rfl) ?_
 simp (disch := omega) only [go_sem, a50c, a50r0, ProgV.av]
 simp (disch := omega) only [go_sem, a50r1]
 simp (disch := omega) only [go_sem, a50r2, get_put_ne]
 simp (disch := omega) only [go_sem, a50r3, get_put_ne]
 simp (disch := omega) only [go_sem, a50r4]
 refine ⟨trivial, ⟨?_, ?_, by omega⟩, ?_⟩
 ·simp (disch := omega) only [go_sem, get_put_ne]; rfl
 ·simp (disch := omega) only [go_sem, get_put_ne]; rfl
 ·simp (disch := omega) only [go_sem, get_put_ne]
def headF (ns : Nat) (f : FuncV) : Bool := inR f.result ns && inR f.pc ns && f.params.all (fun i => inR i ns)
theorem mayF_head' (ns nf : Nat) (f : FuncV) : mayF ns nf f = (headF ns f && mayAs ns nf f.body 1 && mayC ns nf f.ret 1) := by
 unfold mayF headF
 cases f.params.all (fun i => inR i ns) <;> cases inR f.result ns <;> cases inR f.pc ns <;> rfl
theorem may_head (hP : EfP P) (p : ProgV) {c w q : Nat} (hw1 : Len p.sites.length) (f : FuncV) (hf : FuncWf f) {l9 : AV} {n10 n11 : Int} (t u : Nat) (b : Bool) (h : Heap) (H : MAt h c w q p b) {tl : Fr} {K : AExit → St → Prop}
  (hK : K .normal { fr := [(3, .ptr c 0), (5, .lbox u (Enc.cells f)), (9, l9), (10, .int .i64 n10), (11, .int .i64 n11)], st := t + 1, h := h.put w (WC p q (b || !headF p.sites.length f)) }) :
  Wp P (.dreg 0 a30d5 [3, 5, 9, 10, 11]) { fr := (3, .ptr c 0) :: (5, .lbox u (Enc.cells f)) :: (9, l9) :: (10, .int .i64 n10) :: (11, .int .i64 n11) :: tl, st := t, h := h } K := by
 obtain ⟨f1, f2, f3, f4, f5, f6⟩ := hf
 have g1 := H.wk
 have g2 := H.cv
 unfold WC at g1
 have st : ∀ (b' : Bool), b' = (b || !headF p.sites.length f) → K .normal { fr := [(3, .ptr c 0), (5, .lbox u (Enc.cells f)), (9, l9), (10, .int .i64 n10), (11, .int .i64 n11)], st := t + 1, h := h.put w (.cells [slv p.sn false p.sites, slv p.fn false p.fns, .fn 75 [.ptr q 0], .bool b']) } := fun b' e => by
  rw [e]; exact hK
 cases b with
 | true =>
  simp (disch := omega) only [go_sem, a30d5, g1, g2, true_and]
  refine WD_storeP (val := .bool true) (off := 3) (o := w) (c' := [slv p.sn false p.sites, slv p.fn false p.fns, .fn 75 [.ptr q 0], .bool true]) (by simp (disch := omega) only [go_sem]) (by simp (disch := omega) only [go_sem]) rfl g1 rfl rfl ?_
  simp (disch := omega) only [go_sem]
  exact st true rfl
 | false =>
  simp (disch := omega) only [go_sem, a30d5, g1, g2, true_and]
  refine WD_funv (f := 75) (caps := [.ptr q 0]) (vs := [.int .i64 f.result]) (by simp (disch := omega) only [go_sem]) (by simp (disch := omega) only [go_sem]) (site75_fun hP p hw1 f.result h q H.pr) (fun v h' hv => ?_) (fun v h' hv => ?_)
  ·obtain ⟨ev, eh⟩ := hv
   rw [ev, eh]
   simp (disch := omega) only [go_sem, g2]
  obtain ⟨ev, eh⟩ := hv
  rw [ev, eh]
  cases e1 : inR f.result p.sites.length with
  | false =>
   simp (disch := omega) only [go_sem, e1, g1, g2, true_and]
   refine WD_storeP (val := .bool true) (off := 3) (o := w) (c' := [slv p.sn false p.sites, slv p.fn false p.fns, .fn 75 [.ptr q 0], .bool true]) (by simp (disch := omega) only [go_sem]) (by simp (disch := omega) only [go_sem]) rfl g1 rfl rfl ?_
   simp (disch := omega) only [go_sem]
   exact st true (by rw [headF, e1]; rfl)
  | true =>
   simp (disch := omega) only [go_sem, e1, g1, g2, true_and]
   refine WD_funv (f := 75) (caps := [.ptr q 0]) (vs := [.int .i64 f.pc]) (by simp (disch := omega) only [go_sem]) (by simp (disch := omega) only [go_sem]) (site75_fun hP p hw1 f.pc h q H.pr) (fun v h' hv => ?_) (fun v h' hv => ?_)
   ·obtain ⟨ev, eh⟩ := hv
    rw [ev, eh]
    simp (disch := omega) only [go_sem, g2]
   obtain ⟨ev, eh⟩ := hv
   rw [ev, eh]
   cases e2 : inR f.pc p.sites.length with
   | false =>
    simp (disch := omega) only [go_sem, e2, g1, g2, true_and]
    refine WD_storeP (val := .bool true) (off := 3) (o := w) (c' := [slv p.sn false p.sites, slv p.fn false p.fns, .fn 75 [.ptr q 0], .bool true]) (by simp (disch := omega) only [go_sem]) (by simp (disch := omega) only [go_sem]) rfl g1 rfl rfl ?_
    simp (disch := omega) only [go_sem]
    exact st true (by rw [headF, e1, e2]; rfl)
   | true =>
    simp (disch := omega) only [go_sem, e2, g1, g2, true_and]
    refine WD_fun (vs := [slv f.pn false f.params, .fn 52 [.ptr c 0]]) (by simp (disch := omega) only [go_sem]) (contains_fun hP p hw1 H f.params f.pn f1.1) (fun v h' hv => ?_) (fun v h' hv => ?_)
    ·obtain ⟨ev, eh⟩ := hv
     rw [ev, eh]
     simp (disch := omega) only [go_sem, g2]
    obtain ⟨ev, eh⟩ := hv
    rw [ev, eh]
    simp (disch := omega) only [go_sem, g1, g2]
    refine WD_storeP (val := .bool (!f.params.all (fun i => inR i p.sites.length))) (off := 3) (o := w) (c' := [slv p.sn false p.sites, slv p.fn false p.fns, .fn 75 [.ptr q 0], .bool (!f.params.all (fun i => inR i p.sites.length))]) (by simp (disch := omega) only [go_sem]) (by simp (disch := omega) only [go_sem]) rfl g1 rfl rfl ?_
    simp (disch := omega) only [go_sem]
    exact st _ (by rw [headF, e1, e2]; simp)
def a30h : ACode := .dreg 0 a30d5 [3, 5, 9, 10, 11]
theorem a30l0_eq : a30l0 = (.seq (.reg 0 a30r3 [3, 9, 10, 11, 12]) (.seq (.cond (.s 12) .skip (.exit 0)) (.seq (.block 1 (.seq (.reg 0 a30r4 [3, 5, 9, 10, 11]) (.seq a30h (.seq (.seq (.reg 0 a30r6 [3, 5, 9, 10, 11, 51]) (.cond (.s 51) (.exit 0) .skip)) (.seq (.reg 0 a30r7 [3, 5, 9, 10, 11]) (.reg 0 a30r8 [3, 9, 10, 11])))))) (.reg 0 a30r9 [3, 9, 10, 11])))) := rfl
theorem tmay_den (hP : EfP P) (p : ProgV) (hw : ProgWf p) : Den P 30 [p.av] (fun v => v = .bool (mayP p)) := by
 obtain ⟨w1, w2, w3⟩ := hw
 refine Den.of (code := a30c) (hP.code rfl) (fun N => ?_)
 simp (disch := omega) only [go_sem, a30c, a30r0, ProgV.av]
 simp (disch := omega) only [go_sem, a30r1]
 refine WO.fun (vs := [p.av]) (by simp (disch := omega) only [go_sem, ProgV.av]) (newWalker_fun hP p w1 _) (fun v h' hv => ?_)
 obtain ⟨rfl, hW, hn⟩ := hv
 simp only [reserve_next] at hW hn
 simp (disch := omega) only [go_sem, a30r2]
 generalize hb0 : decide (512 < (p.sites.length : Int)) = b0 at hW
 have hM : MAt (h'.put N (.cells [.ptr (N + 1 + 1) 0])) N (N + 1 + 1) (N + 1) p b0 :=
  ⟨⟨by rw [get_put_ne _ _ _ _ (by omega)]; exact hW.wk, by rw [get_put_ne _ _ _ _ (by omega)]; exact hW.pr, by omega⟩, get_put_same _ _ _, by omega⟩
 have hmay : mayP p = !(b0 || !p.fns.all (mayF p.sites.length p.fns.length)) := by
  rw [mayP, ← hb0]
  by_cases h : (512 : Int) < (p.sites.length : Int)
  ·rw [show decide (p.sites.length ≤ 512) = false from decide_eq_false (by omega), show decide ((512 : Int) < (p.sites.length : Int)) = true from decide_eq_true h]; simp
  ·rw [show decide (p.sites.length ≤ 512) = true from decide_eq_true (by omega), show decide ((512 : Int) < (p.sites.length : Int)) = false from decide_eq_false h]; simp
 rw [hmay]
 generalize h'.put N (.cells [.ptr (N + 1 + 1) 0]) = h0 at hM ⊢
 generalize N + 1 + 1 = w at hM ⊢
 generalize N + 1 = q at hM ⊢
 have g2 := fun b => (hM.put' b).cv
 refine Wp_loop (fun x : Nat × Nat => x.2 ≤ p.fns.length) (fun (t, k) => { fr := [(3, .ptr N 0), (9, slv p.fn false p.fns), (10, .int .i64 p.fns.length), (11, .int .i64 k)], st := t, h := h0.put w (WC p q (b0 || !(p.fns.take k).all (mayF p.sites.length p.fns.length))) }) (fun x => p.fns.length - x.2) (1, 0) ?_ (by simp) ?_
 ·simp only [List.take_zero, List.all_nil, Bool.not_true, Bool.or_false]
  rw [put_self hM.wk]
  rfl
 rintro ⟨t, k⟩ h1
 simp only at h1
 simp (disch := omega) only [go_sem, a30l0_eq, a30r3]
 refine condS_if (fun c5 => ?_) (fun c5 => ?_)
 ·have hk : k < p.fns.length := by omega
  have hx := w3 _ (slv_get hk)
  obtain ⟨f1, f2, f3, f4, f5, f6⟩ := id hx
  generalize hbk : (b0 || !(p.fns.take k).all (mayF p.sites.length p.fns.length)) = bk
  have nxt : mayF p.sites.length p.fns.length (p.fns.getD k default) = false → (b0 || !p.fns.all (mayF p.sites.length p.fns.length)) = true := fun e => by
   rw [all_in hk e]; simp
  have pre : bk = true → (b0 || !p.fns.all (mayF p.sites.length p.fns.length)) = true := fun e => by
   rw [e] at hbk
   cases b0 with
   | true => rfl
   | false =>
    have e2 : (p.fns.take k).all (mayF p.sites.length p.fns.length) = false := by simpa using hbk
    have : p.fns.all (mayF p.sites.length p.fns.length) = false := by
     rw [← List.take_append_drop k p.fns, List.all_append, List.take_append_drop k p.fns, e2, Bool.false_and]
    rw [this]; rfl
  have suc : (b0 || !(p.fns.take (k + 1)).all (mayF p.sites.length p.fns.length)) = (bk || !mayF p.sites.length p.fns.length (p.fns.getD k default)) := by
   rw [← hbk, List.take_succ_eq_append_getElem hk, List.all_append, List.getD_eq_getElem?_getD, List.getElem?_eq_getElem hk]
   simp [Bool.or_assoc]
  simp (disch := omega) only [go_sem, a30r4]
  refine may_head hP p w1 (p.fns.getD k default) hx _ _ bk (h0.put w (WC p q bk)) (hM.put' bk) ?_
  rw [put_put]
  generalize hb1 : (bk || !headF p.sites.length (p.fns.getD k default)) = b1
  have g1 := (hM.put' b1).wk
  have g2 := (hM.put' b1).cv
  cases b1 with
  | true =>
   unfold WC at g1 g2
   simp (disch := omega) only [go_sem, a30r6, WC, g1, g2, a30r10]
   have e : (b0 || !p.fns.all (mayF p.sites.length p.fns.length)) = true := by
    cases bk with
    | true => exact pre rfl
    | false =>
     refine nxt ?_
     rw [mayF_head', show headF p.sites.length (p.fns.getD k default) = false by simpa using hb1]
     rfl
   rw [e]
   rfl
  | false =>
   obtain ⟨rfl, hh⟩ : bk = false ∧ headF p.sites.length (p.fns.getD k default) = true := by simpa using hb1
   unfold WC at g1 g2
   have hW : ∀ b', WAt (h0.put w (WC p q b')) w q p b' := fun b' => (hM.put' b').toWAt
   have hcv : ∀ b', (h0.put w (WC p q b')).get N = some (.cells [.ptr w 0]) := fun b' => (hM.put' b').cv
   simp (disch := omega) only [go_sem, a30r6, WC, g1, g2]
   simp (disch := omega) only [go_sem, a30r7, g2]
   refine WO.fun (vs := [.ptr w 0, slv (p.fns.getD k default).bn false (p.fns.getD k default).body, .int .i64 ((1 : Nat) : Int)]) (by simp (disch := omega) only [go_sem]) (acts_fun hP p w1 w2 _ f5.2 f5.1 _ 1 false (h0.put w (WC p q false)) (by omega) (hW false)) (fun v h' hv => ?_)
   obtain ⟨ev, eh⟩ := hv
   rw [ev, eh, put_put, Bool.false_or]
   simp (disch := omega) only [go_sem, a30r8, hcv]
   refine WO.fun (vs := [.ptr w 0, .agg (Enc.cells (p.fns.getD k default).ret), .int .i64 ((1 : Nat) : Int)]) (by simp (disch := omega) only [go_sem]) (code_fun hP p w1 w2 _ 1 _ _ (by omega) f6 (hW _)) (fun v h' hv => ?_)
   obtain ⟨ev, eh⟩ := hv
   rw [ev, eh, put_put]
   simp (disch := omega) only [go_sem, a30r9]
   refine ⟨(t + 1 + 1, k + 1), by simp only; omega, by simp only; omega, ?_⟩
   have e : (b0 || !(p.fns.take (k + 1)).all (mayF p.sites.length p.fns.length)) = (!mayAs p.sites.length p.fns.length (p.fns.getD k default).body 1 || !mayC p.sites.length p.fns.length (p.fns.getD k default).ret 1) := by
    rw [suc, mayF_head', hh, Bool.false_or, Bool.true_and, Bool.not_and]
   simp only
   rw [e]
   push_cast
   rfl
 ·have g1 := (hM.put' (b0 || !(p.fns.take k).all (mayF p.sites.length p.fns.length))).wk
  have g2 := (hM.put' (b0 || !(p.fns.take k).all (mayF p.sites.length p.fns.length))).cv
  unfold WC at g1 g2
  simp (disch := omega) only [go_sem, a30r10, WC, g1, g2]
  rw [List.take_of_length_le (by omega)]
end Go.Am.Ef
/- What codes and acts do: deeds. -/
namespace Go.Am.Ef
open Go.Am
variable {P : Prog}
set_option maxRecDepth 20000
set_option maxHeartbeats 1000000
structure Bld {α : Type} [Enc α] (h0 h : Heap) (v : AV) (l : List α) : Prop where
 row : RowV h v l
 own : ∀ o, rowOf v = some o → h0.next ≤ o ∧ o < h.next
 le : h0.next ≤ h.next
 keep : ∀ o, o < h0.next → h.get o = h0.get o
structure Evs (v : AV) : Prop where
 ev : ∀ i, evS i (some v) = some v
 dat : datW (some v) = some v
 cel : v.cellsOf = [v]
 tag : lenTag 1 v = true
section
variable {α : Type} [Enc α] {h0 h : Heap} {v : AV} {l : List α}
theorem Bld.evs (H : Bld h0 h v l) : Evs v := by
 rcases H.row with ⟨rfl, -⟩ | ⟨o, ep, rfl, -⟩ <;> exact ⟨fun _ => rfl, rfl, rfl, rfl⟩
theorem Bld.nil (h0 : Heap) : Bld (α := α) h0 h0 .nils [] := ⟨.inl ⟨rfl, rfl⟩, fun o h => by simp [rowOf] at h, Nat.le_refl _, fun _ _ => rfl⟩
theorem Bld.grow (H : Bld h0 h v l) {h' : Heap} (h1 : h.next ≤ h'.next) (h2 : ∀ o, o < h.next → h'.get o = h.get o) : Bld h0 h' v l := by
 refine ⟨?_, fun o ho => ⟨(H.own o ho).1, Nat.lt_of_lt_of_le (H.own o ho).2 h1⟩, Nat.le_trans H.le h1, fun o ho => by rw [h2 o (Nat.lt_of_lt_of_le ho H.le), H.keep o ho]⟩
 rcases H.row with h3 | ⟨o, ep, h3, h4⟩
 ·exact .inl h3
 ·exact .inr ⟨o, ep, h3, by rw [h2 o (H.own o (by rw [h3]; rfl)).2]; exact h4⟩
theorem Bld.from {g0 : Heap} (H : Bld h0 h v l) (h1 : g0.next ≤ h0.next) (h2 : ∀ o, o < g0.next → h0.get o = g0.get o) : Bld g0 h v l :=
 ⟨H.row, fun o ho => ⟨Nat.le_trans h1 (H.own o ho).1, (H.own o ho).2⟩, Nat.le_trans h1 H.le, fun o ho => by rw [H.keep o (by omega), h2 o ho]⟩
theorem Bld.res (H : Bld h0 h v l) (k : Nat) : Bld h0 (h.reserve k) v l := H.grow (by rw [reserve_next]; omega) (fun _ _ => rfl)
theorem Bld.app (H : Bld h0 h v l) {new : List α} {o' : Nat} (ho' : h0.next ≤ o' ∧ o' < h.next) {v' : AV} {h' : Heap} (q1 : RowV h' v' (l ++ new)) (q2 : h'.next = h.next) (q3 : rowOf v' = rowOf v ∨ rowOf v' = some o') (q4 : ∀ q, q ≠ o' → rowOf v ≠ some q → h'.get q = h.get q) : Bld h0 h' v' (l ++ new) := by
 refine ⟨q1, fun o ho => ?_, by rw [q2]; exact H.le, fun o ho => ?_⟩
 ·rw [q2]
  rcases q3 with e | e <;> rw [ho] at e
  ·exact H.own o e.symm
  ·obtain rfl := Option.some.inj e; exact ho'
 ·rw [q4 o (by omega) (fun e => by have := (H.own o e).1; omega), H.keep o ho]
theorem stepBld {base : Nat} {K : St → Prop} {fr : Fr} {st e bytes k : Nat} {y : AV} {new : List α} {d : Option Nat} {r : List AOper} (H : Bld h0 h v l) (hk : 1 ≤ k) (hy : Adds (h.reserve k) y new) (he : Enc.sz α = e) (hb : (l.length + new.length) * bytes ≤ two47)
  (hK : ∀ v' h', Bld h0 h' v' (l ++ new) → h'.next = h.next + k → Evs v' → WO P base r { fr := setD fr d v', st := st, h := h' } K) :
  stepS P base (appA { fr := fr, st := st, h := h.reserve k } h.next e bytes v y) d r K := by
 refine step_app (H.res k).row hy he hb (fun v' h' q1 q2 q3 q4 => ?_)
 have hB : Bld h0 h' v' (l ++ new) := (H.res k).app ⟨H.le, by rw [reserve_next]; omega⟩ q1 q2 q3 q4
 exact hK v' h' hB (by rw [q2, reserve_next]) hB.evs
theorem stepBld2 {base : Nat} {K : St → Prop} {fr : Fr} {st e bytes o' : Nat} {y : AV} {new : List α} {d : Option Nat} {r : List AOper} (H : Bld h0 h v l) (ho' : h0.next ≤ o' ∧ o' < h.next) (hy : Adds h y new) (he : Enc.sz α = e) (hb : (l.length + new.length) * bytes ≤ two47)
  (hK : ∀ v' h', Bld h0 h' v' (l ++ new) → h'.next = h.next → Evs v' → WO P base r { fr := setD fr d v', st := st, h := h' } K) :
  stepS P base (appA { fr := fr, st := st, h := h } o' e bytes v y) d r K := by
 refine step_app H.row hy he hb (fun v' h' q1 q2 q3 q4 => ?_)
 have hB : Bld h0 h' v' (l ++ new) := H.app ho' q1 q2 q3 q4
 exact hK v' h' hB q2 hB.evs
theorem dsBld {base st0 st e bytes o' : Nat} {all : List DItem} {live ch : List Nat} {Q : AExit → St → Prop} {s : St} {fr : Fr} {y : AV} {new : List α} {d : Option Nat} {r : List DItem} (H : Bld h0 h v l) (ho' : h0.next ≤ o' ∧ o' < h.next) (hy : Adds h y new) (he : Enc.sz α = e) (hb : (l.length + new.length) * bytes ≤ two47)
  (hK : ∀ v' h', Bld h0 h' v' (l ++ new) → h'.next = h.next → Evs v' → looks base st0 all { fr := setD s.fr d v', st := s.st, h := h' } ch = true ∧ WD P base st0 all r live { fr := setD s.fr d v', st := s.st, h := h' } Q) :
  dS P base st0 all (appA { fr := fr, st := st, h := h } o' e bytes v y) d ch r live s Q := by
 obtain ⟨v', h', e1, e2, e3, e4, e5⟩ := app_row (s := { fr := fr, st := st, h := h }) (o' := o') H.row hy he hb
 rw [e1]
 have hB : Bld h0 h' v' (l ++ new) := H.app ho' e2 e3 e4 e5
 exact hK v' h' hB e3 hB.evs
end
theorem Bld.back {α : Type} [EncP α] {h0 h : Heap} {v : AV} {l : List α} (H : Bld h0 h v l) : ∃ nl, frz h h0.next 40 v = slv nl false l := H.row.back (fun o ho => (H.own o ho).1) 39
theorem Bld.adds {α : Type} [Enc α] {h0 h : Heap} {v : AV} {l : List α} (H : Bld h0 h v l) : Adds h v l := adds_row H.row
mutual
def codeD : Code → List Deed
 | .mk k a _ _ f _ _ l => codeDs l ++ (if k = 3 then [⟨a, [], f⟩] else [])
def codeDs : List Code → List Deed
 | [] => []
 | c :: r => codeD c ++ codeDs r
end
theorem codeDs_app : ∀ (a b : List Code), codeDs (a ++ b) = codeDs a ++ codeDs b
 | [], _ => rfl
 | x :: a, b => by rw [List.cons_append, codeDs, codeDs, codeDs_app a b, List.append_assoc]
theorem codeDs_take {l : List Code} {k : Nat} (hk : k < l.length) : codeDs (l.take (k + 1)) = codeDs (l.take k) ++ codeD (l.getD k default) := by
 rw [List.take_succ_eq_append_getElem hk, codeDs_app, List.getD_eq_getElem?_getD, List.getElem?_eq_getElem hk]
 simp [codeDs]
theorem codeDs_le {l : List Code} : ∀ {x : Code}, x ∈ l → (codeD x).length ≤ (codeDs l).length := by
 induction l with
 | nil => intro x h; simp at h
 | cons c r ih =>
  intro x h
  rw [codeDs, List.length_append]
  rcases List.mem_cons.1 h with rfl | h
  ·omega
  ·have := ih h; omega
theorem codeDs_take_le (l : List Code) (k : Nat) : (codeDs (l.take k)).length ≤ (codeDs l).length := by
 conv => rhs; rw [← List.take_append_drop k l, codeDs_app, List.length_append]
 omega
theorem code56_den (hP : EfP P) : ∀ (c : Code), CodeWf c → (codeD c).length ≤ 100000 → Den P 56 [.agg (Enc.cells c)] (fun v => ∃ nl, v = slv nl false (codeD c)) := by
 refine Code.ind fun kd a n s f nm nl l ih hw hlen => ?_
 obtain ⟨w1, w2, w3, w4, w5, w6, w7⟩ := hw
 have hl : (codeDs l).length ≤ 100000 := by rw [codeD, List.length_append] at hlen; omega
 refine Den.of (code := a56c) (hP.code rfl) (fun N => ?_)
 simp (disch := omega) only [go_sem, a56c, a56r0]
 simp (disch := omega) only [go_sem, a56r1]
 refine Wp_loop (fun x : Nat × Nat × AV × Heap => x.2.1 ≤ l.length ∧ Bld { next := N, m := .leaf } x.2.2.2 x.2.2.1 (codeDs (l.take x.2.1))) (fun (t, k, v, h) => { fr := [(1, .lbox 0 [.int .i64 kd, .int .i64 a, .int .i64 n, .int .i64 s, .int .i64 f, strv nm, slv nl false l]), (2, v), (6, slv nl false l), (7, .int .i64 l.length), (8, .int .i64 k)], st := t, h := h }) (fun x => l.length - x.2.1) (1, 0, .nils, { next := N, m := .leaf }) rfl ⟨by simp, by simp only [List.take_zero]; exact Bld.nil _⟩ ?_
 rintro ⟨t, k, v, h⟩ ⟨h1, hB⟩
 simp only at h1 hB
 have hE := hB.evs
 simp (disch := omega) only [go_sem, a56l0, a56r2, hE.ev]
 refine condS_if (fun c5 => ?_) (fun c5 => ?_)
 ·have hk : k < l.length := by omega
  simp (disch := omega) only [go_sem, a56r3, hE.ev]
  simp (disch := omega) only [go_sem, a56r4, hE.ev]
  refine WO.den (k := 0) (vs := [.agg (Enc.cells (l.getD k default))]) (by rw [hP.pure]; rfl) (by simp (disch := omega) only [go_sem]) (ih _ (slv_get hk) (w7 _ (slv_get hk)) (Nat.le_trans (codeDs_le (slv_get hk)) hl)) (fun v hv => by obtain ⟨nl, rfl⟩ := hv; exact alone1_slv _ _ _) (fun v hv => ?_)
  obtain ⟨nl', rfl⟩ := hv
  simp (disch := omega) only [go_sem, hE.ev, hE.dat]
  have b1 := codeDs_take_le l k
  have b2 := codeDs_le (slv_get hk)
  refine stepBld (k := 1) (α := Deed) hB (by omega) (adds_slv _ _ _ _) rfl (by unfold two47; omega) (fun v' h' hB' hn hE' => ?_)
  simp (disch := omega) only [go_sem, hE'.ev, a56r5]
  exact ⟨(t + 1, k + 1, v', h'), ⟨by simp only; omega, by simp only; rw [codeDs_take hk]; exact hB'⟩, by simp only; omega, by push_cast; rfl⟩
 ·rw [List.take_of_length_le (by omega)] at hB
  simp (disch := omega) only [go_sem, a56r6, hE.ev]
  rw [codeD] at hlen ⊢
  refine condS_if (fun k3 => ?_) (fun k3 => ?_)
  ·rw [if_pos k3]
   simp (disch := omega) only [go_sem, a56r7, hE.ev, hE.dat]
   refine stepBld (k := 1) (α := Deed) hB (by omega) (adds_one (α := Deed) _ ⟨a, [], f⟩ _ true rfl) rfl (by simp only [List.length_cons, List.length_nil, two47]; omega) (fun v' h' hB' hn hE' => ?_)
   simp (disch := omega) only [go_sem, hE'.ev, hE'.dat, a56r8]
   exact hB'.back
  ·rw [if_neg k3, List.append_nil]
   simp (disch := omega) only [go_sem, a56r8, hE.ev, hE.dat]
   exact hB.back
theorem code48_den (hP : EfP P) : ∀ (c : Code), CodeWf c → (codeD c).length ≤ 100000 → Den P 48 [.agg (Enc.cells c)] (fun v => ∃ nl, v = slv nl false (codeD c)) := by
 refine Code.ind fun kd a n s f nm nl l ih hw hlen => ?_
 obtain ⟨w1, w2, w3, w4, w5, w6, w7⟩ := hw
 have hl : (codeDs l).length ≤ 100000 := by rw [codeD, List.length_append] at hlen; omega
 refine Den.of (code := a48c) (hP.code rfl) (fun N => ?_)
 simp (disch := omega) only [go_sem, a48c, a48r0]
 simp (disch := omega) only [go_sem, a48r1]
 simp (disch := omega) only [go_sem, a48r2]
 refine Wp_loop (fun x : Nat × Nat × AV × Heap => x.2.1 ≤ l.length ∧ Bld { next := N, m := .leaf } x.2.2.2 x.2.2.1 (codeDs (l.take x.2.1))) (fun (t, k, v, h) => { fr := [(1, .lbox 0 [.int .i64 kd, .int .i64 a, .int .i64 n, .int .i64 s, .int .i64 f, strv nm, slv nl false l]), (3, v), (4, .int .i64 k)], st := t, h := h }) (fun x => l.length - x.2.1) (1, 0, .nils, { next := N, m := .leaf }) rfl ⟨by simp, by simp only [List.take_zero]; exact Bld.nil _⟩ ?_
 rintro ⟨t, k, v, h⟩ ⟨h1, hB⟩
 simp only at h1 hB
 have hE := hB.evs
 simp (disch := omega) only [go_sem, a48l0, a48r3, hE.ev]
 refine condS_if (fun c5 => ?_) (fun c5 => ?_)
 ·have hk : k < l.length := by omega
  simp (disch := omega) only [go_sem, a48r4, hE.ev]
  refine WO.den (k := 0) (vs := [.agg (Enc.cells (l.getD k default))]) (by rw [hP.pure]; rfl) (by simp (disch := omega) only [go_sem]) (ih _ (slv_get hk) (w7 _ (slv_get hk)) (Nat.le_trans (codeDs_le (slv_get hk)) hl)) (fun v hv => by obtain ⟨nl, rfl⟩ := hv; exact alone1_slv _ _ _) (fun v hv => ?_)
  obtain ⟨nl', rfl⟩ := hv
  simp (disch := omega) only [go_sem, hE.ev, hE.dat]
  have b1 := codeDs_take_le l k
  have b2 := codeDs_le (slv_get hk)
  refine stepBld (k := 1) (α := Deed) hB (by omega) (adds_slv _ _ _ _) rfl (by unfold two47; omega) (fun v' h' hB' hn hE' => ?_)
  simp (disch := omega) only [go_sem, hE'.ev, a48r5]
  exact ⟨(t, k + 1, v', h'), ⟨by simp only; omega, by simp only; rw [codeDs_take hk]; exact hB'⟩, by simp only; omega, by push_cast; rfl⟩
 ·rw [List.take_of_length_le (by omega)] at hB
  simp (disch := omega) only [go_sem, a48r6, hE.ev]
  rw [codeD] at hlen ⊢
  refine condS_if (fun k3 => ?_) (fun k3 => ?_)
  ·rw [if_pos k3]
   simp (disch := omega) only [go_sem, a48r7, hE.ev, hE.dat]
   refine stepBld (k := 1) (α := Deed) hB (by omega) (adds_one (α := Deed) _ ⟨a, [], f⟩ _ true rfl) rfl (by simp only [List.length_cons, List.length_nil, two47]; omega) (fun v' h' hB' hn hE' => ?_)
   simp (disch := omega) only [go_sem, hE'.ev, hE'.dat, a48r8]
   exact hB'.back
  ·rw [if_neg k3, List.append_nil]
   simp (disch := omega) only [go_sem, a48r8, hE.ev, hE.dat]
   exact hB.back
mutual
def actD : Act → List Deed
 | .mk k a _ nm e _ l _ els => if k = 3 then [⟨a, nm, -1⟩] else codeD e ++ (if k = 1 ∨ k = 2 then actDs l ++ actDs els else [])
def actDs : List Act → List Deed
 | [] => []
 | c :: r => actD c ++ actDs r
end
theorem actD_eq (x : Act) : actD x = if x.kind = 3 then [⟨x.pos, x.name, -1⟩] else codeD x.e ++ (if x.kind = 1 ∨ x.kind = 2 then actDs x.l ++ actDs x.els else []) := by cases x; rw [actD]; rfl
theorem actDs_app : ∀ (a b : List Act), actDs (a ++ b) = actDs a ++ actDs b
 | [], _ => rfl
 | x :: a, b => by rw [List.cons_append, actDs, actDs, actDs_app a b, List.append_assoc]
theorem actDs_take {l : List Act} {k : Nat} (hk : k < l.length) : actDs (l.take (k + 1)) = actDs (l.take k) ++ actD (l.getD k default) := by
 rw [List.take_succ_eq_append_getElem hk, actDs_app, List.getD_eq_getElem?_getD, List.getElem?_eq_getElem hk]
 simp [actDs]
theorem actDs_le {l : List Act} : ∀ {x : Act}, x ∈ l → (actD x).length ≤ (actDs l).length := by
 induction l with
 | nil => intro x h; simp at h
 | cons c r ih =>
  intro x h
  rw [actDs, List.length_append]
  rcases List.mem_cons.1 h with rfl | h
  ·omega
  ·have := ih h; omega
theorem actDs_take_le (l : List Act) (k : Nat) : (actDs (l.take k)).length ≤ (actDs l).length := by
 conv => rhs; rw [← List.take_append_drop k l, actDs_app, List.length_append]
 omega
def DeedsDen (P : Prog) (f : Nat) (l : List Act) : Prop := ∀ (nl : Bool) (h : Heap), (actDs l).length ≤ 100000 → Fun P f [slv nl false l] h (fun v h' => Bld h h' v (actDs l))
theorem acts55_two (hP : EfP P) (x : Act) (hih : DeedsDen P 55 x.l ∧ DeedsDen P 55 x.els) (b1 : (actDs x.l).length ≤ 100000) (b2 : (actDs x.els).length ≤ 100000) {l5 : AV} {n6 n7 : Int} {t u : Nat} {h0 h : Heap} {v : AV} {L : List Deed} (hL : L.length ≤ 1000000) (hB : Bld h0 h v L) {tl : Fr} {K : AExit → St → Prop}
  (hK : ∀ v' h', Bld h0 h' v' ((L ++ actDs x.l) ++ actDs x.els) → Evs v' → K .normal { fr := [(2, v'), (5, l5), (6, .int .i64 n6), (7, .int .i64 n7)], st := t + 1, h := h' }) :
  WD P h.next t a55d8 a55d8 [2, 5, 6, 7] { fr := (2, v) :: (4, .lbox u (Enc.cells x)) :: (5, l5) :: (6, .int .i64 n6) :: (7, .int .i64 n7) :: tl, st := t, h := h.reserve 2 } K := by
 have hE := hB.evs
 simp (disch := omega) only [go_sem, a55d8, hE.ev]
 refine WD_fun (vs := [slv x.nl false x.l]) (by simp (disch := omega) only [go_sem]) (hih.1 _ (h.reserve 2) b1) (fun v h1 hv => ?_) (fun v1 h1 hv => ?_)
 ·have := hv.evs
  simp (disch := omega) only [go_sem, this.ev]
 have hE1 := hv.evs
 have hBg := (hB.res 2).grow hv.le hv.keep
 have hn1 := hv.le
 rw [reserve_next] at hn1
 simp (disch := omega) only [go_sem, hE.ev, hE.dat, hE1.ev, hE1.dat]
 refine dsBld (α := Deed) hBg ⟨by have := hB.le; omega, by omega⟩ hv.adds rfl (by unfold two47; omega) (fun v2 h2 hB2 hn2 hE2 => ⟨?_, ?_⟩)
 ·simp (disch := omega) only [go_sem, hE2.ev]
 refine WD_fun (vs := [slv x.ne false x.els]) (by simp (disch := omega) only [go_sem]) (hih.2 _ h2 b2) (fun v h3 hv3 => ?_) (fun v3 h3 hv3 => ?_)
 ·have := hv3.evs
  simp (disch := omega) only [go_sem, this.ev]
 have hE3 := hv3.evs
 have hBg2 := hB2.grow hv3.le hv3.keep
 have hn3 := hv3.le
 simp (disch := omega) only [go_sem, hE2.ev, hE2.dat, hE3.ev, hE3.dat]
 refine dsBld (α := Deed) hBg2 ⟨by have := hB.le; omega, by omega⟩ hv3.adds rfl (by rw [List.length_append]; unfold two47; omega) (fun v4 h4 hB4 hn4 hE4 => ⟨?_, ?_⟩)
 ·simp (disch := omega) only [go_sem, hE4.ev]
 simp (disch := omega) only [go_sem, hE4.ev]
 exact hK v4 h4 hB4 hE4
theorem acts55_one (hP : EfP P) (l : List Act) (hwl : ∀ x ∈ l, ActWf' x) (hl : Len l.length) (hih : ∀ x ∈ l, DeedsDen P 55 x.l ∧ DeedsDen P 55 x.els) : DeedsDen P 55 l := by
 intro nl h0 hlen
 refine Fun.of (code := a55c) (hP.code rfl) (by rw [hP.pure]; rfl) ?_
 simp (disch := omega) only [go_sem, a55c, a55r0]
 simp (disch := omega) only [go_sem, a55r1]
 refine Wp_loop (fun x : Nat × Nat × AV × Heap => x.2.1 ≤ l.length ∧ Bld h0 x.2.2.2 x.2.2.1 (actDs (l.take x.2.1))) (fun (t, k, v, h) => { fr := [(2, v), (5, slv nl false l), (6, .int .i64 l.length), (7, .int .i64 k)], st := t, h := h }) (fun x => l.length - x.2.1) (0, 0, .nils, h0) rfl ⟨by simp, by simp only [List.take_zero]; exact Bld.nil h0⟩ ?_
 rintro ⟨t, k, v, h⟩ ⟨h1, hB⟩
 simp only at h1 hB
 have hE := hB.evs
 simp (disch := omega) only [go_sem, a55l0, a55r2, hE.ev]
 refine condS_if (fun c5 => ?_) (fun c5 => ?_)
 ·have hk : k < l.length := by omega
  have hx := hwl _ (slv_get hk)
  obtain ⟨w1, w2, w3, w4, w5, w6, w7, w8⟩ := hx.parts
  have b1 := actDs_take_le l k
  have b2 := actDs_le (slv_get hk)
  have hnext := actDs_take hk
  rw [actD_eq] at b2 hnext
  simp (disch := omega) only [go_sem, a55r3, hE.ev]
  simp (disch := omega) only [go_sem, a55r4, hE.ev]
  refine condS_if (fun k3 => ?_) (fun k3 => ?_)
  ·rw [if_pos k3] at hnext
   simp (disch := omega) only [go_sem, a55r5, hE.ev, hE.dat]
   refine stepBld (k := 1) (α := Deed) hB (by omega) (adds_one (α := Deed) _ ⟨(l.getD k default).pos, (l.getD k default).name, -1⟩ _ true rfl) rfl (by simp only [List.length_cons, List.length_nil, two47]; omega) (fun v' h' hB' hn hE' => ?_)
   simp (disch := omega) only [go_sem, hE'.ev, a55r9]
   exact ⟨(t + 1, k + 1, v', h'), ⟨by simp only; omega, by simp only; rw [hnext]; exact hB'⟩, by simp only; omega, by push_cast; rfl⟩
  ·rw [if_neg k3] at hnext b2
   rw [List.length_append] at b2
   simp (disch := omega) only [go_sem, a55r6, hE.ev, hE.dat]
   refine WO.den (k := 0) (vs := [.agg (Enc.cells (l.getD k default).e)]) (by rw [hP.pure]; rfl) (by simp (disch := omega) only [go_sem]) (code56_den hP _ w4 (by omega)) (fun v hv => by obtain ⟨nl, rfl⟩ := hv; exact alone1_slv _ _ _) (fun v hv => ?_)
   obtain ⟨nl', rfl⟩ := hv
   simp (disch := omega) only [go_sem, hE.ev, hE.dat]
   refine stepBld (k := 1) (α := Deed) hB (by omega) (adds_slv _ _ _ _) rfl (by unfold two47; omega) (fun v' h' hB' hn hE' => ?_)
   simp (disch := omega) only [go_sem, hE'.ev, a55r7]
   have t1 : (l.getD k default).kind = 1 ∨ (l.getD k default).kind = 2 → (actDs (l.getD k default).l).length ≤ 100000 ∧ (actDs (l.getD k default).els).length ≤ 100000 := fun h => by
    rw [if_pos h, List.length_append] at b2
    omega
   have lB : (actDs (l.take k) ++ codeD (l.getD k default).e).length ≤ 1000000 := by rw [List.length_append]; omega
   refine guardS_pf (fun k1 v1 => ?_) (fun k1 v1 => ?_) <;> simp (disch := omega) only [go_sem, v1, hE'.ev]
   ·by_cases k2 : (l.getD k default).kind = 2
    ·have v2 : decide ((l.getD k default).kind = 2) = true := decide_eq_true k2
     rw [if_pos (.inr k2)] at hnext
     simp (disch := omega) only [go_sem, v2, hE'.ev]
     refine acts55_two hP _ (hih _ (slv_get hk)) (t1 (.inr k2)).1 (t1 (.inr k2)).2 lB hB' (fun v2 h2 hB2 hE2 => ?_)
     simp (disch := omega) only [go_sem, hE2.ev, a55r9]
     exact ⟨(t + 1 + 1, k + 1, v2, h2), ⟨by simp only; omega, by simp only; rw [hnext]; simpa only [List.append_assoc] using hB2⟩, by simp only; omega, by push_cast; rfl⟩
    ·have v2 : decide ((l.getD k default).kind = 2) = false := decide_eq_false k2
     rw [if_neg (by omega), List.append_nil] at hnext
     simp (disch := omega) only [go_sem, v2, hE'.ev, a55r9]
     exact ⟨(t + 1, k + 1, v', h'), ⟨by simp only; omega, by simp only; rw [hnext]; exact hB'⟩, by simp only; omega, by push_cast; rfl⟩
   ·rw [if_pos (.inl k1)] at hnext
    refine acts55_two hP _ (hih _ (slv_get hk)) (t1 (.inl k1)).1 (t1 (.inl k1)).2 lB hB' (fun v2 h2 hB2 hE2 => ?_)
    simp (disch := omega) only [go_sem, hE2.ev, a55r9]
    exact ⟨(t + 1 + 1, k + 1, v2, h2), ⟨by simp only; omega, by simp only; rw [hnext]; simpa only [List.append_assoc] using hB2⟩, by simp only; omega, by push_cast; rfl⟩
 ·rw [List.take_of_length_le (by omega)] at hB
  simp (disch := omega) only [go_sem, a55r10, hE.ev, hE.dat]
  exact hB
theorem acts55_act (hP : EfP P) : ∀ x : Act, ActWf' x → DeedsDen P 55 x.l ∧ DeedsDen P 55 x.els := by
 refine Act.ind fun k a s nm e nl l ne els ih ih2 hx => ?_
 obtain ⟨w1, w2, w3, w4, w5, w6, w7, w8⟩ := hx.parts
 exact ⟨acts55_one hP l w6 w5 (fun x h => ih x h (w6 x h)), acts55_one hP els w8 w7 (fun x h => ih2 x h (w8 x h))⟩
theorem acts55_den (hP : EfP P) (l : List Act) (hwl : ∀ x ∈ l, ActWf' x) (hl : Len l.length) : DeedsDen P 55 l := acts55_one hP l hwl hl (fun x hx => acts55_act hP x (hwl x hx))
theorem acts47_one (hP : EfP P) (l : List Act) (hwl : ∀ x ∈ l, ActWf' x) (hl : Len l.length) (hih : ∀ x ∈ l, DeedsDen P 47 x.l ∧ DeedsDen P 47 x.els) : DeedsDen P 47 l := by
 intro nl h0 hlen
 refine Fun.of (code := a47c) (hP.code rfl) (by rw [hP.pure]; rfl) ?_
 simp (disch := omega) only [go_sem, a47c, a47r0]
 simp (disch := omega) only [go_sem, a47r1]
 simp (disch := omega) only [go_sem, a47r2]
 refine Wp_loop (fun x : Nat × Nat × AV × Heap => x.2.1 ≤ l.length ∧ Bld h0 x.2.2.2 x.2.2.1 (actDs (l.take x.2.1))) (fun (t, k, v, h) => { fr := [(0, slv nl false l), (3, v), (4, .int .i64 k)], st := t, h := h }) (fun x => l.length - x.2.1) (0, 0, .nils, h0) rfl ⟨by simp, by simp only [List.take_zero]; exact Bld.nil h0⟩ ?_
 rintro ⟨t, k, v, h⟩ ⟨h1, hB⟩
 simp only at h1 hB
 have hE := hB.evs
 simp (disch := omega) only [go_sem, a47l0, a47r3, hE.ev]
 refine condS_if (fun c5 => ?_) (fun c5 => ?_)
 ·have hk : k < l.length := by omega
  have hx := hwl _ (slv_get hk)
  obtain ⟨w1, w2, w3, w4, w5, w6, w7, w8⟩ := hx.parts
  have b1 := actDs_take_le l k
  have b2 := actDs_le (slv_get hk)
  have hnext := actDs_take hk
  rw [actD_eq] at b2 hnext
  simp (disch := omega) only [go_sem, a47r4, hE.ev]
  simp (disch := omega) only [go_sem, a47r5, hE.ev]
  refine condS_if (fun k3 => ?_) (fun k3 => ?_)
  ·rw [if_pos k3] at hnext
   simp (disch := omega) only [go_sem, a47r6, hE.ev, hE.dat]
   refine stepBld (k := 1) (α := Deed) hB (by omega) (adds_one (α := Deed) _ ⟨(l.getD k default).pos, (l.getD k default).name, -1⟩ _ true rfl) rfl (by simp only [List.length_cons, List.length_nil, two47]; omega) (fun v' h' hB' hn hE' => ?_)
   simp (disch := omega) only [go_sem, hE'.ev, a47r11]
   exact ⟨(t + 1, k + 1, v', h'), ⟨by simp only; omega, by simp only; rw [hnext]; exact hB'⟩, by simp only; omega, by push_cast; rfl⟩
  ·rw [if_neg k3] at hnext b2
   rw [List.length_append] at b2
   simp (disch := omega) only [go_sem, a47r7, hE.ev, hE.dat]
   refine WO.den (k := 0) (vs := [.agg (Enc.cells (l.getD k default).e)]) (by rw [hP.pure]; rfl) (by simp (disch := omega) only [go_sem]) (code48_den hP _ w4 (by omega)) (fun v hv => by obtain ⟨nl, rfl⟩ := hv; exact alone1_slv _ _ _) (fun v hv => ?_)
   obtain ⟨nl', rfl⟩ := hv
   simp (disch := omega) only [go_sem, hE.ev, hE.dat]
   refine stepBld (k := 1) (α := Deed) hB (by omega) (adds_slv _ _ _ _) rfl (by unfold two47; omega) (fun v' h' hB' hn hE' => ?_)
   simp (disch := omega) only [go_sem, hE'.ev, a47r8]
   have t1 : (l.getD k default).kind = 1 ∨ (l.getD k default).kind = 2 → (actDs (l.getD k default).l).length ≤ 100000 ∧ (actDs (l.getD k default).els).length ≤ 100000 := fun h => by
    rw [if_pos h, List.length_append] at b2
    omega
   have lB : (actDs (l.take k) ++ codeD (l.getD k default).e).length ≤ 1000000 := by rw [List.length_append]; omega
   refine guardS_pf (fun k1 v1 => ?_) (fun k1 v1 => ?_) <;> simp (disch := omega) only [go_sem, v1, hE'.ev]
   ·by_cases k2 : (l.getD k default).kind = 2
    ·have v2 : decide ((l.getD k default).kind = 2) = true := decide_eq_true k2
     have t2 := t1 (.inr k2)
     rw [if_pos (.inr k2)] at hnext
     simp (disch := omega) only [go_sem, v2, hE'.ev]
     simp (disch := omega) only [go_sem, a47r9, hE'.ev]
     refine WO.fun (vs := [slv (l.getD k default).nl false (l.getD k default).l]) (by simp (disch := omega) only [go_sem]) ((hih _ (slv_get hk)).1 _ (h'.reserve 1) t2.1) (fun w1 g1 hv => ?_)
     have hEw := hv.evs
     have hBg := (hB'.res 1).grow hv.le hv.keep
     have hng := hv.le
     rw [reserve_next] at hng
     simp (disch := omega) only [go_sem, hE'.ev, hE'.dat, hEw.ev, hEw.dat]
     refine stepBld2 (α := Deed) hBg ⟨by have := hB'.le; omega, by omega⟩ hv.adds rfl (by unfold two47; omega) (fun v2 h2 hB2 hn2 hE2 => ?_)
     simp (disch := omega) only [go_sem, hE2.ev, a47r10]
     refine WO.fun (vs := [slv (l.getD k default).ne false (l.getD k default).els]) (by simp (disch := omega) only [go_sem]) ((hih _ (slv_get hk)).2 _ (h2.reserve 1) t2.2) (fun w3 g3 hv3 => ?_)
     have hEw3 := hv3.evs
     have hBg3 := (hB2.res 1).grow hv3.le hv3.keep
     have hng3 := hv3.le
     rw [reserve_next] at hng3
     simp (disch := omega) only [go_sem, hE2.ev, hE2.dat, hEw3.ev, hEw3.dat]
     refine stepBld2 (α := Deed) hBg3 ⟨by have := hB2.le; omega, by omega⟩ hv3.adds rfl (by rw [List.length_append]; unfold two47; omega) (fun v3 h3 hB3 hn3 hE3 => ?_)
     simp (disch := omega) only [go_sem, hE3.ev, a47r11]
     exact ⟨(t + 1, k + 1, v3, h3), ⟨by simp only; omega, by simp only; rw [hnext]; simpa only [List.append_assoc] using hB3⟩, by simp only; omega, by push_cast; rfl⟩
    ·have v2 : decide ((l.getD k default).kind = 2) = false := decide_eq_false k2
     rw [if_neg (by omega), List.append_nil] at hnext
     simp (disch := omega) only [go_sem, v2, hE'.ev, a47r11]
     exact ⟨(t + 1, k + 1, v', h'), ⟨by simp only; omega, by simp only; rw [hnext]; exact hB'⟩, by simp only; omega, by push_cast; rfl⟩
   ·have t2 := t1 (.inl k1)
    rw [if_pos (.inl k1)] at hnext
    simp (disch := omega) only [go_sem, a47r9, hE'.ev]
    refine WO.fun (vs := [slv (l.getD k default).nl false (l.getD k default).l]) (by simp (disch := omega) only [go_sem]) ((hih _ (slv_get hk)).1 _ (h'.reserve 1) t2.1) (fun w1 g1 hv => ?_)
    have hEw := hv.evs
    have hBg := (hB'.res 1).grow hv.le hv.keep
    have hng := hv.le
    rw [reserve_next] at hng
    simp (disch := omega) only [go_sem, hE'.ev, hE'.dat, hEw.ev, hEw.dat]
    refine stepBld2 (α := Deed) hBg ⟨by have := hB'.le; omega, by omega⟩ hv.adds rfl (by unfold two47; omega) (fun v2 h2 hB2 hn2 hE2 => ?_)
    simp (disch := omega) only [go_sem, hE2.ev, a47r10]
    refine WO.fun (vs := [slv (l.getD k default).ne false (l.getD k default).els]) (by simp (disch := omega) only [go_sem]) ((hih _ (slv_get hk)).2 _ (h2.reserve 1) t2.2) (fun w3 g3 hv3 => ?_)
    have hEw3 := hv3.evs
    have hBg3 := (hB2.res 1).grow hv3.le hv3.keep
    have hng3 := hv3.le
    rw [reserve_next] at hng3
    simp (disch := omega) only [go_sem, hE2.ev, hE2.dat, hEw3.ev, hEw3.dat]
    refine stepBld2 (α := Deed) hBg3 ⟨by have := hB2.le; omega, by omega⟩ hv3.adds rfl (by rw [List.length_append]; unfold two47; omega) (fun v3 h3 hB3 hn3 hE3 => ?_)
    simp (disch := omega) only [go_sem, hE3.ev, a47r11]
    exact ⟨(t + 1, k + 1, v3, h3), ⟨by simp only; omega, by simp only; rw [hnext]; simpa only [List.append_assoc] using hB3⟩, by simp only; omega, by push_cast; rfl⟩
 ·rw [List.take_of_length_le (by omega)] at hB
  simp (disch := omega) only [go_sem, a47r12, hE.ev, hE.dat]
  exact hB
theorem acts47_act (hP : EfP P) : ∀ x : Act, ActWf' x → DeedsDen P 47 x.l ∧ DeedsDen P 47 x.els := by
 refine Act.ind fun k a s nm e nl l ne els ih ih2 hx => ?_
 obtain ⟨w1, w2, w3, w4, w5, w6, w7, w8⟩ := hx.parts
 exact ⟨acts47_one hP l w6 w5 (fun x h => ih x h (w6 x h)), acts47_one hP els w8 w7 (fun x h => ih2 x h (w8 x h))⟩
theorem acts47_den (hP : EfP P) (l : List Act) (hwl : ∀ x ∈ l, ActWf' x) (hl : Len l.length) : DeedsDen P 47 l := acts47_one hP l hwl hl (fun x hx => acts47_act hP x (hwl x hx))
def deedsF (f : FuncV) : List Deed := actDs f.body ++ codeD f.ret
theorem deeds31_den (hP : EfP P) (f : FuncV) (hf : FuncWf f) (hlen : (deedsF f).length ≤ 100000) : Den P 31 [.agg (Enc.cells f)] (fun v => ∃ nl, v = slv nl false (deedsF f)) := by
 obtain ⟨f1, f2, f3, f4, f5, f6⟩ := hf
 rw [deedsF, List.length_append] at hlen
 refine Den.of (code := a31c) (hP.code rfl) (fun N => ?_)
 simp (disch := omega) only [go_sem, a31c, a31r0]
 simp (disch := omega) only [go_sem, a31d1]
 refine WD_fun (vs := [slv f.bn false f.body]) (by simp (disch := omega) only [go_sem]) (acts55_den hP f.body f5.2 f5.1 f.bn _ (by omega)) (fun v h1 hv => ?_) (fun v1 h1 hv => ?_)
 ·have := hv.evs
  simp (disch := omega) only [go_sem, this.ev]
 have hE := hv.evs
 have hn := hv.le
 simp only [reserve_next] at hn
 simp (disch := omega) only [go_sem, hE.ev]
 refine WD_den (k := 0) (vs := [.agg (Enc.cells f.ret)]) (by rw [hP.pure]; rfl) (by simp (disch := omega) only [go_sem]) (code56_den hP _ f6 (by omega)) (fun v hv => by obtain ⟨nl, rfl⟩ := hv; exact alone1_slv _ _ _) (fun v hv => ?_) (fun v hv2 => ?_)
 ·obtain ⟨nl, rfl⟩ := hv
  simp (disch := omega) only [go_sem]
 obtain ⟨nl, rfl⟩ := hv2
 simp (disch := omega) only [go_sem, hE.ev, hE.dat]
 have hB : Bld { next := N, m := .leaf } h1 v1 (actDs f.body) := hv.from (Nat.le_add_right _ _) (fun _ _ => rfl)
 refine dsBld (α := Deed) hB ⟨Nat.le_refl _, by show N < _; omega⟩ (adds_slv _ _ _ _) rfl (by unfold two47; omega) (fun v2 h2 hB2 hn2 hE2 => ⟨?_, ?_⟩)
 ·simp (disch := omega) only [go_sem]
 simp (disch := omega) only [go_sem, hE2.ev, hE2.dat]
 exact hB2.back
theorem deeds23_den (hP : EfP P) (f : FuncV) (hf : FuncWf f) (hlen : (deedsF f).length ≤ 100000) : Den P 23 [.agg (Enc.cells f)] (fun v => ∃ nl, v = slv nl false (deedsF f)) := by
 obtain ⟨f1, f2, f3, f4, f5, f6⟩ := hf
 rw [deedsF, List.length_append] at hlen
 refine Den.of (code := a23c) (hP.code rfl) (fun N => ?_)
 simp (disch := omega) only [go_sem, a23c, a23r0]
 simp (disch := omega) only [go_sem, a23d1]
 refine WD_fun (vs := [slv f.bn false f.body]) (by simp (disch := omega) only [go_sem]) (acts47_den hP f.body f5.2 f5.1 f.bn _ (by omega)) (fun v h1 hv => ?_) (fun v1 h1 hv => ?_)
 ·have := hv.evs
  simp (disch := omega) only [go_sem, this.ev]
 have hE := hv.evs
 have hn := hv.le
 simp only [reserve_next] at hn
 simp (disch := omega) only [go_sem, hE.ev]
 refine WD_den (k := 0) (vs := [.agg (Enc.cells f.ret)]) (by rw [hP.pure]; rfl) (by simp (disch := omega) only [go_sem]) (code48_den hP _ f6 (by omega)) (fun v hv => by obtain ⟨nl, rfl⟩ := hv; exact alone1_slv _ _ _) (fun v hv => ?_) (fun v hv2 => ?_)
 ·obtain ⟨nl, rfl⟩ := hv
  simp (disch := omega) only [go_sem]
 obtain ⟨nl, rfl⟩ := hv2
 simp (disch := omega) only [go_sem, hE.ev, hE.dat]
 have hB : Bld { next := N, m := .leaf } h1 v1 (actDs f.body) := hv.from (Nat.le_add_right _ _) (fun _ _ => rfl)
 refine dsBld (α := Deed) hB ⟨Nat.le_refl _, by show N < _; omega⟩ (adds_slv _ _ _ _) rfl (by unfold two47; omega) (fun v2 h2 hB2 hn2 hE2 => ⟨?_, ?_⟩)
 ·simp (disch := omega) only [go_sem]
 simp (disch := omega) only [go_sem, hE2.ev, hE2.dat]
 exact hB2.back
end Go.Am.Ef
/- Rows of numbers; slices.Compact. -/
namespace Go.Am
structure SlI where
 nl : Bool
 l : List Int
 deriving Inhabited
theorem pureV_ints (nl : Bool) (l : List Int) : pureV 1000000 (slv nl false l) = true := by
 rcases slv_cases nl false l with ⟨h, -⟩ | h <;> rw [h]
 ·rfl
 ·show allN (fun i => (cellsAtL l i).all (pureV 999999)) l.length = true
  refine allN_of (fun i hi => ?_)
  rw [cellsAtL_in hi]
  rfl
instance encSlI : EncP SlI where
 sz := 1
 cells s := [slv s.nl false s.l]
 len _ := rfl
 pur x c hc := by
  simp only [List.mem_singleton] at hc
  subst hc
  exact ⟨fun h b n => frz_slv h b n _ _ _, pureV_ints _ _⟩
@[go_sem] theorem sz_SlI : Enc.sz SlI = 1 := rfl
@[go_sem] theorem cells_SlI (s : SlI) : Enc.cells s = [slv s.nl false s.l] := rfl
instance encAV : Enc AV where
 sz := 1
 cells v := [v]
 len _ := rfl
@[go_sem] theorem sz_AV : Enc.sz AV = 1 := rfl
theorem flat_AV : ∀ l : List AV, l.flatMap Enc.cells = l
 | [] => rfl
 | v :: r => by rw [List.flatMap_cons, flat_AV r]; rfl
theorem flat_int : ∀ l : List Int, l.flatMap Enc.cells = l.map (fun n => AV.int .i64 n)
 | [] => rfl
 | v :: r => by rw [List.flatMap_cons, flat_int r]; rfl
theorem sub1 {c : List AV} {k : Nat} {x : AV} (h : c[k]? = some x) : ((dropN k c).bind fun r => takeN 1 r) = some [x] := by
 have hk : k < c.length := by
  rcases Nat.lt_or_ge k c.length with h1 | h1
  ·exact h1
  ·rw [List.getElem?_eq_none h1] at h; simp at h
 refine (show _ = sub c k 1 from rfl).trans ?_
 rw [sub_take _ _ _ (by omega)]
 rw [List.getElem?_eq_getElem hk] at h
 rw [List.drop_eq_getElem_cons hk, Option.some.inj h]
 rfl
theorem over1 {c : List AV} {k : Nat} (hk : k < c.length) (x : AV) : over c k [x] = some (c.set k x) := by
 have := over_flat (α := AV) (l := c) hk x
 rw [flat_AV, flat_AV, sz_AV, Nat.mul_one] at this
 exact this
theorem over0_full' : ∀ (c v : List AV), c.length = v.length → over0 c v = some v
 | [], [], _ => rfl
 | [], _ :: _, h => by simp at h
 | _ :: _, [], h => by simp at h
 | a :: c, b :: v, h => by rw [over0_cons, over0_full' c v (by simpa using h)]; rfl
theorem over_tail {c : List AV} {k : Nat} {r : List AV} (hk : k ≤ c.length) (hr : k + r.length = c.length) : over c k r = some (c.take k ++ r) := by
 induction k generalizing c with
 | zero =>
  rw [List.take_zero, List.nil_append]
  exact (show over c 0 r = over0 c r by cases c <;> rfl).trans (over0_full' c r (by omega))
 | succ k ih =>
  cases c with
  | nil => simp at hk
  | cons x c =>
   rw [over_succ, ih (by simpa using hk) (by simp only [List.length_cons] at hr; omega)]
   rfl
end Go.Am
namespace Go.Am.Ef
open Go.Am
variable {P : Prog}
set_option maxRecDepth 20000
set_option maxHeartbeats 1000000
def RowP {α : Type} [Enc α] (h : Heap) (v : AV) (l : List α) : Prop := (v = .nils ∧ l = []) ∨ ∃ o ep c, v = .hs (Enc.sz α) o ep 0 l.length false ∧ h.get o = some (.row (Enc.sz α) ep (l.flatMap Enc.cells ++ c))
def uq (l : List Int) : Nat → List Int
 | 0 => []
 | m + 1 => if m = 0 ∨ l.getD m 0 ≠ l.getD (m - 1) 0 then uq l m ++ [l.getD m 0] else uq l m
theorem uq_len (l : List Int) : ∀ m, (uq l m).length ≤ m
 | 0 => Nat.le_refl _
 | m + 1 => by
  have := uq_len l m
  rw [uq]
  split
  ·rw [List.length_append]; simp only [List.length_cons, List.length_nil]; omega
  ·omega
theorem uq_take (l : List Int) : ∀ m, m ≤ l.length → (∀ i, 0 < i → i < m → l.getD i 0 ≠ l.getD (i - 1) 0) → uq l m = l.take m
 | 0, _, _ => by simp [uq]
 | m + 1, hm, h => by
  rw [uq, if_pos (by by_cases h0 : m = 0; exact .inl h0; exact .inr (h m (by omega) (by omega))), uq_take l m (by omega) (fun i h1 h2 => h i h1 (by omega)), List.take_succ_eq_append_getElem (by omega), List.getD_eq_getElem?_getD, List.getElem?_eq_getElem (by omega)]
  rfl
theorem compact_fun (hP : EfP P) (l : List Int) (hl : l.length ≤ 1000000) (v : AV) (h : Heap) (hr : RowV h v l) :
  Fun P 33 [v] h (fun v' h' => RowP h' v' (uq l l.length) ∧ rowOf v' = rowOf v ∧ h'.next = h.next ∧ ∀ q, rowOf v ≠ some q → h'.get q = h.get q) := by
 refine Fun.of (code := a33c) (hP.code rfl) (by rw [hP.pure]; rfl) ?_
 rcases hr with ⟨rfl, rfl⟩ | ⟨o, ep, rfl, g⟩
 ·simp (disch := omega) only [go_sem, a33c, a33r0]
  simp (disch := omega) only [go_sem, a33r1]
  simp (disch := omega) only [go_sem, a33r2]
  exact ⟨.inl ⟨rfl, rfl⟩, trivial, trivial, fun _ _ => trivial⟩
 rw [flat_int] at g
 simp (disch := omega) only [go_sem, a33c, a33r0]
 simp (disch := omega) only [go_sem, a33r1]
 refine condS_if (fun c1 => ?_) (fun c1 => ?_)
 ·simp (disch := omega) only [go_sem, a33r2]
  refine ⟨.inr ⟨o, ep, [], ?_, by rw [g, flat_int, List.append_nil, uq_take l _ (Nat.le_refl _) (fun i h1 h2 => by omega), List.take_length]⟩, trivial, trivial, fun _ _ => trivial⟩
  rw [uq_take l _ (Nat.le_refl _) (fun i h1 h2 => by omega), List.take_length]
  rfl
 simp (disch := omega) only [go_sem, a33r3]
 refine Wp_loop (fun x : Nat × Nat => 0 < x.2 ∧ x.2 ≤ l.length ∧ ∀ i, 0 < i → i < x.2 → l.getD i 0 ≠ l.getD (i - 1) 0) (fun (t, k) => { fr := [(0, .hs 1 o ep 0 l.length false), (3, .int .i64 k)], st := t, h := h }) (fun x => l.length - x.2) (0, 1) rfl ⟨by omega, by simp only; omega, fun i h1 h2 => by simp only at h2; omega⟩ ?_
 rintro ⟨t, k⟩ ⟨k1, k2, k3⟩
 simp only at k1 k2 k3
 simp (disch := omega) only [go_sem, a33l1, a33r4]
 have ig : ∀ i, i < l.length → (l.map (fun n => AV.int .i64 n))[i]? = some (.int .i64 (l.getD i 0)) := fun i hi => by
  rw [List.getElem?_map, List.getElem?_eq_getElem hi, List.getD_eq_getElem?_getD, List.getElem?_eq_getElem hi]; rfl
 refine condS_if (fun c2 => ?_) (fun c2 => ?_)
 ·have hk : k < l.length := by omega
  have ek : ((k : Int) - 1) = ((k - 1 : Nat) : Int) := by omega
  have hk1 : k - 1 < l.length := by omega
  have f1 := sub1 (ig k hk)
  have f2 := sub1 (ig (k - 1) hk1)
  simp (disch := omega) only [go_sem, a33d5, g, Nat.mul_one, f1, ek, f2, hk1]
  refine condS_if (fun c3 => ?_) (fun c3 => ?_)
  ·simp (disch := omega) only [go_sem, a33r6]
   simp (disch := omega) only [go_sem, a33r7]
   refine Wp_loop (fun x : Nat × Nat × Nat × Heap => 1 ≤ x.2.2.1 ∧ k + x.2.2.1 ≤ l.length ∧ x.2.1 + 1 ≤ k + x.2.2.1 ∧ x.2.1 = (uq l (k + x.2.2.1)).length ∧ x.2.2.2.next = h.next ∧ (∀ q, q ≠ o → x.2.2.2.get q = h.get q) ∧ ∃ c, x.2.2.2.get o = some (.row 1 ep c) ∧ c.length = l.length ∧ c.take x.2.1 = (uq l (k + x.2.2.1)).map (fun n => AV.int .i64 n) ∧ ∀ i, k + x.2.2.1 ≤ i + 1 → i < l.length → c[i]? = some (.int .i64 (l.getD i 0)))
    (fun (t, kk, k2, hx) => { fr := [(0, .hs 1 o ep 0 l.length false), (3, .int .i64 kk), (4, .hs 1 o ep k (l.length - k) false), (5, .int .i64 k2)], st := t, h := hx }) (fun x => l.length - x.2.2.1) (_, k, 1, h) rfl ?_ ?_
   ·have e : uq l (k + 1) = l.take k := by
     rw [uq, if_neg (by omega), uq_take l k (by omega) k3]
    exact ⟨by simp only; omega, by simp only; omega, by simp only; omega, by simp only [e, List.length_take]; omega, rfl, fun _ _ => rfl, _, g, by simp, by simp only [e, List.map_take], fun i _ hi => ig i hi⟩
   rintro ⟨t2, kk, m, hx⟩ ⟨m1, m2, m3, m4, m5, m6, c, gc, cl, ct, ci⟩
   simp only at m1 m2 m3 m4 m5 m6 gc ct ci
   simp (disch := omega) only [go_sem, a33l0, a33r8]
   refine condS_if (fun c4 => ?_) (fun c4 => ?_)
   ·have hm : m < l.length - k := by omega
    have em : ((m : Int) - 1) = ((m - 1 : Nat) : Int) := by omega
    have hm1 : m - 1 < l.length - k := by omega
    have f1 := sub1 (ci (k + m) (by omega) (by omega))
    have f2 := sub1 (ci (k + (m - 1)) (by omega) (by omega))
    have hu : uq l (k + m + 1) = if l.getD (k + m) 0 ≠ l.getD (k + m - 1) 0 then uq l (k + m) ++ [l.getD (k + m) 0] else uq l (k + m) := by
     rw [uq]
     by_cases hc : l.getD (k + m) 0 = l.getD (k + m - 1) 0
     ·rw [if_neg (by omega), if_neg (by omega)]
     ·rw [if_pos (.inr hc), if_pos hc]
    have e1 : k + (m - 1) = k + m - 1 := by omega
    rw [e1] at f2
    simp (disch := omega) only [go_sem, a33d9, gc, Nat.mul_one, f1, em, f2, hm1, hm, e1]
    refine condS_if (fun c5 => ?_) (fun c5 => ?_)
    ·rw [if_pos c5] at hu
     have hkk : kk < l.length := by omega
     have ov := over1 (c := c) (k := kk) (by omega) (.int .i64 (l.getD (k + m) 0))
     simp (disch := omega) only [go_sem, a33r10, gc, Nat.mul_one, f1, hm, hkk, ov]
     simp (disch := omega) only [go_sem, a33r11]
     simp (disch := omega) only [go_sem, a33r12]
     refine ⟨(t2 + 1, kk + 1, m + 1, hx.put o (.row 1 ep (c.set kk (.int .i64 (l.getD (k + m) 0))))), ⟨by simp only; omega, by simp only; omega, by simp only; omega, ?_, m5, fun q hq => ?_, _, get_put_same _ _ _, by simp [cl], ?_, fun i h1 h2 => ?_⟩, by simp only; omega, by push_cast; rfl⟩
     ·simp only [← Nat.add_assoc, hu, List.length_append, ← m4]; rfl
     ·rw [get_put_ne _ _ _ _ hq]; exact m6 q hq
     ·simp only [← Nat.add_assoc, hu, List.map_append, ← ct]
      rw [List.take_succ_eq_append_getElem (by simp [cl]; omega), List.take_set_of_le (Nat.le_refl _)]
      simp
     ·simp only at h1
      rw [List.getElem?_set_ne (by omega)]
      exact ci i (by omega) h2
    ·rw [if_neg c5] at hu
     simp (disch := omega) only [go_sem, a33r12]
     refine ⟨(t2 + 1, kk, m + 1, hx), ⟨by simp only; omega, by simp only; omega, by simp only; omega, ?_, m5, m6, c, gc, cl, ?_, fun i h1 h2 => ?_⟩, by simp only; omega, by push_cast; rfl⟩
     ·simp only [← Nat.add_assoc, hu]; exact m4
     ·simp only [← Nat.add_assoc, hu]; exact ct
     ·simp only at h1
      exact ci i (by omega) h2
   ·have e : k + m = l.length := by omega
    rw [e] at m4 ct
    have hkk : kk < l.length := by omega
    have hov : over c kk (List.replicate (l.length - kk) (.int .i64 0)) = some (c.take kk ++ List.replicate (l.length - kk) (.int .i64 0)) := over_tail (by omega) (by rw [List.length_replicate]; omega)
    have b0 : Nat.beq (l.length - kk) 0 = false := by rw [nbeq]; exact decide_eq_false (by omega)
    have b1 : Nat.beq 1 1 = true := rfl
    simp (disch := omega) only [go_sem, a33r13, gc]
    simp only [clrO, b0, b1, cond_false, cond_true, wr_eptr, gc, wrE_row, hov, Option.bind_some, undefA]
    simp (disch := omega) only [go_sem]
    simp (disch := omega) only [go_sem, a33r14, hkk]
    refine ⟨.inr ⟨o, ep, List.replicate (l.length - kk) (.int .i64 0), by rw [← m4]; rfl, ?_⟩, rfl, m5, fun q hq => ?_⟩
    ·rw [get_put_same, flat_int, ← ct]; rfl
    ·rw [get_put_ne _ _ _ _ (fun e => hq (by rw [e]; rfl))]; exact m6 q (fun e => hq (by rw [e]; rfl))
  ·simp (disch := omega) only [go_sem, a33r15]
   refine ⟨(t + 1, k + 1), ⟨by simp only; omega, by simp only; omega, fun i h1 h2 => ?_⟩, by simp only; omega, by push_cast; rfl⟩
   simp only at h2
   by_cases h3 : i = k
   ·subst h3; exact c3
   ·exact k3 i h1 (by omega)
 ·have e : k = l.length := by omega
  subst e
  simp (disch := omega) only [go_sem, a33r16]
  refine ⟨.inr ⟨o, ep, [], ?_, by rw [g, flat_int, List.append_nil, uq_take l _ (Nat.le_refl _) k3, List.take_length]⟩, trivial, trivial, fun _ _ => trivial⟩
  rw [uq_take l _ (Nat.le_refl _) k3, List.take_length]
  rfl
end Go.Am.Ef
/- Rows that may be longer than their slices; rows of rows. -/
namespace Go.Am.Ef
open Go.Am
variable {P : Prog}
set_option maxRecDepth 20000
set_option maxHeartbeats 1000000
section
variable {α : Type} [Enc α]
theorem RowV.p {h : Heap} {v : AV} {l : List α} (hr : RowV h v l) : RowP h v l := by
 rcases hr with e | ⟨o, ep, e, g⟩
 ·exact .inl e
 ·exact .inr ⟨o, ep, [], e, by rw [List.append_nil]; exact g⟩
theorem RowP.evs {h : Heap} {v : AV} {l : List α} (hr : RowP h v l) : Evs v := by
 rcases hr with ⟨rfl, -⟩ | ⟨o, ep, c, rfl, -⟩ <;> exact ⟨fun _ => rfl, rfl, rfl, rfl⟩
theorem RowP.keep {h h' : Heap} {v : AV} {l : List α} (hr : RowP h v l) (hk : ∀ o, rowOf v = some o → h'.get o = h.get o) : RowP h' v l := by
 rcases hr with e | ⟨o, ep, c, e, g⟩
 ·exact .inl e
 ·exact .inr ⟨o, ep, c, e, by rw [hk o (by rw [e]; rfl)]; exact g⟩
theorem over_mid (a : List AV) {c v : List AV} (hv : v.length ≤ c.length) : over (a ++ c) a.length v = some (a ++ (v ++ c.drop v.length)) := by
 rw [over_raw _ _ _ (by rw [List.length_append]; omega), List.take_left, ← List.drop_drop, List.drop_left]
theorem app_rowP {s : St} {o' e bytes : Nat} {v y : AV} {l new : List α} (hr : RowP s.h v l) (hy : Adds s.h y new) (he : Enc.sz α = e) (hz : 0 < Enc.sz α) (hb : (l.length + new.length) * bytes ≤ two47) :
  ∃ v' h', appA s o' e bytes v y = some (v', { s with h := h' }) ∧ RowP h' v' (l ++ new) ∧ h'.next = s.h.next ∧ (rowOf v' = rowOf v ∨ rowOf v' = some o') ∧ ∀ q, q ≠ o' → rowOf v ≠ some q → h'.get q = s.h.get q := by
 subst he
 obtain ⟨h1, h2⟩ := hy
 unfold appA
 rw [h1]
 simp only [Option.bind_some, h2]
 by_cases hn : new.length = 0
 ·have hnew : new = [] := List.length_eq_zero_iff.1 hn
  subst hnew
  simp only [List.length_nil, nbeq, decide_true, cond_true]
  have hs : isSl v = true := by rcases hr with ⟨rfl, -⟩ | ⟨o, ep, c, rfl, -⟩ <;> rfl
  rw [hs]
  exact ⟨v, s.h, rfl, by simpa using hr, rfl, Or.inl rfl, fun q _ _ => rfl⟩
 ·simp only [nbeq, hn, decide_false, cond_false]
  rcases hr with ⟨rfl, rfl⟩ | ⟨o, ep, c, rfl, hg⟩
  ·simp only [List.length_nil, Nat.zero_add] at hb
   simp only [nble, hb, decide_true, cond_true, newRowA, List.nil_append]
   refine ⟨_, _, rfl, Or.inr ⟨o', 0, [], rfl, by rw [get_put_same, List.append_nil]⟩, rfl, Or.inr rfl, fun q hq _ => get_put_ne _ _ _ _ hq⟩
  ·simp only [hg, nbeq, nble, hb, decide_true, Bool.and_self, cond_true, cond_false, Nat.zero_add]
   have hfl : (l.flatMap Enc.cells).length = l.length * Enc.sz α := flatMap_len l
   have hfn : (new.flatMap Enc.cells).length = new.length * Enc.sz α := flatMap_len new
   by_cases hc : (l.length + new.length) * Enc.sz α ≤ (l.flatMap Enc.cells ++ c).length
   ·have hov := over_mid (l.flatMap Enc.cells) (c := c) (v := new.flatMap Enc.cells) (by rw [List.length_append, hfl, Nat.add_mul] at hc; omega)
    rw [hfl] at hov
    simp only [hc, decide_true, cond_true, hov, Option.bind_some]
    refine ⟨_, _, rfl, Or.inr ⟨o, ep, c.drop (new.flatMap Enc.cells).length, by simp, ?_⟩, rfl, Or.inl rfl, fun q _ hq => get_put_ne _ _ _ _ (fun e => hq (by simp [rowOf, e]))⟩
    rw [get_put_same, List.flatMap_append, List.append_assoc]
   ·have hsub : takeN (l.length * Enc.sz α) (l.flatMap Enc.cells ++ c) = some (l.flatMap Enc.cells) := by
     rw [← hfl]; exact takeN_app _ _
    simp only [hc, decide_false, cond_false, Nat.zero_mul, sub_eq, dropN_zero, Option.bind_some, hsub]
    refine ⟨_, _, rfl, Or.inr ⟨o, ep + 1, [], by simp, ?_⟩, rfl, Or.inl rfl, fun q _ hq => get_put_ne _ _ _ _ (fun e => hq (by simp [rowOf, e]))⟩
    rw [get_put_same, List.flatMap_append, List.append_nil]
theorem step_appP {base : Nat} {K : St → Prop} {fr : Fr} {st : Nat} {h : Heap} {o' e bytes : Nat} {v y : AV} {l new : List α} {d : Option Nat} {r : List AOper} (hr : RowP h v l) (hy : Adds h y new) (he : Enc.sz α = e) (hz : 0 < Enc.sz α) (hb : (l.length + new.length) * bytes ≤ two47)
  (H : ∀ v' h', RowP h' v' (l ++ new) → h'.next = h.next → (rowOf v' = rowOf v ∨ rowOf v' = some o') → (∀ q, q ≠ o' → rowOf v ≠ some q → h'.get q = h.get q) → WO P base r { fr := setD fr d v', st := st, h := h' } K) :
  stepS P base (appA { fr := fr, st := st, h := h } o' e bytes v y) d r K := by
 obtain ⟨v', h', e1, e2, e3, e4, e5⟩ := app_rowP (s := { fr := fr, st := st, h := h }) (o' := o') hr hy he hz hb
 rw [e1]
 exact H v' h' e2 e3 e4 e5
end
theorem RowP.back {α : Type} [EncP α] {h : Heap} {v : AV} {l : List α} {N : Nat} (hr : RowP h v l) (ho : ∀ o, rowOf v = some o → N ≤ o) (n : Nat) : ∃ nl, frz h N (n + 1) v = slv nl false l := by
 rcases hr with ⟨rfl, rfl⟩ | ⟨o, ep, c, rfl, hg⟩
 ·exact ⟨true, rfl⟩
 ·refine ⟨false, ?_⟩
  have h1 : ¬ o < N := by have := ho o rfl; omega
  have h2 : (0 + l.length) * Enc.sz α ≤ (l.flatMap Enc.cells ++ c).length := by rw [List.length_append, flatMap_len]; simp
  simp only [frz, nblt, h1, decide_false, cond_false, hg, nbeq, nble, h2, decide_true, Bool.and_self, cond_true, slv, Bool.false_and]
  congr 1
  funext i
  by_cases hi : i < l.length
  ·simp only [hi, decide_true, cond_true, Nat.zero_add]
   have e : ((l.flatMap Enc.cells ++ c).drop (i * Enc.sz α)).take (Enc.sz α) = Enc.cells l[i] := by
    have h3 : l.flatMap Enc.cells ++ c = (l.take i).flatMap Enc.cells ++ (Enc.cells l[i] ++ ((l.drop (i + 1)).flatMap Enc.cells ++ c)) := by
     rw [← List.append_assoc (Enc.cells l[i]), ← List.flatMap_cons, ← List.append_assoc, ← List.flatMap_append]
     congr 2
     rw [← List.drop_eq_getElem_cons hi, List.take_append_drop]
    have h4 : ((l.take i).flatMap Enc.cells).length = i * Enc.sz α := by rw [flatMap_len, List.length_take, Nat.min_eq_left (by omega)]
    rw [h3, ← h4, List.drop_left, ← Enc.len l[i], List.take_left]
   rw [e]
   simp only [cellsAtL, List.getElem?_eq_getElem hi]
   have hp : ∀ c ∈ Enc.cells l[i], frz h N n c = c := fun c hm => (EncP.pur l[i] c hm).1 h N n
   calc (Enc.cells l[i]).map (fun x => frz h N n x) = (Enc.cells l[i]).map (fun x => x) := List.map_congr_left hp
    _ = Enc.cells l[i] := List.map_id' _
  ·simp only [hi, decide_false, cond_false, cellsAtL, List.getElem?_eq_none (Nat.le_of_not_lt hi)]
structure Nest (h0 : Heap) (m : Nat) (h : Heap) (v : AV) (vs : List AV) (ls : List (List Int)) : Prop where
 row : RowV h v vs
 len : vs.length = ls.length
 el : ∀ i, i < ls.length → RowP h (vs.getD i .nils) (ls.getD i [])
 own : ∀ o, rowOf v = some o → h0.next ≤ o ∧ o < m
 own2 : ∀ i o, i < ls.length → rowOf (vs.getD i .nils) = some o → h0.next ≤ o ∧ o < m ∧ rowOf v ≠ some o
 apart : ∀ i j o, i < ls.length → j < ls.length → i ≠ j → rowOf (vs.getD i .nils) = some o → rowOf (vs.getD j .nils) ≠ some o
 le : h0.next ≤ m ∧ m ≤ h.next
 keep : ∀ o, o < h0.next → h.get o = h0.get o
section
variable {h0 h : Heap} {m : Nat} {v : AV} {vs : List AV} {ls : List (List Int)}
theorem Nest.nil (h0 : Heap) : Nest h0 h0.next h0 .nils [] [] := ⟨.inl ⟨rfl, rfl⟩, rfl, fun i h => by simp at h, fun o h => by simp [rowOf] at h, fun i o h => by simp at h, fun i j o h => by simp at h, ⟨Nat.le_refl _, Nat.le_refl _⟩, fun _ _ => rfl⟩
theorem Nest.evs (H : Nest h0 m h v vs ls) : Evs v := (RowV.p H.row).evs
theorem Nest.grow (H : Nest h0 m h v vs ls) {h' : Heap} (h1 : m ≤ h'.next) (h2 : ∀ o, o < m → h'.get o = h.get o) : Nest h0 m h' v vs ls :=
 ⟨by
  rcases H.row with e | ⟨o, ep, e, g⟩
  ·exact .inl e
  ·exact .inr ⟨o, ep, e, by rw [h2 o (H.own o (by rw [e]; rfl)).2]; exact g⟩, H.len, fun i hi => (H.el i hi).keep (fun o ho => h2 o (H.own2 i o hi ho).2.1), H.own, H.own2, H.apart, ⟨H.le.1, h1⟩, fun o ho => by rw [h2 o (by have := H.le; omega), H.keep o ho]⟩
theorem Nest.add (H : Nest h0 m h v vs ls) {x : AV} {l : List Int} {o' : Nat} {v' : AV} {h' : Heap} (hx : RowP h x l) (ho : ∀ o, rowOf x = some o → m ≤ o ∧ o < h.next ∧ o ≠ o') (hm : m ≤ o' ∧ o' < h.next)
  (q1 : RowV h' v' (vs ++ [x])) (q2 : h'.next = h.next) (q3 : rowOf v' = rowOf v ∨ rowOf v' = some o') (q4 : ∀ q, q ≠ o' → rowOf v ≠ some q → h'.get q = h.get q) : Nest h0 h.next h' v' (vs ++ [x]) (ls ++ [l]) := by
 have hg : ∀ i, i < ls.length → (vs ++ [x]).getD i .nils = vs.getD i .nils ∧ (ls ++ [l]).getD i [] = ls.getD i [] := fun i hi => by
  simp only [List.getD_eq_getElem?_getD, List.getElem?_append, hi, H.len, if_true, and_self]
 have hl : (vs ++ [x]).getD ls.length .nils = x ∧ (ls ++ [l]).getD ls.length [] = l := by
  simp only [List.getD_eq_getElem?_getD, ← H.len, List.getElem?_concat_length, Option.getD_some, true_and]
  rw [H.len, List.getElem?_concat_length, Option.getD_some]
 have hlt := H.le
 have hv : ∀ o, rowOf v = some o → m ≤ o → False := fun o e h1 => by have := H.own o e; omega
 have hnv : ∀ o, h0.next ≤ o → o < m → rowOf v ≠ some o → rowOf v' ≠ some o := fun o h1 h2 h3 e => by
  rcases q3 with e2 | e2
  ·rw [e2] at e; exact h3 e
  ·rw [e2] at e; have := Option.some.inj e; omega
 have hall : ∀ i, i < (ls ++ [l]).length → i < ls.length ∨ i = ls.length := fun i hi => by rw [List.length_append] at hi; simp only [List.length_cons, List.length_nil] at hi; omega
 refine ⟨q1, by rw [List.length_append, List.length_append, H.len]; rfl, fun i hi => ?_, fun o e => ?_, fun i o hi e => ?_, fun i j o hi hj hij e e2 => ?_, ⟨by omega, by omega⟩, fun o ho' => ?_⟩
 ·rcases hall i hi with h1 | rfl
  ·rw [(hg i h1).1, (hg i h1).2]
   refine (H.el i h1).keep (fun o e => q4 o ?_ ?_)
   ·have := H.own2 i o h1 e; omega
   ·exact (H.own2 i o h1 e).2.2
  ·rw [hl.1, hl.2]
   refine hx.keep (fun o e => q4 o (ho o e).2.2 (fun e2 => hv o e2 (ho o e).1))
 ·rcases q3 with e2 | e2 <;> rw [e] at e2
  ·have := H.own o e2.symm; omega
  ·have := Option.some.inj e2; omega
 ·rcases hall i hi with h1 | rfl
  ·rw [(hg i h1).1] at e
   have := H.own2 i o h1 e
   exact ⟨this.1, by omega, hnv o this.1 this.2.1 this.2.2⟩
  ·rw [hl.1] at e
   have := ho o e
   refine ⟨by omega, by omega, fun e2 => ?_⟩
   rcases q3 with e3 | e3 <;> rw [e2] at e3
   ·exact hv o e3.symm this.1
   ·exact this.2.2 (Option.some.inj e3)
 ·rcases hall i hi with h1 | rfl <;> rcases hall j hj with h2 | rfl
  ·rw [(hg i h1).1] at e; rw [(hg j h2).1] at e2; exact H.apart i j o h1 h2 hij e e2
  ·rw [(hg i h1).1] at e; rw [hl.1] at e2
   have := H.own2 i o h1 e; have := ho o e2; omega
  ·rw [(hg j h2).1] at e2; rw [hl.1] at e
   have := H.own2 j o h2 e2; have := ho o e; omega
  ·exact hij rfl
 ·rw [q4 o (by omega) (fun e => by have := H.own o e; omega), H.keep o ho']
structure NestW (base : Nat) (h : Heap) (v : AV) (vs : List AV) (ls : List (List Int)) : Prop where
 row : RowV h v vs
 len : vs.length = ls.length
 el : ∀ i, i < ls.length → RowP h (vs.getD i .nils) (ls.getD i [])
 own : ∀ o, rowOf v = some o → base ≤ o
 own2 : ∀ i o, i < ls.length → rowOf (vs.getD i .nils) = some o → base ≤ o
theorem Nest.w (H : Nest h0 m h v vs ls) : NestW h0.next h v vs ls := ⟨H.row, H.len, H.el, fun o e => (H.own o e).1, fun i o hi e => (H.own2 i o hi e).1⟩
theorem NestW.back {base : Nat} (H : NestW base h v vs ls) (n : Nat) : ∃ nl, ∃ cs : List SlI, frz h base (n + 2) v = slv nl false cs ∧ cs.map (·.l) = ls := by
 have hcs : ∀ i, i < ls.length → ∃ nl, frz h base (n + 1) (vs.getD i .nils) = slv nl false (ls.getD i []) := fun i hi => (H.el i hi).back (fun o e => H.own2 i o hi e) n
 have hex : ∀ k, k ≤ ls.length → ∃ cs : List SlI, cs.map (·.l) = ls.take k ∧ ∀ i, i < k → frz h base (n + 1) (vs.getD i .nils) = slv (cs.getD i default).nl false (cs.getD i default).l := fun k => by
  induction k with
  | zero => intro _; exact ⟨[], by simp, fun i hi => by omega⟩
  | succ k ih =>
   intro hk
   obtain ⟨cs, c1, c2⟩ := ih (by omega)
   obtain ⟨nl, e⟩ := hcs k (by omega)
   have hlen : cs.length = k := by have := congrArg List.length c1; rw [List.length_map, List.length_take] at this; omega
   refine ⟨cs ++ [⟨nl, ls.getD k []⟩], ?_, fun i hi => ?_⟩
   ·rw [List.map_append, c1, List.take_succ_eq_append_getElem (by omega), List.getD_eq_getElem?_getD, List.getElem?_eq_getElem (by omega)]; rfl
   ·by_cases h1 : i = k
    ·subst h1
     rw [e]
     simp only [List.getD_eq_getElem?_getD, ← hlen, List.getElem?_concat_length, Option.getD_some]
    ·have h2 : i < k := by omega
     rw [c2 i h2]
     simp only [List.getD_eq_getElem?_getD, List.getElem?_append, hlen, h2, if_true]
 obtain ⟨cs, c1, c2⟩ := hex ls.length (Nat.le_refl _)
 clear hex hcs
 show ∃ nl, ∃ cs : List SlI, frz h base ((n + 1) + 1) v = _ ∧ _
 generalize n + 1 = m' at c2 ⊢
 rw [List.take_length] at c1
 have hlen : cs.length = ls.length := by have := congrArg List.length c1; rwa [List.length_map] at this
 rcases H.row with ⟨rfl, e⟩ | ⟨o, ep, rfl, hg⟩
 ·have hl : ls.length = 0 := by rw [← H.len, e]; rfl
  have : cs = [] := List.length_eq_zero_iff.1 (by omega)
  subst this
  exact ⟨true, [], rfl, c1⟩
 ·refine ⟨false, cs, ?_, c1⟩
  have h1 : ¬ o < base := by have := H.own o rfl; omega
  rw [flat_AV] at hg
  have h2 : (0 + cs.length) * 1 ≤ cs.length := by omega
  have h3 : vs.length = cs.length := by rw [H.len, hlen]
  simp only [frz, nblt, h1, decide_false, cond_false, sz_AV, hg, nbeq, nble, h2, decide_true, Bool.and_self, cond_true, slv, Bool.false_and, sz_SlI, h3]
  congr 1
  funext i
  by_cases hi : i < cs.length
  ·simp only [hi, decide_true, cond_true, Nat.zero_add, Nat.mul_one]
   have hv : i < vs.length := by omega
   rw [cellsAtL_in hi, List.drop_eq_getElem_cons hv, List.take_succ_cons, List.take_zero]
   have := c2 i (by omega)
   rw [List.getD_eq_getElem?_getD, List.getElem?_eq_getElem hv, Option.getD_some] at this
   rw [List.map_cons, this]; rfl
  ·simp only [hi, decide_false, cond_false, cellsAtL, List.getElem?_eq_none (Nat.le_of_not_lt hi)]
theorem Nest.back (H : Nest h0 m h v vs ls) (n : Nat) : ∃ nl, ∃ cs : List SlI, frz h h0.next (n + 2) v = slv nl false cs ∧ cs.map (·.l) = ls := H.w.back n
end
end Go.Am.Ef
/- The functions that each calls (effect.Calls). -/
namespace Go.Am.Ef
open Go.Am
variable {P : Prog}
set_option maxRecDepth 20000
set_option maxHeartbeats 1000000
theorem sort_fun (hP : EfP P) {h1 h : Heap} {v : AV} {L : List Int} (H : Bld h1 h v L) (hl : L.length ≤ 1000000) : Fun P 32 [v] h (fun u h' => u = .tup [] ∧ Bld h1 h' v (sortBy (fun x => x) L) ∧ h'.next = h.next) := by
 rcases H.row with ⟨rfl, rfl⟩ | ⟨o, ep, rfl, g⟩
 ·exact Fun.prim hP.n32 (by rw [hP.pure]; rfl) (hP.sort _ _ (.tup [], h) rfl) ⟨rfl, H, rfl⟩
 ·have g' := g
  rw [flat_int] at g
  have b1 : Nat.beq ep ep = true := by rw [nbeq]; exact decide_eq_true rfl
  have b2 : Nat.ble (0 + L.length) (L.map (fun n => AV.int .i64 n)).length = true := by rw [nble]; exact decide_eq_true (by simp)
  have b3 : Nat.ble L.length 1000000 = true := by rw [nble]; exact decide_eq_true hl
  have b4 : ((L.map (fun n => AV.int .i64 n)).drop 0).take L.length = L.map (fun n => AV.int .i64 n) := by
   rw [List.drop_zero, List.take_of_length_le (by simp)]
  have b5 : (L.map (fun n => AV.int .i64 n)).drop (0 + L.length) = [] := List.drop_eq_nil_of_le (by simp)
  refine Fun.prim hP.n32 (by rw [hP.pure]; rfl) (hP.sort _ _ (.tup [], h.put o (.row 1 ep ((sortBy (fun x => x) L).map (fun n => AV.int .i64 n)))) ?_) ⟨rfl, ⟨.inr ⟨o, ep, ?_, by rw [get_put_same, flat_int]; rfl⟩, H.own, H.le, fun q hq => ?_⟩, rfl⟩
  ·show sortInt [.hs 1 o ep 0 L.length false] h = _
   simp only [sortInt, sz_Int, g, b1, b2, b3, Bool.and_self, cond_true, b4, intsA_map, Option.bind_some, List.take_zero, List.nil_append, b5, List.append_nil]
  ·rw [(sortBy_perm _ L).length_eq]
  ·rw [get_put_ne _ _ _ _ (fun e => by have := (H.own o rfl).1; omega)]; exact H.keep q hq
def callsR (f : FuncV) : List Int := ((deedsF f).filter (fun d => decide (0 ≤ d.fn))).map (·.fn)
def callsF (f : FuncV) : List Int := uq (sortBy (fun x => x) (callsR f)) (sortBy (fun x => x) (callsR f)).length
def fnsOf (l : List Deed) : List Int := (l.filter (fun d => decide (0 ≤ d.fn))).map (·.fn)
theorem fnsOf_take {l : List Deed} {k : Nat} (hk : k < l.length) : fnsOf (l.take (k + 1)) = fnsOf (l.take k) ++ (if 0 ≤ (l.getD k default).fn then [(l.getD k default).fn] else []) := by
 rw [List.take_succ_eq_append_getElem hk, List.getD_eq_getElem?_getD, List.getElem?_eq_getElem hk, Option.getD_some]
 unfold fnsOf
 rw [List.filter_append, List.map_append]
 congr 1
 by_cases h : 0 ≤ l[k].fn
 ·rw [if_pos h, List.filter_cons_of_pos (by simpa using h)]; rfl
 ·rw [if_neg h, List.filter_cons_of_neg (by simpa using h)]; rfl
theorem fnsOf_len (l : List Deed) : (fnsOf l).length ≤ l.length := by unfold fnsOf; rw [List.length_map]; exact List.length_filter_le _ _
theorem calls_den (hP : EfP P) (p : ProgV) (hw : ProgWf p) (hn : p.fns.length ≤ 100000) (hd : ∀ f ∈ p.fns, (deedsF f).length ≤ 100000) :
  Den P 10 [p.av] (fun v => (mayP p = false ∧ v = .tup [.nils, .int .i64 1]) ∨ (mayP p = true ∧ ∃ nl, ∃ cs : List SlI, v = .tup [slv nl false cs, .int .i64 0] ∧ cs.map (·.l) = p.fns.map callsF)) := by
 refine Den.of (code := a10c) (hP.code rfl) (fun N => ?_)
 unfold ProgV.av
 simp (disch := omega) only [go_sem, a10c, a10r0]
 simp (disch := omega) only [go_sem, a10r1]
 refine WO.den (k := 0) (vs := [p.av]) (by rw [hP.pure]; rfl) (by simp (disch := omega) only [go_sem]; rfl) (tmay_den hP p hw) (fun v hv => by subst hv; rfl) (fun v hv => ?_)
 subst hv
 simp (disch := omega) only [go_sem]
 cases hm : mayP p with
 | false =>
  simp (disch := omega) only [go_sem, a10r2]
  exact .inl trivial
 | true =>
 simp (disch := omega) only [go_sem, a10r3]
 simp (disch := omega) only [go_sem, a10r4]
 refine Wp_loop (fun x : Nat × Nat × AV × Heap => x.2.1 ≤ p.fns.length ∧ ∃ m vs, Nest { next := N, m := .leaf } m x.2.2.2 x.2.2.1 vs ((p.fns.take x.2.1).map callsF)) (fun (t, k, v, h) => { fr := [(4, v), (14, slv p.fn false p.fns), (15, .int .i64 p.fns.length), (16, .int .i64 k)], st := t, h := h }) (fun x => p.fns.length - x.2.1) (1, 0, .nils, { next := N, m := .leaf }) rfl ⟨by simp, _, _, Nest.nil _⟩ ?_
 rintro ⟨t, k, v, h⟩ ⟨h1, m, vs, hN⟩
 simp only at h1 hN
 have hE := hN.evs
 simp (disch := omega) only [go_sem, a10l1, a10r5, hE.ev]
 refine condS_if (fun c1 => ?_) (fun c1 => ?_)
 ·have hk : k < p.fns.length := by omega
  have hf := hw.fns.2 _ (slv_get hk)
  have hdf := hd _ (slv_get hk)
  simp (disch := omega) only [go_sem, a10r6, hE.ev]
  simp (disch := omega) only [go_sem, a10r7, hE.ev]
  simp (disch := omega) only [go_sem, a10r8, hE.ev]
  refine WO.den (k := 0) (vs := [.agg (Enc.cells (p.fns.getD k default))]) (by rw [hP.pure]; rfl) (by simp (disch := omega) only [go_sem]) (deeds31_den hP _ hf hdf) (fun v hv => by obtain ⟨nl, rfl⟩ := hv; exact alone1_slv _ _ _) (fun v hv => ?_)
  obtain ⟨nlD, rfl⟩ := hv
  simp (disch := omega) only [go_sem, hE.ev]
  have hcF : callsF (p.fns.getD k default) = uq (sortBy (fun x => x) (fnsOf (deedsF (p.fns.getD k default)))) (sortBy (fun x => x) (fnsOf (deedsF (p.fns.getD k default)))).length := rfl
  generalize hD : deedsF (p.fns.getD k default) = D at hdf hcF ⊢
  refine Wp_loop (fun x : Nat × Nat × AV × Heap => x.2.1 ≤ D.length ∧ Bld h x.2.2.2 x.2.2.1 (fnsOf (D.take x.2.1))) (fun (t, j, w, g) => { fr := [(4, v), (7, w), (14, slv p.fn false p.fns), (15, .int .i64 p.fns.length), (16, .int .i64 k), (21, slv nlD false D), (22, .int .i64 D.length), (23, .int .i64 j)], st := t, h := g }) (fun x => D.length - x.2.1) (t + 1, 0, .nils, h) rfl ⟨by simp, by simp only [List.take_zero]; exact Bld.nil h⟩ ?_
  rintro ⟨t2, j, w, g⟩ ⟨j1, hB⟩
  simp only at j1 hB
  have hF := hB.evs
  simp (disch := omega) only [go_sem, a10l0, a10r9, hE.ev, hF.ev]
  refine condS_if (fun c2 => ?_) (fun c2 => ?_)
  ·have hj : j < D.length := by omega
   have hnext := fnsOf_take hj
   have hle := fnsOf_len (D.take j)
   rw [List.length_take] at hle
   simp (disch := omega) only [go_sem, a10r10, hE.ev, hF.ev]
   simp (disch := omega) only [go_sem, a10r11, hE.ev, hF.ev]
   refine condS_if (fun c3 => ?_) (fun c3 => ?_)
   ·rw [if_pos (by omega)] at hnext
    simp (disch := omega) only [go_sem, a10r12, hE.ev, hF.ev, hF.dat]
    refine stepBld (k := 1) (α := Int) hB (by omega) (adds_one (α := Int) _ (D.getD j default).fn _ true rfl) rfl (by simp only [List.length_cons, List.length_nil, two47]; omega) (fun w' g' hB' hn hF' => ?_)
    simp (disch := omega) only [go_sem, hE.ev, hF'.ev, a10r13]
    exact ⟨(t2 + 1, j + 1, w', g'), ⟨by simp only; omega, by simp only; rw [hnext]; exact hB'⟩, by simp only; omega, by push_cast; rfl⟩
   ·rw [if_neg (by omega), List.append_nil] at hnext
    simp (disch := omega) only [go_sem, hE.ev, hF.ev, a10r13]
    exact ⟨(t2 + 1, j + 1, w, g), ⟨by simp only; omega, by simp only; rw [hnext]; exact hB⟩, by simp only; omega, by push_cast; rfl⟩
  ·rw [List.take_of_length_le (by omega)] at hB
   have hle := fnsOf_len D
   simp (disch := omega) only [go_sem, a10r14, hE.ev, hF.ev]
   refine WO.fun (vs := [w]) (by simp (disch := omega) only [go_sem, hF.ev, hF.dat]) (sort_fun hP hB (by omega)) (fun u g1 hu => ?_)
   obtain ⟨eu, hB1, hn1⟩ := hu
   rw [eu]
   simp (disch := omega) only [go_sem, hE.ev, hF.ev]
   simp (disch := omega) only [go_sem, a10r15, hE.ev, hF.ev, hE.dat]
   have hls : (sortBy (fun x => x) (fnsOf D)).length ≤ 1000000 := by rw [(sortBy_perm _ _).length_eq]; omega
   have hB2 := hB1.res 1
   refine WO.fun (vs := [w]) (by simp (disch := omega) only [go_sem, hF.ev, hF.dat]) (compact_fun hP _ hls w _ hB2.row) (fun v1 h2 hv => ?_)
   obtain ⟨r1, r2, r3, r4⟩ := hv
   have hE1 := r1.evs
   rw [reserve_next] at r3
   rw [← hcF] at r1
   have hle1 := hB1.le
   have hmn := hN.le
   have hN2 : Nest { next := N, m := .leaf } m h2 v vs ((p.fns.take k).map callsF) := hN.grow (by omega) (fun o ho => by
    rw [r4 o (fun e => by have := (hB1.own o e).1; omega)]
    exact hB1.keep o (by omega))
   simp (disch := omega) only [go_sem, hE.ev, hE1.ev, hE1.dat, hE1.cel]
   refine step_app (α := AV) hN2.row (adds_one (α := AV) _ v1 _ true rfl) rfl (by rw [hN2.len]; simp only [List.length_map, List.length_take, List.length_cons, List.length_nil, two47]; omega) (fun v2 h3 q1 q2 q3 q4 => ?_)
   have hNf := hN2.add (o' := g1.next) r1 (fun o e => by rw [r2] at e; have := hB1.own o e; omega) (by omega) q1 q2 q3 q4
   have hE2 := hNf.evs
   simp (disch := omega) only [go_sem, hE2.ev]
   simp (disch := omega) only [go_sem, hE2.ev, a10r16]
   have hst : (p.fns.take (k + 1)).map callsF = (p.fns.take k).map callsF ++ [callsF (p.fns.getD k default)] := by
    rw [List.take_succ_eq_append_getElem hk, List.map_append, List.getD_eq_getElem?_getD, List.getElem?_eq_getElem hk]; rfl
   rw [← hst] at hNf
   exact ⟨(_, k + 1, v2, h3), ⟨by simp only; omega, _, _, hNf⟩, by simp only; omega, by push_cast; rfl⟩
 ·simp (disch := omega) only [go_sem, a10r17, hE.ev, hE.dat]
  have e : k = p.fns.length := by omega
  subst e
  rw [List.take_length] at hN
  obtain ⟨nl, cs, e1, e2⟩ := hN.back 37
  refine .inr ⟨trivial, nl, cs, ?_, e2⟩
  rw [e1]
end Go.Am.Ef
/- The grouper on the machine: a function is begun with. -/
namespace Go.Am.Ef
open Go.Am
variable {P : Prog}
set_option maxRecDepth 20000
set_option maxHeartbeats 1000000
def intsT (N : Nat) (f : Nat → Nat) : List AV := (List.range N).map (fun i => .int .i64 (f i : Nat))
def boolsT (N : Nat) (f : Nat → Bool) : List AV := (List.range N).map (fun i => .bool (f i))
section
variable {N i : Nat}
theorem len_intsT (f : Nat → Nat) : (intsT N f).length = N := by simp [intsT]
theorem len_boolsT (f : Nat → Bool) : (boolsT N f).length = N := by simp [boolsT]
theorem intsT_get {f : Nat → Nat} (h : i < N) : (intsT N f)[i]? = some (.int .i64 (f i : Nat)) := by
 simp only [intsT, List.getElem?_map, List.getElem?_range h, Option.map_some]
theorem boolsT_get {f : Nat → Bool} (h : i < N) : (boolsT N f)[i]? = some (.bool (f i)) := by
 simp only [boolsT, List.getElem?_map, List.getElem?_range h, Option.map_some]
theorem intsT_set {f : Nat → Nat} {v : Nat} : (intsT N f).set i (.int .i64 (v : Nat)) = intsT N (upd f i v) := by
 refine List.ext_getElem (by simp [intsT]) (fun j h1 h2 => ?_)
 simp only [intsT, List.getElem_map, List.getElem_range, List.getElem_set, upd]
 by_cases e : i = j
 ·subst e; simp
 ·rw [if_neg e, if_neg (Ne.symm e)]
theorem boolsT_set {f : Nat → Bool} {v : Bool} : (boolsT N f).set i (.bool v) = boolsT N (upd f i v) := by
 refine List.ext_getElem (by simp [boolsT]) (fun j h1 h2 => ?_)
 simp only [boolsT, List.getElem_map, List.getElem_range, List.getElem_set, upd]
 by_cases e : i = j
 ·subst e; simp
 ·rw [if_neg e, if_neg (Ne.symm e)]
theorem ldI {f : Nat → Nat} (h : i < N) : ((dropN i (intsT N f)).bind fun r => takeN 1 r) = some [.int .i64 (f i : Nat)] := sub1 (intsT_get h)
theorem ldB {f : Nat → Bool} (h : i < N) : ((dropN i (boolsT N f)).bind fun r => takeN 1 r) = some [.bool (f i)] := sub1 (boolsT_get h)
theorem ovI {f : Nat → Nat} {v : Nat} (h : i < N) : over (intsT N f) i [.int .i64 (v : Nat)] = some (intsT N (upd f i v)) := by
 rw [over1 (by rw [len_intsT]; exact h), intsT_set]
theorem ovB {f : Nat → Bool} {v : Bool} (h : i < N) : over (boolsT N f) i [.bool v] = some (boolsT N (upd f i v)) := by
 rw [over1 (by rw [len_boolsT]; exact h), boolsT_set]
end
structure GP where
 q : Nat
 ro : Nat
 rl : Nat
 rn : Nat
 rf : Nat
 ncs : Bool
 cs : List SlI
 N : Nat
def GP.objs (G : GP) : List Nat := [G.q, G.ro, G.rl, G.rn, G.rf]
structure GP.Ok (G : GP) : Prop where
 qo : G.q ≠ G.ro
 ql : G.q ≠ G.rl
 qn : G.q ≠ G.rn
 qf : G.q ≠ G.rf
 ol : G.ro ≠ G.rl
 on : G.ro ≠ G.rn
 of : G.ro ≠ G.rf
 ln : G.rl ≠ G.rn
 lf : G.rl ≠ G.rf
 nf : G.rn ≠ G.rf
def GC (G : GP) (vst : AV) (s : TS) : AObj := .cells [slv G.ncs false G.cs, .hs 1 G.ro 0 0 G.N false, .hs 1 G.rl 0 0 G.N false, .hs 1 G.rn 0 0 G.N false, vst, .hs 1 G.rf 0 0 G.N false, .int .i64 (s.n : Nat), .int .i64 (s.seen : Nat)]
def stI (s : TS) : List Int := s.stack.reverse.map (fun x => ((x : Nat) : Int))
structure GAt (G : GP) (h : Heap) (vst : AV) (s : TS) : Prop where
 g : h.get G.q = some (GC G vst s)
 o : h.get G.ro = some (.row 1 0 (intsT G.N s.order))
 l : h.get G.rl = some (.row 1 0 (intsT G.N s.low))
 n : h.get G.rn = some (.row 1 0 (boolsT G.N s.on))
 f : h.get G.rf = some (.row 1 0 (intsT G.N s.of))
 st : RowP h vst (stI s)
 apart : ∀ o, rowOf vst = some o → o ∉ G.objs ∧ o < h.next
 lt : ∀ o ∈ G.objs, o < h.next
structure Kept (G : GP) (h : Heap) (vst : AV) (h' : Heap) (vst' : AV) : Prop where
 next : h.next ≤ h'.next
 row : rowOf vst' = rowOf vst ∨ ∃ o, rowOf vst' = some o ∧ h.next ≤ o
 keep : ∀ o, o < h.next → o ∉ G.objs → rowOf vst ≠ some o → h'.get o = h.get o
theorem Kept.refl (G : GP) (h : Heap) (vst : AV) : Kept G h vst h vst := ⟨Nat.le_refl _, .inl rfl, fun _ _ _ _ => rfl⟩
theorem Kept.trans {G : GP} {h h' h'' : Heap} {v v' v'' : AV} (a : Kept G h v h' v') (b : Kept G h' v' h'' v'') : Kept G h v h'' v'' := by
 refine ⟨Nat.le_trans a.next b.next, ?_, fun o h1 h2 h3 => ?_⟩
 ·rcases b.row with e | ⟨o, e, h1⟩
  ·rcases a.row with e2 | ⟨o, e2, h1⟩
   ·exact .inl (e.trans e2)
   ·exact .inr ⟨o, e.trans e2, h1⟩
  ·exact .inr ⟨o, e, Nat.le_trans a.next h1⟩
 ·rw [b.keep o (Nat.lt_of_lt_of_le h1 a.next) h2 (fun e => ?_), a.keep o h1 h2 h3]
  rcases a.row with e2 | ⟨p, e2, h4⟩ <;> rw [e2] at e
  ·exact h3 e
  ·have := Option.some.inj e; omega
theorem Kept.bump {G : GP} {h : Heap} {v : AV} {k : Nat} : Kept G h v (h.reserve k) v := ⟨by rw [reserve_next]; omega, .inl rfl, fun _ _ _ _ => rfl⟩
section
variable {G : GP} {h : Heap} {vst : AV} {s : TS}
theorem GAt.evs (H : GAt G h vst s) : Evs vst := H.st.evs
theorem mem_objs (G : GP) : G.q ∈ G.objs ∧ G.ro ∈ G.objs ∧ G.rl ∈ G.objs ∧ G.rn ∈ G.objs ∧ G.rf ∈ G.objs := by simp [GP.objs]
theorem kept_put {o : Nat} {x : AObj} (ho : o ∈ G.objs) : Kept G h vst (h.put o x) vst := ⟨Nat.le_refl _, .inl rfl, fun i _ h2 _ => get_put_ne _ _ _ _ (fun e => h2 (e ▸ ho))⟩
theorem GAt.setq (ok : G.Ok) (H : GAt G h vst s) {s' : TS} (h1 : s'.order = s.order) (h2 : s'.low = s.low) (h3 : s'.on = s.on) (h4 : s'.of = s.of) (h5 : s'.stack = s.stack) : GAt G (h.put G.q (GC G vst s')) vst s' := by
 obtain ⟨m1, m2, m3, m4, m5⟩ := mem_objs G
 refine ⟨get_put_same _ _ _, ?_, ?_, ?_, ?_, ?_, H.apart, H.lt⟩
 ·rw [get_put_ne _ _ _ _ ok.qo.symm, h1]; exact H.o
 ·rw [get_put_ne _ _ _ _ ok.ql.symm, h2]; exact H.l
 ·rw [get_put_ne _ _ _ _ ok.qn.symm, h3]; exact H.n
 ·rw [get_put_ne _ _ _ _ ok.qf.symm, h4]; exact H.f
 ·rw [show stI s' = stI s by unfold stI; rw [h5]]
  exact H.st.keep (fun o e => get_put_ne _ _ _ _ (fun e2 => (H.apart o e).1 (e2 ▸ m1)))
theorem GAt.seto (ok : G.Ok) (H : GAt G h vst s) {f : Nat → Nat} : GAt G (h.put G.ro (.row 1 0 (intsT G.N f))) vst { s with order := f } := by
 obtain ⟨m1, m2, m3, m4, m5⟩ := mem_objs G
 refine ⟨?_, get_put_same _ _ _, ?_, ?_, ?_, H.st.keep (fun o e => get_put_ne _ _ _ _ (fun e2 => (H.apart o e).1 (e2 ▸ m2))), H.apart, H.lt⟩
 ·rw [get_put_ne _ _ _ _ ok.qo]; exact H.g
 ·rw [get_put_ne _ _ _ _ ok.ol.symm]; exact H.l
 ·rw [get_put_ne _ _ _ _ ok.on.symm]; exact H.n
 ·rw [get_put_ne _ _ _ _ ok.of.symm]; exact H.f
theorem GAt.setl (ok : G.Ok) (H : GAt G h vst s) {f : Nat → Nat} : GAt G (h.put G.rl (.row 1 0 (intsT G.N f))) vst { s with low := f } := by
 obtain ⟨m1, m2, m3, m4, m5⟩ := mem_objs G
 refine ⟨?_, ?_, get_put_same _ _ _, ?_, ?_, H.st.keep (fun o e => get_put_ne _ _ _ _ (fun e2 => (H.apart o e).1 (e2 ▸ m3))), H.apart, H.lt⟩
 ·rw [get_put_ne _ _ _ _ ok.ql]; exact H.g
 ·rw [get_put_ne _ _ _ _ ok.ol]; exact H.o
 ·rw [get_put_ne _ _ _ _ ok.ln.symm]; exact H.n
 ·rw [get_put_ne _ _ _ _ ok.lf.symm]; exact H.f
theorem GAt.setn (ok : G.Ok) (H : GAt G h vst s) {f : Nat → Bool} : GAt G (h.put G.rn (.row 1 0 (boolsT G.N f))) vst { s with on := f } := by
 obtain ⟨m1, m2, m3, m4, m5⟩ := mem_objs G
 refine ⟨?_, ?_, ?_, get_put_same _ _ _, ?_, H.st.keep (fun o e => get_put_ne _ _ _ _ (fun e2 => (H.apart o e).1 (e2 ▸ m4))), H.apart, H.lt⟩
 ·rw [get_put_ne _ _ _ _ ok.qn]; exact H.g
 ·rw [get_put_ne _ _ _ _ ok.on]; exact H.o
 ·rw [get_put_ne _ _ _ _ ok.ln]; exact H.l
 ·rw [get_put_ne _ _ _ _ ok.nf.symm]; exact H.f
theorem GAt.setf (ok : G.Ok) (H : GAt G h vst s) {f : Nat → Nat} : GAt G (h.put G.rf (.row 1 0 (intsT G.N f))) vst { s with of := f } := by
 obtain ⟨m1, m2, m3, m4, m5⟩ := mem_objs G
 refine ⟨?_, ?_, ?_, ?_, get_put_same _ _ _, H.st.keep (fun o e => get_put_ne _ _ _ _ (fun e2 => (H.apart o e).1 (e2 ▸ m5))), H.apart, H.lt⟩
 ·rw [get_put_ne _ _ _ _ ok.qf]; exact H.g
 ·rw [get_put_ne _ _ _ _ ok.of]; exact H.o
 ·rw [get_put_ne _ _ _ _ ok.lf]; exact H.l
 ·rw [get_put_ne _ _ _ _ ok.nf]; exact H.n
theorem GAt.res (H : GAt G h vst s) (k : Nat) : GAt G (h.reserve k) vst s := ⟨H.g, H.o, H.l, H.n, H.f, H.st.keep (fun _ _ => rfl), fun o e => ⟨(H.apart o e).1, by have := (H.apart o e).2; rw [reserve_next]; omega⟩, fun o e => by have := H.lt o e; rw [reserve_next]; omega⟩
end
theorem GAt.push {G : GP} {h : Heap} {vst : AV} {s : TS} (ok : G.Ok) (H : GAt G h vst s) {x : Nat} {h' : Heap} {v' : AV} (q1 : RowP h' v' (stI s ++ [((x : Nat) : Int)])) (q2 : h'.next = h.next + 1) (q3 : rowOf v' = rowOf vst ∨ rowOf v' = some h.next) (q4 : ∀ q, q ≠ h.next → rowOf vst ≠ some q → h'.get q = h.get q) :
  GAt G (h'.put G.q (GC G v' { s with stack := x :: s.stack })) v' { s with stack := x :: s.stack } ∧ Kept G h vst (h'.put G.q (GC G v' { s with stack := x :: s.stack })) v' := by
 obtain ⟨m1, m2, m3, m4, m5⟩ := mem_objs G
 have hk : ∀ o ∈ G.objs, h'.get o = h.get o := fun o ho => q4 o (by have := H.lt o ho; omega) (fun e => (H.apart o e).1 ho)
 have hrow : ∀ o, rowOf v' = some o → o ∉ G.objs ∧ o < h'.next := fun o e => by
  rcases q3 with e2 | e2 <;> rw [e2] at e
  ·exact ⟨(H.apart o e).1, by have := (H.apart o e).2; omega⟩
  ·obtain rfl := Option.some.inj e
   exact ⟨fun hm => by have := H.lt _ hm; omega, by omega⟩
 refine ⟨⟨get_put_same _ _ _, ?_, ?_, ?_, ?_, ?_, hrow, fun o ho => ?_⟩, ⟨?_, ?_, fun o h1 h2 h3 => ?_⟩⟩
 ·rw [get_put_ne _ _ _ _ ok.qo.symm, hk _ m2]; exact H.o
 ·rw [get_put_ne _ _ _ _ ok.ql.symm, hk _ m3]; exact H.l
 ·rw [get_put_ne _ _ _ _ ok.qn.symm, hk _ m4]; exact H.n
 ·rw [get_put_ne _ _ _ _ ok.qf.symm, hk _ m5]; exact H.f
 ·have : stI { s with stack := x :: s.stack } = stI s ++ [((x : Nat) : Int)] := by simp [stI]
  rw [this]
  exact q1.keep (fun o e => get_put_ne _ _ _ _ (fun e2 => (hrow o e).1 (e2 ▸ m1)))
 ·have := H.lt o ho
  show o < h'.next
  omega
 ·show h.next ≤ h'.next
  omega
 ·rcases q3 with e | e
  ·exact .inl e
  ·exact .inr ⟨_, e, Nat.le_refl _⟩
 ·rw [get_put_ne _ _ _ _ (fun e => h2 (by rw [e]; exact m1)), q4 o (by omega) h3]
theorem open_fun (hP : EfP P) {G : GP} (ok : G.Ok) {h : Heap} {vst : AV} {s : TS} (H : GAt G h vst s) {x : Nat} (hx : x < G.N) (hs : s.seen < 1000000) (hl : s.stack.length < 1000000) :
  Fun P 59 [.ptr G.q 0, .int .i64 (x : Nat)] h (fun v h' => v = .agg [.int .i64 (x : Nat), .int .i64 0] ∧ ∃ vst', GAt G h' vst' (openT s x) ∧ Kept G h vst h' vst') := by
 refine Fun.of (code := a59c) (hP.code rfl) (by rw [hP.pure]; rfl) ?_
 obtain ⟨m1, m2, m3, m4, m5⟩ := mem_objs G
 have hE := H.evs
 have g1 := H.g
 unfold GC at g1
 simp (disch := omega) only [go_sem, a59c, a59r0]
 simp (disch := omega) only [go_sem, a59r1, g1, hE.ev]
 have es : ((s.seen : Int) + 1) = ((s.seen + 1 : Nat) : Int) := by push_cast; rfl
 rw [es]
 have H1 := H.setq (s' := { s with seen := s.seen + 1 }) ok rfl rfl rfl rfl rfl
 have k1 := kept_put (h := h) (vst := vst) (x := GC G vst { s with seen := s.seen + 1 }) m1
 unfold GC at H1 k1
 generalize h.put G.q _ = h1 at H1 k1 ⊢
 have a1 := H1.g
 unfold GC at a1
 have x1 := ovI (f := s.order) (v := s.seen + 1) hx
 have x2 := ovI (f := s.low) (v := s.seen + 1) hx
 simp (disch := omega) only [go_sem, a59d2, a1, hE.ev, Nat.mul_one]
 refine WD_store (o := G.ro) (ep := 0) (k := x) (val := .int .i64 ((s.seen + 1 : Nat) : Int)) (by simp (disch := omega) only [go_sem]) (by simp (disch := omega) only [go_sem]) rfl H1.o x1 rfl ?_
 have H2 := H1.seto (f := upd s.order x (s.seen + 1)) ok
 have k2 := k1.trans (kept_put (x := .row 1 0 (intsT G.N (upd s.order x (s.seen + 1)))) m2)
 generalize h1.put G.ro _ = h2 at H2 k2 ⊢
 simp (disch := omega) only [go_sem, Nat.mul_one]
 refine WD_store (o := G.rl) (ep := 0) (k := x) (val := .int .i64 ((s.seen + 1 : Nat) : Int)) (by simp (disch := omega) only [go_sem]) (by simp (disch := omega) only [go_sem]) rfl H2.l x2 rfl ?_
 have H3 := H2.setl (f := upd s.low x (s.seen + 1)) ok
 have k3 := k2.trans (kept_put (x := .row 1 0 (intsT G.N (upd s.low x (s.seen + 1)))) m3)
 generalize h2.put G.rl _ = h3 at H3 k3 ⊢
 have a3 := H3.g
 unfold GC at a3
 have x3 := ovB (f := s.on) (v := true) hx
 simp (disch := omega) only [go_sem, a59r3, a3, H3.n, hE.ev, Nat.mul_one, x3]
 have H4 := H3.setn (f := upd s.on x true) ok
 have k4 := k3.trans (kept_put (x := .row 1 0 (boolsT G.N (upd s.on x true))) m4)
 have n4 : (h3.put G.rn (.row 1 0 (boolsT G.N (upd s.on x true)))).next = h3.next := rfl
 generalize h3.put G.rn _ = h4 at H4 k4 n4 ⊢
 have H5 := H4.res 1
 have a5 := H5.g
 unfold GC at a5
 simp (disch := omega) only [go_sem, a59r4, a5, hE.ev, hE.dat]
 refine step_appP (α := Int) H5.st (adds_one (α := Int) _ ((x : Nat) : Int) _ true rfl) rfl (by decide) (by simp only [stI, List.length_map, List.length_reverse, List.length_cons, List.length_nil, two47]; omega) (fun v' h' q1 q2 q3 q4 => ?_)
 have hE' := q1.evs
 have m1' : h'.get G.q = some (.cells _) := (q4 G.q (by have := H4.lt _ m1; omega) (fun e => (H4.apart _ e).1 m1)).trans a5
 simp (disch := omega) only [go_sem, m1', hE'.ev, hE'.dat, hE'.cel]
 have H6 := H4.push (x := x) ok q1 (by rw [q2, reserve_next]) (by rw [n4]; exact q3) (by rw [n4]; exact q4)
 have k6 := k4.trans H6.2
 have H6 := H6.1
 unfold GC at H6 k6
 simp (disch := omega) only [go_sem, a59r5]
 exact ⟨rfl, v', H6, k6⟩
end Go.Am.Ef
/- The grouper on the machine: a function is ended. -/
namespace Go.Am.Ef
open Go.Am
variable {P : Prog}
set_option maxRecDepth 20000
set_option maxHeartbeats 1000000
theorem GAt.pop {G : GP} {h : Heap} {vst : AV} {s : TS} (ok : G.Ok) (H : GAt G h vst s) {y : Nat} {r : List Nat} (hs : s.stack = y :: r) :
  ∃ o ep c, vst = .hs 1 o ep 0 (r.length + 1) false ∧ h.get o = some (.row 1 ep c) ∧ c[r.length]? = some (.int .i64 (y : Nat)) ∧
   GAt G (h.put G.q (GC G (.hs 1 o ep 0 r.length false) { s with stack := r })) (.hs 1 o ep 0 r.length false) { s with stack := r } ∧ Kept G h vst (h.put G.q (GC G (.hs 1 o ep 0 r.length false) { s with stack := r })) (.hs 1 o ep 0 r.length false) := by
 obtain ⟨m1, m2, m3, m4, m5⟩ := mem_objs G
 have hl : stI s = r.reverse.map (fun x => ((x : Nat) : Int)) ++ [((y : Nat) : Int)] := by simp [stI, hs]
 have hst := H.st
 rw [hl] at hst
 rcases hst with ⟨-, e⟩ | ⟨o, ep, c, e, g⟩
 ·simp at e
 ·have e' : vst = .hs 1 o ep 0 (r.length + 1) false := by rw [e]; simp [sz_Int]
  rw [List.flatMap_append, flat_int] at g
  have g' : h.get o = some (.row 1 ep ((r.reverse.map (fun x => ((x : Nat) : Int))).map (fun n => AV.int .i64 n) ++ (AV.int .i64 (y : Nat) :: c))) := by rw [g]; simp [cells_Int, sz_Int]
  have hap := H.apart o (by rw [e']; rfl)
  refine ⟨o, ep, _, e', g', ?_, ⟨get_put_same _ _ _, ?_, ?_, ?_, ?_, ?_, fun o2 e2 => ?_, H.lt⟩, ⟨Nat.le_refl _, .inl (by rw [e']; rfl), fun i h1 h2 h3 => get_put_ne _ _ _ _ (fun e2 => h2 (by rw [e2]; exact m1))⟩⟩
  ·rw [List.getElem?_append_right (by simp)]; simp
  ·rw [get_put_ne _ _ _ _ ok.qo.symm]; exact H.o
  ·rw [get_put_ne _ _ _ _ ok.ql.symm]; exact H.l
  ·rw [get_put_ne _ _ _ _ ok.qn.symm]; exact H.n
  ·rw [get_put_ne _ _ _ _ ok.qf.symm]; exact H.f
  ·refine .inr ⟨o, ep, AV.int .i64 (y : Nat) :: c, by simp [stI, sz_Int], ?_⟩
   rw [get_put_ne _ _ _ _ (fun e2 => hap.1 (by rw [e2]; exact m1)), flat_int]
   exact g'
  ·simp only [rowOf, Option.some.injEq] at e2
   subst e2; exact hap
theorem popT_succ {s : TS} {k y : Nat} {r : List Nat} (h : s.stack.drop k = y :: r) : popT s (k + 1) = { popT s k with stack := r, on := upd (popT s k).on y false, of := upd (popT s k).of y s.n } := by
 have hk : k < s.stack.length := by
  have := congrArg List.length h
  simp only [List.length_drop, List.length_cons] at this; omega
 have ht : s.stack.take (k + 1) = s.stack.take k ++ [y] := by
  rw [List.take_succ_eq_append_getElem hk]
  congr 1
  rw [List.drop_eq_getElem_cons hk] at h
  have := (List.cons.inj h).1
  rw [this]
 have hd : s.stack.drop (k + 1) = r := by
  rw [List.drop_eq_getElem_cons hk] at h
  exact (List.cons.inj h).2
 unfold popT
 simp only [hd, ht, TS.mk.injEq, true_and, and_true]
 refine ⟨?_, ?_⟩ <;> funext j <;> simp only [List.mem_append, List.mem_singleton, upd]
 ·by_cases h1 : j = y
  ·subst h1; simp
  ·simp [h1]
 ·by_cases h1 : j = y
  ·subst h1; simp
  ·simp [h1]
theorem shut_fun (hP : EfP P) {G : GP} (ok : G.Ok) {h : Heap} {vst : AV} {s : TS} (H : GAt G h vst s) {x : Nat} (hx : x < G.N) (hm : x ∈ s.stack) (hN : ∀ y ∈ s.stack, y < G.N) (hnd : s.stack.Nodup) (hn : s.n < 1000000) (hl : s.stack.length < 1000000) :
  Fun P 60 [.ptr G.q 0, .int .i64 (x : Nat)] h (fun v h' => v = .tup [] ∧ ∃ vst', GAt G h' vst' (shutT s x) ∧ Kept G h vst h' vst') := by
 refine Fun.of (code := a60c) (hP.code rfl) (by rw [hP.pure]; rfl) ?_
 obtain ⟨m1, m2, m3, m4, m5⟩ := mem_objs G
 have hE := H.evs
 have a1 := H.g
 unfold GC at a1
 have l1 := ldI (f := s.low) hx
 have l2 := ldI (f := s.order) hx
 simp (disch := omega) only [go_sem, a60c, a60d0, a1, hE.ev, H.l, H.o, Nat.mul_one, l1, l2]
 refine condS_if (fun c1 => ?_) (fun c1 => ?_)
 ·simp (disch := omega) only [go_sem]
  have : shutT s x = s := by rw [shutT, if_neg (by omega)]
  rw [this]
  exact ⟨trivial, vst, H, Kept.refl _ _ _⟩
 ·have hsh : shutT s x = { popT s (s.stack.idxOf x + 1) with n := s.n + 1 } := by rw [shutT, if_pos (by omega)]
  have hi := List.idxOf_lt_length_of_mem hm
  generalize hi0 : s.stack.idxOf x = i0 at hsh hi
  have hat : ∀ k, k ≤ i0 → ∃ y r, s.stack.drop k = y :: r ∧ y ∈ s.stack ∧ (y = x ↔ k = i0) := fun k hk => by
   have hk2 : k < s.stack.length := by omega
   refine ⟨_, _, List.drop_eq_getElem_cons hk2, List.getElem_mem _, fun e => ?_, fun e => ?_⟩
   ·have h2 := List.getElem_idxOf (show s.stack.idxOf x < s.stack.length by omega)
    simp only [hi0] at h2
    rcases Nat.lt_or_ge k i0 with q | q
    ·exact absurd (e.trans h2.symm) (List.pairwise_iff_getElem.1 hnd k i0 hk2 hi q)
    ·omega
   ·subst e
    have := List.getElem_idxOf (show s.stack.idxOf x < s.stack.length by omega)
    simp only [hi0] at this
    exact this
  simp (disch := omega) only [go_sem]
  refine Wp_loop (fun z : Nat × Nat × Fr × Heap => z.2.1 ≤ i0 ∧ ∃ v, GAt G z.2.2.2 v (popT s z.2.1) ∧ Kept G h vst z.2.2.2 v) (fun (t, k, tl, g) => { fr := (0, .ptr G.q 0) :: (1, .int .i64 (x : Nat)) :: tl, st := t, h := g }) (fun z => i0 - z.2.1) (1, 0, _, h) rfl ⟨Nat.zero_le _, vst, ?_, Kept.refl _ _ _⟩ ?_
  ·have : popT s 0 = s := by simp [popT]
   simp only [this]; exact H
  rintro ⟨t, k, tl, g⟩ ⟨hk, v, H0, k0⟩
  simp only at hk H0 k0
  obtain ⟨y, r, e1, e2, e3⟩ := hat k hk
  have hy := hN y e2
  obtain ⟨o, ep, c, rfl, g1, g2, H1, k1⟩ := H0.pop ok (y := y) (r := r) (show (popT s k).stack = _ from e1)
  have a0 := H0.g
  unfold GC at a0 H1 k1
  have er : (((r.length + 1 : Nat) : Int) - 1) = ((r.length : Nat) : Int) := by omega
  have hrl : r.length < 1000000 := by
   have := congrArg List.length e1
   simp only [List.length_drop, List.length_cons] at this; omega
  have lr : r.length < r.length + 1 := by omega
  have lr2 : r.length ≤ r.length + 1 := by omega
  have f1 := sub1 g2
  simp (disch := omega) only [go_sem, a60l0, a60d1, a0, g1, er, f1, lr, Nat.mul_one]
  simp (disch := omega) only [go_sem, a60d2, a0, er, lr, lr2, Nat.sub_zero]
  refine WD_storeP (o := G.q) (off := 4) (val := .hs 1 o ep 0 r.length false) (c' := [slv G.ncs false G.cs, .hs 1 G.ro 0 0 G.N false, .hs 1 G.rl 0 0 G.N false, .hs 1 G.rn 0 0 G.N false, .hs 1 o ep 0 r.length false, .hs 1 G.rf 0 0 G.N false, .int .i64 ((popT s k).n : Nat), .int .i64 ((popT s k).seen : Nat)]) (by simp (disch := omega) only [go_sem]) (by simp (disch := omega) only [go_sem]) rfl a0 rfl rfl ?_
  generalize g.put G.q _ = ga at H1 k1 ⊢
  have a2 := H1.g
  unfold GC at a2
  have x3 := ovB (f := (popT s k).on) (v := false) hy
  have x4 := ovI (f := (popT s k).of) (v := (popT s k).n) hy
  simp (disch := omega) only [go_sem]
  simp (disch := omega) only [go_sem, a60r3, a2, H1.n, Nat.mul_one, x3]
  have H2 := H1.setn (f := upd (popT s k).on y false) ok
  have k2 := k1.trans (kept_put (x := .row 1 0 (boolsT G.N (upd (popT s k).on y false))) m4)
  generalize ga.put G.rn _ = gb at H2 k2 ⊢
  have a3 := H2.g
  unfold GC at a3
  simp (disch := omega) only [go_sem, a60d4, a3, Nat.mul_one]
  refine WD_store (o := G.rf) (ep := 0) (k := y) (val := .int .i64 ((popT s k).n : Nat)) (by simp (disch := omega) only [go_sem]) (by simp (disch := omega) only [go_sem]) rfl H2.f x4 rfl ?_
  have H3 := H2.setf (f := upd (popT s k).of y (popT s k).n) ok
  have k3 := k2.trans (kept_put (x := .row 1 0 (intsT G.N (upd (popT s k).of y (popT s k).n))) m5)
  generalize gb.put G.rf _ = gc at H3 k3 ⊢
  have hp : popT s (k + 1) = { popT s k with stack := r, on := upd (popT s k).on y false, of := upd (popT s k).of y (popT s k).n } := popT_succ e1
  have H3' : GAt G gc (.hs 1 o ep 0 r.length false) (popT s (k + 1)) := by rw [hp]; exact H3
  have k3' := k0.trans k3
  simp (disch := omega) only [go_sem]
  simp (disch := omega) only [go_sem, a60r5]
  refine condS_if (fun c2 => ?_) (fun c2 => ?_)
  ·have hki : k = i0 := e3.1 (by omega)
   have a4 := H3'.g
   unfold GC at a4
   have hnn : (popT s (k + 1)).n = s.n := rfl
   have es : (((popT s (k + 1)).n : Nat) : Int) + 1 = ((s.n + 1 : Nat) : Int) := by rw [hnn]; push_cast; rfl
   have hb : (popT s (k + 1)).n < 1000000 := by rw [hnn]; exact hn
   simp (disch := omega) only [go_sem, a60r6, a4, es]
   have H4 := H3'.setq (s' := { popT s (k + 1) with n := s.n + 1 }) ok rfl rfl rfl rfl rfl
   have k4 := k3'.trans (kept_put (x := GC G (.hs 1 o ep 0 r.length false) { popT s (k + 1) with n := s.n + 1 }) m1)
   rw [hsh, ← hki]
   unfold GC at H4 k4
   exact ⟨trivial, _, H4, k4⟩
  ·have hki : k ≠ i0 := fun e => c2 (by rw [e3.2 e])
   simp (disch := omega) only [go_sem]
   exact ⟨(t + 1 + 1 + 1, k + 1, [(4, .int .i64 (y : Nat)), (64, .bool (decide (((y : Nat) : Int) = (x : Nat))))], gc), ⟨by simp only; omega, _, H3', k3'⟩, by simp only; omega, rfl⟩
end Go.Am.Ef

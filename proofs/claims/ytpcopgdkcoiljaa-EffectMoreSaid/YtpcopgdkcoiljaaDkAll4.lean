/- The grouper on the machine: it goes on from a function. -/
import Derived.Test.YtpcopgdkcoiljaaDkAll3
import Derived.Test.YtpcopgdkcoiljaaDkAll2
set_option linter.unusedSimpArgs false
set_option linter.unusedVariables false
namespace Go.Am.Ef
open Go.Am
variable {P : Prog}
set_option maxRecDepth 20000
set_option maxHeartbeats 1000000
instance encTwo : Enc (Nat × Nat) where
 sz := 2
 cells p := [.int .i64 (p.1 : Nat), .int .i64 (p.2 : Nat)]
 len _ := rfl
@[go_sem] theorem sz_Two : Enc.sz (Nat × Nat) = 2 := rfl
@[go_sem] theorem cells_Two (p : Nat × Nat) : Enc.cells p = [AV.int .i64 (p.1 : Nat), .int .i64 (p.2 : Nat)] := rfl
def belowC (r : List (Nat × Nat)) : List AV := r.reverse.flatMap Enc.cells
theorem len_below (r : List (Nat × Nat)) : (belowC r).length = r.length * 2 := by unfold belowC; rw [flatMap_len, List.length_reverse]; rfl
theorem todo_top {h : Heap} {vt : AV} {p : Nat × Nat} {r : List (Nat × Nat)} (H : RowP h vt (p :: r).reverse) : ∃ o ep c, vt = .hs 2 o ep 0 (r.length + 1) false ∧ h.get o = some (.row 2 ep (belowC r ++ (.int .i64 (p.1 : Nat) :: .int .i64 (p.2 : Nat) :: c))) := by
 rcases H with ⟨-, e⟩ | ⟨o, ep, c, e, g⟩
 ·simp at e
 ·refine ⟨o, ep, c, by rw [e]; simp [sz_Two], by rw [g]; simp [belowC, sz_Two, cells_Two]⟩
theorem todo_mk {h : Heap} {p : Nat × Nat} {r : List (Nat × Nat)} {o ep : Nat} {c : List AV} (g : h.get o = some (.row 2 ep (belowC r ++ (.int .i64 (p.1 : Nat) :: .int .i64 (p.2 : Nat) :: c)))) : RowP h (.hs 2 o ep 0 (r.length + 1) false) (p :: r).reverse :=
 .inr ⟨o, ep, c, by simp [sz_Two], by rw [g]; simp [belowC, sz_Two, cells_Two]⟩
theorem todo_pop {h : Heap} {p : Nat × Nat} {r : List (Nat × Nat)} {o ep : Nat} {c : List AV} (g : h.get o = some (.row 2 ep (belowC r ++ (.int .i64 (p.1 : Nat) :: .int .i64 (p.2 : Nat) :: c)))) : RowP h (.hs 2 o ep 0 r.length false) r.reverse :=
 .inr ⟨o, ep, _, by simp [sz_Two], g⟩
theorem below_get (r : List (Nat × Nat)) (x y : AV) (c : List AV) : (belowC r ++ (x :: y :: c))[r.length * 2]? = some x ∧ (belowC r ++ (x :: y :: c))[r.length * 2 + 1]? = some y := by
 constructor
 ·rw [List.getElem?_append_right (by rw [len_below]; omega), len_below, Nat.sub_self]; rfl
 ·rw [List.getElem?_append_right (by rw [len_below]; omega), len_below, show r.length * 2 + 1 - r.length * 2 = 1 by omega]; rfl
theorem below_set (r : List (Nat × Nat)) (x y z : AV) (c : List AV) : over (belowC r ++ (x :: y :: c)) (r.length * 2 + 1) [z] = some (belowC r ++ (x :: z :: c)) := by
 rw [over1 (by rw [List.length_append, len_below]; simp only [List.length_cons]; omega), List.set_append_right _ _ (by rw [len_below]; omega), len_below, show r.length * 2 + 1 - r.length * 2 = 1 by omega]
 rfl
structure FromI (c : Nat → List Nat) (G : GP) (h0 : Heap) (vst0 : AV) (s1 : TS) (h : Heap) (vt : AV) (gs : List En) (s : TS) (v : AV) : Prop where
 inv : Inv c G.N s gs
 grp : GAt G h v s
 todo : RowP h vt (gs.map En.two).reverse
 ap : ∀ o, rowOf vt = some o → h0.next ≤ o ∧ o < h.next ∧ o ∉ G.objs ∧ rowOf v ≠ some o
 kept : Kept G h0 vst0 h v
 mono : ∀ y, s1.order y ≠ 0 → s.order y ≠ 0
def mu (c : Nat → List Nat) (N : Nat) (s : TS) (gs : List En) : Nat := muW c N s + muT c (gs.map En.two)
section
variable {c : Nat → List Nat} {G : GP} {h0 h : Heap} {vst0 vt v : AV} {s1 s : TS} {gs : List En}
theorem FromI.todoRow (H : FromI c G h0 vst0 s1 h vt gs s v) {h' : Heap} {v' : AV} (k : Kept G h v h' v') : RowP h' vt (gs.map En.two).reverse ∧ ∀ o, rowOf vt = some o → h0.next ≤ o ∧ o < h'.next ∧ o ∉ G.objs ∧ rowOf v' ≠ some o := by
 refine ⟨H.todo.keep (fun o e => k.keep o (H.ap o e).2.1 (H.ap o e).2.2.1 (H.ap o e).2.2.2), fun o e => ?_⟩
 obtain ⟨a1, a2, a3, a4⟩ := H.ap o e
 refine ⟨a1, Nat.lt_of_lt_of_le a2 k.next, a3, fun e2 => ?_⟩
 rcases k.row with e3 | ⟨p, e3, h1⟩ <;> rw [e3] at e2
 ·exact a4 e2
 ·have := Option.some.inj e2; omega
theorem FromI.stackN (H : FromI c G h0 vst0 s1 h vt gs s v) : ∀ y ∈ s.stack, y < G.N := fun y hy => H.inv.inN y (H.inv.onSeen y hy)
theorem FromI.len (H : FromI c G h0 vst0 s1 h vt gs s v) : s.n + s.stack.length ≤ G.N ∧ s.seen ≤ G.N := ⟨Nat.le_trans H.inv.cntn H.inv.seenN, H.inv.seenN⟩
theorem seg_len : ∀ gs : List En, gs.length ≤ (gs.map En.seg).flatten.length
 | [] => Nat.le_refl _
 | e :: r => by
  have := seg_len r
  rw [List.map_cons, List.flatten_cons, List.length_append, En.seg, List.length_append]
  simp only [List.length_cons, List.length_nil]; omega
theorem FromI.gsN (H : FromI c G h0 vst0 s1 h vt gs s v) : gs.length ≤ G.N := by
 have h1 := seg_len gs
 rw [← H.inv.stk] at h1
 have := H.len; omega
end
theorem GAt.keepAll {G : GP} {h h' : Heap} {v : AV} {s : TS} (H : GAt G h v s) (h1 : ∀ o ∈ G.objs, h'.get o = h.get o) (h2 : ∀ o, rowOf v = some o → h'.get o = h.get o) (h3 : h.next ≤ h'.next) : GAt G h' v s := by
 obtain ⟨m1, m2, m3, m4, m5⟩ := mem_objs G
 exact ⟨(h1 _ m1).trans H.g, (h1 _ m2).trans H.o, (h1 _ m3).trans H.l, (h1 _ m4).trans H.n, (h1 _ m5).trans H.f, H.st.keep h2, fun o e => ⟨(H.apart o e).1, Nat.lt_of_lt_of_le (H.apart o e).2 h3⟩, fun o ho => Nat.lt_of_lt_of_le (H.lt o ho) h3⟩
theorem GAt.other {G : GP} {h : Heap} {v : AV} {s : TS} (H : GAt G h v s) {o : Nat} {x : AObj} (h1 : o ∉ G.objs) (h2 : rowOf v ≠ some o) : GAt G (h.put o x) v s :=
 H.keepAll (fun i hi => get_put_ne _ _ _ _ (fun e => h1 (e ▸ hi))) (fun i e => get_put_ne _ _ _ _ (fun e2 => h2 (e2 ▸ e))) (Nat.le_refl _)
theorem Kept.other {G : GP} {h0 h : Heap} {v0 v : AV} (k : Kept G h0 v0 h v) {o : Nat} {x : AObj} (ho : h0.next ≤ o) : Kept G h0 v0 (h.put o x) v :=
 ⟨k.next, k.row, fun i h1 h2 h3 => by rw [get_put_ne _ _ _ _ (by omega)]; exact k.keep i h1 h2 h3⟩
def a34t : ACode := (.seq (.reg 0 a34r5 [0, 4, 5, 6]) (.seq (.seq (.reg 0 a34r6 [0, 4, 5, 6, 67]) (.cond (.s 67) (.seq (.reg 1 a34r7 [0, 4, 6]) (.exit 1)) .skip)) (.seq (.reg 0 a34r8 [0, 4, 5, 6, 80]) (.cond (.s 80) (.dreg 0 a34d9 [0, 4, 5, 6]) .skip))))
theorem a34l0_eq : a34l0 = .seq (.seq (.dreg 0 a34d3 [0, 4, 5, 6, 36]) (.cond (.s 36) .skip (.exit 2))) (.block 3 (.seq (.dreg 0 a34d4 [0, 4, 5, 6]) a34t)) := rfl
structure FromC (c : Nat → List Nat) (G : GP) : Prop where
 ok : G.Ok
 len : G.cs.length = G.N
 big : G.N ≤ 100000
 lens : ∀ f, f < G.N → (c f).length ≤ 100000
 cs : ∀ f, f < G.N → (G.cs.getD f default).l = (c f).map (fun x => ((x : Nat) : Int))
 lt : ∀ f, f < G.N → ∀ x ∈ c f, x < G.N
theorem from_tail (hP : EfP P) {c : Nat → List Nat} {G : GP} (C : FromC c G) {h0 : Heap} {vst0 : AV} {s1 : TS} {h : Heap} {s : TS} {v : AV} {e : En} {r : List En} {ot ep : Nat} {rest : List AV} {t u : Nat} {K : AExit → St → Prop}
  (I : FromI c G h0 vst0 s1 h (.hs 2 ot ep 0 (r.length + 1) false) (e :: r) s v) (hi : e.i < (c e.f).length)
  (hg : h.get ot = some (.row 2 ep (belowC (r.map En.two) ++ (.int .i64 (e.f : Nat) :: .int .i64 (e.i : Nat) :: rest))))
  (hNew : ∀ t h' s' gs' v' vt' w, FromI c G h0 vst0 s1 h' vt' gs' s' v' → mu c G.N s' gs' < mu c G.N s (e :: r) → K (.exit 1) { fr := [(0, .ptr G.q 0), (4, vt'), (6, w)], st := t, h := h' })
  (hNext : ∀ t h' s' v' w tl, FromI c G h0 vst0 s1 h' (.hs 2 ot ep 0 (r.length + 1) false) (⟨e.f, e.i + 1, e.b⟩ :: r) s' v' → mu c G.N s' (⟨e.f, e.i + 1, e.b⟩ :: r) < mu c G.N s (e :: r) →
   h'.get ot = some (.row 2 ep (belowC (r.map En.two) ++ (.int .i64 (e.f : Nat) :: .int .i64 ((e.i + 1 : Nat)) :: rest))) →
   K .normal { fr := (0, .ptr G.q 0) :: (4, .hs 2 ot ep 0 (r.length + 1) false) :: (5, .eptr ot ep (r.length * 2)) :: (6, w) :: tl, st := t, h := h' }) :
  Wp P a34t { fr := [(0, .ptr G.q 0), (4, .hs 2 ot ep 0 (r.length + 1) false), (5, .eptr ot ep (r.length * 2)), (6, .int .i64 ((c e.f).getD e.i 0 : Nat))], st := t, h := h } K := by
 obtain ⟨m1, m2, m3, m4, m5⟩ := mem_objs G
 obtain ⟨ap1, ap2, ap3, ap4⟩ := I.ap ot rfl
 have hfs := I.inv.mem List.mem_cons_self e.f_mem
 have hfN := I.stackN _ hfs
 have hx := C.lt _ hfN _ (getD_mem hi)
 have hlf := C.lens _ hfN
 have hrl : (r.map En.two).length = r.length := List.length_map ..
 generalize hxx : (c e.f).getD e.i 0 = x at hx ⊢
 have bg := below_get (r.map En.two) (.int .i64 (e.f : Nat)) (.int .i64 (e.i : Nat)) rest
 have bs := below_set (r.map En.two) (.int .i64 (e.f : Nat)) (.int .i64 (e.i : Nat)) (.int .i64 ((e.i + 1 : Nat))) rest
 rw [hrl] at bg bs
 have f1 := sub1 bg.2
 have es : ((e.i : Int) + 1) = ((e.i + 1 : Nat) : Int) := by push_cast; rfl
 simp (disch := omega) only [go_sem, a34t, a34r5, hg, f1, es, bs]
 have gA := I.grp.other (x := .row 2 ep (belowC (r.map En.two) ++ (.int .i64 (e.f : Nat) :: .int .i64 ((e.i + 1 : Nat)) :: rest))) ap3 ap4
 have kA := I.kept.other (x := .row 2 ep (belowC (r.map En.two) ++ (.int .i64 (e.f : Nat) :: .int .i64 ((e.i + 1 : Nat)) :: rest))) ap1
 have tA : (h.put ot (.row 2 ep (belowC (r.map En.two) ++ (.int .i64 (e.f : Nat) :: .int .i64 ((e.i + 1 : Nat)) :: rest)))).get ot = some (.row 2 ep (belowC (r.map En.two) ++ (.int .i64 (e.f : Nat) :: .int .i64 ((e.i + 1 : Nat)) :: rest))) := get_put_same _ _ _
 have nA : (h.put ot (.row 2 ep (belowC (r.map En.two) ++ (.int .i64 (e.f : Nat) :: .int .i64 ((e.i + 1 : Nat)) :: rest)))).next = h.next := rfl
 generalize h.put ot _ = hA at gA kA tA nA ⊢
 have htodo : ∀ h', h'.get ot = hA.get ot → RowP h' (.hs 2 ot ep 0 (r.length + 1) false) ((⟨e.f, e.i + 1, e.b⟩ :: r : List En).map En.two).reverse := fun h' e2 => by
  have := todo_mk (h := h') (p := (e.f, e.i + 1)) (r := r.map En.two) (e2.trans tA)
  rw [hrl] at this
  exact this
 have hE := gA.evs
 have aA := gA.g
 unfold GC at aA
 have l1 := ldI (f := s.order) hx
 have hmuT : muT c ((⟨e.f, e.i + 1, e.b⟩ :: r : List En).map En.two) + 1 = muT c ((e :: r).map En.two) := by
  simp only [muT, List.map_cons, List.sum_cons, En.two]
  omega
 simp (disch := omega) only [go_sem, a34r6, aA, gA.o, hE.ev, Nat.mul_one, l1]
 refine condS_if (fun c1 => ?_) (fun c1 => ?_)
 ·have hx0 : s.order x = 0 := by omega
  have hlen := I.len
  have ho := gA.res 1
  simp (disch := omega) only [go_sem, a34r7]
  refine WO.fun (vs := [.ptr G.q 0, .int .i64 (x : Nat)]) (by simp (disch := omega) only [go_sem]) (open_fun hP C.ok ho hx (by have := C.big; omega) (by have := C.big; omega)) (fun uu h1 hu => ?_)
  obtain ⟨eu, v1, H1, k1⟩ := hu
  subst eu
  have hotr : ot < (hA.reserve 1).next := by rw [reserve_next, nA]; omega
  have tB : h1.get ot = hA.get ot := k1.keep ot hotr ap3 ap4
  have hv1 : rowOf v1 ≠ some ot := fun e2 => by
   rcases k1.row with e3 | ⟨p, e3, h3⟩ <;> rw [e3] at e2
   ·exact ap4 e2
   ·have := Option.some.inj e2; omega
  have hv2 : rowOf v1 ≠ some hA.next := fun e2 => by
   rcases k1.row with e3 | ⟨p, e3, h3⟩ <;> rw [e3] at e2
   ·have := (gA.apart _ e2).2; omega
   ·have := Option.some.inj e2; rw [reserve_next] at h3; omega
  have hRow := htodo h1 tB
  simp (disch := omega) only [go_sem]
  refine step_appP (α := Nat × Nat) hRow (adds_one (α := Nat × Nat) _ (x, 0) _ true rfl) rfl (by decide) (by
   have g1 := I.gsN; have g2 := C.big
   rw [List.length_reverse, List.length_map]
   simp only [List.length_cons, List.length_nil, two47] at g1 ⊢; omega) (fun v' h' q1 q2 q3 q4 => ?_)
  have hE' := q1.evs
  simp (disch := omega) only [go_sem, hE'.ev]
  have hnn : hA.next < h1.next := by have := k1.next; rw [reserve_next] at this; omega
  have hobj : ∀ o ∈ G.objs, h'.get o = h1.get o := fun o ho => q4 o (fun e2 => by have := gA.lt o ho; omega) (fun e2 => ap3 (by have := Option.some.inj e2; subst this; exact ho))
  refine hNew _ _ _ (⟨x, 0, []⟩ :: ⟨e.f, e.i + 1, e.b⟩ :: r) v1 v' _ ⟨by have := I.inv.new_step C.lt hi (by rw [hxx]; exact hx0); rw [hxx] at this; exact this, H1.keepAll hobj (fun o e2 => q4 o (fun e3 => hv2 (by rw [← e3]; exact e2)) (fun e3 => hv1 (by have := Option.some.inj e3; subst this; exact e2))) (Nat.le_of_eq q2.symm), by simpa [En.two] using q1, fun o e2 => ?_, ?_, fun y hy => ?_⟩ ?_
  ·rcases q3 with e3 | e3 <;> rw [e3] at e2
   ·obtain rfl := Option.some.inj e2
    exact ⟨ap1, by rw [q2]; omega, ap3, hv1⟩
   ·obtain rfl := Option.some.inj e2
    exact ⟨by have := I.kept.next; omega, by rw [q2]; exact hnn, fun hm => by have := gA.lt _ hm; omega, hv2⟩
  ·have kk := (kA.trans (Kept.bump (k := 1))).trans k1
   refine ⟨by rw [q2]; exact kk.next, kk.row, fun o o1 o2 o3 => ?_⟩
   rw [q4 o (fun e2 => by have := I.kept.next; omega) (fun e2 => by have := Option.some.inj e2; omega)]
   exact kk.keep o o1 o2 o3
  ·by_cases hyx : y = x
   ·subst hyx
    rw [show (openT s y).order y = s.seen + 1 from upd_same _ _ _]; omega
   ·rw [show (openT s x).order y = s.order y from upd_ne _ _ hyx]; exact I.mono y hy
  ·have h1 := muW_open (c := c) hx hx0
   unfold mu
   rw [List.map_cons]
   have h2 : muT c (En.two ⟨x, 0, []⟩ :: (⟨e.f, e.i + 1, e.b⟩ :: r : List En).map En.two) = (c x).length + 1 + muT c ((⟨e.f, e.i + 1, e.b⟩ :: r : List En).map En.two) := by simp [muT, En.two]
   rw [h2]
   omega
 ·have hx0 : s.order x ≠ 0 := by omega
  have l2 := ldB (f := s.on) hx
  simp (disch := omega) only [go_sem, a34r8, aA, gA.n, hE.ev, Nat.mul_one, l2]
  have hmu : mu c G.N s (⟨e.f, e.i + 1, e.b⟩ :: r) < mu c G.N s (e :: r) := by unfold mu; omega
  cases hb : s.on x with
  | false =>
   simp (disch := omega) only [go_sem]
   refine hNext _ hA s v _ _ ⟨by have := I.inv.off_step hi (by rw [hxx]; exact hx0) (by rw [hxx, hb]; simp); exact this, gA, htodo hA rfl, fun o e2 => by rw [nA]; exact I.ap o e2, kA, I.mono⟩ hmu tA
  | true =>
   have l3 := ldI (f := s.low) hfN
   have bgA := below_get (r.map En.two) (.int .i64 (e.f : Nat)) (.int .i64 ((e.i + 1 : Nat))) rest
   rw [hrl] at bgA
   have f2 := sub1 bgA.1
   simp (disch := omega) only [go_sem, a34d9, aA, gA.l, gA.o, tA, f2, hE.ev, Nat.mul_one, l1, l3, Nat.add_zero]
   have hmin : min ((s.low e.f : Nat) : Int) ((s.order x : Nat) : Int) = ((min (s.low e.f) (s.order x) : Nat) : Int) := by omega
   have x1 := ovI (f := s.low) (v := min (s.low e.f) (s.order x)) hfN
   refine WD_store (o := G.rl) (ep := 0) (k := e.f) (val := .int .i64 ((min (s.low e.f) (s.order x) : Nat))) (by simp (disch := omega) only [go_sem]) (by simp (disch := omega) only [go_sem, hmin]) rfl gA.l x1 rfl ?_
   have gB := gA.setl (f := upd s.low e.f (min (s.low e.f) (s.order x))) C.ok
   have kk := kept_put (G := G) (h := hA) (vst := v) (x := .row 1 0 (intsT G.N (upd s.low e.f (min (s.low e.f) (s.order x))))) m3
   have tB : (hA.put G.rl (.row 1 0 (intsT G.N (upd s.low e.f (min (s.low e.f) (s.order x)))))).get ot = hA.get ot := kk.keep ot (by omega) ap3 ap4
   have nB : (hA.put G.rl (.row 1 0 (intsT G.N (upd s.low e.f (min (s.low e.f) (s.order x)))))).next = hA.next := rfl
   generalize hA.put G.rl _ = hB at gB kk tB nB ⊢
   simp (disch := omega) only [go_sem]
   refine hNext _ hB (lowT s e.f (s.order x)) v _ _ ⟨by have := I.inv.on_step hi (by rw [hxx]; exact hx0) (by rw [hxx, hb]); rw [hxx] at this; exact this, gB, htodo hB tB, fun o e2 => by rw [nB, nA]; exact I.ap o e2, kA.trans kk, I.mono⟩ hmu (tB.trans tA)
def tl6 (tl : Fr) : Prop := fget tl 6 = none ∨ ∃ w tl', tl = (6, w) :: tl'
theorem from_inner (hP : EfP P) {c : Nat → List Nat} {G : GP} (C : FromC c G) {h0 : Heap} {vst0 : AV} {s1 : TS} {h : Heap} {s : TS} {v : AV} {e : En} {r : List En} {ot ep : Nat} {rest : List AV} {t u : Nat} {tl : Fr} {K : AExit → St → Prop} (htl : tl6 tl)
  (I : FromI c G h0 vst0 s1 h (.hs 2 ot ep 0 (r.length + 1) false) (e :: r) s v)
  (hg : h.get ot = some (.row 2 ep (belowC (r.map En.two) ++ (.int .i64 (e.f : Nat) :: .int .i64 (e.i : Nat) :: rest))))
  (hNew : ∀ t h' s' gs' v' vt' w, FromI c G h0 vst0 s1 h' vt' gs' s' v' → mu c G.N s' gs' < mu c G.N s (e :: r) → K (.exit 1) { fr := [(0, .ptr G.q 0), (4, vt'), (6, w)], st := t, h := h' })
  (hEnd : ∀ t h' s' v' i tl, tl6 tl → FromI c G h0 vst0 s1 h' (.hs 2 ot ep 0 (r.length + 1) false) (⟨e.f, i, e.b⟩ :: r) s' v' → i = (c e.f).length → mu c G.N s' (⟨e.f, i, e.b⟩ :: r) ≤ mu c G.N s (e :: r) →
   h'.get ot = some (.row 2 ep (belowC (r.map En.two) ++ (.int .i64 (e.f : Nat) :: .int .i64 (i : Nat) :: rest))) →
   K (.exit 2) { fr := (0, .ptr G.q 0) :: (4, .hs 2 ot ep 0 (r.length + 1) false) :: (5, .eptr ot ep (r.length * 2)) :: (tl ++ [(36, .bool false)]), st := t, h := h' }) :
  Wp P a34l0.loop { fr := (0, .ptr G.q 0) :: (4, .hs 2 ot ep 0 (r.length + 1) false) :: (5, .eptr ot ep (r.length * 2)) :: tl, st := t, h := h } K := by
 refine Wp_loop (fun z : Nat × Fr × Heap × TS × Nat × AV => tl6 z.2.1 ∧ FromI c G h0 vst0 s1 z.2.2.1 (.hs 2 ot ep 0 (r.length + 1) false) (⟨e.f, z.2.2.2.2.1, e.b⟩ :: r) z.2.2.2.1 z.2.2.2.2.2 ∧ z.2.2.1.get ot = some (.row 2 ep (belowC (r.map En.two) ++ (.int .i64 (e.f : Nat) :: .int .i64 (z.2.2.2.2.1 : Nat) :: rest))) ∧ mu c G.N z.2.2.2.1 (⟨e.f, z.2.2.2.2.1, e.b⟩ :: r) ≤ mu c G.N s (e :: r))
  (fun (t, tl, h, s, i, v) => { fr := (0, .ptr G.q 0) :: (4, .hs 2 ot ep 0 (r.length + 1) false) :: (5, .eptr ot ep (r.length * 2)) :: tl, st := t, h := h }) (fun z => mu c G.N z.2.2.2.1 (⟨e.f, z.2.2.2.2.1, e.b⟩ :: r)) (t, tl, h, s, e.i, v) rfl ⟨htl, I, hg, Nat.le_refl _⟩ ?_
 clear htl I hg
 rintro ⟨t, tl, h, s', i, v⟩ ⟨htl, I, hg, hmu⟩
 simp only at htl I hg hmu
 have hfs := I.inv.mem List.mem_cons_self (En.f_mem _)
 have hfN := I.stackN _ hfs
 simp only at hfN
 have hlf := C.lens _ hfN
 have hile := (I.inv.en _ List.mem_cons_self).le
 simp only at hile
 have hrl : (r.map En.two).length = r.length := List.length_map ..
 have bg := below_get (r.map En.two) (.int .i64 (e.f : Nat)) (.int .i64 (i : Nat)) rest
 rw [hrl] at bg
 have f1 := sub1 bg.1
 have f2 := sub1 bg.2
 have aA := I.grp.g
 unfold GC at aA
 have hcs := C.cs _ hfN
 have hcl := C.len
 have hfl : e.f < G.cs.length := by rw [hcl]; exact hfN
 have hll : (G.cs.getD e.f default).l.length = (c e.f).length := by rw [hcs, List.length_map]
 have hgd : ∀ j, j < (c e.f).length → (G.cs.getD e.f default).l.getD j default = (((c e.f).getD j 0 : Nat) : Int) := fun j hj => by
  rw [hcs, List.getD_eq_getElem?_getD, List.getElem?_map, List.getD_eq_getElem?_getD, List.getElem?_eq_getElem hj]; rfl
 rcases htl with e6 | ⟨w, tl', rfl⟩
 ·simp (disch := omega) only [go_sem, e6, a34l0_eq, a34d3, aA, hg, f1, f2, hfl, hll, Nat.add_zero]
  refine condS_if (fun c2 => ?_) (fun c2 => ?_)
  ·have hi : i < (c e.f).length := by omega
   have hgi := hgd i hi
   have hil : i < (G.cs.getD e.f default).l.length := by rw [hll]; exact hi
   simp (disch := omega) only [go_sem, a34d4, aA, hg, f1, f2, hfl, hll, hi, hgi, Nat.add_zero]
   refine from_tail hP C (t := t + 1 + 1) (u := u) I hi hg (fun t h2 s2 gs v2 vt w I2 m2 => hNew t h2 s2 gs v2 vt w I2 (by omega)) (fun t h2 s2 v2 w tl I2 m2 g2 => ?_)
   have m2' : mu c G.N s2 (⟨e.f, i + 1, e.b⟩ :: r) < mu c G.N s' (⟨e.f, i, e.b⟩ :: r) := m2
   exact ⟨(t, (6, w) :: tl, h2, s2, i + 1, v2), ⟨.inr ⟨w, tl, rfl⟩, I2, g2, by simp only; omega⟩, by simp only; omega, rfl⟩
  ·simp (disch := omega) only [go_sem, decide_eq_false c2]
   exact hEnd _ _ _ _ i [] (.inl rfl) I (by omega) hmu hg
 ·simp (disch := omega) only [go_sem, a34l0_eq, a34d3, aA, hg, f1, f2, hfl, hll, Nat.add_zero]
  refine condS_if (fun c2 => ?_) (fun c2 => ?_)
  ·have hi : i < (c e.f).length := by omega
   have hgi := hgd i hi
   have hil : i < (G.cs.getD e.f default).l.length := by rw [hll]; exact hi
   simp (disch := omega) only [go_sem, a34d4, aA, hg, f1, f2, hfl, hll, hi, hgi, Nat.add_zero]
   refine from_tail hP C (t := t + 1 + 1) (u := u) I hi hg (fun t h2 s2 gs v2 vt w I2 m2 => hNew t h2 s2 gs v2 vt w I2 (by omega)) (fun t h2 s2 v2 w tl I2 m2 g2 => ?_)
   have m2' : mu c G.N s2 (⟨e.f, i + 1, e.b⟩ :: r) < mu c G.N s' (⟨e.f, i, e.b⟩ :: r) := m2
   exact ⟨(t, (6, w) :: tl, h2, s2, i + 1, v2), ⟨.inr ⟨w, tl, rfl⟩, I2, g2, by simp only; omega⟩, by simp only; omega, rfl⟩
  ·simp (disch := omega) only [go_sem, decide_eq_false c2]
   exact hEnd _ _ _ _ i [(6, w)] (.inr ⟨_, _, rfl⟩) I (by omega) hmu hg
theorem fget_app : ∀ (tl r : Fr) (i : Nat), fget tl i = none → fget (tl ++ r) i = fget r i
 | [], _, _, _ => rfl
 | (j, v) :: tl, r, i, h => by
  simp only [fget] at h
  cases hb : Nat.beq i j with
  | true => rw [hb] at h; simp at h
  | false =>
   rw [hb, cond_false] at h
   show (bif Nat.beq i j then some v else fget (tl ++ r) i) = _
   rw [hb, cond_false]
   exact fget_app tl r i h
theorem tl6_app {tl r : Fr} (h : tl6 tl) (hr : fget r 6 = none) : tl6 (tl ++ r) := by
 rcases h with h | ⟨w, tl', rfl⟩
 ·exact .inl ((fget_app tl r 6 h).trans hr)
 ·exact .inr ⟨w, tl' ++ r, rfl⟩
def a34p : ACode := (.seq (.reg 0 a34r10 [0, 4, 6, 7]) (.seq (.reg 0 a34r11 [0, 4, 6, 7]) (.seq (.reg 0 a34r12 [0, 4, 6, 7]) (.seq (.reg 0 a34r13 [0, 4, 6, 7, 122]) (.cond (.s 122) (.seq (.reg 0 a34r14 [0, 4, 6, 7, 8]) (.dreg 0 a34d15 [0, 4, 6])) .skip)))))
theorem a34l1_eq : a34l1 = (.seq (.seq (.reg 0 a34r1 [0, 4, 6, 15]) (.cond (.s 15) .skip (.exit 0))) (.block 1 (.seq (.reg 0 a34r2 [0, 4, 5, 6]) (.seq (.block 2 (.loop a34l0)) a34p)))) := rfl
theorem from_after (hP : EfP P) {c : Nat → List Nat} {G : GP} (C : FromC c G) {h0 : Heap} {vst0 : AV} {s1 : TS} {h : Heap} {s : TS} {v : AV} {e : En} {r : List En} {ot ep : Nat} {rest : List AV} {t u : Nat} {tl : Fr} {K : AExit → St → Prop} (htl : tl6 tl)
  (I : FromI c G h0 vst0 s1 h (.hs 2 ot ep 0 (r.length + 1) false) (e :: r) s v) (hi : e.i = (c e.f).length)
  (hg : h.get ot = some (.row 2 ep (belowC (r.map En.two) ++ (.int .i64 (e.f : Nat) :: .int .i64 (e.i : Nat) :: rest))))
  (hDone : ∀ t h' s' vt' gs' v' tl, tl6 tl → FromI c G h0 vst0 s1 h' vt' gs' s' v' → mu c G.N s' gs' < mu c G.N s (e :: r) → K .normal { fr := (0, .ptr G.q 0) :: (4, vt') :: tl, st := t, h := h' }) :
  Wp P a34p { fr := (0, .ptr G.q 0) :: (4, .hs 2 ot ep 0 (r.length + 1) false) :: (5, .eptr ot ep (r.length * 2)) :: tl, st := t, h := h } K := by
 obtain ⟨m1, m2, m3, m4, m5⟩ := mem_objs G
 have hfs := I.inv.mem List.mem_cons_self e.f_mem
 have hfN := I.stackN _ hfs
 have hrl : (r.map En.two).length = r.length := List.length_map ..
 have bg := below_get (r.map En.two) (.int .i64 (e.f : Nat)) (.int .i64 (e.i : Nat)) rest
 rw [hrl] at bg
 have f1 := sub1 bg.1
 have hgN := I.gsN
 simp only [List.length_cons] at hgN
 have hbig := C.big
 have hln := I.len
 have hrb : r.length < 1000000 := by omega
 have er : (((r.length + 1 : Nat) : Int) - 1) = ((r.length : Nat) : Int) := by omega
 have lr : r.length < r.length + 1 := by omega
 have lr2 : r.length ≤ r.length + 1 := by omega
 have hsf := shut_fun hP C.ok I.grp hfN hfs I.stackN I.inv.nodup (by omega) (by omega)
 have hpop : RowP h (.hs 2 ot ep 0 r.length false) (r.map En.two).reverse := by
  have := todo_pop (p := e.two) hg
  rw [hrl] at this; exact this
 rcases htl with e6 | ⟨w, tl', rfl⟩
 ·simp (disch := omega) only [go_sem, e6, a34p, a34r10, hg, f1, Nat.add_zero]
  simp (disch := omega) only [go_sem, e6, a34r11, er, lr, lr2, Nat.sub_zero]
  simp (disch := omega) only [go_sem, e6, a34r12]
  refine WO.fun (vs := [.ptr G.q 0, .int .i64 (e.f : Nat)]) (by simp (disch := omega) only [go_sem]) hsf (fun uu h1 hu => ?_)
  obtain ⟨eu, v1, H1, k1⟩ := hu
  subst eu
  simp (disch := omega) only [go_sem, e6, ]
  have hrow1 : RowP h1 (.hs 2 ot ep 0 r.length false) (r.map En.two).reverse := hpop.keep (fun o e2 => k1.keep o (I.ap o e2).2.1 (I.ap o e2).2.2.1 (I.ap o e2).2.2.2)
  have hap1 := (I.todoRow k1).2
  have hkk := I.kept.trans k1
  obtain ⟨r', hr', hIc⟩ := I.inv.close hi
  have hmu : mu c G.N (closeT s e.f r) r' < mu c G.N s (e :: r) := by
   unfold mu
   rw [muW_same (close_order s e.f r), hr', List.map_cons]
   have : muT c (e.two :: r.map En.two) = (c e.f).length - e.i + 1 + muT c (r.map En.two) := by simp [muT, En.two]
   omega
  cases r with
  | nil =>
   simp (disch := omega) only [go_sem, e6, a34r13]
   obtain rfl : r' = [] := by simpa using hr'
   exact hDone _ h1 _ _ [] v1 _ (.inl rfl) ⟨hIc, H1, hrow1, fun o e2 => hap1 o e2, hkk, fun y hy => by rw [close_order]; exact I.mono y hy⟩ hmu
  | cons d r2 =>
   obtain ⟨o2, ep2, rest2, ev2, hg2⟩ := todo_top (p := d.two) (r := r2.map En.two) hrow1
   simp only [List.length_cons, List.length_map, AV.hs.injEq, true_and, and_true] at ev2
   obtain ⟨rfl, rfl⟩ := ev2
   have hd : d.f < G.N := I.stackN _ (I.inv.mem (List.mem_cons_of_mem _ List.mem_cons_self) d.f_mem)
   have hd2 : decide ((0 : Int) < ((r2.length + 1 : Nat) : Int)) = true := decide_eq_true (by omega)
   have er2 : (((r2.length + 1 : Nat) : Int) - 1) = ((r2.length : Nat) : Int) := by omega
   have lr3 : r2.length < r2.length + 1 := by omega
   have hrb2 : r2.length < 1000000 := by simp only [List.length_cons] at hrb; omega
   have bg2 := below_get (r2.map En.two) (.int .i64 (d.two.1 : Nat)) (.int .i64 (d.two.2 : Nat)) rest2
   rw [List.length_map] at bg2
   have f3 := sub1 bg2.1
   have a1 := H1.g
   unfold GC at a1
   have l1 := ldI (f := (shutT s e.f).low) hd
   have l2 := ldI (f := (shutT s e.f).low) hfN
   have hmin : min (((shutT s e.f).low d.f : Nat) : Int) (((shutT s e.f).low e.f : Nat) : Int) = ((min ((shutT s e.f).low d.f) ((shutT s e.f).low e.f) : Nat) : Int) := by omega
   have x1 := ovI (f := (shutT s e.f).low) (v := min ((shutT s e.f).low d.f) ((shutT s e.f).low e.f)) hd
   simp (disch := omega) only [go_sem, e6, a34r13]
   simp (disch := omega) only [go_sem, hd2]
   simp (disch := omega) only [go_sem, e6, a34r14, er2, lr3, hg2, f3, Nat.add_zero]
   simp (disch := omega) only [go_sem, e6, a34d15, a1, H1.l, Nat.mul_one, l1, l2, En.two]
   refine WD_store (o := G.rl) (ep := 0) (k := d.f) (val := .int .i64 ((min ((shutT s e.f).low d.f) ((shutT s e.f).low e.f) : Nat))) (by simp (disch := omega) only [go_sem]) (by simp (disch := omega) only [go_sem, hmin]) rfl H1.l x1 rfl ?_
   have gB := H1.setl (f := upd (shutT s e.f).low d.f (min ((shutT s e.f).low d.f) ((shutT s e.f).low e.f))) C.ok
   have kk := kept_put (G := G) (h := h1) (vst := v1) (x := .row 1 0 (intsT G.N (upd (shutT s e.f).low d.f (min ((shutT s e.f).low d.f) ((shutT s e.f).low e.f))))) m3
   have nB : (h1.put G.rl (.row 1 0 (intsT G.N (upd (shutT s e.f).low d.f (min ((shutT s e.f).low d.f) ((shutT s e.f).low e.f)))))).next = h1.next := rfl
   generalize h1.put G.rl _ = hB at gB kk nB ⊢
   have hrowB : RowP hB (.hs 2 ot ep 0 (r2.length + 1) false) (r'.map En.two).reverse := by
    rw [hr']
    exact hrow1.keep (fun o e2 => kk.keep o (hap1 o e2).2.1 (hap1 o e2).2.2.1 (hap1 o e2).2.2.2)
   simp (disch := omega) only [go_sem, e6, ]
   exact hDone _ hB _ _ r' v1 _ (.inl rfl) ⟨hIc, gB, hrowB, fun o e2 => by rw [nB]; exact hap1 o e2, hkk.trans kk, fun y hy => by rw [close_order]; exact I.mono y hy⟩ hmu
 ·simp (disch := omega) only [go_sem, a34p, a34r10, hg, f1, Nat.add_zero]
  simp (disch := omega) only [go_sem, a34r11, er, lr, lr2, Nat.sub_zero]
  simp (disch := omega) only [go_sem, a34r12]
  refine WO.fun (vs := [.ptr G.q 0, .int .i64 (e.f : Nat)]) (by simp (disch := omega) only [go_sem]) hsf (fun uu h1 hu => ?_)
  obtain ⟨eu, v1, H1, k1⟩ := hu
  subst eu
  simp (disch := omega) only [go_sem]
  have hrow1 : RowP h1 (.hs 2 ot ep 0 r.length false) (r.map En.two).reverse := hpop.keep (fun o e2 => k1.keep o (I.ap o e2).2.1 (I.ap o e2).2.2.1 (I.ap o e2).2.2.2)
  have hap1 := (I.todoRow k1).2
  have hkk := I.kept.trans k1
  obtain ⟨r', hr', hIc⟩ := I.inv.close hi
  have hmu : mu c G.N (closeT s e.f r) r' < mu c G.N s (e :: r) := by
   unfold mu
   rw [muW_same (close_order s e.f r), hr', List.map_cons]
   have : muT c (e.two :: r.map En.two) = (c e.f).length - e.i + 1 + muT c (r.map En.two) := by simp [muT, En.two]
   omega
  cases r with
  | nil =>
   simp (disch := omega) only [go_sem, a34r13]
   obtain rfl : r' = [] := by simpa using hr'
   exact hDone _ h1 _ _ [] v1 _ (.inr ⟨_, _, rfl⟩) ⟨hIc, H1, hrow1, fun o e2 => hap1 o e2, hkk, fun y hy => by rw [close_order]; exact I.mono y hy⟩ hmu
  | cons d r2 =>
   obtain ⟨o2, ep2, rest2, ev2, hg2⟩ := todo_top (p := d.two) (r := r2.map En.two) hrow1
   simp only [List.length_cons, List.length_map, AV.hs.injEq, true_and, and_true] at ev2
   obtain ⟨rfl, rfl⟩ := ev2
   have hd : d.f < G.N := I.stackN _ (I.inv.mem (List.mem_cons_of_mem _ List.mem_cons_self) d.f_mem)
   have hd2 : decide ((0 : Int) < ((r2.length + 1 : Nat) : Int)) = true := decide_eq_true (by omega)
   have er2 : (((r2.length + 1 : Nat) : Int) - 1) = ((r2.length : Nat) : Int) := by omega
   have lr3 : r2.length < r2.length + 1 := by omega
   have hrb2 : r2.length < 1000000 := by simp only [List.length_cons] at hrb; omega
   have bg2 := below_get (r2.map En.two) (.int .i64 (d.two.1 : Nat)) (.int .i64 (d.two.2 : Nat)) rest2
   rw [List.length_map] at bg2
   have f3 := sub1 bg2.1
   have a1 := H1.g
   unfold GC at a1
   have l1 := ldI (f := (shutT s e.f).low) hd
   have l2 := ldI (f := (shutT s e.f).low) hfN
   have hmin : min (((shutT s e.f).low d.f : Nat) : Int) (((shutT s e.f).low e.f : Nat) : Int) = ((min ((shutT s e.f).low d.f) ((shutT s e.f).low e.f) : Nat) : Int) := by omega
   have x1 := ovI (f := (shutT s e.f).low) (v := min ((shutT s e.f).low d.f) ((shutT s e.f).low e.f)) hd
   simp (disch := omega) only [go_sem, a34r13]
   simp (disch := omega) only [go_sem, hd2]
   simp (disch := omega) only [go_sem, a34r14, er2, lr3, hg2, f3, Nat.add_zero]
   simp (disch := omega) only [go_sem, a34d15, a1, H1.l, Nat.mul_one, l1, l2, En.two]
   refine WD_store (o := G.rl) (ep := 0) (k := d.f) (val := .int .i64 ((min ((shutT s e.f).low d.f) ((shutT s e.f).low e.f) : Nat))) (by simp (disch := omega) only [go_sem]) (by simp (disch := omega) only [go_sem, hmin]) rfl H1.l x1 rfl ?_
   have gB := H1.setl (f := upd (shutT s e.f).low d.f (min ((shutT s e.f).low d.f) ((shutT s e.f).low e.f))) C.ok
   have kk := kept_put (G := G) (h := h1) (vst := v1) (x := .row 1 0 (intsT G.N (upd (shutT s e.f).low d.f (min ((shutT s e.f).low d.f) ((shutT s e.f).low e.f))))) m3
   have nB : (h1.put G.rl (.row 1 0 (intsT G.N (upd (shutT s e.f).low d.f (min ((shutT s e.f).low d.f) ((shutT s e.f).low e.f)))))).next = h1.next := rfl
   generalize h1.put G.rl _ = hB at gB kk nB ⊢
   have hrowB : RowP hB (.hs 2 ot ep 0 (r2.length + 1) false) (r'.map En.two).reverse := by
    rw [hr']
    exact hrow1.keep (fun o e2 => kk.keep o (hap1 o e2).2.1 (hap1 o e2).2.2.1 (hap1 o e2).2.2.2)
   simp (disch := omega) only [go_sem]
   exact hDone _ hB _ _ r' v1 _ (.inr ⟨_, _, rfl⟩) ⟨hIc, gB, hrowB, fun o e2 => by rw [nB]; exact hap1 o e2, hkk.trans kk, fun y hy => by rw [close_order]; exact I.mono y hy⟩ hmu
theorem from_fun (hP : EfP P) {c : Nat → List Nat} {G : GP} (C : FromC c G)
  {h0 : Heap} {vst0 : AV} {s0 : TS} (H0 : GAt G h0 vst0 s0) (I0 : Inv c G.N s0 []) {x : Nat} (hx : x < G.N) (hx0 : s0.order x = 0) :
  Fun P 34 [.ptr G.q 0, .int .i64 (x : Nat)] h0 (fun u h' => u = .tup [] ∧ ∃ s' v', Inv c G.N s' [] ∧ GAt G h' v' s' ∧ Kept G h0 vst0 h' v' ∧ ∀ y, (y = x ∨ s0.order y ≠ 0) → s'.order y ≠ 0) := by
 refine Fun.of (code := a34c) (hP.code rfl) (by rw [hP.pure]; rfl) ?_
 obtain ⟨m1, m2, m3, m4, m5⟩ := mem_objs G
 have hsn := I0.seenN
 have hst0 : s0.stack = [] := by rw [I0.stk]; rfl
 simp (disch := omega) only [go_sem, a34c, a34r0]
 refine WO.fun (vs := [.ptr G.q 0, .int .i64 (x : Nat)]) (by simp (disch := omega) only [go_sem]) (open_fun hP C.ok (H0.res 1) hx (by have := C.big; omega) (by rw [hst0]; simp)) (fun u h1 hu => ?_)
 obtain ⟨eu, v1, H1, k1⟩ := hu
 subst eu
 simp (disch := omega) only [go_sem]
 have hnx : h0.next ∉ G.objs := fun hm => by have := H0.lt _ hm; omega
 have hvx : rowOf v1 ≠ some h0.next := fun e => by
  rcases k1.row with e2 | ⟨p, e2, h2⟩ <;> rw [e2] at e
  ·have := (H0.apart _ e).2; omega
  ·have := Option.some.inj e; rw [reserve_next] at h2; omega
 have kk := (Kept.bump (G := G) (h := h0) (v := vst0) (k := 1)).trans k1
 have hI : FromI c G h0 vst0 (openT s0 x) (h1.put h0.next (.row 2 0 [.int .i64 (x : Nat), .int .i64 0])) (.hs 2 h0.next 0 0 1 false) [⟨x, 0, []⟩] (openT s0 x) v1 :=
  ⟨I0.begin hx hx0, H1.other hnx hvx, .inr ⟨h0.next, 0, [], rfl, by rw [get_put_same]; rfl⟩, fun o e => by
   simp only [rowOf, Option.some.injEq] at e
   subst e
   exact ⟨Nat.le_refl _, by have := k1.next; rw [reserve_next] at this; show _ < h1.next; omega, hnx, hvx⟩, kk.other (Nat.le_refl _), fun y hy => hy⟩
 generalize h1.put h0.next _ = h2 at hI ⊢
 refine Wp_loop (fun z : Nat × AV × Fr × Heap × TS × List En × AV => tl6 z.2.2.1 ∧ FromI c G h0 vst0 (openT s0 x) z.2.2.2.1 z.2.1 z.2.2.2.2.2.1 z.2.2.2.2.1 z.2.2.2.2.2.2) (fun (t, vt, tl, h, s, gs, v) => { fr := (0, .ptr G.q 0) :: (4, vt) :: tl, st := t, h := h }) (fun z => mu c G.N z.2.2.2.2.1 z.2.2.2.2.2.1) (0, _, [], h2, _, _, _) rfl ⟨.inl rfl, hI⟩ ?_
 rintro ⟨t, vt, tl, h, s, gs, v⟩ I
 simp only at I
 obtain ⟨htl, I⟩ := I
 have hE := I.todo.evs
 cases gs with
 | nil =>
  have hvt : (∀ i, evS i (some vt) = some vt) ∧ lenTag 1 vt = true ∧ ∀ h, lenA h vt = some 0 := by
   rcases I.todo with ⟨rfl, -⟩ | ⟨o, ep, c', rfl, -⟩ <;> exact ⟨fun _ => rfl, rfl, fun _ => rfl⟩
  rcases htl with e6 | ⟨w, tl', rfl⟩
  ·simp (disch := omega) only [go_sem, e6, a34l1, a34r1, hvt.1, hvt.2.1, hvt.2.2]
   refine ⟨trivial, s, v, I.inv, I.grp, I.kept, fun y hy => I.mono y ?_⟩
   rcases hy with rfl | hy
   ·rw [show (openT s0 y).order y = s0.seen + 1 from upd_same _ _ _]; omega
   ·by_cases e : y = x
    ·subst e; exact absurd hx0 hy
    ·rw [show (openT s0 x).order y = s0.order y from upd_ne _ _ e]; exact hy
  ·simp (disch := omega) only [go_sem, a34l1, a34r1, hvt.1, hvt.2.1, hvt.2.2]
   refine ⟨trivial, s, v, I.inv, I.grp, I.kept, fun y hy => I.mono y ?_⟩
   rcases hy with rfl | hy
   ·rw [show (openT s0 y).order y = s0.seen + 1 from upd_same _ _ _]; omega
   ·by_cases e : y = x
    ·subst e; exact absurd hx0 hy
    ·rw [show (openT s0 x).order y = s0.order y from upd_ne _ _ e]; exact hy
 | cons e r =>
  obtain ⟨ot, ep, rest, evt, hg⟩ := todo_top (p := e.two) (r := r.map En.two) I.todo
  rw [List.length_map] at evt
  subst evt
  have hgN := I.gsN
  simp only [List.length_cons] at hgN
  have hrb : r.length < 1000000 := by have := C.big; omega
  have er : (((r.length + 1 : Nat) : Int) - 1) = ((r.length : Nat) : Int) := by omega
  have lr : r.length < r.length + 1 := by omega
  have hd0 : decide ((0 : Int) < ((r.length + 1 : Nat) : Int)) = true := decide_eq_true (by omega)
  rcases htl with e6 | ⟨w, tl', rfl⟩
  ·simp (disch := omega) only [go_sem, e6, a34l1_eq, a34r1]
   simp (disch := omega) only [go_sem, hd0]
   simp (disch := omega) only [go_sem, e6, a34r2, er, lr]
   refine from_inner hP C (t := t) (u := t) (tl := []) (.inl rfl) I hg (fun t2 h3 s2 gs v2 vt w I2 m2 => ?_) (fun t2 h3 s2 v2 i tl2 ht2 I2 hi m2 g2 => ?_)
   ·exact ⟨(t2, vt, [(6, w)], h3, s2, gs, v2), ⟨.inr ⟨w, [], rfl⟩, I2⟩, m2, rfl⟩
   ·refine from_after hP C (t := t2) (u := t2) (tl6_app ht2 (by rfl)) I2 hi g2 (fun t3 h4 s3 vt3 gs3 v3 tl3 ht3 I3 m3 => ?_)
    exact ⟨(t3, vt3, tl3, h4, s3, gs3, v3), ⟨ht3, I3⟩, Nat.lt_of_lt_of_le m3 m2, rfl⟩
  ·simp (disch := omega) only [go_sem, a34l1_eq, a34r1]
   simp (disch := omega) only [go_sem, hd0]
   simp (disch := omega) only [go_sem, a34r2, er, lr]
   refine from_inner hP C (t := t) (u := t) (tl := [(6, w)]) (.inr ⟨_, _, rfl⟩) I hg (fun t2 h3 s2 gs v2 vt w I2 m2 => ?_) (fun t2 h3 s2 v2 i tl2 ht2 I2 hi m2 g2 => ?_)
   ·exact ⟨(t2, vt, [(6, w)], h3, s2, gs, v2), ⟨.inr ⟨w, [], rfl⟩, I2⟩, m2, rfl⟩
   ·refine from_after hP C (t := t2) (u := t2) (tl6_app ht2 (by rfl)) I2 hi g2 (fun t3 h4 s3 vt3 gs3 v3 tl3 ht3 I3 m3 => ?_)
    exact ⟨(t3, vt3, tl3, h4, s3, gs3, v3), ⟨ht3, I3⟩, Nat.lt_of_lt_of_le m3 m2, rfl⟩
end Go.Am.Ef
/- Is a group ready? (the closures of effect.grouper.sorted) -/
namespace Go.Am.Ef
open Go.Am
variable {P : Prog}
set_option maxRecDepth 20000
set_option maxHeartbeats 1000000
structure SP where
 b2 : Nat
 b5 : Nat
 b6 : Nat
 od : Nat
structure SAt (G : GP) (S : SP) (h : Heap) (v : AV) (s : TS) (dn : Nat → Bool) : Prop where
 grp : GAt G h v s
 p2 : h.get S.b2 = some (.cells [.ptr G.q 0])
 p5 : h.get S.b5 = some (.cells [.hs 1 S.od 0 0 s.n false])
 p6 : h.get S.b6 = some (.cells [.fn 63 [.ptr S.b2 0, .ptr S.b5 0]])
 d : h.get S.od = some (.row 1 0 (boolsT s.n dn))
def natsI (l : List Nat) : List AV := l.map (fun x => AV.int .i64 (x : Nat))
theorem natsI_get {l : List Nat} {k : Nat} (c : List AV) (hk : k < l.length) : (natsI l ++ c)[k]? = some (.int .i64 (l.getD k 0 : Nat)) := by
 rw [List.getElem?_append_left (by simpa [natsI] using hk)]
 simp only [natsI, List.getElem?_map, List.getElem?_eq_getElem hk, Option.map_some, List.getD_eq_getElem?_getD, Option.getD_some]
def readyF (c : Nat → List Nat) (s : TS) (dn : Nat → Bool) (f : Nat) : Bool := (c f).all (fun x => decide (s.of x = s.of f) || dn (s.of x))
def readyB (c : Nat → List Nat) (s : TS) (dn : Nat → Bool) (l : List Nat) : Bool := l.all (readyF c s dn)
theorem all_takeN {q : Nat → Bool} {l : List Nat} {k : Nat} (hk : k < l.length) : (l.take (k + 1)).all q = ((l.take k).all q && q (l.getD k 0)) := by
 rw [List.take_succ_eq_append_getElem hk, List.all_append, List.getD_eq_getElem?_getD, List.getElem?_eq_getElem hk]; simp
theorem all_false {q : Nat → Bool} {l : List Nat} {k : Nat} (hk : k < l.length) (h : q (l.getD k 0) = false) : l.all q = false := by
 cases hb : l.all q with
 | false => rfl
 | true => rw [List.all_eq_true.1 hb _ (getD_mem hk)] at h; simp at h
theorem ready_fun (hP : EfP P) {c : Nat → List Nat} {G : GP} (C : FromC c G) {S : SP} {h : Heap} {v : AV} {s : TS} {dn : Nat → Bool} (H : SAt G S h v s dn) (hof : ∀ x, x < G.N → s.of x < s.n)
  {l : List Nat} (hl : ∀ f ∈ l, f < G.N) (hll : l.length ≤ 1000000) {ol ep : Nat} {rest : List AV} (g : h.get ol = some (.row 1 ep (natsI l ++ rest))) :
  Fun P 63 [.hs 1 ol ep 0 l.length false, .ptr S.b2 0, .ptr S.b5 0] h (fun u h' => u = .bool (readyB c s dn l) ∧ h' = h) := by
 refine Fun.of (code := a63c) (hP.code rfl) (by rw [hP.pure]; rfl) ?_
 have aA := H.grp.g
 unfold GC at aA
 simp (disch := omega) only [go_sem, a63c, a63r0]
 simp (disch := omega) only [go_sem, a63r1]
 refine Wp_loop (fun z : Nat × Nat => z.2 ≤ l.length ∧ (l.take z.2).all (readyF c s dn) = true) (fun (t, k) => { fr := [(1, .ptr S.b2 0), (2, .ptr S.b5 0), (9, .hs 1 ol ep 0 l.length false), (10, .int .i64 l.length), (11, .int .i64 k)], st := t, h := h }) (fun z => l.length - z.2) (0, 0) rfl ⟨Nat.zero_le _, by simp⟩ ?_
 rintro ⟨t, k⟩ ⟨k1, k2⟩
 simp only at k1 k2
 simp (disch := omega) only [go_sem, a63l1, a63r2]
 refine condS_if (fun c1 => ?_) (fun c1 => ?_)
 ·have hk : k < l.length := by omega
  have f1 := sub1 (natsI_get rest hk)
  have hfN := hl _ (getD_mem hk)
  have hnext := all_takeN (q := readyF c s dn) hk
  have hfalse := fun e => all_false (q := readyF c s dn) hk e
  generalize hfe : l.getD k 0 = f at f1 hfN hnext hfalse
  have hcs := C.cs _ hfN
  have hcl := C.len
  have hlf := C.lens _ hfN
  have hfl : f < G.cs.length := by rw [hcl]; exact hfN
  have hl2 : (G.cs.getD f default).l.length = (c f).length := by rw [hcs, List.length_map]
  have hgd : ∀ j, j < (c f).length → (G.cs.getD f default).l.getD j default = (((c f).getD j 0 : Nat) : Int) := fun j hj => by
   rw [hcs, List.getD_eq_getElem?_getD, List.getElem?_map, List.getD_eq_getElem?_getD, List.getElem?_eq_getElem hj]; rfl
  simp (disch := omega) only [go_sem, a63r3, g, f1, hk, Nat.mul_one]
  simp (disch := omega) only [go_sem, a63r4, H.p2, aA, hfl, hl2]
  refine Wp_loop (fun z : Nat × Nat => z.2 ≤ (c f).length ∧ ((c f).take z.2).all (fun x => decide (s.of x = s.of f) || dn (s.of x)) = true) (fun (t, j) => { fr := [(1, .ptr S.b2 0), (2, .ptr S.b5 0), (6, .int .i64 (f : Nat)), (9, .hs 1 ol ep 0 l.length false), (10, .int .i64 l.length), (11, .int .i64 k), (21, slv (G.cs.getD f default).nl false (G.cs.getD f default).l), (22, .int .i64 (c f).length), (23, .int .i64 j)], st := t, h := h }) (fun z => (c f).length - z.2) (t, 0) rfl ⟨Nat.zero_le _, by simp⟩ ?_
  rintro ⟨t2, j⟩ ⟨j1, j2⟩
  simp only at j1 j2
  simp (disch := omega) only [go_sem, a63l0, a63r5]
  refine condS_if (fun c2 => ?_) (fun c2 => ?_)
  ·have hj : j < (c f).length := by omega
   have hgj := hgd j hj
   have hjl : j < (G.cs.getD f default).l.length := by rw [hl2]; exact hj
   have hxN := C.lt _ hfN _ (getD_mem hj)
   have hnx := all_takeN (q := fun x => decide (s.of x = s.of f) || dn (s.of x)) hj
   have hfx := fun e => all_false (q := fun x => decide (s.of x = s.of f) || dn (s.of x)) hj e
   generalize hxe : (c f).getD j 0 = x at hgj hxN hnx hfx
   have l1 := ldI (f := s.of) hxN
   have l2 := ldI (f := s.of) hfN
   have l3 := ldB (f := dn) (hof x hxN)
   have hsx := hof x hxN
   simp (disch := omega) only [go_sem, a63r6, hgj, hjl]
   by_cases hq : s.of x = s.of f
   ·have w1 : decide (¬ ((s.of x : Nat) : Int) = ((s.of f : Nat) : Int)) = false := by rw [hq]; simp
    simp (disch := omega) only [go_sem, a63d7, H.p2, aA, H.grp.f, Nat.mul_one, l1, l2, w1]
    simp (disch := omega) only [go_sem, a63r9]
    exact ⟨(t2 + 1, j + 1), ⟨by simp only; omega, by simp only; rw [hnx, j2, hq]; simp⟩, by simp only; omega, by push_cast; rfl⟩
   ·have w1 : decide (¬ ((s.of x : Nat) : Int) = ((s.of f : Nat) : Int)) = true := decide_eq_true (by omega)
    simp (disch := omega) only [go_sem, a63d7, H.p2, H.p5, H.d, aA, H.grp.f, Nat.mul_one, l1, l2, l3, w1, hsx]
    cases hd : dn (s.of x) with
    | true =>
     simp (disch := omega) only [go_sem]
     simp (disch := omega) only [go_sem, a63r9]
     exact ⟨(t2 + 1, j + 1), ⟨by simp only; omega, by simp only; rw [hnx, j2, hd]; simp⟩, by simp only; omega, by push_cast; rfl⟩
    | false =>
     simp (disch := omega) only [go_sem]
     simp (disch := omega) only [go_sem, a63r8]
     have hrf : readyF c s dn f = false := hfx (by rw [hd, decide_eq_false hq]; rfl)
     rw [readyB, hfalse hrf]
     exact ⟨by first | rfl | trivial, by first | rfl | trivial⟩
  ·simp (disch := omega) only [go_sem, a63r10]
   have e : j = (c f).length := by omega
   rw [e, List.take_length] at j2
   exact ⟨(t2, k + 1), ⟨by simp only; omega, by simp only; rw [hnext, k2]; exact j2⟩, by simp only; omega, by push_cast; rfl⟩
 ·simp (disch := omega) only [go_sem, a63r11]
  have e : k = l.length := by omega
  rw [e, List.take_length] at k2
  rw [readyB, k2]
  exact ⟨by first | rfl | trivial, by first | rfl | trivial⟩
structure GrpRow (h : Heap) (vs : List AV) (gl : List (List Nat)) : Prop where
 len : vs.length = gl.length
 el : ∀ i, i < gl.length → ∃ o ep rest, vs.getD i .nils = .hs 1 o ep 0 (gl.getD i []).length false ∧ h.get o = some (.row 1 ep (natsI (gl.getD i []) ++ rest))
theorem pick_fun (hP : EfP P) {c : Nat → List Nat} {G : GP} (C : FromC c G) {S : SP} {h : Heap} {v : AV} {s : TS} {dn : Nat → Bool} (H : SAt G S h v s dn) (hof : ∀ x, x < G.N → s.of x < s.n)
  {l : List Nat} (hl : ∀ f ∈ l, f < G.N) (hll : l.length ≤ 1000000) (hl0 : 0 < l.length) {ol ep : Nat} {rest : List AV} (g : h.get ol = some (.row 1 ep (natsI l ++ rest))) :
  Fun P 65 [.hs 1 ol ep 0 l.length false, .ptr S.b5 0, .ptr S.b2 0, .ptr S.b6 0] h (fun u h' => u = .bool (!dn (s.of (l.getD 0 0)) && readyB c s dn l) ∧ h' = h) := by
 refine Fun.of (code := a65c) (hP.code rfl) (by rw [hP.pure]; rfl) ?_
 have aA := H.grp.g
 unfold GC at aA
 have f1 : takeN 1 (natsI l ++ rest) = some [.int .i64 (l.getD 0 0 : Nat)] := sub1 (natsI_get rest hl0)
 have hfN := hl _ (getD_mem hl0)
 have hx := hof _ hfN
 have l1 := ldI (f := s.of) hfN
 have l3 := ldB (f := dn) hx
 simp (disch := omega) only [go_sem, a65c, a65r0]
 have hr := ready_fun hP C H hof hl hll g
 cases hd : dn (s.of (l.getD 0 0)) with
 | true =>
  rw [hd] at l3
  simp (disch := omega) only [go_sem, a65d1, H.p2, H.p5, H.d, aA, H.grp.f, g, hl0, Nat.mul_one, Nat.zero_mul, f1, l1, l3, hx]
 | false =>
  rw [hd] at l3
  simp (disch := omega) only [go_sem, a65d1, H.p2, H.p5, H.p6, H.d, aA, H.grp.f, g, hl0, Nat.mul_one, Nat.zero_mul, f1, l1, l3, hx]
  refine WD_funv (f := 63) (caps := [.ptr S.b2 0, .ptr S.b5 0]) (vs := [.hs 1 ol ep 0 l.length false]) (by simp (disch := omega) only [go_sem]) (by simp (disch := omega) only [go_sem]) hr (fun w h' hv => ?_) (fun w h' hv => ?_)
  ·rfl
  obtain ⟨e1, e2⟩ := hv
  rw [e1, e2]
  simp (disch := omega) only [go_sem]
end Go.Am.Ef
/- How groups are put in their order, in plain words: as the program does it, and as the document does. Own work; no program in sight. -/
namespace Go.Am.Ef
structure GrN (c : Nat → List Nat) (N : Nat) (s : TS) : Prop where
 lt : ∀ x, x < N → s.of x < s.n
 same : ∀ x y, x < N → y < N → (s.of x = s.of y ↔ Reach c x y ∧ Reach c y x)
 all : ∀ k, k < s.n → ∃ x, x < N ∧ s.of x = k
 n : s.n ≤ N
 le : ∀ x, x < N → ∀ y ∈ c x, s.of y ≤ s.of x
 cl : ∀ x, x < N → ∀ y ∈ c x, y < N
def grp (s : TS) (N k : Nat) : List Nat := (List.range N).filter (fun x => decide (s.of x = k))
def fstG (s : TS) (N k : Nat) : Nat := (grp s N k).getD 0 0
def ksG (s : TS) (N : Nat) : List Nat := sortBy (fun k => ((fstG s N k : Nat) : Int)) (List.range s.n)
def dnOf (s : TS) (D : List Nat) : Nat → Bool := fun k => decide (k ∈ D)
def pickK (c : Nat → List Nat) (s : TS) (N : Nat) (D : List Nat) (k : Nat) : Bool := !dnOf s D k && readyB c s (dnOf s D) (grp s N k)
def runK (c : Nat → List Nat) (s : TS) (N : Nat) : Nat → List Nat → List Nat
 | 0, D => D
 | t + 1, D => match (ksG s N).find? (pickK c s N D) with
  | none => D
  | some k => runK c s N t (D ++ [k])
section
variable {c : Nat → List Nat} {N : Nat} {s : TS}
theorem mem_grp {k x : Nat} : x ∈ grp s N k ↔ x < N ∧ s.of x = k := by simp [grp, List.mem_filter]
theorem grp_ne (H : GrN c N s) {k : Nat} (hk : k < s.n) : 0 < (grp s N k).length := by
 obtain ⟨x, h1, h2⟩ := H.all k hk
 exact List.length_pos_of_mem (mem_grp.2 ⟨h1, h2⟩)
theorem fst_mem (H : GrN c N s) {k : Nat} (hk : k < s.n) : fstG s N k ∈ grp s N k := getD_mem (grp_ne H hk)
theorem fst_of (H : GrN c N s) {k : Nat} (hk : k < s.n) : fstG s N k < N ∧ s.of (fstG s N k) = k := mem_grp.1 (fst_mem H hk)
theorem mem_ks {k : Nat} : k ∈ ksG s N ↔ k < s.n := by rw [ksG, (sortBy_perm _ _).mem_iff, List.mem_range]
theorem ks_len : (ksG s N).length = s.n := by rw [ksG, (sortBy_perm _ _).length_eq, List.length_range]
theorem readyB_iff {dn : Nat → Bool} {l : List Nat} : readyB c s dn l = true ↔ ∀ f ∈ l, ∀ x ∈ c f, s.of x = s.of f ∨ dn (s.of x) = true := by
 simp only [readyB, readyF, List.all_eq_true, Bool.or_eq_true, decide_eq_true_eq]
theorem pick_some (H : GrN c N s) {D : List Nat} (hD : D.Nodup) (hlt : D.length < s.n) : ∃ k, k ∈ ksG s N ∧ pickK c s N D k = true := by
 have hex : ∃ k, k < s.n ∧ k ∉ D := by
  refine Classical.byContradiction (fun h => ?_)
  have hsub : List.range s.n ⊆ D := fun k hk => Classical.byContradiction (fun h2 => h ⟨k, List.mem_range.1 hk, h2⟩)
  have := (List.nodup_range (n := s.n)).length_le_of_subset hsub
  rw [List.length_range] at this; omega
 have hmin : ∀ n, (∃ k, k < n ∧ k < s.n ∧ k ∉ D) → ∃ k, k < s.n ∧ k ∉ D ∧ ∀ j, j < k → j ∈ D := fun n => by
  induction n with
  | zero => rintro ⟨k, h, -⟩; omega
  | succ n ih =>
   rintro ⟨k, h1, h2, h3⟩
   by_cases h : ∃ k, k < n ∧ k < s.n ∧ k ∉ D
   ·exact ih h
   ·have hkn : k = n := by
     rcases Nat.lt_or_ge k n with q | q
     ·exact absurd ⟨k, q, h2, h3⟩ h
     ·omega
    subst hkn
    exact ⟨k, h2, h3, fun j hj => Classical.byContradiction (fun h4 => h ⟨j, hj, by omega, h4⟩)⟩
 obtain ⟨k0, a1, a2⟩ := hex
 obtain ⟨k, h1, h2, h3⟩ := hmin s.n ⟨k0, a1, a1, a2⟩
 refine ⟨k, mem_ks.2 h1, ?_⟩
 rw [pickK, Bool.and_eq_true, readyB_iff]
 refine ⟨by simp [dnOf, h2], fun f hf x hx => ?_⟩
 have hf' := mem_grp.1 hf
 have := H.le f hf'.1 x hx
 by_cases e : s.of x = s.of f
 ·exact .inl e
 ·exact .inr (by simp only [dnOf, decide_eq_true_eq]; exact h3 _ (by omega))
open Classical in
noncomputable def sccL (c : Nat → List Nat) (N a : Nat) : List Nat := (List.range N).filter (fun b => decide (Reach c a b ∧ Reach c b a))
open Classical in
noncomputable def pickA (c : Nat → List Nat) (N : Nat) (F : Nat → Bool) (a : Nat) : Bool := !F a && @decide (∀ b, b < N → Reach c a b → Reach c b a ∨ F b = true) (Classical.propDecidable _)
noncomputable def runA (c : Nat → List Nat) (N : Nat) : Nat → (Nat → Bool) → List (List Nat)
 | 0, _ => []
 | t + 1, F => match (List.range N).find? (pickA c N F) with
  | none => runA c N t F
  | some a => sccL c N a :: runA c N t (fun b => F b || decide (b ∈ sccL c N a))
end
end Go.Am.Ef
/- Groups in their order (effect.grouper.sorted). -/
namespace Go.Am.Ef
open Go.Am
variable {P : Prog}
set_option maxRecDepth 20000
set_option maxHeartbeats 1000000
def pickL (c : Nat → List Nat) (s : TS) (dn : Nat → Bool) (l : List Nat) : Bool := !dn (s.of (l.getD 0 0)) && readyB c s dn l
theorem vs_get {vs : List AV} {k : Nat} (hk : k < vs.length) : vs[k]? = some (vs.getD k .nils) := by
 rw [List.getD_eq_getElem?_getD, List.getElem?_eq_getElem hk]; rfl
theorem index_fun' (hP : EfP P) {c : Nat → List Nat} {G : GP} (C : FromC c G) {S : SP} {h : Heap} {v : AV} {s : TS} {dn : Nat → Bool} (H : SAt G S h v s dn) (hof : ∀ x, x < G.N → s.of x < s.n)
  {gl : List (List Nat)} {vs : List AV} {og : Nat} (hr : GrpRow h vs gl) (g : h.get og = some (.row 1 0 vs)) (hgl : ∀ l ∈ gl, (∀ f ∈ l, f < G.N) ∧ l.length ≤ 1000000 ∧ 0 < l.length) (hlen : gl.length ≤ 1000000)
  {i0 : Nat} (hi0 : i0 < gl.length) (hp : pickL c s dn (gl.getD i0 []) = true) (hn : ∀ j, j < i0 → pickL c s dn (gl.getD j []) = false) :
  Fun P 64 [.hs 1 og 0 0 gl.length false, .fn 65 [.ptr S.b5 0, .ptr S.b2 0, .ptr S.b6 0]] h (fun u h' => u = .int .i64 (i0 : Nat) ∧ h' = h) := by
 refine Fun.of (code := a64c) (hP.code rfl) (by rw [hP.pure]; rfl) ?_
 simp (disch := omega) only [go_sem, a64c, a64r0]
 simp (disch := omega) only [go_sem, a64r1]
 refine Wp_loop (fun z : Nat × Nat => z.2 ≤ i0) (fun (t, k) => { fr := [(0, .hs 1 og 0 0 gl.length false), (1, .fn 65 [.ptr S.b5 0, .ptr S.b2 0, .ptr S.b6 0]), (7, .int .i64 gl.length), (8, .int .i64 k)], st := t, h := h }) (fun z => i0 - z.2) (0, 0) rfl (Nat.zero_le _) ?_
 rintro ⟨t, k⟩ k1
 simp only at k1
 have hk : k < gl.length := by omega
 have hkv : k < vs.length := by rw [hr.len]; exact hk
 obtain ⟨o, ep, rest, e1, e2⟩ := hr.el k hk
 have f1 := sub1 (vs_get hkv)
 rw [e1] at f1
 have hm : gl.getD k [] ∈ gl := by rw [List.getD_eq_getElem?_getD, List.getElem?_eq_getElem hk]; exact List.getElem_mem hk
 obtain ⟨q1, q2, q3⟩ := hgl _ hm
 simp (disch := omega) only [go_sem, a64l0, a64r2]
 refine condS_if (fun c1 => ?_) (fun c1 => by omega)
 simp (disch := omega) only [go_sem, a64r3]
 simp (disch := omega) only [go_sem, a64r4, g, f1, hk, Nat.mul_one]
 refine WO_funv (f := 65) (caps := [.ptr S.b5 0, .ptr S.b2 0, .ptr S.b6 0]) (vs := [.hs 1 o ep 0 (gl.getD k []).length false]) (by simp (disch := omega) only [go_sem]) (by simp (disch := omega) only [go_sem]) (pick_fun hP C H hof q1 q2 q3 e2) (fun w h' hv => ?_)
 obtain ⟨ev, eh⟩ := hv
 rw [ev, eh]
 have hw : (!dn (s.of ((gl.getD k []).getD 0 0)) && readyB c s dn (gl.getD k [])) = pickL c s dn (gl.getD k []) := rfl
 rw [hw]
 by_cases he : k = i0
 ·subst he
  rw [hp]
  simp (disch := omega) only [go_sem]
  simp (disch := omega) only [go_sem, a64r5]
 ·rw [hn k (by omega)]
  simp (disch := omega) only [go_sem]
  simp (disch := omega) only [go_sem, a64r6]
  exact ⟨(t, k + 1), by simp only; omega, by simp only; omega, by push_cast; rfl⟩
theorem insBy_map {α β : Type} (f : α → β) (k : β → Int) (k' : α → Int) (x : α) : ∀ l : List α, (k (f x) = k' x) → (∀ y ∈ l, k (f y) = k' y) → insBy k (f x) (l.map f) = (insBy k' x l).map f
 | [], _, _ => rfl
 | y :: r, hx, h => by
  rw [List.map_cons, insBy, insBy, hx, h y List.mem_cons_self]
  split
  ·rfl
  ·rw [List.map_cons, insBy_map f k k' x r hx (fun z hz => h z (List.mem_cons_of_mem _ hz))]
theorem sortBy_map {α β : Type} (f : α → β) (k : β → Int) (k' : α → Int) : ∀ l : List α, (∀ y ∈ l, k (f y) = k' y) → sortBy k (l.map f) = (sortBy k' l).map f
 | [], _ => rfl
 | y :: r, h => by
  rw [List.map_cons, sortBy, sortBy, sortBy_map f k k' r (fun z hz => h z (List.mem_cons_of_mem _ hz))]
  exact insBy_map f k k' y _ (h y List.mem_cons_self) (fun z hz => h z (List.mem_cons_of_mem _ ((sortBy_perm k' r).mem_iff.1 hz)))
theorem getD_map_range {α : Type} {n i : Nat} (f : Nat → α) (d : α) (h : i < n) : ((List.range n).map f).getD i d = f i := by
 rw [List.getD_eq_getElem?_getD, List.getElem?_map, List.getElem?_range h]; rfl
theorem map_getD_range (vs : List AV) : (List.range vs.length).map (fun i => vs.getD i .nils) = vs := by
 refine List.ext_getElem (by simp) (fun i h1 h2 => ?_)
 rw [List.getElem_map, List.getElem_range, List.getD_eq_getElem?_getD, List.getElem?_eq_getElem h2]; rfl
theorem sortg_fun (hP : EfP P) {c : Nat → List Nat} {N : Nat} {s : TS} (Gn : GrN c N s) (hN : N ≤ 100000) {h : Heap} {og : Nat} {vs : List AV} (g : h.get og = some (.row 1 0 vs)) (hr : GrpRow h vs ((List.range s.n).map (grp s N)))
  (hne : ∀ i o, i < s.n → rowOf (vs.getD i .nils) = some o → o ≠ og) :
  Fun P 61 [.hs 1 og 0 0 s.n false, .fn 62 []] h (fun u h' => u = .tup [] ∧ h' = h.put og (.row 1 0 ((ksG s N).map (fun k => vs.getD k .nils)))) := by
 have hlen : vs.length = s.n := by rw [hr.len]; simp
 have hfst : ∀ i, i < s.n → fstA h (vs.getD i .nils) = some ((fstG s N i : Nat) : Int) ∧ notO og (vs.getD i .nils) = true := fun i hi => by
  obtain ⟨o, ep, rest, e1, e2⟩ := hr.el i (by simpa using hi)
  rw [getD_map_range _ _ hi] at e1 e2
  have hp := grp_ne Gn hi
  have := natsI_get rest hp
  have hon := hne i o hi (by rw [e1]; rfl)
  rw [e1]
  have b1 : Nat.beq ep ep = true := by rw [nbeq]; exact decide_eq_true rfl
  have b2 : Nat.blt 0 (grp s N i).length = true := by rw [nblt]; exact decide_eq_true hp
  have b3 : Nat.ble (0 + (grp s N i).length) (natsI (grp s N i) ++ rest).length = true := by rw [nble]; exact decide_eq_true (by simp [natsI])
  refine ⟨?_, ?_⟩
  ·simp only [fstA, e2, b1, b2, b3, Bool.and_self, cond_true, this]; rfl
  ·simp only [notO, nbeq]; simp [hon]
 have hkey : ∀ i, i < s.n → keyA h (vs.getD i .nils) = ((fstG s N i : Nat) : Int) := fun i hi => by unfold keyA; rw [(hfst i hi).1]; rfl
 have hvs : vs = (List.range s.n).map (fun i => vs.getD i .nils) := by rw [← hlen]; exact (map_getD_range vs).symm
 have hsort : sortBy (keyA h) vs = (ksG s N).map (fun k => vs.getD k .nils) := by
  conv => lhs; rw [hvs]
  exact sortBy_map _ _ _ _ (fun y hy => hkey y (List.mem_range.1 hy))
 have hall : vs.all (fstB og h) = true := by
  rw [List.all_eq_true]
  intro x hx
  rw [hvs] at hx
  obtain ⟨i, hi, rfl⟩ := List.mem_map.1 hx
  have hi' := List.mem_range.1 hi
  obtain ⟨e1, e2⟩ := hfst i hi'
  have := (fst_of Gn hi').1
  simp only [fstB, e1, e2, Bool.true_and]
  exact decide_eq_true (by omega)
 have hnd : (vs.map (keyA h)).Nodup := by
  have : vs.map (keyA h) = (List.range s.n).map (fun i => ((fstG s N i : Nat) : Int)) := by
   conv => lhs; rw [hvs]
   rw [List.map_map]
   exact List.map_congr_left (fun i hi => hkey i (List.mem_range.1 hi))
  rw [this]
  unfold List.Nodup
  rw [List.pairwise_map]
  refine List.Pairwise.imp_of_mem (fun {a b} ha hb hab e => ?_) (List.nodup_range (n := s.n))
  have h1 := (fst_of Gn (List.mem_range.1 ha)).2
  have h2 := (fst_of Gn (List.mem_range.1 hb)).2
  have : fstG s N a = fstG s N b := by omega
  rw [this, h2] at h1
  exact hab h1.symm
 have b1 : Nat.beq 0 0 = true := rfl
 have b2 : Nat.ble (0 + s.n) vs.length = true := by rw [nble]; exact decide_eq_true (by omega)
 have b3 : Nat.ble s.n 1000000 = true := by rw [nble]; exact decide_eq_true (by have := Gn.n; omega)
 have b4 : (vs.drop 0).take s.n = vs := by rw [List.drop_zero, List.take_of_length_le (by omega)]
 have b5 : vs.drop (0 + s.n) = [] := List.drop_eq_nil_of_le (by omega)
 have b6 : decide ((vs.map (keyA h)).Nodup) = true := decide_eq_true hnd
 refine Fun.prim hP.n61 (by rw [hP.pure]; rfl) (hP.sortf _ _ (.tup [], h.put og (.row 1 0 ((ksG s N).map (fun k => vs.getD k .nils)))) ?_) ⟨rfl, rfl⟩
 simp only [sortFst, g, b1, b2, b3, b4, b5, b6, hall, Bool.and_self, cond_true, List.take_zero, List.nil_append, List.append_nil, hsort]
end Go.Am.Ef
/- make of a slice whose length is a count. -/
namespace Go.Am
section
variable {base : Nat} {d : Option Nat} {s : St}
def mkslO (s : St) (o e b : Nat) (z : List AV) (l c : Option AV) : Option (AV × St) := match l, c with
 | some (.int .i64 (.ofNat l)), some (.int .i64 (.ofNat c)) => bif Nat.ble l c && Nat.ble (c * b) two47 then some (newRowA s o e l false (repl z l)) else none
 | _, _ => none
@[go_sem] theorem W_mksl {e b : Nat} {z : List AV} {l c : Opd} {k : Nat} : aop base d (.mksl e b z l c k) s = mkslO s (base + k) e b z (l.ev s.fr) (c.ev s.fr) := rfl
theorem mksl_ok {s : St} {o e b n : Nat} {z : List AV} (h : n * b ≤ two47) : mkslO s o e b z (some (.int .i64 (n : Nat))) (some (.int .i64 (n : Nat))) = some (.hs e o 0 0 n false, { s with h := s.h.put o (.row e 0 (repl z n)) }) := by
 show (bif Nat.ble n n && Nat.ble (n * b) two47 then some (newRowA s o e n false (repl z n)) else none) = _
 rw [nble, nble, decide_eq_true (Nat.le_refl n), decide_eq_true h]; rfl
end
theorem repl_nils : ∀ n, repl [AV.nils] n = List.replicate n .nils
 | 0 => rfl
 | n + 1 => by rw [repl, repl_nils n]; rfl
end Go.Am
/- Groups in their order (effect.grouper.sorted), whole. -/
namespace Go.Am.Ef
open Go.Am
variable {P : Prog}
set_option maxRecDepth 20000
set_option maxHeartbeats 1000000
def castL (l : List Nat) : List Int := l.map (fun x => ((x : Nat) : Int))
theorem repl_bool : ∀ n, repl [AV.bool false] n = boolsT n (fun _ => false)
 | 0 => rfl
 | n + 1 => by
  rw [repl, repl_bool n, boolsT, boolsT, List.range_succ_eq_map, List.map_cons, List.map_map]; rfl
theorem repl_int : ∀ n, repl [AV.int .i64 0] n = intsT n (fun _ => 0)
 | 0 => rfl
 | n + 1 => by
  rw [repl, repl_int n, intsT, intsT, List.range_succ_eq_map, List.map_cons, List.map_map]; rfl
structure SortH (G : GP) (h : Heap) (v : AV) (s : TS) (base og : Nat) (vs : List AV) : Prop where
 at' : GAt G h v s
 row : h.get og = some (.row 1 0 vs)
 gr : GrpRow h vs ((List.range s.n).map (grp s G.N))
 ogs : og ∉ G.objs ∧ rowOf v ≠ some og ∧ og < h.next
 own : ∀ i o, i < s.n → rowOf (vs.getD i .nils) = some o → base ≤ o ∧ o < h.next ∧ o ≠ og
 base : base ≤ h.next
theorem find_ks {c : Nat → List Nat} {N : Nat} {s : TS} (Gn : GrN c N s) {D : List Nat} (hD : D.Nodup) (hlt : D.length < s.n) : ∃ k, (ksG s N).find? (pickK c s N D) = some k := by
 obtain ⟨k0, hk0, hp0⟩ := pick_some Gn hD hlt
 cases h : (ksG s N).find? (pickK c s N D) with
 | some k => exact ⟨k, rfl⟩
 | none => exact absurd hp0 (by simpa using List.find?_eq_none.1 h k0 hk0)
theorem pickL_K {c : Nat → List Nat} {N : Nat} {s : TS} (Gn : GrN c N s) (D : List Nat) {k : Nat} (hk : k < s.n) : pickL c s (dnOf s D) (grp s N k) = pickK c s N D k := by
 have := (fst_of Gn hk).2
 unfold fstG at this
 rw [pickL, this]; rfl
structure SortI (c : Nat → List Nat) (G : GP) (S : SP) (s : TS) (vs : List AV) (hS : Heap) (k : Nat) (w : AV) (g : Heap) (D : List Nat) : Prop where
 run : runK c s G.N (s.n - k) D = runK c s G.N s.n []
 len : D.length = k
 nd : D.Nodup
 lt : ∀ j ∈ D, j < s.n
 out : RowV g w (D.map (fun k => vs.getD k .nils))
 own : ∀ o, rowOf w = some o → hS.next ≤ o ∧ o < g.next
 next : hS.next ≤ g.next
 od : g.get S.od = some (.row 1 0 (boolsT s.n (dnOf s D)))
 keep : ∀ o, o < hS.next → o ≠ S.od → g.get o = hS.get o
structure SortS (G : GP) (S : SP) (s : TS) (v : AV) (vs : List AV) (base og : Nat) (hS : Heap) : Prop where
 at' : SAt G S hS v s (fun _ => false)
 row : hS.get og = some (.row 1 0 ((ksG s G.N).map (fun k => vs.getD k .nils)))
 gr : GrpRow hS vs ((List.range s.n).map (grp s G.N))
 ogs : og ≠ S.od ∧ og < hS.next
 own : ∀ i o, i < s.n → rowOf (vs.getD i .nils) = some o → base ≤ o ∧ o < hS.next ∧ o ≠ S.od
 od : S.od ∉ G.objs ∧ rowOf v ≠ some S.od ∧ S.od ≠ S.b2 ∧ S.od ≠ S.b5 ∧ S.od ≠ S.b6
 lt : S.od < hS.next ∧ S.b2 < hS.next ∧ S.b5 < hS.next ∧ S.b6 < hS.next
 base : base ≤ hS.next
theorem SortS.sat {c : Nat → List Nat} {G : GP} {S : SP} {s : TS} {v : AV} {vs : List AV} {base og : Nat} {hS : Heap} (H : SortS G S s v vs base og hS) {k : Nat} {w : AV} {g : Heap} {D : List Nat} (I : SortI c G S s vs hS k w g D) : SAt G S g v s (dnOf s D) := by
 obtain ⟨l1, l2, l3, l4⟩ := H.lt
 obtain ⟨d1, d2, d3, d4, d5⟩ := H.od
 refine ⟨H.at'.grp.keepAll (fun o ho => I.keep o (H.at'.grp.lt o ho) (fun e => d1 (e ▸ ho))) (fun o e => I.keep o (H.at'.grp.apart o e).2 (fun e2 => d2 (e2 ▸ e))) I.next, ?_, ?_, ?_, I.od⟩
 ·rw [I.keep _ l2 d3.symm]; exact H.at'.p2
 ·rw [I.keep _ l3 d4.symm]; exact H.at'.p5
 ·rw [I.keep _ l4 d5.symm]; exact H.at'.p6
theorem SortS.gr' {c : Nat → List Nat} {G : GP} {S : SP} {s : TS} {v : AV} {vs : List AV} {base og : Nat} {hS : Heap} (H : SortS G S s v vs base og hS) {k : Nat} {w : AV} {g : Heap} {D : List Nat} (I : SortI c G S s vs hS k w g D) {j : Nat} (hj : j < s.n) :
  ∃ o ep rest, vs.getD j .nils = .hs 1 o ep 0 (grp s G.N j).length false ∧ g.get o = some (.row 1 ep (natsI (grp s G.N j) ++ rest)) := by
 obtain ⟨o, ep, rest, e1, e2⟩ := H.gr.el j (by simpa using hj)
 rw [getD_map_range _ _ hj] at e1 e2
 have := H.own j o hj (by rw [e1]; rfl)
 exact ⟨o, ep, rest, e1, by rw [I.keep o this.2.1 this.2.2]; exact e2⟩
theorem sorted_loop (hP : EfP P) {c : Nat → List Nat} {G : GP} (C : FromC c G) {S : SP} {v : AV} {s : TS} (Gn : GrN c G.N s) {base og : Nat} {vs : List AV} {hS : Heap} (H : SortS G S s v vs base og hS) :
  Wp P (.loop a35l0) { fr := [(1, .hs 1 og 0 0 s.n false), (2, .ptr S.b2 0), (5, .ptr S.b5 0), (6, .ptr S.b6 0), (7, .nils), (18, .int .i64 s.n), (19, .int .i64 0)], st := 0, h := hS }
   (blockQ 0 (seqQ P ((ACode.reg 0 a35r11 [4]).seq ACode.ret) (bodyQ [ARes.slot 4] fun u h' => ∃ us, NestW base h' u us ((runK c s G.N s.n []).map (fun k => castL (grp s G.N k)))))) := by
 have hbig := C.big
 have hnN := Gn.n
 refine Wp_loop (fun z : Nat × Nat × AV × Heap × List Nat => z.2.1 ≤ s.n ∧ SortI c G S s vs hS z.2.1 z.2.2.1 z.2.2.2.1 z.2.2.2.2) (fun (t, k, w, g, D) => { fr := [(1, .hs 1 og 0 0 s.n false), (2, .ptr S.b2 0), (5, .ptr S.b5 0), (6, .ptr S.b6 0), (7, w), (18, .int .i64 s.n), (19, .int .i64 k)], st := t, h := g }) (fun z => s.n - z.2.1) (0, 0, .nils, hS, []) rfl ⟨Nat.zero_le _, rfl, rfl, by simp, fun j hj => by simp at hj, .inl ⟨rfl, rfl⟩, fun o e => by simp [rowOf] at e, Nat.le_refl _, ?_, fun _ _ _ => rfl⟩ ?_
 ·have : dnOf s [] = fun _ => false := by funext k; simp [dnOf]
  simp only [this]; exact H.at'.d
 rintro ⟨t, k, w, g, D⟩ ⟨k1, I⟩
 simp only at k1 I
 have hE := (RowV.p I.out).evs
 have A := H.sat I
 simp (disch := omega) only [go_sem, a35l0, a35r6, hE.ev]
 refine condS_if (fun c1 => ?_) (fun c1 => ?_)
 ·have hk : k < s.n := by omega
  have hlen := I.len
  obtain ⟨p, hp⟩ := find_ks Gn I.nd (by omega)
  obtain ⟨hp1, i0, hi0, e0, hp2⟩ := List.find?_eq_some_iff_getElem.1 hp
  have hpn : p < s.n := mem_ks.1 (List.mem_of_find?_eq_some hp)
  have hi0n : i0 < s.n := by rw [ks_len] at hi0; exact hi0
  have hgl : ∀ i, i < s.n → ((ksG s G.N).map (grp s G.N)).getD i [] = grp s G.N ((ksG s G.N).getD i 0) ∧ ((ksG s G.N).map (fun k => vs.getD k .nils)).getD i .nils = vs.getD ((ksG s G.N).getD i 0) .nils ∧ (ksG s G.N).getD i 0 < s.n := fun i hi => by
   have hi' : i < (ksG s G.N).length := by rw [ks_len]; exact hi
   simp only [List.getD_eq_getElem?_getD, List.getElem?_map, List.getElem?_eq_getElem hi', Option.map_some, Option.getD_some, true_and]
   exact mem_ks.1 (List.getElem_mem hi')
  have hks0 : (ksG s G.N).getD i0 0 = p := by rw [List.getD_eq_getElem?_getD, List.getElem?_eq_getElem hi0]; exact e0
  have hGR : GrpRow g ((ksG s G.N).map (fun k => vs.getD k .nils)) ((ksG s G.N).map (grp s G.N)) := ⟨by simp, fun i hi => by
   have hi' : i < s.n := by rw [List.length_map, ks_len] at hi; exact hi
   obtain ⟨q1, q2, q3⟩ := hgl i hi'
   rw [q1, q2]
   exact H.gr' I q3⟩
  have hrow : g.get og = some (.row 1 0 ((ksG s G.N).map (fun k => vs.getD k .nils))) := by rw [I.keep og H.ogs.2 H.ogs.1]; exact H.row
  have hlk : ((ksG s G.N).map (grp s G.N)).length = s.n := by rw [List.length_map, ks_len]
  have hix := index_fun' hP C A Gn.lt (gl := (ksG s G.N).map (grp s G.N)) hGR hrow (fun l hl => by
   obtain ⟨j, hj, rfl⟩ := List.mem_map.1 hl
   have hj' := mem_ks.1 hj
   exact ⟨fun f hf => (mem_grp.1 hf).1, Nat.le_trans (Nat.le_trans (List.length_filter_le _ _) (by simp)) (show G.N ≤ 1000000 by omega), grp_ne Gn hj'⟩) (by rw [hlk]; omega) (i0 := i0) (by rw [hlk]; exact hi0n) (by rw [(hgl i0 hi0n).1, hks0, pickL_K Gn D hpn]; exact hp1) (fun j hj => by
    have hjn : j < s.n := by omega
    rw [(hgl j hjn).1, pickL_K Gn D (hgl j hjn).2.2]
    have := hp2 j hj
    have hj' : j < (ksG s G.N).length := by rw [ks_len]; exact hjn
    rw [List.getD_eq_getElem?_getD, List.getElem?_eq_getElem hj']
    simpa using this)
  rw [hlk] at hix
  simp (disch := omega) only [go_sem, a35r7, hE.ev]
  refine WO.fun (vs := [.hs 1 og 0 0 s.n false, .fn 65 [.ptr S.b5 0, .ptr S.b2 0, .ptr S.b6 0]]) (by simp (disch := omega) only [go_sem]) hix (fun u h2 hu => ?_)
  obtain ⟨eu, eh⟩ := hu
  rw [eu, eh]
  simp (disch := omega) only [go_sem, hE.ev]
  obtain ⟨op, epp, rest, p1, p2⟩ := H.gr' I hpn
  have hcell : ((ksG s G.N).map (fun k => vs.getD k .nils))[i0]? = some (.hs 1 op epp 0 (grp s G.N p).length false) := by
   rw [vs_get (by rw [List.length_map, ks_len]; exact hi0n), (hgl i0 hi0n).2.1, hks0, p1]
  have f1 := sub1 hcell
  have hpl := grp_ne Gn hpn
  have f2 : takeN 1 (natsI (grp s G.N p) ++ rest) = some [.int .i64 (fstG s G.N p : Nat)] := sub1 (natsI_get rest hpl)
  obtain ⟨hfN, hfo⟩ := fst_of Gn hpn
  have l1 := ldI (f := s.of) hfN
  rw [hfo] at l1
  have aA := A.grp.g
  unfold GC at aA
  have x1 := ovB (f := dnOf s D) (v := true) hpn
  simp (disch := omega) only [go_sem, a35d8, A.p2, A.p5, aA, A.grp.f, hrow, f1, f2, p2, l1, hpl, hi0n, hpn, hE.ev, Nat.mul_one, Nat.zero_mul]
  refine WD_store (o := S.od) (ep := 0) (k := p) (val := .bool true) (by simp (disch := omega) only [go_sem]) (by simp (disch := omega) only [go_sem]) rfl I.od x1 rfl ?_
  have hpD : p ∉ D := by
   have := hp1
   rw [pickK, Bool.and_eq_true] at this
   simpa [dnOf] using this.1
  have hdn : upd (dnOf s D) p true = dnOf s (D ++ [p]) := by
   funext j
   unfold upd dnOf
   by_cases e : j = p
   ·subst e; simp
   ·simp [e]
  rw [hdn]
  have n1 : (g.put S.od (.row 1 0 (boolsT s.n (dnOf s (D ++ [p]))))).next = g.next := rfl
  have n2 : ∀ o, o ≠ S.od → (g.put S.od (.row 1 0 (boolsT s.n (dnOf s (D ++ [p]))))).get o = g.get o := fun o ho => get_put_ne _ _ _ _ ho
  have n3 : (g.put S.od (.row 1 0 (boolsT s.n (dnOf s (D ++ [p]))))).get S.od = some (.row 1 0 (boolsT s.n (dnOf s (D ++ [p])))) := get_put_same _ _ _
  generalize g.put S.od _ = g2 at n1 n2 n3 ⊢
  have hwod : ∀ o, rowOf w = some o → o ≠ S.od := fun o e e2 => by have := (I.own o e).1; have := H.lt.1; omega
  have hrow2 : g2.get og = some (.row 1 0 ((ksG s G.N).map (fun k => vs.getD k .nils))) := (n2 og H.ogs.1).trans hrow
  have hout2 : RowV (g2.reserve 1) w (D.map (fun k => vs.getD k .nils)) := by
   rcases I.out with e | ⟨o, ep, e, q⟩
   ·exact .inl e
   ·exact .inr ⟨o, ep, e, (n2 o (hwod o (by rw [e]; rfl))).trans q⟩
  simp (disch := omega) only [go_sem, hE.ev]
  simp (disch := omega) only [go_sem, a35r9, hrow2, f1, hi0n, hE.ev, hE.dat, Nat.mul_one]
  refine step_app (α := AV) hout2 (adds_one (α := AV) (g2.reserve 1) (.hs 1 op epp 0 (grp s G.N p).length false) _ true rfl) rfl (by simp only [List.length_map, List.length_cons, List.length_nil, two47]; omega) (fun w' g' q1 q2 q3 q4 => ?_)
  have hE' := (RowV.p q1).evs
  simp (disch := omega) only [go_sem, hE'.ev]
  simp (disch := omega) only [go_sem, hE'.ev, a35r10]
  have hmap : (D ++ [p]).map (fun k => vs.getD k .nils) = D.map (fun k => vs.getD k .nils) ++ [.hs 1 op epp 0 (grp s G.N p).length false] := by rw [List.map_append, List.map_cons, List.map_nil, p1]
  have hkeep : ∀ o, o < hS.next → g'.get o = g2.get o := fun o ho => q4 o (fun e => by have := I.next; omega) (fun e => by have := (I.own o e).1; omega)
  rw [reserve_next] at q2
  refine ⟨(_, k + 1, w', g', D ++ [p]), ⟨by simp only; omega, ⟨?_, by simp only [List.length_append, hlen, List.length_cons, List.length_nil], ?_, fun j hj => ?_, by rw [hmap]; exact q1, fun o e => ?_, by show hS.next ≤ g'.next; rw [q2, n1]; have := I.next; omega, (hkeep _ H.lt.1).trans n3, fun o h1 h2 => by rw [hkeep o h1, n2 o h2]; exact I.keep o h1 h2⟩⟩, by simp only; omega, by push_cast; rfl⟩
  ·have := I.run
   rw [show s.n - k = (s.n - (k + 1)) + 1 by omega, runK, hp] at this
   exact this
  ·rw [List.nodup_append]; exact ⟨I.nd, by simp, fun a ha b hb e => hpD (by rw [List.mem_singleton.1 hb] at e; exact e ▸ ha)⟩
  ·rcases List.mem_append.1 hj with h | h
   ·exact I.lt j h
   ·rw [List.mem_singleton.1 h]; exact hpn
  ·have hnx := I.next
   rcases q3 with e2 | e2 <;> rw [e2] at e
   ·have := I.own o e
    exact ⟨this.1, by show o < g'.next; rw [q2, n1]; omega⟩
   ·have := Option.some.inj e
    subst this
    exact ⟨by rw [n1]; exact hnx, by show g2.next < g'.next; rw [q2]; omega⟩
 ·have e : k = s.n := by omega
  have hrun := I.run
  rw [e, Nat.sub_self] at hrun
  have hrun' : D = runK c s G.N s.n [] := hrun
  simp (disch := omega) only [go_sem, a35r11, hE.ev, hE.dat]
  rw [← hrun']
  refine ⟨D.map (fun k => vs.getD k .nils), I.out, by simp, fun i hi => ?_, fun o e => by have := (I.own o e).1; have := H.base; omega, fun i o hi e => ?_⟩
  ·have hi' : i < D.length := by simpa using hi
   have hj := I.lt _ (List.getElem_mem hi')
   obtain ⟨o, ep, rest, q1, q2⟩ := H.gr' I hj
   simp only [List.getD_eq_getElem?_getD, List.getElem?_map, List.getElem?_eq_getElem hi', Option.map_some, Option.getD_some] at q1 ⊢
   refine .inr ⟨o, ep, rest, by rw [q1]; simp [castL, sz_Int], ?_⟩
   rw [q2]
   have : (castL (grp s G.N D[i])).flatMap Enc.cells = natsI (grp s G.N D[i]) := by rw [flat_int, castL, natsI, List.map_map]; rfl
   rw [this]; rfl
  ·have hi' : i < D.length := by simpa using hi
   have hj := I.lt _ (List.getElem_mem hi')
   simp only [List.getD_eq_getElem?_getD, List.getElem?_map, List.getElem?_eq_getElem hi', Option.map_some, Option.getD_some] at e
   have := (H.own D[i] o hj (by simpa only [List.getD_eq_getElem?_getD] using e)).1
   exact this
theorem sorted_fun (hP : EfP P) {c : Nat → List Nat} {G : GP} (C : FromC c G) {h : Heap} {v : AV} {s : TS} (Gn : GrN c G.N s) {base og : Nat} {vs : List AV} (H : SortH G h v s base og vs) :
  Fun P 35 [.ptr G.q 0, .hs 1 og 0 0 s.n false] h (fun u h' => ∃ us, NestW base h' u us ((runK c s G.N s.n []).map (fun k => castL (grp s G.N k)))) := by
 refine Fun.of (code := a35c) (hP.code rfl) (by rw [hP.pure]; rfl) ?_
 have hbig := C.big
 have hnN := Gn.n
 simp (disch := omega) only [go_sem, a35c, a35r0]
 have hne : ∀ i o, i < s.n → rowOf (vs.getD i .nils) = some o → o ≠ h.next := fun i o hi e => by have := (H.own i o hi e).2.1; omega
 have g1 : ((h.reserve 1).put h.next (.cells [.ptr G.q 0])).get og = some (.row 1 0 vs) := by
  rw [get_put_ne _ _ _ _ (by have := H.ogs.2.2; omega)]; exact H.row
 have hr1 : GrpRow ((h.reserve 1).put h.next (.cells [.ptr G.q 0])) vs ((List.range s.n).map (grp s G.N)) := ⟨H.gr.len, fun i hi => by
  obtain ⟨o, ep, rest, e1, e2⟩ := H.gr.el i hi
  exact ⟨o, ep, rest, e1, by rw [get_put_ne _ _ _ _ (hne i o (by simpa using hi) (by rw [e1]; rfl))]; exact e2⟩⟩
 simp (disch := omega) only [go_sem, a35r1]
 refine WO.fun (vs := [.hs 1 og 0 0 s.n false, .fn 62 []]) (by simp (disch := omega) only [go_sem]) (sortg_fun hP Gn C.big g1 hr1 (fun i o hi e => (H.own i o hi e).2.2)) (fun u h2 hu => ?_)
 obtain ⟨eu, eh⟩ := hu
 rw [eu]
 simp (disch := omega) only [go_sem]
 have f1 : h2.next = h.next + 1 := by rw [eh]; rfl
 have f2 : h2.get h.next = some (.cells [.ptr G.q 0]) := by rw [eh, get_put_ne _ _ _ _ (by have := H.ogs.2.2; omega)]; exact get_put_same _ _ _
 have f3 : h2.get og = some (.row 1 0 ((ksG s G.N).map (fun k => vs.getD k .nils))) := by rw [eh]; exact get_put_same _ _ _
 have f4 : ∀ o, o < h.next → o ≠ og → h2.get o = h.get o := fun o h1 h3 => by
  rw [eh, get_put_ne _ _ _ _ h3, get_put_ne _ _ _ _ (by omega)]; rfl
 clear eh g1 hr1
 have a1 := (H.at'.g)
 unfold GC at a1
 have hqo : G.q ≠ og := fun e => H.ogs.1 (e ▸ (mem_objs G).1)
 have a2 : h2.get G.q = some (.cells _) := (f4 _ (H.at'.lt _ (mem_objs G).1) hqo).trans a1
 have hql := H.at'.lt _ (mem_objs G).1
 have hmk : ∀ (s' : St) (o : Nat), mkslO s' o 1 1 [.bool false] (some (.int .i64 (s.n : Nat))) (some (.int .i64 (s.n : Nat))) = some (.hs 1 o 0 0 s.n false, { s' with h := s'.h.put o (.row 1 0 (repl [.bool false] s.n)) }) := fun s' o => mksl_ok (by unfold two47; omega)
 simp (disch := omega) only [go_sem, a35r2, f2, a2, hmk, repl_bool]
 simp (disch := omega) only [go_sem, a35r3]
 simp (disch := omega) only [go_sem, a35r4]
 simp (disch := omega) only [go_sem, a35r5]
 have hSn : (((((h2.reserve 2).put h2.next (.row 1 0 (boolsT s.n fun x => false))).put (h2.next + 1) (.cells [.hs 1 h2.next 0 0 s.n false])).reserve 1).put (h2.next + 2) (.cells [.fn 63 [.ptr h.next 0, .ptr (h2.next + 1) 0]])).next = h.next + 4 := by
  show h2.next + 2 + 1 = _; omega
 have s1 : ∀ o, o < h2.next → (((((h2.reserve 2).put h2.next (.row 1 0 (boolsT s.n fun x => false))).put (h2.next + 1) (.cells [.hs 1 h2.next 0 0 s.n false])).reserve 1).put (h2.next + 2) (.cells [.fn 63 [.ptr h.next 0, .ptr (h2.next + 1) 0]])).get o = h2.get o := fun o ho => by
  rw [get_put_ne _ _ _ _ (by omega)]
  show (((h2.reserve 2).put h2.next _).put (h2.next + 1) _).get o = _
  rw [get_put_ne _ _ _ _ (by omega), get_put_ne _ _ _ _ (by omega)]; rfl
 have s2 : (((((h2.reserve 2).put h2.next (.row 1 0 (boolsT s.n fun x => false))).put (h2.next + 1) (.cells [.hs 1 h2.next 0 0 s.n false])).reserve 1).put (h2.next + 2) (.cells [.fn 63 [.ptr h.next 0, .ptr (h2.next + 1) 0]])).get h2.next = some (.row 1 0 (boolsT s.n fun x => false)) := by
  rw [get_put_ne _ _ _ _ (by omega)]
  show (((h2.reserve 2).put h2.next _).put (h2.next + 1) _).get _ = _
  rw [get_put_ne _ _ _ _ (by omega), get_put_same]
 have s3 : (((((h2.reserve 2).put h2.next (.row 1 0 (boolsT s.n fun x => false))).put (h2.next + 1) (.cells [.hs 1 h2.next 0 0 s.n false])).reserve 1).put (h2.next + 2) (.cells [.fn 63 [.ptr h.next 0, .ptr (h2.next + 1) 0]])).get (h2.next + 1) = some (.cells [.hs 1 h2.next 0 0 s.n false]) := by
  rw [get_put_ne _ _ _ _ (by omega)]
  show (((h2.reserve 2).put h2.next _).put (h2.next + 1) _).get _ = _
  rw [get_put_same]
 have s4 : (((((h2.reserve 2).put h2.next (.row 1 0 (boolsT s.n fun x => false))).put (h2.next + 1) (.cells [.hs 1 h2.next 0 0 s.n false])).reserve 1).put (h2.next + 2) (.cells [.fn 63 [.ptr h.next 0, .ptr (h2.next + 1) 0]])).get (h2.next + 2) = some (.cells [.fn 63 [.ptr h.next 0, .ptr (h2.next + 1) 0]]) := get_put_same _ _ _
 generalize (((((h2.reserve 2).put h2.next (.row 1 0 (boolsT s.n fun x => false))).put (h2.next + 1) (.cells [.hs 1 h2.next 0 0 s.n false])).reserve 1).put (h2.next + 2) (.cells [.fn 63 [.ptr h.next 0, .ptr (h2.next + 1) 0]])) = hS at hSn s1 s2 s3 s4 ⊢
 have s0 : ∀ o, o < h.next → o ≠ og → hS.get o = h.get o := fun o h1 h3 => by rw [s1 o (by omega)]; exact f4 o h1 h3
 obtain ⟨o1, o2, o3⟩ := H.ogs
 have hobj : ∀ o ∈ G.objs, o < h.next ∧ o ≠ og := fun o ho => ⟨H.at'.lt o ho, fun e => o1 (e ▸ ho)⟩
 have hvr : ∀ o, rowOf v = some o → o < h.next ∧ o ≠ og := fun o e => ⟨(H.at'.apart o e).2, fun e2 => o2 (e2 ▸ e)⟩
 refine sorted_loop hP C (S := ⟨h.next, h2.next + 1, h2.next + 2, h2.next⟩) Gn (v := v) (base := base) (hS := hS) ⟨⟨H.at'.keepAll (fun o ho => s0 o (hobj o ho).1 (hobj o ho).2) (fun o e => s0 o (hvr o e).1 (hvr o e).2) (by omega), (s1 _ (by show h.next < _; omega)).trans f2, s3, s4, s2⟩, (s1 og (by omega)).trans f3, ⟨H.gr.len, fun i hi => ?_⟩, ⟨by show og ≠ h2.next; omega, by omega⟩, fun i o hi e => ?_, ⟨fun hm => by have h3 := (hobj _ hm).1; simp only at h3; omega, fun e => by have := (hvr _ e).1; simp only at this; omega, by show h2.next ≠ h.next; omega, by show h2.next ≠ h2.next + 1; omega, by show h2.next ≠ h2.next + 2; omega⟩, ⟨by show h2.next < _; omega, by show h.next < _; omega, by show h2.next + 1 < _; omega, by show h2.next + 2 < _; omega⟩, by have := H.base; omega⟩
 ·obtain ⟨o, ep, rest, e1, e2⟩ := H.gr.el i hi
  have := H.own i o (by simpa using hi) (by rw [e1]; rfl)
  exact ⟨o, ep, rest, e1, by rw [s0 o this.2.1 this.2.2]; exact e2⟩
 ·have := H.own i o hi e
  exact ⟨this.1, by omega, by show o ≠ h2.next; omega⟩
end Go.Am.Ef
/- All groups (effect.Groups). -/
namespace Go.Am.Ef
open Go.Am
variable {P : Prog}
set_option maxRecDepth 20000
set_option maxHeartbeats 1000000
def cN (p : ProgV) (f : Nat) : List Nat := (callsF (p.fns.getD f default)).map Int.toNat
structure CallsOk (p : ProgV) : Prop where
 big : p.fns.length ≤ 100000
 deeds : ∀ f ∈ p.fns, (deedsF f).length ≤ 100000
 lt : ∀ f ∈ p.fns, ∀ x ∈ callsF f, 0 ≤ x ∧ x < p.fns.length
theorem callsF_len (f : FuncV) : (callsF f).length ≤ (deedsF f).length := by
 unfold callsF
 refine Nat.le_trans (uq_len _ _) ?_
 rw [(sortBy_perm _ _).length_eq]
 exact fnsOf_len _
structure FillI (G : GP) (N0 : Nat) (h : Heap) (v : AV) (s : TS) (og j : Nat) (vs : List AV) : Prop where
 at' : GAt G h v s
 row : h.get og = some (.row 1 0 vs)
 len : vs.length = s.n
 el : ∀ k, k < s.n → RowP h (vs.getD k .nils) (castL ((List.range j).filter (fun x => decide (s.of x = k))))
 own : ∀ k o, k < s.n → rowOf (vs.getD k .nils) = some o → og < o ∧ o < h.next
 apart : ∀ k i o, k < s.n → i < s.n → k ≠ i → rowOf (vs.getD k .nils) = some o → rowOf (vs.getD i .nils) ≠ some o
 ogs : og ∉ G.objs ∧ rowOf v ≠ some og ∧ og < h.next ∧ N0 ≤ og
 high : ∀ o ∈ G.objs, o < og
 vhigh : ∀ o, rowOf v = some o → o < og
theorem castL_snoc (l : List Nat) (x : Nat) : castL (l ++ [x]) = castL l ++ [((x : Nat) : Int)] := by simp [castL]
theorem fill_step {G : GP} {N0 : Nat} {h : Heap} {v : AV} {s : TS} {og j : Nat} {vs : List AV} (I : FillI G N0 h v s og j vs) (hk : s.of j < s.n) {w : AV} {h' : Heap}
  (q1 : RowP h' w (castL ((List.range j).filter (fun x => decide (s.of x = s.of j))) ++ [((j : Nat) : Int)])) (q2 : h'.next = h.next + 1) (q3 : rowOf w = rowOf (vs.getD (s.of j) .nils) ∨ rowOf w = some h.next) (q4 : ∀ q, q ≠ h.next → rowOf (vs.getD (s.of j) .nils) ≠ some q → h'.get q = h.get q) :
  FillI G N0 (h'.put og (.row 1 0 (vs.set (s.of j) w))) v s og (j + 1) (vs.set (s.of j) w) := by
 obtain ⟨o1, o2, o3, o4⟩ := I.ogs
 have hlt : s.of j < vs.length := by rw [I.len]; exact hk
 have hset : ∀ k, k < s.n → (vs.set (s.of j) w).getD k .nils = if k = s.of j then w else vs.getD k .nils := fun k hk2 => by
  have hk3 : k < vs.length := by rw [I.len]; exact hk2
  simp only [List.getD_eq_getElem?_getD, List.getElem?_set]
  by_cases e : s.of j = k
  ·subst e; simp [hlt]
  ·rw [if_neg e, if_neg (Ne.symm e)]
 have hrow : ∀ o, rowOf w = some o → og < o ∧ o < h'.next := fun o e => by
  rcases q3 with e2 | e2 <;> rw [e2] at e
  ·have := I.own _ o hk e; omega
  ·have := Option.some.inj e; omega
 have hkeep : ∀ o, o ≤ og → h'.get o = h.get o := fun o ho => q4 o (by omega) (fun e => by have := (I.own _ o hk e).1; omega)
 have hfil : ∀ k, (List.range (j + 1)).filter (fun x => decide (s.of x = k)) = (List.range j).filter (fun x => decide (s.of x = k)) ++ (if s.of j = k then [j] else []) := fun k => by
  rw [List.range_succ, List.filter_append]
  congr 1
  by_cases e : s.of j = k
  ·simp [e]
  ·simp [e]
 refine ⟨I.at'.keepAll (fun o ho => ?_) (fun o e => ?_) (by show h.next ≤ h'.next; omega), get_put_same _ _ _, by rw [List.length_set]; exact I.len, fun k hk2 => ?_, fun k o hk2 e => ?_, fun k i o hk2 hi hne e e2 => ?_, ⟨o1, o2, by show og < h'.next; omega, o4⟩, I.high, I.vhigh⟩
 ·have := I.high o ho
  rw [get_put_ne _ _ _ _ (by omega)]; exact hkeep o (by omega)
 ·have := I.vhigh o e
  rw [get_put_ne _ _ _ _ (by omega)]; exact hkeep o (by omega)
 ·rw [hset k hk2, hfil k]
  by_cases e : k = s.of j
  ·subst e
   rw [if_pos rfl, if_pos rfl, castL_snoc]
   exact q1.keep (fun o e2 => get_put_ne _ _ _ _ (by have := (hrow o e2).1; omega))
  ·rw [if_neg e, if_neg (Ne.symm e), List.append_nil]
   refine (I.el k hk2).keep (fun o e2 => ?_)
   have h1 := I.own k o hk2 e2
   rw [get_put_ne _ _ _ _ (by omega)]
   exact q4 o (by omega) (I.apart k _ o hk2 hk e e2)
 ·rw [hset k hk2] at e
  by_cases e1 : k = s.of j
  ·rw [if_pos e1] at e; exact hrow o e
  ·rw [if_neg e1] at e
   have := I.own k o hk2 e
   exact ⟨this.1, by show o < h'.next; omega⟩
 ·rw [hset k hk2] at e
  rw [hset i hi] at e2
  by_cases e3 : k = s.of j
  ·rw [if_pos e3] at e
   rw [if_neg (fun e4 => hne (e3.trans e4.symm))] at e2
   rcases q3 with e5 | e5 <;> rw [e5] at e
   ·exact I.apart _ i o hk hi (fun e4 => hne (e3.trans e4)) e e2
   ·have := (I.own i o hi e2).2; have := Option.some.inj e; omega
  ·rw [if_neg e3] at e
   by_cases e4 : i = s.of j
   ·rw [if_pos e4] at e2
    rcases q3 with e5 | e5 <;> rw [e5] at e2
    ·exact I.apart k _ o hk2 hk e3 e e2
    ·have := (I.own k o hk2 e).2; have := Option.some.inj e2; omega
   ·rw [if_neg e4] at e2; exact I.apart k i o hk2 hi hne e e2
theorem groups_den (hP : EfP P) (p : ProgV) (hw : ProgWf p) (hc : mayP p = true → CallsOk p) (hn : p.fns.length ≤ 100000) (hd : ∀ f ∈ p.fns, (deedsF f).length ≤ 100000) :
  Den P 11 [p.av] (fun v => (mayP p = false ∧ v = .tup [.nils, .int .i64 1]) ∨ (mayP p = true ∧ ∃ s, GrN (cN p) p.fns.length s ∧ ∃ nl, ∃ cs : List SlI, v = .tup [slv nl false cs, .int .i64 0] ∧ cs.map (·.l) = (runK (cN p) s p.fns.length s.n []).map (fun k => castL (grp s p.fns.length k)))) := by
 refine Den.of (code := a11c) (hP.code rfl) (fun N => ?_)
 unfold ProgV.av
 simp (disch := omega) only [go_sem, a11c, a11r0]
 simp (disch := omega) only [go_sem, a11r1]
 refine WO.den (k := 0) (vs := [p.av]) (by rw [hP.pure]; rfl) (by simp (disch := omega) only [go_sem]; rfl) (calls_den hP p hw hn hd) (fun v hv => ?_) (fun v hv => ?_)
 ·rcases hv with ⟨-, rfl⟩ | ⟨-, nl, cs, rfl, -⟩
  ·rfl
  ·refine alone1_tup _ (fun x hx => ?_)
   simp only [List.mem_cons, List.not_mem_nil, or_false] at hx
   rcases hx with rfl | rfl
   ·exact pureV_slv _ _ _ _ (Nat.le_refl _)
   ·rfl
 rcases hv with ⟨hm, rfl⟩ | ⟨hm, ncs, cs, rfl, hcs⟩
 ·simp (disch := omega) only [go_sem]
  simp (disch := omega) only [go_sem, a11r2]
  simp (disch := omega) only [go_sem, a11r3]
  exact .inl ⟨hm, trivial⟩
 simp (disch := omega) only [go_sem]
 simp (disch := omega) only [go_sem, a11r2]
 have hlen : cs.length = p.fns.length := by have := congrArg List.length hcs; simpa using this
 simp (disch := omega) only [go_sem, a11r4, hlen]
 have hC := hc hm
 have hmk : ∀ (s' : St) (o : Nat), mkslO s' o 1 8 [.int .i64 0] (some (.int .i64 (p.fns.length : Nat))) (some (.int .i64 (p.fns.length : Nat))) = some (.hs 1 o 0 0 p.fns.length false, { s' with h := s'.h.put o (.row 1 0 (repl [.int .i64 0] p.fns.length)) }) := fun s' o => mksl_ok (by unfold two47; omega)
 have hmk2 : ∀ (s' : St) (o : Nat), mkslO s' o 1 1 [.bool false] (some (.int .i64 (p.fns.length : Nat))) (some (.int .i64 (p.fns.length : Nat))) = some (.hs 1 o 0 0 p.fns.length false, { s' with h := s'.h.put o (.row 1 0 (repl [.bool false] p.fns.length)) }) := fun s' o => mksl_ok (by unfold two47; omega)
 simp (disch := omega) only [go_sem, a11d5, hmk, hmk2, repl_bool, repl_int]
 have hfC : FromC (cN p) ⟨N + 4, N, N + 1, N + 2, N + 3, ncs, cs, p.fns.length⟩ := ⟨⟨by simp, by simp, by simp, by simp, by simp, by simp, by simp, by simp, by simp, by simp⟩, hlen, hn, fun f hf => ?_, fun f hf => ?_, fun f hf x hx => ?_⟩
 rotate_left
 ·unfold cN
  rw [List.length_map]
  exact Nat.le_trans (callsF_len _) (hd _ (slv_get hf))
 ·have h1 : (cs.getD f default).l = callsF (p.fns.getD f default) := by
   have := congrArg (fun z => z[f]?) hcs
   have hf' : f < cs.length := by rw [hlen]; exact hf
   have hf2 : f < p.fns.length := hf
   simp only [List.getElem?_map, List.getElem?_eq_getElem hf', List.getElem?_eq_getElem hf2, Option.map_some, Option.some.injEq] at this
   simp only [List.getD_eq_getElem?_getD, List.getElem?_eq_getElem hf', List.getElem?_eq_getElem hf2, Option.getD_some]
   exact this
  show (cs.getD f default).l = _
  rw [h1, cN, List.map_map]
  conv => lhs; rw [← List.map_id (callsF (p.fns.getD f default))]
  refine List.map_congr_left (fun x hx => ?_)
  have := (hC.lt _ (slv_get hf) x hx).1
  simp only [id_eq, Function.comp_apply]; omega
 ·unfold cN at hx
  obtain ⟨y, hy, rfl⟩ := List.mem_map.1 hx
  have := hC.lt _ (slv_get hf) y hy
  show y.toNat < p.fns.length
  omega
 generalize hh : Heap.put _ (N + 4) _ = hG
 have hg0 : GAt ⟨N + 4, N, N + 1, N + 2, N + 3, ncs, cs, p.fns.length⟩ hG .nils initT := by
  rw [← hh]
  refine ⟨get_put_same _ _ _, ?_, ?_, ?_, ?_, .inl ⟨rfl, rfl⟩, fun o e => by simp [rowOf] at e, fun o ho => ?_⟩
  ·show _ = some (AObj.row 1 0 (intsT p.fns.length fun x => 0))
   rw [get_put_ne _ _ _ _ (by simp only; omega), get_put_ne _ _ _ _ (by simp only; omega), get_put_ne _ _ _ _ (by simp only; omega), get_put_ne _ _ _ _ (by simp only; omega)]
   exact get_put_same _ _ _
  ·show _ = some (AObj.row 1 0 (intsT p.fns.length fun x => 0))
   rw [get_put_ne _ _ _ _ (by simp only; omega), get_put_ne _ _ _ _ (by simp only; omega), get_put_ne _ _ _ _ (by simp only; omega)]
   exact get_put_same _ _ _
  ·show _ = some (AObj.row 1 0 (boolsT p.fns.length fun x => false))
   rw [get_put_ne _ _ _ _ (by simp only; omega), get_put_ne _ _ _ _ (by simp only; omega)]
   exact get_put_same _ _ _
  ·show _ = some (AObj.row 1 0 (intsT p.fns.length fun x => 0))
   rw [get_put_ne _ _ _ _ (by simp only; omega)]
   exact get_put_same _ _ _
  ·show o < N + 5
   simp only [GP.objs, List.mem_cons, List.not_mem_nil, or_false] at ho
   omega
 have hn0 : hG.next = N + 5 := by rw [← hh]; rfl
 clear hh
 simp (disch := omega) only [go_sem, a11r6]
 obtain ⟨G, C, hg, eq, eN, eo⟩ : ∃ G : GP, FromC (cN p) G ∧ GAt G hG .nils initT ∧ N + 4 = G.q ∧ p.fns.length = G.N ∧ (∀ o ∈ G.objs, N ≤ o) := ⟨_, hfC, hg0, rfl, rfl, fun o ho => by
  simp only [GP.objs, List.mem_cons, List.not_mem_nil, or_false] at ho
  omega⟩
 clear hfC hg0
 rw [eq, eN]
 generalize cN p = c at C ⊢
 have hbig := C.big
 refine Wp_loop (fun z : Nat × Nat × Heap => z.2.1 ≤ G.N ∧ N + 5 ≤ z.2.2.next ∧ ∃ s v, Inv c G.N s [] ∧ GAt G z.2.2 v s ∧ ∀ j, j < z.2.1 → s.order j ≠ 0) (fun (t, k, h) => { fr := [(7, .ptr G.q 0), (33, .int .i64 G.N), (34, .int .i64 k)], st := t, h := h }) (fun z => G.N - z.2.1) (2, 0, hG) rfl ⟨Nat.zero_le _, by simp only; omega, initT, .nils, Inv.init c G.N, hg, fun j hj => by simp only at hj; omega⟩ ?_
 rintro ⟨t, k, h⟩ ⟨k1, k2, s, v, I, A, hs⟩
 simp only at k1 k2 A hs
 have aA := A.g
 unfold GC at aA
 simp (disch := omega) only [go_sem, a11l0, a11r7]
 refine condS_if (fun c1 => ?_) (fun c1 => ?_)
 ·have hk : k < G.N := by omega
  have l1 := ldI (f := s.order) hk
  simp (disch := omega) only [go_sem, a11r8]
  simp (disch := omega) only [go_sem, a11r9, aA, A.o, Nat.mul_one, l1]
  refine condS_if (fun c2 => ?_) (fun c2 => ?_)
  ·simp (disch := omega) only [go_sem, a11r10]
   refine WO.fun (vs := [.ptr G.q 0, .int .i64 (k : Nat)]) (by simp (disch := omega) only [go_sem]) (from_fun hP C A I hk (by omega)) (fun u h2 hu => ?_)
   obtain ⟨eu, s', v', I', A', K', hs'⟩ := hu
   rw [eu]
   simp (disch := omega) only [go_sem]
   simp (disch := omega) only [go_sem, a11r11]
   exact ⟨(t, k + 1, h2), ⟨by simp only; omega, by have := K'.next; simp only; omega, s', v', I', A', fun j hj => hs' j (by
    simp only at hj
    by_cases e : j = k
    ·exact .inl e
    ·exact .inr (hs j (by omega)))⟩, by simp only; omega, by push_cast; rfl⟩
  ·simp (disch := omega) only [go_sem, a11r11]
   exact ⟨(t, k + 1, h), ⟨by simp only; omega, k2, s, v, I, A, fun j hj => by
    simp only at hj
    by_cases e : j = k
    ·subst e; omega
    ·exact hs j (by omega)⟩, by simp only; omega, by push_cast; rfl⟩
 ·have e : k = G.N := by omega
  subst e
  obtain ⟨r1, r2, r3, r4, r5⟩ := I.groups (fun x hx => hs x hx)
  have Gn : GrN c G.N s := ⟨r1, r2, r3, r4, r5, C.lt⟩
  have hmk3 : ∀ (s' : St) (o : Nat), mkslO s' o 1 24 [.nils] (some (.int .i64 (s.n : Nat))) (some (.int .i64 (s.n : Nat))) = some (.hs 1 o 0 0 s.n false, { s' with h := s'.h.put o (.row 1 0 (repl [.nils] s.n)) }) := fun s' o => mksl_ok (by unfold two47; omega)
  simp (disch := omega) only [go_sem, a11r12, aA, hmk3, repl_nils]
  have hI : FillI G (N + 5) ((h.reserve 1).put h.next (.row 1 0 (List.replicate s.n AV.nils))) v s h.next 0 (List.replicate s.n AV.nils) := by
   have hnn : ∀ k : Nat, (List.replicate s.n AV.nils).getD k AV.nils = AV.nils := fun k => by
    rw [List.getD_eq_getElem?_getD, List.getElem?_replicate]; split <;> rfl
   refine ⟨A.keepAll (fun o ho => get_put_ne _ _ _ _ (by have := A.lt o ho; omega)) (fun o e => get_put_ne _ _ _ _ (by have := (A.apart o e).2; omega)) (by show h.next ≤ h.next + 1; omega), get_put_same _ _ _, by simp, fun k hk => by rw [hnn]; exact .inl ⟨rfl, rfl⟩, fun k o hk e => by rw [hnn] at e; simp [rowOf] at e, fun k i o hk hi hne e => by rw [hnn] at e; simp [rowOf] at e, ⟨fun hm => by have := A.lt _ hm; omega, fun e => by have := (A.apart _ e).2; omega, by show h.next < h.next + 1; omega, k2⟩, fun o ho => A.lt o ho, fun o e => (A.apart o e).2⟩
  generalize (h.reserve 1).put h.next _ = h2 at hI ⊢
  have a2 := hI.at'.g
  unfold GC at a2
  simp (disch := omega) only [go_sem, a11r13, a2]
  refine Wp_loop (fun z : Nat × Nat × List AV × Heap => z.2.1 ≤ G.N ∧ FillI G (N + 5) z.2.2.2 v s h.next z.2.1 z.2.2.1) (fun (t, j, vs, g) => { fr := [(7, .ptr G.q 0), (9, .hs 1 h.next 0 0 s.n false), (57, .hs 1 G.rf 0 0 G.N false), (58, .int .i64 G.N), (59, .int .i64 j)], st := t, h := g }) (fun z => G.N - z.2.1) (t, 0, List.replicate s.n AV.nils, h2) rfl ⟨Nat.zero_le _, hI⟩ ?_
  rintro ⟨t2, j, vs, g⟩ ⟨j1, F⟩
  simp only at j1 F
  simp (disch := omega) only [go_sem, a11l1, a11r14]
  refine condS_if (fun c2 => ?_) (fun c2 => ?_)
  ·have hj : j < G.N := by omega
   have l1 := ldI (f := s.of) hj
   have hof := r1 j hj
   have hcell : vs[s.of j]? = some (vs.getD (s.of j) .nils) := vs_get (by rw [F.len]; exact hof)
   have f1 := sub1 hcell
   have hel := F.el _ hof
   have hE := hel.evs
   simp (disch := omega) only [go_sem, a11r15, F.at'.f, Nat.mul_one, l1, hj]
   simp (disch := omega) only [go_sem, a11r16, F.row, f1, hof, hE.ev, hE.dat, Nat.mul_one]
   refine step_appP (α := Int) (h := g.reserve 1) (hel.keep (fun _ _ => rfl)) (adds_one (α := Int) (g.reserve 1) ((j : Nat) : Int) _ true rfl) rfl (by decide) (by
    have : (castL ((List.range j).filter (fun x => decide (s.of x = s.of j)))).length ≤ j := by
     unfold castL
     rw [List.length_map]
     exact Nat.le_trans (List.length_filter_le _ _) (by simp)
    simp only [List.length_cons, List.length_nil, two47]; omega) (fun w g2 q1 q2 q3 q4 => ?_)
   have hE2 := q1.evs
   rw [reserve_next] at q2
   have hrow2 : g2.get h.next = some (.row 1 0 vs) := (q4 _ (by have := F.ogs.2.2.1; omega) (fun e => by have := (F.own _ _ hof e).1; omega)).trans F.row
   have x1 := over1 (c := vs) (k := s.of j) (by rw [F.len]; exact hof) w
   simp (disch := omega) only [go_sem, hrow2, hof, hE2.ev, hE2.dat, hE2.cel, Nat.mul_one, x1]
   simp (disch := omega) only [go_sem, a11r17]
   exact ⟨(t2, j + 1, vs.set (s.of j) w, g2.put h.next (.row 1 0 (vs.set (s.of j) w))), ⟨by simp only; omega, fill_step F hof q1 q2 q3 q4⟩, by simp only; omega, by push_cast; rfl⟩
  ·have e : j = G.N := by omega
   subst e
   simp (disch := omega) only [go_sem, a11r18]
   have hH : SortH G g v s N h.next vs := by
    refine ⟨F.at', F.row, ⟨by rw [F.len]; simp, fun i hi => ?_⟩, ⟨F.ogs.1, F.ogs.2.1, F.ogs.2.2.1⟩, fun i o hi e => ?_, by have := F.ogs.2.2; omega⟩
    ·have hi' : i < s.n := by simpa using hi
     rw [getD_map_range _ _ hi']
     have hg := grp_ne Gn hi'
     rcases F.el i hi' with ⟨-, e⟩ | ⟨o, ep, rest, e1, e2⟩
     ·have : (castL ((List.range G.N).filter (fun x => decide (s.of x = i)))).length = 0 := by rw [e]; rfl
      rw [castL, List.length_map] at this
      unfold grp at hg; omega
     ·refine ⟨o, ep, rest, ?_, ?_⟩
      ·rw [e1, castL, List.length_map]; rfl
      ·rw [e2, flat_int, castL, List.map_map]; rfl
    ·have := F.own i o hi e
     have := F.ogs.2.2.2
     exact ⟨by omega, by omega, by omega⟩
   refine WO.fun (vs := [.ptr G.q 0, .hs 1 h.next 0 0 s.n false]) (by simp (disch := omega) only [go_sem]) (sorted_fun hP C Gn hH) (fun u h3 hu => ?_)
   obtain ⟨us, hW⟩ := hu
   have hE3 := (RowV.p hW.row).evs
   simp (disch := omega) only [go_sem, hE3.ev, hE3.dat]
   obtain ⟨nl, cs', b1, b2⟩ := hW.back 37
   refine .inr ⟨hm, s, Gn, nl, cs', ?_, b2⟩
   rw [b1]
end Go.Am.Ef
/- Rows of rows of truths. -/
namespace Go.Am
instance encBool : EncP Bool where
 sz := 1
 cells b := [.bool b]
 len _ := rfl
 pur x c hc := by
  simp only [List.mem_singleton] at hc
  subst hc
  exact ⟨fun h b n => by cases n <;> rfl, rfl⟩
@[go_sem] theorem sz_Bool : Enc.sz Bool = 1 := rfl
@[go_sem] theorem cells_Bool (b : Bool) : Enc.cells b = [AV.bool b] := rfl
structure SlB where
 nl : Bool
 l : List Bool
 deriving Inhabited
theorem pureV_bools (nl : Bool) (l : List Bool) : pureV 1000000 (slv nl false l) = true := by
 rcases slv_cases nl false l with ⟨h, -⟩ | h <;> rw [h]
 ·rfl
 ·show allN (fun i => (cellsAtL l i).all (pureV 999999)) l.length = true
  refine allN_of (fun i hi => ?_)
  rw [cellsAtL_in hi]
  rfl
instance encSlB : EncP SlB where
 sz := 1
 cells s := [slv s.nl false s.l]
 len _ := rfl
 pur x c hc := by
  simp only [List.mem_singleton] at hc
  subst hc
  exact ⟨fun h b n => frz_slv h b n _ _ _, pureV_bools _ _⟩
@[go_sem] theorem sz_SlB : Enc.sz SlB = 1 := rfl
@[go_sem] theorem cells_SlB (s : SlB) : Enc.cells s = [slv s.nl false s.l] := rfl
end Go.Am
namespace Go.Am.Ef
open Go.Am
set_option maxRecDepth 20000
set_option maxHeartbeats 1000000
section
variable {h0 h : Heap} {m : Nat} {v : AV} {vs : List AV} {ls : List (List Bool)}
structure NestWB (base : Nat) (h : Heap) (v : AV) (vs : List AV) (ls : List (List Bool)) : Prop where
 row : RowV h v vs
 len : vs.length = ls.length
 el : ∀ i, i < ls.length → RowP h (vs.getD i .nils) (ls.getD i [])
 own : ∀ o, rowOf v = some o → base ≤ o
 own2 : ∀ i o, i < ls.length → rowOf (vs.getD i .nils) = some o → base ≤ o
theorem NestWB.back {base : Nat} (H : NestWB base h v vs ls) (n : Nat) : ∃ nl, ∃ cs : List SlB, frz h base (n + 2) v = slv nl false cs ∧ cs.map (·.l) = ls := by
 have hcs : ∀ i, i < ls.length → ∃ nl, frz h base (n + 1) (vs.getD i .nils) = slv nl false (ls.getD i []) := fun i hi => (H.el i hi).back (fun o e => H.own2 i o hi e) n
 have hex : ∀ k, k ≤ ls.length → ∃ cs : List SlB, cs.map (·.l) = ls.take k ∧ ∀ i, i < k → frz h base (n + 1) (vs.getD i .nils) = slv (cs.getD i default).nl false (cs.getD i default).l := fun k => by
  induction k with
  | zero => intro _; exact ⟨[], by simp, fun i hi => by omega⟩
  | succ k ih =>
   intro hk
   obtain ⟨cs, c1, c2⟩ := ih (by omega)
   obtain ⟨nl, e⟩ := hcs k (by omega)
   have hlen : cs.length = k := by have := congrArg List.length c1; rw [List.length_map, List.length_take] at this; omega
   refine ⟨cs ++ [⟨nl, ls.getD k []⟩], ?_, fun i hi => ?_⟩
   ·rw [List.map_append, c1, List.take_succ_eq_append_getElem (by omega), List.getD_eq_getElem?_getD, List.getElem?_eq_getElem (by omega)]; rfl
   ·by_cases h1 : i = k
    ·subst h1
     rw [e]
     simp only [List.getD_eq_getElem?_getD, ← hlen, List.getElem?_concat_length, Option.getD_some]
    ·have h2 : i < k := by omega
     rw [c2 i h2]
     simp only [List.getD_eq_getElem?_getD, List.getElem?_append, hlen, h2, if_true]
 obtain ⟨cs, c1, c2⟩ := hex ls.length (Nat.le_refl _)
 clear hex hcs
 show ∃ nl, ∃ cs : List SlB, frz h base ((n + 1) + 1) v = _ ∧ _
 generalize n + 1 = m' at c2 ⊢
 rw [List.take_length] at c1
 have hlen : cs.length = ls.length := by have := congrArg List.length c1; rwa [List.length_map] at this
 rcases H.row with ⟨rfl, e⟩ | ⟨o, ep, rfl, hg⟩
 ·have hl : ls.length = 0 := by rw [← H.len, e]; rfl
  have : cs = [] := List.length_eq_zero_iff.1 (by omega)
  subst this
  exact ⟨true, [], rfl, c1⟩
 ·refine ⟨false, cs, ?_, c1⟩
  have h1 : ¬ o < base := by have := H.own o rfl; omega
  rw [flat_AV] at hg
  have h2 : (0 + cs.length) * 1 ≤ cs.length := by omega
  have h3 : vs.length = cs.length := by rw [H.len, hlen]
  simp only [frz, nblt, h1, decide_false, cond_false, sz_AV, hg, nbeq, nble, h2, decide_true, Bool.and_self, cond_true, slv, Bool.false_and, sz_SlB, h3]
  congr 1
  funext i
  by_cases hi : i < cs.length
  ·simp only [hi, decide_true, cond_true, Nat.zero_add, Nat.mul_one]
   have hv : i < vs.length := by omega
   rw [cellsAtL_in hi, List.drop_eq_getElem_cons hv, List.take_succ_cons, List.take_zero]
   have := c2 i (by omega)
   rw [List.getD_eq_getElem?_getD, List.getElem?_eq_getElem hv, Option.getD_some] at this
   rw [List.map_cons, this]; rfl
  ·simp only [hi, decide_false, cond_false, cellsAtL, List.getElem?_eq_none (Nat.le_of_not_lt hi)]
end
end Go.Am.Ef
/- The document's calls, and what leads where. -/
namespace Go.Am.Ef
open Go.Am
variable {P : Prog}
set_option maxRecDepth 20000
set_option maxHeartbeats 1000000
def anyFn (l : List Deed) (b : Int) : Bool := l.any (fun d => decide (d.fn = b))
theorem refcalls_den (hP : EfP P) (p : ProgV) (hw : ProgWf p) (hd : ∀ f ∈ p.fns, (deedsF f).length ≤ 100000) {a : Nat} (ha : a < p.fns.length) (b : Int) :
  Den P 13 [p.av, .int .i64 (a : Nat), .int .i64 b] (fun v => v = .bool (anyFn (deedsF (p.fns.getD a default)) b)) := by
 refine Den.of (code := a13c) (hP.code rfl) (fun N => ?_)
 unfold ProgV.av
 simp (disch := omega) only [go_sem, a13c, a13r0]
 simp (disch := omega) only [go_sem, a13r1, ha]
 refine WO.den (k := 0) (vs := [.agg (Enc.cells (p.fns.getD a default))]) (by rw [hP.pure]; rfl) (by simp (disch := omega) only [go_sem]) (deeds23_den hP _ (hw.fns.2 _ (slv_get ha)) (hd _ (slv_get ha))) (fun v hv => by obtain ⟨nl, rfl⟩ := hv; exact alone1_slv _ _ _) (fun v hv => ?_)
 obtain ⟨nl, rfl⟩ := hv
 have hdl := hd _ (slv_get ha)
 generalize deedsF (p.fns.getD a default) = D at hdl ⊢
 simp (disch := omega) only [go_sem]
 simp (disch := omega) only [go_sem, a13r2]
 refine Wp_loop (fun z : Nat × Nat => z.2 ≤ D.length ∧ anyFn (D.take z.2) b = false) (fun (t, k) => { fr := [(2, .int .i64 b), (7, slv nl false D), (8, .int .i64 k)], st := t, h := { next := N, m := .leaf } }) (fun z => D.length - z.2) (1, 0) rfl ⟨Nat.zero_le _, by simp [anyFn]⟩ ?_
 rintro ⟨t, k⟩ ⟨k1, k2⟩
 simp only at k1 k2
 simp (disch := omega) only [go_sem, a13l0, a13r3]
 refine condS_if (fun c1 => ?_) (fun c1 => ?_)
 ·have hk : k < D.length := by omega
  have hnext : anyFn (D.take (k + 1)) b = (anyFn (D.take k) b || decide ((D.getD k default).fn = b)) := by
   unfold anyFn
   rw [List.take_succ_eq_append_getElem hk, List.any_append, List.getD_eq_getElem?_getD, List.getElem?_eq_getElem hk]; simp
  simp (disch := omega) only [go_sem, a13r4, hk]
  refine condS_if (fun c2 => ?_) (fun c2 => ?_)
  ·simp (disch := omega) only [go_sem, a13r5]
   have : anyFn D b = true := by
    unfold anyFn
    rw [List.any_eq_true]
    exact ⟨_, slv_get hk, by simpa using c2⟩
   rw [this]
  ·simp (disch := omega) only [go_sem, a13r6]
   exact ⟨(t, k + 1), ⟨by simp only; omega, by simp only; rw [hnext, k2, decide_eq_false c2]; rfl⟩, by simp only; omega, by push_cast; rfl⟩
 ·simp (disch := omega) only [go_sem, a13r7]
  have e : k = D.length := by omega
  rw [e, List.take_length] at k2
  rw [k2]
def natsOf (l : List Deed) : List Nat := (fnsOf l).map Int.toNat
def cR (p : ProgV) (f : Nat) : List Nat := natsOf (deedsF (p.fns.getD f default))
def addS (S : Nat → Bool) (b : Nat) (l : List Nat) : Nat → Bool := fun x => S x || (S b && decide (x ∈ l))
def turnS (c : Nat → List Nat) (S : Nat → Bool) : Nat → (Nat → Bool)
 | 0 => S
 | b + 1 => addS (turnS c S b) b (c b)
def turnsS (c : Nat → List Nat) (N : Nat) (S : Nat → Bool) : Nat → (Nat → Bool)
 | 0 => S
 | t + 1 => turnS c (turnsS c N S t) N
def leadS (c : Nat → List Nat) (N a : Nat) : Nat → Bool := turnsS c N (fun x => decide (x = a)) N
end Go.Am.Ef
/- What leads where (blazonref24.Leads). -/
namespace Go.Am.Ef
open Go.Am
variable {P : Prog}
set_option maxRecDepth 20000
set_option maxHeartbeats 1000000
structure RefOk (p : ProgV) : Prop where
 wf : ProgWf p
 big : p.fns.length ≤ 100000
 deeds : ∀ f ∈ p.fns, (deedsF f).length ≤ 100000
 lt : ∀ f ∈ p.fns, ∀ d ∈ deedsF f, d.fn < p.fns.length
end Go.Am.Ef
/- The document's groups (blazonref24.Groups). -/
namespace Go.Am.Ef
open Go.Am
variable {P : Prog}
set_option maxRecDepth 20000
set_option maxHeartbeats 1000000
def sccB (ld : Nat → Nat → Bool) (N a : Nat) : List Nat := (List.range N).filter (fun b => ld a b && ld b a)
def okB (ld : Nat → Nat → Bool) (F : Nat → Bool) (a b : Nat) : Bool := !ld a b || ld b a || F b
def pickB (ld : Nat → Nat → Bool) (N : Nat) (F : Nat → Bool) (a : Nat) : Bool := !F a && (List.range N).all (okB ld F a)
def orF (F : Nat → Bool) (l : List Nat) : Nat → Bool := fun b => F b || decide (b ∈ l)
def runB (ld : Nat → Nat → Bool) (N : Nat) : Nat → (Nat → Bool) → List (List Nat)
 | 0, _ => []
 | t + 1, F => match (List.range N).find? (pickB ld N F) with
  | none => runB ld N t F
  | some a => sccB ld N a :: runB ld N t (orF F (sccB ld N a))
structure RG (base n od : Nat) (g : Heap) (v : AV) (us : List AV) (ls : List (List Int)) (F : Nat → Bool) : Prop where
 w : NestW base g v us ls
 hv : ∀ o, rowOf v = some o → o < g.next ∧ o ≠ od
 hu : ∀ i o, i < ls.length → rowOf (us.getD i .nils) = some o → o < g.next ∧ rowOf v ≠ some o ∧ o ≠ od
 done : g.get od = some (.row 1 0 (boolsT n F))
 lt : base ≤ od ∧ od < g.next
section
variable {base n od : Nat} {g : Heap} {v : AV} {us : List AV} {ls : List (List Int)} {F : Nat → Bool}
theorem RG.grow (H : RG base n od g v us ls F) {g' : Heap} (h1 : g.next ≤ g'.next) (h2 : ∀ o, o < g.next → g'.get o = g.get o) : RG base n od g' v us ls F := by
 refine ⟨⟨?_, H.w.len, fun i hi => (H.w.el i hi).keep (fun o e => h2 o (H.hu i o hi e).1), H.w.own, H.w.own2⟩, fun o e => ⟨Nat.lt_of_lt_of_le (H.hv o e).1 h1, (H.hv o e).2⟩, fun i o hi e => ⟨Nat.lt_of_lt_of_le (H.hu i o hi e).1 h1, (H.hu i o hi e).2⟩, (h2 _ H.lt.2).trans H.done, ⟨H.lt.1, Nat.lt_of_lt_of_le H.lt.2 h1⟩⟩
 rcases H.w.row with e | ⟨o, ep, e, q⟩
 ·exact .inl e
 ·exact .inr ⟨o, ep, e, (h2 o (H.hv o (by rw [e]; rfl)).1).trans q⟩
theorem RG.evs (H : RG base n od g v us ls F) : Evs v := (RowV.p H.w.row).evs
theorem RG.add (H : RG base n od g v us ls F) {x : AV} {l : List Int} {w : AV} {g' : Heap} (hx : RowP g x l) (hxo : ∀ o, rowOf x = some o → base ≤ o ∧ o < g.next ∧ o ≠ od ∧ rowOf v ≠ some o)
  (q1 : RowV g' w (us ++ [x])) (q2 : g'.next = g.next + 1) (q3 : rowOf w = rowOf v ∨ rowOf w = some g.next) (q4 : ∀ q, q ≠ g.next → rowOf v ≠ some q → g'.get q = g.get q) : RG base n od g' w (us ++ [x]) (ls ++ [l]) F := by
 have hl := H.w.len
 have hlt := H.lt
 have hg : ∀ i, i < ls.length → (us ++ [x]).getD i .nils = us.getD i .nils ∧ (ls ++ [l]).getD i [] = ls.getD i [] := fun i hi => by
  simp only [List.getD_eq_getElem?_getD, List.getElem?_append, hi, hl, if_true, and_self]
 have hg2 : (us ++ [x]).getD ls.length .nils = x ∧ (ls ++ [l]).getD ls.length [] = l := by
  simp only [List.getD_eq_getElem?_getD, ← hl, List.getElem?_concat_length, Option.getD_some, true_and]
  rw [hl, List.getElem?_concat_length, Option.getD_some]
 have hall : ∀ i, i < (ls ++ [l]).length → i < ls.length ∨ i = ls.length := fun i hi => by rw [List.length_append] at hi; simp only [List.length_cons, List.length_nil] at hi; omega
 have hrw : ∀ o, rowOf w = some o → rowOf v = some o ∨ o = g.next := fun o e => by
  rcases q3 with e2 | e2 <;> rw [e2] at e
  ·exact .inl e
  ·exact .inr (Option.some.inj e).symm
 refine ⟨⟨q1, by rw [List.length_append, List.length_append, hl]; rfl, fun i hi => ?_, fun o e => ?_, fun i o hi e => ?_⟩, fun o e => ?_, fun i o hi e => ?_, (q4 _ (by omega) (fun e => (H.hv _ e).2 rfl)).trans H.done, ⟨hlt.1, by omega⟩⟩
 ·rcases hall i hi with h1 | rfl
  ·rw [(hg i h1).1, (hg i h1).2]
   refine (H.w.el i h1).keep (fun o e => q4 o ?_ (H.hu i o h1 e).2.1)
   have := (H.hu i o h1 e).1; omega
  ·rw [hg2.1, hg2.2]
   exact hx.keep (fun o e => q4 o (by have := (hxo o e).2.1; omega) (hxo o e).2.2.2)
 ·rcases hrw o e with e2 | e2
  ·exact H.w.own o e2
  ·omega
 ·rcases hall i hi with h1 | rfl
  ·rw [(hg i h1).1] at e; exact H.w.own2 i o h1 e
  ·rw [hg2.1] at e; exact (hxo o e).1
 ·rcases hrw o e with e2 | e2
  ·have := H.hv o e2; exact ⟨by omega, this.2⟩
  ·exact ⟨by omega, by omega⟩
 ·rcases hall i hi with h1 | rfl
  ·rw [(hg i h1).1] at e
   have h2 := H.hu i o h1 e
   refine ⟨by omega, fun e3 => ?_, h2.2.2⟩
   rcases hrw o e3 with e4 | e4
   ·exact h2.2.1 e4
   ·omega
  ·rw [hg2.1] at e
   have h2 := hxo o e
   refine ⟨by omega, fun e3 => ?_, h2.2.2.1⟩
   rcases hrw o e3 with e4 | e4
   ·exact h2.2.2.2 e4
   ·omega
end
end Go.Am.Ef

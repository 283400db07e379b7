/- The document's groups (blazonref24.Groups), whole. -/
import Derived.Test.YtpcopgdkcoiljaaDkAll4
set_option linter.unusedSimpArgs false
set_option linter.unusedVariables false
namespace Go.Am.Ef
open Go.Am
variable {P : Prog}
set_option maxRecDepth 20000
set_option maxHeartbeats 1000000
theorem castL_get {l : List Nat} {i : Nat} (hi : i < l.length) : (castL l).getD i default = ((l.getD i 0 : Nat) : Int) := by
 unfold castL
 rw [List.getD_eq_getElem?_getD, List.getElem?_map, List.getElem?_eq_getElem hi, List.getD_eq_getElem?_getD, List.getElem?_eq_getElem hi]; rfl
end Go.Am.Ef
/- The document's groups (blazonref24.Groups), the turns. -/
namespace Go.Am.Ef
open Go.Am
variable {P : Prog}
set_option maxRecDepth 20000
set_option maxHeartbeats 1000000
def addG (ld : Nat → Nat → Bool) (n : Nat) (F : Nat → Bool) : List (List Int) := match (List.range n).find? (pickB ld n F) with
 | none => []
 | some a => [castL (sccB ld n a)]
def nextF (ld : Nat → Nat → Bool) (n : Nat) (F : Nat → Bool) : Nat → Bool := match (List.range n).find? (pickB ld n F) with
 | none => F
 | some a => orF F (sccB ld n a)
end Go.Am.Ef
/- Calls, groups and sizes in plain words. Own work. -/
namespace Go.Am.Ef
open Go.Am
theorem codeD_may {ns nf : Nat} : ∀ (c : Code) (d : Nat), mayC ns nf c d = true → ∀ x ∈ codeD c, 0 ≤ x.fn ∧ x.fn < nf := by
 refine Code.ind fun k a n s f nm nl l ih d h x hx => ?_
 rw [mayC, Bool.and_eq_true, Bool.and_eq_true, mayCs_all, List.all_eq_true] at h
 rw [codeD] at hx
 rcases List.mem_append.1 hx with h1 | h1
 ·have : ∀ l' : List Code, (∀ c ∈ l', c ∈ l) → ∀ x ∈ codeDs l', 0 ≤ x.fn ∧ x.fn < nf := fun l' => by
   induction l' with
   | nil => intro _ x hx; simp [codeDs] at hx
   | cons c r ihr =>
    intro hm x hx
    rw [codeDs] at hx
    rcases List.mem_append.1 hx with h2 | h2
    ·exact ih c (hm c List.mem_cons_self) (d + 1) (h.2 c (hm c List.mem_cons_self)) x h2
    ·exact ihr (fun c hc => hm c (List.mem_cons_of_mem _ hc)) x h2
  exact this l (fun c hc => hc) x h1
 ·split at h1
  ·rename_i hk
   have h2 : inR f nf = true := by have := h.1.1; rw [hk] at this; simpa [okK] using this
   simp only [inR, Bool.and_eq_true, decide_eq_true_eq] at h2
   rw [List.mem_singleton.1 h1]
   exact h2
  ·simp at h1
theorem actDs_may {ns nf : Nat} : ∀ (x : Act) (d : Nat), mayA ns nf x d = true → ∀ y ∈ actD x, y.fn = -1 ∨ (0 ≤ y.fn ∧ y.fn < nf) := by
 refine Act.ind fun k a s nm e nl l ne els ih ih2 d h y hy => ?_
 have hs : ∀ (l0 : List Act) (d : Nat), (∀ x ∈ l0, ∀ (d : Nat), mayA ns nf x d = true → ∀ y ∈ actD x, y.fn = -1 ∨ (0 ≤ y.fn ∧ y.fn < nf)) → mayAs ns nf l0 d = true → ∀ y ∈ actDs l0, y.fn = -1 ∨ (0 ≤ y.fn ∧ y.fn < nf) := fun l0 => by
  induction l0 with
  | nil => intro d _ _ y hy; simp [actDs] at hy
  | cons c r ihr =>
   intro d h1 h2 y hy
   rw [mayAs, Bool.and_eq_true] at h2
   rw [actDs] at hy
   rcases List.mem_append.1 hy with h3 | h3
   ·exact h1 c List.mem_cons_self d h2.1 y h3
   ·exact ihr d (fun x hx => h1 x (List.mem_cons_of_mem _ hx)) h2.2 y h3
 rw [mayA_eq, Bool.and_eq_true] at h
 obtain ⟨h1, h2⟩ := h
 rw [actD_eq] at hy
 have ek : (Act.mk k a s nm e nl l ne els).kind = k := rfl
 have el : (Act.mk k a s nm e nl l ne els).l = l := rfl
 have ee : (Act.mk k a s nm e nl l ne els).els = els := rfl
 have ex : (Act.mk k a s nm e nl l ne els).e = e := rfl
 rw [ek, el, ee] at h2
 rw [ek, el, ee, ex] at hy
 split at hy
 ·rw [List.mem_singleton.1 hy]; exact .inl rfl
 ·rename_i hk
  rcases List.mem_append.1 hy with h3 | h3
  ·simp only [mayK, Bool.and_eq_true, Bool.or_eq_true, decide_eq_true_eq] at h1
   exact .inr (codeD_may e 1 (h1.2.resolve_left hk) y h3)
  ·split at h3
   ·rename_i h4
    rw [Bool.or_eq_true, decide_eq_true h4] at h2
    have h5 := h2.resolve_left (by simp)
    rw [Bool.and_eq_true] at h5
    rcases List.mem_append.1 h3 with h6 | h6
    ·exact hs l (d + 1) ih h5.1 y h6
    ·exact hs els (d + 1) ih2 h5.2 y h6
   ·simp at h3
theorem deedsF_may {p : ProgV} (h : mayP p = true) : ∀ f ∈ p.fns, ∀ d ∈ deedsF f, d.fn = -1 ∨ (0 ≤ d.fn ∧ d.fn < p.fns.length) := by
 intro f hf d hd
 rw [mayP, Bool.and_eq_true, List.all_eq_true] at h
 have h1 := h.1 f hf
 simp only [mayF, Bool.and_eq_true] at h1
 rw [deedsF] at hd
 rcases List.mem_append.1 hd with h2 | h2
 ·have hs : ∀ (l0 : List Act) (d : Nat), mayAs p.sites.length p.fns.length l0 d = true → ∀ y ∈ actDs l0, y.fn = -1 ∨ (0 ≤ y.fn ∧ y.fn < p.fns.length) := fun l0 => by
   induction l0 with
   | nil => intro d _ y hy; simp [actDs] at hy
   | cons c r ihr =>
    intro d h2 y hy
    rw [mayAs, Bool.and_eq_true] at h2
    rw [actDs] at hy
    rcases List.mem_append.1 hy with h3 | h3
    ·exact actDs_may c d h2.1 y h3
    ·exact ihr d h2.2 y h3
  exact hs f.body 1 h1.2.1.2 d h2
 ·exact .inr (codeD_may f.ret 1 h1.2.2 d h2)
theorem sizeC_deeds : ∀ (c : Code) (left : Int), 0 ≤ sizeC c left → ((codeD c).length : Int) ≤ left - sizeC c left ∧ 0 ≤ left := by
 refine Code.ind fun k a n s f nm nl l ih left h => ?_
 have hc := cost_le nm.length
 rw [sizeC] at h ⊢
 have key : ∀ (l0 : List Code), (∀ c ∈ l0, ∀ left, 0 ≤ sizeC c left → ((codeD c).length : Int) ≤ left - sizeC c left ∧ 0 ≤ left) → ∀ left, 0 ≤ sizeCs l0 left → ((codeDs l0).length : Int) ≤ left - sizeCs l0 left ∧ 0 ≤ left := fun l0 => by
  induction l0 with
  | nil => intro _ left h; simp only [sizeCs, codeDs, List.length_nil] at *; omega
  | cons c r ihr =>
   intro h1 left h2
   rw [sizeCs] at h2 ⊢
   split at h2
   ·rename_i hl
    rw [if_pos hl]
    have h3 := ihr (fun x hx => h1 x (List.mem_cons_of_mem _ hx)) _ h2
    have h4 := h1 c List.mem_cons_self left h3.2
    rw [codeDs, List.length_append]
    push_cast
    omega
   ·omega
 have h1 := key l ih _ h
 rw [codeD, List.length_append]
 have : ((if k = 3 then [(⟨a, [], f⟩ : Deed)] else []).length : Int) ≤ 1 := by split <;> simp
 push_cast at this ⊢
 omega
theorem sizeAs_deeds : ∀ (l0 : List Act), (∀ c ∈ l0, ∀ left, 0 ≤ sizeA c left → ((actD c).length : Int) ≤ left - sizeA c left ∧ 0 ≤ left) → ∀ left, 0 ≤ sizeAs l0 left → ((actDs l0).length : Int) ≤ left - sizeAs l0 left ∧ 0 ≤ left
 | [], _, left, h => by simp only [sizeAs, actDs, List.length_nil] at *; omega
 | c :: r, h1, left, h2 => by
  rw [sizeAs] at h2 ⊢
  split at h2
  ·rename_i hl
   rw [if_pos hl]
   have h3 := sizeAs_deeds r (fun x hx => h1 x (List.mem_cons_of_mem _ hx)) _ h2
   have h4 := h1 c List.mem_cons_self left h3.2
   rw [actDs, List.length_append]
   push_cast
   omega
  ·omega
theorem sizeA_deeds : ∀ (c : Act) (left : Int), 0 ≤ sizeA c left → ((actD c).length : Int) ≤ left - sizeA c left ∧ 0 ≤ left := by
 refine Act.ind fun k a s nm e nl l ne els ih ih2 left h => ?_
 have hc := cost_le nm.length
 rw [sizeA_eq] at h ⊢
 have ek : (Act.mk k a s nm e nl l ne els).kind = k := rfl
 have el : (Act.mk k a s nm e nl l ne els).l = l := rfl
 have ee : (Act.mk k a s nm e nl l ne els).els = els := rfl
 have ex : (Act.mk k a s nm e nl l ne els).e = e := rfl
 have en : (Act.mk k a s nm e nl l ne els).name = nm := rfl
 rw [ee, el, ex, en] at h ⊢
 have h1 := sizeAs_deeds els ih2 _ h
 have h2 := sizeAs_deeds l ih _ h1.2
 have h3 := sizeC_deeds e _ h2.2
 rw [actD_eq, ek, el, ee, ex]
 split
 ·simp only [List.length_cons, List.length_nil]; omega
 ·split
  ·simp only [List.length_append]; push_cast; omega
  ·simp only [List.length_append, List.length_nil]; push_cast; omega
theorem sizeFs_deeds : ∀ (l : List FuncV) (left : Int), 0 ≤ sizeFs l left → (l.length : Int) ≤ left - sizeFs l left ∧ 0 ≤ left ∧ ∀ f ∈ l, ((deedsF f).length : Int) ≤ left
 | [], left, h => by simp only [sizeFs, List.length_nil] at *; exact ⟨by omega, h, fun f hf => by simp at hf⟩
 | f :: r, left, h => by
  rw [sizeFs] at h ⊢
  split at h
  ·rename_i hl
   rw [if_pos hl]
   have h1 := sizeFs_deeds r _ h
   have h2 : 0 ≤ sizeF f left := h1.2.1
   have h3 : ((deedsF f).length : Int) + 1 ≤ left - sizeF f left := by
    unfold sizeF at h2 ⊢
    have h4 := sizeC_deeds f.ret _ h2
    have h5 := sizeAs_deeds f.body (fun c _ => sizeA_deeds c) _ h4.2
    rw [deedsF, List.length_append]
    push_cast
    omega
   refine ⟨by simp only [List.length_cons]; push_cast; omega, hl, fun g hg => ?_⟩
   rcases List.mem_cons.1 hg with rfl | hg
   ·omega
   ·have := h1.2.2 g hg; omega
  ·omega
theorem great_bnd {p : ProgV} (h : greatB p = false) : p.fns.length ≤ 400 ∧ p.sites.length ≤ 400 ∧ ∀ f ∈ p.fns, (deedsF f).length ≤ 400 := by
 rw [greatB, decide_eq_false_iff_not] at h
 have h1 := sizeFs_deeds p.fns _ (Int.not_lt.1 h)
 refine ⟨by omega, by omega, fun f hf => ?_⟩
 have := h1.2.2 f hf
 omega
theorem uq_mem (l : List Int) : ∀ m, m ≤ l.length → ∀ x, x ∈ uq l m ↔ x ∈ l.take m
 | 0, _, x => by simp [uq]
 | m + 1, hm, x => by
  have hml : m < l.length := by omega
  have hd : l.getD m 0 = l[m] := by rw [List.getD_eq_getElem?_getD, List.getElem?_eq_getElem hml]; rfl
  rw [uq, List.take_succ_eq_append_getElem hml, List.mem_append, List.mem_singleton, ← hd]
  split
  ·rw [List.mem_append, List.mem_singleton, uq_mem l m (by omega) x]
  ·rename_i h
   rw [uq_mem l m (by omega) x]
   refine ⟨.inl, fun h1 => h1.elim id (fun e => ?_)⟩
   have h2 : l.getD m 0 = l.getD (m - 1) 0 := Classical.byContradiction (fun h3 => h (.inr h3))
   have hm0 : m ≠ 0 := fun e => h (.inl e)
   rw [e, h2, List.getD_eq_getElem?_getD, List.getElem?_eq_getElem (by omega)]
   exact List.mem_take_iff_getElem.2 ⟨m - 1, by omega, rfl⟩
theorem callsF_mem (f : FuncV) (x : Int) : x ∈ callsF f ↔ x ∈ fnsOf (deedsF f) := by
 unfold callsF
 rw [uq_mem _ _ (Nat.le_refl _), List.take_length, (sortBy_perm _ _).mem_iff]
 rfl
theorem fnsOf_mem {l : List Deed} {x : Int} : x ∈ fnsOf l ↔ 0 ≤ x ∧ ∃ d ∈ l, d.fn = x := by
 unfold fnsOf
 rw [List.mem_map]
 constructor
 ·rintro ⟨d, hd, rfl⟩
  have := List.mem_filter.1 hd
  exact ⟨by simpa using this.2, d, this.1, rfl⟩
 ·rintro ⟨h, d, hd, rfl⟩
  exact ⟨d, List.mem_filter.2 ⟨hd, by simpa using h⟩, rfl⟩
theorem calls_ok {p : ProgV} (h : mayP p = true) (hg : greatB p = false) : CallsOk p := by
 obtain ⟨g1, g2, g3⟩ := great_bnd hg
 refine ⟨by omega, fun f hf => by have := g3 f hf; omega, fun f hf x hx => ?_⟩
 obtain ⟨q1, d, hd, q2⟩ := fnsOf_mem.1 ((callsF_mem f x).1 hx)
 have := deedsF_may h f hf d hd
 omega
section
variable {c : Nat → List Nat} {N : Nat}
open Classical in
theorem runB_runA {c' : Nat → List Nat} {ld : Nat → Nat → Bool} (h : ∀ a b, a < N → b < N → (ld a b = true ↔ Reach c' a b)) : ∀ (t : Nat) (F : Nat → Bool), runB ld N t F = runA c' N t F := by
 have hscc : ∀ a, a < N → sccB ld N a = sccL c' N a := fun a ha => by
  unfold sccB sccL
  refine List.filter_congr (fun b hb => ?_)
  have hb' := List.mem_range.1 hb
  have : (ld a b && ld b a) = true ↔ (Reach c' a b ∧ Reach c' b a) := by rw [Bool.and_eq_true, h a b ha hb', h b a hb' ha]
  cases e : (ld a b && ld b a) with
  | true => exact (decide_eq_true (this.1 e)).symm
  | false => exact (decide_eq_false (fun h2 => by rw [this.2 h2] at e; simp at e)).symm
 have hpick : ∀ F a, a < N → pickB ld N F a = pickA c' N F a := fun F a ha => by
  unfold pickB pickA
  congr 1
  have : (List.range N).all (okB ld F a) = true ↔ (∀ b, b < N → Reach c' a b → Reach c' b a ∨ F b = true) := by
   rw [List.all_eq_true]
   constructor
   ·intro h1 b hb hab
    have := h1 b (List.mem_range.2 hb)
    rw [okB, (h a b ha hb).2 hab] at this
    simp only [Bool.not_true, Bool.false_or, Bool.or_eq_true] at this
    exact this.imp (h b a hb ha).1 id
   ·intro h1 b hb
    have hb' := List.mem_range.1 hb
    cases e : ld a b with
    | false => simp [okB, e]
    | true =>
     have := h1 b hb' ((h a b ha hb').1 e)
     rw [okB, e]
     simp only [Bool.not_true, Bool.false_or, Bool.or_eq_true]
     exact this.imp (h b a hb' ha).2 id
  cases e : (List.range N).all (okB ld F a) with
  | true => exact (@decide_eq_true _ (Classical.propDecidable _) (this.1 e)).symm
  | false => exact (@decide_eq_false _ (Classical.propDecidable _) (fun h2 => by rw [this.2 h2] at e; simp at e)).symm
 intro t
 induction t with
 | zero => intro F; rfl
 | succ t ih =>
  intro F
  have hfind : (List.range N).find? (pickB ld N F) = (List.range N).find? (pickA c' N F) := by
   have : ∀ l : List Nat, (∀ x ∈ l, x < N) → l.find? (pickB ld N F) = l.find? (pickA c' N F) := fun l => by
    induction l with
    | nil => intro _; rfl
    | cons x l ihl =>
     intro hx
     rw [List.find?_cons, List.find?_cons, hpick F x (hx x List.mem_cons_self), ihl (fun y hy => hx y (List.mem_cons_of_mem _ hy))]
   exact this _ (fun x hx => List.mem_range.1 hx)
  rw [runB, runA, hfind]
  cases e : (List.range N).find? (pickA c' N F) with
  | none => exact ih F
  | some a =>
   have ha : a < N := List.mem_range.1 (List.mem_of_find?_eq_some e)
   show sccB ld N a :: _ = sccL c' N a :: _
   rw [hscc a ha, ih]; rfl
end
end Go.Am.Ef
/- Tables of effects, and sets as numbers (row.Table.Find, row.Table.Set). -/
namespace Go.Am
def cmp1A : AV → Bool → Option AV := fun x neg => match same 1 x .nilp with
 | some b => some (.bool (bif neg then !b else b))
 | none => none
structure U64 where
 n : Nat
 deriving Inhabited, DecidableEq
instance encU64 : EncP U64 where
 sz := 1
 cells n := [.int .u64 (n.n : Nat)]
 len _ := rfl
 pur b c hc := by
  simp only [List.mem_singleton] at hc
  subst hc
  exact ⟨fun h b n => frz_int h b n _ _, rfl⟩
@[go_sem] theorem sz_U64 : Enc.sz U64 = 1 := rfl
@[go_sem] theorem cells_U64 (n : U64) : Enc.cells n = [AV.int .u64 (n.n : Nat)] := rfl
theorem two64 : (2 : Nat) ^ 64 = 18446744073709551616 := by decide
theorem bvn (a : Nat) (ha : a < 2 ^ 64) : (BitVec.ofInt 64 (a : Nat)).toNat = a := by
 rw [two64] at ha
 simp only [BitVec.toNat_ofInt]
 omega
theorem bin_or_u64 {a b : Nat} (ha : a < 2 ^ 64) (hb : b < 2 ^ 64) : binA .or (.int .u64 (a : Nat)) (.int .u64 (b : Nat)) = some (.int .u64 ((a ||| b : Nat))) := by
 show some (AV.int .u64 (wrapA .u64 (((BitVec.ofInt 64 (a : Nat) ||| BitVec.ofInt 64 (b : Nat)).toNat : Nat) : Int))) = _
 rw [BitVec.toNat_or, bvn a ha, bvn b hb, wrapA_u64 (by omega) (by have := Nat.or_lt_two_pow ha hb; rw [two64] at this; omega)]
theorem bin_shl_u64 {k : Nat} (hk : k < 64) : binA .shl (.int .u64 1) (.int .u64 (k : Nat)) = some (.int .u64 ((2 ^ k : Nat))) := by
 show some (AV.int .u64 (wrapA .u64 (1 * ((2 ^ (min k 64) : Nat) : Int)))) = _
 have h : 2 ^ k < 2 ^ 64 := Nat.pow_lt_pow_right (by omega) hk
 rw [two64] at h
 rw [Nat.min_eq_left (by omega), Int.one_mul]
 generalize 2 ^ k = q at h ⊢
 rw [wrapA_u64 (by omega) (by omega)]
theorem bin_andNot_u64 {a b : Nat} (ha : a < 2 ^ 64) (hb : b < 2 ^ 64) : ∃ c : Nat, binA .andNot (.int .u64 (a : Nat)) (.int .u64 (b : Nat)) = some (.int .u64 (c : Nat)) ∧ (c = 0 ↔ a ||| b = b) := by
 refine ⟨(BitVec.ofNat 64 a &&& ~~~(BitVec.ofNat 64 b)).toNat, ?_, ?_⟩
 ·show some (AV.int .u64 (wrapA .u64 (((BitVec.ofInt 64 (a : Nat) &&& ~~~BitVec.ofInt 64 (b : Nat)).toNat : Nat) : Int))) = _
  have h1 : BitVec.ofInt 64 (a : Nat) = BitVec.ofNat 64 a := by simp
  have h2 : BitVec.ofInt 64 (b : Nat) = BitVec.ofNat 64 b := by simp
  rw [h1, h2, wrapA_u64 (by omega) (by have := (BitVec.ofNat 64 a &&& ~~~(BitVec.ofNat 64 b)).isLt; rw [two64] at this; omega)]
 ·have ha' : (BitVec.ofNat 64 a).toNat = a := by rw [BitVec.toNat_ofNat, Nat.mod_eq_of_lt ha]
  have hb' : (BitVec.ofNat 64 b).toNat = b := by rw [BitVec.toNat_ofNat, Nat.mod_eq_of_lt hb]
  have : (BitVec.ofNat 64 a &&& ~~~(BitVec.ofNat 64 b)).toNat = 0 ↔ BitVec.ofNat 64 a ||| BitVec.ofNat 64 b = BitVec.ofNat 64 b := by
   constructor
   ·intro h
    have h0 : BitVec.ofNat 64 a &&& ~~~(BitVec.ofNat 64 b) = 0#64 := BitVec.eq_of_toNat_eq (by simpa using h)
    refine BitVec.eq_of_getLsbD_eq (fun i hi => ?_)
    have := congrArg (fun x => x.getLsbD i) h0
    simp only [BitVec.getLsbD_and, BitVec.getLsbD_not, BitVec.getLsbD_zero, hi, decide_true, Bool.true_and] at this
    rw [BitVec.getLsbD_or]
    cases h1 : (BitVec.ofNat 64 a).getLsbD i <;> cases h2 : (BitVec.ofNat 64 b).getLsbD i <;> rw [h1, h2] at this <;> simp at this ⊢
   ·intro h
    have h0 : BitVec.ofNat 64 a &&& ~~~(BitVec.ofNat 64 b) = 0#64 := by
     refine BitVec.eq_of_getLsbD_eq (fun i hi => ?_)
     have := congrArg (fun x => x.getLsbD i) h
     simp only [BitVec.getLsbD_or] at this
     simp only [BitVec.getLsbD_and, BitVec.getLsbD_not, BitVec.getLsbD_zero, hi, decide_true, Bool.true_and]
     cases h1 : (BitVec.ofNat 64 a).getLsbD i <;> cases h2 : (BitVec.ofNat 64 b).getLsbD i <;> rw [h1, h2] at this <;> simp at this ⊢
    rw [h0]; rfl
  rw [this]
  constructor
  ·intro h
   have := congrArg BitVec.toNat h
   rw [BitVec.toNat_or, ha', hb'] at this
   exact this
  ·intro h
   apply BitVec.eq_of_toNat_eq
   rw [BitVec.toNat_or, ha', hb']
   exact h
end Go.Am
namespace Go.Am.Ef
open Go.Am
variable {P : Prog}
set_option maxRecDepth 20000
set_option maxHeartbeats 1000000
def posN (l : List (List UInt8)) (s : List UInt8) : Option Nat := if s ∈ l then some (l.idxOf s) else none
theorem posN_lt {l : List (List UInt8)} {s : List UInt8} {k : Nat} (h : posN l s = some k) : k < l.length := by
 unfold posN at h
 split at h
 ·rename_i hm
  obtain rfl := Option.some.inj h
  exact List.idxOf_lt_length_of_mem hm
 ·simp at h
structure TabAt (h : Heap) (o m : Nat) (names : List (List UInt8)) (v : AV) (es : TMap) (bs : List Nat) (ck : Nat) : Prop where
 tab : h.get o = some (.cells [v, .mp m])
 map : h.get m = some (.map (kv es) bs ck)
 row : RowV h v names
 get : ∀ s, tget s es = (posN names s).map (fun k => AV.int .i64 (k : Nat))
 len : names.length ≤ 64
structure Tab (h : Heap) (o : Nat) (names : List (List UInt8)) : Prop where
 ex : ∃ m v es bs ck, TabAt h o m names v es bs ck
theorem Tab.small {h : Heap} {o : Nat} {names : List (List UInt8)} (T : Tab h o names) : names.length ≤ 64 := by
 obtain ⟨m, v, es, bs, ck, t⟩ := T.ex
 exact t.len
theorem find43_fun (hP : EfP P) {h : Heap} {o : Nat} {names : List (List UInt8)} (T : Tab h o names) (s : List UInt8) : Fun P 43 [.ptr o 0, strv s] h (fun v h' => v = .tup [.int .i64 (((posN names s).getD 0 : Nat)), .bool (posN names s).isSome] ∧ h' = h) := by
 obtain ⟨m, v, es, bs, ck, t⟩ := T.ex
 refine Fun.of (code := a43c) (hP.code rfl) (by rw [hP.pure]; rfl) ?_
 have hg := t.get s
 cases hp : posN names s with
 | none =>
  rw [hp, Option.map_none] at hg
  simp (disch := omega) only [go_sem, a43c, a43r0]
  simp (disch := omega) only [go_sem, a43r1]
  simp (disch := omega) only [go_sem, a43r3, t.tab, t.map, hg, Option.getD_none, Option.isSome_none]
  simp (disch := omega) only [go_sem, a43r4]
  first | done | exact ⟨rfl, trivial⟩
 | some k =>
  rw [hp, Option.map_some] at hg
  simp (disch := omega) only [go_sem, a43c, a43r0]
  simp (disch := omega) only [go_sem, a43r1]
  simp (disch := omega) only [go_sem, a43r3, t.tab, t.map, hg, Option.getD_some, Option.isSome_some]
  simp (disch := omega) only [go_sem, a43r4]
  first | done | exact ⟨rfl, trivial⟩
def maskL (names : List (List UInt8)) (l : List NameV) : Nat := l.foldl (fun m x => m ||| 2 ^ (posN names x.name).getD 0) 0
theorem maskL_snoc (names : List (List UInt8)) (l : List NameV) (x : NameV) : maskL names (l ++ [x]) = maskL names l ||| 2 ^ (posN names x.name).getD 0 := by
 unfold maskL; rw [List.foldl_append]; rfl
theorem posD_lt {names : List (List UInt8)} (hn : names.length ≤ 64) (s : List UInt8) : (posN names s).getD 0 < 64 := by
 cases h : posN names s with
 | none => simp
 | some k => have := posN_lt h; simp only [Option.getD_some]; omega
theorem pow_lt64 {k : Nat} (h : k < 64) : 2 ^ k < 2 ^ 64 := Nat.pow_lt_pow_right (by omega) h
theorem maskL_take {names : List (List UInt8)} {l : List NameV} {k : Nat} (hk : k < l.length) : maskL names (l.take (k + 1)) = maskL names (l.take k) ||| 2 ^ (posN names (l.getD k default).name).getD 0 := by
 rw [List.take_succ_eq_append_getElem hk, maskL_snoc, List.getD_eq_getElem?_getD, List.getElem?_eq_getElem hk]; rfl
theorem maskL_lt {names : List (List UInt8)} (hn : names.length ≤ 64) (l : List NameV) : maskL names l < 2 ^ 64 := by
 have : ∀ (l : List NameV) (m : Nat), m < 2 ^ 64 → l.foldl (fun m x => m ||| 2 ^ (posN names x.name).getD 0) m < 2 ^ 64 := fun l => by
  induction l with
  | nil => intro m h; exact h
  | cons x l ih => exact fun m h => ih _ (Nat.or_lt_two_pow h (pow_lt64 (posD_lt hn _)))
 exact this l 0 (by decide)
def badL (names : List (List UInt8)) (l : List NameV) : Option Nat := l.findIdx? (fun x => (posN names x.name).isNone)
def setR (names : List (List UInt8)) (l : List NameV) : List AV := match badL names l with
 | some i => [.int .u64 0, .int .i64 (i : Nat), .int .i64 13]
 | none => [.int .u64 (maskL names l : Nat), .int .i64 0, .int .i64 0]
theorem set74_fun (hP : EfP P) {h : Heap} {o : Nat} {names : List (List UInt8)} (T : Tab h o names) (l : List NameV) (nl : Bool) (hl : Len l.length) : Fun P 74 [.ptr o 0, slv nl false l] h (fun v h' => v = .tup (setR names l) ∧ h' = h) := by
 have hn := T.small
 refine Fun.of (code := a74c) (hP.code rfl) (by rw [hP.pure]; rfl) ?_
 simp (disch := omega) only [go_sem, a74c, a74r0]
 simp (disch := omega) only [go_sem, a74r1]
 refine Wp_loop (fun z : Nat × Nat => z.2 ≤ l.length ∧ ∀ i, i < z.2 → (posN names (l.getD i default).name).isSome = true) (fun (t, k) => { fr := [(0, .ptr o 0), (4, .int .u64 (maskL names (l.take k) : Nat)), (11, slv nl false l), (12, .int .i64 (l.length : Nat)), (13, .int .i64 (k : Nat))], st := t, h := h }) (fun z => l.length - z.2) (0, 0) rfl ⟨Nat.zero_le _, fun i hi => by simp only at hi; omega⟩ ?_
 rintro ⟨t, k⟩ ⟨k1, k2⟩
 simp only at k1 k2
 simp (disch := omega) only [go_sem, a74l0, a74r2]
 refine condS_if (fun c1 => ?_) (fun c1 => ?_)
 ·have hk : k < l.length := by omega
  simp (disch := omega) only [go_sem, a74r3, hk]
  simp (disch := omega) only [go_sem, a74r4]
  refine WO.fun (vs := [.ptr o 0, strv (l.getD k default).name]) (by simp (disch := omega) only [go_sem]) (find43_fun hP T _) (fun v h' hv => ?_)
  obtain ⟨ev, eh⟩ := hv
  rw [ev, eh]
  simp (disch := omega) only [go_sem]
  have hpk := posD_lt hn (l.getD k default).name
  have hm := maskL_lt hn (l.take k)
  cases hp : (posN names (l.getD k default).name).isSome with
  | false =>
   simp (disch := omega) only [go_sem, a74r5]
   simp (disch := omega) only [go_sem, a74r6]
   have hb : badL names l = some k := by
    rw [badL, List.findIdx?_eq_some_iff_getElem]
    refine ⟨hk, ?_, fun j hj => ?_⟩
    ·rw [List.getD_eq_getElem?_getD, List.getElem?_eq_getElem hk] at hp
     simpa using hp
    ·have := k2 j hj
     rw [List.getD_eq_getElem?_getD, List.getElem?_eq_getElem (by omega)] at this
     simp only [Option.getD_some] at this
     rw [Option.isSome_iff_ne_none] at this
     simpa using this
   rw [setR, hb]
   first | done | exact ⟨rfl, trivial⟩
  | true =>
   simp (disch := omega) only [go_sem, a74r5]
   have h1 := bin_shl_u64 hpk
   have h2 := bin_or_u64 hm (pow_lt64 hpk)
   simp (disch := omega) only [go_sem, a74r7, h1, h2]
   simp (disch := omega) only [go_sem, a74r8]
   refine ⟨(t + 1, k + 1), ⟨by simp only; omega, fun i hi => ?_⟩, by simp only; omega, ?_⟩
   ·simp only at hi
    by_cases e : i = k
    ·rw [e]; exact hp
    ·exact k2 i (by omega)
   ·simp only [maskL_take hk]; push_cast; rfl
 ·have e : k = l.length := by omega
  subst e
  simp (disch := omega) only [go_sem, a74r9]
  have hb : badL names l = none := by
   rw [badL, List.findIdx?_eq_none_iff]
   intro x hx
   obtain ⟨i, hi, rfl⟩ := List.getElem_of_mem hx
   have := k2 i hi
   rw [List.getD_eq_getElem?_getD, List.getElem?_eq_getElem hi] at this
   simp only [Option.getD_some] at this
   cases h3 : posN names l[i].name <;> rw [h3] at this <;> simp at this ⊢
  rw [setR, hb, List.take_length]
  first | done | exact ⟨rfl, trivial⟩
end Go.Am.Ef
/- What is declared, and what is done (effect.declared). -/
namespace Go.Am.Ef
open Go.Am
variable {P : Prog}
set_option maxRecDepth 20000
set_option maxHeartbeats 1000000
def effD (l : List Deed) : List NameV := (l.filter (fun d => decide (d.fn < 0))).map (fun d => ⟨d.name, d.pos⟩)
theorem effD_take {l : List Deed} {k : Nat} (hk : k < l.length) : effD (l.take (k + 1)) = effD (l.take k) ++ (if (l.getD k default).fn < 0 then [⟨(l.getD k default).name, (l.getD k default).pos⟩] else []) := by
 rw [List.take_succ_eq_append_getElem hk, List.getD_eq_getElem?_getD, List.getElem?_eq_getElem hk, Option.getD_some]
 unfold effD
 rw [List.filter_append, List.map_append]
 congr 1
 by_cases h : l[k].fn < 0
 ·rw [if_pos h, List.filter_cons_of_pos (by simpa using h)]; rfl
 ·rw [if_neg h, List.filter_cons_of_neg (by simpa using h)]; rfl
def badF (names : List (List UInt8)) (f : FuncV) : Option Int := match badL names f.row with
 | some k => some (f.row.getD k default).pos
 | none => match badL names (effD (deedsF f)) with
  | some i => some ((effD (deedsF f)).getD i default).pos
  | none => none
def rowM (names : List (List UInt8)) (f : FuncV) : U64 := ⟨if f.some = true then maskL names f.row else 0⟩
def doesM (names : List (List UInt8)) (f : FuncV) : U64 := ⟨maskL names (effD (deedsF f))⟩
theorem badL_none {names : List (List UInt8)} {l : List NameV} : badL names l = none ↔ ∀ x ∈ l, (posN names x.name).isSome = true := by
 rw [badL, List.findIdx?_eq_none_iff]
 constructor <;> intro h x hx <;> have := h x hx <;> cases h3 : posN names x.name <;> rw [h3] at this <;> simp at this ⊢
theorem badL_snoc {names : List (List UInt8)} {l r : List NameV} {x : NameV} (h1 : ∀ y ∈ l, (posN names y.name).isSome = true) (h2 : (posN names x.name).isSome = false) : badL names (l ++ x :: r) = some l.length := by
 rw [badL, List.findIdx?_eq_some_iff_getElem]
 refine ⟨by simp, ?_, fun j hj => ?_⟩
 ·rw [List.getElem_append_right (Nat.le_refl _)]
  simp only [Nat.sub_self, List.getElem_cons_zero]
  cases h3 : posN names x.name <;> rw [h3] at h2 <;> simp at h2 ⊢
 ·rw [List.getElem_append_left hj]
  have := h1 _ (List.getElem_mem hj)
  cases h3 : posN names l[j].name <;> rw [h3] at this <;> simp at this ⊢
structure Old (h h' : Heap) : Prop where
 next : h.next ≤ h'.next
 keep : ∀ o, o < h.next → h'.get o = h.get o
theorem Old.refl (h : Heap) : Old h h := ⟨Nat.le_refl _, fun _ _ => rfl⟩
theorem Old.trans {a b c : Heap} (h : Old a b) (k : Old b c) : Old a c := ⟨Nat.le_trans h.next k.next, fun o ho => (k.keep o (Nat.lt_of_lt_of_le ho h.next)).trans (h.keep o ho)⟩
theorem Bld.old {α : Type} [Enc α] {h0 h : Heap} {v : AV} {l : List α} (B : Bld h0 h v l) : Old h0 h := ⟨B.le, B.keep⟩
theorem Tab.old {h h' : Heap} {o : Nat} {names : List (List UInt8)} (T : Tab h o names) (b : Nat) (hk : ∀ i, i < b → h'.get i = h.get i) (hb : ∀ m v es bs ck, TabAt h o m names v es bs ck → o < b ∧ m < b ∧ ∀ i, rowOf v = some i → i < b) : Tab h' o names := by
 obtain ⟨m, v, es, bs, ck, t⟩ := T.ex
 obtain ⟨b1, b2, b3⟩ := hb m v es bs ck t
 exact ⟨m, v, es, bs, ck, (hk _ b1).trans t.tab, (hk _ b2).trans t.map, by
  rcases t.row with e | ⟨q, ep, e, g⟩
  ·exact .inl e
  ·exact .inr ⟨q, ep, e, (hk _ (b3 q (by rw [e]; rfl))).trans g⟩, t.get, t.len⟩
structure TabB (b : Nat) (h : Heap) (o : Nat) (names : List (List UInt8)) : Prop where
 t : ∃ m v es bs ck, TabAt h o m names v es bs ck ∧ o < b ∧ m < b ∧ ∀ i, rowOf v = some i → i < b
theorem TabB.tab {b : Nat} {h : Heap} {o : Nat} {names : List (List UInt8)} (T : TabB b h o names) : Tab h o names := by
 obtain ⟨m, v, es, bs, ck, t, -⟩ := T.t
 exact ⟨m, v, es, bs, ck, t⟩
theorem TabB.old {b : Nat} {h h' : Heap} {o : Nat} {names : List (List UInt8)} (T : TabB b h o names) (hk : ∀ i, i < b → h'.get i = h.get i) : TabB b h' o names := by
 obtain ⟨m, v, es, bs, ck, t, b1, b2, b3⟩ := T.t
 exact ⟨m, v, es, bs, ck, ⟨(hk _ b1).trans t.tab, (hk _ b2).trans t.map, by
  rcases t.row with e | ⟨q, ep, e, g⟩
  ·exact .inl e
  ·exact .inr ⟨q, ep, e, (hk _ (b3 q (by rw [e]; rfl))).trans g⟩, t.get, t.len⟩, b1, b2, b3⟩
def DeclR (names : List (List UInt8)) (fns : List FuncV) (h : Heap) (v : AV) (h' : Heap) : Prop :=
 (∃ i pos, i < fns.length ∧ (∀ j, j < i → badF names (fns.getD j default) = none) ∧ badF names (fns.getD i default) = some pos ∧ v = .tup [.nils, .nils, .int .i64 (i : Nat), .int .i64 pos, .int .i64 13] ∧ Old h h') ∨
 ((∀ f ∈ fns, badF names f = none) ∧ ∃ v1 v2, v = .tup [v1, v2, .int .i64 0, .int .i64 0, .int .i64 0] ∧ Bld h h' v1 (fns.map (rowM names)) ∧ Bld h h' v2 (fns.map (doesM names)) ∧ ∀ o, rowOf v1 = some o → rowOf v2 ≠ some o)
theorem decl_tail {h g : Heap} {v4 v5 : AV} {l4 l5 : List U64} {o m dm k n t : Nat} {fns : AV} {K : AExit → St → Prop} (B4 : Bld h g v4 l4) (B5 : Bld h g v5 l5) (hap : ∀ o, rowOf v4 = some o → rowOf v5 ≠ some o) (hl4 : l4.length ≤ 100000) (hl5 : l5.length ≤ 100000) (hF : evS 20 (some fns) = some fns)
  (hK : ∀ v4' v5' g', Bld h g' v4' (l4 ++ [⟨m⟩]) → Bld h g' v5' (l5 ++ [⟨dm⟩]) → (∀ o, rowOf v4' = some o → rowOf v5' ≠ some o) → K .normal { fr := [(1, .ptr o 0), (4, v4'), (5, v5'), (6, .int .i64 0), (7, .int .i64 0), (8, .int .i64 0), (20, fns), (21, .int .i64 (n : Nat)), (22, .int .i64 (k : Nat))], st := t, h := g' }) (tl : Fr) :
  WO P g.next a42r19 { fr := [(1, .ptr o 0), (4, v4), (5, v5), (6, .int .i64 0), (7, .int .i64 0), (8, .int .i64 0), (11, .int .u64 (m : Nat)), (14, .int .u64 (dm : Nat)), (20, fns), (21, .int .i64 (n : Nat)), (22, .int .i64 (k : Nat))] ++ tl, st := t, h := g.reserve 2 } (regK K [1, 4, 5, 6, 7, 8, 20, 21, 22]) := by
 have hE4 := B4.evs
 have hE5 := B5.evs
 simp (disch := omega) only [go_sem, a42r19, hE4.ev, hE5.ev, hE4.dat, hE5.dat]
 refine step_app (α := U64) (B4.res 2).row (adds_one (α := U64) (g.reserve 2) ⟨m⟩ _ true rfl) rfl (by simp only [List.length_cons, List.length_nil, two47]; omega) (fun v4' g1 q1 q2 q3 q4 => ?_)
 have hle := B4.le
 have B4' : Bld h g1 v4' (l4 ++ [⟨m⟩]) := (B4.res 2).app (o' := g.next) ⟨hle, by rw [reserve_next]; omega⟩ q1 q2 q3 q4
 have hrow5 : RowV g1 v5 l5 := by
  rcases B5.row with e | ⟨q, ep, e, hq⟩
  ·exact .inl e
  ·have ho := B5.own q (by rw [e]; rfl)
   exact .inr ⟨q, ep, e, (q4 q (by omega) (fun e2 => hap q e2 (by rw [e]; rfl))).trans hq⟩
 have B5' : Bld h g1 v5 l5 := ⟨hrow5, fun q e => by have := B5.own q e; rw [q2, reserve_next]; omega, B4'.le, B4'.keep⟩
 have hE4' := B4'.evs
 simp (disch := omega) only [go_sem, hE4'.ev, hE5.ev, hE4'.dat, hE5.dat]
 refine step_app (α := U64) B5'.row (adds_one (α := U64) g1 ⟨dm⟩ _ true rfl) rfl (by simp only [List.length_cons, List.length_nil, two47]; omega) (fun v5' g2 r1 r2 r3 r4 => ?_)
 rw [reserve_next] at q2
 have hr4 : ∀ q, rowOf v4' = some q → q ≠ g.next + 1 ∧ rowOf v5 ≠ some q := fun q e => by
  rcases q3 with e2 | e2 <;> rw [e2] at e
  ·exact ⟨by have := B4.own q e; omega, hap q e⟩
  ·have := Option.some.inj e
   exact ⟨by omega, fun e3 => by have := B5.own q e3; omega⟩
 have B5'' : Bld h g2 v5' (l5 ++ [⟨dm⟩]) := B5'.app (o' := g.next + 1) ⟨by omega, by omega⟩ r1 r2 r3 r4
 have hrow4 : RowV g2 v4' (l4 ++ [⟨m⟩]) := by
  rcases B4'.row with e | ⟨q, ep, e, hq⟩
  ·exact .inl e
  ·have := hr4 q (by rw [e]; rfl)
   exact .inr ⟨q, ep, e, (r4 q this.1 this.2).trans hq⟩
 have B4'' : Bld h g2 v4' (l4 ++ [⟨m⟩]) := ⟨hrow4, fun q e => by have := B4'.own q e; rw [r2]; exact this, B5''.le, B5''.keep⟩
 have hE5' := B5''.evs
 simp (disch := omega) only [go_sem, hE4'.ev, hE5'.ev, hF]
 refine hK v4' v5' g2 B4'' B5'' (fun q e e2 => ?_)
 have := hr4 q e
 rcases r3 with e3 | e3 <;> rw [e3] at e2
 ·exact this.2 e2
 ·have := Option.some.inj e2; omega
theorem declared_fun (hP : EfP P) {h : Heap} {o b : Nat} {names : List (List UInt8)} (T : TabB b h o names) (hb : b ≤ h.next) (p : ProgV) (hw : ProgWf p) (hn : p.fns.length ≤ 100000) (hd : ∀ f ∈ p.fns, (deedsF f).length ≤ 100000) : Fun P 42 [p.av, .ptr o 0] h (fun v h' => DeclR names p.fns h v h') := by
 refine Fun.of (code := a42c) (hP.code rfl) (by rw [hP.pure]; rfl) ?_
 have hnl := T.tab.small
 unfold ProgV.av
 simp (disch := omega) only [go_sem, a42c, a42r0]
 simp (disch := omega) only [go_sem, a42r1]
 refine Wp_loop (fun z : Nat × Nat × AV × AV × Heap => z.2.1 ≤ p.fns.length ∧ (∀ j, j < z.2.1 → badF names (p.fns.getD j default) = none) ∧ Bld h z.2.2.2.2 z.2.2.1 ((p.fns.take z.2.1).map (rowM names)) ∧ Bld h z.2.2.2.2 z.2.2.2.1 ((p.fns.take z.2.1).map (doesM names)) ∧ ∀ o, rowOf z.2.2.1 = some o → rowOf z.2.2.2.1 ≠ some o)
  (fun (t, k, v4, v5, g) => { fr := [(1, .ptr o 0), (4, v4), (5, v5), (6, .int .i64 0), (7, .int .i64 0), (8, .int .i64 0), (20, slv p.fn false p.fns), (21, .int .i64 (p.fns.length : Nat)), (22, .int .i64 (k : Nat))], st := t, h := g }) (fun z => p.fns.length - z.2.1) (1, 0, .nils, .nils, h) rfl ⟨Nat.zero_le _, fun j hj => by simp only at hj; omega, Bld.nil h, Bld.nil h, fun o e => by simp [rowOf] at e⟩ ?_
 rintro ⟨t, k, v4, v5, g⟩ ⟨k1, k2, B4, B5, hap⟩
 simp only at k1 k2 B4 B5 hap
 have hE4 := B4.evs
 have hE5 := B5.evs
 have T2 := T.old (h' := g) (fun i hi => B4.keep i (by omega))
 simp (disch := omega) only [go_sem, a42l1, a42r2, hE4.ev, hE5.ev]
 refine condS_if (fun c1 => ?_) (fun c1 => ?_)
 ·have hk : k < p.fns.length := by omega
  have hf := hw.fns.2 _ (slv_get hk)
  have hdf := hd _ (slv_get hk)
  have hst : ∀ (α : Type) (q : FuncV → α), (p.fns.take (k + 1)).map q = (p.fns.take k).map q ++ [q (p.fns.getD k default)] := fun α q => by
   rw [List.take_succ_eq_append_getElem hk, List.map_append, List.getD_eq_getElem?_getD, List.getElem?_eq_getElem hk]; rfl
  simp (disch := omega) only [go_sem, a42r3, hk, hE4.ev, hE5.ev]
  simp (disch := omega) only [go_sem, a42r4, hE4.ev, hE5.ev]
  have hset := set74_fun hP T2.tab (p.fns.getD k default).row (p.fns.getD k default).rn hf.row.1
  refine WO.fun (vs := [.ptr o 0, slv (p.fns.getD k default).rn false (p.fns.getD k default).row]) (by simp (disch := omega) only [go_sem]) hset (fun v h' hv => ?_)
  obtain ⟨ev, eh⟩ := hv
  rw [ev, eh, setR]
  cases hb1 : badL names (p.fns.getD k default).row with
  | some i =>
   have hi : i < (p.fns.getD k default).row.length := by
    rw [badL, List.findIdx?_eq_some_iff_getElem] at hb1
    exact hb1.1
   simp (disch := omega) only [go_sem, hE4.ev, hE5.ev]
   simp (disch := omega) only [go_sem, a42r5, hE4.ev, hE5.ev]
   simp (disch := omega) only [go_sem, a42d6, hi, hE4.ev, hE5.ev]
   exact .inl ⟨k, _, hk, k2, by rw [badF, hb1], rfl, B4.old⟩
  | none =>
   simp (disch := omega) only [go_sem, hE4.ev, hE5.ev]
   simp (disch := omega) only [go_sem, a42r5, hE4.ev, hE5.ev]
   simp (disch := omega) only [go_sem, a42r7, hE4.ev, hE5.ev]
   simp (disch := omega) only [go_sem, a42r8, hE4.ev, hE5.ev]
   refine WO.den (k := 0) (vs := [.agg (Enc.cells (p.fns.getD k default))]) (by rw [hP.pure]; rfl) (by simp (disch := omega) only [go_sem]) (deeds31_den hP _ hf hdf) (fun v hv => by obtain ⟨nl, rfl⟩ := hv; exact alone1_slv _ _ _) (fun v hv => ?_)
   obtain ⟨nlD, rfl⟩ := hv
   simp (disch := omega) only [go_sem, hE4.ev, hE5.ev]
   have hbF : ∀ D, deedsF (p.fns.getD k default) = D → badF names (p.fns.getD k default) = (match badL names (effD D) with | some i => some ((effD D).getD i default).pos | none => none) := fun D e => by rw [badF, hb1, e]
   have hdM : ∀ D, deedsF (p.fns.getD k default) = D → doesM names (p.fns.getD k default) = ⟨maskL names (effD D)⟩ := fun D e => by rw [doesM, e]
   generalize hD : deedsF (p.fns.getD k default) = D at hdf ⊢
   have hbF := hbF D hD
   have hdM := hdM D hD
   have hml := maskL_lt hnl (p.fns.getD k default).row
   refine Wp_loop (fun z : Nat × Nat => z.2 ≤ D.length ∧ ∀ x ∈ effD (D.take z.2), (posN names x.name).isSome = true) (fun (u, j) => { fr := [(1, .ptr o 0), (4, v4), (5, v5), (6, .int .i64 0), (7, .int .i64 0), (8, .int .i64 0), (9, .int .i64 (k : Nat)), (10, .lbox t (Enc.cells (p.fns.getD k default))), (11, .int .u64 (maskL names (p.fns.getD k default).row : Nat)), (14, .int .u64 (maskL names (effD (D.take j)) : Nat)), (20, slv p.fn false p.fns), (21, .int .i64 (p.fns.length : Nat)), (22, .int .i64 (k : Nat)), (48, slv nlD false D), (49, .int .i64 (D.length : Nat)), (50, .int .i64 (j : Nat))], st := u, h := g }) (fun z => D.length - z.2) (t + 1, 0) rfl ⟨Nat.zero_le _, fun x hx => by simp [effD] at hx⟩ ?_
   rintro ⟨t2, j⟩ ⟨j1, j2⟩
   simp only at j1 j2
   simp (disch := omega) only [go_sem, a42l0, a42r9, hE4.ev, hE5.ev]
   refine condS_if (fun c2 => ?_) (fun c2 => ?_)
   ·have hj : j < D.length := by omega
    have hnx := effD_take hj
    have hm := maskL_lt hnl (effD (D.take j))
    simp (disch := omega) only [go_sem, a42r10, hj, hE4.ev, hE5.ev]
    simp (disch := omega) only [go_sem, a42r11, hE4.ev, hE5.ev]
    refine condS_if (fun c3 => ?_) (fun c3 => ?_)
    ·rw [if_neg (by omega), List.append_nil] at hnx
     simp (disch := omega) only [go_sem, hE4.ev, hE5.ev]
     simp (disch := omega) only [go_sem, a42r16, hE4.ev, hE5.ev]
     exact ⟨(_, j + 1), ⟨by simp only; omega, by simp only; rw [hnx]; exact j2⟩, by simp only; omega, by simp only [hnx]; push_cast; rfl⟩
    ·rw [if_pos (by omega)] at hnx
     simp (disch := omega) only [go_sem, a42r12, hE4.ev, hE5.ev]
     refine WO.fun (vs := [.ptr o 0, strv (D.getD j default).name]) (by simp (disch := omega) only [go_sem]) (find43_fun hP T2.tab _) (fun v h' hv => ?_)
     obtain ⟨ev, eh⟩ := hv
     rw [ev, eh]
     have hpk := posD_lt hnl (D.getD j default).name
     cases hp : (posN names (D.getD j default).name).isSome with
     | false =>
      simp (disch := omega) only [go_sem, hE4.ev, hE5.ev]
      simp (disch := omega) only [go_sem, a42r13, hE4.ev, hE5.ev]
      simp (disch := omega) only [go_sem, a42d14, hE4.ev, hE5.ev]
      have hsp : ∃ r, effD D = effD (D.take j) ++ ⟨(D.getD j default).name, (D.getD j default).pos⟩ :: r := by
       refine ⟨effD (D.drop (j + 1)), ?_⟩
       conv => lhs; rw [← List.take_append_drop (j + 1) D]
       have : ∀ a b : List Deed, effD (a ++ b) = effD a ++ effD b := fun a b => by unfold effD; rw [List.filter_append, List.map_append]
       rw [this, hnx, List.append_assoc]; rfl
      obtain ⟨r, hr⟩ := hsp
      have hbad : badL names (effD D) = some (effD (D.take j)).length := by rw [hr]; exact badL_snoc j2 hp
      refine .inl ⟨k, (D.getD j default).pos, hk, k2, ?_, rfl, B4.old⟩
      rw [hbF, hbad, hr]
      simp [List.getD_eq_getElem?_getD]
     | true =>
      have h1 := bin_shl_u64 hpk
      have h2 := bin_or_u64 hm (pow_lt64 hpk)
      simp (disch := omega) only [go_sem, hE4.ev, hE5.ev]
      simp (disch := omega) only [go_sem, a42r13, hE4.ev, hE5.ev]
      simp (disch := omega) only [go_sem, a42r15, h1, h2, hE4.ev, hE5.ev]
      simp (disch := omega) only [go_sem, a42r16, hE4.ev, hE5.ev]
      refine ⟨(t2 + 1, j + 1), ⟨by simp only; omega, fun x hx => ?_⟩, by simp only; omega, ?_⟩
      ·simp only at hx
       rw [hnx] at hx
       rcases List.mem_append.1 hx with h3 | h3
       ·exact j2 x h3
       ·rw [List.mem_singleton.1 h3]; exact hp
      ·simp only [hnx, maskL_snoc]; push_cast; rfl
   ·have e : j = D.length := by omega
    rw [e, List.take_length] at j2 ⊢
    have hbn : badF names (p.fns.getD k default) = none := by rw [hbF, badL_none.2 j2]
    have k2' : ∀ i, i < k + 1 → badF names (p.fns.getD i default) = none := fun i hi => by
     by_cases e : i = k
     ·rw [e]; exact hbn
     ·exact k2 i (by omega)
    have hl1 : ((p.fns.take k).map (rowM names)).length ≤ 100000 := by simp; omega
    have hl2 : ((p.fns.take k).map (doesM names)).length ≤ 100000 := by simp; omega
    simp (disch := omega) only [go_sem, a42r17, hE4.ev, hE5.ev]
    cases hs : (p.fns.getD k default).some with
    | true =>
     have hrm : rowM names (p.fns.getD k default) = ⟨maskL names (p.fns.getD k default).row⟩ := by rw [rowM, if_pos hs]
     simp (disch := omega) only [go_sem, hE4.ev, hE5.ev]
     refine decl_tail (fns := slv p.fn false p.fns) B4 B5 hap hl1 hl2 (by simp (disch := omega) only [go_sem]) (fun v4' v5' g' C4 C5 hap' => ?_) _
     have hE4' := C4.evs
     have hE5' := C5.evs
     simp (disch := omega) only [go_sem, a42r20, hE4'.ev, hE5'.ev]
     rw [← hrm, ← hst _ (rowM names)] at C4
     rw [← hdM, ← hst _ (doesM names)] at C5
     exact ⟨(_, k + 1, v4', v5', g'), ⟨by simp only; omega, k2', C4, C5, hap'⟩, by simp only; omega, by push_cast; rfl⟩
    | false =>
     have hrm : rowM names (p.fns.getD k default) = ⟨0⟩ := by rw [rowM, if_neg (by rw [hs]; simp)]
     simp (disch := omega) only [go_sem, hE4.ev, hE5.ev]
     simp (disch := omega) only [go_sem, a42r18, hE4.ev, hE5.ev]
     refine decl_tail (fns := slv p.fn false p.fns) (m := 0) B4 B5 hap hl1 hl2 (by simp (disch := omega) only [go_sem]) (fun v4' v5' g' C4 C5 hap' => ?_) []
     have hE4' := C4.evs
     have hE5' := C5.evs
     simp (disch := omega) only [go_sem, a42r20, hE4'.ev, hE5'.ev]
     rw [← hrm, ← hst _ (rowM names)] at C4
     rw [← hdM, ← hst _ (doesM names)] at C5
     exact ⟨(_, k + 1, v4', v5', g'), ⟨by simp only; omega, k2', C4, C5, hap'⟩, by simp only; omega, by push_cast; rfl⟩
 ·have e : k = p.fns.length := by omega
  subst e
  rw [List.take_length] at B4 B5
  simp (disch := omega) only [go_sem, a42r21, hE4.ev, hE5.ev, hE4.dat, hE5.dat]
  refine .inr ⟨fun f hf => ?_, v4, v5, rfl, B4, B5, hap⟩
  obtain ⟨i, hi, rfl⟩ := List.getElem_of_mem hf
  have := k2 i hi
  rwa [List.getD_eq_getElem?_getD, List.getElem?_eq_getElem hi] at this
end Go.Am.Ef
/- Rows of effects in plain words: the least ones that are closed. Own work; no program in sight. -/
namespace Go.Am.Ef
open Go.Am
theorem snocInd {p : List Nat → Prop} (h0 : p []) (h1 : ∀ l x, p l → p (l ++ [x])) (l : List Nat) : p l := by
 have : ∀ r : List Nat, p r.reverse := fun r => by
  induction r with
  | nil => exact h0
  | cons x r ih => rw [List.reverse_cons]; exact h1 _ _ ih
 rw [← List.reverse_reverse l]
 exact this _
def sub (a b : Nat) : Prop := a ||| b = b
theorem sub_refl (a : Nat) : sub a a := Nat.or_self a
theorem sub_zero (a : Nat) : sub 0 a := Nat.zero_or a
theorem sub_iff {a b : Nat} : sub a b ↔ ∀ i, a.testBit i = true → b.testBit i = true := by
 constructor
 ·intro h i hi
  rw [← h, Nat.testBit_or, hi, Bool.true_or]
 ·intro h
  refine Nat.eq_of_testBit_eq (fun i => ?_)
  rw [Nat.testBit_or]
  cases e : a.testBit i with
  | false => simp
  | true => rw [h i e]; rfl
theorem sub_trans {a b c : Nat} (h : sub a b) (k : sub b c) : sub a c := sub_iff.2 (fun i hi => sub_iff.1 k i (sub_iff.1 h i hi))
theorem sub_or_left (a b : Nat) : sub a (a ||| b) := sub_iff.2 (fun i hi => by rw [Nat.testBit_or, hi, Bool.true_or])
theorem sub_or_right (a b : Nat) : sub b (a ||| b) := sub_iff.2 (fun i hi => by rw [Nat.testBit_or, hi, Bool.or_true])
theorem or_sub {a b c : Nat} (h : sub a c) (k : sub b c) : sub (a ||| b) c := sub_iff.2 (fun i hi => by
 rw [Nat.testBit_or, Bool.or_eq_true] at hi
 rcases hi with hi | hi
 ·exact sub_iff.1 h i hi
 ·exact sub_iff.1 k i hi)
theorem sub_anti {a b : Nat} (h : sub a b) (k : sub b a) : a = b := Nat.eq_of_testBit_eq (fun i => by
 cases e : a.testBit i with
 | true => rw [sub_iff.1 h i e]
 | false =>
  cases e2 : b.testBit i with
  | false => rfl
  | true => rw [sub_iff.1 k i e2] at e; simp at e)
def bits (r : Nat) : Nat := (List.range 64).countP (fun i => r.testBit i)
theorem bits_le (r : Nat) : bits r ≤ 64 := by
 have := List.countP_le_length (p := fun i => r.testBit i) (l := List.range 64)
 simpa [bits] using this
theorem bits_lt {a b : Nat} (h : sub a b) (hne : a ≠ b) (hb : b < 2 ^ 64) : bits a < bits b := by
 have hex : ∃ i, b.testBit i = true ∧ a.testBit i = false := by
  refine Classical.byContradiction (fun hn => hne (sub_anti h (sub_iff.2 (fun i hi => ?_))))
  cases e : a.testBit i with
  | true => rfl
  | false => exact absurd ⟨i, hi, e⟩ hn
 obtain ⟨i, h1, h2⟩ := hex
 have hi : i < 64 := by
  rcases Nat.lt_or_ge i 64 with q | q
  ·exact q
  ·rw [Nat.testBit_lt_two_pow (Nat.lt_of_lt_of_le hb (Nat.pow_le_pow_right (by omega) q))] at h1; simp at h1
 have hc : ∀ l : List Nat, (l.countP (fun i => a.testBit i) ≤ l.countP (fun i => b.testBit i)) ∧ (i ∈ l → l.countP (fun i => a.testBit i) + 1 ≤ l.countP (fun i => b.testBit i)) := fun l => by
  induction l with
  | nil => simp
  | cons y l ih =>
   rw [List.countP_cons, List.countP_cons]
   refine ⟨?_, fun hm => ?_⟩
   ·have := ih.1
    cases e : a.testBit y with
    | false => simp; omega
    | true => rw [sub_iff.1 h y e]; simp; omega
   ·rcases List.mem_cons.1 hm with e | hm
    ·subst e
     rw [h1, h2]
     have := ih.1
     simp; omega
    ·have := ih.2 hm
     cases e : a.testBit y with
     | false => simp; omega
     | true => rw [sub_iff.1 h y e]; simp; omega
 exact (hc (List.range 64)).2 (List.mem_range.2 hi)
def sumB (n : Nat) (R : Nat → Nat) : Nat := ((List.range n).map (fun i => bits (R i))).sum
theorem sumB_le (n : Nat) (R : Nat → Nat) : sumB n R ≤ 64 * n := by
 unfold sumB
 have : ∀ l : List Nat, (l.map (fun i => bits (R i))).sum ≤ 64 * l.length := fun l => by
  induction l with
  | nil => simp
  | cons a l ih => simp only [List.map_cons, List.sum_cons, List.length_cons]; have := bits_le (R a); omega
 have := this (List.range n)
 rwa [List.length_range] at this
theorem sumB_upd {n f v : Nat} {R : Nat → Nat} (hf : f < n) : sumB n (upd R f v) + bits (R f) = sumB n R + bits v := by
 unfold sumB
 have : ∀ l : List Nat, l.Nodup → (f ∈ l → (l.map (fun i => bits (upd R f v i))).sum + bits (R f) = (l.map (fun i => bits (R i))).sum + bits v) ∧ (f ∉ l → (l.map (fun i => bits (upd R f v i))).sum = (l.map (fun i => bits (R i))).sum) := fun l => by
  induction l with
  | nil => intro _; simp
  | cons a l ih =>
   intro hnd
   rw [List.nodup_cons] at hnd
   obtain ⟨ih1, ih2⟩ := ih hnd.2
   simp only [List.map_cons, List.sum_cons]
   by_cases hax : a = f
   ·subst hax
    refine ⟨fun _ => ?_, fun h => absurd List.mem_cons_self h⟩
    rw [ih2 hnd.1, upd_same]; omega
   ·rw [upd_ne _ _ hax]
    refine ⟨fun h => ?_, fun h => ?_⟩
    ·have := ih1 ((List.mem_cons.1 h).resolve_left (fun e => hax e.symm)); omega
    ·rw [ih2 (fun h2 => h (List.mem_cons_of_mem _ h2))]
 exact (this _ List.nodup_range).1 (List.mem_range.2 hf)
structure RD where
 n : Nat
 some : Nat → Bool
 set : Nat → Nat
 does : Nat → Nat
 c : Nat → List Nat
structure RD.Ok (D : RD) : Prop where
 set : ∀ f, f < D.n → D.set f < 2 ^ 64
 does : ∀ f, f < D.n → D.does f < 2 ^ 64
 lt : ∀ f, f < D.n → ∀ x ∈ D.c f, x < D.n
structure Sol (D : RD) (S : Nat → Nat) : Prop where
 fix : ∀ f, f < D.n → D.some f = true → S f = D.set f
 does : ∀ f, f < D.n → D.some f = false → sub (D.does f) (S f)
 calls : ∀ f, f < D.n → D.some f = false → ∀ x ∈ D.c f, sub (S x) (S f)
structure Low (D : RD) (R : Nat → Nat) : Prop where
 lt : ∀ f, f < D.n → R f < 2 ^ 64
 fix : ∀ f, f < D.n → D.some f = true → R f = D.set f
 below : ∀ S, Sol D S → ∀ f, f < D.n → sub (R f) (S f)
structure Lfp (D : RD) (R : Nat → Nat) : Prop where
 low : Low D R
 sol : Sol D R
def startR (D : RD) : Nat → Nat := fun f => if D.some f = true then D.set f else 0
theorem Low.start {D : RD} (ok : D.Ok) : Low D (startR D) := by
 refine ⟨fun f hf => ?_, fun f hf h => by rw [startR, if_pos h], fun S hS f hf => ?_⟩
 ·unfold startR; split
  ·exact ok.set f hf
  ·decide
 ·unfold startR; split
  ·rename_i h; rw [hS.fix f hf h]; exact sub_refl _
  ·exact sub_zero _
def accR (D : RD) (R : Nat → Nat) (f : Nat) (l : List Nat) : Nat := l.foldl (fun m x => m ||| R x) (R f ||| D.does f)
theorem accR_snoc (D : RD) (R : Nat → Nat) (f : Nat) (l : List Nat) (x : Nat) : accR D R f (l ++ [x]) = accR D R f l ||| R x := by unfold accR; rw [List.foldl_append]; rfl
theorem accR_sub {D : RD} {R : Nat → Nat} {f : Nat} : ∀ l : List Nat, sub (R f) (accR D R f l) ∧ sub (D.does f) (accR D R f l) ∧ ∀ x ∈ l, sub (R x) (accR D R f l) := fun l => by
 refine snocInd (p := fun l => sub (R f) (accR D R f l) ∧ sub (D.does f) (accR D R f l) ∧ ∀ x ∈ l, sub (R x) (accR D R f l)) ?_ (fun l x ih => ?_) l
 ·exact ⟨sub_or_left _ _, sub_or_right _ _, fun x hx => by simp at hx⟩
 ·rw [accR_snoc]
  refine ⟨sub_trans ih.1 (sub_or_left _ _), sub_trans ih.2.1 (sub_or_left _ _), fun y hy => ?_⟩
  rcases List.mem_append.1 hy with h | h
  ·exact sub_trans (ih.2.2 y h) (sub_or_left _ _)
  ·rw [List.mem_singleton.1 h]; exact sub_or_right _ _
theorem accR_min {D : RD} {R : Nat → Nat} {f m : Nat} (h1 : sub (R f) m) (h2 : sub (D.does f) m) : ∀ l : List Nat, (∀ x ∈ l, sub (R x) m) → sub (accR D R f l) m := fun l => by
 refine snocInd (p := fun l => (∀ x ∈ l, sub (R x) m) → sub (accR D R f l) m) ?_ (fun l x ih => ?_) l
 ·intro _; exact or_sub h1 h2
 ·intro h
  rw [accR_snoc]
  exact or_sub (ih (fun y hy => h y (List.mem_append_left _ hy))) (h x (by simp))
theorem accR_lt {D : RD} {R : Nat → Nat} {f : Nat} (h1 : R f < 2 ^ 64) (h2 : D.does f < 2 ^ 64) : ∀ l : List Nat, (∀ x ∈ l, R x < 2 ^ 64) → accR D R f l < 2 ^ 64 := fun l => by
 refine snocInd (p := fun l => (∀ x ∈ l, R x < 2 ^ 64) → accR D R f l < 2 ^ 64) ?_ (fun l x ih => ?_) l
 ·intro _; exact Nat.or_lt_two_pow h1 h2
 ·intro h
  rw [accR_snoc]
  exact Nat.or_lt_two_pow (ih (fun y hy => h y (List.mem_append_left _ hy))) (h x (by simp))
def Cl (D : RD) (R : Nat → Nat) (f : Nat) : Prop := D.some f = false → accR D R f (D.c f) = R f
theorem Low.step {D : RD} (ok : D.Ok) {R : Nat → Nat} (H : Low D R) {f : Nat} (hf : f < D.n) (hs : D.some f = false) : Low D (upd R f (accR D R f (D.c f))) := by
 refine ⟨fun g hg => ?_, fun g hg h => ?_, fun S hS g hg => ?_⟩
 ·by_cases e : g = f
  ·subst e; rw [upd_same]
   exact accR_lt (H.lt g hg) (ok.does g hg) _ (fun x hx => H.lt x (ok.lt g hg x hx))
  ·rw [upd_ne _ _ e]; exact H.lt g hg
 ·have e : g ≠ f := fun e => by rw [e, hs] at h; simp at h
  rw [upd_ne _ _ e]; exact H.fix g hg h
 ·by_cases e : g = f
  ·subst e; rw [upd_same]
   exact accR_min (H.below S hS g hg) (hS.does g hg hs) _ (fun x hx => sub_trans (H.below S hS x (ok.lt g hg x hx)) (hS.calls g hg hs x hx))
  ·rw [upd_ne _ _ e]; exact H.below S hS g hg
theorem Lfp.of_closed {D : RD} {R : Nat → Nat} (H : Low D R) (h : ∀ f, f < D.n → Cl D R f) : Lfp D R := by
 refine ⟨H, ⟨H.fix, fun f hf hs => ?_, fun f hf hs x hx => ?_⟩⟩
 ·have := (accR_sub (D := D) (R := R) (f := f) (D.c f)).2.1
  rwa [h f hf hs] at this
 ·have := (accR_sub (D := D) (R := R) (f := f) (D.c f)).2.2 x hx
  rwa [h f hf hs] at this
theorem grow_step {D : RD} (ok : D.Ok) {R : Nat → Nat} (H : Low D R) {f : Nat} (hf : f < D.n) (hs : D.some f = false) : (accR D R f (D.c f) = R f ∧ upd R f (accR D R f (D.c f)) = R) ∨ (accR D R f (D.c f) ≠ R f ∧ sumB D.n R < sumB D.n (upd R f (accR D R f (D.c f)))) := by
 by_cases e : accR D R f (D.c f) = R f
 ·exact .inl ⟨e, by rw [e]; exact upd_id _ _⟩
 ·refine .inr ⟨e, ?_⟩
  have h1 := sumB_upd (n := D.n) (f := f) (v := accR D R f (D.c f)) (R := R) hf
  have h2 := bits_lt (accR_sub (D := D) (R := R) (f := f) (D.c f)).1 (Ne.symm e) (accR_lt (H.lt f hf) (ok.does f hf) _ (fun x hx => H.lt x (ok.lt f hf x hx)))
  omega
end Go.Am.Ef
/- All functions' rows (effect.Rows): the walk of a group. -/
namespace Go.Am.Ef
open Go.Am
variable {P : Prog}
set_option maxRecDepth 20000
set_option maxHeartbeats 1000000
def u64T (N : Nat) (f : Nat → Nat) : List AV := (List.range N).map (fun i => .int .u64 (f i : Nat))
def usL (N : Nat) (f : Nat → Nat) : List U64 := (List.range N).map (fun i => ⟨f i⟩)
theorem flat_us (N : Nat) (f : Nat → Nat) : (usL N f).flatMap Enc.cells = u64T N f := by
 unfold usL u64T
 generalize List.range N = l
 induction l with
 | nil => rfl
 | cons a l ih => rw [List.map_cons, List.flatMap_cons, ih]; rfl
theorem len_u64T {N : Nat} (f : Nat → Nat) : (u64T N f).length = N := by simp [u64T]
theorem len_usL {N : Nat} (f : Nat → Nat) : (usL N f).length = N := by simp [usL]
section
variable {N i : Nat}
theorem u64T_get {f : Nat → Nat} (h : i < N) : (u64T N f)[i]? = some (.int .u64 (f i : Nat)) := by
 simp only [u64T, List.getElem?_map, List.getElem?_range h, Option.map_some]
theorem u64T_set {f : Nat → Nat} {v : Nat} : (u64T N f).set i (.int .u64 (v : Nat)) = u64T N (upd f i v) := by
 refine List.ext_getElem (by simp [u64T]) (fun j h1 h2 => ?_)
 simp only [u64T, List.getElem_map, List.getElem_range, List.getElem_set, upd]
 by_cases e : i = j
 ·subst e; simp
 ·rw [if_neg e, if_neg (Ne.symm e)]
theorem ldU {f : Nat → Nat} (h : i < N) : ((dropN i (u64T N f)).bind fun r => takeN 1 r) = some [.int .u64 (f i : Nat)] := sub1 (u64T_get h)
theorem ovU {f : Nat → Nat} {v : Nat} (h : i < N) : over (u64T N f) i [.int .u64 (v : Nat)] = some (u64T N (upd f i v)) := by
 rw [over1 (by rw [len_u64T]; exact h), u64T_set]
end
theorem map_usL {fns : List FuncV} (q : FuncV → U64) : fns.map q = usL fns.length (fun i => (q (fns.getD i default)).n) := by
 refine List.ext_getElem (by simp [usL]) (fun i h1 h2 => ?_)
 have hi : i < fns.length := by simpa using h1
 simp only [usL, List.getElem_map, List.getElem_range, List.getD_eq_getElem?_getD, List.getElem?_eq_getElem hi, Option.getD_some]
structure RwAt (h0 g : Heap) (n o4 e4 o9 e9 : Nat) (R dm : Nat → Nat) : Prop where
 r : g.get o4 = some (.row 1 e4 (u64T n R))
 d : g.get o9 = some (.row 1 e9 (u64T n dm))
 ne : o4 ≠ o9
 o4 : h0.next ≤ o4 ∧ o4 < g.next
 o9 : h0.next ≤ o9 ∧ o9 < g.next
 old : Old h0 g
theorem RwAt.set {h0 g : Heap} {n o4 e4 o9 e9 : Nat} {R dm : Nat → Nat} (H : RwAt h0 g n o4 e4 o9 e9 R dm) (R' : Nat → Nat) : RwAt h0 (g.put o4 (.row 1 e4 (u64T n R'))) n o4 e4 o9 e9 R' dm :=
 ⟨get_put_same _ _ _, by rw [get_put_ne _ _ _ _ H.ne.symm]; exact H.d, H.ne, H.o4, H.o9, ⟨H.old.next, fun o ho => by rw [get_put_ne _ _ _ _ (by have := H.o4.1; omega)]; exact H.old.keep o ho⟩⟩
def RDof (names : List (List UInt8)) (p : ProgV) : RD := ⟨p.fns.length, fun i => (p.fns.getD i default).some, fun i => maskL names (p.fns.getD i default).row, fun i => (doesM names (p.fns.getD i default)).n, cN p⟩
def a18t : ACode := (.seq (.seq (.reg 0 a18r19 [2, 4, 9, 10, 13, 14, 16, 17, 47, 48, 49, 54, 55, 56, 79, 80, 81]) (.block 6 (.loop a18l0))) (.seq (.reg 0 a18r24 [2, 4, 9, 10, 13, 14, 16, 17, 47, 48, 49, 54, 55, 56]) (.reg 0 a18r25 [2, 4, 9, 10, 13, 14, 17, 47, 48, 49, 54, 55, 56])))
theorem a18l1_eq : a18l1 = (.seq (.reg 0 a18r15 [2, 4, 9, 10, 13, 14, 17, 47, 48, 49, 54, 55, 56, 57]) (.seq (.cond (.s 57) .skip (.exit 4)) (.seq (.block 5 (.seq (.reg 0 a18r16 [2, 4, 9, 10, 13, 14, 16, 17, 47, 48, 49, 54, 55, 56]) (.seq (.seq (.reg 0 a18r17 [2, 4, 9, 10, 13, 14, 16, 17, 47, 48, 49, 54, 55, 56, 66]) (.cond (.s 66) (.exit 5) .skip)) (.seq (.dreg 0 a18d18 [2, 4, 9, 10, 13, 14, 16, 17, 47, 48, 49, 54, 55, 56]) a18t)))) (.reg 0 a18r26 [2, 4, 9, 10, 13, 14, 17, 47, 48, 49, 54, 55, 56])))) := rfl
structure RowC (D : RD) (p : ProgV) (cs : List SlI) : Prop where
 ok : D.Ok
 n : D.n = p.fns.length
 len : cs.length = p.fns.length
 cs : ∀ f, f < p.fns.length → (cs.getD f default).l = castL (D.c f)
 lens : ∀ f, f < p.fns.length → (D.c f).length ≤ 100000
theorem rows_tail {D : RD} {p : ProgV} {cs : List SlI} (C : RowC D p cs) {h0 g : Heap} {v4 v9 : AV} {o4 e4 o9 e9 : Nat} {R : Nat → Nat} (ev4 : v4 = .hs 1 o4 e4 0 p.fns.length false) (ev9 : v9 = .hs 1 o9 e9 0 p.fns.length false) (H : RwAt h0 g p.fns.length o4 e4 o9 e9 R D.does) (L : Low D R)
  {gs : List SlI} {ngs ncs gnl ag : Bool} {l : List Int} {f gi k t m ln : Nat} (hf : f < p.fns.length) (hm : m = R f ||| D.does f) {K : AExit → St → Prop}
  (hK : ∀ t g' m', RwAt h0 g' p.fns.length o4 e4 o9 e9 (upd R f (accR D R f (D.c f))) D.does → K .normal { fr := [(2, .lbox 0 [slv p.sn false p.sites, slv p.fn false p.fns]), (4, v4), (9, v9), (10, slv ncs false cs), (13, slv gnl false l), (14, .bool (ag || decide (accR D R f (D.c f) ≠ R f))), (17, .int .u64 (m' : Nat)), (47, slv ngs false gs), (48, .int .i64 (gs.length : Nat)), (49, .int .i64 (gi : Nat)), (54, slv gnl false l), (55, .int .i64 (ln : Nat)), (56, .int .i64 (k : Nat))], st := t, h := g' }) :
  Wp P a18t { fr := [(2, .lbox 0 [slv p.sn false p.sites, slv p.fn false p.fns]), (4, v4), (9, v9), (10, slv ncs false cs), (13, slv gnl false l), (14, .bool ag), (16, .int .i64 (f : Nat)), (17, .int .u64 (m : Nat)), (47, slv ngs false gs), (48, .int .i64 (gs.length : Nat)), (49, .int .i64 (gi : Nat)), (54, slv gnl false l), (55, .int .i64 (ln : Nat)), (56, .int .i64 (k : Nat))], st := t, h := g } K := by
 subst ev4
 subst ev9
 subst hm
 have hcl := C.cs f hf
 have hfl : f < cs.length := by rw [C.len]; exact hf
 have hll : (cs.getD f default).l.length = (D.c f).length := by rw [hcl]; simp [castL]
 have hlens := C.lens f hf
 have hfD : f < D.n := by rw [C.n]; exact hf
 simp (disch := omega) only [go_sem, a18t, a18r19, hfl, hll]
 refine Wp_loop (fun z : Nat × Nat => z.2 ≤ (D.c f).length) (fun (t, j) => { fr := [(2, .lbox 0 [slv p.sn false p.sites, slv p.fn false p.fns]), (4, .hs 1 o4 e4 0 p.fns.length false), (9, .hs 1 o9 e9 0 p.fns.length false), (10, slv ncs false cs), (13, slv gnl false l), (14, .bool ag), (16, .int .i64 (f : Nat)), (17, .int .u64 (accR D R f ((D.c f).take j) : Nat)), (47, slv ngs false gs), (48, .int .i64 (gs.length : Nat)), (49, .int .i64 (gi : Nat)), (54, slv gnl false l), (55, .int .i64 (ln : Nat)), (56, .int .i64 (k : Nat)), (79, slv (cs.getD f default).nl false (cs.getD f default).l), (80, .int .i64 ((D.c f).length : Nat)), (81, .int .i64 (j : Nat))], st := t, h := g }) (fun z => (D.c f).length - z.2) (t, 0) rfl (Nat.zero_le _) ?_
 rintro ⟨t2, j⟩ j1
 simp only at j1
 simp (disch := omega) only [go_sem, a18l0, a18r20]
 refine condS_if (fun c1 => ?_) (fun c1 => ?_)
 ·have hj : j < (D.c f).length := by omega
  have hjl : j < (cs.getD f default).l.length := by rw [hll]; exact hj
  have hx := C.ok.lt f hfD _ (getD_mem hj)
  have hgd : (cs.getD f default).l.getD j default = (((D.c f).getD j 0 : Nat) : Int) := by rw [hcl]; exact castL_get hj
  have hst : accR D R f ((D.c f).take (j + 1)) = accR D R f ((D.c f).take j) ||| R ((D.c f).getD j 0) := by
   rw [List.take_succ_eq_append_getElem hj, accR_snoc, List.getD_eq_getElem?_getD, List.getElem?_eq_getElem hj]; rfl
  have hacc := accR_lt (D := D) (R := R) (f := f) (L.lt f hfD) (C.ok.does f hfD) ((D.c f).take j) (fun x hx => L.lt x (C.ok.lt f hfD x (List.mem_of_mem_take hx)))
  have hRx := L.lt _ hx
  rw [C.n] at hx
  generalize (D.c f).getD j 0 = x at hx hgd hst hRx
  have l1 := ldU (f := R) hx
  have b1 := bin_or_u64 hacc hRx
  simp (disch := omega) only [go_sem, a18r21, hjl, hgd]
  simp (disch := omega) only [go_sem, a18r22, H.r, hx, Nat.mul_one, l1, b1]
  simp (disch := omega) only [go_sem, a18r23]
  exact ⟨(t2, j + 1), by simp only; omega, by simp only; omega, by simp only [hst]; push_cast; rfl⟩
 ·have e : j = (D.c f).length := by omega
  subst e
  rw [List.take_length]
  have l1 := ldU (f := R) hf
  have x1 := ovU (f := R) (v := accR D R f (D.c f)) hf
  have hw : ∀ q : Bool, AV.bool (q || decide (¬ ((accR D R f (D.c f) : Nat) : Int) = ((R f : Nat) : Int))) = AV.bool (q || decide (accR D R f (D.c f) ≠ R f)) := fun q => by
   congr 2
   exact decide_eq_decide.2 (by omega)
  cases ag with
  | true =>
   simp (disch := omega) only [go_sem, a18r24, H.r, hf, Nat.mul_one, l1]
   simp (disch := omega) only [go_sem, a18r25, H.r, hf, Nat.mul_one, x1]
   have := hK t2 _ (accR D R f (D.c f)) (H.set (upd R f (accR D R f (D.c f))))
   simpa using this
  | false =>
   simp (disch := omega) only [go_sem, a18r24, H.r, hf, Nat.mul_one, l1]
   have hw' : decide (¬ ((accR D R f (D.c f) : Nat) : Int) = ((R f : Nat) : Int)) = decide (accR D R f (D.c f) ≠ R f) := decide_eq_decide.2 (by omega)
   rw [hw']
   simp (disch := omega) only [go_sem, a18r25, H.r, hf, Nat.mul_one, x1]
   have := hK t2 _ (accR D R f (D.c f)) (H.set (upd R f (accR D R f (D.c f))))
   simpa using this
def o17 : Option Nat → Fr
 | none => []
 | some m => [(17, .int .u64 (m : Nat))]
def o54 (q2 gnl : Bool) (l : List Int) : Fr := if q2 = true then [(54, slv gnl false l), (55, .int .i64 (l.length : Nat)), (56, .int .i64 (l.length : Nat)), (57, .bool false)] else []
theorem rows_once {D : RD} {p : ProgV} {cs : List SlI} (C : RowC D p cs) (hsm : ∀ f, f < p.fns.length → D.some f = (p.fns.getD f default).some) (hdl : p.fns.length ≤ 100000) {h0 g0 : Heap} {o4 e4 o9 e9 : Nat} {R0 : Nat → Nat} (H : RwAt h0 g0 p.fns.length o4 e4 o9 e9 R0 D.does) (L : Low D R0)
  {gs : List SlI} {ngs ncs gnl : Bool} {G : List Nat} {gi t0 : Nat} {q0 : Option Nat} (hG : ∀ x ∈ G, x < p.fns.length) (hGl : G.length ≤ 100000) {K : AExit → St → Prop}
  (hK : ∀ t q ag R g, RwAt h0 g p.fns.length o4 e4 o9 e9 R D.does → Low D R → (ag = false → R = R0 ∧ ∀ x ∈ G, Cl D R x) → (ag = true → sumB D.n R0 < sumB D.n R) → (∀ f, f ∉ G → R f = R0 f) → K (.exit 4) { fr := [(2, .lbox 0 [slv p.sn false p.sites, slv p.fn false p.fns]), (4, .hs 1 o4 e4 0 p.fns.length false), (9, .hs 1 o9 e9 0 p.fns.length false), (10, slv ncs false cs), (13, slv gnl false (castL G)), (14, .bool ag)] ++ o17 q ++ [(47, slv ngs false gs), (48, .int .i64 (gs.length : Nat)), (49, .int .i64 (gi : Nat))] ++ o54 true gnl (castL G), st := t, h := g }) :
  Wp P (.loop a18l1) { fr := [(2, .lbox 0 [slv p.sn false p.sites, slv p.fn false p.fns]), (4, .hs 1 o4 e4 0 p.fns.length false), (9, .hs 1 o9 e9 0 p.fns.length false), (10, slv ncs false cs), (13, slv gnl false (castL G)), (14, .bool false)] ++ o17 q0 ++ [(47, slv ngs false gs), (48, .int .i64 (gs.length : Nat)), (49, .int .i64 (gi : Nat)), (54, slv gnl false (castL G)), (55, .int .i64 (G.length : Nat)), (56, .int .i64 ((0 : Nat) : Nat))], st := t0, h := g0 } K := by
 have hCl : (castL G).length = G.length := by simp [castL]
 have hn := C.n
 refine Wp_loop (fun z : Nat × Nat × Option Nat × Bool × (Nat → Nat) × Heap => z.2.1 ≤ G.length ∧ RwAt h0 z.2.2.2.2.2 p.fns.length o4 e4 o9 e9 z.2.2.2.2.1 D.does ∧ Low D z.2.2.2.2.1 ∧ (z.2.2.2.1 = false → z.2.2.2.2.1 = R0 ∧ ∀ x ∈ G.take z.2.1, Cl D z.2.2.2.2.1 x) ∧ (z.2.2.2.1 = true → sumB D.n R0 < sumB D.n z.2.2.2.2.1) ∧ (∀ f, f ∉ G → z.2.2.2.2.1 f = R0 f))
  (fun (t, k, q, ag, R, g) => { fr := [(2, .lbox 0 [slv p.sn false p.sites, slv p.fn false p.fns]), (4, .hs 1 o4 e4 0 p.fns.length false), (9, .hs 1 o9 e9 0 p.fns.length false), (10, slv ncs false cs), (13, slv gnl false (castL G)), (14, .bool ag)] ++ o17 q ++ [(47, slv ngs false gs), (48, .int .i64 (gs.length : Nat)), (49, .int .i64 (gi : Nat)), (54, slv gnl false (castL G)), (55, .int .i64 (G.length : Nat)), (56, .int .i64 (k : Nat))], st := t, h := g }) (fun z => G.length - z.2.1) (t0, 0, q0, false, R0, g0) rfl ⟨Nat.zero_le _, H, L, fun _ => ⟨rfl, fun x hx => by simp at hx⟩, fun h => by simp at h, fun f _ => rfl⟩ ?_
 rintro ⟨t, k, q, ag, R, g⟩ ⟨k1, H1, L1, i1, i2, i3⟩
 simp only at k1 H1 L1 i1 i2 i3
 rw [a18l1_eq]
 by_cases c1 : k < G.length
 ·have hg := castL_get c1
  have hf := hG _ (getD_mem c1)
  have hmem := getD_mem c1
  have hst : G.take (k + 1) = G.take k ++ [G.getD k 0] := by
   rw [List.take_succ_eq_append_getElem c1, List.getD_eq_getElem?_getD, List.getElem?_eq_getElem c1]; rfl
  have hkl : k < (castL G).length := by rw [hCl]; exact c1
  generalize G.getD k 0 = f at hg hf hmem hst
  have hfD : f < D.n := by rw [hn]; exact hf
  have hs := hsm f hf
  have w1 : decide (((k : Nat) : Int) < ((G.length : Nat) : Int)) = true := decide_eq_true (by omega)
  have lt1 := L1.lt f hfD
  have lt2 := C.ok.does f hfD
  have l1 := ldU (f := R) hf
  have l2 := ldU (f := D.does) hf
  have b1 := bin_or_u64 lt1 lt2
  cases hsv : (p.fns.getD f default).some with
  | true =>
   rw [hsv] at hs
   cases q with
   | none =>
    simp only [o17, List.cons_append, List.nil_append]
    simp (disch := omega) only [go_sem, a18r15, w1, hCl]
    simp (disch := omega) only [go_sem, a18r16, hkl, hg]
    simp (disch := omega) only [go_sem, a18r17, hf, hsv]
    simp (disch := omega) only [go_sem, a18r26]
    refine ⟨(t, k + 1, none, ag, R, g), ⟨by simp only; omega, H1, L1, fun h => ?_, i2, i3⟩, by simp only; omega, by simp only [o17, List.cons_append, List.nil_append]; push_cast; rfl⟩
    obtain ⟨e1, e2⟩ := i1 h
    refine ⟨e1, fun x hx => ?_⟩
    simp only at hx
    rw [hst] at hx
    rcases List.mem_append.1 hx with hx | hx
    ·exact e2 x hx
    ·rw [List.mem_singleton.1 hx]; intro h2; rw [hs] at h2; simp at h2
   | some m =>
    simp only [o17, List.cons_append, List.nil_append]
    simp (disch := omega) only [go_sem, a18r15, w1, hCl]
    simp (disch := omega) only [go_sem, a18r16, hkl, hg]
    simp (disch := omega) only [go_sem, a18r17, hf, hsv]
    simp (disch := omega) only [go_sem, a18r26]
    refine ⟨(t, k + 1, some m, ag, R, g), ⟨by simp only; omega, H1, L1, fun h => ?_, i2, i3⟩, by simp only; omega, by simp only [o17, List.cons_append, List.nil_append]; push_cast; rfl⟩
    obtain ⟨e1, e2⟩ := i1 h
    refine ⟨e1, fun x hx => ?_⟩
    simp only at hx
    rw [hst] at hx
    rcases List.mem_append.1 hx with hx | hx
    ·exact e2 x hx
    ·rw [List.mem_singleton.1 hx]; intro h2; rw [hs] at h2; simp at h2
  | false =>
   rw [hsv] at hs
   have hgs := grow_step C.ok L1 hfD hs
   have hlow := L1.step C.ok hfD hs
   have hfin : ∀ (t' : Nat) (g' : Heap) (m' : Nat), RwAt h0 g' p.fns.length o4 e4 o9 e9 (upd R f (accR D R f (D.c f))) D.does → ∃ y : Nat × Nat × Option Nat × Bool × (Nat → Nat) × Heap, (y.2.1 ≤ G.length ∧ RwAt h0 y.2.2.2.2.2 p.fns.length o4 e4 o9 e9 y.2.2.2.2.1 D.does ∧ Low D y.2.2.2.2.1 ∧ (y.2.2.2.1 = false → y.2.2.2.2.1 = R0 ∧ ∀ x ∈ G.take y.2.1, Cl D y.2.2.2.2.1 x) ∧ (y.2.2.2.1 = true → sumB D.n R0 < sumB D.n y.2.2.2.2.1) ∧ (∀ f, f ∉ G → y.2.2.2.2.1 f = R0 f)) ∧ G.length - y.2.1 < G.length - k ∧ ({ fr := [(2, .lbox 0 [slv p.sn false p.sites, slv p.fn false p.fns]), (4, .hs 1 o4 e4 0 p.fns.length false), (9, .hs 1 o9 e9 0 p.fns.length false), (10, slv ncs false cs), (13, slv gnl false (castL G)), (14, .bool (ag || decide (accR D R f (D.c f) ≠ R f)))] ++ o17 (some m') ++ [(47, slv ngs false gs), (48, .int .i64 (gs.length : Nat)), (49, .int .i64 (gi : Nat)), (54, slv gnl false (castL G)), (55, .int .i64 (G.length : Nat)), (56, .int .i64 ((k + 1 : Nat) : Nat))], st := t', h := g' } : St) = (match y with | (t, k, q, ag, R, g) => { fr := [(2, .lbox 0 [slv p.sn false p.sites, slv p.fn false p.fns]), (4, .hs 1 o4 e4 0 p.fns.length false), (9, .hs 1 o9 e9 0 p.fns.length false), (10, slv ncs false cs), (13, slv gnl false (castL G)), (14, .bool ag)] ++ o17 q ++ [(47, slv ngs false gs), (48, .int .i64 (gs.length : Nat)), (49, .int .i64 (gi : Nat)), (54, slv gnl false (castL G)), (55, .int .i64 (G.length : Nat)), (56, .int .i64 (k : Nat))], st := t, h := g }) := fun t' g' m' H2 => by
    refine ⟨(t', k + 1, some m', ag || decide (accR D R f (D.c f) ≠ R f), upd R f (accR D R f (D.c f)), g'), ⟨by simp only; omega, H2, hlow, fun h => ?_, fun h => ?_, fun y hy => ?_⟩, by simp only; omega, by simp only [o17, List.cons_append, List.nil_append]⟩
    ·simp only [Bool.or_eq_false_iff, decide_eq_false_iff_not, ne_eq, Classical.not_not] at h
     obtain ⟨h1, h2⟩ := h
     obtain ⟨e1, e2⟩ := i1 h1
     have e3 : upd R f (accR D R f (D.c f)) = R := by rw [h2]; exact upd_id _ _
     simp only [e3]
     refine ⟨e1, fun x hx => ?_⟩
     rw [hst] at hx
     rcases List.mem_append.1 hx with hx | hx
     ·exact e2 x hx
     ·rw [List.mem_singleton.1 hx]; intro _; exact h2
    ·simp only at h ⊢
     cases ag with
     | true =>
      have := i2 rfl
      rcases hgs with ⟨-, e⟩ | ⟨-, e⟩
      ·rw [e]; exact this
      ·omega
     | false =>
      obtain ⟨e1, -⟩ := i1 rfl
      subst e1
      rcases hgs with ⟨e, -⟩ | ⟨-, e⟩
      ·simp [e] at h
      ·exact e
    ·simp only
     rw [upd_ne _ _ (fun e => hy (by rw [e]; exact hmem))]
     exact i3 y hy
   cases q with
   | none =>
    simp only [o17, List.cons_append, List.nil_append]
    simp (disch := omega) only [go_sem, a18r15, w1, hCl]
    simp (disch := omega) only [go_sem, a18r16, hkl, hg]
    simp (disch := omega) only [go_sem, a18r17, hf, hsv]
    simp (disch := omega) only [go_sem, a18d18, H1.r, H1.d, hf, Nat.mul_one, l1, l2, b1]
    refine rows_tail C rfl rfl H1 L1 hf rfl (fun t' g' m' H2 => ?_)
    simp (disch := omega) only [go_sem, a18r26]
    obtain ⟨y, y1, y2, y3⟩ := hfin t' g' m' H2
    refine ⟨y, y1, y2, ?_⟩
    refine Eq.trans ?_ y3
    simp only [o17, List.cons_append, List.nil_append]
    try push_cast
    try rfl
   | some m =>
    simp only [o17, List.cons_append, List.nil_append]
    simp (disch := omega) only [go_sem, a18r15, w1, hCl]
    simp (disch := omega) only [go_sem, a18r16, hkl, hg]
    simp (disch := omega) only [go_sem, a18r17, hf, hsv]
    simp (disch := omega) only [go_sem, a18d18, H1.r, H1.d, hf, Nat.mul_one, l1, l2, b1]
    refine rows_tail C rfl rfl H1 L1 hf rfl (fun t' g' m' H2 => ?_)
    simp (disch := omega) only [go_sem, a18r26]
    obtain ⟨y, y1, y2, y3⟩ := hfin t' g' m' H2
    refine ⟨y, y1, y2, ?_⟩
    refine Eq.trans ?_ y3
    simp only [o17, List.cons_append, List.nil_append]
    try push_cast
    try rfl
 ·have e : k = G.length := by omega
  subst e
  rw [List.take_length] at i1
  have w1 : decide (((G.length : Nat) : Int) < ((G.length : Nat) : Int)) = false := decide_eq_false (by omega)
  have := hK t q ag R g H1 L1 i1 i2 i3
  cases q with
  | none =>
   simp only [o17, o54, List.cons_append, List.nil_append, if_true, hCl] at this ⊢
   simp (disch := omega) only [go_sem, a18r15, w1, hCl]
   exact this
  | some m =>
   simp only [o17, o54, List.cons_append, List.nil_append, if_true, hCl] at this ⊢
   simp (disch := omega) only [go_sem, a18r15, w1, hCl]
   exact this
end Go.Am.Ef
/- All functions' rows (effect.Rows). -/
namespace Go.Am.Ef
open Go.Am
variable {P : Prog}
set_option maxRecDepth 20000
set_option maxHeartbeats 1000000
theorem o17_none : o17 none = [] := rfl
theorem o17_some (m : Nat) : o17 (some m) = [(17, .int .u64 (m : Nat))] := rfl
theorem o54_true (gnl : Bool) (l : List Int) : o54 true gnl l = [(54, slv gnl false l), (55, .int .i64 (l.length : Nat)), (56, .int .i64 (l.length : Nat)), (57, .bool false)] := rfl
theorem o54_false (gnl : Bool) (l : List Int) : o54 false gnl l = [] := rfl
theorem rows_grp {D : RD} {p : ProgV} {cs : List SlI} (C : RowC D p cs) (hsm : ∀ f, f < p.fns.length → D.some f = (p.fns.getD f default).some) (hdl : p.fns.length ≤ 100000) {h0 g0 : Heap} {o4 e4 o9 e9 : Nat} {R0 : Nat → Nat} (H : RwAt h0 g0 p.fns.length o4 e4 o9 e9 R0 D.does) (L : Low D R0)
  {gs : List SlI} {ngs ncs gnl : Bool} {G : List Nat} {gi t0 : Nat} {q0 : Option Nat} (hG : ∀ x ∈ G, x < p.fns.length) (hGl : G.length ≤ 100000) {K : AExit → St → Prop}
  (hK : ∀ t q R g, RwAt h0 g p.fns.length o4 e4 o9 e9 R D.does → Low D R → (∀ x ∈ G, Cl D R x) → (∀ f, f ∉ G → R f = R0 f) → K (.exit 2) { fr := [(2, .lbox 0 [slv p.sn false p.sites, slv p.fn false p.fns]), (4, .hs 1 o4 e4 0 p.fns.length false), (9, .hs 1 o9 e9 0 p.fns.length false), (10, slv ncs false cs), (13, slv gnl false (castL G))] ++ o17 q ++ [(47, slv ngs false gs), (48, .int .i64 (gs.length : Nat)), (49, .int .i64 (gi : Nat)), (53, .bool false)], st := t, h := g }) :
  Wp P (.loop a18l2) { fr := [(2, .lbox 0 [slv p.sn false p.sites, slv p.fn false p.fns]), (4, .hs 1 o4 e4 0 p.fns.length false), (9, .hs 1 o9 e9 0 p.fns.length false), (10, slv ncs false cs), (13, slv gnl false (castL G)), (14, .bool true)] ++ o17 q0 ++ [(47, slv ngs false gs), (48, .int .i64 (gs.length : Nat)), (49, .int .i64 (gi : Nat))], st := t0, h := g0 } K := by
 have hCl : (castL G).length = G.length := by simp [castL]
 refine Wp_loop (fun z : Nat × Option Nat × Bool × Bool × (Nat → Nat) × Heap => RwAt h0 z.2.2.2.2.2 p.fns.length o4 e4 o9 e9 z.2.2.2.2.1 D.does ∧ Low D z.2.2.2.2.1 ∧ (z.2.2.2.1 = false → ∀ x ∈ G, Cl D z.2.2.2.2.1 x) ∧ (∀ f, f ∉ G → z.2.2.2.2.1 f = R0 f))
  (fun (t, q, q2, ag, R, g) => { fr := [(2, .lbox 0 [slv p.sn false p.sites, slv p.fn false p.fns]), (4, .hs 1 o4 e4 0 p.fns.length false), (9, .hs 1 o9 e9 0 p.fns.length false), (10, slv ncs false cs), (13, slv gnl false (castL G)), (14, .bool ag)] ++ o17 q ++ ([(47, slv ngs false gs), (48, .int .i64 (gs.length : Nat)), (49, .int .i64 (gi : Nat))] ++ o54 q2 gnl (castL G)), st := t, h := g }) (fun z => if z.2.2.2.1 = true then 64 * D.n - sumB D.n z.2.2.2.2.1 + 1 else 0) (t0, q0, false, true, R0, g0) rfl ⟨H, L, fun h => by simp at h, fun f _ => rfl⟩ ?_
 rintro ⟨t, q, q2, ag, R, g⟩ ⟨H1, L1, i1, i3⟩
 simp only at H1 L1 i1 i3
 cases ag with
 | true =>
  have key : ∀ t q', Wp P (.loop a18l1) { fr := [(2, .lbox 0 [slv p.sn false p.sites, slv p.fn false p.fns]), (4, .hs 1 o4 e4 0 p.fns.length false), (9, .hs 1 o9 e9 0 p.fns.length false), (10, slv ncs false cs), (13, slv gnl false (castL G)), (14, .bool false)] ++ o17 q' ++ [(47, slv ngs false gs), (48, .int .i64 (gs.length : Nat)), (49, .int .i64 (gi : Nat)), (54, slv gnl false (castL G)), (55, .int .i64 (G.length : Nat)), (56, .int .i64 0)], st := t, h := g } (fun x s => x = .exit 4 ∧ ∃ t q ag R2 g2, s = { fr := [(2, .lbox 0 [slv p.sn false p.sites, slv p.fn false p.fns]), (4, .hs 1 o4 e4 0 p.fns.length false), (9, .hs 1 o9 e9 0 p.fns.length false), (10, slv ncs false cs), (13, slv gnl false (castL G)), (14, .bool ag)] ++ o17 q ++ ([(47, slv ngs false gs), (48, .int .i64 (gs.length : Nat)), (49, .int .i64 (gi : Nat))] ++ o54 true gnl (castL G)), st := t, h := g2 } ∧ RwAt h0 g2 p.fns.length o4 e4 o9 e9 R2 D.does ∧ Low D R2 ∧ (ag = false → R2 = R ∧ ∀ x ∈ G, Cl D R2 x) ∧ (ag = true → sumB D.n R < sumB D.n R2) ∧ (∀ f, f ∉ G → R2 f = R f)) := fun t q' =>
   rows_once C hsm hdl H1 L1 hG hGl (fun t q ag R2 g2 a1 a2 a3 a4 a5 => ⟨rfl, t, q, ag, R2, g2, by simp only [List.append_assoc], a1, a2, a3, a4, a5⟩)
  have fin : ∀ (t : Nat) (q : Option Nat) (ag : Bool) (R2 : Nat → Nat) (g2 : Heap), RwAt h0 g2 p.fns.length o4 e4 o9 e9 R2 D.does → Low D R2 → (ag = false → R2 = R ∧ ∀ x ∈ G, Cl D R2 x) → (ag = true → sumB D.n R < sumB D.n R2) → (∀ f, f ∉ G → R2 f = R f) → ∃ y : Nat × Option Nat × Bool × Bool × (Nat → Nat) × Heap, (RwAt h0 y.2.2.2.2.2 p.fns.length o4 e4 o9 e9 y.2.2.2.2.1 D.does ∧ Low D y.2.2.2.2.1 ∧ (y.2.2.2.1 = false → ∀ x ∈ G, Cl D y.2.2.2.2.1 x) ∧ (∀ f, f ∉ G → y.2.2.2.2.1 f = R0 f)) ∧ (if y.2.2.2.1 = true then 64 * D.n - sumB D.n y.2.2.2.2.1 + 1 else 0) < 64 * D.n - sumB D.n R + 1 ∧ ({ fr := [(2, .lbox 0 [slv p.sn false p.sites, slv p.fn false p.fns]), (4, .hs 1 o4 e4 0 p.fns.length false), (9, .hs 1 o9 e9 0 p.fns.length false), (10, slv ncs false cs), (13, slv gnl false (castL G)), (14, .bool ag)] ++ o17 q ++ ([(47, slv ngs false gs), (48, .int .i64 (gs.length : Nat)), (49, .int .i64 (gi : Nat))] ++ o54 true gnl (castL G)), st := t, h := g2 } : St) = (match y with | (t, q, q2, ag, R, g) => { fr := [(2, .lbox 0 [slv p.sn false p.sites, slv p.fn false p.fns]), (4, .hs 1 o4 e4 0 p.fns.length false), (9, .hs 1 o9 e9 0 p.fns.length false), (10, slv ncs false cs), (13, slv gnl false (castL G)), (14, .bool ag)] ++ o17 q ++ ([(47, slv ngs false gs), (48, .int .i64 (gs.length : Nat)), (49, .int .i64 (gi : Nat))] ++ o54 q2 gnl (castL G)), st := t, h := g }) := fun t q ag R2 g2 a1 a2 a3 a4 a5 => by
   refine ⟨(t, q, true, ag, R2, g2), ⟨a1, a2, fun h => (a3 h).2, fun f hf => (a5 f hf).trans (i3 f hf)⟩, ?_, rfl⟩
   simp only
   cases ag with
   | false => simp
   | true =>
    have h1 := a4 rfl
    have h2 := sumB_le D.n R2
    simp only [if_true]; omega
  cases q with
  | none =>
   have key := fun t => key t none
   cases q2 with
   | false =>
    simp only [o17_none, o17_some, o54_true, o54_false, List.cons_append, List.nil_append] at key fin ⊢
    simp (disch := omega) only [go_sem, a18l2, a18r12]
    simp (disch := omega) only [go_sem, a18r13]
    simp (disch := omega) only [go_sem, a18r14, hCl]
    refine Wp.mono (key _) (fun x s hx => ?_)
    obtain ⟨rfl, t, q, ag, R2, g2, rfl, a1, a2, a3, a4, a5⟩ := hx
    rw [blockQ_exit, if_pos rfl, blockQ_normal, loopQ_normal]
    exact fin t q ag R2 g2 a1 a2 a3 a4 a5
   | true =>
    simp only [o17_none, o17_some, o54_true, o54_false, List.cons_append, List.nil_append] at key fin ⊢
    simp (disch := omega) only [go_sem, a18l2, a18r12]
    simp (disch := omega) only [go_sem, a18r13]
    simp (disch := omega) only [go_sem, a18r14, hCl]
    refine Wp.mono (key _) (fun x s hx => ?_)
    obtain ⟨rfl, t, q, ag, R2, g2, rfl, a1, a2, a3, a4, a5⟩ := hx
    rw [blockQ_exit, if_pos rfl, blockQ_normal, loopQ_normal]
    exact fin t q ag R2 g2 a1 a2 a3 a4 a5
  | some m =>
   have key := fun t => key t (some m)
   cases q2 with
   | false =>
    simp only [o17_none, o17_some, o54_true, o54_false, List.cons_append, List.nil_append] at key fin ⊢
    simp (disch := omega) only [go_sem, a18l2, a18r12]
    simp (disch := omega) only [go_sem, a18r13]
    simp (disch := omega) only [go_sem, a18r14, hCl]
    refine Wp.mono (key _) (fun x s hx => ?_)
    obtain ⟨rfl, t, q, ag, R2, g2, rfl, a1, a2, a3, a4, a5⟩ := hx
    rw [blockQ_exit, if_pos rfl, blockQ_normal, loopQ_normal]
    exact fin t q ag R2 g2 a1 a2 a3 a4 a5
   | true =>
    simp only [o17_none, o17_some, o54_true, o54_false, List.cons_append, List.nil_append] at key fin ⊢
    simp (disch := omega) only [go_sem, a18l2, a18r12]
    simp (disch := omega) only [go_sem, a18r13]
    simp (disch := omega) only [go_sem, a18r14, hCl]
    refine Wp.mono (key _) (fun x s hx => ?_)
    obtain ⟨rfl, t, q, ag, R2, g2, rfl, a1, a2, a3, a4, a5⟩ := hx
    rw [blockQ_exit, if_pos rfl, blockQ_normal, loopQ_normal]
    exact fin t q ag R2 g2 a1 a2 a3 a4 a5
 | false =>
  have := hK t q R g H1 L1 (i1 rfl) i3
  cases q with
  | none =>
   cases q2 with
   | false =>
    simp only [o17_none, o17_some, o54_true, o54_false, List.cons_append, List.nil_append] at this ⊢
    simp (disch := omega) only [go_sem, a18l2, a18r12]
    exact this
   | true =>
    simp only [o17_none, o17_some, o54_true, o54_false, List.cons_append, List.nil_append] at this ⊢
    simp (disch := omega) only [go_sem, a18l2, a18r12]
    exact this
  | some m =>
   cases q2 with
   | false =>
    simp only [o17_none, o17_some, o54_true, o54_false, List.cons_append, List.nil_append] at this ⊢
    simp (disch := omega) only [go_sem, a18l2, a18r12]
    exact this
   | true =>
    simp only [o17_none, o17_some, o54_true, o54_false, List.cons_append, List.nil_append] at this ⊢
    simp (disch := omega) only [go_sem, a18l2, a18r12]
    exact this
end Go.Am.Ef
/- EffectGroups: any program's calls and groups are what the document says. -/
namespace Go.Am.Ef
open Go.Am
variable {P : Prog}
set_option maxRecDepth 20000
set_option maxHeartbeats 1000000
theorem alone_two {α : Type} [EncP α] (nl : Bool) (l : List α) (n : Int) : alone 1 (.tup [slv nl false l, .int .i64 n]) = true := by
 refine alone1_tup _ (fun x hx => ?_)
 simp only [List.mem_cons, List.not_mem_nil, or_false] at hx
 rcases hx with rfl | rfl
 ·exact pureV_slv _ _ _ _ (Nat.le_refl _)
 ·rfl
theorem getD_map_l {cs : List SlI} {gs : List (List Int)} (h : cs.map (·.l) = gs) {i : Nat} (hi : i < gs.length) : (cs.getD i default).l = gs.getD i [] := by
 subst h
 have hi' : i < cs.length := by simpa using hi
 simp only [List.getD_eq_getElem?_getD, List.getElem?_map, List.getElem?_eq_getElem hi', Option.map_some, Option.getD_some]
theorem runK_len (c : Nat → List Nat) (s : TS) (N : Nat) : ∀ (t : Nat) (D : List Nat), (runK c s N t D).length ≤ D.length + t
 | 0, D => Nat.le_refl _
 | t + 1, D => by
  rw [runK]
  split
  ·omega
  ·have := runK_len c s N t (D ++ [‹Nat›])
   simp only [List.length_append, List.length_cons, List.length_nil] at this
   omega
end Go.Am.Ef
/- All functions' rows (effect.Rows): the whole. -/
namespace Go.Am.Ef
open Go.Am
variable {P : Prog}
set_option maxRecDepth 20000
set_option maxHeartbeats 1000000
structure OrdOk (c : Nat → List Nat) (N : Nat) (s : TS) (E : List Nat) : Prop where
 nd : E.Nodup
 lt : ∀ k ∈ E, k < s.n
 pre : ∀ i f x, f < N → s.of f ∈ E.take i → x ∈ c f → s.of x ∈ E.take i
theorem runK_ord {c : Nat → List Nat} {N : Nat} {s : TS} (H : GrN c N s) : ∀ (t : Nat) (D : List Nat), OrdOk c N s D → s.n ≤ D.length + t → OrdOk c N s (runK c s N t D) ∧ s.n ≤ (runK c s N t D).length := by
 intro t
 induction t with
 | zero => intro D h hl; exact ⟨h, by simpa [runK] using hl⟩
 | succ t ih =>
  intro D h hl
  rw [runK]
  cases hk : (ksG s N).find? (pickK c s N D) with
  | none =>
   refine ⟨h, ?_⟩
   rcases Nat.lt_or_ge D.length s.n with q | q
   ·obtain ⟨k, h1, h2⟩ := pick_some H h.nd q
    have := List.find?_eq_none.1 hk k h1
    simp [h2] at this
   ·exact q
  | some k =>
   have hm := mem_ks.1 (List.mem_of_find?_eq_some hk)
   have hp := List.find?_some hk
   rw [pickK, Bool.and_eq_true, readyB_iff] at hp
   have hkD : k ∉ D := by simpa [dnOf] using hp.1
   refine ih (D ++ [k]) ⟨?_, ?_, ?_⟩ (by simp only [List.length_append, List.length_cons, List.length_nil]; omega)
   ·rw [List.nodup_append]; exact ⟨h.nd, by simp, fun a ha b hb e => hkD (by rw [List.mem_singleton.1 hb] at e; exact e ▸ ha)⟩
   ·intro j hj
    rcases List.mem_append.1 hj with h2 | h2
    ·exact h.lt j h2
    ·rw [List.mem_singleton.1 h2]; exact hm
   ·intro i f x hf hi hx
    rcases Nat.lt_or_ge D.length i with q | q
    ·have e : (D ++ [k]).take i = D ++ [k] := List.take_of_length_le (by simp only [List.length_append, List.length_cons, List.length_nil]; omega)
     rw [e] at hi ⊢
     rcases List.mem_append.1 hi with h2 | h2
     ·have := h.pre D.length f x hf (by rw [List.take_length]; exact h2) hx
      rw [List.take_length] at this
      exact List.mem_append_left _ this
     ·have h3 := List.mem_singleton.1 h2
      rcases hp.2 f (mem_grp.2 ⟨hf, h3⟩) x hx with h4 | h4
      ·rw [h4]; exact List.mem_append_right _ h2
      ·exact List.mem_append_left _ (by simpa [dnOf] using h4)
    ·rw [List.take_append_of_le_length q] at hi ⊢
     exact h.pre i f x hf hi hx
theorem ord_nil (c : Nat → List Nat) (N : Nat) (s : TS) : OrdOk c N s [] := ⟨by simp, fun k h => by simp at h, fun i f x _ h => by simp at h⟩
theorem ord_all {c : Nat → List Nat} {N : Nat} {s : TS} {E : List Nat} (h : OrdOk c N s E) (hl : s.n ≤ E.length) : ∀ k, k < s.n → k ∈ E := fun k hk => Classical.byContradiction (fun hn => by
 have h1 : (k :: E).Nodup := List.nodup_cons.2 ⟨hn, h.nd⟩
 have hs : (k :: E) ⊆ List.range s.n := fun j hj => by
  rcases List.mem_cons.1 hj with rfl | hj
  ·exact List.mem_range.2 hk
  ·exact List.mem_range.2 (h.lt j hj)
 have := h1.length_le_of_subset hs
 simp only [List.length_cons, List.length_range] at this
 omega)
@[go_sem] theorem extA_4 (a b c e f : AV) (r : List AV) : extA 4 (.tup (a :: b :: c :: e :: f :: r)) = some f := rfl
theorem rows_all {D : RD} {p : ProgV} {cs : List SlI} (C : RowC D p cs) (hsm : ∀ f, f < p.fns.length → D.some f = (p.fns.getD f default).some) (hdl : p.fns.length ≤ 100000) {h0 g0 : Heap} {o4 e4 o9 e9 : Nat} {R0 : Nat → Nat} (H : RwAt h0 g0 p.fns.length o4 e4 o9 e9 R0 D.does) (L : Low D R0)
  {gs : List SlI} {ngs ncs : Bool} {t0 : Nat} {s : TS} {E : List Nat} (hE : OrdOk D.c p.fns.length s E) (hEl : E.length ≤ 100000) (hgs : gs.map (·.l) = E.map (fun k => castL (grp s p.fns.length k))) {K : AExit → St → Prop}
  (hK : ∀ t q R g, RwAt h0 g p.fns.length o4 e4 o9 e9 R D.does → Low D R → (∀ f, f < p.fns.length → s.of f ∈ E → Cl D R f) → K (.exit 0) { fr := [(2, .lbox 0 [slv p.sn false p.sites, slv p.fn false p.fns]), (4, .hs 1 o4 e4 0 p.fns.length false), (9, .hs 1 o9 e9 0 p.fns.length false), (10, slv ncs false cs)] ++ o17 q ++ [(47, slv ngs false gs), (48, .int .i64 (gs.length : Nat)), (49, .int .i64 (E.length : Nat)), (50, .bool false)], st := t, h := g }) :
  Wp P (.loop a18l3) { fr := [(2, .lbox 0 [slv p.sn false p.sites, slv p.fn false p.fns]), (4, .hs 1 o4 e4 0 p.fns.length false), (9, .hs 1 o9 e9 0 p.fns.length false), (10, slv ncs false cs)] ++ [(47, slv ngs false gs), (48, .int .i64 (gs.length : Nat)), (49, .int .i64 ((0 : Nat) : Nat))], st := t0, h := g0 } K := by
 have hgl : gs.length = E.length := by have := congrArg List.length hgs; simpa using this
 refine Wp_loop (fun z : Nat × Nat × Option Nat × (Nat → Nat) × Heap => z.2.1 ≤ E.length ∧ RwAt h0 z.2.2.2.2 p.fns.length o4 e4 o9 e9 z.2.2.2.1 D.does ∧ Low D z.2.2.2.1 ∧ (∀ f, f < p.fns.length → s.of f ∈ E.take z.2.1 → Cl D z.2.2.2.1 f))
  (fun (t, gi, q, R, g) => { fr := [(2, .lbox 0 [slv p.sn false p.sites, slv p.fn false p.fns]), (4, .hs 1 o4 e4 0 p.fns.length false), (9, .hs 1 o9 e9 0 p.fns.length false), (10, slv ncs false cs)] ++ o17 q ++ [(47, slv ngs false gs), (48, .int .i64 (gs.length : Nat)), (49, .int .i64 (gi : Nat))], st := t, h := g }) (fun z => E.length - z.2.1) (t0, 0, none, R0, g0) rfl ⟨Nat.zero_le _, H, L, fun f _ h => by simp at h⟩ ?_
 rintro ⟨t, gi, q, R, g⟩ ⟨k1, H1, L1, i1⟩
 simp only at k1 H1 L1 i1
 by_cases c1 : gi < E.length
 ·have hgi : gi < gs.length := by omega
  have w1 : decide (((gi : Nat) : Int) < ((gs.length : Nat) : Int)) = true := decide_eq_true (by omega)
  have hgg : (gs.getD gi default).l = castL (grp s p.fns.length (E.getD gi 0)) := by
   rw [getD_map_l hgs (by simpa using c1)]
   simp only [List.getD_eq_getElem?_getD, List.getElem?_map, List.getElem?_eq_getElem c1, Option.map_some, Option.getD_some]
  have hkm := getD_mem (l := E) c1
  have hst : E.take (gi + 1) = E.take gi ++ [E.getD gi 0] := by
   rw [List.take_succ_eq_append_getElem c1, List.getD_eq_getElem?_getD, List.getElem?_eq_getElem c1]; rfl
  have hnt : E.getD gi 0 ∉ E.take gi := by
   have h1 : (E.take gi ++ [E.getD gi 0]).Nodup := by rw [← hst]; exact hE.nd.sublist (List.take_sublist _ _)
   rw [List.nodup_append] at h1
   exact fun h2 => h1.2.2 _ h2 _ (List.mem_singleton.2 rfl) rfl
  generalize E.getD gi 0 = k at hgg hkm hst hnt
  generalize hnl : (gs.getD gi default).nl = gnl
  have hG : ∀ x ∈ grp s p.fns.length k, x < p.fns.length := fun x hx => (mem_grp.1 hx).1
  have hGl : (grp s p.fns.length k).length ≤ 100000 := Nat.le_trans (List.length_filter_le _ _) (by simpa using hdl)
  have fin : ∀ (R2 : Nat → Nat), (∀ x ∈ grp s p.fns.length k, Cl D R2 x) → (∀ f, f ∉ grp s p.fns.length k → R2 f = R f) → ∀ f, f < p.fns.length → s.of f ∈ E.take (gi + 1) → Cl D R2 f := fun R2 a1 a2 f hf hm => by
   rw [hst] at hm
   rcases List.mem_append.1 hm with h2 | h2
   ·have hne : ∀ x, s.of x ∈ E.take gi → R2 x = R x := fun x hx => a2 x (fun h3 => hnt (by rw [← (mem_grp.1 h3).2]; exact hx))
    intro hs
    have := i1 f hf h2 hs
    rw [hne f h2]
    have hacc : ∀ l : List Nat, (∀ x ∈ l, R2 x = R x) → accR D R2 f l = accR D R f l := fun l => by
     refine snocInd (p := fun l => (∀ x ∈ l, R2 x = R x) → accR D R2 f l = accR D R f l) ?_ (fun l x ih => ?_) l
     ·intro _; simp only [accR, List.foldl_nil, hne f h2]
     ·intro h; rw [accR_snoc, accR_snoc, ih (fun y hy => h y (List.mem_append_left _ hy)), h x (by simp)]
    rw [hacc _ (fun x hx => hne x (hE.pre gi f x hf h2 hx))]
    exact this
   ·exact a1 f (mem_grp.2 ⟨hf, List.mem_singleton.1 h2⟩)
  have key : ∀ t q', Wp P (.loop a18l2) { fr := [(2, .lbox 0 [slv p.sn false p.sites, slv p.fn false p.fns]), (4, .hs 1 o4 e4 0 p.fns.length false), (9, .hs 1 o9 e9 0 p.fns.length false), (10, slv ncs false cs), (13, slv gnl false (castL (grp s p.fns.length k))), (14, .bool true)] ++ o17 q' ++ [(47, slv ngs false gs), (48, .int .i64 (gs.length : Nat)), (49, .int .i64 (gi : Nat))], st := t, h := g } (fun x s' => x = .exit 2 ∧ ∃ t q R2 g2, s' = { fr := [(2, .lbox 0 [slv p.sn false p.sites, slv p.fn false p.fns]), (4, .hs 1 o4 e4 0 p.fns.length false), (9, .hs 1 o9 e9 0 p.fns.length false), (10, slv ncs false cs), (13, slv gnl false (castL (grp s p.fns.length k)))] ++ o17 q ++ [(47, slv ngs false gs), (48, .int .i64 (gs.length : Nat)), (49, .int .i64 (gi : Nat)), (53, .bool false)], st := t, h := g2 } ∧ RwAt h0 g2 p.fns.length o4 e4 o9 e9 R2 D.does ∧ Low D R2 ∧ (∀ x ∈ grp s p.fns.length k, Cl D R2 x) ∧ (∀ f, f ∉ grp s p.fns.length k → R2 f = R f)) := fun t q' =>
   rows_grp C hsm hdl H1 L1 hG hGl (fun t q R2 g2 a1 a2 a3 a5 => ⟨rfl, t, q, R2, g2, rfl, a1, a2, a3, a5⟩)
  cases q with
  | none =>
   have key := fun t => key t none
   simp only [o17_none, o17_some, List.cons_append, List.nil_append] at key ⊢
   simp (disch := omega) only [go_sem, a18l3, a18r9, w1]
   simp (disch := omega) only [go_sem, a18r10, hgi, hgg, hnl]
   simp (disch := omega) only [go_sem, a18r11]
   refine Wp.mono (key _) (fun x s' hx => ?_)
   obtain ⟨rfl, t, q, R2, g2, rfl, a1, a2, a3, a5⟩ := hx
   have hpost := fin R2 a3 a5
   cases q with
   | none =>
    simp only [o17_none, o17_some, List.cons_append, List.nil_append]
    simp (disch := omega) only [go_sem, a18r27]
    exact ⟨(t, gi + 1, none, R2, g2), ⟨by simp only; omega, a1, a2, hpost⟩, by simp only; omega, by simp only [o17_none, List.cons_append, List.nil_append]; push_cast; rfl⟩
   | some m =>
    simp only [o17_none, o17_some, List.cons_append, List.nil_append]
    simp (disch := omega) only [go_sem, a18r27]
    exact ⟨(t, gi + 1, some m, R2, g2), ⟨by simp only; omega, a1, a2, hpost⟩, by simp only; omega, by simp only [o17_some, List.cons_append, List.nil_append]; push_cast; rfl⟩
  | some m =>
   have key := fun t => key t (some m)
   simp only [o17_none, o17_some, List.cons_append, List.nil_append] at key ⊢
   simp (disch := omega) only [go_sem, a18l3, a18r9, w1]
   simp (disch := omega) only [go_sem, a18r10, hgi, hgg, hnl]
   simp (disch := omega) only [go_sem, a18r11]
   refine Wp.mono (key _) (fun x s' hx => ?_)
   obtain ⟨rfl, t, q, R2, g2, rfl, a1, a2, a3, a5⟩ := hx
   have hpost := fin R2 a3 a5
   cases q with
   | none =>
    simp only [o17_none, o17_some, List.cons_append, List.nil_append]
    simp (disch := omega) only [go_sem, a18r27]
    exact ⟨(t, gi + 1, none, R2, g2), ⟨by simp only; omega, a1, a2, hpost⟩, by simp only; omega, by simp only [o17_none, List.cons_append, List.nil_append]; push_cast; rfl⟩
   | some m =>
    simp only [o17_none, o17_some, List.cons_append, List.nil_append]
    simp (disch := omega) only [go_sem, a18r27]
    exact ⟨(t, gi + 1, some m, R2, g2), ⟨by simp only; omega, a1, a2, hpost⟩, by simp only; omega, by simp only [o17_some, List.cons_append, List.nil_append]; push_cast; rfl⟩
 ·have e : gi = E.length := by omega
  subst e
  rw [List.take_length] at i1
  have w1 : decide (((E.length : Nat) : Int) < ((gs.length : Nat) : Int)) = false := decide_eq_false (by omega)
  have := hK t q R g H1 L1 i1
  cases q with
  | none =>
   simp only [o17_none, o17_some, List.cons_append, List.nil_append] at this ⊢
   simp (disch := omega) only [go_sem, a18l3, a18r9, w1]
   exact this
  | some m =>
   simp only [o17_none, o17_some, List.cons_append, List.nil_append] at this ⊢
   simp (disch := omega) only [go_sem, a18l3, a18r9, w1]
   exact this
theorem rd_ok {names : List (List UInt8)} {p : ProgV} (hn : names.length ≤ 64) (hc : CallsOk p) : (RDof names p).Ok :=
 ⟨fun f _ => maskL_lt hn _, fun f _ => maskL_lt hn _, fun f hf x hx => by
  obtain ⟨y, hy, rfl⟩ := List.mem_map.1 hx
  have := hc.lt _ (slv_get hf) y hy
  show y.toNat < p.fns.length
  omega⟩
theorem rows_c {names : List (List UInt8)} {p : ProgV} {cs : List SlI} (hn : names.length ≤ 64) (hc : CallsOk p) (hcs : cs.map (·.l) = p.fns.map callsF) : RowC (RDof names p) p cs := by
 have hlen : cs.length = p.fns.length := by have := congrArg List.length hcs; simpa using this
 refine ⟨rd_ok hn hc, rfl, hlen, fun f hf => ?_, fun f hf => ?_⟩
 ·rw [getD_map_l hcs (by simpa using hf)]
  simp only [List.getD_eq_getElem?_getD, List.getElem?_map, List.getElem?_eq_getElem hf, Option.map_some, Option.getD_some]
  have hpos : ∀ x ∈ callsF (p.fns.getD f default), 0 ≤ x := fun x hx => (hc.lt _ (slv_get hf) x hx).1
  show _ = castL ((callsF (p.fns.getD f default)).map Int.toNat)
  rw [List.getD_eq_getElem?_getD, List.getElem?_eq_getElem hf, Option.getD_some] at hpos ⊢
  generalize callsF p.fns[f] = l at hpos
  induction l with
  | nil => rfl
  | cons a l ih =>
   simp only [castL, List.map_cons, List.map_map] at ih ⊢
   rw [← ih (fun x hx => hpos x (List.mem_cons_of_mem _ hx))]
   have := hpos a List.mem_cons_self
   congr 1
   omega
 ·show ((callsF (p.fns.getD f default)).map Int.toNat).length ≤ _
  rw [List.length_map]
  exact Nat.le_trans (callsF_len _) (hc.deeds _ (slv_get hf))
def RowsR (names : List (List UInt8)) (p : ProgV) (h : Heap) (v : AV) (h' : Heap) : Prop :=
 (mayP p = false ∧ v = .tup [.nils, .int .i64 0, .int .i64 0, .int .i64 1] ∧ Old h h') ∨
 (mayP p = true ∧ ∃ i pos, i < p.fns.length ∧ (∀ j, j < i → badF names (p.fns.getD j default) = none) ∧ badF names (p.fns.getD i default) = some pos ∧ v = .tup [.nils, .int .i64 (i : Nat), .int .i64 pos, .int .i64 13] ∧ Old h h') ∨
 (mayP p = true ∧ (∀ f ∈ p.fns, badF names f = none) ∧ ∃ v1 R, v = .tup [v1, .int .i64 0, .int .i64 0, .int .i64 0] ∧ Bld h h' v1 (usL p.fns.length R) ∧ Lfp (RDof names p) R)
theorem rows18_fun (hP : EfP P) {h : Heap} {o b : Nat} {names : List (List UInt8)} (T : TabB b h o names) (hb : b ≤ h.next) (p : ProgV) (hw : ProgWf p) (hc : mayP p = true → CallsOk p) (hn : p.fns.length ≤ 100000) (hd : ∀ f ∈ p.fns, (deedsF f).length ≤ 100000) : Fun P 18 [p.av, .ptr o 0] h (fun v h' => RowsR names p h v h') := by
 refine Fun.of (code := a18c) (hP.code rfl) (by rw [hP.pure]; rfl) ?_
 have hnl := T.tab.small
 unfold ProgV.av
 simp (disch := omega) only [go_sem, a18c, a18r0]
 simp (disch := omega) only [go_sem, a18r1]
 refine WO.den (k := 0) (vs := [p.av]) (by rw [hP.pure]; rfl) (by simp (disch := omega) only [go_sem]; rfl) (groups_den hP p hw hc hn hd) (fun v hv => ?_) (fun v hv => ?_)
 ·rcases hv with ⟨-, rfl⟩ | ⟨-, s, -, nl, cs, rfl, -⟩
  ·rfl
  ·exact alone_two _ _ _
 rcases hv with ⟨hm, rfl⟩ | ⟨hm, s, Gn, ngs, gs, rfl, hgs⟩
 ·simp (disch := omega) only [go_sem]
  simp (disch := omega) only [go_sem, a18r2]
  simp (disch := omega) only [go_sem, a18r3]
  exact .inl ⟨hm, rfl, Old.refl _⟩
 have hC := hc hm
 simp (disch := omega) only [go_sem]
 simp (disch := omega) only [go_sem, a18r2]
 simp (disch := omega) only [go_sem, a18r4]
 refine WO.fun (vs := [p.av, .ptr o 0]) (by simp (disch := omega) only [go_sem]; rfl) (declared_fun hP T hb p hw hn hd) (fun v h' hv => ?_)
 rcases hv with ⟨i, pos, hi, hj, hbi, rfl, ho⟩ | ⟨hall, v1, v2, rfl, B1, B2, hap⟩
 ·simp (disch := omega) only [go_sem]
  simp (disch := omega) only [go_sem, a18r5]
  simp (disch := omega) only [go_sem, a18r6]
  exact .inr (.inl ⟨hm, i, pos, hi, hj, hbi, rfl, ho⟩)
 have hE1 := B1.evs
 have hE2 := B2.evs
 simp (disch := omega) only [go_sem, hE1.ev, hE2.ev]
 simp (disch := omega) only [go_sem, a18r5, hE1.ev, hE2.ev]
 simp (disch := omega) only [go_sem, a18r7, hE1.ev, hE2.ev]
 refine WO.den (k := 0) (vs := [p.av]) (by rw [hP.pure]; rfl) (by simp (disch := omega) only [go_sem]; rfl) (calls_den hP p hw hn hd) (fun v hv => ?_) (fun v hv => ?_)
 ·rcases hv with ⟨-, rfl⟩ | ⟨-, nl, cs, rfl, -⟩
  ·rfl
  ·exact alone_two _ _ _
 rcases hv with ⟨hm', -⟩ | ⟨-, ncs, cs, rfl, hcs⟩
 ·rw [hm] at hm'; simp at hm'
 have C := rows_c (names := names) hnl hC hcs
 obtain ⟨hE, hEl⟩ := runK_ord Gn s.n [] (ord_nil _ _ _) (by simp)
 have hall2 := ord_all hE hEl
 have hElen : (runK (cN p) s p.fns.length s.n []).length ≤ p.fns.length := by
  have h2 := runK_len (cN p) s p.fns.length s.n []
  have := Gn.n
  simp only [List.length_nil] at h2; omega
 generalize runK (cN p) s p.fns.length s.n [] = E at hE hEl hall2 hElen hgs
 have hgl : gs.length = E.length := by have := congrArg List.length hgs; simpa using this
 simp (disch := omega) only [go_sem, hE1.ev, hE2.ev]
 simp (disch := omega) only [go_sem, a18r8, hE1.ev, hE2.ev]
 have h0 : p.fns.length = 0 → ∀ R, Lfp (RDof names p) R := fun e R =>
  have hf : ∀ f, ¬ f < (RDof names p).n := fun f hf => by have hf' : f < p.fns.length := hf; omega
  ⟨⟨fun f h => absurd h (hf f), fun f h => absurd h (hf f), fun S _ f h => absurd h (hf f)⟩, ⟨fun f h => absurd h (hf f), fun f h => absurd h (hf f), fun f h => absurd h (hf f)⟩⟩
 have hzero : p.fns.length = 0 → Wp P (.loop a18l3) { fr := [(2, .lbox 0 [slv p.sn false p.sites, slv p.fn false p.fns]), (4, v1), (9, v2), (10, slv ncs false cs), (47, slv ngs false gs), (48, .int .i64 (gs.length : Nat)), (49, .int .i64 0)], st := 1, h := h' } (fun x s' => x = .exit 0 ∧ ∃ t q R g, s' = { fr := [(2, .lbox 0 [slv p.sn false p.sites, slv p.fn false p.fns]), (4, v1), (9, v2), (10, slv ncs false cs)] ++ o17 q ++ [(47, slv ngs false gs), (48, .int .i64 (gs.length : Nat)), (49, .int .i64 (E.length : Nat)), (50, .bool false)], st := t, h := g } ∧ Bld h g v1 (usL p.fns.length R) ∧ Lfp (RDof names p) R) := fun e => by
  have e2 : E.length = 0 := by omega
  refine Wp_loop (fun _ : Unit => True) (fun _ => { fr := [(2, .lbox 0 [slv p.sn false p.sites, slv p.fn false p.fns]), (4, v1), (9, v2), (10, slv ncs false cs), (47, slv ngs false gs), (48, .int .i64 (gs.length : Nat)), (49, .int .i64 0)], st := 1, h := h' }) (fun _ => 0) () rfl trivial ?_
  intro _ _
  have w1 : decide ((0 : Int) < ((gs.length : Nat) : Int)) = false := decide_eq_false (by omega)
  simp (disch := omega) only [go_sem, a18l3, a18r9, w1, hE1.ev, hE2.ev]
  refine ⟨trivial, 1, none, fun _ => 0, h', by simp [o17, e2], ?_, h0 e _⟩
  have e3 : p.fns.map (rowM names) = usL p.fns.length (fun _ => 0) := by
   have : p.fns = [] := List.eq_nil_of_length_eq_zero e
   rw [this]; rfl
  rw [← e3]; exact B1
 have hmain : Wp P (.loop a18l3) { fr := [(2, .lbox 0 [slv p.sn false p.sites, slv p.fn false p.fns]), (4, v1), (9, v2), (10, slv ncs false cs), (47, slv ngs false gs), (48, .int .i64 (gs.length : Nat)), (49, .int .i64 0)], st := 1, h := h' } (fun x s' => x = .exit 0 ∧ ∃ t q R g, s' = { fr := [(2, .lbox 0 [slv p.sn false p.sites, slv p.fn false p.fns]), (4, v1), (9, v2), (10, slv ncs false cs)] ++ o17 q ++ [(47, slv ngs false gs), (48, .int .i64 (gs.length : Nat)), (49, .int .i64 (E.length : Nat)), (50, .bool false)], st := t, h := g } ∧ Bld h g v1 (usL p.fns.length R) ∧ Lfp (RDof names p) R) := by
  rcases B1.row with ⟨e1, e2⟩ | ⟨o4, e4, e1, q1⟩
  ·exact hzero (by simpa using congrArg List.length e2)
  rcases B2.row with ⟨e1', e2⟩ | ⟨o9, e9, e1', q2⟩
  ·exact hzero (by simpa using congrArg List.length e2)
  have hv1 : v1 = .hs 1 o4 e4 0 p.fns.length false := by rw [e1, List.length_map]; rfl
  have hv2 : v2 = .hs 1 o9 e9 0 p.fns.length false := by rw [e1', List.length_map]; rfl
  have hr1 : h'.get o4 = some (.row 1 e4 (u64T p.fns.length (startR (RDof names p)))) := by
   rw [q1, map_usL, flat_us]; rfl
  have hr2 : h'.get o9 = some (.row 1 e9 (u64T p.fns.length (RDof names p).does)) := by
   rw [q2, map_usL, flat_us]; rfl
  have hne : o4 ≠ o9 := fun e => hap o4 (by rw [hv1]; rfl) (by rw [hv2, e]; rfl)
  have ho4 := B1.own o4 (by rw [hv1]; rfl)
  have ho9 := B2.own o9 (by rw [hv2]; rfl)
  have H : RwAt h h' p.fns.length o4 e4 o9 e9 (startR (RDof names p)) (RDof names p).does := ⟨hr1, hr2, hne, ho4, ho9, B1.old⟩
  rw [hv1, hv2]
  refine rows_all C (fun f _ => rfl) hn H (Low.start C.ok) hE (by omega) hgs (fun t q R g a1 a2 a3 => ?_)
  refine ⟨rfl, t, q, R, g, by simp only [List.append_assoc], ⟨.inr ⟨o4, e4, by rw [len_usL]; rfl, by rw [flat_us]; exact a1.r⟩, fun o e => ?_, a1.old.next, a1.old.keep⟩, Lfp.of_closed a2 (fun f hf => a3 f hf (hall2 _ (Gn.lt f hf)))⟩
  obtain rfl := Option.some.inj e
  exact a1.o4
 refine Wp.mono hmain (fun x s' hx => ?_)
 obtain ⟨rfl, t, q, R, g, rfl, a1, a2⟩ := hx
 have hlast : ∀ v1', v1' = v1 → RowsR names p h (.tup [v1', .int .i64 0, .int .i64 0, .int .i64 0]) g := fun v1' e => .inr (.inr ⟨hm, hall, v1, R, by rw [e], a1, a2⟩)
 cases q with
 | none =>
  simp only [o17_none, o17_some, List.cons_append, List.nil_append]
  simp (disch := omega) only [go_sem, a18r28, hE1.ev, hE2.ev, hE1.dat]
  exact hlast _ rfl
 | some m =>
  simp only [o17_none, o17_some, List.cons_append, List.nil_append]
  simp (disch := omega) only [go_sem, a18r28, hE1.ev, hE2.ev, hE1.dat]
  exact hlast _ rfl
end Go.Am.Ef

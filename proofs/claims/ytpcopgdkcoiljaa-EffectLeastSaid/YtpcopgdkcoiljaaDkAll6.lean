/- Identifiers (lex.Ident, and the document's). -/
import Derived.Test.YtpcopgdkcoiljaaDkAll5
set_option linter.unusedSimpArgs false
set_option linter.unusedVariables false
namespace Go.Am
section
variable {base : Nat} {d : Option Nat} {s : St}
def bytesO (s : St) (o : Nat) : Option AV → Option (AV × St)
 | some (.str b) => some (newRowA s o 1 b.length false (byteCells b))
 | _ => none
@[go_sem] theorem W_toBytes {x : Opd} {k : Nat} : aop base d (.toBytes x k) s = bytesO s (base + k) (x.ev s.fr) := rfl
theorem byteCells_map : ∀ l : List UInt8, byteCells (l.map UInt8.toNat) = l.flatMap Enc.cells
 | [] => rfl
 | c :: r => by rw [List.map_cons, byteCells, byteCells_map r]; rfl
@[go_sem] theorem bytesO_strv (s : St) (o : Nat) (l : List UInt8) : bytesO s o (some (strv l)) = some (.hs 1 o 0 0 l.length false, { s with h := s.h.put o (.row 1 0 (l.flatMap Enc.cells)) }) := by
 show some (newRowA s o 1 (l.map UInt8.toNat).length false (byteCells (l.map UInt8.toNat))) = _
 rw [byteCells_map, List.length_map]; rfl
end
end Go.Am
namespace Go.Am.Ef
open Go.Am
variable {P : Prog}
set_option maxRecDepth 20000
set_option maxHeartbeats 1000000
theorem bin_or_u8 (c : UInt8) : binA .or (.int .u8 (c.toNat : Nat)) (.int .u8 32) = some (.int .u8 ((c ||| 32).toNat : Nat)) := by
 show some (AV.int .u8 (wrapA .u8 (((BitVec.ofInt 8 (c.toNat : Nat) ||| BitVec.ofInt 8 32).toNat : Nat) : Int))) = _
 have h1 : BitVec.ofInt 8 ((c.toNat : Nat) : Int) = c.toBitVec := by
  apply BitVec.eq_of_toNat_eq
  simp only [BitVec.toNat_ofInt, UInt8.toNat_toBitVec]
  have := c.toNat_lt; omega
 have h2 : (BitVec.ofInt 8 ((c.toNat : Nat) : Int) ||| BitVec.ofInt 8 32).toNat = (c ||| 32).toNat := by rw [h1]; rfl
 rw [h2, wrapA_u8 (by omega) (by have := (c ||| 32).toNat_lt; omega)]
def letB (c : UInt8) : Bool := decide (97 ≤ (c ||| 32).toNat) && decide ((c ||| 32).toNat ≤ 122) || decide (c.toNat = 95)
def digB (c : UInt8) : Bool := decide (48 ≤ c.toNat) && decide (c.toNat ≤ 57)
def letR (c : UInt8) : Bool := decide (97 ≤ c.toNat) && decide (c.toNat ≤ 122) || decide (65 ≤ c.toNat) && decide (c.toNat ≤ 90) || decide (c.toNat = 95)
theorem letter67_den (hP : EfP P) (c : UInt8) : Den P 67 [.int .u8 (c.toNat : Nat)] (fun v => v = .bool (letB c)) := by
 refine Den.of (code := a67c) (hP.code rfl) (fun N => ?_)
 have h1 := bin_or_u8 c
 unfold letB
 generalize (c ||| 32).toNat = m at h1 ⊢
 generalize c.toNat = q at h1 ⊢
 simp (disch := omega) only [go_sem, a67c, a67r0]
 by_cases c1 : 97 ≤ m
 ·by_cases c2 : m ≤ 122
  ·simp (disch := omega) only [go_sem, a67r1, h1, decide_eq_true (show (97 : Int) ≤ ((m : Nat) : Int) by omega), decide_eq_true (show ((m : Nat) : Int) ≤ (122 : Int) by omega), c1, c2]
  ·by_cases c3 : q = 95
   ·simp (disch := omega) only [go_sem, a67r1, h1, decide_eq_true (show (97 : Int) ≤ ((m : Nat) : Int) by omega), decide_eq_false (show ¬ ((m : Nat) : Int) ≤ (122 : Int) by omega), decide_eq_true (show ((q : Nat) : Int) = (95 : Int) by omega), c1, c2, decide_eq_true c3]
   ·simp (disch := omega) only [go_sem, a67r1, h1, decide_eq_true (show (97 : Int) ≤ ((m : Nat) : Int) by omega), decide_eq_false (show ¬ ((m : Nat) : Int) ≤ (122 : Int) by omega), decide_eq_false (show ¬ ((q : Nat) : Int) = (95 : Int) by omega), c1, c2, decide_eq_false c3]
 ·by_cases c3 : q = 95
  ·simp (disch := omega) only [go_sem, a67r1, h1, decide_eq_false (show ¬ (97 : Int) ≤ ((m : Nat) : Int) by omega), decide_eq_true (show ((q : Nat) : Int) = (95 : Int) by omega), c1, decide_eq_true c3]
  ·simp (disch := omega) only [go_sem, a67r1, h1, decide_eq_false (show ¬ (97 : Int) ≤ ((m : Nat) : Int) by omega), decide_eq_false (show ¬ ((q : Nat) : Int) = (95 : Int) by omega), c1, decide_eq_false c3]
theorem digit70_den (hP : EfP P) (c : UInt8) : Den P 70 [.int .u8 (c.toNat : Nat)] (fun v => v = .bool (digB c)) := by
 refine Den.of (code := a70c) (hP.code rfl) (fun N => ?_)
 unfold digB
 generalize c.toNat = q
 simp (disch := omega) only [go_sem, a70c, a70r0]
 by_cases c1 : 48 ≤ q
 ·by_cases c2 : q ≤ 57
  ·simp (disch := omega) only [go_sem, a70r1, decide_eq_true (show (48 : Int) ≤ ((q : Nat) : Int) by omega), decide_eq_true (show ((q : Nat) : Int) ≤ (57 : Int) by omega), c1, c2]
  ·simp (disch := omega) only [go_sem, a70r1, decide_eq_true (show (48 : Int) ≤ ((q : Nat) : Int) by omega), decide_eq_false (show ¬ ((q : Nat) : Int) ≤ (57 : Int) by omega), c1, c2]
 ·simp (disch := omega) only [go_sem, a70r1, decide_eq_false (show ¬ (48 : Int) ≤ ((q : Nat) : Int) by omega), c1]
theorem any69_den (hP : EfP P) (c : UInt8) : Den P 69 [.int .u8 (c.toNat : Nat)] (fun v => v = .bool (letB c || digB c)) := by
 refine Den.of (code := a69c) (hP.code rfl) (fun N => ?_)
 simp (disch := omega) only [go_sem, a69c, a69r0]
 simp (disch := omega) only [go_sem, a69r1]
 refine WO.den (k := 0) (vs := [.int .u8 (c.toNat : Nat)]) (by rw [hP.pure]; rfl) (by simp (disch := omega) only [go_sem]) (letter67_den hP c) (fun v hv => by subst hv; rfl) (fun v hv => ?_)
 subst hv
 cases hl : letB c with
 | true => simp (disch := omega) only [go_sem]
 | false =>
  simp (disch := omega) only [go_sem]
  refine WO.den (k := 0) (vs := [.int .u8 (c.toNat : Nat)]) (by rw [hP.pure]; rfl) (by simp (disch := omega) only [go_sem]) (digit70_den hP c) (fun v hv => by subst hv; rfl) (fun v hv => ?_)
  subst hv
  simp (disch := omega) only [go_sem]
def kws : List (List UInt8) := [[105, 109, 112, 111, 114, 116], [108, 97, 116, 116, 105, 99, 101], [101, 102, 102, 101, 99, 116, 115], [118, 97, 114], [102, 110], [108, 101, 116], [105, 102], [101, 108, 115, 101], [119, 104, 105, 108, 101], [114, 101, 116, 117, 114, 110], [100, 111], [116, 114, 117, 101], [102, 97, 108, 115, 101], [105, 110, 116], [98, 111, 111, 108], [100, 101, 99, 108, 97, 115, 115, 105, 102, 121]]
theorem key66_den (hP : EfP P) (s : List UInt8) : Den P 66 [strv s] (fun v => v = .bool (decide (s ∈ kws))) := by
 refine Den.of (code := a66c) (hP.code rfl) (fun N => ?_)
 simp (disch := omega) only [go_sem, a66c, a66r0]
 simp (disch := omega) only [go_sem, a66r1]
 simp (disch := omega) only [go_sem, a66r2]
 refine condS_if (fun c0 => ?_) (fun c0 => ?_)
 ·simp (disch := omega) only [go_sem, decide_eq_true c0]
  simp (disch := omega) only [go_sem, a66r18]
  rw [c0]; rfl
 simp (disch := omega) only [go_sem, a66r3]
 refine condS_if (fun c1 => ?_) (fun c1 => ?_)
 ·simp (disch := omega) only [go_sem, decide_eq_true c1]
  simp (disch := omega) only [go_sem, a66r18]
  rw [c1]; rfl
 simp (disch := omega) only [go_sem, a66r4]
 refine condS_if (fun c2 => ?_) (fun c2 => ?_)
 ·simp (disch := omega) only [go_sem, decide_eq_true c2]
  simp (disch := omega) only [go_sem, a66r18]
  rw [c2]; rfl
 simp (disch := omega) only [go_sem, a66r5]
 refine condS_if (fun c3 => ?_) (fun c3 => ?_)
 ·simp (disch := omega) only [go_sem, decide_eq_true c3]
  simp (disch := omega) only [go_sem, a66r18]
  rw [c3]; rfl
 simp (disch := omega) only [go_sem, a66r6]
 refine condS_if (fun c4 => ?_) (fun c4 => ?_)
 ·simp (disch := omega) only [go_sem, decide_eq_true c4]
  simp (disch := omega) only [go_sem, a66r18]
  rw [c4]; rfl
 simp (disch := omega) only [go_sem, a66r7]
 refine condS_if (fun c5 => ?_) (fun c5 => ?_)
 ·simp (disch := omega) only [go_sem, decide_eq_true c5]
  simp (disch := omega) only [go_sem, a66r18]
  rw [c5]; rfl
 simp (disch := omega) only [go_sem, a66r8]
 refine condS_if (fun c6 => ?_) (fun c6 => ?_)
 ·simp (disch := omega) only [go_sem, decide_eq_true c6]
  simp (disch := omega) only [go_sem, a66r18]
  rw [c6]; rfl
 simp (disch := omega) only [go_sem, a66r9]
 refine condS_if (fun c7 => ?_) (fun c7 => ?_)
 ·simp (disch := omega) only [go_sem, decide_eq_true c7]
  simp (disch := omega) only [go_sem, a66r18]
  rw [c7]; rfl
 simp (disch := omega) only [go_sem, a66r10]
 refine condS_if (fun c8 => ?_) (fun c8 => ?_)
 ·simp (disch := omega) only [go_sem, decide_eq_true c8]
  simp (disch := omega) only [go_sem, a66r18]
  rw [c8]; rfl
 simp (disch := omega) only [go_sem, a66r11]
 refine condS_if (fun c9 => ?_) (fun c9 => ?_)
 ·simp (disch := omega) only [go_sem, decide_eq_true c9]
  simp (disch := omega) only [go_sem, a66r18]
  rw [c9]; rfl
 simp (disch := omega) only [go_sem, a66r12]
 refine condS_if (fun c10 => ?_) (fun c10 => ?_)
 ·simp (disch := omega) only [go_sem, decide_eq_true c10]
  simp (disch := omega) only [go_sem, a66r18]
  rw [c10]; rfl
 simp (disch := omega) only [go_sem, a66r13]
 refine condS_if (fun c11 => ?_) (fun c11 => ?_)
 ·simp (disch := omega) only [go_sem, decide_eq_true c11]
  simp (disch := omega) only [go_sem, a66r18]
  rw [c11]; rfl
 simp (disch := omega) only [go_sem, a66r14]
 refine condS_if (fun c12 => ?_) (fun c12 => ?_)
 ·simp (disch := omega) only [go_sem, decide_eq_true c12]
  simp (disch := omega) only [go_sem, a66r18]
  rw [c12]; rfl
 simp (disch := omega) only [go_sem, a66r15]
 refine condS_if (fun c13 => ?_) (fun c13 => ?_)
 ·simp (disch := omega) only [go_sem, decide_eq_true c13]
  simp (disch := omega) only [go_sem, a66r18]
  rw [c13]; rfl
 simp (disch := omega) only [go_sem, a66r16]
 refine condS_if (fun c14 => ?_) (fun c14 => ?_)
 ·simp (disch := omega) only [go_sem, decide_eq_true c14]
  simp (disch := omega) only [go_sem, a66r18]
  rw [c14]; rfl
 simp (disch := omega) only [go_sem, a66r17]
 refine condS_if (fun c15 => ?_) (fun c15 => ?_)
 ·simp (disch := omega) only [go_sem, a66r18]
  rw [c15]; rfl
 simp (disch := omega) only [go_sem, a66r19]
 rw [decide_eq_false (by simp only [kws, List.mem_cons, List.not_mem_nil, or_false, c0, c1, c2, c3, c4, c5, c6, c7, c8, c9, c10, c11, c12, c13, c14, c15, not_false_eq_true])]
def anyB (c : UInt8) : Bool := letB c || digB c
theorem run68_den (hP : EfP P) (s : List UInt8) (nl full : Bool) (hl : s.length ≤ 1000) : Den P 68 [slv nl full s, .fn 69 []] (fun v => ∃ i : Nat, v = .int .i64 (i : Nat) ∧ i ≤ s.length ∧ (i = s.length ↔ s.all anyB = true)) := by
 refine Den.of (code := a68c) (hP.code rfl) (fun N => ?_)
 simp (disch := omega) only [go_sem, a68c, a68r0]
 simp (disch := omega) only [go_sem, a68r1]
 refine Wp_loop (fun z : Nat × Nat => z.2 ≤ s.length ∧ (s.take z.2).all anyB = true) (fun (t, i) => { fr := [(0, slv nl full s), (1, .fn 69 []), (5, .int .i64 (i : Nat))], st := t, h := { next := N, m := .leaf } }) (fun z => s.length - z.2) (_, 0) rfl ⟨Nat.zero_le _, rfl⟩ ?_
 rintro ⟨t, i⟩ ⟨i1, i2⟩
 simp only at i1 i2
 by_cases c1 : i < s.length
 ·have w1 : decide (((i : Nat) : Int) < ((s.length : Nat) : Int)) = true := decide_eq_true (by omega)
  have hst : s.take (i + 1) = s.take i ++ [s.getD i default] := by
   rw [List.take_succ_eq_append_getElem c1, List.getD_eq_getElem?_getD, List.getElem?_eq_getElem c1]; rfl
  simp (disch := omega) only [go_sem, a68l0, a68r2, w1, c1]
  refine WO_denv (f := 69) (caps := []) (k := 0) (vs := [.int .u8 ((s.getD i default).toNat : Nat)]) rfl (by rw [hP.pure]; rfl) (by simp (disch := omega) only [go_sem]) (any69_den hP _) (fun v hv => by subst hv; rfl) (fun v hv => ?_)
  subst hv
  cases hq : anyB (s.getD i default) with
  | true =>
   have hq' : (letB (s.getD i default) || digB (s.getD i default)) = true := hq
   rw [hq']
   simp (disch := omega) only [go_sem]
   simp (disch := omega) only [go_sem, a68r3]
   exact ⟨(t, i + 1), ⟨by simp only; omega, by simp only [hst, List.all_append, i2, List.all_cons, List.all_nil, hq]; rfl⟩, by simp only; omega, by push_cast; rfl⟩
  | false =>
   have hq' : (letB (s.getD i default) || digB (s.getD i default)) = false := hq
   rw [hq']
   simp (disch := omega) only [go_sem]
   simp (disch := omega) only [go_sem, a68r4]
   refine ⟨i, rfl, i1, fun e => by omega, fun h => ?_⟩
   have := List.all_eq_true.1 h _ (slv_get c1)
   rw [hq] at this; simp at this
 ·have w1 : decide (((i : Nat) : Int) < ((s.length : Nat) : Int)) = false := decide_eq_false (by omega)
  have e : i = s.length := by omega
  simp (disch := omega) only [go_sem, a68l0, a68r2, w1]
  simp (disch := omega) only [go_sem, a68r4]
  subst e
  rw [List.take_length] at i2
  exact ⟨s.length, rfl, Nat.le_refl _, fun _ => i2, fun _ => rfl⟩
def identB (s : List UInt8) : Bool := !decide (s = []) && decide (s.length ≤ 24) && !decide (s ∈ kws) && letB (s.getD 0 default) && s.all anyB
theorem ident39_den (hP : EfP P) (s : List UInt8) : Den P 39 [strv s] (fun v => v = .bool (identB s)) := by
 refine Den.of (code := a39c) (hP.code rfl) (fun N => ?_)
 simp (disch := omega) only [go_sem, a39c, a39r0]
 by_cases c1 : s = []
 ·subst c1
  simp (disch := omega) only [go_sem, a39r1]
  simp (disch := omega) only [go_sem, a39r2]
  rfl
 have d1 := decide_eq_false c1
 have hpos : 0 < s.length := List.length_pos_iff.2 c1
 by_cases c2 : s.length ≤ 24
 ·have d2 : decide ((24 : Int) < ((s.length : Nat) : Int)) = false := decide_eq_false (by omega)
  have hidx := str_idx s .i64 0 (by omega) (by omega)
  simp (disch := omega) only [go_sem, a39r1, d1, d2]
  refine WO.den (k := 0) (vs := [strv s]) (by rw [hP.pure]; rfl) (by simp (disch := omega) only [go_sem]) (key66_den hP s) (fun v hv => by subst hv; rfl) (fun v hv => ?_)
  subst hv
  cases hk : decide (s ∈ kws) with
  | true =>
   simp (disch := omega) only [go_sem]
   simp (disch := omega) only [go_sem, a39r2]
   rw [identB, hk]; simp
  | false =>
   simp (disch := omega) only [go_sem, hidx]
   refine WO.den (k := 0) (vs := [.int .u8 ((s.getD 0 0).toNat : Nat)]) (by rw [hP.pure]; rfl) (by simp (disch := omega) only [go_sem]) (letter67_den hP _) (fun v hv => by subst hv; rfl) (fun v hv => ?_)
   subst hv
   have hid : identB s = (letB (s.getD 0 0) && s.all anyB) := by
    rw [identB, hk, d1, decide_eq_true c2]; rfl
   rw [hid]
   cases hlb : letB (s.getD 0 0) with
   | false =>
    simp (disch := omega) only [go_sem]
    simp (disch := omega) only [go_sem, a39r2]
   | true =>
    simp (disch := omega) only [go_sem]
    simp (disch := omega) only [go_sem, a39r3]
    refine WO.den (k := 1) (vs := [.hs 1 N 0 0 s.length false, .fn 69 []]) (by rw [hP.pure]; rfl) (by simp (disch := omega) only [go_sem]) (R := fun v => ∃ i : Nat, v = .int .i64 (i : Nat) ∧ i ≤ s.length ∧ (i = s.length ↔ s.all anyB = true)) ?_ (fun v hv => by obtain ⟨i, rfl, -⟩ := hv; rfl) (fun v hv => ?_)
    ·have e0 : ∀ h : Heap, h.get N = some (.row 1 0 (s.flatMap Enc.cells)) → frz h 0 40 (.hs 1 N 0 0 s.length false) = slv false false s := fun h hg => (frz_hs (α := UInt8) (off := 0) (len := s.length) (N := 0) (n := 39) (full := false) (l := s) hg (by omega) (Nat.zero_le _)).trans (by simp)
     simp only [lent_11, List.map_cons, List.map_nil]
     rw [e0 _ (get_put_same _ _ _)]
     exact run68_den hP s false false (by omega)
    ·obtain ⟨i, rfl, i1, i2⟩ := hv
     have : decide (((i : Nat) : Int) = ((s.length : Nat) : Int)) = s.all anyB := by
      rw [Bool.eq_iff_iff, decide_eq_true_eq, ← i2]; omega
     simp (disch := omega) only [go_sem, this]
 ·have d2 : decide ((24 : Int) < ((s.length : Nat) : Int)) = true := decide_eq_true (by omega)
  simp (disch := omega) only [go_sem, a39r1, d1, d2]
  simp (disch := omega) only [go_sem, a39r2]
  rw [identB, decide_eq_false c2]; simp
end Go.Am.Ef
/- A table of effects is made (row.New). -/
namespace Go.Am.Ef
open Go.Am
variable {P : Prog}
set_option maxRecDepth 20000
set_option maxHeartbeats 1000000
def badN (out : List (List UInt8)) (s : List UInt8) : Option Nat := if identB s = false then some 1 else if s ∈ out then some 7 else if out.length = 64 then some 8 else none
def namesK (l : List NameV) (k : Nat) : List (List UInt8) := (l.take k).map (·.name)
def badK (l : List NameV) (k : Nat) : Option Nat := badN (namesK l k) (l.getD k default).name
theorem namesK_succ {l : List NameV} {k : Nat} (h : k < l.length) : namesK l (k + 1) = namesK l k ++ [(l.getD k default).name] := by
 unfold namesK
 rw [List.take_succ_eq_append_getElem h, List.map_append, List.getD_eq_getElem?_getD, List.getElem?_eq_getElem h]; rfl
theorem namesK_len {l : List NameV} {k : Nat} (h : k ≤ l.length) : (namesK l k).length = k := by simp [namesK]; omega
def NewR (l : List NameV) (h : Heap) (v : AV) (h' : Heap) : Prop :=
 (∃ k e, k < l.length ∧ (∀ j, j < k → badK l j = none) ∧ badK l k = some e ∧ v = .tup [.nilp, .int .i64 (k : Nat), .int .i64 (e : Nat)] ∧ Old h h') ∨
 ((∀ j, j < l.length → badK l j = none) ∧ ∃ o, v = .tup [.ptr o 0, .int .i64 0, .int .i64 0] ∧ TabB h'.next h' o (l.map (·.name)) ∧ Old h h')
def o8 : Option Bool → Fr
 | none => []
 | some b => [(8, .bool b)]
theorem o8_none : o8 none = [] := rfl
theorem o8_some (b : Bool) : o8 (some b) = [(8, .bool b)] := rfl
structure NewI (h g : Heap) (m o : Nat) (names : List (List UInt8)) (v : AV) (es : TMap) (bs : List Nat) (ck : Nat) : Prop where
 t : TabAt g o m names v es bs ck
 own : ∀ i, rowOf v = some i → o < i ∧ i < g.next
 mo : m < o ∧ h.next ≤ m ∧ o < g.next
 old : Old h g
theorem posN_snoc {names : List (List UInt8)} {x : List UInt8} (hx : x ∉ names) (s : List UInt8) : posN (names ++ [x]) s = if s = x then some names.length else posN names s := by
 unfold posN
 by_cases e : s = x
 ·subst e
  rw [if_pos (by simp), if_pos rfl]
  congr 1
  rw [List.idxOf_append, if_neg hx]
  simp
 ·rw [if_neg e]
  by_cases hm : s ∈ names
  ·rw [if_pos (List.mem_append_left _ hm), if_pos hm, List.idxOf_append, if_pos hm]
  ·rw [if_neg (by simp [hm, e]), if_neg hm]
theorem tget_tput (k s : List UInt8) (v : AV) : ∀ es : TMap, tget s (tput k v es) = if s = k then some v else tget s es
 | [] => by
  simp only [tput, tget]
  by_cases e : k = s
  ·rw [if_pos e, if_pos e.symm]
  ·rw [if_neg e, if_neg (Ne.symm e)]
 | p :: r => by
  rw [tput]
  by_cases e : p.1 = k
  ·rw [if_pos e]
   simp only [tget]
   by_cases e2 : k = s
   ·rw [if_pos e2, if_pos e2.symm]
   ·rw [if_neg e2, if_neg (Ne.symm e2), if_neg (by rw [e]; exact e2)]
  ·rw [if_neg e]
   simp only [tget]
   by_cases e2 : p.1 = s
   ·rw [if_pos e2, if_pos e2, if_neg (by rw [← e2]; exact e)]
   ·rw [if_neg e2, if_neg e2, tget_tput k s v r]
theorem NewI.step {h g : Heap} {m o : Nat} {names : List (List UInt8)} {v : AV} {es : TMap} {bs : List Nat} {ck : Nat} (I : NewI h g m o names v es bs ck) {x : List UInt8} (hx : x ∉ names) (hl : names.length < 64) {g1 g2 : Heap} {v' : AV}
  (e1 : g1 = (g.put m (putM x (.int .i64 (names.length : Nat)) es bs ck))) (hr : RowV g2 v' (names ++ [x])) (hn : g2.next = g1.next + 1) (ho : rowOf v' = rowOf v ∨ rowOf v' = some g1.next) (hf : ∀ q, q ≠ g1.next → rowOf v ≠ some q → g2.get q = g1.get q) :
  ∃ es' bs' ck', NewI h (g2.put o (.cells [v', .mp m])) m o (names ++ [x]) v' es' bs' ck' := by
 have hm := I.mo
 have hg1 : g1.next = g.next := by rw [e1]; rfl
 have hvm : rowOf v ≠ some m := fun e => by have := I.own m e; omega
 have hvo : rowOf v ≠ some o := fun e => by have := I.own o e; omega
 have hgm : g2.get m = some (putM x (.int .i64 (names.length : Nat)) es bs ck) := by
  rw [hf m (by omega) hvm, e1, get_put_same]
 have hp : ∃ bs' ck', putM x (.int .i64 (names.length : Nat)) es bs ck = .map (kv (tput x (.int .i64 (names.length : Nat)) es)) bs' ck' := by
  unfold putM; split
  ·exact ⟨_, _, rfl⟩
  ·exact ⟨_, _, rfl⟩
 obtain ⟨bs', ck', hp⟩ := hp
 have hown : ∀ i, rowOf v' = some i → o < i ∧ i < g2.next := fun i e => by
  rcases ho with e2 | e2 <;> rw [e2] at e
  ·have := I.own i e; omega
  ·have := Option.some.inj e; omega
 refine ⟨tput x (.int .i64 (names.length : Nat)) es, bs', ck', ⟨⟨get_put_same _ _ _, ?_, ?_, fun s => ?_, by simp; omega⟩, hown, ⟨hm.1, hm.2.1, by show o < g2.next; omega⟩, ⟨by show h.next ≤ g2.next; have := I.old.next; omega, fun i hi => ?_⟩⟩⟩
 ·rw [get_put_ne _ _ _ _ (by omega), hgm, hp]
 ·rcases hr with e | ⟨q, ep, e, hq⟩
  ·exact .inl e
  ·have := hown q (by rw [e]; rfl)
   exact .inr ⟨q, ep, e, by rw [get_put_ne _ _ _ _ (by omega)]; exact hq⟩
 ·rw [tget_tput, posN_snoc hx]
  by_cases e : s = x
  ·rw [if_pos e, if_pos e]; rfl
  ·rw [if_neg e, if_neg e]; exact I.t.get s
 ·rw [get_put_ne _ _ _ _ (by omega), hf i (by have := I.old.next; omega) (fun e => by have := I.own i e; omega), e1, get_put_ne _ _ _ _ (by omega)]
  exact I.old.keep i hi
theorem rowv_evs {α : Type} [Enc α] {h : Heap} {v : AV} {l : List α} (hr : RowV h v l) : Evs v := by
 rcases hr with ⟨rfl, -⟩ | ⟨o, ep, rfl, -⟩
 ·exact ⟨fun i => rfl, rfl, rfl, rfl⟩
 ·exact ⟨fun i => rfl, rfl, rfl, rfl⟩
theorem rowv_len {α : Type} [Enc α] {h : Heap} {v : AV} {l : List α} (hr : RowV h v l) : lenA h v = some l.length := by
 rcases hr with ⟨rfl, rfl⟩ | ⟨o, ep, rfl, -⟩
 ·rfl
 ·rfl
theorem new_fun (hP : EfP P) (h : Heap) (nl fl : Bool) (l : List NameV) (hl : l.length ≤ 100000) : Fun P 16 [slv nl fl l] h (fun v h' => NewR l h v h') := by
 refine Fun.of (code := a16c) (hP.code rfl) (by rw [hP.pure]; rfl) ?_
 simp (disch := omega) only [go_sem, a16c, a16r0]
 simp (disch := omega) only [go_sem, a16r1]
 simp (disch := omega) only [go_sem, a16r2]
 refine Wp_loop (fun z : Nat × Nat × Option Bool × AV × TMap × List Nat × Nat × Heap => z.2.1 ≤ l.length ∧ (∀ j, j < z.2.1 → badK l j = none) ∧ NewI h z.2.2.2.2.2.2.2 h.next (h.next + 1) (namesK l z.2.1) z.2.2.2.1 z.2.2.2.2.1 z.2.2.2.2.2.1 z.2.2.2.2.2.2.1)
  (fun (t, k, q, v, es, bs, ck, g) => { fr := [(2, .ptr (h.next + 1) 0)] ++ o8 q ++ [(12, slv nl fl l), (13, .int .i64 (l.length : Nat)), (14, .int .i64 (k : Nat))], st := t, h := g }) (fun z => l.length - z.2.1) (0, 0, none, .nils, [], [], 0, _) rfl ⟨Nat.zero_le _, fun j hj => by simp only at hj; omega, ⟨⟨get_put_same _ _ _, by rw [get_put_ne _ _ _ _ (by omega)]; exact get_put_same _ _ _, .inl ⟨rfl, rfl⟩, fun s => rfl, Nat.zero_le _⟩, fun i e => by simp [rowOf] at e, ⟨by omega, by omega, by show h.next + 1 < h.next + 2; omega⟩, ⟨by show h.next ≤ h.next + 2; omega, fun i hi => by rw [get_put_ne _ _ _ _ (by omega), get_put_ne _ _ _ _ (by omega)]; rfl⟩⟩⟩ ?_
 rintro ⟨t, k, q, v, es, bs, ck, g⟩ ⟨k1, k2, I⟩
 simp only at k1 k2 I
 have hE := rowv_evs I.t.row
 by_cases c1 : k < l.length
 ·have w1 : decide (((k : Nat) : Int) < ((l.length : Nat) : Int)) = true := decide_eq_true (by omega)
  have hlen := rowv_len I.t.row
  have hg := I.t.get (l.getD k default).name
  have hkl := namesK_len k1
  have hbk : badK l k = badN (namesK l k) (l.getD k default).name := rfl
  have hsucc := namesK_succ c1
  generalize namesK l k = names at I hg hlen hkl hbk hsucc
  have hgb : ∀ e, badK l k = some e → ∀ g', Old h g' → NewR l h (.tup [.nilp, .int .i64 (k : Nat), .int .i64 (e : Nat)]) g' := fun e he g' ho => .inl ⟨k, e, c1, k2, he, rfl, ho⟩
  have hk2' : badK l k = none → ∀ j, j < k + 1 → badK l j = none := fun he j hj => by
   by_cases e : j = k
   ·rw [e]; exact he
   ·exact k2 j (by omega)
  cases q with
  | none =>
   simp only [o8_none, o8_some, List.cons_append, List.nil_append]
   cases hp : posN names (l.getD k default).name with
   | none =>
    rw [hp, Option.map_none] at hg
    have hx : (l.getD k default).name ∉ names := fun hm => by rw [posN, if_pos hm] at hp; simp at hp
    simp (disch := omega) only [go_sem, a16l0, a16r3, w1]
    simp (disch := omega) only [go_sem, a16r4, c1]
    simp (disch := omega) only [go_sem, a16d5, I.t.tab, I.t.map, hg, Option.getD_none, Option.isSome_none]
    simp (disch := omega) only [go_sem, a16r6]
    refine WO.den (k := 0) (vs := [strv (l.getD k default).name]) (by rw [hP.pure]; rfl) (by simp (disch := omega) only [go_sem]) (ident39_den hP _) (fun v hv => by subst hv; rfl) (fun v hv => ?_)
    subst hv
    cases hid : identB (l.getD k default).name with
    | false =>
     simp (disch := omega) only [go_sem]
     simp (disch := omega) only [go_sem, a16r7]
     exact hgb 1 (by rw [hbk, badN, if_pos hid]) g I.old
    | true =>
     simp (disch := omega) only [go_sem]
     simp (disch := omega) only [go_sem, a16r8]
     simp (disch := omega) only [go_sem, a16r10, I.t.tab, hE.ev, hE.tag, hlen]
     by_cases c3 : names.length = 64
     ·have d3 : decide (((names.length : Nat) : Int) = (64 : Int)) = true := decide_eq_true (by omega)
      simp (disch := omega) only [go_sem, d3]
      simp (disch := omega) only [go_sem, a16r11]
      exact hgb 8 (by rw [hbk, badN, if_neg (by rw [hid]; simp), if_neg hx, if_pos c3]) g I.old
     ·have d3 : decide (((names.length : Nat) : Int) = (64 : Int)) = false := decide_eq_false (by omega)
      have hbn : badK l k = none := by rw [hbk, badN, if_neg (by rw [hid]; simp), if_neg hx, if_neg c3]
      have h64 := I.t.len
      have hmo := I.mo
      simp (disch := omega) only [go_sem, d3]
      simp (disch := omega) only [go_sem, a16d12, I.t.tab, I.t.map, hE.ev, hE.tag, hE.dat, hlen]
      have ht2 : (g.put h.next (putM (l.getD k default).name (.int .i64 (names.length : Nat)) es bs ck)).get (h.next + 1) = some (.cells [v, .mp h.next]) := by rw [get_put_ne _ _ _ _ (by omega)]; exact I.t.tab
      have hr2 : RowV (g.put h.next (putM (l.getD k default).name (.int .i64 (names.length : Nat)) es bs ck)) v names := by
       rcases I.t.row with e | ⟨i, ep, e, hq⟩
       ·exact .inl e
       ·have := I.own i (by rw [e]; rfl)
        exact .inr ⟨i, ep, e, by rw [get_put_ne _ _ _ _ (by omega)]; exact hq⟩
      generalize hg1 : g.put h.next (putM (l.getD k default).name (.int .i64 (names.length : Nat)) es bs ck) = g1 at ht2 hr2
      have hn1 : g1.next = g.next := by rw [← hg1]; rfl
      have ht3 : (g1.reserve 1).get (h.next + 1) = some (.cells [v, .mp h.next]) := ht2
      have hr3 : RowV (g1.reserve 1) v names := hr2
      simp (disch := omega) only [go_sem, a16d13, ht3, hE.ev, hE.tag, hE.dat, hlen]
      refine dS_app (α := List UInt8) (bytes := 16) (l := names) (new := [(l.getD k default).name]) hr3 (adds_one (α := List UInt8) _ (l.getD k default).name _ true rfl) rfl (by simp only [List.length_cons, List.length_nil, two47]; omega) (fun v' g2 q1 q2 q3 q4 => ?_)
      have hE2 := rowv_evs q1
      have ht4 : g2.get (h.next + 1) = some (.cells [v, .mp h.next]) := by
       rw [q4 _ (by omega) (fun e => by have := I.own _ e; omega)]; exact ht3
      obtain ⟨es', bs', ck', I2⟩ := I.step hx (by omega) hg1.symm q1 q2 (by rw [hn1]; exact q3) (by rw [hn1]; exact q4)
      rw [← hsucc] at I2
      simp (disch := omega) only [go_sem, hE2.ev, hE2.tag, hE2.dat, hE2.cel]
      refine WD_storeP (val := v') (off := 0) (o := h.next + 1) (c' := [v', .mp h.next]) (by simp (disch := omega) only [go_sem]) (by simp (disch := omega) only [go_sem, hE2.dat, hE2.ev]) (by rw [hE2.cel]; rfl) ht4 (by rw [hE2.cel]; rfl) rfl ?_
      simp (disch := omega) only [go_sem]
      simp (disch := omega) only [go_sem, a16r14]
      exact ⟨(_, k + 1, some false, v', es', bs', ck', _), ⟨by simp only; omega, hk2' hbn, I2⟩, by simp only; omega, by simp only [o8_some, List.cons_append, List.nil_append]; push_cast; rfl⟩
   | some pk =>
    rw [hp, Option.map_some] at hg
    have hx : (l.getD k default).name ∈ names := Classical.byContradiction (fun hm => by rw [posN, if_neg hm] at hp; simp at hp)
    simp (disch := omega) only [go_sem, a16l0, a16r3, w1]
    simp (disch := omega) only [go_sem, a16r4, c1]
    simp (disch := omega) only [go_sem, a16d5, I.t.tab, I.t.map, hg, Option.getD_some, Option.isSome_some]
    simp (disch := omega) only [go_sem, a16r6]
    refine WO.den (k := 0) (vs := [strv (l.getD k default).name]) (by rw [hP.pure]; rfl) (by simp (disch := omega) only [go_sem]) (ident39_den hP _) (fun v hv => by subst hv; rfl) (fun v hv => ?_)
    subst hv
    cases hid : identB (l.getD k default).name with
    | false =>
     simp (disch := omega) only [go_sem]
     simp (disch := omega) only [go_sem, a16r7]
     exact hgb 1 (by rw [hbk, badN, if_pos hid]) g I.old
    | true =>
     simp (disch := omega) only [go_sem]
     simp (disch := omega) only [go_sem, a16r8]
     simp (disch := omega) only [go_sem, a16r9]
     exact hgb 7 (by rw [hbk, badN, if_neg (by rw [hid]; simp), if_pos hx]) g I.old
  | some b0 =>
   simp only [o8_none, o8_some, List.cons_append, List.nil_append]
   cases hp : posN names (l.getD k default).name with
   | none =>
    rw [hp, Option.map_none] at hg
    have hx : (l.getD k default).name ∉ names := fun hm => by rw [posN, if_pos hm] at hp; simp at hp
    simp (disch := omega) only [go_sem, a16l0, a16r3, w1]
    simp (disch := omega) only [go_sem, a16r4, c1]
    simp (disch := omega) only [go_sem, a16d5, I.t.tab, I.t.map, hg, Option.getD_none, Option.isSome_none]
    simp (disch := omega) only [go_sem, a16r6]
    refine WO.den (k := 0) (vs := [strv (l.getD k default).name]) (by rw [hP.pure]; rfl) (by simp (disch := omega) only [go_sem]) (ident39_den hP _) (fun v hv => by subst hv; rfl) (fun v hv => ?_)
    subst hv
    cases hid : identB (l.getD k default).name with
    | false =>
     simp (disch := omega) only [go_sem]
     simp (disch := omega) only [go_sem, a16r7]
     exact hgb 1 (by rw [hbk, badN, if_pos hid]) g I.old
    | true =>
     simp (disch := omega) only [go_sem]
     simp (disch := omega) only [go_sem, a16r8]
     simp (disch := omega) only [go_sem, a16r10, I.t.tab, hE.ev, hE.tag, hlen]
     by_cases c3 : names.length = 64
     ·have d3 : decide (((names.length : Nat) : Int) = (64 : Int)) = true := decide_eq_true (by omega)
      simp (disch := omega) only [go_sem, d3]
      simp (disch := omega) only [go_sem, a16r11]
      exact hgb 8 (by rw [hbk, badN, if_neg (by rw [hid]; simp), if_neg hx, if_pos c3]) g I.old
     ·have d3 : decide (((names.length : Nat) : Int) = (64 : Int)) = false := decide_eq_false (by omega)
      have hbn : badK l k = none := by rw [hbk, badN, if_neg (by rw [hid]; simp), if_neg hx, if_neg c3]
      have h64 := I.t.len
      have hmo := I.mo
      simp (disch := omega) only [go_sem, d3]
      simp (disch := omega) only [go_sem, a16d12, I.t.tab, I.t.map, hE.ev, hE.tag, hE.dat, hlen]
      have ht2 : (g.put h.next (putM (l.getD k default).name (.int .i64 (names.length : Nat)) es bs ck)).get (h.next + 1) = some (.cells [v, .mp h.next]) := by rw [get_put_ne _ _ _ _ (by omega)]; exact I.t.tab
      have hr2 : RowV (g.put h.next (putM (l.getD k default).name (.int .i64 (names.length : Nat)) es bs ck)) v names := by
       rcases I.t.row with e | ⟨i, ep, e, hq⟩
       ·exact .inl e
       ·have := I.own i (by rw [e]; rfl)
        exact .inr ⟨i, ep, e, by rw [get_put_ne _ _ _ _ (by omega)]; exact hq⟩
      generalize hg1 : g.put h.next (putM (l.getD k default).name (.int .i64 (names.length : Nat)) es bs ck) = g1 at ht2 hr2
      have hn1 : g1.next = g.next := by rw [← hg1]; rfl
      have ht3 : (g1.reserve 1).get (h.next + 1) = some (.cells [v, .mp h.next]) := ht2
      have hr3 : RowV (g1.reserve 1) v names := hr2
      simp (disch := omega) only [go_sem, a16d13, ht3, hE.ev, hE.tag, hE.dat, hlen]
      refine dS_app (α := List UInt8) (bytes := 16) (l := names) (new := [(l.getD k default).name]) hr3 (adds_one (α := List UInt8) _ (l.getD k default).name _ true rfl) rfl (by simp only [List.length_cons, List.length_nil, two47]; omega) (fun v' g2 q1 q2 q3 q4 => ?_)
      have hE2 := rowv_evs q1
      have ht4 : g2.get (h.next + 1) = some (.cells [v, .mp h.next]) := by
       rw [q4 _ (by omega) (fun e => by have := I.own _ e; omega)]; exact ht3
      obtain ⟨es', bs', ck', I2⟩ := I.step hx (by omega) hg1.symm q1 q2 (by rw [hn1]; exact q3) (by rw [hn1]; exact q4)
      rw [← hsucc] at I2
      simp (disch := omega) only [go_sem, hE2.ev, hE2.tag, hE2.dat, hE2.cel]
      refine WD_storeP (val := v') (off := 0) (o := h.next + 1) (c' := [v', .mp h.next]) (by simp (disch := omega) only [go_sem]) (by simp (disch := omega) only [go_sem, hE2.dat, hE2.ev]) (by rw [hE2.cel]; rfl) ht4 (by rw [hE2.cel]; rfl) rfl ?_
      simp (disch := omega) only [go_sem]
      simp (disch := omega) only [go_sem, a16r14]
      exact ⟨(_, k + 1, some false, v', es', bs', ck', _), ⟨by simp only; omega, hk2' hbn, I2⟩, by simp only; omega, by simp only [o8_some, List.cons_append, List.nil_append]; push_cast; rfl⟩
   | some pk =>
    rw [hp, Option.map_some] at hg
    have hx : (l.getD k default).name ∈ names := Classical.byContradiction (fun hm => by rw [posN, if_neg hm] at hp; simp at hp)
    simp (disch := omega) only [go_sem, a16l0, a16r3, w1]
    simp (disch := omega) only [go_sem, a16r4, c1]
    simp (disch := omega) only [go_sem, a16d5, I.t.tab, I.t.map, hg, Option.getD_some, Option.isSome_some]
    simp (disch := omega) only [go_sem, a16r6]
    refine WO.den (k := 0) (vs := [strv (l.getD k default).name]) (by rw [hP.pure]; rfl) (by simp (disch := omega) only [go_sem]) (ident39_den hP _) (fun v hv => by subst hv; rfl) (fun v hv => ?_)
    subst hv
    cases hid : identB (l.getD k default).name with
    | false =>
     simp (disch := omega) only [go_sem]
     simp (disch := omega) only [go_sem, a16r7]
     exact hgb 1 (by rw [hbk, badN, if_pos hid]) g I.old
    | true =>
     simp (disch := omega) only [go_sem]
     simp (disch := omega) only [go_sem, a16r8]
     simp (disch := omega) only [go_sem, a16r9]
     exact hgb 7 (by rw [hbk, badN, if_neg (by rw [hid]; simp), if_pos hx]) g I.old
 ·have w1 : decide (((k : Nat) : Int) < ((l.length : Nat) : Int)) = false := decide_eq_false (by omega)
  have e : k = l.length := by omega
  have hall : namesK l k = l.map (·.name) := by unfold namesK; rw [e, List.take_length]
  rw [e] at k2
  rw [hall] at I
  have hend : NewR l h (.tup [.ptr (h.next + 1) 0, .int .i64 0, .int .i64 0]) g := .inr ⟨k2, h.next + 1, rfl, ⟨_, _, _, _, _, I.t, I.mo.2.2, by have := I.mo; omega, fun i e => (I.own i e).2⟩, I.old⟩
  cases q with
  | none =>
   simp only [o8_none, o8_some, List.cons_append, List.nil_append]
   simp (disch := omega) only [go_sem, a16l0, a16r3, w1]
   simp (disch := omega) only [go_sem, a16r15]
   exact hend
  | some b =>
   simp only [o8_none, o8_some, List.cons_append, List.nil_append]
   simp (disch := omega) only [go_sem, a16l0, a16r3, w1]
   simp (disch := omega) only [go_sem, a16r15]
   exact hend
end Go.Am.Ef
/- EffectOne: where no row is declared, functions of one group have one row. -/
namespace Go.Am.Ef
open Go.Am
variable {P : Prog}
set_option maxRecDepth 20000
set_option maxHeartbeats 1000000
theorem within26_den (hP : EfP P) {a b : Nat} (ha : a < 2 ^ 64) (hb : b < 2 ^ 64) : Den P 26 [.int .u64 (a : Nat), .int .u64 (b : Nat)] (fun v => v = .bool (decide (a ||| b = b))) := by
 refine Den.of (code := a26c) (hP.code rfl) (fun N => ?_)
 obtain ⟨c, h1, h2⟩ := bin_andNot_u64 ha hb
 have h3 : decide (((c : Nat) : Int) = (0 : Int)) = decide (a ||| b = b) := decide_eq_decide.2 (by rw [← h2]; omega)
 simp (disch := omega) only [go_sem, a26c, a26r0]
 simp (disch := omega) only [go_sem, a26r1, h1, h3]
theorem cellsAtL_flat {α : Type} [Enc α] : ∀ (l : List α) (i : Nat), cellsAtL l i = ((l.flatMap Enc.cells).drop (i * Enc.sz α)).take (Enc.sz α)
 | [], i => by simp [cellsAtL]
 | x :: r, 0 => by
  show Enc.cells x = _
  rw [Nat.zero_mul, List.drop_zero, List.flatMap_cons, ← Enc.len x, List.take_left]
 | x :: r, i + 1 => by
  have h := cellsAtL_flat r i
  show cellsAtL r i = _
  rw [h, List.flatMap_cons, Nat.succ_mul, Nat.add_comm, ← List.drop_drop]
  congr 2
  conv => rhs; rw [← Enc.len x]
  rw [List.drop_left]
theorem lits_slv {α : Type} [Enc α] (l : List α) (full : Bool) : AV.sl (Enc.sz α) l.length (fun i => ((l.flatMap Enc.cells).drop (i * Enc.sz α)).take (Enc.sz α)) full = slv false full l := by
 show _ = AV.sl _ _ _ _
 congr 1
 funext i
 exact (cellsAtL_flat l i).symm
def NoRow (p : ProgV) : Prop := ∀ i, i < p.fns.length → (p.fns.getD i default).some = false ∧ (p.fns.getD i default).row = []
theorem sol_reach {D : RD} {R : Nat → Nat} (ok : D.Ok) (H : Sol D R) (hno : ∀ f, f < D.n → D.some f = false) {a b : Nat} (h : Reach D.c a b) : a < D.n → sub (R b) (R a) ∧ b < D.n := by
 induction h with
 | refl => exact fun ha => ⟨sub_refl _, ha⟩
 | step hb _ ih =>
   intro ha
   have hbn := ok.lt _ ha _ hb
   have := ih hbn
   exact ⟨sub_trans this.1 (H.calls _ ha (hno _ ha) _ hb), this.2⟩
def cntG (s : TS) (N : Nat) (E : List Nat) (i : Nat) : Nat := ((E.take i).map (fun k => (grp s N k).length)).sum
end Go.Am.Ef
/- Rows are kept (effect.Check). -/
namespace Go.Am.Ef
open Go.Am
variable {P : Prog}
set_option maxRecDepth 20000
set_option maxHeartbeats 1000000
def needR (names : List (List UInt8)) (R : Nat → Nat) (d : Deed) : Nat := if 0 ≤ d.fn then R d.fn.toNat else match posN names d.name with
 | some k => 2 ^ k
 | none => 0
def badD (names : List (List UInt8)) (R : Nat → Nat) (l : List Deed) (m : Nat) : Option Nat := l.findIdx? (fun d => !decide (needR names R d ||| m = m))
def badA (names : List (List UInt8)) (R : Nat → Nat) (p : ProgV) (i : Nat) : Option Nat := badD names R (deedsF (p.fns.getD i default)) (R i)
def CheckR (names : List (List UInt8)) (p : ProgV) (v : AV) : Prop :=
  (mayP p = false ∧ v = .tup [.int .i64 0, .int .i64 0, .int .i64 1]) ∨
  (mayP p = true ∧ ∃ i pos, i < p.fns.length ∧ (∀ j, j < i → badF names (p.fns.getD j default) = none) ∧ badF names (p.fns.getD i default) = some pos ∧ v = .tup [.int .i64 (i : Nat), .int .i64 pos, .int .i64 13]) ∨
  (mayP p = true ∧ (∀ f ∈ p.fns, badF names f = none) ∧ ∃ R, Lfp (RDof names p) R ∧
    ((∃ i n, i < p.fns.length ∧ (∀ j, j < i → badA names R p j = none) ∧ badA names R p i = some n ∧ v = .tup [.int .i64 (i : Nat), .int .i64 ((deedsF (p.fns.getD i default)).getD n default).pos, .int .i64 20]) ∨
     ((∀ j, j < p.fns.length → badA names R p j = none) ∧ v = .tup [.int .i64 0, .int .i64 0, .int .i64 0])))
theorem findIdx_at {α : Type} [Inhabited α] {q : α → Bool} {l : List α} {k : Nat} (hk : k < l.length) (h1 : ∀ i, i < k → q (l.getD i default) = false) (h2 : q (l.getD k default) = true) : l.findIdx? q = some k := by
 rw [List.findIdx?_eq_some_iff_getElem]
 have e : ∀ i (hi : i < l.length), l[i] = l.getD i default := fun i hi => by rw [List.getD_eq_getElem?_getD, List.getElem?_eq_getElem hi]; rfl
 refine ⟨hk, by rw [e]; exact h2, fun j hj => by rw [e, h1 j hj]; simp⟩
theorem findIdx_no {α : Type} [Inhabited α] {q : α → Bool} {l : List α} (h1 : ∀ i, i < l.length → q (l.getD i default) = false) : l.findIdx? q = none := by
 rw [List.findIdx?_eq_none_iff]
 intro x hx
 obtain ⟨i, hi, rfl⟩ := List.getElem_of_mem hx
 have := h1 i hi
 rwa [List.getD_eq_getElem?_getD, List.getElem?_eq_getElem hi] at this
theorem needR_lt {names : List (List UInt8)} (hn : names.length ≤ 64) {R : Nat → Nat} {N : Nat} (hR : ∀ x, x < N → R x < 2 ^ 64) {d : Deed} (hd : d.fn = -1 ∨ (0 ≤ d.fn ∧ d.fn < (N : Nat))) : needR names R d < 2 ^ 64 := by
 unfold needR
 split
 ·exact hR _ (by omega)
 ·cases h : posN names d.name with
  | none => show (0 : Nat) < 2 ^ 64; decide
  | some k => exact pow_lt64 (by have := posN_lt h; omega)
theorem check19_fun (hP : EfP P) {h : Heap} {o b : Nat} {names : List (List UInt8)} (T : TabB b h o names) (hb : b ≤ h.next) (p : ProgV) (hw : ProgWf p) (hc : mayP p = true → CallsOk p) (hn : p.fns.length ≤ 100000) (hd : ∀ f ∈ p.fns, (deedsF f).length ≤ 100000) : Fun P 19 [p.av, .ptr o 0] h (fun v h' => CheckR names p v ∧ Old h h') := by
 refine Fun.of (code := a19c) (hP.code rfl) (by rw [hP.pure]; rfl) ?_
 have hnl := T.tab.small
 unfold ProgV.av
 simp (disch := omega) only [go_sem, a19c, a19r0]
 simp (disch := omega) only [go_sem, a19r1]
 refine WO.fun (vs := [p.av, .ptr o 0]) (by simp (disch := omega) only [go_sem]; rfl) (rows18_fun hP T hb p hw hc hn hd) (fun v h2 hv => ?_)
 rcases hv with ⟨hm, rfl, hO⟩ | ⟨hm, i, pos, hi, hj, hbi, rfl, hO⟩ | ⟨hm, hall, v1, R, rfl, B1, HL⟩
 ·simp (disch := omega) only [go_sem]
  simp (disch := omega) only [go_sem, a19r2]
  simp (disch := omega) only [go_sem, a19r3]
  exact ⟨.inl ⟨hm, rfl⟩, hO⟩
 ·simp (disch := omega) only [go_sem]
  simp (disch := omega) only [go_sem, a19r2]
  simp (disch := omega) only [go_sem, a19r3]
  exact ⟨.inr (.inl ⟨hm, i, pos, hi, hj, hbi, rfl⟩), hO⟩
 have hE1 := B1.evs
 have T2 := (T.old (h' := h2) (fun i hi => B1.keep i (by omega))).tab
 have hv1 : 0 < p.fns.length → ∃ o ep, v1 = .hs 1 o ep 0 p.fns.length false ∧ h2.get o = some (.row 1 ep (u64T p.fns.length R)) := fun hp => by
  rcases B1.row with ⟨-, e⟩ | ⟨o, ep, e, hq⟩
  ·have h3 : (usL p.fns.length R).length = 0 := by rw [e]; rfl
   rw [len_usL] at h3; omega
  ·rw [len_usL] at e; rw [flat_us] at hq; exact ⟨o, ep, e, hq⟩
 have hlt : ∀ x, x < p.fns.length → R x < 2 ^ 64 := fun x hx => HL.low.lt x hx
 simp (disch := omega) only [go_sem, hE1.ev, hE1.dat]
 simp (disch := omega) only [go_sem, a19r2, hE1.ev]
 simp (disch := omega) only [go_sem, a19r4, hE1.ev]
 refine Wp_loop (fun z : Nat × Nat => z.2 ≤ p.fns.length ∧ ∀ j, j < z.2 → badA names R p j = none) (fun (t, i) => { fr := [(1, .ptr o 0), (4, .int .i64 0), (5, .int .i64 0), (6, .int .i64 0), (7, v1), (29, slv p.fn false p.fns), (30, .int .i64 (p.fns.length : Nat)), (31, .int .i64 (i : Nat))], st := t, h := h2 }) (fun z => p.fns.length - z.2) (_, 0) rfl ⟨Nat.zero_le _, fun j hj => by simp only at hj; omega⟩ ?_
 rintro ⟨t, i⟩ ⟨i1, i2⟩
 simp only at i1 i2
 by_cases c1 : i < p.fns.length
 ·have w1 : decide (((i : Nat) : Int) < ((p.fns.length : Nat) : Int)) = true := decide_eq_true (by omega)
  have hf := hw.fns.2 _ (slv_get c1)
  have hdf := hd _ (slv_get c1)
  have hdm := deedsF_may hm _ (slv_get c1)
  have hbA : ∀ D, deedsF (p.fns.getD i default) = D → badA names R p i = badD names R D (R i) := fun D e => by rw [badA, e]
  have hps : ∀ D, deedsF (p.fns.getD i default) = D → ∀ n, badA names R p i = some n → ∀ v, v = .tup [.int .i64 (i : Nat), .int .i64 (D.getD n default).pos, .int .i64 20] → CheckR names p v ∧ Old h h2 := fun D e n hn v hv => ⟨.inr (.inr ⟨hm, hall, R, HL, .inl ⟨i, n, c1, i2, hn, by rw [e]; exact hv⟩⟩), B1.old⟩
  simp (disch := omega) only [go_sem, a19l1, a19r5, w1, hE1.ev]
  simp (disch := omega) only [go_sem, a19r6, c1, hE1.ev]
  simp (disch := omega) only [go_sem, a19r7, hE1.ev]
  refine WO.den (k := 0) (vs := [.agg (Enc.cells (p.fns.getD i default))]) (by rw [hP.pure]; rfl) (by simp (disch := omega) only [go_sem]) (deeds31_den hP _ hf hdf) (fun v hv => by obtain ⟨nl, rfl⟩ := hv; exact alone1_slv _ _ _) (fun v hv => ?_)
  obtain ⟨nlD, rfl⟩ := hv
  generalize hD : deedsF (p.fns.getD i default) = D at hdf hdm hbA hps ⊢
  have hbA := hbA D rfl
  have hps := hps D rfl
  simp (disch := omega) only [go_sem, hE1.ev]
  refine Wp_loop (fun z : Nat × Nat => z.2 ≤ D.length ∧ ∀ j, j < z.2 → (!decide (needR names R (D.getD j default) ||| R i = R i)) = false) (fun (t, k) => { fr := [(1, .ptr o 0), (4, .int .i64 0), (5, .int .i64 0), (6, .int .i64 0), (7, v1), (8, .int .i64 (i : Nat)), (29, slv p.fn false p.fns), (30, .int .i64 (p.fns.length : Nat)), (31, .int .i64 (i : Nat)), (37, slv nlD false D), (38, .int .i64 (D.length : Nat)), (39, .int .i64 (k : Nat))], st := t, h := h2 }) (fun z => D.length - z.2) (_, 0) rfl ⟨Nat.zero_le _, fun j hj => by simp only at hj; omega⟩ ?_
  rintro ⟨t2, k⟩ ⟨k1, k2⟩
  simp only at k1 k2
  by_cases c2 : k < D.length
  ·have w2 : decide (((k : Nat) : Int) < ((D.length : Nat) : Int)) = true := decide_eq_true (by omega)
   have hdk := hdm _ (slv_get c2)
   have hnlt := needR_lt (names := names) hnl hlt hdk
   obtain ⟨o1, e1, rfl, hrow⟩ := hv1 (by omega)
   have l2 := ldU (f := R) c1
   simp (disch := omega) only [go_sem, a19l0, a19r8, w2]
   simp (disch := omega) only [go_sem, a19r9, c2]
   simp (disch := omega) only [go_sem, a19r10]
   by_cases c3 : 0 ≤ (D.getD k default).fn
   ·obtain ⟨x, hx⟩ : ∃ x : Nat, (D.getD k default).fn = (x : Nat) := ⟨(D.getD k default).fn.toNat, by omega⟩
    have hxn : x < p.fns.length := by omega
    have hneed : needR names R (D.getD k default) = R x := by rw [needR, if_pos c3, hx]; rfl
    have l1 := ldU (f := R) hxn
    have w3 : decide ((0 : Int) ≤ ((x : Nat) : Int)) = true := decide_eq_true (by omega)
    have w3' : decide (((x : Nat) : Int) ≥ (0 : Int)) = true := decide_eq_true (by omega)
    simp (disch := omega) only [go_sem, a19r11, hx, w3, w3']
    simp (disch := omega) only [go_sem, a19r12, hx, hrow, hxn, Nat.mul_one, l1]
    rw [← hneed]
    generalize hnn : needR names R (D.getD k default) = nn at hnlt
    simp (disch := omega) only [go_sem, a19r16, hrow, c1, Nat.mul_one, l2]
    refine WO.den (k := 0) (vs := [.int .u64 (nn : Nat), .int .u64 (R i : Nat)]) (by rw [hP.pure]; rfl) (by simp (disch := omega) only [go_sem]) (within26_den hP hnlt (hlt i c1)) (fun v hv => by subst hv; rfl) (fun v hv => ?_)
    subst hv
    by_cases c4 : nn ||| R i = R i
    ·rw [decide_eq_true c4]
     simp (disch := omega) only [go_sem]
     simp (disch := omega) only [go_sem, a19r18]
     refine ⟨(_, k + 1), ⟨by simp only; omega, fun j hj => ?_⟩, by simp only; omega, by push_cast; rfl⟩
     simp only at hj
     by_cases e : j = k
     ·rw [e, hnn, decide_eq_true c4]; rfl
     ·exact k2 j (by omega)
    ·rw [decide_eq_false c4]
     simp (disch := omega) only [go_sem]
     simp (disch := omega) only [go_sem, a19d17]
     exact hps k (by rw [hbA]; exact findIdx_at c2 k2 (by rw [hnn, decide_eq_false c4]; rfl)) _ rfl
   ·have w3 : decide ((0 : Int) ≤ (D.getD k default).fn) = false := decide_eq_false c3
    have w3' : decide ((D.getD k default).fn ≥ (0 : Int)) = false := decide_eq_false c3
    simp (disch := omega) only [go_sem, a19r11, w3, w3']
    simp (disch := omega) only [go_sem, a19r13]
    refine WO.fun (vs := [.ptr o 0, strv (D.getD k default).name]) (by simp (disch := omega) only [go_sem]) (find43_fun hP T2 _) (fun v h' hv => ?_)
    obtain ⟨ev, eh⟩ := hv
    rw [ev, eh]
    cases hp : posN names (D.getD k default).name with
    | none =>
     have hneed : needR names R (D.getD k default) = 0 := by rw [needR, if_neg c3, hp]
     simp (disch := omega) only [go_sem, Option.getD_none, Option.isSome_none]
     simp (disch := omega) only [go_sem, a19r14]
     have hz : AV.int .u64 0 = .int .u64 ((needR names R (D.getD k default) : Nat) : Int) := by rw [hneed]; rfl
     rw [hz]
     generalize hnn : needR names R (D.getD k default) = nn at hnlt
     simp (disch := omega) only [go_sem, a19r16, hrow, c1, Nat.mul_one, l2]
     refine WO.den (k := 0) (vs := [.int .u64 (nn : Nat), .int .u64 (R i : Nat)]) (by rw [hP.pure]; rfl) (by simp (disch := omega) only [go_sem]) (within26_den hP hnlt (hlt i c1)) (fun v hv => by subst hv; rfl) (fun v hv => ?_)
     subst hv
     by_cases c4 : nn ||| R i = R i
     ·rw [decide_eq_true c4]
      simp (disch := omega) only [go_sem]
      simp (disch := omega) only [go_sem, a19r18]
      refine ⟨(_, k + 1), ⟨by simp only; omega, fun j hj => ?_⟩, by simp only; omega, by push_cast; rfl⟩
      simp only at hj
      by_cases e : j = k
      ·rw [e, hnn, decide_eq_true c4]; rfl
      ·exact k2 j (by omega)
     ·rw [decide_eq_false c4]
      simp (disch := omega) only [go_sem]
      simp (disch := omega) only [go_sem, a19d17]
      exact hps k (by rw [hbA]; exact findIdx_at c2 k2 (by rw [hnn, decide_eq_false c4]; rfl)) _ rfl
    | some pk =>
     have hneed : needR names R (D.getD k default) = 2 ^ pk := by rw [needR, if_neg c3, hp]
     have hpk := posN_lt hp
     have h1 := bin_shl_u64 (k := pk) (by omega)
     simp (disch := omega) only [go_sem, Option.getD_some, Option.isSome_some]
     simp (disch := omega) only [go_sem, a19r14]
     simp (disch := omega) only [go_sem, a19r15, h1]
     rw [← hneed]
     generalize hnn : needR names R (D.getD k default) = nn at hnlt
     simp (disch := omega) only [go_sem, a19r16, hrow, c1, Nat.mul_one, l2]
     refine WO.den (k := 0) (vs := [.int .u64 (nn : Nat), .int .u64 (R i : Nat)]) (by rw [hP.pure]; rfl) (by simp (disch := omega) only [go_sem]) (within26_den hP hnlt (hlt i c1)) (fun v hv => by subst hv; rfl) (fun v hv => ?_)
     subst hv
     by_cases c4 : nn ||| R i = R i
     ·rw [decide_eq_true c4]
      simp (disch := omega) only [go_sem]
      simp (disch := omega) only [go_sem, a19r18]
      refine ⟨(_, k + 1), ⟨by simp only; omega, fun j hj => ?_⟩, by simp only; omega, by push_cast; rfl⟩
      simp only at hj
      by_cases e : j = k
      ·rw [e, hnn, decide_eq_true c4]; rfl
      ·exact k2 j (by omega)
     ·rw [decide_eq_false c4]
      simp (disch := omega) only [go_sem]
      simp (disch := omega) only [go_sem, a19d17]
      exact hps k (by rw [hbA]; exact findIdx_at c2 k2 (by rw [hnn, decide_eq_false c4]; rfl)) _ rfl
  ·have w2 : decide (((k : Nat) : Int) < ((D.length : Nat) : Int)) = false := decide_eq_false (by omega)
   have e : k = D.length := by omega
   subst e
   simp (disch := omega) only [go_sem, a19l0, a19r8, w2, hE1.ev]
   simp (disch := omega) only [go_sem, a19r19, hE1.ev]
   refine ⟨(_, i + 1), ⟨by simp only; omega, fun j hj => ?_⟩, by simp only; omega, by push_cast; rfl⟩
   simp only at hj
   by_cases e : j = i
   ·rw [e, hbA]; exact findIdx_no k2
   ·exact i2 j (by omega)
 have w1 : decide (((i : Nat) : Int) < ((p.fns.length : Nat) : Int)) = false := decide_eq_false (by omega)
 have e : i = p.fns.length := by omega
 subst e
 simp (disch := omega) only [go_sem, a19l1, a19r5, w1, hE1.ev]
 simp (disch := omega) only [go_sem, a19r20]
 exact ⟨.inr (.inr ⟨hm, hall, R, HL, .inr ⟨i2, rfl⟩⟩), B1.old⟩
end Go.Am.Ef
/- Sets as numbers, the document's way (blazonref13.Bit, blazonref15.Has, or). -/
namespace Go.Am.Ef
open Go.Am
variable {P : Prog}
set_option maxRecDepth 20000
set_option maxHeartbeats 1000000
theorem bin_two_u64 {i : Nat} (h : i + 1 < 64) : binA .mul (.int .u64 2) (.int .u64 ((2 ^ i : Nat) : Int)) = some (.int .u64 ((2 ^ (i + 1) : Nat) : Int)) := by
 show some (AV.int .u64 (wrapA .u64 (2 * ((2 ^ i : Nat) : Int)))) = _
 have h2 : 2 ^ (i + 1) < 2 ^ 64 := Nat.pow_lt_pow_right (by omega) h
 rw [two64] at h2
 have h3 : 2 ^ (i + 1) = 2 * 2 ^ i := by rw [Nat.pow_succ, Nat.mul_comm]
 rw [h3] at h2 ⊢
 generalize 2 ^ i = q at h2 ⊢
 rw [wrapA_u64 (by omega) (by omega)]
 push_cast; rfl
theorem bit49_den (hP : EfP P) {k : Nat} (hk : k < 64) : Den P 49 [.int .i64 (k : Nat)] (fun v => v = .int .u64 ((2 ^ k : Nat) : Int)) := by
 refine Den.of (code := a49c) (hP.code rfl) (fun N => ?_)
 simp (disch := omega) only [go_sem, a49c, a49r0]
 simp (disch := omega) only [go_sem, a49r1]
 simp (disch := omega) only [go_sem, a49r2]
 refine Wp_loop (fun z : Nat × Nat => z.2 ≤ k) (fun (t, i) => { fr := [(0, .int .i64 (k : Nat)), (3, .int .u64 ((2 ^ i : Nat) : Int)), (4, .int .i64 (i : Nat))], st := t, h := { next := N, m := .leaf } }) (fun z => k - z.2) (_, 0) rfl (Nat.zero_le _) ?_
 rintro ⟨t, i⟩ i1
 simp only at i1
 by_cases c1 : i < k
 ·have w1 : decide (((i : Nat) : Int) < ((k : Nat) : Int)) = true := decide_eq_true (by omega)
  have h1 := bin_two_u64 (i := i) (by omega)
  have hq : ∀ q : Nat, 2 ^ i = q → True := fun _ _ => trivial
  simp only
  generalize hg : 2 ^ i = q at h1
  simp (disch := omega) only [go_sem, a49l0, a49r3, w1]
  simp (disch := omega) only [go_sem, a49r4, h1]
  simp (disch := omega) only [go_sem, a49r5]
  exact ⟨(_, i + 1), by simp only; omega, by simp only; omega, by push_cast; rfl⟩
 ·have w1 : decide (((i : Nat) : Int) < ((k : Nat) : Int)) = false := decide_eq_false (by omega)
  have e : i = k := by omega
  subst e
  simp only
  generalize 2 ^ i = q
  simp (disch := omega) only [go_sem, a49l0, a49r3, w1]
  simp (disch := omega) only [go_sem, a49r6]
theorem has24_den (hP : EfP P) {a k : Nat} (ha : a < 2 ^ 64) (hk : k < 64) : Den P 24 [.int .u64 (a : Nat), .int .i64 (k : Nat)] (fun v => v = .bool (a.testBit k)) := by
 refine Den.of (code := a24c) (hP.code rfl) (fun N => ?_)
 simp (disch := omega) only [go_sem, a24c, a24r0]
 simp (disch := omega) only [go_sem, a24r1]
 refine WO.den (k := 0) (vs := [.int .i64 (k : Nat)]) (by rw [hP.pure]; rfl) (by simp (disch := omega) only [go_sem]) (bit49_den hP hk) (fun v hv => by subst hv; rfl) (fun v hv => ?_)
 subst hv
 have h0 : 0 < 2 ^ k := Nat.pow_pos (by omega)
 have hb := pow_lt64 hk
 rw [Nat.testBit_eq_decide_div_mod_eq]
 generalize 2 ^ k = q at h0 hb
 rw [two64] at ha hb
 have h1 : binA .quo (.int .u64 (a : Nat)) (.int .u64 (q : Nat)) = some (.int .u64 ((a / q : Nat) : Int)) := by
  rw [bin_quo _ _ _ (by omega)]
  have e : ((a : Nat) : Int).tdiv ((q : Nat) : Int) = ((a / q : Nat) : Int) := rfl
  have := Nat.div_le_self a q
  rw [e]
  generalize a / q = m at this
  rw [wrapA_u64 (by omega) (by omega)]
 generalize a / q = m at h1
 have h2 : binA .rem (.int .u64 (m : Nat)) (.int .u64 2) = some (.int .u64 ((m % 2 : Nat) : Int)) := rfl
 have h3 : decide (((m % 2 : Nat) : Int) = (1 : Int)) = decide (m % 2 = 1) := decide_eq_decide.2 (by omega)
 generalize m % 2 = r at h2 h3
 simp (disch := omega) only [go_sem, h1, h2, h3]
end Go.Am.Ef
/- Rows that aren't declared hold just what is done along calls: in plain words. -/
namespace Go.Am.Ef
open Go.Am
set_option maxRecDepth 20000
set_option maxHeartbeats 1000000
def netS : List UInt8 := [110, 101, 116]
def logS : List UInt8 := [108, 111, 103]
def nl2 : List NameV := [⟨netS, 0⟩, ⟨logS, 0⟩]
def names2 : List (List UInt8) := [netS, logS]
theorem mask_mem {names : List (List UInt8)} : ∀ (l : List NameV) (x : NameV), x ∈ l → sub (2 ^ (posN names x.name).getD 0) (maskL names l) := fun l => by
 have : ∀ r : List NameV, ∀ x ∈ r.reverse, sub (2 ^ (posN names x.name).getD 0) (maskL names r.reverse) := fun r => by
  induction r with
  | nil => intro x hx; simp at hx
  | cons y r ih =>
   intro x hx
   rw [List.reverse_cons] at hx ⊢
   rw [maskL_snoc]
   rcases List.mem_append.1 hx with h | h
   ·exact sub_trans (ih x h) (sub_or_left _ _)
   ·rw [List.mem_singleton.1 h]; exact sub_or_right _ _
 have := this l.reverse
 rwa [List.reverse_reverse] at this
def m2 (a b : Bool) : Nat := (if a then 1 else 0) ||| (if b then 2 else 0)
theorem pos2 {s : List UInt8} (h : (posN names2 s).isSome = true) : (s = netS ∧ posN names2 s = some 0) ∨ (s = logS ∧ posN names2 s = some 1) := by
 unfold posN at h
 split at h
 ·rename_i hm
  rcases List.mem_cons.1 hm with e | hm
  ·exact .inl ⟨e, by rw [e]; decide⟩
  ·exact .inr ⟨List.mem_singleton.1 hm, by rw [List.mem_singleton.1 hm]; decide⟩
 ·simp at h
theorem mask2 : ∀ l : List NameV, (∀ x ∈ l, (posN names2 x.name).isSome = true) → maskL names2 l = m2 (l.any (fun x => decide (x.name = netS))) (l.any (fun x => decide (x.name = logS))) := fun l => by
 have : ∀ r : List NameV, (∀ x ∈ r.reverse, (posN names2 x.name).isSome = true) → maskL names2 r.reverse = m2 (r.reverse.any (fun x => decide (x.name = netS))) (r.reverse.any (fun x => decide (x.name = logS))) := fun r => by
  induction r with
  | nil => intro _; rfl
  | cons y r ih =>
   intro hx
   rw [List.reverse_cons] at hx ⊢
   rw [maskL_snoc, ih (fun x h => hx x (List.mem_append_left _ h)), List.any_append, List.any_append]
   generalize r.reverse.any (fun x => decide (x.name = netS)) = a
   generalize r.reverse.any (fun x => decide (x.name = logS)) = b
   have hne : netS ≠ logS := by decide
   rcases pos2 (hx y (by simp)) with ⟨e, e2⟩ | ⟨e, e2⟩
   ·simp only [List.any_cons, List.any_nil, e2, e, decide_true, hne, decide_false, Option.getD_some]
    cases a <;> cases b <;> rfl
   ·simp only [List.any_cons, List.any_nil, e2, e, decide_true, hne.symm, decide_false, Option.getD_some]
    cases a <;> cases b <;> rfl
 have := this l.reverse
 rwa [List.reverse_reverse] at this
def doB (s : List UInt8) (f : FuncV) : Bool := (deedsF f).any (fun d => decide (d.fn < 0) && decide (d.name = s))
theorem effD_any (s : List UInt8) (l : List Deed) : (effD l).any (fun x => decide (x.name = s)) = l.any (fun d => decide (d.fn < 0) && decide (d.name = s)) := by
 unfold effD
 rw [List.any_map, List.any_filter]; rfl
theorem badF_none {names : List (List UInt8)} {f : FuncV} (h : badF names f = none) : ∀ x ∈ effD (deedsF f), (posN names x.name).isSome = true := by
 unfold badF at h
 cases h1 : badL names f.row with
 | some k => rw [h1] at h; simp at h
 | none =>
  rw [h1] at h
  cases h2 : badL names (effD (deedsF f)) with
  | some k => rw [h2] at h; simp at h
  | none => exact badL_none.1 h2
theorem does2 {f : FuncV} (h : badF names2 f = none) : (doesM names2 f).n = m2 (doB netS f) (doB logS f) := by
 show maskL names2 (effD (deedsF f)) = _
 rw [mask2 _ (badF_none h), effD_any, effD_any]; rfl
def farB (p : ProgV) (s : List UInt8) (a : Nat) : Bool := (List.range p.fns.length).any (fun b => leadS (cR p) p.fns.length a b && doB s (p.fns.getD b default))
theorem m2_sub {a b c d : Bool} (h1 : a = true → c = true) (h2 : b = true → d = true) : sub (m2 a b) (m2 c d) := by
 cases a <;> cases b <;> cases c <;> cases d <;> first | (simp at h1; done) | (simp at h2; done) | (unfold sub m2; decide)
theorem leads_iff {p : ProgV} (hm : mayP p = true) {a b : Nat} (ha : a < p.fns.length) : leadS (cR p) p.fns.length a b = true ↔ Reach (cN p) a b := by
 rw [leadS_reach (fun f hf x hx => ?_) ha]
 ·exact reach_same (fun f x => cN_cR.symm)
 ·obtain ⟨y, hy, rfl⟩ := List.mem_map.1 hx
  obtain ⟨q1, d, hd, q2⟩ := fnsOf_mem.1 hy
  have := deedsF_may hm _ (slv_get hf) d hd
  omega
theorem least_rows {p : ProgV} (hm : mayP p = true) (hc : CallsOk p) (hno : NoRow p) (hall : ∀ f ∈ p.fns, badF names2 f = none) {R : Nat → Nat} (HL : Lfp (RDof names2 p) R) : ∀ a, a < p.fns.length → R a = m2 (farB p netS a) (farB p logS a) := by
 have ok : (RDof names2 p).Ok := rd_ok (by decide) hc
 have hnoD : ∀ f, f < (RDof names2 p).n → (RDof names2 p).some f = false := fun f hf => (hno f hf).1
 have hdoes : ∀ f, f < p.fns.length → (RDof names2 p).does f = m2 (doB netS (p.fns.getD f default)) (doB logS (p.fns.getD f default)) := fun f hf => does2 (hall _ (slv_get hf))
 have hS : Sol (RDof names2 p) (fun a => m2 (farB p netS a) (farB p logS a)) := by
  refine ⟨fun f hf h => by rw [hnoD f hf] at h; simp at h, fun f hf _ => ?_, fun f hf _ x hx => ?_⟩
  ·rw [hdoes f hf]
   have hself : ∀ s, doB s (p.fns.getD f default) = true → farB p s f = true := fun s h => by
    rw [farB, List.any_eq_true]
    exact ⟨f, List.mem_range.2 hf, by rw [(leads_iff hm hf).2 (.refl _), h]; rfl⟩
   exact m2_sub (hself _) (hself _)
  ·have hxN := ok.lt f hf x hx
   have hstep : ∀ s, farB p s x = true → farB p s f = true := fun s h => by
    rw [farB, List.any_eq_true] at h ⊢
    obtain ⟨b, hb, h2⟩ := h
    rw [Bool.and_eq_true] at h2
    exact ⟨b, hb, by rw [(leads_iff hm hf).2 (.step hx ((leads_iff hm hxN).1 h2.1)), h2.2]; rfl⟩
   exact m2_sub (hstep _) (hstep _)
 intro a ha
 refine sub_anti (HL.low.below _ hS a ha) ?_
 have hin : ∀ (s : List UInt8) (b : Nat), leadS (cR p) p.fns.length a b = true → b < p.fns.length → sub ((RDof names2 p).does b) (R a) := fun s b h hb => by
  have := sol_reach ok HL.sol hnoD ((leads_iff hm ha).1 h) ha
  exact sub_trans (HL.sol.does b hb (hnoD b hb)) this.1
 have h1 : farB p netS a = true → sub 1 (R a) := fun h => by
  rw [farB, List.any_eq_true] at h
  obtain ⟨b, hb, h2⟩ := h
  rw [Bool.and_eq_true] at h2
  have := hin netS b h2.1 (List.mem_range.1 hb)
  rw [hdoes b (List.mem_range.1 hb), h2.2] at this
  refine sub_trans ?_ this
  cases doB logS (p.fns.getD b default) <;> (unfold sub m2; decide)
 have h2 : farB p logS a = true → sub 2 (R a) := fun h => by
  rw [farB, List.any_eq_true] at h
  obtain ⟨b, hb, h2⟩ := h
  rw [Bool.and_eq_true] at h2
  have := hin logS b h2.1 (List.mem_range.1 hb)
  rw [hdoes b (List.mem_range.1 hb), h2.2] at this
  refine sub_trans ?_ this
  cases doB netS (p.fns.getD b default) <;> (unfold sub m2; decide)
 refine or_sub ?_ ?_
 ·split
  ·rename_i h; exact h1 h
  ·exact sub_zero _
 ·split
  ·rename_i h; exact h2 h
  ·exact sub_zero _
theorem least_kept {names : List (List UInt8)} {p : ProgV} (hm : mayP p = true) (hno : NoRow p) (hall : ∀ f ∈ p.fns, badF names f = none) {R : Nat → Nat} (HL : Lfp (RDof names p) R) : ∀ a, a < p.fns.length → badA names R p a = none := by
 intro a ha
 have hs : (RDof names p).some a = false := (hno a ha).1
 refine findIdx_no (fun i hi => ?_)
 have hd := deedsF_may hm _ (slv_get ha) _ (slv_get hi)
 have hmem := slv_get hi
 generalize (deedsF (p.fns.getD a default)).getD i default = d at hd hmem
 have : sub (needR names R d) (R a) := by
  unfold needR
  split
  ·rename_i h0
   refine HL.sol.calls a ha hs _ ?_
   have : d.fn.toNat ∈ cR p a := List.mem_map.2 ⟨d.fn, fnsOf_mem.2 ⟨h0, d, hmem, rfl⟩, rfl⟩
   exact cN_cR.2 this
  ·rename_i h0
   cases hp : posN names d.name with
   | none => exact sub_zero _
   | some k =>
    refine sub_trans ?_ (HL.sol.does a ha hs)
    have hx : (⟨d.name, d.pos⟩ : NameV) ∈ effD (deedsF (p.fns.getD a default)) := List.mem_map.2 ⟨d, List.mem_filter.2 ⟨hmem, by simp; omega⟩, rfl⟩
    have := mask_mem (names := names) _ _ hx
    simp only [hp, Option.getD_some] at this
    exact this
 simp only [decide_eq_true (show needR names R d ||| R a = R a from this)]; rfl
end Go.Am.Ef
/- EffectLeast: a row that isn't declared holds just what is done along calls. -/
namespace Go.Am.Ef
open Go.Am
variable {P : Prog}
set_option maxRecDepth 20000
set_option maxHeartbeats 1000000
theorem new2_ok : ∀ j, j < nl2.length → badK nl2 j = none := by
 intro j hj
 have : j = 0 ∨ j = 1 := by simp only [nl2, List.length_cons, List.length_nil] at hj; omega
 rcases this with rfl | rfl <;> decide
theorem Fun.imp {f : Nat} {vs : List AV} {h : Heap} {R Q : AV → Heap → Prop} (H : Fun P f vs h R) (k : ∀ v h', R v h' → Q v h') : Fun P f vs h Q := by
 obtain ⟨n, v, h', a, b⟩ := H
 exact ⟨n, v, h', a, k v h' b⟩
theorem new2_fun (hP : EfP P) (h : Heap) : Fun P 16 [slv false true nl2] h (fun v h' => ∃ o, v = .tup [.ptr o 0, .int .i64 0, .int .i64 0] ∧ TabB h'.next h' o (nl2.map (·.name)) ∧ Old h h') :=
 Fun.imp (new_fun hP h false true nl2 (by simp [nl2])) (fun v h' hv => by
  rcases hv with ⟨k, e, hk, -, hb, -⟩ | ⟨-, hv⟩
  ·rw [new2_ok k hk] at hb; simp at hb
  ·exact hv)
def FRQ (p : ProgV) (o : Nat) (v1 : AV) (nL nD : Bool) (ls : List SlB) (D : List Deed) (a b k : Nat) (n m : Bool) : Fr := [(1, .lbox 0 [slv p.sn false p.sites, slv p.fn false p.fns]), (4, .ptr o 0), (7, v1), (11, slv nL false ls), (12, .int .i64 (a : Nat)), (13, .bool n), (14, .bool m), (15, .int .i64 (b : Nat)), (16, slv nD false D), (17, .int .i64 (k : Nat))]
theorem least23 (tl : Fr) {p : ProgV} {o : Nat} {v1 : AV} (hE1 : Evs v1) {nL nD : Bool} {ls : List SlB} {D : List Deed} {a b k t : Nat} {n m : Bool} {g : Heap} (hk : k < D.length) {K : AExit → St → Prop}
  (hK : K .normal { fr := FRQ p o v1 nL nD ls D a b k (n || (decide ((D.getD k default).fn < 0) && decide ((D.getD k default).name = netS))) m, st := t, h := g }) :
  WO P g.next a5r23 { fr := FRQ p o v1 nL nD ls D a b k n m ++ tl, st := t, h := g } (regK K [1, 4, 7, 11, 12, 13, 14, 15, 16, 17]) := by
 unfold FRQ at *
 unfold netS at hK
 cases n with
 | true =>
  rw [Bool.true_or] at hK
  simp (disch := omega) only [go_sem, a5r23, hE1.ev]
  exact hK
 | false =>
  rw [Bool.false_or] at hK
  cases c1 : decide ((D.getD k default).fn < 0) with
  | true =>
   rw [c1, Bool.true_and] at hK
   simp (disch := omega) only [go_sem, a5r23, hk, c1, hE1.ev]
   exact hK
  | false =>
   rw [c1, Bool.false_and] at hK
   simp (disch := omega) only [go_sem, a5r23, hk, c1, hE1.ev]
   exact hK
theorem least24 (tl : Fr) {p : ProgV} {o : Nat} {v1 : AV} (hE1 : Evs v1) {nL nD : Bool} {ls : List SlB} {D : List Deed} {a b k t : Nat} {n m : Bool} {g : Heap} (hk : k < D.length) {K : AExit → St → Prop}
  (hK : K .normal { fr := FRQ p o v1 nL nD ls D a b k n (m || (decide ((D.getD k default).fn < 0) && decide ((D.getD k default).name = logS))), st := t, h := g }) :
  WO P g.next a5r24 { fr := FRQ p o v1 nL nD ls D a b k n m ++ tl, st := t, h := g } (regK K [1, 4, 7, 11, 12, 13, 14, 15, 16, 17]) := by
 unfold FRQ at *
 unfold logS at hK
 cases m with
 | true =>
  rw [Bool.true_or] at hK
  simp (disch := omega) only [go_sem, a5r24, hE1.ev]
  exact hK
 | false =>
  rw [Bool.false_or] at hK
  cases c1 : decide ((D.getD k default).fn < 0) with
  | true =>
   rw [c1, Bool.true_and] at hK
   simp (disch := omega) only [go_sem, a5r24, hk, c1, hE1.ev]
   exact hK
  | false =>
   rw [c1, Bool.false_and] at hK
   simp (disch := omega) only [go_sem, a5r24, hk, c1, hE1.ev]
   exact hK
def hasD (s : List UInt8) (D : List Deed) : Bool := D.any (fun d => decide (d.fn < 0) && decide (d.name = s))
theorem hasD_take {s : List UInt8} {D : List Deed} {k : Nat} (hk : k < D.length) : hasD s (D.take (k + 1)) = (hasD s (D.take k) || (decide ((D.getD k default).fn < 0) && decide ((D.getD k default).name = s))) := by
 unfold hasD
 rw [List.take_succ_eq_append_getElem hk, List.any_append, List.getD_eq_getElem?_getD, List.getElem?_eq_getElem hk]
 simp
theorem least_inner {p : ProgV} {o : Nat} {v1 : AV} (hE1 : Evs v1) {nL nD : Bool} {ls : List SlB} {D : List Deed} {a b t : Nat} {n m ld : Bool} {g : Heap} (hD : D.length ≤ 100000) (ha : a < ls.length) (hb : b < (ls.getD a default).l.length) (hld : (ls.getD a default).l.getD b default = ld) {K : AExit → St → Prop}
  (hK : ∀ t k x, K (.exit 6) { fr := FRQ p o v1 nL nD ls D a b k (n || (ld && hasD netS D)) (m || (ld && hasD logS D)) ++ [(119, .bool x)], st := t, h := g }) :
  Wp P (.loop a5l1) { fr := FRQ p o v1 nL nD ls D a b 0 n m, st := t, h := g } K := by
 refine Wp_loop (fun z : Nat × Nat => z.2 ≤ D.length ∧ (ld = false → z.2 = 0)) (fun (t, k) => { fr := FRQ p o v1 nL nD ls D a b k (n || (ld && hasD netS (D.take k))) (m || (ld && hasD logS (D.take k))), st := t, h := g }) (fun z => D.length - z.2) (t, 0) ?_ ⟨Nat.zero_le _, fun _ => rfl⟩ ?_
 ·simp [hasD]
 rintro ⟨t2, k⟩ ⟨k1, k2⟩
 simp only at k1 k2
 by_cases c1 : k < D.length
 ·have w1 : decide (((k : Nat) : Int) < ((D.length : Nat) : Int)) = true := decide_eq_true (by omega)
  cases hl : ld with
  | true =>
   rw [hl] at hld
   have hst1 := hasD_take (s := netS) c1
   have hst2 := hasD_take (s := logS) c1
   simp only [Bool.true_and]
   have h23 := fun K h => least23 [(119, .bool true)] (P := P) (p := p) (o := o) hE1 (nL := nL) (nD := nD) (ls := ls) (D := D) (a := a) (b := b) (k := k) (t := t2) (n := n || hasD netS (D.take k)) (m := m || hasD logS (D.take k)) (g := g) c1 (K := K) h
   have h24 := fun K h => least24 [] (P := P) (p := p) (o := o) hE1 (nL := nL) (nD := nD) (ls := ls) (D := D) (a := a) (b := b) (k := k) (t := t2) (n := (n || hasD netS (D.take k)) || (decide ((D.getD k default).fn < 0) && decide ((D.getD k default).name = netS))) (m := m || hasD logS (D.take k)) (g := g) c1 (K := K) h
   unfold FRQ at *
   simp (disch := omega) only [go_sem, a5l1, a5r22, w1, ha, hb, hld, hE1.ev]
   refine h23 _ ?_
   simp (disch := omega) only [go_sem]
   refine h24 _ ?_
   simp (disch := omega) only [go_sem, a5r25, hE1.ev]
   refine ⟨(t2, k + 1), ⟨by simp only; omega, fun e => by simp at e⟩, by simp only; omega, ?_⟩
   simp only [hst1, hst2, Bool.or_assoc]
   push_cast; rfl
  | false =>
   rw [hl] at hld
   have := hK t2 k false
   rw [hl] at this
   simp only [Bool.false_and, Bool.or_false] at this ⊢
   unfold FRQ at *
   simp (disch := omega) only [go_sem, a5l1, a5r22, w1, ha, hb, hld, hE1.ev]
   exact this
 ·have w1 : decide (((k : Nat) : Int) < ((D.length : Nat) : Int)) = false := decide_eq_false (by omega)
  have e : k = D.length := by omega
  have := hK t2 k false
  have hk' : D.take k = D := by rw [e, List.take_length]
  unfold FRQ at *
  simp (disch := omega) only [go_sem, hk', a5l1, a5r22, w1, hE1.ev]
  exact this
theorem effectLeast_fun (hP : EfP P) (p : ProgV) (hw : ProgWf p) (h : Heap) : Fun P 5 [p.av] h (fun v _ => v = .bool true) := by
 refine Fun.of (code := a5c) (hP.code rfl) (by rw [hP.pure]; rfl) ?_
 unfold ProgV.av
 simp (disch := omega) only [go_sem, a5c, a5r0]
 simp (disch := omega) only [go_sem, a5r1]
 refine WO.den (k := 0) (vs := [p.av, .int .i64 400]) (by rw [hP.pure]; rfl) (by simp (disch := omega) only [go_sem]; rfl) (great_den hP p hw) (fun v hv => by subst hv; rfl) (fun v hv => ?_)
 subst hv
 cases hg : greatB p with
 | true =>
  simp (disch := omega) only [go_sem]
  simp (disch := omega) only [go_sem, a5r2]
  refine WO.den (k := 0) (vs := []) (by rw [hP.pure]; rfl) (by simp (disch := omega) only [go_sem]) hP.awake_den (fun v hv => by subst hv; rfl) (fun v hv => ?_)
  subst hv
  simp (disch := omega) only [go_sem]
 | false =>
 obtain ⟨g1, g2, g3⟩ := great_bnd hg
 have hd : ∀ f ∈ p.fns, (deedsF f).length ≤ 100000 := fun f hf => by have := g3 f hf; omega
 simp (disch := omega) only [go_sem]
 refine WO.den (k := 0) (vs := [p.av]) (by rw [hP.pure]; rfl) (by simp (disch := omega) only [go_sem]; rfl) (may_den hP p hw) (fun v hv => by subst hv; rfl) (fun v hv => ?_)
 subst hv
 cases hm : mayP p with
 | false =>
  simp (disch := omega) only [go_sem]
  simp (disch := omega) only [go_sem, a5r2]
  refine WO.den (k := 0) (vs := []) (by rw [hP.pure]; rfl) (by simp (disch := omega) only [go_sem]) hP.awake_den (fun v hv => by subst hv; rfl) (fun v hv => ?_)
  subst hv
  simp (disch := omega) only [go_sem]
 | true =>
 have hc := calls_ok hm hg
 simp (disch := omega) only [go_sem]
 simp (disch := omega) only [go_sem, a5r3]
 refine Wp_loop (fun z : Nat × Nat => z.2 ≤ p.fns.length ∧ ∀ i, i < z.2 → (p.fns.getD i default).some = false ∧ (p.fns.getD i default).row = []) (fun (t, i) => { fr := [(1, .lbox 0 [slv p.sn false p.sites, slv p.fn false p.fns]), (3, .int .i64 (i : Nat))], st := t, h := h }) (fun z => p.fns.length - z.2) (_, 0) rfl ⟨Nat.zero_le _, fun i hi => by simp only at hi; omega⟩ ?_
 rintro ⟨t, i⟩ ⟨i1, i2⟩
 simp only at i1 i2
 by_cases c1 : i < p.fns.length
 ·have w1 : decide (((i : Nat) : Int) < ((p.fns.length : Nat) : Int)) = true := decide_eq_true (by omega)
  simp (disch := omega) only [go_sem, a5l0, a5r4, w1]
  cases hsv : (p.fns.getD i default).some with
  | true =>
   simp (disch := omega) only [go_sem, a5r5, c1, hsv]
   simp (disch := omega) only [go_sem, a5r6]
   refine WO.den (k := 0) (vs := []) (by rw [hP.pure]; rfl) (by simp (disch := omega) only [go_sem]) hP.awake_den (fun v hv => by subst hv; rfl) (fun v hv => ?_)
   subst hv
   simp (disch := omega) only [go_sem]
  | false =>
   by_cases c2 : (p.fns.getD i default).row = []
   ·have w2 : decide (((((p.fns.getD i default).row).length : Nat) : Int) > (0 : Int)) = false := decide_eq_false (by rw [c2]; simp)
    have w2' : decide ((0 : Int) < ((((p.fns.getD i default).row).length : Nat) : Int)) = false := decide_eq_false (by rw [c2]; simp)
    simp (disch := omega) only [go_sem, a5r5, c1, hsv, w2, w2']
    simp (disch := omega) only [go_sem, a5r7]
    exact ⟨(t, i + 1), ⟨by simp only; omega, fun j hj => by
     simp only at hj
     by_cases e : j = i
     ·rw [e]; exact ⟨hsv, c2⟩
     ·exact i2 j (by omega)⟩, by simp only; omega, by push_cast; rfl⟩
   ·have hpos := List.length_pos_iff.2 c2
    have w2 : decide (((((p.fns.getD i default).row).length : Nat) : Int) > (0 : Int)) = true := decide_eq_true (by omega)
    have w2' : decide ((0 : Int) < ((((p.fns.getD i default).row).length : Nat) : Int)) = true := decide_eq_true (by omega)
    simp (disch := omega) only [go_sem, a5r5, c1, hsv, w2, w2']
    simp (disch := omega) only [go_sem, a5r6]
    refine WO.den (k := 0) (vs := []) (by rw [hP.pure]; rfl) (by simp (disch := omega) only [go_sem]) hP.awake_den (fun v hv => by subst hv; rfl) (fun v hv => ?_)
    subst hv
    simp (disch := omega) only [go_sem]
 have w1 : decide (((i : Nat) : Int) < ((p.fns.length : Nat) : Int)) = false := decide_eq_false (by omega)
 have e : i = p.fns.length := by omega
 subst e
 have hno : NoRow p := i2
 clear i2 i1 c1
 simp (disch := omega) only [go_sem, a5l0, a5r4, w1]
 simp (disch := omega) only [go_sem, a5r8]
 refine WO.fun (vs := [slv false true nl2]) (by simp (disch := omega) only [go_sem]; exact congrArg (fun x => some [x]) (lits_slv nl2 true)) (new2_fun hP h) (fun v h1 hv => ?_)
 obtain ⟨o, rfl, T, hO1⟩ := hv
 simp (disch := omega) only [go_sem]
 simp (disch := omega) only [go_sem, a5r9]
 refine WO.fun (vs := [p.av, .ptr o 0]) (by simp (disch := omega) only [go_sem]; rfl) (rows18_fun hP T (Nat.le_refl _) p hw (fun _ => hc) (by omega) hd) (fun v h2 hv => ?_)
 rcases hv with ⟨hm', -⟩ | ⟨-, i, pos, hi, hj, hbi, rfl, ho⟩ | ⟨-, hall, v1, R, rfl, B1, HL⟩
 ·rw [hm] at hm'; simp at hm'
 ·simp (disch := omega) only [go_sem]
  simp (disch := omega) only [go_sem, a5r10]
  simp (disch := omega) only [go_sem, a5r11]
  refine WO.den (k := 0) (vs := []) (by rw [hP.pure]; rfl) (by simp (disch := omega) only [go_sem]) hP.awake_den (fun v hv => by subst hv; rfl) (fun v hv => ?_)
  subst hv
  simp (disch := omega) only [go_sem]
 have hE1 := B1.evs
 have hlen1 := rowv_len B1.row
 rw [len_usL] at hlen1
 have hlen1 := rowv_len B1.row
 rw [len_usL] at hlen1
 have T2 := T.old (h' := h2) (fun i hi => B1.keep i hi)
 have hv1 : 0 < p.fns.length → ∃ o ep, v1 = .hs 1 o ep 0 p.fns.length false ∧ h2.get o = some (.row 1 ep (u64T p.fns.length R)) := fun hp => by
  rcases B1.row with ⟨-, e⟩ | ⟨o, ep, e, hq⟩
  ·have h3 : (usL p.fns.length R).length = 0 := by rw [e]; rfl
   rw [len_usL] at h3; omega
  ·rw [len_usL] at e; rw [flat_us] at hq; exact ⟨o, ep, e, hq⟩
 have hlt : ∀ x, x < p.fns.length → R x < 2 ^ 64 := fun x hx => HL.low.lt x hx
 have hleast := least_rows hm hc hno hall HL
 simp (disch := omega) only [go_sem, hE1.ev, hE1.dat]
 simp (disch := omega) only [go_sem, a5r10, hE1.ev]
 have w0 : decide (¬ ((p.fns.length : Nat) : Int) = ((p.fns.length : Nat) : Int)) = false := by simp
 simp (disch := omega) only [go_sem, a5r12, hE1.ev, hE1.tag, hlen1, w0]
 simp (disch := omega) only [go_sem, a5r14, hE1.ev]
 refine WO.den (k := 0) (vs := [p.av]) (by rw [hP.pure]; rfl) (by simp (disch := omega) only [go_sem]; rfl) (leads_den hP (ref_ok hw hm hg)) (fun v hv => by obtain ⟨nl, ls, rfl, -⟩ := hv; exact alone1_slv _ _ _) (fun v hv => ?_)
 obtain ⟨nL, ls, rfl, hls⟩ := hv
 have hlsl : ls.length = p.fns.length := by have := congrArg List.length hls; simpa using this
 have hrow1 : ∀ a, a < p.fns.length → (ls.getD a default).l = (List.range p.fns.length).map (leadS (cR p) p.fns.length a) := fun a ha => by
  have h3 : (ls.map (·.l)).getD a [] = (ls.getD a default).l := by
   simp only [List.getD_eq_getElem?_getD, List.getElem?_map, List.getElem?_eq_getElem (show a < ls.length by omega), Option.map_some, Option.getD_some]
  rw [← h3, hls]
  simp only [List.getD_eq_getElem?_getD, List.getElem?_map, List.getElem?_range ha, Option.map_some, Option.getD_some]
 simp (disch := omega) only [go_sem, hE1.ev]
 simp (disch := omega) only [go_sem, a5r15, hE1.ev]
 refine Wp_loop (fun z : Nat × Nat => z.2 ≤ p.fns.length) (fun (t, a) => { fr := [(1, .lbox 0 [slv p.sn false p.sites, slv p.fn false p.fns]), (4, .ptr o 0), (7, v1), (11, slv nL false ls), (12, .int .i64 (a : Nat))], st := t, h := h2 }) (fun z => p.fns.length - z.2) (_, 0) rfl (Nat.zero_le _) ?_
 rintro ⟨t, a⟩ a1
 simp only at a1
 by_cases c1 : a < p.fns.length
 ·have w1 : decide (((a : Nat) : Int) < ((p.fns.length : Nat) : Int)) = true := decide_eq_true (by omega)
  have ha : a < ls.length := by omega
  have hra := hrow1 a c1
  have hral : (ls.getD a default).l.length = p.fns.length := by rw [hra]; simp
  simp (disch := omega) only [go_sem, a5l3, a5r16, w1, hE1.ev]
  simp (disch := omega) only [go_sem, a5r17, hE1.ev]
  simp (disch := omega) only [go_sem, a5r18, hE1.ev]
  refine Wp_loop (fun z : Nat × Nat => z.2 ≤ p.fns.length) (fun (t, b) => { fr := [(1, .lbox 0 [slv p.sn false p.sites, slv p.fn false p.fns]), (4, .ptr o 0), (7, v1), (11, slv nL false ls), (12, .int .i64 (a : Nat)), (13, .bool ((List.range b).any (fun b => leadS (cR p) p.fns.length a b && doB netS (p.fns.getD b default)))), (14, .bool ((List.range b).any (fun b => leadS (cR p) p.fns.length a b && doB logS (p.fns.getD b default)))), (15, .int .i64 (b : Nat))], st := t, h := h2 }) (fun z => p.fns.length - z.2) (_, 0) rfl (Nat.zero_le _) ?_
  rintro ⟨t2, b⟩ b1
  simp only at b1
  have hst : ∀ q : Nat → Bool, (List.range (b + 1)).any q = ((List.range b).any q || q b) := fun q => by
   rw [List.range_succ, List.any_append]; simp
  by_cases c2 : b < p.fns.length
  ·have w2 : decide (((b : Nat) : Int) < ((p.fns.length : Nat) : Int)) = true := decide_eq_true (by omega)
   have hbl : b < (ls.getD a default).l.length := by omega
   have hld : (ls.getD a default).l.getD b default = leadS (cR p) p.fns.length a b := by
    rw [hra]
    simp only [List.getD_eq_getElem?_getD, List.getElem?_map, List.getElem?_range c2, Option.map_some, Option.getD_some]
   have hf := hw.fns.2 _ (slv_get c2)
   have hdf := hd _ (slv_get c2)
   have hdo : ∀ s, doB s (p.fns.getD b default) = hasD s (deedsF (p.fns.getD b default)) := fun _ => rfl
   simp only
   have hst1 := hst (fun b => leadS (cR p) p.fns.length a b && doB netS (p.fns.getD b default))
   have hst2 := hst (fun b => leadS (cR p) p.fns.length a b && doB logS (p.fns.getD b default))
   simp only [hdo] at hst1 hst2
   generalize (List.range b).any (fun b => leadS (cR p) p.fns.length a b && doB netS (p.fns.getD b default)) = n0 at hst1 ⊢
   generalize (List.range b).any (fun b => leadS (cR p) p.fns.length a b && doB logS (p.fns.getD b default)) = m0 at hst2 ⊢
   simp (disch := omega) only [go_sem, a5l2, a5r19, w2, hE1.ev]
   simp (disch := omega) only [go_sem, a5r20, c2, hE1.ev]
   refine WO.den (k := 0) (vs := [.agg (Enc.cells (p.fns.getD b default))]) (by rw [hP.pure]; rfl) (by simp (disch := omega) only [go_sem]) (deeds23_den hP _ hf hdf) (fun v hv => by obtain ⟨nl, rfl⟩ := hv; exact alone1_slv _ _ _) (fun v hv => ?_)
   obtain ⟨nD, rfl⟩ := hv
   generalize deedsF (p.fns.getD b default) = D at hdf hst1 hst2 ⊢
   simp (disch := omega) only [go_sem, hE1.ev]
   simp (disch := omega) only [go_sem, a5r21, hE1.ev]
   have hin := fun t K h => least_inner (P := P) (p := p) (o := o) (v1 := v1) hE1 (nL := nL) (nD := nD) (ls := ls) (D := D) (a := a) (b := b) (t := t) (n := n0) (m := m0) (ld := leadS (cR p) p.fns.length a b) (g := h2) hdf ha hbl hld (K := K) h
   unfold FRQ at hin
   refine hin _ _ (fun t3 k x => ?_)
   simp (disch := omega) only [go_sem, a5r26, hE1.ev]
   exact ⟨(t3, b + 1), by simp only; omega, by simp only; omega, by simp only [hst1, hst2, hdo]; push_cast; rfl⟩
  ·have w2 : decide (((b : Nat) : Int) < ((p.fns.length : Nat) : Int)) = false := decide_eq_false (by omega)
   have e : b = p.fns.length := by omega
   subst e
   have hRa := hleast a c1
   have hfar1 : (List.range p.fns.length).any (fun b => leadS (cR p) p.fns.length a b && doB netS (p.fns.getD b default)) = farB p netS a := rfl
   have hfar2 : (List.range p.fns.length).any (fun b => leadS (cR p) p.fns.length a b && doB logS (p.fns.getD b default)) = farB p logS a := rfl
   simp only [hfar1, hfar2]
   generalize farB p netS a = n0 at hRa ⊢
   generalize farB p logS a = m0 at hRa ⊢
   have hb0 : (R a).testBit 0 = n0 := by rw [hRa]; cases n0 <;> cases m0 <;> rfl
   have hb1 : (R a).testBit 1 = m0 := by rw [hRa]; cases n0 <;> cases m0 <;> rfl
   have hle : R a ≤ 3 := by rw [hRa]; cases n0 <;> cases m0 <;> decide
   have hlta := hlt a c1
   obtain ⟨o1, e1, rfl, hrow⟩ := hv1 (by omega)
   have l1 := ldU (f := R) c1
   simp (disch := omega) only [go_sem, a5l2, a5r19, w2, hE1.ev]
   simp (disch := omega) only [go_sem, a5r27, hrow, c1, Nat.mul_one, l1]
   refine WO.den (k := 0) (vs := [.int .u64 (R a : Nat), .int .i64 0]) (by rw [hP.pure]; rfl) (by simp (disch := omega) only [go_sem]) (has24_den hP (k := 0) hlta (by omega)) (fun v hv => by subst hv; rfl) (fun v hv => ?_)
   subst hv
   rw [hb0]
   have w3 : decide (((R a : Nat) : Int) > (3 : Int)) = false := decide_eq_false (by omega)
   have w3' : decide ((3 : Int) < ((R a : Nat) : Int)) = false := decide_eq_false (by omega)
   have cb : ∀ q : Bool, same 0 (.bool q) (.bool q) = some true := fun q => by cases q <;> rfl
   have cb0 := cb n0
   have cb1 := cb m0
   simp (disch := omega) only [go_sem, cb0, hrow, c1, Nat.mul_one, l1]
   refine WO.den (k := 0) (vs := [.int .u64 (R a : Nat), .int .i64 1]) (by rw [hP.pure]; rfl) (by simp (disch := omega) only [go_sem]) (has24_den hP (k := 1) hlta (by omega)) (fun v hv => by subst hv; rfl) (fun v hv => ?_)
   subst hv
   rw [hb1]
   simp (disch := omega) only [go_sem, cb1, hrow, c1, Nat.mul_one, l1, w3, w3']
   simp (disch := omega) only [go_sem, a5r29]
   exact ⟨(_, a + 1), by simp only; omega, by simp only; omega, by push_cast; rfl⟩
 have w1 : decide (((a : Nat) : Int) < ((p.fns.length : Nat) : Int)) = false := decide_eq_false (by omega)
 simp (disch := omega) only [go_sem, a5l3, a5r16, w1, hE1.ev]
 simp (disch := omega) only [go_sem, a5r30]
 refine WO.fun (vs := [p.av, .ptr o 0]) (by simp (disch := omega) only [go_sem]; rfl) (check19_fun hP T2 (by have := B1.le; omega) p hw (fun _ => hc) (by omega) hd) (fun v h3 hv => ?_)
 have hv0 : v = .tup [.int .i64 0, .int .i64 0, .int .i64 0] := by
  rcases hv with ⟨hv | ⟨-, i, pos, hi, -, hb, -⟩ | ⟨-, -, R', HL', hv⟩, -⟩
  ·rw [hm] at hv; simp at hv
  ·rw [hall _ (slv_get hi)] at hb; simp at hb
  ·have hk := least_kept hm hno hall HL'
   rcases hv with ⟨i, n, hi, -, hb, -⟩ | ⟨-, hv⟩
   ·rw [hk i hi] at hb; simp at hb
   ·exact hv
 subst hv0
 simp (disch := omega) only [go_sem]
 simp (disch := omega) only [go_sem, a5r31]
 refine WO.den (k := 0) (vs := []) (by rw [hP.pure]; rfl) (by simp (disch := omega) only [go_sem]) hP.awake_den (fun v hv => by subst hv; rfl) (fun v hv => ?_)
 subst hv
 simp (disch := omega) only [go_sem]
end Go.Am.Ef

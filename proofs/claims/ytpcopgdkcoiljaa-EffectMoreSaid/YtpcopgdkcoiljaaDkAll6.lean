/- Identifiers (lex.Ident, and the document's). -/
import Derived.Test.YtpcopgdkcoiljaaDkAll5
import Derived.Test.YtpcopgdkcoiljaaDkAll2
set_option linter.unusedSimpArgs false
set_option linter.unusedVariables false
namespace Go.Am
section
variable {base : Nat} {d : Option Nat} {s : St}
def bytesO (s : St) (o : Nat) : Option AV → Option (AV × St)
 | some (.str b) => some (newRowA s o 1 b.length false (byteCells b))
 | _ => none
@[go_sem] theorem W_toBytes {x : Opd} {k : Nat} : aop base d (.toBytes x k) s = bytesO s (base + k) (x.ev s.fr) := rfl
theorem byteCells_map : ∀ l : List UInt8, byteCells (l.map UInt8.toNat) = l.flatMap Enc.cells
 | [] => rfl
 | c :: r => by rw [List.map_cons, byteCells, byteCells_map r]; rfl
@[go_sem] theorem bytesO_strv (s : St) (o : Nat) (l : List UInt8) : bytesO s o (some (strv l)) = some (.hs 1 o 0 0 l.length false, { s with h := s.h.put o (.row 1 0 (l.flatMap Enc.cells)) }) := by
 show some (newRowA s o 1 (l.map UInt8.toNat).length false (byteCells (l.map UInt8.toNat))) = _
 rw [byteCells_map, List.length_map]; rfl
end
end Go.Am
namespace Go.Am.Ef
open Go.Am
variable {P : Prog}
set_option maxRecDepth 20000
set_option maxHeartbeats 1000000
theorem bin_or_u8 (c : UInt8) : binA .or (.int .u8 (c.toNat : Nat)) (.int .u8 32) = some (.int .u8 ((c ||| 32).toNat : Nat)) := by
 show some (AV.int .u8 (wrapA .u8 (((BitVec.ofInt 8 (c.toNat : Nat) ||| BitVec.ofInt 8 32).toNat : Nat) : Int))) = _
 have h1 : BitVec.ofInt 8 ((c.toNat : Nat) : Int) = c.toBitVec := by
  apply BitVec.eq_of_toNat_eq
  simp only [BitVec.toNat_ofInt, UInt8.toNat_toBitVec]
  have := c.toNat_lt; omega
 have h2 : (BitVec.ofInt 8 ((c.toNat : Nat) : Int) ||| BitVec.ofInt 8 32).toNat = (c ||| 32).toNat := by rw [h1]; rfl
 rw [h2, wrapA_u8 (by omega) (by have := (c ||| 32).toNat_lt; omega)]
def letB (c : UInt8) : Bool := decide (97 ≤ (c ||| 32).toNat) && decide ((c ||| 32).toNat ≤ 122) || decide (c.toNat = 95)
def digB (c : UInt8) : Bool := decide (48 ≤ c.toNat) && decide (c.toNat ≤ 57)
def letR (c : UInt8) : Bool := decide (97 ≤ c.toNat) && decide (c.toNat ≤ 122) || decide (65 ≤ c.toNat) && decide (c.toNat ≤ 90) || decide (c.toNat = 95)
theorem letter67_den (hP : EfP P) (c : UInt8) : Den P 67 [.int .u8 (c.toNat : Nat)] (fun v => v = .bool (letB c)) := by
 refine Den.of (code := a67c) (hP.code rfl) (fun N => ?_)
 have h1 := bin_or_u8 c
 unfold letB
 generalize (c ||| 32).toNat = m at h1 ⊢
 generalize c.toNat = q at h1 ⊢
 simp (disch := omega) only [go_sem, a67c, a67r0]
 by_cases c1 : 97 ≤ m
 ·by_cases c2 : m ≤ 122
  ·simp (disch := omega) only [go_sem, a67r1, h1, decide_eq_true (show (97 : Int) ≤ ((m : Nat) : Int) by omega), decide_eq_true (show ((m : Nat) : Int) ≤ (122 : Int) by omega), c1, c2]
  ·by_cases c3 : q = 95
   ·simp (disch := omega) only [go_sem, a67r1, h1, decide_eq_true (show (97 : Int) ≤ ((m : Nat) : Int) by omega), decide_eq_false (show ¬ ((m : Nat) : Int) ≤ (122 : Int) by omega), decide_eq_true (show ((q : Nat) : Int) = (95 : Int) by omega), c1, c2, decide_eq_true c3]
   ·simp (disch := omega) only [go_sem, a67r1, h1, decide_eq_true (show (97 : Int) ≤ ((m : Nat) : Int) by omega), decide_eq_false (show ¬ ((m : Nat) : Int) ≤ (122 : Int) by omega), decide_eq_false (show ¬ ((q : Nat) : Int) = (95 : Int) by omega), c1, c2, decide_eq_false c3]
 ·by_cases c3 : q = 95
  ·simp (disch := omega) only [go_sem, a67r1, h1, decide_eq_false (show ¬ (97 : Int) ≤ ((m : Nat) : Int) by omega), decide_eq_true (show ((q : Nat) : Int) = (95 : Int) by omega), c1, decide_eq_true c3]
  ·simp (disch := omega) only [go_sem, a67r1, h1, decide_eq_false (show ¬ (97 : Int) ≤ ((m : Nat) : Int) by omega), decide_eq_false (show ¬ ((q : Nat) : Int) = (95 : Int) by omega), c1, decide_eq_false c3]
theorem digit70_den (hP : EfP P) (c : UInt8) : Den P 70 [.int .u8 (c.toNat : Nat)] (fun v => v = .bool (digB c)) := by
 refine Den.of (code := a70c) (hP.code rfl) (fun N => ?_)
 unfold digB
 generalize c.toNat = q
 simp (disch := omega) only [go_sem, a70c, a70r0]
 by_cases c1 : 48 ≤ q
 ·by_cases c2 : q ≤ 57
  ·simp (disch := omega) only [go_sem, a70r1, decide_eq_true (show (48 : Int) ≤ ((q : Nat) : Int) by omega), decide_eq_true (show ((q : Nat) : Int) ≤ (57 : Int) by omega), c1, c2]
  ·simp (disch := omega) only [go_sem, a70r1, decide_eq_true (show (48 : Int) ≤ ((q : Nat) : Int) by omega), decide_eq_false (show ¬ ((q : Nat) : Int) ≤ (57 : Int) by omega), c1, c2]
 ·simp (disch := omega) only [go_sem, a70r1, decide_eq_false (show ¬ (48 : Int) ≤ ((q : Nat) : Int) by omega), c1]
theorem any69_den (hP : EfP P) (c : UInt8) : Den P 69 [.int .u8 (c.toNat : Nat)] (fun v => v = .bool (letB c || digB c)) := by
 refine Den.of (code := a69c) (hP.code rfl) (fun N => ?_)
 simp (disch := omega) only [go_sem, a69c, a69r0]
 simp (disch := omega) only [go_sem, a69r1]
 refine WO.den (k := 0) (vs := [.int .u8 (c.toNat : Nat)]) (by rw [hP.pure]; rfl) (by simp (disch := omega) only [go_sem]) (letter67_den hP c) (fun v hv => by subst hv; rfl) (fun v hv => ?_)
 subst hv
 cases hl : letB c with
 | true => simp (disch := omega) only [go_sem]
 | false =>
  simp (disch := omega) only [go_sem]
  refine WO.den (k := 0) (vs := [.int .u8 (c.toNat : Nat)]) (by rw [hP.pure]; rfl) (by simp (disch := omega) only [go_sem]) (digit70_den hP c) (fun v hv => by subst hv; rfl) (fun v hv => ?_)
  subst hv
  simp (disch := omega) only [go_sem]
def kws : List (List UInt8) := [[105, 109, 112, 111, 114, 116], [108, 97, 116, 116, 105, 99, 101], [101, 102, 102, 101, 99, 116, 115], [118, 97, 114], [102, 110], [108, 101, 116], [105, 102], [101, 108, 115, 101], [119, 104, 105, 108, 101], [114, 101, 116, 117, 114, 110], [100, 111], [116, 114, 117, 101], [102, 97, 108, 115, 101], [105, 110, 116], [98, 111, 111, 108], [100, 101, 99, 108, 97, 115, 115, 105, 102, 121]]
theorem key66_den (hP : EfP P) (s : List UInt8) : Den P 66 [strv s] (fun v => v = .bool (decide (s ∈ kws))) := by
 refine Den.of (code := a66c) (hP.code rfl) (fun N => ?_)
 simp (disch := omega) only [go_sem, a66c, a66r0]
 simp (disch := omega) only [go_sem, a66r1]
 simp (disch := omega) only [go_sem, a66r2]
 refine condS_if (fun c0 => ?_) (fun c0 => ?_)
 ·simp (disch := omega) only [go_sem, decide_eq_true c0]
  simp (disch := omega) only [go_sem, a66r18]
  rw [c0]; rfl
 simp (disch := omega) only [go_sem, a66r3]
 refine condS_if (fun c1 => ?_) (fun c1 => ?_)
 ·simp (disch := omega) only [go_sem, decide_eq_true c1]
  simp (disch := omega) only [go_sem, a66r18]
  rw [c1]; rfl
 simp (disch := omega) only [go_sem, a66r4]
 refine condS_if (fun c2 => ?_) (fun c2 => ?_)
 ·simp (disch := omega) only [go_sem, decide_eq_true c2]
  simp (disch := omega) only [go_sem, a66r18]
  rw [c2]; rfl
 simp (disch := omega) only [go_sem, a66r5]
 refine condS_if (fun c3 => ?_) (fun c3 => ?_)
 ·simp (disch := omega) only [go_sem, decide_eq_true c3]
  simp (disch := omega) only [go_sem, a66r18]
  rw [c3]; rfl
 simp (disch := omega) only [go_sem, a66r6]
 refine condS_if (fun c4 => ?_) (fun c4 => ?_)
 ·simp (disch := omega) only [go_sem, decide_eq_true c4]
  simp (disch := omega) only [go_sem, a66r18]
  rw [c4]; rfl
 simp (disch := omega) only [go_sem, a66r7]
 refine condS_if (fun c5 => ?_) (fun c5 => ?_)
 ·simp (disch := omega) only [go_sem, decide_eq_true c5]
  simp (disch := omega) only [go_sem, a66r18]
  rw [c5]; rfl
 simp (disch := omega) only [go_sem, a66r8]
 refine condS_if (fun c6 => ?_) (fun c6 => ?_)
 ·simp (disch := omega) only [go_sem, decide_eq_true c6]
  simp (disch := omega) only [go_sem, a66r18]
  rw [c6]; rfl
 simp (disch := omega) only [go_sem, a66r9]
 refine condS_if (fun c7 => ?_) (fun c7 => ?_)
 ·simp (disch := omega) only [go_sem, decide_eq_true c7]
  simp (disch := omega) only [go_sem, a66r18]
  rw [c7]; rfl
 simp (disch := omega) only [go_sem, a66r10]
 refine condS_if (fun c8 => ?_) (fun c8 => ?_)
 ·simp (disch := omega) only [go_sem, decide_eq_true c8]
  simp (disch := omega) only [go_sem, a66r18]
  rw [c8]; rfl
 simp (disch := omega) only [go_sem, a66r11]
 refine condS_if (fun c9 => ?_) (fun c9 => ?_)
 ·simp (disch := omega) only [go_sem, decide_eq_true c9]
  simp (disch := omega) only [go_sem, a66r18]
  rw [c9]; rfl
 simp (disch := omega) only [go_sem, a66r12]
 refine condS_if (fun c10 => ?_) (fun c10 => ?_)
 ·simp (disch := omega) only [go_sem, decide_eq_true c10]
  simp (disch := omega) only [go_sem, a66r18]
  rw [c10]; rfl
 simp (disch := omega) only [go_sem, a66r13]
 refine condS_if (fun c11 => ?_) (fun c11 => ?_)
 ·simp (disch := omega) only [go_sem, decide_eq_true c11]
  simp (disch := omega) only [go_sem, a66r18]
  rw [c11]; rfl
 simp (disch := omega) only [go_sem, a66r14]
 refine condS_if (fun c12 => ?_) (fun c12 => ?_)
 ·simp (disch := omega) only [go_sem, decide_eq_true c12]
  simp (disch := omega) only [go_sem, a66r18]
  rw [c12]; rfl
 simp (disch := omega) only [go_sem, a66r15]
 refine condS_if (fun c13 => ?_) (fun c13 => ?_)
 ·simp (disch := omega) only [go_sem, decide_eq_true c13]
  simp (disch := omega) only [go_sem, a66r18]
  rw [c13]; rfl
 simp (disch := omega) only [go_sem, a66r16]
 refine condS_if (fun c14 => ?_) (fun c14 => ?_)
 ·simp (disch := omega) only [go_sem, decide_eq_true c14]
  simp (disch := omega) only [go_sem, a66r18]
  rw [c14]; rfl
 simp (disch := omega) only [go_sem, a66r17]
 refine condS_if (fun c15 => ?_) (fun c15 => ?_)
 ·simp (disch := omega) only [go_sem, a66r18]
  rw [c15]; rfl
 simp (disch := omega) only [go_sem, a66r19]
 rw [decide_eq_false (by simp only [kws, List.mem_cons, List.not_mem_nil, or_false, c0, c1, c2, c3, c4, c5, c6, c7, c8, c9, c10, c11, c12, c13, c14, c15, not_false_eq_true])]
def anyB (c : UInt8) : Bool := letB c || digB c
theorem run68_den (hP : EfP P) (s : List UInt8) (nl full : Bool) (hl : s.length ≤ 1000) : Den P 68 [slv nl full s, .fn 69 []] (fun v => ∃ i : Nat, v = .int .i64 (i : Nat) ∧ i ≤ s.length ∧ (i = s.length ↔ s.all anyB = true)) := by
 refine Den.of (code := a68c) (hP.code rfl) (fun N => ?_)
 simp (disch := omega) only [go_sem, a68c, a68r0]
 simp (disch := omega) only [go_sem, a68r1]
 refine Wp_loop (fun z : Nat × Nat => z.2 ≤ s.length ∧ (s.take z.2).all anyB = true) (fun (t, i) => { fr := [(0, slv nl full s), (1, .fn 69 []), (5, .int .i64 (i : Nat))], st := t, h := { next := N, m := .leaf } }) (fun z => s.length - z.2) (_, 0) rfl ⟨Nat.zero_le _, rfl⟩ ?_
 rintro ⟨t, i⟩ ⟨i1, i2⟩
 simp only at i1 i2
 by_cases c1 : i < s.length
 ·have w1 : decide (((i : Nat) : Int) < ((s.length : Nat) : Int)) = true := decide_eq_true (by omega)
  have hst : s.take (i + 1) = s.take i ++ [s.getD i default] := by
   rw [List.take_succ_eq_append_getElem c1, List.getD_eq_getElem?_getD, List.getElem?_eq_getElem c1]; rfl
  simp (disch := omega) only [go_sem, a68l0, a68r2, w1, c1]
  refine WO_denv (f := 69) (caps := []) (k := 0) (vs := [.int .u8 ((s.getD i default).toNat : Nat)]) rfl (by rw [hP.pure]; rfl) (by simp (disch := omega) only [go_sem]) (any69_den hP _) (fun v hv => by subst hv; rfl) (fun v hv => ?_)
  subst hv
  cases hq : anyB (s.getD i default) with
  | true =>
   have hq' : (letB (s.getD i default) || digB (s.getD i default)) = true := hq
   rw [hq']
   simp (disch := omega) only [go_sem]
   simp (disch := omega) only [go_sem, a68r3]
   exact ⟨(t, i + 1), ⟨by simp only; omega, by simp only [hst, List.all_append, i2, List.all_cons, List.all_nil, hq]; rfl⟩, by simp only; omega, by push_cast; rfl⟩
  | false =>
   have hq' : (letB (s.getD i default) || digB (s.getD i default)) = false := hq
   rw [hq']
   simp (disch := omega) only [go_sem]
   simp (disch := omega) only [go_sem, a68r4]
   refine ⟨i, rfl, i1, fun e => by omega, fun h => ?_⟩
   have := List.all_eq_true.1 h _ (slv_get c1)
   rw [hq] at this; simp at this
 ·have w1 : decide (((i : Nat) : Int) < ((s.length : Nat) : Int)) = false := decide_eq_false (by omega)
  have e : i = s.length := by omega
  simp (disch := omega) only [go_sem, a68l0, a68r2, w1]
  simp (disch := omega) only [go_sem, a68r4]
  subst e
  rw [List.take_length] at i2
  exact ⟨s.length, rfl, Nat.le_refl _, fun _ => i2, fun _ => rfl⟩
def identB (s : List UInt8) : Bool := !decide (s = []) && decide (s.length ≤ 24) && !decide (s ∈ kws) && letB (s.getD 0 default) && s.all anyB
theorem ident39_den (hP : EfP P) (s : List UInt8) : Den P 39 [strv s] (fun v => v = .bool (identB s)) := by
 refine Den.of (code := a39c) (hP.code rfl) (fun N => ?_)
 simp (disch := omega) only [go_sem, a39c, a39r0]
 by_cases c1 : s = []
 ·subst c1
  simp (disch := omega) only [go_sem, a39r1]
  simp (disch := omega) only [go_sem, a39r2]
  rfl
 have d1 := decide_eq_false c1
 have hpos : 0 < s.length := List.length_pos_iff.2 c1
 by_cases c2 : s.length ≤ 24
 ·have d2 : decide ((24 : Int) < ((s.length : Nat) : Int)) = false := decide_eq_false (by omega)
  have hidx := str_idx s .i64 0 (by omega) (by omega)
  simp (disch := omega) only [go_sem, a39r1, d1, d2]
  refine WO.den (k := 0) (vs := [strv s]) (by rw [hP.pure]; rfl) (by simp (disch := omega) only [go_sem]) (key66_den hP s) (fun v hv => by subst hv; rfl) (fun v hv => ?_)
  subst hv
  cases hk : decide (s ∈ kws) with
  | true =>
   simp (disch := omega) only [go_sem]
   simp (disch := omega) only [go_sem, a39r2]
   rw [identB, hk]; simp
  | false =>
   simp (disch := omega) only [go_sem, hidx]
   refine WO.den (k := 0) (vs := [.int .u8 ((s.getD 0 0).toNat : Nat)]) (by rw [hP.pure]; rfl) (by simp (disch := omega) only [go_sem]) (letter67_den hP _) (fun v hv => by subst hv; rfl) (fun v hv => ?_)
   subst hv
   have hid : identB s = (letB (s.getD 0 0) && s.all anyB) := by
    rw [identB, hk, d1, decide_eq_true c2]; rfl
   rw [hid]
   cases hlb : letB (s.getD 0 0) with
   | false =>
    simp (disch := omega) only [go_sem]
    simp (disch := omega) only [go_sem, a39r2]
   | true =>
    simp (disch := omega) only [go_sem]
    simp (disch := omega) only [go_sem, a39r3]
    refine WO.den (k := 1) (vs := [.hs 1 N 0 0 s.length false, .fn 69 []]) (by rw [hP.pure]; rfl) (by simp (disch := omega) only [go_sem]) (R := fun v => ∃ i : Nat, v = .int .i64 (i : Nat) ∧ i ≤ s.length ∧ (i = s.length ↔ s.all anyB = true)) ?_ (fun v hv => by obtain ⟨i, rfl, -⟩ := hv; rfl) (fun v hv => ?_)
    ·have e0 : ∀ h : Heap, h.get N = some (.row 1 0 (s.flatMap Enc.cells)) → frz h 0 40 (.hs 1 N 0 0 s.length false) = slv false false s := fun h hg => (frz_hs (α := UInt8) (off := 0) (len := s.length) (N := 0) (n := 39) (full := false) (l := s) hg (by omega) (Nat.zero_le _)).trans (by simp)
     simp only [lent_11, List.map_cons, List.map_nil]
     rw [e0 _ (get_put_same _ _ _)]
     exact run68_den hP s false false (by omega)
    ·obtain ⟨i, rfl, i1, i2⟩ := hv
     have : decide (((i : Nat) : Int) = ((s.length : Nat) : Int)) = s.all anyB := by
      rw [Bool.eq_iff_iff, decide_eq_true_eq, ← i2]; omega
     simp (disch := omega) only [go_sem, this]
 ·have d2 : decide ((24 : Int) < ((s.length : Nat) : Int)) = true := decide_eq_true (by omega)
  simp (disch := omega) only [go_sem, a39r1, d1, d2]
  simp (disch := omega) only [go_sem, a39r2]
  rw [identB, decide_eq_false c2]; simp
end Go.Am.Ef
/- A table of effects is made (row.New). -/
namespace Go.Am.Ef
open Go.Am
variable {P : Prog}
set_option maxRecDepth 20000
set_option maxHeartbeats 1000000
def badN (out : List (List UInt8)) (s : List UInt8) : Option Nat := if identB s = false then some 1 else if s ∈ out then some 7 else if out.length = 64 then some 8 else none
def namesK (l : List NameV) (k : Nat) : List (List UInt8) := (l.take k).map (·.name)
def badK (l : List NameV) (k : Nat) : Option Nat := badN (namesK l k) (l.getD k default).name
theorem namesK_succ {l : List NameV} {k : Nat} (h : k < l.length) : namesK l (k + 1) = namesK l k ++ [(l.getD k default).name] := by
 unfold namesK
 rw [List.take_succ_eq_append_getElem h, List.map_append, List.getD_eq_getElem?_getD, List.getElem?_eq_getElem h]; rfl
theorem namesK_len {l : List NameV} {k : Nat} (h : k ≤ l.length) : (namesK l k).length = k := by simp [namesK]; omega
def NewR (l : List NameV) (h : Heap) (v : AV) (h' : Heap) : Prop :=
 (∃ k e, k < l.length ∧ (∀ j, j < k → badK l j = none) ∧ badK l k = some e ∧ v = .tup [.nilp, .int .i64 (k : Nat), .int .i64 (e : Nat)] ∧ Old h h') ∨
 ((∀ j, j < l.length → badK l j = none) ∧ ∃ o, v = .tup [.ptr o 0, .int .i64 0, .int .i64 0] ∧ TabB h'.next h' o (l.map (·.name)) ∧ Old h h')
def o8 : Option Bool → Fr
 | none => []
 | some b => [(8, .bool b)]
theorem o8_none : o8 none = [] := rfl
theorem o8_some (b : Bool) : o8 (some b) = [(8, .bool b)] := rfl
structure NewI (h g : Heap) (m o : Nat) (names : List (List UInt8)) (v : AV) (es : TMap) (bs : List Nat) (ck : Nat) : Prop where
 t : TabAt g o m names v es bs ck
 own : ∀ i, rowOf v = some i → o < i ∧ i < g.next
 mo : m < o ∧ h.next ≤ m ∧ o < g.next
 old : Old h g
theorem posN_snoc {names : List (List UInt8)} {x : List UInt8} (hx : x ∉ names) (s : List UInt8) : posN (names ++ [x]) s = if s = x then some names.length else posN names s := by
 unfold posN
 by_cases e : s = x
 ·subst e
  rw [if_pos (by simp), if_pos rfl]
  congr 1
  rw [List.idxOf_append, if_neg hx]
  simp
 ·rw [if_neg e]
  by_cases hm : s ∈ names
  ·rw [if_pos (List.mem_append_left _ hm), if_pos hm, List.idxOf_append, if_pos hm]
  ·rw [if_neg (by simp [hm, e]), if_neg hm]
theorem tget_tput (k s : List UInt8) (v : AV) : ∀ es : TMap, tget s (tput k v es) = if s = k then some v else tget s es
 | [] => by
  simp only [tput, tget]
  by_cases e : k = s
  ·rw [if_pos e, if_pos e.symm]
  ·rw [if_neg e, if_neg (Ne.symm e)]
 | p :: r => by
  rw [tput]
  by_cases e : p.1 = k
  ·rw [if_pos e]
   simp only [tget]
   by_cases e2 : k = s
   ·rw [if_pos e2, if_pos e2.symm]
   ·rw [if_neg e2, if_neg (Ne.symm e2), if_neg (by rw [e]; exact e2)]
  ·rw [if_neg e]
   simp only [tget]
   by_cases e2 : p.1 = s
   ·rw [if_pos e2, if_pos e2, if_neg (by rw [← e2]; exact e)]
   ·rw [if_neg e2, if_neg e2, tget_tput k s v r]
theorem NewI.step {h g : Heap} {m o : Nat} {names : List (List UInt8)} {v : AV} {es : TMap} {bs : List Nat} {ck : Nat} (I : NewI h g m o names v es bs ck) {x : List UInt8} (hx : x ∉ names) (hl : names.length < 64) {g1 g2 : Heap} {v' : AV}
  (e1 : g1 = (g.put m (putM x (.int .i64 (names.length : Nat)) es bs ck))) (hr : RowV g2 v' (names ++ [x])) (hn : g2.next = g1.next + 1) (ho : rowOf v' = rowOf v ∨ rowOf v' = some g1.next) (hf : ∀ q, q ≠ g1.next → rowOf v ≠ some q → g2.get q = g1.get q) :
  ∃ es' bs' ck', NewI h (g2.put o (.cells [v', .mp m])) m o (names ++ [x]) v' es' bs' ck' := by
 have hm := I.mo
 have hg1 : g1.next = g.next := by rw [e1]; rfl
 have hvm : rowOf v ≠ some m := fun e => by have := I.own m e; omega
 have hvo : rowOf v ≠ some o := fun e => by have := I.own o e; omega
 have hgm : g2.get m = some (putM x (.int .i64 (names.length : Nat)) es bs ck) := by
  rw [hf m (by omega) hvm, e1, get_put_same]
 have hp : ∃ bs' ck', putM x (.int .i64 (names.length : Nat)) es bs ck = .map (kv (tput x (.int .i64 (names.length : Nat)) es)) bs' ck' := by
  unfold putM; split
  ·exact ⟨_, _, rfl⟩
  ·exact ⟨_, _, rfl⟩
 obtain ⟨bs', ck', hp⟩ := hp
 have hown : ∀ i, rowOf v' = some i → o < i ∧ i < g2.next := fun i e => by
  rcases ho with e2 | e2 <;> rw [e2] at e
  ·have := I.own i e; omega
  ·have := Option.some.inj e; omega
 refine ⟨tput x (.int .i64 (names.length : Nat)) es, bs', ck', ⟨⟨get_put_same _ _ _, ?_, ?_, fun s => ?_, by simp; omega⟩, hown, ⟨hm.1, hm.2.1, by show o < g2.next; omega⟩, ⟨by show h.next ≤ g2.next; have := I.old.next; omega, fun i hi => ?_⟩⟩⟩
 ·rw [get_put_ne _ _ _ _ (by omega), hgm, hp]
 ·rcases hr with e | ⟨q, ep, e, hq⟩
  ·exact .inl e
  ·have := hown q (by rw [e]; rfl)
   exact .inr ⟨q, ep, e, by rw [get_put_ne _ _ _ _ (by omega)]; exact hq⟩
 ·rw [tget_tput, posN_snoc hx]
  by_cases e : s = x
  ·rw [if_pos e, if_pos e]; rfl
  ·rw [if_neg e, if_neg e]; exact I.t.get s
 ·rw [get_put_ne _ _ _ _ (by omega), hf i (by have := I.old.next; omega) (fun e => by have := I.own i e; omega), e1, get_put_ne _ _ _ _ (by omega)]
  exact I.old.keep i hi
theorem rowv_evs {α : Type} [Enc α] {h : Heap} {v : AV} {l : List α} (hr : RowV h v l) : Evs v := by
 rcases hr with ⟨rfl, -⟩ | ⟨o, ep, rfl, -⟩
 ·exact ⟨fun i => rfl, rfl, rfl, rfl⟩
 ·exact ⟨fun i => rfl, rfl, rfl, rfl⟩
theorem rowv_len {α : Type} [Enc α] {h : Heap} {v : AV} {l : List α} (hr : RowV h v l) : lenA h v = some l.length := by
 rcases hr with ⟨rfl, rfl⟩ | ⟨o, ep, rfl, -⟩
 ·rfl
 ·rfl
theorem new_fun (hP : EfP P) (h : Heap) (nl fl : Bool) (l : List NameV) (hl : l.length ≤ 100000) : Fun P 16 [slv nl fl l] h (fun v h' => NewR l h v h') := by
 refine Fun.of (code := a16c) (hP.code rfl) (by rw [hP.pure]; rfl) ?_
 simp (disch := omega) only [go_sem, a16c, a16r0]
 simp (disch := omega) only [go_sem, a16r1]
 simp (disch := omega) only [go_sem, a16r2]
 refine Wp_loop (fun z : Nat × Nat × Option Bool × AV × TMap × List Nat × Nat × Heap => z.2.1 ≤ l.length ∧ (∀ j, j < z.2.1 → badK l j = none) ∧ NewI h z.2.2.2.2.2.2.2 h.next (h.next + 1) (namesK l z.2.1) z.2.2.2.1 z.2.2.2.2.1 z.2.2.2.2.2.1 z.2.2.2.2.2.2.1)
  (fun (t, k, q, v, es, bs, ck, g) => { fr := [(2, .ptr (h.next + 1) 0)] ++ o8 q ++ [(12, slv nl fl l), (13, .int .i64 (l.length : Nat)), (14, .int .i64 (k : Nat))], st := t, h := g }) (fun z => l.length - z.2.1) (0, 0, none, .nils, [], [], 0, _) rfl ⟨Nat.zero_le _, fun j hj => by simp only at hj; omega, ⟨⟨get_put_same _ _ _, by rw [get_put_ne _ _ _ _ (by omega)]; exact get_put_same _ _ _, .inl ⟨rfl, rfl⟩, fun s => rfl, Nat.zero_le _⟩, fun i e => by simp [rowOf] at e, ⟨by omega, by omega, by show h.next + 1 < h.next + 2; omega⟩, ⟨by show h.next ≤ h.next + 2; omega, fun i hi => by rw [get_put_ne _ _ _ _ (by omega), get_put_ne _ _ _ _ (by omega)]; rfl⟩⟩⟩ ?_
 rintro ⟨t, k, q, v, es, bs, ck, g⟩ ⟨k1, k2, I⟩
 simp only at k1 k2 I
 have hE := rowv_evs I.t.row
 by_cases c1 : k < l.length
 ·have w1 : decide (((k : Nat) : Int) < ((l.length : Nat) : Int)) = true := decide_eq_true (by omega)
  have hlen := rowv_len I.t.row
  have hg := I.t.get (l.getD k default).name
  have hkl := namesK_len k1
  have hbk : badK l k = badN (namesK l k) (l.getD k default).name := rfl
  have hsucc := namesK_succ c1
  generalize namesK l k = names at I hg hlen hkl hbk hsucc
  have hgb : ∀ e, badK l k = some e → ∀ g', Old h g' → NewR l h (.tup [.nilp, .int .i64 (k : Nat), .int .i64 (e : Nat)]) g' := fun e he g' ho => .inl ⟨k, e, c1, k2, he, rfl, ho⟩
  have hk2' : badK l k = none → ∀ j, j < k + 1 → badK l j = none := fun he j hj => by
   by_cases e : j = k
   ·rw [e]; exact he
   ·exact k2 j (by omega)
  cases q with
  | none =>
   simp only [o8_none, o8_some, List.cons_append, List.nil_append]
   cases hp : posN names (l.getD k default).name with
   | none =>
    rw [hp, Option.map_none] at hg
    have hx : (l.getD k default).name ∉ names := fun hm => by rw [posN, if_pos hm] at hp; simp at hp
    simp (disch := omega) only [go_sem, a16l0, a16r3, w1]
    simp (disch := omega) only [go_sem, a16r4, c1]
    simp (disch := omega) only [go_sem, a16d5, I.t.tab, I.t.map, hg, Option.getD_none, Option.isSome_none]
    simp (disch := omega) only [go_sem, a16r6]
    refine WO.den (k := 0) (vs := [strv (l.getD k default).name]) (by rw [hP.pure]; rfl) (by simp (disch := omega) only [go_sem]) (ident39_den hP _) (fun v hv => by subst hv; rfl) (fun v hv => ?_)
    subst hv
    cases hid : identB (l.getD k default).name with
    | false =>
     simp (disch := omega) only [go_sem]
     simp (disch := omega) only [go_sem, a16r7]
     exact hgb 1 (by rw [hbk, badN, if_pos hid]) g I.old
    | true =>
     simp (disch := omega) only [go_sem]
     simp (disch := omega) only [go_sem, a16r8]
     simp (disch := omega) only [go_sem, a16r10, I.t.tab, hE.ev, hE.tag, hlen]
     by_cases c3 : names.length = 64
     ·have d3 : decide (((names.length : Nat) : Int) = (64 : Int)) = true := decide_eq_true (by omega)
      simp (disch := omega) only [go_sem, d3]
      simp (disch := omega) only [go_sem, a16r11]
      exact hgb 8 (by rw [hbk, badN, if_neg (by rw [hid]; simp), if_neg hx, if_pos c3]) g I.old
     ·have d3 : decide (((names.length : Nat) : Int) = (64 : Int)) = false := decide_eq_false (by omega)
      have hbn : badK l k = none := by rw [hbk, badN, if_neg (by rw [hid]; simp), if_neg hx, if_neg c3]
      have h64 := I.t.len
      have hmo := I.mo
      simp (disch := omega) only [go_sem, d3]
      simp (disch := omega) only [go_sem, a16d12, I.t.tab, I.t.map, hE.ev, hE.tag, hE.dat, hlen]
      have ht2 : (g.put h.next (putM (l.getD k default).name (.int .i64 (names.length : Nat)) es bs ck)).get (h.next + 1) = some (.cells [v, .mp h.next]) := by rw [get_put_ne _ _ _ _ (by omega)]; exact I.t.tab
      have hr2 : RowV (g.put h.next (putM (l.getD k default).name (.int .i64 (names.length : Nat)) es bs ck)) v names := by
       rcases I.t.row with e | ⟨i, ep, e, hq⟩
       ·exact .inl e
       ·have := I.own i (by rw [e]; rfl)
        exact .inr ⟨i, ep, e, by rw [get_put_ne _ _ _ _ (by omega)]; exact hq⟩
      generalize hg1 : g.put h.next (putM (l.getD k default).name (.int .i64 (names.length : Nat)) es bs ck) = g1 at ht2 hr2
      have hn1 : g1.next = g.next := by rw [← hg1]; rfl
      have ht3 : (g1.reserve 1).get (h.next + 1) = some (.cells [v, .mp h.next]) := ht2
      have hr3 : RowV (g1.reserve 1) v names := hr2
      simp (disch := omega) only [go_sem, a16d13, ht3, hE.ev, hE.tag, hE.dat, hlen]
      refine dS_app (α := List UInt8) (bytes := 16) (l := names) (new := [(l.getD k default).name]) hr3 (adds_one (α := List UInt8) _ (l.getD k default).name _ true rfl) rfl (by simp only [List.length_cons, List.length_nil, two47]; omega) (fun v' g2 q1 q2 q3 q4 => ?_)
      have hE2 := rowv_evs q1
      have ht4 : g2.get (h.next + 1) = some (.cells [v, .mp h.next]) := by
       rw [q4 _ (by omega) (fun e => by have := I.own _ e; omega)]; exact ht3
      obtain ⟨es', bs', ck', I2⟩ := I.step hx (by omega) hg1.symm q1 q2 (by rw [hn1]; exact q3) (by rw [hn1]; exact q4)
      rw [← hsucc] at I2
      simp (disch := omega) only [go_sem, hE2.ev, hE2.tag, hE2.dat, hE2.cel]
      refine WD_storeP (val := v') (off := 0) (o := h.next + 1) (c' := [v', .mp h.next]) (by simp (disch := omega) only [go_sem]) (by simp (disch := omega) only [go_sem, hE2.dat, hE2.ev]) (by rw [hE2.cel]; rfl) ht4 (by rw [hE2.cel]; rfl) rfl ?_
      simp (disch := omega) only [go_sem]
      simp (disch := omega) only [go_sem, a16r14]
      exact ⟨(_, k + 1, some false, v', es', bs', ck', _), ⟨by simp only; omega, hk2' hbn, I2⟩, by simp only; omega, by simp only [o8_some, List.cons_append, List.nil_append]; push_cast; rfl⟩
   | some pk =>
    rw [hp, Option.map_some] at hg
    have hx : (l.getD k default).name ∈ names := Classical.byContradiction (fun hm => by rw [posN, if_neg hm] at hp; simp at hp)
    simp (disch := omega) only [go_sem, a16l0, a16r3, w1]
    simp (disch := omega) only [go_sem, a16r4, c1]
    simp (disch := omega) only [go_sem, a16d5, I.t.tab, I.t.map, hg, Option.getD_some, Option.isSome_some]
    simp (disch := omega) only [go_sem, a16r6]
    refine WO.den (k := 0) (vs := [strv (l.getD k default).name]) (by rw [hP.pure]; rfl) (by simp (disch := omega) only [go_sem]) (ident39_den hP _) (fun v hv => by subst hv; rfl) (fun v hv => ?_)
    subst hv
    cases hid : identB (l.getD k default).name with
    | false =>
     simp (disch := omega) only [go_sem]
     simp (disch := omega) only [go_sem, a16r7]
     exact hgb 1 (by rw [hbk, badN, if_pos hid]) g I.old
    | true =>
     simp (disch := omega) only [go_sem]
     simp (disch := omega) only [go_sem, a16r8]
     simp (disch := omega) only [go_sem, a16r9]
     exact hgb 7 (by rw [hbk, badN, if_neg (by rw [hid]; simp), if_pos hx]) g I.old
  | some b0 =>
   simp only [o8_none, o8_some, List.cons_append, List.nil_append]
   cases hp : posN names (l.getD k default).name with
   | none =>
    rw [hp, Option.map_none] at hg
    have hx : (l.getD k default).name ∉ names := fun hm => by rw [posN, if_pos hm] at hp; simp at hp
    simp (disch := omega) only [go_sem, a16l0, a16r3, w1]
    simp (disch := omega) only [go_sem, a16r4, c1]
    simp (disch := omega) only [go_sem, a16d5, I.t.tab, I.t.map, hg, Option.getD_none, Option.isSome_none]
    simp (disch := omega) only [go_sem, a16r6]
    refine WO.den (k := 0) (vs := [strv (l.getD k default).name]) (by rw [hP.pure]; rfl) (by simp (disch := omega) only [go_sem]) (ident39_den hP _) (fun v hv => by subst hv; rfl) (fun v hv => ?_)
    subst hv
    cases hid : identB (l.getD k default).name with
    | false =>
     simp (disch := omega) only [go_sem]
     simp (disch := omega) only [go_sem, a16r7]
     exact hgb 1 (by rw [hbk, badN, if_pos hid]) g I.old
    | true =>
     simp (disch := omega) only [go_sem]
     simp (disch := omega) only [go_sem, a16r8]
     simp (disch := omega) only [go_sem, a16r10, I.t.tab, hE.ev, hE.tag, hlen]
     by_cases c3 : names.length = 64
     ·have d3 : decide (((names.length : Nat) : Int) = (64 : Int)) = true := decide_eq_true (by omega)
      simp (disch := omega) only [go_sem, d3]
      simp (disch := omega) only [go_sem, a16r11]
      exact hgb 8 (by rw [hbk, badN, if_neg (by rw [hid]; simp), if_neg hx, if_pos c3]) g I.old
     ·have d3 : decide (((names.length : Nat) : Int) = (64 : Int)) = false := decide_eq_false (by omega)
      have hbn : badK l k = none := by rw [hbk, badN, if_neg (by rw [hid]; simp), if_neg hx, if_neg c3]
      have h64 := I.t.len
      have hmo := I.mo
      simp (disch := omega) only [go_sem, d3]
      simp (disch := omega) only [go_sem, a16d12, I.t.tab, I.t.map, hE.ev, hE.tag, hE.dat, hlen]
      have ht2 : (g.put h.next (putM (l.getD k default).name (.int .i64 (names.length : Nat)) es bs ck)).get (h.next + 1) = some (.cells [v, .mp h.next]) := by rw [get_put_ne _ _ _ _ (by omega)]; exact I.t.tab
      have hr2 : RowV (g.put h.next (putM (l.getD k default).name (.int .i64 (names.length : Nat)) es bs ck)) v names := by
       rcases I.t.row with e | ⟨i, ep, e, hq⟩
       ·exact .inl e
       ·have := I.own i (by rw [e]; rfl)
        exact .inr ⟨i, ep, e, by rw [get_put_ne _ _ _ _ (by omega)]; exact hq⟩
      generalize hg1 : g.put h.next (putM (l.getD k default).name (.int .i64 (names.length : Nat)) es bs ck) = g1 at ht2 hr2
      have hn1 : g1.next = g.next := by rw [← hg1]; rfl
      have ht3 : (g1.reserve 1).get (h.next + 1) = some (.cells [v, .mp h.next]) := ht2
      have hr3 : RowV (g1.reserve 1) v names := hr2
      simp (disch := omega) only [go_sem, a16d13, ht3, hE.ev, hE.tag, hE.dat, hlen]
      refine dS_app (α := List UInt8) (bytes := 16) (l := names) (new := [(l.getD k default).name]) hr3 (adds_one (α := List UInt8) _ (l.getD k default).name _ true rfl) rfl (by simp only [List.length_cons, List.length_nil, two47]; omega) (fun v' g2 q1 q2 q3 q4 => ?_)
      have hE2 := rowv_evs q1
      have ht4 : g2.get (h.next + 1) = some (.cells [v, .mp h.next]) := by
       rw [q4 _ (by omega) (fun e => by have := I.own _ e; omega)]; exact ht3
      obtain ⟨es', bs', ck', I2⟩ := I.step hx (by omega) hg1.symm q1 q2 (by rw [hn1]; exact q3) (by rw [hn1]; exact q4)
      rw [← hsucc] at I2
      simp (disch := omega) only [go_sem, hE2.ev, hE2.tag, hE2.dat, hE2.cel]
      refine WD_storeP (val := v') (off := 0) (o := h.next + 1) (c' := [v', .mp h.next]) (by simp (disch := omega) only [go_sem]) (by simp (disch := omega) only [go_sem, hE2.dat, hE2.ev]) (by rw [hE2.cel]; rfl) ht4 (by rw [hE2.cel]; rfl) rfl ?_
      simp (disch := omega) only [go_sem]
      simp (disch := omega) only [go_sem, a16r14]
      exact ⟨(_, k + 1, some false, v', es', bs', ck', _), ⟨by simp only; omega, hk2' hbn, I2⟩, by simp only; omega, by simp only [o8_some, List.cons_append, List.nil_append]; push_cast; rfl⟩
   | some pk =>
    rw [hp, Option.map_some] at hg
    have hx : (l.getD k default).name ∈ names := Classical.byContradiction (fun hm => by rw [posN, if_neg hm] at hp; simp at hp)
    simp (disch := omega) only [go_sem, a16l0, a16r3, w1]
    simp (disch := omega) only [go_sem, a16r4, c1]
    simp (disch := omega) only [go_sem, a16d5, I.t.tab, I.t.map, hg, Option.getD_some, Option.isSome_some]
    simp (disch := omega) only [go_sem, a16r6]
    refine WO.den (k := 0) (vs := [strv (l.getD k default).name]) (by rw [hP.pure]; rfl) (by simp (disch := omega) only [go_sem]) (ident39_den hP _) (fun v hv => by subst hv; rfl) (fun v hv => ?_)
    subst hv
    cases hid : identB (l.getD k default).name with
    | false =>
     simp (disch := omega) only [go_sem]
     simp (disch := omega) only [go_sem, a16r7]
     exact hgb 1 (by rw [hbk, badN, if_pos hid]) g I.old
    | true =>
     simp (disch := omega) only [go_sem]
     simp (disch := omega) only [go_sem, a16r8]
     simp (disch := omega) only [go_sem, a16r9]
     exact hgb 7 (by rw [hbk, badN, if_neg (by rw [hid]; simp), if_pos hx]) g I.old
 ·have w1 : decide (((k : Nat) : Int) < ((l.length : Nat) : Int)) = false := decide_eq_false (by omega)
  have e : k = l.length := by omega
  have hall : namesK l k = l.map (·.name) := by unfold namesK; rw [e, List.take_length]
  rw [e] at k2
  rw [hall] at I
  have hend : NewR l h (.tup [.ptr (h.next + 1) 0, .int .i64 0, .int .i64 0]) g := .inr ⟨k2, h.next + 1, rfl, ⟨_, _, _, _, _, I.t, I.mo.2.2, by have := I.mo; omega, fun i e => (I.own i e).2⟩, I.old⟩
  cases q with
  | none =>
   simp only [o8_none, o8_some, List.cons_append, List.nil_append]
   simp (disch := omega) only [go_sem, a16l0, a16r3, w1]
   simp (disch := omega) only [go_sem, a16r15]
   exact hend
  | some b =>
   simp only [o8_none, o8_some, List.cons_append, List.nil_append]
   simp (disch := omega) only [go_sem, a16l0, a16r3, w1]
   simp (disch := omega) only [go_sem, a16r15]
   exact hend
end Go.Am.Ef
/- EffectOne: where no row is declared, functions of one group have one row. -/
namespace Go.Am.Ef
open Go.Am
variable {P : Prog}
set_option maxRecDepth 20000
set_option maxHeartbeats 1000000
theorem within26_den (hP : EfP P) {a b : Nat} (ha : a < 2 ^ 64) (hb : b < 2 ^ 64) : Den P 26 [.int .u64 (a : Nat), .int .u64 (b : Nat)] (fun v => v = .bool (decide (a ||| b = b))) := by
 refine Den.of (code := a26c) (hP.code rfl) (fun N => ?_)
 obtain ⟨c, h1, h2⟩ := bin_andNot_u64 ha hb
 have h3 : decide (((c : Nat) : Int) = (0 : Int)) = decide (a ||| b = b) := decide_eq_decide.2 (by rw [← h2]; omega)
 simp (disch := omega) only [go_sem, a26c, a26r0]
 simp (disch := omega) only [go_sem, a26r1, h1, h3]
theorem cellsAtL_flat {α : Type} [Enc α] : ∀ (l : List α) (i : Nat), cellsAtL l i = ((l.flatMap Enc.cells).drop (i * Enc.sz α)).take (Enc.sz α)
 | [], i => by simp [cellsAtL]
 | x :: r, 0 => by
  show Enc.cells x = _
  rw [Nat.zero_mul, List.drop_zero, List.flatMap_cons, ← Enc.len x, List.take_left]
 | x :: r, i + 1 => by
  have h := cellsAtL_flat r i
  show cellsAtL r i = _
  rw [h, List.flatMap_cons, Nat.succ_mul, Nat.add_comm, ← List.drop_drop]
  congr 2
  conv => rhs; rw [← Enc.len x]
  rw [List.drop_left]
theorem lits_slv {α : Type} [Enc α] (l : List α) (full : Bool) : AV.sl (Enc.sz α) l.length (fun i => ((l.flatMap Enc.cells).drop (i * Enc.sz α)).take (Enc.sz α)) full = slv false full l := by
 show _ = AV.sl _ _ _ _
 congr 1
 funext i
 exact (cellsAtL_flat l i).symm
def NoRow (p : ProgV) : Prop := ∀ i, i < p.fns.length → (p.fns.getD i default).some = false ∧ (p.fns.getD i default).row = []
def cntG (s : TS) (N : Nat) (E : List Nat) (i : Nat) : Nat := ((E.take i).map (fun k => (grp s N k).length)).sum
end Go.Am.Ef
/- Rows are kept (effect.Check). -/
namespace Go.Am.Ef
open Go.Am
variable {P : Prog}
set_option maxRecDepth 20000
set_option maxHeartbeats 1000000
def needR (names : List (List UInt8)) (R : Nat → Nat) (d : Deed) : Nat := if 0 ≤ d.fn then R d.fn.toNat else match posN names d.name with
 | some k => 2 ^ k
 | none => 0
def badD (names : List (List UInt8)) (R : Nat → Nat) (l : List Deed) (m : Nat) : Option Nat := l.findIdx? (fun d => !decide (needR names R d ||| m = m))
def badA (names : List (List UInt8)) (R : Nat → Nat) (p : ProgV) (i : Nat) : Option Nat := badD names R (deedsF (p.fns.getD i default)) (R i)
def CheckR (names : List (List UInt8)) (p : ProgV) (v : AV) : Prop :=
  (mayP p = false ∧ v = .tup [.int .i64 0, .int .i64 0, .int .i64 1]) ∨
  (mayP p = true ∧ ∃ i pos, i < p.fns.length ∧ (∀ j, j < i → badF names (p.fns.getD j default) = none) ∧ badF names (p.fns.getD i default) = some pos ∧ v = .tup [.int .i64 (i : Nat), .int .i64 pos, .int .i64 13]) ∨
  (mayP p = true ∧ (∀ f ∈ p.fns, badF names f = none) ∧ ∃ R, Lfp (RDof names p) R ∧
    ((∃ i n, i < p.fns.length ∧ (∀ j, j < i → badA names R p j = none) ∧ badA names R p i = some n ∧ v = .tup [.int .i64 (i : Nat), .int .i64 ((deedsF (p.fns.getD i default)).getD n default).pos, .int .i64 20]) ∨
     ((∀ j, j < p.fns.length → badA names R p j = none) ∧ v = .tup [.int .i64 0, .int .i64 0, .int .i64 0])))
theorem findIdx_at {α : Type} [Inhabited α] {q : α → Bool} {l : List α} {k : Nat} (hk : k < l.length) (h1 : ∀ i, i < k → q (l.getD i default) = false) (h2 : q (l.getD k default) = true) : l.findIdx? q = some k := by
 rw [List.findIdx?_eq_some_iff_getElem]
 have e : ∀ i (hi : i < l.length), l[i] = l.getD i default := fun i hi => by rw [List.getD_eq_getElem?_getD, List.getElem?_eq_getElem hi]; rfl
 refine ⟨hk, by rw [e]; exact h2, fun j hj => by rw [e, h1 j hj]; simp⟩
theorem findIdx_no {α : Type} [Inhabited α] {q : α → Bool} {l : List α} (h1 : ∀ i, i < l.length → q (l.getD i default) = false) : l.findIdx? q = none := by
 rw [List.findIdx?_eq_none_iff]
 intro x hx
 obtain ⟨i, hi, rfl⟩ := List.getElem_of_mem hx
 have := h1 i hi
 rwa [List.getD_eq_getElem?_getD, List.getElem?_eq_getElem hi] at this
theorem needR_lt {names : List (List UInt8)} (hn : names.length ≤ 64) {R : Nat → Nat} {N : Nat} (hR : ∀ x, x < N → R x < 2 ^ 64) {d : Deed} (hd : d.fn = -1 ∨ (0 ≤ d.fn ∧ d.fn < (N : Nat))) : needR names R d < 2 ^ 64 := by
 unfold needR
 split
 ·exact hR _ (by omega)
 ·cases h : posN names d.name with
  | none => show (0 : Nat) < 2 ^ 64; decide
  | some k => exact pow_lt64 (by have := posN_lt h; omega)
theorem check19_fun (hP : EfP P) {h : Heap} {o b : Nat} {names : List (List UInt8)} (T : TabB b h o names) (hb : b ≤ h.next) (p : ProgV) (hw : ProgWf p) (hc : mayP p = true → CallsOk p) (hn : p.fns.length ≤ 100000) (hd : ∀ f ∈ p.fns, (deedsF f).length ≤ 100000) : Fun P 19 [p.av, .ptr o 0] h (fun v h' => CheckR names p v ∧ Old h h') := by
 refine Fun.of (code := a19c) (hP.code rfl) (by rw [hP.pure]; rfl) ?_
 have hnl := T.tab.small
 unfold ProgV.av
 simp (disch := omega) only [go_sem, a19c, a19r0]
 simp (disch := omega) only [go_sem, a19r1]
 refine WO.fun (vs := [p.av, .ptr o 0]) (by simp (disch := omega) only [go_sem]; rfl) (rows18_fun hP T hb p hw hc hn hd) (fun v h2 hv => ?_)
 rcases hv with ⟨hm, rfl, hO⟩ | ⟨hm, i, pos, hi, hj, hbi, rfl, hO⟩ | ⟨hm, hall, v1, R, rfl, B1, HL⟩
 ·simp (disch := omega) only [go_sem]
  simp (disch := omega) only [go_sem, a19r2]
  simp (disch := omega) only [go_sem, a19r3]
  exact ⟨.inl ⟨hm, rfl⟩, hO⟩
 ·simp (disch := omega) only [go_sem]
  simp (disch := omega) only [go_sem, a19r2]
  simp (disch := omega) only [go_sem, a19r3]
  exact ⟨.inr (.inl ⟨hm, i, pos, hi, hj, hbi, rfl⟩), hO⟩
 have hE1 := B1.evs
 have T2 := (T.old (h' := h2) (fun i hi => B1.keep i (by omega))).tab
 have hv1 : 0 < p.fns.length → ∃ o ep, v1 = .hs 1 o ep 0 p.fns.length false ∧ h2.get o = some (.row 1 ep (u64T p.fns.length R)) := fun hp => by
  rcases B1.row with ⟨-, e⟩ | ⟨o, ep, e, hq⟩
  ·have h3 : (usL p.fns.length R).length = 0 := by rw [e]; rfl
   rw [len_usL] at h3; omega
  ·rw [len_usL] at e; rw [flat_us] at hq; exact ⟨o, ep, e, hq⟩
 have hlt : ∀ x, x < p.fns.length → R x < 2 ^ 64 := fun x hx => HL.low.lt x hx
 simp (disch := omega) only [go_sem, hE1.ev, hE1.dat]
 simp (disch := omega) only [go_sem, a19r2, hE1.ev]
 simp (disch := omega) only [go_sem, a19r4, hE1.ev]
 refine Wp_loop (fun z : Nat × Nat => z.2 ≤ p.fns.length ∧ ∀ j, j < z.2 → badA names R p j = none) (fun (t, i) => { fr := [(1, .ptr o 0), (4, .int .i64 0), (5, .int .i64 0), (6, .int .i64 0), (7, v1), (29, slv p.fn false p.fns), (30, .int .i64 (p.fns.length : Nat)), (31, .int .i64 (i : Nat))], st := t, h := h2 }) (fun z => p.fns.length - z.2) (_, 0) rfl ⟨Nat.zero_le _, fun j hj => by simp only at hj; omega⟩ ?_
 rintro ⟨t, i⟩ ⟨i1, i2⟩
 simp only at i1 i2
 by_cases c1 : i < p.fns.length
 ·have w1 : decide (((i : Nat) : Int) < ((p.fns.length : Nat) : Int)) = true := decide_eq_true (by omega)
  have hf := hw.fns.2 _ (slv_get c1)
  have hdf := hd _ (slv_get c1)
  have hdm := deedsF_may hm _ (slv_get c1)
  have hbA : ∀ D, deedsF (p.fns.getD i default) = D → badA names R p i = badD names R D (R i) := fun D e => by rw [badA, e]
  have hps : ∀ D, deedsF (p.fns.getD i default) = D → ∀ n, badA names R p i = some n → ∀ v, v = .tup [.int .i64 (i : Nat), .int .i64 (D.getD n default).pos, .int .i64 20] → CheckR names p v ∧ Old h h2 := fun D e n hn v hv => ⟨.inr (.inr ⟨hm, hall, R, HL, .inl ⟨i, n, c1, i2, hn, by rw [e]; exact hv⟩⟩), B1.old⟩
  simp (disch := omega) only [go_sem, a19l1, a19r5, w1, hE1.ev]
  simp (disch := omega) only [go_sem, a19r6, c1, hE1.ev]
  simp (disch := omega) only [go_sem, a19r7, hE1.ev]
  refine WO.den (k := 0) (vs := [.agg (Enc.cells (p.fns.getD i default))]) (by rw [hP.pure]; rfl) (by simp (disch := omega) only [go_sem]) (deeds31_den hP _ hf hdf) (fun v hv => by obtain ⟨nl, rfl⟩ := hv; exact alone1_slv _ _ _) (fun v hv => ?_)
  obtain ⟨nlD, rfl⟩ := hv
  generalize hD : deedsF (p.fns.getD i default) = D at hdf hdm hbA hps ⊢
  have hbA := hbA D rfl
  have hps := hps D rfl
  simp (disch := omega) only [go_sem, hE1.ev]
  refine Wp_loop (fun z : Nat × Nat => z.2 ≤ D.length ∧ ∀ j, j < z.2 → (!decide (needR names R (D.getD j default) ||| R i = R i)) = false) (fun (t, k) => { fr := [(1, .ptr o 0), (4, .int .i64 0), (5, .int .i64 0), (6, .int .i64 0), (7, v1), (8, .int .i64 (i : Nat)), (29, slv p.fn false p.fns), (30, .int .i64 (p.fns.length : Nat)), (31, .int .i64 (i : Nat)), (37, slv nlD false D), (38, .int .i64 (D.length : Nat)), (39, .int .i64 (k : Nat))], st := t, h := h2 }) (fun z => D.length - z.2) (_, 0) rfl ⟨Nat.zero_le _, fun j hj => by simp only at hj; omega⟩ ?_
  rintro ⟨t2, k⟩ ⟨k1, k2⟩
  simp only at k1 k2
  by_cases c2 : k < D.length
  ·have w2 : decide (((k : Nat) : Int) < ((D.length : Nat) : Int)) = true := decide_eq_true (by omega)
   have hdk := hdm _ (slv_get c2)
   have hnlt := needR_lt (names := names) hnl hlt hdk
   obtain ⟨o1, e1, rfl, hrow⟩ := hv1 (by omega)
   have l2 := ldU (f := R) c1
   simp (disch := omega) only [go_sem, a19l0, a19r8, w2]
   simp (disch := omega) only [go_sem, a19r9, c2]
   simp (disch := omega) only [go_sem, a19r10]
   by_cases c3 : 0 ≤ (D.getD k default).fn
   ·obtain ⟨x, hx⟩ : ∃ x : Nat, (D.getD k default).fn = (x : Nat) := ⟨(D.getD k default).fn.toNat, by omega⟩
    have hxn : x < p.fns.length := by omega
    have hneed : needR names R (D.getD k default) = R x := by rw [needR, if_pos c3, hx]; rfl
    have l1 := ldU (f := R) hxn
    have w3 : decide ((0 : Int) ≤ ((x : Nat) : Int)) = true := decide_eq_true (by omega)
    have w3' : decide (((x : Nat) : Int) ≥ (0 : Int)) = true := decide_eq_true (by omega)
    simp (disch := omega) only [go_sem, a19r11, hx, w3, w3']
    simp (disch := omega) only [go_sem, a19r12, hx, hrow, hxn, Nat.mul_one, l1]
    rw [← hneed]
    generalize hnn : needR names R (D.getD k default) = nn at hnlt
    simp (disch := omega) only [go_sem, a19r16, hrow, c1, Nat.mul_one, l2]
    refine WO.den (k := 0) (vs := [.int .u64 (nn : Nat), .int .u64 (R i : Nat)]) (by rw [hP.pure]; rfl) (by simp (disch := omega) only [go_sem]) (within26_den hP hnlt (hlt i c1)) (fun v hv => by subst hv; rfl) (fun v hv => ?_)
    subst hv
    by_cases c4 : nn ||| R i = R i
    ·rw [decide_eq_true c4]
     simp (disch := omega) only [go_sem]
     simp (disch := omega) only [go_sem, a19r18]
     refine ⟨(_, k + 1), ⟨by simp only; omega, fun j hj => ?_⟩, by simp only; omega, by push_cast; rfl⟩
     simp only at hj
     by_cases e : j = k
     ·rw [e, hnn, decide_eq_true c4]; rfl
     ·exact k2 j (by omega)
    ·rw [decide_eq_false c4]
     simp (disch := omega) only [go_sem]
     simp (disch := omega) only [go_sem, a19d17]
     exact hps k (by rw [hbA]; exact findIdx_at c2 k2 (by rw [hnn, decide_eq_false c4]; rfl)) _ rfl
   ·have w3 : decide ((0 : Int) ≤ (D.getD k default).fn) = false := decide_eq_false c3
    have w3' : decide ((D.getD k default).fn ≥ (0 : Int)) = false := decide_eq_false c3
    simp (disch := omega) only [go_sem, a19r11, w3, w3']
    simp (disch := omega) only [go_sem, a19r13]
    refine WO.fun (vs := [.ptr o 0, strv (D.getD k default).name]) (by simp (disch := omega) only [go_sem]) (find43_fun hP T2 _) (fun v h' hv => ?_)
    obtain ⟨ev, eh⟩ := hv
    rw [ev, eh]
    cases hp : posN names (D.getD k default).name with
    | none =>
     have hneed : needR names R (D.getD k default) = 0 := by rw [needR, if_neg c3, hp]
     simp (disch := omega) only [go_sem, Option.getD_none, Option.isSome_none]
     simp (disch := omega) only [go_sem, a19r14]
     have hz : AV.int .u64 0 = .int .u64 ((needR names R (D.getD k default) : Nat) : Int) := by rw [hneed]; rfl
     rw [hz]
     generalize hnn : needR names R (D.getD k default) = nn at hnlt
     simp (disch := omega) only [go_sem, a19r16, hrow, c1, Nat.mul_one, l2]
     refine WO.den (k := 0) (vs := [.int .u64 (nn : Nat), .int .u64 (R i : Nat)]) (by rw [hP.pure]; rfl) (by simp (disch := omega) only [go_sem]) (within26_den hP hnlt (hlt i c1)) (fun v hv => by subst hv; rfl) (fun v hv => ?_)
     subst hv
     by_cases c4 : nn ||| R i = R i
     ·rw [decide_eq_true c4]
      simp (disch := omega) only [go_sem]
      simp (disch := omega) only [go_sem, a19r18]
      refine ⟨(_, k + 1), ⟨by simp only; omega, fun j hj => ?_⟩, by simp only; omega, by push_cast; rfl⟩
      simp only at hj
      by_cases e : j = k
      ·rw [e, hnn, decide_eq_true c4]; rfl
      ·exact k2 j (by omega)
     ·rw [decide_eq_false c4]
      simp (disch := omega) only [go_sem]
      simp (disch := omega) only [go_sem, a19d17]
      exact hps k (by rw [hbA]; exact findIdx_at c2 k2 (by rw [hnn, decide_eq_false c4]; rfl)) _ rfl
    | some pk =>
     have hneed : needR names R (D.getD k default) = 2 ^ pk := by rw [needR, if_neg c3, hp]
     have hpk := posN_lt hp
     have h1 := bin_shl_u64 (k := pk) (by omega)
     simp (disch := omega) only [go_sem, Option.getD_some, Option.isSome_some]
     simp (disch := omega) only [go_sem, a19r14]
     simp (disch := omega) only [go_sem, a19r15, h1]
     rw [← hneed]
     generalize hnn : needR names R (D.getD k default) = nn at hnlt
     simp (disch := omega) only [go_sem, a19r16, hrow, c1, Nat.mul_one, l2]
     refine WO.den (k := 0) (vs := [.int .u64 (nn : Nat), .int .u64 (R i : Nat)]) (by rw [hP.pure]; rfl) (by simp (disch := omega) only [go_sem]) (within26_den hP hnlt (hlt i c1)) (fun v hv => by subst hv; rfl) (fun v hv => ?_)
     subst hv
     by_cases c4 : nn ||| R i = R i
     ·rw [decide_eq_true c4]
      simp (disch := omega) only [go_sem]
      simp (disch := omega) only [go_sem, a19r18]
      refine ⟨(_, k + 1), ⟨by simp only; omega, fun j hj => ?_⟩, by simp only; omega, by push_cast; rfl⟩
      simp only at hj
      by_cases e : j = k
      ·rw [e, hnn, decide_eq_true c4]; rfl
      ·exact k2 j (by omega)
     ·rw [decide_eq_false c4]
      simp (disch := omega) only [go_sem]
      simp (disch := omega) only [go_sem, a19d17]
      exact hps k (by rw [hbA]; exact findIdx_at c2 k2 (by rw [hnn, decide_eq_false c4]; rfl)) _ rfl
  ·have w2 : decide (((k : Nat) : Int) < ((D.length : Nat) : Int)) = false := decide_eq_false (by omega)
   have e : k = D.length := by omega
   subst e
   simp (disch := omega) only [go_sem, a19l0, a19r8, w2, hE1.ev]
   simp (disch := omega) only [go_sem, a19r19, hE1.ev]
   refine ⟨(_, i + 1), ⟨by simp only; omega, fun j hj => ?_⟩, by simp only; omega, by push_cast; rfl⟩
   simp only at hj
   by_cases e : j = i
   ·rw [e, hbA]; exact findIdx_no k2
   ·exact i2 j (by omega)
 have w1 : decide (((i : Nat) : Int) < ((p.fns.length : Nat) : Int)) = false := decide_eq_false (by omega)
 have e : i = p.fns.length := by omega
 subst e
 simp (disch := omega) only [go_sem, a19l1, a19r5, w1, hE1.ev]
 simp (disch := omega) only [go_sem, a19r20]
 exact ⟨.inr (.inr ⟨hm, hall, R, HL, .inr ⟨i2, rfl⟩⟩), B1.old⟩
end Go.Am.Ef
/- Sets as numbers, the document's way (blazonref13.Bit, blazonref15.Has, or). -/
namespace Go.Am.Ef
open Go.Am
variable {P : Prog}
set_option maxRecDepth 20000
set_option maxHeartbeats 1000000
end Go.Am.Ef
/- Rows that aren't declared hold just what is done along calls: in plain words. -/
namespace Go.Am.Ef
open Go.Am
set_option maxRecDepth 20000
set_option maxHeartbeats 1000000
def netS : List UInt8 := [110, 101, 116]
def logS : List UInt8 := [108, 111, 103]
def nl2 : List NameV := [⟨netS, 0⟩, ⟨logS, 0⟩]
def names2 : List (List UInt8) := [netS, logS]
def m2 (a b : Bool) : Nat := (if a then 1 else 0) ||| (if b then 2 else 0)
def doB (s : List UInt8) (f : FuncV) : Bool := (deedsF f).any (fun d => decide (d.fn < 0) && decide (d.name = s))
def farB (p : ProgV) (s : List UInt8) (a : Nat) : Bool := (List.range p.fns.length).any (fun b => leadS (cR p) p.fns.length a b && doB s (p.fns.getD b default))
end Go.Am.Ef
/- One more effect in a declared row: in plain words. -/
namespace Go.Am.Ef
open Go.Am
set_option maxRecDepth 20000
set_option maxHeartbeats 1000000
theorem sizeFs_rows : ∀ (l : List FuncV) (left : Int), 0 ≤ sizeFs l left → left ≤ 400 → ∀ f ∈ l, f.row.length ≤ 400
 | [], left, h, _ => fun f hf => by simp at hf
 | f :: r, left, h, hle => by
  rw [sizeFs] at h
  split at h
  ·rename_i hl
   have h1 := sizeFs_deeds r _ h
   have h2 : 0 ≤ sizeF f left := h1.2.1
   have h2' := h2
   unfold sizeF at h2
   have h4 := sizeC_deeds f.ret _ h2
   have h5 := sizeAs_deeds f.body (fun c _ => sizeA_deeds c) _ h4.2
   have h6 : sizeF f left ≤ 400 := by
    unfold sizeF; omega
   intro g hg
   rcases List.mem_cons.1 hg with rfl | hg
   ·omega
   ·exact sizeFs_rows r _ h h6 g hg
  ·omega
theorem great_rows {p : ProgV} (h : greatB p = false) : ∀ f ∈ p.fns, f.row.length ≤ 400 := by
 rw [greatB, decide_eq_false_iff_not] at h
 exact sizeFs_rows p.fns _ (Int.not_lt.1 h) (by omega)
def moreF (f : FuncV) : FuncV := { f with rn := false, row := f.row ++ [⟨logS, 0⟩] }
def moreP (p : ProgV) (k : Nat) : ProgV := ⟨p.sn, p.sites, false, p.fns.set k (moreF (p.fns.getD k default))⟩
theorem more_len (p : ProgV) (k : Nat) : (moreP p k).fns.length = p.fns.length := by simp [moreP]
theorem more_get {p : ProgV} {k i : Nat} (hi : i < p.fns.length) : (moreP p k).fns.getD i default = if i = k then moreF (p.fns.getD i default) else p.fns.getD i default := by
 show (p.fns.set k (moreF (p.fns.getD k default))).getD i default = _
 rw [List.getD_eq_getElem?_getD, List.getElem?_set]
 by_cases e : i = k
 ·subst e; simp [hi]
 ·rw [if_neg (Ne.symm e), if_neg e, List.getD_eq_getElem?_getD]
theorem more_deeds {p : ProgV} {k i : Nat} (hi : i < p.fns.length) : deedsF ((moreP p k).fns.getD i default) = deedsF (p.fns.getD i default) := by
 rw [more_get hi]; split <;> rfl
theorem more_all {p : ProgV} {k : Nat} {Q : FuncV → Prop} (h : ∀ f ∈ p.fns, Q f) (hk : k < p.fns.length → Q (moreF (p.fns.getD k default))) : ∀ f ∈ (moreP p k).fns, Q f := by
 intro f hf
 have hf' : f ∈ p.fns.set k (moreF (p.fns.getD k default)) := hf
 obtain ⟨i, hi, rfl⟩ := List.getElem_of_mem hf'
 rw [List.getElem_set]
 split
 ·rename_i e
  subst e
  exact hk (by simpa using hi)
 ·exact h _ (List.getElem_mem _)
theorem more_wf {p : ProgV} {k : Nat} (hw : ProgWf p) (hr : ∀ f ∈ p.fns, f.row.length ≤ 400) : ProgWf (moreP p k) := by
 refine ⟨hw.sites, by rw [more_len]; exact hw.fns.1, more_all hw.fns.2 (fun hk => ?_)⟩
 have h := hw.fns.2 _ (slv_get hk)
 have h2 := hr _ (slv_get hk)
 refine ⟨h.params, h.result, h.pc, ⟨?_, fun x hx => ?_⟩, h.body, h.ret⟩
 ·show Len ((p.fns.getD k default).row ++ [(⟨logS, 0⟩ : NameV)]).length
  rw [List.length_append]
  unfold Len
  simp only [List.length_cons, List.length_nil]; omega
 ·rcases List.mem_append.1 hx with hx | hx
  ·exact h.row.2 x hx
  ·rw [List.mem_singleton.1 hx]
   exact ⟨by unfold Len logS; decide, by decide⟩
theorem more_may {p : ProgV} {k : Nat} : mayP (moreP p k) = mayP p := by
 have hl := more_len p k
 unfold mayP
 rw [hl]
 have hs : (moreP p k).sites = p.sites := rfl
 rw [hs]
 congr 1
 rw [Bool.eq_iff_iff, List.all_eq_true, List.all_eq_true]
 constructor
 ·intro h f hf
  obtain ⟨i, hi, rfl⟩ := List.getElem_of_mem hf
  have h2 := h _ (slv_get (l := (moreP p k).fns) (i := i) (by rw [hl]; exact hi))
  rw [more_get hi] at h2
  rw [List.getD_eq_getElem?_getD, List.getElem?_eq_getElem hi, Option.getD_some] at h2
  split at h2
  ·exact h2
  ·exact h2
 ·intro h
  exact more_all h (fun hk => by have h9 := h _ (slv_get hk); exact h9)
theorem more_calls {p : ProgV} {k : Nat} (h : CallsOk p) : CallsOk (moreP p k) := by
 refine ⟨by rw [more_len]; exact h.big, more_all h.deeds (fun hk => by have h9 := h.deeds _ (slv_get hk); exact h9), ?_⟩
 rw [more_len]
 exact more_all h.lt (fun hk => by have h9 := h.lt _ (slv_get hk); exact h9)
theorem more_cN {p : ProgV} {k i : Nat} (hi : i < p.fns.length) : cN (moreP p k) i = cN p i := by
 unfold cN
 rw [more_get hi]; split <;> rfl
theorem log_some : (posN names2 logS).isSome = true := by decide
theorem more_bad {p : ProgV} {k : Nat} (hall : ∀ f ∈ p.fns, badF names2 f = none) : ∀ f ∈ (moreP p k).fns, badF names2 f = none := by
 refine more_all hall (fun hk => ?_)
 have h := hall _ (slv_get hk)
 unfold badF at h ⊢
 cases h1 : badL names2 (p.fns.getD k default).row with
 | some i => rw [h1] at h; simp at h
 | none =>
  rw [h1] at h
  have h2 : badL names2 (moreF (p.fns.getD k default)).row = none := by
   refine badL_none.2 (fun x hx => ?_)
   rcases List.mem_append.1 hx with hx | hx
   ·exact badL_none.1 h1 x hx
   ·rw [List.mem_singleton.1 hx]; exact log_some
  rw [h2]
  exact h
theorem more_set {f : FuncV} : maskL names2 (moreF f).row = maskL names2 f.row ||| 2 := by
 show maskL names2 (f.row ++ [⟨logS, 0⟩]) = _
 rw [maskL_snoc]
 have : (posN names2 (⟨logS, 0⟩ : NameV).name).getD 0 = 1 := by decide
 rw [this]
theorem more_kept {p : ProgV} {k : Nat} (hm : mayP p = true) (hc : CallsOk p) (hk : k < p.fns.length) (hs : (p.fns.getD k default).some = true) (hall : ∀ f ∈ p.fns, badF names2 f = none) {R R' : Nat → Nat} (HL : Lfp (RDof names2 p) R) (HL' : Lfp (RDof names2 (moreP p k)) R') (hb : badA names2 R p k = none) : badA names2 R' (moreP p k) k = none := by
 have hlen := more_len p k
 have okp : (RDof names2 p).Ok := rd_ok (by decide) hc
 have hS : Sol (RDof names2 (moreP p k)) (fun f => if f = k then R f ||| 2 else if (p.fns.getD f default).some = true then R f else R f ||| 2) := by
  refine ⟨fun f hf h => ?_, fun f hf h => ?_, fun f hf h x hx => ?_⟩
  ·have hf' : f < p.fns.length := by rw [← hlen]; exact hf
   have h' : ((moreP p k).fns.getD f default).some = true := h
   rw [more_get hf'] at h'
   show _ = maskL names2 ((moreP p k).fns.getD f default).row
   rw [more_get hf']
   by_cases e : f = k
   ·subst e
    rw [if_pos rfl, if_pos rfl, more_set]
    congr 1
    exact HL.sol.fix f hf' hs
   ·rw [if_neg e] at h'
    rw [if_neg e, if_neg e, if_pos h']
    exact HL.sol.fix f hf' h'
  ·have hf' : f < p.fns.length := by rw [← hlen]; exact hf
   have h' : ((moreP p k).fns.getD f default).some = false := h
   rw [more_get hf'] at h'
   by_cases e : f = k
   ·subst e
    rw [if_pos rfl] at h'
    have : (p.fns.getD f default).some = false := h'
    rw [hs] at this; simp at this
   ·rw [if_neg e] at h'
    rw [if_neg e, if_neg (by rw [h']; simp)]
    have hd : (RDof names2 (moreP p k)).does f = (RDof names2 p).does f := by
     show (doesM names2 ((moreP p k).fns.getD f default)).n = _
     rw [more_get hf', if_neg e]; rfl
    rw [hd]
    exact sub_trans (HL.sol.does f hf' h') (sub_or_left _ _)
  ·have hf' : f < p.fns.length := by rw [← hlen]; exact hf
   have h' : ((moreP p k).fns.getD f default).some = false := h
   rw [more_get hf'] at h'
   have hx' : x ∈ cN p f := by rw [← more_cN (k := k) hf']; exact hx
   by_cases e : f = k
   ·subst e
    rw [if_pos rfl] at h'
    have : (p.fns.getD f default).some = false := h'
    rw [hs] at this; simp at this
   ·rw [if_neg e] at h'
    have h3 := HL.sol.calls f hf' h' x hx'
    have ef : (if f = k then R f ||| 2 else if (p.fns.getD f default).some = true then R f else R f ||| 2) = R f ||| 2 := by
     rw [if_neg e, if_neg (by rw [h']; simp)]
    show sub (if x = k then R x ||| 2 else if (p.fns.getD x default).some = true then R x else R x ||| 2) (if f = k then R f ||| 2 else if (p.fns.getD f default).some = true then R f else R f ||| 2)
    rw [ef]
    split
    ·exact or_sub (sub_trans h3 (sub_or_left _ _)) (sub_or_right _ _)
    ·split
     ·exact sub_trans h3 (sub_or_left _ _)
     ·exact or_sub (sub_trans h3 (sub_or_left _ _)) (sub_or_right _ _)
 have hle : ∀ f, f < p.fns.length → sub (R' f) (R f ||| 2) := fun f hf => by
  have h1 := HL'.low.below _ hS f (by show f < (moreP p k).fns.length; rw [hlen]; exact hf)
  refine sub_trans h1 ?_
  split
  ·exact sub_refl _
  ·split
   ·exact sub_or_left _ _
   ·exact sub_refl _
 have hRk : R' k = R k ||| 2 := by
  have hk' : k < (RDof names2 (moreP p k)).n := by show k < (moreP p k).fns.length; rw [hlen]; exact hk
  have h1 := HL'.sol.fix k hk' (by show ((moreP p k).fns.getD k default).some = true; rw [more_get hk, if_pos rfl]; exact hs)
  have h2 := HL.sol.fix k hk hs
  rw [h1, h2]
  show maskL names2 ((moreP p k).fns.getD k default).row = _
  rw [more_get hk, if_pos rfl, more_set]; rfl
 have hdm := deedsF_may hm _ (slv_get hk)
 unfold badA badD at hb ⊢
 rw [more_deeds hk]
 rw [List.findIdx?_eq_none_iff] at hb ⊢
 intro d hd
 have h1 := hb d hd
 have h2 := hdm d hd
 simp only [Bool.not_eq_false', decide_eq_true_eq] at h1 ⊢
 have h1' : sub (needR names2 R d) (R k) := h1
 show sub (needR names2 R' d) (R' k)
 rw [hRk]
 unfold needR at h1' ⊢
 split
 ·rename_i h0
  rw [if_pos h0] at h1'
  have hx : d.fn.toNat < p.fns.length := by omega
  exact sub_trans (hle _ hx) (or_sub (sub_trans h1' (sub_or_left _ _)) (sub_or_right _ _))
 ·rename_i h0
  rw [if_neg h0] at h1'
  exact sub_trans h1' (sub_or_left _ _)
end Go.Am.Ef
/- A call whose rows are frozen for good: what is told of function 19 where the program is of the caller's own rows. -/
namespace Go.Am
variable {L : Link}
noncomputable def frzCall (PA : Prog) (n f base : Nat) (args : List AV) (h : Heap) : Option (AV × Heap) :=
 (call PA n f (args.map (frz h base 40)) (kill h base (h.next - base))).bind fun r => some (r.1, { next := r.2.next, m := .leaf })
theorem frzCall_sim {PA : Prog} (hall : AllFn L) (hm : L.P.follows .mixedOrders = true) (hf : ∀ n fn, PA.fn n = some fn → FnSim L n fn) (hp : CallSim L PA.prim) {n f base : Nat} {args : List AV} {h h' : Heap} {v : AV} (hc : frzCall PA n f base args h = some (v, h')) {g : Gh} {w : World} {vals : Array Value} (hh : HeapR L g w h) (ha : ArgsR L g w args vals) :
  Calls L.P (L.fn f) vals w (Back L g w h v h') := by
 unfold frzCall at hc
 rw [Option.bind_eq_some_iff] at hc
 obtain ⟨⟨r1, r2⟩, hr, hc⟩ := hc
 simp only [Option.some.injEq, Prod.mk.injEq] at hc
 obtain ⟨rfl, rfl⟩ := hc
 have k0 := froze_keeps g w h base
 have hh1 := froze_heap (base := base) hh
 have ha1 : ArgsR L (g.froze h base) w (args.map (frz h base 40)) vals := ha.mono' (by rw [List.length_map]) (fun i a a' v h1 h2 hv => by
  rw [List.getElem?_map, h1] at h2
  simp only [Option.map_some, Option.some.injEq] at h2
  subst h2
  exact frz_vr hh 40 _ _ hv)
 refine (am_calls hall hm hf hp hr hh1 ha1).mono ?_
 rintro e w' ⟨g', x, rfl, hv, hh', hr'⟩
 refine ⟨g', x, rfl, hv, ⟨fun o x hx => by simp [Heap.get, Tr.get] at hx, hh'.lt, hh'.fresh⟩, ⟨⟨k0.trans hr'.adv.keeps, fun b hb hn => ?_⟩, hr'.size, fun o ho hn e => ?_, ?_⟩⟩
 ·exact hr'.adv.loc b (by simp only [Gh.froze, hb]) hn
 ·exact hr'.new o (by rw [kill_next]; exact ho) hn e
 ·have := hr'.next
  rw [kill_next] at this
  exact this
end Go.Am
namespace Go.Am.Ef
open Go.Am
def lowF (m : Nat) (x : AV) : Nat := match rowOf x with
 | some i => min m i
 | none => m
def lowOf (h : Heap) : List AV → Nat
 | [.agg [_, .hs _ o _ _ _ _], _] => (match h.get o with
  | some (.row _ _ c) => c.foldl lowF o
  | _ => o)
 | _ => 0
def ownQ : List AV → Bool
 | [.agg [_, .hs _ _ _ _ _ _], _] => true
 | _ => false
open Classical in
noncomputable def primQ : Nat → List AV → Heap → Option (AV × Heap) := fun f args h =>
 if hx : f = 119 ∧ ownQ args = true ∧ ∃ n r, frzCall PE n 19 (lowOf h args) args h = some r then some (Classical.choose (Classical.choose_spec hx.2.2)) else none
theorem primQ_sim : CallSim L primQ := fun f args h v h' hc g w vals hh ha => by
 unfold primQ at hc
 split at hc
 ·rename_i hx
  obtain ⟨n, hs⟩ : ∃ n, frzCall PE n 19 (lowOf h args) args h = some (v, h') := by
   have hs := Classical.choose_spec (Classical.choose_spec hx.2.2)
   rw [Option.some.inj hc] at hs
   exact ⟨_, hs⟩
  have h19 : L.fn f = L.fn 19 := by rw [hx.1]; rfl
  rw [h19]
  exact frzCall_sim (PA := PE) allFn mixed codeE_sim primE_sim hs hh ha
 ·simp at hc
noncomputable def P6 : Prog := { fn := codeE, prim := orP primQ primE, pure := pures }
theorem P6_prim : CallSim L P6.prim := orP_sim primQ_sim primE_sim
theorem P6_ok : EfP P6 := by
 have hq : ∀ f args h, f ≠ 119 → primQ f args h = none := fun f args h hf => by
  unfold primQ
  rw [dif_neg (fun hx => hf hx.1)]
 refine ⟨PE_ok.fn, rfl, rfl, rfl, rfl, fun h => ?_, fun args h r e => ?_, fun args h r e => ?_⟩
 ·show orP primQ primE 9 [] h = _
  unfold orP
  rw [hq 9 _ _ (by decide)]; exact PE_ok.awake h
 ·show orP primQ primE 32 args h = _
  unfold orP
  rw [hq 32 _ _ (by decide)]; exact PE_ok.sort args h r e
 ·show orP primQ primE 61 args h = _
  unfold orP
  rw [hq 61 _ _ (by decide)]; exact PE_ok.sortf args h r e
theorem primQ_fun {args : List AV} {h : Heap} {R : AV → Heap → Prop} (hq : ownQ args = true) (H : Fun PE 19 (args.map (frz h (lowOf h args) 40)) (kill h (lowOf h args) (h.next - lowOf h args)) R) : Fun P6 119 args h (fun v h' => (∃ h'', R v h'') ∧ ∃ k, h' = { next := k, m := .leaf }) := by
 obtain ⟨n, v, h', h1, h2⟩ := H
 have hex : ∃ n r, frzCall PE n 19 (lowOf h args) args h = some r := ⟨n, (v, { next := h'.next, m := .leaf }), by
  unfold frzCall call
  rw [h1]; rfl⟩
 have hc : primQ 119 args h = some (Classical.choose (Classical.choose_spec hex)) := by
  unfold primQ
  rw [dif_pos ⟨rfl, hq, hex⟩]
 have hs := Classical.choose_spec (Classical.choose_spec hex)
 generalize Classical.choose (Classical.choose_spec hex) = r at hc hs
 generalize Classical.choose hex = n2 at hs
 unfold frzCall call at hs
 rw [Option.bind_eq_some_iff] at hs
 obtain ⟨r2, h3, h4⟩ := hs
 have e1 := callP_le (exec_le (Nat.le_max_left n n2)) _ _ _ _ h1
 have e2 := callP_le (exec_le (Nat.le_max_right n n2)) _ _ _ _ h3
 rw [e1] at e2
 obtain rfl := Option.some.inj e2
 obtain rfl := Option.some.inj h4
 refine ⟨0, v, { next := h'.next, m := .leaf }, ?_, ⟨h', h2⟩, h'.next, rfl⟩
 have hf : P6.fn 119 = none := rfl
 have hp : P6.pure 119 = 0 := rfl
 unfold callP
 rw [hp]
 unfold callBy
 rw [hf]
 show orP primQ primE 119 args h = _
 unfold orP
 rw [hc]
end Go.Am.Ef
/- EffectMore: one more effect in the row that a function declares leaves it kept by that function. -/
namespace Go.Am.Ef
open Go.Am
variable {P : Prog}
set_option maxRecDepth 20000
set_option maxHeartbeats 1000000
theorem new2_ok : ∀ j, j < nl2.length → badK nl2 j = none := by
 intro j hj
 have : j = 0 ∨ j = 1 := by simp only [nl2, List.length_cons, List.length_nil] at hj; omega
 rcases this with rfl | rfl <;> decide
theorem Fun.imp {f : Nat} {vs : List AV} {h : Heap} {R Q : AV → Heap → Prop} (H : Fun P f vs h R) (k : ∀ v h', R v h' → Q v h') : Fun P f vs h Q := by
 obtain ⟨n, v, h', a, b⟩ := H
 exact ⟨n, v, h', a, k v h' b⟩
theorem new2_fun (hP : EfP P) (h : Heap) : Fun P 16 [slv false true nl2] h (fun v h' => ∃ o, v = .tup [.ptr o 0, .int .i64 0, .int .i64 0] ∧ TabB h'.next h' o names2 ∧ Old h h') :=
 Fun.imp (new_fun hP h false true nl2 (by simp [nl2])) (fun v h' hv => by
  rcases hv with ⟨k, e, hk, -, hb, -⟩ | ⟨-, hv⟩
  ·rw [new2_ok k hk] at hb; simp at hb
  ·exact hv)
theorem pick25_den (hP : EfP P) {n : Nat} (hn : 0 < n) (hb : n ≤ 100000) (x : Int) : Den P 25 [.int .i64 x, .int .i64 (n : Nat)] (fun v => ∃ k : Nat, k < n ∧ v = .int .i64 (k : Nat)) := by
 refine Den.of (code := a25c) (hP.code rfl) (fun N => ?_)
 have w1 : decide (((n : Nat) : Int) < (1 : Int)) = false := decide_eq_false (by omega)
 have hrem : binA .rem (.int .i64 x) (.int .i64 (n : Nat)) = some (.int .i64 (x.tmod (n : Nat))) := by
  show (bif eqI ((n : Nat) : Int) 0 then none else some (AV.int .i64 (x.tmod (n : Nat)))) = _
  have : eqI ((n : Nat) : Int) 0 = false := by
   cases h : eqI ((n : Nat) : Int) 0 with
   | false => rfl
   | true => rw [eqI_eq] at h; simp at h; omega
  rw [this]; rfl
 have hlt : x.tmod (n : Nat) < (n : Nat) := Int.tmod_lt_of_pos _ (by omega)
 have hgt : -((n : Nat) : Int) < x.tmod (n : Nat) := Int.lt_tmod_of_pos _ (by omega)
 simp (disch := omega) only [go_sem, a25c, a25r0]
 simp (disch := omega) only [go_sem, a25r1, w1]
 generalize x.tmod (n : Nat) = y at hrem hlt hgt
 simp (disch := omega) only [go_sem, a25r3, hrem]
 by_cases c : y < 0
 ·have w2 : decide (y < (0 : Int)) = true := decide_eq_true c
  simp (disch := omega) only [go_sem, a25r4, w2]
  simp (disch := omega) only [go_sem, a25r5]
  simp (disch := omega) only [go_sem, a25r6]
  exact ⟨(y + n).toNat, by omega, by rw [show (((y + n).toNat : Nat) : Int) = y + n by omega]⟩
 ·have w2 : decide (y < (0 : Int)) = false := decide_eq_false c
  simp (disch := omega) only [go_sem, a25r4, w2]
  simp (disch := omega) only [go_sem, a25r6]
  exact ⟨y.toNat, by omega, by rw [show ((y.toNat : Nat) : Int) = y by omega]⟩
structure Raw where
 c : List AV
 h : c.length = 16
instance encRaw : Enc Raw where
 default := ⟨List.replicate 16 .junk, by simp⟩
 sz := 16
 cells x := x.c
 len x := x.h
def rawF (f : FuncV) : Raw := ⟨Enc.cells f, Enc.len f⟩
theorem raw_flat (l : List FuncV) : (l.map rawF).flatMap Enc.cells = l.flatMap Enc.cells := by
 induction l with
 | nil => rfl
 | cons a l ih => rw [List.map_cons, List.flatMap_cons, List.flatMap_cons, ih]; rfl
theorem adds_raw {h : Heap} {y : AV} {l : List FuncV} (H : Adds h y l) : Adds h y (l.map rawF) := by
 obtain ⟨h1, h2⟩ := H
 refine ⟨by rw [List.length_map]; exact h1, ?_⟩
 rw [raw_flat, List.length_map]; exact h2
def cellsQ (f : FuncV) (v : AV) : List AV := [strv f.name, .int .i64 f.file, .int .i64 f.pos, slv f.pn false f.params, .int .i64 f.result, .int .i64 f.pc, .bool f.some, v, slv f.bn false f.body] ++ Enc.cells f.ret
theorem cellsQ_len (f : FuncV) (v : AV) : (cellsQ f v).length = 16 := by
 unfold cellsQ
 rw [List.length_append, Enc.len]; rfl
def rawQ (f : FuncV) (v : AV) : Raw := ⟨cellsQ f v, cellsQ_len f v⟩
theorem frz_code (c : Code) (h : Heap) (b n : Nat) : (Enc.cells c).map (frz h b n) = Enc.cells c := by
 cases c
 rw [cells_Code]
 simp only [List.map_cons, List.map_nil, frz_strv, frz_int, frz_slv]
theorem frz_func (f : FuncV) (h : Heap) (b n : Nat) : (Enc.cells f).map (frz h b n) = Enc.cells f := by
 rw [cells_Func0, List.map_append, frz_code]
 simp only [List.map_cons, List.map_nil, frz_strv, frz_int, frz_bool, frz_slv]
theorem frz_rawQ {h : Heap} {b n : Nat} {f : FuncV} {v : AV} (hr : RowV h v (moreF f).row) (ho : ∀ o, rowOf v = some o → b ≤ o) : (cellsQ f v).map (frz h b (n + 1)) = Enc.cells (moreF f) := by
 have hv : frz h b (n + 1) v = slv false false (moreF f).row := by
  rcases hr with ⟨-, e⟩ | ⟨o, ep, rfl, hg⟩
  ·have := congrArg List.length e; simp [moreF] at this
  ·have := frz_hs (h := h) (o := o) (ep := ep) (off := 0) (len := (moreF f).row.length) (N := b) (n := n) (full := false) hg (by omega) (ho o rfl)
   rw [this]; simp
 rw [cells_Func0]
 unfold cellsQ
 rw [List.map_append, frz_code]
 simp only [List.map_cons, List.map_nil, frz_strv, frz_int, frz_bool, frz_slv, hv]
 rfl
theorem frz_rows {h : Heap} {o ep b n : Nat} {L : List Raw} {l : List FuncV} (hg : h.get o = some (.row 16 ep (L.flatMap Enc.cells))) (hl : L.length = l.length) (hb : b ≤ o) (H : ∀ i, i < l.length → ((L.getD i default).c).map (frz h b n) = Enc.cells (l.getD i default)) : frz h b (n + 1) (.hs 16 o ep 0 L.length false) = slv false false l := by
 have h1 : ¬ o < b := by omega
 have h2 : (0 + L.length) * 16 ≤ (L.flatMap Enc.cells).length := by
  have := flatMap_len L
  have e : Enc.sz Raw = 16 := rfl
  rw [e] at this; omega
 rw [hl] at h2
 have e16 : Enc.sz FuncV = 16 := rfl
 simp only [frz, nblt, h1, decide_false, cond_false, hg, nbeq, nble, h2, decide_true, Bool.and_self, cond_true, slv, Bool.false_and, hl, e16]
 congr 1
 funext i
 by_cases hi : i < l.length
 ·have hiL : i < L.length := by omega
  simp only [hi, decide_true, cond_true, Nat.zero_add]
  have e : ((L.flatMap Enc.cells).drop (i * 16)).take 16 = (L.getD i default).c := by
   have := cellsAtL_flat L i
   rw [cellsAtL_in hiL] at this
   exact this.symm
  rw [e, H i hi, cellsAtL_in hi]
 ·simp only [hi, decide_false, cond_false, cellsAtL, List.getElem?_eq_none (Nat.le_of_not_lt hi)]
theorem low_fold (B : Nat) : ∀ (c : List AV) (m : Nat), B ≤ m → (∀ x ∈ c, ∀ i, rowOf x = some i → B ≤ i) → B ≤ c.foldl lowF m ∧ c.foldl lowF m ≤ m ∧ ∀ x ∈ c, ∀ i, rowOf x = some i → c.foldl lowF m ≤ i
 | [], m, h, _ => ⟨h, Nat.le_refl _, fun x hx => by simp at hx⟩
 | x :: c, m, h, hx => by
  rw [List.foldl_cons]
  have hxx := hx x List.mem_cons_self
  have key : ∀ m', B ≤ m' → m' ≤ m → (∀ i, rowOf x = some i → m' ≤ i) → B ≤ c.foldl lowF m' ∧ c.foldl lowF m' ≤ m ∧ ∀ y ∈ x :: c, ∀ i, rowOf y = some i → c.foldl lowF m' ≤ i := fun m' h1 h2 h3 => by
   obtain ⟨a1, a2, a3⟩ := low_fold B c m' h1 (fun y hy => hx y (List.mem_cons_of_mem _ hy))
   refine ⟨a1, Nat.le_trans a2 h2, fun y hy i e => ?_⟩
   rcases List.mem_cons.1 hy with rfl | hy
   ·exact Nat.le_trans a2 (h3 i e)
   ·exact a3 y hy i e
  unfold lowF
  cases e : rowOf x with
  | none => exact key m h (Nat.le_refl _) (fun i hi => by rw [e] at hi; simp at hi)
  | some i =>
   have := hxx i e
   exact key (min m i) (by omega) (by omega) (fun j hj => by rw [e] at hj; obtain rfl := Option.some.inj hj; omega)
theorem tab_kill {b base : Nat} {h : Heap} {o n : Nat} {names : List (List UInt8)} (T : TabB b h o names) (hb : b ≤ base) : TabB b (kill h base n) o names := T.old (fun i hi => by
 rw [kill_get, if_neg (by omega)])
end Go.Am.Ef
/- EffectMore: the law's walk. -/
namespace Go.Am.Ef
open Go.Am
variable {P PE : Prog}
set_option maxRecDepth 20000
set_option maxHeartbeats 1000000
@[go_sem] theorem sliceA_func (fr : Fr) (nl full : Bool) (l : List FuncV) (lo hi : Option Opd) : sliceA fr (some 16) (slv nl full l) lo hi none = slL nl full l (bound fr lo 0) (bound fr hi l.length) := sliceA_slv fr 16 nl full l lo hi rfl
def a6t : ACode := (.seq (.reg 3 a6r9 [2, 5, 11, 12]) (.seq (.reg 2 a6r10 [2, 5, 11, 12, 13]) (.seq (.reg 1 a6r11 [2, 5, 11, 13]) (.seq (.dreg 1 a6d12 [2, 5, 11, 14]) (.seq (.reg 0 a6r13 [2, 11, 15, 17]) (.seq (.seq (.reg 0 a6r14 [11, 15, 17, 119]) (.cond (.s 119) (.seq (.reg 0 a6r15 [4]) .ret) .skip)) (.seq (.reg 0 a6r16 [4]) .ret)))))))
theorem a6c_eq : a6c = (.seq (.reg 0 a6r0 [1, 2]) (.seq (.seq (.reg 0 a6r1 [1, 2, 30]) (.cond (.s 30) (.seq (.reg 0 a6r2 [4]) .ret) .skip)) (.seq (.reg 0 a6r3 [1, 2, 5]) (.seq (.reg 0 a6r4 [1, 2, 5, 8, 10]) (.seq (.reg 0 a6r5 [2, 5, 8, 10, 11]) (.seq (.reg 0 a6r6 [2, 5, 8, 10, 11, 12]) (.seq (.seq (.reg 0 a6r7 [2, 5, 11, 12, 77]) (.cond (.s 77) (.seq (.reg 0 a6r8 [4]) .ret) .skip)) a6t))))))) := rfl
structure MoreC (p : ProgV) (n : Nat) : Prop where
 wf : ProgWf p
 may : mayP p = true
 big : p.fns.length ≤ 400
 rows : ∀ f ∈ p.fns, f.row.length ≤ 400
 d : ∀ f ∈ p.fns, (deedsF f).length ≤ 100000
 ok : CallsOk p
 lt : n < p.fns.length
 some : (p.fns.getD n default).some = true
 all : ∀ f ∈ p.fns, badF names2 f = none
 kept : ∃ R, Lfp (RDof names2 p) R ∧ badA names2 R p n = none
theorem WD_storeL {base st0 : Nat} {all : List DItem} {live ch bf rs : List Nat} {Q : AExit → St → Prop} {s : St} {ix kd n i t : Nat} {r : List DItem} {x v : Opd} {c c' : List AV} {val : AV} (hx : x.ev (keep s.fr rs) = some (.lptr i t 0)) (hv : v.dat (keep s.fr rs) = some val) (hn : val.cellsOf.length = n) (hg : fget (keep s.fr rs) i = some (.lbox t c)) (ho : over c 0 val.cellsOf = some c')
  (hl : looks base st0 all { s with fr := (i, .lbox t c') :: s.fr } ch = true) (h : WD P base st0 all r live { s with fr := (i, .lbox t c') :: s.fr } Q) : WD P base st0 all (⟨⟨none, .store n x v, none⟩, ix, rs, kd, ch, bf⟩ :: r) live s Q := by
 have hsame : SameFr ((i, .lbox t c') :: (keep s.fr rs ++ s.fr)) ((i, .lbox t c') :: s.fr) := fun j => by
  simp only [fget]
  cases Nat.beq j i with
  | true => rfl
  | false => exact fget_keep_app s.fr rs j
 obtain ⟨m, s2, h3, h4⟩ := WD.same (fun i => (hsame i).symm) h
 refine ⟨m, s2, ?_, h4⟩
 have e2 := hl
 rw [← looks_same hsame] at e2
 have e1 : aop base none (.store n x v) (sees st0 ⟨⟨none, .store n x v, none⟩, ix, rs, kd, ch, bf⟩ s) = some (undefA, { fr := (i, .lbox t c') :: keep s.fr rs, st := st0, h := s.h }) := by
  rw [W_store]
  simp only [sees, hx, hv, stA_some, nbeq, hn, decide_true, cond_true, wr, hg, ho, Option.bind_some, fset]
 simp only [dops, dstep, wantedA, Option.bind_some, cond_true, oper, e1, setD]
 show (bif looks base st0 all { fr := (i, .lbox t c') :: (keep s.fr rs ++ s.fr), st := s.st, h := s.h } ch then _ else _) = _
 rw [e2, cond_true]
 exact h3
theorem rowOf_slv {α : Type} [Enc α] (nl full : Bool) (l : List α) : rowOf (slv nl full l) = none := by
 rcases slv_cases nl full l with ⟨e, -⟩ | e <;> rw [e] <;> rfl
theorem rowOf_code (c : Code) : ∀ x ∈ Enc.cells c, rowOf x = none := by
 cases c
 intro x hx
 rw [cells_Code] at hx
 simp only [List.mem_cons, List.not_mem_nil, or_false] at hx
 rcases hx with rfl | rfl | rfl | rfl | rfl | rfl | rfl
 all_goals first | rfl | exact rowOf_slv _ _ _
theorem rowOf_cellsQ {f : FuncV} {v : AV} : ∀ x ∈ cellsQ f v, rowOf x = none ∨ x = v := by
 intro x hx
 rcases List.mem_append.1 hx with hx | hx
 ·simp only [List.mem_cons, List.not_mem_nil, or_false] at hx
  rcases hx with rfl | rfl | rfl | rfl | rfl | rfl | rfl | rfl | rfl
  all_goals first | exact .inr rfl | exact .inl rfl | exact .inl (rowOf_slv _ _ _)
 ·exact .inl (rowOf_code _ x hx)
theorem rowOf_func (f : FuncV) : ∀ x ∈ Enc.cells f, rowOf x = none := by
 intro x hx
 have : Enc.cells f = cellsQ f (slv f.rn false f.row) := rfl
 rw [this] at hx
 rcases rowOf_cellsQ x hx with h | rfl
 ·exact h
 ·exact rowOf_slv _ _ _
def moreL (p : ProgV) (k : Nat) (v : AV) : List Raw := (p.fns.take k).map rawF ++ [rawQ (p.fns.getD k default) v] ++ (p.fns.drop (k + 1)).map rawF
theorem moreL_len {p : ProgV} {k : Nat} (hk : k < p.fns.length) (v : AV) : (moreL p k v).length = p.fns.length := by
 unfold moreL
 simp only [List.length_append, List.length_map, List.length_take, List.length_drop, List.length_cons, List.length_nil]; omega
theorem moreL_get {p : ProgV} {k i : Nat} (hk : k < p.fns.length) (hi : i < p.fns.length) (v : AV) : (moreL p k v).getD i default = if i = k then rawQ (p.fns.getD k default) v else rawF (p.fns.getD i default) := by
 unfold moreL
 have hlt : ((p.fns.take k).map rawF).length = k := by rw [List.length_map, List.length_take]; omega
 rw [List.getD_eq_getElem?_getD, List.append_assoc]
 by_cases h1 : i < k
 ·rw [if_neg (by omega), List.getElem?_append_left (by omega), List.getElem?_map, List.getElem?_take, if_pos h1, List.getD_eq_getElem?_getD, List.getElem?_eq_getElem hi]; rfl
 ·rw [List.getElem?_append_right (by omega), hlt]
  by_cases h2 : i = k
  ·subst h2
   rw [if_pos rfl, Nat.sub_self]; rfl
  ·rw [if_neg h2, show i - k = (i - (k + 1)) + 1 by omega]
   show ((List.map rawF (List.drop (k + 1) p.fns))[i - (k + 1)]?).getD default = _
   rw [List.getElem?_map, List.getElem?_drop, show k + 1 + (i - (k + 1)) = i by omega, List.getD_eq_getElem?_getD, List.getElem?_eq_getElem hi]; rfl
theorem moreL_rows {p : ProgV} {k : Nat} {v x : AV} (hx : x ∈ (moreL p k v).flatMap Enc.cells) : rowOf x = none ∨ x = v := by
 obtain ⟨r, hr, hx⟩ := List.mem_flatMap.1 hx
 unfold moreL at hr
 rcases List.mem_append.1 hr with hr | hr
 ·rcases List.mem_append.1 hr with hr | hr
  ·obtain ⟨f, -, rfl⟩ := List.mem_map.1 hr
   exact .inl (rowOf_func f x hx)
  ·rw [List.mem_singleton.1 hr] at hx
   exact rowOf_cellsQ x hx
 ·obtain ⟨f, -, rfl⟩ := List.mem_map.1 hr
  exact .inl (rowOf_func f x hx)
theorem more_call (hQ : ∀ (args : List AV) (h : Heap) (R : AV → Heap → Prop), ownQ args = true → Fun PE 19 (args.map (frz h (lowOf h args) 40)) (kill h (lowOf h args) (h.next - lowOf h args)) R → Fun P 119 args h (fun v h' => (∃ h'', R v h'') ∧ ∃ k, h' = { next := k, m := .leaf })) (hE : EfP PE) {p : ProgV} {k : Nat} (C : MoreC p k) {o b : Nat} {h0 h : Heap} {v v5 : AV} (T : TabB b h o names2) (hb : b ≤ h0.next) (hv : RowV h v (moreF (p.fns.getD k default)).row) (hvo : ∀ o, rowOf v = some o → h0.next ≤ o) (B5 : RowV h v5 (moreL p k v)) (h5o : ∀ o, rowOf v5 = some o → h0.next ≤ o) (hle : h0.next ≤ h.next) :
  Fun P 119 [.agg [slv p.sn false p.sites, v5], .ptr o 0] h (fun v h' => CheckR names2 (moreP p k) v) := by
 have hk := C.lt
 rcases B5 with ⟨-, e⟩ | ⟨q, ep, rfl, hg⟩
 ·have := congrArg List.length e
  rw [moreL_len hk] at this
  simp only [List.length_nil] at this; omega
 have hlow : lowOf h [.agg [slv p.sn false p.sites, .hs 16 q ep 0 (moreL p k v).length false], .ptr o 0] = ((moreL p k v).flatMap Enc.cells).foldl lowF q := by
  simp only [lowOf, hg]
 obtain ⟨l1, l2, l3⟩ := low_fold h0.next ((moreL p k v).flatMap Enc.cells) q (h5o q rfl) (fun x hx i e => by
  rcases moreL_rows hx with h1 | rfl
  ·rw [h1] at e; simp at e
  ·exact hvo i e)
 rw [← hlow] at l1 l2 l3
 refine Fun.imp (hQ _ h (fun v _ => CheckR names2 (moreP p k) v) rfl ?_) (fun v h' hv => hv.1.elim (fun _ h => h))
 generalize hL : lowOf h _ = low at l1 l2 l3
 have hvin : v ∈ (moreL p k v).flatMap Enc.cells := by
  refine List.mem_flatMap.2 ⟨rawQ (p.fns.getD k default) v, by unfold moreL; simp, ?_⟩
  show v ∈ cellsQ _ v
  unfold cellsQ; simp
 have e1 : frz h low 39 (.hs 16 q ep 0 (moreL p k v).length false) = slv false false (moreP p k).fns := by
  refine frz_rows (n := 38) (L := moreL p k v) hg (by rw [moreL_len hk, more_len]) l2 (fun i hi => ?_)
  rw [more_len] at hi
  rw [moreL_get hk hi, more_get hi]
  by_cases h1 : i = k
  ·subst h1
   rw [if_pos rfl, if_pos rfl]
   exact frz_rawQ (n := 37) hv (fun i e => l3 _ hvin i e)
  ·rw [if_neg h1, if_neg h1]
   exact frz_func _ _ _ _
 have e2 : [AV.agg [slv p.sn false p.sites, .hs (Enc.sz Raw) q ep 0 (moreL p k v).length false], .ptr o 0].map (frz h low 40) = [(moreP p k).av, .ptr o 0] := by
  show [AV.agg [frz h low 39 (slv p.sn false p.sites), frz h low 39 (.hs 16 q ep 0 (moreL p k v).length false)], frz h low 40 (.ptr o 0)] = _
  rw [e1, frz_slv]; rfl
 rw [e2]
 refine Fun.imp (check19_fun hE (tab_kill T (Nat.le_trans hb l1)) (by rw [kill_next]; omega) (moreP p k) (more_wf C.wf C.rows) (fun _ => more_calls C.ok) (by rw [more_len]; have := C.big; omega) (more_all C.d (fun hk => by have h9 := C.d _ (slv_get hk); exact h9))) (fun v h' hv => hv.1)
theorem over0_same : ∀ (a b : List AV), a.length = b.length → over0 a b = some b
 | [], [], _ => rfl
 | x :: a, [], h => by simp at h
 | [], y :: b, h => by simp at h
 | x :: a, y :: b, h => by
  rw [over0, over0_same a b (by simpa using h)]; rfl
def a6u : ACode := (.seq (.seq (.reg 0 a6r14 [11, 15, 17, 119]) (.cond (.s 119) (.seq (.reg 0 a6r15 [4]) .ret) .skip)) (.seq (.reg 0 a6r16 [4]) .ret))
theorem more_tail (hP : EfP P) {p : ProgV} {k : Nat} (C : MoreC p k) {a d : Int} (ho : d = 0 ∨ (d = 20 ∧ a ≠ (k : Int))) {t : Nat} {h : Heap} {K : AExit → St → Prop} (hK : ∀ t h', K .ret { fr := [(4, .bool true)], st := t, h := h' }) :
  Wp P a6u { fr := [(2, .lbox 0 [slv p.sn false p.sites, slv p.fn false p.fns]), (11, .int .i64 (k : Nat)), (15, .int .i64 a), (17, .int .i64 d)], st := t, h := h } K := by
 simp (disch := omega) only [go_sem, a6u, a6r14]
 refine WO.den (k := 0) (vs := [p.av, .int .i64 (k : Nat), .int .i64 (k : Nat)]) (by rw [hP.pure]; rfl) (by simp (disch := omega) only [go_sem]; rfl) (refcalls_den hP p C.wf C.d C.lt _) (fun v hv => by subst hv; rfl) (fun v hv => ?_)
 subst hv
 cases anyFn (deedsF (p.fns.getD k default)) (k : Nat) with
 | true =>
  simp (disch := omega) only [go_sem]
  simp (disch := omega) only [go_sem, a6r15]
  refine WO.den (k := 0) (vs := []) (by rw [hP.pure]; rfl) (by simp (disch := omega) only [go_sem]) hP.awake_den (fun v hv => by subst hv; rfl) (fun v hv => ?_)
  subst hv
  simp (disch := omega) only [go_sem]
  exact hK _ _
 | false =>
  rcases ho with rfl | ⟨rfl, ho⟩
  ·simp (disch := omega) only [go_sem]
   simp (disch := omega) only [go_sem, a6r16]
   refine WO.den (k := 0) (vs := []) (by rw [hP.pure]; rfl) (by simp (disch := omega) only [go_sem]) hP.awake_den (fun v hv => by subst hv; rfl) (fun v hv => ?_)
   subst hv
   simp (disch := omega) only [go_sem]
   exact hK _ _
  ·have w : decide (¬ a = (k : Int)) = true := decide_eq_true ho
   simp (disch := omega) only [go_sem]
   simp (disch := omega) only [go_sem, a6r16, w]
   refine WO.den (k := 0) (vs := []) (by rw [hP.pure]; rfl) (by simp (disch := omega) only [go_sem]) hP.awake_den (fun v hv => by subst hv; rfl) (fun v hv => ?_)
   subst hv
   simp (disch := omega) only [go_sem]
   exact hK _ _
theorem more_rest (hP : EfP P) (hE : EfP PE) (hQ : ∀ (args : List AV) (h : Heap) (R : AV → Heap → Prop), ownQ args = true → Fun PE 19 (args.map (frz h (lowOf h args) 40)) (kill h (lowOf h args) (h.next - lowOf h args)) R → Fun P 119 args h (fun v h' => (∃ h'', R v h'') ∧ ∃ k, h' = { next := k, m := .leaf })) {p : ProgV} {k : Nat} (C : MoreC p k) {o b t t2 : Nat} {h : Heap} (T : TabB b h o names2) (hb : b ≤ h.next) {K : AExit → St → Prop} (hK : ∀ t h', K .ret { fr := [(4, .bool true)], st := t, h := h' }) :
  Wp P a6t { fr := [(2, .lbox 0 [slv p.sn false p.sites, slv p.fn false p.fns]), (5, .ptr o 0), (11, .int .i64 (k : Nat)), (12, .lbox t2 (Enc.cells (p.fns.getD k default))), (77, .bool false)], st := t, h := h } K := by
 have hk := C.lt
 have hrl := C.rows _ (slv_get hk)
 have hbig := C.big
 have B0 : Bld (α := NameV) h ((h.reserve 3).put h.next (.row 2 0 [])) (.hs 2 h.next 0 0 0 false) [] := ⟨.inr ⟨h.next, 0, rfl, get_put_same _ _ _⟩, fun o e => by
  obtain rfl := Option.some.inj e
  exact ⟨Nat.le_refl _, by show h.next < h.next + 3; omega⟩, by show h.next ≤ h.next + 3; omega, fun o ho => by rw [get_put_ne _ _ _ _ (by omega)]; rfl⟩
 generalize hf : p.fns.getD k default = f at hrl
 simp (disch := omega) only [go_sem, a6t, a6r9, cells_Func0]
 refine stepBld2 B0 ⟨by omega, by show h.next + 1 < h.next + 3; omega⟩ (adds_slv _ _ _ f.row) rfl (by unfold two47; simp only [List.length_nil]; omega) (fun v1 h1 B1 n1 E1 => ?_)
 have n1' : h1.next = h.next + 3 := n1
 rw [List.nil_append] at B1
 simp (disch := omega) only [go_sem, E1.ev, E1.dat, E1.cel, E1.tag]
 refine stepBld2 B1 ⟨by omega, by omega⟩ (adds_one h1 (⟨logS, 0⟩ : NameV) _ _ rfl) rfl (by unfold two47; simp only [List.length_cons, List.length_nil]; omega) (fun v2 h2 B2 n2 E2 => ?_)
 simp (disch := omega) only [go_sem, E2.ev, E2.dat, E2.cel, E2.tag]
 have n2' : h2.next = h.next + 3 := by omega
 have hQf : (moreF f).row = f.row ++ [⟨logS, 0⟩] := rfl
 rw [← hQf] at B2
 change WO P h2.next a6r10 { fr := [(2, .lbox 0 [slv p.sn false p.sites, slv p.fn false p.fns]), (5, .ptr o 0), (11, .int .i64 (k : Nat)), (12, .lbox t2 (cellsQ f v2))], st := t, h := h2.reserve 2 } _
 have hkl : ((k : Nat) : Int).toNat = k := rfl
 have C0 : Bld (α := Raw) h2 ((h2.reserve 2).put h2.next (.row 16 0 [])) (.hs 16 h2.next 0 0 0 false) [] := ⟨.inr ⟨h2.next, 0, rfl, get_put_same _ _ _⟩, fun o e => by
  obtain rfl := Option.some.inj e
  exact ⟨Nat.le_refl _, by show h2.next < h2.next + 2; omega⟩, by show h2.next ≤ h2.next + 2; omega, fun o ho => by rw [get_put_ne _ _ _ _ (by omega)]; rfl⟩
 simp (disch := omega) only [go_sem, a6r10]
 rw [List.drop_zero]
 refine stepBld2 C0 ⟨by omega, by show h2.next + 1 < h2.next + 2; omega⟩ (adds_raw (adds_slv _ _ _ (p.fns.take k))) rfl (by unfold two47; simp only [List.length_nil, List.length_map, List.length_take]; omega) (fun v3 h3 B3 n3 E3 => ?_)
 have n3' : h3.next = h.next + 5 := by have : h3.next = h2.next + 2 := n3; omega
 rw [List.nil_append] at B3
 simp (disch := omega) only [go_sem, E3.ev, E3.dat, E3.cel, E3.tag]
 have htk : takeN 16 (cellsQ f v2) = some (cellsQ f v2) := by
  have := takeN_all (cellsQ f v2)
  rw [cellsQ_len] at this; exact this
 simp (disch := omega) only [go_sem, a6r11, E3.ev, E3.dat, E3.cel, E3.tag, htk]
 have hl16 := cellsQ_len f v2
 rw [over0_same _ (cellsQ f v2) (by rw [hl16]; rfl)]
 simp (disch := omega) only [go_sem, hl16, E3.ev, E3.dat, E3.cel, E3.tag]
 refine stepBld (k := 1) (α := Raw) B3 (by omega) (adds_one (α := Raw) _ (rawQ f v2) _ true rfl) rfl (by unfold two47; simp only [List.length_cons, List.length_nil, List.length_map, List.length_take]; omega) (fun v4 h4 B4 n4 E4 => ?_)
 have n4' : h4.next = h.next + 6 := by omega
 simp (disch := omega) only [go_sem, E4.ev, E4.dat, E4.cel, E4.tag]
 simp (disch := omega) only [go_sem, a6d12, E4.ev, E4.dat, E4.cel, E4.tag]
 refine dsBld (α := Raw) (B4.res 1) ⟨by omega, by rw [reserve_next]; omega⟩ (adds_raw (adds_slv _ _ _ ((p.fns.take p.fns.length).drop ((k : Int) + 1).toNat))) rfl (by unfold two47; simp only [List.length_cons, List.length_nil, List.length_append, List.length_map, List.length_take, List.length_drop]; omega) (fun v5 h5 B5 n5 E5 => ⟨?_, ?_⟩)
 ·simp (disch := omega) only [go_sem, E5.ev]
  simp [lookE, eqAV, eqAV.eqAVs]
 have n5' : h5.next = h.next + 7 := by rw [n5, reserve_next]; omega
 have eL : (p.fns.take k).map rawF ++ [rawQ f v2] ++ ((p.fns.take p.fns.length).drop ((k : Int) + 1).toNat).map rawF = moreL p k v2 := by
  unfold moreL
  rw [hf, List.take_length, show ((k : Int) + 1).toNat = k + 1 by omega]
 rw [eL] at B5
 simp (disch := omega) only [go_sem, E5.ev, E5.dat, E5.cel, E5.tag]
 refine WD_storeL (i := 14) (t := t) (c := [.nils, .nils]) (c' := [slv p.sn false p.sites, v5]) (val := .agg [slv p.sn false p.sites, v5]) (by simp (disch := omega) only [go_sem]) (by simp (disch := omega) only [go_sem]) rfl (by simp (disch := omega) only [go_sem]) rfl (by simp (disch := omega) only [go_sem]) ?_
 simp (disch := omega) only [go_sem, E5.ev, E5.dat, E5.cel, E5.tag]
 simp (disch := omega) only [go_sem, a6r13, E5.ev, E5.dat, E5.cel, E5.tag]
 have B25 := B2.grow (h' := h5) (by omega) (fun o ho => by rw [B5.keep o ho])
 refine WO.fun (vs := [.agg [slv p.sn false p.sites, v5], .ptr o 0]) (by simp (disch := omega) only [go_sem, E5.ev, E5.dat, E5.cel, E5.tag]) (more_call hQ hE C (T.old (h' := h5) (fun i hi => by rw [B25.keep i (by omega)])) hb (by rw [hf]; exact B25.row) (fun o ho => (B25.own o ho).1) B5.row (fun o ho => Nat.le_trans B2.le (B5.own o ho).1) B25.le) (fun v h6 hv => ?_)
 rcases hv with ⟨hm', -⟩ | ⟨-, i, pos, hi, hj, hbi, rfl⟩ | ⟨-, hall, R', HL', ⟨i, n, hi, hj, hbi, rfl⟩ | ⟨hj, rfl⟩⟩
 ·rw [more_may, C.may] at hm'; simp at hm'
 ·rw [more_bad C.all _ (slv_get hi)] at hbi; simp at hbi
 ·obtain ⟨R, HL, hb0⟩ := C.kept
  have hkk := more_kept C.may C.ok hk C.some C.all HL HL' hb0
  have hne : ((i : Nat) : Int) ≠ (k : Int) := fun e => by
   obtain rfl := Int.ofNat.inj e
   rw [hkk] at hbi; simp at hbi
  simp (disch := omega) only [go_sem]
  have ht := more_tail hP C (a := (i : Nat)) (t := t + 1) (h := h6) (.inr ⟨rfl, hne⟩) hK
  simp (disch := omega) only [go_sem, a6u] at ht
  exact ht
 ·simp (disch := omega) only [go_sem]
  have ht := more_tail hP C (a := 0) (t := t + 1) (h := h6) (.inl rfl) hK
  simp (disch := omega) only [go_sem, a6u] at ht
  exact ht
theorem effectMore_fun (p : ProgV) (hw : ProgWf p) (x : Int) (h : Heap) : Fun P6 6 [p.av, .int .i64 x] h (fun v _ => v = .bool true) := by
 have hP := P6_ok
 refine Fun.of (code := a6c) (hP.code rfl) (by rw [hP.pure]; rfl) ?_
 unfold ProgV.av
 rw [a6c_eq]
 simp (disch := omega) only [go_sem, a6r0]
 simp (disch := omega) only [go_sem, a6r1]
 refine WO.den (k := 0) (vs := [p.av, .int .i64 400]) (by rw [hP.pure]; rfl) (by simp (disch := omega) only [go_sem]; rfl) (great_den hP p hw) (fun v hv => by subst hv; rfl) (fun v hv => ?_)
 subst hv
 cases hg : greatB p with
 | true =>
  simp (disch := omega) only [go_sem]
  simp (disch := omega) only [go_sem, a6r2]
  refine WO.den (k := 0) (vs := []) (by rw [hP.pure]; rfl) (by simp (disch := omega) only [go_sem]) hP.awake_den (fun v hv => by subst hv; rfl) (fun v hv => ?_)
  subst hv
  simp (disch := omega) only [go_sem]
 | false =>
 obtain ⟨g1, g2, g3⟩ := great_bnd hg
 have hd : ∀ f ∈ p.fns, (deedsF f).length ≤ 100000 := fun f hf => by have := g3 f hf; omega
 simp (disch := omega) only [go_sem]
 refine WO.den (k := 0) (vs := [p.av]) (by rw [hP.pure]; rfl) (by simp (disch := omega) only [go_sem]; rfl) (may_den hP p hw) (fun v hv => by subst hv; rfl) (fun v hv => ?_)
 subst hv
 cases hm : mayP p with
 | false =>
  simp (disch := omega) only [go_sem]
  simp (disch := omega) only [go_sem, a6r2]
  refine WO.den (k := 0) (vs := []) (by rw [hP.pure]; rfl) (by simp (disch := omega) only [go_sem]) hP.awake_den (fun v hv => by subst hv; rfl) (fun v hv => ?_)
  subst hv
  simp (disch := omega) only [go_sem]
 | true =>
 have hc := calls_ok hm hg
 by_cases hN : p.fns.length = 0
 ·have w0 : decide (((p.fns.length : Nat) : Int) = (0 : Int)) = true := decide_eq_true (by omega)
  simp (disch := omega) only [go_sem, w0]
  simp (disch := omega) only [go_sem, a6r2]
  refine WO.den (k := 0) (vs := []) (by rw [hP.pure]; rfl) (by simp (disch := omega) only [go_sem]) hP.awake_den (fun v hv => by subst hv; rfl) (fun v hv => ?_)
  subst hv
  simp (disch := omega) only [go_sem]
 have w0 : decide (((p.fns.length : Nat) : Int) = (0 : Int)) = false := decide_eq_false (by omega)
 simp (disch := omega) only [go_sem, w0]
 simp (disch := omega) only [go_sem, a6r3]
 refine WO.fun (vs := [slv false true nl2]) (by simp (disch := omega) only [go_sem]; exact congrArg (fun x => some [x]) (lits_slv nl2 true)) (new2_fun hP h) (fun v h1 hv => ?_)
 obtain ⟨o, rfl, T, hO1⟩ := hv
 simp (disch := omega) only [go_sem]
 simp (disch := omega) only [go_sem, a6r4]
 refine WO.fun (vs := [p.av, .ptr o 0]) (by simp (disch := omega) only [go_sem]; rfl) (check19_fun hP T (Nat.le_refl _) p hw (fun _ => hc) (by omega) hd) (fun v h2 hv => ?_)
 obtain ⟨hck, hO2⟩ := hv
 have T2 := T.old (h' := h2) (fun i hi => hO2.keep i hi)
 have hform : ∃ a b c : Int, v = .tup [.int .i64 a, .int .i64 b, .int .i64 c] := by
  rcases hck with ⟨-, rfl⟩ | ⟨-, i, pos, -, -, -, rfl⟩ | ⟨-, -, R, -, ⟨i, n, -, -, -, rfl⟩ | ⟨-, rfl⟩⟩
  all_goals exact ⟨_, _, _, rfl⟩
 obtain ⟨ia, ib, ic, rfl⟩ := hform
 simp (disch := omega) only [go_sem]
 simp (disch := omega) only [go_sem, a6r5]
 refine WO.den (k := 0) (vs := [.int .i64 x, .int .i64 (p.fns.length : Nat)]) (by rw [hP.pure]; rfl) (by simp (disch := omega) only [go_sem]) (pick25_den hP (by omega) (by omega) x) (fun v hv => by obtain ⟨k, -, rfl⟩ := hv; rfl) (fun v hv => ?_)
 obtain ⟨k, hk, rfl⟩ := hv
 simp (disch := omega) only [go_sem]
 simp (disch := omega) only [go_sem, a6r6, hk]
 have hinj : ∀ a b c : Int, AV.tup [.int .i64 ia, .int .i64 ib, .int .i64 ic] = .tup [.int .i64 a, .int .i64 b, .int .i64 c] → ia = a ∧ ib = b ∧ ic = c := fun a b c e => by simpa using e
 rcases hck with ⟨hm', -⟩ | ⟨-, i, pos, hi, hj, hbi, e⟩ | ⟨-, hall, R, HL, ⟨i, n, hi, hj, hbi, e⟩ | ⟨hj, e⟩⟩
 ·rw [hm] at hm'; simp at hm'
 ·obtain ⟨rfl, rfl, rfl⟩ := hinj _ _ _ e
  simp (disch := omega) only [go_sem, a6r7]
  simp (disch := omega) only [go_sem, a6r8]
  refine WO.den (k := 0) (vs := []) (by rw [hP.pure]; rfl) (by simp (disch := omega) only [go_sem]) hP.awake_den (fun v hv => by subst hv; rfl) (fun v hv => ?_)
  subst hv
  simp (disch := omega) only [go_sem]
 ·obtain ⟨rfl, rfl, rfl⟩ := hinj _ _ _ e
  by_cases hik : i ≤ k
  ·have w1 : decide (((i : Nat) : Int) ≤ ((k : Nat) : Int)) = true := decide_eq_true (by omega)
   simp (disch := omega) only [go_sem, a6r7, w1]
   simp (disch := omega) only [go_sem, a6r8]
   refine WO.den (k := 0) (vs := []) (by rw [hP.pure]; rfl) (by simp (disch := omega) only [go_sem]) hP.awake_den (fun v hv => by subst hv; rfl) (fun v hv => ?_)
   subst hv
   simp (disch := omega) only [go_sem]
  ·have w1 : decide (((i : Nat) : Int) ≤ ((k : Nat) : Int)) = false := decide_eq_false (by omega)
   cases hs : (p.fns.getD k default).some with
   | false =>
    simp (disch := omega) only [go_sem, a6r7, w1, hs]
    simp (disch := omega) only [go_sem, a6r8]
    refine WO.den (k := 0) (vs := []) (by rw [hP.pure]; rfl) (by simp (disch := omega) only [go_sem]) hP.awake_den (fun v hv => by subst hv; rfl) (fun v hv => ?_)
    subst hv
    simp (disch := omega) only [go_sem]
   | true =>
    simp (disch := omega) only [go_sem, a6r7, w1, hs]
    refine more_rest hP PE_ok (fun args h R => primQ_fun) ⟨hw, hm, g1, great_rows hg, hd, hc, hk, hs, hall, R, HL, hj k (by omega)⟩ T2 hO2.next (fun t h' => ?_)
    simp (disch := omega) only [go_sem]
 ·obtain ⟨rfl, rfl, rfl⟩ := hinj _ _ _ e
  cases hs : (p.fns.getD k default).some with
  | false =>
   simp (disch := omega) only [go_sem, a6r7, hs]
   simp (disch := omega) only [go_sem, a6r8]
   refine WO.den (k := 0) (vs := []) (by rw [hP.pure]; rfl) (by simp (disch := omega) only [go_sem]) hP.awake_den (fun v hv => by subst hv; rfl) (fun v hv => ?_)
   subst hv
   simp (disch := omega) only [go_sem]
  | true =>
   simp (disch := omega) only [go_sem, a6r7, hs]
   refine more_rest hP PE_ok (fun args h R => primQ_fun) ⟨hw, hm, g1, great_rows hg, hd, hc, hk, hs, hall, R, HL, hj k hk⟩ T2 hO2.next (fun t h' => ?_)
   simp (disch := omega) only [go_sem]
end Go.Am.Ef

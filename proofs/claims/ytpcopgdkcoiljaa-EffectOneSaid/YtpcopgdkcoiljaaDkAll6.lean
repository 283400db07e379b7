/- Identifiers (lex.Ident, and the document's). -/
import Derived.Test.YtpcopgdkcoiljaaDkAll5
set_option linter.unusedSimpArgs false
set_option linter.unusedVariables false
namespace Go.Am
section
variable {base : Nat} {d : Option Nat} {s : St}
def bytesO (s : St) (o : Nat) : Option AV → Option (AV × St)
  | some (.str b) => some (newRowA s o 1 b.length false (byteCells b))
  | _ => none
@[go_sem] theorem W_toBytes {x : Opd} {k : Nat} : aop base d (.toBytes x k) s = bytesO s (base + k) (x.ev s.fr) := rfl
theorem byteCells_map : ∀ l : List UInt8, byteCells (l.map UInt8.toNat) = l.flatMap Enc.cells
  | [] => rfl
  | c :: r => by rw [List.map_cons, byteCells, byteCells_map r]; rfl
@[go_sem] theorem bytesO_strv (s : St) (o : Nat) (l : List UInt8) : bytesO s o (some (strv l)) = some (.hs 1 o 0 0 l.length false, { s with h := s.h.put o (.row 1 0 (l.flatMap Enc.cells)) }) := by
  show some (newRowA s o 1 (l.map UInt8.toNat).length false (byteCells (l.map UInt8.toNat))) = _
  rw [byteCells_map, List.length_map]; rfl
end
end Go.Am
namespace Go.Am.Ef
open Go.Am
variable {P : Prog}
set_option maxRecDepth 20000
set_option maxHeartbeats 1000000
theorem bin_or_u8 (c : UInt8) : binA .or (.int .u8 (c.toNat : Nat)) (.int .u8 32) = some (.int .u8 ((c ||| 32).toNat : Nat)) := by
  show some (AV.int .u8 (wrapA .u8 (((BitVec.ofInt 8 (c.toNat : Nat) ||| BitVec.ofInt 8 32).toNat : Nat) : Int))) = _
  have h1 : BitVec.ofInt 8 ((c.toNat : Nat) : Int) = c.toBitVec := by
    apply BitVec.eq_of_toNat_eq
    simp only [BitVec.toNat_ofInt, UInt8.toNat_toBitVec]
    have := c.toNat_lt; omega
  have h2 : (BitVec.ofInt 8 ((c.toNat : Nat) : Int) ||| BitVec.ofInt 8 32).toNat = (c ||| 32).toNat := by rw [h1]; rfl
  rw [h2, wrapA_u8 (by omega) (by have := (c ||| 32).toNat_lt; omega)]
def letB (c : UInt8) : Bool := decide (97 ≤ (c ||| 32).toNat) && decide ((c ||| 32).toNat ≤ 122) || decide (c.toNat = 95)
def digB (c : UInt8) : Bool := decide (48 ≤ c.toNat) && decide (c.toNat ≤ 57)
def letR (c : UInt8) : Bool := decide (97 ≤ c.toNat) && decide (c.toNat ≤ 122) || decide (65 ≤ c.toNat) && decide (c.toNat ≤ 90) || decide (c.toNat = 95)
theorem letter67_den (hP : EfP P) (c : UInt8) : Den P 67 [.int .u8 (c.toNat : Nat)] (fun v => v = .bool (letB c)) := by
  refine Den.of (code := a67c) (hP.code rfl) (fun N => ?_)
  have h1 := bin_or_u8 c
  unfold letB
  generalize (c ||| 32).toNat = m at h1 ⊢
  generalize c.toNat = q at h1 ⊢
  simp (disch := omega) only [go_sem, a67c, a67r0]
  by_cases c1 : 97 ≤ m
  · by_cases c2 : m ≤ 122
    · simp (disch := omega) only [go_sem, a67r1, h1, decide_eq_true (show (97 : Int) ≤ ((m : Nat) : Int) by omega), decide_eq_true (show ((m : Nat) : Int) ≤ (122 : Int) by omega), c1, c2]
    · by_cases c3 : q = 95
      · simp (disch := omega) only [go_sem, a67r1, h1, decide_eq_true (show (97 : Int) ≤ ((m : Nat) : Int) by omega), decide_eq_false (show ¬ ((m : Nat) : Int) ≤ (122 : Int) by omega), decide_eq_true (show ((q : Nat) : Int) = (95 : Int) by omega), c1, c2, decide_eq_true c3]
      · simp (disch := omega) only [go_sem, a67r1, h1, decide_eq_true (show (97 : Int) ≤ ((m : Nat) : Int) by omega), decide_eq_false (show ¬ ((m : Nat) : Int) ≤ (122 : Int) by omega), decide_eq_false (show ¬ ((q : Nat) : Int) = (95 : Int) by omega), c1, c2, decide_eq_false c3]
  · by_cases c3 : q = 95
    · simp (disch := omega) only [go_sem, a67r1, h1, decide_eq_false (show ¬ (97 : Int) ≤ ((m : Nat) : Int) by omega), decide_eq_true (show ((q : Nat) : Int) = (95 : Int) by omega), c1, decide_eq_true c3]
    · simp (disch := omega) only [go_sem, a67r1, h1, decide_eq_false (show ¬ (97 : Int) ≤ ((m : Nat) : Int) by omega), decide_eq_false (show ¬ ((q : Nat) : Int) = (95 : Int) by omega), c1, decide_eq_false c3]
theorem digit70_den (hP : EfP P) (c : UInt8) : Den P 70 [.int .u8 (c.toNat : Nat)] (fun v => v = .bool (digB c)) := by
  refine Den.of (code := a70c) (hP.code rfl) (fun N => ?_)
  unfold digB
  generalize c.toNat = q
  simp (disch := omega) only [go_sem, a70c, a70r0]
  by_cases c1 : 48 ≤ q
  · by_cases c2 : q ≤ 57
    · simp (disch := omega) only [go_sem, a70r1, decide_eq_true (show (48 : Int) ≤ ((q : Nat) : Int) by omega), decide_eq_true (show ((q : Nat) : Int) ≤ (57 : Int) by omega), c1, c2]
    · simp (disch := omega) only [go_sem, a70r1, decide_eq_true (show (48 : Int) ≤ ((q : Nat) : Int) by omega), decide_eq_false (show ¬ ((q : Nat) : Int) ≤ (57 : Int) by omega), c1, c2]
  · simp (disch := omega) only [go_sem, a70r1, decide_eq_false (show ¬ (48 : Int) ≤ ((q : Nat) : Int) by omega), c1]
theorem any69_den (hP : EfP P) (c : UInt8) : Den P 69 [.int .u8 (c.toNat : Nat)] (fun v => v = .bool (letB c || digB c)) := by
  refine Den.of (code := a69c) (hP.code rfl) (fun N => ?_)
  simp (disch := omega) only [go_sem, a69c, a69r0]
  simp (disch := omega) only [go_sem, a69r1]
  refine WO.den (k := 0) (vs := [.int .u8 (c.toNat : Nat)]) (by rw [hP.pure]; rfl) (by simp (disch := omega) only [go_sem]) (letter67_den hP c) (fun v hv => by subst hv; rfl) (fun v hv => ?_)
  subst hv
  cases hl : letB c with
  | true => simp (disch := omega) only [go_sem]
  | false =>
    simp (disch := omega) only [go_sem]
    refine WO.den (k := 0) (vs := [.int .u8 (c.toNat : Nat)]) (by rw [hP.pure]; rfl) (by simp (disch := omega) only [go_sem]) (digit70_den hP c) (fun v hv => by subst hv; rfl) (fun v hv => ?_)
    subst hv
    simp (disch := omega) only [go_sem]
def kws : List (List UInt8) := [[105, 109, 112, 111, 114, 116], [108, 97, 116, 116, 105, 99, 101], [101, 102, 102, 101, 99, 116, 115], [118, 97, 114], [102, 110], [108, 101, 116], [105, 102], [101, 108, 115, 101], [119, 104, 105, 108, 101], [114, 101, 116, 117, 114, 110], [100, 111], [116, 114, 117, 101], [102, 97, 108, 115, 101], [105, 110, 116], [98, 111, 111, 108], [100, 101, 99, 108, 97, 115, 115, 105, 102, 121]]
theorem key66_den (hP : EfP P) (s : List UInt8) : Den P 66 [strv s] (fun v => v = .bool (decide (s ∈ kws))) := by
  refine Den.of (code := a66c) (hP.code rfl) (fun N => ?_)
  simp (disch := omega) only [go_sem, a66c, a66r0]
  simp (disch := omega) only [go_sem, a66r1]
  simp (disch := omega) only [go_sem, a66r2]
  refine condS_if (fun c0 => ?_) (fun c0 => ?_)
  · simp (disch := omega) only [go_sem, decide_eq_true c0]
    simp (disch := omega) only [go_sem, a66r18]
    rw [c0]; rfl
  simp (disch := omega) only [go_sem, a66r3]
  refine condS_if (fun c1 => ?_) (fun c1 => ?_)
  · simp (disch := omega) only [go_sem, decide_eq_true c1]
    simp (disch := omega) only [go_sem, a66r18]
    rw [c1]; rfl
  simp (disch := omega) only [go_sem, a66r4]
  refine condS_if (fun c2 => ?_) (fun c2 => ?_)
  · simp (disch := omega) only [go_sem, decide_eq_true c2]
    simp (disch := omega) only [go_sem, a66r18]
    rw [c2]; rfl
  simp (disch := omega) only [go_sem, a66r5]
  refine condS_if (fun c3 => ?_) (fun c3 => ?_)
  · simp (disch := omega) only [go_sem, decide_eq_true c3]
    simp (disch := omega) only [go_sem, a66r18]
    rw [c3]; rfl
  simp (disch := omega) only [go_sem, a66r6]
  refine condS_if (fun c4 => ?_) (fun c4 => ?_)
  · simp (disch := omega) only [go_sem, decide_eq_true c4]
    simp (disch := omega) only [go_sem, a66r18]
    rw [c4]; rfl
  simp (disch := omega) only [go_sem, a66r7]
  refine condS_if (fun c5 => ?_) (fun c5 => ?_)
  · simp (disch := omega) only [go_sem, decide_eq_true c5]
    simp (disch := omega) only [go_sem, a66r18]
    rw [c5]; rfl
  simp (disch := omega) only [go_sem, a66r8]
  refine condS_if (fun c6 => ?_) (fun c6 => ?_)
  · simp (disch := omega) only [go_sem, decide_eq_true c6]
    simp (disch := omega) only [go_sem, a66r18]
    rw [c6]; rfl
  simp (disch := omega) only [go_sem, a66r9]
  refine condS_if (fun c7 => ?_) (fun c7 => ?_)
  · simp (disch := omega) only [go_sem, decide_eq_true c7]
    simp (disch := omega) only [go_sem, a66r18]
    rw [c7]; rfl
  simp (disch := omega) only [go_sem, a66r10]
  refine condS_if (fun c8 => ?_) (fun c8 => ?_)
  · simp (disch := omega) only [go_sem, decide_eq_true c8]
    simp (disch := omega) only [go_sem, a66r18]
    rw [c8]; rfl
  simp (disch := omega) only [go_sem, a66r11]
  refine condS_if (fun c9 => ?_) (fun c9 => ?_)
  · simp (disch := omega) only [go_sem, decide_eq_true c9]
    simp (disch := omega) only [go_sem, a66r18]
    rw [c9]; rfl
  simp (disch := omega) only [go_sem, a66r12]
  refine condS_if (fun c10 => ?_) (fun c10 => ?_)
  · simp (disch := omega) only [go_sem, decide_eq_true c10]
    simp (disch := omega) only [go_sem, a66r18]
    rw [c10]; rfl
  simp (disch := omega) only [go_sem, a66r13]
  refine condS_if (fun c11 => ?_) (fun c11 => ?_)
  · simp (disch := omega) only [go_sem, decide_eq_true c11]
    simp (disch := omega) only [go_sem, a66r18]
    rw [c11]; rfl
  simp (disch := omega) only [go_sem, a66r14]
  refine condS_if (fun c12 => ?_) (fun c12 => ?_)
  · simp (disch := omega) only [go_sem, decide_eq_true c12]
    simp (disch := omega) only [go_sem, a66r18]
    rw [c12]; rfl
  simp (disch := omega) only [go_sem, a66r15]
  refine condS_if (fun c13 => ?_) (fun c13 => ?_)
  · simp (disch := omega) only [go_sem, decide_eq_true c13]
    simp (disch := omega) only [go_sem, a66r18]
    rw [c13]; rfl
  simp (disch := omega) only [go_sem, a66r16]
  refine condS_if (fun c14 => ?_) (fun c14 => ?_)
  · simp (disch := omega) only [go_sem, decide_eq_true c14]
    simp (disch := omega) only [go_sem, a66r18]
    rw [c14]; rfl
  simp (disch := omega) only [go_sem, a66r17]
  refine condS_if (fun c15 => ?_) (fun c15 => ?_)
  · simp (disch := omega) only [go_sem, a66r18]
    rw [c15]; rfl
  simp (disch := omega) only [go_sem, a66r19]
  rw [decide_eq_false (by simp only [kws, List.mem_cons, List.not_mem_nil, or_false, c0, c1, c2, c3, c4, c5, c6, c7, c8, c9, c10, c11, c12, c13, c14, c15, not_false_eq_true])]
def anyB (c : UInt8) : Bool := letB c || digB c
theorem run68_den (hP : EfP P) (s : List UInt8) (nl full : Bool) (hl : s.length ≤ 1000) : Den P 68 [slv nl full s, .fn 69 []] (fun v => ∃ i : Nat, v = .int .i64 (i : Nat) ∧ i ≤ s.length ∧ (i = s.length ↔ s.all anyB = true)) := by
  refine Den.of (code := a68c) (hP.code rfl) (fun N => ?_)
  simp (disch := omega) only [go_sem, a68c, a68r0]
  simp (disch := omega) only [go_sem, a68r1]
  refine Wp_loop (fun z : Nat × Nat => z.2 ≤ s.length ∧ (s.take z.2).all anyB = true) (fun (t, i) => { fr := [(0, slv nl full s), (1, .fn 69 []), (5, .int .i64 (i : Nat))], st := t, h := { next := N, m := .leaf } }) (fun z => s.length - z.2) (_, 0) rfl ⟨Nat.zero_le _, rfl⟩ ?_
  rintro ⟨t, i⟩ ⟨i1, i2⟩
  simp only at i1 i2
  by_cases c1 : i < s.length
  · have w1 : decide (((i : Nat) : Int) < ((s.length : Nat) : Int)) = true := decide_eq_true (by omega)
    have hst : s.take (i + 1) = s.take i ++ [s.getD i default] := by
      rw [List.take_succ_eq_append_getElem c1, List.getD_eq_getElem?_getD, List.getElem?_eq_getElem c1]; rfl
    simp (disch := omega) only [go_sem, a68l0, a68r2, w1, c1]
    refine WO_denv (f := 69) (caps := []) (k := 0) (vs := [.int .u8 ((s.getD i default).toNat : Nat)]) rfl (by rw [hP.pure]; rfl) (by simp (disch := omega) only [go_sem]) (any69_den hP _) (fun v hv => by subst hv; rfl) (fun v hv => ?_)
    subst hv
    cases hq : anyB (s.getD i default) with
    | true =>
      have hq' : (letB (s.getD i default) || digB (s.getD i default)) = true := hq
      rw [hq']
      simp (disch := omega) only [go_sem]
      simp (disch := omega) only [go_sem, a68r3]
      exact ⟨(t, i + 1), ⟨by simp only; omega, by simp only [hst, List.all_append, i2, List.all_cons, List.all_nil, hq]; rfl⟩, by simp only; omega, by push_cast; rfl⟩
    | false =>
      have hq' : (letB (s.getD i default) || digB (s.getD i default)) = false := hq
      rw [hq']
      simp (disch := omega) only [go_sem]
      simp (disch := omega) only [go_sem, a68r4]
      refine ⟨i, rfl, i1, fun e => by omega, fun h => ?_⟩
      have := List.all_eq_true.1 h _ (slv_get c1)
      rw [hq] at this; simp at this
  · have w1 : decide (((i : Nat) : Int) < ((s.length : Nat) : Int)) = false := decide_eq_false (by omega)
    have e : i = s.length := by omega
    simp (disch := omega) only [go_sem, a68l0, a68r2, w1]
    simp (disch := omega) only [go_sem, a68r4]
    subst e
    rw [List.take_length] at i2
    exact ⟨s.length, rfl, Nat.le_refl _, fun _ => i2, fun _ => rfl⟩
def identB (s : List UInt8) : Bool := !decide (s = []) && decide (s.length ≤ 24) && !decide (s ∈ kws) && letB (s.getD 0 default) && s.all anyB
theorem ident39_den (hP : EfP P) (s : List UInt8) : Den P 39 [strv s] (fun v => v = .bool (identB s)) := by
  refine Den.of (code := a39c) (hP.code rfl) (fun N => ?_)
  simp (disch := omega) only [go_sem, a39c, a39r0]
  by_cases c1 : s = []
  · subst c1
    simp (disch := omega) only [go_sem, a39r1]
    simp (disch := omega) only [go_sem, a39r2]
    rfl
  have d1 := decide_eq_false c1
  have hpos : 0 < s.length := List.length_pos_iff.2 c1
  by_cases c2 : s.length ≤ 24
  · have d2 : decide ((24 : Int) < ((s.length : Nat) : Int)) = false := decide_eq_false (by omega)
    have hidx := str_idx s .i64 0 (by omega) (by omega)
    simp (disch := omega) only [go_sem, a39r1, d1, d2]
    refine WO.den (k := 0) (vs := [strv s]) (by rw [hP.pure]; rfl) (by simp (disch := omega) only [go_sem]) (key66_den hP s) (fun v hv => by subst hv; rfl) (fun v hv => ?_)
    subst hv
    cases hk : decide (s ∈ kws) with
    | true =>
      simp (disch := omega) only [go_sem]
      simp (disch := omega) only [go_sem, a39r2]
      rw [identB, hk]; simp
    | false =>
      simp (disch := omega) only [go_sem, hidx]
      refine WO.den (k := 0) (vs := [.int .u8 ((s.getD 0 0).toNat : Nat)]) (by rw [hP.pure]; rfl) (by simp (disch := omega) only [go_sem]) (letter67_den hP _) (fun v hv => by subst hv; rfl) (fun v hv => ?_)
      subst hv
      have hid : identB s = (letB (s.getD 0 0) && s.all anyB) := by
        rw [identB, hk, d1, decide_eq_true c2]; rfl
      rw [hid]
      cases hlb : letB (s.getD 0 0) with
      | false =>
        simp (disch := omega) only [go_sem]
        simp (disch := omega) only [go_sem, a39r2]
      | true =>
        simp (disch := omega) only [go_sem]
        simp (disch := omega) only [go_sem, a39r3]
        refine WO.den (k := 1) (vs := [.hs 1 N 0 0 s.length false, .fn 69 []]) (by rw [hP.pure]; rfl) (by simp (disch := omega) only [go_sem]) (R := fun v => ∃ i : Nat, v = .int .i64 (i : Nat) ∧ i ≤ s.length ∧ (i = s.length ↔ s.all anyB = true)) ?_ (fun v hv => by obtain ⟨i, rfl, -⟩ := hv; rfl) (fun v hv => ?_)
        · have e0 : ∀ h : Heap, h.get N = some (.row 1 0 (s.flatMap Enc.cells)) → frz h 0 40 (.hs 1 N 0 0 s.length false) = slv false false s := fun h hg => (frz_hs (α := UInt8) (off := 0) (len := s.length) (N := 0) (n := 39) (full := false) (l := s) hg (by omega) (Nat.zero_le _)).trans (by simp)
          simp only [lent_11, List.map_cons, List.map_nil]
          rw [e0 _ (get_put_same _ _ _)]
          exact run68_den hP s false false (by omega)
        · obtain ⟨i, rfl, i1, i2⟩ := hv
          have : decide (((i : Nat) : Int) = ((s.length : Nat) : Int)) = s.all anyB := by
            rw [Bool.eq_iff_iff, decide_eq_true_eq, ← i2]; omega
          simp (disch := omega) only [go_sem, this]
  · have d2 : decide ((24 : Int) < ((s.length : Nat) : Int)) = true := decide_eq_true (by omega)
    simp (disch := omega) only [go_sem, a39r1, d1, d2]
    simp (disch := omega) only [go_sem, a39r2]
    rw [identB, decide_eq_false c2]; simp
end Go.Am.Ef
/- A table of effects is made (row.New). -/
namespace Go.Am.Ef
open Go.Am
variable {P : Prog}
set_option maxRecDepth 20000
set_option maxHeartbeats 1000000
def badN (out : List (List UInt8)) (s : List UInt8) : Option Nat := if identB s = false then some 1 else if s ∈ out then some 7 else if out.length = 64 then some 8 else none
def namesK (l : List NameV) (k : Nat) : List (List UInt8) := (l.take k).map (·.name)
def badK (l : List NameV) (k : Nat) : Option Nat := badN (namesK l k) (l.getD k default).name
theorem namesK_succ {l : List NameV} {k : Nat} (h : k < l.length) : namesK l (k + 1) = namesK l k ++ [(l.getD k default).name] := by
  unfold namesK
  rw [List.take_succ_eq_append_getElem h, List.map_append, List.getD_eq_getElem?_getD, List.getElem?_eq_getElem h]; rfl
theorem namesK_len {l : List NameV} {k : Nat} (h : k ≤ l.length) : (namesK l k).length = k := by simp [namesK]; omega
def NewR (l : List NameV) (h : Heap) (v : AV) (h' : Heap) : Prop :=
  (∃ k e, k < l.length ∧ (∀ j, j < k → badK l j = none) ∧ badK l k = some e ∧ v = .tup [.nilp, .int .i64 (k : Nat), .int .i64 (e : Nat)] ∧ Old h h') ∨
  ((∀ j, j < l.length → badK l j = none) ∧ ∃ o, v = .tup [.ptr o 0, .int .i64 0, .int .i64 0] ∧ TabB h'.next h' o (l.map (·.name)) ∧ Old h h')
def o8 : Option Bool → Fr
  | none => []
  | some b => [(8, .bool b)]
theorem o8_none : o8 none = [] := rfl
theorem o8_some (b : Bool) : o8 (some b) = [(8, .bool b)] := rfl
structure NewI (h g : Heap) (m o : Nat) (names : List (List UInt8)) (v : AV) (es : TMap) (bs : List Nat) (ck : Nat) : Prop where
  t : TabAt g o m names v es bs ck
  own : ∀ i, rowOf v = some i → o < i ∧ i < g.next
  mo : m < o ∧ h.next ≤ m ∧ o < g.next
  old : Old h g
theorem posN_snoc {names : List (List UInt8)} {x : List UInt8} (hx : x ∉ names) (s : List UInt8) : posN (names ++ [x]) s = if s = x then some names.length else posN names s := by
  unfold posN
  by_cases e : s = x
  · subst e
    rw [if_pos (by simp), if_pos rfl]
    congr 1
    rw [List.idxOf_append, if_neg hx]
    simp
  · rw [if_neg e]
    by_cases hm : s ∈ names
    · rw [if_pos (List.mem_append_left _ hm), if_pos hm, List.idxOf_append, if_pos hm]
    · rw [if_neg (by simp [hm, e]), if_neg hm]
theorem tget_tput (k s : List UInt8) (v : AV) : ∀ es : TMap, tget s (tput k v es) = if s = k then some v else tget s es
  | [] => by
    simp only [tput, tget]
    by_cases e : k = s
    · rw [if_pos e, if_pos e.symm]
    · rw [if_neg e, if_neg (Ne.symm e)]
  | p :: r => by
    rw [tput]
    by_cases e : p.1 = k
    · rw [if_pos e]
      simp only [tget]
      by_cases e2 : k = s
      · rw [if_pos e2, if_pos e2.symm]
      · rw [if_neg e2, if_neg (Ne.symm e2), if_neg (by rw [e]; exact e2)]
    · rw [if_neg e]
      simp only [tget]
      by_cases e2 : p.1 = s
      · rw [if_pos e2, if_pos e2, if_neg (by rw [← e2]; exact e)]
      · rw [if_neg e2, if_neg e2, tget_tput k s v r]
theorem NewI.step {h g : Heap} {m o : Nat} {names : List (List UInt8)} {v : AV} {es : TMap} {bs : List Nat} {ck : Nat} (I : NewI h g m o names v es bs ck) {x : List UInt8} (hx : x ∉ names) (hl : names.length < 64) {g1 g2 : Heap} {v' : AV}
    (e1 : g1 = (g.put m (putM x (.int .i64 (names.length : Nat)) es bs ck))) (hr : RowV g2 v' (names ++ [x])) (hn : g2.next = g1.next + 1) (ho : rowOf v' = rowOf v ∨ rowOf v' = some g1.next) (hf : ∀ q, q ≠ g1.next → rowOf v ≠ some q → g2.get q = g1.get q) :
    ∃ es' bs' ck', NewI h (g2.put o (.cells [v', .mp m])) m o (names ++ [x]) v' es' bs' ck' := by
  have hm := I.mo
  have hg1 : g1.next = g.next := by rw [e1]; rfl
  have hvm : rowOf v ≠ some m := fun e => by have := I.own m e; omega
  have hvo : rowOf v ≠ some o := fun e => by have := I.own o e; omega
  have hgm : g2.get m = some (putM x (.int .i64 (names.length : Nat)) es bs ck) := by
    rw [hf m (by omega) hvm, e1, get_put_same]
  have hp : ∃ bs' ck', putM x (.int .i64 (names.length : Nat)) es bs ck = .map (kv (tput x (.int .i64 (names.length : Nat)) es)) bs' ck' := by
    unfold putM; split
    · exact ⟨_, _, rfl⟩
    · exact ⟨_, _, rfl⟩
  obtain ⟨bs', ck', hp⟩ := hp
  have hown : ∀ i, rowOf v' = some i → o < i ∧ i < g2.next := fun i e => by
    rcases ho with e2 | e2 <;> rw [e2] at e
    · have := I.own i e; omega
    · have := Option.some.inj e; omega
  refine ⟨tput x (.int .i64 (names.length : Nat)) es, bs', ck', ⟨⟨get_put_same _ _ _, ?_, ?_, fun s => ?_, by simp; omega⟩, hown, ⟨hm.1, hm.2.1, by show o < g2.next; omega⟩, ⟨by show h.next ≤ g2.next; have := I.old.next; omega, fun i hi => ?_⟩⟩⟩
  · rw [get_put_ne _ _ _ _ (by omega), hgm, hp]
  · rcases hr with e | ⟨q, ep, e, hq⟩
    · exact .inl e
    · have := hown q (by rw [e]; rfl)
      exact .inr ⟨q, ep, e, by rw [get_put_ne _ _ _ _ (by omega)]; exact hq⟩
  · rw [tget_tput, posN_snoc hx]
    by_cases e : s = x
    · rw [if_pos e, if_pos e]; rfl
    · rw [if_neg e, if_neg e]; exact I.t.get s
  · rw [get_put_ne _ _ _ _ (by omega), hf i (by have := I.old.next; omega) (fun e => by have := I.own i e; omega), e1, get_put_ne _ _ _ _ (by omega)]
    exact I.old.keep i hi
theorem rowv_evs {α : Type} [Enc α] {h : Heap} {v : AV} {l : List α} (hr : RowV h v l) : Evs v := by
  rcases hr with ⟨rfl, -⟩ | ⟨o, ep, rfl, -⟩
  · exact ⟨fun i => rfl, rfl, rfl, rfl⟩
  · exact ⟨fun i => rfl, rfl, rfl, rfl⟩
theorem rowv_len {α : Type} [Enc α] {h : Heap} {v : AV} {l : List α} (hr : RowV h v l) : lenA h v = some l.length := by
  rcases hr with ⟨rfl, rfl⟩ | ⟨o, ep, rfl, -⟩
  · rfl
  · rfl
theorem new_fun (hP : EfP P) (h : Heap) (nl fl : Bool) (l : List NameV) (hl : l.length ≤ 100000) : Fun P 16 [slv nl fl l] h (fun v h' => NewR l h v h') := by
  refine Fun.of (code := a16c) (hP.code rfl) (by rw [hP.pure]; rfl) ?_
  simp (disch := omega) only [go_sem, a16c, a16r0]
  simp (disch := omega) only [go_sem, a16r1]
  simp (disch := omega) only [go_sem, a16r2]
  refine Wp_loop (fun z : Nat × Nat × Option Bool × AV × TMap × List Nat × Nat × Heap => z.2.1 ≤ l.length ∧ (∀ j, j < z.2.1 → badK l j = none) ∧ NewI h z.2.2.2.2.2.2.2 h.next (h.next + 1) (namesK l z.2.1) z.2.2.2.1 z.2.2.2.2.1 z.2.2.2.2.2.1 z.2.2.2.2.2.2.1)
    (fun (t, k, q, v, es, bs, ck, g) => { fr := [(2, .ptr (h.next + 1) 0)] ++ o8 q ++ [(12, slv nl fl l), (13, .int .i64 (l.length : Nat)), (14, .int .i64 (k : Nat))], st := t, h := g }) (fun z => l.length - z.2.1) (0, 0, none, .nils, [], [], 0, _) rfl ⟨Nat.zero_le _, fun j hj => by simp only at hj; omega, ⟨⟨get_put_same _ _ _, by rw [get_put_ne _ _ _ _ (by omega)]; exact get_put_same _ _ _, .inl ⟨rfl, rfl⟩, fun s => rfl, Nat.zero_le _⟩, fun i e => by simp [rowOf] at e, ⟨by omega, by omega, by show h.next + 1 < h.next + 2; omega⟩, ⟨by show h.next ≤ h.next + 2; omega, fun i hi => by rw [get_put_ne _ _ _ _ (by omega), get_put_ne _ _ _ _ (by omega)]; rfl⟩⟩⟩ ?_
  rintro ⟨t, k, q, v, es, bs, ck, g⟩ ⟨k1, k2, I⟩
  simp only at k1 k2 I
  have hE := rowv_evs I.t.row
  by_cases c1 : k < l.length
  · have w1 : decide (((k : Nat) : Int) < ((l.length : Nat) : Int)) = true := decide_eq_true (by omega)
    have hlen := rowv_len I.t.row
    have hg := I.t.get (l.getD k default).name
    have hkl := namesK_len k1
    have hbk : badK l k = badN (namesK l k) (l.getD k default).name := rfl
    have hsucc := namesK_succ c1
    generalize namesK l k = names at I hg hlen hkl hbk hsucc
    have hgb : ∀ e, badK l k = some e → ∀ g', Old h g' → NewR l h (.tup [.nilp, .int .i64 (k : Nat), .int .i64 (e : Nat)]) g' := fun e he g' ho => .inl ⟨k, e, c1, k2, he, rfl, ho⟩
    have hk2' : badK l k = none → ∀ j, j < k + 1 → badK l j = none := fun he j hj => by
      by_cases e : j = k
      · rw [e]; exact he
      · exact k2 j (by omega)
    cases q with
    | none =>
      simp only [o8_none, o8_some, List.cons_append, List.nil_append]
      cases hp : posN names (l.getD k default).name with
      | none =>
        rw [hp, Option.map_none] at hg
        have hx : (l.getD k default).name ∉ names := fun hm => by rw [posN, if_pos hm] at hp; simp at hp
        simp (disch := omega) only [go_sem, a16l0, a16r3, w1]
        simp (disch := omega) only [go_sem, a16r4, c1]
        simp (disch := omega) only [go_sem, a16d5, I.t.tab, I.t.map, hg, Option.getD_none, Option.isSome_none]
        simp (disch := omega) only [go_sem, a16r6]
        refine WO.den (k := 0) (vs := [strv (l.getD k default).name]) (by rw [hP.pure]; rfl) (by simp (disch := omega) only [go_sem]) (ident39_den hP _) (fun v hv => by subst hv; rfl) (fun v hv => ?_)
        subst hv
        cases hid : identB (l.getD k default).name with
        | false =>
          simp (disch := omega) only [go_sem]
          simp (disch := omega) only [go_sem, a16r7]
          exact hgb 1 (by rw [hbk, badN, if_pos hid]) g I.old
        | true =>
          simp (disch := omega) only [go_sem]
          simp (disch := omega) only [go_sem, a16r8]
          simp (disch := omega) only [go_sem, a16r10, I.t.tab, hE.ev, hE.tag, hlen]
          by_cases c3 : names.length = 64
          · have d3 : decide (((names.length : Nat) : Int) = (64 : Int)) = true := decide_eq_true (by omega)
            simp (disch := omega) only [go_sem, d3]
            simp (disch := omega) only [go_sem, a16r11]
            exact hgb 8 (by rw [hbk, badN, if_neg (by rw [hid]; simp), if_neg hx, if_pos c3]) g I.old
          · have d3 : decide (((names.length : Nat) : Int) = (64 : Int)) = false := decide_eq_false (by omega)
            have hbn : badK l k = none := by rw [hbk, badN, if_neg (by rw [hid]; simp), if_neg hx, if_neg c3]
            have h64 := I.t.len
            have hmo := I.mo
            simp (disch := omega) only [go_sem, d3]
            simp (disch := omega) only [go_sem, a16d12, I.t.tab, I.t.map, hE.ev, hE.tag, hE.dat, hlen]
            have ht2 : (g.put h.next (putM (l.getD k default).name (.int .i64 (names.length : Nat)) es bs ck)).get (h.next + 1) = some (.cells [v, .mp h.next]) := by rw [get_put_ne _ _ _ _ (by omega)]; exact I.t.tab
            have hr2 : RowV (g.put h.next (putM (l.getD k default).name (.int .i64 (names.length : Nat)) es bs ck)) v names := by
              rcases I.t.row with e | ⟨i, ep, e, hq⟩
              · exact .inl e
              · have := I.own i (by rw [e]; rfl)
                exact .inr ⟨i, ep, e, by rw [get_put_ne _ _ _ _ (by omega)]; exact hq⟩
            generalize hg1 : g.put h.next (putM (l.getD k default).name (.int .i64 (names.length : Nat)) es bs ck) = g1 at ht2 hr2
            have hn1 : g1.next = g.next := by rw [← hg1]; rfl
            have ht3 : (g1.reserve 1).get (h.next + 1) = some (.cells [v, .mp h.next]) := ht2
            have hr3 : RowV (g1.reserve 1) v names := hr2
            simp (disch := omega) only [go_sem, a16d13, ht3, hE.ev, hE.tag, hE.dat, hlen]
            refine dS_app (α := List UInt8) (bytes := 16) (l := names) (new := [(l.getD k default).name]) hr3 (adds_one (α := List UInt8) _ (l.getD k default).name _ true rfl) rfl (by simp only [List.length_cons, List.length_nil, two47]; omega) (fun v' g2 q1 q2 q3 q4 => ?_)
            have hE2 := rowv_evs q1
            have ht4 : g2.get (h.next + 1) = some (.cells [v, .mp h.next]) := by
              rw [q4 _ (by omega) (fun e => by have := I.own _ e; omega)]; exact ht3
            obtain ⟨es', bs', ck', I2⟩ := I.step hx (by omega) hg1.symm q1 q2 (by rw [hn1]; exact q3) (by rw [hn1]; exact q4)
            rw [← hsucc] at I2
            simp (disch := omega) only [go_sem, hE2.ev, hE2.tag, hE2.dat, hE2.cel]
            refine WD_storeP (val := v') (off := 0) (o := h.next + 1) (c' := [v', .mp h.next]) (by simp (disch := omega) only [go_sem]) (by simp (disch := omega) only [go_sem, hE2.dat, hE2.ev]) (by rw [hE2.cel]; rfl) ht4 (by rw [hE2.cel]; rfl) rfl ?_
            simp (disch := omega) only [go_sem]
            simp (disch := omega) only [go_sem, a16r14]
            exact ⟨(_, k + 1, some false, v', es', bs', ck', _), ⟨by simp only; omega, hk2' hbn, I2⟩, by simp only; omega, by simp only [o8_some, List.cons_append, List.nil_append]; push_cast; rfl⟩
      | some pk =>
        rw [hp, Option.map_some] at hg
        have hx : (l.getD k default).name ∈ names := Classical.byContradiction (fun hm => by rw [posN, if_neg hm] at hp; simp at hp)
        simp (disch := omega) only [go_sem, a16l0, a16r3, w1]
        simp (disch := omega) only [go_sem, a16r4, c1]
        simp (disch := omega) only [go_sem, a16d5, I.t.tab, I.t.map, hg, Option.getD_some, Option.isSome_some]
        simp (disch := omega) only [go_sem, a16r6]
        refine WO.den (k := 0) (vs := [strv (l.getD k default).name]) (by rw [hP.pure]; rfl) (by simp (disch := omega) only [go_sem]) (ident39_den hP _) (fun v hv => by subst hv; rfl) (fun v hv => ?_)
        subst hv
        cases hid : identB (l.getD k default).name with
        | false =>
          simp (disch := omega) only [go_sem]
          simp (disch := omega) only [go_sem, a16r7]
          exact hgb 1 (by rw [hbk, badN, if_pos hid]) g I.old
        | true =>
          simp (disch := omega) only [go_sem]
          simp (disch := omega) only [go_sem, a16r8]
          simp (disch := omega) only [go_sem, a16r9]
          exact hgb 7 (by rw [hbk, badN, if_neg (by rw [hid]; simp), if_pos hx]) g I.old
    | some b0 =>
      simp only [o8_none, o8_some, List.cons_append, List.nil_append]
      cases hp : posN names (l.getD k default).name with
      | none =>
        rw [hp, Option.map_none] at hg
        have hx : (l.getD k default).name ∉ names := fun hm => by rw [posN, if_pos hm] at hp; simp at hp
        simp (disch := omega) only [go_sem, a16l0, a16r3, w1]
        simp (disch := omega) only [go_sem, a16r4, c1]
        simp (disch := omega) only [go_sem, a16d5, I.t.tab, I.t.map, hg, Option.getD_none, Option.isSome_none]
        simp (disch := omega) only [go_sem, a16r6]
        refine WO.den (k := 0) (vs := [strv (l.getD k default).name]) (by rw [hP.pure]; rfl) (by simp (disch := omega) only [go_sem]) (ident39_den hP _) (fun v hv => by subst hv; rfl) (fun v hv => ?_)
        subst hv
        cases hid : identB (l.getD k default).name with
        | false =>
          simp (disch := omega) only [go_sem]
          simp (disch := omega) only [go_sem, a16r7]
          exact hgb 1 (by rw [hbk, badN, if_pos hid]) g I.old
        | true =>
          simp (disch := omega) only [go_sem]
          simp (disch := omega) only [go_sem, a16r8]
          simp (disch := omega) only [go_sem, a16r10, I.t.tab, hE.ev, hE.tag, hlen]
          by_cases c3 : names.length = 64
          · have d3 : decide (((names.length : Nat) : Int) = (64 : Int)) = true := decide_eq_true (by omega)
            simp (disch := omega) only [go_sem, d3]
            simp (disch := omega) only [go_sem, a16r11]
            exact hgb 8 (by rw [hbk, badN, if_neg (by rw [hid]; simp), if_neg hx, if_pos c3]) g I.old
          · have d3 : decide (((names.length : Nat) : Int) = (64 : Int)) = false := decide_eq_false (by omega)
            have hbn : badK l k = none := by rw [hbk, badN, if_neg (by rw [hid]; simp), if_neg hx, if_neg c3]
            have h64 := I.t.len
            have hmo := I.mo
            simp (disch := omega) only [go_sem, d3]
            simp (disch := omega) only [go_sem, a16d12, I.t.tab, I.t.map, hE.ev, hE.tag, hE.dat, hlen]
            have ht2 : (g.put h.next (putM (l.getD k default).name (.int .i64 (names.length : Nat)) es bs ck)).get (h.next + 1) = some (.cells [v, .mp h.next]) := by rw [get_put_ne _ _ _ _ (by omega)]; exact I.t.tab
            have hr2 : RowV (g.put h.next (putM (l.getD k default).name (.int .i64 (names.length : Nat)) es bs ck)) v names := by
              rcases I.t.row with e | ⟨i, ep, e, hq⟩
              · exact .inl e
              · have := I.own i (by rw [e]; rfl)
                exact .inr ⟨i, ep, e, by rw [get_put_ne _ _ _ _ (by omega)]; exact hq⟩
            generalize hg1 : g.put h.next (putM (l.getD k default).name (.int .i64 (names.length : Nat)) es bs ck) = g1 at ht2 hr2
            have hn1 : g1.next = g.next := by rw [← hg1]; rfl
            have ht3 : (g1.reserve 1).get (h.next + 1) = some (.cells [v, .mp h.next]) := ht2
            have hr3 : RowV (g1.reserve 1) v names := hr2
            simp (disch := omega) only [go_sem, a16d13, ht3, hE.ev, hE.tag, hE.dat, hlen]
            refine dS_app (α := List UInt8) (bytes := 16) (l := names) (new := [(l.getD k default).name]) hr3 (adds_one (α := List UInt8) _ (l.getD k default).name _ true rfl) rfl (by simp only [List.length_cons, List.length_nil, two47]; omega) (fun v' g2 q1 q2 q3 q4 => ?_)
            have hE2 := rowv_evs q1
            have ht4 : g2.get (h.next + 1) = some (.cells [v, .mp h.next]) := by
              rw [q4 _ (by omega) (fun e => by have := I.own _ e; omega)]; exact ht3
            obtain ⟨es', bs', ck', I2⟩ := I.step hx (by omega) hg1.symm q1 q2 (by rw [hn1]; exact q3) (by rw [hn1]; exact q4)
            rw [← hsucc] at I2
            simp (disch := omega) only [go_sem, hE2.ev, hE2.tag, hE2.dat, hE2.cel]
            refine WD_storeP (val := v') (off := 0) (o := h.next + 1) (c' := [v', .mp h.next]) (by simp (disch := omega) only [go_sem]) (by simp (disch := omega) only [go_sem, hE2.dat, hE2.ev]) (by rw [hE2.cel]; rfl) ht4 (by rw [hE2.cel]; rfl) rfl ?_
            simp (disch := omega) only [go_sem]
            simp (disch := omega) only [go_sem, a16r14]
            exact ⟨(_, k + 1, some false, v', es', bs', ck', _), ⟨by simp only; omega, hk2' hbn, I2⟩, by simp only; omega, by simp only [o8_some, List.cons_append, List.nil_append]; push_cast; rfl⟩
      | some pk =>
        rw [hp, Option.map_some] at hg
        have hx : (l.getD k default).name ∈ names := Classical.byContradiction (fun hm => by rw [posN, if_neg hm] at hp; simp at hp)
        simp (disch := omega) only [go_sem, a16l0, a16r3, w1]
        simp (disch := omega) only [go_sem, a16r4, c1]
        simp (disch := omega) only [go_sem, a16d5, I.t.tab, I.t.map, hg, Option.getD_some, Option.isSome_some]
        simp (disch := omega) only [go_sem, a16r6]
        refine WO.den (k := 0) (vs := [strv (l.getD k default).name]) (by rw [hP.pure]; rfl) (by simp (disch := omega) only [go_sem]) (ident39_den hP _) (fun v hv => by subst hv; rfl) (fun v hv => ?_)
        subst hv
        cases hid : identB (l.getD k default).name with
        | false =>
          simp (disch := omega) only [go_sem]
          simp (disch := omega) only [go_sem, a16r7]
          exact hgb 1 (by rw [hbk, badN, if_pos hid]) g I.old
        | true =>
          simp (disch := omega) only [go_sem]
          simp (disch := omega) only [go_sem, a16r8]
          simp (disch := omega) only [go_sem, a16r9]
          exact hgb 7 (by rw [hbk, badN, if_neg (by rw [hid]; simp), if_pos hx]) g I.old
  · have w1 : decide (((k : Nat) : Int) < ((l.length : Nat) : Int)) = false := decide_eq_false (by omega)
    have e : k = l.length := by omega
    have hall : namesK l k = l.map (·.name) := by unfold namesK; rw [e, List.take_length]
    rw [e] at k2
    rw [hall] at I
    have hend : NewR l h (.tup [.ptr (h.next + 1) 0, .int .i64 0, .int .i64 0]) g := .inr ⟨k2, h.next + 1, rfl, ⟨_, _, _, _, _, I.t, I.mo.2.2, by have := I.mo; omega, fun i e => (I.own i e).2⟩, I.old⟩
    cases q with
    | none =>
      simp only [o8_none, o8_some, List.cons_append, List.nil_append]
      simp (disch := omega) only [go_sem, a16l0, a16r3, w1]
      simp (disch := omega) only [go_sem, a16r15]
      exact hend
    | some b =>
      simp only [o8_none, o8_some, List.cons_append, List.nil_append]
      simp (disch := omega) only [go_sem, a16l0, a16r3, w1]
      simp (disch := omega) only [go_sem, a16r15]
      exact hend
end Go.Am.Ef
/- EffectOne: where no row is declared, functions of one group have one row. -/
namespace Go.Am.Ef
open Go.Am
variable {P : Prog}
set_option maxRecDepth 20000
set_option maxHeartbeats 1000000
theorem within26_den (hP : EfP P) {a b : Nat} (ha : a < 2 ^ 64) (hb : b < 2 ^ 64) : Den P 26 [.int .u64 (a : Nat), .int .u64 (b : Nat)] (fun v => v = .bool (decide (a ||| b = b))) := by
  refine Den.of (code := a26c) (hP.code rfl) (fun N => ?_)
  obtain ⟨c, h1, h2⟩ := bin_andNot_u64 ha hb
  have h3 : decide (((c : Nat) : Int) = (0 : Int)) = decide (a ||| b = b) := decide_eq_decide.2 (by rw [← h2]; omega)
  simp (disch := omega) only [go_sem, a26c, a26r0]
  simp (disch := omega) only [go_sem, a26r1, h1, h3]
theorem cellsAtL_flat {α : Type} [Enc α] : ∀ (l : List α) (i : Nat), cellsAtL l i = ((l.flatMap Enc.cells).drop (i * Enc.sz α)).take (Enc.sz α)
  | [], i => by simp [cellsAtL]
  | x :: r, 0 => by
    show Enc.cells x = _
    rw [Nat.zero_mul, List.drop_zero, List.flatMap_cons, ← Enc.len x, List.take_left]
  | x :: r, i + 1 => by
    have h := cellsAtL_flat r i
    show cellsAtL r i = _
    rw [h, List.flatMap_cons, Nat.succ_mul, Nat.add_comm, ← List.drop_drop]
    congr 2
    conv => rhs; rw [← Enc.len x]
    rw [List.drop_left]
theorem lits_slv {α : Type} [Enc α] (l : List α) (full : Bool) : AV.sl (Enc.sz α) l.length (fun i => ((l.flatMap Enc.cells).drop (i * Enc.sz α)).take (Enc.sz α)) full = slv false full l := by
  show _ = AV.sl _ _ _ _
  congr 1
  funext i
  exact (cellsAtL_flat l i).symm
def NoRow (p : ProgV) : Prop := ∀ i, i < p.fns.length → (p.fns.getD i default).some = false ∧ (p.fns.getD i default).row = []
theorem sol_reach {D : RD} {R : Nat → Nat} (ok : D.Ok) (H : Sol D R) (hno : ∀ f, f < D.n → D.some f = false) {a b : Nat} (h : Reach D.c a b) : a < D.n → sub (R b) (R a) ∧ b < D.n := by
  induction h with
  | refl => exact fun ha => ⟨sub_refl _, ha⟩
  | step hb _ ih =>
      intro ha
      have hbn := ok.lt _ ha _ hb
      have := ih hbn
      exact ⟨sub_trans this.1 (H.calls _ ha (hno _ ha) _ hb), this.2⟩
def cntG (s : TS) (N : Nat) (E : List Nat) (i : Nat) : Nat := ((E.take i).map (fun k => (grp s N k).length)).sum
theorem cnt_succ {s : TS} {N : Nat} {E : List Nat} {i : Nat} (h : i < E.length) : cntG s N E (i + 1) = cntG s N E i + (grp s N (E.getD i 0)).length := by
  unfold cntG
  rw [List.take_succ_eq_append_getElem h, List.map_append, List.sum_append, List.getD_eq_getElem?_getD, List.getElem?_eq_getElem h]; simp
theorem cnt_eq (s : TS) (E : List Nat) (hE : E.Nodup) : ∀ L : List Nat, (E.map (fun k => (L.filter (fun x => decide (s.of x = k))).length)).sum = (L.filter (fun x => decide (s.of x ∈ E))).length
  | [] => by
    simp only [List.filter_nil, List.length_nil]
    have : ∀ l : List Nat, (l.map (fun _ => 0)).sum = 0 := fun l => by
      induction l with
      | nil => rfl
      | cons a l ih => rw [List.map_cons, List.sum_cons, ih]
    exact this E
  | x :: L => by
    have ih := cnt_eq s E hE L
    have hone : ∀ E : List Nat, E.Nodup → (E.map (fun k => ((x :: L).filter (fun x => decide (s.of x = k))).length)).sum = (E.map (fun k => (L.filter (fun x => decide (s.of x = k))).length)).sum + (if s.of x ∈ E then 1 else 0) := fun E => by
      induction E with
      | nil => intro _; rfl
      | cons k E ih2 =>
        intro hnd
        rw [List.nodup_cons] at hnd
        rw [List.map_cons, List.map_cons, List.sum_cons, List.sum_cons, ih2 hnd.2, List.filter_cons]
        by_cases e : s.of x = k
        · rw [if_pos (by simpa using e), if_neg (by rw [e]; exact hnd.1), if_pos (by rw [e]; simp), List.length_cons]; omega
        · rw [if_neg (by simpa using e)]
          by_cases e2 : s.of x ∈ E
          · rw [if_pos e2, if_pos (List.mem_cons_of_mem _ e2)]; omega
          · rw [if_neg e2, if_neg (by simp [e, e2])]; omega
    rw [hone E hE, ih, List.filter_cons]
    by_cases e : s.of x ∈ E
    · rw [if_pos e, if_pos (by simpa using e), List.length_cons]
    · rw [if_neg e, if_neg (by simpa using e)]; omega
theorem cnt_le {s : TS} {N : Nat} {E : List Nat} (hE : E.Nodup) (i : Nat) : cntG s N E i ≤ N := by
  unfold cntG grp
  rw [cnt_eq s (E.take i) (hE.sublist (List.take_sublist _ _)) (List.range N)]
  exact Nat.le_trans (List.length_filter_le _ _) (by simp)
theorem cnt_all {s : TS} {N : Nat} {E : List Nat} (hE : E.Nodup) (h : ∀ x, x < N → s.of x ∈ E) : cntG s N E E.length = N := by
  unfold cntG grp
  rw [List.take_length, cnt_eq s E hE (List.range N), List.filter_eq_self.2 (fun x hx => decide_eq_true (h x (List.mem_range.1 hx))), List.length_range]
end Go.Am.Ef
/- EffectOne: the law's walk. -/
namespace Go.Am.Ef
open Go.Am
variable {P : Prog}
set_option maxRecDepth 20000
set_option maxHeartbeats 1000000
def nl3 : List NameV := [⟨[110, 101, 116], 0⟩, ⟨[108, 111, 103], 0⟩, ⟨[105, 111], 0⟩]
theorem new3_ok : ∀ j, j < nl3.length → badK nl3 j = none := by
  intro j hj
  have : j = 0 ∨ j = 1 ∨ j = 2 := by simp only [nl3, List.length_cons, List.length_nil] at hj; omega
  rcases this with rfl | rfl | rfl <;> decide
theorem Fun.imp {f : Nat} {vs : List AV} {h : Heap} {R Q : AV → Heap → Prop} (H : Fun P f vs h R) (k : ∀ v h', R v h' → Q v h') : Fun P f vs h Q := by
  obtain ⟨n, v, h', a, b⟩ := H
  exact ⟨n, v, h', a, k v h' b⟩
theorem new3_fun (hP : EfP P) (h : Heap) : Fun P 16 [slv false true nl3] h (fun v h' => ∃ o, v = .tup [.ptr o 0, .int .i64 0, .int .i64 0] ∧ TabB h'.next h' o (nl3.map (·.name)) ∧ Old h h') :=
  Fun.imp (new_fun hP h false true nl3 (by simp [nl3])) (fun v h' hv => by
    rcases hv with ⟨k, e, hk, -, hb, -⟩ | ⟨-, hv⟩
    · rw [new3_ok k hk] at hb; simp at hb
    · exact hv)
theorem effectOne_fun (hP : EfP P) (p : ProgV) (hw : ProgWf p) (h : Heap) : Fun P 7 [p.av] h (fun v _ => v = .bool true) := by
  refine Fun.of (code := a7c) (hP.code rfl) (by rw [hP.pure]; rfl) ?_
  unfold ProgV.av
  simp (disch := omega) only [go_sem, a7c, a7r0]
  simp (disch := omega) only [go_sem, a7r1]
  refine WO.den (k := 0) (vs := [p.av, .int .i64 400]) (by rw [hP.pure]; rfl) (by simp (disch := omega) only [go_sem]; rfl) (great_den hP p hw) (fun v hv => by subst hv; rfl) (fun v hv => ?_)
  subst hv
  cases hg : greatB p with
  | true =>
    simp (disch := omega) only [go_sem]
    simp (disch := omega) only [go_sem, a7r2]
    refine WO.den (k := 0) (vs := []) (by rw [hP.pure]; rfl) (by simp (disch := omega) only [go_sem]) hP.awake_den (fun v hv => by subst hv; rfl) (fun v hv => ?_)
    subst hv
    simp (disch := omega) only [go_sem]
  | false =>
  obtain ⟨g1, g2, g3⟩ := great_bnd hg
  have hd : ∀ f ∈ p.fns, (deedsF f).length ≤ 100000 := fun f hf => by have := g3 f hf; omega
  simp (disch := omega) only [go_sem]
  refine WO.den (k := 0) (vs := [p.av]) (by rw [hP.pure]; rfl) (by simp (disch := omega) only [go_sem]; rfl) (may_den hP p hw) (fun v hv => by subst hv; rfl) (fun v hv => ?_)
  subst hv
  cases hm : mayP p with
  | false =>
    simp (disch := omega) only [go_sem]
    simp (disch := omega) only [go_sem, a7r2]
    refine WO.den (k := 0) (vs := []) (by rw [hP.pure]; rfl) (by simp (disch := omega) only [go_sem]) hP.awake_den (fun v hv => by subst hv; rfl) (fun v hv => ?_)
    subst hv
    simp (disch := omega) only [go_sem]
  | true =>
  have hc := calls_ok hm hg
  simp (disch := omega) only [go_sem]
  simp (disch := omega) only [go_sem, a7r3]
  refine Wp_loop (fun z : Nat × Nat => z.2 ≤ p.fns.length ∧ ∀ i, i < z.2 → (p.fns.getD i default).some = false ∧ (p.fns.getD i default).row = []) (fun (t, i) => { fr := [(1, .lbox 0 [slv p.sn false p.sites, slv p.fn false p.fns]), (3, .int .i64 (i : Nat))], st := t, h := h }) (fun z => p.fns.length - z.2) (_, 0) rfl ⟨Nat.zero_le _, fun i hi => by simp only at hi; omega⟩ ?_
  rintro ⟨t, i⟩ ⟨i1, i2⟩
  simp only at i1 i2
  by_cases c1 : i < p.fns.length
  · have w1 : decide (((i : Nat) : Int) < ((p.fns.length : Nat) : Int)) = true := decide_eq_true (by omega)
    simp (disch := omega) only [go_sem, a7l0, a7r4, w1]
    cases hsv : (p.fns.getD i default).some with
    | true =>
      simp (disch := omega) only [go_sem, a7r5, c1, hsv]
      simp (disch := omega) only [go_sem, a7r6]
      refine WO.den (k := 0) (vs := []) (by rw [hP.pure]; rfl) (by simp (disch := omega) only [go_sem]) hP.awake_den (fun v hv => by subst hv; rfl) (fun v hv => ?_)
      subst hv
      simp (disch := omega) only [go_sem]
    | false =>
      by_cases c2 : (p.fns.getD i default).row = []
      · have w2 : decide (((((p.fns.getD i default).row).length : Nat) : Int) > (0 : Int)) = false := decide_eq_false (by rw [c2]; simp)
        have w2' : decide ((0 : Int) < ((((p.fns.getD i default).row).length : Nat) : Int)) = false := decide_eq_false (by rw [c2]; simp)
        simp (disch := omega) only [go_sem, a7r5, c1, hsv, w2, w2']
        simp (disch := omega) only [go_sem, a7r7]
        exact ⟨(t, i + 1), ⟨by simp only; omega, fun j hj => by
          simp only at hj
          by_cases e : j = i
          · rw [e]; exact ⟨hsv, c2⟩
          · exact i2 j (by omega)⟩, by simp only; omega, by push_cast; rfl⟩
      · have hpos := List.length_pos_iff.2 c2
        have w2 : decide (((((p.fns.getD i default).row).length : Nat) : Int) > (0 : Int)) = true := decide_eq_true (by omega)
        have w2' : decide ((0 : Int) < ((((p.fns.getD i default).row).length : Nat) : Int)) = true := decide_eq_true (by omega)
        simp (disch := omega) only [go_sem, a7r5, c1, hsv, w2, w2']
        simp (disch := omega) only [go_sem, a7r6]
        refine WO.den (k := 0) (vs := []) (by rw [hP.pure]; rfl) (by simp (disch := omega) only [go_sem]) hP.awake_den (fun v hv => by subst hv; rfl) (fun v hv => ?_)
        subst hv
        simp (disch := omega) only [go_sem]
  have w1 : decide (((i : Nat) : Int) < ((p.fns.length : Nat) : Int)) = false := decide_eq_false (by omega)
  have e : i = p.fns.length := by omega
  subst e
  have hno : NoRow p := i2
  clear i2 i1 c1
  simp (disch := omega) only [go_sem, a7l0, a7r4, w1]
  simp (disch := omega) only [go_sem, a7r8]
  refine WO.fun (vs := [slv false true nl3]) (by simp (disch := omega) only [go_sem]; exact congrArg (fun x => some [x]) (lits_slv nl3 true)) (new3_fun hP h) (fun v h1 hv => ?_)
  obtain ⟨o, rfl, T, hO1⟩ := hv
  simp (disch := omega) only [go_sem]
  simp (disch := omega) only [go_sem, a7r9]
  refine WO.fun (vs := [p.av, .ptr o 0]) (by simp (disch := omega) only [go_sem]; rfl) (rows18_fun hP T (Nat.le_refl _) p hw (fun _ => hc) (by omega) hd) (fun v h2 hv => ?_)
  rcases hv with ⟨hm', -⟩ | ⟨-, i, pos, hi, hj, hbi, rfl, ho⟩ | ⟨-, hall, v1, R, rfl, B1, HL⟩
  · rw [hm] at hm'; simp at hm'
  · simp (disch := omega) only [go_sem]
    simp (disch := omega) only [go_sem, a7r10]
    simp (disch := omega) only [go_sem, a7r11]
    refine WO.den (k := 0) (vs := []) (by rw [hP.pure]; rfl) (by simp (disch := omega) only [go_sem]) hP.awake_den (fun v hv => by subst hv; rfl) (fun v hv => ?_)
    subst hv
    simp (disch := omega) only [go_sem]
  have hE1 := B1.evs
  have hlen1 := rowv_len B1.row
  rw [len_usL] at hlen1
  simp (disch := omega) only [go_sem, hE1.ev, hE1.dat]
  simp (disch := omega) only [go_sem, a7r10, hE1.ev]
  simp (disch := omega) only [go_sem, a7r12, hE1.ev]
  refine WO.den (k := 0) (vs := [p.av]) (by rw [hP.pure]; rfl) (by simp (disch := omega) only [go_sem]; rfl) (groups_den hP p hw (fun _ => hc) (by omega) hd) (fun v hv => ?_) (fun v hv => ?_)
  · rcases hv with ⟨-, rfl⟩ | ⟨-, s, -, nl, cs, rfl, -⟩
    · rfl
    · exact alone_two _ _ _
  rcases hv with ⟨hm', -⟩ | ⟨-, s, Gn, ngs, gs, rfl, hgs⟩
  · rw [hm] at hm'; simp at hm'
  simp (disch := omega) only [go_sem, hE1.ev]
  simp (disch := omega) only [go_sem, a7r13, hE1.ev]
  refine WO.den (k := 0) (vs := [p.av]) (by rw [hP.pure]; rfl) (by simp (disch := omega) only [go_sem]; rfl) (calls_den hP p hw (by omega) hd) (fun v hv => ?_) (fun v hv => ?_)
  · rcases hv with ⟨-, rfl⟩ | ⟨-, nl, cs, rfl, -⟩
    · rfl
    · exact alone_two _ _ _
  rcases hv with ⟨hm', -⟩ | ⟨-, ncs, cs, rfl, hcs⟩
  · rw [hm] at hm'; simp at hm'
  have hclen : cs.length = p.fns.length := by have := congrArg List.length hcs; simpa using this
  simp (disch := omega) only [go_sem, hE1.ev]
  simp (disch := omega) only [go_sem, a7r14, hE1.ev, hE1.tag, hlen1, hclen]
  have hnl := T.tab.small
  have C := rows_c (names := nl3.map (·.name)) hnl hc hcs
  obtain ⟨hE, hEl⟩ := runK_ord Gn s.n [] (ord_nil _ _ _) (by simp)
  have hall2 := ord_all hE hEl
  have hElen : (runK (cN p) s p.fns.length s.n []).length ≤ p.fns.length := by
    have h2 := runK_len (cN p) s p.fns.length s.n []
    have := Gn.n
    simp only [List.length_nil] at h2; omega
  generalize runK (cN p) s p.fns.length s.n [] = E at hE hEl hall2 hElen hgs
  have hgl : gs.length = E.length := by have := congrArg List.length hgs; simpa using this
  have hv1 : 0 < p.fns.length → ∃ o ep, v1 = .hs 1 o ep 0 p.fns.length false ∧ h2.get o = some (.row 1 ep (u64T p.fns.length R)) := fun hp => by
    rcases B1.row with ⟨-, e⟩ | ⟨o, ep, e, hq⟩
    · have h3 : (usL p.fns.length R).length = 0 := by rw [e]; rfl
      rw [len_usL] at h3; omega
    · rw [len_usL] at e; rw [flat_us] at hq; exact ⟨o, ep, e, hq⟩
  have hnoD : ∀ f, f < p.fns.length → (RDof (nl3.map (·.name)) p).some f = false := fun f hf => (hno f hf).1
  have hlt : ∀ x, x < p.fns.length → R x < 2 ^ 64 := fun x hx => HL.low.lt x hx
  have hcnt : cntG s p.fns.length E 0 = 0 := rfl
  simp (disch := omega) only [go_sem, a7r16, hE1.ev]
  simp (disch := omega) only [go_sem, a7r17, hE1.ev]
  refine Wp_loop (fun z : Nat × Nat => z.2 ≤ E.length) (fun (t, i) => { fr := [(1, .lbox 0 [slv p.sn false p.sites, slv p.fn false p.fns]), (7, v1), (11, slv ngs false gs), (13, slv ncs false cs), (15, .int .i64 (cntG s p.fns.length E i : Nat)), (16, .int .i64 (i : Nat))], st := t, h := h2 }) (fun z => E.length - z.2) (_, 0) rfl (Nat.zero_le _) ?_
  rintro ⟨t, i⟩ i1
  simp only at i1
  by_cases c1 : i < E.length
  · have w1 : decide (((i : Nat) : Int) < ((gs.length : Nat) : Int)) = true := decide_eq_true (by omega)
    have hgi : i < gs.length := by omega
    have hgg : (gs.getD i default).l = castL (grp s p.fns.length (E.getD i 0)) := by
      rw [getD_map_l hgs (by simpa using c1)]
      simp only [List.getD_eq_getElem?_getD, List.getElem?_map, List.getElem?_eq_getElem c1, Option.map_some, Option.getD_some]
    have hcs1 := cnt_succ (s := s) (N := p.fns.length) c1
    have hcle := cnt_le (s := s) (N := p.fns.length) hE.nd (i + 1)
    have hmem : ∀ x ∈ grp s p.fns.length (E.getD i 0), x < p.fns.length ∧ s.of x = E.getD i 0 := fun x hx => mem_grp.1 hx
    generalize E.getD i 0 = k0 at hgg hcs1 hmem
    generalize grp s p.fns.length k0 = G at hgg hcs1 hmem
    have hCl : (castL G).length = G.length := by simp [castL]
    simp (disch := omega) only [go_sem, a7l2, a7r18, w1, hE1.ev]
    simp (disch := omega) only [go_sem, a7r19, hE1.ev]
    refine Wp_loop (fun z : Nat × Nat => z.2 ≤ G.length) (fun (t, k) => { fr := [(1, .lbox 0 [slv p.sn false p.sites, slv p.fn false p.fns]), (7, v1), (11, slv ngs false gs), (13, slv ncs false cs), (15, .int .i64 ((cntG s p.fns.length E i + k : Nat) : Nat)), (16, .int .i64 (i : Nat)), (17, .int .i64 (k : Nat))], st := t, h := h2 }) (fun z => G.length - z.2) (_, 0) rfl (Nat.zero_le _) ?_
    rintro ⟨t2, k⟩ k1
    simp only at k1
    by_cases c2 : k < G.length
    · have w2 : decide (((k : Nat) : Int) < ((G.length : Nat) : Int)) = true := decide_eq_true (by omega)
      have hkl : k < (castL G).length := by rw [hCl]; exact c2
      have h0l : 0 < (castL G).length := by rw [hCl]; omega
      have hgk := castL_get c2
      have hg0 := castL_get (l := G) (i := 0) (by omega)
      obtain ⟨x1, x2⟩ := hmem _ (getD_mem c2)
      obtain ⟨y1, y2⟩ := hmem _ (getD_mem (i := 0) (l := G) (by omega))
      generalize G.getD k 0 = x at hgk x1 x2
      generalize G.getD 0 0 = y at hg0 y1 y2
      have hxy : R x = R y := by
        have hr := (Gn.same x y x1 y1).1 (x2.trans y2.symm)
        exact sub_anti (sol_reach C.ok HL.sol hnoD hr.2 y1).1 (sol_reach C.ok HL.sol hnoD hr.1 x1).1
      obtain ⟨o1, e1, rfl, hrow⟩ := hv1 (by omega)
      have l1 := ldU (f := R) x1
      have l2 := ldU (f := R) y1
      rw [← hxy] at l2
      have w3 : decide (¬ ((R x : Nat) : Int) = ((R x : Nat) : Int)) = false := by simp
      simp (disch := omega) only [go_sem, a7l1, a7r20, hgi, hgg, hCl, w2]
      simp (disch := omega) only [go_sem, a7r21]
      simp (disch := omega) only [go_sem, a7d22, hgi, hgg, hCl, c2, hkl, h0l, hgk, hg0, hrow, x1, y1, Nat.mul_one, l1, l2, w3]
      simp (disch := omega) only [go_sem, a7r24]
      exact ⟨(_, k + 1), by simp only; omega, by simp only; omega, by push_cast; rfl⟩
    · have w2 : decide (((k : Nat) : Int) < ((G.length : Nat) : Int)) = false := decide_eq_false (by omega)
      have e : k = G.length := by omega
      simp (disch := omega) only [go_sem, a7l1, a7r20, hgi, hgg, hCl, w2, hE1.ev]
      simp (disch := omega) only [go_sem, a7r25, hE1.ev]
      exact ⟨(_, i + 1), by simp only; omega, by simp only; omega, by rw [hcs1, e]; push_cast; rfl⟩
  have w1 : decide (((i : Nat) : Int) < ((gs.length : Nat) : Int)) = false := decide_eq_false (by omega)
  have e : i = E.length := by omega
  have hN := cnt_all (s := s) (N := p.fns.length) hE.nd (fun x hx => hall2 _ (Gn.lt x hx))
  subst e
  simp (disch := omega) only [go_sem, hN, a7l2, a7r18, w1, hE1.ev]
  simp (disch := omega) only [go_sem, a7r26, hE1.ev]
  refine Wp_loop (fun z : Nat × Nat => z.2 ≤ p.fns.length) (fun (t, i) => { fr := [(1, .lbox 0 [slv p.sn false p.sites, slv p.fn false p.fns]), (7, v1), (13, slv ncs false cs), (15, .int .i64 (p.fns.length : Nat)), (18, .int .i64 (i : Nat))], st := t, h := h2 }) (fun z => p.fns.length - z.2) (_, 0) rfl (Nat.zero_le _) ?_
  rintro ⟨t3, i⟩ i2
  simp only at i2
  by_cases c1 : i < p.fns.length
  · have w4 : decide (((i : Nat) : Int) < ((p.fns.length : Nat) : Int)) = true := decide_eq_true (by omega)
    have hil : i < cs.length := by omega
    have hcl : (cs.getD i default).l = castL (cN p i) := C.cs i c1
    have hmem : ∀ x ∈ cN p i, x < p.fns.length ∧ sub (R x) (R i) := fun x hx => ⟨C.ok.lt i c1 x hx, HL.sol.calls i c1 (hnoD i c1) x hx⟩
    have hlen := C.lens i c1
    have hlen' : (cN p i).length ≤ 100000 := hlen
    generalize cN p i = G at hcl hmem hlen'
    have hCl : (castL G).length = G.length := by simp [castL]
    simp (disch := omega) only [go_sem, a7l4, a7r27, hclen, w4, hE1.ev]
    simp (disch := omega) only [go_sem, a7r28, hE1.ev]
    refine Wp_loop (fun z : Nat × Nat => z.2 ≤ G.length) (fun (t, k) => { fr := [(1, .lbox 0 [slv p.sn false p.sites, slv p.fn false p.fns]), (7, v1), (13, slv ncs false cs), (15, .int .i64 (p.fns.length : Nat)), (18, .int .i64 (i : Nat)), (19, .int .i64 (k : Nat))], st := t, h := h2 }) (fun z => G.length - z.2) (_, 0) rfl (Nat.zero_le _) ?_
    rintro ⟨t4, k⟩ k1
    simp only at k1
    by_cases c2 : k < G.length
    · have w2 : decide (((k : Nat) : Int) < ((G.length : Nat) : Int)) = true := decide_eq_true (by omega)
      have hkl : k < (castL G).length := by rw [hCl]; exact c2
      have hgk := castL_get c2
      obtain ⟨x1, x2⟩ := hmem _ (getD_mem c2)
      generalize G.getD k 0 = x at hgk x1 x2
      obtain ⟨o1, e1, rfl, hrow⟩ := hv1 (by omega)
      have l1 := ldU (f := R) x1
      have l2 := ldU (f := R) c1
      simp (disch := omega) only [go_sem, a7l3, a7r29, hil, hcl, hCl, w2]
      simp (disch := omega) only [go_sem, a7d30, hil, hcl, hCl, c2, hkl, hgk, hrow, x1, c1, Nat.mul_one, l1, l2]
      refine WD_den (k := 0) (vs := [.int .u64 (R x : Nat), .int .u64 (R i : Nat)]) (by rw [hP.pure]; rfl) (by simp (disch := omega) only [go_sem]) (within26_den hP (hlt x x1) (hlt i c1)) (fun v hv => by subst hv; rfl) (fun v hv => by subst hv; simp (disch := omega) only [go_sem]) (fun v hv => ?_)
      subst hv
      rw [decide_eq_true (show R x ||| R i = R i from x2)]
      simp (disch := omega) only [go_sem]
      simp (disch := omega) only [go_sem, a7r32]
      exact ⟨(_, k + 1), by simp only; omega, by simp only; omega, by push_cast; rfl⟩
    · have w2 : decide (((k : Nat) : Int) < ((G.length : Nat) : Int)) = false := decide_eq_false (by omega)
      simp (disch := omega) only [go_sem, a7l3, a7r29, hil, hcl, hCl, w2, hE1.ev]
      simp (disch := omega) only [go_sem, a7r33, hE1.ev]
      exact ⟨(_, i + 1), by simp only; omega, by simp only; omega, by push_cast; rfl⟩
  have w4 : decide (((i : Nat) : Int) < ((p.fns.length : Nat) : Int)) = false := decide_eq_false (by omega)
  simp (disch := omega) only [go_sem, a7l4, a7r27, hclen, w4, hE1.ev]
  simp (disch := omega) only [go_sem, a7r34, hE1.ev]
  refine WO.den (k := 0) (vs := []) (by rw [hP.pure]; rfl) (by simp (disch := omega) only [go_sem]) hP.awake_den (fun v hv => by subst hv; rfl) (fun v hv => ?_)
  subst hv
  simp (disch := omega) only [go_sem]
end Go.Am.Ef

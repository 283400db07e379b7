/- Identifiers (lex.Ident, and the document's). -/
import Derived.Test.YtpcopgdkcoiljaaDkAll5
set_option linter.unusedSimpArgs false
set_option linter.unusedVariables false
namespace Go.Am
section
variable {base : Nat} {d : Option Nat} {s : St}
def bytesO (s : St) (o : Nat) : Option AV → Option (AV × St)
 | some (.str b) => some (newRowA s o 1 b.length false (byteCells b))
 | _ => none
@[go_sem] theorem W_toBytes {x : Opd} {k : Nat} : aop base d (.toBytes x k) s = bytesO s (base + k) (x.ev s.fr):=rfl
theorem byteCells_map : ∀ l : List UInt8,byteCells (l.map UInt8.toNat) = l.flatMap Enc.cells
 | [] => rfl
 | c :: r => by rw [List.map_cons,byteCells,byteCells_map r]; rfl
@[go_sem] theorem bytesO_strv (s : St) (o : Nat) (l : List UInt8) : bytesO s o (some (strv l)) = some (.hs 1 o 0 0 l.length false, { s with h:=s.h.put o (.row 1 0 (l.flatMap Enc.cells)) }):=by
 show some (newRowA s o 1 (l.map UInt8.toNat).length false (byteCells (l.map UInt8.toNat))) = _
 rw [byteCells_map,List.length_map]; rfl
end
end Go.Am
namespace Go.Am.Ef
open Go.Am
variable {P : Prog}
set_option maxRecDepth 20000
set_option maxHeartbeats 1000000
theorem bin_or_u8 (c : UInt8) : binA .or (.int .u8 (c.toNat : Nat)) (.int .u8 32) = some (.int .u8 ((c ||| 32).toNat : Nat)):=by
 show some (AV.int .u8 (wrapA .u8 (((BitVec.ofInt 8 (c.toNat : Nat) ||| BitVec.ofInt 8 32).toNat : Nat) : Int))) = _
 have h1 : BitVec.ofInt 8 ((c.toNat : Nat) : Int) = c.toBitVec:=by
  apply BitVec.eq_of_toNat_eq
  simp only[BitVec.toNat_ofInt,UInt8.toNat_toBitVec]
  have:=c.toNat_lt; omega
 have h2 : (BitVec.ofInt 8 ((c.toNat : Nat) : Int) ||| BitVec.ofInt 8 32).toNat = (c ||| 32).toNat:=by rw [h1]; rfl
 rw [h2,wrapA_u8 (by omega) (by have:=(c ||| 32).toNat_lt; omega)]
def letB (c : UInt8) : Bool:=decide (97 ≤ (c ||| 32).toNat) && decide ((c ||| 32).toNat ≤ 122) || decide (c.toNat = 95)
def digB (c : UInt8) : Bool:=decide (48 ≤ c.toNat) && decide (c.toNat ≤ 57)
def letR (c : UInt8) : Bool:=decide (97 ≤ c.toNat) && decide (c.toNat ≤ 122) || decide (65 ≤ c.toNat) && decide (c.toNat ≤ 90) || decide (c.toNat = 95)
theorem letB_R (c : UInt8) : letB c = letR c:=by
 have h : ∀ n : Fin 256,letB (UInt8.ofNat n.val) = letR (UInt8.ofNat n.val):=by decide
 have:=h ⟨c.toNat,c.toNat_lt⟩
 rwa [UInt8.ofNat_toNat] at this
theorem letter67_den (hP : EfP P) (c : UInt8) : Den P 67 [.int .u8 (c.toNat : Nat)] (fun v => v = .bool (letB c)):=by
 refine Den.of (code:=a67c) (hP.code rfl) (fun N => ?_)
 have h1:=bin_or_u8 c
 unfold letB
 generalize (c ||| 32).toNat = m at h1 ⊢
 generalize c.toNat = q at h1 ⊢
 simp (disch:=omega) only[go_sem,a67c,a67r0]
 by_cases c1 : 97 ≤ m
 ·by_cases c2 : m ≤ 122
  ·simp (disch:=omega) only[go_sem,a67r1,h1,decide_eq_true (show (97 : Int) ≤ ((m : Nat) : Int) by omega),decide_eq_true (show ((m : Nat) : Int) ≤ (122 : Int) by omega),c1,c2]
  ·by_cases c3 : q = 95
   ·simp (disch:=omega) only[go_sem,a67r1,h1,decide_eq_true (show (97 : Int) ≤ ((m : Nat) : Int) by omega),decide_eq_false (show ¬ ((m : Nat) : Int) ≤ (122 : Int) by omega),decide_eq_true (show ((q : Nat) : Int) = (95 : Int) by omega),c1,c2,decide_eq_true c3]
   ·simp (disch:=omega) only[go_sem,a67r1,h1,decide_eq_true (show (97 : Int) ≤ ((m : Nat) : Int) by omega),decide_eq_false (show ¬ ((m : Nat) : Int) ≤ (122 : Int) by omega),decide_eq_false (show ¬ ((q : Nat) : Int) = (95 : Int) by omega),c1,c2,decide_eq_false c3]
 ·by_cases c3 : q = 95
  ·simp (disch:=omega) only[go_sem,a67r1,h1,decide_eq_false (show ¬ (97 : Int) ≤ ((m : Nat) : Int) by omega),decide_eq_true (show ((q : Nat) : Int) = (95 : Int) by omega),c1,decide_eq_true c3]
  ·simp (disch:=omega) only[go_sem,a67r1,h1,decide_eq_false (show ¬ (97 : Int) ≤ ((m : Nat) : Int) by omega),decide_eq_false (show ¬ ((q : Nat) : Int) = (95 : Int) by omega),c1,decide_eq_false c3]
theorem digit70_den (hP : EfP P) (c : UInt8) : Den P 70 [.int .u8 (c.toNat : Nat)] (fun v => v = .bool (digB c)):=by
 refine Den.of (code:=a70c) (hP.code rfl) (fun N => ?_)
 unfold digB
 generalize c.toNat = q
 simp (disch:=omega) only[go_sem,a70c,a70r0]
 by_cases c1 : 48 ≤ q
 ·by_cases c2 : q ≤ 57
  ·simp (disch:=omega) only[go_sem,a70r1,decide_eq_true (show (48 : Int) ≤ ((q : Nat) : Int) by omega),decide_eq_true (show ((q : Nat) : Int) ≤ (57 : Int) by omega),c1,c2]
  ·simp (disch:=omega) only[go_sem,a70r1,decide_eq_true (show (48 : Int) ≤ ((q : Nat) : Int) by omega),decide_eq_false (show ¬ ((q : Nat) : Int) ≤ (57 : Int) by omega),c1,c2]
 ·simp (disch:=omega) only[go_sem,a70r1,decide_eq_false (show ¬ (48 : Int) ≤ ((q : Nat) : Int) by omega),c1]
theorem digit72_den (hP : EfP P) (c : UInt8) : Den P 72 [.int .u8 (c.toNat : Nat)] (fun v => v = .bool (digB c)):=by
 refine Den.of (code:=a72c) (hP.code rfl) (fun N => ?_)
 unfold digB
 generalize c.toNat = q
 simp (disch:=omega) only[go_sem,a72c,a72r0]
 by_cases c1 : 48 ≤ q
 ·by_cases c2 : q ≤ 57
  ·simp (disch:=omega) only[go_sem,a72r1,decide_eq_true (show (48 : Int) ≤ ((q : Nat) : Int) by omega),decide_eq_true (show ((q : Nat) : Int) ≤ (57 : Int) by omega),c1,c2]
  ·simp (disch:=omega) only[go_sem,a72r1,decide_eq_true (show (48 : Int) ≤ ((q : Nat) : Int) by omega),decide_eq_false (show ¬ ((q : Nat) : Int) ≤ (57 : Int) by omega),c1,c2]
 ·simp (disch:=omega) only[go_sem,a72r1,decide_eq_false (show ¬ (48 : Int) ≤ ((q : Nat) : Int) by omega),c1]
theorem letter71_den (hP : EfP P) (c : UInt8) : Den P 71 [.int .u8 (c.toNat : Nat)] (fun v => v = .bool (letR c)):=by
 refine Den.of (code:=a71c) (hP.code rfl) (fun N => ?_)
 unfold letR
 generalize c.toNat = q
 simp (disch:=omega) only[go_sem,a71c,a71r0]
 have hd : ∀ (a b : Int) (x y : Nat),a = (x : Int) → b = (y : Int) → decide (a ≤ b) = decide (x ≤ y):=fun a b x y e1 e2 => decide_eq_decide.2 (by omega)
 have e1:=hd 97 q 97 q rfl rfl
 have e2:=hd q 122 q 122 rfl rfl
 have e3:=hd 65 q 65 q rfl rfl
 have e4:=hd q 90 q 90 rfl rfl
 have e5 : decide ((q : Int) = 95) = decide (q = 95):=decide_eq_decide.2 (by omega)
 cases h1 : decide (97 ≤ q) <;> cases h2 : decide (q ≤ 122) <;> cases h3 : decide (65 ≤ q) <;> cases h4 : decide (q ≤ 90) <;> cases h5 : decide (q = 95) <;> rw [h1] at e1 <;> rw [h2] at e2 <;> rw [h3] at e3 <;> rw [h4] at e4 <;> rw [h5] at e5 <;> simp (disch:=omega) only[go_sem,a71r1,e1,e2,e3,e4,e5]
theorem any69_den (hP : EfP P) (c : UInt8) : Den P 69 [.int .u8 (c.toNat : Nat)] (fun v => v = .bool (letB c || digB c)):=by
 refine Den.of (code:=a69c) (hP.code rfl) (fun N => ?_)
 simp (disch:=omega) only[go_sem,a69c,a69r0]
 simp (disch:=omega) only[go_sem,a69r1]
 refine WO.den (k:=0) (vs:=[.int .u8 (c.toNat : Nat)]) (by rw [hP.pure]; rfl) (by simp (disch:=omega) only[go_sem]) (letter67_den hP c) (fun v hv => by subst hv; rfl) (fun v hv => ?_)
 subst hv
 cases hl : letB c with
 | true => simp (disch:=omega) only[go_sem]
 | false =>
  simp (disch:=omega) only[go_sem]
  refine WO.den (k:=0) (vs:=[.int .u8 (c.toNat : Nat)]) (by rw [hP.pure]; rfl) (by simp (disch:=omega) only[go_sem]) (digit70_den hP c) (fun v hv => by subst hv; rfl) (fun v hv => ?_)
  subst hv
  simp (disch:=omega) only[go_sem]
def kws : List (List UInt8):=[[105,109,112,111,114,116],[108,97,116,116,105,99,101],[101,102,102,101,99,116,115],[118,97,114],[102,110],[108,101,116],[105,102],[101,108,115,101],[119,104,105,108,101],[114,101,116,117,114,110],[100,111],[116,114,117,101],[102,97,108,115,101],[105,110,116],[98,111,111,108],[100,101,99,108,97,115,115,105,102,121]]
theorem key66_den (hP : EfP P) (s : List UInt8) : Den P 66 [strv s] (fun v => v = .bool (decide (s ∈ kws))):=by
 refine Den.of (code:=a66c) (hP.code rfl) (fun N => ?_)
 simp (disch:=omega) only[go_sem,a66c,a66r0]
 simp (disch:=omega) only[go_sem,a66r1]
 simp (disch:=omega) only[go_sem,a66r2]
 refine condS_if (fun c0 => ?_) (fun c0 => ?_)
 ·simp (disch:=omega) only[go_sem,decide_eq_true c0]
  simp (disch:=omega) only[go_sem,a66r18]
  rw [c0]; rfl
 simp (disch:=omega) only[go_sem,a66r3]
 refine condS_if (fun c1 => ?_) (fun c1 => ?_)
 ·simp (disch:=omega) only[go_sem,decide_eq_true c1]
  simp (disch:=omega) only[go_sem,a66r18]
  rw [c1]; rfl
 simp (disch:=omega) only[go_sem,a66r4]
 refine condS_if (fun c2 => ?_) (fun c2 => ?_)
 ·simp (disch:=omega) only[go_sem,decide_eq_true c2]
  simp (disch:=omega) only[go_sem,a66r18]
  rw [c2]; rfl
 simp (disch:=omega) only[go_sem,a66r5]
 refine condS_if (fun c3 => ?_) (fun c3 => ?_)
 ·simp (disch:=omega) only[go_sem,decide_eq_true c3]
  simp (disch:=omega) only[go_sem,a66r18]
  rw [c3]; rfl
 simp (disch:=omega) only[go_sem,a66r6]
 refine condS_if (fun c4 => ?_) (fun c4 => ?_)
 ·simp (disch:=omega) only[go_sem,decide_eq_true c4]
  simp (disch:=omega) only[go_sem,a66r18]
  rw [c4]; rfl
 simp (disch:=omega) only[go_sem,a66r7]
 refine condS_if (fun c5 => ?_) (fun c5 => ?_)
 ·simp (disch:=omega) only[go_sem,decide_eq_true c5]
  simp (disch:=omega) only[go_sem,a66r18]
  rw [c5]; rfl
 simp (disch:=omega) only[go_sem,a66r8]
 refine condS_if (fun c6 => ?_) (fun c6 => ?_)
 ·simp (disch:=omega) only[go_sem,decide_eq_true c6]
  simp (disch:=omega) only[go_sem,a66r18]
  rw [c6]; rfl
 simp (disch:=omega) only[go_sem,a66r9]
 refine condS_if (fun c7 => ?_) (fun c7 => ?_)
 ·simp (disch:=omega) only[go_sem,decide_eq_true c7]
  simp (disch:=omega) only[go_sem,a66r18]
  rw [c7]; rfl
 simp (disch:=omega) only[go_sem,a66r10]
 refine condS_if (fun c8 => ?_) (fun c8 => ?_)
 ·simp (disch:=omega) only[go_sem,decide_eq_true c8]
  simp (disch:=omega) only[go_sem,a66r18]
  rw [c8]; rfl
 simp (disch:=omega) only[go_sem,a66r11]
 refine condS_if (fun c9 => ?_) (fun c9 => ?_)
 ·simp (disch:=omega) only[go_sem,decide_eq_true c9]
  simp (disch:=omega) only[go_sem,a66r18]
  rw [c9]; rfl
 simp (disch:=omega) only[go_sem,a66r12]
 refine condS_if (fun c10 => ?_) (fun c10 => ?_)
 ·simp (disch:=omega) only[go_sem,decide_eq_true c10]
  simp (disch:=omega) only[go_sem,a66r18]
  rw [c10]; rfl
 simp (disch:=omega) only[go_sem,a66r13]
 refine condS_if (fun c11 => ?_) (fun c11 => ?_)
 ·simp (disch:=omega) only[go_sem,decide_eq_true c11]
  simp (disch:=omega) only[go_sem,a66r18]
  rw [c11]; rfl
 simp (disch:=omega) only[go_sem,a66r14]
 refine condS_if (fun c12 => ?_) (fun c12 => ?_)
 ·simp (disch:=omega) only[go_sem,decide_eq_true c12]
  simp (disch:=omega) only[go_sem,a66r18]
  rw [c12]; rfl
 simp (disch:=omega) only[go_sem,a66r15]
 refine condS_if (fun c13 => ?_) (fun c13 => ?_)
 ·simp (disch:=omega) only[go_sem,decide_eq_true c13]
  simp (disch:=omega) only[go_sem,a66r18]
  rw [c13]; rfl
 simp (disch:=omega) only[go_sem,a66r16]
 refine condS_if (fun c14 => ?_) (fun c14 => ?_)
 ·simp (disch:=omega) only[go_sem,decide_eq_true c14]
  simp (disch:=omega) only[go_sem,a66r18]
  rw [c14]; rfl
 simp (disch:=omega) only[go_sem,a66r17]
 refine condS_if (fun c15 => ?_) (fun c15 => ?_)
 ·simp (disch:=omega) only[go_sem,a66r18]
  rw [c15]; rfl
 simp (disch:=omega) only[go_sem,a66r19]
 rw [decide_eq_false (by simp only[kws,List.mem_cons,List.not_mem_nil,or_false,c0,c1,c2,c3,c4,c5,c6,c7,c8,c9,c10,c11,c12,c13,c14,c15,not_false_eq_true])]
def anyB (c : UInt8) : Bool:=letB c || digB c
theorem run68_den (hP : EfP P) (s : List UInt8) (nl full : Bool) (hl : s.length ≤ 1000) : Den P 68 [slv nl full s, .fn 69 []] (fun v => ∃ i : Nat,v = .int .i64 (i : Nat) ∧ i ≤ s.length ∧ (i = s.length ↔ s.all anyB = true)):=by
 refine Den.of (code:=a68c) (hP.code rfl) (fun N => ?_)
 simp (disch:=omega) only[go_sem,a68c,a68r0]
 simp (disch:=omega) only[go_sem,a68r1]
 refine Wp_loop (fun z : Nat × Nat => z.2 ≤ s.length ∧ (s.take z.2).all anyB = true) (fun (t,i) => { fr:=[(0,slv nl full s),(1, .fn 69 []),(5, .int .i64 (i : Nat))],st:=t,h:={ next:=N,m:=.leaf } }) (fun z => s.length - z.2) (_,0) rfl ⟨Nat.zero_le _,rfl⟩ ?_
 rintro ⟨t,i⟩ ⟨i1,i2⟩
 simp only at i1 i2
 by_cases c1 : i < s.length
 ·have w1 : decide (((i : Nat) : Int) < ((s.length : Nat) : Int)) = true:=decide_eq_true (by omega)
  have hst : s.take (i + 1) = s.take i ++ [s.getD i default]:=by
   rw [List.take_succ_eq_append_getElem c1,List.getD_eq_getElem?_getD,List.getElem?_eq_getElem c1]; rfl
  simp (disch:=omega) only[go_sem,a68l0,a68r2,w1,c1]
  refine WO_denv (f:=69) (caps:=[]) (k:=0) (vs:=[.int .u8 ((s.getD i default).toNat : Nat)]) rfl (by rw [hP.pure]; rfl) (by simp (disch:=omega) only[go_sem]) (any69_den hP _) (fun v hv => by subst hv; rfl) (fun v hv => ?_)
  subst hv
  cases hq : anyB (s.getD i default) with
  | true =>
   have hq' : (letB (s.getD i default) || digB (s.getD i default)) = true:=hq
   rw [hq']
   simp (disch:=omega) only[go_sem]
   simp (disch:=omega) only[go_sem,a68r3]
   exact ⟨(t,i + 1),⟨by simp only; omega,by simp only[hst,List.all_append,i2,List.all_cons,List.all_nil,hq]; rfl⟩,by simp only; omega,by push_cast; rfl⟩
  | false =>
   have hq' : (letB (s.getD i default) || digB (s.getD i default)) = false:=hq
   rw [hq']
   simp (disch:=omega) only[go_sem]
   simp (disch:=omega) only[go_sem,a68r4]
   refine ⟨i,rfl,i1,fun e => by omega,fun h => ?_⟩
   have:=List.all_eq_true.1 h _ (slv_get c1)
   rw [hq] at this; simp at this
 ·have w1 : decide (((i : Nat) : Int) < ((s.length : Nat) : Int)) = false:=decide_eq_false (by omega)
  have e : i = s.length:=by omega
  simp (disch:=omega) only[go_sem,a68l0,a68r2,w1]
  simp (disch:=omega) only[go_sem,a68r4]
  subst e
  rw [List.take_length] at i2
  exact ⟨s.length,rfl,Nat.le_refl _,fun _ => i2,fun _ => rfl⟩
def identB (s : List UInt8) : Bool:=!decide (s = []) && decide (s.length ≤ 24) && !decide (s ∈ kws) && letB (s.getD 0 default) && s.all anyB
theorem ident39_den (hP : EfP P) (s : List UInt8) : Den P 39 [strv s] (fun v => v = .bool (identB s)):=by
 refine Den.of (code:=a39c) (hP.code rfl) (fun N => ?_)
 simp (disch:=omega) only[go_sem,a39c,a39r0]
 by_cases c1 : s = []
 ·subst c1
  simp (disch:=omega) only[go_sem,a39r1]
  simp (disch:=omega) only[go_sem,a39r2]
  rfl
 have d1:=decide_eq_false c1
 have hpos : 0 < s.length:=List.length_pos_iff.2 c1
 by_cases c2 : s.length ≤ 24
 ·have d2 : decide ((24 : Int) < ((s.length : Nat) : Int)) = false:=decide_eq_false (by omega)
  have hidx:=str_idx s .i64 0 (by omega) (by omega)
  simp (disch:=omega) only[go_sem,a39r1,d1,d2]
  refine WO.den (k:=0) (vs:=[strv s]) (by rw [hP.pure]; rfl) (by simp (disch:=omega) only[go_sem]) (key66_den hP s) (fun v hv => by subst hv; rfl) (fun v hv => ?_)
  subst hv
  cases hk : decide (s ∈ kws) with
  | true =>
   simp (disch:=omega) only[go_sem]
   simp (disch:=omega) only[go_sem,a39r2]
   rw [identB,hk]; simp
  | false =>
   simp (disch:=omega) only[go_sem,hidx]
   refine WO.den (k:=0) (vs:=[.int .u8 ((s.getD 0 0).toNat : Nat)]) (by rw [hP.pure]; rfl) (by simp (disch:=omega) only[go_sem]) (letter67_den hP _) (fun v hv => by subst hv; rfl) (fun v hv => ?_)
   subst hv
   have hid : identB s = (letB (s.getD 0 0) && s.all anyB):=by
    rw [identB,hk,d1,decide_eq_true c2]; rfl
   rw [hid]
   cases hlb : letB (s.getD 0 0) with
   | false =>
    simp (disch:=omega) only[go_sem]
    simp (disch:=omega) only[go_sem,a39r2]
   | true =>
    simp (disch:=omega) only[go_sem]
    simp (disch:=omega) only[go_sem,a39r3]
    refine WO.den (k:=1) (vs:=[.hs 1 N 0 0 s.length false, .fn 69 []]) (by rw [hP.pure]; rfl) (by simp (disch:=omega) only[go_sem]) (R:=fun v => ∃ i : Nat,v = .int .i64 (i : Nat) ∧ i ≤ s.length ∧ (i = s.length ↔ s.all anyB = true)) ?_ (fun v hv => by obtain ⟨i,rfl, -⟩:=hv; rfl) (fun v hv => ?_)
    ·have e0 : ∀ h : Heap,h.get N = some (.row 1 0 (s.flatMap Enc.cells)) → frz h 0 40 (.hs 1 N 0 0 s.length false) = slv false false s:=fun h hg => (frz_hs (α:=UInt8) (off:=0) (len:=s.length) (N:=0) (n:=39) (full:=false) (l:=s) hg (by omega) (Nat.zero_le _)).trans (by simp)
     simp only[lent_11,List.map_cons,List.map_nil]
     rw [e0 _ (get_put_same _ _ _)]
     exact run68_den hP s false false (by omega)
    ·obtain ⟨i,rfl,i1,i2⟩:=hv
     have : decide (((i : Nat) : Int) = ((s.length : Nat) : Int)) = s.all anyB:=by
      rw [Bool.eq_iff_iff,decide_eq_true_eq, ← i2]; omega
     simp (disch:=omega) only[go_sem,this]
 ·have d2 : decide ((24 : Int) < ((s.length : Nat) : Int)) = true:=decide_eq_true (by omega)
  simp (disch:=omega) only[go_sem,a39r1,d1,d2]
  simp (disch:=omega) only[go_sem,a39r2]
  rw [identB,decide_eq_false c2]; simp
end Go.Am.Ef
/- A table of effects is made (row.New). -/
namespace Go.Am.Ef
open Go.Am
variable {P : Prog}
set_option maxRecDepth 20000
set_option maxHeartbeats 1000000
def badN (out : List (List UInt8)) (s : List UInt8) : Option Nat:=if identB s = false then some 1 else if s ∈ out then some 7 else if out.length = 64 then some 8 else none
def namesK (l : List NameV) (k : Nat) : List (List UInt8):=(l.take k).map (·.name)
def badK (l : List NameV) (k : Nat) : Option Nat:=badN (namesK l k) (l.getD k default).name
theorem namesK_succ {l : List NameV} {k : Nat} (h : k < l.length) : namesK l (k + 1) = namesK l k ++ [(l.getD k default).name]:=by
 unfold namesK
 rw [List.take_succ_eq_append_getElem h,List.map_append,List.getD_eq_getElem?_getD,List.getElem?_eq_getElem h]; rfl
theorem namesK_len {l : List NameV} {k : Nat} (h : k ≤ l.length) : (namesK l k).length = k:=by simp [namesK]; omega
def NewR (l : List NameV) (h : Heap) (v : AV) (h' : Heap) : Prop :=
 (∃ k e,k < l.length ∧ (∀ j,j < k → badK l j = none) ∧ badK l k = some e ∧ v = .tup [.nilp, .int .i64 (k : Nat), .int .i64 (e : Nat)] ∧ Old h h') ∨
 ((∀ j,j < l.length → badK l j = none) ∧ ∃ o,v = .tup [.ptr o 0, .int .i64 0, .int .i64 0] ∧ TabB h'.next h' o (l.map (·.name)) ∧ Old h h')
def o8 : Option Bool → Fr
 | none => []
 | some b => [(8, .bool b)]
theorem o8_none : o8 none = []:=rfl
theorem o8_some (b : Bool) : o8 (some b) = [(8, .bool b)]:=rfl
structure NewI (h g : Heap) (m o : Nat) (names : List (List UInt8)) (v : AV) (es : TMap) (bs : List Nat) (ck : Nat) : Prop where
 t : TabAt g o m names v es bs ck
 own : ∀ i,rowOf v = some i → o < i ∧ i < g.next
 mo : m < o ∧ h.next ≤ m ∧ o < g.next
 old : Old h g
theorem posN_snoc {names : List (List UInt8)} {x : List UInt8} (hx : x ∉ names) (s : List UInt8) : posN (names ++ [x]) s = if s = x then some names.length else posN names s:=by
 unfold posN
 by_cases e : s = x
 ·subst e
  rw [if_pos (by simp),if_pos rfl]
  congr 1
  rw [List.idxOf_append,if_neg hx]
  simp
 ·rw [if_neg e]
  by_cases hm : s ∈ names
  ·rw [if_pos (List.mem_append_left _ hm),if_pos hm,List.idxOf_append,if_pos hm]
  ·rw [if_neg (by simp [hm,e]),if_neg hm]
theorem tget_tput (k s : List UInt8) (v : AV) : ∀ es : TMap,tget s (tput k v es) = if s = k then some v else tget s es
 | [] => by
  simp only[tput,tget]
  by_cases e : k = s
  ·rw [if_pos e,if_pos e.symm]
  ·rw [if_neg e,if_neg (Ne.symm e)]
 | p :: r => by
  rw [tput]
  by_cases e : p.1 = k
  ·rw [if_pos e]
   simp only[tget]
   by_cases e2 : k = s
   ·rw [if_pos e2,if_pos e2.symm]
   ·rw [if_neg e2,if_neg (Ne.symm e2),if_neg (by rw [e]; exact e2)]
  ·rw [if_neg e]
   simp only[tget]
   by_cases e2 : p.1 = s
   ·rw [if_pos e2,if_pos e2,if_neg (by rw [← e2]; exact e)]
   ·rw [if_neg e2,if_neg e2,tget_tput k s v r]
theorem NewI.step {h g : Heap} {m o : Nat} {names : List (List UInt8)} {v : AV} {es : TMap} {bs : List Nat} {ck : Nat} (I : NewI h g m o names v es bs ck) {x : List UInt8} (hx : x ∉ names) (hl : names.length < 64) {g1 g2 : Heap} {v' : AV}
  (e1 : g1 = (g.put m (putM x (.int .i64 (names.length : Nat)) es bs ck))) (hr : RowV g2 v' (names ++ [x])) (hn : g2.next = g1.next + 1) (ho : rowOf v' = rowOf v ∨ rowOf v' = some g1.next) (hf : ∀ q,q ≠ g1.next → rowOf v ≠ some q → g2.get q = g1.get q) :
  ∃ es' bs' ck',NewI h (g2.put o (.cells [v', .mp m])) m o (names ++ [x]) v' es' bs' ck':=by
 have hm:=I.mo
 have hg1 : g1.next = g.next:=by rw [e1]; rfl
 have hvm : rowOf v ≠ some m:=fun e => by have:=I.own m e; omega
 have hvo : rowOf v ≠ some o:=fun e => by have:=I.own o e; omega
 have hgm : g2.get m = some (putM x (.int .i64 (names.length : Nat)) es bs ck):=by
  rw [hf m (by omega) hvm,e1,get_put_same]
 have hp : ∃ bs' ck',putM x (.int .i64 (names.length : Nat)) es bs ck = .map (kv (tput x (.int .i64 (names.length : Nat)) es)) bs' ck':=by
  unfold putM; split
  ·exact ⟨_, _,rfl⟩
  ·exact ⟨_, _,rfl⟩
 obtain ⟨bs',ck',hp⟩:=hp
 have hown : ∀ i,rowOf v' = some i → o < i ∧ i < g2.next:=fun i e => by
  rcases ho with e2 | e2 <;> rw [e2] at e
  ·have:=I.own i e; omega
  ·have:=Option.some.inj e; omega
 refine ⟨tput x (.int .i64 (names.length : Nat)) es,bs',ck',⟨⟨get_put_same _ _ _, ?_, ?_,fun s => ?_,by simp; omega⟩,hown,⟨hm.1,hm.2.1,by show o < g2.next; omega⟩,⟨by show h.next ≤ g2.next; have:=I.old.next; omega,fun i hi => ?_⟩⟩⟩
 ·rw [get_put_ne _ _ _ _ (by omega),hgm,hp]
 ·rcases hr with e | ⟨q,ep,e,hq⟩
  ·exact .inl e
  ·have:=hown q (by rw [e]; rfl)
   exact .inr ⟨q,ep,e,by rw [get_put_ne _ _ _ _ (by omega)]; exact hq⟩
 ·rw [tget_tput,posN_snoc hx]
  by_cases e : s = x
  ·rw [if_pos e,if_pos e]; rfl
  ·rw [if_neg e,if_neg e]; exact I.t.get s
 ·rw [get_put_ne _ _ _ _ (by omega),hf i (by have:=I.old.next; omega) (fun e => by have:=I.own i e; omega),e1,get_put_ne _ _ _ _ (by omega)]
  exact I.old.keep i hi
theorem rowv_evs {α : Type} [Enc α] {h : Heap} {v : AV} {l : List α} (hr : RowV h v l) : Evs v:=by
 rcases hr with ⟨rfl, -⟩ | ⟨o,ep,rfl, -⟩
 ·exact ⟨fun i => rfl,rfl,rfl,rfl⟩
 ·exact ⟨fun i => rfl,rfl,rfl,rfl⟩
theorem rowv_len {α : Type} [Enc α] {h : Heap} {v : AV} {l : List α} (hr : RowV h v l) : lenA h v = some l.length:=by
 rcases hr with ⟨rfl,rfl⟩ | ⟨o,ep,rfl, -⟩
 ·rfl
 ·rfl
theorem new_fun (hP : EfP P) (h : Heap) (nl fl : Bool) (l : List NameV) (hl : l.length ≤ 100000) : Fun P 16 [slv nl fl l] h (fun v h' => NewR l h v h'):=by
 refine Fun.of (code:=a16c) (hP.code rfl) (by rw [hP.pure]; rfl) ?_
 simp (disch:=omega) only[go_sem,a16c,a16r0]
 simp (disch:=omega) only[go_sem,a16r1]
 simp (disch:=omega) only[go_sem,a16r2]
 refine Wp_loop (fun z : Nat × Nat × Option Bool × AV × TMap × List Nat × Nat × Heap => z.2.1 ≤ l.length ∧ (∀ j,j < z.2.1 → badK l j = none) ∧ NewI h z.2.2.2.2.2.2.2 h.next (h.next + 1) (namesK l z.2.1) z.2.2.2.1 z.2.2.2.2.1 z.2.2.2.2.2.1 z.2.2.2.2.2.2.1)
  (fun (t,k,q,v,es,bs,ck,g) => { fr:=[(2, .ptr (h.next + 1) 0)] ++ o8 q ++ [(12,slv nl fl l),(13, .int .i64 (l.length : Nat)),(14, .int .i64 (k : Nat))],st:=t,h:=g }) (fun z => l.length - z.2.1) (0,0,none, .nils,[],[],0, _) rfl ⟨Nat.zero_le _,fun j hj => by simp only at hj; omega,⟨⟨get_put_same _ _ _,by rw [get_put_ne _ _ _ _ (by omega)]; exact get_put_same _ _ _, .inl ⟨rfl,rfl⟩,fun s => rfl,Nat.zero_le _⟩,fun i e => by simp [rowOf] at e,⟨by omega,by omega,by show h.next + 1 < h.next + 2; omega⟩,⟨by show h.next ≤ h.next + 2; omega,fun i hi => by rw [get_put_ne _ _ _ _ (by omega),get_put_ne _ _ _ _ (by omega)]; rfl⟩⟩⟩ ?_
 rintro ⟨t,k,q,v,es,bs,ck,g⟩ ⟨k1,k2,I⟩
 simp only at k1 k2 I
 have hE:=rowv_evs I.t.row
 by_cases c1 : k < l.length
 ·have w1 : decide (((k : Nat) : Int) < ((l.length : Nat) : Int)) = true:=decide_eq_true (by omega)
  have hlen:=rowv_len I.t.row
  have hg:=I.t.get (l.getD k default).name
  have hkl:=namesK_len k1
  have hbk : badK l k = badN (namesK l k) (l.getD k default).name:=rfl
  have hsucc:=namesK_succ c1
  generalize namesK l k = names at I hg hlen hkl hbk hsucc
  have hgb : ∀ e,badK l k = some e → ∀ g',Old h g' → NewR l h (.tup [.nilp, .int .i64 (k : Nat), .int .i64 (e : Nat)]) g':=fun e he g' ho => .inl ⟨k,e,c1,k2,he,rfl,ho⟩
  have hk2' : badK l k = none → ∀ j,j < k + 1 → badK l j = none:=fun he j hj => by
   by_cases e : j = k
   ·rw [e]; exact he
   ·exact k2 j (by omega)
  cases q with
  | none =>
   simp only[o8_none,o8_some,List.cons_append,List.nil_append]
   cases hp : posN names (l.getD k default).name with
   | none =>
    rw [hp,Option.map_none] at hg
    have hx : (l.getD k default).name ∉ names:=fun hm => by rw [posN,if_pos hm] at hp; simp at hp
    simp (disch:=omega) only[go_sem,a16l0,a16r3,w1]
    simp (disch:=omega) only[go_sem,a16r4,c1]
    simp (disch:=omega) only[go_sem,a16d5,I.t.tab,I.t.map,hg,Option.getD_none,Option.isSome_none]
    simp (disch:=omega) only[go_sem,a16r6]
    refine WO.den (k:=0) (vs:=[strv (l.getD k default).name]) (by rw [hP.pure]; rfl) (by simp (disch:=omega) only[go_sem]) (ident39_den hP _) (fun v hv => by subst hv; rfl) (fun v hv => ?_)
    subst hv
    cases hid : identB (l.getD k default).name with
    | false =>
     simp (disch:=omega) only[go_sem]
     simp (disch:=omega) only[go_sem,a16r7]
     exact hgb 1 (by rw [hbk,badN,if_pos hid]) g I.old
    | true =>
     simp (disch:=omega) only[go_sem]
     simp (disch:=omega) only[go_sem,a16r8]
     simp (disch:=omega) only[go_sem,a16r10,I.t.tab,hE.ev,hE.tag,hlen]
     by_cases c3 : names.length = 64
     ·have d3 : decide (((names.length : Nat) : Int) = (64 : Int)) = true:=decide_eq_true (by omega)
      simp (disch:=omega) only[go_sem,d3]
      simp (disch:=omega) only[go_sem,a16r11]
      exact hgb 8 (by rw [hbk,badN,if_neg (by rw [hid]; simp),if_neg hx,if_pos c3]) g I.old
     ·have d3 : decide (((names.length : Nat) : Int) = (64 : Int)) = false:=decide_eq_false (by omega)
      have hbn : badK l k = none:=by rw [hbk,badN,if_neg (by rw [hid]; simp),if_neg hx,if_neg c3]
      have h64:=I.t.len
      have hmo:=I.mo
      simp (disch:=omega) only[go_sem,d3]
      simp (disch:=omega) only[go_sem,a16d12,I.t.tab,I.t.map,hE.ev,hE.tag,hE.dat,hlen]
      have ht2 : (g.put h.next (putM (l.getD k default).name (.int .i64 (names.length : Nat)) es bs ck)).get (h.next + 1) = some (.cells [v, .mp h.next]):=by rw [get_put_ne _ _ _ _ (by omega)]; exact I.t.tab
      have hr2 : RowV (g.put h.next (putM (l.getD k default).name (.int .i64 (names.length : Nat)) es bs ck)) v names:=by
       rcases I.t.row with e | ⟨i,ep,e,hq⟩
       ·exact .inl e
       ·have:=I.own i (by rw [e]; rfl)
        exact .inr ⟨i,ep,e,by rw [get_put_ne _ _ _ _ (by omega)]; exact hq⟩
      generalize hg1 : g.put h.next (putM (l.getD k default).name (.int .i64 (names.length : Nat)) es bs ck) = g1 at ht2 hr2
      have hn1 : g1.next = g.next:=by rw [← hg1]; rfl
      have ht3 : (g1.reserve 1).get (h.next + 1) = some (.cells [v, .mp h.next]):=ht2
      have hr3 : RowV (g1.reserve 1) v names:=hr2
      simp (disch:=omega) only[go_sem,a16d13,ht3,hE.ev,hE.tag,hE.dat,hlen]
      refine dS_app (α:=List UInt8) (bytes:=16) (l:=names) (new:=[(l.getD k default).name]) hr3 (adds_one (α:=List UInt8) _ (l.getD k default).name _ true rfl) rfl (by simp only[List.length_cons,List.length_nil,two47]; omega) (fun v' g2 q1 q2 q3 q4 => ?_)
      have hE2:=rowv_evs q1
      have ht4 : g2.get (h.next + 1) = some (.cells [v, .mp h.next]):=by
       rw [q4 _ (by omega) (fun e => by have:=I.own _ e; omega)]; exact ht3
      obtain ⟨es',bs',ck',I2⟩:=I.step hx (by omega) hg1.symm q1 q2 (by rw [hn1]; exact q3) (by rw [hn1]; exact q4)
      rw [← hsucc] at I2
      simp (disch:=omega) only[go_sem,hE2.ev,hE2.tag,hE2.dat,hE2.cel]
      refine WD_storeP (val:=v') (off:=0) (o:=h.next + 1) (c':=[v', .mp h.next]) (by simp (disch:=omega) only[go_sem]) (by simp (disch:=omega) only[go_sem,hE2.dat,hE2.ev]) (by rw [hE2.cel]; rfl) ht4 (by rw [hE2.cel]; rfl) rfl ?_
      simp (disch:=omega) only[go_sem]
      simp (disch:=omega) only[go_sem,a16r14]
      exact ⟨(_,k + 1,some false,v',es',bs',ck', _),⟨by simp only; omega,hk2' hbn,I2⟩,by simp only; omega,by simp only[o8_some,List.cons_append,List.nil_append]; push_cast; rfl⟩
   | some pk =>
    rw [hp,Option.map_some] at hg
    have hx : (l.getD k default).name ∈ names:=Classical.byContradiction (fun hm => by rw [posN,if_neg hm] at hp; simp at hp)
    simp (disch:=omega) only[go_sem,a16l0,a16r3,w1]
    simp (disch:=omega) only[go_sem,a16r4,c1]
    simp (disch:=omega) only[go_sem,a16d5,I.t.tab,I.t.map,hg,Option.getD_some,Option.isSome_some]
    simp (disch:=omega) only[go_sem,a16r6]
    refine WO.den (k:=0) (vs:=[strv (l.getD k default).name]) (by rw [hP.pure]; rfl) (by simp (disch:=omega) only[go_sem]) (ident39_den hP _) (fun v hv => by subst hv; rfl) (fun v hv => ?_)
    subst hv
    cases hid : identB (l.getD k default).name with
    | false =>
     simp (disch:=omega) only[go_sem]
     simp (disch:=omega) only[go_sem,a16r7]
     exact hgb 1 (by rw [hbk,badN,if_pos hid]) g I.old
    | true =>
     simp (disch:=omega) only[go_sem]
     simp (disch:=omega) only[go_sem,a16r8]
     simp (disch:=omega) only[go_sem,a16r9]
     exact hgb 7 (by rw [hbk,badN,if_neg (by rw [hid]; simp),if_pos hx]) g I.old
  | some b0 =>
   simp only[o8_none,o8_some,List.cons_append,List.nil_append]
   cases hp : posN names (l.getD k default).name with
   | none =>
    rw [hp,Option.map_none] at hg
    have hx : (l.getD k default).name ∉ names:=fun hm => by rw [posN,if_pos hm] at hp; simp at hp
    simp (disch:=omega) only[go_sem,a16l0,a16r3,w1]
    simp (disch:=omega) only[go_sem,a16r4,c1]
    simp (disch:=omega) only[go_sem,a16d5,I.t.tab,I.t.map,hg,Option.getD_none,Option.isSome_none]
    simp (disch:=omega) only[go_sem,a16r6]
    refine WO.den (k:=0) (vs:=[strv (l.getD k default).name]) (by rw [hP.pure]; rfl) (by simp (disch:=omega) only[go_sem]) (ident39_den hP _) (fun v hv => by subst hv; rfl) (fun v hv => ?_)
    subst hv
    cases hid : identB (l.getD k default).name with
    | false =>
     simp (disch:=omega) only[go_sem]
     simp (disch:=omega) only[go_sem,a16r7]
     exact hgb 1 (by rw [hbk,badN,if_pos hid]) g I.old
    | true =>
     simp (disch:=omega) only[go_sem]
     simp (disch:=omega) only[go_sem,a16r8]
     simp (disch:=omega) only[go_sem,a16r10,I.t.tab,hE.ev,hE.tag,hlen]
     by_cases c3 : names.length = 64
     ·have d3 : decide (((names.length : Nat) : Int) = (64 : Int)) = true:=decide_eq_true (by omega)
      simp (disch:=omega) only[go_sem,d3]
      simp (disch:=omega) only[go_sem,a16r11]
      exact hgb 8 (by rw [hbk,badN,if_neg (by rw [hid]; simp),if_neg hx,if_pos c3]) g I.old
     ·have d3 : decide (((names.length : Nat) : Int) = (64 : Int)) = false:=decide_eq_false (by omega)
      have hbn : badK l k = none:=by rw [hbk,badN,if_neg (by rw [hid]; simp),if_neg hx,if_neg c3]
      have h64:=I.t.len
      have hmo:=I.mo
      simp (disch:=omega) only[go_sem,d3]
      simp (disch:=omega) only[go_sem,a16d12,I.t.tab,I.t.map,hE.ev,hE.tag,hE.dat,hlen]
      have ht2 : (g.put h.next (putM (l.getD k default).name (.int .i64 (names.length : Nat)) es bs ck)).get (h.next + 1) = some (.cells [v, .mp h.next]):=by rw [get_put_ne _ _ _ _ (by omega)]; exact I.t.tab
      have hr2 : RowV (g.put h.next (putM (l.getD k default).name (.int .i64 (names.length : Nat)) es bs ck)) v names:=by
       rcases I.t.row with e | ⟨i,ep,e,hq⟩
       ·exact .inl e
       ·have:=I.own i (by rw [e]; rfl)
        exact .inr ⟨i,ep,e,by rw [get_put_ne _ _ _ _ (by omega)]; exact hq⟩
      generalize hg1 : g.put h.next (putM (l.getD k default).name (.int .i64 (names.length : Nat)) es bs ck) = g1 at ht2 hr2
      have hn1 : g1.next = g.next:=by rw [← hg1]; rfl
      have ht3 : (g1.reserve 1).get (h.next + 1) = some (.cells [v, .mp h.next]):=ht2
      have hr3 : RowV (g1.reserve 1) v names:=hr2
      simp (disch:=omega) only[go_sem,a16d13,ht3,hE.ev,hE.tag,hE.dat,hlen]
      refine dS_app (α:=List UInt8) (bytes:=16) (l:=names) (new:=[(l.getD k default).name]) hr3 (adds_one (α:=List UInt8) _ (l.getD k default).name _ true rfl) rfl (by simp only[List.length_cons,List.length_nil,two47]; omega) (fun v' g2 q1 q2 q3 q4 => ?_)
      have hE2:=rowv_evs q1
      have ht4 : g2.get (h.next + 1) = some (.cells [v, .mp h.next]):=by
       rw [q4 _ (by omega) (fun e => by have:=I.own _ e; omega)]; exact ht3
      obtain ⟨es',bs',ck',I2⟩:=I.step hx (by omega) hg1.symm q1 q2 (by rw [hn1]; exact q3) (by rw [hn1]; exact q4)
      rw [← hsucc] at I2
      simp (disch:=omega) only[go_sem,hE2.ev,hE2.tag,hE2.dat,hE2.cel]
      refine WD_storeP (val:=v') (off:=0) (o:=h.next + 1) (c':=[v', .mp h.next]) (by simp (disch:=omega) only[go_sem]) (by simp (disch:=omega) only[go_sem,hE2.dat,hE2.ev]) (by rw [hE2.cel]; rfl) ht4 (by rw [hE2.cel]; rfl) rfl ?_
      simp (disch:=omega) only[go_sem]
      simp (disch:=omega) only[go_sem,a16r14]
      exact ⟨(_,k + 1,some false,v',es',bs',ck', _),⟨by simp only; omega,hk2' hbn,I2⟩,by simp only; omega,by simp only[o8_some,List.cons_append,List.nil_append]; push_cast; rfl⟩
   | some pk =>
    rw [hp,Option.map_some] at hg
    have hx : (l.getD k default).name ∈ names:=Classical.byContradiction (fun hm => by rw [posN,if_neg hm] at hp; simp at hp)
    simp (disch:=omega) only[go_sem,a16l0,a16r3,w1]
    simp (disch:=omega) only[go_sem,a16r4,c1]
    simp (disch:=omega) only[go_sem,a16d5,I.t.tab,I.t.map,hg,Option.getD_some,Option.isSome_some]
    simp (disch:=omega) only[go_sem,a16r6]
    refine WO.den (k:=0) (vs:=[strv (l.getD k default).name]) (by rw [hP.pure]; rfl) (by simp (disch:=omega) only[go_sem]) (ident39_den hP _) (fun v hv => by subst hv; rfl) (fun v hv => ?_)
    subst hv
    cases hid : identB (l.getD k default).name with
    | false =>
     simp (disch:=omega) only[go_sem]
     simp (disch:=omega) only[go_sem,a16r7]
     exact hgb 1 (by rw [hbk,badN,if_pos hid]) g I.old
    | true =>
     simp (disch:=omega) only[go_sem]
     simp (disch:=omega) only[go_sem,a16r8]
     simp (disch:=omega) only[go_sem,a16r9]
     exact hgb 7 (by rw [hbk,badN,if_neg (by rw [hid]; simp),if_pos hx]) g I.old
 ·have w1 : decide (((k : Nat) : Int) < ((l.length : Nat) : Int)) = false:=decide_eq_false (by omega)
  have e : k = l.length:=by omega
  have hall : namesK l k = l.map (·.name):=by unfold namesK; rw [e,List.take_length]
  rw [e] at k2
  rw [hall] at I
  have hend : NewR l h (.tup [.ptr (h.next + 1) 0, .int .i64 0, .int .i64 0]) g:=.inr ⟨k2,h.next + 1,rfl,⟨_, _, _, _, _,I.t,I.mo.2.2,by have:=I.mo; omega,fun i e => (I.own i e).2⟩,I.old⟩
  cases q with
  | none =>
   simp only[o8_none,o8_some,List.cons_append,List.nil_append]
   simp (disch:=omega) only[go_sem,a16l0,a16r3,w1]
   simp (disch:=omega) only[go_sem,a16r15]
   exact hend
  | some b =>
   simp only[o8_none,o8_some,List.cons_append,List.nil_append]
   simp (disch:=omega) only[go_sem,a16l0,a16r3,w1]
   simp (disch:=omega) only[go_sem,a16r15]
   exact hend
end Go.Am.Ef
/- EffectOne: where no row is declared,functions of one group have one row. -/
namespace Go.Am.Ef
open Go.Am
variable {P : Prog}
set_option maxRecDepth 20000
set_option maxHeartbeats 1000000
theorem within26_den (hP : EfP P) {a b : Nat} (ha : a < 2 ^ 64) (hb : b < 2 ^ 64) : Den P 26 [.int .u64 (a : Nat), .int .u64 (b : Nat)] (fun v => v = .bool (decide (a ||| b = b))):=by
 refine Den.of (code:=a26c) (hP.code rfl) (fun N => ?_)
 obtain ⟨c,h1,h2⟩:=bin_andNot_u64 ha hb
 have h3 : decide (((c : Nat) : Int) = (0 : Int)) = decide (a ||| b = b):=decide_eq_decide.2 (by rw [← h2]; omega)
 simp (disch:=omega) only[go_sem,a26c,a26r0]
 simp (disch:=omega) only[go_sem,a26r1,h1,h3]
def NoRow (p : ProgV) : Prop:=∀ i,i < p.fns.length → (p.fns.getD i default).some = false ∧ (p.fns.getD i default).row = []
def cntG (s : TS) (N : Nat) (E : List Nat) (i : Nat) : Nat:=((E.take i).map (fun k => (grp s N k).length)).sum
end Go.Am.Ef
/- Rows are kept (effect.Check). -/
namespace Go.Am.Ef
open Go.Am
variable {P : Prog}
set_option maxRecDepth 20000
set_option maxHeartbeats 1000000
def needR (names : List (List UInt8)) (R : Nat → Nat) (d : Deed) : Nat:=if 0 ≤ d.fn then R d.fn.toNat else match posN names d.name with
 | some k => 2 ^ k
 | none => 0
def badD (names : List (List UInt8)) (R : Nat → Nat) (l : List Deed) (m : Nat) : Option Nat:=l.findIdx? (fun d => !decide (needR names R d ||| m = m))
def badA (names : List (List UInt8)) (R : Nat → Nat) (p : ProgV) (i : Nat) : Option Nat:=badD names R (deedsF (p.fns.getD i default)) (R i)
def CheckR (names : List (List UInt8)) (p : ProgV) (v : AV) : Prop :=
  (mayP p = false ∧ v = .tup [.int .i64 0, .int .i64 0, .int .i64 1]) ∨
  (mayP p = true ∧ ∃ i pos,i < p.fns.length ∧ (∀ j,j < i → badF names (p.fns.getD j default) = none) ∧ badF names (p.fns.getD i default) = some pos ∧ v = .tup [.int .i64 (i : Nat), .int .i64 pos, .int .i64 13]) ∨
  (mayP p = true ∧ (∀ f ∈ p.fns,badF names f = none) ∧ ∃ R,Lfp (RDof names p) R ∧
    ((∃ i n,i < p.fns.length ∧ (∀ j,j < i → badA names R p j = none) ∧ badA names R p i = some n ∧ v = .tup [.int .i64 (i : Nat), .int .i64 ((deedsF (p.fns.getD i default)).getD n default).pos, .int .i64 20]) ∨
     ((∀ j,j < p.fns.length → badA names R p j = none) ∧ v = .tup [.int .i64 0, .int .i64 0, .int .i64 0])))
theorem findIdx_at {α : Type} [Inhabited α] {q : α → Bool} {l : List α} {k : Nat} (hk : k < l.length) (h1 : ∀ i,i < k → q (l.getD i default) = false) (h2 : q (l.getD k default) = true) : l.findIdx? q = some k:=by
 rw [List.findIdx?_eq_some_iff_getElem]
 have e : ∀ i (hi : i < l.length),l[i] = l.getD i default:=fun i hi => by rw [List.getD_eq_getElem?_getD,List.getElem?_eq_getElem hi]; rfl
 refine ⟨hk,by rw [e]; exact h2,fun j hj => by rw [e,h1 j hj]; simp⟩
theorem findIdx_no {α : Type} [Inhabited α] {q : α → Bool} {l : List α} (h1 : ∀ i,i < l.length → q (l.getD i default) = false) : l.findIdx? q = none:=by
 rw [List.findIdx?_eq_none_iff]
 intro x hx
 obtain ⟨i,hi,rfl⟩:=List.getElem_of_mem hx
 have:=h1 i hi
 rwa [List.getD_eq_getElem?_getD,List.getElem?_eq_getElem hi] at this
theorem needR_lt {names : List (List UInt8)} (hn : names.length ≤ 64) {R : Nat → Nat} {N : Nat} (hR : ∀ x,x < N → R x < 2 ^ 64) {d : Deed} (hd : d.fn = -1 ∨ (0 ≤ d.fn ∧ d.fn < (N : Nat))) : needR names R d < 2 ^ 64:=by
 unfold needR
 split
 ·exact hR _ (by omega)
 ·cases h : posN names d.name with
  | none => show (0 : Nat) < 2 ^ 64; decide
  | some k => exact pow_lt64 (by have:=posN_lt h; omega)
theorem mask_mem {names : List (List UInt8)} : ∀ (l : List NameV) (x : NameV),x ∈ l → sub (2 ^ (posN names x.name).getD 0) (maskL names l):=fun l => by
 have : ∀ r : List NameV, ∀ x ∈ r.reverse,sub (2 ^ (posN names x.name).getD 0) (maskL names r.reverse):=fun r => by
  induction r with
  | nil => intro x hx; simp at hx
  | cons y r ih =>
   intro x hx
   rw [List.reverse_cons] at hx ⊢
   rw [maskL_snoc]
   rcases List.mem_append.1 hx with h | h
   ·exact sub_trans (ih x h) (sub_or_left _ _)
   ·rw [List.mem_singleton.1 h]; exact sub_or_right _ _
 have:=this l.reverse
 rwa [List.reverse_reverse] at this
theorem badF_none {names : List (List UInt8)} {f : FuncV} (h : badF names f = none) : ∀ x ∈ effD (deedsF f),(posN names x.name).isSome = true:=by
 unfold badF at h
 cases h1 : badL names f.row with
 | some k => rw [h1] at h; simp at h
 | none =>
  rw [h1] at h
  cases h2 : badL names (effD (deedsF f)) with
  | some k => rw [h2] at h; simp at h
  | none => exact badL_none.1 h2
theorem check19_fun (hP : EfP P) {h : Heap} {o b : Nat} {names : List (List UInt8)} (T : TabB b h o names) (hb : b ≤ h.next) (p : ProgV) (hw : ProgWf p) (hc : mayP p = true → CallsOk p) (hn : p.fns.length ≤ 100000) (hd : ∀ f ∈ p.fns,(deedsF f).length ≤ 100000) : Fun P 19 [p.av, .ptr o 0] h (fun v h' => CheckR names p v ∧ Old h h'):=by
 refine Fun.of (code:=a19c) (hP.code rfl) (by rw [hP.pure]; rfl) ?_
 have hnl:=T.tab.small
 unfold ProgV.av
 simp (disch:=omega) only[go_sem,a19c,a19r0]
 simp (disch:=omega) only[go_sem,a19r1]
 refine WO.fun (vs:=[p.av, .ptr o 0]) (by simp (disch:=omega) only[go_sem]; rfl) (rows18_fun hP T hb p hw hc hn hd) (fun v h2 hv => ?_)
 rcases hv with ⟨hm,rfl,hO⟩ | ⟨hm,i,pos,hi,hj,hbi,rfl,hO⟩ | ⟨hm,hall,v1,R,rfl,B1,HL⟩
 ·simp (disch:=omega) only[go_sem]
  simp (disch:=omega) only[go_sem,a19r2]
  simp (disch:=omega) only[go_sem,a19r3]
  exact ⟨.inl ⟨hm,rfl⟩,hO⟩
 ·simp (disch:=omega) only[go_sem]
  simp (disch:=omega) only[go_sem,a19r2]
  simp (disch:=omega) only[go_sem,a19r3]
  exact ⟨.inr (.inl ⟨hm,i,pos,hi,hj,hbi,rfl⟩),hO⟩
 have hE1:=B1.evs
 have T2:=(T.old (h':=h2) (fun i hi => B1.keep i (by omega))).tab
 have hv1 : 0 < p.fns.length → ∃ o ep,v1 = .hs 1 o ep 0 p.fns.length false ∧ h2.get o = some (.row 1 ep (u64T p.fns.length R)):=fun hp => by
  rcases B1.row with ⟨-,e⟩ | ⟨o,ep,e,hq⟩
  ·have h3 : (usL p.fns.length R).length = 0:=by rw [e]; rfl
   rw [len_usL] at h3; omega
  ·rw [len_usL] at e; rw [flat_us] at hq; exact ⟨o,ep,e,hq⟩
 have hlt : ∀ x,x < p.fns.length → R x < 2 ^ 64:=fun x hx => HL.low.lt x hx
 simp (disch:=omega) only[go_sem,hE1.ev,hE1.dat]
 simp (disch:=omega) only[go_sem,a19r2,hE1.ev]
 simp (disch:=omega) only[go_sem,a19r4,hE1.ev]
 refine Wp_loop (fun z : Nat × Nat => z.2 ≤ p.fns.length ∧ ∀ j,j < z.2 → badA names R p j = none) (fun (t,i) => { fr:=[(1, .ptr o 0),(4, .int .i64 0),(5, .int .i64 0),(6, .int .i64 0),(7,v1),(29,slv p.fn false p.fns),(30, .int .i64 (p.fns.length : Nat)),(31, .int .i64 (i : Nat))],st:=t,h:=h2 }) (fun z => p.fns.length - z.2) (_,0) rfl ⟨Nat.zero_le _,fun j hj => by simp only at hj; omega⟩ ?_
 rintro ⟨t,i⟩ ⟨i1,i2⟩
 simp only at i1 i2
 by_cases c1 : i < p.fns.length
 ·have w1 : decide (((i : Nat) : Int) < ((p.fns.length : Nat) : Int)) = true:=decide_eq_true (by omega)
  have hf:=hw.fns.2 _ (slv_get c1)
  have hdf:=hd _ (slv_get c1)
  have hdm:=deedsF_may hm _ (slv_get c1)
  have hbA : ∀ D,deedsF (p.fns.getD i default) = D → badA names R p i = badD names R D (R i):=fun D e => by rw [badA,e]
  have hps : ∀ D,deedsF (p.fns.getD i default) = D → ∀ n,badA names R p i = some n → ∀ v,v = .tup [.int .i64 (i : Nat), .int .i64 (D.getD n default).pos, .int .i64 20] → CheckR names p v ∧ Old h h2:=fun D e n hn v hv => ⟨.inr (.inr ⟨hm,hall,R,HL, .inl ⟨i,n,c1,i2,hn,by rw [e]; exact hv⟩⟩),B1.old⟩
  simp (disch:=omega) only[go_sem,a19l1,a19r5,w1,hE1.ev]
  simp (disch:=omega) only[go_sem,a19r6,c1,hE1.ev]
  simp (disch:=omega) only[go_sem,a19r7,hE1.ev]
  refine WO.den (k:=0) (vs:=[.agg (Enc.cells (p.fns.getD i default))]) (by rw [hP.pure]; rfl) (by simp (disch:=omega) only[go_sem]) (deeds31_den hP _ hf hdf) (fun v hv => by obtain ⟨nl,rfl⟩:=hv; exact alone1_slv _ _ _) (fun v hv => ?_)
  obtain ⟨nlD,rfl⟩:=hv
  generalize hD : deedsF (p.fns.getD i default) = D at hdf hdm hbA hps ⊢
  have hbA:=hbA D rfl
  have hps:=hps D rfl
  simp (disch:=omega) only[go_sem,hE1.ev]
  refine Wp_loop (fun z : Nat × Nat => z.2 ≤ D.length ∧ ∀ j,j < z.2 → (!decide (needR names R (D.getD j default) ||| R i = R i)) = false) (fun (t,k) => { fr:=[(1, .ptr o 0),(4, .int .i64 0),(5, .int .i64 0),(6, .int .i64 0),(7,v1),(8, .int .i64 (i : Nat)),(29,slv p.fn false p.fns),(30, .int .i64 (p.fns.length : Nat)),(31, .int .i64 (i : Nat)),(37,slv nlD false D),(38, .int .i64 (D.length : Nat)),(39, .int .i64 (k : Nat))],st:=t,h:=h2 }) (fun z => D.length - z.2) (_,0) rfl ⟨Nat.zero_le _,fun j hj => by simp only at hj; omega⟩ ?_
  rintro ⟨t2,k⟩ ⟨k1,k2⟩
  simp only at k1 k2
  by_cases c2 : k < D.length
  ·have w2 : decide (((k : Nat) : Int) < ((D.length : Nat) : Int)) = true:=decide_eq_true (by omega)
   have hdk:=hdm _ (slv_get c2)
   have hnlt:=needR_lt (names:=names) hnl hlt hdk
   obtain ⟨o1,e1,rfl,hrow⟩:=hv1 (by omega)
   have l2:=ldU (f:=R) c1
   simp (disch:=omega) only[go_sem,a19l0,a19r8,w2]
   simp (disch:=omega) only[go_sem,a19r9,c2]
   simp (disch:=omega) only[go_sem,a19r10]
   by_cases c3 : 0 ≤ (D.getD k default).fn
   ·obtain ⟨x,hx⟩ : ∃ x : Nat,(D.getD k default).fn = (x : Nat):=⟨(D.getD k default).fn.toNat,by omega⟩
    have hxn : x < p.fns.length:=by omega
    have hneed : needR names R (D.getD k default) = R x:=by rw [needR,if_pos c3,hx]; rfl
    have l1:=ldU (f:=R) hxn
    have w3 : decide ((0 : Int) ≤ ((x : Nat) : Int)) = true:=decide_eq_true (by omega)
    have w3' : decide (((x : Nat) : Int) ≥ (0 : Int)) = true:=decide_eq_true (by omega)
    simp (disch:=omega) only[go_sem,a19r11,hx,w3,w3']
    simp (disch:=omega) only[go_sem,a19r12,hx,hrow,hxn,Nat.mul_one,l1]
    rw [← hneed]
    generalize hnn : needR names R (D.getD k default) = nn at hnlt
    simp (disch:=omega) only[go_sem,a19r16,hrow,c1,Nat.mul_one,l2]
    refine WO.den (k:=0) (vs:=[.int .u64 (nn : Nat), .int .u64 (R i : Nat)]) (by rw [hP.pure]; rfl) (by simp (disch:=omega) only[go_sem]) (within26_den hP hnlt (hlt i c1)) (fun v hv => by subst hv; rfl) (fun v hv => ?_)
    subst hv
    by_cases c4 : nn ||| R i = R i
    ·rw [decide_eq_true c4]
     simp (disch:=omega) only[go_sem]
     simp (disch:=omega) only[go_sem,a19r18]
     refine ⟨(_,k + 1),⟨by simp only; omega,fun j hj => ?_⟩,by simp only; omega,by push_cast; rfl⟩
     simp only at hj
     by_cases e : j = k
     ·rw [e,hnn,decide_eq_true c4]; rfl
     ·exact k2 j (by omega)
    ·rw [decide_eq_false c4]
     simp (disch:=omega) only[go_sem]
     simp (disch:=omega) only[go_sem,a19d17]
     exact hps k (by rw [hbA]; exact findIdx_at c2 k2 (by rw [hnn,decide_eq_false c4]; rfl)) _ rfl
   ·have w3 : decide ((0 : Int) ≤ (D.getD k default).fn) = false:=decide_eq_false c3
    have w3' : decide ((D.getD k default).fn ≥ (0 : Int)) = false:=decide_eq_false c3
    simp (disch:=omega) only[go_sem,a19r11,w3,w3']
    simp (disch:=omega) only[go_sem,a19r13]
    refine WO.fun (vs:=[.ptr o 0,strv (D.getD k default).name]) (by simp (disch:=omega) only[go_sem]) (find43_fun hP T2 _) (fun v h' hv => ?_)
    obtain ⟨ev,eh⟩:=hv
    rw [ev,eh]
    cases hp : posN names (D.getD k default).name with
    | none =>
     have hneed : needR names R (D.getD k default) = 0:=by rw [needR,if_neg c3,hp]
     simp (disch:=omega) only[go_sem,Option.getD_none,Option.isSome_none]
     simp (disch:=omega) only[go_sem,a19r14]
     have hz : AV.int .u64 0 = .int .u64 ((needR names R (D.getD k default) : Nat) : Int):=by rw [hneed]; rfl
     rw [hz]
     generalize hnn : needR names R (D.getD k default) = nn at hnlt
     simp (disch:=omega) only[go_sem,a19r16,hrow,c1,Nat.mul_one,l2]
     refine WO.den (k:=0) (vs:=[.int .u64 (nn : Nat), .int .u64 (R i : Nat)]) (by rw [hP.pure]; rfl) (by simp (disch:=omega) only[go_sem]) (within26_den hP hnlt (hlt i c1)) (fun v hv => by subst hv; rfl) (fun v hv => ?_)
     subst hv
     by_cases c4 : nn ||| R i = R i
     ·rw [decide_eq_true c4]
      simp (disch:=omega) only[go_sem]
      simp (disch:=omega) only[go_sem,a19r18]
      refine ⟨(_,k + 1),⟨by simp only; omega,fun j hj => ?_⟩,by simp only; omega,by push_cast; rfl⟩
      simp only at hj
      by_cases e : j = k
      ·rw [e,hnn,decide_eq_true c4]; rfl
      ·exact k2 j (by omega)
     ·rw [decide_eq_false c4]
      simp (disch:=omega) only[go_sem]
      simp (disch:=omega) only[go_sem,a19d17]
      exact hps k (by rw [hbA]; exact findIdx_at c2 k2 (by rw [hnn,decide_eq_false c4]; rfl)) _ rfl
    | some pk =>
     have hneed : needR names R (D.getD k default) = 2 ^ pk:=by rw [needR,if_neg c3,hp]
     have hpk:=posN_lt hp
     have h1:=bin_shl_u64 (k:=pk) (by omega)
     simp (disch:=omega) only[go_sem,Option.getD_some,Option.isSome_some]
     simp (disch:=omega) only[go_sem,a19r14]
     simp (disch:=omega) only[go_sem,a19r15,h1]
     rw [← hneed]
     generalize hnn : needR names R (D.getD k default) = nn at hnlt
     simp (disch:=omega) only[go_sem,a19r16,hrow,c1,Nat.mul_one,l2]
     refine WO.den (k:=0) (vs:=[.int .u64 (nn : Nat), .int .u64 (R i : Nat)]) (by rw [hP.pure]; rfl) (by simp (disch:=omega) only[go_sem]) (within26_den hP hnlt (hlt i c1)) (fun v hv => by subst hv; rfl) (fun v hv => ?_)
     subst hv
     by_cases c4 : nn ||| R i = R i
     ·rw [decide_eq_true c4]
      simp (disch:=omega) only[go_sem]
      simp (disch:=omega) only[go_sem,a19r18]
      refine ⟨(_,k + 1),⟨by simp only; omega,fun j hj => ?_⟩,by simp only; omega,by push_cast; rfl⟩
      simp only at hj
      by_cases e : j = k
      ·rw [e,hnn,decide_eq_true c4]; rfl
      ·exact k2 j (by omega)
     ·rw [decide_eq_false c4]
      simp (disch:=omega) only[go_sem]
      simp (disch:=omega) only[go_sem,a19d17]
      exact hps k (by rw [hbA]; exact findIdx_at c2 k2 (by rw [hnn,decide_eq_false c4]; rfl)) _ rfl
  ·have w2 : decide (((k : Nat) : Int) < ((D.length : Nat) : Int)) = false:=decide_eq_false (by omega)
   have e : k = D.length:=by omega
   subst e
   simp (disch:=omega) only[go_sem,a19l0,a19r8,w2,hE1.ev]
   simp (disch:=omega) only[go_sem,a19r19,hE1.ev]
   refine ⟨(_,i + 1),⟨by simp only; omega,fun j hj => ?_⟩,by simp only; omega,by push_cast; rfl⟩
   simp only at hj
   by_cases e : j = i
   ·rw [e,hbA]; exact findIdx_no k2
   ·exact i2 j (by omega)
 have w1 : decide (((i : Nat) : Int) < ((p.fns.length : Nat) : Int)) = false:=decide_eq_false (by omega)
 have e : i = p.fns.length:=by omega
 subst e
 simp (disch:=omega) only[go_sem,a19l1,a19r5,w1,hE1.ev]
 simp (disch:=omega) only[go_sem,a19r20]
 exact ⟨.inr (.inr ⟨hm,hall,R,HL, .inr ⟨i2,rfl⟩⟩),B1.old⟩
end Go.Am.Ef
/- Sets as numbers,the document's way (blazonref13.Bit,blazonref15.Has,or). -/
namespace Go.Am.Ef
open Go.Am
variable {P : Prog}
set_option maxRecDepth 20000
set_option maxHeartbeats 1000000
theorem bin_two_u64 {i : Nat} (h : i + 1 < 64) : binA .mul (.int .u64 2) (.int .u64 ((2 ^ i : Nat) : Int)) = some (.int .u64 ((2 ^ (i + 1) : Nat) : Int)):=by
 show some (AV.int .u64 (wrapA .u64 (2 * ((2 ^ i : Nat) : Int)))) = _
 have h2 : 2 ^ (i + 1) < 2 ^ 64:=Nat.pow_lt_pow_right (by omega) h
 rw [two64] at h2
 have h3 : 2 ^ (i + 1) = 2 * 2 ^ i:=by rw [Nat.pow_succ,Nat.mul_comm]
 rw [h3] at h2 ⊢
 generalize 2 ^ i = q at h2 ⊢
 rw [wrapA_u64 (by omega) (by omega)]
 push_cast; rfl
theorem bit49_den (hP : EfP P) {k : Nat} (hk : k < 64) : Den P 49 [.int .i64 (k : Nat)] (fun v => v = .int .u64 ((2 ^ k : Nat) : Int)):=by
 refine Den.of (code:=a49c) (hP.code rfl) (fun N => ?_)
 simp (disch:=omega) only[go_sem,a49c,a49r0]
 simp (disch:=omega) only[go_sem,a49r1]
 simp (disch:=omega) only[go_sem,a49r2]
 refine Wp_loop (fun z : Nat × Nat => z.2 ≤ k) (fun (t,i) => { fr:=[(0, .int .i64 (k : Nat)),(3, .int .u64 ((2 ^ i : Nat) : Int)),(4, .int .i64 (i : Nat))],st:=t,h:={ next:=N,m:=.leaf } }) (fun z => k - z.2) (_,0) rfl (Nat.zero_le _) ?_
 rintro ⟨t,i⟩ i1
 simp only at i1
 by_cases c1 : i < k
 ·have w1 : decide (((i : Nat) : Int) < ((k : Nat) : Int)) = true:=decide_eq_true (by omega)
  have h1:=bin_two_u64 (i:=i) (by omega)
  have hq : ∀ q : Nat,2 ^ i = q → True:=fun _ _ => trivial
  simp only
  generalize hg : 2 ^ i = q at h1
  simp (disch:=omega) only[go_sem,a49l0,a49r3,w1]
  simp (disch:=omega) only[go_sem,a49r4,h1]
  simp (disch:=omega) only[go_sem,a49r5]
  exact ⟨(_,i + 1),by simp only; omega,by simp only; omega,by push_cast; rfl⟩
 ·have w1 : decide (((i : Nat) : Int) < ((k : Nat) : Int)) = false:=decide_eq_false (by omega)
  have e : i = k:=by omega
  subst e
  simp only
  generalize 2 ^ i = q
  simp (disch:=omega) only[go_sem,a49l0,a49r3,w1]
  simp (disch:=omega) only[go_sem,a49r6]
theorem has24_den (hP : EfP P) {a k : Nat} (ha : a < 2 ^ 64) (hk : k < 64) : Den P 24 [.int .u64 (a : Nat), .int .i64 (k : Nat)] (fun v => v = .bool (a.testBit k)):=by
 refine Den.of (code:=a24c) (hP.code rfl) (fun N => ?_)
 simp (disch:=omega) only[go_sem,a24c,a24r0]
 simp (disch:=omega) only[go_sem,a24r1]
 refine WO.den (k:=0) (vs:=[.int .i64 (k : Nat)]) (by rw [hP.pure]; rfl) (by simp (disch:=omega) only[go_sem]) (bit49_den hP hk) (fun v hv => by subst hv; rfl) (fun v hv => ?_)
 subst hv
 have h0 : 0 < 2 ^ k:=Nat.pow_pos (by omega)
 have hb:=pow_lt64 hk
 rw [Nat.testBit_eq_decide_div_mod_eq]
 generalize 2 ^ k = q at h0 hb
 rw [two64] at ha hb
 have h1 : binA .quo (.int .u64 (a : Nat)) (.int .u64 (q : Nat)) = some (.int .u64 ((a / q : Nat) : Int)):=by
  rw [bin_quo _ _ _ (by omega)]
  have e : ((a : Nat) : Int).tdiv ((q : Nat) : Int) = ((a / q : Nat) : Int):=rfl
  have:=Nat.div_le_self a q
  rw [e]
  generalize a / q = m at this
  rw [wrapA_u64 (by omega) (by omega)]
 generalize a / q = m at h1
 have h2 : binA .rem (.int .u64 (m : Nat)) (.int .u64 2) = some (.int .u64 ((m % 2 : Nat) : Int)):=rfl
 have h3 : decide (((m % 2 : Nat) : Int) = (1 : Int)) = decide (m % 2 = 1):=decide_eq_decide.2 (by omega)
 generalize m % 2 = r at h2 h3
 simp (disch:=omega) only[go_sem,h1,h2,h3]
end Go.Am.Ef
/- Names,the document's way (blazonref06.Ident,blazonref13.Find,blazonref16.New,Great). -/
namespace Go.Am.Ef
open Go.Am
variable {P : Prog}
set_option maxRecDepth 20000
set_option maxHeartbeats 1000000
theorem ldS {l : List (List UInt8)} {i : Nat} (h : i < l.length) : ((dropN i (l.flatMap Enc.cells)).bind fun r => takeN 1 r) = some [strv (l.getD i default)]:=by
 refine sub1 ?_
 induction l generalizing i with
 | nil => simp at h
 | cons a l ih =>
  cases i with
  | zero => rfl
  | succ i => exact ih (by simpa using h)
theorem key73_den (hP : EfP P) (s : List UInt8) : Den P 73 [strv s] (fun v => v = .bool (decide (s ∈ kws))):=by
 refine Den.of (code:=a73c) (hP.code rfl) (fun N => ?_)
 simp (disch:=omega) only[go_sem,a73c,a73r0]
 simp (disch:=omega) only[go_sem,a73r1]
 have hk : kws.length = 16:=rfl
 have hkf : [strv [105,109,112,111,114,116],strv [108,97,116,116,105,99,101],strv [101,102,102,101,99,116,115],strv [118,97,114],strv [102,110],strv [108,101,116],strv [105,102],strv [101,108,115,101],strv [119,104,105,108,101],strv [114,101,116,117,114,110],strv [100,111],strv [116,114,117,101],strv [102,97,108,115,101],strv [105,110,116],strv [98,111,111,108],strv [100,101,99,108,97,115,115,105,102,121]] = kws.flatMap Enc.cells:=rfl
 rw [hkf]
 have hg : (({ next:=N,m:=.leaf } : Heap).reserve 1 |>.put N (.row 1 0 (kws.flatMap Enc.cells))).get N = some (.row 1 0 (kws.flatMap Enc.cells)):=get_put_same _ _ _
 generalize (({ next:=N,m:=.leaf } : Heap).reserve 1).put N (.row 1 0 (kws.flatMap Enc.cells)) = g at hg ⊢
 generalize kws = L at hk hg ⊢
 simp (disch:=omega) only[go_sem,a73r2]
 refine Wp_loop (fun z : Nat × Nat => z.2 ≤ 16 ∧ ∀ j,j < z.2 → L.getD j default ≠ s) (fun (t,i) => { fr:=[(0,strv s),(3, .hs 1 N 0 0 16 false),(4, .int .i64 (i : Nat))],st:=t,h:=g }) (fun z => 16 - z.2) (_,0) rfl ⟨Nat.zero_le _,fun j hj => by simp only at hj; omega⟩ ?_
 rintro ⟨t,i⟩ ⟨i1,i2⟩
 simp only at i1 i2
 by_cases c1 : i < 16
 ·have w1 : decide (((i : Nat) : Int) < (16 : Int)) = true:=decide_eq_true (by omega)
  have hi : i < L.length:=by omega
  have l1:=ldS hi
  have hmem:=slv_get hi
  generalize hx : L.getD i default = x at l1 hmem
  simp (disch:=omega) only[go_sem,a73l0,a73r3,w1]
  by_cases c2 : x = s
  ·subst c2
   simp (disch:=omega) only[go_sem,a73r4,hg,c1,Nat.mul_one,l1]
   simp (disch:=omega) only[go_sem,a73r5]
   rw [decide_eq_true hmem]
  ·have w2 : decide (x = s) = false:=decide_eq_false c2
   simp (disch:=omega) only[go_sem,a73r4,hg,c1,Nat.mul_one,l1,w2]
   simp (disch:=omega) only[go_sem,a73r6]
   exact ⟨(_,i + 1),⟨by simp only; omega,fun j hj => by
    simp only at hj
    by_cases e : j = i
    ·rw [e,hx]; exact c2
    ·exact i2 j (by omega)⟩,by simp only; omega,by push_cast; rfl⟩
 ·have w1 : decide (((i : Nat) : Int) < (16 : Int)) = false:=decide_eq_false (by omega)
  have e : i = 16:=by omega
  simp (disch:=omega) only[go_sem,a73l0,a73r3,w1]
  simp (disch:=omega) only[go_sem,a73r7]
  rw [decide_eq_false]
  intro hm
  obtain ⟨j,hj,rfl⟩:=List.getElem_of_mem hm
  refine i2 j (by omega) ?_
  rw [List.getD_eq_getElem?_getD,List.getElem?_eq_getElem hj]; rfl
def okI (s : List UInt8) (i : Nat) : Bool:=letR (s.getD i 0) || (!decide (i = 0) && digB (s.getD i 0))
theorem ident_R (s : List UInt8) : identB s = (decide (1 ≤ s.length) && decide (s.length ≤ 24) && !decide (s ∈ kws) && (List.range s.length).all (okI s)):=by
 have key : s ≠ [] → ((letB (s.getD 0 default) && s.all anyB) = (List.range s.length).all (okI s)):=fun hne => by
  have hpos:=List.length_pos_iff.2 hne
  rw [Bool.eq_iff_iff,Bool.and_eq_true,List.all_eq_true,List.all_eq_true]
  constructor
  ·rintro ⟨h1,h2⟩ i hi
   have hi':=List.mem_range.1 hi
   have:=h2 _ (slv_get hi')
   unfold okI
   by_cases e : i = 0
   ·subst e
    have h1' : letB (s.getD 0 0) = true:=h1
    rw [← letB_R,h1']; rfl
   ·have h3 : anyB (s.getD i 0) = true:=this
    rw [anyB,letB_R] at h3
    rw [decide_eq_false e]
    simpa using h3
  ·intro h
   refine ⟨?_,fun x hx => ?_⟩
   ·have:=h 0 (List.mem_range.2 hpos)
    unfold okI at this
    rw [decide_eq_true rfl] at this
    simp only[Bool.not_true,Bool.false_and,Bool.or_false] at this
    rw [letB_R]; exact this
   ·obtain ⟨i,hi,rfl⟩:=List.getElem_of_mem hx
    have h3:=h i (List.mem_range.2 hi)
    unfold okI at h3
    rw [List.getD_eq_getElem?_getD,List.getElem?_eq_getElem hi,Option.getD_some] at h3
    rw [anyB,letB_R]
    revert h3
    cases letR s[i] <;> cases digB s[i] <;> simp
 by_cases hne : s = []
 ·subst hne; rfl
 ·have hpos:=List.length_pos_iff.2 hne
  rw [identB,Bool.and_assoc,key hne,decide_eq_false hne,decide_eq_true (show 1 ≤ s.length from hpos)]; rfl
theorem ident40_den (hP : EfP P) (s : List UInt8) (hl : s.length ≤ 100000) : Den P 40 [strv s] (fun v => v = .bool (identB s)):=by
 refine Den.of (code:=a40c) (hP.code rfl) (fun N => ?_)
 rw [ident_R]
 simp (disch:=omega) only[go_sem,a40c,a40r0]
 simp (disch:=omega) only[go_sem,a40r1]
 refine Wp_loop (fun z : Nat × Nat => z.2 ≤ s.length ∧ ∀ j,j < z.2 → okI s j = true) (fun (t,i) => { fr:=[(0,strv s),(3, .int .i64 (i : Nat))],st:=t,h:={ next:=N,m:=.leaf } }) (fun z => s.length - z.2) (_,0) rfl ⟨Nat.zero_le _,fun j hj => by simp only at hj; omega⟩ ?_
 rintro ⟨t,i⟩ ⟨i1,i2⟩
 simp only at i1 i2
 by_cases c1 : i < s.length
 ·have w1 : decide (((i : Nat) : Int) < ((s.length : Nat) : Int)) = true:=decide_eq_true (by omega)
  have hidx:=str_idx s .i64 (i : Nat) (by omega) (by omega)
  simp only[Int.toNat_natCast] at hidx
  have hok : okI s i = (letR (s.getD i 0) || (!decide (i = 0) && digB (s.getD i 0))):=rfl
  have hno : okI s i = false → (List.range s.length).all (okI s) = false:=fun h => by
   cases e : (List.range s.length).all (okI s) with
   | false => rfl
   | true => rw [List.all_eq_true.1 e i (List.mem_range.2 c1)] at h; simp at h
  have hgo : okI s i = true → ∀ t', ∃ y : Nat × Nat,(y.2 ≤ s.length ∧ ∀ j,j < y.2 → okI s j = true) ∧ s.length - y.2 < s.length - i ∧ ({ fr:=[(0,strv s),(3, .int .i64 ((i : Int) + 1))],st:=t',h:={ next:=N,m:=.leaf } } : St) = (match y with | (t,i) => { fr:=[(0,strv s),(3, .int .i64 (i : Nat))],st:=t,h:={ next:=N,m:=.leaf } }):=fun h t' => ⟨(t',i + 1),⟨by simp only; omega,fun j hj => by
    simp only at hj
    by_cases e : j = i
    ·rw [e]; exact h
    ·exact i2 j (by omega)⟩,by simp only; omega,by push_cast; rfl⟩
  simp (disch:=omega) only[go_sem,a40l0,a40r2,w1]
  simp (disch:=omega) only[go_sem,a40r3,hidx]
  refine WO.den (k:=0) (vs:=[.int .u8 ((s.getD i 0).toNat : Nat)]) (by rw [hP.pure]; rfl) (by simp (disch:=omega) only[go_sem]) (letter71_den hP _) (fun v hv => by subst hv; rfl) (fun v hv => ?_)
  subst hv
  cases hlr : letR (s.getD i 0) with
  | true =>
   simp (disch:=omega) only[go_sem]
   simp (disch:=omega) only[go_sem,a40r5]
   exact hgo (by rw [hok,hlr]; rfl) _
  | false =>
   by_cases c2 : i = 0
   ·have w2 : decide (((i : Nat) : Int) = (0 : Int)) = true:=decide_eq_true (by omega)
    simp (disch:=omega) only[go_sem,w2]
    simp (disch:=omega) only[go_sem,a40r4]
    rw [hno (by rw [hok,hlr,decide_eq_true c2]; rfl)]; simp
   ·have w2 : decide (((i : Nat) : Int) = (0 : Int)) = false:=decide_eq_false (by omega)
    simp (disch:=omega) only[go_sem,w2,hidx]
    refine WO.den (k:=0) (vs:=[.int .u8 ((s.getD i 0).toNat : Nat)]) (by rw [hP.pure]; rfl) (by simp (disch:=omega) only[go_sem]) (digit72_den hP _) (fun v hv => by subst hv; rfl) (fun v hv => ?_)
    subst hv
    cases hdg : digB (s.getD i 0) with
    | true =>
     simp (disch:=omega) only[go_sem]
     simp (disch:=omega) only[go_sem,a40r5]
     exact hgo (by rw [hok,hlr,decide_eq_false c2,hdg]; rfl) _
    | false =>
     simp (disch:=omega) only[go_sem]
     simp (disch:=omega) only[go_sem,a40r4]
     rw [hno (by rw [hok,hlr,hdg]; simp)]; simp
 ·have w1 : decide (((i : Nat) : Int) < ((s.length : Nat) : Int)) = false:=decide_eq_false (by omega)
  have e : i = s.length:=by omega
  have hall : (List.range s.length).all (okI s) = true:=List.all_eq_true.2 (fun j hj => i2 j (by have:=List.mem_range.1 hj; omega))
  rw [hall]
  simp (disch:=omega) only[go_sem,a40l0,a40r2,w1]
  by_cases c2 : 1 ≤ s.length
  ·have w2 : decide ((1 : Int) ≤ ((s.length : Nat) : Int)) = true:=decide_eq_true (by omega)
   have w2' : decide (((s.length : Nat) : Int) ≥ (1 : Int)) = true:=decide_eq_true (by omega)
   by_cases c3 : s.length ≤ 24
   ·have w3 : decide (((s.length : Nat) : Int) ≤ (24 : Int)) = true:=decide_eq_true (by omega)
    simp (disch:=omega) only[go_sem,a40r6,w2,w2',w3]
    refine WO.den (k:=0) (vs:=[strv s]) (by rw [hP.pure]; rfl) (by simp (disch:=omega) only[go_sem]) (key73_den hP s) (fun v hv => by subst hv; rfl) (fun v hv => ?_)
    subst hv
    simp (disch:=omega) only[go_sem]
    rw [decide_eq_true c2,decide_eq_true c3]; simp
   ·have w3 : decide (((s.length : Nat) : Int) ≤ (24 : Int)) = false:=decide_eq_false (by omega)
    simp (disch:=omega) only[go_sem,a40r6,w2,w2',w3]
    rw [decide_eq_false c3]; simp
  ·have w2 : decide ((1 : Int) ≤ ((s.length : Nat) : Int)) = false:=decide_eq_false (by omega)
   have w2' : decide (((s.length : Nat) : Int) ≥ (1 : Int)) = false:=decide_eq_false (by omega)
   simp (disch:=omega) only[go_sem,a40r6,w2,w2']
   rw [decide_eq_false c2]; simp
def findI (names : List (List UInt8)) (s : List UInt8) : Int:=match posN names s with
 | some k => (k : Nat)
 | none => -1
theorem idxOf_le {s : List UInt8} : ∀ (l : List (List UInt8)) (i : Nat),l[i]? = some s → l.idxOf s ≤ i
 | [],i,h => by simp at h
 | a :: r,0,h => by
  simp only[List.getElem?_cons_zero,Option.some.injEq] at h
  subst h
  simp
 | a :: r,i + 1,h => by
  rw [List.idxOf_cons]
  have:=idxOf_le r i (by simpa using h)
  cases a == s
  ·simpa using this
  ·simp
theorem posN_at {names : List (List UInt8)} {s : List UInt8} {i : Nat} (hi : i < names.length) (h1 : ∀ j,j < i → names.getD j default ≠ s) (h2 : names.getD i default = s) : posN names s = some i:=by
 have hm : s ∈ names:=by rw [← h2]; exact slv_get hi
 rw [posN,if_pos hm]
 congr 1
 have hlt:=List.idxOf_lt_length_of_mem hm
 have hge:=List.getElem_idxOf hlt
 rcases Nat.lt_trichotomy (names.idxOf s) i with q | q | q
 ·exact absurd (by rw [List.getD_eq_getElem?_getD,List.getElem?_eq_getElem hlt,Option.getD_some]; exact hge) (h1 _ q)
 ·exact q
 ·have : names.idxOf s ≤ i:=by
   rw [List.getD_eq_getElem?_getD,List.getElem?_eq_getElem hi,Option.getD_some] at h2
   exact idxOf_le names i (by rw [List.getElem?_eq_getElem hi,h2])
  omega
theorem posN_no {names : List (List UInt8)} {s : List UInt8} (h1 : ∀ j,j < names.length → names.getD j default ≠ s) : posN names s = none:=by
 rw [posN,if_neg]
 intro hm
 obtain ⟨j,hj,rfl⟩:=List.getElem_of_mem hm
 refine h1 j hj ?_
 rw [List.getD_eq_getElem?_getD,List.getElem?_eq_getElem hj]; rfl
theorem find41_den (hP : EfP P) (nl fl : Bool) (names : List (List UInt8)) (s : List UInt8) (hn : names.length ≤ 100000) : Den P 41 [slv nl fl names,strv s] (fun v => v = .int .i64 (findI names s)):=by
 refine Den.of (code:=a41c) (hP.code rfl) (fun N => ?_)
 simp (disch:=omega) only[go_sem,a41c,a41r0]
 simp (disch:=omega) only[go_sem,a41r1]
 refine Wp_loop (fun z : Nat × Nat => z.2 ≤ names.length ∧ ∀ j,j < z.2 → names.getD j default ≠ s) (fun (t,i) => { fr:=[(0,slv nl fl names),(1,strv s),(5, .int .i64 (i : Nat))],st:=t,h:={ next:=N,m:=.leaf } }) (fun z => names.length - z.2) (_,0) rfl ⟨Nat.zero_le _,fun j hj => by simp only at hj; omega⟩ ?_
 rintro ⟨t,i⟩ ⟨i1,i2⟩
 simp only at i1 i2
 by_cases c1 : i < names.length
 ·have w1 : decide (((i : Nat) : Int) < ((names.length : Nat) : Int)) = true:=decide_eq_true (by omega)
  simp (disch:=omega) only[go_sem,a41l0,a41r2,w1]
  by_cases c2 : names.getD i default = s
  ·have w2 : decide (names.getD i default = s) = true:=decide_eq_true c2
   simp (disch:=omega) only[go_sem,a41r3,c1,w2]
   simp (disch:=omega) only[go_sem,a41r4]
   rw [findI,posN_at c1 i2 c2]
  ·have w2 : decide (names.getD i default = s) = false:=decide_eq_false c2
   simp (disch:=omega) only[go_sem,a41r3,c1,w2]
   simp (disch:=omega) only[go_sem,a41r5]
   exact ⟨(_,i + 1),⟨by simp only; omega,fun j hj => by
    simp only at hj
    by_cases e : j = i
    ·rw [e]; exact c2
    ·exact i2 j (by omega)⟩,by simp only; omega,by push_cast; rfl⟩
 ·have w1 : decide (((i : Nat) : Int) < ((names.length : Nat) : Int)) = false:=decide_eq_false (by omega)
  simp (disch:=omega) only[go_sem,a41l0,a41r2,w1]
  simp (disch:=omega) only[go_sem,a41r6]
  rw [findI,posN_no (fun j hj => i2 j (by omega))]
end Go.Am.Ef
/- Tables and sets,the document's way (blazonref16.Great,New,Set; or; Does). -/
namespace Go.Am.Ef
open Go.Am
variable {P : Prog}
set_option maxRecDepth 20000
set_option maxHeartbeats 1000000
theorem great15_den (hP : EfP P) (nl fl : Bool) (l : List NameV) (hl : Len l.length) : Den P 15 [slv nl fl l, .int .i64 60] (fun v => ∃ b,v = .bool b ∧ (b = false → l.length ≤ 60 ∧ ∀ x ∈ l,x.name.length ≤ 100)):=by
 refine Den.of (code:=a15c) (hP.code rfl) (fun N => ?_)
 have hl2:=hl
 unfold Len at hl2
 simp (disch:=omega) only[go_sem,a15c,a15r0]
 simp (disch:=omega) only[go_sem,a15r1]
 refine Wp_loop (fun z : Nat × Nat => z.2 ≤ l.length ∧ z.2 ≤ 60 ∧ ∀ j,j < z.2 → (l.getD j default).name.length ≤ 100) (fun (t,i) => { fr:=[(0,slv nl fl l),(1, .int .i64 60),(5, .int .i64 (i : Nat))],st:=t,h:={ next:=N,m:=.leaf } }) (fun z => l.length - z.2) (_,0) rfl ⟨Nat.zero_le _,Nat.zero_le _,fun j hj => by simp only at hj; omega⟩ ?_
 rintro ⟨t,i⟩ ⟨i1,i3,i2⟩
 simp only at i1 i2 i3
 have hend : ∀ x : Int,x = 60 → (¬ i < l.length ∨ ¬ i < 60) → decide (((l.length : Nat) : Int) > x) = false → ∀ y ∈ l,y.name.length ≤ 100:=fun x hx hc hd y hy => by
  have:=of_decide_eq_false hd
  obtain ⟨j,hj,rfl⟩:=List.getElem_of_mem hy
  have:=i2 j (by omega)
  rwa [List.getD_eq_getElem?_getD,List.getElem?_eq_getElem hj] at this
 have hlast : (¬ i < l.length ∨ ¬ i < 60) → ∃ b,AV.bool (decide (((l.length : Nat) : Int) > (60 : Int))) = .bool b ∧ (b = false → l.length ≤ 60 ∧ ∀ x ∈ l,x.name.length ≤ 100):=fun hc => ⟨_,rfl,fun hb => ⟨by have:=of_decide_eq_false hb; omega,hend 60 rfl hc hb⟩⟩
 have hlast' : (¬ i < l.length ∨ ¬ i < 60) → ∃ b,AV.bool (decide ((60 : Int) < ((l.length : Nat) : Int))) = .bool b ∧ (b = false → l.length ≤ 60 ∧ ∀ x ∈ l,x.name.length ≤ 100):=hlast
 by_cases c1 : i < l.length
 ·have w1 : decide (((i : Nat) : Int) < ((l.length : Nat) : Int)) = true:=decide_eq_true (by omega)
  by_cases c2 : i < 60
  ·have w2 : decide (((i : Nat) : Int) < (60 : Int)) = true:=decide_eq_true (by omega)
   simp (disch:=omega) only[go_sem,a15l0,a15r2,w1,w2]
   by_cases c3 : (l.getD i default).name.length ≤ 100
   ·have w3 : decide ((100 : Int) < (((l.getD i default).name.length : Nat) : Int)) = false:=decide_eq_false (by omega)
    have w3' : decide ((((l.getD i default).name.length : Nat) : Int) > (100 : Int)) = false:=decide_eq_false (by omega)
    simp (disch:=omega) only[go_sem,a15r3,c1,w3,w3']
    simp (disch:=omega) only[go_sem,a15r5]
    exact ⟨(_,i + 1),⟨by simp only; omega,by simp only; omega,fun j hj => by
     simp only at hj
     by_cases e : j = i
     ·rw [e]; exact c3
     ·exact i2 j (by omega)⟩,by simp only; omega,by push_cast; rfl⟩
   ·have w3 : decide ((100 : Int) < (((l.getD i default).name.length : Nat) : Int)) = true:=decide_eq_true (by omega)
    have w3' : decide ((((l.getD i default).name.length : Nat) : Int) > (100 : Int)) = true:=decide_eq_true (by omega)
    simp (disch:=omega) only[go_sem,a15r3,c1,w3,w3']
    simp (disch:=omega) only[go_sem,a15r4]
    exact ⟨true,rfl,fun h => by simp at h⟩
  ·have w2 : decide (((i : Nat) : Int) < (60 : Int)) = false:=decide_eq_false (by omega)
   simp (disch:=omega) only[go_sem,a15l0,a15r2,w1,w2]
   simp (disch:=omega) only[go_sem,a15r6]
   first | exact hlast (.inr c2) | exact hlast' (.inr c2)
 ·have w1 : decide (((i : Nat) : Int) < ((l.length : Nat) : Int)) = false:=decide_eq_false (by omega)
  simp (disch:=omega) only[go_sem,a15l0,a15r2,w1]
  simp (disch:=omega) only[go_sem,a15r6]
  first | exact hlast (.inl c1) | exact hlast' (.inl c1)
def RNewR (l : List NameV) (v : AV) : Prop :=
 (∃ k e,k < l.length ∧ (∀ j,j < k → badK l j = none) ∧ badK l k = some e ∧ v = .tup [.nils, .int .i64 (k : Nat), .int .i64 (e : Nat)]) ∨
 ((∀ j,j < l.length → badK l j = none) ∧ ∃ nl,v = .tup [slv nl false (l.map (·.name)), .int .i64 0, .int .i64 0])
theorem findI_nonneg {names : List (List UInt8)} {s : List UInt8} : decide ((0 : Int) ≤ findI names s) = decide (s ∈ names):=by
 refine decide_eq_decide.2 ?_
 unfold findI posN
 by_cases h : s ∈ names
 ·rw [if_pos h]; simp [h]
 ·rw [if_neg h]; simp [h]
theorem lent_row {h : Heap} {v : AV} {l : List (List UInt8)} (hr : RowV h v l) : ∃ nl,frz h 0 40 v = slv nl false l:=hr.back (fun o _ => Nat.zero_le o) 39
theorem refnew17_den (hP : EfP P) (nl fl : Bool) (l : List NameV) (hl : l.length ≤ 100000) (hnm : ∀ x ∈ l,x.name.length ≤ 100000) : Den P 17 [slv nl fl l] (fun v => RNewR l v):=by
 refine Den.of (code:=a17c) (hP.code rfl) (fun N => ?_)
 simp (disch:=omega) only[go_sem,a17c,a17r0]
 simp (disch:=omega) only[go_sem,a17r1]
 simp (disch:=omega) only[go_sem,a17r2]
 refine Wp_loop (fun z : Nat × Nat × AV × Heap => z.2.1 ≤ l.length ∧ (∀ j,j < z.2.1 → badK l j = none) ∧ Bld { next:=N,m:=.leaf } z.2.2.2 z.2.2.1 (namesK l z.2.1)) (fun (t,k,v5,g) => { fr:=[(0,slv nl fl l),(5,v5),(6, .int .i64 (k : Nat))],st:=t,h:=g }) (fun z => l.length - z.2.1) (_,0, .nils, _) rfl ⟨Nat.zero_le _,fun j hj => by simp only at hj; omega,Bld.nil _⟩ ?_
 rintro ⟨t,k,v5,g⟩ ⟨k1,k2,B⟩
 simp only at k1 k2 B
 have hE:=B.evs
 by_cases c1 : k < l.length
 ·have w1 : decide (((k : Nat) : Int) < ((l.length : Nat) : Int)) = true:=decide_eq_true (by omega)
  have hlen:=rowv_len B.row
  have hkl:=namesK_len k1
  have hbk : badK l k = badN (namesK l k) (l.getD k default).name:=rfl
  have hsucc:=namesK_succ c1
  have hnx:=hnm _ (slv_get c1)
  generalize namesK l k = names at B hlen hkl hbk hsucc
  have hgb : ∀ e,badK l k = some e → RNewR l (.tup [.nils, .int .i64 (k : Nat), .int .i64 (e : Nat)]):=fun e he => .inl ⟨k,e,c1,k2,he,rfl⟩
  simp (disch:=omega) only[go_sem,a17l0,a17r3,w1,hE.ev]
  simp (disch:=omega) only[go_sem,a17r4,c1,hE.ev]
  refine WO.den (k:=0) (vs:=[strv (l.getD k default).name]) (by rw [hP.pure]; rfl) (by simp (disch:=omega) only[go_sem]) (ident40_den hP _ hnx) (fun v hv => by subst hv; rfl) (fun v hv => ?_)
  subst hv
  cases hid : identB (l.getD k default).name with
  | false =>
   simp (disch:=omega) only[go_sem,hE.ev]
   simp (disch:=omega) only[go_sem,a17r5,hE.ev]
   exact hgb 1 (by rw [hbk,badN,if_pos hid])
  | true =>
   simp (disch:=omega) only[go_sem,hE.ev]
   simp (disch:=omega) only[go_sem,a17r6,c1,hE.ev]
   obtain ⟨nlb,hb⟩:=lent_row B.row
   refine WO.den (k:=1) (vs:=[v5,strv (l.getD k default).name]) (by rw [hP.pure]; rfl) (by simp (disch:=omega) only[go_sem,hE.ev,hE.dat]) (R:=fun v => v = .int .i64 (findI names (l.getD k default).name)) ?_ (fun v hv => by subst hv; rfl) (fun v hv => ?_)
   ·simp only[lent_11,List.map_cons,List.map_nil,frz_strv]
    have hb' : frz g 0 40 v5 = slv nlb false names:=hb
    rw [hb']
    exact find41_den hP nlb false names _ (by omega)
   subst hv
   have hfd:=findI_nonneg (names:=names) (s:=(l.getD k default).name)
   by_cases hx : (l.getD k default).name ∈ names
   ·rw [decide_eq_true hx] at hfd
    have hfd' : decide (findI names (l.getD k default).name ≥ (0 : Int)) = true:=hfd
    simp (disch:=omega) only[go_sem,hfd,hfd',hE.ev]
    simp (disch:=omega) only[go_sem,a17r7,hE.ev]
    exact hgb 7 (by rw [hbk,badN,if_neg (by rw [hid]; simp),if_pos hx])
   ·rw [decide_eq_false hx] at hfd
    have hfd' : decide (findI names (l.getD k default).name ≥ (0 : Int)) = false:=hfd
    simp (disch:=omega) only[go_sem,hfd,hfd',hE.ev]
    by_cases c3 : names.length = 64
    ·have d3 : decide (((names.length : Nat) : Int) = (64 : Int)) = true:=decide_eq_true (by omega)
     simp (disch:=omega) only[go_sem,a17r8,hE.ev,hE.tag,hlen,d3]
     simp (disch:=omega) only[go_sem,a17r9,hE.ev]
     exact hgb 8 (by rw [hbk,badN,if_neg (by rw [hid]; simp),if_neg hx,if_pos c3])
    ·have d3 : decide (((names.length : Nat) : Int) = (64 : Int)) = false:=decide_eq_false (by omega)
     have hbn : badK l k = none:=by rw [hbk,badN,if_neg (by rw [hid]; simp),if_neg hx,if_neg c3]
     simp (disch:=omega) only[go_sem,a17r8,hE.ev,hE.tag,hlen,d3]
     simp (disch:=omega) only[go_sem,a17r10,c1,hE.ev,hE.dat]
     refine stepBld (k:=1) (α:=List UInt8) B (by omega) (adds_one (α:=List UInt8) _ (l.getD k default).name _ true rfl) rfl (by simp only[List.length_cons,List.length_nil,two47]; omega) (fun v' h' hB' hn hE' => ?_)
     simp (disch:=omega) only[go_sem,hE'.ev]
     simp (disch:=omega) only[go_sem,a17r11,hE'.ev]
     refine ⟨(_,k + 1,v',h'),⟨by simp only; omega,fun j hj => ?_,by simp only; rw [hsucc]; exact hB'⟩,by simp only; omega,by push_cast; rfl⟩
     simp only at hj
     by_cases e : j = k
     ·rw [e]; exact hbn
     ·exact k2 j (by omega)
 ·have w1 : decide (((k : Nat) : Int) < ((l.length : Nat) : Int)) = false:=decide_eq_false (by omega)
  have e : k = l.length:=by omega
  have hall : namesK l k = l.map (·.name):=by unfold namesK; rw [e,List.take_length]
  rw [e] at k2
  rw [hall] at B
  obtain ⟨nlb,hb⟩:=B.row.back (N:=N) (fun o ho => (B.own o ho).1) 38
  simp (disch:=omega) only[go_sem,a17l0,a17r3,w1,hE.ev]
  simp (disch:=omega) only[go_sem,a17r12,hE.ev,hE.dat,hb]
  trace_state
  exact .inr ⟨k2,nlb,rfl⟩
end Go.Am.Ef
/- Sets,the document's way (blazonref16.Set; or; Does). -/
namespace Go.Am.Ef
open Go.Am
variable {P : Prog}
set_option maxRecDepth 20000
set_option maxHeartbeats 1000000
theorem add_bit {a k : Nat} (ha : a < 2 ^ 64) (hk : k < 64) (h : a.testBit k = false) : a + 2 ^ k = a ||| 2 ^ k:=by
 have hp:=pow_lt64 hk
 have hand : BitVec.ofNat 64 a &&& BitVec.ofNat 64 (2 ^ k) = 0#64:=by
  refine BitVec.eq_of_getLsbD_eq (fun i hi => ?_)
  rw [BitVec.getLsbD_and,BitVec.getLsbD_zero,BitVec.getLsbD_ofNat,BitVec.getLsbD_ofNat,Nat.testBit_two_pow]
  by_cases e : k = i
  ·subst e; rw [h]; simp
  ·simp [e]
 have:=congrArg BitVec.toNat (BitVec.add_eq_or_of_and_eq_zero _ _ hand)
 rw [BitVec.toNat_or,BitVec.toNat_add,BitVec.toNat_ofNat,BitVec.toNat_ofNat,Nat.mod_eq_of_lt ha,Nat.mod_eq_of_lt hp] at this
 have hor:=Nat.or_lt_two_pow ha hp
 have hle : a ≤ a ||| 2 ^ k:=Nat.left_le_or
 rw [← this] at hor
 by_cases hlt : a + 2 ^ k < 2 ^ 64
 ·rw [Nat.mod_eq_of_lt hlt] at this; exact this
 ·exfalso
  have h2 : (a + 2 ^ k) % 2 ^ 64 = a + 2 ^ k - 2 ^ 64:=by
   rw [Nat.mod_eq_sub_mod (by omega),Nat.mod_eq_of_lt (by omega)]
  rw [← this] at hle
  omega
theorem bin_add_u64 {a k : Nat} (ha : a < 2 ^ 64) (hk : k < 64) (h : a.testBit k = false) : binA .add (.int .u64 (a : Nat)) (.int .u64 ((2 ^ k : Nat) : Int)) = some (.int .u64 ((a ||| 2 ^ k : Nat) : Int)):=by
 show some (AV.int .u64 (wrapA .u64 (((a : Nat) : Int) + ((2 ^ k : Nat) : Int)))) = _
 rw [← add_bit ha hk h]
 have hor:=Nat.or_lt_two_pow ha (pow_lt64 hk)
 rw [← add_bit ha hk h,two64] at hor
 generalize 2 ^ k = q at hor
 rw [wrapA_u64 (by omega) (by omega)]
 push_cast; rfl
theorem or_bit {a k : Nat} (h : a.testBit k = true) : a ||| 2 ^ k = a:=by
 refine Nat.eq_of_testBit_eq (fun i => ?_)
 rw [Nat.testBit_or,Nat.testBit_two_pow]
 by_cases e : k = i
 ·subst e; rw [h]; rfl
 ·simp [e]
theorem mod_succ (b i : Nat) : b % 2 ^ (i + 1) = b % 2 ^ i ||| (if b.testBit i = true then 2 ^ i else 0):=by
 refine Nat.eq_of_testBit_eq (fun j => ?_)
 rw [Nat.testBit_or,Nat.testBit_mod_two_pow,Nat.testBit_mod_two_pow]
 by_cases h : b.testBit i = true
 ·rw [if_pos h,Nat.testBit_two_pow]
  by_cases e : i = j
  ·subst e; simp [h]
  ·have : decide (j < i + 1) = decide (j < i):=decide_eq_decide.2 (by omega)
   rw [this]; simp [e]
 ·rw [if_neg h,Nat.zero_testBit,Bool.or_false]
  by_cases e : j = i
  ·subst e; simp at h; simp [h]
  ·have : decide (j < i + 1) = decide (j < i):=decide_eq_decide.2 (by omega)
   rw [this]
theorem or45_den (hP : EfP P) {a b : Nat} (ha : a < 2 ^ 64) (hb : b < 2 ^ 64) : Den P 45 [.int .u64 (a : Nat), .int .u64 (b : Nat)] (fun v => v = .int .u64 ((a ||| b : Nat) : Int)):=by
 refine Den.of (code:=a45c) (hP.code rfl) (fun N => ?_)
 simp (disch:=omega) only[go_sem,a45c,a45r0]
 simp (disch:=omega) only[go_sem,a45r1]
 refine Wp_loop (fun z : Nat × Nat => z.2 ≤ 64) (fun (t,i) => { fr:=[(0, .int .u64 ((a ||| b % 2 ^ i : Nat) : Int)),(1, .int .u64 (b : Nat)),(5, .int .i64 (i : Nat))],st:=t,h:={ next:=N,m:=.leaf } }) (fun z => 64 - z.2) (0,0) (by simp [Nat.mod_one]) (Nat.zero_le _) ?_
 rintro ⟨t,i⟩ i1
 simp only at i1
 have hacc : a ||| b % 2 ^ i < 2 ^ 64:=Nat.or_lt_two_pow ha (Nat.lt_of_le_of_lt (Nat.mod_le _ _) hb)
 by_cases c1 : i < 64
 ·have w1 : decide (((i : Nat) : Int) < (64 : Int)) = true:=decide_eq_true (by omega)
  have hms:=mod_succ b i
  have hor : a ||| b % 2 ^ (i + 1) = (a ||| b % 2 ^ i) ||| (if b.testBit i = true then 2 ^ i else 0):=by rw [hms,Nat.or_assoc]
  simp only[hor]
  generalize hg : a ||| b % 2 ^ i = acc at hacc hor
  simp (disch:=omega) only[go_sem,a45l0,a45r2,w1]
  simp (disch:=omega) only[go_sem,a45r3]
  refine WO.den (k:=0) (vs:=[.int .u64 (b : Nat), .int .i64 (i : Nat)]) (by rw [hP.pure]; rfl) (by simp (disch:=omega) only[go_sem]) (has24_den hP hb c1) (fun v hv => by subst hv; rfl) (fun v hv => ?_)
  subst hv
  cases hbi : b.testBit i with
  | false =>
   rw [hbi] at hor
   simp (disch:=omega) only[go_sem]
   simp (disch:=omega) only[go_sem,a45r5]
   refine ⟨(t,i + 1),by simp only; omega,by simp only; omega, ?_⟩
   simp only[hor]
   simp
  | true =>
   rw [hbi,if_pos rfl] at hor
   simp (disch:=omega) only[go_sem]
   refine WO.den (k:=0) (vs:=[.int .u64 (acc : Nat), .int .i64 (i : Nat)]) (by rw [hP.pure]; rfl) (by simp (disch:=omega) only[go_sem]) (has24_den hP hacc c1) (fun v hv => by subst hv; rfl) (fun v hv => ?_)
   subst hv
   cases hai : acc.testBit i with
   | true =>
    rw [or_bit hai] at hor
    simp (disch:=omega) only[go_sem]
    simp (disch:=omega) only[go_sem,a45r5]
    refine ⟨(t,i + 1),by simp only; omega,by simp only; omega, ?_⟩
    simp only[hor]
    simp
   | false =>
    have hadd:=bin_add_u64 hacc c1 hai
    simp (disch:=omega) only[go_sem]
    simp (disch:=omega) only[go_sem,a45r4]
    refine WO.den (k:=0) (vs:=[.int .i64 (i : Nat)]) (by rw [hP.pure]; rfl) (by simp (disch:=omega) only[go_sem]) (bit49_den hP c1) (fun v hv => by subst hv; rfl) (fun v hv => ?_)
    subst hv
    simp (disch:=omega) only[go_sem,hadd]
    simp (disch:=omega) only[go_sem,a45r5]
    refine ⟨(t,i + 1),by simp only; omega,by simp only; omega, ?_⟩
    simp only[hor]
    simp
 ·have w1 : decide (((i : Nat) : Int) < (64 : Int)) = false:=decide_eq_false (by omega)
  have e : i = 64:=by omega
  subst e
  show Wp P a45l0 { fr:=[(0, .int .u64 ((a ||| b % 2 ^ 64 : Nat) : Int)),(1, .int .u64 (b : Nat)),(5, .int .i64 ((64 : Nat) : Int))],st:=t,h:={ next:=N,m:=.leaf } } _
  rw [Nat.mod_eq_of_lt hb]
  simp (disch:=omega) only[go_sem,a45l0,a45r2,w1]
  simp (disch:=omega) only[go_sem,a45r6]
theorem posD_findI {names : List (List UInt8)} {s : List UInt8} (h : (posN names s).isSome = true) : findI names s = (((posN names s).getD 0 : Nat) : Int):=by
 unfold findI
 cases hp : posN names s with
 | none => rw [hp] at h; simp at h
 | some k => rfl
theorem findI_neg {names : List (List UInt8)} {s : List UInt8} : decide (findI names s < 0) = !(posN names s).isSome:=by
 unfold findI
 cases hp : posN names s with
 | none => rfl
 | some k => simp
def setRR (names : List (List UInt8)) (l : List NameV) : AV:=match badL names l with
 | some i => .tup [.int .u64 0, .int .i64 (i : Nat), .int .i64 13]
 | none => .tup [.int .u64 (maskL names l : Nat), .int .i64 0, .int .i64 0]
theorem set44_den (hP : EfP P) {names : List (List UInt8)} (hn : names.length ≤ 64) (n1 f1 n2 f2 : Bool) (l : List NameV) (hl : Len l.length) : Den P 44 [slv n1 f1 names,slv n2 f2 l] (fun v => v = setRR names l):=by
 refine Den.of (code:=a44c) (hP.code rfl) (fun N => ?_)
 have hl2:=hl
 unfold Len at hl2
 simp (disch:=omega) only[go_sem,a44c,a44r0]
 simp (disch:=omega) only[go_sem,a44r1]
 simp (disch:=omega) only[go_sem,a44r2]
 refine Wp_loop (fun z : Nat × Nat => z.2 ≤ l.length ∧ ∀ x ∈ l.take z.2,(posN names x.name).isSome = true) (fun (t,k) => { fr:=[(0,slv n1 f1 names),(1,slv n2 f2 l),(7, .int .u64 (maskL names (l.take k) : Nat)),(8, .int .i64 (k : Nat))],st:=t,h:={ next:=N,m:=.leaf } }) (fun z => l.length - z.2) (0,0) rfl ⟨Nat.zero_le _,fun x hx => by simp at hx⟩ ?_
 rintro ⟨t,k⟩ ⟨k1,k2⟩
 simp only at k1 k2
 by_cases c1 : k < l.length
 ·have w1 : decide (((k : Nat) : Int) < ((l.length : Nat) : Int)) = true:=decide_eq_true (by omega)
  have hst : l.take (k + 1) = l.take k ++ [l.getD k default]:=by
   rw [List.take_succ_eq_append_getElem c1,List.getD_eq_getElem?_getD,List.getElem?_eq_getElem c1]; rfl
  have hm:=maskL_lt hn (l.take k)
  have hms : maskL names (l.take (k + 1)) = maskL names (l.take k) ||| 2 ^ (posN names (l.getD k default).name).getD 0:=by rw [hst,maskL_snoc]
  have hpk:=posD_lt hn (l.getD k default).name
  have hneg:=findI_neg (names:=names) (s:=(l.getD k default).name)
  generalize hq : maskL names (l.take k) = m at hm hms
  simp (disch:=omega) only[go_sem,hq,a44l0,a44r3,w1]
  simp (disch:=omega) only[go_sem,a44r4,c1]
  refine WO.den (k:=1) (vs:=[slv n1 f1 names,strv (l.getD k default).name]) (by rw [hP.pure]; rfl) (by simp (disch:=omega) only[go_sem]) (R:=fun v => v = .int .i64 (findI names (l.getD k default).name)) ?_ (fun v hv => by subst hv; rfl) (fun v hv => ?_)
  ·simp only[lent_11,List.map_cons,List.map_nil,frz_strv,frz_slv]
   exact find41_den hP n1 f1 names _ (by omega)
  subst hv
  cases hp : (posN names (l.getD k default).name).isSome with
  | false =>
   rw [hp] at hneg
   have hneg' : decide (findI names (l.getD k default).name < 0) = true:=hneg
   simp (disch:=omega) only[go_sem]
   simp (disch:=omega) only[go_sem,a44r5,hneg']
   simp (disch:=omega) only[go_sem,a44r6]
   have hb : badL names l = some k:=by
    refine findIdx_at c1 (fun i hi => ?_) (by rw [← Option.not_isSome,hp]; rfl)
    have hx : l.getD i default ∈ l.take k:=by
     rw [List.getD_eq_getElem?_getD,List.getElem?_eq_getElem (show i < l.length by omega),Option.getD_some,List.mem_take_iff_getElem]
     exact ⟨i,by omega,rfl⟩
    rw [← Option.not_isSome,k2 _ hx]; rfl
   rw [setRR,hb]
  | true =>
   rw [hp] at hneg
   have hneg' : decide (findI names (l.getD k default).name < 0) = false:=hneg
   rw [posD_findI hp]
   rw [posD_findI hp] at hneg'
   have k3 : ∀ x ∈ l.take (k + 1),(posN names x.name).isSome = true:=fun x hx => by
    rw [hst] at hx
    rcases List.mem_append.1 hx with h | h
    ·exact k2 x h
    ·rw [List.mem_singleton.1 h]; exact hp
   generalize (posN names (l.getD k default).name).getD 0 = pk at hpk hms hneg'
   simp (disch:=omega) only[go_sem]
   simp (disch:=omega) only[go_sem,a44r5,hneg']
   simp (disch:=omega) only[go_sem,a44r7]
   refine WO.den (k:=0) (vs:=[.int .u64 (m : Nat), .int .i64 (pk : Nat)]) (by rw [hP.pure]; rfl) (by simp (disch:=omega) only[go_sem]) (has24_den hP hm hpk) (fun v hv => by subst hv; rfl) (fun v hv => ?_)
   subst hv
   cases hai : m.testBit pk with
   | true =>
    rw [or_bit hai] at hms
    simp (disch:=omega) only[go_sem]
    simp (disch:=omega) only[go_sem,a44r9]
    exact ⟨(t,k + 1),⟨by simp only; omega,k3⟩,by simp only; omega,by simp only[hms]; push_cast; rfl⟩
   | false =>
    have hadd:=bin_add_u64 hm hpk hai
    simp (disch:=omega) only[go_sem]
    simp (disch:=omega) only[go_sem,a44r8]
    refine WO.den (k:=0) (vs:=[.int .i64 (pk : Nat)]) (by rw [hP.pure]; rfl) (by simp (disch:=omega) only[go_sem]) (bit49_den hP hpk) (fun v hv => by subst hv; rfl) (fun v hv => ?_)
    subst hv
    simp (disch:=omega) only[go_sem,hadd]
    simp (disch:=omega) only[go_sem,a44r9]
    exact ⟨(t,k + 1),⟨by simp only; omega,k3⟩,by simp only; omega,by simp only[hms]; push_cast; rfl⟩
 ·have w1 : decide (((k : Nat) : Int) < ((l.length : Nat) : Int)) = false:=decide_eq_false (by omega)
  have e : k = l.length:=by omega
  have hb : badL names l = none:=badL_none.2 (fun x hx => k2 x (by rw [e,List.take_length]; exact hx))
  have ht : l.take k = l:=by rw [e,List.take_length]
  simp (disch:=omega) only[go_sem,ht,a44l0,a44r3,w1]
  simp (disch:=omega) only[go_sem,a44r10]
  rw [setRR,hb]
theorem usL_get {N : Nat} {R : Nat → Nat} {x : Nat} (hx : x < N) : (usL N R).getD x default = ⟨R x⟩:=by
 simp only[usL,List.getD_eq_getElem?_getD,List.getElem?_map,List.getElem?_range hx,Option.map_some,Option.getD_some]
theorem does46_den (hP : EfP P) {names : List (List UInt8)} (hn : names.length ≤ 64) (n1 f1 n2 f2 : Bool) {N : Nat} {R : Nat → Nat} (hN : N ≤ 100000) {d : Deed} (hd : d.fn = -1 ∨ (0 ≤ d.fn ∧ d.fn < (N : Nat))) : Den P 46 [.agg (Enc.cells d),slv n1 f1 names,slv n2 f2 (usL N R)] (fun v => v = .int .u64 ((needR names R d : Nat) : Int)):=by
 refine Den.of (code:=a46c) (hP.code rfl) (fun N0 => ?_)
 simp (disch:=omega) only[go_sem,a46c,a46r0]
 by_cases c3 : 0 ≤ d.fn
 ·obtain ⟨x,hx⟩ : ∃ x : Nat,d.fn = (x : Nat):=⟨d.fn.toNat,by omega⟩
  have hxn : x < N:=by omega
  have hneed : needR names R d = R x:=by rw [needR,if_pos c3,hx]; rfl
  have w3 : decide ((0 : Int) ≤ ((x : Nat) : Int)) = true:=decide_eq_true (by omega)
  have w3' : decide (((x : Nat) : Int) ≥ (0 : Int)) = true:=decide_eq_true (by omega)
  have hul : x < (usL N R).length:=by rw [len_usL]; exact hxn
  rw [hneed]
  simp (disch:=omega) only[go_sem,a46r1,hx,w3,w3']
  simp (disch:=omega) only[go_sem,a46r2,hx,hul,usL_get hxn]
 ·have w3 : decide ((0 : Int) ≤ d.fn) = false:=decide_eq_false c3
  have w3' : decide (d.fn ≥ (0 : Int)) = false:=decide_eq_false c3
  simp (disch:=omega) only[go_sem,a46r1,w3,w3']
  simp (disch:=omega) only[go_sem,a46r3]
  refine WO.den (k:=1) (vs:=[slv n1 f1 names,strv d.name]) (by rw [hP.pure]; rfl) (by simp (disch:=omega) only[go_sem]) (R:=fun v => v = .int .i64 (findI names d.name)) ?_ (fun v hv => by subst hv; rfl) (fun v hv => ?_)
  ·simp only[lent_11,List.map_cons,List.map_nil,frz_strv,frz_slv]
   exact find41_den hP n1 f1 names _ (by omega)
  subst hv
  have hneg:=findI_neg (names:=names) (s:=d.name)
  cases hp : posN names d.name with
  | none =>
   have hneed : needR names R d = 0:=by rw [needR,if_neg c3,hp]
   rw [hp] at hneg
   have hneg' : decide (findI names d.name < 0) = true:=hneg
   rw [hneed]
   simp (disch:=omega) only[go_sem]
   simp (disch:=omega) only[go_sem,a46r4,hneg']
   simp (disch:=omega) only[go_sem,a46r5]
  | some pk =>
   have hneed : needR names R d = 2 ^ pk:=by rw [needR,if_neg c3,hp]
   have hpk:=posN_lt hp
   rw [hp] at hneg
   have hf : findI names d.name = (pk : Nat):=by rw [findI,hp]
   rw [hf] at hneg ⊢
   have hneg' : decide (((pk : Nat) : Int) < 0) = false:=hneg
   rw [hneed]
   simp (disch:=omega) only[go_sem]
   simp (disch:=omega) only[go_sem,a46r4,hneg']
   simp (disch:=omega) only[go_sem,a46r6]
   refine WO.den (k:=0) (vs:=[.int .i64 (pk : Nat)]) (by rw [hP.pure]; rfl) (by simp (disch:=omega) only[go_sem]) (bit49_den hP (by omega)) (fun v hv => by subst hv; rfl) (fun v hv => ?_)
   subst hv
   simp (disch:=omega) only[go_sem]
end Go.Am.Ef
/- All rows,the document's way (blazonref24.Rows). -/
namespace Go.Am.Ef
open Go.Am
variable {P : Prog}
set_option maxRecDepth 20000
set_option maxHeartbeats 1000000
def accD (names : List (List UInt8)) (R : Nat → Nat) (m : Nat) (l : List Deed) : Nat:=l.foldl (fun m d => m ||| needR names R d) m
theorem accD_take {names : List (List UInt8)} {R : Nat → Nat} {m : Nat} {l : List Deed} {k : Nat} (hk : k < l.length) : accD names R m (l.take (k + 1)) = accD names R m (l.take k) ||| needR names R (l.getD k default):=by
 unfold accD
 rw [List.take_succ_eq_append_getElem hk,List.foldl_append,List.getD_eq_getElem?_getD,List.getElem?_eq_getElem hk]; rfl
theorem accD_sub {names : List (List UInt8)} {R : Nat → Nat} : ∀ (l : List Deed) (m : Nat),sub m (accD names R m l) ∧ ∀ d ∈ l,sub (needR names R d) (accD names R m l)
 | [],m => ⟨sub_refl _,fun d hd => by simp at hd⟩
 | x :: l,m => by
  obtain ⟨h1,h2⟩:=accD_sub l (m ||| needR names R x)
  refine ⟨sub_trans (sub_or_left _ _) h1,fun d hd => ?_⟩
  rcases List.mem_cons.1 hd with e | h
  ·rw [e]; exact sub_trans (sub_or_right _ _) h1
  ·exact h2 d h
theorem accD_min {names : List (List UInt8)} {R : Nat → Nat} {q : Nat} : ∀ (l : List Deed) (m : Nat),sub m q → (∀ d ∈ l,sub (needR names R d) q) → sub (accD names R m l) q
 | [],m,h, _ => h
 | x :: l,m,h,k => accD_min l _ (or_sub h (k x List.mem_cons_self)) (fun d hd => k d (List.mem_cons_of_mem _ hd))
theorem mask_min {names : List (List UInt8)} {q : Nat} : ∀ (l : List NameV),(∀ x ∈ l,sub (2 ^ (posN names x.name).getD 0) q) → sub (maskL names l) q:=fun l => by
 have : ∀ (l : List NameV) (m : Nat),sub m q → (∀ x ∈ l,sub (2 ^ (posN names x.name).getD 0) q) → sub (l.foldl (fun m x => m ||| 2 ^ (posN names x.name).getD 0) m) q:=fun l => by
  induction l with
  | nil => intro m h _; exact h
  | cons a l ih => intro m h k; exact ih _ (or_sub h (k a List.mem_cons_self)) (fun x hx => k x (List.mem_cons_of_mem _ hx))
 exact this l 0 (sub_zero _)
theorem acc_same {names : List (List UInt8)} {p : ProgV} {R : Nat → Nat} {f : Nat} (hb : badF names (p.fns.getD f default) = none) : accD names R (R f) (deedsF (p.fns.getD f default)) = accR (RDof names p) R f ((RDof names p).c f):=by
 have hs:=accR_sub (D:=RDof names p) (R:=R) (f:=f) ((RDof names p).c f)
 obtain ⟨a1,a2⟩:=accD_sub (names:=names) (R:=R) (deedsF (p.fns.getD f default)) (R f)
 refine sub_anti (accD_min _ _ hs.1 (fun d hd => ?_)) (accR_min a1 ?_ _ (fun x hx => ?_))
 ·unfold needR
  split
  ·rename_i h0
   refine hs.2.2 _ ?_
   have : d.fn.toNat ∈ cR p f:=List.mem_map.2 ⟨d.fn,fnsOf_mem.2 ⟨h0,d,hd,rfl⟩,rfl⟩
   exact cN_cR.2 this
  ·rename_i h0
   cases hp : posN names d.name with
   | none => exact sub_zero _
   | some k =>
    refine sub_trans ?_ hs.2.1
    have hx : (⟨d.name,d.pos⟩ : NameV) ∈ effD (deedsF (p.fns.getD f default)):=List.mem_map.2 ⟨d,List.mem_filter.2 ⟨hd,by simp; omega⟩,rfl⟩
    have:=mask_mem (names:=names) _ _ hx
    simp only[hp,Option.getD_some] at this
    exact this
 ·refine mask_min _ (fun x hx => ?_)
  have hso:=badF_none hb x hx
  obtain ⟨d,hd,rfl⟩:=List.mem_map.1 hx
  obtain ⟨hd1,hd2⟩:=List.mem_filter.1 hd
  have:=a2 d hd1
  have hlt : ¬ 0 ≤ d.fn:=by simpa using hd2
  rw [needR,if_neg hlt] at this
  simp only at hso ⊢
  cases hp : posN names d.name with
  | none => rw [hp] at hso; simp at hso
  | some k => rw [hp] at this; exact this
 ·have hx' : x ∈ cR p f:=cN_cR.1 hx
  obtain ⟨y,hy,rfl⟩:=List.mem_map.1 hx'
  obtain ⟨h0,d,hd,rfl⟩:=fnsOf_mem.1 hy
  have:=a2 d hd
  rwa [needR,if_pos h0] at this
def GotR (names : List (List UInt8)) (p : ProgV) (v : AV) : Prop :=
 (∃ i pos,i < p.fns.length ∧ (∀ j,j < i → badF names (p.fns.getD j default) = none) ∧ badF names (p.fns.getD i default) = some pos ∧ v = .agg [.nils, .int .i64 (i : Nat), .int .i64 pos, .int .i64 13]) ∨
 ((∀ f ∈ p.fns,badF names f = none) ∧ ∃ nl R,v = .agg [slv nl false (usL p.fns.length R), .int .i64 0, .int .i64 0, .int .i64 0] ∧ Lfp (RDof names p) R)
theorem rr_deeds (hP : EfP P) {names : List (List UInt8)} (hn : names.length ≤ 64) {nN nD : Bool} {p : ProgV} (hnf : p.fns.length ≤ 100000) {N : Nat} {g : Heap} {v5 : AV} {R : Nat → Nat} (B : Bld { next:=N,m:=.leaf } g v5 (usL p.fns.length R)) (hlt : ∀ x,x < p.fns.length → R x < 2 ^ 64)
  {D : List Deed} (hD : D.length ≤ 100000) (hdm : ∀ d ∈ D,d.fn = -1 ∨ (0 ≤ d.fn ∧ d.fn < (p.fns.length : Nat))) {m0 : Nat} (hm0 : m0 < 2 ^ 64) {turn i t0 : Nat} {dn : Bool} {K : AExit → St → Prop}
  (hK : ∀ t,K (.exit 8) { fr:=[(1,slv nN false names),(2, .lbox 0 [slv p.sn false p.sites,slv p.fn false p.fns]),(4, .lbox 1 [.nils, .int .i64 0, .int .i64 0, .int .i64 0]),(5,v5),(13, .int .i64 (turn : Nat)),(14, .bool dn),(15, .int .i64 (i : Nat)),(16,slv nD false D),(17, .int .u64 (accD names R m0 D : Nat)),(18, .int .i64 (D.length : Nat)),(126, .bool false)],st:=t,h:=g }) :
  Wp P (.loop a20l2) { fr:=[(1,slv nN false names),(2, .lbox 0 [slv p.sn false p.sites,slv p.fn false p.fns]),(4, .lbox 1 [.nils, .int .i64 0, .int .i64 0, .int .i64 0]),(5,v5),(13, .int .i64 (turn : Nat)),(14, .bool dn),(15, .int .i64 (i : Nat)),(16,slv nD false D),(17, .int .u64 (m0 : Nat)),(18, .int .i64 0)],st:=t0,h:=g } K:=by
 have hE:=B.evs
 refine Wp_loop (fun z : Nat × Nat => z.2 ≤ D.length ∧ accD names R m0 (D.take z.2) < 2 ^ 64) (fun (t,k) => { fr:=[(1,slv nN false names),(2, .lbox 0 [slv p.sn false p.sites,slv p.fn false p.fns]),(4, .lbox 1 [.nils, .int .i64 0, .int .i64 0, .int .i64 0]),(5,v5),(13, .int .i64 (turn : Nat)),(14, .bool dn),(15, .int .i64 (i : Nat)),(16,slv nD false D),(17, .int .u64 (accD names R m0 (D.take k) : Nat)),(18, .int .i64 (k : Nat))],st:=t,h:=g }) (fun z => D.length - z.2) (t0,0) rfl ⟨Nat.zero_le _,hm0⟩ ?_
 rintro ⟨t,k⟩ ⟨k1,k2⟩
 simp only at k1 k2
 by_cases c1 : k < D.length
 ·have w1 : decide (((k : Nat) : Int) < ((D.length : Nat) : Int)) = true:=decide_eq_true (by omega)
  have hst:=accD_take (names:=names) (R:=R) (m:=m0) c1
  have hdk:=hdm _ (slv_get c1)
  have hnlt:=needR_lt (names:=names) hn hlt hdk
  have hacc:=Nat.or_lt_two_pow k2 hnlt
  simp only
  generalize accD names R m0 (D.take k) = m at k2 hst hacc ⊢
  simp (disch:=omega) only[go_sem,a20l2,a20r27,w1,hE.ev]
  simp (disch:=omega) only[go_sem,a20r28,c1,hE.ev]
  obtain ⟨nlb,hb⟩:=B.row.back (N:=0) (fun o _ => Nat.zero_le o) 39
  refine WO.den (k:=1) (vs:=[.agg (Enc.cells (D.getD k default)),slv nN false names,v5]) (by rw [hP.pure]; rfl) (by simp (disch:=omega) only[go_sem,hE.ev,hE.dat]) (R:=fun v => v = .int .u64 ((needR names R (D.getD k default) : Nat) : Int)) ?_ (fun v hv => by subst hv; rfl) (fun v hv => ?_)
  ·have e1 : frz g 0 40 (.agg (Enc.cells (D.getD k default))) = .agg (Enc.cells (D.getD k default)):=by
    rw [cells_Deed]
    simp only[frz_agg,List.map_cons,List.map_nil,frz_int,frz_strv]
   simp only[lent_11,List.map_cons,List.map_nil,frz_slv,e1]
   have hb' : frz g 0 40 v5 = slv nlb false (usL p.fns.length R):=hb
   rw [hb']
   exact does46_den hP hn nN false nlb false hnf hdk
  subst hv
  generalize needR names R (D.getD k default) = q at hnlt hst hacc
  simp (disch:=omega) only[go_sem,hE.ev]
  refine WO.den (k:=0) (vs:=[.int .u64 (m : Nat), .int .u64 (q : Nat)]) (by rw [hP.pure]; rfl) (by simp (disch:=omega) only[go_sem]) (or45_den hP k2 hnlt) (fun v hv => by subst hv; rfl) (fun v hv => ?_)
  subst hv
  simp (disch:=omega) only[go_sem,hE.ev]
  simp (disch:=omega) only[go_sem,a20r29,hE.ev]
  exact ⟨(t,k + 1),⟨by simp only; omega,by simp only[hst]; exact hacc⟩,by simp only; omega,by simp only[hst]; push_cast; rfl⟩
 ·have w1 : decide (((k : Nat) : Int) < ((D.length : Nat) : Int)) = false:=decide_eq_false (by omega)
  have e : k = D.length:=by omega
  have ht : D.take k = D:=by rw [e,List.take_length]
  have:=hK t
  subst e
  simp (disch:=omega) only[go_sem,ht,a20l2,a20r27,w1,hE.ev]
  exact this
end Go.Am.Ef
/- All rows,the document's way (blazonref24.Rows): the turns. -/
namespace Go.Am.Ef
open Go.Am
variable {P : Prog}
set_option maxRecDepth 20000
set_option maxHeartbeats 1000000
structure RRC (names : List (List UInt8)) (p : ProgV) : Prop where
 wf : ProgWf p
 n : p.fns.length ≤ 100000
 nm : names.length ≤ 64
 d : ∀ f ∈ p.fns,(deedsF f).length ≤ 100000
 may : mayP p = true
 ok : CallsOk p
theorem rr_pass (hP : EfP P) {names : List (List UInt8)} {nN : Bool} {p : ProgV} (C : RRC names p) (hall : ∀ f ∈ p.fns,badF names f = none) {N : Nat} {g0 : Heap} {v5 : AV} {R0 : Nat → Nat} (B : Bld { next:=N,m:=.leaf } g0 v5 (usL p.fns.length R0)) (L : Low (RDof names p) R0) {turn t0 : Nat} {K : AExit → St → Prop}
  (hK : ∀ t dn R g,Bld { next:=N,m:=.leaf } g v5 (usL p.fns.length R) → Low (RDof names p) R → (dn = true → R = R0 ∧ ∀ f,f < p.fns.length → Cl (RDof names p) R f) → (dn = false → sumB p.fns.length R0 < sumB p.fns.length R) → K (.exit 6) { fr:=[(1,slv nN false names),(2, .lbox 0 [slv p.sn false p.sites,slv p.fn false p.fns]),(4, .lbox 1 [.nils, .int .i64 0, .int .i64 0, .int .i64 0]),(5,v5),(13, .int .i64 (turn : Nat)),(14, .bool dn),(15, .int .i64 (p.fns.length : Nat)),(103, .bool false)],st:=t,h:=g }) :
  Wp P (.loop a20l3) { fr:=[(1,slv nN false names),(2, .lbox 0 [slv p.sn false p.sites,slv p.fn false p.fns]),(4, .lbox 1 [.nils, .int .i64 0, .int .i64 0, .int .i64 0]),(5,v5),(13, .int .i64 (turn : Nat)),(14, .bool true),(15, .int .i64 0)],st:=t0,h:=g0 } K:=by
 have hE:=B.evs
 have ok:=rd_ok (names:=names) C.nm C.ok
 have hn:=C.n
 refine Wp_loop (fun z : Nat × Nat × Bool × (Nat → Nat) × Heap => z.2.1 ≤ p.fns.length ∧ Bld { next:=N,m:=.leaf } z.2.2.2.2 v5 (usL p.fns.length z.2.2.2.1) ∧ Low (RDof names p) z.2.2.2.1 ∧ (z.2.2.1 = true → z.2.2.2.1 = R0 ∧ ∀ f,f < z.2.1 → Cl (RDof names p) z.2.2.2.1 f) ∧ (z.2.2.1 = false → sumB p.fns.length R0 < sumB p.fns.length z.2.2.2.1))
  (fun (t,i,dn,R,g) => { fr:=[(1,slv nN false names),(2, .lbox 0 [slv p.sn false p.sites,slv p.fn false p.fns]),(4, .lbox 1 [.nils, .int .i64 0, .int .i64 0, .int .i64 0]),(5,v5),(13, .int .i64 (turn : Nat)),(14, .bool dn),(15, .int .i64 (i : Nat))],st:=t,h:=g }) (fun z => p.fns.length - z.2.1) (t0,0,true,R0,g0) rfl ⟨Nat.zero_le _,B,L,fun _ => ⟨rfl,fun f hf => by simp only at hf; omega⟩,fun h => by simp at h⟩ ?_
 rintro ⟨t,i,dn,R,g⟩ ⟨i1,B1,L1,q1,q2⟩
 simp only at i1 B1 L1 q1 q2
 by_cases c1 : i < p.fns.length
 ·have w1 : decide (((i : Nat) : Int) < ((p.fns.length : Nat) : Int)) = true:=decide_eq_true (by omega)
  have hlt : ∀ x,x < p.fns.length → R x < 2 ^ 64:=fun x hx => L1.lt x hx
  cases hsv : (p.fns.getD i default).some with
  | true =>
   have hs : (RDof names p).some i = true:=hsv
   simp (disch:=omega) only[go_sem,a20l3,a20r22,w1,hE.ev]
   simp (disch:=omega) only[go_sem,a20r23,c1,hsv,hE.ev]
   simp (disch:=omega) only[go_sem,a20r33,hE.ev]
   refine ⟨(t,i + 1,dn,R,g),⟨by simp only; omega,B1,L1,fun h => ⟨(q1 h).1,fun f hf => ?_⟩,q2⟩,by simp only; omega,by push_cast; rfl⟩
   simp only at hf
   by_cases e : f = i
   ·rw [e]; intro h2; rw [hs] at h2; simp at h2
   ·exact (q1 h).2 f (by omega)
  | false =>
   have hs : (RDof names p).some i = false:=hsv
   have hf:=C.wf.fns.2 _ (slv_get c1)
   have hdf:=C.d _ (slv_get c1)
   have hdm:=deedsF_may C.may _ (slv_get c1)
   have hacc:=acc_same (R:=R) (hall _ (slv_get c1))
   have hgs:=grow_step ok L1 (f:=i) c1 hs
   have hlow:=L1.step ok (f:=i) c1 hs
   have hcl : Cl (RDof names p) R i ↔ accR (RDof names p) R i ((RDof names p).c i) = R i:=⟨fun h => h hs,fun h _ => h⟩
   have halt:=accR_lt (D:=RDof names p) (R:=R) (f:=i) (L1.lt i c1) (ok.does i c1) ((RDof names p).c i) (fun x hx => L1.lt x (ok.lt i c1 x hx))
   rw [← hacc] at hgs hlow hcl halt
   rcases B1.row with ⟨-,e⟩ | ⟨o5,e5,e,hrow⟩
   ·have h3 : (usL p.fns.length R).length = 0:=by rw [e]; rfl
    rw [len_usL] at h3; omega
   rw [len_usL] at e
   rw [flat_us] at hrow
   have he : v5 = .hs 1 o5 e5 0 p.fns.length false:=e
   subst he
   have l1:=ldU (f:=R) c1
   simp (disch:=omega) only[go_sem,a20l3,a20r22,w1]
   simp (disch:=omega) only[go_sem,a20r23,c1,hsv]
   simp (disch:=omega) only[go_sem,a20r24,c1]
   refine WO.den (k:=0) (vs:=[.agg (Enc.cells (p.fns.getD i default))]) (by rw [hP.pure]; rfl) (by simp (disch:=omega) only[go_sem]) (deeds23_den hP _ hf hdf) (fun v hv => by obtain ⟨nl,rfl⟩:=hv; exact alone1_slv _ _ _) (fun v hv => ?_)
   obtain ⟨nD,rfl⟩:=hv
   generalize deedsF (p.fns.getD i default) = D at hdf hdm hacc hgs hlow hcl halt ⊢
   simp (disch:=omega) only[go_sem]
   simp (disch:=omega) only[go_sem,a20r25,hrow,c1,Nat.mul_one,l1]
   simp (disch:=omega) only[go_sem,a20r26]
   refine rr_deeds hP C.nm hn B1 hlt hdf hdm (hlt i c1) (fun t' => ?_)
   generalize accD names R (R i) D = a at hacc hgs hlow hcl halt ⊢
   by_cases c2 : a = R i
   ·have w2 : decide (¬ ((a : Nat) : Int) = ((R i : Nat) : Int)) = false:=decide_eq_false (by omega)
    simp (disch:=omega) only[go_sem,a20r30,hrow,c1,Nat.mul_one,l1,w2]
    simp (disch:=omega) only[go_sem,a20r33]
    refine ⟨(t',i + 1,dn,R,g),⟨by simp only; omega,B1,L1,fun h => ⟨(q1 h).1,fun f hf => ?_⟩,q2⟩,by simp only; omega,by push_cast; rfl⟩
    simp only at hf
    by_cases e : f = i
    ·rw [e]; exact hcl.2 c2
    ·exact (q1 h).2 f (by omega)
   ·have w2 : decide (¬ ((a : Nat) : Int) = ((R i : Nat) : Int)) = true:=decide_eq_true (by omega)
    have x1:=ovU (f:=R) (v:=a) c1
    have hgr : sumB p.fns.length R < sumB p.fns.length (upd R i a):=by
     rcases hgs with ⟨e, -⟩ | ⟨-,e⟩
     ·exact absurd e c2
     ·exact e
    have hB2 : Bld { next:=N,m:=.leaf } (g.put o5 (.row 1 e5 (u64T p.fns.length (upd R i a)))) (.hs 1 o5 e5 0 p.fns.length false) (usL p.fns.length (upd R i a)):=by
     have ho:=B1.own o5 rfl
     refine ⟨.inr ⟨o5,e5,by rw [len_usL]; rfl,by rw [flat_us]; exact get_put_same _ _ _⟩,fun o eo => ?_,B1.le,fun o hlo => ?_⟩
     ·obtain rfl:=Option.some.inj eo; exact ho
     ·rw [get_put_ne _ _ _ _ (by omega)]; exact B1.keep o hlo
    simp (disch:=omega) only[go_sem,a20r30,hrow,c1,Nat.mul_one,l1,w2]
    simp (disch:=omega) only[go_sem,a20r31]
    simp (disch:=omega) only[go_sem,a20r32,hrow,c1,Nat.mul_one,x1]
    simp (disch:=omega) only[go_sem,a20r33]
    refine ⟨(t',i + 1,false,upd R i a,g.put o5 (.row 1 e5 (u64T p.fns.length (upd R i a)))),⟨by simp only; omega,hB2,hlow,fun h => by simp at h,fun _ => ?_⟩,by simp only; omega,by push_cast; rfl⟩
    simp only
    cases dn with
    | true => obtain ⟨rfl, -⟩:=q1 rfl; exact hgr
    | false => have:=q2 rfl; omega
 ·have w1 : decide (((i : Nat) : Int) < ((p.fns.length : Nat) : Int)) = false:=decide_eq_false (by omega)
  have e : i = p.fns.length:=by omega
  subst e
  have:=hK t dn R g B1 L1 q1 q2
  simp (disch:=omega) only[go_sem,a20l3,a20r22,w1,hE.ev]
  exact this
theorem rr_turns (hP : EfP P) {names : List (List UInt8)} {nN : Bool} {p : ProgV} (C : RRC names p) (hall : ∀ f ∈ p.fns,badF names f = none) {N : Nat} {g0 : Heap} {v5 : AV} {R0 : Nat → Nat} (B : Bld { next:=N,m:=.leaf } g0 v5 (usL p.fns.length R0)) (L : Low (RDof names p) R0) {t0 : Nat} {K : AExit → St → Prop}
  (hK : ∀ t x k R g,Bld { next:=N,m:=.leaf } g v5 (usL p.fns.length R) → Lfp (RDof names p) R → K (.exit 4) { fr:=[(1,slv nN false names),(2, .lbox 0 [slv p.sn false p.sites,slv p.fn false p.fns]),(4, .lbox 1 [.nils, .int .i64 0, .int .i64 0, .int .i64 0]),(5,v5),(13, .int .i64 (k : Nat)),(148, .bool x)],st:=t,h:=g }) :
  Wp P (.loop a20l4) { fr:=[(1,slv nN false names),(2, .lbox 0 [slv p.sn false p.sites,slv p.fn false p.fns]),(4, .lbox 1 [.nils, .int .i64 0, .int .i64 0, .int .i64 0]),(5,v5),(13, .int .i64 0)],st:=t0,h:=g0 } K:=by
 have hE:=B.evs
 have hn:=C.n
 refine Wp_loop (fun z : Nat × Nat × (Nat → Nat) × Heap => z.2.1 ≤ sumB p.fns.length z.2.2.1 ∧ Bld { next:=N,m:=.leaf } z.2.2.2 v5 (usL p.fns.length z.2.2.1) ∧ Low (RDof names p) z.2.2.1)
  (fun (t,k,R,g) => { fr:=[(1,slv nN false names),(2, .lbox 0 [slv p.sn false p.sites,slv p.fn false p.fns]),(4, .lbox 1 [.nils, .int .i64 0, .int .i64 0, .int .i64 0]),(5,v5),(13, .int .i64 (k : Nat))],st:=t,h:=g }) (fun z => 64 * p.fns.length + 1 - z.2.1) (t0,0,R0,g0) rfl ⟨Nat.zero_le _,B,L⟩ ?_
 rintro ⟨t,k,R,g⟩ ⟨k1,B1,L1⟩
 simp only at k1 B1 L1
 have hle:=sumB_le p.fns.length R
 have w1 : decide (((k : Nat) : Int) ≤ 64 * ((p.fns.length : Nat) : Int)) = true:=decide_eq_true (by omega)
 simp (disch:=omega) only[go_sem,a20l4,a20r19,w1,hE.ev]
 simp (disch:=omega) only[go_sem,a20r20,hE.ev]
 simp (disch:=omega) only[go_sem,a20r21,hE.ev]
 refine rr_pass hP C hall B1 L1 (fun t' dn R2 g2 b1 b2 b3 b4 => ?_)
 cases dn with
 | true =>
  simp (disch:=omega) only[go_sem,a20r34,hE.ev]
  exact hK t' true k R2 g2 b1 (Lfp.of_closed b2 (b3 rfl).2)
 | false =>
  have:=b4 rfl
  simp (disch:=omega) only[go_sem,a20r34,hE.ev]
  simp (disch:=omega) only[go_sem,a20r35,hE.ev]
  exact ⟨(t',k + 1,R2,g2),⟨by simp only; omega,b1,b2⟩,by simp only; omega,by push_cast; rfl⟩
end Go.Am.Ef
/- All rows,the document's way (blazonref24.Rows): the whole. -/
namespace Go.Am.Ef
open Go.Am
variable {P : Prog}
set_option maxRecDepth 20000
set_option maxHeartbeats 1000000
theorem startR_row (names : List (List UInt8)) (p : ProgV) : p.fns.map (rowM names) = usL p.fns.length (startR (RDof names p)):=by
 rw [map_usL]; rfl
theorem rr_names (hP : EfP P) {names : List (List UInt8)} (hn : names.length ≤ 64) {nN nD : Bool} {p : ProgV} {D : List Deed} (hD : D.length ≤ 100000) {g : Heap} {v5 : AV} (hE : Evs v5) {i t0 t7 : Nat} {f : FuncV} {m : Nat} {K : AExit → St → Prop}
  (hok : badL names (effD D) = none → ∀ t,K (.exit 2) { fr:=[(1,slv nN false names),(2, .lbox 0 [slv p.sn false p.sites,slv p.fn false p.fns]),(4, .lbox 1 [.nils, .int .i64 0, .int .i64 0, .int .i64 0]),(5,v5),(6, .int .i64 (i : Nat)),(7, .lbox t7 (Enc.cells f)),(8, .int .u64 (m : Nat)),(11,slv nD false D),(12, .int .i64 (D.length : Nat)),(57, .bool false)],st:=t,h:=g })
  (hbad : ∀ k,badL names (effD D) = some k → ∀ t,K .ret { fr:=[(4, .lbox 1 [.nils, .int .i64 (i : Nat), .int .i64 ((effD D).getD k default).pos, .int .i64 13])],st:=t,h:=g }) :
  Wp P (.loop a20l0) { fr:=[(1,slv nN false names),(2, .lbox 0 [slv p.sn false p.sites,slv p.fn false p.fns]),(4, .lbox 1 [.nils, .int .i64 0, .int .i64 0, .int .i64 0]),(5,v5),(6, .int .i64 (i : Nat)),(7, .lbox t7 (Enc.cells f)),(8, .int .u64 (m : Nat)),(11,slv nD false D),(12, .int .i64 0)],st:=t0,h:=g } K:=by
 refine Wp_loop (fun z : Nat × Nat => z.2 ≤ D.length ∧ ∀ x ∈ effD (D.take z.2),(posN names x.name).isSome = true) (fun (t,k) => { fr:=[(1,slv nN false names),(2, .lbox 0 [slv p.sn false p.sites,slv p.fn false p.fns]),(4, .lbox 1 [.nils, .int .i64 0, .int .i64 0, .int .i64 0]),(5,v5),(6, .int .i64 (i : Nat)),(7, .lbox t7 (Enc.cells f)),(8, .int .u64 (m : Nat)),(11,slv nD false D),(12, .int .i64 (k : Nat))],st:=t,h:=g }) (fun z => D.length - z.2) (t0,0) rfl ⟨Nat.zero_le _,fun x hx => by simp [effD] at hx⟩ ?_
 rintro ⟨t,k⟩ ⟨k1,k2⟩
 simp only at k1 k2
 by_cases c1 : k < D.length
 ·have w1 : decide (((k : Nat) : Int) < ((D.length : Nat) : Int)) = true:=decide_eq_true (by omega)
  have hnx:=effD_take c1
  have hgo : (∀ x ∈ effD (D.take (k + 1)),(posN names x.name).isSome = true) → ∃ y : Nat × Nat,(y.2 ≤ D.length ∧ ∀ x ∈ effD (D.take y.2),(posN names x.name).isSome = true) ∧ D.length - y.2 < D.length - k ∧ ({ fr:=[(1,slv nN false names),(2, .lbox 0 [slv p.sn false p.sites,slv p.fn false p.fns]),(4, .lbox 1 [.nils, .int .i64 0, .int .i64 0, .int .i64 0]),(5,v5),(6, .int .i64 (i : Nat)),(7, .lbox t7 (Enc.cells f)),(8, .int .u64 (m : Nat)),(11,slv nD false D),(12, .int .i64 ((k : Int) + 1))],st:=t,h:=g } : St) = (match y with | (t,k) => { fr:=[(1,slv nN false names),(2, .lbox 0 [slv p.sn false p.sites,slv p.fn false p.fns]),(4, .lbox 1 [.nils, .int .i64 0, .int .i64 0, .int .i64 0]),(5,v5),(6, .int .i64 (i : Nat)),(7, .lbox t7 (Enc.cells f)),(8, .int .u64 (m : Nat)),(11,slv nD false D),(12, .int .i64 (k : Nat))],st:=t,h:=g }):=fun h => ⟨(t,k + 1),⟨by simp only; omega,h⟩,by simp only; omega,by push_cast; rfl⟩
  simp (disch:=omega) only[go_sem,a20l0,a20r10,w1,hE.ev]
  by_cases c2 : (D.getD k default).fn < 0
  ·have w2 : decide ((D.getD k default).fn < 0) = true:=decide_eq_true c2
   rw [if_pos c2] at hnx
   simp (disch:=omega) only[go_sem,a20r11,c1,w2,hE.ev]
   refine WO.den (k:=1) (vs:=[slv nN false names,strv (D.getD k default).name]) (by rw [hP.pure]; rfl) (by simp (disch:=omega) only[go_sem]) (R:=fun v => v = .int .i64 (findI names (D.getD k default).name)) ?_ (fun v hv => by subst hv; rfl) (fun v hv => ?_)
   ·simp only[lent_11,List.map_cons,List.map_nil,frz_strv,frz_slv]
    exact find41_den hP nN false names _ (by omega)
   subst hv
   have hneg:=findI_neg (names:=names) (s:=(D.getD k default).name)
   cases hp : (posN names (D.getD k default).name).isSome with
   | false =>
    rw [hp] at hneg
    have hneg' : decide (findI names (D.getD k default).name < 0) = true:=hneg
    simp (disch:=omega) only[go_sem,hneg',hE.ev]
    simp (disch:=omega) only[go_sem,a20r12,c1,hE.ev]
    have hsp : ∃ r,effD D = effD (D.take k) ++ ⟨(D.getD k default).name,(D.getD k default).pos⟩ :: r:=by
     refine ⟨effD (D.drop (k + 1)), ?_⟩
     conv => lhs; rw [← List.take_append_drop (k + 1) D]
     have : ∀ a b : List Deed,effD (a ++ b) = effD a ++ effD b:=fun a b => by unfold effD; rw [List.filter_append,List.map_append]
     rw [this,hnx,List.append_assoc]; rfl
    obtain ⟨r,hr⟩:=hsp
    have hb : badL names (effD D) = some (effD (D.take k)).length:=by rw [hr]; exact badL_snoc k2 hp
    have:=hbad _ hb t
    have hpos : ((effD D).getD (effD (D.take k)).length default).pos = (D.getD k default).pos:=by
     rw [hr]; simp [List.getD_eq_getElem?_getD]
    rw [hpos] at this
    exact this
   | true =>
    rw [hp] at hneg
    have hneg' : decide (findI names (D.getD k default).name < 0) = false:=hneg
    simp (disch:=omega) only[go_sem,hneg',hE.ev]
    simp (disch:=omega) only[go_sem,a20r13,hE.ev]
    refine hgo (fun x hx => ?_)
    rw [hnx] at hx
    rcases List.mem_append.1 hx with h3 | h3
    ·exact k2 x h3
    ·rw [List.mem_singleton.1 h3]; exact hp
  ·have w2 : decide ((D.getD k default).fn < 0) = false:=decide_eq_false c2
   rw [if_neg c2,List.append_nil] at hnx
   simp (disch:=omega) only[go_sem,a20r11,c1,w2,hE.ev]
   simp (disch:=omega) only[go_sem,a20r13,hE.ev]
   exact hgo (by rw [hnx]; exact k2)
 ·have w1 : decide (((k : Nat) : Int) < ((D.length : Nat) : Int)) = false:=decide_eq_false (by omega)
  have e : k = D.length:=by omega
  subst e
  rw [List.take_length] at k2
  have:=hok (badL_none.2 k2) t
  simp (disch:=omega) only[go_sem,a20l0,a20r10,w1,hE.ev]
  exact this
theorem refrows20_den (hP : EfP P) {names : List (List UInt8)} {nN : Bool} {p : ProgV} (C : RRC names p) : Den P 20 [p.av,slv nN false names] (fun v => GotR names p v):=by
 refine Den.of (code:=a20c) (hP.code rfl) (fun N => ?_)
 have hn:=C.n
 have hnm:=C.nm
 unfold ProgV.av
 simp (disch:=omega) only[go_sem,a20c,a20r0]
 simp (disch:=omega) only[go_sem,a20r1]
 simp (disch:=omega) only[go_sem,a20r2]
 refine Wp_loop (fun z : Nat × Nat × AV × Heap => z.2.1 ≤ p.fns.length ∧ (∀ j,j < z.2.1 → badF names (p.fns.getD j default) = none) ∧ Bld { next:=N,m:=.leaf } z.2.2.2 z.2.2.1 ((p.fns.take z.2.1).map (rowM names)))
  (fun (t,i,v5,g) => { fr:=[(1,slv nN false names),(2, .lbox 0 [slv p.sn false p.sites,slv p.fn false p.fns]),(4, .lbox 1 [.nils, .int .i64 0, .int .i64 0, .int .i64 0]),(5,v5),(6, .int .i64 (i : Nat))],st:=t,h:=g }) (fun z => p.fns.length - z.2.1) (2,0, .nils, _) rfl ⟨Nat.zero_le _,fun j hj => by simp only at hj; omega,Bld.nil _⟩ ?_
 rintro ⟨t,i,v5,g⟩ ⟨i1,i2,B⟩
 simp only at i1 i2 B
 have hE:=B.evs
 by_cases c1 : i < p.fns.length
 ·have w1 : decide (((i : Nat) : Int) < ((p.fns.length : Nat) : Int)) = true:=decide_eq_true (by omega)
  have hf:=C.wf.fns.2 _ (slv_get c1)
  have hdf:=C.d _ (slv_get c1)
  have hst : (p.fns.take (i + 1)).map (rowM names) = (p.fns.take i).map (rowM names) ++ [rowM names (p.fns.getD i default)]:=by
   rw [List.take_succ_eq_append_getElem c1,List.map_append,List.getD_eq_getElem?_getD,List.getElem?_eq_getElem c1]; rfl
  have hl1 : ((p.fns.take i).map (rowM names)).length ≤ 100000:=by simp; omega
  have herr : ∀ pos,badF names (p.fns.getD i default) = some pos → GotR names p (.agg [.nils, .int .i64 (i : Nat), .int .i64 pos, .int .i64 13]):=fun pos hb => .inl ⟨i,pos,c1,i2,hb,rfl⟩
  simp (disch:=omega) only[go_sem,a20l1,a20r3,w1,hE.ev]
  simp (disch:=omega) only[go_sem,a20r4,c1,hE.ev]
  simp (disch:=omega) only[go_sem,a20r5,hE.ev]
  refine WO.den (k:=1) (vs:=[slv nN false names,slv (p.fns.getD i default).rn false (p.fns.getD i default).row]) (by rw [hP.pure]; rfl) (by simp (disch:=omega) only[go_sem]) (R:=fun v => v = setRR names (p.fns.getD i default).row) ?_ (fun v hv => ?_) (fun v hv => ?_)
  ·simp only[lent_11,List.map_cons,List.map_nil,frz_slv]
   exact set44_den hP hnm nN false _ false _ hf.row.1
  ·subst hv
   unfold setRR
   cases badL names (p.fns.getD i default).row <;> rfl
  subst hv
  unfold setRR
  cases hb1 : badL names (p.fns.getD i default).row with
  | some k =>
   have hk : k < (p.fns.getD i default).row.length:=by
    rw [badL,List.findIdx?_eq_some_iff_getElem] at hb1
    exact hb1.1
   simp (disch:=omega) only[go_sem,hE.ev]
   simp (disch:=omega) only[go_sem,a20r6,hE.ev]
   simp (disch:=omega) only[go_sem,a20r7,hk,hE.ev]
   exact herr _ (by rw [badF,hb1])
  | none =>
   have hml:=maskL_lt hnm (p.fns.getD i default).row
   simp (disch:=omega) only[go_sem,hE.ev]
   simp (disch:=omega) only[go_sem,a20r6,hE.ev]
   simp (disch:=omega) only[go_sem,a20r8,hE.ev]
   refine WO.den (k:=0) (vs:=[.agg (Enc.cells (p.fns.getD i default))]) (by rw [hP.pure]; rfl) (by simp (disch:=omega) only[go_sem]) (deeds23_den hP _ hf hdf) (fun v hv => by obtain ⟨nl,rfl⟩:=hv; exact alone1_slv _ _ _) (fun v hv => ?_)
   obtain ⟨nD,rfl⟩:=hv
   simp (disch:=omega) only[go_sem,hE.ev]
   simp (disch:=omega) only[go_sem,a20r9,hE.ev]
   refine rr_names hP hnm hdf hE (fun hb2 t2 => ?_) (fun k hb2 t2 => ?_)
   ·have hbn : badF names (p.fns.getD i default) = none:=by rw [badF,hb1,hb2]
    have i2' : ∀ j,j < i + 1 → badF names (p.fns.getD j default) = none:=fun j hj => by
     by_cases e : j = i
     ·rw [e]; exact hbn
     ·exact i2 j (by omega)
    cases hs : (p.fns.getD i default).some with
    | true =>
     have hrm : rowM names (p.fns.getD i default) = ⟨maskL names (p.fns.getD i default).row⟩:=by rw [rowM,if_pos hs]
     simp (disch:=omega) only[go_sem,a20r14,hs,hE.ev]
     simp (disch:=omega) only[go_sem,a20r16,hE.ev,hE.dat]
     refine stepBld (k:=1) (α:=U64) B (by omega) (adds_one (α:=U64) _ ⟨maskL names (p.fns.getD i default).row⟩ _ true rfl) rfl (by simp only[List.length_cons,List.length_nil,two47]; omega) (fun v' h' hB' hn hE' => ?_)
     simp (disch:=omega) only[go_sem,hE'.ev]
     simp (disch:=omega) only[go_sem,a20r17,hE'.ev]
     rw [← hrm, ← hst] at hB'
     exact ⟨(t2,i + 1,v',h'),⟨by simp only; omega,i2',hB'⟩,by simp only; omega,by push_cast; rfl⟩
    | false =>
     have hrm : rowM names (p.fns.getD i default) = ⟨0⟩:=by rw [rowM,if_neg (by rw [hs]; simp)]
     simp (disch:=omega) only[go_sem,a20r14,hs,hE.ev]
     simp (disch:=omega) only[go_sem,a20r15,hE.ev]
     simp (disch:=omega) only[go_sem,a20r16,hE.ev,hE.dat]
     refine stepBld (k:=1) (α:=U64) B (by omega) (adds_one (α:=U64) _ ⟨0⟩ _ true rfl) rfl (by simp only[List.length_cons,List.length_nil,two47]; omega) (fun v' h' hB' hn hE' => ?_)
     simp (disch:=omega) only[go_sem,hE'.ev]
     simp (disch:=omega) only[go_sem,a20r17,hE'.ev]
     rw [← hrm, ← hst] at hB'
     exact ⟨(t2,i + 1,v',h'),⟨by simp only; omega,i2',hB'⟩,by simp only; omega,by push_cast; rfl⟩
   ·simp (disch:=omega) only[go_sem]
    exact herr _ (by rw [badF,hb1,hb2])
 ·have w1 : decide (((i : Nat) : Int) < ((p.fns.length : Nat) : Int)) = false:=decide_eq_false (by omega)
  have e : i = p.fns.length:=by omega
  subst e
  rw [List.take_length,startR_row] at B
  have hall : ∀ f ∈ p.fns,badF names f = none:=fun f hf => by
   obtain ⟨i,hi,rfl⟩:=List.getElem_of_mem hf
   have:=i2 i hi
   rwa [List.getD_eq_getElem?_getD,List.getElem?_eq_getElem hi] at this
  simp (disch:=omega) only[go_sem,a20l1,a20r3,w1,hE.ev]
  simp (disch:=omega) only[go_sem,a20r18,hE.ev]
  refine rr_turns hP C hall B (Low.start (rd_ok hnm C.ok)) (fun t x k R g B2 HL => ?_)
  obtain ⟨nlb,hb⟩:=B2.row.back (N:=N) (fun o ho => (B2.own o ho).1) 38
  simp (disch:=omega) only[go_sem,a20r36,hE.ev,hE.dat,hE.cel,hb]
  refine .inr ⟨hall,nlb,R, ?_,HL⟩
  show frz g N 40 (.agg [v5, .int .i64 0, .int .i64 0, .int .i64 0]) = _
  rw [frz_agg]
  simp only[List.map_cons,List.map_nil,frz_int,hb]
end Go.Am.Ef
/- Rows are kept,the document's way (blazonref24.Check). -/
namespace Go.Am.Ef
open Go.Am
variable {P : Prog}
set_option maxRecDepth 20000
set_option maxHeartbeats 1000000
theorem alone1_agg (c : List AV) (h : ∀ x ∈ c,pureV 1000001 x = true) : pureV big (.agg c) = true:=by
 have : pureV (1000001 + 1) (.agg c) = true:=List.all_eq_true.2 h
 exact pureV_mono (by unfold big; omega) this
theorem refcheck21_den (hP : EfP P) {names : List (List UInt8)} {nN : Bool} {p : ProgV} (C : RRC names p) : Den P 21 [p.av,slv nN false names] (fun v => CheckR names p v):=by
 refine Den.of (code:=a21c) (hP.code rfl) (fun N => ?_)
 have hn:=C.n
 have hnm:=C.nm
 have hm:=C.may
 unfold ProgV.av
 simp (disch:=omega) only[go_sem,a21c,a21r0]
 simp (disch:=omega) only[go_sem,a21r1]
 refine WO.den (k:=0) (vs:=[p.av,slv nN false names]) (by rw [hP.pure]; rfl) (by simp (disch:=omega) only[go_sem]; rfl) (refrows20_den hP C) (fun v hv => ?_) (fun v hv => ?_)
 ·rcases hv with ⟨i,pos, -, -, -,rfl⟩ | ⟨-,nl,R,rfl, -⟩
  ·rfl
  ·refine alone1_agg _ (fun x hx => ?_)
   simp only[List.mem_cons,List.not_mem_nil,or_false] at hx
   rcases hx with rfl | rfl | rfl | rfl
   ·exact pureV_slv _ _ _ _ (Nat.le_refl _)
   ·rfl
   ·rfl
   ·rfl
 rcases hv with ⟨i,pos,hi,hj,hb,rfl⟩ | ⟨hall,nR,R,rfl,HL⟩
 ·have he : decide (¬ (13 : Int) = (0 : Int)) = true:=by decide
  simp (disch:=omega) only[go_sem]
  simp (disch:=omega) only[go_sem,a21r2]
  simp (disch:=omega) only[go_sem,a21d3]
  exact .inr (.inl ⟨hm,i,pos,hi,hj,hb,rfl⟩)
 have hlt : ∀ x,x < p.fns.length → R x < 2 ^ 64:=fun x hx => HL.low.lt x hx
 simp (disch:=omega) only[go_sem]
 simp (disch:=omega) only[go_sem,a21r2]
 simp (disch:=omega) only[go_sem,a21r4]
 refine Wp_loop (fun z : Nat × Nat => z.2 ≤ p.fns.length ∧ ∀ j,j < z.2 → badA names R p j = none) (fun (t,i) => { fr:=[(1,slv nN false names),(2, .lbox 0 [slv p.sn false p.sites,slv p.fn false p.fns]),(4, .int .i64 0),(5, .int .i64 0),(6, .int .i64 0),(7, .lbox 1 [slv nR false (usL p.fns.length R), .int .i64 0, .int .i64 0, .int .i64 0]),(8, .int .i64 (i : Nat))],st:=t,h:={ next:=N,m:=.leaf } }) (fun z => p.fns.length - z.2) (2,0) rfl ⟨Nat.zero_le _,fun j hj => by simp only at hj; omega⟩ ?_
 rintro ⟨t,i⟩ ⟨i1,i2⟩
 simp only at i1 i2
 by_cases c1 : i < p.fns.length
 ·have w1 : decide (((i : Nat) : Int) < ((p.fns.length : Nat) : Int)) = true:=decide_eq_true (by omega)
  have hf:=C.wf.fns.2 _ (slv_get c1)
  have hdf:=C.d _ (slv_get c1)
  have hdm:=deedsF_may hm _ (slv_get c1)
  have hbA : ∀ D,deedsF (p.fns.getD i default) = D → badA names R p i = badD names R D (R i):=fun D e => by rw [badA,e]
  have hps : ∀ D,deedsF (p.fns.getD i default) = D → ∀ n,badA names R p i = some n → ∀ v,v = .tup [.int .i64 (i : Nat), .int .i64 (D.getD n default).pos, .int .i64 20] → CheckR names p v:=fun D e n hn v hv => .inr (.inr ⟨hm,hall,R,HL, .inl ⟨i,n,c1,i2,hn,by rw [e]; exact hv⟩⟩)
  have hul : i < (usL p.fns.length R).length:=by rw [len_usL]; exact c1
  have hug:=usL_get (R:=R) c1
  simp (disch:=omega) only[go_sem,a21l1,a21r5,w1]
  simp (disch:=omega) only[go_sem,a21r6,c1]
  refine WO.den (k:=0) (vs:=[.agg (Enc.cells (p.fns.getD i default))]) (by rw [hP.pure]; rfl) (by simp (disch:=omega) only[go_sem]) (deeds23_den hP _ hf hdf) (fun v hv => by obtain ⟨nl,rfl⟩:=hv; exact alone1_slv _ _ _) (fun v hv => ?_)
  obtain ⟨nD,rfl⟩:=hv
  generalize hD : deedsF (p.fns.getD i default) = D at hdf hdm hbA hps ⊢
  have hbA:=hbA D rfl
  have hps:=hps D rfl
  simp (disch:=omega) only[go_sem]
  simp (disch:=omega) only[go_sem,a21r7]
  refine Wp_loop (fun z : Nat × Nat => z.2 ≤ D.length ∧ ∀ j,j < z.2 → (!decide (needR names R (D.getD j default) ||| R i = R i)) = false) (fun (t,k) => { fr:=[(1,slv nN false names),(2, .lbox 0 [slv p.sn false p.sites,slv p.fn false p.fns]),(4, .int .i64 0),(5, .int .i64 0),(6, .int .i64 0),(7, .lbox 1 [slv nR false (usL p.fns.length R), .int .i64 0, .int .i64 0, .int .i64 0]),(8, .int .i64 (i : Nat)),(9,slv nD false D),(10, .int .i64 (k : Nat))],st:=t,h:={ next:=N,m:=.leaf } }) (fun z => D.length - z.2) (_,0) rfl ⟨Nat.zero_le _,fun j hj => by simp only at hj; omega⟩ ?_
  rintro ⟨t2,k⟩ ⟨k1,k2⟩
  simp only at k1 k2
  by_cases c2 : k < D.length
  ·have w2 : decide (((k : Nat) : Int) < ((D.length : Nat) : Int)) = true:=decide_eq_true (by omega)
   have hdk:=hdm _ (slv_get c2)
   have hnlt:=needR_lt (names:=names) hnm hlt hdk
   simp (disch:=omega) only[go_sem,a21l0,a21r8,w2]
   simp (disch:=omega) only[go_sem,a21d9,c2,hul,hug]
   refine WD_den (k:=1) (vs:=[.agg (Enc.cells (D.getD k default)),slv nN false names,slv nR false (usL p.fns.length R)]) (by rw [hP.pure]; rfl) (by simp (disch:=omega) only[go_sem]) (R:=fun v => v = .int .u64 ((needR names R (D.getD k default) : Nat) : Int)) ?_ (fun v hv => by subst hv; rfl) (fun v hv => by subst hv; simp (disch:=omega) only[go_sem,c2,hul,hug]) (fun v hv => ?_)
   ·have e1 : ∀ g : Heap,frz g 0 40 (.agg (Enc.cells (D.getD k default))) = .agg (Enc.cells (D.getD k default)):=fun g => by
     rw [cells_Deed]
     simp only[frz_agg,List.map_cons,List.map_nil,frz_int,frz_strv]
    simp only[lent_11,List.map_cons,List.map_nil,frz_slv,e1]
    exact does46_den hP hnm nN false nR false hn hdk
   subst hv
   generalize hnn : needR names R (D.getD k default) = nn at hnlt
   simp (disch:=omega) only[go_sem,c2,hul,hug]
   refine WD_den (k:=0) (vs:=[.int .u64 (R i : Nat), .int .u64 (nn : Nat)]) (by rw [hP.pure]; rfl) (by simp (disch:=omega) only[go_sem]) (or45_den hP (hlt i c1) hnlt) (fun v hv => by subst hv; rfl) (fun v hv => by subst hv; simp (disch:=omega) only[go_sem,c2,hul,hug]) (fun v hv => ?_)
   subst hv
   by_cases c4 : nn ||| R i = R i
   ·have c5 : R i ||| nn = R i:=by rw [Nat.or_comm]; exact c4
    have w3 : decide (¬ ((R i ||| nn : Nat) : Int) = ((R i : Nat) : Int)) = false:=decide_eq_false (by omega)
    simp (disch:=omega) only[go_sem,c2,hul,hug,w3]
    simp (disch:=omega) only[go_sem,a21r11]
    refine ⟨(_,k + 1),⟨by simp only; omega,fun j hj => ?_⟩,by simp only; omega,by push_cast; rfl⟩
    simp only at hj
    by_cases e : j = k
    ·rw [e,hnn,decide_eq_true c4]; rfl
    ·exact k2 j (by omega)
   ·have c5 : ¬ R i ||| nn = R i:=by rw [Nat.or_comm]; exact c4
    have w3 : decide (¬ ((R i ||| nn : Nat) : Int) = ((R i : Nat) : Int)) = true:=decide_eq_true (by omega)
    simp (disch:=omega) only[go_sem,c2,hul,hug,w3]
    simp (disch:=omega) only[go_sem,a21d10,c2]
    exact hps k (by rw [hbA]; exact findIdx_at c2 k2 (by rw [hnn,decide_eq_false c4]; rfl)) _ rfl
  ·have w2 : decide (((k : Nat) : Int) < ((D.length : Nat) : Int)) = false:=decide_eq_false (by omega)
   have e : k = D.length:=by omega
   subst e
   simp (disch:=omega) only[go_sem,a21l0,a21r8,w2]
   simp (disch:=omega) only[go_sem,a21r12]
   refine ⟨(_,i + 1),⟨by simp only; omega,fun j hj => ?_⟩,by simp only; omega,by push_cast; rfl⟩
   simp only at hj
   by_cases e : j = i
   ·rw [e,hbA]; exact findIdx_no k2
   ·exact i2 j (by omega)
 have w1 : decide (((i : Nat) : Int) < ((p.fns.length : Nat) : Int)) = false:=decide_eq_false (by omega)
 have e : i = p.fns.length:=by omega
 subst e
 simp (disch:=omega) only[go_sem,a21l1,a21r5,w1]
 simp (disch:=omega) only[go_sem,a21r13]
 exact .inr (.inr ⟨hm,hall,R,HL, .inr ⟨i2,rfl⟩⟩)
end Go.Am.Ef

/- The abstract machine's operations as rewriting rules: what a region comes to. Own work. -/
import Derived.Test.YtijfdjjbodalaaaAmAll3
import Derived.ProofKit
import Derived.OpenShut
import Derived.Carry
set_option linter.unusedSimpArgs false
set_option linter.unusedVariables false
namespace Go.Am
variable {P : Prog} {s : St} {base : Nat} {K : St → Prop}
@[go_sem] theorem WO_nil : WO P base [] s K = K s := propext ⟨fun ⟨n, s', h1, h2⟩ => by simp only [ops, Option.some.injEq] at h1; subst h1; exact h2, WO.nil⟩
def stepS (P : Prog) (base : Nat) (o : Option (AV × St)) (d : Option Nat) (r : List AOper) (K : St → Prop) : Prop := match o with
  | some (v, s') => WO P base r { s' with fr := setD s'.fr d v } K
  | none => False
@[go_sem] theorem stepS_some (v : AV) (s' : St) (d : Option Nat) (r : List AOper) : stepS P base (some (v, s')) d r K = WO P base r { s' with fr := setD s'.fr d v } K := rfl
theorem WO_plain {d : Option Nat} {op : AOp} {r : List AOper} (h : isCall op = false) : WO P base (⟨d, op, none⟩ :: r) s K = stepS P base (aop base d op s) d r K := by
  refine propext ⟨fun ⟨n, s', h1, h2⟩ => ?_, fun h1 => ?_⟩
  · simp only [ops, wantedA, Option.bind_some, cond_true, oper_plain (o := ⟨d, op, none⟩) h, Option.bind_eq_some_iff] at h1
    obtain ⟨⟨v, s1⟩, h3, h4⟩ := h1
    simp only [stepS, h3]
    exact ⟨n, s', h4, h2⟩
  · unfold stepS at h1
    split at h1
    · rename_i v s' ha
      exact WO.step h ha h1
    · exact h1.elim
def guardS (P : Prog) (base : Nat) (o : Option AV) (b : Bool) (d : Option Nat) (op : AOp) (r : List AOper) (s : St) (K : St → Prop) : Prop := match o with
  | some (.bool c) => bif c == b then WO P base (⟨d, op, none⟩ :: r) s K else WO P base r { s with fr := setD s.fr d undefA } K
  | some (.tup _) => WO P base r { s with fr := setD s.fr d undefA } K
  | _ => False
section
variable {d : Option Nat} {op : AOp} {r : List AOper}
@[go_sem] theorem guardS_tt : guardS P base (some (.bool true)) true d op r s K = WO P base (⟨d, op, none⟩ :: r) s K := rfl
@[go_sem] theorem guardS_ff : guardS P base (some (.bool false)) false d op r s K = WO P base (⟨d, op, none⟩ :: r) s K := rfl
@[go_sem] theorem guardS_tf : guardS P base (some (.bool true)) false d op r s K = WO P base r { s with fr := setD s.fr d undefA } K := rfl
@[go_sem] theorem guardS_ft : guardS P base (some (.bool false)) true d op r s K = WO P base r { s with fr := setD s.fr d undefA } K := rfl
@[go_sem] theorem guardS_tup (cs : List AV) (b : Bool) : guardS P base (some (.tup cs)) b d op r s K = WO P base r { s with fr := setD s.fr d undefA } K := rfl
theorem guardS_f {c : Bool} (h1 : c = false → WO P base (⟨d, op, none⟩ :: r) s K) (h2 : c = true → WO P base r { s with fr := setD s.fr d undefA } K) : guardS P base (some (.bool c)) false d op r s K := by
  cases c
  · exact h1 rfl
  · exact h2 rfl
theorem guardS_t {c : Bool} (h1 : c = true → WO P base (⟨d, op, none⟩ :: r) s K) (h2 : c = false → WO P base r { s with fr := setD s.fr d undefA } K) : guardS P base (some (.bool c)) true d op r s K := by
  cases c
  · exact h2 rfl
  · exact h1 rfl
theorem guardS_pf {p : Prop} [Decidable p] (h1 : ¬ p → decide p = false → WO P base (⟨d, op, none⟩ :: r) s K) (h2 : p → decide p = true → WO P base r { s with fr := setD s.fr d undefA } K) : guardS P base (some (.bool (decide p))) false d op r s K :=
  guardS_f (fun h => h1 (of_decide_eq_false h) h) (fun h => h2 (of_decide_eq_true h) h)
theorem guardS_pt {p : Prop} [Decidable p] (h1 : p → decide p = true → WO P base (⟨d, op, none⟩ :: r) s K) (h2 : ¬ p → decide p = false → WO P base r { s with fr := setD s.fr d undefA } K) : guardS P base (some (.bool (decide p))) true d op r s K :=
  guardS_t (fun h => h1 (of_decide_eq_true h) h) (fun h => h2 (of_decide_eq_false h) h)
theorem guardS_split {c b : Bool} (h1 : c = b → WO P base (⟨d, op, none⟩ :: r) s K) (h2 : c = !b → WO P base r { s with fr := setD s.fr d undefA } K) : guardS P base (some (.bool c)) b d op r s K := by
  cases c <;> cases b <;> simp_all [guardS]
@[go_sem] theorem WO_guard {i : Nat} {b : Bool} : WO P base (⟨d, op, some (i, b)⟩ :: r) s K = guardS P base (fget s.fr i) b d op r s K := by
  have e : ∀ n, ops (callP (exec P n) P) base (⟨d, op, none⟩ :: r) s = (oper (callP (exec P n) P) base ⟨d, op, none⟩ s).bind fun x => ops (callP (exec P n) P) base r { x.2 with fr := setD x.2.fr d x.1 } := fun n => by
    simp only [ops, wantedA, Option.bind_some, cond_true]
  have e' : ∀ n, oper (callP (exec P n) P) base ⟨d, op, some (i, b)⟩ s = oper (callP (exec P n) P) base ⟨d, op, none⟩ s := fun n => rfl
  unfold guardS WO
  simp only [e]
  simp only [ops, wantedA, e']
  cases fget s.fr i with
  | none => simp
  | some x =>
    cases x with
    | bool c =>
      simp only [Option.bind_some]
      cases (c == b) <;> rfl
    | tup cs => rfl
    | _ => simp
end
@[go_sem] theorem WO_mov {d : Option Nat} {r : List AOper} {x : Opd} : WO P base (⟨d, .mov x, none⟩ :: r) s K = stepS P base (aop base d (.mov x) s) d r K := WO_plain rfl
@[go_sem] theorem WO_pick {d : Option Nat} {r : List AOper} {c a b : Opd} : WO P base (⟨d, .pick c a b, none⟩ :: r) s K = stepS P base (aop base d (.pick c a b) s) d r K := WO_plain rfl
@[go_sem] theorem WO_alloc {d : Option Nat} {r : List AOper} {l : Bool} {z : List AV} {k : Nat} : WO P base (⟨d, .alloc l z k, none⟩ :: r) s K = stepS P base (aop base d (.alloc l z k) s) d r K := WO_plain rfl
@[go_sem] theorem WO_box {d : Option Nat} {r : List AOper} {l : Bool} {x : Opd} {k : Nat} : WO P base (⟨d, .box l x k, none⟩ :: r) s K = stepS P base (aop base d (.box l x k) s) d r K := WO_plain rfl
@[go_sem] theorem WO_load {d : Option Nat} {r : List AOper} {n : Option Nat} {x : Opd} : WO P base (⟨d, .load n x, none⟩ :: r) s K = stepS P base (aop base d (.load n x) s) d r K := WO_plain rfl
@[go_sem] theorem WO_store {d : Option Nat} {r : List AOper} {n : Nat} {x v : Opd} : WO P base (⟨d, .store n x v, none⟩ :: r) s K = stepS P base (aop base d (.store n x v) s) d r K := WO_plain rfl
@[go_sem] theorem WO_nilck {d : Option Nat} {r : List AOper} {x : Opd} : WO P base (⟨d, .nilck x, none⟩ :: r) s K = stepS P base (aop base d (.nilck x) s) d r K := WO_plain rfl
@[go_sem] theorem WO_fadr {d : Option Nat} {r : List AOper} {x : Opd} {f : Nat} : WO P base (⟨d, .fadr x f, none⟩ :: r) s K = stepS P base (aop base d (.fadr x f) s) d r K := WO_plain rfl
@[go_sem] theorem WO_fld {d : Option Nat} {r : List AOper} {x : Opd} {f : Nat} {n : Option Nat} : WO P base (⟨d, .fld x f n, none⟩ :: r) s K = stepS P base (aop base d (.fld x f n) s) d r K := WO_plain rfl
@[go_sem] theorem WO_idxa {d : Option Nat} {r : List AOper} {a : Option Nat} {e : Nat} {x i : Opd} : WO P base (⟨d, .idxa a e x i, none⟩ :: r) s K = stepS P base (aop base d (.idxa a e x i) s) d r K := WO_plain rfl
@[go_sem] theorem WO_idx {d : Option Nat} {r : List AOper} {x i : Opd} : WO P base (⟨d, .idx x i, none⟩ :: r) s K = stepS P base (aop base d (.idx x i) s) d r K := WO_plain rfl
@[go_sem] theorem WO_bin {d : Option Nat} {r : List AOper} {o : BinOp} {x y : Opd} : WO P base (⟨d, .bin o x y, none⟩ :: r) s K = stepS P base (aop base d (.bin o x y) s) d r K := WO_plain rfl
@[go_sem] theorem WO_un {d : Option Nat} {r : List AOper} {o : UnOp} {x : Opd} : WO P base (⟨d, .un o x, none⟩ :: r) s K = stepS P base (aop base d (.un o x) s) d r K := WO_plain rfl
@[go_sem] theorem WO_cmp {d : Option Nat} {r : List AOper} {c : Nat} {n : Bool} {x y : Opd} : WO P base (⟨d, .cmp c n x y, none⟩ :: r) s K = stepS P base (aop base d (.cmp c n x y) s) d r K := WO_plain rfl
@[go_sem] theorem WO_toInt {d : Option Nat} {r : List AOper} {k : IntKind} {x : Opd} : WO P base (⟨d, .toInt k x, none⟩ :: r) s K = stepS P base (aop base d (.toInt k x) s) d r K := WO_plain rfl
@[go_sem] theorem WO_toStr {d : Option Nat} {r : List AOper} {x : Opd} : WO P base (⟨d, .toStr x, none⟩ :: r) s K = stepS P base (aop base d (.toStr x) s) d r K := WO_plain rfl
@[go_sem] theorem WO_toBytes {d : Option Nat} {r : List AOper} {x : Opd} {k : Nat} : WO P base (⟨d, .toBytes x k, none⟩ :: r) s K = stepS P base (aop base d (.toBytes x k) s) d r K := WO_plain rfl
@[go_sem] theorem WO_slice {d : Option Nat} {r : List AOper} {e : Option Nat} {x : Opd} {lo hi mx : Option Opd} : WO P base (⟨d, .slice e x lo hi mx, none⟩ :: r) s K = stepS P base (aop base d (.slice e x lo hi mx) s) d r K := WO_plain rfl
@[go_sem] theorem WO_mark {d : Option Nat} {r : List AOper} {x : Opd} : WO P base (⟨d, .mark x, none⟩ :: r) s K = stepS P base (aop base d (.mark x) s) d r K := WO_plain rfl
@[go_sem] theorem WO_slicx {d : Option Nat} {r : List AOper} {z : Nat} {x : Opd} {lo : Option Opd} {hi : Opd} : WO P base (⟨d, .slicx z x lo hi, none⟩ :: r) s K = stepS P base (aop base d (.slicx z x lo hi) s) d r K := WO_plain rfl
@[go_sem] theorem WO_build {d : Option Nat} {r : List AOper} {z : List AV} {p : List (Nat × Nat × Opd)} : WO P base (⟨d, .build z p, none⟩ :: r) s K = stepS P base (aop base d (.build z p) s) d r K := WO_plain rfl
@[go_sem] theorem WO_buildsl {d : Option Nat} {r : List AOper} {e n : Nat} {z : List AV} {p : List (Nat × Nat × Opd)} {k : Nat} : WO P base (⟨d, .buildsl e n z p k, none⟩ :: r) s K = stepS P base (aop base d (.buildsl e n z p k) s) d r K := WO_plain rfl
@[go_sem] theorem WO_lits {d : Option Nat} {r : List AOper} {e n : Nat} {z : List AV} {p : List (Nat × Nat × Opd)} : WO P base (⟨d, .lits e n z p, none⟩ :: r) s K = stepS P base (aop base d (.lits e n z p) s) d r K := WO_plain rfl
@[go_sem] theorem WO_mksl {d : Option Nat} {r : List AOper} {e b : Nat} {z : List AV} {l c : Opd} {k : Nat} : WO P base (⟨d, .mksl e b z l c k, none⟩ :: r) s K = stepS P base (aop base d (.mksl e b z l c k) s) d r K := WO_plain rfl
@[go_sem] theorem WO_app {d : Option Nat} {r : List AOper} {e b : Nat} {q x : Opd} {k : Nat} : WO P base (⟨d, .app e b q x k, none⟩ :: r) s K = stepS P base (aop base d (.app e b q x k) s) d r K := WO_plain rfl
@[go_sem] theorem WO_cpy {d : Option Nat} {r : List AOper} {e : Nat} {a x : Opd} : WO P base (⟨d, .cpy e a x, none⟩ :: r) s K = stepS P base (aop base d (.cpy e a x) s) d r K := WO_plain rfl
@[go_sem] theorem WO_len {d : Option Nat} {r : List AOper} {c : Nat} {x : Opd} : WO P base (⟨d, .len c x, none⟩ :: r) s K = stepS P base (aop base d (.len c x) s) d r K := WO_plain rfl
@[go_sem] theorem WO_mm {d : Option Nat} {r : List AOper} {m : Bool} {x y : Opd} : WO P base (⟨d, .mm m x y, none⟩ :: r) s K = stepS P base (aop base d (.mm m x y) s) d r K := WO_plain rfl
@[go_sem] theorem WO_range {d : Option Nat} {r : List AOper} {m : Bool} {x : Opd} {k : Nat} : WO P base (⟨d, .range m x k, none⟩ :: r) s K = stepS P base (aop base d (.range m x k) s) d r K := WO_plain rfl
@[go_sem] theorem WO_next {d : Option Nat} {r : List AOper} {b : Bool} {x : Opd} : WO P base (⟨d, .next b x, none⟩ :: r) s K = stepS P base (aop base d (.next b x) s) d r K := WO_plain rfl
@[go_sem] theorem WO_entry {d : Option Nat} {r : List AOper} {x : Opd} : WO P base (⟨d, .entry x, none⟩ :: r) s K = stepS P base (aop base d (.entry x) s) d r K := WO_plain rfl
@[go_sem] theorem WO_mkmap {d : Option Nat} {r : List AOper} {k : Nat} : WO P base (⟨d, .mkmap k, none⟩ :: r) s K = stepS P base (aop base d (.mkmap k) s) d r K := WO_plain rfl
@[go_sem] theorem WO_lookup {d : Option Nat} {r : List AOper} {b : Nat} {z : AV} {ok : Bool} {x i : Opd} : WO P base (⟨d, .lookup b z ok x i, none⟩ :: r) s K = stepS P base (aop base d (.lookup b z ok x i) s) d r K := WO_plain rfl
@[go_sem] theorem WO_mapupd {d : Option Nat} {r : List AOper} {b : Nat} {m i v : Opd} : WO P base (⟨d, .mapupd b m i v, none⟩ :: r) s K = stepS P base (aop base d (.mapupd b m i v) s) d r K := WO_plain rfl
@[go_sem] theorem WO_clr {d : Option Nat} {r : List AOper} {z : AV} {x : Opd} : WO P base (⟨d, .clr z x, none⟩ :: r) s K = stepS P base (aop base d (.clr z x) s) d r K := WO_plain rfl
@[go_sem] theorem WO_mapdel {d : Option Nat} {r : List AOper} {b : Nat} {m i : Opd} : WO P base (⟨d, .mapdel b m i, none⟩ :: r) s K = stepS P base (aop base d (.mapdel b m i) s) d r K := WO_plain rfl
@[go_sem] theorem WO_mkfn {d : Option Nat} {r : List AOper} {f : Nat} {c : List Opd} : WO P base (⟨d, .mkfn f c, none⟩ :: r) s K = stepS P base (aop base d (.mkfn f c) s) d r K := WO_plain rfl
@[go_sem] theorem WO_mkif {d : Option Nat} {r : List AOper} {t : Nat} {x : Opd} : WO P base (⟨d, .mkif t x, none⟩ :: r) s K = stepS P base (aop base d (.mkif t x) s) d r K := WO_plain rfl
@[go_sem] theorem WO_ext {d : Option Nat} {r : List AOper} {x : Opd} {i : Nat} : WO P base (⟨d, .ext x i, none⟩ :: r) s K = stepS P base (aop base d (.ext x i) s) d r K := WO_plain rfl
section
variable {d : Option Nat}
def bindS (o : Option AV) (s : St) : Option (AV × St) := match o with | some v => some (v, s) | none => none
@[go_sem] theorem bindS_some (v : AV) (s : St) : bindS (some v) s = some (v, s) := rfl
theorem bind_pairS (o : Option AV) (s : St) : o.bind (pairS s) = bindS o s := by cases o <;> rfl
def bind1 (F : AV → Option AV) (o : Option AV) : Option AV := match o with | some v => F v | none => none
@[go_sem] theorem bind1_some (F : AV → Option AV) (v : AV) : bind1 F (some v) = F v := rfl
def bind2 (F : AV → AV → Option AV) (o p : Option AV) : Option AV := match o, p with | some v, some u => F v u | _, _ => none
@[go_sem] theorem bind2_some (F : AV → AV → Option AV) (v u : AV) : bind2 F (some v) (some u) = F v u := rfl
@[go_sem] theorem W_mov {x : Opd} : aop base d (.mov x) s = bindS (x.ev s.fr) s := by simp only [aop, bind_pairS]
def pickA (c a b : Option AV) : Option AV := match c with
  | some (.bool true) => a
  | some (.bool false) => b
  | _ => none
@[go_sem] theorem pickA_t (a b : Option AV) : pickA (some (.bool true)) a b = a := rfl
@[go_sem] theorem pickA_f (a b : Option AV) : pickA (some (.bool false)) a b = b := rfl
@[go_sem] theorem W_pick {c a b : Opd} : aop base d (.pick c a b) s = bindS (pickA (c.ev s.fr) (a.ev s.fr) (b.ev s.fr)) s := by
  simp only [aop]
  cases c.ev s.fr with
  | none => rfl
  | some x =>
    cases x with
    | bool c => cases c <;> simp only [bind_pairS, pickA]
    | _ => rfl
@[go_sem] theorem W_alloc_loc {i : Nat} {z : List AV} {k : Nat} : aop base (some i) (.alloc true z k) s = some (.lbox s.st z, { s with st := s.st + 1 }) := rfl
@[go_sem] theorem W_alloc {z : List AV} {k : Nat} : aop base d (.alloc false z k) s = some (.ptr (base + k) 0, { s with h := s.h.put (base + k) (.cells z) }) := rfl
def boxLA (o : Option AV) (s : St) : Option (AV × St) := match o with | some v => some (.lbox s.st v.cellsOf, { s with st := s.st + 1 }) | none => none
@[go_sem] theorem boxLA_some (v : AV) (s : St) : boxLA (some v) s = some (.lbox s.st v.cellsOf, { s with st := s.st + 1 }) := rfl
@[go_sem] theorem W_box_loc {i : Nat} {x : Opd} {k : Nat} : aop base (some i) (.box true x k) s = boxLA (x.dat s.fr) s := by
  simp only [aop]; cases x.dat s.fr <;> rfl
def boxHA (o : Option AV) (s : St) (q : Nat) : Option (AV × St) := match o with | some v => some (.ptr q 0, { s with h := s.h.put q (.cells v.cellsOf) }) | none => none
@[go_sem] theorem boxHA_some (v : AV) (s : St) (q : Nat) : boxHA (some v) s q = some (.ptr q 0, { s with h := s.h.put q (.cells v.cellsOf) }) := rfl
@[go_sem] theorem W_box {x : Opd} {k : Nat} : aop base d (.box false x k) s = boxHA (x.dat s.fr) s (base + k) := by
  simp only [aop]; cases x.dat s.fr <;> rfl
def loadA (s : St) (n : Option Nat) (a : AV) : Option AV := (rd s a (sizeN n)).bind (mk n)
@[go_sem] theorem loadA_none (s : St) (a : AV) : loadA s none a = (rd s a 1).bind (mk none) := rfl
@[go_sem] theorem loadA_some (s : St) (n : Nat) (a : AV) : loadA s (some n) a = (rd s a n).bind (mk (some n)) := rfl
@[go_sem] theorem W_load {n : Option Nat} {x : Opd} : aop base d (.load n x) s = bindS (bind1 (loadA s n) (x.ev s.fr)) s := by
  simp only [aop]
  cases x.ev s.fr with
  | none => rfl
  | some a =>
    simp only [Option.bind_some, bind1, loadA]
    cases rd s a (sizeN n) with
    | none => rfl
    | some cs => simp only [Option.bind_some, bind_pairS]
def stA (s : St) (n : Nat) (v a : Option AV) : Option (AV × St) := match v, a with
  | some v, some a => bif Nat.beq v.cellsOf.length n then (wr s a v.cellsOf).bind fun s => some (undefA, s) else none
  | _, _ => none
@[go_sem] theorem stA_some (s : St) (n : Nat) (v a : AV) : stA s n (some v) (some a) = bif Nat.beq v.cellsOf.length n then (wr s a v.cellsOf).bind fun s => some (undefA, s) else none := rfl
@[go_sem] theorem W_store {n : Nat} {x v : Opd} : aop base d (.store n x v) s = stA s n (v.dat s.fr) (x.ev s.fr) := by
  simp only [aop, stA]
  cases v.dat s.fr with
  | none => rfl
  | some v =>
    simp only [Option.bind_some]
    cases x.ev s.fr with
    | none => cases Nat.beq v.cellsOf.length n <;> rfl
    | some a => rfl
def addrA (v : AV) : Option AV := match v with
  | .ptr o f => some (.ptr o f)
  | .eptr o e f => some (.eptr o e f)
  | .vptr c => some (.vptr c)
  | .lptr a b c => some (.lptr a b c)
  | _ => none
@[go_sem] theorem addrA_ptr (o f : Nat) : addrA (.ptr o f) = some (.ptr o f) := rfl
@[go_sem] theorem addrA_eptr (o e f : Nat) : addrA (.eptr o e f) = some (.eptr o e f) := rfl
@[go_sem] theorem addrA_vptr (c : List AV) : addrA (.vptr c) = some (.vptr c) := rfl
@[go_sem] theorem addrA_lptr (a b c : Nat) : addrA (.lptr a b c) = some (.lptr a b c) := rfl
@[go_sem] theorem W_nilck {x : Opd} : aop base d (.nilck x) s = bindS (bind1 addrA (x.ev s.fr)) s := by
  simp only [aop]
  cases x.ev s.fr with
  | none => rfl
  | some a => cases a <;> rfl
def fadrA (off : Nat) (a : AV) : Option AV := fieldA a off
@[go_sem] theorem fadrA_eq (off : Nat) (a : AV) : fadrA off a = fieldA a off := rfl
@[go_sem] theorem W_fadr {x : Opd} {off : Nat} : aop base d (.fadr x off) s = bindS (bind1 (fadrA off) (x.ev s.fr)) s := by
  simp only [aop]
  cases x.ev s.fr with
  | none => rfl
  | some a => simp only [Option.bind_some, bind_pairS, bind1, fadrA]
def fldA (off : Nat) (n : Option Nat) (v : AV) : Option AV := match v with
  | .agg cs => (sub cs off (sizeN n)).bind (mk n)
  | _ => none
@[go_sem] theorem fldA_agg (off : Nat) (n : Option Nat) (cs : List AV) : fldA off n (.agg cs) = (sub cs off (sizeN n)).bind (mk n) := rfl
@[go_sem] theorem W_fld {x : Opd} {off : Nat} {n : Option Nat} : aop base d (.fld x off n) s = bindS (bind1 (fldA off n) (x.ev s.fr)) s := by
  simp only [aop]
  cases x.ev s.fr with
  | none => rfl
  | some a =>
    cases a with
    | agg cs =>
      simp only [bind1, fldA]
      cases sub cs off (sizeN n) with
      | none => rfl
      | some c => simp only [Option.bind_some, bind_pairS]
    | _ => rfl
@[go_sem] theorem W_idxa {arr : Option Nat} {esz : Nat} {x i : Opd} : aop base d (.idxa arr esz x i) s = bindS (bind2 (indexA arr esz) (x.ev s.fr) (i.ev s.fr)) s := by
  simp only [aop]
  cases x.ev s.fr with
  | none => rfl
  | some a =>
    cases i.ev s.fr with
    | none => rfl
    | some i => simp only [Option.bind_some, bind_pairS, bind2]
def idxS (x i : AV) : Option AV := match x, i with
  | .str b, .int _ (.ofNat n) => (b[n]?).bind fun c => some (.int .u8 (.ofNat c))
  | _, _ => none
@[go_sem] theorem W_idx {x i : Opd} : aop base d (.idx x i) s = bindS (bind2 idxS (x.ev s.fr) (i.ev s.fr)) s := by
  simp only [aop]
  cases x.ev s.fr with
  | none => rfl
  | some a =>
    cases i.ev s.fr with
    | none => cases a <;> rfl
    | some i =>
      cases a with
      | str b =>
        cases i with
        | int k n =>
          cases n with
          | ofNat n => simp only [bind2, idxS]; cases b[n]? <;> rfl
          | negSucc n => rfl
        | _ => rfl
      | _ => rfl
@[go_sem] theorem W_bin {o : BinOp} {x y : Opd} : aop base d (.bin o x y) s = bindS (bind2 (binA o) (x.ev s.fr) (y.ev s.fr)) s := by
  simp only [aop]
  cases x.ev s.fr with
  | none => rfl
  | some a =>
    cases y.ev s.fr with
    | none => rfl
    | some i => simp only [Option.bind_some, bind_pairS, bind2]
@[go_sem] theorem W_un {o : UnOp} {x : Opd} : aop base d (.un o x) s = bindS (bind1 (unA o) (x.ev s.fr)) s := by
  simp only [aop]
  cases x.ev s.fr with
  | none => rfl
  | some a => simp only [Option.bind_some, bind_pairS, bind1]
def cmpA (c : Nat) (neg : Bool) (x y : AV) : Option AV := (same c x y).bind fun b => some (.bool (bif neg then !b else b))
@[go_sem] theorem cmpA_f (c : Nat) (x y : AV) : cmpA c false x y = (same c x y).bind fun b => some (.bool b) := rfl
@[go_sem] theorem cmpA_t (c : Nat) (x y : AV) : cmpA c true x y = (same c x y).bind fun b => some (.bool (!b)) := rfl
@[go_sem] theorem W_cmp {c : Nat} {neg : Bool} {x y : Opd} : aop base d (.cmp c neg x y) s = bindS (bind2 (cmpA c neg) (x.ev s.fr) (y.ev s.fr)) s := by
  simp only [aop]
  cases x.ev s.fr with
  | none => rfl
  | some a =>
    cases y.ev s.fr with
    | none => rfl
    | some i => simp only [Option.bind_some, bind2, cmpA]; cases same c a i <;> rfl
def toIntA (k : IntKind) (v : AV) : Option AV := match v with
  | .int _ n => some (.int k (wrapA k n))
  | _ => none
@[go_sem] theorem toIntA_int (k k' : IntKind) (n : Int) : toIntA k (.int k' n) = some (.int k (wrapA k n)) := rfl
@[go_sem] theorem W_toInt {k : IntKind} {x : Opd} : aop base d (.toInt k x) s = bindS (bind1 (toIntA k) (x.ev s.fr)) s := by
  simp only [aop]
  cases x.ev s.fr with
  | none => rfl
  | some a => cases a <;> rfl
def toStrA (h : Heap) (v : AV) : Option AV := match v with
  | .str _ => none
  | v => (lenA h v).bind fun n => (cellsAt h 1 v n).bind fun cs => (bytesOf cs).bind fun b => some (.str b)
@[go_sem] theorem W_toStr {x : Opd} : aop base d (.toStr x) s = bindS (bind1 (toStrA s.h) (x.ev s.fr)) s := by
  have e : aop base d (.toStr x) s = (x.ev s.fr).bind fun v => (toStrA s.h v).bind (pairS s) := by
    simp only [aop]
    cases x.ev s.fr with
    | none => rfl
    | some v => unfold toStrA; cases v <;> simp only [Option.bind_assoc, Option.bind_none, Option.bind_some, pairS]
  rw [e]
  cases x.ev s.fr with
  | none => rfl
  | some a => simp only [Option.bind_some, bind_pairS, bind1]
@[go_sem] theorem W_slice {z : Option Nat} {x : Opd} {lo hi mx : Option Opd} : aop base d (.slice z x lo hi mx) s = bindS (bind1 (fun x => sliceA s.fr z x lo hi mx) (x.ev s.fr)) s := by
  simp only [aop]
  cases x.ev s.fr with
  | none => rfl
  | some a => simp only [Option.bind_some, bind_pairS, bind1]
def aggO (c : Option (List AV)) : Option AV := c.bind fun c => some (.agg c)
@[go_sem] theorem aggO_some (c : List AV) : aggO (some c) = some (.agg c) := rfl
@[go_sem] theorem W_build {zero : List AV} {parts : List (Nat × Nat × Opd)} : aop base d (.build zero parts) s = bindS (aggO (fillA s.fr zero parts)) s := by
  simp only [aop]
  cases fillA s.fr zero parts <;> rfl
def rowO (s : St) (o esz n : Nat) (c : Option (List AV)) : Option (AV × St) := c.bind fun c => some (newRowA s o esz n false c)
@[go_sem] theorem rowO_some (s : St) (o esz n : Nat) (c : List AV) : rowO s o esz n (some c) = some (.hs esz o 0 0 n false, { s with h := s.h.put o (.row esz 0 c) }) := rfl
@[go_sem] theorem W_buildsl {esz n : Nat} {zero : List AV} {parts : List (Nat × Nat × Opd)} {k : Nat} : aop base d (.buildsl esz n zero parts k) s = rowO s (base + k) esz n (fillA s.fr (repl zero n) parts) := by
  simp only [aop]
  cases fillA s.fr (repl zero n) parts <;> rfl
def litO (esz n : Nat) (c : Option (List AV)) : Option AV := c.bind fun c => some (.sl esz n (fun i => (c.drop (i * esz)).take esz) true)
@[go_sem] theorem litO_some (esz n : Nat) (c : List AV) : litO esz n (some c) = some (.sl esz n (fun i => (c.drop (i * esz)).take esz) true) := rfl
@[go_sem] theorem W_lits {esz n : Nat} {zero : List AV} {parts : List (Nat × Nat × Opd)} : aop base d (.lits esz n zero parts) s = bindS (litO esz n (fillA s.fr (repl zero n) parts)) s := by
  simp only [aop]
  cases fillA s.fr (repl zero n) parts <;> rfl
def appO (s : St) (o esz bytes : Nat) (x y : Option AV) : Option (AV × St) := match x, y with
  | some x, some y => appA s o esz bytes x y
  | _, _ => none
@[go_sem] theorem appO_some (s : St) (o esz bytes : Nat) (x y : AV) : appO s o esz bytes (some x) (some y) = appA s o esz bytes x y := rfl
@[go_sem] theorem W_app {esz bytes : Nat} {x y : Opd} {k : Nat} : aop base d (.app esz bytes x y k) s = appO s (base + k) esz bytes (x.ev s.fr) (y.ev s.fr) := by
  simp only [aop]
  cases x.ev s.fr with
  | none => rfl
  | some a =>
    cases y.ev s.fr with
    | none => rfl
    | some i => rfl
def lenO (h : Heap) (c : Nat) (x : AV) : Option AV := bif lenTag c x then (lenA h x).bind fun n => some (.int .i64 (n : Int)) else none
@[go_sem] theorem lenO_eq (h : Heap) (c : Nat) (x : AV) : lenO h c x = bif lenTag c x then (lenA h x).bind fun n => some (.int .i64 (n : Int)) else none := rfl
@[go_sem] theorem W_len {c : Nat} {x : Opd} : aop base d (.len c x) s = bindS (bind1 (lenO s.h c) (x.ev s.fr)) s := by
  simp only [aop]
  cases x.ev s.fr with
  | none => rfl
  | some a =>
    simp only [Option.bind_some, bind1, lenO]
    cases lenTag c a with
    | false => rfl
    | true => simp only [cond_true]; cases lenA s.h a <;> rfl
def mmA (isMax : Bool) (x y : AV) : Option AV := match x, y with
  | .int k a, .int _ b => some (.int k (bif isMax then max a b else min a b))
  | _, _ => none
@[go_sem] theorem mmA_t (k k' : IntKind) (a b : Int) : mmA true (.int k a) (.int k' b) = some (.int k (max a b)) := rfl
@[go_sem] theorem mmA_f (k k' : IntKind) (a b : Int) : mmA false (.int k a) (.int k' b) = some (.int k (min a b)) := rfl
@[go_sem] theorem W_mm {m : Bool} {x y : Opd} : aop base d (.mm m x y) s = bindS (bind2 (mmA m) (x.ev s.fr) (y.ev s.fr)) s := by
  simp only [aop]
  cases x.ev s.fr with
  | none => rfl
  | some a =>
    cases y.ev s.fr with
    | none => cases a <;> rfl
    | some b =>
      cases a <;> cases b <;> first | rfl | skip
      rename_i k a k' b
      have e1 : (bif ltI a b then b else a) = max a b := by
        rw [ltI_eq]; by_cases h : a < b <;> simp only [h, decide_true, decide_false, cond_true, cond_false] <;> omega
      have e2 : (bif ltI b a then b else a) = min a b := by
        rw [ltI_eq]; by_cases h : b < a <;> simp only [h, decide_true, decide_false, cond_true, cond_false] <;> omega
      simp only [e1, e2, bind2, mmA, bindS]
def bindV (o : Option AV) (f : AV → Option (AV × St)) : Option (AV × St) := o.bind f
@[go_sem] theorem bindV_some (v : AV) (f : AV → Option (AV × St)) : bindV (some v) f = f v := rfl
@[go_sem] theorem W_range {m : Bool} {x : Opd} {k : Nat} : aop base d (.range m x k) s = bindV (x.ev s.fr) (rangeA s (base + k) m) := rfl
@[go_sem] theorem W_next {b : Bool} {x : Opd} : aop base d (.next b x) s = bindV (x.ev s.fr) (nextA s b) := rfl
@[go_sem] theorem W_entry {x : Opd} : aop base d (.entry x) s = bindV (x.ev s.fr) (entryA s) := rfl
@[go_sem] theorem W_mkmap {k : Nat} : aop base d (.mkmap k) s = some (.mp (base + k), { s with h := s.h.put (base + k) (.map [] [] 0) }) := rfl
def fnO (f : Nat) (o : Option (List AV)) : Option AV := o.bind fun vs => some (.fn f vs)
@[go_sem] theorem fnO_some (f : Nat) (vs : List AV) : fnO f (some vs) = some (.fn f vs) := rfl
@[go_sem] theorem W_mkfn {f : Nat} {caps : List Opd} : aop base d (.mkfn f caps) s = bindS (fnO f (datAll s.fr caps)) s := by
  simp only [aop]; cases datAll s.fr caps <;> rfl
def ifO (t : Nat) (o : Option AV) : Option AV := o.bind fun v => some (.iface t v)
@[go_sem] theorem ifO_some (t : Nat) (v : AV) : ifO t (some v) = some (.iface t v) := rfl
@[go_sem] theorem W_mkif {t : Nat} {x : Opd} : aop base d (.mkif t x) s = bindS (ifO t (x.dat s.fr)) s := by
  simp only [aop]; cases x.dat s.fr <;> rfl
def extA (i : Nat) (v : AV) : Option AV := match v with
  | .tup vs => vs[i]?
  | _ => none
@[go_sem] theorem extA_0 (a : AV) (r : List AV) : extA 0 (.tup (a :: r)) = some a := rfl
@[go_sem] theorem extA_1 (a b : AV) (r : List AV) : extA 1 (.tup (a :: b :: r)) = some b := rfl
@[go_sem] theorem extA_2 (a b c : AV) (r : List AV) : extA 2 (.tup (a :: b :: c :: r)) = some c := rfl
@[go_sem] theorem extA_3 (a b c e : AV) (r : List AV) : extA 3 (.tup (a :: b :: c :: e :: r)) = some e := rfl
@[go_sem] theorem W_ext {x : Opd} {i : Nat} : aop base d (.ext x i) s = bindS (bind1 (extA i) (x.ev s.fr)) s := by
  simp only [aop]
  cases x.ev s.fr with
  | none => rfl
  | some a =>
    cases a with
    | tup vs => simp only [bind1, extA, bind_pairS]
    | _ => rfl
def lookA (h : Heap) (str : Nat) (zero : AV) (ok : Bool) (x i : AV) : Option AV := (entriesOf h x).bind fun es =>
  bif keyOk str i then (findA h i es).bind fun r => match r with
    | some v => some (bif ok then .tup [v, .bool true] else v)
    | none => some (bif ok then .tup [zero, .bool false] else zero)
  else none
@[go_sem] theorem W_lookup {str : Nat} {zero : AV} {ok : Bool} {x i : Opd} : aop base d (.lookup str zero ok x i) s = bindS (bind2 (lookA s.h str zero ok) (x.ev s.fr) (i.ev s.fr)) s := by
  simp only [aop]
  cases x.ev s.fr with
  | none => rfl
  | some a =>
    cases i.ev s.fr with
    | none => rfl
    | some i =>
      simp only [Option.bind_some, bind2, lookA]
      cases entriesOf s.h a with
      | none => rfl
      | some es =>
        simp only [Option.bind_some]
        cases keyOk str i with
        | false => rfl
        | true =>
          simp only [cond_true]
          cases findA s.h i es with
          | none => rfl
          | some r => cases r <;> rfl
end
section
variable {Q : AExit → St → Prop}
theorem exec_seq_iff {a b : ACode} : Wp P (.seq a b) s Q ↔ Wp P a s (seqQ P b Q) := by
  refine ⟨fun ⟨n, e, s', h1, h2⟩ => ?_, Wp.seq⟩
  cases n with
  | zero => simp [exec] at h1
  | succ n =>
    rw [exec, Option.bind_eq_some_iff] at h1
    obtain ⟨⟨e1, s1⟩, h3, h4⟩ := h1
    refine ⟨n, e1, s1, h3, ?_⟩
    cases e1 with
    | normal => exact ⟨n, e, s', h4, h2⟩
    | exit j => simp only [Option.some.injEq, Prod.mk.injEq] at h4; obtain ⟨rfl, rfl⟩ := h4; exact h2
    | ret => simp only [Option.some.injEq, Prod.mk.injEq] at h4; obtain ⟨rfl, rfl⟩ := h4; exact h2
@[go_sem] theorem Wp_seq {a b : ACode} : Wp P (.seq a b) s Q = Wp P a s (seqQ P b Q) := propext exec_seq_iff
@[go_sem] theorem seqQ_normal {b : ACode} : seqQ P b Q .normal s = Wp P b s Q := rfl
@[go_sem] theorem seqQ_exit {b : ACode} {i : Nat} : seqQ P b Q (.exit i) s = Q (.exit i) s := rfl
@[go_sem] theorem seqQ_ret {b : ACode} : seqQ P b Q .ret s = Q .ret s := rfl
@[go_sem] theorem Wp_block {a : ACode} {i : Nat} : Wp P (.block i a) s Q = Wp P a s (blockQ i Q) := by
  refine propext ⟨fun ⟨n, e, s', h1, h2⟩ => ?_, Wp.block⟩
  cases n with
  | zero => simp [exec] at h1
  | succ n =>
    rw [exec, Option.bind_eq_some_iff] at h1
    obtain ⟨⟨e1, s1⟩, h3, h4⟩ := h1
    refine ⟨n, e1, s1, h3, ?_⟩
    cases e1 with
    | normal => simp only [Option.some.injEq, Prod.mk.injEq] at h4; obtain ⟨rfl, rfl⟩ := h4; exact h2
    | ret => simp only [Option.some.injEq, Prod.mk.injEq] at h4; obtain ⟨rfl, rfl⟩ := h4; exact h2
    | exit j =>
      simp only [blockQ]
      cases hj : Nat.beq j i with
      | true => simp only [hj, cond_true, Option.some.injEq, Prod.mk.injEq] at h4 ⊢; obtain ⟨rfl, rfl⟩ := h4; exact h2
      | false => simp only [hj, cond_false, Option.some.injEq, Prod.mk.injEq] at h4 ⊢; obtain ⟨rfl, rfl⟩ := h4; exact h2
@[go_sem] theorem blockQ_normal {i : Nat} : blockQ i Q .normal s = Q .normal s := rfl
@[go_sem] theorem blockQ_ret {i : Nat} : blockQ i Q .ret s = Q .ret s := rfl
@[go_sem] theorem blockQ_exit {i j : Nat} : blockQ i Q (.exit j) s = if j = i then Q .normal s else Q (.exit j) s := by
  simp only [blockQ]
  by_cases h : j = i
  · subst h; simp
  · rw [nbeq]; simp [h]
@[go_sem] theorem Wp_skip : Wp P .skip s Q = Q .normal s := propext ⟨fun ⟨n, e, s', h1, h2⟩ => by
  cases n with
  | zero => simp [exec] at h1
  | succ n => simp only [exec, Option.some.injEq, Prod.mk.injEq] at h1; obtain ⟨rfl, rfl⟩ := h1; exact h2, Wp.skip⟩
@[go_sem] theorem Wp_ret : Wp P .ret s Q = Q .ret s := propext ⟨fun ⟨n, e, s', h1, h2⟩ => by
  cases n with
  | zero => simp [exec] at h1
  | succ n => simp only [exec, Option.some.injEq, Prod.mk.injEq] at h1; obtain ⟨rfl, rfl⟩ := h1; exact h2, Wp.ret⟩
@[go_sem] theorem Wp_exit {i : Nat} : Wp P (.exit i) s Q = Q (.exit i) s := propext ⟨fun ⟨n, e, s', h1, h2⟩ => by
  cases n with
  | zero => simp [exec] at h1
  | succ n => simp only [exec, Option.some.injEq, Prod.mk.injEq] at h1; obtain ⟨rfl, rfl⟩ := h1; exact h2, Wp.exit⟩
def condS (P : Prog) (o : Option AV) (a b : ACode) (s : St) (Q : AExit → St → Prop) : Prop := match o with
  | some (.bool true) => Wp P a s Q
  | some (.bool false) => Wp P b s Q
  | _ => False
@[go_sem] theorem condS_t {a b : ACode} : condS P (some (.bool true)) a b s Q = Wp P a s Q := rfl
@[go_sem] theorem condS_f {a b : ACode} : condS P (some (.bool false)) a b s Q = Wp P b s Q := rfl
theorem condS_split {a b : ACode} {c : Bool} (h1 : c = true → Wp P a s Q) (h2 : c = false → Wp P b s Q) : condS P (some (.bool c)) a b s Q := by
  cases c
  · exact h2 rfl
  · exact h1 rfl
theorem condS_if {a b : ACode} {p : Prop} [Decidable p] (h1 : p → Wp P a s Q) (h2 : ¬ p → Wp P b s Q) : condS P (some (.bool (decide p))) a b s Q :=
  condS_split (fun h => h1 (of_decide_eq_true h)) (fun h => h2 (of_decide_eq_false h))
@[go_sem] theorem Wp_cond {c : Opd} {a b : ACode} : Wp P (.cond c a b) s Q = condS P (c.ev s.fr) a b s Q := by
  refine propext ⟨fun ⟨n, e, s', h1, h2⟩ => ?_, fun h => ?_⟩
  · cases n with
    | zero => simp [exec] at h1
    | succ n =>
      rw [exec] at h1
      unfold condS
      split at h1
      · rename_i hc; rw [hc]; exact ⟨n, e, s', h1, h2⟩
      · rename_i hc; rw [hc]; exact ⟨n, e, s', h1, h2⟩
      · simp at h1
  · unfold condS at h
    split at h
    · rename_i hc; exact Wp.cond_true hc h
    · rename_i hc; exact Wp.cond_false hc h
    · exact h.elim
def regK (Q : AExit → St → Prop) (live : List Nat) (s : St) : Prop := Q .normal { s with fr := keep s.fr live }
@[go_sem] theorem regK_eq {live : List Nat} : regK Q live s = Q .normal { s with fr := keep s.fr live } := rfl
@[go_sem] theorem Wp_reg {na : Nat} {l : List AOper} {live : List Nat} : Wp P (.reg na l live) s Q = WO P s.h.next l { s with h := s.h.reserve na } (regK Q live) := by
  refine propext ⟨fun ⟨n, e, s', h1, h2⟩ => ?_, Wp.reg⟩
  cases n with
  | zero => simp [exec] at h1
  | succ n =>
    rw [exec, Option.bind_eq_some_iff] at h1
    obtain ⟨s1, h3, h4⟩ := h1
    simp only [Option.some.injEq, Prod.mk.injEq] at h4
    obtain ⟨rfl, rfl⟩ := h4
    exact ⟨n, s1, h3, h2⟩
def loopQ {α : Type} (I : α → Prop) (st : α → St) (μ : α → Nat) (x : α) (Q : AExit → St → Prop) : AExit → St → Prop
  | .normal, s' => ∃ y, I y ∧ μ y < μ x ∧ s' = st y
  | e, s' => Q e s'
@[go_sem] theorem loopQ_normal {α : Type} (I : α → Prop) (st : α → St) (μ : α → Nat) (x : α) : loopQ I st μ x Q .normal s = ∃ y, I y ∧ μ y < μ x ∧ s = st y := rfl
@[go_sem] theorem loopQ_exit {α : Type} (I : α → Prop) (st : α → St) (μ : α → Nat) (x : α) (i : Nat) : loopQ I st μ x Q (.exit i) s = Q (.exit i) s := rfl
@[go_sem] theorem loopQ_ret {α : Type} (I : α → Prop) (st : α → St) (μ : α → Nat) (x : α) : loopQ I st μ x Q .ret s = Q .ret s := rfl
theorem Wp_loop {α : Type} {a : ACode} (I : α → Prop) (st : α → St) (μ : α → Nat) (x0 : α) (hs : s = st x0) (h0 : I x0) (hr : ∀ x, I x → Wp P a (st x) (loopQ I st μ x Q)) : Wp P (.loop a) s Q :=
  Wp.loop I st μ x0 hs h0 (fun x hx => (hr x hx).mono (fun e s' h => by cases e <;> exact h))
def resS (o : Option (List AV)) (R : AV → Heap → Prop) (h : Heap) : Prop := match o with
  | some vs => R (tupleOf vs) h
  | none => False
@[go_sem] theorem resS_some (vs : List AV) (R : AV → Heap → Prop) (h : Heap) : resS (some vs) R h = R (tupleOf vs) h := rfl
@[go_sem] theorem bodyQ_ret (res : List ARes) (R : AV → Heap → Prop) : bodyQ res R .ret s = resS (resultsOf s res) R s.h := by
  unfold bodyQ resS
  cases resultsOf s res <;> simp [isEnd]
@[go_sem] theorem bodyQ_normal (res : List ARes) (R : AV → Heap → Prop) : bodyQ res R .normal s = resS (resultsOf s res) R s.h := by
  unfold bodyQ resS
  cases resultsOf s res <;> simp [isEnd]
end
section
variable {st0 : Nat} {all : List DItem}
def SameFr (a b : Fr) : Prop := ∀ i, fget a i = fget b i
theorem SameFr.keep {a b : Fr} (h : SameFr a b) (l : List Nat) : Am.keep a l = Am.keep b l := keep_congr (fun i _ => h i)
theorem SameFr.sees {a b : Fr} (h : SameFr a b) (d : DItem) (st : Nat) (hp : Heap) : Am.sees st0 d ⟨a, st, hp⟩ = Am.sees st0 d ⟨b, st, hp⟩ := by
  simp only [Am.sees, h.keep]
theorem SameFr.setD {a b : Fr} (h : SameFr a b) (c : Fr) (d : Option Nat) (v : AV) : SameFr (setD (c ++ a) d v) (setD (c ++ b) d v) := fun i => by
  simp only [fget_setD, fget_app, h i]
theorem SameFr.setD' {a b : Fr} (h : SameFr a b) (d : Option Nat) (v : AV) : SameFr (Am.setD a d v) (Am.setD b d v) := fun i => by
  simp only [fget_setD, h i]
theorem dstep_same {cl : Nat → List AV → Heap → Option (AV × Heap)} {a b : Fr} (h : SameFr a b) {d : DItem} {st : Nat} {hp : Heap} {s1 : St} (hs : dstep cl base st0 d ⟨a, st, hp⟩ = some s1) : ∃ b', dstep cl base st0 d ⟨b, st, hp⟩ = some ⟨b', s1.st, s1.h⟩ ∧ SameFr s1.fr b' := by
  simp only [dstep, h.sees] at hs ⊢
  simp only [Option.bind_eq_some_iff] at hs ⊢
  obtain ⟨t, ht, hs⟩ := hs
  cases t with
  | false =>
    simp only [cond_false, Option.some.injEq] at hs
    subst hs
    exact ⟨_, ⟨false, ht, rfl⟩, h.setD' _ _⟩
  | true =>
    simp only [cond_true, Option.bind_eq_some_iff, Option.some.injEq] at hs
    obtain ⟨x, hx, rfl⟩ := hs
    refine ⟨setD (x.2.fr ++ b) d.o.dst x.1, ⟨true, ht, ?_⟩, h.setD _ _ _⟩
    simp only [cond_true, Option.bind_eq_some_iff]
    exact ⟨x, hx, rfl⟩
theorem looks_same {a b : Fr} (h : SameFr a b) {st : Nat} {hp : Heap} : ∀ (l : List Nat), looks base st0 all ⟨a, st, hp⟩ l = looks base st0 all ⟨b, st, hp⟩ l
  | [] => rfl
  | p :: r => by
    simp only [looks, looks_same h r, look, h.sees]
    congr 1
    cases all[p]? with
    | none => rfl
    | some d =>
      simp only
      cases d.o.dst with
      | none => simp
      | some i =>
        have e := h i
        generalize (Option.bind _ _ : Option AV) = q
        cases q <;> simp only [e]
theorem dops_same {cl : Nat → List AV → Heap → Option (AV × Heap)} : ∀ {l : List DItem} {a b : Fr} (h : SameFr a b) {st : Nat} {hp : Heap} {s1 : St} (hs : dops cl base st0 all l ⟨a, st, hp⟩ = some s1), ∃ b', dops cl base st0 all l ⟨b, st, hp⟩ = some ⟨b', s1.st, s1.h⟩ ∧ SameFr s1.fr b'
  | [], a, b, h, st, hp, s1, hs => by
    simp only [dops, Option.some.injEq] at hs
    subst hs
    exact ⟨b, rfl, h⟩
  | d :: l, a, b, h, st, hp, s1, hs => by
    simp only [dops, Option.bind_eq_some_iff] at hs
    obtain ⟨s2, h1, h2⟩ := hs
    obtain ⟨b', h3, h4⟩ := dstep_same h h1
    obtain ⟨f2, t2, p2⟩ := s2
    cases hl : looks base st0 all ⟨f2, t2, p2⟩ d.chks with
    | false => rw [hl] at h2; simp at h2
    | true =>
      rw [hl] at h2
      obtain ⟨b'', h5, h6⟩ := dops_same h4 h2
      refine ⟨b'', ?_, h6⟩
      simp only [dops, h3, Option.bind_some]
      rw [← looks_same h4, hl]
      exact h5
def WD (P : Prog) (base st0 : Nat) (all l : List DItem) (live : List Nat) (s : St) (Q : AExit → St → Prop) : Prop :=
  ∃ n s', dops (callP (exec P n) P) base st0 all l s = some s' ∧ Q .normal { s' with fr := keep s'.fr live, st := st0 + 1 }
variable {Q : AExit → St → Prop} {live : List Nat}
theorem WD.same {a b : Fr} (h : SameFr a b) {l : List DItem} {st : Nat} {hp : Heap} (hw : WD P base st0 all l live ⟨a, st, hp⟩ Q) : WD P base st0 all l live ⟨b, st, hp⟩ Q := by
  obtain ⟨n, s', h1, h2⟩ := hw
  obtain ⟨b', h3, h4⟩ := dops_same h h1
  refine ⟨n, _, h3, ?_⟩
  rw [← h4.keep live]
  exact h2
@[go_sem] theorem Wp_dreg {na : Nat} {l : List DItem} : Wp P (.dreg na l live) s Q = WD P s.h.next s.st l l live { s with h := s.h.reserve na } Q := by
  refine propext ⟨fun ⟨n, e, s', h1, h2⟩ => ?_, fun ⟨n, s', h1, h2⟩ => ⟨n + 1, _, _, by rw [exec, h1]; rfl, h2⟩⟩
  cases n with
  | zero => simp [exec] at h1
  | succ n =>
    rw [exec, Option.bind_eq_some_iff] at h1
    obtain ⟨s1, h3, h4⟩ := h1
    simp only [Option.some.injEq, Prod.mk.injEq] at h4
    obtain ⟨rfl, rfl⟩ := h4
    exact ⟨n, s1, h3, h2⟩
@[go_sem] theorem WD_nil : WD P base st0 all [] live s Q = Q .normal { s with fr := keep s.fr live, st := st0 + 1 } := propext ⟨fun ⟨n, s', h1, h2⟩ => by
  simp only [dops, Option.some.injEq] at h1; subst h1; exact h2, fun h => ⟨0, s, rfl, h⟩⟩
def stays : AOp → Bool
  | .store _ _ _ | .call _ _ _ | .callv _ _ _ | .clr _ _ => false
  | _ => true
theorem appA_fr {s' : St} {o esz bytes : Nat} {x y v : AV} (h : appA s o esz bytes x y = some (v, s')) : s'.fr = s.fr := by
  simp only [appA, Option.bind_eq_some_iff] at h
  obtain ⟨n, h1, new, h2, h⟩ := h
  cases h0 : Nat.beq n 0 with
  | true =>
    rw [h0] at h
    simp only [cond_true] at h
    cases hx : isSl x <;> rw [hx] at h <;> simp at h
    rw [← h.2]
  | false =>
    rw [h0] at h
    simp only [cond_false] at h
    split at h
    · cases q : Nat.ble (n * bytes) two47 <;> rw [q] at h <;> simp [newRowA] at h
      rw [← h.2]
    · rename_i e len f
      cases q : (Nat.ble ((len + n) * bytes) two47 && Nat.beq e esz) <;> rw [q] at h <;> simp [newRowA] at h
      rw [← h.2]
    · split at h
      · rename_i e o1 ep off len full ob z ep' c hc
        cases q : (Nat.beq ep' ep && Nat.beq e esz && Nat.ble ((len + n) * bytes) two47) <;> rw [q] at h
        · simp at h
        · simp only [cond_true] at h
          cases full with
          | true =>
            simp only [cond_true, Option.bind_eq_some_iff, newRowA, Option.some.injEq, Prod.mk.injEq] at h
            obtain ⟨_, _, _, rfl⟩ := h
            rfl
          | false =>
            simp only [cond_false] at h
            cases q2 : Nat.ble ((off + len + n) * esz) c.length <;> rw [q2] at h
            · simp only [cond_false, Option.bind_eq_some_iff, Option.some.injEq, Prod.mk.injEq] at h
              obtain ⟨_, _, _, rfl⟩ := h
              rfl
            · simp only [cond_true, Option.bind_eq_some_iff, Option.some.injEq, Prod.mk.injEq] at h
              obtain ⟨_, _, _, rfl⟩ := h
              rfl
      · simp at h
    · simp at h
theorem aop_fr {d : Option Nat} {op : AOp} {v : AV} {s' : St} (hs : stays op = true) (h : aop base d op s = some (v, s')) : s'.fr = s.fr := by
  cases op with
  | mov x => simp only [W_mov] at h; cases hx : x.ev s.fr <;> rw [hx] at h <;> simp [bindS] at h; rw [← h.2]
  | pick c a b => simp only [W_pick] at h; cases hx : pickA (c.ev s.fr) (a.ev s.fr) (b.ev s.fr) <;> rw [hx] at h <;> simp [bindS] at h; rw [← h.2]
  | alloc l z k =>
    cases l with
    | true => cases d <;> simp [aop] at h; rw [← h.2]
    | false => simp [aop] at h; rw [← h.2]
  | box l x k =>
    cases l with
    | true =>
      simp only [aop, Option.bind_eq_some_iff] at h
      obtain ⟨u, -, h⟩ := h
      cases d <;> simp at h
      rw [← h.2]
    | false => simp only [W_box] at h; cases hx : x.dat s.fr <;> rw [hx] at h <;> simp [boxHA] at h; rw [← h.2]
  | load n x => simp only [W_load] at h; cases hx : bind1 (loadA s n) (x.ev s.fr) <;> rw [hx] at h <;> simp [bindS] at h; rw [← h.2]
  | store n x v => simp [stays] at hs
  | nilck x => simp only [W_nilck] at h; cases hx : bind1 addrA (x.ev s.fr) <;> rw [hx] at h <;> simp [bindS] at h; rw [← h.2]
  | fadr x f => simp only [W_fadr] at h; cases hx : bind1 (fadrA f) (x.ev s.fr) <;> rw [hx] at h <;> simp [bindS] at h; rw [← h.2]
  | fld x f n => simp only [W_fld] at h; cases hx : bind1 (fldA f n) (x.ev s.fr) <;> rw [hx] at h <;> simp [bindS] at h; rw [← h.2]
  | idxa a e x i => simp only [W_idxa] at h; cases hx : bind2 (indexA a e) (x.ev s.fr) (i.ev s.fr) <;> rw [hx] at h <;> simp [bindS] at h; rw [← h.2]
  | idx x i => simp only [W_idx] at h; cases hx : bind2 idxS (x.ev s.fr) (i.ev s.fr) <;> rw [hx] at h <;> simp [bindS] at h; rw [← h.2]
  | bin o x y => simp only [W_bin] at h; cases hx : bind2 (binA o) (x.ev s.fr) (y.ev s.fr) <;> rw [hx] at h <;> simp [bindS] at h; rw [← h.2]
  | un o x => simp only [W_un] at h; cases hx : bind1 (unA o) (x.ev s.fr) <;> rw [hx] at h <;> simp [bindS] at h; rw [← h.2]
  | cmp c n x y => simp only [W_cmp] at h; cases hx : bind2 (cmpA c n) (x.ev s.fr) (y.ev s.fr) <;> rw [hx] at h <;> simp [bindS] at h; rw [← h.2]
  | toInt k x => simp only [W_toInt] at h; cases hx : bind1 (toIntA k) (x.ev s.fr) <;> rw [hx] at h <;> simp [bindS] at h; rw [← h.2]
  | toStr x => simp only [W_toStr] at h; cases hx : bind1 (toStrA s.h) (x.ev s.fr) <;> rw [hx] at h <;> simp [bindS] at h; rw [← h.2]
  | toBytes x k =>
    simp only [aop] at h
    split at h
    · simp only [newRowA, Option.some.injEq, Prod.mk.injEq] at h; rw [← h.2]
    · simp at h
  | slice z x lo hi mx => simp only [W_slice] at h; cases hx : bind1 (fun x => sliceA s.fr z x lo hi mx) (x.ev s.fr) <;> rw [hx] at h <;> simp [bindS] at h; rw [← h.2]
  | mark x =>
    simp only [aop, Option.bind_eq_some_iff] at h
    obtain ⟨x, -, h⟩ := h
    split at h
    · split at h
      · rename_i e o ep off n full ob z ep' c hc
        cases q : (Nat.beq ep' ep && Nat.beq ep 0) <;> rw [q] at h <;> simp at h
        rw [← h.2]
      · simp at h
    · simp at h
  | slicx z x lo hi =>
    simp only [aop, Option.bind_eq_some_iff] at h
    obtain ⟨x, -, l, -, hh, -, h⟩ := h
    split at h
    · split at h
      · rename_i e o ep off n ob z' ep' c hc
        cases q : (Nat.beq ep' ep && Nat.beq e z && Nat.ble l hh && Nat.blt 0 z && Nat.ble ((off + hh) * z) c.length) <;> rw [q] at h <;> simp at h
        rw [← h.2]
      · simp at h
    · simp at h
  | build z p => simp only [W_build] at h; cases hx : aggO (fillA s.fr z p) <;> rw [hx] at h <;> simp [bindS] at h; rw [← h.2]
  | buildsl e n z p k => simp only [W_buildsl, rowO, Option.bind_eq_some_iff, newRowA, Option.some.injEq, Prod.mk.injEq] at h; obtain ⟨_, _, _, rfl⟩ := h; rfl
  | lits e n z p => simp only [W_lits] at h; cases hx : litO e n (fillA s.fr (repl z n) p) <;> rw [hx] at h <;> simp [bindS] at h; rw [← h.2]
  | mksl e b z l c k =>
    simp only [aop] at h
    split at h
    · rename_i l' c' _ _
      cases q : (Nat.ble l' c' && Nat.ble (c' * b) two47) <;> rw [q] at h <;> simp [newRowA] at h
      rw [← h.2]
    · simp at h
  | app e b x y k =>
    simp only [W_app] at h
    unfold appO at h
    split at h
    · exact appA_fr h
    · simp at h
  | cpy e a x =>
    simp only [aop, Option.bind_eq_some_iff] at h
    obtain ⟨a, -, x, -, m, -, h⟩ := h
    split at h
    · simp only [Option.bind_eq_some_iff] at h
      obtain ⟨cs, -, h⟩ := h
      split at h
      · rename_i e' o ep off dlen full ob z ep' c hc
        cases q : (Nat.beq ep' ep && Nat.beq e' e) <;> rw [q] at h
        · simp at h
        · simp only [cond_true, Option.bind_eq_some_iff, Option.some.injEq, Prod.mk.injEq] at h
          obtain ⟨_, _, _, rfl⟩ := h
          rfl
      · simp at h
    · simp at h
  | len c x => simp only [W_len] at h; cases hx : bind1 (lenO s.h c) (x.ev s.fr) <;> rw [hx] at h <;> simp [bindS] at h; rw [← h.2]
  | mm m x y => simp only [W_mm] at h; cases hx : bind2 (mmA m) (x.ev s.fr) (y.ev s.fr) <;> rw [hx] at h <;> simp [bindS] at h; rw [← h.2]
  | mkmap k => simp [aop] at h; rw [← h.2]
  | lookup b z ok x i => simp only [W_lookup] at h; cases hx : bind2 (lookA s.h b z ok) (x.ev s.fr) (i.ev s.fr) <;> rw [hx] at h <;> simp [bindS] at h; rw [← h.2]
  | mapupd b m i v =>
    simp only [aop] at h
    split at h
    · simp only [Option.bind_eq_some_iff] at h
      obtain ⟨i, -, v, -, h⟩ := h
      split at h
      · cases q : keyOk b i <;> rw [q] at h
        · simp at h
        · simp only [cond_true, Option.bind_eq_some_iff, Option.some.injEq, Prod.mk.injEq] at h
          obtain ⟨_, _, _, rfl⟩ := h
          rfl
      · simp at h
    · simp at h
  | clr z x => simp [stays] at hs
  | mapdel b m i =>
    simp only [aop, Option.bind_eq_some_iff] at h
    obtain ⟨m, -, i, -, h⟩ := h
    cases q : keyOk b i <;> rw [q] at h
    · simp at h
    · simp only [cond_true] at h
      split at h
      · simp only [Option.some.injEq, Prod.mk.injEq] at h; rw [← h.2]
      · split at h
        · simp only [Option.bind_eq_some_iff, Option.some.injEq, Prod.mk.injEq] at h
          obtain ⟨_, _, _, rfl⟩ := h
          rfl
        · simp at h
      · simp at h
  | mkfn f c => simp only [W_mkfn] at h; cases hx : fnO f (datAll s.fr c) <;> rw [hx] at h <;> simp [bindS] at h; rw [← h.2]
  | mkif t x => simp only [W_mkif] at h; cases hx : ifO t (x.dat s.fr) <;> rw [hx] at h <;> simp [bindS] at h; rw [← h.2]
  | ext x i => simp only [W_ext] at h; cases hx : bind1 (extA i) (x.ev s.fr) <;> rw [hx] at h <;> simp [bindS] at h; rw [← h.2]
  | call f a z => simp [stays] at hs
  | callv f a z => simp [stays] at hs
  | range m x k =>
    simp only [aop, Option.bind_eq_some_iff] at h
    obtain ⟨u, -, h⟩ := h
    obtain ⟨h', rfl, -⟩ := rangeA_mono (fr := s.fr) (st := s.st) (h := s.h) h
    rfl
  | next str x =>
    simp only [aop, Option.bind_eq_some_iff] at h
    obtain ⟨u, -, h⟩ := h
    obtain ⟨h', rfl, -⟩ := nextA_mono (fr := s.fr) (st := s.st) (h := s.h) h
    rfl
  | entry x =>
    simp only [aop, Option.bind_eq_some_iff] at h
    obtain ⟨u, -, h⟩ := h
    obtain ⟨h', rfl, -⟩ := entryA_mono (fr := s.fr) (st := s.st) (h := s.h) h
    rfl
  | fail => simp [aop] at h
def dS (P : Prog) (base st0 : Nat) (all : List DItem) (o : Option (AV × St)) (d : Option Nat) (ch : List Nat) (r : List DItem) (live : List Nat) (s : St) (Q : AExit → St → Prop) : Prop := match o with
  | some (v, s1) => looks base st0 all { fr := setD s.fr d v, st := s.st, h := s1.h } ch = true ∧ WD P base st0 all r live { fr := setD s.fr d v, st := s.st, h := s1.h } Q
  | none => False
@[go_sem] theorem dS_some (v : AV) (s1 : St) (d : Option Nat) (r : List DItem) : dS P base st0 all (some (v, s1)) d [] r live s Q = WD P base st0 all r live { fr := setD s.fr d v, st := s.st, h := s1.h } Q := by
  simp [dS, looks]
theorem keep_app_same (fr : Fr) (l : List Nat) (d : Option Nat) (v : AV) : SameFr (setD (keep fr l ++ fr) d v) (setD fr d v) := fun i => by
  simp only [fget_setD, fget_keep_app]
theorem WD_plain {d : Option Nat} {op : AOp} {ix kd : Nat} {rs ch bf : List Nat} {r : List DItem} (hs : stays op = true) :
    WD P base st0 all (⟨⟨d, op, none⟩, ix, rs, kd, ch, bf⟩ :: r) live s Q = dS P base st0 all (aop base d op { fr := keep s.fr rs, st := st0, h := s.h }) d ch r live s Q := by
  have hc : isCall op = false := by cases op <;> first | rfl | simp [stays] at hs
  have e : ∀ n, dstep (callP (exec P n) P) base st0 ⟨⟨d, op, none⟩, ix, rs, kd, ch, bf⟩ s = (aop base d op { fr := keep s.fr rs, st := st0, h := s.h }).bind fun x => some { fr := setD (x.2.fr ++ s.fr) d x.1, st := s.st, h := x.2.h } := fun n => by
    simp only [dstep, wantedA, Option.bind_some, cond_true, oper_plain (o := ⟨d, op, none⟩) hc, sees]
  cases ha : aop base d op { fr := keep s.fr rs, st := st0, h := s.h } with
  | none =>
    simp only [dS]
    refine propext ⟨fun ⟨n, s', h1, h2⟩ => ?_, fun h => h.elim⟩
    simp only [dops, e, ha, Option.bind_none, Option.bind_eq_some_iff] at h1
    obtain ⟨_, h1, _⟩ := h1
  | some x =>
    obtain ⟨v, s1⟩ := x
    have hf := aop_fr hs ha
    simp only [dS]
    have hsame := keep_app_same s.fr rs d v
    refine propext ⟨fun ⟨n, s', h1, h2⟩ => ?_, fun ⟨hl, h⟩ => ?_⟩
    · simp only [dops, e, ha, Option.bind_some, hf] at h1
      rw [looks_same hsame] at h1
      cases hl : looks base st0 all { fr := setD s.fr d v, st := s.st, h := s1.h } ch with
      | false => rw [hl] at h1; simp at h1
      | true =>
        rw [hl] at h1
        exact ⟨rfl, WD.same hsame ⟨n, s', h1, h2⟩⟩
    · obtain ⟨n, s', h1, h2⟩ := WD.same (fun i => (hsame i).symm) h
      refine ⟨n, s', ?_, h2⟩
      simp only [dops, e, ha, Option.bind_some, hf]
      rw [looks_same hsame, hl]
      exact h1
def dguardS (P : Prog) (base st0 : Nat) (all : List DItem) (o : Option AV) (b : Bool) (d : Option Nat) (op : AOp) (ix kd : Nat) (rs ch bf : List Nat) (r : List DItem) (live : List Nat) (s : St) (Q : AExit → St → Prop) : Prop := match o with
  | some (.bool c) => bif c == b then WD P base st0 all (⟨⟨d, op, none⟩, ix, rs, kd, ch, bf⟩ :: r) live s Q else looks base st0 all { s with fr := setD s.fr d undefA } ch = true ∧ WD P base st0 all r live { s with fr := setD s.fr d undefA } Q
  | some (.tup _) => looks base st0 all { s with fr := setD s.fr d undefA } ch = true ∧ WD P base st0 all r live { s with fr := setD s.fr d undefA } Q
  | _ => False
variable {d : Option Nat} {op : AOp} {ix kd : Nat} {rs ch bf : List Nat} {r : List DItem}
@[go_sem] theorem WD_guard {i : Nat} {b : Bool} : WD P base st0 all (⟨⟨d, op, some (i, b)⟩, ix, rs, kd, ch, bf⟩ :: r) live s Q = dguardS P base st0 all (fget (keep s.fr rs) i) b d op ix kd rs ch bf r live s Q := by
  have e : ∀ n t, wantedA (keep s.fr rs) (some (i, b)) = some t → dstep (callP (exec P n) P) base st0 ⟨⟨d, op, some (i, b)⟩, ix, rs, kd, ch, bf⟩ s = bif t then dstep (callP (exec P n) P) base st0 ⟨⟨d, op, none⟩, ix, rs, kd, ch, bf⟩ s else some { s with fr := setD s.fr d undefA } := fun n t ht => by
    simp only [dstep, sees, ht, Option.bind_some]
    cases t <;> simp only [cond_true, cond_false, wantedA, Option.bind_some]
    rfl
  have key : ∀ t, wantedA (keep s.fr rs) (some (i, b)) = some t → WD P base st0 all (⟨⟨d, op, some (i, b)⟩, ix, rs, kd, ch, bf⟩ :: r) live s Q = bif t then WD P base st0 all (⟨⟨d, op, none⟩, ix, rs, kd, ch, bf⟩ :: r) live s Q else looks base st0 all { s with fr := setD s.fr d undefA } ch = true ∧ WD P base st0 all r live { s with fr := setD s.fr d undefA } Q := fun t ht => by
    cases t with
    | true =>
      simp only [cond_true, WD, dops, e _ _ ht]
    | false =>
      simp only [cond_false, WD, dops, e _ _ ht, Option.bind_some]
      cases hl : looks base st0 all { s with fr := setD s.fr d undefA } ch <;> simp
  unfold dguardS
  cases hg : fget (keep s.fr rs) i with
  | none =>
    refine propext ⟨fun ⟨n, s', h1, h2⟩ => ?_, fun h => h.elim⟩
    simp only [dops, dstep, sees, wantedA, hg, Option.bind_none] at h1
    simp at h1
  | some x =>
    cases x with
    | bool c => exact key _ (by simp only [wantedA, hg])
    | tup cs => rw [key false (by simp only [wantedA, hg])]; rfl
    | _ =>
      refine propext ⟨fun ⟨n, s', h1, h2⟩ => ?_, fun h => h.elim⟩
      simp only [dops, dstep, sees, wantedA, hg, Option.bind_none] at h1
      simp at h1
@[go_sem] theorem dguardS_tt : dguardS P base st0 all (some (.bool true)) true d op ix kd rs ch bf r live s Q = WD P base st0 all (⟨⟨d, op, none⟩, ix, rs, kd, ch, bf⟩ :: r) live s Q := rfl
@[go_sem] theorem dguardS_ff : dguardS P base st0 all (some (.bool false)) false d op ix kd rs ch bf r live s Q = WD P base st0 all (⟨⟨d, op, none⟩, ix, rs, kd, ch, bf⟩ :: r) live s Q := rfl
@[go_sem] theorem dguardS_tf : dguardS P base st0 all (some (.bool true)) false d op ix kd rs [] bf r live s Q = WD P base st0 all r live { s with fr := setD s.fr d undefA } Q := by simp [dguardS, looks]
@[go_sem] theorem dguardS_ft : dguardS P base st0 all (some (.bool false)) true d op ix kd rs [] bf r live s Q = WD P base st0 all r live { s with fr := setD s.fr d undefA } Q := by simp [dguardS, looks]
@[go_sem] theorem dguardS_tup (cs : List AV) (b : Bool) : dguardS P base st0 all (some (.tup cs)) b d op ix kd rs [] bf r live s Q = WD P base st0 all r live { s with fr := setD s.fr d undefA } Q := by simp [dguardS, looks]
theorem dguardS_split {c b : Bool} (h1 : c = b → WD P base st0 all (⟨⟨d, op, none⟩, ix, rs, kd, ch, bf⟩ :: r) live s Q) (h2 : c = !b → looks base st0 all { s with fr := setD s.fr d undefA } ch = true ∧ WD P base st0 all r live { s with fr := setD s.fr d undefA } Q) : dguardS P base st0 all (some (.bool c)) b d op ix kd rs ch bf r live s Q := by
  cases c <;> cases b <;> simp_all [dguardS]
theorem WD_den {f k : Nat} {args : List Opd} {vs : List AV} {R : AV → Prop} {P : Prog} (hk : P.pure f = k + 1) (hv : datAll (keep s.fr rs) args = some vs) (hf : Den P f (lent (k + 1) s.h vs) R) (ha : ∀ v, R v → alone (k + 1) v = true)
    (hl : ∀ v, R v → looks base st0 all { s with fr := setD s.fr d v } ch = true) (h : ∀ v, R v → WD P base st0 all r live { s with fr := setD s.fr d v } Q) : WD P base st0 all (⟨⟨d, .call f args false, none⟩, ix, rs, kd, ch, bf⟩ :: r) live s Q := by
  obtain ⟨n, x, h1, h2⟩ := hf s.h.next
  have hsame := keep_app_same s.fr rs d (frz x.2 s.h.next 40 x.1)
  obtain ⟨m, s2, h3, h4⟩ := WD.same (fun i => (hsame i).symm) (h _ h2)
  refine ⟨max n m, s2, ?_, h4⟩
  have e1 : callP (exec P (max n m)) P f vs s.h = some (frz x.2 s.h.next 40 x.1, s.h) := by
    unfold callP
    rw [hk]
    simp only [pureBy, callBy_le (exec_le (Nat.le_max_left n m)) _ _ _ _ h1, Option.bind_some, ha _ h2, cond_true]
  have e2 := hl _ h2
  rw [← looks_same hsame] at e2
  simp only [dops, dstep, sees, wantedA, Option.bind_some, cond_true, oper, hv, e1, frzR, cond_false, e2]
  exact dops_le (callP_le (exec_le (Nat.le_max_right n m))) h3
theorem WD_fun {f : Nat} {args : List Opd} {vs : List AV} {R : AV → Heap → Prop} {P : Prog} (hv : datAll (keep s.fr rs) args = some vs) (hf : Fun P f vs s.h R)
    (hl : ∀ v h', R v h' → looks base st0 all { s with fr := setD s.fr d v, h := h' } ch = true) (h : ∀ v h', R v h' → WD P base st0 all r live { s with fr := setD s.fr d v, h := h' } Q) : WD P base st0 all (⟨⟨d, .call f args false, none⟩, ix, rs, kd, ch, bf⟩ :: r) live s Q := by
  obtain ⟨n, v, h', h1, h2⟩ := hf
  have hsame := keep_app_same s.fr rs d v
  obtain ⟨m, s2, h3, h4⟩ := WD.same (fun i => (hsame i).symm) (h _ _ h2)
  refine ⟨max n m, s2, ?_, h4⟩
  have e2 := hl _ _ h2
  rw [← looks_same hsame] at e2
  simp only [dops, dstep, sees, wantedA, Option.bind_some, cond_true, oper, hv, callP_le (exec_le (Nat.le_max_left n m)) _ _ _ _ h1, frzR, cond_false, e2]
  exact dops_le (callP_le (exec_le (Nat.le_max_right n m))) h3
@[go_sem] theorem WD_mov {x : Opd} : WD P base st0 all (⟨⟨d, .mov x, none⟩, ix, rs, kd, ch, bf⟩ :: r) live s Q = dS P base st0 all (aop base d (.mov x) { fr := keep s.fr rs, st := st0, h := s.h }) d ch r live s Q := WD_plain rfl
@[go_sem] theorem WD_pick {c a b : Opd} : WD P base st0 all (⟨⟨d, .pick c a b, none⟩, ix, rs, kd, ch, bf⟩ :: r) live s Q = dS P base st0 all (aop base d (.pick c a b) { fr := keep s.fr rs, st := st0, h := s.h }) d ch r live s Q := WD_plain rfl
@[go_sem] theorem WD_alloc {l : Bool} {z : List AV} {k : Nat} : WD P base st0 all (⟨⟨d, .alloc l z k, none⟩, ix, rs, kd, ch, bf⟩ :: r) live s Q = dS P base st0 all (aop base d (.alloc l z k) { fr := keep s.fr rs, st := st0, h := s.h }) d ch r live s Q := WD_plain rfl
@[go_sem] theorem WD_box {l : Bool} {x : Opd} {k : Nat} : WD P base st0 all (⟨⟨d, .box l x k, none⟩, ix, rs, kd, ch, bf⟩ :: r) live s Q = dS P base st0 all (aop base d (.box l x k) { fr := keep s.fr rs, st := st0, h := s.h }) d ch r live s Q := WD_plain rfl
@[go_sem] theorem WD_load {n : Option Nat} {x : Opd} : WD P base st0 all (⟨⟨d, .load n x, none⟩, ix, rs, kd, ch, bf⟩ :: r) live s Q = dS P base st0 all (aop base d (.load n x) { fr := keep s.fr rs, st := st0, h := s.h }) d ch r live s Q := WD_plain rfl
@[go_sem] theorem WD_nilck {x : Opd} : WD P base st0 all (⟨⟨d, .nilck x, none⟩, ix, rs, kd, ch, bf⟩ :: r) live s Q = dS P base st0 all (aop base d (.nilck x) { fr := keep s.fr rs, st := st0, h := s.h }) d ch r live s Q := WD_plain rfl
@[go_sem] theorem WD_fadr {x : Opd} {f : Nat} : WD P base st0 all (⟨⟨d, .fadr x f, none⟩, ix, rs, kd, ch, bf⟩ :: r) live s Q = dS P base st0 all (aop base d (.fadr x f) { fr := keep s.fr rs, st := st0, h := s.h }) d ch r live s Q := WD_plain rfl
@[go_sem] theorem WD_fld {x : Opd} {f : Nat} {n : Option Nat} : WD P base st0 all (⟨⟨d, .fld x f n, none⟩, ix, rs, kd, ch, bf⟩ :: r) live s Q = dS P base st0 all (aop base d (.fld x f n) { fr := keep s.fr rs, st := st0, h := s.h }) d ch r live s Q := WD_plain rfl
@[go_sem] theorem WD_idxa {a : Option Nat} {e : Nat} {x i : Opd} : WD P base st0 all (⟨⟨d, .idxa a e x i, none⟩, ix, rs, kd, ch, bf⟩ :: r) live s Q = dS P base st0 all (aop base d (.idxa a e x i) { fr := keep s.fr rs, st := st0, h := s.h }) d ch r live s Q := WD_plain rfl
@[go_sem] theorem WD_idx {x i : Opd} : WD P base st0 all (⟨⟨d, .idx x i, none⟩, ix, rs, kd, ch, bf⟩ :: r) live s Q = dS P base st0 all (aop base d (.idx x i) { fr := keep s.fr rs, st := st0, h := s.h }) d ch r live s Q := WD_plain rfl
@[go_sem] theorem WD_bin {o : BinOp} {x y : Opd} : WD P base st0 all (⟨⟨d, .bin o x y, none⟩, ix, rs, kd, ch, bf⟩ :: r) live s Q = dS P base st0 all (aop base d (.bin o x y) { fr := keep s.fr rs, st := st0, h := s.h }) d ch r live s Q := WD_plain rfl
@[go_sem] theorem WD_un {o : UnOp} {x : Opd} : WD P base st0 all (⟨⟨d, .un o x, none⟩, ix, rs, kd, ch, bf⟩ :: r) live s Q = dS P base st0 all (aop base d (.un o x) { fr := keep s.fr rs, st := st0, h := s.h }) d ch r live s Q := WD_plain rfl
@[go_sem] theorem WD_cmp {c : Nat} {n : Bool} {x y : Opd} : WD P base st0 all (⟨⟨d, .cmp c n x y, none⟩, ix, rs, kd, ch, bf⟩ :: r) live s Q = dS P base st0 all (aop base d (.cmp c n x y) { fr := keep s.fr rs, st := st0, h := s.h }) d ch r live s Q := WD_plain rfl
@[go_sem] theorem WD_toInt {k : IntKind} {x : Opd} : WD P base st0 all (⟨⟨d, .toInt k x, none⟩, ix, rs, kd, ch, bf⟩ :: r) live s Q = dS P base st0 all (aop base d (.toInt k x) { fr := keep s.fr rs, st := st0, h := s.h }) d ch r live s Q := WD_plain rfl
@[go_sem] theorem WD_toStr {x : Opd} : WD P base st0 all (⟨⟨d, .toStr x, none⟩, ix, rs, kd, ch, bf⟩ :: r) live s Q = dS P base st0 all (aop base d (.toStr x) { fr := keep s.fr rs, st := st0, h := s.h }) d ch r live s Q := WD_plain rfl
@[go_sem] theorem WD_toBytes {x : Opd} {k : Nat} : WD P base st0 all (⟨⟨d, .toBytes x k, none⟩, ix, rs, kd, ch, bf⟩ :: r) live s Q = dS P base st0 all (aop base d (.toBytes x k) { fr := keep s.fr rs, st := st0, h := s.h }) d ch r live s Q := WD_plain rfl
@[go_sem] theorem WD_slice {e : Option Nat} {x : Opd} {lo hi mx : Option Opd} : WD P base st0 all (⟨⟨d, .slice e x lo hi mx, none⟩, ix, rs, kd, ch, bf⟩ :: r) live s Q = dS P base st0 all (aop base d (.slice e x lo hi mx) { fr := keep s.fr rs, st := st0, h := s.h }) d ch r live s Q := WD_plain rfl
@[go_sem] theorem WD_mark {x : Opd} : WD P base st0 all (⟨⟨d, .mark x, none⟩, ix, rs, kd, ch, bf⟩ :: r) live s Q = dS P base st0 all (aop base d (.mark x) { fr := keep s.fr rs, st := st0, h := s.h }) d ch r live s Q := WD_plain rfl
@[go_sem] theorem WD_slicx {z : Nat} {x : Opd} {lo : Option Opd} {hi : Opd} : WD P base st0 all (⟨⟨d, .slicx z x lo hi, none⟩, ix, rs, kd, ch, bf⟩ :: r) live s Q = dS P base st0 all (aop base d (.slicx z x lo hi) { fr := keep s.fr rs, st := st0, h := s.h }) d ch r live s Q := WD_plain rfl
@[go_sem] theorem WD_build {z : List AV} {p : List (Nat × Nat × Opd)} : WD P base st0 all (⟨⟨d, .build z p, none⟩, ix, rs, kd, ch, bf⟩ :: r) live s Q = dS P base st0 all (aop base d (.build z p) { fr := keep s.fr rs, st := st0, h := s.h }) d ch r live s Q := WD_plain rfl
@[go_sem] theorem WD_buildsl {e n : Nat} {z : List AV} {p : List (Nat × Nat × Opd)} {k : Nat} : WD P base st0 all (⟨⟨d, .buildsl e n z p k, none⟩, ix, rs, kd, ch, bf⟩ :: r) live s Q = dS P base st0 all (aop base d (.buildsl e n z p k) { fr := keep s.fr rs, st := st0, h := s.h }) d ch r live s Q := WD_plain rfl
@[go_sem] theorem WD_lits {e n : Nat} {z : List AV} {p : List (Nat × Nat × Opd)} : WD P base st0 all (⟨⟨d, .lits e n z p, none⟩, ix, rs, kd, ch, bf⟩ :: r) live s Q = dS P base st0 all (aop base d (.lits e n z p) { fr := keep s.fr rs, st := st0, h := s.h }) d ch r live s Q := WD_plain rfl
@[go_sem] theorem WD_mksl {e b : Nat} {z : List AV} {l c : Opd} {k : Nat} : WD P base st0 all (⟨⟨d, .mksl e b z l c k, none⟩, ix, rs, kd, ch, bf⟩ :: r) live s Q = dS P base st0 all (aop base d (.mksl e b z l c k) { fr := keep s.fr rs, st := st0, h := s.h }) d ch r live s Q := WD_plain rfl
@[go_sem] theorem WD_app {e b : Nat} {q x : Opd} {k : Nat} : WD P base st0 all (⟨⟨d, .app e b q x k, none⟩, ix, rs, kd, ch, bf⟩ :: r) live s Q = dS P base st0 all (aop base d (.app e b q x k) { fr := keep s.fr rs, st := st0, h := s.h }) d ch r live s Q := WD_plain rfl
@[go_sem] theorem WD_cpy {e : Nat} {a x : Opd} : WD P base st0 all (⟨⟨d, .cpy e a x, none⟩, ix, rs, kd, ch, bf⟩ :: r) live s Q = dS P base st0 all (aop base d (.cpy e a x) { fr := keep s.fr rs, st := st0, h := s.h }) d ch r live s Q := WD_plain rfl
@[go_sem] theorem WD_len {c : Nat} {x : Opd} : WD P base st0 all (⟨⟨d, .len c x, none⟩, ix, rs, kd, ch, bf⟩ :: r) live s Q = dS P base st0 all (aop base d (.len c x) { fr := keep s.fr rs, st := st0, h := s.h }) d ch r live s Q := WD_plain rfl
@[go_sem] theorem WD_mm {m : Bool} {x y : Opd} : WD P base st0 all (⟨⟨d, .mm m x y, none⟩, ix, rs, kd, ch, bf⟩ :: r) live s Q = dS P base st0 all (aop base d (.mm m x y) { fr := keep s.fr rs, st := st0, h := s.h }) d ch r live s Q := WD_plain rfl
@[go_sem] theorem WD_mkmap {k : Nat} : WD P base st0 all (⟨⟨d, .mkmap k, none⟩, ix, rs, kd, ch, bf⟩ :: r) live s Q = dS P base st0 all (aop base d (.mkmap k) { fr := keep s.fr rs, st := st0, h := s.h }) d ch r live s Q := WD_plain rfl
@[go_sem] theorem WD_lookup {b : Nat} {z : AV} {ok : Bool} {x i : Opd} : WD P base st0 all (⟨⟨d, .lookup b z ok x i, none⟩, ix, rs, kd, ch, bf⟩ :: r) live s Q = dS P base st0 all (aop base d (.lookup b z ok x i) { fr := keep s.fr rs, st := st0, h := s.h }) d ch r live s Q := WD_plain rfl
@[go_sem] theorem WD_mapdel {b : Nat} {m i : Opd} : WD P base st0 all (⟨⟨d, .mapdel b m i, none⟩, ix, rs, kd, ch, bf⟩ :: r) live s Q = dS P base st0 all (aop base d (.mapdel b m i) { fr := keep s.fr rs, st := st0, h := s.h }) d ch r live s Q := WD_plain rfl
@[go_sem] theorem WD_mapupd {b : Nat} {m i v : Opd} : WD P base st0 all (⟨⟨d, .mapupd b m i v, none⟩, ix, rs, kd, ch, bf⟩ :: r) live s Q = dS P base st0 all (aop base d (.mapupd b m i v) { fr := keep s.fr rs, st := st0, h := s.h }) d ch r live s Q := WD_plain rfl
@[go_sem] theorem WD_mkfn {f : Nat} {c : List Opd} : WD P base st0 all (⟨⟨d, .mkfn f c, none⟩, ix, rs, kd, ch, bf⟩ :: r) live s Q = dS P base st0 all (aop base d (.mkfn f c) { fr := keep s.fr rs, st := st0, h := s.h }) d ch r live s Q := WD_plain rfl
@[go_sem] theorem WD_mkif {t : Nat} {x : Opd} : WD P base st0 all (⟨⟨d, .mkif t x, none⟩, ix, rs, kd, ch, bf⟩ :: r) live s Q = dS P base st0 all (aop base d (.mkif t x) { fr := keep s.fr rs, st := st0, h := s.h }) d ch r live s Q := WD_plain rfl
@[go_sem] theorem WD_ext {x : Opd} {i : Nat} : WD P base st0 all (⟨⟨d, .ext x i, none⟩, ix, rs, kd, ch, bf⟩ :: r) live s Q = dS P base st0 all (aop base d (.ext x i) { fr := keep s.fr rs, st := st0, h := s.h }) d ch r live s Q := WD_plain rfl
end
end Go.Am
/- The abstract machine's values as plain data: rewriting rules. Own work. -/
namespace Go.Am
def evS (i : Nat) : Option AV → Option AV
  | some (.lbox st _) => some (.lptr i st 0)
  | v => v
@[go_sem] theorem ev_s (fr : Fr) (i : Nat) : Opd.ev fr (.s i) = evS i (fget fr i) := by
  simp only [Opd.ev]
  cases fget fr i with
  | none => rfl
  | some v => cases v <;> rfl
@[go_sem] theorem ev_k (fr : Fr) (v : AV) : Opd.ev fr (.k v) = some v := rfl
@[go_sem] theorem evS_int (i : Nat) (k : IntKind) (n : Int) : evS i (some (.int k n)) = some (.int k n) := rfl
@[go_sem] theorem evS_bool (i : Nat) (b : Bool) : evS i (some (.bool b)) = some (.bool b) := rfl
@[go_sem] theorem evS_str (i : Nat) (b : List Nat) : evS i (some (.str b)) = some (.str b) := rfl
@[go_sem] theorem evS_nilp (i : Nat) : evS i (some .nilp) = some .nilp := rfl
@[go_sem] theorem evS_nils (i : Nat) : evS i (some .nils) = some .nils := rfl
@[go_sem] theorem evS_nilm (i : Nat) : evS i (some .nilm) = some .nilm := rfl
@[go_sem] theorem evS_nilf (i : Nat) : evS i (some .nilf) = some .nilf := rfl
@[go_sem] theorem evS_nili (i : Nat) : evS i (some .nili) = some .nili := rfl
@[go_sem] theorem evS_ptr (i o f : Nat) : evS i (some (.ptr o f)) = some (.ptr o f) := rfl
@[go_sem] theorem evS_eptr (i o e f : Nat) : evS i (some (.eptr o e f)) = some (.eptr o e f) := rfl
@[go_sem] theorem evS_vptr (i : Nat) (c : List AV) : evS i (some (.vptr c)) = some (.vptr c) := rfl
@[go_sem] theorem evS_lbox (i t : Nat) (c : List AV) : evS i (some (.lbox t c)) = some (.lptr i t 0) := rfl
@[go_sem] theorem evS_lptr (i a b c : Nat) : evS i (some (.lptr a b c)) = some (.lptr a b c) := rfl
@[go_sem] theorem evS_sl (i e n : Nat) (f : Nat → List AV) (b : Bool) : evS i (some (.sl e n f b)) = some (.sl e n f b) := rfl
@[go_sem] theorem evS_hs (i e o p q n : Nat) (b : Bool) : evS i (some (.hs e o p q n b)) = some (.hs e o p q n b) := rfl
@[go_sem] theorem evS_mp (i o : Nat) : evS i (some (.mp o)) = some (.mp o) := rfl
@[go_sem] theorem evS_fn (i f : Nat) (c : List AV) : evS i (some (.fn f c)) = some (.fn f c) := rfl
@[go_sem] theorem evS_iface (i t : Nat) (v : AV) : evS i (some (.iface t v)) = some (.iface t v) := rfl
@[go_sem] theorem evS_agg (i : Nat) (c : List AV) : evS i (some (.agg c)) = some (.agg c) := rfl
@[go_sem] theorem evS_tup (i : Nat) (c : List AV) : evS i (some (.tup c)) = some (.tup c) := rfl
@[go_sem] theorem evS_none (i : Nat) : evS i none = none := rfl
@[go_sem] theorem fget_nil' (i : Nat) : fget [] i = none := rfl
@[go_sem] theorem fget_cons' (j : Nat) (v : AV) (r : Fr) (i : Nat) : fget ((j, v) :: r) i = if i = j then some v else fget r i := by
  simp only [fget, Nat.beq_eq_true_eq]
  by_cases h : i = j
  · subst h; simp
  · have : Nat.beq i j = false := by cases hb : Nat.beq i j with | false => rfl | true => exact absurd (Nat.eq_of_beq_eq_true hb) h
    simp [this, h]
@[go_sem] theorem setD_some (fr : Fr) (i : Nat) (v : AV) : setD fr (some i) v = (i, v) :: fr := rfl
@[go_sem] theorem setD_none (fr : Fr) (v : AV) : setD fr none v = fr := rfl
@[go_sem] theorem fset_cons (fr : Fr) (i : Nat) (v : AV) : fset fr i v = (i, v) :: fr := rfl
@[go_sem] theorem number_nil (i : Nat) : number i [] = [] := rfl
@[go_sem] theorem number_cons (i : Nat) (v : AV) (r : List AV) : number i (v :: r) = (i, v) :: number (i + 1) r := rfl
def keepV (i : Nat) (o : Option AV) (r : Fr) : Fr := match o with
  | some v => (i, v) :: r
  | none => r
@[go_sem] theorem keepV_some (i : Nat) (v : AV) (r : Fr) : keepV i (some v) r = (i, v) :: r := rfl
@[go_sem] theorem keepV_none (i : Nat) (r : Fr) : keepV i none r = r := rfl
@[go_sem] theorem keep_nil (fr : Fr) : keep fr [] = [] := rfl
@[go_sem] theorem keep_cons (fr : Fr) (i : Nat) (r : List Nat) : keep fr (i :: r) = keepV i (fget fr i) (keep fr r) := by
  simp only [keep, keepV]; cases fget fr i <;> rfl
@[go_sem] theorem reserve_zero (h : Heap) : h.reserve 0 = h := rfl
@[go_sem] theorem undefA_eq : undefA = .tup [] := rfl
@[go_sem] theorem dat_int (k : IntKind) (n : Int) : (AV.int k n).dat = true := rfl
def datW (o : Option AV) : Option AV := o.bind fun v => bif v.dat then some v else none
@[go_sem] theorem dat_eq (fr : Fr) (x : Opd) : x.dat fr = datW (x.ev fr) := rfl
@[go_sem] theorem datW_int (k : IntKind) (n : Int) : datW (some (.int k n)) = some (.int k n) := rfl
@[go_sem] theorem datW_bool (b : Bool) : datW (some (.bool b)) = some (.bool b) := rfl
@[go_sem] theorem datW_str (b : List Nat) : datW (some (.str b)) = some (.str b) := rfl
@[go_sem] theorem datW_nilp : datW (some .nilp) = some .nilp := rfl
@[go_sem] theorem datW_nils : datW (some .nils) = some .nils := rfl
@[go_sem] theorem datW_nilm : datW (some .nilm) = some .nilm := rfl
@[go_sem] theorem datW_nilf : datW (some .nilf) = some .nilf := rfl
@[go_sem] theorem datW_nili : datW (some .nili) = some .nili := rfl
@[go_sem] theorem datW_ptr (o f : Nat) : datW (some (.ptr o f)) = some (.ptr o f) := rfl
@[go_sem] theorem datW_eptr (o e f : Nat) : datW (some (.eptr o e f)) = some (.eptr o e f) := rfl
@[go_sem] theorem datW_vptr (c : List AV) : datW (some (.vptr c)) = some (.vptr c) := rfl
@[go_sem] theorem datW_sl (e n : Nat) (f : Nat → List AV) (b : Bool) : datW (some (.sl e n f b)) = some (.sl e n f b) := rfl
@[go_sem] theorem datW_hs (e o p q n : Nat) (b : Bool) : datW (some (.hs e o p q n b)) = some (.hs e o p q n b) := rfl
@[go_sem] theorem datW_mp (o : Nat) : datW (some (.mp o)) = some (.mp o) := rfl
@[go_sem] theorem datW_fn (f : Nat) (c : List AV) : datW (some (.fn f c)) = some (.fn f c) := rfl
@[go_sem] theorem datW_iface (t : Nat) (v : AV) : datW (some (.iface t v)) = some (.iface t v) := rfl
@[go_sem] theorem datW_agg (c : List AV) : datW (some (.agg c)) = some (.agg c) := rfl
@[go_sem] theorem datAll_nil (fr : Fr) : datAll fr [] = some [] := rfl
def consW (o : Option AV) (r : Option (List AV)) : Option (List AV) := o.bind fun v => r.bind fun vs => some (v :: vs)
@[go_sem] theorem consW_some (v : AV) (r : List AV) : consW (some v) (some r) = some (v :: r) := rfl
@[go_sem] theorem datAll_cons (fr : Fr) (x : Opd) (r : List Opd) : datAll fr (x :: r) = consW (x.dat fr) (datAll fr r) := rfl
@[go_sem] theorem resultsOf_nil (s : St) : resultsOf s [] = some [] := rfl
@[go_sem] theorem resultsOf_cons (s : St) (x : ARes) (r : List ARes) : resultsOf s (x :: r) = consW (resultOf s x) (resultsOf s r) := rfl
@[go_sem] theorem resultOf_slot (s : St) (i : Nat) : resultOf s (.slot i) = (Opd.s i).dat s.fr := rfl
@[go_sem] theorem tupleOf_one (v : AV) : tupleOf [v] = v := rfl
@[go_sem] theorem tupleOf_two (v u : AV) (r : List AV) : tupleOf (v :: u :: r) = .tup (v :: u :: r) := rfl
@[go_sem] theorem tupleOf_nil : tupleOf [] = .tup [] := rfl
@[go_sem] theorem mk_none (c : AV) : mk none [c] = some c := rfl
@[go_sem] theorem mk_some (n : Nat) (c : List AV) : mk (some n) c = some (.agg c) := rfl
@[go_sem] theorem sizeN_none : sizeN none = 1 := rfl
@[go_sem] theorem sizeN_some (n : Nat) : sizeN (some n) = n := rfl
@[go_sem] theorem rd_vptr (s : St) (c : List AV) (n : Nat) : rd s (.vptr c) n = takeN n c := rfl
def boxR (o : Option AV) (t : Nat) (off n : Nat) : Option (List AV) := match o with
  | some (.lbox t' c) => bif Nat.beq t' t then sub c off n else none
  | _ => none
@[go_sem] theorem rd_lptr (s : St) (i t off n : Nat) : rd s (.lptr i t off) n = boxR (fget s.fr i) t off n := rfl
@[go_sem] theorem boxR_some (t : Nat) (c : List AV) (off n : Nat) : boxR (some (.lbox t c)) t off n = sub c off n := by simp [boxR]
@[go_sem] theorem sub_eq (c : List AV) (off n : Nat) : sub c off n = (dropN off c).bind fun r => takeN n r := rfl
@[go_sem] theorem dropN_zero (c : List AV) : dropN 0 c = some c := by cases c <;> rfl
@[go_sem] theorem dropN_one (x : AV) (c : List AV) : dropN 1 (x :: c) = some c := by cases c <;> rfl
@[go_sem] theorem dropN_succ (n : Nat) (x : AV) (c : List AV) : dropN (n + 1) (x :: c) = dropN n c := rfl
@[go_sem] theorem takeN_zero (c : List AV) : takeN 0 c = some [] := by cases c <;> rfl
@[go_sem] theorem takeN_one (x : AV) (c : List AV) : takeN 1 (x :: c) = some [x] := by cases c <;> rfl
@[go_sem] theorem takeN_succ (n : Nat) (x : AV) (c : List AV) : takeN (n + 1) (x :: c) = (takeN n c).bind fun r => some (x :: r) := rfl
attribute [go_sem] Option.bind_some Option.bind_none
@[go_sem] theorem fieldA_vptr (c : List AV) (off : Nat) : fieldA (.vptr c) off = (dropN off c).bind fun r => some (.vptr r) := rfl
@[go_sem] theorem fieldA_ptr (o b off : Nat) : fieldA (.ptr o b) off = some (.ptr o (b + off)) := rfl
@[go_sem] theorem fieldA_eptr (o e b off : Nat) : fieldA (.eptr o e b) off = some (.eptr o e (b + off)) := rfl
@[go_sem] theorem fieldA_lptr (i t b off : Nat) : fieldA (.lptr i t b) off = some (.lptr i t (b + off)) := rfl
def boxU (s : St) (o : Option AV) (i t off : Nat) (vs : List AV) : Option St := match o with
  | some (.lbox t' c) => bif Nat.beq t' t then (over c off vs).bind fun c => some { s with fr := fset s.fr i (.lbox t c) } else none
  | _ => none
@[go_sem] theorem wr_lptr (s : St) (i t off : Nat) (vs : List AV) : wr s (.lptr i t off) vs = boxU s (fget s.fr i) i t off vs := rfl
@[go_sem] theorem boxU_some (s : St) (i t off : Nat) (c vs : List AV) : boxU s (some (.lbox t c)) i t off vs = (over c off vs).bind fun c => some { s with fr := fset s.fr i (.lbox t c) } := by simp [boxU]
@[go_sem] theorem over_zero (c vs : List AV) : over c 0 vs = over0 c vs := by cases c <;> rfl
@[go_sem] theorem over_one (x : AV) (c vs : List AV) : over (x :: c) 1 vs = (over0 c vs).bind fun r => some (x :: r) := by cases c <;> rfl
@[go_sem] theorem over_succ (n : Nat) (x : AV) (c vs : List AV) : over (x :: c) (n + 1) vs = (over c n vs).bind fun r => some (x :: r) := rfl
@[go_sem] theorem over0_nil (c : List AV) : over0 c [] = some c := by cases c <;> rfl
@[go_sem] theorem over0_cons (x : AV) (c : List AV) (v : AV) (vs : List AV) : over0 (x :: c) (v :: vs) = (over0 c vs).bind fun r => some (v :: r) := rfl
@[go_sem] theorem cellsOf_agg (c : List AV) : (AV.agg c).cellsOf = c := rfl
@[go_sem] theorem cellsOf_int (k : IntKind) (n : Int) : (AV.int k n).cellsOf = [.int k n] := rfl
@[go_sem] theorem cellsOf_bool (b : Bool) : (AV.bool b).cellsOf = [.bool b] := rfl
@[go_sem] theorem cellsOf_str (b : List Nat) : (AV.str b).cellsOf = [.str b] := rfl
@[go_sem] theorem cellsOf_nils : (AV.nils).cellsOf = [.nils] := rfl
@[go_sem] theorem cellsOf_nilp : (AV.nilp).cellsOf = [.nilp] := rfl
@[go_sem] theorem cellsOf_hs (e o p q n : Nat) (b : Bool) : (AV.hs e o p q n b).cellsOf = [.hs e o p q n b] := rfl
@[go_sem] theorem cellsOf_ptr (o f : Nat) : (AV.ptr o f).cellsOf = [.ptr o f] := rfl
@[go_sem] theorem cellsOf_sl (e n : Nat) (f : Nat → List AV) (b : Bool) : (AV.sl e n f b).cellsOf = [.sl e n f b] := rfl
@[go_sem] theorem cellsOf_mp (o : Nat) : (AV.mp o).cellsOf = [.mp o] := rfl
@[go_sem] theorem fillA_nil (fr : Fr) (c : List AV) : fillA fr c [] = some c := rfl
def fillW (o : Option AV) (fr : Fr) (c : List AV) (off n : Nat) (r : List (Nat × Nat × Opd)) : Option (List AV) := o.bind fun v => bif Nat.beq v.cellsOf.length n then (over c off v.cellsOf).bind fun c => fillA fr c r else none
@[go_sem] theorem fillA_cons (fr : Fr) (c : List AV) (off n : Nat) (x : Opd) (r : List (Nat × Nat × Opd)) : fillA fr c ((off, n, x) :: r) = fillW (x.dat fr) fr c off n r := rfl
@[go_sem] theorem fillW_some (v : AV) (fr : Fr) (c : List AV) (off n : Nat) (r : List (Nat × Nat × Opd)) : fillW (some v) fr c off n r = bif Nat.beq v.cellsOf.length n then (over c off v.cellsOf).bind fun c => fillA fr c r else none := rfl
@[go_sem] theorem repl_zero (z : List AV) : repl z 0 = [] := rfl
@[go_sem] theorem repl_succ (z : List AV) (n : Nat) : repl z (n + 1) = z ++ repl z n := rfl
attribute [go_sem] List.length_cons List.length_nil List.cons_append List.nil_append List.append_nil Nat.zero_add Nat.add_zero
@[go_sem] theorem beq_nat (a b : Nat) : Nat.beq a b = decide (a = b) := by
  by_cases h : a = b
  · subst h; simp
  · simp only [h, decide_false]
    cases hb : Nat.beq a b with
    | false => rfl
    | true => exact absurd (Nat.eq_of_beq_eq_true hb) h
attribute [go_sem] decide_true decide_false cond_true cond_false
def wrapW (k : IntKind) (n : Int) : Int := wrapA k n
@[go_sem] theorem bin_add (k : IntKind) (a b : Int) : binA .add (.int k a) (.int k b) = some (.int k (wrapA k (a + b))) := by cases k <;> rfl
@[go_sem] theorem bin_sub (k : IntKind) (a b : Int) : binA .sub (.int k a) (.int k b) = some (.int k (wrapA k (a - b))) := by cases k <;> rfl
@[go_sem] theorem bin_mul (k : IntKind) (a b : Int) : binA .mul (.int k a) (.int k b) = some (.int k (wrapA k (a * b))) := by cases k <;> rfl
@[go_sem] theorem bin_quo (k : IntKind) (a b : Int) (h : b ≠ 0) : binA .quo (.int k a) (.int k b) = some (.int k (wrapA k (a.tdiv b))) := by
  have : eqI b 0 = false := by rw [eqI_eq]; simp [h]
  cases k <;> simp [binA, intBin, eqK, this]
@[go_sem] theorem bin_rem (k : IntKind) (a b : Int) (h : b ≠ 0) : binA .rem (.int k a) (.int k b) = some (.int k (a.tmod b)) := by
  have : eqI b 0 = false := by rw [eqI_eq]; simp [h]
  cases k <;> simp [binA, intBin, eqK, this]
theorem eqK_self (k : IntKind) : eqK k k = true := by cases k <;> rfl
@[go_sem] theorem bin_eql (k : IntKind) (a b : Int) : binA .eql (.int k a) (.int k b) = some (.bool (decide (a = b))) := by simp [binA, intBin, eqK_self, eqI_eq, Bool.beq_eq_decide_eq]
@[go_sem] theorem bin_neq (k : IntKind) (a b : Int) : binA .neq (.int k a) (.int k b) = some (.bool (decide (a ≠ b))) := by
  simp only [binA, intBin, eqK_self, cond_true, eqI_eq]; by_cases h : a = b <;> simp [h]
@[go_sem] theorem bin_lss (k : IntKind) (a b : Int) : binA .lss (.int k a) (.int k b) = some (.bool (decide (a < b))) := by simp [binA, intBin, eqK_self, ltI_eq]
@[go_sem] theorem bin_gtr (k : IntKind) (a b : Int) : binA .gtr (.int k a) (.int k b) = some (.bool (decide (b < a))) := by simp [binA, intBin, eqK_self, ltI_eq]
@[go_sem] theorem bin_leq (k : IntKind) (a b : Int) : binA .leq (.int k a) (.int k b) = some (.bool (decide (a ≤ b))) := by
  simp only [binA, intBin, eqK_self, cond_true, ltI_eq]; by_cases h : a ≤ b
  · have : ¬ b < a := by omega
    simp [h, this]
  · have : b < a := by omega
    simp [h, this]
@[go_sem] theorem bin_geq (k : IntKind) (a b : Int) : binA .geq (.int k a) (.int k b) = some (.bool (decide (b ≤ a))) := by
  simp only [binA, intBin, eqK_self, cond_true, ltI_eq]; by_cases h : b ≤ a
  · have : ¬ a < b := by omega
    simp [h, this]
  · have : a < b := by omega
    simp [h, this]
@[go_sem] theorem un_neg (k : IntKind) (a : Int) : unA .neg (.int k a) = some (.int k (wrapA k (0 - a))) := rfl
@[go_sem] theorem un_not (b : Bool) : unA .not (.bool b) = some (.bool (!b)) := rfl
theorem fits_eq (k : IntKind) (n : Int) : fits k n = decide (-(loK k : Int) ≤ n ∧ n < hiK k) := by
  cases n with
  | ofNat m =>
    simp only [fits, nblt]
    rw [Bool.eq_iff_iff]
    simp only [decide_eq_true_eq, Int.ofNat_eq_natCast]
    omega
  | negSucc m =>
    simp only [fits, nblt]
    rw [Bool.eq_iff_iff]
    simp only [decide_eq_true_eq]
    omega
theorem wrapA_in {k : IntKind} {n : Int} (h1 : -(loK k : Int) ≤ n) (h2 : n < hiK k) : wrapA k n = n := by
  simp only [wrapA, fits_eq, h1, h2, and_self, decide_true, cond_true]
@[go_sem] theorem wrapA_i64 {n : Int} (h1 : -9223372036854775808 ≤ n) (h2 : n < 9223372036854775808) : wrapA .i64 n = n := wrapA_in h1 h2
@[go_sem] theorem wrapA_u64 {n : Int} (h1 : 0 ≤ n) (h2 : n < 18446744073709551616) : wrapA .u64 n = n := wrapA_in (by simpa [loK] using h1) h2
@[go_sem] theorem wrapA_u8 {n : Int} (h1 : 0 ≤ n) (h2 : n < 256) : wrapA .u8 n = n := wrapA_in (by simpa [loK] using h1) h2
@[go_sem] theorem wrapA_i32 {n : Int} (h1 : -2147483648 ≤ n) (h2 : n < 2147483648) : wrapA .i32 n = n := wrapA_in h1 h2
@[go_sem] theorem wrapA_u32 {n : Int} (h1 : 0 ≤ n) (h2 : n < 4294967296) : wrapA .u32 n = n := wrapA_in (by simpa [loK] using h1) h2
@[go_sem] theorem backQ_eq (N : Nat) (R : AV → Prop) (v : AV) (h : Heap) : backQ N R v h = R (frz h N 40 v) := rfl
section
variable (h : Heap) (b n : Nat)
@[go_sem] theorem frz_int (k : IntKind) (x : Int) : frz h b n (.int k x) = .int k x := by cases n <;> rfl
@[go_sem] theorem frz_bool (x : Bool) : frz h b n (.bool x) = .bool x := by cases n <;> rfl
@[go_sem] theorem frz_str (x : List Nat) : frz h b n (.str x) = .str x := by cases n <;> rfl
@[go_sem] theorem frz_nils : frz h b n .nils = .nils := by cases n <;> rfl
@[go_sem] theorem frz_nilp : frz h b n .nilp = .nilp := by cases n <;> rfl
@[go_sem] theorem frz_nilm : frz h b n .nilm = .nilm := by cases n <;> rfl
@[go_sem] theorem frz_nilf : frz h b n .nilf = .nilf := by cases n <;> rfl
@[go_sem] theorem frz_nili : frz h b n .nili = .nili := by cases n <;> rfl
@[go_sem] theorem frz_ptr (o f : Nat) : frz h b n (.ptr o f) = .ptr o f := by cases n <;> rfl
@[go_sem] theorem frz_mp (o : Nat) : frz h b n (.mp o) = .mp o := by cases n <;> rfl
@[go_sem] theorem frz_sl (e l : Nat) (f : Nat → List AV) (q : Bool) : frz h b n (.sl e l f q) = .sl e l f q := by cases n <;> rfl
@[go_sem] theorem frz_agg (c : List AV) : frz h b (n + 1) (.agg c) = .agg (c.map (frz h b n)) := rfl
@[go_sem] theorem frz_tup (c : List AV) : frz h b (n + 1) (.tup c) = .tup (c.map (frz h b n)) := rfl
end
attribute [go_sem] List.map_cons List.map_nil
@[go_sem] theorem alone_1 (v : AV) : alone 1 v = pureV big v := rfl
@[go_sem] theorem alone_2 (v : AV) : alone 2 v = flatV big v := rfl
section
variable (n : Nat)
@[go_sem] theorem lent_1 (h : Heap) (l : List AV) : lent 1 h l = l := rfl
@[go_sem] theorem lent_2 (h : Heap) (l : List AV) : lent 2 h l = l.map (frz h 0 40) := rfl
@[go_sem] theorem lent_01 (h : Heap) (l : List AV) : lent (0 + 1) h l = l := rfl
@[go_sem] theorem lent_11 (h : Heap) (l : List AV) : lent (1 + 1) h l = l.map (frz h 0 40) := rfl
end
@[go_sem] theorem get_put_same (h : Heap) (o : Nat) (x : AObj) : (h.put o x).get o = some x := by simp only [Heap.put, Heap.get, Tr.get_set_same]
theorem get_put_ne (h : Heap) (o q : Nat) (x : AObj) (hn : q ≠ o) : (h.put o x).get q = h.get q := by simp only [Heap.put, Heap.get, Tr.get_set_ne _ _ _ _ hn]
@[go_sem] theorem put_next (h : Heap) (o : Nat) (x : AObj) : (h.put o x).next = h.next := rfl
@[go_sem] theorem reserve_get (h : Heap) (n o : Nat) : (h.reserve n).get o = h.get o := rfl
@[go_sem] theorem reserve_next (h : Heap) (n : Nat) : (h.reserve n).next = h.next + n := rfl
def strv (l : List UInt8) : AV := .str (l.map UInt8.toNat)
theorem strv_inj {a b : List UInt8} (h : a.map UInt8.toNat = b.map UInt8.toNat) : a = b := by
  induction a generalizing b with
  | nil => cases b <;> simp_all
  | cons x a ih =>
    cases b with
    | nil => simp at h
    | cons y b =>
      simp only [List.map_cons, List.cons.injEq] at h
      rw [ih h.2, UInt8.toNat_inj.1 h.1]
@[go_sem] theorem evS_strv (i : Nat) (l : List UInt8) : evS i (some (strv l)) = some (strv l) := rfl
@[go_sem] theorem datW_strv (l : List UInt8) : datW (some (strv l)) = some (strv l) := rfl
@[go_sem] theorem cellsOf_strv (l : List UInt8) : (strv l).cellsOf = [strv l] := rfl
@[go_sem] theorem lenTag_strv (l : List UInt8) : lenTag 0 (strv l) = true := rfl
@[go_sem] theorem lenA_strv (h : Heap) (l : List UInt8) : lenA h (strv l) = some l.length := by simp [lenA, strv]
@[go_sem] theorem frz_strv (h : Heap) (b n : Nat) (l : List UInt8) : frz h b n (strv l) = strv l := frz_str h b n _
theorem eqS_strv (a b : List UInt8) : eqS (a.map UInt8.toNat) (b.map UInt8.toNat) = decide (a = b) := by
  rw [eqS_eq, Bool.beq_eq_decide_eq]
  by_cases h : a = b
  · subst h; simp
  · have : ¬ a.map UInt8.toNat = b.map UInt8.toNat := fun e => h (strv_inj e)
    simp [h, this]
def ltB : List UInt8 → List UInt8 → Bool
  | _, [] => false
  | [], _ :: _ => true
  | a :: x, b :: y => if a.toNat < b.toNat then true else if a = b then ltB x y else false
theorem ltS_strv (a b : List UInt8) : ltS (a.map UInt8.toNat) (b.map UInt8.toNat) = ltB a b := by
  induction a generalizing b with
  | nil => cases b <;> rfl
  | cons x a ih =>
    cases b with
    | nil => rfl
    | cons y b =>
      simp only [List.map_cons, ltS, ltB, nblt, nbeq, ih]
      by_cases h : x.toNat < y.toNat
      · simp [h]
      · by_cases h' : x = y
        · subst h'; simp
        · have : ¬ x.toNat = y.toNat := fun e => h' (UInt8.toNat_inj.1 e)
          simp [h, h', this]
@[go_sem] theorem str_eql (a b : List UInt8) : binA .eql (strv a) (strv b) = some (.bool (decide (a = b))) := by simp only [strv, binA, strBin, eqS_strv]
@[go_sem] theorem str_neq (a b : List UInt8) : binA .neq (strv a) (strv b) = some (.bool (decide (a ≠ b))) := by
  simp only [strv, binA, strBin, eqS_strv]; by_cases h : a = b <;> simp [h]
@[go_sem] theorem str_lss (a b : List UInt8) : binA .lss (strv a) (strv b) = some (.bool (ltB a b)) := by simp only [strv, binA, strBin, ltS_strv]
@[go_sem] theorem str_gtr (a b : List UInt8) : binA .gtr (strv a) (strv b) = some (.bool (!(ltB a b || decide (a = b)))) := by simp only [strv, binA, strBin, ltS_strv, eqS_strv]
@[go_sem] theorem str_leq (a b : List UInt8) : binA .leq (strv a) (strv b) = some (.bool (ltB a b || decide (a = b))) := by simp only [strv, binA, strBin, ltS_strv, eqS_strv]
@[go_sem] theorem str_geq (a b : List UInt8) : binA .geq (strv a) (strv b) = some (.bool (!ltB a b)) := by simp only [strv, binA, strBin, ltS_strv]
@[go_sem] theorem str_add (a b : List UInt8) (h : a.length + b.length ≤ 9223372036854775807) : binA .add (strv a) (strv b) = some (strv (a ++ b)) := by
  have : Nat.ble ((a.map UInt8.toNat).length + (b.map UInt8.toNat).length) 9223372036854775807 = true := by rw [nble]; simpa using h
  simp only [strv, binA, strBin, this, cond_true, List.map_append]
@[go_sem] theorem str_idx (l : List UInt8) (k : IntKind) (i : Int) (h0 : 0 ≤ i) (h1 : i < l.length) : idxS (strv l) (.int k i) = some (.int .u8 ((l.getD i.toNat 0).toNat : Int)) := by
  obtain ⟨n, rfl⟩ := Int.eq_ofNat_of_zero_le h0
  have hn : n < l.length := by omega
  show idxS (.str _) (.int k (Int.ofNat n)) = _
  simp only [idxS, List.getElem?_map, List.getElem?_eq_getElem hn, Option.map_some, Option.bind_some, Int.toNat_natCast, List.getD_eq_getElem?_getD, Option.getD_some]
  rfl
def bndV (o : Option AV) : Option Nat := match o with
  | some (.int _ (.ofNat n)) => some n
  | _ => none
@[go_sem] theorem bound_none (fr : Fr) (d : Nat) : bound fr none d = some d := rfl
@[go_sem] theorem bound_some (fr : Fr) (x : Opd) (d : Nat) : bound fr (some x) d = bndV (x.ev fr) := rfl
@[go_sem] theorem bndV_int (k : IntKind) (i : Int) (h : 0 ≤ i) : bndV (some (.int k i)) = some i.toNat := by
  obtain ⟨n, rfl⟩ := Int.eq_ofNat_of_zero_le h
  rfl
def slS (l : List UInt8) (a b : Option Nat) : Option AV := match a, b with
  | some a, some b => if a ≤ b ∧ b ≤ l.length then some (strv ((l.take b).drop a)) else none
  | _, _ => none
@[go_sem] theorem slS_some (l : List UInt8) (a b : Nat) (h1 : a ≤ b) (h2 : b ≤ l.length) : slS l (some a) (some b) = some (strv ((l.take b).drop a)) := by simp [slS, h1, h2]
@[go_sem] theorem sliceA_strv (fr : Fr) (l : List UInt8) (lo hi : Option Opd) : sliceA fr none (strv l) lo hi none = slS l (bound fr lo 0) (bound fr hi l.length) := by
  simp only [strv, sliceA, slS, List.length_map]
  cases bound fr lo 0 with
  | none => rfl
  | some a =>
    cases bound fr hi l.length with
    | none => rfl
    | some b =>
      simp only [Option.bind_some, nble]
      by_cases h1 : a ≤ b <;> by_cases h2 : b ≤ l.length <;> simp [h1, h2]
class Enc (α : Type) extends Inhabited α where
  sz : Nat
  cells : α → List AV
  len : ∀ x, (cells x).length = sz
  pur : ∀ x c, c ∈ cells x → (∀ h b n, frz h b n c = c) ∧ pureV 1000000 c = true
open Enc
variable {α : Type} [Enc α]
def cellsAtL (l : List α) (i : Nat) : List AV := match l[i]? with
  | some x => cells x
  | none => []
theorem cellsAtL_in {l : List α} {i : Nat} (h : i < l.length) : cellsAtL l i = cells (l.getD i default) := by
  simp only [cellsAtL, List.getElem?_eq_getElem h, List.getD_eq_getElem?_getD, Option.getD_some]
def slv (nl full : Bool) (l : List α) : AV := bif nl && l.isEmpty then .nils else .sl (sz α) l.length (cellsAtL l) full
theorem slv_cases (nl full : Bool) (l : List α) : (slv nl full l = .nils ∧ l = [] ∧ nl = true) ∨ slv nl full l = .sl (sz α) l.length (cellsAtL l) full := by
  unfold slv
  cases nl <;> cases l <;> simp
@[go_sem] theorem evS_slv (i : Nat) (nl full : Bool) (l : List α) : evS i (some (slv nl full l)) = some (slv nl full l) := by
  rcases slv_cases nl full l with ⟨h, -⟩ | h <;> rw [h] <;> rfl
@[go_sem] theorem datW_slv (nl full : Bool) (l : List α) : datW (some (slv nl full l)) = some (slv nl full l) := by
  rcases slv_cases nl full l with ⟨h, -⟩ | h <;> rw [h] <;> rfl
@[go_sem] theorem cellsOf_slv (nl full : Bool) (l : List α) : (slv nl full l).cellsOf = [slv nl full l] := by
  rcases slv_cases nl full l with ⟨h, -⟩ | h <;> rw [h] <;> rfl
@[go_sem] theorem lenTag_slv (nl full : Bool) (l : List α) : lenTag 1 (slv nl full l) = true := by
  rcases slv_cases nl full l with ⟨h, -⟩ | h <;> rw [h] <;> rfl
@[go_sem] theorem lenA_slv (h : Heap) (nl full : Bool) (l : List α) : lenA h (slv nl full l) = some l.length := by
  rcases slv_cases nl full l with ⟨h, h', -⟩ | h <;> rw [h]
  · subst h'; rfl
  · rfl
@[go_sem] theorem frz_slv (h : Heap) (b n : Nat) (nl full : Bool) (l : List α) : frz h b n (slv nl full l) = slv nl full l := by
  rcases slv_cases nl full l with ⟨h, -⟩ | h <;> rw [h] <;> cases n <;> rfl
@[go_sem] theorem indexA_slv (e : Nat) (nl full : Bool) (l : List α) (k : IntKind) (i : Int) (h0 : 0 ≤ i) (h1 : i < l.length) : indexA none e (slv nl full l) (.int k i) = if sz α = e then some (.vptr (cells (l.getD i.toNat default))) else none := by
  obtain ⟨n, rfl⟩ := Int.eq_ofNat_of_zero_le h0
  have hn : n < l.length := by omega
  rcases slv_cases nl full l with ⟨h, h', -⟩ | h
  · subst h'; simp at hn
  · rw [h]
    have e1 : Nat.blt n l.length = true := by rw [nblt]; simpa using hn
    show indexA none e (.sl _ _ _ _) (.int k (Int.ofNat n)) = _
    simp only [indexA, e1, nbeq, Bool.true_and, cellsAtL_in hn, Int.toNat_natCast]
    by_cases he : sz α = e <;> simp only [he, decide_true, decide_false, cond_true, cond_false, if_true, if_false]
def slL (nl full : Bool) (l : List α) (a b : Option Nat) : Option AV := match a, b with
  | some a, some b => if a ≤ b ∧ b ≤ l.length then some (slv (nl && l.isEmpty) (full && decide (b = l.length)) ((l.take b).drop a)) else none
  | _, _ => none
@[go_sem] theorem slL_some (nl full : Bool) (l : List α) (a b : Nat) (h1 : a ≤ b) (h2 : b ≤ l.length) : slL nl full l (some a) (some b) = some (slv (nl && l.isEmpty) (full && decide (b = l.length)) ((l.take b).drop a)) := by simp [slL, h1, h2]
@[go_sem] theorem sliceA_slv (fr : Fr) (e : Nat) (nl full : Bool) (l : List α) (lo hi : Option Opd) (he : (Enc.sz α == e) = true) : sliceA fr (some e) (slv nl full l) lo hi none = slL nl full l (bound fr lo 0) (bound fr hi l.length) := by
  simp only [beq_iff_eq] at he
  rcases slv_cases nl full l with ⟨h, h', h''⟩ | h
  · subst h'; subst h''
    rw [h]
    simp only [sliceA, List.length_nil, slL, List.isEmpty_nil, Bool.and_self]
    cases bound fr lo 0 with
    | none => rfl
    | some a =>
      cases bound fr hi 0 with
      | none => rfl
      | some b =>
        simp only [Option.bind_some, bound, nbeq]
        by_cases h1 : a = 0 <;> by_cases h2 : b = 0
        · subst h1; subst h2; simp; rfl
        · have : ¬ (a ≤ b ∧ b ≤ 0) := by omega
          simp [h1, h2]
        · have : ¬ (a ≤ b ∧ b ≤ 0) := by omega
          simp [h1, h2]
        · have : ¬ (a ≤ b ∧ b ≤ 0) := by omega
          simp [h1, h2]
  · rw [h]
    simp only [sliceA, slL]
    cases bound fr lo 0 with
    | none => rfl
    | some a =>
      cases bound fr hi l.length with
      | none => rfl
      | some b =>
        simp only [Option.bind_some, bound, nble, nbeq, he, decide_true, Bool.and_true, Option.isSome_none, Bool.or_false]
        by_cases h1 : a ≤ b
        · by_cases h2 : b ≤ l.length
          · simp only [h1, h2, Nat.le_refl, decide_true, Bool.and_self, cond_true, and_self, if_true, Option.some.injEq]
            unfold slv
            by_cases h3 : (nl && l.isEmpty) = true
            · exfalso
              unfold slv at h
              rw [h3] at h
              simp at h
            · rw [Bool.not_eq_true] at h3
              rw [h3]
              simp only [Bool.false_and, cond_false, List.length_drop, List.length_take, Nat.min_eq_left h2, he]
              congr 1
              funext i
              rw [nblt]
              by_cases h4 : i < b - a
              · simp only [h4, decide_true, cond_true, cellsAtL, List.getElem?_drop, List.getElem?_take, show a + i < b by omega, if_true]
              · simp only [h4, decide_false, cond_false, cellsAtL, List.getElem?_drop, List.getElem?_take, show ¬ a + i < b by omega, if_false]
          · have : ¬ (a ≤ b ∧ b ≤ l.length) := by omega
            simp [h1, h2]
        · simp [h1]
theorem allN_of {p : Nat → Bool} : ∀ {n : Nat}, (∀ i, i < n → p i = true) → allN p n = true
  | 0, _ => rfl
  | n + 1, h => by rw [allN, h n (by omega), allN_of (fun i hi => h i (by omega))]; rfl
theorem allN_spec' {p : Nat → Bool} : ∀ {n : Nat}, allN p n = true → ∀ i, i < n → p i = true
  | 0, _, i, hi => by omega
  | n + 1, h, i, hi => by
    simp only [allN, Bool.and_eq_true] at h
    by_cases e : i = n
    · subst e; exact h.1
    · exact allN_spec' h.2 i (by omega)
theorem pureV_mono : ∀ {n m : Nat} {v : AV}, n ≤ m → pureV n v = true → pureV m v = true
  | 0, _, _, _, h => by simp [pureV] at h
  | n + 1, 0, _, h, _ => by omega
  | n + 1, m + 1, v, hl, h => by
    have ih : ∀ c, pureV n c = true → pureV m c = true := fun c hc => pureV_mono (by omega) hc
    cases v with
    | sl e k g f =>
      simp only [pureV] at h ⊢
      refine allN_of (fun i hi => ?_)
      have := allN_spec' h i hi
      simp only [List.all_eq_true] at this ⊢
      exact fun c hc => ih c (this c hc)
    | vptr c => simp only [pureV, List.all_eq_true] at h ⊢; exact fun x hx => ih x (h x hx)
    | agg c => simp only [pureV, List.all_eq_true] at h ⊢; exact fun x hx => ih x (h x hx)
    | tup c => simp only [pureV, List.all_eq_true] at h ⊢; exact fun x hx => ih x (h x hx)
    | fn f c => simp only [pureV, List.all_eq_true] at h ⊢; exact fun x hx => ih x (h x hx)
    | iface t x => simp only [pureV] at h ⊢; exact ih x h
    | _ => first | rfl | simp [pureV] at h
theorem pureV_slv (n : Nat) (nl full : Bool) (l : List α) (hn : 1000001 ≤ n) : pureV n (slv nl full l) = true := by
  refine pureV_mono hn ?_
  rcases slv_cases nl full l with ⟨h, -⟩ | h <;> rw [h]
  · rfl
  · show allN (fun i => (cellsAtL l i).all (pureV 1000000)) l.length = true
    refine allN_of (fun i hi => ?_)
    rw [cellsAtL_in hi]
    simp only [List.all_eq_true]
    exact fun c hc => (pur _ c hc).2
@[go_sem] theorem alone1_int (k : IntKind) (n : Int) : pureV big (.int k n) = true := rfl
@[go_sem] theorem alone1_bool (b : Bool) : pureV big (.bool b) = true := rfl
@[go_sem] theorem alone1_strv (b : List UInt8) : pureV big (strv b) = true := rfl
@[go_sem] theorem alone1_slv (nl full : Bool) (l : List α) : pureV big (slv nl full l) = true := pureV_slv _ _ _ _ (by unfold big; omega)
@[go_sem] theorem alone2_int (k : IntKind) (n : Int) : flatV big (.int k n) = true := rfl
@[go_sem] theorem alone2_bool (b : Bool) : flatV big (.bool b) = true := rfl
@[go_sem] theorem alone2_strv (b : List UInt8) : flatV big (strv b) = true := rfl
def RowV (h : Heap) (v : AV) (l : List α) : Prop := (v = .nils ∧ l = []) ∨ ∃ o ep, v = .hs (sz α) o ep 0 l.length false ∧ h.get o = some (.row (sz α) ep (l.flatMap cells))
def rowOf : AV → Option Nat
  | .hs _ o _ _ _ _ => some o
  | _ => none
theorem flatMap_len (l : List α) : (l.flatMap cells).length = l.length * sz α := by
  induction l with
  | nil => simp
  | cons x r ih => simp only [List.flatMap_cons, List.length_append, ih, Enc.len, List.length_cons, Nat.add_mul, Nat.one_mul]; omega
theorem takeN_all : ∀ (l : List AV), takeN l.length l = some l
  | [] => rfl
  | x :: r => by simp only [List.length_cons, takeN_succ, takeN_all r, Option.bind_some]
theorem dropN_app : ∀ (a b : List AV), dropN a.length (a ++ b) = some b
  | [], b => by simp [dropN_zero]
  | x :: a, b => by simp only [List.length_cons, List.cons_append, dropN_succ, dropN_app a b]
theorem takeN_app : ∀ (a b : List AV), takeN a.length (a ++ b) = some a
  | [], b => by simp [takeN_zero]
  | x :: a, b => by simp only [List.length_cons, List.cons_append, takeN_succ, takeN_app a b, Option.bind_some]
theorem over_app : ∀ (a b v : List AV), over (a ++ b) a.length v = (over0 b v).bind fun r => some (a ++ r)
  | [], b, v => by simp only [List.nil_append, List.length_nil, over_zero]; cases over0 b v <;> rfl
  | x :: a, b, v => by
    simp only [List.length_cons, List.cons_append, over_succ, over_app a b v]
    cases over0 b v <;> rfl
def Adds (h : Heap) (y : AV) (new : List α) : Prop := lenA h y = some new.length ∧ cellsAt h (sz α) y new.length = some (new.flatMap cells)
theorem gather_cells (l : List α) : ∀ (n i : Nat), i + n ≤ l.length → gather (cellsAtL l) i n = ((l.drop i).take n).flatMap cells
  | 0, i, _ => by simp [gather]
  | n + 1, i, h => by
    have hi : i < l.length := by omega
    rw [gather, gather_cells l n (i + 1) (by omega), List.drop_eq_getElem_cons hi, List.take_succ_cons, List.flatMap_cons]
    simp only [cellsAtL, List.getElem?_eq_getElem hi]
theorem adds_slv (h : Heap) (nl full : Bool) (l : List α) : Adds h (slv nl full l) l := by
  refine ⟨lenA_slv h nl full l, ?_⟩
  rcases slv_cases nl full l with ⟨e, h', -⟩ | e <;> rw [e]
  · subst h'; rfl
  · simp only [cellsAt, nble, nbeq, Nat.le_refl, decide_true, Bool.and_self, cond_true]
    rw [gather_cells l _ 0 (by omega)]; simp
theorem app_row {s : St} {o' e bytes : Nat} {v y : AV} {l new : List α} (hr : RowV s.h v l) (hy : Adds s.h y new) (he : sz α = e) (hb : (l.length + new.length) * bytes ≤ two47) :
    ∃ v' h', appA s o' e bytes v y = some (v', { s with h := h' }) ∧ RowV h' v' (l ++ new) ∧ h'.next = s.h.next ∧ (rowOf v' = rowOf v ∨ rowOf v' = some o') ∧ ∀ q, q ≠ o' → rowOf v ≠ some q → h'.get q = s.h.get q := by
  subst he
  obtain ⟨h1, h2⟩ := hy
  unfold appA
  rw [h1]
  simp only [Option.bind_some, h2]
  by_cases hn : new.length = 0
  · have hnew : new = [] := List.length_eq_zero_iff.1 hn
    subst hnew
    simp only [List.length_nil, nbeq, decide_true, cond_true]
    have hs : isSl v = true := by rcases hr with ⟨rfl, -⟩ | ⟨o, ep, rfl, -⟩ <;> rfl
    rw [hs]
    exact ⟨v, s.h, rfl, by simpa using hr, rfl, Or.inl rfl, fun q _ _ => rfl⟩
  · simp only [nbeq, hn, decide_false, cond_false]
    rcases hr with ⟨rfl, rfl⟩ | ⟨o, ep, rfl, hg⟩
    · simp only [List.length_nil, Nat.zero_add] at hb
      simp only [nble, hb, decide_true, cond_true, newRowA, List.nil_append]
      refine ⟨_, _, rfl, Or.inr ⟨o', 0, rfl, get_put_same _ _ _⟩, rfl, Or.inr rfl, fun q hq _ => get_put_ne _ _ _ _ hq⟩
    · simp only [hg, nbeq, nble, hb, decide_true, Bool.and_self, cond_true, cond_false, Nat.zero_add]
      have hlen : ¬ (l.length + new.length) * sz α ≤ (l.flatMap cells).length ∨ sz α = 0 := by
        rw [flatMap_len]
        by_cases h0 : sz α = 0
        · exact Or.inr h0
        · left
          rw [Nat.add_mul]
          have : 0 < new.length * sz α := Nat.mul_pos (by omega) (by omega)
          omega
      by_cases hc : (l.length + new.length) * sz α ≤ (l.flatMap cells).length
      · have h0 : sz α = 0 := by
          rcases hlen with h | h
          · exact absurd hc h
          · exact h
        have hx : ∀ x : α, cells x = [] := fun x => List.length_eq_zero_iff.1 (by rw [Enc.len, h0])
        have hf : ∀ l : List α, l.flatMap cells = [] := fun l => by simp [hx]
        simp only [hc, decide_true, cond_true, hf, h0, Nat.mul_zero, over_zero, over0_nil, Option.bind_some]
        refine ⟨_, _, rfl, Or.inr ⟨o, ep, by simp [h0], by rw [get_put_same]; simp [h0, hx]⟩, rfl, Or.inl rfl, fun q _ hq => get_put_ne _ _ _ _ (fun e => hq (by simp [rowOf, e]))⟩
      · simp only [hc, decide_false, cond_false, Nat.zero_mul, sub_eq, dropN_zero, Option.bind_some]
        rw [← flatMap_len, takeN_all]
        simp only [Option.bind_some]
        refine ⟨_, _, rfl, Or.inr ⟨o, ep + 1, by simp, ?_⟩, rfl, Or.inl rfl, fun q _ hq => get_put_ne _ _ _ _ (fun e => hq (by simp [rowOf, e]))⟩
        rw [get_put_same]; simp
theorem step_app {P : Prog} {base : Nat} {K : St → Prop} {fr : Fr} {st : Nat} {h : Heap} {o' e bytes : Nat} {v y : AV} {l new : List α} {d : Option Nat} {r : List AOper} (hr : RowV h v l) (hy : Adds h y new) (he : sz α = e) (hb : (l.length + new.length) * bytes ≤ two47)
    (H : ∀ v' h', RowV h' v' (l ++ new) → h'.next = h.next → (rowOf v' = rowOf v ∨ rowOf v' = some o') → (∀ q, q ≠ o' → rowOf v ≠ some q → h'.get q = h.get q) → WO P base r { fr := setD fr d v', st := st, h := h' } K) :
    stepS P base (appA { fr := fr, st := st, h := h } o' e bytes v y) d r K := by
  obtain ⟨v', h', e1, e2, e3, e4, e5⟩ := app_row (s := { fr := fr, st := st, h := h }) (o' := o') hr hy he hb
  rw [e1]
  exact H v' h' e2 e3 e4 e5
theorem RowV.back {h : Heap} {v : AV} {l : List α} {N : Nat} (hr : RowV h v l) (ho : ∀ o, rowOf v = some o → N ≤ o) (n : Nat) : ∃ nl, frz h N (n + 1) v = slv nl false l := by
  rcases hr with ⟨rfl, rfl⟩ | ⟨o, ep, rfl, hg⟩
  · exact ⟨true, rfl⟩
  · refine ⟨false, ?_⟩
    have h1 : ¬ o < N := by have := ho o rfl; omega
    have h2 : (0 + l.length) * sz α ≤ (l.flatMap cells).length := by rw [flatMap_len]; simp
    simp only [frz, nblt, h1, decide_false, cond_false, hg, nbeq, nble, h2, decide_true, Bool.and_self, cond_true, slv, Bool.false_and]
    congr 1
    funext i
    by_cases hi : i < l.length
    · simp only [hi, decide_true, cond_true, Nat.zero_add]
      have e : ((l.flatMap cells).drop (i * sz α)).take (sz α) = cells l[i] := by
        have h3 : l.flatMap cells = (l.take i).flatMap cells ++ (cells l[i] ++ (l.drop (i + 1)).flatMap cells) := by
          rw [← List.flatMap_cons, ← List.flatMap_append]
          congr 1
          rw [← List.drop_eq_getElem_cons hi, List.take_append_drop]
        have h4 : ((l.take i).flatMap cells).length = i * sz α := by rw [flatMap_len, List.length_take, Nat.min_eq_left (by omega)]
        rw [h3, ← h4, List.drop_left, ← Enc.len l[i], List.take_left]
      rw [e]
      simp only [cellsAtL, List.getElem?_eq_getElem hi]
      have hp : ∀ c ∈ cells l[i], frz h N n c = c := fun c hm => (pur l[i] c hm).1 h N n
      calc (cells l[i]).map (fun x => frz h N n x) = (cells l[i]).map (fun x => x) := List.map_congr_left hp
        _ = cells l[i] := List.map_id' _
    · simp only [hi, decide_false, cond_false, cellsAtL, List.getElem?_eq_none (Nat.le_of_not_lt hi)]
end Go.Am
/- The document's types as plain data. Own work. -/
namespace Go.Am
instance encU8 : Enc UInt8 where
  sz := 1
  cells b := [.int .u8 (b.toNat : Int)]
  len _ := rfl
  pur b c hc := by
    simp only [List.mem_singleton] at hc
    subst hc
    exact ⟨fun h b n => frz_int h b n _ _, rfl⟩
@[go_sem] theorem sz_U8 : Enc.sz UInt8 = 1 := rfl
@[go_sem] theorem cells_U8 (b : UInt8) : Enc.cells b = [.int .u8 (b.toNat : Int)] := rfl
instance encInt : Enc Int where
  sz := 1
  cells n := [.int .i64 n]
  len _ := rfl
  pur b c hc := by
    simp only [List.mem_singleton] at hc
    subst hc
    exact ⟨fun h b n => frz_int h b n _ _, rfl⟩
@[go_sem] theorem sz_Int : Enc.sz Int = 1 := rfl
@[go_sem] theorem cells_Int (n : Int) : Enc.cells n = [.int .i64 n] := rfl
structure Edit where
  f : Int
  t : Int
  x : List UInt8
  deriving Inhabited
instance encEdit : Enc Edit where
  sz := 3
  cells e := [.int .i64 e.f, .int .i64 e.t, strv e.x]
  len _ := rfl
  pur e c hc := by
    simp only [List.mem_cons, List.not_mem_nil, or_false] at hc
    rcases hc with rfl | rfl | rfl
    · exact ⟨fun h b n => frz_int h b n _ _, rfl⟩
    · exact ⟨fun h b n => frz_int h b n _ _, rfl⟩
    · exact ⟨fun h b n => frz_strv h b n _, rfl⟩
@[go_sem] theorem sz_Edit : Enc.sz Edit = 3 := rfl
@[go_sem] theorem cells_Edit (e : Edit) : Enc.cells e = [.int .i64 e.f, .int .i64 e.t, strv e.x] := rfl
theorem slv_inj {α : Type} [Enc α] (hi : ∀ x y : α, Enc.cells x = Enc.cells y → x = y) {n f n' f' : Bool} {l l' : List α} (h : slv n f l = slv n' f' l') : l = l' := by
  rcases slv_cases n f l with ⟨e, h1, -⟩ | e <;> rcases slv_cases n' f' l' with ⟨e', h2, -⟩ | e' <;> rw [e, e'] at h
  · rw [h1, h2]
  · cases h
  · cases h
  · simp only [AV.sl.injEq] at h
    obtain ⟨-, h3, h4, -⟩ := h
    refine List.ext_getElem h3 (fun i hi1 hi2 => hi _ _ ?_)
    have := congrFun h4 i
    simpa only [cellsAtL, List.getElem?_eq_getElem hi1, List.getElem?_eq_getElem hi2] using this
theorem u8_inj (x y : UInt8) (h : Enc.cells x = Enc.cells y) : x = y := by
  simp only [cells_U8, List.cons.injEq, AV.int.injEq, and_true, true_and] at h
  exact UInt8.toNat_inj.1 (by exact_mod_cast h)
@[go_sem] theorem sliceA_u8 (fr : Fr) (nl full : Bool) (l : List UInt8) (lo hi : Option Opd) : sliceA fr (some 1) (slv nl full l) lo hi none = slL nl full l (bound fr lo 0) (bound fr hi l.length) := sliceA_slv fr 1 nl full l lo hi rfl
@[go_sem] theorem sliceA_edit (fr : Fr) (nl full : Bool) (l : List Edit) (lo hi : Option Opd) : sliceA fr (some 3) (slv nl full l) lo hi none = slL nl full l (bound fr lo 0) (bound fr hi l.length) := sliceA_slv fr 3 nl full l lo hi rfl
end Go.Am
/- From what a law's arguments read as to the abstract machine's values; from a law that says yes to its row. Own work. -/
namespace Go.Am
open Go.ChangeShapes Go.WideShapes Go.ChangeAt Go.RowKit
section
variable {H : Type} {enc : TypeId × Value → H} {P : Program}
theorem trodAll_below (hl : laidOutB P = true) {W W' : World} (hb : Below W.heap.size W W') : ∀ {ts : List TypeId} {vs : List Value} {ds : List (DataW H)} {p : List MemPlace}, (∀ t ∈ ts, P.readableRec t = true ∧ t < P.types.size) →
    DataW.TrodAll enc P W 0 (fun _ => true) true ts vs ds p → (∀ x ∈ p, x.block < W.heap.size) → DataW.TrodAll enc P W' 0 (fun b => decide (b < W.heap.size)) true ts vs ds p
  | [], vs, ds, p, _, h, _ => by
    obtain ⟨rfl, rfl, rfl⟩ := trodAll_nil h
    exact trodAll_mk0
  | t :: ts, vs, ds, p, hr, h, hlt => by
    obtain ⟨v, vs', d, ds', a, b, rfl, rfl, rfl, h1, h2⟩ := trodAll_cons h
    exact trodAll_cons_mk (Below.trod hl (hr t (by simp)).1 (hr t (by simp)).2 h1 hb (fun x hx => hlt x (by simp [hx]))) (trodAll_below hl hb (fun t ht => hr t (by simp [ht])) h2 (fun x hx => hlt x (by simp [hx])))
theorem law_post (hl : laidOutB P = true) {f : Func} {s : ChangeSpec} {fresh handsOn : Bool} {W W' : World} {args : Array Value} {ds gs : List (DataW H)} {before : List MemPlace} {tb : TypeId} (hvars : s.vars = []) (hrt : f.resultTypes = #[tb]) (htb : P.underlying tb = some .bool)
    (hpar : ∀ t ∈ f.params.toList, P.readableRec t = true ∧ t < P.types.size) (hspec : s.fn H (ds ++ gs) = { results := [.lit (.bool true)], args := ds })
    (hW : DataW.Whole enc P f.params.toList s.vars false W args.toList ds gs before) (hb : Below W.heap.size W W') : s.post enc P f false fresh handsOn false W args (.bool true) W' := by
  have hlt := hW.lt
  obtain ⟨p, q, hA, hV, hp, hz, hn⟩ := id hW
  rw [hvars] at hV
  obtain ⟨rfl, rfl⟩ := trodVars_none hV
  rw [List.append_nil] at hp
  subst hp
  refine ⟨ds, [], before, [], before, [], hW, ?_, ?_, ?_, hb.frame _, fun h => by cases h⟩
  · rw [hspec, hrt]
    exact trodAll_cons_mk (shut_bool htb true) trodAll_mk0
  · rw [hspec]
    exact trodAll_below hl hb hpar hA hlt
  · rw [hspec, hvars]
    rfl
end
section
variable {H : Type}
def someE (es : List (List AV)) (i : Nat) : List AV := match es[i]? with
  | some c => c
  | none => []
def offsOk (P : Program) (acc n : Nat) : List Field → Bool
  | [] => Nat.beq acc n
  | f :: r => Nat.beq f.offset acc && offsOk P (acc + P.cellsOf f.type) n r
theorem offs_flat {P : Program} {n : Nat} {cs : List Value} (hl : cs.length = n) : ∀ {fs : List Field} {acc : Nat}, offsOk P acc n fs = true → (fs.map fun f => (cs.drop f.offset).take (P.cellsOf f.type)).flatten = cs.drop acc
  | [], acc, h => by
    simp only [offsOk, nbeq, decide_eq_true_eq] at h
    subst h
    simp [hl]
  | f :: r, acc, h => by
    simp only [offsOk, Bool.and_eq_true, nbeq, decide_eq_true_eq] at h
    simp only [List.map_cons, List.flatten_cons, offs_flat hl h.2, h.1]
    rw [← List.drop_drop, List.take_append_drop]
def avOf (P : Program) : Nat → TypeId → DataW H → Option (List AV)
  | 0, _, _ => none
  | f + 1, t, d => match P.underlying t, d with
    | some .bool, .lit (.bool b) => some [.bool b]
    | some (.int k), .lit (.int k' n) => if k' = k then some [.int k n] else none
    | some .string, .lit (.string s) => some [.str (s.map UInt8.toNat)]
    | some (.slice _), .nil => some [.nils]
    | some (.slice e), .slice elems _ => if P.cellsOf e = 0 then none else (elems.mapM (avOf P f e)).map fun es => [.sl (P.cellsOf e) elems.length (someE es) false]
    | some (.struct fs), .agg parts => if parts.length = fs.size ∧ offsOk P 0 (P.cellsOf t) fs.toList = true then ((fs.toList.zip parts).mapM fun x => avOf P f x.1.type x.2).map fun es => es.flatten else none
    | _, _ => none
theorem mapM_two {α β : Type} {f : α → Option β} : ∀ {l : List α} {r : List β}, l.mapM f = some r → r.length = l.length ∧ ∀ (i : Nat) (a : α) (b : β), l[i]? = some a → r[i]? = some b → f a = some b
  | [], r, h => by
    simp only [List.mapM_nil, Option.pure_def, Option.some.injEq] at h
    subst h
    exact ⟨rfl, fun i a b ha => by simp at ha⟩
  | x :: l, r, h => by
    simp only [List.mapM_cons, Option.pure_def, Option.bind_eq_bind, Option.bind_eq_some_iff, Option.some.injEq] at h
    obtain ⟨y, hy, ys, hys, rfl⟩ := h
    obtain ⟨h1, h2⟩ := mapM_two hys
    refine ⟨by simp [h1], fun i a b ha hb => ?_⟩
    cases i with
    | zero =>
      simp only [List.getElem?_cons_zero, Option.some.injEq] at ha hb
      subst ha; subst hb; exact hy
    | succ i => exact h2 i a b (by simpa using ha) (by simpa using hb)
variable {L : Link}
def CellsVR (L : Link) (W : World) (as : List AV) (cs : List Value) : Prop :=
  as.length = cs.length ∧ ∀ (i : Nat) (a : AV) (c : Value), as[i]? = some a → cs[i]? = some c → c.oneCell' = true ∧ VR L (gh0 W) W a c
theorem CellsVR.append {W : World} {as bs : List AV} {cs es : List Value} (h : CellsVR L W as cs) (h' : CellsVR L W bs es) : CellsVR L W (as ++ bs) (cs ++ es) := by
  refine ⟨by simp [h.1, h'.1], fun i a c ha hc => ?_⟩
  rw [List.getElem?_append] at ha hc
  rw [← h.1] at hc
  split at ha
  · rename_i hi; rw [if_pos hi] at hc; exact h.2 i a c ha hc
  · rename_i hi; rw [if_neg hi] at hc; exact h'.2 _ a c ha hc
theorem CellsVR.one {W : World} {a : AV} {c : Value} (h1 : c.oneCell' = true) (h : VR L (gh0 W) W a c) : CellsVR L W [a] [c] := by
  refine ⟨rfl, fun i x y hx hy => ?_⟩
  cases i with
  | zero =>
    simp only [List.getElem?_cons_zero, Option.some.injEq] at hx hy
    subst hx; subst hy; exact ⟨h1, h⟩
  | succ i => simp at hx
theorem CellsVR.flatten {W : World} : ∀ {es : List (List AV)} {css : List (List Value)}, es.length = css.length → (∀ (i : Nat) (a : List AV) (c : List Value), es[i]? = some a → css[i]? = some c → CellsVR L W a c) → CellsVR L W es.flatten css.flatten
  | [], [], _, _ => ⟨rfl, fun i a c ha => by simp at ha⟩
  | a :: es, c :: css, hl, h => by
    simp only [List.flatten_cons]
    refine (h 0 a c rfl rfl).append (CellsVR.flatten (by simpa using hl) (fun i x y hx hy => h (i + 1) x y (by simpa using hx) (by simpa using hy)))
  | [], _ :: _, hl, _ => by simp at hl
  | _ :: _, [], hl, _ => by simp at hl
theorem trod_vr {enc : TypeId × Value → H} {W : World} {spare : Nat → Bool} {held : Bool} : ∀ (f : Nat) (t : TypeId) (cs : List Value) (d : DataW H) (ps : List MemPlace) (as : List AV),
    DataW.trod enc L.P W 0 spare held f t cs = some (d, ps) → avOf L.P f t d = some as → CellsVR L W as cs
  | 0, t, cs, d, ps, as, h, _ => by simp [DataW.trod] at h
  | f + 1, t, cs, d, ps, as, h, ha => by
    have ih := trod_vr (enc := enc) (W := W) (spare := spare) (held := held) f
    unfold DataW.trod at h
    unfold avOf at ha
    split at h
    · -- bool
      rename_i b hu
      simp only [Option.some.injEq, Prod.mk.injEq] at h
      obtain ⟨rfl, -⟩ := h
      simp only [hu, Option.some.injEq] at ha
      subst ha
      exact .one rfl (.bool b)
    · -- int
      rename_i k k' n hu
      split at h
      · rename_i hk
        obtain ⟨rfl, -⟩ := hk
        simp only [Option.some.injEq, Prod.mk.injEq] at h
        obtain ⟨rfl, -⟩ := h
        simp only [hu, if_true, Option.some.injEq] at ha
        subst ha
        exact .one rfl (.int _ n)
      · simp at h
    · -- float
      rename_i hu
      split at h
      · simp only [Option.some.injEq, Prod.mk.injEq] at h
        obtain ⟨rfl, -⟩ := h
        simp [hu] at ha
      · simp at h
    · -- string
      rename_i s hu
      split at h
      · simp only [Option.some.injEq, Prod.mk.injEq] at h
        obtain ⟨rfl, -⟩ := h
        simp only [hu, Option.some.injEq] at ha
        subst ha
        exact .one rfl (.str s)
      · simp at h
    · -- a pointer
      rename_i hu
      simp only [Option.some.injEq, Prod.mk.injEq] at h
      obtain ⟨rfl, -⟩ := h
      simp [hu] at ha
    · rename_i hu
      simp only [Option.map_eq_some_iff] at h
      obtain ⟨x, -, h⟩ := h
      obtain ⟨rfl, -⟩ := Prod.mk.inj h
      simp [hu] at ha
    · -- a nil slice
      rename_i hu
      simp only [Option.some.injEq, Prod.mk.injEq] at h
      obtain ⟨rfl, -⟩ := h
      simp only [hu, Option.some.injEq] at ha
      subst ha
      exact .one rfl .nils
    · -- a slice
      rename_i e a len cap hu
      simp only at h
      split at h
      · rename_i hc
        obtain ⟨-, hlc, hcm⟩ := hc
        simp only [Option.bind_eq_some_iff, Option.map_eq_some_iff] at h
        obtain ⟨elems, hel, rest, -, h⟩ := h
        obtain ⟨rfl, -⟩ := Prod.mk.inj h
        simp only [hu] at ha
        split at ha
        · simp at ha
        rename_i hz
        simp only [Option.map_eq_some_iff] at ha
        obtain ⟨es, hes, rfl⟩ := ha
        obtain ⟨hl1, hl2⟩ := mapM_two hel
        obtain ⟨hl3, hl4⟩ := mapM_two hes
        rw [List.length_range] at hl1
        rw [List.length_map] at hl3 ⊢
        refine .one rfl ?_
        have hex : ∀ i, i < len → ∃ csi : List Value, csi.length = L.P.cellsOf e ∧ (∀ j, j < L.P.cellsOf e → W.cell? ((a.add (i * L.P.cellsOf e)).add j) = csi[j]?) ∧ CellsVR L W (someE es i) csi := fun i hi => by
          have h1 := hl2 i i elems[i] (by simp [hi]) (List.getElem?_eq_getElem (by omega))
          simp only [Option.bind_eq_some_iff] at h1
          obtain ⟨csi, h2, h3⟩ := h1
          obtain ⟨-, h4, h5⟩ := World.cells?_some h2
          have h6 : es[i]? = some es[i] := List.getElem?_eq_getElem (by omega)
          have h7 := hl4 i elems[i].1 es[i] (by simp [show i < elems.length by omega]) h6
          refine ⟨csi, h4, h5, ?_⟩
          rw [show someE es i = es[i] by simp only [someE, h6]]
          exact ih e csi elems[i].1 elems[i].2 es[i] h3 h7
        by_cases h0 : len = 0
        · subst h0
          rw [hl1]
          exact .sl0 _ _ _ (some a) cap (by simp) (by simp)
        · · obtain ⟨cs0, z1, z2, -⟩ := hex 0 (by omega)
            have z3 := z2 0 (by omega)
            rw [Nat.zero_mul] at z3
            have z4 : (a.add 0).add 0 = a := by simp [Addr.add]
            rw [z4, List.getElem?_eq_getElem (by omega)] at z3
            obtain ⟨xb, xo, xs⟩ := a
            have hxs : xs = none ∧ xb < W.heap.size := by
              unfold World.cell? at z3
              simp only at z3
              split at z3
              · rename_i c q1 q2 hq
                refine ⟨?_, (Array.getElem?_eq_some_iff.1 hq).1⟩
                cases xs with
                | none => rfl
                | some y => simp at z3
              · simp at z3
            obtain ⟨rfl, hb⟩ := hxs
            rw [hl1]
            have hcell : ∀ i j x, i < len → (someE es i)[j]? = some x → ∃ u, W.cell? ⟨xb, xo + i * L.P.cellsOf e + j, none⟩ = some u ∧ u.oneCell' = true ∧ VR L (gh0 W) W x u := fun i j x hi hx => by
              obtain ⟨csi, y1, y2, y3⟩ := hex i hi
              have hj : j < L.P.cellsOf e := by
                have := (List.getElem?_eq_some_iff.1 hx).1
                rw [y3.1, y1] at this; exact this
              have y4 := y2 j hj
              rw [addr_add, addr_add, List.getElem?_eq_getElem (by omega)] at y4
              obtain ⟨y5, y6⟩ := y3.2 j x csi[j] hx (List.getElem?_eq_getElem (by omega))
              exact ⟨csi[j], y4, y5, y6⟩
            refine VR.sl (L.P.cellsOf e) len (someE es) false xb xo cap (fun i j => (W.cell? ⟨xb, xo + i * L.P.cellsOf e + j, none⟩).getD undef) ?_ hlc (by simp) (fun i hi => ?_) (fun i j x hi hx => ?_) (fun i j x hi hx => ?_)
            · simp only [gh0, if_pos hb]
            · obtain ⟨csi, y1, y2, y3⟩ := hex i hi
              rw [y3.1, y1]
            · obtain ⟨u, u1, u2, u3⟩ := hcell i j x hi hx
              simp only [u1, Option.getD_some]
              exact ⟨trivial, u2⟩
            · obtain ⟨u, u1, u2, u3⟩ := hcell i j x hi hx
              simp only [u1, Option.getD_some]
              exact u3
      · simp at h
    · -- a struct
      rename_i fs hu
      split at h
      · rename_i hlen
        simp only [Option.map_eq_some_iff] at h
        obtain ⟨xs, hxs, h⟩ := h
        obtain ⟨rfl, -⟩ := Prod.mk.inj h
        simp only [hu] at ha
        split at ha
        · rename_i hpl
          simp only [Option.map_eq_some_iff] at ha
          obtain ⟨es, hes, rfl⟩ := ha
          have hfl := offs_flat hlen hpl.2
          rw [List.drop_zero] at hfl
          rw [← hfl]
          obtain ⟨hl1, hl2⟩ := mapM_two hxs
          obtain ⟨hl3, hl4⟩ := mapM_two hes
          rw [List.length_zip, List.length_map, hl1, Nat.min_self] at hl3
          refine .flatten (by rw [hl3, List.length_map]) (fun i a c ha hc => ?_)
          rw [List.getElem?_map, Option.map_eq_some_iff] at hc
          obtain ⟨fd, hfd, rfl⟩ := hc
          have hi : i < fs.toList.length := (List.getElem?_eq_some_iff.1 hfd).1
          have h1 := hl2 i fd xs[i] hfd (List.getElem?_eq_getElem (by omega))
          refine ih fd.type _ xs[i].1 xs[i].2 a h1 (hl4 i (fd, xs[i].1) a ?_ ha)
          rw [List.getElem?_zip_eq_some]
          exact ⟨hfd, by rw [List.getElem?_map, List.getElem?_eq_getElem (show i < xs.length by omega)]; rfl⟩
        · simp at ha
      · simp at h
    all_goals first | (simp at h; done) | (exfalso; rename_i hu; simp [hu] at ha; done) | (exfalso; rename_i hu _; simp [hu] at ha; done) | (exfalso; rename_i hu _ _; simp [hu] at ha; done) | skip
end
end Go.Am
/- What a law's arguments read as, as plain data. Own work. -/
namespace Go.Am
open Go.ChangeShapes Go.WideShapes Go.ChangeAt Go.RowKit
variable {H : Type} {enc : TypeId × Value → H} {P : Program} {W : World} {spare : Nat → Bool} {held : Bool}
def ReadsAs (enc : TypeId × Value → H) (P : Program) (W : World) (spare : Nat → Bool) (held : Bool) (t : TypeId) {α : Type} (cells : α → List AV) (wf : α → Prop) (f : Nat) : Prop :=
  ∀ (cs : List Value) (d : DataW H) (ps : List MemPlace), DataW.trod enc P W 0 spare held f t cs = some (d, ps) → ∃ x : α, avOf P f t d = some (cells x) ∧ wf x
theorem reads_int {t : TypeId} {k : IntKind} (hu : P.underlying t = some (.int k)) (f : Nat) : ReadsAs enc P W spare held t (fun n : Int => [.int k n]) (fun n => k.min ≤ n ∧ n ≤ k.max) f := by
  intro cs d ps h
  cases f with
  | zero => simp [DataW.trod] at h
  | succ f =>
    unfold DataW.trod at h
    rw [hu] at h
    split at h
    all_goals first | (exfalso; simp at h; done) | skip
    all_goals (rename_i hu'; first | (exfalso; simp at hu'; done) | skip)
    simp only [Option.some.injEq, TypeDesc.int.injEq] at hu'
    obtain rfl := hu'
    split at h
    · rename_i hk
      obtain ⟨rfl, hw⟩ := hk
      simp only [Option.some.injEq, Prod.mk.injEq] at h
      obtain ⟨rfl, -⟩ := h
      rename_i n
      refine ⟨n, by simp [avOf, hu], by simpa [Lit.wf] using hw⟩
    · simp at h
theorem reads_str {t : TypeId} (hu : P.underlying t = some .string) (f : Nat) : ReadsAs enc P W spare held t (fun s : List UInt8 => [strv s]) (fun s => s.length ≤ 9223372036854775807) f := by
  intro cs d ps h
  cases f with
  | zero => simp [DataW.trod] at h
  | succ f =>
    unfold DataW.trod at h
    rw [hu] at h
    split at h
    all_goals first | (exfalso; simp at h; done) | skip
    all_goals (rename_i hu'; first | (exfalso; simp at hu'; done) | skip)
    split at h
    · rename_i hs
      simp only [Option.some.injEq, Prod.mk.injEq] at h
      obtain ⟨rfl, -⟩ := h
      rename_i s
      refine ⟨s.data.toList, by simp [avOf, hu, strv], ?_⟩
      have : s.size = s.data.toList.length := by rw [Array.length_toList]; rfl
      simp only [maxLen] at hs
      omega
    · simp at h
theorem mapM_exists {α β : Type} {f : α → Option β} : ∀ {l : List α}, (∀ x ∈ l, ∃ y, f x = some y) → ∃ r, l.mapM f = some r
  | [], _ => ⟨[], rfl⟩
  | x :: l, h => by
    obtain ⟨y, hy⟩ := h x (by simp)
    obtain ⟨r, hr⟩ := mapM_exists (l := l) (fun z hz => h z (by simp [hz]))
    exact ⟨y :: r, by simp [hy, hr]⟩
theorem reads_slice {t e : TypeId} {α : Type} [Enc α] {wf : α → Prop} (hu : P.underlying t = some (.slice e)) (hc : P.cellsOf e = Enc.sz α) (hz : Enc.sz α ≠ 0) {f : Nat} (he : ReadsAs enc P W spare held e (Enc.cells (α := α)) wf f) :
    ReadsAs enc P W spare held t (fun x : Bool × List α => [slv x.1 false x.2]) (fun x => x.2.length ≤ 9223372036854775807 ∧ ∀ y ∈ x.2, wf y) (f + 1) := by
  intro cs d ps h
  unfold DataW.trod at h
  rw [hu] at h
  split at h
  all_goals first | (exfalso; simp at h; done) | skip
  all_goals (rename_i hu'; first | (exfalso; simp at hu'; done) | skip)
  · simp only [Option.some.injEq, Prod.mk.injEq] at h
    obtain ⟨rfl, -⟩ := h
    exact ⟨(true, []), by simp [avOf, hu, slv], by simp, by simp⟩
  · simp only [Option.some.injEq, TypeDesc.slice.injEq] at hu'
    obtain rfl := hu'
    simp only at h
    split at h
    · rename_i hcap
      obtain ⟨-, hlc, hcm⟩ := hcap
      simp only [Option.bind_eq_some_iff, Option.map_eq_some_iff] at h
      obtain ⟨elems, hel, rest, -, h⟩ := h
      obtain ⟨rfl, -⟩ := Prod.mk.inj h
      obtain ⟨hl1, hl2⟩ := mapM_two hel
      rw [List.length_range] at hl1
      have hex : ∀ i : Nat, ∃ x : α, ∀ y, elems[i]? = some y → avOf P f e y.1 = some (Enc.cells x) ∧ wf x := fun i => by
        by_cases hi : i < elems.length
        · have h1 := hl2 i i elems[i] (by rw [List.getElem?_range (by omega)]) (List.getElem?_eq_getElem hi)
          simp only [Option.bind_eq_some_iff] at h1
          obtain ⟨csi, h2, h3⟩ := h1
          obtain ⟨x, hx1, hx2⟩ := he csi elems[i].1 elems[i].2 h3
          refine ⟨x, fun y hy => ?_⟩
          rw [List.getElem?_eq_getElem hi] at hy
          obtain rfl := Option.some.inj hy
          exact ⟨hx1, hx2⟩
        · exact ⟨default, fun y hy => by rw [List.getElem?_eq_none (by omega)] at hy; simp at hy⟩
      obtain ⟨c, hcs⟩ := Classical.skolem.1 hex
      obtain ⟨xs, rfl⟩ : ∃ xs : List α, xs = (List.range elems.length).map c := ⟨_, rfl⟩
      have hxs : ∀ i (hi : i < elems.length), ((List.range elems.length).map c)[i]? = some (c i) := fun i hi => by simp [hi]
      have hxl : ((List.range elems.length).map c).length = elems.length := by simp
      generalize (List.range elems.length).map c = xs at hxs hxl
      have hm : (elems.map (·.1)).mapM (avOf P f e) = some (xs.map Enc.cells) := by
        obtain ⟨r, hr⟩ := mapM_exists (f := avOf P f e) (l := elems.map (·.1)) (fun y hy => by
          obtain ⟨z, hz, rfl⟩ := List.mem_map.1 hy
          obtain ⟨i, hi, rfl⟩ := List.getElem_of_mem hz
          exact ⟨_, (hcs i _ (List.getElem?_eq_getElem hi)).1⟩)
        rw [hr]
        obtain ⟨r1, r2⟩ := mapM_two hr
        rw [List.length_map] at r1
        congr 1
        refine List.ext_getElem? (fun i => ?_)
        by_cases hi : i < elems.length
        · have h3 := r2 i elems[i].1 r[i] (by simp [hi]) (List.getElem?_eq_getElem (by omega))
          rw [(hcs i _ (List.getElem?_eq_getElem hi)).1] at h3
          rw [List.getElem?_eq_getElem (by omega), List.getElem?_map, hxs i hi, ← Option.some.inj h3]; rfl
        · rw [List.getElem?_eq_none (by omega), List.getElem?_eq_none (by simp; omega)]
      refine ⟨(false, xs), ?_, ?_, fun y hy => ?_⟩
      · simp only [avOf, hu, hc, if_neg hz, hm, Option.map_some, Option.some.injEq, slv, Bool.false_and, cond_false, List.length_map, hxl]
        congr 2
        funext i
        simp only [someE, cellsAtL, List.getElem?_map]
        cases xs[i]? <;> rfl
      · simp only [maxLen] at hcm
        simp only [hxl]
        omega
      · obtain ⟨i, hi, rfl⟩ := List.getElem_of_mem hy
        simp only at hi
        have h4 := hxs i (by omega)
        simp only
        rw [List.getElem?_eq_getElem (by omega)] at h4
        rw [Option.some.inj h4]
        exact (hcs i _ (List.getElem?_eq_getElem (by omega))).2
    · simp at h
theorem reads_struct {t : TypeId} {fs : Array Field} (hu : P.underlying t = some (.struct fs)) (ho : offsOk P 0 (P.cellsOf t) fs.toList = true) {f : Nat} {cs : List Value} {d : DataW H} {ps : List MemPlace} (h : DataW.trod enc P W 0 spare held (f + 1) t cs = some (d, ps)) :
    ∃ parts : List (DataW H), d = .agg parts ∧ parts.length = fs.size ∧ (∀ (i : Nat) (fd : Field) (p : DataW H), fs.toList[i]? = some fd → parts[i]? = some p → ∃ c q, DataW.trod enc P W 0 spare held f fd.type c = some (p, q)) ∧
      ∀ es : List (List AV), es.length = fs.size → (∀ (i : Nat) (fd : Field) (p : DataW H) (e : List AV), fs.toList[i]? = some fd → parts[i]? = some p → es[i]? = some e → avOf P f fd.type p = some e) → avOf P (f + 1) t d = some es.flatten := by
  unfold DataW.trod at h
  rw [hu] at h
  simp only at h
  split at h
  · simp only [Option.map_eq_some_iff] at h
    obtain ⟨xs, hxs, h⟩ := h
    obtain ⟨rfl, -⟩ := Prod.mk.inj h
    obtain ⟨hl1, hl2⟩ := mapM_two hxs
    replace hl1 : xs.length = fs.size := by simpa using hl1
    refine ⟨_, rfl, by simp [hl1], fun i fd p h1 h2 => ?_, fun es he hes => ?_⟩
    · rw [List.getElem?_map, Option.map_eq_some_iff] at h2
      obtain ⟨y, hy, rfl⟩ := h2
      exact ⟨_, y.2, hl2 i fd y h1 hy⟩
    · simp only [avOf, hu]
      rw [if_pos ⟨by simp [hl1], ho⟩]
      have : (fs.toList.zip (xs.map (·.1))).mapM (fun x => avOf P f x.1.type x.2) = some es := by
        obtain ⟨r, hr⟩ := mapM_exists (f := fun x : Field × DataW H => avOf P f x.1.type x.2) (l := fs.toList.zip (xs.map (·.1))) (fun y hy => by
          obtain ⟨i, hi, rfl⟩ := List.getElem_of_mem hy
          simp only [List.length_zip, Array.length_toList, List.length_map, hl1, Nat.min_self] at hi
          refine ⟨es[i], hes i _ _ _ ?_ ?_ (List.getElem?_eq_getElem (by omega))⟩
          · simp [List.getElem_zip, show i < fs.size from hi]
          · simp [List.getElem_zip, show i < xs.length by omega])
        rw [hr]
        obtain ⟨r1, r2⟩ := mapM_two hr
        simp only [List.length_zip, Array.length_toList, List.length_map, hl1, Nat.min_self] at r1
        congr 1
        refine List.ext_getElem? (fun i => ?_)
        by_cases hi : i < fs.size
        · have h3 := r2 i (fs.toList[i]'(by simpa using hi), (xs[i]'(by omega)).1) r[i] (by rw [List.getElem?_zip_eq_some]; simp [hi, show i < xs.length by omega]) (List.getElem?_eq_getElem (by omega))
          have h4 := hes i (fs.toList[i]'(by simpa using hi)) (xs[i]'(by omega)).1 (es[i]'(by omega)) (by simp [hi]) (by simp [show i < xs.length by omega]) (List.getElem?_eq_getElem (by omega))
          simp only at h3
          rw [h4] at h3
          rw [List.getElem?_eq_getElem (by omega), List.getElem?_eq_getElem (by omega), Option.some.inj h3]
        · rw [List.getElem?_eq_none (by omega), List.getElem?_eq_none (by omega)]
      rw [this]; rfl
  · simp at h
theorem okWide_one {W : World} {base : Nat} {t : TypeId} {v : Value} (hs : ∀ fs, P.underlying t ≠ some (.struct fs)) (ha : ∀ n e, P.underlying t ≠ some (.array n e)) (h : Value.okWide P W .any base t v) : v.cells = #[v] := by
  have hc : Cell.okWide P W .any base t v := by
    unfold Value.okWide at h
    split at h
    · rename_i fs hu; exact absurd hu (hs fs)
    · rename_i n e hu; exact absurd hu (ha n e)
    · exact h
  cases v <;> first | rfl | skip
  exfalso
  unfold Cell.okWide Cell.ok at hc
  cases hu : P.underlying t with
  | none => rw [hu] at hc; exact hc
  | some d => rw [hu] at hc; cases d <;> exact hc
variable {L : Link}
theorem arg_one {enc : TypeId × Value → H} {t : TypeId} {v : Value} {d : DataW H} {p : List MemPlace} {α : Type} {c : α → AV} {wf : α → Prop} {base : Nat} (h : DataW.Trod enc L.P W 0 spare held t v d p) (hs : ∀ fs, L.P.underlying t ≠ some (.struct fs)) (ha : ∀ n e, L.P.underlying t ≠ some (.array n e)) (hv : Value.okWide L.P W .any base t v)
    (hr : ∀ f, ReadsAs enc L.P W spare held t (fun x : α => [c x]) wf f) : ∃ x : α, VR L (gh0 W) W (c x) v ∧ wf x := by
  obtain ⟨f, h⟩ := h
  obtain ⟨x, h1, h2⟩ := hr f _ _ _ h
  have h3 := trod_vr f t _ d p _ h h1
  rw [okWide_one hs ha hv] at h3
  exact ⟨x, (h3.2 0 (c x) v rfl rfl).2, h2⟩
theorem argsR_nil {g : Gh} : ArgsR L g W [] #[] := ⟨rfl, fun i a v ha => by simp at ha⟩
theorem argsR_cons {g : Gh} {a : AV} {as : List AV} {v : Value} {vs : List Value} (h : VR L g W a v) (hr : ArgsR L g W as vs.toArray) : ArgsR L g W (a :: as) (v :: vs).toArray := by
  refine ⟨by simpa using hr.1, fun i x y hx hy => ?_⟩
  cases i with
  | zero =>
    simp at hx hy
    subst hx; subst hy; exact h
  | succ i => exact hr.2 i x y (by simpa using hx) (by simpa using hy)
theorem reads_zero {t : TypeId} {α : Type} {c : α → List AV} {wf : α → Prop} : ReadsAs enc P W spare held t c wf 0 := fun cs d ps h => by simp [DataW.trod] at h
theorem reads_u8 {t : TypeId} (hu : P.underlying t = some (.int .u8)) (f : Nat) : ReadsAs enc P W spare held t (Enc.cells (α := UInt8)) (fun _ => True) f := by
  intro cs d ps h
  obtain ⟨n, h1, h2, h3⟩ := reads_int hu f cs d ps h
  have h2' : 0 ≤ n := h2
  have h3' : n ≤ 255 := h3
  obtain ⟨m, rfl⟩ := Int.eq_ofNat_of_zero_le h2'
  refine ⟨UInt8.ofNat m, ?_, trivial⟩
  rw [h1, cells_U8]
  have : (UInt8.ofNat m).toNat = m := by
    simp only [UInt8.toNat_ofNat']
    omega
  rw [this]
theorem reads_i64 {t : TypeId} (hu : P.underlying t = some (.int .i64)) (f : Nat) : ReadsAs enc P W spare held t (Enc.cells (α := Int)) (fun n => -9223372036854775808 ≤ n ∧ n ≤ 9223372036854775807) f := reads_int hu f
theorem reads_sl {t e : TypeId} {α : Type} [Enc α] {wf : α → Prop} (hu : P.underlying t = some (.slice e)) (hc : P.cellsOf e = Enc.sz α) (hz : Enc.sz α ≠ 0) (he : ∀ f, ReadsAs enc P W spare held e (Enc.cells (α := α)) wf f) (f : Nat) :
    ReadsAs enc P W spare held t (fun x : Bool × List α => [slv x.1 false x.2]) (fun x => x.2.length ≤ 9223372036854775807 ∧ ∀ y ∈ x.2, wf y) f := by
  cases f with
  | zero => exact reads_zero
  | succ f => exact reads_slice hu hc hz (he f)
theorem struct_two {t : TypeId} {fs : Array Field} {f0 f1 : Field} (hu : P.underlying t = some (.struct fs)) (hfs : fs = #[f0, f1]) (ho : offsOk P 0 (P.cellsOf t) fs.toList = true) {f : Nat} {cs : List Value} {d : DataW H} {ps : List MemPlace} (h : DataW.trod enc P W 0 spare held (f + 1) t cs = some (d, ps)) :
    ∃ p0 p1 c0 c1 q0 q1, DataW.trod enc P W 0 spare held f f0.type c0 = some (p0, q0) ∧ DataW.trod enc P W 0 spare held f f1.type c1 = some (p1, q1) ∧
      ∀ e0 e1, avOf P f f0.type p0 = some e0 → avOf P f f1.type p1 = some e1 → avOf P (f + 1) t d = some (e0 ++ e1) := by
  obtain ⟨parts, rfl, hl, hp, hes⟩ := reads_struct hu ho h
  subst hfs
  match parts, hl with
  | [p0, p1], _ =>
    obtain ⟨c0, q0, h0⟩ := hp 0 f0 p0 rfl rfl
    obtain ⟨c1, q1, h1⟩ := hp 1 f1 p1 rfl rfl
    refine ⟨p0, p1, c0, c1, q0, q1, h0, h1, fun e0 e1 a0 a1 => ?_⟩
    have := hes [e0, e1] rfl (fun i fd p e h1 h2 h3 => by
      match i with
      | 0 => simp at h1 h2 h3; subst h1; subst h2; subst h3; exact a0
      | 1 => simp at h1 h2 h3; subst h1; subst h2; subst h3; exact a1
      | i + 2 => simp at h3)
    simpa using this
end Go.Am
/- The document's types as plain data, second part: slices in structs, files, the disk's acts. Own work. -/
namespace Go.Am
theorem pur_slv {α : Type} [Enc α] (nl full : Bool) (l : List α) (h : ∀ x : α, ∀ c ∈ Enc.cells x, pureV 999999 c = true) : (∀ h b n, frz h b n (slv nl full l) = slv nl full l) ∧ pureV 1000000 (slv nl full l) = true := by
  refine ⟨fun h b n => frz_slv h b n _ _ _, ?_⟩
  rcases slv_cases nl full l with ⟨e, -⟩ | e <;> rw [e]
  · rfl
  · show allN (fun i => (cellsAtL l i).all (pureV 999999)) l.length = true
    refine allN_of (fun i hi => ?_)
    rw [cellsAtL_in hi]
    simp only [List.all_eq_true]
    exact fun c hc => h _ c hc
theorem pur_u8 : ∀ x : UInt8, ∀ c ∈ Enc.cells x, pureV 999999 c = true := fun x c hc => by
  simp only [cells_U8, List.mem_singleton] at hc
  subst hc
  rfl
theorem pur_int : ∀ x : Int, ∀ c ∈ Enc.cells x, pureV 999999 c = true := fun x c hc => by
  simp only [cells_Int, List.mem_singleton] at hc
  subst hc
  rfl
structure FileV where
  name : List UInt8
  nl : Bool
  data : List UInt8
  deriving Inhabited
instance encFile : Enc FileV where
  sz := 2
  cells f := [strv f.name, slv f.nl false f.data]
  len _ := rfl
  pur f c hc := by
    simp only [List.mem_cons, List.not_mem_nil, or_false] at hc
    rcases hc with rfl | rfl
    · exact ⟨fun h b n => frz_strv h b n _, rfl⟩
    · exact pur_slv _ _ _ pur_u8
@[go_sem] theorem sz_File : Enc.sz FileV = 2 := rfl
@[go_sem] theorem cells_File (f : FileV) : Enc.cells f = [strv f.name, slv f.nl false f.data] := rfl
structure DAct where
  kind : Int
  name : List UInt8
  to : List UInt8
  bn : Bool
  b : List UInt8
  n : Int
  e : Int
  kn : Bool
  keep : List Int
  deriving Inhabited
instance encAct : Enc DAct where
  sz := 7
  cells a := [.int .i64 a.kind, strv a.name, strv a.to, slv a.bn false a.b, .int .i64 a.n, .int .i64 a.e, slv a.kn false a.keep]
  len _ := rfl
  pur a c hc := by
    simp only [List.mem_cons, List.not_mem_nil, or_false] at hc
    rcases hc with rfl | rfl | rfl | rfl | rfl | rfl | rfl
    · exact ⟨fun h b n => frz_int h b n _ _, rfl⟩
    · exact ⟨fun h b n => frz_strv h b n _, rfl⟩
    · exact ⟨fun h b n => frz_strv h b n _, rfl⟩
    · exact pur_slv _ _ _ pur_u8
    · exact ⟨fun h b n => frz_int h b n _ _, rfl⟩
    · exact ⟨fun h b n => frz_int h b n _ _, rfl⟩
    · exact pur_slv _ _ _ pur_int
@[go_sem] theorem sz_Act : Enc.sz DAct = 7 := rfl
@[go_sem] theorem cells_Act (a : DAct) : Enc.cells a = [.int .i64 a.kind, strv a.name, strv a.to, slv a.bn false a.b, .int .i64 a.n, .int .i64 a.e, slv a.kn false a.keep] := rfl
section
variable {P : Program} {H : Type} {enc : TypeId × Value → H} {W : World} {spare : Nat → Bool} {held : Bool}
abbrev I64 (n : Int) : Prop := -9223372036854775808 ≤ n ∧ n ≤ 9223372036854775807
abbrev Len (n : Nat) : Prop := n ≤ 9223372036854775807
def FileWf (f : FileV) : Prop := Len f.name.length ∧ Len f.data.length
theorem reads_file {t ts tb tu : TypeId} {fs : Array Field} {f0 f1 : Field} (hu : P.underlying t = some (.struct fs)) (hfs : fs = #[f0, f1]) (ho : offsOk P 0 (P.cellsOf t) fs.toList = true) (h0 : f0.type = ts) (h1 : f1.type = tb)
    (hs : P.underlying ts = some .string) (hb : P.underlying tb = some (.slice tu)) (hub : P.underlying tu = some (.int .u8)) (huc : P.cellsOf tu = 1) (f : Nat) : ReadsAs enc P W spare held t (Enc.cells (α := FileV)) FileWf f := by
  cases f with
  | zero => exact reads_zero
  | succ f =>
    intro cs d ps h
    obtain ⟨p0, p1, c0, c1, q0, q1, g0, g1, g⟩ := struct_two hu hfs ho h
    rw [h0] at g0
    rw [h1] at g1
    obtain ⟨s, a0, b0⟩ := reads_str hs f _ _ _ g0
    obtain ⟨x, a1, b1⟩ := reads_sl (α := UInt8) hb huc (by decide) (reads_u8 hub) f _ _ _ g1
    exact ⟨⟨s, x.1, x.2⟩, g _ _ (by rw [h0]; exact a0) (by rw [h1]; exact a1), b0, b1.1⟩
def ActWf (a : DAct) : Prop := I64 a.kind ∧ Len a.name.length ∧ Len a.to.length ∧ Len a.b.length ∧ I64 a.n ∧ I64 a.e ∧ (Len a.keep.length ∧ ∀ y ∈ a.keep, I64 y)
theorem reads_act {t ti ts tb tu tk te : TypeId} {fs : Array Field} {f0 f1 f2 f3 f4 f5 f6 : Field} (hu : P.underlying t = some (.struct fs)) (hfs : fs = #[f0, f1, f2, f3, f4, f5, f6]) (ho : offsOk P 0 (P.cellsOf t) fs.toList = true)
    (h0 : f0.type = ti) (h1 : f1.type = ts) (h2 : f2.type = ts) (h3 : f3.type = tb) (h4 : f4.type = ti) (h5 : f5.type = te) (h6 : f6.type = tk)
    (hi : P.underlying ti = some (.int .i64)) (he : P.underlying te = some (.int .i64)) (hs : P.underlying ts = some .string) (hb : P.underlying tb = some (.slice tu)) (hub : P.underlying tu = some (.int .u8)) (huc : P.cellsOf tu = 1)
    (hk : P.underlying tk = some (.slice ti)) (hic : P.cellsOf ti = 1) (f : Nat) : ReadsAs enc P W spare held t (Enc.cells (α := DAct)) ActWf f := by
  cases f with
  | zero => exact reads_zero
  | succ f =>
    intro cs d ps h
    obtain ⟨parts, rfl, hl, hp, hes⟩ := reads_struct hu ho h
    subst hfs
    match parts, hl with
    | [p0, p1, p2, p3, p4, p5, p6], _ =>
      obtain ⟨c0, q0, g0⟩ := hp 0 f0 p0 rfl rfl
      obtain ⟨c1, q1, g1⟩ := hp 1 f1 p1 rfl rfl
      obtain ⟨c2, q2, g2⟩ := hp 2 f2 p2 rfl rfl
      obtain ⟨c3, q3, g3⟩ := hp 3 f3 p3 rfl rfl
      obtain ⟨c4, q4, g4⟩ := hp 4 f4 p4 rfl rfl
      obtain ⟨c5, q5, g5⟩ := hp 5 f5 p5 rfl rfl
      obtain ⟨c6, q6, g6⟩ := hp 6 f6 p6 rfl rfl
      rw [h0] at g0
      rw [h1] at g1
      rw [h2] at g2
      rw [h3] at g3
      rw [h4] at g4
      rw [h5] at g5
      rw [h6] at g6
      obtain ⟨n0, a0, b0⟩ := reads_int hi f _ _ _ g0
      obtain ⟨s1, a1, b1⟩ := reads_str hs f _ _ _ g1
      obtain ⟨s2, a2, b2⟩ := reads_str hs f _ _ _ g2
      obtain ⟨x3, a3, b3⟩ := reads_sl (α := UInt8) hb huc (by decide) (reads_u8 hub) f _ _ _ g3
      obtain ⟨n4, a4, b4⟩ := reads_int hi f _ _ _ g4
      obtain ⟨n5, a5, b5⟩ := reads_int he f _ _ _ g5
      obtain ⟨x6, a6, b6⟩ := reads_sl (α := Int) hk hic (by decide) (reads_i64 hi) f _ _ _ g6
      refine ⟨⟨n0, s1, s2, x3.1, x3.2, n4, n5, x6.1, x6.2⟩, ?_, b0, b1, b2, b3.1, b4, b5, b6⟩
      have := hes [[.int .i64 n0], [strv s1], [strv s2], [slv x3.1 false x3.2], [.int .i64 n4], [.int .i64 n5], [slv x6.1 false x6.2]] rfl (fun i fd p e u1 u2 u3 => by
        match i with
        | 0 => simp at u1 u2 u3; subst u1; subst u2; subst u3; rw [h0]; exact a0
        | 1 => simp at u1 u2 u3; subst u1; subst u2; subst u3; rw [h1]; exact a1
        | 2 => simp at u1 u2 u3; subst u1; subst u2; subst u3; rw [h2]; exact a2
        | 3 => simp at u1 u2 u3; subst u1; subst u2; subst u3; rw [h3]; exact a3
        | 4 => simp at u1 u2 u3; subst u1; subst u2; subst u3; rw [h4]; exact a4
        | 5 => simp at u1 u2 u3; subst u1; subst u2; subst u3; rw [h5]; exact a5
        | 6 => simp at u1 u2 u3; subst u1; subst u2; subst u3; rw [h6]; exact a6
        | i + 7 => simp at u3)
      exact this
end
end Go.Am
/- Rows on the heap, cut, read and written: rewriting rules. Own work. -/
namespace Go.Am
open Enc
variable {α : Type} [Enc α] {s : St} {base : Nat} {d : Option Nat}
@[go_sem] theorem lenA_nils (h : Heap) : lenA h .nils = some 0 := rfl
@[go_sem] theorem lenTag_nils : lenTag 1 .nils = true := rfl
@[go_sem] theorem lenA_hs (h : Heap) (e o p q n : Nat) (b : Bool) : lenA h (.hs e o p q n b) = some n := rfl
@[go_sem] theorem lenTag_hs (e o p q n : Nat) (b : Bool) : lenTag 1 (.hs e o p q n b) = true := rfl
theorem eqAV_strv (n : Nat) (a : List UInt8) : eqAV (n + 1) (strv a) (strv a) = true := by
  show eqS _ _ = true
  rw [eqS_strv]; simp
theorem eqAV_int (n : Nat) (k : IntKind) (a : Int) : eqAV (n + 1) (.int k a) (.int k a) = true := by
  show (eqK k k && eqI a a) = true
  rw [eqK_self, eqI_eq]; simp
theorem eqAV_bool (n : Nat) (a : Bool) : eqAV (n + 1) (.bool a) (.bool a) = true := by
  show (a == a) = true
  simp
theorem eqAV_sl (n e k : Nat) (f : Nat → List AV) (u : Bool) : eqAV (n + 1) (.sl e k f u) (.sl e k f u) = true := by
  show (Nat.beq e e && Nat.beq k k && (u == u) && eqF f f) = true
  rw [eqF_self]; simp
theorem eqAV_slv {α : Type} [Enc α] (n : Nat) (nl u : Bool) (l : List α) : eqAV (n + 1) (slv nl u l) (slv nl u l) = true := by
  rcases slv_cases nl u l with ⟨e, -⟩ | e <;> rw [e]
  · rfl
  · exact eqAV_sl _ _ _ _ _
def lookV (o : Option (AV × St)) : Option AV := match o with | some x => some x.1 | none => none
@[go_sem] theorem lookV_some (v : AV) (s : St) : lookV (some (v, s)) = some v := rfl
def lookG (o : Option AV) (b : Bool) (x : Option AV) : Option AV := match o with
  | some (.bool c) => bif c == b then x else some undefA
  | some (.tup _) => some undefA
  | _ => none
@[go_sem] theorem lookG_tt (x : Option AV) : lookG (some (.bool true)) true x = x := rfl
@[go_sem] theorem lookG_ff (x : Option AV) : lookG (some (.bool false)) false x = x := rfl
noncomputable def lookE (n : Nat) (u v : Option AV) : Bool := match v, u with
  | some v, some u => eqAV n u v
  | _, _ => false
@[go_sem] theorem lookE_strv (a : List UInt8) : lookE 40 (some (strv a)) (some (strv a)) = true := eqAV_strv 39 a
@[go_sem] theorem lookE_slv {α : Type} [Enc α] (nl u : Bool) (l : List α) : lookE 40 (some (slv nl u l)) (some (slv nl u l)) = true := eqAV_slv 39 nl u l
@[go_sem] theorem lookE_sl (e k : Nat) (f : Nat → List AV) (u : Bool) : lookE 40 (some (.sl e k f u)) (some (.sl e k f u)) = true := eqAV_sl 39 e k f u
@[go_sem] theorem lookE_nils : lookE 40 (some .nils) (some .nils) = true := rfl
@[go_sem] theorem lookE_int (k : IntKind) (a : Int) : lookE 40 (some (.int k a)) (some (.int k a)) = true := eqAV_int 39 k a
@[go_sem] theorem lookE_bool (a : Bool) : lookE 40 (some (.bool a)) (some (.bool a)) = true := eqAV_bool 39 a
theorem look_plain {base st0 i ix kd : Nat} {op : AOp} {rs ch bf : List Nat} {s : St} : look base st0 ⟨⟨some i, op, none⟩, ix, rs, kd, ch, bf⟩ s = lookV (aop base (some i) op { fr := keep s.fr rs, st := st0, h := s.h }) := by
  simp only [look, wantedA, sees, Option.bind_some, cond_true, lookV]
  cases aop base (some i) op { fr := keep s.fr rs, st := st0, h := s.h } <;> rfl
theorem look_guard {base st0 i ix kd j : Nat} {b : Bool} {op : AOp} {rs ch bf : List Nat} {s : St} : look base st0 ⟨⟨some i, op, some (j, b)⟩, ix, rs, kd, ch, bf⟩ s = lookG (fget (keep s.fr rs) j) b (lookV (aop base (some i) op { fr := keep s.fr rs, st := st0, h := s.h })) := by
  simp only [look, wantedA, sees, lookG]
  cases fget (keep s.fr rs) j with
  | none => rfl
  | some x =>
    cases x with
    | bool c =>
      simp only [Option.bind_some]
      cases (c == b) with
      | false => rfl
      | true =>
        simp only [cond_true]
        cases aop base (some i) op { fr := keep s.fr rs, st := st0, h := s.h } <;> rfl
    | tup cs => rfl
    | _ => rfl
noncomputable def looksI (base st0 : Nat) (s : St) (o : Option DItem) : Bool := match o with
  | some d => (match d.o.dst with | some i => lookE 40 (fget s.fr i) (look base st0 d s) | none => false)
  | none => false
@[go_sem] theorem looks_nil (base st0 : Nat) (all : List DItem) (s : St) : looks base st0 all s [] = true := rfl
@[go_sem] theorem looks_cons (base st0 : Nat) (all : List DItem) (s : St) (p : Nat) (r : List Nat) : looks base st0 all s (p :: r) = (looksI base st0 s (all[p]?) && looks base st0 all s r) := by
  simp only [looks, looksI]
  congr 1
  cases all[p]? with
  | none => rfl
  | some d =>
    simp only
    cases d.o.dst with
    | none => cases look base st0 d s <;> rfl
    | some i =>
      simp only [lookE]
      cases look base st0 d s with
      | none => rfl
      | some v => cases hf : fget s.fr i <;> simp only [hf]
@[go_sem] theorem looksI_plain (base st0 : Nat) (s : St) {i ix kd : Nat} {op : AOp} {rs ch bf : List Nat} : looksI base st0 s (some ⟨⟨some i, op, none⟩, ix, rs, kd, ch, bf⟩) = lookE 40 (fget s.fr i) (lookV (aop base (some i) op { fr := keep s.fr rs, st := st0, h := s.h })) := by
  simp only [looksI, look_plain]
@[go_sem] theorem looksI_guard (base st0 : Nat) (s : St) {i ix kd j : Nat} {b : Bool} {op : AOp} {rs ch bf : List Nat} : looksI base st0 s (some ⟨⟨some i, op, some (j, b)⟩, ix, rs, kd, ch, bf⟩) = lookE 40 (fget s.fr i) (lookG (fget (keep s.fr rs) j) b (lookV (aop base (some i) op { fr := keep s.fr rs, st := st0, h := s.h }))) := by
  simp only [looksI, look_guard]
attribute [go_sem] List.getElem?_cons_zero List.getElem?_cons_succ
@[go_sem] theorem cast_zero' : ((0 : Nat) : Int) = 0 := rfl
attribute [go_sem] Int.cast_ofNat_Int
def slHf (z e o ep off n : Nat) (l h : Option Nat) : Option AV := match l, h with
  | some l, some h => if l ≤ h ∧ h ≤ n then (if e = z then some (.hs e o ep (off + l) (h - l) false) else none) else none
  | _, _ => none
@[go_sem] theorem slHf_some (z e o ep off n l h : Nat) (h1 : l ≤ h) (h2 : h ≤ n) : slHf z e o ep off n (some l) (some h) = if e = z then some (.hs e o ep (off + l) (h - l) false) else none := by simp [slHf, h1, h2]
@[go_sem] theorem sliceA_hs (fr : Fr) (z e o ep off n : Nat) (lo hi : Option Opd) : sliceA fr (some z) (.hs e o ep off n false) lo hi none = slHf z e o ep off n (bound fr lo 0) (bound fr hi n) := by
  simp only [sliceA, slHf]
  cases bound fr lo 0 with
  | none => rfl
  | some a =>
    cases bound fr hi n with
    | none => rfl
    | some b =>
      simp only [Option.bind_some, bound, nble, nbeq, Option.isNone_none, Bool.not_false, Bool.true_and, Bool.or_true, Bool.and_true, Nat.le_refl, decide_true, Option.isSome_none, Bool.or_false, Bool.false_or]
      by_cases h1 : a ≤ b <;> by_cases h2 : b ≤ n <;> by_cases h3 : e = z <;> simp [h1, h2, h3]
@[go_sem] theorem sliceA_nils (fr : Fr) (z : Nat) : sliceA fr (some z) .nils none none none = some .nils := rfl
def slxR (z e o ep off l h : Nat) (r : Option AObj) : Option AV := match r with
  | some (.row _ ep' c) => bif Nat.beq ep' ep && Nat.beq e z && Nat.ble l h && Nat.blt 0 z && Nat.ble ((off + h) * z) c.length then some (.hs e o ep (off + l) (h - l) false) else none
  | _ => none
def slxA (z : Nat) (hp : Heap) (x : Option AV) (l h : Option Nat) : Option AV := match x, l, h with
  | some (.hs e o ep off _ false), some l, some h => slxR z e o ep off l h (hp.get o)
  | _, _, _ => none
@[go_sem] theorem slxA_some (z : Nat) (hp : Heap) (e o ep off n l h : Nat) : slxA z hp (some (.hs e o ep off n false)) (some l) (some h) = slxR z e o ep off l h (hp.get o) := rfl
@[go_sem] theorem W_slicx {z : Nat} {x hi : Opd} {lo : Option Opd} : aop base d (.slicx z x lo hi) s = bindS (slxA z s.h (x.ev s.fr) (bound s.fr lo 0) (bound s.fr (some hi) 0)) s := by
  simp only [aop, slxA]
  cases x.ev s.fr with
  | none => rfl
  | some a =>
    simp only [Option.bind_some]
    cases bound s.fr lo 0 with
    | none => cases a <;> first | rfl | (rename_i b; cases b <;> rfl)
    | some l =>
      simp only [Option.bind_some]
      cases bound s.fr (some hi) 0 with
      | none => cases a <;> first | rfl | (rename_i b; cases b <;> rfl)
      | some h =>
        simp only [Option.bind_some]
        cases a <;> first | rfl | skip
        rename_i e o ep off n full
        cases full with
        | true => rfl
        | false =>
          simp only [slxR]
          cases s.h.get o with
          | none => rfl
          | some r =>
            cases r <;> first | rfl | skip
            rename_i z' ep' c
            simp only
            cases (Nat.beq ep' ep && Nat.beq e z && Nat.ble l h && Nat.blt 0 z && Nat.ble ((off + h) * z) c.length) <;> rfl
@[go_sem] theorem indexA_hs (esz e o ep off n : Nat) (full : Bool) (k : IntKind) (i : Int) (h0 : 0 ≤ i) (h1 : i < n) : indexA none esz (.hs e o ep off n full) (.int k i) = if e = esz then some (.eptr o ep ((off + i.toNat) * esz)) else none := by
  obtain ⟨m, rfl⟩ := Int.eq_ofNat_of_zero_le h0
  have hm : m < n := by omega
  show indexA none esz (.hs e o ep off n full) (.int k (Int.ofNat m)) = _
  simp only [indexA, nblt, nbeq, hm, decide_true, Bool.true_and, Int.toNat_natCast]
  by_cases he : e = esz <;> simp [he]
def rdE (r : Option AObj) (ep k n : Nat) : Option (List AV) := match r with
  | some (.row _ ep' c) => bif Nat.beq ep' ep then sub c k n else none
  | _ => none
@[go_sem] theorem rd_eptr (s : St) (o ep k n : Nat) : rd s (.eptr o ep k) n = rdE (s.h.get o) ep k n := rfl
@[go_sem] theorem rdE_some (z ep k n : Nat) (c : List AV) : rdE (some (.row z ep c)) ep k n = sub c k n := by simp [rdE]
theorem dropN_drop : ∀ (n : Nat) (c : List AV), n ≤ c.length → dropN n c = some (c.drop n)
  | 0, c, _ => by rw [dropN_zero]; rfl
  | n + 1, [], h => by simp at h
  | n + 1, x :: c, h => by rw [dropN_succ, dropN_drop n c (by simpa using h)]; rfl
theorem takeN_take : ∀ (n : Nat) (c : List AV), n ≤ c.length → takeN n c = some (c.take n)
  | 0, c, _ => by rw [takeN_zero]; rfl
  | n + 1, [], h => by simp at h
  | n + 1, x :: c, h => by rw [takeN_succ, takeN_take n c (by simpa using h)]; rfl
theorem sub_take (c : List AV) (off n : Nat) (h : off + n ≤ c.length) : sub c off n = some ((c.drop off).take n) := by
  rw [sub_eq, dropN_drop _ _ (by omega), Option.bind_some, takeN_take _ _ (by rw [List.length_drop]; omega)]
theorem flat_at {l : List α} {i : Nat} (hi : i < l.length) : ∃ a b, l.flatMap cells = a ++ (cells (l.getD i default) ++ b) ∧ a.length = i * sz α := by
  refine ⟨(l.take i).flatMap cells, (l.drop (i + 1)).flatMap cells, ?_, by rw [flatMap_len, List.length_take, Nat.min_eq_left (by omega)]⟩
  have e : l.getD i default = l[i] := by simp [List.getD_eq_getElem?_getD, hi]
  rw [e, ← List.flatMap_cons, ← List.flatMap_append]
  congr 1
  rw [← List.drop_eq_getElem_cons hi, List.take_append_drop]
theorem frz_hs {h : Heap} {o ep off len N n : Nat} {full : Bool} {l : List α} (hg : h.get o = some (.row (sz α) ep (l.flatMap cells))) (hl : off + len ≤ l.length) (hN : N ≤ o) : frz h N (n + 1) (.hs (sz α) o ep off len full) = slv false false ((l.drop off).take len) := by
  have h1 : ¬ o < N := by omega
  have h2 : (off + len) * sz α ≤ (l.flatMap cells).length := by rw [flatMap_len]; exact Nat.mul_le_mul_right _ hl
  have hlen : ((l.drop off).take len).length = len := by rw [List.length_take, List.length_drop]; omega
  simp only [frz, nblt, h1, decide_false, cond_false, hg, nbeq, nble, h2, decide_true, Bool.and_self, cond_true, slv, Bool.false_and, hlen]
  congr 1
  funext i
  by_cases hi : i < len
  · simp only [hi, decide_true, cond_true]
    obtain ⟨a, b, e, ha⟩ := flat_at (l := l) (i := off + i) (by omega)
    rw [e, ← ha, List.drop_left]
    have e2 : ((l.drop off).take len)[i]? = some (l.getD (off + i) default) := by
      rw [List.getElem?_take, if_pos hi, List.getElem?_drop, List.getD_eq_getElem?_getD, List.getElem?_eq_getElem (by omega), Option.getD_some]
    simp only [cellsAtL, e2]
    rw [← Enc.len (l.getD (off + i) default), List.take_left]
    have hp : ∀ c ∈ cells (l.getD (off + i) default), frz h N n c = c := fun c hm => (pur _ c hm).1 h N n
    calc (cells (l.getD (off + i) default)).map (fun x => frz h N n x) = (cells (l.getD (off + i) default)).map (fun x => x) := List.map_congr_left hp
      _ = cells (l.getD (off + i) default) := List.map_id' _
  · simp only [hi, decide_false, cond_false, cellsAtL, List.getElem?_eq_none (show ((l.drop off).take len).length ≤ i by omega)]
theorem byteOf_u8 (b : UInt8) : byteOf (.int .u8 (b.toNat : Int)) = some b.toNat := by
  show (bif Nat.blt b.toNat 256 then some b.toNat else none) = _
  rw [nblt]
  simp [UInt8.toNat_lt b]
theorem bytesOf_cells : ∀ (l : List UInt8), bytesOf (l.flatMap cells) = some (l.map UInt8.toNat)
  | [] => rfl
  | b :: r => by
    simp only [List.flatMap_cons, cells_U8, List.cons_append, List.nil_append, bytesOf, byteOf_u8, bytesOf_cells r, Option.bind_some, List.map_cons]
theorem toStrA_of {h : Heap} {v : AV} {l : List UInt8} (ha : Adds h v l) (hs : ∀ t, v ≠ .str t) : toStrA h v = some (strv l) := by
  obtain ⟨h1, h2⟩ := ha
  have e : toStrA h v = (lenA h v).bind fun n => (cellsAt h 1 v n).bind fun cs => (bytesOf cs).bind fun b => some (.str b) := by
    unfold toStrA
    cases v <;> first | rfl | exact absurd rfl (hs _)
  rw [e, h1, Option.bind_some, show cellsAt h 1 v l.length = some (l.flatMap cells) from h2, Option.bind_some, bytesOf_cells, Option.bind_some]
  rfl
@[go_sem] theorem toStrA_slv (h : Heap) (nl full : Bool) (l : List UInt8) : toStrA h (slv nl full l) = some (strv l) :=
  toStrA_of (adds_slv h nl full l) (fun t => by rcases slv_cases nl full l with ⟨e, -⟩ | e <;> rw [e] <;> simp)
def markR (e o ep off n : Nat) (full : Bool) (r : Option AObj) (s : St) : Option (AV × St) := match r with
  | some (.row z ep' c) => bif Nat.beq ep' ep && Nat.beq ep 0 then some (.hs e o ep off n full, { s with h := s.h.put o (.row z ep' c) }) else none
  | _ => none
def markA (s : St) (x : Option AV) : Option (AV × St) := match x with
  | some (.hs e o ep off n full) => markR e o ep off n full (s.h.get o) s
  | _ => none
@[go_sem] theorem markA_hs (s : St) (e o ep off n : Nat) (full : Bool) : markA s (some (.hs e o ep off n full)) = markR e o ep off n full (s.h.get o) s := rfl
@[go_sem] theorem markR_some (e o off n z : Nat) (full : Bool) (c : List AV) (s : St) : markR e o 0 off n full (some (.row z 0 c)) s = some (.hs e o 0 off n full, { s with h := s.h.put o (.row z 0 c) }) := rfl
@[go_sem] theorem W_mark {x : Opd} : aop base d (.mark x) s = markA s (x.ev s.fr) := by
  simp only [aop, markA]
  cases x.ev s.fr with
  | none => rfl
  | some a =>
    cases a <;> rfl
end Go.Am
/- Drawn regions that write into rows, and that call function values. Own work. -/
namespace Go.Am
variable {P : Prog} {base st0 ix kd : Nat} {all : List DItem} {live rs ch bf : List Nat} {Q : AExit → St → Prop} {s : St} {d : Option Nat} {r : List DItem}
theorem WD_storeP {n : Nat} {x v : Opd} {o off : Nat} {c c' : List AV} {val : AV} (hx : x.ev (keep s.fr rs) = some (.ptr o off)) (hv : v.dat (keep s.fr rs) = some val) (hn : val.cellsOf.length = n) (hg : s.h.get o = some (.cells c)) (ho : over c off val.cellsOf = some c')
    (hl : looks base st0 all { s with h := s.h.put o (.cells c') } ch = true) (h : WD P base st0 all r live { s with h := s.h.put o (.cells c') } Q) : WD P base st0 all (⟨⟨none, .store n x v, none⟩, ix, rs, kd, ch, bf⟩ :: r) live s Q := by
  have hsame : SameFr (keep s.fr rs ++ s.fr) s.fr := keep_app_same s.fr rs none undefA
  obtain ⟨m, s2, h3, h4⟩ := WD.same (fun i => (hsame i).symm) h
  refine ⟨m, s2, ?_, h4⟩
  have e2 := hl
  rw [← looks_same hsame] at e2
  have e1 : aop base none (.store n x v) (sees st0 ⟨⟨none, .store n x v, none⟩, ix, rs, kd, ch, bf⟩ s) = some (undefA, { fr := keep s.fr rs, st := st0, h := s.h.put o (.cells c') }) := by
    rw [W_store]
    simp only [sees, hx, hv, stA_some, nbeq, hn, decide_true, cond_true, wr, hg, ho, Option.bind_some]
  simp only [dops, dstep, wantedA, Option.bind_some, cond_true, oper, e1, setD]
  show (bif looks base st0 all { fr := keep s.fr rs ++ s.fr, st := s.st, h := s.h.put o (.cells c') } ch then _ else _) = _
  rw [e2, cond_true]
  exact h3
section
variable {α : Type} [Enc α]
open Enc
end
@[go_sem] theorem same_tt : same 0 (.bool true) (.bool true) = some true := rfl
@[go_sem] theorem same_ff : same 0 (.bool false) (.bool false) = some true := rfl
@[go_sem] theorem same_tf : same 0 (.bool true) (.bool false) = some false := rfl
@[go_sem] theorem same_ft : same 0 (.bool false) (.bool true) = some false := rfl
@[go_sem] theorem same_nilp : same 1 .nilp .nilp = some true := rfl
@[go_sem] theorem same_nilp_ptr (o f : Nat) : same 1 .nilp (.ptr o f) = some false := rfl
@[go_sem] theorem same_ptr_nilp (o f : Nat) : same 1 (.ptr o f) .nilp = some false := rfl
@[go_sem] theorem same_nils : same 2 .nils .nils = some true := rfl
@[go_sem] theorem same_hs_nils (e o p q n : Nat) (f : Bool) : same 2 (.hs e o p q n f) .nils = some false := rfl
@[go_sem] theorem same_sl_nils (e n : Nat) (f : Nat → List AV) (u : Bool) : same 2 (.sl e n f u) .nils = some false := rfl
@[go_sem] theorem same_slv_nils {α : Type} [Enc α] (nl u : Bool) (l : List α) : same 2 (slv nl u l) .nils = some (nl && l.isEmpty) := by
  unfold slv
  cases nl && l.isEmpty <;> rfl
@[go_sem] theorem same_nilm : same 3 .nilm .nilm = some true := rfl
@[go_sem] theorem same_mp_nilm (o : Nat) : same 3 (.mp o) .nilm = some false := rfl
@[go_sem] theorem same_nilf : same 4 .nilf .nilf = some true := rfl
@[go_sem] theorem same_fn_nilf (f : Nat) (c : List AV) : same 4 (.fn f c) .nilf = some false := rfl
@[go_sem] theorem same_nili : same 5 .nili .nili = some true := rfl
@[go_sem] theorem same_iface_nili (t : Nat) (v : AV) : same 5 (.iface t v) .nili = some false := rfl
def rdP (off n : Nat) : Option AObj → Option (List AV)
  | some (.cells c) => sub c off n
  | _ => none
@[go_sem] theorem rd_ptr (s : St) (o off n : Nat) : rd s (.ptr o off) n = rdP off n (s.h.get o) := by
  unfold rd rdP
  rfl
@[go_sem] theorem rdP_cells (off n : Nat) (c : List AV) : rdP off n (some (.cells c)) = sub c off n := rfl
def wrP (s : St) (o off : Nat) (vs : List AV) : Option AObj → Option St
  | some (.cells c) => (over c off vs).bind fun c => some { s with h := s.h.put o (.cells c) }
  | _ => none
@[go_sem] theorem wr_ptr (s : St) (o off : Nat) (vs : List AV) : wr s (.ptr o off) vs = wrP s o off vs (s.h.get o) := by
  unfold wr wrP
  rfl
@[go_sem] theorem wrP_cells (s : St) (o off : Nat) (vs c : List AV) : wrP s o off vs (some (.cells c)) = (over c off vs).bind fun c => some { s with h := s.h.put o (.cells c) } := rfl
def wrE (s : St) (o ep k : Nat) (vs : List AV) : Option AObj → Option St
  | some (.row e ep' c) => bif Nat.beq ep' ep then (over c k vs).bind fun c => some { s with h := s.h.put o (.row e ep c) } else none
  | _ => none
@[go_sem] theorem wr_eptr (s : St) (o ep k : Nat) (vs : List AV) : wr s (.eptr o ep k) vs = wrE s o ep k vs (s.h.get o) := by
  unfold wr wrE
  rfl
@[go_sem] theorem wrE_row (s : St) (o ep k e : Nat) (vs c : List AV) : wrE s o ep k vs (some (.row e ep c)) = (over c k vs).bind fun c => some { s with h := s.h.put o (.row e ep c) } := by
  simp [wrE]
def rangeG (s : St) (o' m : Nat) : Option AObj → Option (AV × St)
  | some (.map _ _ ck) => some (.ptr o' 0, { s with h := s.h.put o' (.miter (some m) ck [] ck) })
  | _ => none
@[go_sem] theorem rangeA_mp (s : St) (o' m : Nat) : rangeA s o' true (.mp m) = rangeG s o' m (s.h.get m) := by
  unfold rangeA rangeG
  rfl
@[go_sem] theorem rangeA_nilm (s : St) (o' : Nat) : rangeA s o' true .nilm = some (.ptr o' 0, { s with h := s.h.put o' (.miter none 0 [] 0) }) := rfl
@[go_sem] theorem rangeG_map (s : St) (o' m ck : Nat) (es : List (AV × AV)) (bs : List Nat) : rangeG s o' m (some (.map es bs ck)) = some (.ptr o' 0, { s with h := s.h.put o' (.miter (some m) ck [] ck) }) := rfl
@[go_sem] theorem nextA_ptr (s : St) (str : Bool) (o : Nat) : nextA s str (.ptr o 0) = nextR s o str (s.h.get o) := rfl
def nextL (s : St) (o m since : Nat) (seen : List Nat) (ck : Nat) : List (Nat × AV × AV) → Option (AV × St)
  | [] => some (.tup [.bool false], s)
  | [(b, e)] => some (.tup [.bool true, e.1, e.2], { s with h := s.h.put o (.miter (some m) since (seen ++ [b]) ck) })
  | _ => none
def nextM (s : St) (o m since : Nat) (seen : List Nat) (st : Nat) : Option AObj → Option (AV × St)
  | some (.map es bs ck) => bif allBel since bs && Nat.ble since st then nextL s o m since seen ck (leftA seen bs es) else none
  | _ => none
@[go_sem] theorem nextR_mp (s : St) (o m since st : Nat) (seen : List Nat) : nextR s o false (some (.miter (some m) since seen st)) = nextM s o m since seen st (s.h.get m) := by
  simp only [nextR, cond_false]
  unfold nextM
  generalize s.h.get m = G
  cases G with
  | none => rfl
  | some x =>
    cases x with
    | map es bs ck =>
      simp only
      cases (allBel since bs && Nat.ble since st) with
      | false => rfl
      | true =>
        simp only [cond_true]
        rcases leftA seen bs es with _ | ⟨⟨b, e⟩, _ | ⟨y, r⟩⟩ <;> rfl
    | _ => rfl
@[go_sem] theorem nextR_nil (s : St) (o since st : Nat) (seen : List Nat) : nextR s o false (some (.miter none since seen st)) = some (.tup [.bool false], s) := rfl
@[go_sem] theorem nextM_map (s : St) (o m since st ck : Nat) (seen : List Nat) (es : List (AV × AV)) (bs : List Nat) : nextM s o m since seen st (some (.map es bs ck)) = bif allBel since bs && Nat.ble since st then nextL s o m since seen ck (leftA seen bs es) else none := rfl
@[go_sem] theorem nextL_nil (s : St) (o m since ck : Nat) (seen : List Nat) : nextL s o m since seen ck [] = some (.tup [.bool false], s) := rfl
@[go_sem] theorem nextL_one (s : St) (o m since ck b : Nat) (seen : List Nat) (e : AV × AV) : nextL s o m since seen ck [(b, e)] = some (.tup [.bool true, e.1, e.2], { s with h := s.h.put o (.miter (some m) since (seen ++ [b]) ck) }) := rfl
@[go_sem] theorem entryA_ptr (s : St) (o : Nat) : entryA s (.ptr o 0) = entryR s (s.h.get o) := rfl
def entryM (s : St) (seen : List Nat) (st : Nat) : Option AObj → Option (AV × St)
  | some (.map es bs ck) => bif Nat.beq ck st then (lastN seen).bind fun b => (findB b bs es).bind fun e => some (.tup [e.1, e.2], s) else none
  | _ => none
@[go_sem] theorem entryR_mp (s : St) (m since st : Nat) (seen : List Nat) : entryR s (some (.miter (some m) since seen st)) = entryM s seen st (s.h.get m) := by
  simp only [entryR]
  unfold entryM
  rfl
@[go_sem] theorem entryM_map (s : St) (st ck : Nat) (seen : List Nat) (es : List (AV × AV)) (bs : List Nat) : entryM s seen st (some (.map es bs ck)) = bif Nat.beq ck st then (lastN seen).bind fun b => (findB b bs es).bind fun e => some (.tup [e.1, e.2], s) else none := rfl
@[go_sem] theorem get_reserve (h : Heap) (n i : Nat) : (h.reserve n).get i = h.get i := rfl
@[go_sem] theorem next_reserve (h : Heap) (n : Nat) : (h.reserve n).next = h.next + n := rfl
@[go_sem] theorem next_put (h : Heap) (o : Nat) (x : AObj) : (h.put o x).next = h.next := rfl
def unQ (P : Prog) (a : ACode) (Q : AExit → St → Prop) : AExit → St → Prop
  | .normal, s => Wp P (.loop a) s Q
  | e, s => Q e s
@[go_sem] theorem unQ_normal {P : Prog} {a : ACode} {Q : AExit → St → Prop} {s : St} : unQ P a Q .normal s = Wp P (.loop a) s Q := rfl
@[go_sem] theorem unQ_exit {P : Prog} {a : ACode} {Q : AExit → St → Prop} {s : St} {i : Nat} : unQ P a Q (.exit i) s = Q (.exit i) s := rfl
@[go_sem] theorem unQ_ret {P : Prog} {a : ACode} {Q : AExit → St → Prop} {s : St} : unQ P a Q .ret s = Q .ret s := rfl
theorem Wp_unroll {P : Prog} {a : ACode} {Q : AExit → St → Prop} {s : St} (h : Wp P a s (unQ P a Q)) : Wp P (.loop a) s Q := by
  obtain ⟨n, e, s', h1, h2⟩ := h
  cases e with
  | normal =>
    obtain ⟨m, e2, s2, h3, h4⟩ := h2
    refine ⟨max n m + 1, e2, s2, ?_, h4⟩
    rw [exec, exec_le (Nat.le_max_left n m) _ _ _ h1]
    exact exec_le (Nat.le_max_right n m) _ _ _ h3
  | exit i =>
    refine ⟨n + 1, _, s', ?_, h2⟩
    rw [exec, h1]; rfl
  | ret =>
    refine ⟨n + 1, _, s', ?_, h2⟩
    rw [exec, h1]; rfl
theorem WO_denv {base : Nat} {s : St} {K : St → Prop} {d : Option Nat} {f k : Nat} {x : Opd} {args : List Opd} {r : List AOper} {vs caps : List AV} {R : AV → Prop} (hx : x.ev s.fr = some (.fn f caps)) (hk : P.pure f = k + 1) (hv : datAll s.fr args = some vs) (hf : Den P f (lent (k + 1) s.h (vs ++ caps)) R) (ha : ∀ v, R v → alone (k + 1) v = true)
    (h : ∀ v, R v → WO P base r { s with fr := setD s.fr d v } K) : WO P base (⟨d, .callv x args false, none⟩ :: r) s K := by
  obtain ⟨n, y, h1, h2⟩ := hf s.h.next
  obtain ⟨m, s2, h3, h4⟩ := h _ h2
  refine ⟨max n m, s2, ?_, h4⟩
  have e1 : callP (exec P (max n m)) P f (vs ++ caps) s.h = some (frz y.2 s.h.next 40 y.1, s.h) := by
    unfold callP
    rw [hk]
    simp only [pureBy, callBy_le (exec_le (Nat.le_max_left n m)) _ _ _ _ h1, Option.bind_some, ha _ h2, cond_true]
  simp only [ops, wantedA, Option.bind_some, cond_true, oper, hx, hv, e1, frzR, cond_false]
  exact ops_le (callP_le (exec_le (Nat.le_max_right n m))) h3
@[go_sem] theorem rangeA_strv (s : St) (o' : Nat) (l : List UInt8) : rangeA s o' false (strv l) = some (.ptr o' 0, { s with h := s.h.put o' (.siter (l.map UInt8.toNat) 0) }) := rfl
@[go_sem] theorem nextR_str (s : St) (o p : Nat) (b : List Nat) : nextR s o true (some (.siter b p)) = (bif Nat.blt p b.length then
      (some (.tup [.bool true, .int .i64 (.ofNat p), .int .i32 (.ofNat (decA b p).1)], { s with h := s.h.put o (.siter b (p + (decA b p).2)) }))
       else some (.tup [.bool false], s)) := rfl
theorem WO_funv {base : Nat} {s : St} {K : St → Prop} {d : Option Nat} {f : Nat} {x : Opd} {args : List Opd} {r : List AOper} {vs caps : List AV} {R : AV → Heap → Prop} (hx : x.ev s.fr = some (.fn f caps)) (hv : datAll s.fr args = some vs) (hf : Fun P f (vs ++ caps) s.h R)
    (h : ∀ v h', R v h' → WO P base r { s with fr := setD s.fr d v, h := h' } K) : WO P base (⟨d, .callv x args false, none⟩ :: r) s K := by
  obtain ⟨n, v, h', h1, h2⟩ := hf
  obtain ⟨m, s2, h3, h4⟩ := h _ _ h2
  refine ⟨max n m, s2, ?_, h4⟩
  simp only [ops, wantedA, Option.bind_some, cond_true, oper, hx, hv, callP_le (exec_le (Nat.le_max_left n m)) _ _ _ _ h1, frzR, cond_false]
  exact ops_le (callP_le (exec_le (Nat.le_max_right n m))) h3
theorem ld_raw : ∀ (R : List AV) (k : Nat) (c : AV), R[k]? = some c → ((dropN k R).bind fun r => takeN 1 r) = some [c]
  | [], k, c, h => by simp at h
  | x :: r, 0, c, h => by
    obtain rfl := Option.some.inj h
    simp [dropN, takeN]
  | x :: r, k + 1, c, h => by
    have := ld_raw r k c (by simpa using h)
    simpa [dropN] using this
theorem st_raw : ∀ (R : List AV) (k : Nat) (c : AV), k < R.length → over R k [c] = some (R.set k c)
  | [], k, c, h => by simp at h
  | x :: r, 0, c, h => by simp [over, over0]
  | x :: r, k + 1, c, h => by
    have := st_raw r k c (by simpa using h)
    simp [over, this]
theorem over_raw : ∀ (R : List AV) (i : Nat) (vs : List AV), i + vs.length ≤ R.length → over R i vs = some (R.take i ++ (vs ++ R.drop (i + vs.length)))
  | R, 0, vs, h => by
    have h0 : ∀ (R vs : List AV), vs.length ≤ R.length → over0 R vs = some (vs ++ R.drop vs.length) := by
      intro R
      induction R with
      | nil => intro vs h; cases vs <;> simp at h ⊢; rfl
      | cons c R ih =>
        intro vs h
        cases vs with
        | nil => rfl
        | cons v vs => simp [over0, ih vs (by simpa using h)]
    simpa [over] using h0 R vs (by simpa using h)
  | [], i + 1, vs, h => by simp at h
  | c :: R, i + 1, vs, h => by
    have := over_raw R i vs (by simp at h; omega)
    simp only [over, this, Option.bind_some, List.take_succ_cons, List.cons_append]
    congr 4
    rw [show i + 1 + vs.length = (i + vs.length) + 1 by omega, List.drop_succ_cons]
end Go.Am
/- Maps from texts: what is looked up, put, taken away, in plain Lean. Own work. -/
namespace Go.Am
abbrev TMap := List (List UInt8 × AV)
def kv (es : TMap) : List (AV × AV) := es.map fun p => (strv p.1, p.2)
def tget (k : List UInt8) : TMap → Option AV
  | [] => none
  | p :: r => if p.1 = k then some p.2 else tget k r
def tput (k : List UInt8) (v : AV) : TMap → TMap
  | [] => [(k, v)]
  | p :: r => if p.1 = k then (k, v) :: r else p :: tput k v r
def tdel (k : List UInt8) : TMap → List Nat → TMap × List Nat
  | p :: r, b :: bs => if p.1 = k then (r, bs) else (p :: (tdel k r bs).1, b :: (tdel k r bs).2)
  | es, bs => (es, bs)
theorem keyEq_strv (h : Heap) (a b : List UInt8) : keyEq h (strv a) (strv b) = some (decide (b = a)) := by
  simp only [keyEq, strv, eqS_eq, Option.some.injEq]
  rw [Bool.eq_iff_iff, beq_iff_eq, decide_eq_true_eq]
  constructor
  · intro e; exact (strv_inj e).symm
  · intro e; rw [e]
theorem kv_cons (p : List UInt8 × AV) (r : TMap) : kv (p :: r) = (strv p.1, p.2) :: kv r := rfl
theorem kv_length (es : TMap) : (kv es).length = es.length := by simp [kv]
theorem findA_kv (h : Heap) (k : List UInt8) : ∀ es : TMap, findA h (strv k) (kv es) = some (tget k es)
  | [] => rfl
  | p :: r => by
    rw [kv_cons, findA, keyEq_strv, Option.bind_some, findA_kv h k r, tget]
    by_cases e : p.1 = k <;> simp [e]
theorem updA_kv (h : Heap) (k : List UInt8) (v : AV) : ∀ es : TMap, updA h (strv k) v (kv es) = some (kv (tput k v es))
  | [] => rfl
  | p :: r => by
    rw [kv_cons, updA, keyEq_strv, Option.bind_some, updA_kv h k v r, tput]
    by_cases e : p.1 = k <;> simp [e, kv_cons]
theorem delA_kv (h : Heap) (k : List UInt8) : ∀ (es : TMap) (bs : List Nat), bs.length = es.length → delA h (strv k) (kv es) bs = some (kv (tdel k es bs).1, (tdel k es bs).2)
  | [], [], _ => rfl
  | [], _ :: _, h => by simp at h
  | p :: r, [], h => by simp at h
  | p :: r, b :: bs, hl => by
    rw [kv_cons, delA, keyEq_strv, Option.bind_some, delA_kv h k r bs (by simpa using hl), tdel]
    by_cases e : p.1 = k <;> simp [e, kv_cons]
theorem tput_length (k : List UInt8) (v : AV) : ∀ es : TMap, (tput k v es).length = if (tget k es).isSome then es.length else es.length + 1
  | [] => rfl
  | p :: r => by
    rw [tput, tget]
    by_cases e : p.1 = k
    · simp [e]
    · simp only [e, if_false, List.length_cons, tput_length k v r]
      split <;> rfl
def lookM (h : Heap) (kd : Nat) (zero : AV) (ok : Bool) (i : AV) : Option AObj → Option AV
  | some (.map es _ _) => bif keyOk kd i then (findA h i es).bind fun r => match r with
    | some v => some (bif ok then .tup [v, .bool true] else v)
    | none => some (bif ok then .tup [zero, .bool false] else zero) else none
  | _ => none
@[go_sem] theorem lookA_mp (h : Heap) (kd m : Nat) (zero i : AV) (ok : Bool) : lookA h kd zero ok (.mp m) i = lookM h kd zero ok i (h.get m) := by
  simp only [lookA, entriesOf]
  cases h.get m with
  | none => rfl
  | some x => cases x <;> rfl
@[go_sem] theorem lookM_kv (h : Heap) (zero : AV) (k : List UInt8) (es : TMap) (bs : List Nat) (ck : Nat) : lookM h 1 zero false (strv k) (some (.map (kv es) bs ck)) = some ((tget k es).getD zero) := by
  show (findA h (strv k) (kv es)).bind _ = _
  rw [findA_kv, Option.bind_some]
  cases tget k es <;> rfl
@[go_sem] theorem lookM_kv_ok (h : Heap) (zero : AV) (k : List UInt8) (es : TMap) (bs : List Nat) (ck : Nat) : lookM h 1 zero true (strv k) (some (.map (kv es) bs ck)) = some (.tup [(tget k es).getD zero, .bool (tget k es).isSome]) := by
  show (findA h (strv k) (kv es)).bind _ = _
  rw [findA_kv, Option.bind_some]
  cases tget k es <;> rfl
section
variable {base : Nat} {d : Option Nat} {s : St}
def updM (s : St) (kd o : Nat) (i v : AV) : Option AObj → Option (AV × St)
  | some (.map es bs ck) => bif keyOk kd i then (updA s.h i v es).bind fun es' => some (undefA, { s with h := s.h.put o (bif Nat.beq es'.length es.length then .map es' bs ck else .map es' (bs ++ [ck]) (ck + 1)) }) else none
  | _ => none
def updO (s : St) (kd : Nat) : Option AV → Option AV → Option AV → Option (AV × St)
  | some (.mp o), some i, some v => updM s kd o i v (s.h.get o)
  | _, _, _ => none
@[go_sem] theorem W_mapupd {kd : Nat} {m i v : Opd} : aop base d (.mapupd kd m i v) s = updO s kd (m.ev s.fr) (i.dat s.fr) (v.dat s.fr) := by
  simp only [aop, updO]
  cases m.ev s.fr with
  | none => rfl
  | some a =>
    cases a with
    | mp o =>
      simp only
      cases i.dat s.fr with
      | none => rfl
      | some i =>
        cases v.dat s.fr with
        | none => rfl
        | some v =>
          simp only [Option.bind_some]
          cases s.h.get o with
          | none => rfl
          | some x => cases x <;> rfl
    | _ => rfl
@[go_sem] theorem updO_mp (s : St) (kd o : Nat) (i v : AV) : updO s kd (some (.mp o)) (some i) (some v) = updM s kd o i v (s.h.get o) := rfl
def putM (k : List UInt8) (v : AV) (es : TMap) (bs : List Nat) (ck : Nat) : AObj := if (tget k es).isSome then .map (kv (tput k v es)) bs ck else .map (kv (tput k v es)) (bs ++ [ck]) (ck + 1)
@[go_sem] theorem updM_kv (s : St) (o : Nat) (k : List UInt8) (v : AV) (es : TMap) (bs : List Nat) (ck : Nat) : updM s 1 o (strv k) v (some (.map (kv es) bs ck)) = some (.tup [], { s with h := s.h.put o (putM k v es bs ck) }) := by
  show (updA s.h (strv k) v (kv es)).bind _ = _
  rw [updA_kv, Option.bind_some]
  simp only [putM, nbeq, kv_length, tput_length, undefA]
  by_cases e : (tget k es).isSome <;> simp [e]
def delM (s : St) (kd o : Nat) (i : AV) : Option AObj → Option (AV × St)
  | some (.map es bs ck) => bif keyOk kd i then (delA s.h i es bs).bind fun p => some (undefA, { s with h := s.h.put o (.map p.1 p.2 ck) }) else none
  | _ => none
def delO (s : St) (kd : Nat) : Option AV → Option AV → Option (AV × St)
  | some (.mp o), some i => delM s kd o i (s.h.get o)
  | some .nilm, some i => bif keyOk kd i then some (undefA, s) else none
  | _, _ => none
@[go_sem] theorem W_mapdel {kd : Nat} {m i : Opd} : aop base d (.mapdel kd m i) s = delO s kd (m.ev s.fr) (i.ev s.fr) := by
  simp only [aop, delO]
  cases m.ev s.fr with
  | none => rfl
  | some a =>
    cases i.ev s.fr with
    | none => cases a <;> rfl
    | some i =>
      simp only [Option.bind_some]
      cases a with
      | mp o =>
        simp only
        cases s.h.get o with
        | none => cases keyOk kd i <;> rfl
        | some x => cases x <;> cases hk : keyOk kd i <;> simp only [delM, hk] <;> rfl
      | nilm => rfl
      | _ => cases keyOk kd i <;> rfl
@[go_sem] theorem delO_mp (s : St) (kd o : Nat) (i : AV) : delO s kd (some (.mp o)) (some i) = delM s kd o i (s.h.get o) := rfl
theorem delM_kv (s : St) (o : Nat) (k : List UInt8) (es : TMap) (bs : List Nat) (ck : Nat) (hl : bs.length = es.length) : delM s 1 o (strv k) (some (.map (kv es) bs ck)) = some (.tup [], { s with h := s.h.put o (.map (kv (tdel k es bs).1) (tdel k es bs).2 ck) }) := by
  show (delA s.h (strv k) (kv es) bs).bind _ = _
  rw [delA_kv _ _ _ _ hl, Option.bind_some]
  rfl
end
section
variable {base : Nat} {d : Option Nat} {s : St}
def clrO (s : St) (z : AV) : Option AV → Option (AV × St)
  | some .nils => some (undefA, s)
  | some (.hs e o ep off len _) => bif Nat.beq len 0 then some (undefA, s) else bif Nat.beq e 1 then (wr s (.eptr o ep off) (List.replicate len z)).bind fun s => some (undefA, s) else none
  | _ => none
@[go_sem] theorem W_clr {z : AV} {x : Opd} : aop base d (.clr z x) s = clrO s z (x.ev s.fr) := rfl
end
end Go.Am

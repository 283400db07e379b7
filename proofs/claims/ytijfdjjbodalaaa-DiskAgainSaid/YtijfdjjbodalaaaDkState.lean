/- The disk's state in plain Lean; where it lies in a heap. Own work. -/
import Derived.Test.YtijfdjjbodalaaaAmAll4
import Derived.Test.YtijfdjjbodalaaaAmAll5
import Derived.Test.YtijfdjjbodalaaaDkOwnC
set_option linter.unusedSimpArgs false
set_option linter.unusedVariables false
namespace Go.Am.Dk
open Go.Am
abbrev NMap := List (List UInt8 × Nat)
def nget (k : List UInt8) : NMap → Option Nat
  | [] => none
  | p :: r => if p.1 = k then some p.2 else nget k r
def nput (k : List UInt8) (v : Nat) : NMap → NMap
  | [] => [(k, v)]
  | p :: r => if p.1 = k then (k, v) :: r else p :: nput k v r
def ndel (k : List UInt8) : NMap → NMap
  | [] => []
  | p :: r => if p.1 = k then r else p :: ndel k r
def fp (n : NMap) : TMap := n.map fun p => (p.1, .ptr p.2 0)
theorem fp_cons (p : List UInt8 × Nat) (r : NMap) : fp (p :: r) = (p.1, .ptr p.2 0) :: fp r := rfl
theorem fp_length (n : NMap) : (fp n).length = n.length := by simp [fp]
theorem tget_fp (k : List UInt8) : ∀ n : NMap, tget k (fp n) = (nget k n).map fun f => .ptr f 0
  | [] => rfl
  | p :: r => by
    rw [fp_cons, tget, nget, tget_fp k r]
    split <;> rfl
theorem tput_fp (k : List UInt8) (f : Nat) : ∀ n : NMap, tput k (.ptr f 0) (fp n) = fp (nput k f n)
  | [] => rfl
  | p :: r => by
    rw [fp_cons, tput, nput, tput_fp k f r]
    split <;> rfl
theorem tdel_fp (k : List UInt8) : ∀ (n : NMap) (bs : List Nat), bs.length = n.length → (tdel k (fp n) bs).1 = fp (ndel k n)
  | [], [], _ => rfl
  | [], _ :: _, h => by simp at h
  | p :: r, [], h => by simp at h
  | p :: r, b :: bs, h => by
    rw [fp_cons, tdel, ndel]
    split
    · rfl
    · rw [fp_cons]; simp only [tdel_fp k r bs (by simpa using h)]
theorem nget_mem {k : List UInt8} {f : Nat} : ∀ {n : NMap}, nget k n = some f → (k, f) ∈ n
  | p :: r, h => by
    rw [nget] at h
    split at h
    · rename_i e
      obtain rfl := Option.some.inj h
      rw [← e]; exact List.mem_cons_self
    · exact List.mem_cons_of_mem _ (nget_mem h)
theorem mem_nput {k : List UInt8} {f : Nat} {p : List UInt8 × Nat} : ∀ {n : NMap}, p ∈ nput k f n → p ∈ n ∨ p = (k, f)
  | [], h => Or.inr (by simpa [nput] using h)
  | q :: r, h => by
    rw [nput] at h
    split at h
    · rcases List.mem_cons.1 h with h | h
      · exact Or.inr h
      · exact Or.inl (List.mem_cons_of_mem _ h)
    · rcases List.mem_cons.1 h with h | h
      · exact Or.inl (by rw [h]; exact List.mem_cons_self)
      · rcases mem_nput h with h | h
        · exact Or.inl (List.mem_cons_of_mem _ h)
        · exact Or.inr h
theorem mem_ndel {k : List UInt8} {p : List UInt8 × Nat} : ∀ {n : NMap}, p ∈ ndel k n → p ∈ n
  | q :: r, h => by
    rw [ndel] at h
    split at h
    · exact List.mem_cons_of_mem _ h
    · rcases List.mem_cons.1 h with h | h
      · rw [h]; exact List.mem_cons_self
      · exact List.mem_cons_of_mem _ (mem_ndel h)
theorem keys_nput {k : List UInt8} {f : Nat} : ∀ {n : NMap}, (nput k f n).map (·.1) = if k ∈ n.map (·.1) then n.map (·.1) else n.map (·.1) ++ [k]
  | [] => rfl
  | q :: r => by
    rw [nput]
    by_cases e : q.1 = k
    · simp [e]
    · have e' : ¬ k = q.1 := fun h => e h.symm
      simp only [e, if_false, List.map_cons, List.mem_cons, e', false_or, keys_nput (n := r)]
      split <;> simp
theorem nodup_nput {k : List UInt8} {f : Nat} {n : NMap} (h : (n.map (·.1)).Nodup) : ((nput k f n).map (·.1)).Nodup := by
  rw [keys_nput]
  split
  · exact h
  · rename_i hk
    rw [List.nodup_append]
    exact ⟨h, by simp, fun a ha b hb => by
      rw [List.mem_singleton] at hb
      subst hb
      exact fun e => hk (e ▸ ha)⟩
theorem keys_ndel_sub {k : List UInt8} : ∀ {n : NMap}, ((ndel k n).map (·.1)).Sublist (n.map (·.1))
  | [] => List.Sublist.slnil
  | q :: r => by
    rw [ndel]
    split
    · exact List.sublist_cons_self _ _
    · exact List.Sublist.cons_cons _ keys_ndel_sub
theorem nodup_ndel {k : List UInt8} {n : NMap} (h : (n.map (·.1)).Nodup) : ((ndel k n).map (·.1)).Nodup := List.Sublist.nodup keys_ndel_sub h
theorem nget_nput_same (k : List UInt8) (f : Nat) : ∀ n : NMap, nget k (nput k f n) = some f
  | [] => by simp [nput, nget]
  | p :: r => by
    rw [nput]
    by_cases e : p.1 = k
    · simp [e, nget]
    · simp only [e, if_false, nget, nget_nput_same k f r]
theorem nget_nput_ne {k j : List UInt8} (f : Nat) (hn : j ≠ k) : ∀ n : NMap, nget j (nput k f n) = nget j n
  | [] => by simp [nput, nget, Ne.symm hn]
  | p :: r => by
    rw [nput]
    by_cases e : p.1 = k
    · have : ¬ p.1 = j := fun h => hn (h.symm.trans e)
      simp only [e, if_true, nget, Ne.symm hn, if_false, this]
    · simp only [e, if_false, nget, nget_nput_ne f hn r]
theorem nget_ndel_ne {k j : List UInt8} (hn : j ≠ k) : ∀ n : NMap, nget j (ndel k n) = nget j n
  | [] => rfl
  | p :: r => by
    rw [ndel]
    by_cases e : p.1 = k
    · have : ¬ p.1 = j := fun h => hn (h.symm.trans e)
      simp only [e, if_true, nget, this, if_false]
      rw [if_neg (fun h => hn h.symm)]
    · simp only [e, if_false, nget, nget_ndel_ne hn r]
structure DFile where
  b : List UInt8
  sure : Nat
  deriving Inhabited
structure DTurn where
  fr : List UInt8
  to : List UInt8
  f : Option Nat
  deriving Inhabited
def fcell : Option Nat → AV
  | none => .nilp
  | some f => .ptr f 0
instance celTurn : Cel DTurn where
  csz := 3
  ccells t := [strv t.fr, strv t.to, fcell t.f]
  clen _ := rfl
def turnDo (t : DTurn) (n : NMap) : NMap :=
  match t.f with
  | some f => if t.to = [] then n else nput t.to f n
  | none => match nget t.fr n with
    | none => ndel t.fr n
    | some f => if t.to = [] then ndel t.fr n else nput t.to f (ndel t.fr n)
structure DSt where
  cap : Int
  names : NMap
  sure : NMap
  all : List Nat
  waits : List DTurn
  dead : Bool
  calls : Int
  fuse : Int
  fault : Int
  e : Int
  file : Nat → DFile
structure DSt.Ok (σ : DSt) : Prop where
  names : ∀ p ∈ σ.names, p.2 ∈ σ.all
  sure : ∀ p ∈ σ.sure, p.2 ∈ σ.all
  waits : ∀ t ∈ σ.waits, ∀ f, t.f = some f → f ∈ σ.all
  nd : (σ.names.map (·.1)).Nodup
  sd : (σ.sure.map (·.1)).Nodup
  ad : σ.all.Nodup
structure Stp (bs : List Nat) (ck n : Nat) : Prop where
  len : bs.length = n
  nd : bs.Nodup
  lt : ∀ b ∈ bs, b < ck
def MapAt (h : Heap) (m : Nat) (n : NMap) : Prop := ∃ bs ck, h.get m = some (.map (kv (fp n)) bs ck) ∧ Stp bs ck n.length
structure Lay where
  m : Nat
  m2 : Nat
  av : AV
  wv : AV
  bv : Nat → AV
def DSt.cells (σ : DSt) (y : Lay) : List AV := [.int .i64 σ.cap, .mp y.m, .mp y.m2, y.av, y.wv, .bool σ.dead, .int .i64 σ.calls, .int .i64 σ.fuse, .int .i64 σ.fault, .int .i64 σ.e]
def Own (d : Nat) (σ : DSt) (y : Lay) (o : Nat) : Prop := o = d ∨ o = y.m ∨ o = y.m2 ∨ rowOf y.av = some o ∨ rowOf y.wv = some o ∨ ∃ f ∈ σ.all, o = f ∨ rowOf (y.bv f) = some o
structure DiskAt (h : Heap) (d : Nat) (σ : DSt) (y : Lay) : Prop where
  ok : σ.Ok
  disk : h.get d = some (.cells (σ.cells y))
  names : MapAt h y.m σ.names
  sure : MapAt h y.m2 σ.sure
  all : PreC h y.av (σ.all.map FilP.mk)
  waits : PreC h y.wv σ.waits
  cell : ∀ f ∈ σ.all, h.get f = some (.cells [y.bv f, .int .i64 (σ.file f).sure])
  bytes : ∀ f ∈ σ.all, PreC h (y.bv f) (σ.file f).b
  mm : y.m ≠ y.m2
  bb : ∀ f ∈ σ.all, ∀ f' ∈ σ.all, f ≠ f' → ∀ o, rowOf (y.bv f) = some o → rowOf (y.bv f') ≠ some o
  ab : ∀ f ∈ σ.all, ∀ o, rowOf y.av = some o → rowOf (y.bv f) ≠ some o
  wb : ∀ f ∈ σ.all, ∀ o, rowOf y.wv = some o → rowOf (y.bv f) ≠ some o
  aw : ∀ o, rowOf y.av = some o → rowOf y.wv ≠ some o
  lt : ∀ o, Own d σ y o → o < h.next
end Go.Am.Dk

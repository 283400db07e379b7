/- A heap says which disk it holds. -/
import Derived.Test.YtijfdjjbodalaaaDkBootF
set_option linter.unusedSimpArgs false
set_option linter.unusedVariables false
namespace Go.Am.Dk
open Go.Am
set_option maxRecDepth 20000
set_option maxHeartbeats 1000000
theorem strv_eq {a b : List UInt8} (h : strv a = strv b) : a = b := by
  unfold strv at h
  injection h with h
  exact strv_inj h
theorem flat_inj {α : Type} [Cel α] (hi : ∀ a b : α, Cel.ccells a = Cel.ccells b → a = b) : ∀ (l l' : List α) (j j' : List AV), l.length = l'.length → l.flatMap Cel.ccells ++ j = l'.flatMap Cel.ccells ++ j' → l = l'
  | [], [], _, _, _, _ => rfl
  | [], _ :: _, _, _, h, _ => by simp at h
  | _ :: _, [], _, _, h, _ => by simp at h
  | a :: l, b :: l', j, j', h, e => by
    simp only [List.flatMap_cons, List.append_assoc] at e
    obtain ⟨e1, e2⟩ := List.append_inj e (by rw [Cel.clen, Cel.clen])
    rw [hi a b e1, flat_inj hi l l' j j' (by simpa using h) e2]
theorem PreC.inj {α : Type} [Cel α] (hi : ∀ a b : α, Cel.ccells a = Cel.ccells b → a = b) {h : Heap} {v : AV} {l l' : List α} (a : PreC h v l) (b : PreC h v l') : l = l' := by
  rcases a with ⟨e, h1⟩ | ⟨o, ep, j, e, h1⟩ <;> rcases b with ⟨e', h2⟩ | ⟨o', ep', j', e', h2⟩
  · rw [h1, h2]
  · rw [e] at e'; cases e'
  · rw [e] at e'; cases e'
  · rw [e] at e'
    injection e' with q1 q2 q3 q4 q5 q6
    subst q2 q3
    rw [h1] at h2
    injection h2 with h2
    injection h2 with q7 q8 q9
    exact flat_inj hi l l' j j' q5 q9
theorem fp_inj : ∀ {n n' : NMap}, kv (fp n) = kv (fp n') → n = n'
  | [], [], _ => rfl
  | [], _ :: _, h => by simp [fp, kv] at h
  | _ :: _, [], h => by simp [fp, kv] at h
  | p :: r, p' :: r', h => by
    rw [fp_cons, fp_cons] at h
    simp only [kv, List.map_cons, List.cons.injEq, Prod.mk.injEq, AV.ptr.injEq, and_true] at h
    rw [fp_inj (n := r) (n' := r') h.2]
    have e1 := strv_eq h.1.1
    have e2 : p = p' := Prod.ext e1 h.1.2
    rw [e2]
theorem MapAt.inj {h : Heap} {m : Nat} {n n' : NMap} (a : MapAt h m n) (b : MapAt h m n') : n = n' := by
  obtain ⟨bs, ck, e, -⟩ := a
  obtain ⟨bs', ck', e', -⟩ := b
  rw [e] at e'
  injection e' with e'
  injection e' with e'
  exact fp_inj e'
theorem fcell_inj : ∀ {a b : Option Nat}, fcell a = fcell b → a = b
  | none, none, _ => rfl
  | none, some _, h => by cases h
  | some _, none, h => by cases h
  | some _, some _, h => by injection h with h; rw [h]
theorem turn_inj (a b : DTurn) (h : Cel.ccells a = Cel.ccells b) : a = b := by
  have h' : [strv a.fr, strv a.to, fcell a.f] = [strv b.fr, strv b.to, fcell b.f] := h
  simp only [List.cons.injEq, and_true] at h'
  obtain ⟨x, y, z⟩ := a
  obtain ⟨x', y', z'⟩ := b
  simp only at h'
  rw [strv_eq h'.1, strv_eq h'.2.1, fcell_inj h'.2.2]
theorem filP_inj (a b : FilP) (h : Cel.ccells a = Cel.ccells b) : a = b := by
  obtain ⟨x⟩ := a
  obtain ⟨y⟩ := b
  have h' : [AV.ptr x 0] = [AV.ptr y 0] := h
  simp only [List.cons.injEq, AV.ptr.injEq, and_true] at h'
  rw [h']
theorem u8_inj (a b : UInt8) (h : Cel.ccells a = Cel.ccells b) : a = b := by
  have h' : [AV.int .u8 a.toNat] = [AV.int .u8 b.toNat] := h
  simp only [List.cons.injEq, AV.int.injEq, and_true, true_and] at h'
  exact UInt8.toNat_inj.1 (by omega)
theorem slv_inj {n n' full full' : Bool} {l l' : List Int} (h : slv n full l = slv n' full' l') : l = l' := by
  rcases slv_cases n full l with ⟨e, e1, -⟩ | e <;> rcases slv_cases n' full' l' with ⟨e', e2, -⟩ | e' <;> rw [e, e'] at h
  · rw [e1, e2]
  · cases h
  · cases h
  · injection h with q1 q2 q3 q4
    refine List.ext_getElem q2 (fun i h1 h2 => ?_)
    have := congrFun q3 i
    rw [cellsAtL_in h1, cellsAtL_in h2] at this
    have h' : [AV.int .i64 (l.getD i default)] = [AV.int .i64 (l'.getD i default)] := this
    simp only [List.cons.injEq, AV.int.injEq, and_true, true_and] at h'
    rw [List.getD_eq_getElem?_getD, List.getElem?_eq_getElem h1, List.getD_eq_getElem?_getD, List.getElem?_eq_getElem h2] at h'
    exact h'
theorem DiskAt.inj {h : Heap} {d : Nat} {σ σ' : DSt} {y y' : Lay} (a : DiskAt h d σ y) (b : DiskAt h d σ' y') : σ' = { σ with file := σ'.file } ∧ y' = { y with bv := y'.bv } ∧ ∀ f ∈ σ.all, σ'.file f = σ.file f ∧ y'.bv f = y.bv f := by
  have e := a.disk
  rw [b.disk] at e
  injection e with e
  injection e with e
  simp only [DSt.cells, List.cons.injEq, AV.int.injEq, AV.mp.injEq, AV.bool.injEq, and_true, true_and] at e
  obtain ⟨e0, e1, e2, e3, e4, e5, e6, e7, e8, e9⟩ := e
  have n1 : σ'.names = σ.names := MapAt.inj (by rw [← e1]; exact b.names) a.names
  have n2 : σ'.sure = σ.sure := MapAt.inj (by rw [← e2]; exact b.sure) a.sure
  have n3 : σ'.all = σ.all := by
    have := PreC.inj filP_inj (by rw [← e3]; exact b.all) a.all
    have := congrArg (List.map FilP.o) this
    simpa [List.map_map, Function.comp_def] using this
  have n4 : σ'.waits = σ.waits := PreC.inj turn_inj (by rw [← e4]; exact b.waits) a.waits
  refine ⟨?_, ?_, fun f hf => ?_⟩
  · cases σ'; cases σ; simp_all
  · cases y'; cases y; simp_all
  · have c1 := a.cell f hf
    have c2 := b.cell f (by rw [n3]; exact hf)
    rw [c1] at c2
    injection c2 with c2
    injection c2 with c2
    simp only [List.cons.injEq, AV.int.injEq, and_true, true_and] at c2
    have c3 : (σ'.file f).b = (σ.file f).b := PreC.inj u8_inj (by rw [c2.1]; exact b.bytes f (by rw [n3]; exact hf)) (a.bytes f hf)
    refine ⟨?_, c2.1.symm⟩
    have c4 : (σ'.file f).sure = (σ.file f).sure := by omega
    generalize σ'.file f = x at c3 c4
    generalize σ.file f = x' at c3 c4
    cases x; cases x'; simp_all
end Go.Am.Dk

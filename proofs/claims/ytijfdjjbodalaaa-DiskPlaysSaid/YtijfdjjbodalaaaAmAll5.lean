/- Rows of data that may hold places: the appends. Own work. -/
import Derived.Test.YtijfdjjbodalaaaAmAll4
import Derived.Test.YtijfdjjbodalaaaAmAll3
import Derived.Laws.AppendOwn
set_option linter.unusedSimpArgs false
set_option linter.unusedVariables false
namespace Go.Am
class Cel (α : Type) extends Inhabited α where
  csz : Nat
  ccells : α → List AV
  clen : ∀ x, (ccells x).length = csz
instance celEnc {α : Type} [Enc α] : Cel α := { csz := Enc.sz α, ccells := Enc.cells, clen := Enc.len }
open Cel
variable {α : Type} [Cel α]
def cellsAtC (l : List α) (i : Nat) : List AV := match l[i]? with
  | some x => ccells x
  | none => []
def RowC (h : Heap) (v : AV) (l : List α) : Prop := (v = .nils ∧ l = []) ∨ ∃ o ep, v = .hs (csz α) o ep 0 l.length false ∧ h.get o = some (.row (csz α) ep (l.flatMap ccells))
theorem flatC_len (l : List α) : (l.flatMap ccells).length = l.length * csz α := by
  induction l with
  | nil => simp
  | cons x r ih => simp only [List.flatMap_cons, List.length_append, ih, Cel.clen, List.length_cons, Nat.add_mul, Nat.one_mul]; omega
def AddsC (h : Heap) (y : AV) (new : List α) : Prop := lenA h y = some new.length ∧ cellsAt h (csz α) y new.length = some (new.flatMap ccells)
theorem addsC_one (h : Heap) (x : α) (c : List AV) (full : Bool) (hc : c = ccells x) : AddsC h (.sl (csz α) 1 (fun i => (c.drop (i * csz α)).take (csz α)) full) [x] := by
  subst hc
  refine ⟨rfl, ?_⟩
  simp only [cellsAt, nble, nbeq, List.length_cons, List.length_nil, Nat.zero_add, Nat.le_refl, decide_true, Bool.and_self, cond_true, gather, Nat.zero_mul, List.drop_zero, List.append_nil, List.flatMap_cons, List.flatMap_nil]
  rw [List.take_of_length_le (by rw [Cel.clen]; omega)]
theorem appC_row {s : St} {o' e bytes : Nat} {v y : AV} {l new : List α} (hr : RowC s.h v l) (hy : AddsC s.h y new) (he : csz α = e) (hb : (l.length + new.length) * bytes ≤ two47) :
    ∃ v' h', appA s o' e bytes v y = some (v', { s with h := h' }) ∧ RowC h' v' (l ++ new) ∧ h'.next = s.h.next ∧ (rowOf v' = rowOf v ∨ rowOf v' = some o') ∧ ∀ q, q ≠ o' → rowOf v ≠ some q → h'.get q = s.h.get q := by
  subst he
  obtain ⟨h1, h2⟩ := hy
  unfold appA
  rw [h1]
  simp only [Option.bind_some, h2]
  by_cases hn : new.length = 0
  · have hnew : new = [] := List.length_eq_zero_iff.1 hn
    subst hnew
    simp only [List.length_nil, nbeq, decide_true, cond_true]
    have hs : isSl v = true := by rcases hr with ⟨rfl, -⟩ | ⟨o, ep, rfl, -⟩ <;> rfl
    rw [hs]
    exact ⟨v, s.h, rfl, by simpa using hr, rfl, Or.inl rfl, fun q _ _ => rfl⟩
  · simp only [nbeq, hn, decide_false, cond_false]
    rcases hr with ⟨rfl, rfl⟩ | ⟨o, ep, rfl, hg⟩
    · simp only [List.length_nil, Nat.zero_add] at hb
      simp only [nble, hb, decide_true, cond_true, newRowA, List.nil_append]
      refine ⟨_, _, rfl, Or.inr ⟨o', 0, rfl, get_put_same _ _ _⟩, rfl, Or.inr rfl, fun q hq _ => get_put_ne _ _ _ _ hq⟩
    · simp only [hg, nbeq, nble, hb, decide_true, Bool.and_self, cond_true, cond_false, Nat.zero_add]
      have hlen : ¬ (l.length + new.length) * csz α ≤ (l.flatMap ccells).length ∨ csz α = 0 := by
        rw [flatC_len]
        by_cases h0 : csz α = 0
        · exact Or.inr h0
        · left
          rw [Nat.add_mul]
          have : 0 < new.length * csz α := Nat.mul_pos (by omega) (by omega)
          omega
      by_cases hc : (l.length + new.length) * csz α ≤ (l.flatMap ccells).length
      · have h0 : csz α = 0 := by
          rcases hlen with h | h
          · exact absurd hc h
          · exact h
        have hx : ∀ x : α, ccells x = [] := fun x => List.length_eq_zero_iff.1 (by rw [Cel.clen, h0])
        have hf : ∀ l : List α, l.flatMap ccells = [] := fun l => by simp [hx]
        simp only [hc, decide_true, cond_true, hf, h0, Nat.mul_zero, over_zero, over0_nil, Option.bind_some]
        refine ⟨_, _, rfl, Or.inr ⟨o, ep, by simp [h0], by rw [get_put_same]; simp [h0, hx]⟩, rfl, Or.inl rfl, fun q _ hq => get_put_ne _ _ _ _ (fun e => hq (by simp [rowOf, e]))⟩
      · simp only [hc, decide_false, cond_false, Nat.zero_mul, sub_eq, dropN_zero, Option.bind_some]
        rw [← flatC_len, takeN_all]
        simp only [Option.bind_some]
        refine ⟨_, _, rfl, Or.inr ⟨o, ep + 1, by simp, ?_⟩, rfl, Or.inl rfl, fun q _ hq => get_put_ne _ _ _ _ (fun e => hq (by simp [rowOf, e]))⟩
        rw [get_put_same]; simp
end Go.Am
/- Slices whose row holds more behind their end. Own work. -/
namespace Go.Am
open Cel
variable {α : Type} [Cel α]
def PreC (h : Heap) (v : AV) (l : List α) : Prop := (v = .nils ∧ l = []) ∨ ∃ o ep j, v = .hs (csz α) o ep 0 l.length false ∧ h.get o = some (.row (csz α) ep (l.flatMap ccells ++ j))
theorem over0_pre : ∀ (j vs : List AV), vs.length ≤ j.length → over0 j vs = some (vs ++ j.drop vs.length)
  | j, [], _ => by simp [over0_nil]
  | [], _ :: _, h => by simp at h
  | c :: j, v :: vs, h => by
    simp only [over0, over0_pre j vs (by simpa using h), Option.bind_some, List.length_cons, List.drop_succ_cons, List.cons_append]
theorem PreC.ev {h : Heap} {v : AV} {l : List α} (hr : PreC h v l) (i : Nat) : evS i (some v) = some v := by
  rcases hr with ⟨rfl, -⟩ | ⟨o, ep, j, rfl, -⟩ <;> rfl
theorem PreC.dt {h : Heap} {v : AV} {l : List α} (hr : PreC h v l) : datW (some v) = some v := by
  rcases hr with ⟨rfl, -⟩ | ⟨o, ep, j, rfl, -⟩ <;> rfl
theorem PreC.len {h : Heap} {v : AV} {l : List α} (hr : PreC h v l) (h' : Heap) : lenA h' v = some l.length := by
  rcases hr with ⟨rfl, rfl⟩ | ⟨o, ep, j, rfl, -⟩ <;> rfl
theorem PreC.tag {h : Heap} {v : AV} {l : List α} (hr : PreC h v l) : lenTag 1 v = true := by
  rcases hr with ⟨rfl, rfl⟩ | ⟨o, ep, j, rfl, -⟩ <;> rfl
theorem PreC.sl {h : Heap} {v : AV} {l : List α} (hr : PreC h v l) : isSl v = true := by
  rcases hr with ⟨rfl, -⟩ | ⟨o, ep, j, rfl, -⟩ <;> rfl
theorem PreC.keep {h h' : Heap} {v : AV} {l : List α} (hr : PreC h v l) (hk : ∀ o, rowOf v = some o → h'.get o = h.get o) : PreC h' v l := by
  rcases hr with h1 | ⟨o, ep, j, rfl, hg⟩
  · exact Or.inl h1
  · exact Or.inr ⟨o, ep, j, rfl, by rw [hk o rfl]; exact hg⟩
theorem RowC.pre {h : Heap} {v : AV} {l : List α} (hr : RowC h v l) : PreC h v l := by
  rcases hr with h1 | ⟨o, ep, rfl, hg⟩
  · exact Or.inl h1
  · exact Or.inr ⟨o, ep, [], rfl, by simpa using hg⟩
theorem addsC_pre {h : Heap} {v : AV} {l : List α} (hr : PreC h v l) : AddsC h v l := by
  rcases hr with ⟨rfl, rfl⟩ | ⟨o, ep, j, rfl, hg⟩
  · exact ⟨rfl, rfl⟩
  · refine ⟨rfl, ?_⟩
    simp only [cellsAt, nble, nbeq, Nat.le_refl, decide_true, Bool.and_self, cond_true, hg, Nat.zero_mul, sub_eq, dropN_zero, Option.bind_some]
    rw [← flatC_len, takeN_app]
theorem appP_row {s : St} {o' e bytes : Nat} {v y : AV} {l new : List α} (hr : PreC s.h v l) (hy : AddsC s.h y new) (he : csz α = e) (hb : (l.length + new.length) * bytes ≤ two47) :
    ∃ v' h', appA s o' e bytes v y = some (v', { s with h := h' }) ∧ PreC h' v' (l ++ new) ∧ h'.next = s.h.next ∧ (rowOf v' = rowOf v ∨ rowOf v' = some o') ∧ (∀ q, q ≠ o' → rowOf v ≠ some q → h'.get q = s.h.get q) ∧ (new ≠ [] ∨ v ≠ .nils → v' ≠ .nils) := by
  subst he
  obtain ⟨h1, h2⟩ := hy
  unfold appA
  rw [h1]
  simp only [Option.bind_some, h2]
  by_cases hn : new.length = 0
  · have hnew : new = [] := List.length_eq_zero_iff.1 hn
    subst hnew
    simp only [List.length_nil, nbeq, decide_true, cond_true]
    rw [hr.sl]
    exact ⟨v, s.h, rfl, by simpa using hr, rfl, Or.inl rfl, fun q _ _ => rfl, fun h => h.elim (fun h => absurd rfl h) id⟩
  · simp only [nbeq, hn, decide_false, cond_false]
    rcases hr with ⟨rfl, rfl⟩ | ⟨o, ep, j, rfl, hg⟩
    · simp only [List.length_nil, Nat.zero_add] at hb
      simp only [nble, hb, decide_true, cond_true, newRowA, List.nil_append]
      refine ⟨_, _, rfl, Or.inr ⟨o', 0, [], rfl, by rw [get_put_same]; simp⟩, rfl, Or.inr rfl, fun q hq _ => get_put_ne _ _ _ _ hq, fun _ => by simp⟩
    · simp only [hg, nbeq, nble, hb, decide_true, Bool.and_self, cond_true, cond_false, Nat.zero_add]
      by_cases hc : (l.length + new.length) * csz α ≤ (l.flatMap ccells ++ j).length
      · simp only [hc, decide_true, cond_true]
        have hj : (new.flatMap ccells).length ≤ j.length := by
          rw [flatC_len]
          rw [List.length_append, flatC_len, Nat.add_mul] at hc
          omega
        rw [← flatC_len l, over_app, over0_pre _ _ hj]
        simp only [Option.bind_some]
        refine ⟨_, _, rfl, Or.inr ⟨o, ep, j.drop (new.flatMap ccells).length, by simp, by rw [get_put_same]; simp⟩, rfl, Or.inl rfl, fun q _ hq => get_put_ne _ _ _ _ (fun e => hq (by simp [rowOf, e])), fun _ => by simp⟩
      · simp only [hc, decide_false, cond_false, Nat.zero_mul, sub_eq, dropN_zero, Option.bind_some]
        rw [← flatC_len l, takeN_app]
        simp only [Option.bind_some]
        refine ⟨_, _, rfl, Or.inr ⟨o, ep + 1, [], by simp, ?_⟩, rfl, Or.inl rfl, fun q _ hq => get_put_ne _ _ _ _ (fun e => hq (by simp [rowOf, e])), fun _ => by simp⟩
        rw [get_put_same]; simp
theorem stepP_app {P : Prog} {base : Nat} {K : St → Prop} {fr : Fr} {st : Nat} {h : Heap} {o' e bytes : Nat} {v y : AV} {l new : List α} {d : Option Nat} {r : List AOper} (hr : PreC h v l) (hy : AddsC h y new) (he : csz α = e) (hb : (l.length + new.length) * bytes ≤ two47)
    (H : ∀ v' h', PreC h' v' (l ++ new) → h'.next = h.next → (rowOf v' = rowOf v ∨ rowOf v' = some o') → (∀ q, q ≠ o' → rowOf v ≠ some q → h'.get q = h.get q) → (new ≠ [] ∨ v ≠ .nils → v' ≠ .nils) → WO P base r { fr := setD fr d v', st := st, h := h' } K) :
    stepS P base (appA { fr := fr, st := st, h := h } o' e bytes v y) d r K := by
  obtain ⟨v', h', e1, e2, e3, e4, e5, e6⟩ := appP_row (s := { fr := fr, st := st, h := h }) (o' := o') hr hy he hb
  rw [e1]
  exact H v' h' e2 e3 e4 e5 e6
theorem dSP_app {P : Prog} {base st0 : Nat} {all : List DItem} {live : List Nat} {Q : AExit → St → Prop} {s : St} {fr : Fr} {st : Nat} {h : Heap} {o' e bytes : Nat} {v y : AV} {l new : List α} {d : Option Nat} {r : List DItem} (hr : PreC h v l) (hy : AddsC h y new) (he : csz α = e) (hb : (l.length + new.length) * bytes ≤ two47)
    (H : ∀ v' h', PreC h' v' (l ++ new) → h'.next = h.next → (rowOf v' = rowOf v ∨ rowOf v' = some o') → (∀ q, q ≠ o' → rowOf v ≠ some q → h'.get q = h.get q) → (new ≠ [] ∨ v ≠ .nils → v' ≠ .nils) → WD P base st0 all r live { fr := setD s.fr d v', st := s.st, h := h' } Q) :
    dS P base st0 all (appA { fr := fr, st := st, h := h } o' e bytes v y) d [] r live s Q := by
  obtain ⟨v', h', e1, e2, e3, e4, e5, e6⟩ := appP_row (s := { fr := fr, st := st, h := h }) (o' := o') hr hy he hb
  rw [e1, dS_some]
  exact H v' h' e2 e3 e4 e5 e6
theorem ld_pre {l : List α} {j : List AV} {k : Nat} (hk : k < l.length) : ((dropN (k * csz α) (l.flatMap ccells ++ j)).bind fun r => takeN (csz α) r) = some (ccells (l.getD k default)) := by
  have hs : l = l.take k ++ (l.getD k default :: l.drop (k + 1)) := by
    have : l.getD k default = l[k] := by rw [List.getD_eq_getElem?_getD, List.getElem?_eq_getElem hk]; rfl
    rw [this, ← List.drop_eq_getElem_cons hk, List.take_append_drop]
  have h1 : l.flatMap ccells ++ j = (l.take k).flatMap ccells ++ (ccells (l.getD k default) ++ ((l.drop (k + 1)).flatMap ccells ++ j)) := by
    conv => lhs; rw [hs]
    simp
  have h2 : ((l.take k).flatMap ccells).length = k * csz α := by rw [flatC_len, List.length_take, Nat.min_eq_left (Nat.le_of_lt hk)]
  rw [h1, ← h2, dropN_app, Option.bind_some]
  have h3 : csz α = (ccells (l.getD k default)).length := (clen _).symm
  rw [h3, takeN_app]
def slN : Option Nat → Option Nat → Option AV
  | some 0, some 0 => some .nils
  | _, _ => none
@[go_sem] theorem slN_00 : slN (some 0) (some 0) = some .nils := rfl
@[go_sem] theorem sliceA_nilsH (fr : Fr) (z : Nat) (lo hi : Option Opd) : sliceA fr (some z) .nils lo hi none = slN (bound fr lo 0) (bound fr hi 0) := by
  simp only [sliceA]
  cases bound fr lo 0 with
  | none => rfl
  | some a =>
    cases bound fr hi 0 with
    | none => cases a <;> rfl
    | some b => cases a <;> cases b <;> rfl
end Go.Am
/- Runs in which the order of a map's entries is the model's to choose: whichever it is. Own work. -/
namespace Go.Am
variable {L : Link} {g g' g'' : Gh} {w w' w'' : World} {Λ Λ' Λ'' : Nat → Option Nat}
def LoopIn (P : Program) (c : Code) (Q : Exit → Act → World → Prop) (a : Act) (w : World) : Prop :=
  ∀ b k cs, ∃ e a' w', Q e a' w' ∧ Arrives P (lone (b.at a (.code c :: .inLoop c :: k)) cs w) b k cs e a' w'
theorem wp_of_loopIn {P : Program} {c : Code} {Q : Exit → Act → World → Prop} {a : Act} {w : World} (h : LoopIn P c Q a w) : (Code.loop c).wp P Q a w := by
  intro b k cs
  obtain ⟨e, a', w', hq, harr⟩ := h b k cs
  exact ⟨e, a', w', hq, .of_steps (.one step_loop) harr⟩
theorem loopIn_step {P : Program} {c : Code} {Q : Exit → Act → World → Prop} {a : Act} {w : World} (h : c.wp P (Exit.then (LoopIn P c Q) Q) a w) : LoopIn P c Q a w := by
  intro b k cs
  obtain ⟨e, a₁, w₁, hq, harr⟩ := h b (.inLoop c :: k) cs
  cases e with
  | normal =>
    obtain ⟨e₂, a₂, w₂, hq₂, harr₂⟩ := hq b k cs
    exact ⟨e₂, a₂, w₂, hq₂, .of_steps (Steps.trans harr (.one step_inLoop)) harr₂⟩
  | exit id => exact ⟨_, a₁, w₁, hq, .pass (x := .inLoop c) rfl (fun _ _ => .inl (by simp)) harr⟩
  | goto l => exact ⟨_, a₁, w₁, hq, .pass (x := .inLoop c) rfl (fun _ _ => .inl (by simp)) harr⟩
  | ret => exact ⟨_, a₁, w₁, hq, .pass (x := .inLoop c) rfl (fun _ _ => .inl (by simp)) harr⟩
  | panic ch => exact ⟨_, a₁, w₁, hq, .pass (x := .inLoop c) rfl (fun _ _ => .inl (by simp)) harr⟩
  | outgrown => exact ⟨_, a₁, w₁, hq, .pass (x := .inLoop c) rfl (fun _ _ => .inl (by simp)) harr⟩
theorem loopIn_rounds {P : Program} {c : Code} {Q : Exit → Act → World → Prop} : ∀ (n : Nat) {a : Act} {w : World}, Code.rounds P c Q n a w → LoopIn P c Q a w
  | 0, _, _, h => h.elim
  | n + 1, a, w, h => loopIn_step (Code.wp_mono (fun e a w q => by cases e <;> first | exact q | exact loopIn_rounds n q) h)
def nextsL (s : St) (o m since : Nat) (seen : List Nat) (ck : Nat) (left : List (Nat × AV × AV)) : List (AV × St) :=
  if left.isEmpty then [(.tup [.bool false], s)] else left.map fun p => (.tup [.bool true, p.2.1, p.2.2], { s with h := s.h.put o (.miter (some m) since (seen ++ [p.1]) ck) })
def nexts (s : St) : AV → Option (List (AV × St))
  | .ptr o 0 => match s.h.get o with
    | some (.miter (some m) since seen st) => match s.h.get m with
      | some (.map es bs ck) => if allBel since bs && Nat.ble since st then some (nextsL s o m since seen ck (leftA seen bs es)) else none
      | _ => none
    | _ => none
  | _ => none
theorem next_many (P : Program) (w : World) (ty : TypeId) (r bm since c0 : Nat) (seen : Array Nat) (es : Array MapEntry) (clock : Nat)
    (hr : w.heap[r]? = some (.mapIter (some bm) since seen c0)) (hb : w.heap[bm]? = some (.map es clock)) (hold : ∀ x ∈ es.toList, x.born < since) (hsc : since ≤ c0) (hne : leftOf es seen ≠ #[]) :
    ∃ e d, e ∈ (leftOf es seen).toList ∧ (Instr.next (.pointer (some ⟨r, 0, none⟩)) false ty).run P w = .ok (.tuple #[.bool true, e.key, e.val]) (World.setO { w with drawn := d } r (.mapIter (some bm) since (seen.push e.born) clock)) := by
  have hlt : r < w.heap.size := (Array.getElem?_eq_some_iff.1 hr).1
  simp only [Instr.next, getObj, Sem.run_bind, Sem.run, hr, hb, Result.andThen, next_test_false seen es since c0 hold hsc, Bool.false_eq_true, if_false]
  unfold leftOf at hne ⊢
  have hmem : ∀ x ∈ (Array.filter (fun e => !seen.contains e.born) es).toList, x.born < since := fun x hx => hold x (by simp at hx ⊢; exact hx.1)
  generalize Array.filter (fun e => !seen.contains e.born) es = L at hmem hne ⊢
  have e1 : L.filter (fun x => decide (x.born < since)) = L := Array.filter_eq_self.2 (fun x hx => by simpa using hmem x (by simpa using hx))
  have e2 : L.filter (fun x => decide (x.born ≥ since)) = #[] := by
    rw [Array.filter_eq_empty_iff]
    intro x hx
    have := hmem x (by simpa using hx)
    simp
    omega
  have hne' : L.isEmpty = false := by simpa using hne
  have hsz : 0 < L.size := Array.size_pos_iff.2 hne
  simp only [e1, e2, Array.append_empty, hne', Bool.false_eq_true, if_false, Array.empty_append, Array.size_map]
  have fin : ∀ (j d : Nat) (hj : j < L.size), ∃ e d', e ∈ L.toList ∧ ((match (L.map some)[j]? with
      | some (some e) => (do setObj r (.mapIter (some bm) since (seen.push e.born) clock); pure (.tuple #[.bool true, e.key, e.val]) : Sem Value)
      | some none => pure (.tuple #[.bool false])
      | none => stuck "Next: no such candidate").run P { w with drawn := d }) = .ok (.tuple #[.bool true, e.key, e.val]) (World.setO { w with drawn := d' } r (.mapIter (some bm) since (seen.push e.born) clock)) := fun j d hj => by
    refine ⟨L[j], d, by simp, ?_⟩
    rw [Array.getElem?_map, Array.getElem?_eq_getElem hj]
    simp [setObj, Sem.run, hr, World.setO]
  by_cases h1 : L.size ≤ 1
  · have hq : (Question.mapNext L.size).forced = true := by simp [Question.forced, h1]
    obtain ⟨e, d', he, hrun⟩ := fin 0 w.drawn hsz
    refine ⟨e, d', he, ?_⟩
    rw [← hrun]
    simp only [choose, Sem.run, Sem.run_bind, hq, if_true, Result.andThen]
    rfl
  · have hq : (Question.mapNext L.size).forced = false := by simp only [Question.forced, decide_eq_false_iff_not]; omega
    obtain ⟨e, d', he, hrun⟩ := fin ((Question.mapNext L.size).cut (w.tape w.drawn (Question.mapNext L.size))) (w.drawn + 1) (by simp only [Question.cut]; exact Nat.mod_lt _ hsz)
    refine ⟨e, d', he, ?_⟩
    rw [← hrun]
    simp only [choose, Sem.run, Sem.run_bind, hq, Bool.false_eq_true, if_false, Result.andThen]
    rfl
theorem SimS.drawn {s : St} {tmps : Array Value} (d : Nat) (h : SimS L g w Λ s tmps) : SimS L g { w with drawn := d } Λ s tmps := by
  have k : Keeps g w g { w with drawn := d } := ⟨fun _ _ _ h => h, fun _ h => ⟨h, rfl⟩, rfl, rfl, rfl⟩
  exact ⟨⟨fun o x ho => (h.heap.obj o x ho).mono k (fun _ hb => ⟨hb, rfl⟩) (Nat.le_refl _) (fun _ he => he), h.heap.lt, h.heap.fresh⟩, h.fr.mono k (fun _ _ _ hb => ⟨hb, rfl⟩) (Nat.le_refl _)⟩
theorem nexts_run {s : St} {act : Act} {o : Oper} {x : Operand} {a : AV} {rs : List (AV × St)} (h : SimS L g w Λ s act.tmps) (hi : ∀ d, o.dst = some d → d < act.tmps.size)
    (ho : o.op = .next x false) (hx : VR L g w a (act.eval x)) (hr : nexts s a = some rs) :
    ∃ v r s' w', (r, s') ∈ rs ∧ Ran L o act w v w' ∧ Post L g w Λ act o.dst r s s' (fun _ => False) v w' g Λ := by
  have hrun : ∀ v w1, (Instr.next (act.eval x) false o.type).run L.P w = .ok v w1 → Ran L o act w v w1 := fun v w1 hC => by
    left
    simp only [execOp, ho, Sem.run_bind, hC, Result.andThen_ok]
    rfl
  unfold nexts at hr
  split at hr
  · rename_i ob
    split at hr
    · rename_i m since seen st hob
      split at hr
      · rename_i es bs ck hom
        split at hr
        · rename_i hc
          simp only [Option.some.injEq] at hr
          subst hr
          obtain ⟨bk, bm, h1, h2, h3, b', h4, rfl⟩ := h.heap.obj _ _ hob
          obtain ⟨b2, ms, k1, k2, k3, ⟨k4, k5⟩, k6⟩ := h.heap.obj _ _ hom
          rw [k1] at h4
          simp only [Option.some.injEq, Prod.mk.injEq, Addr.mk.injEq] at h4
          obtain ⟨⟨rfl, -, -⟩, -, -⟩ := h4
          have hv := ptr_at h1 hx
          have hlt : bk < w.heap.size := (Array.getElem?_eq_some_iff.1 h3).1
          simp only [Bool.and_eq_true, nble, decide_eq_true_eq] at hc
          have hold : ∀ y ∈ ms.toList, y.born < since := fun y hy => allBel_spec hc.1 _ (by rw [← k5]; exact List.mem_map.2 ⟨y, hy, rfl⟩)
          obtain ⟨l1, l2⟩ := left_rel (seen := seen) bs es ms.toList k5 (by simpa using k4) (fun i k v m h5 h6 => k6 i k v m h5 (by simpa using h6))
          have eL : (leftOf ms seen.toArray).toList = ms.toList.filter fun e => !seen.contains e.born := by
            unfold leftOf
            rw [Array.toList_filter]
            congr 1
            funext e
            rw [List.contains_toArray]
          rw [← eL] at l1 l2
          rw [hv] at hrun
          by_cases he : leftOf ms seen.toArray = #[]
          · obtain ⟨n0, -⟩ := next_one L.P w o.type bk b2 since st seen.toArray ms ck h3 k3 hold hc.2
            have hla : leftA seen bs es = [] := List.length_eq_zero_iff.1 (by rw [l1, he]; rfl)
            refine ⟨_, .tup [.bool false], s, w, ?_, hrun _ _ (n0 he), Post.same h hi (vr_slot vr_over) (by simp)⟩
            rw [hla]
            simp [nextsL]
          · obtain ⟨e, d, hmem, hrn⟩ := next_many L.P w o.type bk b2 since st seen.toArray ms ck h3 k3 hold hc.2 he
            obtain ⟨j, hj⟩ := List.mem_iff_getElem?.1 hmem
            have hjl : j < (leftA seen bs es).length := by rw [l1]; exact (List.getElem?_eq_some_iff.1 hj).1
            obtain ⟨p, hp⟩ : ∃ p, (leftA seen bs es)[j]? = some p := ⟨_, List.getElem?_eq_getElem hjl⟩
            obtain ⟨b1, pk, pv⟩ := p
            obtain ⟨rfl, g1, g2⟩ := l2 j b1 pk pv e hp hj
            have hne : (leftA seen bs es).isEmpty = false := by
              cases hq : leftA seen bs es with
              | nil => rw [hq] at hjl; simp at hjl
              | cons _ _ => rfl
            have hs' := h.drawn d
            have k0 : Keeps g w g { w with drawn := d } := ⟨fun _ _ _ h => h, fun _ h => ⟨h, rfl⟩, rfl, rfl, rfl⟩
            have k : Keeps g { w with drawn := d } g (World.setO { w with drawn := d } bk (.mapIter (some b2) since (seen.toArray.push e.born) ck)) := ⟨fun _ _ _ h => h, fun i hi => ⟨hi, setO_ne _ _ _ _ (fun e => by subst e; rw [h2] at hi; simp at hi)⟩, rfl, rfl, rfl⟩
            have P1 : Post L g { w with drawn := d } Λ act o.dst (.tup [.bool true, pk, pv]) s { s with h := s.h.put ob (.miter (some m) since (seen ++ [e.born]) ck) } (fun _ => False) (.tuple #[.bool true, e.key, e.val]) (World.setO { w with drawn := d } bk (.mapIter (some b2) since (seen.toArray.push e.born) ck)) g Λ :=
              post_setO hs' h2 ⟨0, _, h1⟩ ⟨bk, some b2, h1, h2, by rw [setO_at _ _ _ (by exact hlt)]; congr 2; simp, b2, k1, rfl⟩ hi (vr_slot (((vr_three g1 g2).mono k0).mono k)) (by simp)
            refine ⟨_, .tup [.bool true, pk, pv], _, _, ?_, hrun _ _ hrn, ⟨P1.heap, P1.fr, ?_, P1.size, P1.new, P1.next⟩⟩
            · unfold nextsL
              rw [hne]
              simp only [Bool.false_eq_true, if_false]
              exact List.mem_map.2 ⟨(e.born, pk, pv), List.mem_of_getElem? hp, rfl⟩
            · exact (⟨k0, fun b hb hn => ⟨hb, rfl, hn⟩⟩ : Adv g w Λ g { w with drawn := d } Λ).trans P1.adv
        · simp at hr
      · simp at hr
    · simp at hr
  · simp at hr
inductive WX (P : Prog) : ACode → St → (AExit → St → Prop) → Prop where
  | det {c : ACode} {s : St} {Q : AExit → St → Prop} (h : Wp P c s Q) : WX P c s Q
  | seq {a b : ACode} {s : St} {R Q : AExit → St → Prop} (h : WX P a s R) (hn : ∀ s', R .normal s' → WX P b s' Q) (he : ∀ e s', e ≠ .normal → R e s' → Q e s') : WX P (.seq a b) s Q
  | block {i : Nat} {a : ACode} {s : St} {R Q : AExit → St → Prop} (h : WX P a s R) (hq : ∀ e s', R e s' → blockQ i Q e s') : WX P (.block i a) s Q
  | cond {c : Opd} {a b : ACode} {s : St} {t : Bool} {Q : AExit → St → Prop} (hc : c.ev s.fr = some (.bool t)) (h : WX P (if t then a else b) s Q) : WX P (.cond c a b) s Q
  | loop {a : ACode} {s : St} {R Q : AExit → St → Prop} (h : WX P a s R) (hn : ∀ s', R .normal s' → WX P (.loop a) s' Q) (he : ∀ e s', e ≠ .normal → R e s' → Q e s') : WX P (.loop a) s Q
  | next {d : Option Nat} {x : Opd} {rest : List AOper} {live : List Nat} {s : St} {a : AV} {rs : List (AV × St)} {Q : AExit → St → Prop} (hx : x.ev s.fr = some a) (hr : nexts s a = some rs)
      (h : ∀ v s1, (v, s1) ∈ rs → WO P s.h.next rest { s1 with fr := setD s1.fr d v } (fun s' => Q .normal { s' with fr := keep s'.fr live })) : WX P (.reg 0 (⟨d, .next false x, none⟩ :: rest) live) s Q
def After (L : Link) (g : Gh) (w : World) (Λ : Nat → Option Nat) (N sz : Nat) (act : Act) (Q : AExit → St → Prop) (K : Exit → Act → World → Prop) : Prop :=
  ∀ e s', Q e s' → ∀ act' w' g' Λ', SimS L g' w' Λ' s' act'.tmps → act'.tmps.size = sz → act'.defers = act.defers → Rn g w Λ N g' w' Λ' s'.h.next → K (endOf e) act' w'
theorem wx_sim {PA : Prog} (hall : AllFn L) (hm : L.P.follows .mixedOrders = true) (hf : ∀ n fn, PA.fn n = some fn → FnSim L n fn) (hp : CallSim L PA.prim) {ac : ACode} {s : St} {Q : AExit → St → Prop} (hx : WX PA ac s Q) :
    ∀ (c : Code) (act : Act) (w : World) (g : Gh) (Λ : Nat → Option Nat) (nt sz : Nat) (K : Exit → Act → World → Prop), chkCode L nt c ac = true → SimS L g w Λ s act.tmps → nt ≤ sz → act.tmps.size = sz → After L g w Λ s.h.next sz act Q K →
      c.wp L.P K act w ∧ ∀ x a, ac = .loop a → chkCode L nt x a = true → LoopIn L.P x K act w := by
  have scp : ∀ {ac : ACode} {nt sz : Nat} {act : Act} {w : World} {g : Gh} {Λ : Nat → Option Nat} {N : Nat} {Q : AExit → St → Prop} {K : Exit → Act → World → Prop} (c : Code),
      (∀ c : Code, (∀ c', c ≠ .scope c') → ∀ K, chkCode L nt c ac = true → After L g w Λ N sz act Q K → c.wp L.P K act w) → (∀ c, chkCode L nt (.scope c) ac = true → chkCode L nt c ac = true) → chkCode L nt c ac = true → After L g w Λ N sz act Q K → c.wp L.P K act w := by
    intro ac nt sz act w g Λ N Q K c hmain hsc
    induction c generalizing K with
    | scope c ihc =>
      intro hc hK
      refine wp_scope_straight (ihc (hsc c hc) ?_)
      intro e s' hq act' w' g' Λ' q1 q2 q3 q4
      have := hK e s' hq act' w' g' Λ' q1 q2 q3 q4
      cases e <;> exact this
    | _ => exact hmain _ (by simp) K
  induction hx with
  | @det ac s Q h =>
    intro c act w g Λ nt sz K hc hs hn hz hK
    obtain ⟨n, e, s', h1, h2⟩ := h
    refine ⟨exec_sim hall hm hf hp n c ac s e s' act w g Λ nt sz K h1 hc hs hn hz (hK e s' h2), fun x a ha hxa => ?_⟩
    subst ha
    exact loopIn_rounds n (loop_rounds hxa hn n (fun m _ => exec_sim hall hm hf hp m) s e s' act w g Λ K h1 hs hz (hK e s' h2))
  | @seq a b s R Q h hn he ih ihn =>
    intro c act w g Λ nt sz K hc hs hnt hz hK
    refine ⟨scp c (fun c hns K hc hK => ?_) (fun c hc => by simpa only [chkCode] using hc) hc hK, fun x a ha => by cases ha⟩
    cases c <;> first | (exact absurd rfl (hns _)) | (simp only [chkCode, Bool.false_eq_true, Bool.and_eq_true] at hc)
    rename_i x y
    refine wp_seq ((ih x act w g Λ nt sz _ hc.1 hs hnt hz ?_).1)
    intro e s' hr act' w' g' Λ' q1 q2 q3 q4
    cases e with
    | normal =>
      simp only [endOf, Exit.then]
      refine (ihn s' hr y act' w' g' Λ' nt sz K hc.2 q1 hnt q2 ?_).1
      intro e s'' hq act'' w'' g'' Λ'' p1 p2 p3 p4
      exact hK e s'' hq act'' w'' g'' Λ'' p1 p2 (p3.trans q3) (q4.trans p4)
    | exit i => exact hK _ s' (he _ _ (by simp) hr) act' w' g' Λ' q1 q2 q3 q4
    | ret => exact hK _ s' (he _ _ (by simp) hr) act' w' g' Λ' q1 q2 q3 q4
  | @block i a s R Q h hq ih =>
    intro c act w g Λ nt sz K hc hs hnt hz hK
    refine ⟨scp c (fun c hns K hc hK => ?_) (fun c hc => by simpa only [chkCode] using hc) hc hK, fun x a ha => by cases ha⟩
    cases c <;> first | (exact absurd rfl (hns _)) | (simp only [chkCode, Bool.false_eq_true, Bool.and_eq_true] at hc)
    rename_i j x
    obtain ⟨hij, hc2⟩ := hc
    rw [nbeq] at hij
    have hij : j = i := by simpa using hij
    subst hij
    refine wp_block ((ih x act w g Λ nt sz _ hc2 hs hnt hz ?_).1)
    intro e s' hr act' w' g' Λ' q1 q2 q3 q4
    have hb := hq e s' hr
    cases e with
    | normal => exact hK .normal s' hb act' w' g' Λ' q1 q2 q3 q4
    | exit k =>
      by_cases hk : k = j
      · subst hk
        simp only [endOf, Exit.inBlock, if_true]
        have hb' : Q .normal s' := by simpa [blockQ] using hb
        exact hK .normal s' hb' act' w' g' Λ' q1 q2 q3 q4
      · have hb' : Q (.exit k) s' := by simpa [blockQ, hk] using hb
        simp only [endOf, Exit.inBlock, hk, if_false]
        exact hK (.exit k) s' hb' act' w' g' Λ' q1 q2 q3 q4
    | ret => exact hK .ret s' hb act' w' g' Λ' q1 q2 q3 q4
  | @cond cc a b s t Q hcc h ih =>
    intro c act w g Λ nt sz K hc hs hnt hz hK
    refine ⟨scp c (fun c hns K hc hK => ?_) (fun c hc => by simpa only [chkCode] using hc) hc hK, fun x a ha => by cases ha⟩
    cases c <;> first | (exact absurd rfl (hns _)) | (simp only [chkCode, Bool.false_eq_true, Bool.and_eq_true] at hc)
    rename_i x c1 c2
    have hv := ev_vr hc.1.1 hs.fr hcc (by simp)
    generalize hxv : act.eval x = u at hv
    cases hv
    cases t with
    | true => exact wp_cond_true hxv ((ih c1 act w g Λ nt sz K hc.1.2 hs hnt hz hK).1)
    | false => exact wp_cond_false hxv ((ih c2 act w g Λ nt sz K hc.2 hs hnt hz hK).1)
  | @loop a s R Q h hn he ih ihn =>
    intro c act w g Λ nt sz K hc hs hnt hz hK
    have loopIn : ∀ K, After L g w Λ s.h.next sz act Q K → ∀ x, chkCode L nt x a = true → LoopIn L.P x K act w := fun K hK x hxa => by
      refine loopIn_step ((ih x act w g Λ nt sz _ hxa hs hnt hz ?_).1)
      intro e s' hr act' w' g' Λ' q1 q2 q3 q4
      cases e with
      | normal =>
        simp only [endOf, Exit.then]
        refine (ihn s' hr (.loop x) act' w' g' Λ' nt sz K (by simpa only [chkCode] using hxa) q1 hnt q2 ?_).2 x a rfl hxa
        intro e s'' hq act'' w'' g'' Λ'' p1 p2 p3 p4
        exact hK e s'' hq act'' w'' g'' Λ'' p1 p2 (p3.trans q3) (q4.trans p4)
      | exit i => exact hK _ s' (he _ _ (by simp) hr) act' w' g' Λ' q1 q2 q3 q4
      | ret => exact hK _ s' (he _ _ (by simp) hr) act' w' g' Λ' q1 q2 q3 q4
    refine ⟨scp c (fun c hns K hc hK => ?_) (fun c hc => by simpa only [chkCode] using hc) hc hK, fun x a' ha hxa => by cases ha; exact loopIn K hK x hxa⟩
    cases c <;> first | (exact absurd rfl (hns _)) | (simp only [chkCode, Bool.false_eq_true, Bool.and_eq_true] at hc)
    rename_i x
    exact wp_of_loopIn (loopIn K hK x hc)
  | @next d x rest live s a rs Q hxe hr h =>
    intro c act w g Λ nt sz K hc hs hnt hz hK
    refine ⟨scp c (fun c hns K hc hK => ?_) (fun c hc => by simpa only [chkCode] using hc) hc hK, fun x a ha => by cases ha⟩
    cases c with
    | region id os dd =>
      cases dd with
      | true => simp [chkCode] at hc
      | false =>
        simp only [chkCode, regOk, Bool.and_eq_true] at hc
        obtain ⟨⟨k1, k2⟩, k3⟩ := hc
        obtain ⟨e1, e2⟩ := opersOk_spec k1
        have e3 : List.range os.size = List.range' 0 (rest.length + 1) := by rw [show rest.length + 1 = os.size by rw [← Array.length_toList, e1]; rfl, List.range_eq_range']
        refine wp_region ?_
        rw [e3]
        obtain ⟨o, ho, hop⟩ := e2 0 _ rfl
        have ho' : os[0]? = some o := by simpa using ho
        have hop' := operOk_mono hnt hop
        simp only [operOk, Bool.and_eq_true, Bool.or_eq_true] at hop'
        obtain ⟨⟨⟨h1, h2⟩, h3⟩, h4⟩ := hop'
        have hdst := eqDst_spec h1
        have hd : ∀ d, o.dst = some d → d < act.tmps.size := fun d hd => by
          rw [hd] at h2
          simp only [dstLt, nblt, decide_eq_true_eq] at h2
          rw [hz]; exact h2
        have hwant := wanted_run h3 hs.fr (show wantedA s.fr none = some true from rfl)
        have h4' : chkOp L o.op (.next false x) = true := by
          rcases h4 with h4 | h4
          · exact h4
          · simp [callOk] at h4
        simp only [chkOp] at h4'
        obtain ⟨x', hx', ho3⟩ : ∃ x', o.op = .next x' false ∧ opdOk L x' x = true := by
          split at h4'
          · rename_i x' b ho3
            simp only [Bool.and_eq_true, beq_iff_eq] at h4'
            obtain ⟨h5, h6⟩ := h4'
            first
              | (subst h5; exact ⟨x', ho3, h6⟩)
              | (subst h6; exact ⟨x', ho3, h5⟩)
          · simp at h4'
        have hnp : ∀ p q z, a ≠ .lptr p q z := by intro p q z e; subst e; simp [nexts] at hr
        obtain ⟨v, r, s1, w1, hmem, p1, p2⟩ := nexts_run hs hd hx' (ev_vr ho3 hs.fr hxe hnp) hr
        have hwo := h r s1 hmem
        obtain ⟨n, s2, hops, hQ⟩ := hwo
        simp only [List.range'_succ, wpOps, ho', Nat.zero_add]
        rw [hwant]
        simp only [if_true]
        left
        have hsim : SimS L g w1 Λ { s1 with fr := setD s1.fr d r } (act.put o.dst v).tmps := ⟨p2.heap, by rw [← hdst]; exact p2.fr⟩
        have fin : wpOps L.P os K (List.range' 1 rest.length) (act.put o.dst v) w1 := by
          refine sim_ops (nt := sz) (base := s.h.next) (callP_sim (exec_sim hall hm hf hp n) hf hp) hall rest 1 _ s2 _ w1 g Λ hops (fun i ao hi => ?_) hsim (by rw [put_size]; exact hz) (by show s.h.next ≤ s1.h.next; rw [p2.next]; exact Nat.le_refl _) (fun j hj => ?_) ?_ ?_
          · obtain ⟨o2, ho2, hok2⟩ := e2 (i + 1) ao (by simpa using hi)
            exact ⟨o2, by rw [Nat.add_comm]; simpa using ho2, operOk_mono hnt hok2⟩
          · have := allLt_spec k3 j (by unfold allocsOf at hj ⊢; rw [List.filterMap_cons]; exact hj)
            omega
          · have := nodupB_spec k2
            unfold allocsOf at this ⊢
            rwa [List.filterMap_cons] at this
          · intro act' w' g' Λ' q1 q2 q3 q4
            have hK' := hK .normal _ hQ act' w' g' Λ' (q1.keep live) q2 (by rw [q3, put_defers])
            refine hK' ⟨p2.adv.trans q4.adv, Nat.le_trans p2.size q4.size, fun o ho hn => q4.new o ho (p2.new o hn (fun h => h)), q4.next⟩
        unfold Oper.wp
        rcases p1 with p1 | ⟨p1, rfl⟩
        · rw [p1, Oper.upon_value]; exact fin
        · rw [p1, Oper.upon_skip]; exact fin
    | scope c' => exact absurd rfl (hns _)
    | _ => simp [chkCode] at hc
end Go.Am
/- Calls in which a map's order is the model's to choose; functions whose answer is told by such a run. Own work. -/
namespace Go.Am
variable {L : Link} {g g' g'' : Gh} {w w' w'' : World} {Λ Λ' Λ'' : Nat → Option Nat} {P : Prog}
theorem WX.mono {c : ACode} {s : St} {Q Q' : AExit → St → Prop} (h : WX P c s Q) (hq : ∀ e s', Q e s' → Q' e s') : WX P c s Q' := by
  induction h generalizing Q' with
  | det h => exact .det (h.mono hq)
  | seq h hn he _ ihn => exact .seq h (fun s' hs => ihn s' hs hq) (fun e s' hne hr => hq e s' (he e s' hne hr))
  | block h hb _ => exact .block h (fun e s' hr => by
      have := hb e s' hr
      cases e with
      | normal => exact hq _ _ this
      | exit j =>
        simp only [blockQ] at this ⊢
        revert this
        cases Nat.beq j _ <;> exact fun this => hq _ _ this
      | ret => exact hq _ _ this)
  | cond hc _ ih => exact .cond hc (ih hq)
  | loop h hn he _ ihn => exact .loop h (fun s' hs => ihn s' hs hq) (fun e s' hne hr => hq e s' (he e s' hne hr))
  | next hx hr h => exact .next hx hr (fun v s1 hm => by
      obtain ⟨n, s', h1, h2⟩ := h v s1 hm
      exact ⟨n, s', h1, hq _ _ h2⟩)
def seqX (P : Prog) (b : ACode) (Q : AExit → St → Prop) : AExit → St → Prop
  | .normal, s => WX P b s Q
  | e, s => Q e s
@[go_sem] theorem seqX_normal {b : ACode} {Q : AExit → St → Prop} {s : St} : seqX P b Q .normal s = WX P b s Q := rfl
@[go_sem] theorem seqX_exit {b : ACode} {Q : AExit → St → Prop} {s : St} {i : Nat} : seqX P b Q (.exit i) s = Q (.exit i) s := rfl
@[go_sem] theorem seqX_ret {b : ACode} {Q : AExit → St → Prop} {s : St} : seqX P b Q .ret s = Q .ret s := rfl
theorem WX_seq {a b : ACode} {s : St} {Q : AExit → St → Prop} (h : WX P a s (seqX P b Q)) : WX P (.seq a b) s Q :=
  .seq h (fun s' hr => hr) (fun e s' hne hr => by cases e <;> first | exact absurd rfl hne | exact hr)
theorem WX_block {i : Nat} {a : ACode} {s : St} {Q : AExit → St → Prop} (h : WX P a s (blockQ i Q)) : WX P (.block i a) s Q := .block h (fun _ _ h => h)
theorem WX_loop {α : Type} {a : ACode} {Q : AExit → St → Prop} (I : α → Prop) (st : α → St) (μ : α → Nat)
    (hr : ∀ x, I x → WX P a (st x) (fun e s' => match e with | .normal => ∃ y, I y ∧ μ y < μ x ∧ s' = st y | e => Q e s')) : ∀ (n : Nat) (x : α), μ x ≤ n → I x → WX P (.loop a) (st x) Q
  | n, x, hn, hx => by
    refine .loop (hr x hx) (fun s' hs => ?_) (fun e s' hne h => by cases e <;> first | exact absurd rfl hne | exact h)
    obtain ⟨y, hy, hlt, rfl⟩ := hs
    cases n with
    | zero => omega
    | succ n => exact WX_loop I st μ hr n y (by omega) hy
def FunX (P : Prog) (f : Nat) (args : List AV) (h : Heap) (R : AV → Heap → Prop) : Prop :=
  ∃ res code, P.fn f = some ⟨res, code⟩ ∧ WX P code { fr := number 0 args, st := 0, h } (bodyQ res R)
theorem FunX.of {f : Nat} {args : List AV} {h : Heap} {res : List ARes} {code : ACode} {R : AV → Heap → Prop} (hf : P.fn f = some ⟨res, code⟩) (H : WX P code { fr := number 0 args, st := 0, h } (bodyQ res R)) : FunX P f args h R := ⟨res, code, hf, H⟩
theorem funX_calls {PA : Prog} (hall : AllFn L) (hm : L.P.follows .mixedOrders = true) (hf : ∀ n fn, PA.fn n = some fn → FnSim L n fn) (hp : CallSim L PA.prim) {f : Nat} {args : List AV} {h : Heap} {R : AV → Heap → Prop} (hx : FunX PA f args h R) {vals : Array Value}
    (hh : HeapR L g w h) (ha : ArgsR L g w args vals) : Calls L.P (L.fn f) vals w (fun e w' => ∃ v h', R v h' ∧ Back L g w h v h' e w') := by
  obtain ⟨res, code, hfn, hwx⟩ := hx
  obtain ⟨F, c, h1, h2, h3, h4⟩ := hf f _ hfn
  refine calls_of_wp h1 h2 ?_
  have hs : SimS L g w (fun _ => none) { fr := number 0 args, st := 0, h } (vals ++ Array.replicate (F.ntmps - vals.size) undef) := by
    refine ⟨hh, fun i v hi => ?_, fun i t cs hi => ?_, fun t t' b ht => by simp at ht, fun t b ht => by simp at ht, fun i j t cs cs' hi hj => ?_, fun t b ht => by simp at ht⟩
    · obtain ⟨j, e1, e2⟩ := fget_number _ _ _ _ hi
      rw [Nat.zero_add] at e1
      subst e1
      have hlt : i < vals.size := by rw [ha.1]; exact (List.getElem?_eq_some_iff.1 e2).1
      refine ⟨by simp; omega, ?_⟩
      have := ha.2 i v vals[i] e2 (Array.getElem?_eq_getElem hlt)
      have e3 : (vals ++ Array.replicate (F.ntmps - vals.size) undef).getD i undef = vals[i] := by
        rw [Array.getD_eq_getD_getElem?, Array.getElem?_append, if_pos hlt, Array.getElem?_eq_getElem hlt]; rfl
      rw [e3]
      exact vr_slot this
    · obtain ⟨j, e1, e2⟩ := fget_number _ _ _ _ hi
      have hlt : j < vals.size := by rw [ha.1]; exact (List.getElem?_eq_some_iff.1 e2).1
      exact absurd rfl (vr_not_box (ha.2 j _ vals[j] e2 (Array.getElem?_eq_getElem hlt)) t cs)
    · obtain ⟨j', e1, e2⟩ := fget_number _ _ _ _ hi
      have hlt : j' < vals.size := by rw [ha.1]; exact (List.getElem?_eq_some_iff.1 e2).1
      exact absurd rfl (vr_not_box (ha.2 j' _ vals[j'] e2 (Array.getElem?_eq_getElem hlt)) t cs)
  refine (wx_sim hall hm hf hp hwx c _ w g (fun _ => none) F.ntmps _ _ h3 hs (by simp; omega) rfl ?_).1
  intro e s' hq act' w' g' Λ' q1 q2 q3 q4
  obtain ⟨he, vs, hvs, hR⟩ := hq
  obtain ⟨x, hx1, hx2⟩ := results_run q1 h4 hvs
  have hb : Back L g w h (tupleOf vs) s'.h (.returned x) w' :=
    ⟨g', x, rfl, hx2, q1.heap, ⟨⟨q4.adv.keeps, fun b hb hn => by
      obtain ⟨r1, r2, r3⟩ := q4.adv.loc b hb hn
      exact ⟨r1, r2, hn⟩⟩, q4.size, q4.new, q4.next⟩⟩
  cases e with
  | exit i => simp [isEnd] at he
  | normal => exact ⟨q3, x, hx1, _, _, hR, hb⟩
  | ret => exact ⟨q3, x, hx1, _, _, hR, hb⟩
def SubH (h' h : Heap) : Prop := h'.next = h.next ∧ ∀ o x, h'.get o = some x → x = .dead ∨ h.get o = some x
theorem SubH.refl (h : Heap) : SubH h h := ⟨rfl, fun _ _ e => Or.inr e⟩
theorem HeapR.less {h h' : Heap} (hh : HeapR L g w h) (hs : SubH h' h) : HeapR L g w h' :=
  ⟨fun o x e => (hs.2 o x e).elim (fun hx => by subst hx; trivial) (fun hx => hh.obj o x hx), fun o e x hx => by rw [hs.1]; exact hh.lt o e x hx, hh.fresh⟩
def onF (f0 : Nat) (F : List AV → Heap → Option (AV × Heap)) : Nat → List AV → Heap → Option (AV × Heap) := fun f args h => bif Nat.beq f f0 then F args h else none
theorem onF_sim {PA : Prog} (hall : AllFn L) (hm : L.P.follows .mixedOrders = true) (hf : ∀ n fn, PA.fn n = some fn → FnSim L n fn) (hp : CallSim L PA.prim) {f0 : Nat} {F : List AV → Heap → Option (AV × Heap)}
    (hF : ∀ args h v h', F args h = some (v, h') → FunX PA f0 args h (fun v2 h2 => v2 = v ∧ SubH h' h2)) : CallSim L (onF f0 F) := by
  intro f args h v h' hc g w vals hh ha
  unfold onF at hc
  cases hb : Nat.beq f f0 with
  | false => rw [hb] at hc; simp at hc
  | true =>
    rw [hb, cond_true] at hc
    rw [nbeq, decide_eq_true_eq] at hb
    subst hb
    refine (funX_calls hall hm hf hp (hF args h v h' hc) hh ha).mono ?_
    rintro e w' ⟨v2, h2, ⟨rfl, hs⟩, g', x, rfl, hv, hh2, hr⟩
    exact ⟨g', x, rfl, hv, hh2.less hs, ⟨hr.adv, hr.size, hr.new, by rw [hs.1]; exact hr.next⟩⟩
theorem leftA_pick {seen : List Nat} {p : Nat × AV × AV} : ∀ (bs : List Nat) (es : List (AV × AV)), bs.Nodup → p ∈ leftA seen bs es → ∃ l1 l2, leftA seen bs es = l1 ++ p :: l2 ∧ leftA (seen ++ [p.1]) bs es = l1 ++ l2
  | [], es, _, h => by simp [leftA] at h
  | _ :: _, [], _, h => by simp [leftA] at h
  | b :: bs, e :: es, hn, h => by
    obtain ⟨hb, hn⟩ := List.nodup_cons.1 hn
    have mem_left : ∀ (bs : List Nat) (es : List (AV × AV)) (q : Nat × AV × AV), q ∈ leftA seen bs es → q.1 ∈ bs := by
      intro bs
      induction bs with
      | nil => intro es q h; simp [leftA] at h
      | cons b bs ih =>
        intro es q h
        cases es with
        | nil => simp [leftA] at h
        | cons e es =>
          simp only [leftA] at h
          cases hm : memN b seen <;> rw [hm] at h
          · rcases List.mem_cons.1 h with h | h
            · rw [h]; exact List.mem_cons_self
            · exact List.mem_cons_of_mem _ (ih es q h)
          · exact List.mem_cons_of_mem _ (ih es q h)
    have other : ∀ (bs : List Nat) (es : List (AV × AV)), p.1 ∉ bs → leftA (seen ++ [p.1]) bs es = leftA seen bs es := by
      intro bs
      induction bs with
      | nil => intro es _; rfl
      | cons b bs ih =>
        intro es h
        cases es with
        | nil => rfl
        | cons e es =>
          have e1 : memN b (seen ++ [p.1]) = memN b seen := by
            have h1 : b ≠ p.1 := fun e => h (by rw [← e]; exact List.mem_cons_self)
            rw [Bool.eq_iff_iff, memN_spec, memN_spec, List.mem_append, List.mem_singleton]
            exact ⟨fun h => h.elim id (fun e => absurd e h1), Or.inl⟩
          simp only [leftA, e1, ih es (fun hm => h (List.mem_cons_of_mem _ hm))]
    simp only [leftA] at h ⊢
    cases hm : memN b seen with
    | true =>
      rw [hm] at h
      simp only [cond_true] at h ⊢
      have e1 : memN b (seen ++ [p.1]) = true := by
        rw [memN_spec, List.mem_append]
        exact Or.inl (memN_spec.1 hm)
      rw [e1, cond_true]
      exact leftA_pick bs es hn h
    | false =>
      rw [hm] at h
      simp only [cond_false] at h ⊢
      rcases List.mem_cons.1 h with h | h
      · subst h
        have e1 : memN b (seen ++ [b]) = true := by
          rw [memN_spec, List.mem_append, List.mem_singleton]
          exact Or.inr rfl
        refine ⟨[], leftA seen bs es, rfl, ?_⟩
        rw [e1, cond_true]
        exact other bs es hb
      · have h1 : b ≠ p.1 := fun e => hb (by rw [e]; exact mem_left bs es p h)
        have e1 : memN b (seen ++ [p.1]) = false := by
          rw [← hm, Bool.eq_iff_iff, memN_spec, memN_spec, List.mem_append, List.mem_singleton]
          exact ⟨fun h => h.elim id (fun e => absurd e h1), Or.inl⟩
        obtain ⟨l1, l2, q1, q2⟩ := leftA_pick bs es hn h
        refine ⟨(b, e) :: l1, l2, by rw [q1]; rfl, ?_⟩
        rw [e1, cond_false, q2]; rfl
theorem leftA_nil : ∀ (bs : List Nat) (es : List (AV × AV)), bs.length = es.length → (leftA [] bs es).map (·.2) = es
  | [], [], _ => rfl
  | [], _ :: _, h => by simp at h
  | _ :: _, [], h => by simp at h
  | b :: bs, e :: es, h => by simp only [leftA, memN, cond_false, List.map_cons, leftA_nil bs es (by simpa using h)]
theorem leftA_mem {seen : List Nat} {p : Nat × AV × AV} : ∀ (bs : List Nat) (es : List (AV × AV)), p ∈ leftA seen bs es → p.2 ∈ es
  | [], es, h => by simp [leftA] at h
  | _ :: _, [], h => by simp [leftA] at h
  | b :: bs, e :: es, h => by
    simp only [leftA] at h
    cases hm : memN b seen <;> rw [hm] at h
    · rcases List.mem_cons.1 h with h | h
      · rw [h]; exact List.mem_cons_self
      · exact List.mem_cons_of_mem _ (leftA_mem bs es h)
    · exact List.mem_cons_of_mem _ (leftA_mem bs es h)
theorem findB_pick {seen : List Nat} {p : Nat × AV × AV} : ∀ (bs : List Nat) (es : List (AV × AV)), bs.Nodup → p ∈ leftA seen bs es → findB p.1 bs es = some p.2
  | [], es, _, h => by simp [leftA] at h
  | _ :: _, [], _, h => by simp [leftA] at h
  | b :: bs, e :: es, hn, h => by
    obtain ⟨hb, hn⟩ := List.nodup_cons.1 hn
    have mem_left : ∀ (bs : List Nat) (es : List (AV × AV)) (q : Nat × AV × AV), q ∈ leftA seen bs es → q.1 ∈ bs := by
      intro bs
      induction bs with
      | nil => intro es q h; simp [leftA] at h
      | cons b bs ih =>
        intro es q h
        cases es with
        | nil => simp [leftA] at h
        | cons e es =>
          simp only [leftA] at h
          cases hm : memN b seen <;> rw [hm] at h
          · rcases List.mem_cons.1 h with h | h
            · rw [h]; exact List.mem_cons_self
            · exact List.mem_cons_of_mem _ (ih es q h)
          · exact List.mem_cons_of_mem _ (ih es q h)
    have rec' : p ∈ leftA seen bs es → findB p.1 (b :: bs) (e :: es) = some p.2 := fun h => by
      have h1 : b ≠ p.1 := fun e => hb (by rw [e]; exact mem_left bs es p h)
      simp only [findB, nbeq, h1, decide_false, cond_false]
      exact findB_pick bs es hn h
    simp only [leftA] at h
    cases hm : memN b seen <;> rw [hm] at h
    · rcases List.mem_cons.1 h with h | h
      · subst h
        simp [findB]
      · exact rec' h
    · exact rec' h
theorem lastN_app (l : List Nat) (a : Nat) : lastN (l ++ [a]) = some a := by
  rw [lastN_spec]
  simp
end Go.Am
/- slices.Sorted(maps.Keys(m)) as a function whose answer is told: the keys as the map has them, sorted. Own work. -/
namespace Go.Am
variable {L : Link}
instance encTxt : Enc (List UInt8) where
  sz := 1
  cells s := [strv s]
  len _ := rfl
  pur b c hc := by
    simp only [List.mem_singleton] at hc
    subst hc
    exact ⟨fun h b n => frz_strv h b n _, rfl⟩
@[go_sem] theorem sz_Txt : Enc.sz (List UInt8) = 1 := rfl
@[go_sem] theorem cells_Txt (s : List UInt8) : Enc.cells s = [strv s] := rfl
def unstr (s : List Nat) : Option (List UInt8) := if s.all (fun n => Nat.blt n 256) then some (s.map UInt8.ofNat) else none
theorem unstr_map (s : List UInt8) : unstr (s.map UInt8.toNat) = some s := by
  unfold unstr
  rw [if_pos]
  · rw [List.map_map]
    congr 1
    have : (UInt8.ofNat ∘ UInt8.toNat) = id := by funext x; simp
    rw [this, List.map_id]
  · rw [List.all_eq_true]
    intro n hn
    obtain ⟨x, -, rfl⟩ := List.mem_map.1 hn
    have := x.toNat_lt
    rw [nblt]
    exact decide_eq_true (by omega)
def keysA : List (AV × AV) → Option (List (List UInt8))
  | [] => some []
  | (.str s, _) :: r => (unstr s).bind fun k => (keysA r).bind fun ks => some (k :: ks)
  | _ :: _ => none
theorem keysA_kv : ∀ es : TMap, keysA (kv es) = some (es.map (·.1))
  | [] => rfl
  | p :: r => by
    show (unstr (p.1.map UInt8.toNat)).bind _ = _
    rw [unstr_map, Option.bind_some]
    show (keysA (kv r)).bind _ = _
    rw [keysA_kv r]; rfl
theorem keysA_spec : ∀ {es : List (AV × AV)} {ks : List (List UInt8)}, keysA es = some ks → es.map (·.1) = ks.map strv
  | [], ks, h => by simp only [keysA, Option.some.injEq] at h; subst h; rfl
  | (k, v) :: r, ks, h => by
    cases k <;> simp only [keysA, Option.bind_eq_some_iff, Option.some.injEq, reduceCtorEq] at h
    rename_i s
    obtain ⟨k, h1, ks', h2, rfl⟩ := h
    unfold unstr at h1
    split at h1
    · rename_i hc
      simp only [Option.some.injEq] at h1
      subst h1
      simp only [List.map_cons, keysA_spec h2, List.cons.injEq, and_true]
      unfold strv
      congr 1
      rw [List.map_map]
      conv => lhs; rw [← List.map_id s]
      refine List.map_congr_left (fun n hn => ?_)
      rw [List.all_eq_true] at hc
      have := hc n hn
      rw [nblt, decide_eq_true_eq] at this
      simp only [id_eq, Function.comp_apply, UInt8.toNat_ofNat']
      omega
    · simp at h1
def leT : List UInt8 → List UInt8 → Bool := fun x y => decide (x ≤ y)
def SortedOk (L : Link) (f0 fk : Nat) : Prop := ∀ (w : World) (b bm : Nat) (ms : Array MapEntry) (ck : Nat) (ks : List (List UInt8)), b < w.heap.size → w.cell? ⟨b, 0, none⟩ = some (.map (some bm)) → w.heap[bm]? = some (.map ms ck) →
  ms.toList.map (·.key) = ks.map (fun k => Value.string ⟨k.toArray⟩) → (∀ x ∈ ms.toList, x.born < ck) → (ms.toList.map (·.born)).Nodup → ks.Nodup → ks.length ≤ 1000000 → (∀ k ∈ ks, k.length ≤ 1000000) →
  Calls L.P (L.fn f0) #[.func (.func (L.fn fk)) #[] #[.pointer (some ⟨b, 0, none⟩)]] w (fun e w' => ∃ v t, e = .returned v ∧ w'.ownsRow w.heap.size t 1 v ks.length ((ks.mergeSort leT).map (fun k => Value.string ⟨k.toArray⟩)) ∧ (v = .slice none 0 0 ↔ ks = []) ∧ RowKit.Below w.heap.size w w')
def sortedOn (f0 fk : Nat) : Nat → List AV → Heap → Option (AV × Heap) := fun f args h =>
  bif Nat.beq f f0 then (match args with
    | [.fn k [.ptr o 0]] => bif Nat.beq k fk then (match h.get o with
      | some (.cells [.mp m]) => (match h.get m with
        | some (.map es bs ck) => (keysA es).bind fun ks => if ks.Nodup ∧ bs.Nodup ∧ (∀ b ∈ bs, b < ck) ∧ ks.length ≤ 1000000 ∧ (∀ k ∈ ks, k.length ≤ 1000000) then some (slv true false (ks.mergeSort leT), h) else none
        | _ => none)
      | _ => none) else none
    | _ => none) else none
theorem vr_strv {g : Gh} {w : World} {k : List UInt8} {v : Value} (h : VR L g w (strv k) v) : v = .string ⟨k.toArray⟩ := by
  unfold strv at h
  generalize e : k.map UInt8.toNat = s at h
  cases h with
  | str s =>
    have := strv_inj e
    subst this
    rfl
theorem vr_strv_mk (g : Gh) (w : World) (k : List UInt8) : VR L g w (strv k) (.string ⟨k.toArray⟩) := VR.str ⟨k.toArray⟩
theorem sorted_sim {f0 fk : Nat} (hF : SortedOk L f0 fk) : CallSim L (sortedOn f0 fk) := by
  intro f args h v h' hc g w vals hh ha
  unfold sortedOn at hc
  cases hb : Nat.beq f f0 with
  | false => rw [hb] at hc; simp at hc
  | true =>
  rw [hb, cond_true] at hc
  rw [nbeq, decide_eq_true_eq] at hb
  subst hb
  split at hc
  · rename_i k o
    cases hk : Nat.beq k fk with
    | false => rw [hk] at hc; simp at hc
    | true =>
    rw [hk, cond_true] at hc
    rw [nbeq, decide_eq_true_eq] at hk
    subst hk
    split at hc
    · rename_i m ho
      split at hc
      · rename_i es bs ck hm
        simp only [Option.bind_eq_some_iff] at hc
        obtain ⟨ks, hks, hc⟩ := hc
        split at hc
        · rename_i hcnd
          obtain ⟨k1, k2, k3, k4, k5⟩ := hcnd
          simp only [Option.some.injEq, Prod.mk.injEq] at hc
          obtain ⟨rfl, rfl⟩ := hc
          obtain ⟨b, o1, o2, o3, o4, o5⟩ := hh.obj _ _ ho
          obtain ⟨vm, c1, c2, c3, -⟩ := o4 0 _ rfl
          obtain ⟨bm, ms, m1, m2, m3, ⟨m4, m5⟩, m6⟩ := hh.obj _ _ hm
          have hvm : vm = .map (some bm) := by
            cases c3 with
            | mp o b e c h =>
              rw [m1] at h
              simp only [Option.some.injEq, Prod.mk.injEq, Addr.mk.injEq] at h
              rw [h.1.1]
          subst hvm
          obtain ⟨hsz, hav⟩ := ha
          have hs1 : vals.size = 1 := by simpa using hsz
          have hv0 := hav 0 _ (vals[0]'(by omega)) rfl (Array.getElem?_eq_getElem (by omega))
          have hvals : vals = #[vals[0]'(by omega)] := by
            apply Array.ext
            · simp [hs1]
            · intro i h1 h2
              have : i = 0 := by omega
              subst this; rfl
          generalize vals[0]'(by omega) = v0 at hv0 hvals
          subst hvals
          have hv0' : v0 = .func (.func (L.fn k)) #[] #[.pointer (some ⟨b, 0, none⟩)] := by
            cases hv0 with
            | fn f caps vs hl hq =>
              have hs : vs.size = 1 := by simpa using hl
              have h0 := hq 0 _ (vs[0]'(by omega)) rfl (Array.getElem?_eq_getElem (by omega))
              have hvs : vs = #[vs[0]'(by omega)] := by
                apply Array.ext
                · simp [hs]
                · intro i h1 h2
                  have : i = 0 := by omega
                  subst this; rfl
              generalize vs[0]'(by omega) = p0 at h0 hvs
              subst hvs
              cases h0 with
              | ptr o off b' e c h =>
                rw [o1] at h
                simp only [Option.some.injEq, Prod.mk.injEq, Addr.mk.injEq] at h
                rw [h.1.1]
          subst hv0'
          have hkeys : ms.toList.map (·.key) = ks.map (fun k => Value.string ⟨k.toArray⟩) := by
            have e1 := keysA_spec hks
            have hlen : ks.length = ms.size := by
              have := congrArg List.length e1
              simp only [List.length_map] at this
              rw [m4]; exact this.symm
            refine List.ext_getElem (by simp [hlen]) (fun i h1 h2 => ?_)
            simp only [List.getElem_map]
            have hi : i < es.length := by simp only [List.length_map, Array.length_toList] at h1; omega
            have hik : i < ks.length := by simpa using h2
            have e2 : es[i].1 = strv ks[i] := by
              have := congrArg (fun l => l[i]?) e1
              simp only [List.getElem?_map, List.getElem?_eq_getElem hi, List.getElem?_eq_getElem hik, Option.map_some, Option.some.injEq] at this
              exact this
            have hvr := (m6 i es[i].1 es[i].2 (ms[i]'(by omega)) (List.getElem?_eq_getElem hi) (Array.getElem?_eq_getElem (by omega))).1
            rw [e2] at hvr
            have := vr_strv hvr
            simpa using this
          have hst : ∀ x ∈ ms.toList, x.born < ck := fun x hx => k3 _ (by rw [← m5]; exact List.mem_map.2 ⟨x, hx, rfl⟩)
          refine (hF w b bm ms ck ks o3 (by simpa using c1) m3 hkeys hst (by rw [m5]; exact k2) k1 k4 k5).mono ?_
          rintro e w' ⟨v, t, rfl, hrow, hnil, hb⟩
          have lt_of : ∀ b, g.ρ b ≠ .free → b < w.heap.size := fun b hb => by
            by_cases hlt : b < w.heap.size
            · exact hlt
            · exact absurd (hh.fresh b (by omega)) hb
          let g3 : Gh := { β := g.β, ρ := fun b => if b < w.heap.size then g.ρ b else if b < w'.heap.size then .imm else .free }
          have g3old : ∀ b, b < w.heap.size → g3.ρ b = g.ρ b := fun b hb => by simp only [g3, if_pos hb]
          have hold : ∀ b, b < w.heap.size → w'.heap[b]? = w.heap[b]? := fun b h => hb.block b h
          have hk3 : Keeps g w g3 w' := ⟨fun _ _ _ h => h, fun b hb => by
            have hlt := lt_of b (by rw [hb]; simp)
            exact ⟨by rw [g3old b hlt, hb], hold b hlt⟩, hb.os, hb.output, hb.tape⟩
          have hval : VR L g3 w' (slv true false (ks.mergeSort leT)) v := by
            by_cases hk0 : ks = []
            · rw [hnil.2 hk0, hk0, show ([] : List (List UInt8)).mergeSort leT = [] by simp]
              exact .nils
            · have hne : (ks.mergeSort leT).isEmpty = false := by
                cases hq : ks.mergeSort leT with
                | nil =>
                  have := congrArg List.length hq
                  rw [List.length_mergeSort] at this
                  exact absurd (List.length_eq_zero_iff.1 (by simpa using this)) hk0
                | cons _ _ => rfl
              rcases hrow.2 with ⟨e1, e2⟩ | ⟨gb, cap, cur, rfl, r1, r2, r3, r4, r5, r6⟩
              · exact absurd (hnil.1 e1) hk0
              · unfold slv
                rw [hne, Bool.and_false, cond_false]
                have hgb : gb < w'.heap.size := (Array.getElem?_eq_some_iff.1 r2).1
                have hlen : (ks.mergeSort leT).length = ks.length := List.length_mergeSort ks
                rw [hlen]
                have hcell : ∀ i j x, i < ks.length → (cellsAtL (ks.mergeSort leT) i)[j]? = some x → j = 0 ∧ x = strv ((ks.mergeSort leT).getD i default) ∧ w'.cell? ⟨gb, 0 + i * 1 + j, none⟩ = some (.string ⟨((ks.mergeSort leT).getD i default).toArray⟩) := fun i j x hi hx => by
                  rw [cellsAtL_in (by rw [hlen]; exact hi)] at hx
                  cases j with
                  | succ j => simp [Enc.cells] at hx
                  | zero =>
                    have hx' : strv ((ks.mergeSort leT).getD i default) = x := by simpa [Enc.cells] using hx
                    refine ⟨rfl, hx'.symm, ?_⟩
                    have h6 := congrArg (fun l => l[i]?) r6
                    simp only [Nat.mul_one, List.getElem?_take, hi, if_true, List.getElem?_map] at h6
                    rw [List.getElem?_eq_getElem (show i < (ks.mergeSort leT).length by rw [hlen]; exact hi)] at h6
                    simp only [Option.map_some, Array.getElem?_toList] at h6
                    rw [List.getD_eq_getElem?_getD, List.getElem?_eq_getElem (show i < (ks.mergeSort leT).length by rw [hlen]; exact hi), Option.getD_some]
                    simp only [World.cell?, r2, Nat.zero_add, Nat.mul_one, Nat.add_zero]
                    exact h6
                refine .sl 1 ks.length (cellsAtL (ks.mergeSort leT)) false gb 0 cap (fun i j => .string ⟨((ks.mergeSort leT).getD i default).toArray⟩) ?_ r3 (fun h => by simp at h) (fun i hi => ?_) (fun i j x hi hx => ?_) (fun i j x hi hx => ?_)
                · simp only [g3]
                  rw [if_neg (by omega), if_pos hgb]
                · rw [cellsAtL_in (by rw [hlen]; exact hi)]; rfl
                · exact ⟨(hcell i j x hi hx).2.2, rfl⟩
                · rw [(hcell i j x hi hx).2.1]
                  exact vr_strv_mk _ _ _
          refine ⟨g3, v, rfl, hval, ⟨fun o y hy => (hh.obj o y hy).mono hk3 (fun b hb => ?_) hb.size (fun e he => he), hh.lt, fun b hb' => ?_⟩, ⟨⟨hk3, fun b hb hn => ?_⟩, hb.size, fun o _ hn => hn, Nat.le_refl _⟩⟩
          · have hlt := lt_of b (by rw [hb]; simp)
            exact ⟨by rw [g3old b hlt, hb], hold b hlt⟩
          · have h1 := hb.size
            simp only [g3]
            rw [if_neg (by omega), if_neg (by omega)]
          · have hlt := lt_of b (by rw [hb]; simp)
            exact ⟨by rw [g3old b hlt, hb], hold b hlt, hn⟩
        · simp at hc
      · simp at hc
    · simp at hc
  · simp at hc
end Go.Am

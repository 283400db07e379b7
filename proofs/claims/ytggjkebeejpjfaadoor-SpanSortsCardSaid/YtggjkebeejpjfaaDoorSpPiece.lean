/- One edit of span.Apply: what one turn of its loop writes. -/
import Derived.Test.YtggjkebeejpjfaaDoorSpWrite
import Derived.Test.YtggjkebeejpjfaaDoorSpDefs
import Derived.Test.YtggjkebeejpjfaaDoorAmAll1
import Derived.Lib.Hide
set_option linter.unusedVariables false
namespace Go.Proofs
open Go.Shelf Go.RowKit Go.Am.Sp
/-- A slice of bytes. -/
def BSl (w : World) (v : Value) (l : List UInt8) : Prop := ∃ (ao : Option Addr) (cap : Nat), v = .slice ao l.length cap ∧ l.length ≤ cap ∧ (ao = none → cap = 0) ∧
  (l.length ≠ 0 → ∃ B a, ao = some ⟨B, a, none⟩ ∧ B < w.heap.size ∧ ∀ (i : Nat) (x : UInt8), l[i]? = some x → w.cell? ⟨B, a + i, none⟩ = some (.int .u8 (x.toNat : Int)))
/-- A slice of edits. -/
def ESl (w : World) (v : Value) (l : List Am.Edit) : Prop := ∃ (ao : Option Addr) (cap : Nat), v = .slice ao l.length cap ∧ l.length ≤ cap ∧
  (l.length ≠ 0 → ∃ B a, ao = some ⟨B, a, none⟩ ∧ B < w.heap.size ∧ ∀ (i : Nat) (e : Am.Edit), l[i]? = some e → w.cell? ⟨B, a + i * 3, none⟩ = some (.int .i64 e.f) ∧ w.cell? ⟨B, a + i * 3 + 1, none⟩ = some (.int .i64 e.t) ∧ w.cell? ⟨B, a + i * 3 + 2, none⟩ = some (.string ⟨e.x.toArray⟩))
theorem Tryd.slice_run (ao : Option Addr) (n cap i j : Nat) (h1 : i ≤ j) (h2 : j ≤ n) (h3 : n ≤ cap) (w : World) :
    (Instr.sliceAt 22 (.slice ao n cap) (some (.int .i64 (i : Int))) (some (.int .i64 (j : Int))) none).run Tryd.prog w = .ok (.slice (if cap = i then ao else ao.map (·.add i)) (j - i) (cap - i)) w := by
  unfold Instr.sliceAt
  rw [Sem.run_bind, run_underlying Tryd.underlying22 w, Result.andThen_ok]
  unfold Instr.slice
  have hb : (Instr.sliceBounds true n cap (some (.int .i64 (i : Int))) (some (.int .i64 (j : Int))) none).run Tryd.prog w = .ok (i, j, cap) w := by
    simp only [Instr.sliceBounds, Sem.run_bind, Sem.run_pure, Result.andThen_ok, Am.sliceBound_run .i64 j cap _ (by omega), Am.sliceBound_run .i64 i j _ h1]
  have hsz : (sizeOf 5).run Tryd.prog w = .ok 1 w := by
    obtain ⟨i0, hi, hs⟩ := Option.map_eq_some_iff.1 Tryd.info5
    exact Am.run_sizeOf ⟨i0, hi, hs⟩ w
  simp only [Sem.run_bind, run_underlying Tryd.underlying22 w, Result.andThen_ok, hb, hsz, Sem.run_pure, Nat.mul_one]
theorem Tryd.slice_run_end (ao : Option Addr) (n cap i : Nat) (h1 : i ≤ n) (h3 : n ≤ cap) (w : World) :
    (Instr.sliceAt 22 (.slice ao n cap) (some (.int .i64 (i : Int))) none none).run Tryd.prog w = .ok (.slice (if cap = i then ao else ao.map (·.add i)) (n - i) (cap - i)) w := by
  unfold Instr.sliceAt
  rw [Sem.run_bind, run_underlying Tryd.underlying22 w, Result.andThen_ok]
  unfold Instr.slice
  have hb : (Instr.sliceBounds true n cap (some (.int .i64 (i : Int))) none none).run Tryd.prog w = .ok (i, n, cap) w := by
    simp only [Instr.sliceBounds, Sem.run_bind, Sem.run_pure, Result.andThen_ok, Am.sliceBound_run .i64 i n _ h1]
  have hsz : (sizeOf 5).run Tryd.prog w = .ok 1 w := by
    obtain ⟨i0, hi, hs⟩ := Option.map_eq_some_iff.1 Tryd.info5
    exact Am.run_sizeOf ⟨i0, hi, hs⟩ w
  simp only [Sem.run_bind, run_underlying Tryd.underlying22 w, Result.andThen_ok, hb, hsz, Sem.run_pure, Nat.mul_one]
/-- A piece of a slice of bytes is written. -/
theorem Tryd.write_piece (w0 : World) (B b : Nat) (bs : List Value) (bo : Option Addr) (bl : List UInt8) (cap i j : Nat) (w : World) (h : Lib.IsBuffer 45 5 B b bs w) (hBw : B ≤ w.heap.size) (h1 : ∀ v ∈ bs, v.oneCell' = true)
    (hbl : Below w0.heap.size w0 w) (hlow : w0.heap.size ≤ b) (hij : i ≤ j) (hj : j ≤ bl.length) (hc : bl.length ≤ cap) (hlim : bs.length + (j - i) ≤ 140737488355328)
    (hx : bl.length ≠ 0 → ∃ B a, bo = some ⟨B, a, none⟩ ∧ B < w0.heap.size ∧ ∀ (i : Nat) (x : UInt8), bl[i]? = some x → w0.cell? ⟨B, a + i, none⟩ = some (.int .u8 (x.toNat : Int))) :
    Calls Tryd.prog 20 #[.pointer (some ⟨b, 0, none⟩), .slice (if cap = i then bo else bo.map (·.add i)) (j - i) (cap - i)] w fun e w' => e = .returned (.tuple #[.int .i64 ((j - i : Nat) : Int), .nilIface]) ∧ Lib.IsBuffer 45 5 B b (bs ++ Lib.byteCells ((bl.take j).drop i)) w' ∧ Below B w w' ∧ Lib.OthersKept 5 (some b) w w' := by
  by_cases h0 : j - i = 0
  · rw [h0]
    have he : (bl.take j).drop i = [] := by
      apply List.drop_of_length_le
      rw [List.length_take]; omega
    rw [he]
    simpa [Lib.byteCells] using Tryd.write_zero B b bs _ (cap - i) w h
  · have hne : bl.length ≠ 0 := by omega
    have hci : ¬ cap = i := by omega
    have hmin : min j bl.length - i = j - i := by rw [Nat.min_eq_left hj]
    have hlen : ((bl.take j).drop i).length = j - i := by rw [List.length_drop, List.length_take]; exact hmin
    have hix : ∀ k, k < j - i → i + k < bl.length := fun k hk => by omega
    have hij2 : ∀ k, k < j - i → i + k < j := fun k hk => by omega
    obtain ⟨B', a, rfl, hB', hcell⟩ := hx hne
    have hbb : B' ≠ b := by omega
    have e1 : (if cap = i then some (⟨B', a, none⟩ : Addr) else (some (⟨B', a, none⟩ : Addr)).map (·.add i)) = some ⟨B', a + i, none⟩ := by
      rw [if_neg hci, Option.map_some, Am.addr_add]
    rw [e1]
    refine (Tryd.Buffer_Write_any B b bs (Lib.byteCells ((bl.take j).drop i)) ⟨B', a + i, none⟩ (j - i) (cap - i) w h hBw h1 (by rw [Lib.byteCells_length, hlen]) hbb ?_ (Lib.byteCells_one _) hlim).mono ?_
    · intro k v hk
      have hkl : k < j - i := by
        have := (List.getElem?_eq_some_iff.1 hk).1
        rwa [Lib.byteCells_length, hlen] at this
      have e2 : bl[i + k]? = some (bl[i + k]'(hix k hkl)) := List.getElem?_eq_getElem (hix k hkl)
      have e3 : ((bl.take j).drop i)[k]? = some (bl[i + k]'(hix k hkl)) := by
        rw [List.getElem?_drop, List.getElem?_take, if_pos (hij2 k hkl), e2]
      have e4 : (Lib.byteCells ((bl.take j).drop i))[k]? = some (.int .u8 ((bl[i + k]'(hix k hkl)).toNat : Int)) := by
        simp only [Lib.byteCells, List.getElem?_map, e3, Option.map_some]
      rw [e4] at hk
      obtain rfl := Option.some.inj hk
      rw [Am.addr_add, hbl.cell (p := ⟨B', a + i + k, none⟩) hB', Nat.add_assoc]
      exact hcell _ _ e2
    · rintro e w' ⟨rfl, q1, q2, q3⟩
      exact ⟨rfl, q1, q2, q3⟩
end Go.Proofs

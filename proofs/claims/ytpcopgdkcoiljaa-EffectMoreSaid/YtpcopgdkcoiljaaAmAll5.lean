/- slices.Sorted(maps.Keys(m)) as a function whose answer is told: the keys as the map has them, sorted. Own work. -/
import Derived.Test.YtpcopgdkcoiljaaAmAll4
import Derived.Laws.AppendOwn
import Derived.Test.YtpcopgdkcoiljaaAmAll3
set_option linter.unusedSimpArgs false
set_option linter.unusedVariables false
namespace Go.Am
variable {L : Link}
instance encTxt : EncP (List UInt8) where
 sz := 1
 cells s := [strv s]
 len _ := rfl
 pur b c hc := by
  simp only [List.mem_singleton] at hc
  subst hc
  exact ⟨fun h b n => frz_strv h b n _, rfl⟩
@[go_sem] theorem sz_Txt : Enc.sz (List UInt8) = 1 := rfl
@[go_sem] theorem cells_Txt (s : List UInt8) : Enc.cells s = [strv s] := rfl
def unstr (s : List Nat) : Option (List UInt8) := if s.all (fun n => Nat.blt n 256) then some (s.map UInt8.ofNat) else none
def keysA : List (AV × AV) → Option (List (List UInt8))
 | [] => some []
 | (.str s, _) :: r => (unstr s).bind fun k => (keysA r).bind fun ks => some (k :: ks)
 | _ :: _ => none
def leT : List UInt8 → List UInt8 → Bool := fun x y => decide (x ≤ y)
def SortedOk (L : Link) (f0 fk : Nat) : Prop := ∀ (w : World) (b bm : Nat) (ms : Array MapEntry) (ck : Nat) (ks : List (List UInt8)), b < w.heap.size → w.cell? ⟨b, 0, none⟩ = some (.map (some bm)) → w.heap[bm]? = some (.map ms ck) →
 ms.toList.map (·.key) = ks.map (fun k => Value.string ⟨k.toArray⟩) → (∀ x ∈ ms.toList, x.born < ck) → (ms.toList.map (·.born)).Nodup → ks.Nodup → ks.length ≤ 1000000 → (∀ k ∈ ks, k.length ≤ 1000000) →
 Calls L.P (L.fn f0) #[.func (.func (L.fn fk)) #[] #[.pointer (some ⟨b, 0, none⟩)]] w (fun e w' => ∃ v t, e = .returned v ∧ w'.ownsRow w.heap.size t 1 v ks.length ((ks.mergeSort leT).map (fun k => Value.string ⟨k.toArray⟩)) ∧ (v = .slice none 0 0 ↔ ks = []) ∧ RowKit.Below w.heap.size w w')
def sortedOn (f0 fk : Nat) : Nat → List AV → Heap → Option (AV × Heap) := fun f args h =>
 bif Nat.beq f f0 then (match args with
  | [.fn k [.ptr o 0]] => bif Nat.beq k fk then (match h.get o with
   | some (.cells [.mp m]) => (match h.get m with
    | some (.map es bs ck) => (keysA es).bind fun ks => if ks.Nodup ∧ bs.Nodup ∧ (∀ b ∈ bs, b < ck) ∧ ks.length ≤ 1000000 ∧ (∀ k ∈ ks, k.length ≤ 1000000) then some (slv true false (ks.mergeSort leT), h) else none
    | _ => none)
   | _ => none) else none
  | _ => none) else none
end Go.Am
/- Rows of data that may hold places: the appends. Own work. -/
namespace Go.Am
class Cel (α : Type) extends Inhabited α where
 csz : Nat
 ccells : α → List AV
 clen : ∀ x, (ccells x).length = csz
instance celEnc {α : Type} [Enc α] : Cel α := { csz := Enc.sz α, ccells := Enc.cells, clen := Enc.len }
open Cel
variable {α : Type} [Cel α]
def cellsAtC (l : List α) (i : Nat) : List AV := match l[i]? with
 | some x => ccells x
 | none => []
def RowC (h : Heap) (v : AV) (l : List α) : Prop := (v = .nils ∧ l = []) ∨ ∃ o ep, v = .hs (csz α) o ep 0 l.length false ∧ h.get o = some (.row (csz α) ep (l.flatMap ccells))
def AddsC (h : Heap) (y : AV) (new : List α) : Prop := lenA h y = some new.length ∧ cellsAt h (csz α) y new.length = some (new.flatMap ccells)
end Go.Am

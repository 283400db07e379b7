/- maps.Clone at the disk's map of names, walked against the disk seat's program (alias Try). -/
import Derived.Test.YtijfdjjbodalaaaChecked
import Derived.Shelf.SlMaps.Clone
import Derived.WalkKit
import Derived.ProofKit
namespace Go.Proofs
open Go.RowKit
set_option maxRecDepth 100000
theorem clone_walk (b : Nat) (es : Array MapEntry) (clock : Nat) (w : World) (hb : w.heap[b]? = some (.map es clock)) :
    Calls Try.prog 36 #[.map (some b)] w fun e w' => e = .returned (.map (some w.heap.size)) ∧ w' = w.alloc (.map es clock) := by
  have t67 : Try.prog.underlying 67 = some (.map 9 77) := by kernel_rfl
  have hq := fun w => run_eql_map_nil_sl (P := Try.prog) w 67 _ _ (some b) t67
  go_enter Try.func36, Try.ntmps36
  go_wp2
  rw [run_callFunc_extern Try.func62 (by kernel_rfl) (by kernel_rfl) (by kernel_rfl) (e := Extern.MapsClone.clone) (by kernel_rfl), run_maps_clone_sl w 67 hb]
  simp only [Result.andThen]
  rw [Oper.upon_value]
  go_wp2
  rw [run_typeAssert_map_sl _ 67 20 _ _ _ t67]
  simp only [Result.andThen]
  rw [Oper.upon_value]
  go_wp2
  go_ret
  exact ⟨rfl, rfl⟩
theorem clone_walk_nil (w : World) : Calls Try.prog 36 #[.map none] w fun e w' => e = .returned (.map none) ∧ w' = w := by
  have t67 : Try.prog.underlying 67 = some (.map 9 77) := by kernel_rfl
  have hq := fun w => run_eql_map_nil_sl (P := Try.prog) w 67 _ _ none t67
  go_enter Try.func36, Try.ntmps36
  go_wp2
  go_ret
  exact ⟨rfl, rfl⟩
end Go.Proofs

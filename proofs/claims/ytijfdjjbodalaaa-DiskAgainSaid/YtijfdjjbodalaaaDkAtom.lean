/- sync/atomic's Load and Add of an int64, walked against the disk seat's program (alias Try). -/
import Derived.Test.YtijfdjjbodalaaaChecked
import Derived.WalkKit
import Derived.ProofKit
namespace Go.Proofs
open Go.RowKit
set_option maxRecDepth 100000
theorem load_walk (w : World) (b off : Nat) (n : Int) (hc : w.cell? ⟨b, off, none⟩ = some (.int .i64 n)) : Calls Try.prog 61 #[.pointer (some ⟨b, off, none⟩)] w fun e w' => e = .returned (.int .i64 n) ∧ w' = w := by
  go_enter Try.func61, Try.ntmps61
  go_wp2
  rw [run_callFunc_extern Try.func74 (by kernel_rfl) (by kernel_rfl) (by kernel_rfl) (e := Extern.Atomic.loadT (.int .i64)) (by kernel_rfl)]
  have e1 : (Extern.Atomic.loadT (.int .i64) #[.pointer (some ⟨b, off, none⟩)]).run Try.prog w = .ok (.int .i64 n) w := by
    have e0 : Extern.Atomic.loadT (.int .i64) #[.pointer (some ⟨b, off, none⟩)] = (asAddr (.pointer (some ⟨b, off, none⟩)) >>= fun a => Extern.Atomic.read (.int .i64) a) := rfl
    rw [e0]
    simp [Extern.Atomic.read, asAddr, go_sem, hc]
  rw [e1]
  simp only [Result.andThen]
  rw [Oper.upon_value]
  go_wp2
  go_ret
  exact ⟨rfl, rfl⟩
theorem add_walk (w : World) (b off : Nat) (n d v : Int) (hv : IntKind.i64.wrap (n + d) = v) (hc : w.cell? ⟨b, off, none⟩ = some (.int .i64 n)) (hf : w.frozen? ⟨b, off, none⟩ = false) : Calls Try.prog 63 #[.pointer (some ⟨b, off, none⟩), .int .i64 d] w fun e w' => e = .returned (.int .i64 v) ∧ w' = w.setCell ⟨b, off, none⟩ (.int .i64 v) := by
  go_enter Try.func63, Try.ntmps63
  go_wp2
  rw [run_callFunc_extern Try.func75 (by kernel_rfl) (by kernel_rfl) (by kernel_rfl) (e := Extern.Atomic.update (Op.intArith .add) .i64 true) (by kernel_rfl)]
  have e1 : (Extern.Atomic.update (Op.intArith .add) .i64 true #[.pointer (some ⟨b, off, none⟩), .int .i64 d]).run Try.prog w = .ok (.int .i64 (IntKind.i64.wrap (n + d))) (w.setCell ⟨b, off, none⟩ (.int .i64 (IntKind.i64.wrap (n + d)))) := by
    have e0 : Extern.Atomic.update (Op.intArith .add) .i64 true #[.pointer (some ⟨b, off, none⟩), .int .i64 d] = (asAddr (.pointer (some ⟨b, off, none⟩)) >>= fun a => Extern.Atomic.read (.int .i64) a >>= fun old => asInt old >>= fun x => asInt (.int .i64 d) >>= fun y => Op.intArith .add .i64 x y >>= fun new => store a new .atomic >>= fun _ => pure (if true then new else old)) := rfl
    rw [e0]
    simp [Extern.Atomic.read, asAddr, asInt, Op.intArith, go_sem, hc, hf]
  rw [hv] at e1
  rw [e1]
  simp only [Result.andThen]
  rw [Oper.upon_value]
  go_wp2
  go_ret
  exact ⟨rfl, rfl⟩
end Go.Proofs

/- sync/atomic's Load and Add of an int64, walked against the disk seat's program (alias Try). -/
import Derived.Test.YtijfdjjbodalaaaChecked
import Derived.WalkKit
import Derived.ProofKit
import Derived.Shelf.SlMaps.Clone
import Derived.Test.YtijfdjjbodalaaaDkCode
import Derived.Test.YtijfdjjbodalaaaAmAll4
import Derived.Test.YtijfdjjbodalaaaRows
import Derived.OpenShut
import Derived.Test.YtijfdjjbodalaaaAmAll5
namespace Go.Proofs
open Go.RowKit
set_option maxRecDepth 100000
theorem load_walk (w : World) (b off : Nat) (n : Int) (hc : w.cell? ⟨b, off, none⟩ = some (.int .i64 n)) : Calls Try.prog 61 #[.pointer (some ⟨b, off, none⟩)] w fun e w' => e = .returned (.int .i64 n) ∧ w' = w := by
  go_enter Try.func61, Try.ntmps61
  go_wp2
  rw [run_callFunc_extern Try.func74 (by kernel_rfl) (by kernel_rfl) (by kernel_rfl) (e := Extern.Atomic.loadT (.int .i64)) (by kernel_rfl)]
  have e1 : (Extern.Atomic.loadT (.int .i64) #[.pointer (some ⟨b, off, none⟩)]).run Try.prog w = .ok (.int .i64 n) w := by
    have e0 : Extern.Atomic.loadT (.int .i64) #[.pointer (some ⟨b, off, none⟩)] = (asAddr (.pointer (some ⟨b, off, none⟩)) >>= fun a => Extern.Atomic.read (.int .i64) a) := rfl
    rw [e0]
    simp [Extern.Atomic.read, asAddr, go_sem, hc]
  rw [e1]
  simp only [Result.andThen]
  rw [Oper.upon_value]
  go_wp2
  go_ret
  exact ⟨rfl, rfl⟩
theorem add_walk (w : World) (b off : Nat) (n d v : Int) (hv : IntKind.i64.wrap (n + d) = v) (hc : w.cell? ⟨b, off, none⟩ = some (.int .i64 n)) (hf : w.frozen? ⟨b, off, none⟩ = false) : Calls Try.prog 63 #[.pointer (some ⟨b, off, none⟩), .int .i64 d] w fun e w' => e = .returned (.int .i64 v) ∧ w' = w.setCell ⟨b, off, none⟩ (.int .i64 v) := by
  go_enter Try.func63, Try.ntmps63
  go_wp2
  rw [run_callFunc_extern Try.func75 (by kernel_rfl) (by kernel_rfl) (by kernel_rfl) (e := Extern.Atomic.update (Op.intArith .add) .i64 true) (by kernel_rfl)]
  have e1 : (Extern.Atomic.update (Op.intArith .add) .i64 true #[.pointer (some ⟨b, off, none⟩), .int .i64 d]).run Try.prog w = .ok (.int .i64 (IntKind.i64.wrap (n + d))) (w.setCell ⟨b, off, none⟩ (.int .i64 (IntKind.i64.wrap (n + d)))) := by
    have e0 : Extern.Atomic.update (Op.intArith .add) .i64 true #[.pointer (some ⟨b, off, none⟩), .int .i64 d] = (asAddr (.pointer (some ⟨b, off, none⟩)) >>= fun a => Extern.Atomic.read (.int .i64) a >>= fun old => asInt old >>= fun x => asInt (.int .i64 d) >>= fun y => Op.intArith .add .i64 x y >>= fun new => store a new .atomic >>= fun _ => pure (if true then new else old)) := rfl
    rw [e0]
    simp [Extern.Atomic.read, asAddr, asInt, Op.intArith, go_sem, hc, hf]
  rw [hv] at e1
  rw [e1]
  simp only [Result.andThen]
  rw [Oper.upon_value]
  go_wp2
  go_ret
  exact ⟨rfl, rfl⟩
end Go.Proofs
/- maps.Clone at the disk's map of names, walked against the disk seat's program (alias Try). -/
namespace Go.Proofs
open Go.RowKit
set_option maxRecDepth 100000
theorem clone_walk (b : Nat) (es : Array MapEntry) (clock : Nat) (w : World) (hb : w.heap[b]? = some (.map es clock)) :
    Calls Try.prog 36 #[.map (some b)] w fun e w' => e = .returned (.map (some w.heap.size)) ∧ w' = w.alloc (.map es clock) := by
  have t67 : Try.prog.underlying 67 = some (.map 9 77) := by kernel_rfl
  have hq := fun w => run_eql_map_nil_sl (P := Try.prog) w 67 _ _ (some b) t67
  go_enter Try.func36, Try.ntmps36
  go_wp2
  rw [run_callFunc_extern Try.func62 (by kernel_rfl) (by kernel_rfl) (by kernel_rfl) (e := Extern.MapsClone.clone) (by kernel_rfl), run_maps_clone_sl w 67 hb]
  simp only [Result.andThen]
  rw [Oper.upon_value]
  go_wp2
  rw [run_typeAssert_map_sl _ 67 20 _ _ _ t67]
  simp only [Result.andThen]
  rw [Oper.upon_value]
  go_wp2
  go_ret
  exact ⟨rfl, rfl⟩
theorem clone_walk_nil (w : World) : Calls Try.prog 36 #[.map none] w fun e w' => e = .returned (.map none) ∧ w' = w := by
  have t67 : Try.prog.underlying 67 = some (.map 9 77) := by kernel_rfl
  have hq := fun w => run_eql_map_nil_sl (P := Try.prog) w 67 _ _ none t67
  go_enter Try.func36, Try.ntmps36
  go_wp2
  go_ret
  exact ⟨rfl, rfl⟩
end Go.Proofs
/- The disk's laws: the program that is run on the abstract machine; awake; great. -/
set_option linter.unusedSimpArgs false
set_option linter.unusedVariables false
namespace Go.Am.Dk
open Go.Am Go.Proofs
set_option maxRecDepth 100000
theorem load_ok : LoadOk L 61 := fun w b off n hc => load_walk w b off n hc
theorem add_ok : AddOk L 63 := fun w b off n d v hv hc hf => add_walk w b off n d v hv hc hf
theorem clone_ok : CloneOk L 36 := ⟨fun w => clone_walk_nil w, fun w b es ck h => clone_walk b es ck w h⟩
def prim0 : Nat → List AV → Heap → Option (AV × Heap) := orP (loadOn 61) (orP (addOn 63) (cloneOn 36))
theorem prim0_sim : CallSim L prim0 := orP_sim (loadOn_sim load_ok) (orP_sim (addOn_sim add_ok) (cloneOn_sim clone_ok))
def P0 : Prog := { fn := code, prim := prim0, pure := pures }
theorem awake_run : ∃ h', call P0 1000 8 [] h0 = some (.bool true, h') := by
  have : (match call P0 1000 8 [] h0 with | some (.bool true, _) => true | _ => false) = true := by decide +kernel
  split at this
  · rename_i h' he; exact ⟨h', he⟩
  · simp at this
def awakeF : List AV → Option AV
  | [] => some (.bool true)
  | _ => none
theorem awake_ok : PrimOk L 8 awakeF := by
  intro args v hv g w vals _ ha
  cases args with
  | cons _ _ => simp [awakeF] at hv
  | nil =>
    simp only [awakeF, Option.some.injEq] at hv
    subst hv
    obtain ⟨h', hr⟩ := awake_run
    obtain ⟨hsz, -⟩ := ha
    have hz : vals = #[] := by simpa using hsz
    subst hz
    refine (law_true (PA := P0) (vals := #[]) (W := w) allFn mixed code_sim prim0_sim hr argsR_nil).mono ?_
    rintro e w' ⟨rfl, hb⟩
    exact ⟨_, rfl, hb, fun g' _ => .bool _⟩
def code1 : Nat → Option AFn := fun n => bif Nat.beq n 8 then none else code n
def prim1 : Nat → List AV → Heap → Option (AV × Heap) := orP (primOn 8 awakeF) prim0
end Go.Am.Dk
/- What the disk's rows share: the arguments as plain data; from a law's plain answer to its row. -/
namespace Go.Proofs.Ytijfdjjbodalaaa
open Go.ChangeShapes Go.WideShapes Go.ChangeAt Go.RowKit Go.Am Go.Am.Dk
set_option maxRecDepth 100000
theorem own : ownKnob Try.prog.godebug = none := by kernel_rfl
theorem laidOut : laidOutB Try.prog = true := by kernel_rfl
abbrev actFs : Array Field := #[⟨"Kind", 3, 0, false, "", "", 0⟩, ⟨"Name", 9, 1, false, "", "", 8⟩, ⟨"To", 9, 2, false, "", "", 24⟩, ⟨"B", 22, 3, false, "", "", 40⟩, ⟨"N", 3, 4, false, "", "", 64⟩, ⟨"E", 30, 5, false, "", "", 72⟩, ⟨"Keep", 36, 6, false, "", "", 80⟩]
theorem u41 : Try.prog.underlying 41 = some (.struct actFs) := by kernel_rfl
theorem offs41 : offsOk Try.prog 0 (Try.prog.cellsOf 41) actFs.toList = true := by kernel_rfl
theorem u3 : Try.prog.underlying 3 = some (.int .i64) := by kernel_rfl
theorem u4 : Try.prog.underlying 4 = some .bool := by kernel_rfl
theorem u5 : Try.prog.underlying 5 = some (.int .u8) := by kernel_rfl
theorem u9 : Try.prog.underlying 9 = some .string := by kernel_rfl
theorem u22 : Try.prog.underlying 22 = some (.slice 5) := by kernel_rfl
theorem u30 : Try.prog.underlying 30 = some (.int .i64) := by kernel_rfl
theorem u36 : Try.prog.underlying 36 = some (.slice 3) := by kernel_rfl
theorem c3 : Try.prog.cellsOf 3 = 1 := by kernel_rfl
theorem c5 : Try.prog.cellsOf 5 = 1 := by kernel_rfl
theorem c41 : Try.prog.cellsOf 41 = 7 := by kernel_rfl
section
variable {H : Type} {enc : TypeId × Value → H} {W : World} {spare : Nat → Bool} {held : Bool} {v : Value} {d : DataW H} {p : List MemPlace} {base : Nat}
theorem reads41 (f : Nat) : ReadsAs enc Try.prog W spare held 41 (Enc.cells (α := DAct)) ActWf f :=
  reads_act u41 rfl offs41 rfl rfl rfl rfl rfl rfl rfl u3 u30 u9 u22 u5 c5 u36 c3 f
end
end Go.Proofs.Ytijfdjjbodalaaa
/- great, and what a disk that is none answers. -/
namespace Go.Am.Dk
open Go.Am
variable {P : Prog}
set_option maxRecDepth 20000
set_option maxHeartbeats 1000000
def bigA (a : DAct) : Bool := decide (100 < a.name.length) || decide (100 < a.to.length) || decide (500 < a.b.length) || decide (60 < a.keep.length)
def greatL (l : List DAct) : Bool := (l.take 60).any bigA || decide (60 < l.length)
theorem great_den (hf : P.fn 15 = some a15) (l : List DAct) (nl full : Bool) (hl : l.length ≤ 9223372036854775807) (hw : ∀ a ∈ l, ActWf a) : Den P 15 [slv nl full l] (fun v => v = .bool (greatL l)) := by
  refine Den.of (code := a15c) hf (fun N => ?_)
  simp (disch := omega) only [go_sem, a15c, a15r0, a15r1]
  refine Wp_loop (fun x : Nat × Nat => x.2 ≤ l.length ∧ x.2 ≤ 60 ∧ (l.take x.2).any bigA = false) (fun (t, k) => { fr := [(0, slv nl full l), (3, .int .i64 k)], st := t, h := { next := N, m := .leaf } }) (fun x => l.length - x.2) (0, 0) rfl ⟨by simp, by simp, by simp⟩ ?_
  rintro ⟨t, k⟩ ⟨h1, h2, h3⟩
  simp only at h1 h2 h3
  simp (disch := omega) only [go_sem, a15l0, a15r2]
  refine guardS_pt (fun c1 w1 => ?_) (fun c1 w1 => ?_) <;> simp (disch := omega) only [go_sem, w1]
  · refine condS_if (fun c2 => ?_) (fun c2 => ?_)
    · have hk : k < l.length := by omega
      have hstep : (l.take (k + 1)).any bigA = bigA (l.getD k default) := by
        rw [List.take_succ_eq_append_getElem hk, List.any_append, h3, List.getD_eq_getElem?_getD, List.getElem?_eq_getElem hk]
        simp
      have hany : bigA (l.getD k default) = true → greatL l = true := fun hb => by
        unfold greatL
        rw [show (l.take 60).any bigA = true from ?_, Bool.true_or]
        rw [List.any_eq_true]
        refine ⟨l[k], List.mem_take_iff_getElem.2 ⟨k, by omega, rfl⟩, ?_⟩
        rw [← hb, List.getD_eq_getElem?_getD, List.getElem?_eq_getElem hk]; rfl
      have hwk : ActWf (l.getD k default) := by
        rw [List.getD_eq_getElem?_getD, List.getElem?_eq_getElem hk]
        exact hw _ (List.getElem_mem hk)
      simp only [bigA] at hany hstep
      simp (disch := omega) only [go_sem, a15r3]
      refine guardS_pf (fun d1 v1 => ?_) (fun d1 v1 => ?_) <;> simp (disch := omega) only [go_sem, v1]
      · refine guardS_pf (fun d2 v2 => ?_) (fun d2 v2 => ?_) <;> simp (disch := omega) only [go_sem, v2]
        · refine guardS_pf (fun d3 v3 => ?_) (fun d3 v3 => ?_) <;> simp (disch := omega) only [go_sem, v3]
          · refine condS_if (fun d4 => ?_) (fun d4 => ?_)
            · simp (disch := omega) only [go_sem, a15r4]
              rw [hany (by simp only [Bool.or_eq_true, decide_eq_true_eq]; omega)]
            · simp (disch := omega) only [go_sem, a15r5]
              exact ⟨(t, k + 1), ⟨by simp only; omega, by simp only; omega, by rw [hstep]; simp only [Bool.or_eq_false_iff, decide_eq_false_iff_not]; omega⟩, by simp only; omega, rfl⟩
          · simp (disch := omega) only [go_sem, a15r4]
            rw [hany (by simp only [Bool.or_eq_true, decide_eq_true_eq]; omega)]
        · simp (disch := omega) only [go_sem, a15r4]
          rw [hany (by simp only [Bool.or_eq_true, decide_eq_true_eq]; omega)]
      · simp (disch := omega) only [go_sem, a15r4]
        rw [hany (by simp only [Bool.or_eq_true, decide_eq_true_eq]; omega)]
    · have hk : 60 ≤ l.length := by omega
      have e60 : k = 60 := by omega
      simp (disch := omega) only [go_sem, a15r6]
      simp only [greatL]
      rw [← e60, h3, Bool.false_or]
      simp
      omega
  · simp (disch := omega) only [go_sem, a15r6]
    have hk : l.length ≤ k := by omega
    simp only [greatL]
    rw [List.take_of_length_le (by omega)]
    rw [List.take_of_length_le hk] at h3
    rw [h3]
    simp
    omega
end Go.Am.Dk
/- Clone, Lent, Kept, Same on the abstract machine, with what they leave alone. -/
namespace Go.Am.Dk
open Go.Am
set_option maxRecDepth 20000
set_option maxHeartbeats 1000000
def Ext (h h' : Heap) : Prop := h.next ≤ h'.next ∧ ∀ i, i < h.next → h'.get i = h.get i
theorem Ext.refl (h : Heap) : Ext h h := ⟨Nat.le_refl _, fun _ _ => rfl⟩
theorem Ext.trans {h h' h'' : Heap} (a : Ext h h') (b : Ext h' h'') : Ext h h'' := ⟨Nat.le_trans a.1 b.1, fun i hi => (b.2 i (Nat.lt_of_lt_of_le hi a.1)).trans (a.2 i hi)⟩
def NewRow (h h' : Heap) (v : AV) (l : List UInt8) : Prop := ∃ o ep, v = .hs 1 o ep 0 l.length false ∧ h.next ≤ o ∧ o < h'.next ∧ h'.get o = some (.row 1 ep (l.flatMap Enc.cells))
variable {P : Prog}
theorem clone_fun (hf : P.fn 35 = some a35) (hp : P.pure 35 = 0) (v : AV) (l : List UInt8) (h : Heap) (hl : l.length ≤ 1000000000000) (ha : ∀ h', Ext h h' → Adds h' v l) (hn : same 2 v .nils = some false) (hev : ∀ i, evS i (some v) = some v) (hdv : datW (some v) = some v) :
    Fun P 35 [v] h (fun v' h' => NewRow h h' v' l ∧ Ext h h') := by
  refine Fun.of (code := a35c) hf hp ?_
  simp (disch := omega) only [go_sem, a35c, a35r0, a35r1, hev, hdv, hn]
  simp (disch := omega) only [go_sem, a35r3, hev, hdv]
  have hx : Ext h ((h.reserve 2).put h.next (AObj.row 1 0 [])) := ⟨by show h.next ≤ h.next + 2; omega, fun i hi => get_put_ne _ _ _ _ (by omega)⟩
  refine step_app (α := UInt8) (bytes := 1) (l := []) (new := l) (Or.inr ⟨h.next, 0, rfl, get_put_same _ _ _⟩) (ha _ hx) rfl (by simp [two47]; omega) (fun v' h' hr hnx ho hfr => ?_)
  rw [List.nil_append] at hr
  have hrow : ∃ o ep, v' = .hs 1 o ep 0 l.length false ∧ h'.get o = some (.row 1 ep (l.flatMap Enc.cells)) ∧ (o = h.next ∨ o = h.next + 1) := by
    rcases hr with ⟨rfl, -⟩ | ⟨o, ep, rfl, hg⟩
    · rcases ho with ho | ho <;> cases ho
    · exact ⟨o, ep, rfl, hg, by simpa [rowOf] using ho⟩
  obtain ⟨o, ep, rfl, hg, ho⟩ := hrow
  have hnx' : h'.next = h.next + 2 := hnx
  simp (disch := omega) only [go_sem]
  refine ⟨⟨o, ep, rfl, by omega, by omega, hg⟩, by omega, fun i hi => ?_⟩
  rw [hfr i (by omega) (by simp only [rowOf, ne_eq, Option.some.injEq]; omega)]
  exact hx.2 i hi
def LentAt (h : Heap) (o ep : Nat) (b : List UInt8) : Prop := h.get o = some (.row 1 ep ((b ++ [77, 78, 79]).flatMap Enc.cells))
theorem take_succ_eq {α : Type} [Inhabited α] {a b : List α} {k : Nat} (ha : k < a.length) (hb : k < b.length) (h : a.take k = b.take k) (hk : a.getD k default = b.getD k default) : a.take (k + 1) = b.take (k + 1) := by
  rw [List.take_succ_eq_append_getElem ha, List.take_succ_eq_append_getElem hb, h]
  simp only [List.getD_eq_getElem?_getD, List.getElem?_eq_getElem ha, List.getElem?_eq_getElem hb, Option.getD_some] at hk
  rw [hk]
theorem same_den (hf : P.fn 14 = some a14) (a b : List UInt8) (n1 f1 n2 f2 : Bool) (hl : a.length ≤ 9223372036854775807) (hl' : b.length ≤ 9223372036854775807) : Den P 14 [slv n1 f1 a, slv n2 f2 b] (fun v => v = .bool (decide (a = b))) := by
  refine Den.of (code := a14c) hf (fun N => ?_)
  simp (disch := omega) only [go_sem, a14c, a14r0, a14r1]
  refine condS_if (fun h => ?_) (fun h => ?_) <;> simp (disch := omega) only [go_sem, a14r2, a14r3]
  · have : ¬ a = b := fun e => h (by rw [e])
    simp [this]
  · have hlen : a.length = b.length := by omega
    refine Wp_loop (fun x : Nat × Nat => x.2 ≤ a.length ∧ a.take x.2 = b.take x.2) (fun (t, k) => { fr := [(0, slv n1 f1 a), (1, slv n2 f2 b), (5, .int .i64 k)], st := t, h := { next := N, m := .leaf } }) (fun x => a.length - x.2) (0, 0) rfl ⟨by simp, by simp⟩ ?_
    rintro ⟨t, k⟩ ⟨h1, h2⟩
    simp only at h1 h2
    simp (disch := omega) only [go_sem, a14l0, a14r4]
    refine condS_if (fun hk => ?_) (fun hk => ?_)
    · simp (disch := omega) only [go_sem, a14d5]
      refine condS_if (fun c => ?_) (fun c => ?_) <;> simp (disch := omega) only [go_sem, a14r6, a14r7]
      · have : ¬ a = b := fun e => c (by rw [e])
        simp [this]
      · refine ⟨(t + 1, k + 1), ⟨by simp only; omega, ?_⟩, by simp only; omega, rfl⟩
        refine take_succ_eq (by omega) (by omega) h2 ?_
        have c' : ((a.getD k default).toNat : Int) = ((b.getD k default).toNat : Int) := by simpa using c
        exact UInt8.toNat_inj.1 (by exact_mod_cast c')
    · simp (disch := omega) only [go_sem, a14r8]
      have : a = b := by
        have := h2
        rwa [List.take_of_length_le (by omega), List.take_of_length_le (by omega)] at this
      simp [this]
end Go.Am.Dk
/- Used, on a disk of at most one file. -/
namespace Go.Am.Dk
open Go.Am
set_option maxRecDepth 20000
set_option maxHeartbeats 1000000
variable {P : Prog}
end Go.Am.Dk
/- New, with one file whose name is "a". -/
namespace Go.Am.Dk
open Go.Am
set_option maxRecDepth 20000
set_option maxHeartbeats 1000000
def nameF : List AV → Option AV
  | [.str [97]] => some (.bool true)
  | _ => none
def code2 : Nat → Option AFn := fun n => bif Nat.beq n 28 then none else code1 n
def prim2 : Nat → List AV → Heap → Option (AV × Heap) := orP prim1 (primOn 28 nameF)
def PO : Prog := { fn := code2, prim := prim2, pure := fun n => match n with | 14 => 2 | _ => 0 }
structure FilP where
  o : Nat
  deriving Inhabited
instance celFilP : Cel FilP where
  csz := 1
  ccells f := [.ptr f.o 0]
  clen _ := rfl
theorem LentAt.ext {h h' : Heap} {o ep : Nat} {b : List UInt8} (hl : LentAt h o ep b) (hx : Ext h h') (ho : o < h.next) : LentAt h' o ep b := (hx.2 o ho).trans hl
def Disk1 (h : Heap) (d m f o : Nat) (b : List UInt8) (n : Int) : Prop := ∃ c2 c3 c4 e su ep b0 ck, h.get d = some (.cells [.int .i64 2000, .mp m, c2, c3, c4, .bool false, .int .i64 n, .int .i64 0, .int .i64 0, e]) ∧
  h.get m = some (.map (kv [([97], .ptr f 0)]) [b0] ck) ∧ b0 < ck ∧ h.get f = some (.cells [.hs 1 o ep 0 b.length false, su]) ∧ h.get o = some (.row 1 ep (b.flatMap Enc.cells)) ∧
  (d ≠ m ∧ d ≠ f ∧ d ≠ o ∧ m ≠ f ∧ m ≠ o ∧ f ≠ o) ∧ d < h.next ∧ m < h.next ∧ f < h.next ∧ o < h.next
end Go.Am.Dk
/- The disk's state in plain Lean; where it lies in a heap. Own work. -/
namespace Go.Am.Dk
open Go.Am
abbrev NMap := List (List UInt8 × Nat)
def nget (k : List UInt8) : NMap → Option Nat
  | [] => none
  | p :: r => if p.1 = k then some p.2 else nget k r
def nput (k : List UInt8) (v : Nat) : NMap → NMap
  | [] => [(k, v)]
  | p :: r => if p.1 = k then (k, v) :: r else p :: nput k v r
def ndel (k : List UInt8) : NMap → NMap
  | [] => []
  | p :: r => if p.1 = k then r else p :: ndel k r
def fp (n : NMap) : TMap := n.map fun p => (p.1, .ptr p.2 0)
theorem fp_cons (p : List UInt8 × Nat) (r : NMap) : fp (p :: r) = (p.1, .ptr p.2 0) :: fp r := rfl
theorem fp_length (n : NMap) : (fp n).length = n.length := by simp [fp]
theorem tget_fp (k : List UInt8) : ∀ n : NMap, tget k (fp n) = (nget k n).map fun f => .ptr f 0
  | [] => rfl
  | p :: r => by
    rw [fp_cons, tget, nget, tget_fp k r]
    split <;> rfl
theorem tput_fp (k : List UInt8) (f : Nat) : ∀ n : NMap, tput k (.ptr f 0) (fp n) = fp (nput k f n)
  | [] => rfl
  | p :: r => by
    rw [fp_cons, tput, nput, tput_fp k f r]
    split <;> rfl
theorem tdel_fp (k : List UInt8) : ∀ (n : NMap) (bs : List Nat), bs.length = n.length → (tdel k (fp n) bs).1 = fp (ndel k n)
  | [], [], _ => rfl
  | [], _ :: _, h => by simp at h
  | p :: r, [], h => by simp at h
  | p :: r, b :: bs, h => by
    rw [fp_cons, tdel, ndel]
    split
    · rfl
    · rw [fp_cons]; simp only [tdel_fp k r bs (by simpa using h)]
theorem nget_mem {k : List UInt8} {f : Nat} : ∀ {n : NMap}, nget k n = some f → (k, f) ∈ n
  | p :: r, h => by
    rw [nget] at h
    split at h
    · rename_i e
      obtain rfl := Option.some.inj h
      rw [← e]; exact List.mem_cons_self
    · exact List.mem_cons_of_mem _ (nget_mem h)
theorem mem_nput {k : List UInt8} {f : Nat} {p : List UInt8 × Nat} : ∀ {n : NMap}, p ∈ nput k f n → p ∈ n ∨ p = (k, f)
  | [], h => Or.inr (by simpa [nput] using h)
  | q :: r, h => by
    rw [nput] at h
    split at h
    · rcases List.mem_cons.1 h with h | h
      · exact Or.inr h
      · exact Or.inl (List.mem_cons_of_mem _ h)
    · rcases List.mem_cons.1 h with h | h
      · exact Or.inl (by rw [h]; exact List.mem_cons_self)
      · rcases mem_nput h with h | h
        · exact Or.inl (List.mem_cons_of_mem _ h)
        · exact Or.inr h
theorem mem_ndel {k : List UInt8} {p : List UInt8 × Nat} : ∀ {n : NMap}, p ∈ ndel k n → p ∈ n
  | q :: r, h => by
    rw [ndel] at h
    split at h
    · exact List.mem_cons_of_mem _ h
    · rcases List.mem_cons.1 h with h | h
      · rw [h]; exact List.mem_cons_self
      · exact List.mem_cons_of_mem _ (mem_ndel h)
theorem keys_nput {k : List UInt8} {f : Nat} : ∀ {n : NMap}, (nput k f n).map (·.1) = if k ∈ n.map (·.1) then n.map (·.1) else n.map (·.1) ++ [k]
  | [] => rfl
  | q :: r => by
    rw [nput]
    by_cases e : q.1 = k
    · simp [e]
    · have e' : ¬ k = q.1 := fun h => e h.symm
      simp only [e, if_false, List.map_cons, List.mem_cons, e', false_or, keys_nput (n := r)]
      split <;> simp
theorem nodup_nput {k : List UInt8} {f : Nat} {n : NMap} (h : (n.map (·.1)).Nodup) : ((nput k f n).map (·.1)).Nodup := by
  rw [keys_nput]
  split
  · exact h
  · rename_i hk
    rw [List.nodup_append]
    exact ⟨h, by simp, fun a ha b hb => by
      rw [List.mem_singleton] at hb
      subst hb
      exact fun e => hk (e ▸ ha)⟩
theorem keys_ndel_sub {k : List UInt8} : ∀ {n : NMap}, ((ndel k n).map (·.1)).Sublist (n.map (·.1))
  | [] => List.Sublist.slnil
  | q :: r => by
    rw [ndel]
    split
    · exact List.sublist_cons_self _ _
    · exact List.Sublist.cons_cons _ keys_ndel_sub
theorem nodup_ndel {k : List UInt8} {n : NMap} (h : (n.map (·.1)).Nodup) : ((ndel k n).map (·.1)).Nodup := List.Sublist.nodup keys_ndel_sub h
theorem nget_nput_same (k : List UInt8) (f : Nat) : ∀ n : NMap, nget k (nput k f n) = some f
  | [] => by simp [nput, nget]
  | p :: r => by
    rw [nput]
    by_cases e : p.1 = k
    · simp [e, nget]
    · simp only [e, if_false, nget, nget_nput_same k f r]
theorem nget_nput_ne {k j : List UInt8} (f : Nat) (hn : j ≠ k) : ∀ n : NMap, nget j (nput k f n) = nget j n
  | [] => by simp [nput, nget, Ne.symm hn]
  | p :: r => by
    rw [nput]
    by_cases e : p.1 = k
    · have : ¬ p.1 = j := fun h => hn (h.symm.trans e)
      simp only [e, if_true, nget, Ne.symm hn, if_false, this]
    · simp only [e, if_false, nget, nget_nput_ne f hn r]
theorem nget_ndel_ne {k j : List UInt8} (hn : j ≠ k) : ∀ n : NMap, nget j (ndel k n) = nget j n
  | [] => rfl
  | p :: r => by
    rw [ndel]
    by_cases e : p.1 = k
    · have : ¬ p.1 = j := fun h => hn (h.symm.trans e)
      simp only [e, if_true, nget, this, if_false]
      rw [if_neg (fun h => hn h.symm)]
    · simp only [e, if_false, nget, nget_ndel_ne hn r]
structure DFile where
  b : List UInt8
  sure : Nat
  deriving Inhabited
structure DTurn where
  fr : List UInt8
  to : List UInt8
  f : Option Nat
  deriving Inhabited
def fcell : Option Nat → AV
  | none => .nilp
  | some f => .ptr f 0
instance celTurn : Cel DTurn where
  csz := 3
  ccells t := [strv t.fr, strv t.to, fcell t.f]
  clen _ := rfl
def turnDo (t : DTurn) (n : NMap) : NMap :=
  match t.f with
  | some f => if t.to = [] then n else nput t.to f n
  | none => match nget t.fr n with
    | none => ndel t.fr n
    | some f => if t.to = [] then ndel t.fr n else nput t.to f (ndel t.fr n)
structure DSt where
  cap : Int
  names : NMap
  sure : NMap
  all : List Nat
  waits : List DTurn
  dead : Bool
  calls : Int
  fuse : Int
  fault : Int
  e : Int
  file : Nat → DFile
structure DSt.Ok (σ : DSt) : Prop where
  names : ∀ p ∈ σ.names, p.2 ∈ σ.all
  sure : ∀ p ∈ σ.sure, p.2 ∈ σ.all
  waits : ∀ t ∈ σ.waits, ∀ f, t.f = some f → f ∈ σ.all
  nd : (σ.names.map (·.1)).Nodup
  sd : (σ.sure.map (·.1)).Nodup
  ad : σ.all.Nodup
structure Stp (bs : List Nat) (ck n : Nat) : Prop where
  len : bs.length = n
  nd : bs.Nodup
  lt : ∀ b ∈ bs, b < ck
def MapAt (h : Heap) (m : Nat) (n : NMap) : Prop := ∃ bs ck, h.get m = some (.map (kv (fp n)) bs ck) ∧ Stp bs ck n.length
structure Lay where
  m : Nat
  m2 : Nat
  av : AV
  wv : AV
  bv : Nat → AV
def DSt.cells (σ : DSt) (y : Lay) : List AV := [.int .i64 σ.cap, .mp y.m, .mp y.m2, y.av, y.wv, .bool σ.dead, .int .i64 σ.calls, .int .i64 σ.fuse, .int .i64 σ.fault, .int .i64 σ.e]
def Own (d : Nat) (σ : DSt) (y : Lay) (o : Nat) : Prop := o = d ∨ o = y.m ∨ o = y.m2 ∨ rowOf y.av = some o ∨ rowOf y.wv = some o ∨ ∃ f ∈ σ.all, o = f ∨ rowOf (y.bv f) = some o
structure DiskAt (h : Heap) (d : Nat) (σ : DSt) (y : Lay) : Prop where
  ok : σ.Ok
  disk : h.get d = some (.cells (σ.cells y))
  names : MapAt h y.m σ.names
  sure : MapAt h y.m2 σ.sure
  all : PreC h y.av (σ.all.map FilP.mk)
  waits : PreC h y.wv σ.waits
  cell : ∀ f ∈ σ.all, h.get f = some (.cells [y.bv f, .int .i64 (σ.file f).sure])
  bytes : ∀ f ∈ σ.all, PreC h (y.bv f) (σ.file f).b
  mm : y.m ≠ y.m2
  bb : ∀ f ∈ σ.all, ∀ f' ∈ σ.all, f ≠ f' → ∀ o, rowOf (y.bv f) = some o → rowOf (y.bv f') ≠ some o
  ab : ∀ f ∈ σ.all, ∀ o, rowOf y.av = some o → rowOf (y.bv f) ≠ some o
  wb : ∀ f ∈ σ.all, ∀ o, rowOf y.wv = some o → rowOf (y.bv f) ≠ some o
  aw : ∀ o, rowOf y.av = some o → rowOf y.wv ≠ some o
  lt : ∀ o, Own d σ y o → o < h.next
end Go.Am.Dk
/- The disk's smaller functions: begin, open, a turn. -/
namespace Go.Am.Dk
open Go.Am
set_option maxRecDepth 20000
set_option maxHeartbeats 1000000
structure DkP (P : Prog) : Prop where
  fn : ∀ n, n ≠ 8 → n ≠ 33 → n ≠ 21 → n ≠ 24 → P.fn n = code n
  pure : P.pure = pures
  add : ∀ args h r, prim0 63 args h = some r → P.prim 63 args h = some r
  load : ∀ args h r, prim0 61 args h = some r → P.prim 61 args h = some r
  clone : ∀ args h r, prim0 36 args h = some r → P.prim 36 args h = some r
variable {P : Prog}
theorem tdel_sub (k : List UInt8) : ∀ (es : TMap) (bs : List Nat), ((tdel k es bs).2).Sublist bs
  | [], bs => List.Sublist.refl _
  | _ :: _, [] => List.Sublist.refl _
  | p :: r, b :: bs => by
    rw [tdel]
    split
    · exact List.sublist_cons_self _ _
    · exact List.Sublist.cons_cons _ (tdel_sub k r bs)
theorem tdel_len (k : List UInt8) : ∀ (n : NMap) (bs : List Nat), bs.length = n.length → ((tdel k (fp n) bs).2).length = (ndel k n).length
  | [], [], _ => rfl
  | [], _ :: _, h => by simp at h
  | p :: r, [], h => by simp at h
  | p :: r, b :: bs, h => by
    rw [fp_cons, tdel, ndel]
    split
    · simpa using h
    · simp only [List.length_cons, tdel_len k r bs (by simpa using h)]
theorem putM_at {h : Heap} {m ck : Nat} {bs : List Nat} {n : NMap} (hs : Stp bs ck n.length) (k : List UInt8) (f : Nat) : MapAt (h.put m (putM k (.ptr f 0) (fp n) bs ck)) m (nput k f n) := by
  have hl : (nput k f n).length = if (tget k (fp n)).isSome then n.length else n.length + 1 := by
    have := tput_length k (.ptr f 0) (fp n)
    rw [tput_fp, fp_length, fp_length] at this
    exact this
  unfold putM
  rw [tput_fp]
  split
  · rename_i hq
    refine ⟨bs, ck, get_put_same _ _ _, ⟨?_, hs.nd, hs.lt⟩⟩
    rw [hl, if_pos hq, hs.len]
  · rename_i hq
    refine ⟨bs ++ [ck], ck + 1, get_put_same _ _ _, ⟨?_, ?_, fun b hb => ?_⟩⟩
    · rw [hl, if_neg hq, List.length_append, hs.len]; rfl
    · rw [List.nodup_append]
      exact ⟨hs.nd, by simp, fun a ha b hb => by
        rw [List.mem_singleton] at hb
        subst hb
        exact Nat.ne_of_lt (hs.lt a ha)⟩
    · rcases List.mem_append.1 hb with hb | hb
      · exact Nat.lt_succ_of_lt (hs.lt b hb)
      · rw [List.mem_singleton] at hb; omega
theorem delM_at {h : Heap} {m ck : Nat} {bs : List Nat} {n : NMap} (hs : Stp bs ck n.length) (k : List UInt8) : MapAt (h.put m (.map (kv (tdel k (fp n) bs).1) (tdel k (fp n) bs).2 ck)) m (ndel k n) := by
  rw [tdel_fp k n bs hs.len]
  exact ⟨_, ck, get_put_same _ _ _, ⟨tdel_len k n bs hs.len, List.Sublist.nodup (tdel_sub k _ _) hs.nd, fun b hb => hs.lt b ((tdel_sub k _ _).subset hb)⟩⟩
theorem MapAt.look {h : Heap} {m : Nat} {n : NMap} (hm : MapAt h m n) (h0 : Heap) (k : List UInt8) : lookM h0 1 .nilp false (strv k) (h.get m) = some (fcell (nget k n)) := by
  obtain ⟨bs, ck, hg, -⟩ := hm
  rw [hg, lookM_kv, tget_fp]
  cases nget k n <;> rfl
theorem MapAt.of_get {h h' : Heap} {m : Nat} {n : NMap} (hm : MapAt h m n) (e : h'.get m = h.get m) : MapAt h' m n := by
  obtain ⟨bs, ck, hg, hs⟩ := hm
  exact ⟨bs, ck, by rw [e]; exact hg, hs⟩
@[go_sem] theorem evS_fcell (i : Nat) (f : Option Nat) : evS i (some (fcell f)) = some (fcell f) := by cases f <;> rfl
@[go_sem] theorem datW_fcell (f : Option Nat) : datW (some (fcell f)) = some (fcell f) := by cases f <;> rfl
@[go_sem] theorem same_fcell (f : Option Nat) : same 1 (fcell f) .nilp = some f.isNone := by cases f <;> rfl
@[go_sem] theorem fcell_none : fcell none = .nilp := rfl
theorem fcell_some (f : Nat) : fcell (some f) = .ptr f 0 := rfl
theorem do_fun (hP : DkP P) (t : DTurn) (h : Heap) (m : Nat) (n : NMap) (hm : MapAt h m n) :
    Fun P 50 [.agg [strv t.fr, strv t.to, fcell t.f], .mp m] h (fun v h' => MapAt h' m (turnDo t n) ∧ h'.next = h.next ∧ ∀ o, o ≠ m → h'.get o = h.get o) := by
  obtain ⟨fr, to, f⟩ := t
  refine Fun.of (code := a50c) (by rw [hP.fn _ (by decide) (by decide) (by decide) (by decide)]; rfl) (by rw [hP.pure]; rfl) ?_
  have tail : ∀ (fr0 : Fr) (st : Nat) (h1 : Heap) (n1 : NMap) (g : Option Nat), fget fr0 1 = some (.mp m) → fget fr0 2 = some (.lbox 0 [strv fr, strv to, fcell f]) → fget fr0 4 = some (fcell g) → MapAt h1 m n1 → h1.next = h.next → (∀ o, o ≠ m → h1.get o = h.get o) → turnDo ⟨fr, to, f⟩ n = (match g with | some f => if to = [] then n1 else nput to f n1 | none => n1) →
      WO P h1.next a50r5 { fr := fr0, st := st, h := h1 } (regK (seqQ P (.cond (.s 22) (.reg 0 a50r6 []) .skip)
        (bodyQ [] fun v h' => MapAt h' m (turnDo ⟨fr, to, f⟩ n) ∧ h'.next = h.next ∧ ∀ (o : Nat), o ≠ m → h'.get o = h.get o)) [1, 2, 4, 22]) := fun fr0 st h1 n1 g q1 q2 q4 hm1 e1 e2 e3 => by
    rw [e3]
    simp (disch := omega) only [go_sem, a50r5, q1, q2, q4]
    refine guardS_pt (fun c w => ?_) (fun c w => ?_) <;> simp (disch := omega) only [go_sem, w, q1, q2, q4]
    · cases g with
      | none =>
        simp (disch := omega) only [go_sem, Option.isNone_none]
        exact ⟨hm1, e1, e2⟩
      | some f1 =>
        simp (disch := omega) only [go_sem, Option.isNone_some]
        obtain ⟨bs, ck, hg, hs⟩ := hm1
        simp (disch := omega) only [go_sem, a50r6, hg, fcell_some]
        rw [if_neg c]
        exact ⟨putM_at hs to f1, e1, fun o ho => by rw [get_put_ne _ _ _ _ ho]; exact e2 o ho⟩
    · have c' : to = [] := by simpa using c
      cases g with
      | none => exact ⟨hm1, e1, e2⟩
      | some f1 => simp only [c', if_true]; exact ⟨hm1, e1, e2⟩
  simp (disch := omega) only [go_sem, a50c, a50r0]
  simp (disch := omega) only [go_sem, a50r1]
  simp (disch := omega) only [go_sem, a50r2]
  cases f with
  | some f =>
    simp (disch := omega) only [go_sem, Option.isNone_some]
    exact tail _ _ h n (some f) rfl rfl rfl hm rfl (fun _ _ => rfl) rfl
  | none =>
    obtain ⟨bs, ck, hg, hs⟩ := id hm
    have hl := hm.look
    simp (disch := omega) only [go_sem, Option.isNone_none, a50r3, hl]
    simp (disch := omega) only [go_sem, a50r4, hg]
    rw [delM_kv _ _ _ _ _ _ (by rw [fp_length]; exact hs.len)]
    simp (disch := omega) only [go_sem]
    refine tail _ _ _ (ndel fr n) (nget fr n) rfl rfl rfl (delM_at hs fr) rfl (fun o ho => get_put_ne _ _ _ _ ho) ?_
    simp only [turnDo]
    cases nget fr n <;> rfl
def beginS (σ : DSt) : Int × DSt :=
  if σ.dead then (9, σ)
  else if σ.calls + 1 = σ.fuse then (9, { σ with calls := σ.calls + 1, dead := true })
  else if σ.calls + 1 = σ.fault then (σ.e, { σ with calls := σ.calls + 1, fault := 0 })
  else (0, { σ with calls := σ.calls + 1 })
theorem DiskAt.turn {h h' : Heap} {d : Nat} {σ σ' : DSt} {y : Lay} (hD : DiskAt h d σ y) (hd : h'.get d = some (.cells (σ'.cells y))) (ho : ∀ o, Own d σ y o → o ≠ d → h'.get o = h.get o) (hn : h.next ≤ h'.next)
    (s1 : σ'.names = σ.names) (s2 : σ'.sure = σ.sure) (s3 : σ'.all = σ.all) (s4 : σ'.waits = σ.waits) (s5 : σ'.file = σ.file) : DiskAt h' d σ' y := by
  have cne : ∀ o, h.get o ≠ h.get d → o ≠ d := fun o h1 e => h1 (by rw [e])
  have rne : ∀ {α : Type} [Cel α] {v : AV} {l : List α}, PreC h v l → ∀ o, rowOf v = some o → o ≠ d := fun hr o hq => by
    rcases hr with ⟨rfl, -⟩ | ⟨o', ep, j, rfl, hg⟩
    · cases hq
    · obtain rfl := Option.some.inj hq
      refine cne _ ?_
      rw [hg, hD.disk]
      simp
  have mne : ∀ {m : Nat} {n : NMap}, MapAt h m n → m ≠ d := fun ⟨bs, ck, hg, _⟩ => cne _ (by rw [hg, hD.disk]; simp)
  have fne : ∀ f ∈ σ.all, f ≠ d := fun f hf => cne _ (by rw [hD.cell f hf, hD.disk]; simp [DSt.cells])
  have ownE : ∀ o, Own d σ' y o ↔ Own d σ y o := fun o => by simp only [Own, s3]
  refine ⟨⟨by rw [s1, s3]; exact hD.ok.names, by rw [s2, s3]; exact hD.ok.sure, by rw [s4, s3]; exact hD.ok.waits, by rw [s1]; exact hD.ok.nd, by rw [s2]; exact hD.ok.sd, by rw [s3]; exact hD.ok.ad⟩, hd, ?_, ?_, ?_, ?_, ?_, ?_, hD.mm, by rw [s3]; exact hD.bb, by rw [s3]; exact hD.ab, by rw [s3]; exact hD.wb, hD.aw, fun o hq => Nat.lt_of_lt_of_le (hD.lt o ((ownE o).1 hq)) hn⟩
  · rw [s1]; exact hD.names.of_get (ho _ (Or.inr (Or.inl rfl)) (mne hD.names))
  · rw [s2]; exact hD.sure.of_get (ho _ (Or.inr (Or.inr (Or.inl rfl))) (mne hD.sure))
  · rw [s3]; exact hD.all.keep (fun o hq => ho o (Or.inr (Or.inr (Or.inr (Or.inl hq)))) (rne hD.all o hq))
  · rw [s4]; exact hD.waits.keep (fun o hq => ho o (Or.inr (Or.inr (Or.inr (Or.inr (Or.inl hq))))) (rne hD.waits o hq))
  · rw [s3, s5]
    intro f hf
    rw [ho f (Or.inr (Or.inr (Or.inr (Or.inr (Or.inr ⟨f, hf, Or.inl rfl⟩))))) (fne f hf)]
    exact hD.cell f hf
  · rw [s3, s5]
    intro f hf
    exact (hD.bytes f hf).keep (fun o hq => ho o (Or.inr (Or.inr (Or.inr (Or.inr (Or.inr ⟨f, hf, Or.inr hq⟩))))) (rne (hD.bytes f hf) o hq))
theorem DiskAt.ext {h h' : Heap} {d : Nat} {σ : DSt} {y : Lay} (hD : DiskAt h d σ y) (ho : ∀ o, Own d σ y o → h'.get o = h.get o) (hn : h.next ≤ h'.next) : DiskAt h' d σ y :=
  hD.turn ((ho d (Or.inl rfl)).trans hD.disk) (fun o h1 _ => ho o h1) hn rfl rfl rfl rfl rfl
theorem add_funP (hP : DkP P) (h : Heap) (d : Nat) (n : Int) (c0 c1 c2 c3 c4 c5 : AV) (r : List AV) (hd : h.get d = some (.cells (c0 :: c1 :: c2 :: c3 :: c4 :: c5 :: .int .i64 n :: r))) (h1 : 0 ≤ n) (h2 : n < 9000000000000000000) :
    Fun P 63 [.ptr d 6, .int .i64 1] h (fun v h' => v = .int .i64 (n + 1) ∧ h' = h.put d (.cells (c0 :: c1 :: c2 :: c3 :: c4 :: c5 :: .int .i64 (n + 1) :: r))) := by
  have hw : wrapA .i64 (n + 1) = n + 1 := by
    obtain ⟨m, rfl⟩ := Int.eq_ofNat_of_zero_le h1
    show (bif Nat.blt (m + 1) 9223372036854775808 then Int.ofNat (m + 1) else IntKind.i64.wrap (Int.ofNat (m + 1))) = _
    rw [show Nat.blt (m + 1) 9223372036854775808 = true by simp only [nblt, decide_eq_true_eq]; omega]
    rfl
  refine Fun.prim (v := .int .i64 (n + 1)) (h' := h.put d (.cells (c0 :: c1 :: c2 :: c3 :: c4 :: c5 :: .int .i64 (n + 1) :: r))) (by rw [hP.fn _ (by decide) (by decide) (by decide) (by decide)]; rfl) (by rw [hP.pure]; rfl) (hP.add _ _ _ ?_) ⟨rfl, rfl⟩
  have b2 : Nat.beq 63 61 = false := rfl
  have b3 : Nat.beq 63 63 = true := rfl
  have b4 : intOf (c0 :: c1 :: c2 :: c3 :: c4 :: c5 :: AV.int IntKind.i64 n :: r)[6]? = some n := rfl
  simp only [prim0, orP, loadOn, addOn, cloneOn, b2, b3, cond_false, cond_true, atCell, b4, wr, hd, over, over0, hw, Option.bind_some]
theorem beginD_fun (hP : DkP P) (h : Heap) (d : Nat) (σ : DSt) (y : Lay) (hD : DiskAt h d σ y) (h1 : 0 ≤ σ.calls) (h2 : σ.calls < 9000000000000000000) :
    Fun P 38 [.ptr d 0] h (fun v h' => v = .int .i64 (beginS σ).1 ∧ DiskAt h' d (beginS σ).2 y ∧ h'.next = h.next ∧ ∀ o, o ≠ d → h'.get o = h.get o) := by
  have hd := hD.disk
  have fin : ∀ (h' : Heap) (σ' : DSt), h'.get d = some (.cells (σ'.cells y)) → h'.next = h.next → (∀ o, o ≠ d → h'.get o = h.get o) → σ'.names = σ.names → σ'.sure = σ.sure → σ'.all = σ.all → σ'.waits = σ.waits → σ'.file = σ.file → DiskAt h' d σ' y :=
    fun h' σ' q1 q2 q3 s1 s2 s3 s4 s5 => hD.turn q1 (fun o _ ho => q3 o ho) (by omega) s1 s2 s3 s4 s5
  refine Fun.of (code := a38c) (by rw [hP.fn _ (by decide) (by decide) (by decide) (by decide)]; rfl) (by rw [hP.pure]; rfl) ?_
  simp only [DSt.cells] at hd
  simp (disch := omega) only [go_sem, a38c, a38r0, a38r1, a38r3, hd]
  unfold beginS
  refine condS_split (fun c => ?_) (fun c => ?_)
  · rw [if_pos c]
    simp (disch := omega) only [go_sem, a38r4]
    exact ⟨trivial, hD, trivial, fun _ _ => trivial⟩
  · rw [if_neg (by simp [c])]
    simp (disch := omega) only [go_sem, a38r5]
    refine WO.fun (vs := [.ptr d 6, .int .i64 1]) (by simp (disch := omega) only [go_sem]) (add_funP hP h d σ.calls (.int .i64 σ.cap) (.mp y.m) (.mp y.m2) y.av y.wv (.bool σ.dead) [.int .i64 σ.fuse, .int .i64 σ.fault, .int .i64 σ.e] hd h1 h2) (fun v h' hv => ?_)
    obtain ⟨rfl, rfl⟩ := hv
    simp (disch := omega) only [go_sem, a38r6, get_put_same]
    refine condS_if (fun c2 => ?_) (fun c2 => ?_)
    · rw [if_pos c2]
      simp (disch := omega) only [go_sem, a38r7, get_put_same]
      simp (disch := omega) only [go_sem, a38r8]
      exact ⟨trivial, fin _ { σ with calls := σ.calls + 1, dead := true } (get_put_same _ _ _) rfl (fun o ho => by rw [get_put_ne _ _ _ _ ho, get_put_ne _ _ _ _ ho]) rfl rfl rfl rfl rfl, trivial, fun o ho => by rw [get_put_ne _ _ _ _ ho, get_put_ne _ _ _ _ ho]⟩
    · rw [if_neg c2]
      simp (disch := omega) only [go_sem, a38r9, get_put_same]
      refine condS_if (fun c3 => ?_) (fun c3 => ?_)
      · rw [if_pos c3]
        simp (disch := omega) only [go_sem, a38r10, get_put_same]
        simp (disch := omega) only [go_sem, a38r11, get_put_same]
        exact ⟨trivial, fin _ { σ with calls := σ.calls + 1, fault := 0 } (get_put_same _ _ _) rfl (fun o ho => by rw [get_put_ne _ _ _ _ ho, get_put_ne _ _ _ _ ho]) rfl rfl rfl rfl rfl, trivial, fun o ho => by rw [get_put_ne _ _ _ _ ho, get_put_ne _ _ _ _ ho]⟩
      · rw [if_neg c3]
        simp (disch := omega) only [go_sem, a38r12]
        exact ⟨trivial, fin _ { σ with calls := σ.calls + 1 } (get_put_same _ _ _) rfl (fun o ho => get_put_ne _ _ _ _ ho) rfl rfl rfl rfl rfl, trivial, fun o ho => get_put_ne _ _ _ _ ho⟩
end Go.Am.Dk
/- The disk's functions: open, turns. -/
namespace Go.Am.Dk
open Go.Am
set_option maxRecDepth 20000
set_option maxHeartbeats 1000000
variable {P : Prog}
theorem DkP.code (hP : DkP P) {n : Nat} {a : AFn} (h : code n = some a) (h8 : n ≠ 8 := by decide) (h33 : n ≠ 33 := by decide) (h21 : n ≠ 21 := by decide) (h24 : n ≠ 24 := by decide) : P.fn n = some a := (hP.fn n h8 h33 h21 h24).trans h
def kd : Option AObj → Nat
  | some (.cells c) => 10 + c.length
  | some (.row _ _ _) => 1
  | some (.map _ _ _) => 2
  | _ => 0
theorem ne_kd {h : Heap} {a b : Nat} (hk : kd (h.get a) ≠ kd (h.get b)) : a ≠ b := fun e => hk (by rw [e])
theorem pre_kd {α : Type} [Cel α] {h : Heap} {v : AV} {l : List α} (hr : PreC h v l) {o : Nat} (ho : rowOf v = some o) : Dk.kd (h.get o) = 1 := by
  rcases hr with ⟨rfl, -⟩ | ⟨o', ep, j, rfl, hg⟩
  · cases ho
  · obtain rfl := Option.some.inj ho
    rw [hg]; rfl
theorem MapAt.kd {h : Heap} {m : Nat} {n : NMap} (hm : MapAt h m n) : Dk.kd (h.get m) = 2 := by
  obtain ⟨bs, ck, hg, -⟩ := hm
  rw [hg]; rfl
theorem DiskAt.kd {h : Heap} {d : Nat} {σ : DSt} {y : Lay} (hD : DiskAt h d σ y) : Dk.kd (h.get d) = 20 := by rw [hD.disk]; rfl
theorem DiskAt.fkd {h : Heap} {d : Nat} {σ : DSt} {y : Lay} (hD : DiskAt h d σ y) {f : Nat} (hf : f ∈ σ.all) : Dk.kd (h.get f) = 12 := by rw [hD.cell f hf]; rfl
structure Sep (d : Nat) (σ : DSt) (y : Lay) : Prop where
  dm : y.m ≠ d
  dm2 : y.m2 ≠ d
  df : ∀ f ∈ σ.all, f ≠ d
  fm : ∀ f ∈ σ.all, f ≠ y.m
  fm2 : ∀ f ∈ σ.all, f ≠ y.m2
  av : ∀ o, rowOf y.av = some o → o ≠ d ∧ o ≠ y.m ∧ o ≠ y.m2 ∧ ∀ f ∈ σ.all, f ≠ o
  wv : ∀ o, rowOf y.wv = some o → o ≠ d ∧ o ≠ y.m ∧ o ≠ y.m2 ∧ ∀ f ∈ σ.all, f ≠ o
  bv : ∀ g ∈ σ.all, ∀ o, rowOf (y.bv g) = some o → o ≠ d ∧ o ≠ y.m ∧ o ≠ y.m2 ∧ ∀ f ∈ σ.all, f ≠ o
theorem DiskAt.sep {h : Heap} {d : Nat} {σ : DSt} {y : Lay} (hD : DiskAt h d σ y) : Sep d σ y := by
  have row : ∀ {o : Nat}, Dk.kd (h.get o) = 1 → o ≠ d ∧ o ≠ y.m ∧ o ≠ y.m2 ∧ ∀ f ∈ σ.all, f ≠ o := fun hk =>
    ⟨ne_kd (by rw [hk, hD.kd]; decide), ne_kd (by rw [hk, hD.names.kd]; decide), ne_kd (by rw [hk, hD.sure.kd]; decide), fun f hf => ne_kd (by rw [hk, hD.fkd hf]; decide)⟩
  exact ⟨ne_kd (by rw [hD.kd, hD.names.kd]; decide), ne_kd (by rw [hD.kd, hD.sure.kd]; decide), fun f hf => ne_kd (by rw [hD.kd, hD.fkd hf]; decide), fun f hf => ne_kd (by rw [hD.names.kd, hD.fkd hf]; decide),
    fun f hf => ne_kd (by rw [hD.sure.kd, hD.fkd hf]; decide), fun o ho => row (pre_kd hD.all ho), fun o ho => row (pre_kd hD.waits ho), fun g hg o ho => row (pre_kd (hD.bytes g hg) ho)⟩
def Frm (h h' : Heap) (O : Nat → Prop) : Prop := h.next ≤ h'.next ∧ ∀ o, o < h.next → ¬ O o → h'.get o = h.get o
theorem Frm.refl (h : Heap) (O : Nat → Prop) : Frm h h O := ⟨Nat.le_refl _, fun _ _ _ => rfl⟩
def openS (σ : DSt) (s : List UInt8) : Option Nat × Int × DSt :=
  if (beginS σ).1 ≠ 0 then (none, (beginS σ).1, (beginS σ).2)
  else match nget s (beginS σ).2.names with
    | none => (none, 6, (beginS σ).2)
    | some f => (some f, 0, (beginS σ).2)
theorem openD_fun (hP : DkP P) (s : List UInt8) (h : Heap) (d : Nat) (σ : DSt) (y : Lay) (hD : DiskAt h d σ y) (h1 : 0 ≤ σ.calls) (h2 : σ.calls < 9000000000000000000) :
    Fun P 37 [.ptr d 0, strv s] h (fun v h' => v = .tup [fcell (openS σ s).1, .int .i64 (openS σ s).2.1] ∧ DiskAt h' d (openS σ s).2.2 y ∧ h'.next = h.next ∧ ∀ o, o ≠ d → h'.get o = h.get o) := by
  refine Fun.of (code := a37c) (hP.code rfl) (by rw [hP.pure]; rfl) ?_
  simp (disch := omega) only [go_sem, a37c, a37r0, a37r1]
  refine WO.fun (vs := [.ptr d 0]) (by simp (disch := omega) only [go_sem]) (beginD_fun hP h d σ y hD h1 h2) (fun v h' hv => ?_)
  obtain ⟨rfl, hD', e1, e2⟩ := hv
  unfold openS
  simp (disch := omega) only [go_sem, a37r2]
  refine condS_if (fun c => ?_) (fun c => ?_)
  · rw [if_pos c]
    simp (disch := omega) only [go_sem, a37r3]
    exact ⟨trivial, hD', e1, e2⟩
  · rw [if_neg c]
    have hd := hD'.disk
    simp only [DSt.cells] at hd
    have hl := hD'.names.look
    simp (disch := omega) only [go_sem, a37r4, hd, hl]
    cases hg : nget s (beginS σ).2.names with
    | none =>
      simp (disch := omega) only [go_sem, a37r5, Option.isNone_none, a37r6]
      exact ⟨trivial, hD', e1, e2⟩
    | some f =>
      simp (disch := omega) only [go_sem, a37r5, Option.isNone_some, a37r7, fcell_some]
      exact ⟨trivial, hD', e1, e2⟩
def turnsS (σ : DSt) (t : DTurn) : DSt := { σ with names := turnDo t σ.names, waits := σ.waits ++ [t] }
theorem turnDo_mem {t : DTurn} {n : NMap} {p : List UInt8 × Nat} (h : p ∈ turnDo t n) : p ∈ n ∨ t.f = some p.2 ∨ (t.f = none ∧ nget t.fr n = some p.2) := by
  unfold turnDo at h
  split at h
  · rename_i f hf
    split at h
    · exact Or.inl h
    · rcases mem_nput h with h | h
      · exact Or.inl h
      · exact Or.inr (Or.inl (by rw [h]; exact hf))
  · rename_i hf
    split at h
    · exact Or.inl (mem_ndel h)
    · rename_i f hg
      split at h
      · exact Or.inl (mem_ndel h)
      · rcases mem_nput h with h | h
        · exact Or.inl (mem_ndel h)
        · exact Or.inr (Or.inr ⟨hf, by rw [h]; exact hg⟩)
theorem nodup_turnDo {t : DTurn} {n : NMap} (h : (n.map (·.1)).Nodup) : ((turnDo t n).map (·.1)).Nodup := by
  unfold turnDo
  split
  · split
    · exact h
    · exact nodup_nput h
  · split
    · exact nodup_ndel h
    · split
      · exact nodup_ndel h
      · exact nodup_nput (nodup_ndel h)
theorem turnDo_all {t : DTurn} {n : NMap} {all : List Nat} (h : ∀ p ∈ n, p.2 ∈ all) (ht : ∀ f, t.f = some f → f ∈ all) : ∀ p ∈ turnDo t n, p.2 ∈ all := fun p hp => by
  rcases turnDo_mem hp with h1 | h1 | ⟨h1, h2⟩
  · exact h p h1
  · exact ht _ h1
  · exact h (t.fr, p.2) (nget_mem h2)
theorem turnsD_fun (hP : DkP P) (t : DTurn) (h : Heap) (d : Nat) (σ : DSt) (y : Lay) (hD : DiskAt h d σ y) (ht : ∀ f, t.f = some f → f ∈ σ.all) (hw : σ.waits.length ≤ 1000000000) :
    Fun P 39 [.ptr d 0, .agg [strv t.fr, strv t.to, fcell t.f]] h (fun v h' => v = .int .i64 0 ∧ ∃ wv, DiskAt h' d (turnsS σ t) { y with wv := wv } ∧ (∀ o, rowOf wv = some o → rowOf y.wv = some o ∨ h.next ≤ o) ∧ Frm h h' (Own d σ y)) := by
  have hd := hD.disk
  simp only [DSt.cells] at hd
  have S := hD.sep
  refine Fun.of (code := a39c) (hP.code rfl) (by rw [hP.pure]; rfl) ?_
  simp (disch := omega) only [go_sem, a39c, a39r0]
  simp (disch := omega) only [go_sem, a39d1, hd]
  refine WD_fun (vs := [.agg [strv t.fr, strv t.to, fcell t.f], .mp y.m]) (by simp (disch := omega) only [go_sem]) (do_fun hP t h y.m σ.names hD.names) (fun v h' hv => rfl) (fun v h' hv => ?_)
  obtain ⟨hm', e1, e2⟩ := hv
  have hd' : h'.get d = some (.cells [.int .i64 σ.cap, .mp y.m, .mp y.m2, y.av, y.wv, .bool σ.dead, .int .i64 σ.calls, .int .i64 σ.fuse, .int .i64 σ.fault, .int .i64 σ.e]) := (e2 d (Ne.symm S.dm)).trans hd
  have hwe := hD.waits.ev
  have hwd := hD.waits.dt
  simp (disch := omega) only [go_sem]
  simp (disch := omega) only [go_sem, a39d2, hd', hwe, hwd]
  refine dSP_app (α := DTurn) (bytes := 40) (l := σ.waits) (new := [t]) (hD.waits.keep (fun o ho => e2 o (S.wv o ho).2.1)) (addsC_one _ t _ _ rfl) rfl (by simp [two47]; omega) (fun v' h2 hr2 hn2 ho2 hf2 hnn => ?_)
  have hwe' := hr2.ev
  have hwd' := hr2.dt
  have hn2' : h2.next = h'.next + 1 := hn2
  have hlt := hD.lt
  have f2 : ∀ q, q < h.next → rowOf y.wv ≠ some q → h2.get q = h'.get q := fun q hq hw => hf2 q (by show q ≠ h'.next + 0; omega) hw
  have hd2 : h2.get d = some (.cells [.int .i64 σ.cap, .mp y.m, .mp y.m2, y.av, y.wv, .bool σ.dead, .int .i64 σ.calls, .int .i64 σ.fuse, .int .i64 σ.fault, .int .i64 σ.e]) := by
    rw [f2 d (hlt d (Or.inl rfl)) (fun e => (S.wv d e).1 rfl)]; exact hd'
  simp (disch := omega) only [go_sem, hwe', hwd', hd2]
  have hcl : v'.cellsOf = [v'] := by
    rcases hr2 with ⟨rfl, -⟩ | ⟨o, ep, j, rfl, -⟩ <;> rfl
  refine WD_storeP (val := v') (off := 4) (o := d) (by simp (disch := omega) only [go_sem, hwe', hwd']) (by simp (disch := omega) only [go_sem, hwe', hwd']) (by rw [hcl]; rfl) hd2 (by rw [hcl]; rfl) rfl ?_
  simp (disch := omega) only [go_sem, a39r3]
  have hlt' : ∀ f ∈ σ.all, f < h.next := fun f hf => hlt f (Or.inr (Or.inr (Or.inr (Or.inr (Or.inr ⟨f, hf, Or.inl rfl⟩)))))
  have hnx : h'.next = h.next := e1
  have hg2 : ∀ q, q < h.next → q ≠ y.m → rowOf y.wv ≠ some q → h2.get q = h.get q := fun q h1 h3 h4 => (f2 q h1 h4).trans (e2 q h3)
  have hro : ∀ o, rowOf v' = some o → rowOf y.wv = some o ∨ o = h.next := fun o ho => by
    rcases ho2 with e | e
    · exact Or.inl (by rw [← e]; exact ho)
    · rw [e] at ho; exact Or.inr ((Option.some.inj ho).symm.trans (by show h'.next + 0 = h.next; omega))
  have h4 : ∀ q, q ≠ d → (h2.put d (.cells [.int .i64 σ.cap, .mp y.m, .mp y.m2, y.av, v', .bool σ.dead, .int .i64 σ.calls, .int .i64 σ.fuse, .int .i64 σ.fault, .int .i64 σ.e])).get q = h2.get q := fun q hq => get_put_ne _ _ _ _ hq
  have own : ∀ q, Own d σ y q → q < h.next := hlt
  have fown : ∀ f ∈ σ.all, Own d σ y f := fun f hf => Or.inr (Or.inr (Or.inr (Or.inr (Or.inr ⟨f, hf, Or.inl rfl⟩))))
  have bown : ∀ f ∈ σ.all, ∀ o, rowOf (y.bv f) = some o → Own d σ y o := fun f hf o ho => Or.inr (Or.inr (Or.inr (Or.inr (Or.inr ⟨f, hf, Or.inr ho⟩))))
  have aown : ∀ o, rowOf y.av = some o → Own d σ y o := fun o ho => Or.inr (Or.inr (Or.inr (Or.inl ho)))
  have wown : ∀ o, rowOf y.wv = some o → Own d σ y o := fun o ho => Or.inr (Or.inr (Or.inr (Or.inr (Or.inl ho))))
  have bw : ∀ f ∈ σ.all, ∀ o, rowOf (y.bv f) = some o → rowOf v' ≠ some o := fun f hf o ho hq => by
    rcases hro o hq with e | e
    · exact hD.wb f hf o e ho
    · have := own o (bown f hf o ho); omega
  refine ⟨trivial, v', { ok := ⟨turnDo_all hD.ok.names ht, hD.ok.sure, ?_, nodup_turnDo hD.ok.nd, hD.ok.sd, hD.ok.ad⟩, disk := get_put_same _ _ _, names := ?_, sure := ?_, all := ?_, waits := ?_, cell := ?_, bytes := ?_, mm := hD.mm, bb := hD.bb, ab := hD.ab, wb := ?_, aw := ?_, lt := ?_ }, ?_, ?_, ?_⟩
  · intro t' ht' f hf
    rcases List.mem_append.1 ht' with h5 | h5
    · exact hD.ok.waits t' h5 f hf
    · rw [List.mem_singleton] at h5
      subst h5
      exact ht f hf
  · exact hm'.of_get (by rw [h4 _ S.dm, f2 _ (own _ (Or.inr (Or.inl rfl))) (fun e => (S.wv _ e).2.1 rfl)])
  · exact hD.sure.of_get (by rw [h4 _ S.dm2, hg2 _ (own _ (Or.inr (Or.inr (Or.inl rfl)))) (Ne.symm hD.mm) (fun e => (S.wv _ e).2.2.1 rfl)])
  · exact hD.all.keep (fun o ho => by rw [h4 _ (S.av o ho).1, hg2 _ (own o (aown o ho)) (S.av o ho).2.1 (fun e => hD.aw o ho e)])
  · refine hr2.keep (fun o ho => h4 o ?_)
    rcases hro o ho with e | e
    · exact (S.wv o e).1
    · have := own d (Or.inl rfl); omega
  · intro f hf
    rw [h4 _ (S.df f hf), hg2 _ (hlt' f hf) (S.fm f hf) (fun e => (S.wv _ e).2.2.2 f hf rfl)]
    exact hD.cell f hf
  · intro f hf
    exact (hD.bytes f hf).keep (fun o ho => by rw [h4 _ (S.bv f hf o ho).1, hg2 _ (own o (bown f hf o ho)) (S.bv f hf o ho).2.1 (fun e => hD.wb f hf o e ho)])
  · intro f hf o ho hq
    exact bw f hf o hq ho
  · intro o ho hq
    rcases hro o hq with e | e
    · exact hD.aw o ho e
    · have := own o (aown o ho); omega
  · intro o ho
    show o < h2.next
    have ho' : o = d ∨ o = y.m ∨ o = y.m2 ∨ rowOf y.av = some o ∨ rowOf v' = some o ∨ ∃ f ∈ σ.all, o = f ∨ rowOf (y.bv f) = some o := ho
    rcases ho' with rfl | rfl | rfl | ho | ho | ⟨f, hf, rfl | ho⟩
    · have := own o (Or.inl rfl); omega
    · have := own y.m (Or.inr (Or.inl rfl)); omega
    · have := own y.m2 (Or.inr (Or.inr (Or.inl rfl))); omega
    · have := own o (aown o ho); omega
    · rcases hro o ho with e | e
      · have := own o (wown o e); omega
      · omega
    · have := own o (fown o hf); omega
    · have := own o (bown f hf o ho); omega
  · intro o ho
    rcases hro o ho with e | e
    · exact Or.inl e
    · exact Or.inr (by omega)
  · show h.next ≤ h2.next
    omega
  · intro q hq hn
    rw [h4 q (fun e => hn (Or.inl e)), hg2 q hq (fun e => hn (Or.inr (Or.inl e))) (fun e => hn (wown q e))]
end Go.Am.Dk
/- Name, on any text. -/
namespace Go.Am.Dk
open Go.Am
set_option maxRecDepth 20000
set_option maxHeartbeats 1000000
variable {P : Prog}
def goodR (r : Int) : Bool := (decide (97 ≤ r) && decide (r ≤ 122)) || (decide (48 ≤ r) && decide (r ≤ 57)) || decide (r = 45) || decide (r = 46) || decide (r = 126)
theorem bad_den (hP : DkP P) (r : Int) : Den P 59 [.int .i32 r] (fun v => v = .bool (!goodR r)) := by
  refine Den.of (code := a59c) (hP.code rfl) (fun N => ?_)
  unfold goodR
  by_cases c1 : 97 ≤ r <;> by_cases c2 : r ≤ 122 <;> by_cases c3 : 48 ≤ r <;> by_cases c4 : r ≤ 57 <;> by_cases c5 : r = 45 <;> by_cases c6 : r = 46 <;> by_cases c7 : r = 126 <;> first
    | omega
    | (simp (disch := omega) only [go_sem, a59c, a59r0, a59r1, c1, c2, c3, c4, c5, c6, c7]; try rfl)
theorem decA_bytes (l : List UInt8) (k : Nat) : decA (l.map UInt8.toNat) k = Utf8.decode ⟨l.toArray⟩ k := by
  unfold decA
  congr 3
  rw [List.map_map]
  conv => rhs; rw [← List.map_id l]
  exact List.map_congr_left (fun x _ => by simp)
theorem at_bytes {l : List UInt8} {k : Nat} (hk : k < l.length) : ((⟨l.toArray⟩ : ByteArray).get! (k + 0)).toNat = (l.getD k default).toNat := by
  have : (⟨l.toArray⟩ : ByteArray).get! (k + 0) = l.toArray[k]! := rfl
  rw [this, List.getD_eq_getElem?_getD, List.getElem?_eq_getElem hk]
  simp [hk]
theorem dec_lo {l : List UInt8} {k : Nat} (hk : k < l.length) (h : (l.getD k default).toNat < 128) : decA (l.map UInt8.toNat) k = ((l.getD k default).toNat, 1) := by
  rw [decA_bytes]
  simp only [Utf8.decode, at_bytes hk]
  rw [if_pos h]
theorem dec_hi {l : List UInt8} {k : Nat} (hk : k < l.length) (h : ¬ (l.getD k default).toNat < 128) : 128 ≤ (decA (l.map UInt8.toNat) k).1 ∧ 1 ≤ (decA (l.map UInt8.toNat) k).2 := by
  rw [decA_bytes]
  simp only [Utf8.decode, at_bytes hk]
  rw [if_neg h]
  split
  · split
    · rename_i q; exact ⟨q, by simp⟩
    · decide
  · split
    · split
      · rename_i q
        simp only [Bool.and_eq_true, decide_eq_true_eq, ge_iff_le] at q
        exact ⟨by omega, by simp⟩
      · decide
    · split
      · split
        · rename_i q
          simp only [Bool.and_eq_true, decide_eq_true_eq, ge_iff_le] at q
          exact ⟨by omega, by simp⟩
        · decide
      · decide
theorem goodR_hi {r : Int} (h : 128 ≤ r) : goodR r = false := by
  unfold goodR
  rw [decide_eq_false (show ¬ r ≤ 122 by omega), decide_eq_false (show ¬ r ≤ 57 by omega), decide_eq_false (show ¬ r = 45 by omega), decide_eq_false (show ¬ r = 46 by omega), decide_eq_false (show ¬ r = 126 by omega)]
  simp
def goodB (b : UInt8) : Bool := goodR (b.toNat : Int)
theorem index_fun (hP : DkP P) (s : List UInt8) (h : Heap) (hl : s.length ≤ 9223372036854775807) :
    Fun P 80 [strv s, .fn 59 [], .bool true] h (fun v h' => ∃ r : Int, v = .int .i64 r ∧ (0 ≤ r ↔ s.all goodB = false) ∧ Ext h h') := by
  refine Fun.of (code := a80c) (hP.code rfl) (by rw [hP.pure]; rfl) ?_
  simp (disch := omega) only [go_sem, a80c, a80r0]
  simp (disch := omega) only [go_sem, a80r1]
  refine Wp_loop (fun x : Fr × Nat × Nat × Heap => (fget x.1 1 = some (.fn 59 []) ∧ fget x.1 2 = some (.bool true) ∧ fget x.1 10 = some (.ptr h.next 0)) ∧ x.2.2.1 ≤ s.length ∧ (s.take x.2.2.1).all goodB = true ∧ x.2.2.2.get h.next = some (.siter (s.map UInt8.toNat) x.2.2.1) ∧ x.2.2.2.next = h.next + 1 ∧ ∀ i, i < h.next → x.2.2.2.get i = h.get i)
    (fun (fr0, t, k, hh) => { fr := fr0, st := t, h := hh }) (fun x => s.length - x.2.2.1) ([(1, .fn 59 []), (2, .bool true), (10, .ptr h.next 0)], 0, 0, _) rfl ⟨⟨rfl, rfl, rfl⟩, Nat.zero_le _, rfl, get_put_same _ _ _, rfl, fun i hi => get_put_ne _ _ _ _ (by omega)⟩ ?_
  rintro ⟨fr0, t, k, hh⟩ ⟨⟨q1, q2, q3⟩, g1, g2, g3, g4, g5⟩
  simp only at q1 q2 q3 g1 g2 g3 g4 g5
  by_cases hk : k < s.length
  · have b1 : Nat.blt k (s.map UInt8.toNat).length = true := by simp only [nblt, decide_eq_true_eq, List.length_map]; exact hk
    simp (disch := omega) only [go_sem, a80l0, a80r2, g3, b1, cond_true, q1, q2, q3]
    simp (disch := omega) only [go_sem, a80r3]
    simp (disch := omega) only [go_sem, a80r4]
    refine WO_denv (k := 0) (vs := [.int .i32 (.ofNat (decA (s.map UInt8.toNat) k).1)]) rfl (by rw [hP.pure]; rfl) (by simp (disch := omega) only [go_sem]) (bad_den hP _) (fun v hv => by subst hv; rfl) (fun v hv => ?_)
    subst hv
    have hlo : goodR (.ofNat (decA (s.map UInt8.toNat) k).1) = goodB (s.getD k default) ∧ (goodB (s.getD k default) = true → (decA (s.map UInt8.toNat) k).2 = 1) := by
      by_cases c : (s.getD k default).toNat < 128
      · rw [dec_lo hk c]
        exact ⟨rfl, fun _ => rfl⟩
      · have := (dec_hi hk c).1
        have e1 : goodB (s.getD k default) = false := goodR_hi (by omega)
        refine ⟨?_, fun h => by rw [e1] at h; simp at h⟩
        rw [e1]
        exact goodR_hi (by show (128 : Int) ≤ ((decA (s.map UInt8.toNat) k).1 : Nat); omega)
    rw [hlo.1]
    cases hg : goodB (s.getD k default) with
    | true =>
      rw [hlo.2 hg]
      simp (disch := omega) only [go_sem]
      have hs1 : (s.take (k + 1)).all goodB = true := by
        rw [List.take_succ_eq_append_getElem hk, List.all_append, g2]
        rw [List.getD_eq_getElem?_getD, List.getElem?_eq_getElem hk] at hg
        simpa using hg
      exact ⟨(_, t, k + 1, hh.put h.next (.siter (s.map UInt8.toNat) (k + 1))), ⟨⟨rfl, rfl, rfl⟩, by simp only; omega, hs1, get_put_same _ _ _, g4, fun i hi => (get_put_ne _ _ _ _ (by omega)).trans (g5 i hi)⟩, by simp only; omega, rfl⟩
    | false =>
      simp (disch := omega) only [go_sem]
      simp (disch := omega) only [go_sem, a80r5]
      have hs1 : s.all goodB = false := by
        rw [List.all_eq_false]
        refine ⟨s[k], List.getElem_mem hk, ?_⟩
        rw [List.getD_eq_getElem?_getD, List.getElem?_eq_getElem hk] at hg
        have hg' : goodB s[k] = false := hg
        simp [hg']
      exact ⟨_, rfl, ⟨fun _ => hs1, fun _ => by show (0 : Int) ≤ (k : Int); omega⟩, by show h.next ≤ hh.next; omega, fun i hi => (get_put_ne _ _ _ _ (by omega)).trans (g5 i hi)⟩
  · have b1 : Nat.blt k (s.map UInt8.toNat).length = false := by simp only [nblt, decide_eq_false_iff_not, List.length_map]; exact hk
    simp (disch := omega) only [go_sem, a80l0, a80r2, g3, b1, cond_false, q1, q2, q3]
    simp (disch := omega) only [go_sem, a80r6]
    have hs1 : s.all goodB = true := by rw [List.take_of_length_le (by omega)] at g2; exact g2
    exact ⟨_, rfl, ⟨fun h => by omega, fun h => by rw [hs1] at h; simp at h⟩, by show h.next ≤ hh.next; omega, g5⟩
theorem indexF_fun (hP : DkP P) (s : List UInt8) (h : Heap) (hl : s.length ≤ 9223372036854775807) :
    Fun P 73 [strv s, .fn 59 []] h (fun v h' => ∃ r : Int, v = .int .i64 r ∧ (0 ≤ r ↔ s.all goodB = false) ∧ Ext h h') := by
  refine Fun.of (code := a73c) (hP.code rfl) (by rw [hP.pure]; rfl) ?_
  simp (disch := omega) only [go_sem, a73c, a73r0, a73r1]
  refine WO.fun (vs := [strv s, .fn 59 [], .bool true]) (by simp (disch := omega) only [go_sem]) (index_fun hP s h hl) (fun v h' hv => ?_)
  obtain ⟨r, rfl, hr, hx⟩ := hv
  simp (disch := omega) only [go_sem]
  exact ⟨r, rfl, hr, hx⟩
theorem contains_fun (hP : DkP P) (s : List UInt8) (h : Heap) (hl : s.length ≤ 9223372036854775807) :
    Fun P 60 [strv s, .fn 59 []] h (fun v h' => v = .bool (!s.all goodB) ∧ Ext h h') := by
  refine Fun.of (code := a60c) (hP.code rfl) (by rw [hP.pure]; rfl) ?_
  simp (disch := omega) only [go_sem, a60c, a60r0, a60r1]
  refine WO.fun (vs := [strv s, .fn 59 []]) (by simp (disch := omega) only [go_sem]) (indexF_fun hP s h hl) (fun v h' hv => ?_)
  obtain ⟨r, rfl, hr, hx⟩ := hv
  simp (disch := omega) only [go_sem]
  refine ⟨?_, hx⟩
  cases hq : s.all goodB with
  | true => have : ¬ 0 ≤ r := fun h => by rw [hr, hq] at h; simp at h
            simp [this]
  | false => have := hr.2 hq
             simp [this]
def nameL (s : List UInt8) : Bool := decide (s ≠ []) && decide (s.length ≤ 24) && s.all goodB
theorem name_funD (hP : DkP P) (s : List UInt8) (h : Heap) (hl : s.length ≤ 9223372036854775807) :
    Fun P 28 [strv s] h (fun v h' => v = .bool (nameL s) ∧ Ext h h') := by
  refine Fun.of (code := a28c) (hP.code rfl) (by rw [hP.pure]; rfl) ?_
  unfold nameL
  simp (disch := omega) only [go_sem, a28c, a28r0, a28r1]
  simp (disch := omega) only [go_sem, a28r2]
  refine guardS_pt (fun c1 w1 => ?_) (fun c1 w1 => ?_) <;> simp (disch := omega) only [go_sem, w1]
  · refine guardS_pt (fun c2 w2 => ?_) (fun c2 w2 => ?_) <;> simp (disch := omega) only [go_sem, w2]
    · refine WO.fun (vs := [strv s, .fn 59 []]) (by simp (disch := omega) only [go_sem]) (contains_fun hP s h hl) (fun v h' hv => ?_)
      obtain ⟨rfl, hx⟩ := hv
      simp (disch := omega) only [go_sem]
      exact ⟨by have : s.length ≤ 24 := by omega
                simp [this], hx⟩
    · exact ⟨by have : ¬ s.length ≤ 24 := by omega
                simp [this], Ext.refl h⟩
  · trace_state
    exact ⟨by simp, Ext.refl h⟩
end Go.Am.Dk
/- The disk's functions: Create. -/
namespace Go.Am.Dk
open Go.Am
set_option maxRecDepth 20000
set_option maxHeartbeats 1000000
variable {P : Prog}
structure Step (h h' : Heap) (d : Nat) (σ : DSt) (y : Lay) (σ' : DSt) (y' : Lay) : Prop where
  at' : DiskAt h' d σ' y'
  frm : Frm h h' (Own d σ y)
  own : ∀ o, Own d σ' y' o → Own d σ y o ∨ h.next ≤ o
theorem Step.refl {h : Heap} {d : Nat} {σ : DSt} {y : Lay} (hD : DiskAt h d σ y) : Step h h d σ y σ y := ⟨hD, Frm.refl _ _, fun _ h => Or.inl h⟩
theorem Step.trans {h h1 h2 : Heap} {d : Nat} {σ σ1 σ2 : DSt} {y y1 y2 : Lay} (a : Step h h1 d σ y σ1 y1) (b : Step h1 h2 d σ1 y1 σ2 y2) : Step h h2 d σ y σ2 y2 := by
  refine ⟨b.at', ⟨Nat.le_trans a.frm.1 b.frm.1, fun o ho hn => ?_⟩, fun o ho => ?_⟩
  · rw [b.frm.2 o (Nat.lt_of_lt_of_le ho a.frm.1) (fun hq => (a.own o hq).elim hn (fun h => by omega)), a.frm.2 o ho hn]
  · rcases b.own o ho with h | h
    · exact a.own o h
    · exact Or.inr (Nat.le_trans a.frm.1 h)
theorem Step.ext {h h' : Heap} {d : Nat} {σ : DSt} {y : Lay} (hD : DiskAt h d σ y) (hx : Ext h h') : Step h h' d σ y σ y :=
  ⟨hD.ext (fun o ho => hx.2 o (hD.lt o ho)) hx.1, ⟨hx.1, fun o ho _ => hx.2 o ho⟩, fun _ h => Or.inl h⟩
theorem Step.only {h h' : Heap} {d : Nat} {σ σ' : DSt} {y : Lay} (hD : DiskAt h' d σ' y) (e1 : h'.next = h.next) (e2 : ∀ o, o ≠ d → h'.get o = h.get o) (s3 : σ'.all = σ.all) : Step h h' d σ y σ' y :=
  ⟨hD, ⟨by omega, fun o _ hn => e2 o (fun e => hn (Or.inl e))⟩, fun o ho => Or.inl (by simpa only [Own, s3] using ho)⟩
theorem beginS_all (σ : DSt) : (beginS σ).2.all = σ.all ∧ (beginS σ).2.names = σ.names ∧ (beginS σ).2.sure = σ.sure ∧ (beginS σ).2.waits = σ.waits ∧ (beginS σ).2.file = σ.file ∧ (beginS σ).2.cap = σ.cap := by
  unfold beginS
  split
  · exact ⟨rfl, rfl, rfl, rfl, rfl, rfl⟩
  · split
    · exact ⟨rfl, rfl, rfl, rfl, rfl, rfl⟩
    · split <;> exact ⟨rfl, rfl, rfl, rfl, rfl, rfl⟩
theorem beginD_step (hP : DkP P) (h : Heap) (d : Nat) (σ : DSt) (y : Lay) (hD : DiskAt h d σ y) (h1 : 0 ≤ σ.calls) (h2 : σ.calls < 9000000000000000000) :
    Fun P 38 [.ptr d 0] h (fun v h' => v = .int .i64 (beginS σ).1 ∧ Step h h' d σ y (beginS σ).2 y) := by
  obtain ⟨n, v, h', e, q1, q2, q3, q4⟩ := beginD_fun hP h d σ y hD h1 h2
  exact ⟨n, v, h', e, q1, Step.only q2 q3 q4 (beginS_all σ).1⟩
theorem openS_all (σ : DSt) (s : List UInt8) : (openS σ s).2.2 = (beginS σ).2 := by
  unfold openS
  split
  · rfl
  · split <;> rfl
theorem openD_step (hP : DkP P) (s : List UInt8) (h : Heap) (d : Nat) (σ : DSt) (y : Lay) (hD : DiskAt h d σ y) (h1 : 0 ≤ σ.calls) (h2 : σ.calls < 9000000000000000000) :
    Fun P 37 [.ptr d 0, strv s] h (fun v h' => v = .tup [fcell (openS σ s).1, .int .i64 (openS σ s).2.1] ∧ Step h h' d σ y (openS σ s).2.2 y) := by
  obtain ⟨n, v, h', e, q1, q2, q3, q4⟩ := openD_fun hP s h d σ y hD h1 h2
  exact ⟨n, v, h', e, q1, Step.only q2 q3 q4 (by rw [openS_all]; exact (beginS_all σ).1)⟩
theorem turnsD_step (hP : DkP P) (t : DTurn) (h : Heap) (d : Nat) (σ : DSt) (y : Lay) (hD : DiskAt h d σ y) (ht : ∀ f, t.f = some f → f ∈ σ.all) (hw : σ.waits.length ≤ 1000000000) :
    Fun P 39 [.ptr d 0, .agg [strv t.fr, strv t.to, fcell t.f]] h (fun v h' => v = .int .i64 0 ∧ ∃ y', Step h h' d σ y (turnsS σ t) y') := by
  obtain ⟨n, v, h', e, q1, wv, q2, q3, q4⟩ := turnsD_fun hP t h d σ y hD ht hw
  refine ⟨n, v, h', e, q1, { y with wv := wv }, q2, q4, fun o ho => ?_⟩
  have ho' : o = d ∨ o = y.m ∨ o = y.m2 ∨ rowOf y.av = some o ∨ rowOf wv = some o ∨ ∃ f ∈ σ.all, o = f ∨ rowOf (y.bv f) = some o := ho
  rcases ho' with e | e | e | e | e | e
  · exact Or.inl (Or.inl e)
  · exact Or.inl (Or.inr (Or.inl e))
  · exact Or.inl (Or.inr (Or.inr (Or.inl e)))
  · exact Or.inl (Or.inr (Or.inr (Or.inr (Or.inl e))))
  · rcases q3 o e with e | e
    · exact Or.inl (Or.inr (Or.inr (Or.inr (Or.inr (Or.inl e)))))
    · exact Or.inr e
  · exact Or.inl (Or.inr (Or.inr (Or.inr (Or.inr (Or.inr e)))))
theorem MapAt.len {h : Heap} {m : Nat} {n : NMap} (hm : MapAt h m n) : lenA h (.mp m) = some n.length := by
  obtain ⟨bs, ck, hg, -⟩ := hm
  simp only [lenA, hg, kv_length, fp_length]
def newS (σ : DSt) (f : Nat) : DSt := { σ with all := σ.all ++ [f], file := fun g => if g = f then ⟨[], 0⟩ else σ.file g }
def createS (σ : DSt) (s : List UInt8) (f : Nat) : Int × DSt :=
  if (beginS σ).1 ≠ 0 then beginS σ
  else if nameL s = false then (1, (beginS σ).2)
  else if (nget s σ.names).isSome then (7, (beginS σ).2)
  else if 64 ≤ σ.names.length then (8, (beginS σ).2)
  else (0, turnsS (newS (beginS σ).2 f) ⟨[], s, some f⟩)
theorem DiskAt.new {h h' : Heap} {d f : Nat} {σ : DSt} {y : Lay} {av : AV} (hD : DiskAt h d σ y) (hn : h.next ≤ f) (hn' : f < h'.next) (hlt : ∀ o, rowOf av = some o → o < h'.next) (hro : ∀ o, rowOf av = some o → rowOf y.av = some o ∨ (h.next ≤ o ∧ o ≠ f))
    (hd : h'.get d = some (.cells (σ.cells { y with av := av }))) (hf : h'.get f = some (.cells [.nils, .int .i64 0])) (ha : PreC h' av ((σ.all ++ [f]).map FilP.mk)) (ho : ∀ o, o < h.next → o ≠ d → rowOf y.av ≠ some o → h'.get o = h.get o) :
    Step h h' d σ y (newS σ f) { y with av := av, bv := fun g => if g = f then .nils else y.bv g } := by
  have S := hD.sep
  have own : ∀ q, Own d σ y q → q < h.next := hD.lt
  have fown : ∀ f ∈ σ.all, Own d σ y f := fun f hf => Or.inr (Or.inr (Or.inr (Or.inr (Or.inr ⟨f, hf, Or.inl rfl⟩))))
  have bown : ∀ f ∈ σ.all, ∀ o, rowOf (y.bv f) = some o → Own d σ y o := fun f hf o ho => Or.inr (Or.inr (Or.inr (Or.inr (Or.inr ⟨f, hf, Or.inr ho⟩))))
  have aown : ∀ o, rowOf y.av = some o → Own d σ y o := fun o ho => Or.inr (Or.inr (Or.inr (Or.inl ho)))
  have wown : ∀ o, rowOf y.wv = some o → Own d σ y o := fun o ho => Or.inr (Or.inr (Or.inr (Or.inr (Or.inl ho))))
  have fne : ∀ g ∈ σ.all, g ≠ f := fun g hg e => by have := own g (fown g hg); omega
  have hnn : h.next ≤ h'.next := by omega
  have mem : ∀ g, g ∈ (newS σ f).all ↔ g ∈ σ.all ∨ g = f := fun g => by simp [newS]
  have bve : ∀ g ∈ σ.all, (if g = f then AV.nils else y.bv g) = y.bv g := fun g hg => if_neg (fne g hg)
  have fle : ∀ g ∈ σ.all, (newS σ f).file g = σ.file g := fun g hg => if_neg (fne g hg)
  refine ⟨{ ok := ⟨fun p hp => (mem _).2 (Or.inl (hD.ok.names p hp)), fun p hp => (mem _).2 (Or.inl (hD.ok.sure p hp)), fun t ht g hg => (mem _).2 (Or.inl (hD.ok.waits t ht g hg)), hD.ok.nd, hD.ok.sd, ?_⟩, disk := hd, names := ?_, sure := ?_, all := ha, waits := ?_, cell := ?_, bytes := ?_, mm := hD.mm, bb := ?_, ab := ?_, wb := ?_, aw := ?_, lt := ?_ }, ⟨hnn, fun o h1 h2 => ho o h1 (fun e => h2 (Or.inl e)) (fun e => h2 (aown o e))⟩, ?_⟩
  · show (σ.all ++ [f]).Nodup
    rw [List.nodup_append]
    exact ⟨hD.ok.ad, by simp, fun a ha2 b hb => by rw [List.mem_singleton] at hb; subst hb; exact fne a ha2⟩
  · exact hD.names.of_get (ho _ (own _ (Or.inr (Or.inl rfl))) S.dm (fun e => (S.av _ e).2.1 rfl))
  · exact hD.sure.of_get (ho _ (own _ (Or.inr (Or.inr (Or.inl rfl)))) S.dm2 (fun e => (S.av _ e).2.2.1 rfl))
  · exact hD.waits.keep (fun o hq => ho o (own o (wown o hq)) (S.wv o hq).1 (fun e => hD.aw o e hq))
  · intro g hg
    rcases (mem g).1 hg with hg | rfl
    · show h'.get g = some (.cells [if g = f then .nils else y.bv g, _])
      rw [bve g hg, fle g hg, ho g (own g (fown g hg)) (S.df g hg) (fun e => (S.av _ e).2.2.2 g hg rfl)]
      exact hD.cell g hg
    · show h'.get g = some (.cells [if g = g then .nils else y.bv g, .int .i64 ((if g = g then (⟨[], 0⟩ : DFile) else σ.file g).sure : Nat)])
      rw [if_pos rfl, if_pos rfl]
      exact hf
  · intro g hg
    rcases (mem g).1 hg with hg | rfl
    · show PreC h' (if g = f then .nils else y.bv g) _
      rw [bve g hg, fle g hg]
      exact (hD.bytes g hg).keep (fun o hq => ho o (own o (bown g hg o hq)) (S.bv g hg o hq).1 (fun e => hD.ab g hg o e hq))
    · show PreC h' (if g = g then .nils else y.bv g) ((if g = g then (⟨[], 0⟩ : DFile) else σ.file g).b)
      rw [if_pos rfl, if_pos rfl]
      exact Or.inl ⟨rfl, rfl⟩
  · intro g hg g' hg' hne o h1 h2
    have h1' : rowOf (if g = f then AV.nils else y.bv g) = some o := h1
    have h2' : rowOf (if g' = f then AV.nils else y.bv g') = some o := h2
    rcases (mem g).1 hg with hg | rfl
    · rcases (mem g').1 hg' with hg' | rfl
      · rw [bve g hg] at h1'
        rw [bve g' hg'] at h2'
        exact hD.bb g hg g' hg' hne o h1' h2'
      · rw [if_pos rfl] at h2'; cases h2'
    · rw [if_pos rfl] at h1'; cases h1'
  · intro g hg o h1 h2
    have h2' : rowOf (if g = f then AV.nils else y.bv g) = some o := h2
    rcases (mem g).1 hg with hg | rfl
    · rw [bve g hg] at h2'
      rcases hro o h1 with e | e
      · exact hD.ab g hg o e h2'
      · have := own o (bown g hg o h2'); omega
    · rw [if_pos rfl] at h2'; cases h2'
  · intro g hg o h1 h2
    have h2' : rowOf (if g = f then AV.nils else y.bv g) = some o := h2
    rcases (mem g).1 hg with hg | rfl
    · rw [bve g hg] at h2'
      exact hD.wb g hg o h1 h2'
    · rw [if_pos rfl] at h2'; cases h2'
  · intro o h1 h2
    rcases hro o h1 with e | e
    · exact hD.aw o e h2
    · have := own o (wown o h2); omega
  · intro o h1
    have ho' : o = d ∨ o = y.m ∨ o = y.m2 ∨ rowOf av = some o ∨ rowOf y.wv = some o ∨ ∃ g ∈ (newS σ f).all, o = g ∨ rowOf (if g = f then AV.nils else y.bv g) = some o := h1
    rcases ho' with rfl | rfl | rfl | h1 | h1 | ⟨g, hg, h1⟩
    · have := own o (Or.inl rfl); omega
    · have := own y.m (Or.inr (Or.inl rfl)); omega
    · have := own y.m2 (Or.inr (Or.inr (Or.inl rfl))); omega
    · exact hlt o h1
    · have := own o (wown o h1); omega
    · rcases (mem g).1 hg with hg | rfl
      · rcases h1 with rfl | h1
        · have := own o (fown o hg); omega
        · rw [bve g hg] at h1
          have := own o (bown g hg o h1); omega
      · rcases h1 with rfl | h1
        · exact hn'
        · rw [if_pos rfl] at h1; cases h1
  · intro o h1
    have ho' : o = d ∨ o = y.m ∨ o = y.m2 ∨ rowOf av = some o ∨ rowOf y.wv = some o ∨ ∃ g ∈ (newS σ f).all, o = g ∨ rowOf (if g = f then AV.nils else y.bv g) = some o := h1
    rcases ho' with rfl | rfl | rfl | h1 | h1 | ⟨g, hg, h1⟩
    · exact Or.inl (Or.inl rfl)
    · exact Or.inl (Or.inr (Or.inl rfl))
    · exact Or.inl (Or.inr (Or.inr (Or.inl rfl)))
    · rcases hro o h1 with e | e
      · exact Or.inl (aown o e)
      · exact Or.inr e.1
    · exact Or.inl (wown o h1)
    · rcases (mem g).1 hg with hg | rfl
      · rcases h1 with rfl | h1
        · exact Or.inl (fown o hg)
        · rw [bve g hg] at h1
          exact Or.inl (bown g hg o h1)
      · rcases h1 with rfl | h1
        · exact Or.inr hn
        · rw [if_pos rfl] at h1; cases h1
theorem createD_fun (hP : DkP P) (s : List UInt8) (h : Heap) (d : Nat) (σ : DSt) (y : Lay) (hD : DiskAt h d σ y) (h1 : 0 ≤ σ.calls) (h2 : σ.calls < 9000000000000000000) (hl : s.length ≤ 9223372036854775807) (hw : σ.waits.length ≤ 1000000000) (hall : σ.all.length ≤ 1000000000) :
    Fun P 16 [.ptr d 0, strv s] h (fun v h' => ∃ f y', h.next ≤ f ∧ v = .int .i64 (createS σ s f).1 ∧ Step h h' d σ y (createS σ s f).2 y') := by
  have hB := beginS_all σ
  refine Fun.of (code := a16c) (hP.code rfl) (by rw [hP.pure]; rfl) ?_
  simp (disch := omega) only [go_sem, a16c, a16r0, a16r1]
  refine WO.fun (vs := [.ptr d 0]) (by simp (disch := omega) only [go_sem]) (beginD_step hP h d σ y hD h1 h2) (fun v hA hv => ?_)
  obtain ⟨rfl, sA⟩ := hv
  have early : ∀ (hq : Heap) (e : Int), Step h hq d σ y (beginS σ).2 y → (∀ f, createS σ s f = (e, (beginS σ).2)) → ∃ f y', h.next ≤ f ∧ AV.int .i64 e = .int .i64 (createS σ s f).1 ∧ Step h hq d σ y (createS σ s f).2 y' := fun hq e hS hc =>
    ⟨h.next, y, Nat.le_refl _, by rw [hc], by rw [hc]; exact hS⟩
  simp (disch := omega) only [go_sem, a16r2]
  refine condS_if (fun c => ?_) (fun c => ?_)
  · simp (disch := omega) only [go_sem, a16r3]
    refine early hA _ sA (fun f => ?_)
    unfold createS
    rw [if_pos c]
  · simp (disch := omega) only [go_sem, a16r4]
    refine WO.fun (vs := [strv s]) (by simp (disch := omega) only [go_sem]) (name_funD hP s hA hl) (fun v hB' hv => ?_)
    obtain ⟨rfl, hxB⟩ := hv
    have sB := sA.trans (Step.ext sA.at' hxB)
    simp (disch := omega) only [go_sem]
    cases hN : nameL s with
    | false =>
      simp (disch := omega) only [go_sem, a16r5]
      refine early hB' _ sB (fun f => ?_)
      unfold createS
      rw [if_neg c, if_pos hN]
    | true =>
      have hd := sB.at'.disk
      simp only [DSt.cells] at hd
      have hlk := sB.at'.names.look
      have hln := sB.at'.names.len
      rw [hB.2.1] at hlk hln
      simp (disch := omega) only [go_sem, a16r6, hd, hlk]
      cases hg : nget s σ.names with
      | some g =>
        simp (disch := omega) only [go_sem, Option.isNone_some, a16r7]
        refine early hB' _ sB (fun f => ?_)
        unfold createS
        rw [if_neg c, if_neg (by simp [hN]), if_pos (by simp [hg])]
      | none =>
        have lt2 : lenTag 2 (.mp y.m) = true := rfl
        simp (disch := omega) only [go_sem, Option.isNone_none, a16r8, hd, hln, lt2, cond_true]
        refine condS_if (fun c2 => ?_) (fun c2 => ?_)
        · simp (disch := omega) only [go_sem, a16r9]
          refine early hB' _ sB (fun f => ?_)
          unfold createS
          rw [if_neg c, if_neg (by simp [hN]), if_neg (by simp [hg]), if_pos (by omega)]
        · simp (disch := omega) only [go_sem, a16r10]
          have dB := sB.at'
          have SB := dB.sep
          have own : ∀ q, Own d (beginS σ).2 y q → q < hB'.next := dB.lt
          have dlt := own d (Or.inl rfl)
          have dne : d ≠ hB'.next := by omega
          have aown : ∀ o, rowOf y.av = some o → o < hB'.next := fun o ho => own o (Or.inr (Or.inr (Or.inr (Or.inl ho))))
          have hae := dB.all.ev
          have had := dB.all.dt
          simp (disch := omega) only [go_sem, a16r11, get_put_ne, dne, hd, hae, had]
          refine stepP_app (α := FilP) (bytes := 8) (l := (beginS σ).2.all.map FilP.mk) (new := [⟨hB'.next⟩]) (dB.all.keep (fun o ho => by rw [get_reserve, get_put_ne _ _ _ _ (by have := aown o ho; omega), get_reserve])) (addsC_one _ _ _ _ rfl) rfl (by rw [hB.1]; simp [two47]; omega) (fun v' h3 hr3 hn3 ho3 hf3 hnn => ?_)
          have hn3' : h3.next = hB'.next + 2 := hn3
          have hro : ∀ o, rowOf v' = some o → rowOf y.av = some o ∨ o = hB'.next + 1 := fun o ho => by
            rcases ho3 with e | e
            · exact Or.inl (by rw [← e]; exact ho)
            · rw [e] at ho; exact Or.inr (Option.some.inj ho).symm
          have f3 : ∀ q, q ≠ hB'.next + 1 → rowOf y.av ≠ some q → h3.get q = (((hB'.reserve 1).put hB'.next (AObj.cells [AV.nils, AV.int IntKind.i64 0])).reserve 1).get q := fun q hq hw => hf3 q hq hw
          have hd3 : h3.get d = some (.cells [.int .i64 (beginS σ).2.cap, .mp y.m, .mp y.m2, y.av, y.wv, .bool (beginS σ).2.dead, .int .i64 (beginS σ).2.calls, .int .i64 (beginS σ).2.fuse, .int .i64 (beginS σ).2.fault, .int .i64 (beginS σ).2.e]) := by
            rw [f3 d (by omega) (fun e => (SB.av d e).1 rfl), get_reserve, get_put_ne _ _ _ _ dne, get_reserve]; exact hd
          have hve := hr3.ev
          have hvd := hr3.dt
          have hcl : v'.cellsOf = [v'] := by rcases hr3 with ⟨rfl, -⟩ | ⟨o, ep, j, rfl, -⟩ <;> rfl
          simp (disch := omega) only [go_sem, hve, hvd, hd3, hcl, List.length_cons, List.length_nil]
          have sN : Step hB' (h3.put d (.cells [.int .i64 (beginS σ).2.cap, .mp y.m, .mp y.m2, v', y.wv, .bool (beginS σ).2.dead, .int .i64 (beginS σ).2.calls, .int .i64 (beginS σ).2.fuse, .int .i64 (beginS σ).2.fault, .int .i64 (beginS σ).2.e])) d (beginS σ).2 y (newS (beginS σ).2 hB'.next) { y with av := v', bv := fun g => if g = hB'.next then .nils else y.bv g } := by
            refine dB.new (Nat.le_refl _) (by show hB'.next < h3.next; omega) (fun o ho => ?_) (fun o ho => ?_) (get_put_same _ _ _) ?_ ?_ (fun o h5 h6 h7 => ?_)
            · show o < h3.next
              rcases hro o ho with e | e
              · have := aown o e; omega
              · omega
            · rcases hro o ho with e | e
              · exact Or.inl e
              · exact Or.inr ⟨by omega, by omega⟩
            · rw [get_put_ne _ _ _ _ (Ne.symm dne), f3 _ (by omega) (fun e => by have := aown _ e; omega), get_reserve, get_put_same]
            · rw [List.map_append]
              refine hr3.keep (fun o ho => get_put_ne _ _ _ _ ?_)
              rcases hro o ho with e | e
              · exact (SB.av o e).1
              · omega
            · rw [get_put_ne _ _ _ _ h6, f3 o (by omega) h7, get_reserve, get_put_ne _ _ _ _ (by omega), get_reserve]
          simp (disch := omega) only [go_sem, a16r12]
          refine WO.fun (vs := [.ptr d 0, .agg [strv [], strv s, fcell (some hB'.next)]]) (by simp (disch := omega) only [go_sem]; rfl) (turnsD_step hP ⟨[], s, some hB'.next⟩ _ d _ _ sN.at' (fun f hf => by obtain rfl := Option.some.inj hf; exact List.mem_append.2 (Or.inr (List.mem_singleton.2 rfl))) (by show (beginS σ).2.waits.length ≤ _; rw [hB.2.2.2.1]; exact hw)) (fun v h5 hv => ?_)
          obtain ⟨rfl, y5, s5⟩ := hv
          simp (disch := omega) only [go_sem]
          refine ⟨hB'.next, y5, sB.frm.1, ?_, ?_⟩
          · unfold createS
            rw [if_neg c, if_neg (by simp [hN]), if_neg (by simp [hg]), if_neg (by omega)]
          · unfold createS
            rw [if_neg c, if_neg (by simp [hN]), if_neg (by simp [hg]), if_neg (by omega)]
            exact (sB.trans sN).trans s5
end Go.Am.Dk
/- Used is told: the sum of the bytes of the files that have names, whatever the order in which they are met. -/
namespace Go.Am.Dk
open Go.Am
set_option maxRecDepth 20000
set_option maxHeartbeats 1000000
def lenF (h : Heap) : AV → Option Nat
  | .ptr f 0 => (match h.get f with
    | some (.cells [bv, _]) => if lenTag 1 bv && Nat.blt f h.next then (match bv with | .nils => some 0 | .hs _ _ _ _ n _ => some n | _ => none) else none
    | _ => none)
  | _ => none
def sumL (h : Heap) : List AV → Option Nat
  | [] => some 0
  | v :: r => (lenF h v).bind fun a => (sumL h r).bind fun b => some (a + b)
def usedF : List AV → Heap → Option (AV × Heap)
  | [.ptr d 0], h => (match h.get d with
    | some (.cells [_, .mp m, _, _, _, .bool false, _, _, _, _]) => (match h.get m with
      | some (.map es bs ck) => (sumL h (es.map (·.2))).bind fun n =>
        if n ≤ 4611686018427387904 ∧ bs.length = es.length ∧ bs.Nodup ∧ (∀ b ∈ bs, b < ck) ∧ m < h.next then some (.int .i64 n, (h.reserve 1).put h.next .dead) else none
      | _ => none)
    | _ => none)
  | _, _ => none
theorem sumL_app (h : Heap) : ∀ (a b : List AV) (n : Nat), sumL h (a ++ b) = some n ↔ ∃ x y, sumL h a = some x ∧ sumL h b = some y ∧ n = x + y
  | [], b, n => by
    constructor
    · intro e; exact ⟨0, n, rfl, e, by omega⟩
    · rintro ⟨x, y, e1, e2, rfl⟩
      simp only [sumL, Option.some.injEq] at e1
      subst e1
      rw [Nat.zero_add]; exact e2
  | v :: a, b, n => by
    simp only [List.cons_append, sumL, Option.bind_eq_some_iff, Option.some.injEq, sumL_app h a b]
    constructor
    · rintro ⟨p, h1, q, ⟨x, y, h2, h3, rfl⟩, rfl⟩
      exact ⟨p + x, y, ⟨p, h1, x, h2, rfl⟩, h3, by omega⟩
    · rintro ⟨x, y, ⟨p, h1, q, h2, rfl⟩, h3, rfl⟩
      exact ⟨p, h1, q + y, ⟨q, y, h2, h3, rfl⟩, by omega⟩
theorem sumL_pick {h : Heap} {l1 l2 : List (Nat × AV × AV)} {p : Nat × AV × AV} {n : Nat} (hs : sumL h ((l1 ++ p :: l2).map (·.2.2)) = some n) : ∃ a r, lenF h p.2.2 = some a ∧ sumL h ((l1 ++ l2).map (·.2.2)) = some r ∧ n = a + r := by
  rw [List.map_append, sumL_app] at hs
  obtain ⟨x, y, h1, h2, rfl⟩ := hs
  simp only [List.map_cons, sumL, Option.bind_eq_some_iff, Option.some.injEq] at h2
  obtain ⟨a, h3, b, h4, rfl⟩ := h2
  exact ⟨a, x + b, h3, by rw [List.map_append, sumL_app]; exact ⟨x, b, h1, h4, rfl⟩, by omega⟩
def PU : Prog := { fn := code, prim := prim0, pure := pures }
theorem lenF_ext {h h' : Heap} (hx : Ext h h') {v : AV} {a : Nat} (hl : lenF h v = some a) : ∃ f bv su, v = .ptr f 0 ∧ h'.get f = some (.cells [bv, su]) ∧ lenTag 1 bv = true ∧ (∀ h, lenA h bv = some a) ∧ f < h.next ∧ (∀ i, evS i (some bv) = some bv) := by
  unfold lenF at hl
  split at hl
  · rename_i f
    split at hl
    · rename_i bv su hg
      split at hl
      · rename_i hc
        simp only [Bool.and_eq_true, nblt, decide_eq_true_eq] at hc
        split at hl
        · obtain rfl := Option.some.inj hl
          exact ⟨f, _, su, rfl, (hx.2 f hc.2).trans hg, hc.1, fun _ => rfl, hc.2, fun _ => rfl⟩
        · obtain rfl := Option.some.inj hl
          exact ⟨f, _, su, rfl, (hx.2 f hc.2).trans hg, hc.1, fun _ => rfl, hc.2, fun _ => rfl⟩
        · simp at hl
      · simp at hl
    · simp at hl
  · simp at hl
theorem used_x (args : List AV) (h : Heap) (v : AV) (h' : Heap) (hF : usedF args h = some (v, h')) : FunX PU 33 args h (fun v2 h2 => v2 = v ∧ SubH h' h2) := by
  unfold usedF at hF
  split at hF
  · rename_i d
    split at hF
    · rename_i c0 m c2 c3 c4 c6 c7 c8 c9 hd
      split at hF
      · rename_i es bs ck hm
        simp only [Option.bind_eq_some_iff] at hF
        obtain ⟨n, hn, hF⟩ := hF
        split at hF
        · rename_i hc
          obtain ⟨n1, n2, n3, n4, n5⟩ := hc
          simp only [Option.some.injEq, Prod.mk.injEq] at hF
          obtain ⟨rfl, rfl⟩ := hF
          have hbel : allBel ck bs = true := by
            clear hm hn n2 n3
            induction bs with
            | nil => rfl
            | cons b r ih => simp only [allBel, Bool.and_eq_true, nblt, decide_eq_true_eq]; exact ⟨n4 b List.mem_cons_self, ih (fun x hx => n4 x (List.mem_cons_of_mem _ hx))⟩
          refine FunX.of (code := a33c) rfl ?_
          rw [a33c]
          refine WX_seq (WX.det ?_)
          simp (disch := omega) only [go_sem, a33r0]
          refine WX_seq (WX.det ?_)
          simp (disch := omega) only [go_sem, a33r1]
          refine WX_seq (WX.det ?_)
          simp (disch := omega) only [go_sem, a33r2, hd]
          refine WX_seq ?_
          refine WX_seq (WX.det ?_)
          simp (disch := omega) only [go_sem, a33r4, hd, hm]
          refine WX_block ?_
          have hb3 : Nat.ble ck ck = true := by simp
          refine WX_loop (fun x : Nat × Nat × List Nat × Heap => (∃ r, sumL h ((leftA x.2.2.1 bs es).map (·.2.2)) = some r ∧ x.2.1 + r = n) ∧ x.2.2.2.get h.next = some (.miter (some m) ck x.2.2.1 ck) ∧ x.2.2.2.next = h.next + 1 ∧ ∀ i, i ≠ h.next → x.2.2.2.get i = h.get i)
            (fun (t, a, seen, hh) => { fr := [(3, .int .i64 a), (18, .ptr h.next 0)], st := t, h := hh }) (fun x => (leftA x.2.2.1 bs es).length) ?_ _ (0, 0, [], _) (Nat.le_refl _) ⟨⟨n, by
              have := leftA_nil bs es n2
              rw [← this, List.map_map] at hn
              exact hn, Nat.zero_add n⟩, get_put_same _ _ _, rfl, fun i hi => get_put_ne _ _ _ _ hi⟩
          rintro ⟨t, a, seen, hh⟩ ⟨⟨r, g1, g2⟩, g3, g4, g5⟩
          simp only at g1 g2 g3 g4 g5
          have hm' : hh.get m = some (.map es bs ck) := (g5 m (by omega)).trans hm
          rw [a33l0]
          refine WX_seq ?_
          rw [a33r5]
          refine WX.next (a := .ptr h.next 0) (rs := nextsL { fr := [(3, .int .i64 a), (18, .ptr h.next 0)], st := t, h := hh } h.next m ck seen ck (leftA seen bs es)) (by simp (disch := omega) only [go_sem]) (by simp only [nexts, g3, hm', hbel, hb3, Bool.and_self, if_true]) (fun v s1 hmem => ?_)
          unfold nextsL at hmem
          by_cases he : (leftA seen bs es).isEmpty
          · rw [if_pos he, List.mem_singleton] at hmem
            obtain ⟨rfl, rfl⟩ := Prod.mk.inj hmem
            have hnil : leftA seen bs es = [] := by simpa using he
            rw [hnil] at g1
            simp only [List.map_nil, sumL, Option.some.injEq] at g1
            simp (disch := omega) only [go_sem]
            refine WX_seq (WX.det ?_)
            simp (disch := omega) only [go_sem]
            refine WX_seq (WX.det ?_)
            simp (disch := omega) only [go_sem, a33r8]
            refine WX.det ?_
            simp (disch := omega) only [go_sem]
            refine ⟨by rw [show a = n by omega], g4.symm, fun o x ho => ?_⟩
            by_cases e : o = h.next
            · subst e
              rw [get_put_same] at ho
              exact Or.inl (Option.some.inj ho).symm
            · rw [get_put_ne _ _ _ _ e, get_reserve] at ho
              exact Or.inr ((g5 o e).trans ho)
          · rw [if_neg he, List.mem_map] at hmem
            obtain ⟨p, hp, e⟩ := hmem
            obtain ⟨rfl, rfl⟩ := Prod.mk.inj e
            obtain ⟨l1, l2, q1, q2⟩ := leftA_pick bs es n3 hp
            rw [q1] at g1
            obtain ⟨x, r', x1, x2, x3⟩ := sumL_pick g1
            obtain ⟨f, bv, su, y1, y2, y3, y4, y5, y6⟩ := lenF_ext (h' := hh) ⟨by omega, fun i hi => g5 i (by omega)⟩ x1
            simp (disch := omega) only [go_sem]
            refine WX_seq (WX.det ?_)
            simp (disch := omega) only [go_sem]
            refine WX.det ?_
            obtain ⟨b1, pk, pv⟩ := p
            simp only at y1 q2 q1 x1 hp
            subst y1
            have fb := findB_pick bs es n3 hp
            have ck3 : Nat.beq ck ck = true := by simp
            have dm : m ≠ h.next := by omega
            have df : f ≠ h.next := by omega
            simp only at fb
            simp (disch := omega) only [go_sem, a33r6, get_put_same, get_put_ne, dm, hm', ck3, cond_true, lastN_app, fb]
            simp (disch := omega) only [go_sem, a33r7, get_put_ne, df, y2, y3, y4, y6]
            refine ⟨(t, a + x, seen ++ [b1], hh.put h.next (.miter (some m) ck (seen ++ [b1]) ck)), ⟨⟨r', by rw [q2]; exact x2, by simp only; omega⟩, get_put_same _ _ _, g4, fun i hi => (get_put_ne _ _ _ _ hi).trans (g5 i hi)⟩, by simp only; rw [q1, q2]; simp, ?_⟩
            rfl
        · simp at hF
      · simp at hF
    · simp at hF
  · simp at hF
theorem used_sim : CallSim L (onF 33 usedF) := onF_sim (PA := PU) allFn mixed code_sim prim0_sim used_x
def usedS (σ : DSt) : Nat := (σ.names.map fun p => (σ.file p.2).b.length).sum
theorem sumL_files {h : Heap} {d : Nat} {σ : DSt} {y : Lay} (hD : DiskAt h d σ y) : ∀ n : NMap, (∀ p ∈ n, p.2 ∈ σ.all) → sumL h ((kv (fp n)).map (·.2)) = some (n.map fun p => (σ.file p.2).b.length).sum
  | [], _ => rfl
  | p :: r, hp => by
    have ih := sumL_files hD r (fun q hq => hp q (List.mem_cons_of_mem _ hq))
    have hf := hp p List.mem_cons_self
    have hc := hD.cell _ hf
    have hb := hD.bytes _ hf
    have hlt := hD.lt p.2 (Or.inr (Or.inr (Or.inr (Or.inr (Or.inr ⟨p.2, hf, Or.inl rfl⟩)))))
    have e1 : lenF h (.ptr p.2 0) = some (σ.file p.2).b.length := by
      have hblt : Nat.blt p.2 h.next = true := by simp only [nblt, decide_eq_true_eq]; exact hlt
      simp only [lenF, hc]
      rcases hb with ⟨e, e'⟩ | ⟨o, ep, j, e, -⟩
      · rw [e, e', hblt]; rfl
      · rw [e, hblt]; rfl
    rw [fp_cons, kv_cons]
    simp only [List.map_cons, sumL, e1, ih, Option.bind_some, List.sum_cons]
theorem usedF_eq {h : Heap} {d : Nat} {σ : DSt} {y : Lay} (hD : DiskAt h d σ y) (hd : σ.dead = false) (hu : usedS σ ≤ 4611686018427387904) : usedF [.ptr d 0] h = some (.int .i64 (usedS σ), (h.reserve 1).put h.next .dead) := by
  obtain ⟨bs, ck, hg, hs⟩ := hD.names
  have hlt := hD.lt y.m (Or.inr (Or.inl rfl))
  have hdk := hD.disk
  simp only [DSt.cells, hd] at hdk
  simp only [usedF, hdk, hg, sumL_files hD σ.names hD.ok.names, Option.bind_some]
  rw [if_pos ⟨hu, by rw [hs.len, kv_length, fp_length], hs.nd, hs.lt, hlt⟩]
  rfl
theorem ext_dead (h : Heap) : Ext h ((h.reserve 1).put h.next .dead) := ⟨by show h.next ≤ h.next + 1; omega, fun i hi => by rw [get_put_ne _ _ _ _ (by omega)]; rfl⟩
end Go.Am.Dk
/- The disk's functions: Append, Sync, SyncDir. -/
namespace Go.Am.Dk
open Go.Am
set_option maxRecDepth 20000
set_option maxHeartbeats 1000000
variable {P : Prog}
structure DkQ (P : Prog) : Prop extends DkP P where
  none33 : P.fn 33 = none
  used : ∀ args h r, usedF args h = some r → P.prim 33 args h = some r
theorem usedD_fun (hP : DkQ P) {h : Heap} {d : Nat} {σ : DSt} {y : Lay} (hD : DiskAt h d σ y) (hd : σ.dead = false) (hu : usedS σ ≤ 4611686018427387904) : Fun P 33 [.ptr d 0] h (fun v h' => v = .int .i64 (usedS σ) ∧ Ext h h') :=
  Fun.prim hP.none33 (by rw [hP.pure]; rfl) (hP.used _ _ _ (usedF_eq hD hd hu)) ⟨rfl, ext_dead h⟩
def setF (σ : DSt) (f : Nat) (x : DFile) : DSt := { σ with file := fun g => if g = f then x else σ.file g }
theorem DiskAt.fput {h h' : Heap} {d f : Nat} {σ : DSt} {y : Lay} {x : DFile} {bv' : AV} (hD : DiskAt h d σ y) (hf : f ∈ σ.all) (hc : h'.get f = some (.cells [bv', .int .i64 x.sure])) (hb : PreC h' bv' x.b) (hro : ∀ o, rowOf bv' = some o → rowOf (y.bv f) = some o ∨ h.next ≤ o)
    (hlt : ∀ o, rowOf bv' = some o → o < h'.next) (ho : ∀ o, o < h.next → o ≠ f → rowOf (y.bv f) ≠ some o → h'.get o = h.get o) (hn : h.next ≤ h'.next) : Step h h' d σ y (setF σ f x) { y with bv := fun g => if g = f then bv' else y.bv g } := by
  have S := hD.sep
  have own : ∀ q, Own d σ y q → q < h.next := hD.lt
  have fown : ∀ f ∈ σ.all, Own d σ y f := fun f hf => Or.inr (Or.inr (Or.inr (Or.inr (Or.inr ⟨f, hf, Or.inl rfl⟩))))
  have bown : ∀ f ∈ σ.all, ∀ o, rowOf (y.bv f) = some o → Own d σ y o := fun f hf o ho => Or.inr (Or.inr (Or.inr (Or.inr (Or.inr ⟨f, hf, Or.inr ho⟩))))
  have aown : ∀ o, rowOf y.av = some o → Own d σ y o := fun o ho => Or.inr (Or.inr (Or.inr (Or.inl ho)))
  have wown : ∀ o, rowOf y.wv = some o → Own d σ y o := fun o ho => Or.inr (Or.inr (Or.inr (Or.inr (Or.inl ho))))
  have rn : ∀ o, o < h.next → rowOf bv' = some o → rowOf (y.bv f) = some o := fun o h1 h2 => (hro o h2).elim id (fun h3 => by omega)
  have bvi : ∀ g o, rowOf (if g = f then bv' else y.bv g) = some o → rowOf (y.bv g) = some o ∨ (g = f ∧ h.next ≤ o) := fun g o hq => by
    by_cases e : g = f
    · rw [if_pos e] at hq
      rcases hro o hq with e2 | e2
      · exact Or.inl (by rw [e]; exact e2)
      · exact Or.inr ⟨e, e2⟩
    · rw [if_neg e] at hq; exact Or.inl hq
  refine ⟨{ ok := ⟨hD.ok.names, hD.ok.sure, hD.ok.waits, hD.ok.nd, hD.ok.sd, hD.ok.ad⟩, disk := ?_, names := ?_, sure := ?_, all := ?_, waits := ?_, cell := ?_, bytes := ?_, mm := hD.mm, bb := ?_, ab := ?_, wb := ?_, aw := hD.aw, lt := ?_ }, ⟨hn, fun o h1 h2 => ho o h1 (fun e => h2 (by rw [e]; exact fown f hf)) (fun e => h2 (bown f hf o e))⟩, ?_⟩
  · rw [ho d (own d (Or.inl rfl)) (Ne.symm (S.df f hf)) (fun e => (S.bv f hf d e).1 rfl)]
    exact hD.disk
  · exact hD.names.of_get (ho _ (own _ (Or.inr (Or.inl rfl))) (Ne.symm (S.fm f hf)) (fun e => (S.bv f hf _ e).2.1 rfl))
  · exact hD.sure.of_get (ho _ (own _ (Or.inr (Or.inr (Or.inl rfl)))) (Ne.symm (S.fm2 f hf)) (fun e => (S.bv f hf _ e).2.2.1 rfl))
  · exact hD.all.keep (fun o hq => ho o (own o (aown o hq)) (Ne.symm ((S.av o hq).2.2.2 f hf)) (hD.ab f hf o hq))
  · exact hD.waits.keep (fun o hq => ho o (own o (wown o hq)) (Ne.symm ((S.wv o hq).2.2.2 f hf)) (hD.wb f hf o hq))
  · intro g hg
    by_cases e : g = f
    · subst e
      show h'.get g = some (.cells [if g = g then bv' else y.bv g, .int .i64 ((if g = g then x else σ.file g).sure : Nat)])
      rw [if_pos rfl, if_pos rfl]
      exact hc
    · show h'.get g = some (.cells [if g = f then bv' else y.bv g, .int .i64 ((if g = f then x else σ.file g).sure : Nat)])
      rw [if_neg e, if_neg e, ho g (own g (fown g hg)) e (fun e2 => (S.bv f hf g e2).2.2.2 g hg rfl)]
      exact hD.cell g hg
  · intro g hg
    by_cases e : g = f
    · subst e
      show PreC h' (if g = g then bv' else y.bv g) ((if g = g then x else σ.file g).b)
      rw [if_pos rfl, if_pos rfl]
      exact hb
    · show PreC h' (if g = f then bv' else y.bv g) ((if g = f then x else σ.file g).b)
      rw [if_neg e, if_neg e]
      exact (hD.bytes g hg).keep (fun o hq => ho o (own o (bown g hg o hq)) (Ne.symm ((S.bv g hg o hq).2.2.2 f hf)) (hD.bb g hg f hf e o hq))
  · intro g hg g' hg' hne o h1 h2
    rcases bvi g o h1 with a | ⟨a, a'⟩ <;> rcases bvi g' o h2 with b | ⟨b, b'⟩
    · exact hD.bb g hg g' hg' hne o a b
    · have := own o (bown g hg o a); omega
    · have := own o (bown g' hg' o b); omega
    · exact hne (a.trans b.symm)
  · intro g hg o h1 h2
    rcases bvi g o h2 with a | ⟨a, a'⟩
    · exact hD.ab g hg o h1 a
    · have := own o (aown o h1); omega
  · intro g hg o h1 h2
    rcases bvi g o h2 with a | ⟨a, a'⟩
    · exact hD.wb g hg o h1 a
    · have := own o (wown o h1); omega
  · intro o h1
    have ho' : o = d ∨ o = y.m ∨ o = y.m2 ∨ rowOf y.av = some o ∨ rowOf y.wv = some o ∨ ∃ g ∈ σ.all, o = g ∨ rowOf (if g = f then bv' else y.bv g) = some o := h1
    have lt : o < h.next → o < h'.next := fun h => by omega
    rcases ho' with h1 | h1 | h1 | h1 | h1 | ⟨g, hg, h1 | h1⟩
    · exact lt (own o (Or.inl h1))
    · exact lt (own o (Or.inr (Or.inl h1)))
    · exact lt (own o (Or.inr (Or.inr (Or.inl h1))))
    · exact lt (own o (aown o h1))
    · exact lt (own o (wown o h1))
    · exact lt (own o (by rw [h1]; exact fown g hg))
    · by_cases e : g = f
      · rw [if_pos e] at h1; exact hlt o h1
      · rw [if_neg e] at h1; exact lt (own o (bown g hg o h1))
  · intro o h1
    have ho' : o = d ∨ o = y.m ∨ o = y.m2 ∨ rowOf y.av = some o ∨ rowOf y.wv = some o ∨ ∃ g ∈ σ.all, o = g ∨ rowOf (if g = f then bv' else y.bv g) = some o := h1
    rcases ho' with h1 | h1 | h1 | h1 | h1 | ⟨g, hg, h1 | h1⟩
    · exact Or.inl (Or.inl h1)
    · exact Or.inl (Or.inr (Or.inl h1))
    · exact Or.inl (Or.inr (Or.inr (Or.inl h1)))
    · exact Or.inl (aown o h1)
    · exact Or.inl (wown o h1)
    · exact Or.inl (by rw [h1]; exact fown g hg)
    · rcases bvi g o h1 with a | ⟨a, a'⟩
      · exact Or.inl (bown g hg o a)
      · exact Or.inr a'
theorem openS_some {σ : DSt} {s : List UInt8} (h : (openS σ s).2.1 = 0) : ∃ f, (openS σ s).1 = some f ∧ nget s σ.names = some f := by
  unfold openS at h ⊢
  split
  · rename_i c
    rw [if_pos c] at h
    exact absurd h c
  · rename_i c
    rw [if_neg c] at h
    rw [(beginS_all σ).2.1] at h ⊢
    cases hg : nget s σ.names with
    | none => rw [hg] at h; simp at h
    | some f => exact ⟨f, rfl, rfl⟩
theorem begin_dead {σ : DSt} (h : (beginS σ).1 = 0) : (beginS σ).2.dead = false := by
  unfold beginS at h ⊢
  split at h
  · simp at h
  · rename_i c
    rw [if_neg c]
    have c' : σ.dead = false := by simpa using c
    split at h
    · simp at h
    · rename_i c2
      rw [if_neg c2]
      split <;> exact c'
theorem open_begin {σ : DSt} {s : List UInt8} (h : (openS σ s).2.1 = 0) : (beginS σ).1 = 0 := by
  unfold openS at h
  split at h
  · rename_i c; exact absurd h c
  · rename_i c; simpa using c
def appendS (σ : DSt) (s b : List UInt8) : Int × DSt :=
  if (openS σ s).2.1 ≠ 0 then ((openS σ s).2.1, (beginS σ).2)
  else match (openS σ s).1 with
    | none => (0, (beginS σ).2)
    | some f => if σ.cap - usedS σ < b.length then (8, (beginS σ).2) else (0, setF (beginS σ).2 f ⟨(σ.file f).b ++ b, (σ.file f).sure⟩)
theorem appendD_fun (hP : DkQ P) (s b : List UInt8) (n full : Bool) (h : Heap) (d : Nat) (σ : DSt) (y : Lay) (hD : DiskAt h d σ y) (h1 : 0 ≤ σ.calls) (h2 : σ.calls < 9000000000000000000) (hu : usedS σ ≤ 1000000000000) (hc : 0 ≤ σ.cap ∧ σ.cap ≤ 1048576) (hb : b.length ≤ 1000000000) (hfl : ∀ f ∈ σ.all, (σ.file f).b.length ≤ 1000000000000) :
    Fun P 11 [.ptr d 0, strv s, slv n full b] h (fun v h' => v = .int .i64 (appendS σ s b).1 ∧ ∃ y', Step h h' d σ y (appendS σ s b).2 y') := by
  have hB := beginS_all σ
  have hO := openS_all σ s
  refine Fun.of (code := a11c) (hP.code rfl) (by rw [hP.pure]; rfl) ?_
  simp (disch := omega) only [go_sem, a11c, a11r0, a11r1]
  refine WO.fun (vs := [.ptr d 0, strv s]) (by simp (disch := omega) only [go_sem]) (openD_step hP.toDkP s h d σ y hD h1 h2) (fun v hA hv => ?_)
  obtain ⟨rfl, sA⟩ := hv
  rw [hO] at sA
  simp (disch := omega) only [go_sem]
  unfold appendS
  simp (disch := omega) only [go_sem, a11r2]
  refine condS_if (fun c => ?_) (fun c => ?_)
  · rw [if_pos c]
    simp (disch := omega) only [go_sem, a11r3]
    exact ⟨trivial, y, sA⟩
  · rw [if_neg c]
    obtain ⟨f, hf1, hf2⟩ := openS_some (by simpa using c)
    have hdead := begin_dead (open_begin (by simpa using c))
    rw [hf1]
    have dA := sA.at'
    have hd := dA.disk
    simp only [DSt.cells] at hd
    have hus : usedS (beginS σ).2 = usedS σ := by unfold usedS; rw [hB.2.1, hB.2.2.2.2.1]
    have hcap : (beginS σ).2.cap = σ.cap := hB.2.2.2.2.2
    rw [hcap] at hd
    simp (disch := omega) only [go_sem, a11d4, hd, fcell_some]
    refine WD_fun (vs := [.ptr d 0]) (by simp (disch := omega) only [go_sem]) (usedD_fun hP dA hdead (by rw [hus]; omega)) (fun v hB' hv => ?_) (fun v hB' hv => ?_)
    · obtain ⟨rfl, hx⟩ := hv
      have hd' : hB'.get d = _ := (hx.2 d (dA.lt d (Or.inl rfl))).trans hd
      simp (disch := omega) only [go_sem, looks, look, sees, wantedA, List.getElem?_cons_succ, List.getElem?_cons_zero, hd', eqAV, eqK, eqI_eq, cond_true, Bool.and_self, beq_self_eq_true]
    · obtain ⟨rfl, hx⟩ := hv
      rw [hus]
      simp (disch := omega) only [go_sem]
      refine condS_if (fun c2 => ?_) (fun c2 => ?_)
      · simp only [if_pos c2]
        simp (disch := omega) only [go_sem, a11r5]
        exact ⟨trivial, y, sA.trans (Step.ext dA hx)⟩
      · simp only [if_neg c2]
        have dB := (Step.ext dA hx).at'
        have hfa : f ∈ (beginS σ).2.all := by rw [hB.1]; exact hD.ok.names (s, f) (nget_mem hf2)
        have hcf := dB.cell f hfa
        have hbf := dB.bytes f hfa
        rw [hB.2.2.2.2.1] at hcf hbf
        have own : ∀ q, Own d (beginS σ).2 y q → q < hB'.next := dB.lt
        have SB := dB.sep
        have bown : ∀ o, rowOf (y.bv f) = some o → o < hB'.next := fun o ho => own o (Or.inr (Or.inr (Or.inr (Or.inr (Or.inr ⟨f, hfa, Or.inr ho⟩)))))
        have flt : f < hB'.next := own f (Or.inr (Or.inr (Or.inr (Or.inr (Or.inr ⟨f, hfa, Or.inl rfl⟩)))))
        have hbe := hbf.ev
        have hbd := hbf.dt
        simp (disch := omega) only [go_sem, a11r6, hcf, hbe, hbd]
        have hfl' := hfl f (by rw [← hB.1]; exact hfa)
        refine stepP_app (α := UInt8) (bytes := 1) (l := (σ.file f).b) (new := b) (hbf.keep (fun o ho => rfl)) (adds_slv _ _ _ _) rfl (by simp [two47]; omega) (fun v' h3 hr3 hn3 ho3 hf3 hnn => ?_)
        have hn3' : h3.next = hB'.next + 1 := hn3
        have hro : ∀ o, rowOf v' = some o → rowOf (y.bv f) = some o ∨ o = hB'.next := fun o ho => by
          rcases ho3 with e | e
          · exact Or.inl (by rw [← e]; exact ho)
          · rw [e] at ho; exact Or.inr (Option.some.inj ho).symm
        have hve := hr3.ev
        have hvd := hr3.dt
        have hcl : v'.cellsOf = [v'] := by rcases hr3 with ⟨rfl, -⟩ | ⟨o, ep, j, rfl, -⟩ <;> rfl
        have g3 : h3.get f = some (.cells [y.bv f, .int .i64 (σ.file f).sure]) := by
          rw [hf3 f (by show f ≠ hB'.next + 0; omega) (fun e => (SB.bv f hfa f e).2.2.2 f hfa rfl)]; exact hcf
        simp (disch := omega) only [go_sem, hve, hvd, hcl, g3, List.length_cons, List.length_nil]
        simp (disch := omega) only [go_sem, a11r7]
        have sF : Step hB' (h3.put f (.cells [v', .int .i64 (σ.file f).sure])) d (beginS σ).2 y (setF (beginS σ).2 f ⟨(σ.file f).b ++ b, (σ.file f).sure⟩) { y with bv := fun g => if g = f then v' else y.bv g } := by
          refine dB.fput hfa (get_put_same _ _ _) (hr3.keep (fun o ho => get_put_ne _ _ _ _ ?_)) (fun o ho => ?_) (fun o ho => ?_) (fun o h5 h6 h7 => ?_) ?_
          · rcases hro o ho with e | e
            · exact Ne.symm ((SB.bv f hfa o e).2.2.2 f hfa)
            · omega
          · rcases hro o ho with e | e
            · exact Or.inl e
            · exact Or.inr (by omega)
          · show o < h3.next
            rcases hro o ho with e | e
            · have := bown o e; omega
            · omega
          · rw [get_put_ne _ _ _ _ h6, hf3 o (by show o ≠ hB'.next + 0; omega) h7]; rfl
          · show hB'.next ≤ h3.next
            omega
        exact ⟨trivial, _, (sA.trans (Step.ext dA hx)).trans sF⟩
def syncS (σ : DSt) (s : List UInt8) : Int × DSt :=
  if (openS σ s).2.1 ≠ 0 then ((openS σ s).2.1, (beginS σ).2)
  else match (openS σ s).1 with
    | none => (0, (beginS σ).2)
    | some f => (0, setF (beginS σ).2 f ⟨(σ.file f).b, (σ.file f).b.length⟩)
theorem syncD_fun (hP : DkP P) (s : List UInt8) (h : Heap) (d : Nat) (σ : DSt) (y : Lay) (hD : DiskAt h d σ y) (h1 : 0 ≤ σ.calls) (h2 : σ.calls < 9000000000000000000) :
    Fun P 17 [.ptr d 0, strv s] h (fun v h' => v = .int .i64 (syncS σ s).1 ∧ ∃ y', Step h h' d σ y (syncS σ s).2 y') := by
  have hB := beginS_all σ
  have hO := openS_all σ s
  refine Fun.of (code := a17c) (hP.code rfl) (by rw [hP.pure]; rfl) ?_
  simp (disch := omega) only [go_sem, a17c, a17r0, a17r1]
  refine WO.fun (vs := [.ptr d 0, strv s]) (by simp (disch := omega) only [go_sem]) (openD_step hP s h d σ y hD h1 h2) (fun v hA hv => ?_)
  obtain ⟨rfl, sA⟩ := hv
  rw [hO] at sA
  simp (disch := omega) only [go_sem]
  unfold syncS
  simp (disch := omega) only [go_sem, a17r2]
  refine condS_if (fun c => ?_) (fun c => ?_)
  · rw [if_neg (by simpa using c)]
    obtain ⟨f, hf1, hf2⟩ := openS_some c
    rw [hf1]
    have dA := sA.at'
    have hfa : f ∈ (beginS σ).2.all := by rw [hB.1]; exact hD.ok.names (s, f) (nget_mem hf2)
    have hcf := dA.cell f hfa
    have hbf := dA.bytes f hfa
    rw [hB.2.2.2.2.1] at hcf hbf
    have hbe := hbf.ev
    have hbt := hbf.tag
    have hbl := hbf.len
    have own : ∀ q, Own d (beginS σ).2 y q → q < hA.next := dA.lt
    have SA := dA.sep
    simp (disch := omega) only [go_sem, a17r3, fcell_some, hcf, hbe, hbt, hbl, cond_true]
    simp (disch := omega) only [go_sem, a17r4]
    rw [c]
    have sF : Step hA (hA.put f (.cells [y.bv f, .int .i64 ((σ.file f).b.length : Nat)])) d (beginS σ).2 y (setF (beginS σ).2 f ⟨(σ.file f).b, (σ.file f).b.length⟩) { y with bv := fun g => if g = f then y.bv f else y.bv g } :=
      dA.fput hfa (get_put_same _ _ _) (hbf.keep (fun o ho => get_put_ne _ _ _ _ (Ne.symm ((SA.bv f hfa o ho).2.2.2 f hfa)))) (fun o ho => Or.inl ho) (fun o ho => own o (Or.inr (Or.inr (Or.inr (Or.inr (Or.inr ⟨f, hfa, Or.inr ho⟩)))))) (fun o _ h6 _ => get_put_ne _ _ _ _ h6) (Nat.le_refl _)
    exact ⟨rfl, _, sA.trans sF⟩
  · rw [if_pos c]
    simp (disch := omega) only [go_sem, a17r4]
    exact ⟨trivial, y, sA⟩
def renameS (σ : DSt) (s t : List UInt8) : Int × DSt :=
  if (openS σ s).2.1 ≠ 0 then ((openS σ s).2.1, (beginS σ).2)
  else if nameL t = false then (1, (beginS σ).2)
  else (0, turnsS (beginS σ).2 ⟨s, t, none⟩)
theorem renameD_fun (hP : DkP P) (s t : List UInt8) (h : Heap) (d : Nat) (σ : DSt) (y : Lay) (hD : DiskAt h d σ y) (h1 : 0 ≤ σ.calls) (h2 : σ.calls < 9000000000000000000) (hl : t.length ≤ 9223372036854775807) (hw : σ.waits.length ≤ 1000000000) :
    Fun P 31 [.ptr d 0, strv s, strv t] h (fun v h' => v = .int .i64 (renameS σ s t).1 ∧ ∃ y', Step h h' d σ y (renameS σ s t).2 y') := by
  have hB := beginS_all σ
  have hO := openS_all σ s
  refine Fun.of (code := a31c) (hP.code rfl) (by rw [hP.pure]; rfl) ?_
  simp (disch := omega) only [go_sem, a31c, a31r0, a31r1]
  refine WO.fun (vs := [.ptr d 0, strv s]) (by simp (disch := omega) only [go_sem]) (openD_step hP s h d σ y hD h1 h2) (fun v hA hv => ?_)
  obtain ⟨rfl, sA⟩ := hv
  rw [hO] at sA
  simp (disch := omega) only [go_sem]
  unfold renameS
  simp (disch := omega) only [go_sem, a31r2]
  refine condS_if (fun c => ?_) (fun c => ?_)
  · rw [if_pos c]
    simp (disch := omega) only [go_sem, a31r3]
    exact ⟨trivial, y, sA⟩
  · rw [if_neg c]
    simp (disch := omega) only [go_sem, a31r4]
    refine WO.fun (vs := [strv t]) (by simp (disch := omega) only [go_sem]) (name_funD hP t hA hl) (fun v hB' hv => ?_)
    obtain ⟨rfl, hxB⟩ := hv
    have sB := sA.trans (Step.ext sA.at' hxB)
    simp (disch := omega) only [go_sem]
    cases hN : nameL t with
    | false =>
      simp (disch := omega) only [go_sem, a31r5]
      exact ⟨by trivial, y, sB⟩
    | true =>
      simp (disch := omega) only [go_sem, a31r6]
      refine WO.fun (vs := [.ptr d 0, .agg [strv s, strv t, fcell none]]) (by simp (disch := omega) only [go_sem]) (turnsD_step hP ⟨s, t, none⟩ _ d _ _ sB.at' (fun f hf => by cases hf) (by rw [hB.2.2.2.1]; exact hw)) (fun v h5 hv => ?_)
      obtain ⟨rfl, y5, s5⟩ := hv
      simp (disch := omega) only [go_sem]
      exact ⟨by trivial, y5, sB.trans s5⟩
def removeS (σ : DSt) (s : List UInt8) : Int × DSt :=
  if (openS σ s).2.1 ≠ 0 then ((openS σ s).2.1, (beginS σ).2)
  else (0, turnsS (beginS σ).2 ⟨s, [], none⟩)
theorem removeD_fun (hP : DkP P) (s : List UInt8) (h : Heap) (d : Nat) (σ : DSt) (y : Lay) (hD : DiskAt h d σ y) (h1 : 0 ≤ σ.calls) (h2 : σ.calls < 9000000000000000000) (hw : σ.waits.length ≤ 1000000000) :
    Fun P 32 [.ptr d 0, strv s] h (fun v h' => v = .int .i64 (removeS σ s).1 ∧ ∃ y', Step h h' d σ y (removeS σ s).2 y') := by
  have hB := beginS_all σ
  have hO := openS_all σ s
  refine Fun.of (code := a32c) (hP.code rfl) (by rw [hP.pure]; rfl) ?_
  simp (disch := omega) only [go_sem, a32c, a32r0, a32r1]
  refine WO.fun (vs := [.ptr d 0, strv s]) (by simp (disch := omega) only [go_sem]) (openD_step hP s h d σ y hD h1 h2) (fun v hA hv => ?_)
  obtain ⟨rfl, sA⟩ := hv
  rw [hO] at sA
  simp (disch := omega) only [go_sem]
  unfold removeS
  simp (disch := omega) only [go_sem, a32r2]
  refine condS_if (fun c => ?_) (fun c => ?_)
  · rw [if_pos c]
    simp (disch := omega) only [go_sem, a32r3]
    exact ⟨trivial, y, sA⟩
  · rw [if_neg c]
    simp (disch := omega) only [go_sem, a32r4]
    refine WO.fun (vs := [.ptr d 0, .agg [strv s, strv [], fcell none]]) (by simp (disch := omega) only [go_sem]) (turnsD_step hP ⟨s, [], none⟩ _ d _ _ sA.at' (fun f hf => by cases hf) (by rw [hB.2.2.2.1]; exact hw)) (fun v h5 hv => ?_)
    obtain ⟨rfl, y5, s5⟩ := hv
    simp (disch := omega) only [go_sem]
    exact ⟨trivial, y5, sA.trans s5⟩
end Go.Am.Dk

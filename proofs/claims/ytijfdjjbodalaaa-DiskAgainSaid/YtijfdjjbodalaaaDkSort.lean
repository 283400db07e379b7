/- slices.Sorted(maps.Keys(m)) at this program: what the kit's contracts say. -/
import Derived.Test.YtijfdjjbodalaaaSort
import Derived.Test.YtijfdjjbodalaaaAmAll5
import Derived.Test.YtijfdjjbodalaaaDkCode
import Derived.StringKeys
set_option linter.unusedSimpArgs false
set_option linter.unusedVariables false
namespace Go.Proofs
open Go.RowKit Go.Maps Go.Sort Go.Shelf Go.WideElems
theorem Try.sortsA (m : Nat) : AnyZ.SortsIn Try.prog Try.sortedA_ren Fence.wide m :=
  ⟨fun blk off cap ss W hH hblk hsz => callsIn_wide.2 (AnyM.slices_Sort_string Try.sortA blk off cap ss W hH hblk hsz),
   fun p cap W => callsIn_wide.2 (AnyM.slices_Sort_string_none Try.sortA p cap W)⟩
theorem _root_.List.Nodup.map' {α β : Type} {f : α → β} (hf : ∀ a b, f a = f b → a = b) {l : List α} (h : l.Nodup) : (l.map f).Nodup := by
  unfold List.Nodup at *
  rw [List.pairwise_map]
  exact h.imp (fun hab e => hab (hf _ _ e))
theorem insert_perm {H : Type} (x : Lit × DataW H) : ∀ l : List (Lit × DataW H), (DataW.insert x l).Perm (x :: l)
  | [] => List.Perm.refl _
  | y :: r => by
    rw [DataW.insert]
    split
    · exact List.Perm.refl _
    · exact ((insert_perm x r).cons y).trans (List.Perm.swap x y r)
theorem sort_perm {H : Type} : ∀ l : List (Lit × DataW H), (l.foldr DataW.insert []).Perm l
  | [] => List.Perm.refl _
  | x :: r => (insert_perm x _).trans ((sort_perm r).cons x)
set_option maxHeartbeats 1000000 in
theorem Try.sorted_walk (w : World) (b bm : Nat) (ms : Array MapEntry) (ck : Nat) (ks : List (List UInt8)) (hb : b < w.heap.size) (hc : w.cell? ⟨b, 0, none⟩ = some (.map (some bm))) (hm : w.heap[bm]? = some (.map ms ck))
    (hk : ms.toList.map (·.key) = ks.map (fun k => Value.string ⟨k.toArray⟩)) (h1 : ∀ x ∈ ms.toList, x.born < ck) (h2 : (ms.toList.map (·.born)).Nodup) (h3 : ks.Nodup) (h4 : ks.length ≤ 1000000) (h5 : ∀ k ∈ ks, k.length ≤ 1000000) :
    Calls Try.prog 53 #[.func (.func 72) #[] #[.pointer (some ⟨b, 0, none⟩)]] w (fun e w' => ∃ v t, e = .returned v ∧ w'.ownsRow w.heap.size t 1 v ks.length ((ks.mergeSort (fun x y => decide (x ≤ y))).map (fun k => Value.string ⟨k.toArray⟩)) ∧ (v = .slice none 0 0 ↔ ks = []) ∧ Below w.heap.size w w') := by
  refine (callsIn_wide (n := 5)).1 ?_
  have hlen : ms.size = ks.length := by
    have := congrArg List.length hk
    simpa using this
  let R : Value → Option (DataW Unit × List MemPlace) := fun _ => some (.nil, [])
  have hread : ∀ x ∈ ms.toList, ∃ k ∈ ks, x.key = .string ⟨k.toArray⟩ ∧ WideElems.rd Try.prog 9 R x = some (.string k, .nil) := fun x hx => by
    have : x.key ∈ ms.toList.map (·.key) := List.mem_map.2 ⟨x, hx, rfl⟩
    rw [hk] at this
    obtain ⟨k, hk1, hk2⟩ := List.mem_map.1 this
    refine ⟨k, hk1, hk2.symm, ?_⟩
    have hl := h5 k hk1
    have e1 : keyOf Try.prog 9 x.key = some (.string k) := by
      rw [← hk2]
      rw [Go.WideMaps.keyOf_string_mk Try.underlying9 (by show k.toArray.size ≤ _; simp only [List.size_toArray]; unfold maxLen; omega)]
    simp only [WideElems.rd, e1, Option.bind_some, R, Option.map_some]
  have hfit : Fit Try.prog 9 R ms ck := ⟨by rw [hlen]; unfold maxLen; omega, ⟨h1, h2, by
    rw [hk]
    exact List.Nodup.map' (fun a b e => by simpa using e) h3⟩, fun x hx => by
    obtain ⟨k, -, -, e⟩ := hread x hx
    exact ⟨_, e⟩⟩
  have hown : w.ownsMap Try.prog 9 R bm ms.size (.map ((ms.toList.map (rg Try.prog 9 R)).foldr DataW.insert [])) := ⟨ms, ck, hm, hfit, Nat.le_refl _, rfl⟩
  have hkeys : (strKeys (DataW.map ((ms.toList.map (rg Try.prog 9 R)).foldr DataW.insert []))).Perm ks := by
    show (List.map (fun p => strOf p.1) ((ms.toList.map (rg Try.prog 9 R)).foldr DataW.insert [])).Perm ks
    refine ((sort_perm _).map _).trans ?_
    rw [List.map_map]
    have : ms.toList.map ((fun p => strOf p.1) ∘ rg Try.prog 9 R) = ks := by
      have e2 : ms.toList.map ((fun p => strOf p.1) ∘ rg Try.prog 9 R) = ms.toList.map (fun x => match x.key with | .string s => s.data.toList | _ => []) := List.map_congr_left (fun x hx => by
        obtain ⟨k, -, e3, e⟩ := hread x hx
        simp only [Function.comp_apply, rg, e, Option.getD_some, strOf, e3])
      rw [e2]
      have e4 : ms.toList.map (fun x => match x.key with | .string s => s.data.toList | _ => []) = (ms.toList.map (·.key)).map (fun v => match v with | Value.string s => s.data.toList | _ => []) := by rw [List.map_map]; rfl
      rw [e4, hk, List.map_map]
      conv => rhs; rw [← List.map_id ks]
      exact List.map_congr_left (fun k _ => rfl)
    rw [this]
  have hsz : Maps.size (DataW.map ((ms.toList.map (rg Try.prog 9 R)).foldr DataW.insert [])) = ks.length := by
    show ((ms.toList.map (rg Try.prog 9 R)).foldr DataW.insert []).length = _
    rw [(sort_perm _).length_eq]
    simp [hlen]
  have hseq : SeqGives Fence.wide 2 Try.prog 72 #[.pointer (some ⟨b, 0, none⟩)] encStr (fun ss => ss.Perm (strKeys (DataW.map ((ms.toList.map (rg Try.prog 9 R)).foldr DataW.insert [])))) ks.length w := by
    have := AnyZ.keys_gives (ρ := Try.keysA_ren) { Try.keysA with } Fence.wide 2 trivial rfl (by omega) b bm ms.size _ w hb hc hown
    rw [hsz] at this
    exact this
  have cS := AnyZ.sorted_in Try.sortedA Fence.wide 5 trivial trivial trivial trivial rfl (by omega) (Try.sortsA _) (enters_of Try.func71 (by kernel_rfl) rfl) 72 #[.pointer (some ⟨b, 0, none⟩)] trivial (enters_of Try.func72 (by kernel_rfl) rfl) _ ks.length (by unfold maxLen; omega) (by omega) w hseq
  change CallsIn _ _ Try.prog 53 _ _ _ at cS
  refine cS.mono ?_
  rintro e w' ⟨v, ss, rfl, hS, hrow, hnil, hbel⟩
  have hp : ss.Perm ks := hS.trans hkeys
  refine ⟨v, 9, rfl, ?_, ?_, hbel⟩
  · have e1 : ss.mergeSort (fun x y => decide (x ≤ y)) = ks.mergeSort (fun x y => decide (x ≤ y)) := mergeSort_of_perm hp
    rw [e1, hp.length_eq] at hrow
    exact hrow
  · rw [hnil]
    constructor
    · rintro rfl; exact List.nil_perm.1 hp
    · rintro rfl; exact List.perm_nil.1 hp
end Go.Proofs
namespace Go.Am.Dk
open Go.Am
theorem sorted_ok : SortedOk L 53 72 := fun w b bm ms ck ks h0 h1 h2 h3 h4 h5 h6 h7 h8 => Go.Proofs.Try.sorted_walk w b bm ms ck ks h0 h1 h2 h3 h4 h5 h6 h7 h8
theorem sorted_prim : CallSim L (sortedOn 53 72) := sorted_sim sorted_ok
end Go.Am.Dk

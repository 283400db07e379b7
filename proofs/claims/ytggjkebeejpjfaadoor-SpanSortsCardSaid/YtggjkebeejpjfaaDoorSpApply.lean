/- The walk of span.Apply, against the program: what it computes. -/
import Derived.Test.YtggjkebeejpjfaaDoorSpPiece
set_option linter.unusedVariables false
namespace Go.Proofs
open Go.Shelf Go.RowKit Go.Am.Sp
theorem Tryd.bcell {W w1 : World} (hb : Below W.heap.size W w1) : (∀ b o, b < W.heap.size → w1.cell? ⟨b, o, none⟩ = W.cell? ⟨b, o, none⟩) ∧ (∀ b o, b < W.heap.size → w1.frozen? ⟨b, o, none⟩ = W.frozen? ⟨b, o, none⟩) :=
  ⟨fun b o h => hb.cell (p := ⟨b, o, none⟩) h, fun b o h => hb.frozen (p := ⟨b, o, none⟩) h⟩
set_option maxHeartbeats 1000000 in
theorem Tryd.apply_ok (b : List UInt8) (l : List Am.Edit) (vb vl : Value) (w : World) (hb : BSl w vb b) (hl : ESl w vl l) (hl512 : l.length ≤ 512) (hok : okD b.length 0 l) (hlim : (appD b 0 l).length ≤ 140737488355328)
    (hchk : Calls Tryd.prog 13 #[.int .i64 b.length, vl] w fun e w' => e = .returned (.int .i64 0) ∧ Below w.heap.size w w') :
    Calls Tryd.prog 11 #[vb, vl] w fun e w' => ∃ v n, e = .returned (.tuple #[v, .int .i64 0]) ∧ w'.ownsRow w.heap.size 5 1 v n (Lib.byteCells (appD b 0 l)) ∧ Below w.heap.size w w' := by
  obtain ⟨bo, bcap, rfl, hbc, hbn, hbx⟩ := hb
  obtain ⟨lo, lcap, rfl, hlc, hlx⟩ := hl
  have HOK := Lib.hid hok
  have HLIM := Lib.hid hlim
  have HBX := Lib.hid hbx
  have HLX := Lib.hid hlx
  have HBN := Lib.hid hbn
  have HCHK := Lib.hid hchk
  clear hok hlim hbx hlx hbn hchk
  go_enter Tryd.func11, Tryd.ntmps11
  go_wp2_with (go_at_call 13; refine HCHK.out.mono ?_; rintro e W1 ⟨rfl, hB1⟩)
  have hs1 := hB1.size
  have hI0 := Lib.fresh_isBuffer 45 5 W1
  go_loopw [8, 20] (fun at' i wr => ∃ k m : Nat, ∃ acc : List UInt8, k ≤ l.length ∧ i = .int .i64 k ∧ at' = .int .i64 m ∧ okD b.length m (l.drop k) ∧ acc ++ appD b m (l.drop k) = appD b 0 l ∧ Lib.IsBuffer 45 5 w.heap.size W1.heap.size (Lib.byteCells acc) wr ∧ Below w.heap.size w wr) (fun _ i _ => l.length - (intOf i).toNat)
  case atStart => 
    refine ⟨0, 0, [], Nat.zero_le _, rfl, rfl, HOK.out, rfl, ?_, ?_⟩
    · exact ⟨by omega, .slice none 0 0, 0, Go.heap_alloc_new W1 _, World.ownsRow_nil _ _ _ _, by simp [Value.ownBlock]⟩
    · exact hB1.alloc (by omega) _
  case round =>
    obtain ⟨k, m, acc, hk, rfl, rfl, hr, hacc, hI, hBl⟩ := hrel
    have hsz := hBl.size
    by_cases hlt : k < l.length
    · rw [List.drop_eq_getElem_cons hlt] at hr hacc
      obtain ⟨r1, r2, r3, hr⟩ := hr
      obtain ⟨f, hf⟩ := Int.eq_ofNat_of_zero_le (show 0 ≤ l[k].f by omega)
      obtain ⟨t, ht⟩ := Int.eq_ofNat_of_zero_le (show 0 ≤ l[k].t by omega)
      have hne : l.length ≠ 0 := by omega
      obtain ⟨LB, la, rfl, hLB, hcells⟩ := HLX.out hne
      obtain ⟨c0, c1, c2⟩ := hcells k l[k] (List.getElem?_eq_getElem hlt)
      rw [← (Tryd.bcell hBl).1 _ _ hLB] at c0 c1 c2
      rw [hf] at c0 r1 r2
      rw [ht] at c1 r2 r3 hr
      clear hcells
      simp only [appD] at hacc
      rw [hf, ht] at hacc
      simp only [Int.toNat_natCast] at hr hacc
      have hfm : m ≤ f := by omega
      have hfn : f ≤ b.length := by omega
      have hlen : acc.length + ((f - m) + (l[k].x.length + (appD b t (List.drop (k + 1) l)).length)) ≤ 140737488355328 := by
        have h1 := HLIM.out
        rw [← hacc] at h1
        simp only [List.length_append, List.length_drop, List.length_take, Nat.min_eq_left hfn] at h1
        omega
      obtain ⟨q, hq⟩ : ∃ q, q = (if bcap = m then bo else bo.map (·.add m)) := ⟨_, rfl⟩
      have hsl := fun w => Tryd.slice_run bo b.length bcap m f hfm hfn hbc w
      rw [← hq] at hsl
      have hwp : ∀ W, Lib.IsBuffer 45 5 w.heap.size W1.heap.size (Lib.byteCells acc) W → w.heap.size ≤ W.heap.size → Below w.heap.size w W → Calls Tryd.prog 20 #[.pointer (some ⟨W1.heap.size, 0, none⟩), .slice q (f - m) (bcap - m)] W _ := fun W g1 g2 g3 => by
        rw [hq]
        exact Tryd.write_piece w w.heap.size W1.heap.size (Lib.byteCells acc) bo b bcap m f W g1 g2 (Lib.byteCells_one _) g3 hs1 hfm hfn hbc (by rw [Lib.byteCells_length]; omega) HBX.out
      have HR := Lib.hid hr
      have HA := Lib.hid hacc
      have HQ := Lib.hid hq
      have HL := Lib.hid hlen
      have HWP := Lib.hid hwp
      clear hr hacc hf ht hq hlen hwp
      go_wp2_with (go_at_call 20; refine (HWP.out _ (hI.alloc _) (by simp; omega) (hBl.alloc hsz _)).mono ?_; rintro e W2 ⟨rfl, hI2, hB2, hK2⟩; refine Hid.out ?_)
      refine Lib.hid ?_
      have hbox := hK2 wr.heap.size _ (Go.heap_alloc_new wr _) (by have := hI.lt; simp; omega) (by intro c fz h; cases h)
      have d2 : W2.cell? ⟨wr.heap.size, 2, none⟩ = some (.string ⟨l[k].x.toArray⟩) := by rw [Lib.cell_of_heap hbox]; rfl
      have hB2' : Below w.heap.size w W2 := (hBl.alloc hsz _).trans hB2
      have hsz2 := hB2'.size
      have h1c : ∀ v ∈ Lib.byteCells acc ++ Lib.byteCells ((b.take f).drop m), v.oneCell' = true := by
        rw [← Lib.byteCells_append]; exact Lib.byteCells_one _
      have hl2 : (Lib.byteCells acc ++ Lib.byteCells ((b.take f).drop m)).length + (⟨l[k].x.toArray⟩ : ByteArray).size ≤ 140737488355328 := by
        have h1 := HL.out
        rw [← Lib.byteCells_append, Lib.byteCells_length, List.length_append, List.length_drop, List.length_take, Nat.min_eq_left hfn]
        show _ + l[k].x.toArray.size ≤ _
        rw [List.size_toArray]; omega
      have H1C := Lib.hid h1c
      have HL2 := Lib.hid hl2
      clear h1c hl2
      go_wp2_with (go_at_call 21; refine (Tryd.Buffer_WriteString_k w.heap.size W1.heap.size _ ⟨l[k].x.toArray⟩ W2 hI2 hsz2 H1C.out HL2.out).mono ?_; rintro e W3 ⟨rfl, hI3, hB3, hK3⟩; refine Hid.out ?_)
      refine Lib.hid ?_
      have hbox3 := hK3 wr.heap.size _ hbox (by have := hI.lt; simp; omega) (by intro c fz h; cases h)
      have d1 : W3.cell? ⟨wr.heap.size, 1, none⟩ = some (.int .i64 (t : Int)) := by rw [Lib.cell_of_heap hbox3]; rfl
      have hB3' : Below w.heap.size w W3 := hB2'.trans hB3
      clear hbox hbox3 d2
      go_wp2
      go_roundw
      case rel =>
        refine ⟨k + 1, t, acc ++ (b.take f).drop m ++ l[k].x, by omega, by go_num, rfl, HR.out, ?_, ?_, hB3'⟩
        · rw [← HA.out]; simp [List.append_assoc]
        · have := hI3
          simpa [Lib.byteCells_append, List.append_assoc] using this
      case measure => simp [intOf]; omega
    · have hkl : k = l.length := by omega
      subst hkl
      rw [List.drop_of_length_le (Nat.le_refl _)] at hr hacc
      simp only [okD, appD] at hr hacc
      obtain ⟨q, hq⟩ : ∃ q, q = (if bcap = m then bo else bo.map (·.add m)) := ⟨_, rfl⟩
      have hsl := fun w => Tryd.slice_run_end bo b.length bcap m hr hbc w
      rw [← hq] at hsl
      have hlen : acc.length + (b.length - m) ≤ 140737488355328 := by
        have h1 := HLIM.out
        rw [← hacc] at h1
        simpa only [List.length_append, List.length_drop] using h1
      have htk : (b.take b.length).drop m = b.drop m := by rw [List.take_length]
      have hwp : ∀ W, Lib.IsBuffer 45 5 w.heap.size W1.heap.size (Lib.byteCells acc) W → w.heap.size ≤ W.heap.size → Below w.heap.size w W → Calls Tryd.prog 20 #[.pointer (some ⟨W1.heap.size, 0, none⟩), .slice q (b.length - m) (bcap - m)] W _ := fun W g1 g2 g3 => by
        rw [hq]
        exact Tryd.write_piece w w.heap.size W1.heap.size (Lib.byteCells acc) bo b bcap m b.length W g1 g2 (Lib.byteCells_one _) g3 hs1 hr (Nat.le_refl _) hbc (by rw [Lib.byteCells_length]; exact hlen) HBX.out
      have HA := Lib.hid hacc
      have HQ := Lib.hid hq
      have HT := Lib.hid htk
      have HWP := Lib.hid hwp
      clear hacc hq htk hwp hlen
      go_wp2_with (go_at_call 20; refine (HWP.out _ hI hsz hBl).mono ?_; rintro e W2 ⟨rfl, hI2, hB2, hK2⟩; refine Hid.out ?_)
      refine Lib.hid ?_
      have hI3 : Lib.IsBuffer 45 5 w.heap.size W1.heap.size (Lib.byteCells (appD b 0 l)) W2 := by
        rw [← HA.out, Lib.byteCells_append]
        have := hI2
        rwa [HT.out] at this
      clear hI2
      go_wp2_with (go_at_call 22; refine (Tryd.Buffer_Bytes w.heap.size W1.heap.size _ W2 hI3).mono ?_; rintro e W3 ⟨v, rfl, hv, n, rfl⟩; refine Hid.out ?_)
      refine Lib.hid ?_
      go_wp2
      go_ret2
      exact ⟨_, _, rfl, hv, (hBl.trans hB2).trans ⟨rfl, rfl, rfl, Nat.le_refl _, fun _ _ => rfl⟩⟩
set_option maxHeartbeats 1000000 in
theorem Tryd.apply_bad (b : List UInt8) (l : List Am.Edit) (vb vl : Value) (c : Int) (w : World) (hb : BSl w vb b) (h0 : c ≠ 0) (hc : 0 ≤ c ∧ c ≤ 3)
    (hchk : Calls Tryd.prog 13 #[.int .i64 b.length, vl] w fun e w' => e = .returned (.int .i64 c) ∧ Below w.heap.size w w') :
    Calls Tryd.prog 11 #[vb, vl] w fun e w' => e = .returned (.tuple #[.slice none 0 0, .int .i64 c]) ∧ Below w.heap.size w w' := by
  obtain ⟨bo, bcap, rfl, hbc, hbn, hbx⟩ := hb
  have HBX := Lib.hid hbx
  have HBN := Lib.hid hbn
  have HCHK := Lib.hid hchk
  clear hbx hbn hchk
  have hcc : (c == 0) = false := by simpa using h0
  go_enter Tryd.func11, Tryd.ntmps11
  go_wp2_with (go_at_call 13; refine HCHK.out.mono ?_; rintro e W1 ⟨rfl, hB1⟩)
  all_goals first | (go_ret2; exact ⟨rfl, hB1⟩) | (exfalso; omega)
end Go.Proofs

/- append. -/
import Derived.Test.YtpcopgdkcoiljaaAmAll1
import Derived.Laws.Append
import Derived.Laws.IdiomStrings
import Derived.LaidEqlPtr
import GoSem.Builtin.Delete
import Derived.Laws.BytesString
import Derived.Maps.RangeRun
import GoSem.Builtin.Clear
set_option linter.unusedSimpArgs false
set_option linter.unusedVariables false
namespace Go.Am
variable {L : Link} {g g' : Gh} {w w' : World} {Λ Λ' : Nat → Option Nat}
theorem byteCells_spec : ∀ (l : List UInt8), (byteCells (l.map UInt8.toNat)).length = l.length ∧ ∀ i : Nat, (byteCells (l.map UInt8.toNat))[i]? = (l[i]?).map fun b : UInt8 => AV.int .u8 (.ofNat b.toNat)
 | [] => ⟨rfl, fun i => by simp [byteCells]⟩
 | b :: l => by
  obtain ⟨e1, e2⟩ := byteCells_spec l
  refine ⟨by simp [byteCells, e1], fun i => ?_⟩
  cases i with
  | zero => simp [byteCells]
  | succ i => simpa [byteCells] using e2 i
theorem cellsAt_run {h : Heap} {esz n : Nat} {a : AV} {v : Value} {cs : List AV} (hh : HeapR L g w h) (hc : cellsAt h esz a n = some cs) (hv : VR L g w a v) :
  cs.length = n * esz ∧ ∃ C : Array Value, C.size = cs.length ∧ (∀ (i : Nat) (v : Value), C[i]? = some v → v.oneCell' = true) ∧ (∀ (i : Nat) (c : AV) (v : Value), cs[i]? = some c → C[i]? = some v → VR L g w c v) ∧
   ∀ w2, w2.heap = w.heap → (Builtin.firstCells esz n v).run L.P w2 = .ok C w2 := by
 unfold cellsAt at hc
 split at hc
 ·rw [nbeq] at hc
  by_cases e : n = 0
  ·subst e
   simp at hc
   subst hc
   cases hv
   exact ⟨by simp, #[], rfl, by simp, by simp, fun w2 _ => rfl⟩
  ·simp [e] at hc
 ·rename_i s
  rw [nble, nbeq] at hc
  by_cases e' : n ≤ s.length ∧ esz = 1
  ·obtain ⟨e, rfl⟩ := e'
   rw [decide_eq_true e] at hc
   simp at hc
   subst hc
   cases hv with
   | str b =>
    simp only [List.length_map, Array.length_toList] at e
    have ht : ((b.data.toList.map UInt8.toNat).take n) = (b.data.toList.take n).map UInt8.toNat := by rw [List.map_take]
    rw [ht]
    obtain ⟨e1, e2⟩ := byteCells_spec (b.data.toList.take n)
    refine ⟨by rw [e1, List.length_take, Array.length_toList]; omega, ((b.extract 0 n).data.map fun b => .int .u8 b.toNat), ?_, fun i v hi => ?_, fun i c v hc hi => ?_, fun w2 _ => rfl⟩
    ·rw [e1]
     have := Lib.extract_data b 0 n
     rw [Array.size_map, ← Array.length_toList, this]
     simp
    ·simp only [Array.getElem?_map, Option.map_eq_some_iff] at hi
     obtain ⟨x, -, rfl⟩ := hi
     rfl
    ·rw [e2 i] at hc
     simp only [Option.map_eq_some_iff] at hc
     obtain ⟨x, hx, rfl⟩ := hc
     simp only [Array.getElem?_map, Option.map_eq_some_iff] at hi
     obtain ⟨y, hy, rfl⟩ := hi
     rw [← Array.getElem?_toList, Lib.extract_data b 0 n] at hy
     simp only [Nat.sub_zero, List.drop_zero] at hy
     rw [hx] at hy
     obtain rfl := Option.some.inj hy
     exact .int _ _
  ·exfalso
   apply e'
   by_cases q1 : n ≤ s.length <;> by_cases q2 : esz = 1 <;> simp [q1, q2] at hc ⊢
 ·rename_i e len f full
  rw [nble, nbeq] at hc
  by_cases q : n ≤ len ∧ e = esz
  ·obtain ⟨q1, rfl⟩ := q
   simp [q1] at hc
   subst hc
   cases hv with
   | sl0 _ _ _ ao cap hf hn =>
    obtain rfl : n = 0 := by omega
    exact ⟨by simp [gather], #[], by simp [gather], fun i v hi => by simp at hi, fun i x v hx hi => by simp at hi, fun w2 hw => by cases ao <;> simp only [Builtin.firstCells, Nat.zero_mul] <;> rfl⟩
   | sl _ _ _ _ b o cap c hi hn hf hl hcell h' =>
    have hgl := gather_length f e n 0 (fun j _ hj => hl j (by omega))
    refine ⟨hgl, ?_⟩
    have hget := gather_get f e n 0 (fun j _ hj => hl j (by omega))
    have hex : ∀ k : Nat, ∃ u : Value, ∀ x, (gather f 0 n)[k]? = some x → w.cell? ⟨b, o + k, none⟩ = some u ∧ u.oneCell' = true ∧ VR L g w x u := fun k => by
     cases hx : (gather f 0 n)[k]? with
     | none => exact ⟨undef, fun x hx => by simp at hx⟩
     | some x =>
      obtain ⟨j, m, h1, rfl, h3, h4⟩ := hget k x hx
      rw [Nat.zero_add] at h4
      have h5 := hcell j m x (by omega) h4
      refine ⟨c j m, fun y hy => ?_⟩
      obtain rfl := Option.some.inj hy
      exact ⟨by rw [← Nat.add_assoc]; exact h5.1, h5.2, h' j m _ (by omega) h4⟩
    let F : Nat → Value := fun k => (hex k).choose
    have hF : ∀ k x, (gather f 0 n)[k]? = some x → w.cell? ⟨b, o + k, none⟩ = some (F k) ∧ (F k).oneCell' = true ∧ VR L g w x (F k) := fun k x hx => (hex k).choose_spec x hx
    have hlt : ∀ k, k < n * e → ∃ x, (gather f 0 n)[k]? = some x := fun k hk => ⟨_, List.getElem?_eq_getElem (by omega)⟩
    refine ⟨((List.range (n * e)).map F).toArray, by simp [hgl], fun i v hi => ?_, fun i x v hx hi => ?_, fun w2 hw => ?_⟩
    ·simp only [List.getElem?_toArray, List.getElem?_map, Option.map_eq_some_iff] at hi
     obtain ⟨k, hk, rfl⟩ := hi
     obtain ⟨hk1, hk2⟩ := List.getElem?_eq_some_iff.1 hk
     simp at hk1 hk2
     subst hk2
     obtain ⟨x, hx⟩ := hlt i hk1
     exact (hF i x hx).2.1
    ·simp only [List.getElem?_toArray, List.getElem?_map, Option.map_eq_some_iff] at hi
     obtain ⟨k, hk, rfl⟩ := hi
     obtain ⟨hk1, hk2⟩ := List.getElem?_eq_some_iff.1 hk
     simp at hk1 hk2
     subst hk2
     exact (hF i x hx).2.2
    ·simp only [Builtin.firstCells]
     have := run_loadCells (P := L.P) w2 ⟨b, o, none⟩ (n * e) F (fun j hj => by
      obtain ⟨x, hx⟩ := hlt j hj
      rw [addr_add, cell_heap (w := w) (by rw [hw])]; exact (hF j x hx).1)
     exact this
  ·exfalso
   apply q
   by_cases q1 : n ≤ len <;> by_cases q2 : e = esz <;> simp [q1, q2] at hc ⊢
 ·rename_i e o ep off len full
  rw [nble, nbeq] at hc
  by_cases q : n ≤ len ∧ e = esz
  ·obtain ⟨q1, rfl⟩ := q
   simp only [q1, decide_true, Bool.and_self, cond_true] at hc
   split at hc
   ·rename_i esz' ep' c hc'
    rw [nbeq] at hc
    by_cases q2 : ep' = ep
    ·subst q2
     simp only [decide_true, cond_true] at hc
     obtain ⟨e1, e2, e3⟩ := sub_spec hc
     obtain ⟨b, a0, cap', hb, -, -, -, hcell, -, -⟩ := hh.obj _ _ hc'
     cases hv with
     | hs _ _ _ _ _ _ b' a' c' x cap hβ hlc hcap hx =>
      rw [hb] at hβ
      simp only [Option.some.injEq, Prod.mk.injEq, Addr.mk.injEq] at hβ
      obtain ⟨⟨rfl, rfl, -⟩, rfl, rfl⟩ := hβ
      refine ⟨e1, ?_⟩
      have hex : ∀ k : Nat, ∃ u : Value, ∀ x, cs[k]? = some x → w.cell? ⟨b, a0 + off * esz' + k, none⟩ = some u ∧ u.oneCell' = true ∧ VR L g w x u := fun k => by
       cases hx : cs[k]? with
       | none => exact ⟨undef, fun x hx => by simp at hx⟩
       | some x =>
        have hk : k < n * esz' := by have := (List.getElem?_eq_some_iff.1 hx).1; omega
        obtain ⟨u, h1, h2, h3, -⟩ := hcell (off * esz' + k) x (by rw [← e3 k hk]; exact hx)
        refine ⟨u, fun y hy => ?_⟩
        obtain rfl := Option.some.inj hy
        exact ⟨by rw [Nat.add_assoc]; exact h1, h2, h3⟩
      let F : Nat → Value := fun k => (hex k).choose
      have hF : ∀ k x, cs[k]? = some x → w.cell? ⟨b, a0 + off * esz' + k, none⟩ = some (F k) ∧ (F k).oneCell' = true ∧ VR L g w x (F k) := fun k x hx => (hex k).choose_spec x hx
      have hlt : ∀ k, k < n * esz' → ∃ x, cs[k]? = some x := fun k hk => ⟨_, List.getElem?_eq_getElem (by omega)⟩
      refine ⟨((List.range (n * esz')).map F).toArray, by simp [e1], fun i v hi => ?_, fun i x v hx hi => ?_, fun w2 hw => ?_⟩
      ·simp only [List.getElem?_toArray, List.getElem?_map, Option.map_eq_some_iff] at hi
       obtain ⟨k, hk, rfl⟩ := hi
       obtain ⟨hk1, hk2⟩ := List.getElem?_eq_some_iff.1 hk
       simp at hk1 hk2
       subst hk2
       obtain ⟨x, hx⟩ := hlt i hk1
       exact (hF i x hx).2.1
      ·simp only [List.getElem?_toArray, List.getElem?_map, Option.map_eq_some_iff] at hi
       obtain ⟨k, hk, rfl⟩ := hi
       obtain ⟨hk1, hk2⟩ := List.getElem?_eq_some_iff.1 hk
       simp at hk1 hk2
       subst hk2
       exact (hF i x hx).2.2
      ·simp only [Builtin.firstCells]
       by_cases c0 : n * esz' = 0
       ·rw [c0]; rfl
       ·have hcap0 : cap ≠ 0 := by
         intro h0
         have : n = 0 := by cases full <;> simp at hcap <;> omega
         rw [this, Nat.zero_mul] at c0
         exact c0 rfl
        obtain rfl := hx.2.2 hcap0
        exact run_loadCells (P := L.P) w2 ⟨b, a0 + off * esz', none⟩ (n * esz') F (fun j hj => by
         obtain ⟨x, hx⟩ := hlt j hj
         rw [addr_add, cell_heap (w := w) (by rw [hw])]; exact (hF j x hx).1)
    ·simp [q2] at hc
   ·simp at hc
  ·exfalso
   apply q
   by_cases q1 : n ≤ len <;> by_cases q2 : e = esz <;> simp [q1, q2] at hc ⊢
 ·simp at hc
theorem lenOf_run {h : Heap} {esz n : Nat} {a : AV} {v : Value} {cs : List AV} (hl : lenA h a = some n) (hc : cellsAt h esz a n = some cs) (hv : VR L g w a v) : (Builtin.lenOf v).run L.P w = .ok n w := by
 unfold lenA at hl
 split at hl <;> first | (simp at hl; done) | skip
 all_goals first | (obtain rfl := Option.some.inj hl) | skip
 ·cases hv; simp [Builtin.lenOf]
 ·cases hv; rfl
 ·cases hv <;> rfl
 ·cases hv; rfl
 ·simp [cellsAt] at hc
 ·simp [cellsAt] at hc
structure AppT (P : Program) (ats : Array TypeId) (esz bytes : Nat) where
 t : TypeId
 t1 : TypeId
 e : TypeId
 d1 : TypeDesc
 i : TypeInfo
 z : Value
 a0 : ats[0]? = some t
 a1 : ats[1]? = some t1
 u : P.underlying t = some (.slice e)
 u1 : P.underlying t1 = some d1
 n1 : (∃ e', d1 = .slice e') ∨ d1 = .string
 inf : P.info? e = some i
 sz : i.size = esz
 byt : i.bytes = bytes
 pos : 0 < bytes
 epos : 0 < esz
 zero : i.zero = some z
 zok : ∃ zs : List AV, zs.length = esz ∧ zeroOk zs z.cells.toList = true
theorem zeroCells_size (z : Array Value) (n : Nat) : (Builtin.zeroCells z n).size = n * z.size := by simp [Builtin.zeroCells]
theorem zeroCells_one {zs : List AV} {z : Array Value} (h : zeroOk zs z.toList = true) (n i : Nat) (v : Value) (hv : (Builtin.zeroCells z n)[i]? = some v) : v.oneCell' = true := by
 obtain ⟨e1, e2, -⟩ := zero_rel (L := ⟨default, id, id⟩) h
 simp only [Builtin.zeroCells, Array.getElem?_map, Option.map_eq_some_iff] at hv
 obtain ⟨j, hj, hv⟩ := hv
 have hi : i < n * z.size := by
  have := (Array.getElem?_eq_some_iff.1 hj).1
  simpa using this
 have hp : 0 < z.size := by
  rcases Nat.eq_zero_or_pos z.size with h | h
  ·rw [h] at hi; omega
  ·exact h
 have hm : j % z.size < z.size := Nat.mod_lt _ hp
 rw [getElem!_pos z _ hm] at hv
 exact e2 _ v (by rw [Array.getElem?_eq_getElem hm, hv])
theorem append_fit {ats : Array TypeId} {esz bytes ty : Nat} (T : AppT L.P ats esz bytes) {b a len cap n : Nat} {y : Value} {C : Array Value}
  (hn : (Builtin.lenOf y).run L.P w = .ok n w) (hC : (Builtin.firstCells esz n y).run L.P w = .ok C w) (h1 : ∀ v ∈ C.toList, v.oneCell' = true) (hle : len + n ≤ cap)
  (hc : ∀ j, j < C.toList.length → (w.cell? ⟨b, a + len * esz + j, none⟩).isSome = true ∧ w.frozen? ⟨b, a + len * esz + j, none⟩ = false) :
  (Builtin.append_ ats ty #[.slice (some ⟨b, a, none⟩) len cap, y]).run L.P w = .ok (.slice (some ⟨b, a, none⟩) (len + n) cap) (w.setCells b (a + len * esz) C.toList) := by
 have hst := run_storeCells_cells (P := L.P) b (a + len * esz) C.toList 0 w (fun j hj => by simpa using (hc j hj).1) (fun j hj => by simpa using (hc j hj).2) h1
 simp only [Nat.add_zero] at hst
 obtain ⟨t, t1, e, d1, i, z, a0, a1, u, u1, n1, inf, sz, byt, pos, epos, zero, zok⟩ := T
 unfold Builtin.append_
 rw [a0, a1]
 rcases n1 with ⟨e', rfl⟩ | rfl
 all_goals
  simp only [List.getElem?_toArray, List.getElem?_cons_zero, List.getElem?_cons_succ, Sem.run_bind, run_underlying u w, Result.andThen_ok, run_sizeOf ⟨i, inf, sz⟩ w, run_underlying u1 w, Sem.run_pure]
  simp only [Bool.false_eq_true, if_false, Sem.run_bind, hn, Result.andThen_ok]
  rw [if_pos hle]
  simp only [Bool.not_false, if_true, Sem.run_bind, hC, Result.andThen_ok, addr_add, hst, Sem.run_pure]
theorem append_grow {ats : Array TypeId} {esz bytes ty : Nat} (T : AppT L.P ats esz bytes) {x : Option Addr} {len cap n : Nat} {y : Value} {C O : Array Value}
  (hn : (Builtin.lenOf y).run L.P w = .ok n w) (hC : ∀ w2, w2.heap = w.heap → (Builtin.firstCells esz n y).run L.P w2 = .ok C w2) (hO : ∀ w2, w2.heap = w.heap → (Builtin.firstCells esz len (.slice x len cap)).run L.P w2 = .ok O w2)
  (hgt : cap < len + n) (h47 : (len + n) * bytes ≤ two47) :
  ∃ (newCap : Nat) (w2 : World), len + n ≤ newCap ∧ (w2.heap = w.heap ∧ w2.os = w.os ∧ w2.output = w.output ∧ w2.tape = w.tape) ∧ (Builtin.append_ ats ty #[.slice x len cap, y]).run L.P w = .ok (.slice (some ⟨w.heap.size, 0, none⟩) (len + n) newCap) (w2.alloc (.cells (O ++ C ++ Builtin.zeroCells T.z.cells (newCap - (len + n))) T.e)) := by
 obtain ⟨t, t1, e, d1, i, z, a0, a1, u, u1, n1, inf, sz, byt, pos, epos, zero, zok⟩ := T
 unfold two47 at h47
 have hlt : len + n ≤ 140737488355328 := Nat.le_trans (Nat.le_mul_of_pos_right _ pos) h47
 have hg := growslice_fits (bytes := bytes) hgt h47
 have hti : ∀ w2 : World, (typeInfo e).run L.P w2 = .ok i w2 := fun w2 => by simp [typeInfo, inf]
 have hzv : ∀ w2 : World, (zeroValue e).run L.P w2 = .ok z w2 := fun w2 => by simp [zeroValue, typeInfo, inf, zero]
 let q : Question := .appendCap (len + n) cap e
 let newCap := q.cut (w.tape w.drawn q)
 let w2 : World := { w with drawn := w.drawn + 1 }
 have hcap : len + n ≤ newCap := Nat.le_add_right _ _
 refine ⟨newCap, w2, hcap, ⟨rfl, rfl, rfl, rfl⟩, ?_⟩
 have h63 : IntKind.max .i64 = 9223372036854775807 := by decide
 have hsmall : ¬ (Builtin.nextslicecap (len + n) cap * i.bytes > 2 ^ 48) := by rw [byt]; omega
 have hno : ¬ (((len + n : Nat) : Int) > IntKind.i64.max ∧ (False ∨ i.bytes = 0)) := by rw [h63]; omega
 unfold Builtin.append_
 rw [a0, a1]
 rcases n1 with ⟨e', rfl⟩ | rfl
 all_goals
  simp only [List.getElem?_toArray, List.getElem?_cons_zero, List.getElem?_cons_succ, Sem.run_bind, run_underlying u w, Result.andThen_ok, run_sizeOf ⟨i, inf, sz⟩ w, run_underlying u1 w, Sem.run_pure]
  simp only [Bool.false_eq_true, if_false, Sem.run_bind, hn, Result.andThen_ok]
  rw [if_neg (by omega)]
  simp only [Sem.run_bind, hti, Result.andThen_ok]
  rw [if_neg hno]
  simp only [Sem.run_bind, Sem.run_pure, hti, Result.andThen_ok]
  rw [if_neg hsmall]
  simp only [Sem.run_bind, Sem.run_pure, run_choose, Question.forced, Bool.false_eq_true, if_false, Result.andThen_ok, hti, run_askRoom]
  rw [hO { w with drawn := w.drawn + 1 } rfl]
  simp only [Bool.not_false, if_true, Sem.run_bind, Result.andThen_ok]
  rw [hC { w with drawn := w.drawn + 1 } rfl]
  simp only [Result.andThen_ok, hzv, run_newRow, Sem.run_pure]
  rfl
theorem append_zero {ats : Array TypeId} {esz bytes ty : Nat} (T : AppT L.P ats esz bytes) {y : Value} {x : Option Addr} {len cap : Nat} (hle : len ≤ cap)
  (hn : (Builtin.lenOf y).run L.P w = .ok 0 w) (hC : (Builtin.firstCells esz 0 y).run L.P w = .ok #[] w) :
  (Builtin.append_ ats ty #[.slice x len cap, y]).run L.P w = .ok (.slice x len cap) w := by
 obtain ⟨t, t1, e, d1, i, z, a0, a1, u, u1, n1, inf, sz, byt, pos, epos, zero, zok⟩ := T
 unfold Builtin.append_
 rw [a0, a1]
 rcases n1 with ⟨e', rfl⟩ | rfl
 all_goals
  simp only [List.getElem?_toArray, List.getElem?_cons_zero, List.getElem?_cons_succ, Sem.run_bind, run_underlying u w, Result.andThen_ok, run_sizeOf ⟨i, inf, sz⟩ w, run_underlying u1 w, Sem.run_pure]
  simp only [Bool.false_eq_true, if_false, Sem.run_bind, hn, Result.andThen_ok]
  rw [if_pos (by omega)]
  simp only [Bool.not_false, if_true, Sem.run_bind, hC, Result.andThen_ok, Sem.run_pure]
  cases x <;> simp [storeCells]
theorem ran_append {o : Oper} {act : Act} {x y : Operand} {ats : Array TypeId} {v : Value} (ho : o.op = .call { callee := .builtin .append, args := #[x, y], argTypes := ats })
  (h : (Builtin.append_ ats o.type #[act.eval x, act.eval y]).run L.P w = .ok v w') : Ran L o act w v w' := by
 left
 simp only [execOp, ho, resolve, Sem.run_bind, Sem.run_pure, Result.andThen_ok, invoke, builtin, List.map_toArray, List.map_cons, List.map_nil]
 rw [h]; rfl
theorem row_new {o' esz newCap m : Nat} {h : Heap} {C O Z : Array Value} {cs os : List AV} {T : TypeId} {w2 : World} (hh : HeapR L g w h) (hw : w2.heap = w.heap) (ho' : ∀ e, g.β o' e = none) (hO : O.size = os.length) (hC : C.size = cs.length) (hZ : Z.size = (newCap - m) * esz)
  (hm : os.length + cs.length = m * esz) (hle : m ≤ newCap)
  (o1 : ∀ (i : Nat) (v : Value), O[i]? = some v → v.oneCell' = true) (c1 : ∀ (i : Nat) (v : Value), C[i]? = some v → v.oneCell' = true) (z1 : ∀ (i : Nat) (v : Value), Z[i]? = some v → v.oneCell' = true)
  (ov : ∀ (i : Nat) (c : AV) (v : Value), os[i]? = some c → O[i]? = some v → VR L g w c v) (cv : ∀ (i : Nat) (c : AV) (v : Value), cs[i]? = some c → C[i]? = some v → VR L g w c v) :
  (O ++ C ++ Z).size = newCap * esz ∧ (∀ (i : Nat) (v : Value), (O ++ C ++ Z)[i]? = some v → v.oneCell' = true) ∧ ∀ (i : Nat) (c : AV) (v : Value), (os ++ cs)[i]? = some c → (O ++ C ++ Z)[i]? = some v → VR L g w c v := by
 refine ⟨?_, fun i v hi => ?_, fun i c v hc hi => ?_⟩
 ·simp only [Array.size_append, hO, hC, hZ]
  rw [hm, ← Nat.add_mul]; congr 1; omega
 ·rw [Array.getElem?_append] at hi
  split at hi
  ·rw [Array.getElem?_append] at hi
   split at hi
   ·exact o1 _ v hi
   ·exact c1 _ v hi
  ·exact z1 _ v hi
 ·rw [List.getElem?_append] at hc
  have hlen : i < os.length + cs.length := by
   split at hc
   ·omega
   ·have := (List.getElem?_eq_some_iff.1 hc).1; omega
  rw [Array.getElem?_append, if_pos (by simp only [Array.size_append, hO, hC]; omega), Array.getElem?_append] at hi
  rw [hO] at hi
  split at hc
  ·rename_i q
   rw [if_pos q] at hi
   exact ov i c v hc hi
  ·rename_i q
   rw [if_neg q] at hi
   exact cv _ c v hc hi
end Go.Am
/- append, second part: the state behind it. -/
namespace Go.Am
variable {L : Link} {g g' : Gh} {w w' : World} {Λ Λ' : Nat → Option Nat}
def Gh.moved (g : Gh) (w : World) (o ep esz cap : Nat) : Gh :=
 { β := fun i e => if i = o ∧ e = ep then some (⟨w.heap.size, 0, none⟩, esz, cap) else g.β i e, ρ := fun b => if b = w.heap.size then .obj o else if g.ρ b = .obj o then .free else g.ρ b }
def Gh.stayed (g : Gh) (o ep b a esz cap : Nat) : Gh := { g with β := fun i e => if i = o ∧ e = ep then some (⟨b, a, none⟩, esz, cap) else g.β i e }
theorem post_moved {s : St} {act : Act} {dst : Option Nat} {r : AV} {v : Value} {C : Array Value} {T : TypeId} {o ep esz ep0 cap : Nat} {c0 cs : List AV} (h : SimS L g w Λ s act.tmps) (m : More w w' (.cells C T)) (ho : s.h.get o = some (.row esz ep0 c0))
  (hep : ep = ep0 + 1) (hl : cs.length ≤ cap * esz) (hC : cap * esz ≤ C.size)
  (h1 : ∀ (i : Nat) (v : Value), C[i]? = some v → v.oneCell' = true) (hv : ∀ (i : Nat) (c : AV) (v : Value), cs[i]? = some c → C[i]? = some v → VR L g w c v)
  (hi : ∀ d, dst = some d → d < act.tmps.size) (hs : SlotR L (g.moved w o ep esz cap) w' Λ r v) (hvb : ∀ t cs, r ≠ .lbox t cs) :
  Post L g w Λ act dst r s { s with h := s.h.put o (.row esz ep cs) } (fun _ => False) v w' (g.moved w o ep esz cap) Λ := by
 obtain ⟨b0, a0, cap0, p1, p2, p3, p4, p5, p6, p7⟩ := h.heap.obj _ _ ho
 have hz : w.heap.size ≤ w'.heap.size := by rw [m.size]; omega
 have hne : ∀ b, g.ρ b ≠ .free → b < w.heap.size := fun b hb => imm_lt h.heap hb
 have hρ : ∀ b, g.ρ b ≠ .free → g.ρ b ≠ .obj o → (g.moved w o ep esz cap).ρ b = g.ρ b := fun b hb hb' => by
  have := hne b hb
  simp only [Gh.moved, if_neg (Nat.ne_of_lt this), if_neg hb']
 have k : Keeps g w (g.moved w o ep esz cap) w' := ⟨fun i e x hx => by
   have : ¬ (i = o ∧ e = ep) := fun c => by rw [c.1, c.2, p7.1 ep (by omega)] at hx; simp at hx
   simp only [Gh.moved, if_neg this]; exact hx, fun b hb => ⟨by rw [hρ b (by rw [hb]; simp) (by rw [hb]; simp)]; exact hb, m.old b (hne b (by rw [hb]; simp))⟩, m.os⟩
 refine ⟨⟨fun i y hy => ?_, fun i e y hy => ?_, fun b hb => ?_⟩, ?_, ⟨k, fun b hb hn => ?_⟩, hz, fun i hi' _ e => ?_, rfl⟩
 ·rcases put_get hy with ⟨rfl, rfl⟩ | ⟨hio, hy⟩
  ·refine ⟨w.heap.size, 0, cap, by simp [Gh.moved], by simp [Gh.moved], by rw [m.size]; omega, hl, ?_, fun j hj => ?_, fun e he => ?_, fun C' T' lo hi hc => by rw [m.new] at hc; simp only [Option.some.injEq, Obj.cells.injEq] at hc; obtain ⟨-, -, h9⟩ := hc; obtain ⟨rfl, rfl⟩ := Prod.mk.inj h9; exact Nat.le_refl _⟩
   ·exact cellsR_new m.new (.inr (Nat.le_refl _)) (by omega) h1 (fun j c v hc hv' => (hv j c v hc hv').mono k)
   ·have hlt : j < C.size := by omega
    constructor
    ·simp [World.cell?, m.new, Array.getElem?_eq_getElem hlt]
    ·simp only [World.frozen?, m.new, Nat.zero_add]; simp
   ·have h0 : ¬ (e = ep) := by omega
    simp only [Gh.moved, h0, and_false, if_false]
    exact p7.1 e (by omega)
  ·refine (h.heap.obj i y hy).mono k (fun b hb => ⟨?_, m.old b (hne b (by rw [hb]; simp))⟩) hz (fun e he => ?_)
   ·rw [hρ b (by rw [hb]; simp) (by rw [hb]; simpa using hio)]; exact hb
   ·simp only [Gh.moved, if_neg (show ¬ (i = o ∧ e = ep) from fun c => hio c.1)]; exact he
 ·simp only [Gh.moved] at hy
  split at hy
  ·rename_i c; exact ⟨by rw [c.1]; exact (h.heap.lt _ _ _ p1).1, fun e0 => by have := c.2; omega⟩
  ·exact h.heap.lt i e y hy
 ·rw [m.size] at hb
  have h0 : b ≠ w.heap.size := by omega
  have hf := h.heap.fresh b (by omega)
  simp only [Gh.moved, if_neg h0, hf]
  simp
 ·refine FrR.setD (h.fr.mono k (fun t b _ hb => ?_) hz) hi hs hvb
  exact ⟨by rw [hρ b (by rw [hb]; simp) (by rw [hb]; simp)]; exact hb, m.old b (hne b (by rw [hb]; simp))⟩
 ·exact ⟨by rw [hρ b (by rw [hb]; simp) (by rw [hb]; simp)]; exact hb, m.old b (hne b (by rw [hb]; simp)), hn⟩
 ·have : ¬ (i = o ∧ e = ep) := fun c => by
   have := hi' ep0
   rw [c.1, p1] at this
   simp at this
  simp only [Gh.moved, if_neg this]
  exact hi' e
theorem post_stayed {s : St} {act : Act} {dst : Option Nat} {r : AV} {v : Value} {us : List Value} {o ep esz ep0 cap b a cap0 q : Nat} {c0 cs : List AV} (h : SimS L g w Λ s act.tmps) (ho : s.h.get o = some (.row esz ep0 c0))
  (hb : g.β o ep0 = some (⟨b, a, none⟩, esz, cap0)) (hep : ep = ep0 + 1) (hq : q + cap * esz ≤ cap0 * esz)
  (hu : ∀ j, j < us.length → (w.cell? ⟨b, a + q + (cs.length - us.length) + j, none⟩).isSome = true) (hul : us.length ≤ cs.length) (hcl : cs.length ≤ cap * esz)
  (hcs : CellsR L g (w.setCells b (a + q + (cs.length - us.length)) us) b (a + q) cs)
  (hi : ∀ d, dst = some d → d < act.tmps.size) (hs : SlotR L (g.stayed o ep b (a + q) esz cap) (w.setCells b (a + q + (cs.length - us.length)) us) Λ r v) (hvb : ∀ t cs, r ≠ .lbox t cs) :
  Post L g w Λ act dst r s { s with h := s.h.put o (.row esz ep cs) } (fun _ => False) v (w.setCells b (a + q + (cs.length - us.length)) us) (g.stayed o ep b (a + q) esz cap) Λ := by
 obtain ⟨b', a', cap', p1, p2, p3, p4, p5, p6, p7⟩ := h.heap.obj _ _ ho
 rw [hb] at p1
 simp only [Option.some.injEq, Prod.mk.injEq, Addr.mk.injEq] at p1
 obtain ⟨⟨rfl, rfl, -⟩, -, rfl⟩ := p1
 generalize hW : w.setCells b (a + q + (cs.length - us.length)) us = W at *
 have hsz : W.heap.size = w.heap.size := by rw [← hW, setCells_size]
 have hoth : ∀ i, i ≠ b → W.heap[i]? = w.heap[i]? := fun i hi => by rw [← hW]; exact setCells_other _ _ _ _ _ hi
 have k0 : Keeps g w g W := ⟨fun _ _ _ h => h, fun i hi => ⟨hi, hoth i (fun e => by subst e; rw [p2] at hi; simp at hi)⟩, by rw [← hW]; exact setCells_os _ _ _ _⟩
 have k : Keeps g w (g.stayed o ep b (a + q) esz cap) W := ⟨fun i e x hx => by
   have : ¬ (i = o ∧ e = ep) := fun c => by rw [c.1, c.2, p7.1 ep (by omega)] at hx; simp at hx
   simp only [Gh.stayed, if_neg this]; exact hx, fun i hi => ⟨hi, (k0.imm i hi).2⟩, k0.os⟩
 have k1 : Keeps g W (g.stayed o ep b (a + q) esz cap) W := ⟨k.β, fun i hi => ⟨hi, rfl⟩, rfl, rfl, rfl⟩
 refine ⟨⟨fun i y hy => ?_, fun i e y hy => ?_, fun i hi => h.heap.fresh i (by rw [hsz] at hi; exact hi)⟩, ?_, ⟨k, fun i hi hn => ⟨hi, hoth i (fun e => by subst e; rw [p2] at hi; simp at hi), hn⟩⟩, by rw [hsz]; exact Nat.le_refl _, fun i hi' _ e => ?_, rfl⟩
 ·rcases put_get hy with ⟨rfl, rfl⟩ | ⟨hio, hy⟩
  ·refine ⟨b, a + q, cap, by simp [Gh.stayed], p2, by rw [hsz]; exact p3, hcl, hcs.mono k1 rfl, fun j hj => ?_, fun e he => ?_, by rw [← hW]; exact frOk_setCells _ _ p7.2⟩
   ·have hj' : q + j < cap0 * esz := by omega
    have hpj := p6 (q + j) hj'
    rw [← Nat.add_assoc] at hpj
    rw [← hW]
    refine ⟨?_, by rw [World.frozen?_setCells]; exact hpj.2⟩
    by_cases hin : a + q + (cs.length - us.length) ≤ a + q + j ∧ a + q + j < a + q + (cs.length - us.length) + us.length
    ·have := World.cell?_setCells_in b us (a + q + (cs.length - us.length)) w hu (j - (cs.length - us.length)) (by omega)
     rw [show a + q + j = a + q + (cs.length - us.length) + (j - (cs.length - us.length)) by omega, this]; rfl
    ·rw [World.cell?_setCells_out b us _ w _ (fun _ _ => by simp only; omega)]
     exact hpj.1
   ·have h0 : ¬ (e = ep) := by omega
    simp only [Gh.stayed, h0, and_false, if_false]
    exact p7.1 e (by omega)
  ·refine (h.heap.obj i y hy).mono k (fun b9 h9 => ⟨h9, hoth b9 (fun e => by subst e; rw [p2] at h9; simp at h9; exact hio h9.symm)⟩) (by rw [hsz]; exact Nat.le_refl _) (fun e he => ?_)
   simp only [Gh.stayed, if_neg (show ¬ (i = o ∧ e = ep) from fun c => hio c.1)]; exact he
 ·simp only [Gh.stayed] at hy
  split at hy
  ·rename_i c; exact ⟨by rw [c.1]; exact (h.heap.lt _ _ _ hb).1, fun e0 => by have := c.2; omega⟩
  ·exact h.heap.lt i e y hy
 ·exact FrR.setD (h.fr.mono k (fun t b9 _ h9 => ⟨h9, hoth b9 (fun e => by subst e; rw [p2] at h9; simp at h9)⟩) (by rw [hsz]; exact Nat.le_refl _)) hi hs hvb
 ·have : ¬ (i = o ∧ e = ep) := fun c => by
   have := hi' ep0
   rw [c.1, hb] at this
   simp at this
  simp only [Gh.stayed, if_neg this]
  exact hi' e
end Go.Am
/- append, third part: the abstract machine's append is the model's. -/
namespace Go.Am
variable {L : Link} {g g' : Gh} {w w' : World} {Λ Λ' : Nat → Option Nat}
theorem vr_not_box {a : AV} {v : Value} (h : VR L g w a v) : ∀ t cs, a ≠ .lbox t cs := fun t cs e => by subst e; cases h
theorem vr_slot {a : AV} {v : Value} (h : VR L g w a v) : SlotR L g w Λ a v := by
 cases a <;> first | exact h | (cases h)
structure NewC (L : Link) (g : Gh) (w : World) (esz n : Nat) (y : Value) (new : List AV) (C : Array Value) : Prop where
 len : (Builtin.lenOf y).run L.P w = .ok n w
 cells : ∀ w2, w2.heap = w.heap → (Builtin.firstCells esz n y).run L.P w2 = .ok C w2
 size : C.size = new.length
 ln : new.length = n * esz
 one : ∀ (i : Nat) (v : Value), C[i]? = some v → v.oneCell' = true
 rel : ∀ (i : Nat) (c : AV) (v : Value), new[i]? = some c → C[i]? = some v → VR L g w c v
theorem NewC.mem {esz n : Nat} {y : Value} {new : List AV} {C : Array Value} (h : NewC L g w esz n y new C) : ∀ v ∈ C.toList, v.oneCell' = true := fun v hv => by
 obtain ⟨i, hi, rfl⟩ := List.getElem_of_mem hv
 refine h.one i _ ?_
 rw [← Array.getElem?_toList, List.getElem?_eq_getElem hi]
theorem app_new {s : St} {act : Act} {o : Oper} {x y : Operand} {ats : Array TypeId} {esz bytes o' len cap n : Nat} {xa : Option Addr} {new old : List AV} {C O : Array Value}
  (h : SimS L g w Λ s act.tmps) (T : AppT L.P ats esz bytes) (N : NewC L g w esz n (act.eval y) new C) (ho' : ∀ e, g.β o' e = none) (hlt : o' < s.h.next) (hi : ∀ d, o.dst = some d → d < act.tmps.size)
  (ho : o.op = .call { callee := .builtin .append, args := #[x, y], argTypes := ats }) (hx : act.eval x = .slice xa len cap) (hO : ∀ w2, w2.heap = w.heap → (Builtin.firstCells esz len (.slice xa len cap)).run L.P w2 = .ok O w2)
  (hOl : O.size = old.length) (hol : old.length = len * esz) (o1 : ∀ (i : Nat) (v : Value), O[i]? = some v → v.oneCell' = true) (ov : ∀ (i : Nat) (c : AV) (v : Value), old[i]? = some c → O[i]? = some v → VR L g w c v)
  (hgt : cap < len + n) (h47 : (len + n) * bytes ≤ two47) :
  ∃ v w' g', Ran L o act w v w' ∧ Post L g w Λ act o.dst (.hs esz o' 0 0 (len + n) false) s { s with h := s.h.put o' (.row esz 0 (old ++ new)) } (fun i => i = o') v w' g' Λ := by
 obtain ⟨newCap, w2, hle, ⟨hw, hos⟩, hrun⟩ := append_grow (ty := o.type) T N.len N.cells hO hgt h47
 obtain ⟨zs, hz1, hz2⟩ := T.zok
 have hzsz : T.z.cells.size = esz := (zero_rel (L := L) hz2).1.trans hz1
 obtain ⟨r1, r2, r3⟩ := row_new (L := L) (g := g) (T := T.e) (o' := o') (newCap := newCap) (m := len + n) (Z := Builtin.zeroCells T.z.cells (newCap - (len + n))) h.heap hw ho' hOl N.size (by rw [zeroCells_size, hzsz]) (by rw [hol, N.ln, Nat.add_mul]) hle o1 N.one (fun i v hv => zeroCells_one hz2 _ i v hv) ov N.rel
 have m : More w (w2.alloc (.cells (O ++ C ++ Builtin.zeroCells T.z.cells (newCap - (len + n))) T.e)) (.cells (O ++ C ++ Builtin.zeroCells T.z.cells (newCap - (len + n))) T.e) := by
  have := More.alloc w2 (.cells (O ++ C ++ Builtin.zeroCells T.z.cells (newCap - (len + n))) T.e)
  exact ⟨fun b hb => by rw [this.old b (by rw [hw]; exact hb), hw], by have := this.new; rw [hw] at this; exact this, by rw [this.size, hw], hos⟩
 refine ⟨_, _, g.obj w o' esz newCap, ran_append ho (by rw [hx]; exact hrun), ?_⟩
 refine post_obj h m ho' hlt (obj_row h.heap m (.inr (Nat.le_refl _)) ho' ?_ (by rw [r1]; exact Nat.le_refl _) (Nat.le_refl _) r2 r3) hi ?_ (by simp)
 ·rw [List.length_append, hol, N.ln, ← Nat.add_mul]; exact Nat.mul_le_mul_right _ hle
 ·exact VR.hs _ _ _ _ _ _ w.heap.size 0 newCap _ _ (by simp [Gh.obj]) (by omega) (by simp) ⟨rfl, rfl, fun _ => by simp⟩
theorem appA_run {s s' : St} {act : Act} {o : Oper} {x y : Operand} {ats : Array TypeId} {esz bytes o' : Nat} {ax ay r : AV}
  (h : SimS L g w Λ s act.tmps) (T : AppT L.P ats esz bytes) (ha : appA s o' esz bytes ax ay = some (r, s')) (hx : VR L g w ax (act.eval x)) (hy : VR L g w ay (act.eval y))
  (ho' : ∀ e, g.β o' e = none) (hlt : o' < s.h.next) (hi : ∀ d, o.dst = some d → d < act.tmps.size) (ho : o.op = .call { callee := .builtin .append, args := #[x, y], argTypes := ats }) :
  ∃ v w' g', Ran L o act w v w' ∧ Post L g w Λ act o.dst r s s' (fun i => i = o') v w' g' Λ := by
 unfold appA at ha
 simp only [Option.bind_eq_some_iff] at ha
 obtain ⟨n, hn, new, hnew, ha⟩ := ha
 obtain ⟨hln, C, hC1, hC2, hC3, hC4⟩ := cellsAt_run h.heap hnew hy
 have N : NewC L g w esz n (act.eval y) new C := ⟨lenOf_run hn hnew hy, hC4, hC1, hln, hC2, hC3⟩
 rw [nbeq] at ha
 have epos := T.epos
 by_cases hn0 : n = 0
 ·-- nothing is appended
  subst hn0
  simp only [decide_true, cond_true] at ha
  cases hsl : isSl ax with
  | false => rw [hsl] at ha; simp at ha
  | true =>
   rw [hsl] at ha
   simp only [cond_true, Option.some.injEq, Prod.mk.injEq] at ha
   obtain ⟨rfl, rfl⟩ := ha
   have hCe : C = #[] := by
    apply Array.eq_empty_of_size_eq_zero
    rw [hC1, hln]; omega
   subst hCe
   obtain ⟨xa, len, cap, hv, hle⟩ : ∃ xa len cap, act.eval x = .slice xa len cap ∧ len ≤ cap := by
    generalize act.eval x = vx at hx
    cases hx <;> first | (simp [isSl] at hsl; done) | skip
    ·exact ⟨_, _, _, rfl, Nat.le_refl _⟩
    ·exact ⟨_, _, _, rfl, by assumption⟩
    ·exact ⟨_, _, _, rfl, Nat.zero_le _⟩
    ·rename_i hcap _
     refine ⟨_, _, _, rfl, ?_⟩
     rename_i full _ _ _ _ _ _ _ _
     cases full <;> simp at hcap <;> omega
   refine ⟨_, w, g, ran_append ho (by rw [hv]; exact append_zero (ty := o.type) T hle N.len (N.cells w rfl)), ?_⟩
   have hp := Post.same h hi (vr_slot (Λ := Λ) (hv ▸ hx)) (vr_not_box hx)
   exact ⟨hp.heap, hp.fr, hp.adv, hp.size, fun i h1 _ => hp.new i h1 (fun h => h), hp.next⟩
 ·rw [decide_eq_false hn0] at ha
  simp only [cond_false] at ha
  split at ha
  ·-- onto nil
   rw [nble] at ha
   by_cases h47 : n * bytes ≤ two47
   ·rw [decide_eq_true h47] at ha
    simp only [cond_true, Option.some.injEq, newRowA, Prod.mk.injEq] at ha
    obtain ⟨rfl, rfl⟩ := ha
    generalize hvx : act.eval x = vx at hx
    cases hx
    have := app_new (O := #[]) (old := []) (len := 0) (cap := 0) h T N ho' hlt hi ho hvx (fun _ _ => rfl) rfl (by simp) (by simp) (by simp) (by omega) (by simpa using h47)
    simpa using this
   ·rw [decide_eq_false h47] at ha; simp at ha
  ·-- onto a row of no spare room that nobody writes
   rename_i e len f
   rw [nble, nbeq] at ha
   by_cases hc : (len + n) * bytes ≤ two47 ∧ e = esz
   ·obtain ⟨h47, rfl⟩ := hc
    simp only [h47, decide_true, Bool.and_self, cond_true, Option.some.injEq, newRowA, Prod.mk.injEq] at ha
    obtain ⟨rfl, rfl⟩ := ha
    have hold : cellsAt s.h e (.sl e len f true) len = some (gather f 0 len) := by simp [cellsAt, nble, nbeq]
    obtain ⟨hol, O, hO1, hO2, hO3, hO4⟩ := cellsAt_run h.heap hold hx
    generalize hvx : act.eval x = vx at hx hO4
    cases hx with
    | sl0 _ _ _ ao cap hf hn =>
     have hce := hf rfl
     subst hce
     exact app_new h T N ho' hlt hi ho hvx hO4 hO1 hol hO2 hO3 (by omega) h47
    | sl _ _ _ _ b a cap c hi' hcap hf hl hcell h' =>
     have hce := hf rfl
     subst hce
     exact app_new h T N ho' hlt hi ho hvx hO4 hO1 hol hO2 hO3 (by omega) h47
   ·exfalso
    apply hc
    by_cases q1 : (len + n) * bytes ≤ two47 <;> by_cases q2 : e = esz <;> simp [q1, q2] at ha ⊢
  ·-- onto a row on the heap
   rename_i e ob ep off len full
   split at ha
   ·rename_i esz' ep' c hob
    rw [nbeq, nbeq, nble] at ha
    by_cases hc : ep' = ep ∧ e = esz ∧ (len + n) * bytes ≤ two47
    ·obtain ⟨rfl, rfl, h47⟩ := hc
     simp only [h47, decide_true, Bool.and_self, cond_true] at ha
     obtain ⟨b, a, cap, p1, p2, p3, p4, p5, p6, p7⟩ := h.heap.obj _ _ hob
     have hxs := hx
     generalize hvx : act.eval x = vx at hx
     cases hx with
     | hs _ _ _ _ _ _ b' a' c' xa capv hβ hlc hcapv hxa =>
      rw [p1] at hβ
      simp only [Option.some.injEq, Prod.mk.injEq, Addr.mk.injEq] at hβ
      obtain ⟨⟨rfl, rfl, -⟩, rfl, rfl⟩ := hβ
      cases full with
      | true =>
       simp only [cond_true, Option.bind_eq_some_iff, newRowA, Option.some.injEq, Prod.mk.injEq] at ha
       obtain ⟨old, hold, rfl, rfl⟩ := ha
       have hold' : cellsAt s.h esz' (.hs esz' ob ep' off len true) len = some old := by simp [cellsAt, nble, nbeq, hob, hold]
       obtain ⟨hol, O, hO1, hO2, hO3, hO4⟩ := cellsAt_run h.heap hold' hxs
       rw [hvx] at hO4
       simp only [if_true] at hcapv
       subst hcapv
       exact app_new h T N ho' hlt hi ho hvx hO4 hO1 hol hO2 hO3 (by omega) h47
      | false =>
       simp only [cond_false, Bool.false_eq_true, if_false] at ha hcapv
       subst hcapv
       rw [nble] at ha
       by_cases hfit : (off + len + n) * esz' ≤ c.length
       ·rw [decide_eq_true hfit] at ha
        simp only [cond_true, Option.bind_eq_some_iff, Option.some.injEq, Prod.mk.injEq] at ha
        obtain ⟨c', hov, rfl, rfl⟩ := ha
        have hle : off + len + n ≤ cap := Nat.le_of_mul_le_mul_right (Nat.le_trans hfit p4) epos
        obtain rfl := hxa.2.2 (by omega)
        have hwr : wr s (.eptr ob ep' ((off + len) * esz')) new = some { s with h := s.h.put ob (.row esz' ep' c') } := by simp [wr, hob, nbeq, hov]
        have hsl : SlotR L g w Λ (.eptr ob ep' ((off + len) * esz')) (.pointer (some ⟨b, a + (off + len) * esz', none⟩)) := VR.eptr _ _ _ b a _ _ p1
        obtain ⟨b2, q2, e1, e2, e3, e4, e5, e6⟩ := wr_cells h.heap h.fr hsl hwr (us := C.toList) (by rw [Array.length_toList, hC1]) N.mem (fun i c x hc hx => hC3 i c x hc (by simpa using hx))
        simp only [Value.pointer.injEq, Option.some.injEq, Addr.mk.injEq] at e1
        obtain ⟨rfl, rfl, -⟩ := e1
        have hadd : a + off * esz' + len * esz' = a + (off + len) * esz' := by rw [Nat.add_mul]; omega
        have hrun := append_fit (ty := o.type) T (b := b) (a := a + off * esz') (len := len) (cap := cap - off) N.len (N.cells w rfl) N.mem (by omega) (fun j hj => by rw [hadd]; exact e2 j hj)
        rw [hadd] at hrun
        refine ⟨_, _, g, ran_append ho (by rw [hvx]; exact hrun), ⟨e3, FrR.setD e4 hi ?_ (by simp), e5, by rw [setCells_size]; exact Nat.le_refl _, fun i h1 _ => h1, rfl⟩⟩
        exact VR.hs _ _ _ _ _ _ b a cap _ _ p1 (by omega) (by simp) ⟨rfl, rfl, fun _ => rfl⟩
       ·rw [decide_eq_false hfit] at ha
        simp only [cond_false, Option.bind_eq_some_iff, Option.some.injEq, Prod.mk.injEq] at ha
        obtain ⟨old, hold, rfl, rfl⟩ := ha
        obtain ⟨s1, s2, s3⟩ := sub_spec hold
        have hol : old.length = len * esz' := s1
        by_cases hroom : len + n ≤ cap - off
        ·-- there is room
         have hne : cap - off ≠ 0 := by omega
         obtain rfl := hxa.2.2 hne
         have hmul : off * esz' + (cap - off) * esz' = cap * esz' := by rw [← Nat.add_mul]; congr 1; omega
         have hln' : (len + n) * esz' ≤ (cap - off) * esz' := Nat.mul_le_mul_right _ hroom
         rw [Nat.add_mul] at hln'
         have hCl : C.toList.length = n * esz' := by rw [Array.length_toList, hC1, hln]
         have hthere : ∀ j, j < C.toList.length → (w.cell? ⟨b, a + off * esz' + len * esz' + j, none⟩).isSome = true ∧ w.frozen? ⟨b, a + off * esz' + len * esz' + j, none⟩ = false := fun j hj => by
          have := p6 (off * esz' + len * esz' + j) (by omega)
          rw [show a + (off * esz' + len * esz' + j) = a + off * esz' + len * esz' + j by omega] at this
          exact this
         have hrun := append_fit (ty := o.type) T (b := b) (a := a + off * esz') (len := len) (cap := cap - off) N.len (N.cells w rfl) N.mem hroom hthere
         have hcsl : (old ++ new).length - C.toList.length = len * esz' := by rw [List.length_append, hol, hln, hCl]; omega
         have k0 : Keeps g w g (w.setCells b (a + off * esz' + len * esz') C.toList) := keeps_setCells b _ _ (by rw [p2]; simp)
         have hcs : CellsR L g (w.setCells b (a + off * esz' + len * esz') C.toList) b (a + off * esz') (old ++ new) := fun i x hx => by
          rw [List.getElem?_append, hol] at hx
          by_cases hi' : i < len * esz'
          ·rw [if_pos hi', s3 i hi'] at hx
           obtain ⟨u, u1, u2, u3, u4⟩ := p5 _ x hx
           rw [← Nat.add_assoc] at u1 u4
           refine ⟨u, ?_, u2, u3.mono k0, by rw [World.frozen?_setCells]; exact u4⟩
           rw [World.cell?_setCells_out _ _ _ _ _ (fun _ _ => by simp only; omega)]
           exact u1
          ·rw [if_neg hi'] at hx
           have hlt : i - len * esz' < C.toList.length := by
            have := (List.getElem?_eq_some_iff.1 hx).1; omega
           have hcell := World.cell?_setCells_in b C.toList (a + off * esz' + len * esz') w (fun j hj => (hthere j hj).1) (i - len * esz') hlt
           rw [show a + off * esz' + len * esz' + (i - len * esz') = a + off * esz' + i by omega] at hcell
           have hCi : C[i - len * esz']? = some C.toList[i - len * esz'] := by
            rw [← Array.getElem?_toList]; exact List.getElem?_eq_getElem hlt
           refine ⟨_, hcell, hC2 _ _ hCi, (hC3 _ x _ hx hCi).mono k0, ?_⟩
           rw [World.frozen?_setCells]
           have := (hthere _ hlt).2
           rw [show a + off * esz' + len * esz' + (i - len * esz') = a + off * esz' + i by omega] at this
           exact this
         have hp := post_stayed (us := C.toList) (cs := old ++ new) (q := off * esz') (cap := cap - off) (ep := ep' + 1) (dst := o.dst) (r := .hs esz' ob (ep' + 1) 0 (len + n) false) (v := .slice (some ⟨b, a + off * esz', none⟩) (len + n) (cap - off)) h hob p1 rfl (by omega)
          (fun j hj => by rw [hcsl]; exact (hthere j hj).1) (by rw [List.length_append, hln, hCl]; omega) (by rw [List.length_append, hol, hln]; omega) (by rw [hcsl]; exact hcs) hi ?_ (by simp)
         ·rw [hcsl] at hp
          exact ⟨_, _, _, ran_append ho (by rw [hvx]; exact hrun), ⟨hp.heap, hp.fr, hp.adv, hp.size, fun i h1 _ => hp.new i h1 (fun h => h), hp.next⟩⟩
         ·exact VR.hs _ _ _ _ _ _ b (a + off * esz') (cap - off) _ _ (by simp [Gh.stayed]) (by omega) (by simp) ⟨rfl, rfl, fun _ => by simp⟩
        ·-- it moves
         have hold' : cellsAt s.h esz' (.hs esz' ob ep' off len false) len = some old := by simp [cellsAt, nble, nbeq, hob, hold]
         obtain ⟨-, O, hO1, hO2, hO3, hO4⟩ := cellsAt_run h.heap hold' hxs
         rw [hvx] at hO4
         obtain ⟨newCap, w2, hle, ⟨hw, hos⟩, hrun⟩ := append_grow (ty := o.type) T N.len N.cells hO4 (by omega) h47
         obtain ⟨zs, hz1, hz2⟩ := T.zok
         have hzsz : T.z.cells.size = esz' := (zero_rel (L := L) hz2).1.trans hz1
         obtain ⟨r1, r2, r3⟩ := row_new (L := L) (g := g) (T := T.e) (o' := o') (newCap := newCap) (m := len + n) (Z := Builtin.zeroCells T.z.cells (newCap - (len + n))) h.heap hw ho' hO1 N.size (by rw [zeroCells_size, hzsz]) (by rw [hol, N.ln, Nat.add_mul]) hle hO2 N.one (fun i v hv => zeroCells_one hz2 _ i v hv) hO3 N.rel
         have m : More w (w2.alloc (.cells (O ++ C ++ Builtin.zeroCells T.z.cells (newCap - (len + n))) T.e)) (.cells (O ++ C ++ Builtin.zeroCells T.z.cells (newCap - (len + n))) T.e) := by
          have := More.alloc w2 (.cells (O ++ C ++ Builtin.zeroCells T.z.cells (newCap - (len + n))) T.e)
          exact ⟨fun b hb => by rw [this.old b (by rw [hw]; exact hb), hw], by have := this.new; rw [hw] at this; exact this, by rw [this.size, hw], hos⟩
         have hp := post_moved (dst := o.dst) (cap := newCap) (cs := old ++ new) (r := .hs esz' ob (ep' + 1) 0 (len + n) false) (v := .slice (some ⟨w.heap.size, 0, none⟩) (len + n) newCap) h m hob rfl
          (by rw [List.length_append, hol, N.ln, ← Nat.add_mul]; exact Nat.mul_le_mul_right _ hle) (by rw [r1]; exact Nat.le_refl _) r2 r3 hi ?_ (by simp)
         ·exact ⟨_, _, _, ran_append ho (by rw [hvx]; exact hrun), ⟨hp.heap, hp.fr, hp.adv, hp.size, fun i h1 _ => hp.new i h1 (fun h => h), hp.next⟩⟩
         ·exact VR.hs _ _ _ _ _ _ w.heap.size 0 newCap _ _ (by simp [Gh.moved]) (by omega) (by simp) ⟨rfl, rfl, fun _ => by simp⟩
    ·exfalso
     apply hc
     by_cases q1 : ep' = ep <;> by_cases q2 : e = esz <;> by_cases q3 : (len + n) * bytes ≤ two47 <;> simp [q1, q2, q3] at ha ⊢
   ·simp at ha
  ·simp at ha
end Go.Am
/- Single operations, seventh part: maps, texts and bytes, copies, and the small ones. -/
namespace Go.Am
variable {L : Link} {g g' : Gh} {w w' : World} {Λ Λ' : Nat → Option Nat}
theorem mkmap_run {s : St} {act : Act} {o : Oper} {t : TypeId} {o' : Nat} (h : SimS L g w Λ s act.tmps) (ho' : ∀ e, g.β o' e = none) (hlt : o' < s.h.next) (hi : ∀ d, o.dst = some d → d < act.tmps.size)
  (ho : o.op = .makeMap t none) : ∃ v w', Ran L o act w v w' ∧ Post L g w Λ act o.dst (.mp o') s { s with h := s.h.put o' (.map [] [] 0) } (fun i => i = o') v w' (g.obj w o' 0 0) Λ := by
 refine ⟨.map (some w.heap.size), w.alloc (.map #[] 0), .inl ?_, post_obj h (More.alloc w _) ho' hlt ?_ hi ?_ (by simp)⟩
 ·simp only [execOp, ho, Option.map_none, Instr.makeMap, Sem.run_bind, run_newObj, Result.andThen_ok, Sem.run_pure]
  rfl
 ·exact ⟨w.heap.size, #[], by simp [Gh.obj], by simp [Gh.obj], alloc_at w _, ⟨rfl, rfl⟩, fun i k v m hk => by simp at hk⟩
 ·exact VR.mp _ w.heap.size 0 0 (by simp [Gh.obj])
def keyTy (P : Program) : TypeDesc → Bool
 | .int _ | .string => true
 | .pointer e => (match P.info? e with | some i => !(Nat.beq i.size 0) | none => false)
 | _ => false
def keyFits (d : TypeDesc) : AV → Bool
 | .int _ _ => (match d with | .int _ => true | _ => false)
 | .str _ => (match d with | .string => true | _ => false)
 | .ptr _ _ => (match d with | .pointer _ => true | _ => false)
 | _ => false
theorem keyFits_int {d : TypeDesc} {k : IntKind} {n : Int} (h : keyFits d (.int k n) = true) : ∃ q, d = .int q := by
 unfold keyFits at h
 cases d <;> simp at h
 exact ⟨_, rfl⟩
theorem keyFits_str {d : TypeDesc} {s : List Nat} (h : keyFits d (.str s) = true) : d = .string := by
 unfold keyFits at h
 cases d <;> simp at h
 rfl
theorem keyFits_ptr {d : TypeDesc} {o off : Nat} (h : keyFits d (.ptr o off) = true) : ∃ e, d = .pointer e := by
 unfold keyFits at h
 cases d <;> simp at h
 exact ⟨_, rfl⟩
theorem live_cells {h : Heap} {o off b : Nat} {e c : Nat} (hh : HeapR L g w h) (hl : liveP h o off = true) (hb : g.β o 0 = some (⟨b, 0, none⟩, e, c)) :
  g.ρ b = .obj o ∧ (∀ i, w.frozen? ⟨b, i, none⟩ = false) ∧ ∃ C T lo hi, w.heap[b]? = some (.cells C T (lo, hi)) ∧ C.size ≠ 0 := by
 unfold liveP at hl
 split at hl
 ·rename_i cs hg
  rw [nblt, decide_eq_true_eq] at hl
  obtain ⟨b', h1, h2, h3, h4, h5⟩ := hh.obj _ _ hg
  rw [hb] at h1
  simp only [Option.some.injEq, Prod.mk.injEq, Addr.mk.injEq] at h1
  obtain ⟨⟨rfl, -, -⟩, -, -⟩ := h1
  refine ⟨h2, h5, ?_⟩
  obtain ⟨v, hv, -⟩ := h4 off _ (List.getElem?_eq_getElem hl)
  unfold World.cell? at hv
  split at hv
  ·rename_i C T fz hc
   obtain ⟨lo, hi⟩ := fz
   refine ⟨C, T, lo, hi, hc, fun e => ?_⟩
   have : C = #[] := by simpa using e
   subst this
   simp at hv
  ·simp at hv
 ·simp at hl
theorem keyEq_now {d : TypeDesc} {h : Heap} {k i : AV} {kv iv : Value} {r : Bool} (hh : HeapR L g w h) (he : keyEq h k i = some r) (hk : VR L g w k kv) (hi : VR L g w i iv) (hd : keyFits d k = true) (ht : keyTy L.P d = true) :
  ((Instr.sameNow d kv iv = some r ∧ ∀ e, d ≠ .pointer e) ∨ (Instr.sameNow d kv iv = none ∧ (∃ e, d = .pointer e) ∧ ∀ t, L.P.underlying t = some d → (Op.equal t kv iv).run L.P w = .ok r w)) ∧
   (r = true → Instr.sameBits 10000 kv iv = true ∧ Instr.sameBits 10000 iv kv = true) := by
 unfold keyEq at he
 split at he
 ·cases hk
  cases hi
  obtain ⟨q, rfl⟩ := keyFits_int hd
  rename_i a b k' c
  try dsimp only at he
  rw [eqK_eq, eqI_eq] at he
  by_cases hkk : a = k'
  ·subst hkk
   simp at he
   subst he
   refine ⟨.inl ⟨by simp [Instr.sameNow], by simp⟩, fun hr => ?_⟩
   simp at hr
   subst hr
   simp [Instr.sameBits]
  ·simp [hkk] at he
 ·cases hk
  cases hi
  obtain rfl := keyFits_str hd
  rename_i s t
  try dsimp only at he
  rw [eqS_map] at he
  obtain rfl := Option.some.inj he
  have hb : ∀ a b : ByteArray, (a == b) = (a.data == b.data) := fun a b => by cases a; cases b; rfl
  have e : (s.data.toList == t.data.toList) = (s == t) := by
   rw [hb, Bool.eq_iff_iff]
   simp only [beq_iff_eq, Array.toList_inj]
  refine ⟨.inl ⟨by rw [e]; rfl, by simp⟩, fun hr => ?_⟩
  rw [beq_iff_eq, Array.toList_inj] at hr
  have h1 : (s == t) = true := by rw [hb, hr]; simp
  have h2 : (t == s) = true := by rw [hb, hr]; simp
  exact ⟨h1, h2⟩
 ·rename_i o off o' off'
  obtain ⟨e, rfl⟩ := keyFits_ptr hd
  cases hk with
  | ptr _ _ b e1 c1 h1 =>
  cases hi with
  | ptr _ _ b' e2 c2 h2 =>
  simp only [keyTy] at ht
  split at ht
  ·rename_i j hj
   simp only [Bool.not_eq_true', nbeq, decide_eq_false_iff_not] at ht
   have sam : r = true → (⟨b, off, none⟩ : Addr) = ⟨b', off', none⟩ := fun hr => by
    subst hr
    rw [nbeq] at he
    by_cases ho : o = o'
    ·subst ho
     simp only [decide_true, cond_true, nbeq, Option.some.injEq, decide_eq_true_eq] at he
     subst he
     rw [h1] at h2
     simp only [Option.some.injEq, Prod.mk.injEq, Addr.mk.injEq] at h2
     rw [h2.1.1]
    ·simp only [ho, decide_false, cond_false] at he
     cases hl : (liveP h o off && liveP h o' off') <;> rw [hl] at he <;> simp at he
   refine ⟨.inr ⟨rfl, ⟨e, rfl⟩, fun t htt => ?_⟩, fun hr => ?_⟩
   ·have key : ∀ n : Nat, (Op.equalIn (n + 1) t (.pointer (some ⟨b, off, none⟩)) (.pointer (some ⟨b', off', none⟩))).run L.P w = .ok r w := fun n => by
     rw [nbeq] at he
     by_cases ho : o = o'
     ·subst ho
      simp only [decide_true, cond_true, nbeq, Option.some.injEq] at he
      rw [h1] at h2
      simp only [Option.some.injEq, Prod.mk.injEq, Addr.mk.injEq] at h2
      obtain ⟨⟨rfl, -, -⟩, -, -⟩ := h2
      subst he
      have : ((⟨b, off, none⟩ : Addr) == ⟨b, off', none⟩) = decide (off = off') := by
       rw [Bool.eq_iff_iff]; simp
      simp [Op.equalIn, run_underlying htt, sizeOf, typeInfo, hj, ht, sameAddr, this]
     ·simp only [ho, decide_false, cond_false] at he
      cases hl : (liveP h o off && liveP h o' off') with
      | false => rw [hl] at he; simp at he
      | true =>
       rw [hl] at he
       simp only [cond_true, Option.some.injEq] at he
       subst he
       simp only [Bool.and_eq_true] at hl
       obtain ⟨p1, p2, C, T, lo, hi, p3, p3'⟩ := live_cells hh hl.1 h1
       obtain ⟨q1, q2, C', T', lo', hi', q3, q3'⟩ := live_cells hh hl.2 h2
       have hne : ¬ b = b' := fun e => by
        subst e
        rw [p1] at q1
        simp only [Own.obj.injEq] at q1
        exact ho q1
       simp [Op.equalIn, run_underlying htt, sizeOf, typeInfo, hj, ht, sameAddr, hne, p2, q2, noView, viewAt, World.shape?, p3, q3, mayBeOne, stringish]
    exact key 9999
   ·rw [sam hr]
    simp [Instr.sameBits]
  ·simp at ht
 ·simp at he
def Finds (P : Program) (d : TypeDesc) (kv : Value) (ms : List MapEntry) (n : Nat) (w : World) (r : Option (Nat × Value)) : Prop :=
 (Instr.findNow d kv ms n = some r ∧ ((∃ e, d = .pointer e) → r = none)) ∨ ((∃ e, d = .pointer e) ∧ (ms ≠ [] → Instr.findNow d kv ms n = none) ∧ ∀ t, P.underlying t = some d → (Instr.findAsking t kv ms n).run P w = .ok r w)
theorem Finds.run {t : TypeId} {d : TypeDesc} {kv : Value} {ms : List MapEntry} {r : Option (Nat × Value)} (hu : L.P.underlying t = some d) (h : Finds L.P d kv ms 0 w r) : (Instr.findKey t kv ms).run L.P w = .ok r w := by
 unfold Instr.findKey
 rw [Sem.run_bind, run_underlying hu w, Result.andThen_ok]
 rcases h with ⟨h, -⟩ | ⟨h1, h2, h3⟩
 ·rw [h]; rfl
 ·cases ms with
  | nil =>
   have := h3 t hu
   simp only [Instr.findAsking, Sem.run_pure, Result.ok.injEq] at this
   simp only [Instr.findNow]
   rw [← this.1]; rfl
  | cons m ms => rw [h2 (by simp)]; exact h3 t hu
theorem Finds.hit {d : TypeDesc} {kv : Value} {m : MapEntry} {ms : List MapEntry} {n : Nat} (h : (Instr.sameNow d kv m.key = some true ∧ ∀ e, d ≠ .pointer e) ∨ (Instr.sameNow d kv m.key = none ∧ (∃ e, d = .pointer e) ∧ ∀ t, L.P.underlying t = some d → (Op.equal t kv m.key).run L.P w = .ok true w)) :
  Finds L.P d kv (m :: ms) n w (some (n, m.val)) := by
 rcases h with ⟨h, h'⟩ | ⟨h1, h2, h3⟩
 ·exact .inl ⟨by simp only [Instr.findNow, h], fun ⟨e, he⟩ => absurd he (h' e)⟩
 ·refine .inr ⟨h2, fun _ => by simp only [Instr.findNow, h1], fun t ht => ?_⟩
  rw [Instr.findAsking, Sem.run_bind, h3 t ht, Result.andThen_ok]
  rfl
theorem Finds.miss {d : TypeDesc} {kv : Value} {m : MapEntry} {ms : List MapEntry} {n : Nat} {r : Option (Nat × Value)} (h : (Instr.sameNow d kv m.key = some false ∧ ∀ e, d ≠ .pointer e) ∨ (Instr.sameNow d kv m.key = none ∧ (∃ e, d = .pointer e) ∧ ∀ t, L.P.underlying t = some d → (Op.equal t kv m.key).run L.P w = .ok false w))
  (hr : Finds L.P d kv ms (n + 1) w r) : Finds L.P d kv (m :: ms) n w r := by
 rcases h with ⟨h, h'⟩ | ⟨h1, h2, h3⟩
 ·rcases hr with ⟨hr, hn⟩ | ⟨⟨e, he⟩, -⟩
  ·exact .inl ⟨by simp only [Instr.findNow, h, hr], fun ⟨e, he⟩ => absurd he (h' e)⟩
  ·exact absurd he (h' e)
 ·refine .inr ⟨h2, fun _ => by simp only [Instr.findNow, h1], fun t ht => ?_⟩
  rw [Instr.findAsking, Sem.run_bind, h3 t ht, Result.andThen_ok]
  rcases hr with ⟨hr, hn⟩ | ⟨-, -, hr⟩
  ·obtain rfl := hn h2
   cases ms with
   | nil => rfl
   | cons m' ms =>
    exfalso
    obtain ⟨e, rfl⟩ := h2
    simp only [Instr.findNow] at hr
    cases kv <;> cases m'.key <;> simp [Instr.sameNow] at hr
  ·exact hr t ht
theorem findA_now {d : TypeDesc} {h : Heap} {k : AV} {kv : Value} (hh : HeapR L g w h) (hk : VR L g w k kv) (hd : keyFits d k = true) (ht : keyTy L.P d = true) : ∀ (es : List (AV × AV)) (ms : List MapEntry) (n : Nat) (r : Option AV),
  findA h k es = some r → ms.length = es.length → (∀ (i : Nat) (a b : AV) (m : MapEntry), es[i]? = some (a, b) → ms[i]? = some m → VR L g w a m.key ∧ VR L g w b m.val) →
  match r with
  | some v => ∃ i m a, Finds L.P d kv ms n w (some (n + i, m.val)) ∧ ms[i]? = some m ∧ es[i]? = some (a, v) ∧ VR L g w v m.val ∧ Instr.sameBits 10000 m.key kv = true
  | none => Finds L.P d kv ms n w none
 | [], ms, n, r, h, hl, _ => by
  simp only [findA, Option.some.injEq] at h
  subst h
  have : ms = [] := by simpa using hl
  subst this
  exact .inl ⟨rfl, fun _ => rfl⟩
 | (a, b) :: es, [], n, r, h, hl, _ => by simp at hl
 | (a, b) :: es, m :: ms, n, r, h, hl, hr => by
  simp only [findA, Option.bind_eq_some_iff] at h
  obtain ⟨q, hq, h⟩ := h
  obtain ⟨hka, hvb⟩ := hr 0 a b m rfl rfl
  obtain ⟨hnow, hsame⟩ := keyEq_now hh hq hk hka hd ht
  cases q with
  | true =>
   simp only [cond_true, Option.some.injEq] at h
   subst h
   exact ⟨0, m, a, Finds.hit hnow, rfl, rfl, hvb, (hsame rfl).2⟩
  | false =>
   simp only [cond_false] at h
   have ih := findA_now hh hk hd ht es ms (n + 1) r h (by simpa using hl) (fun i a b m ha hm => hr (i + 1) a b m (by simpa using ha) (by simpa using hm))
   cases r with
   | none => exact Finds.miss hnow ih
   | some v =>
    obtain ⟨i, m', a', h1, h2, h3, h4, h5⟩ := ih
    exact ⟨i + 1, m', a', by rw [show n + (i + 1) = n + 1 + i by omega]; exact Finds.miss hnow h1, by simpa using h2, by simpa using h3, h4, h5⟩
theorem checkKey_run {P : Program} {t : TypeId} {d : TypeDesc} (hu : P.underlying t = some d) (hd : keyTy P d = true) (b : Bool) (v : Value) (w : World) : (Instr.checkKey b 10000 t v).run P w = .ok () w := by
 have : (10000 : Nat) = 9999 + 1 := rfl
 rw [this, Instr.checkKey, Sem.run_bind, run_underlying hu w, Result.andThen_ok]
 cases d <;> first | rfl | (simp [keyTy] at hd; done)
structure MapT (P : Program) (t : TypeId) (key : TypeDesc) (elem : TypeId) where
 k : TypeId
 u : P.underlying t = some (.map k elem)
 uk : P.underlying k = some key
 ok : keyTy P key = true
def valOk (a : AV) (v : Value) : Bool :=
 match a, v with
 | .agg cs, .agg vs => zeroOk cs vs.toList
 | _, _ => constOk a v
theorem valOk_vr {a : AV} {v : Value} (h : valOk a v = true) : VR L g w a v := by
 unfold valOk at h
 split at h
 ·obtain ⟨e1, e2, e3⟩ := zero_rel (L := L) h
  exact .agg _ _ e1 e2 (fun i c v hc hv => e3 g w i c v hc hv)
 ·exact constOk_vr h
theorem entries_run {h : Heap} {x : AV} {v : Value} {es : List (AV × AV)} (hh : HeapR L g w h) (he : entriesOf h x = some es) (hx : VR L g w x v) :
  ∃ ms : Array MapEntry, ms.size = es.length ∧ (∀ (i : Nat) (a b : AV) (m : MapEntry), es[i]? = some (a, b) → ms[i]? = some m → VR L g w a m.key ∧ VR L g w b m.val) ∧
   ((v = .map none ∧ ms = #[]) ∨ ∃ r cl, v = .map (some r) ∧ w.heap[r]? = some (.map ms cl)) := by
 unfold entriesOf at he
 split at he
 ·obtain rfl := Option.some.inj he
  cases hx
  exact ⟨#[], rfl, fun i a b m ha => by simp at ha, .inl ⟨rfl, rfl⟩⟩
 ·split at he
  ·rename_i o es' bs' ck' hob
   obtain rfl := Option.some.inj he
   obtain ⟨b, ms, h1, h2, h3, ⟨h4, -⟩, h5⟩ := hh.obj _ _ hob
   cases hx with
   | mp _ b' e c hβ =>
    rw [h1] at hβ
    simp only [Option.some.injEq, Prod.mk.injEq, Addr.mk.injEq] at hβ
    obtain ⟨⟨rfl, -, -⟩, -, -⟩ := hβ
    exact ⟨ms, h4, h5, .inr ⟨b, _, rfl, h3⟩⟩
  ·simp at he
 ·simp at he
theorem run_getObj_map {P : Program} {r : Nat} {ms : Array MapEntry} {cl : Nat} (h : w.heap[r]? = some (.map ms cl)) : (getObj r).run P w = .ok (.map ms cl) w := by
 simp [getObj, Sem.run, h]
def lookR (zero : AV) (ok : Bool) : Option AV → AV
 | some v => bif ok then .tup [v, .bool true] else v
 | none => bif ok then .tup [zero, .bool false] else zero
theorem lookup_run {s : St} {o : Oper} {act : Act} {x i : Operand} {t elem : TypeId} {key : TypeDesc} {zero ax ai r : AV} {ok : Bool} {es : List (AV × AV)} {q : Option AV}
  (T : MapT L.P t key elem) (hz : ∃ v, (zeroValue elem).run L.P w = .ok v w ∧ valOk zero v = true) (ho : o.op = .lookup t x i ok) (hh : HeapR L g w s.h) (hx : VR L g w ax (act.eval x)) (hi : VR L g w ai (act.eval i))
  (he : entriesOf s.h ax = some es) (hk : keyFits key ai = true) (hf : findA s.h ai es = some q)
  (hr : r = lookR zero ok q) : ∃ v, Ran L o act w v w ∧ VR L g w r v := by
 obtain ⟨ms, h1, h2, h3⟩ := entries_run hh he hx
 obtain ⟨z, hz1, hz2⟩ := hz
 have hnow := findA_now hh hi hk T.ok es ms.toList 0 q hf (by rw [Array.length_toList, h1]) (fun i a b m ha hm => h2 i a b m ha (by simpa using hm))
 have pair : ∀ (a : AV) (v : Value) (b : Bool), VR L g w a v → VR L g w (.tup [a, .bool b]) (.tuple #[v, .bool b]) := fun a v b hv =>
  .tup _ _ rfl (fun i c x hc hx => by
   match i, hc, hx with
   | 0, hc, hx => simp at hc hx; subst hc; subst hx; exact hv
   | 1, hc, hx => simp at hc hx; subst hc; subst hx; exact .bool _
   | n + 2, hc, hx => simp at hc)
 have key' : ∀ (v : Value), (Instr.lookup t (act.eval x) (act.eval i) ok).run L.P w = .ok v w → Ran L o act w v w := fun v hv => by
  left
  simp only [execOp, ho, Sem.run_bind, hv, Result.andThen_ok]
  rfl
 cases q with
 | some v =>
  obtain ⟨j, m, a, g1, g2, g3, g4, g5⟩ := hnow
  have hfind := g1.run T.uk
  simp only [Nat.zero_add] at hfind
  subst hr
  refine ⟨if ok then .tuple #[m.val, .bool true] else m.val, key' _ ?_, ?_⟩
  ·rcases h3 with ⟨e1, rfl⟩ | ⟨r, cl, e1, e2⟩
   ·simp at g2
   ·unfold Instr.lookup
    rw [e1]
    simp only [Sem.run_bind, run_underlying T.u w, Result.andThen_ok, run_getObj_map e2, Sem.run_pure, checkKey_run T.uk T.ok, hfind]
  ·cases ok with
   | true => exact pair v m.val true g4
   | false => exact g4
 | none =>
  have hfind := hnow.run T.uk
  subst hr
  refine ⟨if ok then .tuple #[z, .bool false] else z, key' _ ?_, ?_⟩
  ·rcases h3 with ⟨e1, rfl⟩ | ⟨r, cl, e1, e2⟩
   ·unfold Instr.lookup
    rw [e1]
    simp only [Sem.run_bind, run_underlying T.u w, Result.andThen_ok, Sem.run_pure, checkKey_run T.uk T.ok, hfind, hz1]
   ·unfold Instr.lookup
    rw [e1]
    simp only [Sem.run_bind, run_underlying T.u w, Result.andThen_ok, run_getObj_map e2, Sem.run_pure, checkKey_run T.uk T.ok, hfind, hz1]
  ·cases ok with
   | true => exact pair zero z false (valOk_vr hz2)
   | false => exact valOk_vr hz2
end Go.Am
/- Single operations, eighth part: a map is written, texts and bytes, copies, the small ones. -/
namespace Go.Am
variable {L : Link} {g g' : Gh} {w w' : World} {Λ Λ' : Nat → Option Nat}
theorem keyEq_true {h : Heap} {k i : AV} (he : keyEq h k i = some true) : k = i := by
 unfold keyEq at he
 split at he
 ·rw [eqK_eq, eqI_eq] at he
  rename_i a b c d
  by_cases e : a = c
  ·subst e; simp at he; rw [he]
  ·simp [e] at he
 ·rw [eqS_eq] at he
  simp at he
  rw [he]
 ·rename_i o off o' off'
  rw [nbeq] at he
  by_cases e : o = o'
  ·subst e
   simp only [decide_true, cond_true, nbeq, Option.some.injEq, decide_eq_true_eq] at he
   rw [he]
  ·simp only [e, decide_false, cond_false] at he
   cases hl : (liveP h o off && liveP h o' off') <;> rw [hl] at he <;> simp at he
 ·simp at he
theorem updA_now {d : TypeDesc} {h : Heap} {k v : AV} {kv : Value} (hh : HeapR L g w h) (hk : VR L g w k kv) (hd : keyFits d k = true) (ht : keyTy L.P d = true) : ∀ (es : List (AV × AV)) (ms : List MapEntry) (n : Nat) (es' : List (AV × AV)),
  updA h k v es = some es' → ms.length = es.length → (∀ (i : Nat) (a b : AV) (m : MapEntry), es[i]? = some (a, b) → ms[i]? = some m → VR L g w a m.key ∧ VR L g w b m.val) →
  (∃ i m, Finds L.P d kv ms n w (some (n + i, m.val)) ∧ ms[i]? = some m ∧ Instr.sameBits 10000 m.key kv = true ∧ i < es.length ∧ es'.length = es.length ∧ ∀ j : Nat, es'[j]? = if j = i then some (k, v) else es[j]?) ∨
  (Finds L.P d kv ms n w none ∧ es' = es ++ [(k, v)])
 | [], ms, n, es', h, hl, _ => by
  simp only [updA, Option.some.injEq] at h
  subst h
  have : ms = [] := by simpa using hl
  subst this
  exact .inr ⟨.inl ⟨rfl, fun _ => rfl⟩, rfl⟩
 | (a, b) :: es, [], n, es', h, hl, _ => by simp at hl
 | (a, b) :: es, m :: ms, n, es', h, hl, hr => by
  simp only [updA, Option.bind_eq_some_iff] at h
  obtain ⟨q, hq, h⟩ := h
  obtain ⟨hka, hvb⟩ := hr 0 a b m rfl rfl
  obtain ⟨hnow, hsame⟩ := keyEq_now hh hq hk hka hd ht
  cases q with
  | true =>
   simp only [cond_true, Option.some.injEq] at h
   subst h
   obtain rfl := keyEq_true hq
   refine .inl ⟨0, m, Finds.hit hnow, rfl, (hsame rfl).2, by simp, by simp, fun j => ?_⟩
   cases j <;> simp
  | false =>
   simp only [cond_false, Option.bind_eq_some_iff, Option.some.injEq] at h
   obtain ⟨r, h, rfl⟩ := h
   rcases updA_now hh hk hd ht es ms (n + 1) r h (by simpa using hl) (fun i a b m ha hm => hr (i + 1) a b m (by simpa using ha) (by simpa using hm)) with ⟨i, m', h1, h2, h3, h4, h5, h6⟩ | ⟨h1, h2⟩
   ·refine .inl ⟨i + 1, m', by rw [show n + (i + 1) = n + 1 + i by omega]; exact Finds.miss hnow h1, by simpa using h2, h3, by simpa using h4, by simp [h5], fun j => ?_⟩
    cases j with
    | zero => simp
    | succ j => simpa using h6 j
   ·exact .inr ⟨Finds.miss hnow h1, by rw [h2]; rfl⟩
theorem delA_now {d : TypeDesc} {h : Heap} {k : AV} {kv : Value} (hh : HeapR L g w h) (hk : VR L g w k kv) (hd : keyFits d k = true) (ht : keyTy L.P d = true) : ∀ (es : List (AV × AV)) (bs : List Nat) (ms : List MapEntry) (n : Nat) (p : List (AV × AV) × List Nat),
  delA h k es bs = some p → ms.length = es.length → ms.map (·.born) = bs → (∀ (i : Nat) (a b : AV) (m : MapEntry), es[i]? = some (a, b) → ms[i]? = some m → VR L g w a m.key ∧ VR L g w b m.val) →
  (∃ (i : Nat) (m : MapEntry), Finds L.P d kv ms n w (some (n + i, m.val)) ∧ i < ms.length ∧ p.1 = es.eraseIdx i ∧ p.2 = bs.eraseIdx i) ∨
  (Finds L.P d kv ms n w none ∧ p = (es, bs))
 | [], bs, ms, n, p, h, hl, hb, _ => by
  have : ms = [] := by simpa using hl
  subst this
  simp only [List.map_nil] at hb
  subst hb
  simp only [delA, Option.some.injEq] at h
  subst h
  exact .inr ⟨.inl ⟨rfl, fun _ => rfl⟩, rfl⟩
 | (a, b) :: es, bs, [], n, p, h, hl, _, _ => by simp at hl
 | (a, b) :: es, [], m :: ms, n, p, h, hl, hb, hr => by simp at hb
 | (a, b) :: es, c :: bs, m :: ms, n, p, h, hl, hb, hr => by
  simp only [delA, Option.bind_eq_some_iff] at h
  simp only [List.map_cons, List.cons.injEq] at hb
  obtain ⟨q, hq, h⟩ := h
  obtain ⟨hka, hvb⟩ := hr 0 a b m rfl rfl
  obtain ⟨hnow, hsame⟩ := keyEq_now hh hq hk hka hd ht
  cases q with
  | true =>
   simp only [cond_true, Option.some.injEq] at h
   subst h
   exact .inl ⟨0, m, Finds.hit hnow, by simp, rfl, rfl⟩
  | false =>
   simp only [cond_false, Option.bind_eq_some_iff, Option.some.injEq] at h
   obtain ⟨r, h, rfl⟩ := h
   rcases delA_now hh hk hd ht es bs ms (n + 1) r h (by simpa using hl) hb.2 (fun i a b m ha hm => hr (i + 1) a b m (by simpa using ha) (by simpa using hm)) with ⟨i, m', h1, h2, h3, h4⟩ | ⟨h1, h2⟩
   ·exact .inl ⟨i + 1, m', by rw [show n + (i + 1) = n + 1 + i by omega]; exact Finds.miss hnow h1, by simpa using h2, by simp [h3], by simp [h4]⟩
   ·exact .inr ⟨Finds.miss hnow h1, by rw [h2]⟩
def World.setO (w : World) (b : Nat) (x : Obj) : World := { w with heap := w.heap.setIfInBounds b x }
theorem setO_size (w : World) (b : Nat) (x : Obj) : (World.setO w b x).heap.size = w.heap.size := by simp [World.setO]
theorem setO_ne (w : World) (b : Nat) (x : Obj) (i : Nat) (h : i ≠ b) : (World.setO w b x).heap[i]? = w.heap[i]? := by
 simp [World.setO, Array.getElem?_setIfInBounds, Ne.symm h]
theorem setO_at (w : World) (b : Nat) (x : Obj) (h : b < w.heap.size) : (World.setO w b x).heap[b]? = some x := by
 simp [World.setO, Array.getElem?_setIfInBounds, h]
theorem post_setO {s : St} {act : Act} {dst : Option Nat} {r : AV} {v : Value} {o b : Nat} {x : AObj} {C : Obj} (h : SimS L g w Λ s act.tmps) (hb : g.ρ b = .obj o) (ho : ∃ e y, g.β o e = some y)
  (hx : ObjR L g (World.setO w b C) o x) (hi : ∀ d, dst = some d → d < act.tmps.size) (hs : SlotR L g (World.setO w b C) Λ r v) (hv : ∀ t cs, r ≠ .lbox t cs) :
  Post L g w Λ act dst r s { s with h := s.h.put o x } (fun _ => False) v (World.setO w b C) g Λ := by
 have k : Keeps g w g (World.setO w b C) := ⟨fun _ _ _ h => h, fun i hi => ⟨hi, setO_ne _ _ _ _ (fun e => by subst e; rw [hb] at hi; simp at hi)⟩, rfl, rfl, rfl⟩
 refine ⟨⟨fun i y hy => ?_, h.heap.lt, fun i hi => h.heap.fresh i (by rw [setO_size] at hi; exact hi)⟩, FrR.setD (h.fr.mono k (fun t b9 _ h9 => ⟨h9, setO_ne _ _ _ _ (fun e => by subst e; rw [hb] at h9; simp at h9)⟩) (by rw [setO_size]; exact Nat.le_refl _)) hi hs hv,
  ⟨k, fun i hi hn => ⟨hi, setO_ne _ _ _ _ (fun e => by subst e; rw [hb] at hi; simp at hi), hn⟩⟩, by rw [setO_size]; exact Nat.le_refl _, fun _ h _ => h, rfl⟩
 rcases put_get hy with ⟨rfl, rfl⟩ | ⟨hio, hy⟩
 ·exact hx
 ·exact (h.heap.obj i y hy).mono k (fun b9 h9 => ⟨h9, setO_ne _ _ _ _ (fun e => by subst e; rw [hb] at h9; simp at h9; exact hio h9.symm)⟩) (by rw [setO_size]; exact Nat.le_refl _) (fun _ h => h)
theorem run_setObj_map {P : Program} {r : Nat} {ms : Array MapEntry} {cl : Nat} {x : Obj} (h : w.heap[r]? = some (.map ms cl)) : (setObj r x).run P w = .ok () (World.setO w r x) := by
 simp [setObj, Sem.run, h, World.setO]
theorem mapupd_run {s : St} {o : Oper} {act : Act} {x i y : Operand} {t elem : TypeId} {key : TypeDesc} {ai ay : AV} {ob ck : Nat} {bs : List Nat} {es es' : List (AV × AV)} (h : SimS L g w Λ s act.tmps)
  (T : MapT L.P t key elem) (ho : o.op = .mapUpdate t x i y ∨ o.op = .insert t x i y) (hx : VR L g w (.mp ob) (act.eval x)) (hi : VR L g w ai (act.eval i)) (hy : VR L g w ay (act.eval y)) (hdst : ∀ d, o.dst = some d → d < act.tmps.size)
  (he : s.h.get ob = some (.map es bs ck)) (hk : keyFits key ai = true) (hf : updA s.h ai ay es = some es') :
  ∃ v w', Ran L o act w v w' ∧ Post L g w Λ act o.dst undefA s { s with h := s.h.put ob (bif Nat.beq es'.length es.length then .map es' bs ck else .map es' (bs ++ [ck]) (ck + 1)) } (fun _ => False) v w' g Λ := by
 obtain ⟨b, ms, h1, h2, h3, ⟨h4, h4b⟩, h5⟩ := h.heap.obj _ _ he
 have hb : act.eval x = .map (some b) := by
  generalize act.eval x = vx at hx
  cases hx with
  | mp _ b' e c hβ =>
   rw [h1] at hβ
   simp only [Option.some.injEq, Prod.mk.injEq, Addr.mk.injEq] at hβ
   obtain ⟨⟨rfl, -, -⟩, -, -⟩ := hβ
   rfl
 have hlt : b < w.heap.size := by
  have := (Array.getElem?_eq_some_iff.1 h3).1
  exact this
 have hund : VR L g w undefA undef := .tup [] #[] rfl (fun i c v hc => by simp at hc)
 have fin : ∀ (ms' : Array MapEntry) (cl' : Nat) (bs' : List Nat), (bif Nat.beq es'.length es.length then AObj.map es' bs ck else .map es' (bs ++ [ck]) (ck + 1)) = .map es' bs' cl' → (Instr.mapUpdate t (.map (some b)) (act.eval i) (act.eval y)).run L.P w = .ok () (World.setO w b (.map ms' cl')) → (ms'.size = es'.length ∧ ms'.toList.map (·.born) = bs') →
   (∀ (i : Nat) (k v : AV) (m : MapEntry), es'[i]? = some (k, v) → ms'[i]? = some m → VR L g w k m.key ∧ VR L g w v m.val) →
   ∃ v w', Ran L o act w v w' ∧ Post L g w Λ act o.dst undefA s { s with h := s.h.put ob (bif Nat.beq es'.length es.length then .map es' bs ck else .map es' (bs ++ [ck]) (ck + 1)) } (fun _ => False) v w' g Λ := fun ms' cl' bs' hX hrun hsz hrel => by
  rw [hX]
  have k : Keeps g w g (World.setO w b (.map ms' cl')) := ⟨fun _ _ _ h => h, fun i hi => ⟨hi, setO_ne _ _ _ _ (fun e => by subst e; rw [h2] at hi; simp at hi)⟩, rfl, rfl, rfl⟩
  refine ⟨undef, World.setO w b (.map ms' cl'), .inr ⟨?_, rfl⟩, post_setO h h2 ⟨0, _, h1⟩ ⟨b, ms', h1, h2, setO_at _ _ _ hlt, hsz, fun i k' v m hk hm => ⟨((hrel i k' v m hk hm).1).mono k, ((hrel i k' v m hk hm).2).mono k⟩⟩ hdst (vr_slot (hund.mono k)) (by simp [undefA])⟩
  rcases ho with ho | ho <;> (simp only [execOp, ho, hb, Sem.run_bind, hrun, Result.andThen_ok]; rfl)
 rcases updA_now h.heap hi hk T.ok es ms.toList 0 es' hf (by rw [Array.length_toList, h4]) (fun i a b m ha hm => h5 i a b m ha (by simpa using hm)) with ⟨j, m, g1, g2, g3, g4, g5, g6⟩ | ⟨g1, g2⟩
 ·have hfind := g1.run T.uk
  have hmj : ms[j]? = some m := by simpa using g2
  refine fin (ms.modify j fun e => { e with key := act.eval i, val := act.eval y }) ck bs (by rw [nbeq, g5]; simp) ?_ ⟨by rw [Array.size_modify, h4, g5], ?_⟩ (fun i' k' v m' hk' hm' => ?_)
  ·unfold Instr.mapUpdate
   simp only [Sem.run_bind, run_underlying T.u w, Result.andThen_ok, run_getObj_map h3, Sem.run_pure, checkKey_run T.uk T.ok, hfind, Nat.zero_add, hmj, Option.map_some, Option.getD_some, Instr.keyThatStays, g3, if_true]
   exact run_setObj_map h3
  ·rw [← h4b]
   refine List.ext_getElem? (fun u => ?_)
   simp only [List.getElem?_map, Array.getElem?_toList, Array.getElem?_modify]
   by_cases e : j = u
   ·subst e; rw [if_pos rfl, hmj]; rfl
   ·rw [if_neg e]
  ·rw [g6 i'] at hk'
   rw [Array.getElem?_modify] at hm'
   by_cases e : i' = j
   ·subst e
    rw [if_pos rfl] at hk' hm'
    simp only [Option.some.injEq, Prod.mk.injEq] at hk'
    obtain ⟨rfl, rfl⟩ := hk'
    rw [hmj] at hm'
    simp only [Option.map_some, Option.some.injEq] at hm'
    subst hm'
    exact ⟨hi, hy⟩
   ·rw [if_neg e] at hk'
    rw [if_neg (fun h => e h.symm)] at hm'
    exact h5 i' k' v m' hk' hm'
 ·have hfind := g1.run T.uk
  refine fin (ms.push { key := act.eval i, val := act.eval y, born := ck }) (ck + 1) (bs ++ [ck]) (by rw [nbeq, g2]; simp) ?_ ⟨by rw [Array.size_push, h4, g2]; simp, by rw [Array.toList_push, List.map_append, h4b]; rfl⟩ (fun i' k' v m' hk' hm' => ?_)
  ·unfold Instr.mapUpdate
   simp only [Sem.run_bind, run_underlying T.u w, Result.andThen_ok, run_getObj_map h3, Sem.run_pure, checkKey_run T.uk T.ok, hfind]
   exact run_setObj_map h3
  ·rw [g2, List.getElem?_append] at hk'
   rw [Array.getElem?_push, h4] at hm'
   by_cases e : i' < es.length
   ·rw [if_pos e] at hk'
    rw [if_neg (by omega)] at hm'
    exact h5 i' k' v m' hk' hm'
   ·rw [if_neg e] at hk'
    have hz : i' - es.length = 0 := by
     have := (List.getElem?_eq_some_iff.1 hk').1
     simp at this; omega
    rw [hz] at hk'
    simp only [List.getElem?_cons_zero, Option.some.injEq, Prod.mk.injEq] at hk'
    obtain ⟨rfl, rfl⟩ := hk'
    rw [if_pos (by omega)] at hm'
    obtain rfl := Option.some.inj hm'
    exact ⟨hi, hy⟩
theorem map_eraseIdx {α β : Type} (f : α → β) : ∀ (l : List α) (i : Nat), (l.eraseIdx i).map f = (l.map f).eraseIdx i
 | [], _ => rfl
 | _ :: _, 0 => rfl
 | x :: l, i + 1 => by simp only [List.eraseIdx, List.map_cons, map_eraseIdx f l i]
theorem mapdel_run {s : St} {act : Act} {o : Oper} {ty : TypeId} {ats : Array TypeId} {x i : Operand} {t elem : TypeId} {key : TypeDesc} {ai : AV} {ob ck : Nat} {bs : List Nat} {es : List (AV × AV)} {p : List (AV × AV) × List Nat} (h : SimS L g w Λ s act.tmps)
  (T : MapT L.P t key elem) (hx : VR L g w (.mp ob) (act.eval x)) (hi : VR L g w ai (act.eval i)) (hat : ats[0]? = some t) (hdst : ∀ d, o.dst = some d → d < act.tmps.size)
  (he : s.h.get ob = some (.map es bs ck)) (hk : keyFits key ai = true) (hf : delA s.h ai es bs = some p) :
  ∃ w', (Builtin.delete_ ats ty #[act.eval x, act.eval i]).run L.P w = .ok undef w' ∧ Post L g w Λ act o.dst undefA s { s with h := s.h.put ob (.map p.1 p.2 ck) } (fun _ => False) undef w' g Λ := by
 obtain ⟨b, ms, h1, h2, h3, ⟨h4, h4b⟩, h5⟩ := h.heap.obj _ _ he
 have hb : act.eval x = .map (some b) := by
  generalize act.eval x = vx at hx
  cases hx with
  | mp _ b' e c hβ =>
   rw [h1] at hβ
   simp only [Option.some.injEq, Prod.mk.injEq, Addr.mk.injEq] at hβ
   obtain ⟨⟨rfl, -, -⟩, -, -⟩ := hβ
   rfl
 have hlt : b < w.heap.size := (Array.getElem?_eq_some_iff.1 h3).1
 have hund : VR L g w undefA undef := .tup [] #[] rfl (fun i c v hc => by simp at hc)
 have fin : ∀ (ms' : Array MapEntry), (Builtin.delete_ ats ty #[.map (some b), act.eval i]).run L.P w = .ok undef (World.setO w b (.map ms' ck)) → (ms'.size = p.1.length ∧ ms'.toList.map (·.born) = p.2) →
   (∀ (i : Nat) (k v : AV) (m : MapEntry), p.1[i]? = some (k, v) → ms'[i]? = some m → VR L g w k m.key ∧ VR L g w v m.val) →
   ∃ w', (Builtin.delete_ ats ty #[act.eval x, act.eval i]).run L.P w = .ok undef w' ∧ Post L g w Λ act o.dst undefA s { s with h := s.h.put ob (.map p.1 p.2 ck) } (fun _ => False) undef w' g Λ := fun ms' hrun hsz hrel => by
  have k : Keeps g w g (World.setO w b (.map ms' ck)) := ⟨fun _ _ _ h => h, fun i hi => ⟨hi, setO_ne _ _ _ _ (fun e => by subst e; rw [h2] at hi; simp at hi)⟩, rfl, rfl, rfl⟩
  exact ⟨World.setO w b (.map ms' ck), by rw [hb]; exact hrun, post_setO h h2 ⟨0, _, h1⟩ ⟨b, ms', h1, h2, setO_at _ _ _ hlt, hsz, fun i k' v m hk hm => ⟨((hrel i k' v m hk hm).1).mono k, ((hrel i k' v m hk hm).2).mono k⟩⟩ hdst (vr_slot (hund.mono k)) (by simp [undefA])⟩
 have runIt : ∀ (r : Option (Nat × Value)) (ms' : Array MapEntry), (Instr.findKey T.k (act.eval i) ms.toList).run L.P w = .ok r w → (match r with | some (j, _) => ms.eraseIdxIfInBounds j | none => ms) = ms' →
   (Builtin.delete_ ats ty #[.map (some b), act.eval i]).run L.P w = .ok undef (World.setO w b (.map ms' ck)) := fun r ms' hr hm => by
  unfold Builtin.delete_
  simp only [hat, List.getElem?_toArray, List.getElem?_cons_zero, List.getElem?_cons_succ, Sem.run_bind, run_underlying T.u w, Result.andThen_ok, run_getObj_map h3, Sem.run_pure, checkKey_run T.uk T.ok, hr]
  cases r with
  | none => simp only at hm ⊢; subst hm; rw [Sem.run_bind, run_setObj_map h3]; rfl
  | some q => simp only at hm ⊢; subst hm; rw [Sem.run_bind, run_setObj_map h3]; rfl
 have hel : ∀ (j : Nat) (a b' : AV) (m : MapEntry), es[j]? = some (a, b') → ms.toList[j]? = some m → VR L g w a m.key ∧ VR L g w b' m.val := fun j a b' m ha hm => h5 j a b' m ha (by simpa using hm)
 rcases delA_now h.heap hi hk T.ok es bs ms.toList 0 p hf (by rw [Array.length_toList, h4]) h4b hel with ⟨j, m, g1, g2, g3, g4⟩ | ⟨g1, g2⟩
 ·have hfind := g1.run T.uk
  simp only [Nat.zero_add] at hfind
  have hjs : j < ms.size := by simpa using g2
  have hl : (ms.eraseIdxIfInBounds j).toList = ms.toList.eraseIdx j := by
   simp [Array.eraseIdxIfInBounds, hjs]
  refine fin _ (runIt _ _ hfind rfl) ⟨?_, ?_⟩ (fun i' k' v m' hk' hm' => ?_)
  ·rw [← Array.length_toList, hl, g3, List.length_eraseIdx, List.length_eraseIdx, Array.length_toList, h4]
  ·rw [hl, g4, ← h4b]
   exact map_eraseIdx _ _ _
  ·rw [← Array.getElem?_toList, hl, List.getElem?_eraseIdx] at hm'
   rw [g3, List.getElem?_eraseIdx] at hk'
   split at hk'
   ·rename_i hlt'
    rw [if_pos hlt'] at hm'
    exact hel _ _ _ _ hk' hm'
   ·rename_i hlt'
    rw [if_neg hlt'] at hm'
    exact hel _ _ _ _ hk' hm'
 ·have hfind := g1.run T.uk
  subst g2
  exact fin ms (runIt _ _ hfind rfl) ⟨h4, h4b⟩ h5
theorem mapdel_nil {w : World} {ats : Array TypeId} {ty : TypeId} {v : Value} {t elem : TypeId} {key : TypeDesc} (T : MapT L.P t key elem) (hat : ats[0]? = some t) : (Builtin.delete_ ats ty #[.map none, v]).run L.P w = .ok undef w := by
 unfold Builtin.delete_
 simp only [hat, List.getElem?_toArray, List.getElem?_cons_zero, List.getElem?_cons_succ, Sem.run_bind, run_underlying T.u w, Result.andThen_ok, Sem.run_pure, checkKey_run T.uk T.ok]
 rfl
end Go.Am
/- Single operations, ninth part: texts and bytes, and the small ones. -/
namespace Go.Am
variable {L : Link} {g g' : Gh} {w w' : World} {Λ Λ' : Nat → Option Nat}
theorem toBytes_run {s : St} {act : Act} {o : Oper} {src dst e : TypeId} {x : Operand} {l : List Nat} {o' : Nat} (h : SimS L g w Λ s act.tmps) (ho' : ∀ e, g.β o' e = none) (hlt : o' < s.h.next) (hi : ∀ d, o.dst = some d → d < act.tmps.size)
  (ho : o.op = .convert src dst x) (hx : VR L g w (.str l) (act.eval x)) (hs : ∃ d, L.P.underlying src = some d) (hd : L.P.underlying dst = some (.slice e)) (he : L.P.underlying e = some (.int .u8)) :
  ∃ v w' g', Ran L o act w v w' ∧ Post L g w Λ act o.dst (.hs 1 o' 0 0 l.length false) s { s with h := s.h.put o' (.row 1 0 (byteCells l)) } (fun i => i = o') v w' g' Λ := by
 generalize hv : act.eval x = v at hx
 cases hx with
 | str b =>
  obtain ⟨ds, hs⟩ := hs
  let q : Question := .appendCap b.size 0 e
  let cap := q.cut (w.tape w.drawn q)
  have hcap : b.size ≤ cap := Nat.le_add_right _ _
  let C : Array Value := b.data.map (fun c => Value.int .u8 c.toNat) ++ Array.replicate (cap - b.size) (.int .u8 0)
  have hsz : b.data.size = b.size := rfl
  have hC : C.size = cap := by simp only [C, Array.size_append, Array.size_map, Array.size_replicate, hsz]; omega
  let w1 : World := { w with drawn := w.drawn + 1 }
  let w3 : World := (w1.alloc (.cells C e)).freeze ⟨w.heap.size, C.size, none⟩ 1
  have hnew : w3.heap[w.heap.size]? = some (.cells C e (C.size, C.size + 1)) := by
   have h0 : (w1.alloc (.cells C e)).heap[w.heap.size]? = some (.cells C e (0, 0)) := alloc_at w1 _
   simp only [w3, World.freeze]
   rw [if_neg (by omega)]
   simp only [Array.getElem?_modify, if_true, h0, Option.map_some]
   rfl
  have m : More w w3 (.cells C e (C.size, C.size + 1)) := by
   refine ⟨fun i hi => ?_, hnew, ?_, by simp only [w3, World.freeze]; rw [if_neg (by omega)]; exact ⟨rfl, rfl, rfl⟩⟩
   ·simp only [w3, World.freeze]
    rw [if_neg (by omega)]
    simp only [Array.getElem?_modify]
    rw [if_neg (by omega)]
    exact alloc_old w1 _ i hi
   ·simp only [w3, World.freeze]
    rw [if_neg (by omega)]
    simp [w1]
  obtain ⟨b1, b2⟩ := byteCells_spec b.data.toList
  have hone : ∀ (i : Nat) (v : Value), C[i]? = some v → v.oneCell' = true := fun i v hv => by
   simp only [C, Array.getElem?_append] at hv
   split at hv
   ·simp only [Array.getElem?_map, Option.map_eq_some_iff] at hv
    obtain ⟨c, -, rfl⟩ := hv; rfl
   ·rw [Array.getElem?_replicate] at hv
    split at hv
    ·obtain rfl := Option.some.inj hv; rfl
    ·simp at hv
  have hrel : ∀ (i : Nat) (c : AV) (v : Value), (byteCells (b.data.toList.map UInt8.toNat))[i]? = some c → C[i]? = some v → VR L g w c v := fun i c v hc hv => by
   have hil : i < b.data.size := by
    have := (List.getElem?_eq_some_iff.1 hc).1
    rw [b1, Array.length_toList] at this; exact this
   rw [b2 i] at hc
   simp only [Option.map_eq_some_iff] at hc
   obtain ⟨u, hu, rfl⟩ := hc
   simp only [C] at hv
   rw [Array.getElem?_append, if_pos (by simpa using hil), Array.getElem?_map, ← Array.getElem?_toList, hu] at hv
   simp only [Option.map_some, Option.some.injEq] at hv
   subst hv
   exact .int _ _
  refine ⟨.slice (some ⟨w.heap.size, 0, none⟩) b.size cap, w3, g.obj w o' 1 cap, .inl ?_, ?_⟩
  ·have hsh : (w1.alloc (.cells C e)).shape? w.heap.size = some (e, C.size) := by
    have h0 : (w1.alloc (.cells C e)).heap[w.heap.size]? = some (.cells C e (0, 0)) := alloc_at w1 _
    simp [World.shape?, h0]
   have hconv : (Conv.stringToBytes e b).run L.P w = .ok (.slice (some ⟨w.heap.size, 0, none⟩) b.size cap) w3 := by
    unfold Conv.stringToBytes
    simp only [Sem.run_bind, run_choose, Question.forced, Bool.false_eq_true, if_false, Result.andThen_ok, run_newRow, markStringish, run_shape]
    show Result.andThen (Sem.run L.P (match (w1.alloc (.cells C e)).shape? w.heap.size with | some (_, n) => freeze ⟨w.heap.size, n, none⟩ 1 | _ => pure ()) (w1.alloc (.cells C e))) _ = _
    rw [hsh]
    simp only [run_freeze, Result.andThen_ok, Sem.run_pure]
    rfl
   have : (convert src dst (.string b)).run L.P w = .ok (.slice (some ⟨w.heap.size, 0, none⟩) b.size cap) w3 := by
    unfold convert
    simp only [Sem.run_bind, run_underlying hs w, run_underlying hd w, Result.andThen_ok]
    cases ds <;> simp only [Sem.run_bind, run_underlying he w, Result.andThen_ok] <;> exact hconv
   simp only [execOp, ho, hv, Sem.run_bind, this, Result.andThen_ok]
   rfl
  ·rw [show (b.data.toList.map UInt8.toNat).length = b.size by simp [hsz]]
   refine post_obj h m ho' hlt (obj_row h.heap m (.inl (Nat.le_refl _)) ho' (by rw [b1, Array.length_toList, hsz]; omega) (by rw [hC]; omega) (Nat.le_succ _) hone hrel) hi ?_ (by simp)
   exact VR.hs _ _ _ _ _ _ w.heap.size 0 cap _ _ (by simp [Gh.obj]) (by omega) (by simp) ⟨rfl, rfl, fun _ => by simp⟩
theorem bytesOf_spec : ∀ (cs : List AV) (b : List Nat), bytesOf cs = some b → b.length = cs.length ∧ (∀ x ∈ b, x < 256) ∧ ∀ i : Nat, cs[i]? = (b[i]?).map fun n : Nat => AV.int .u8 (.ofNat n)
 | [], b, h => by simp only [bytesOf, Option.some.injEq] at h; subst h; simp
 | c :: cs, b, h => by
  simp only [bytesOf, Option.bind_eq_some_iff, Option.some.injEq] at h
  obtain ⟨x, hx, r, hr, rfl⟩ := h
  obtain ⟨e1, e2, e3⟩ := bytesOf_spec cs r hr
  unfold byteOf at hx
  split at hx
  ·rename_i n
   rw [nblt] at hx
   by_cases hn : n < 256
   ·simp [hn] at hx
    subst hx
    refine ⟨by simp [e1], fun y hy => by
     rcases List.mem_cons.1 hy with rfl | hy
     ·exact hn
     ·exact e2 y hy, fun i => ?_⟩
    cases i with
    | zero => rfl
    | succ i => simpa using e3 i
   ·simp [hn] at hx
  ·simp at hx
theorem toStr_run {s : St} {act : Act} {o : Oper} {src dst e : TypeId} {x : Operand} {a : AV} {n : Nat} {cs : List AV} {b : List Nat} (hh : HeapR L g w s.h) (ho : o.op = .convert src dst x) (hx : VR L g w a (act.eval x))
  (hs : L.P.underlying src = some (.slice e)) (he : L.P.underlying e = some (.int .u8)) (hd : L.P.underlying dst = some .string) (hna : ∀ l, a ≠ .str l)
  (hn : lenA s.h a = some n) (hc : cellsAt s.h 1 a n = some cs) (hb : bytesOf cs = some b) : ∃ v, Ran L o act w v w ∧ VR L g w (.str b) v := by
 obtain ⟨hln, C, hC1, hC2, hC3, hC4⟩ := cellsAt_run hh hc hx
 obtain ⟨b1, b2, b3⟩ := bytesOf_spec cs b hb
 have hlen := lenOf_run hn hc hx
 rw [Nat.mul_one] at hln
 have hCb : C = ((b.map Int.ofNat).map (Value.int .u8)).toArray := by
  apply Array.ext_getElem?
  intro j
  simp only [List.getElem?_toArray, List.getElem?_map]
  by_cases hj : j < b.length
  ·have h2 := b3 j
   rw [List.getElem?_eq_getElem hj] at h2 ⊢
   have h1 : C[j]? = some C[j] := Array.getElem?_eq_getElem (by omega)
   have h3 := hC3 j _ _ h2 h1
   generalize C[j] = u at h1 h3
   cases h3
   rw [h1]; rfl
  ·rw [Array.getElem?_eq_none (by omega), List.getElem?_eq_none (by omega)]; rfl
 have hfold : ∀ (ns : List Nat) (s : ByteArray), (∀ x ∈ ns, x < 256) → (((ns.map Int.ofNat).foldl (fun r n => r.push (UInt8.ofNat n.toNat)) s).data.toList.map UInt8.toNat) = s.data.toList.map UInt8.toNat ++ ns := by
  intro ns
  induction ns with
  | nil => intro s _; simp
  | cons x ns ih =>
   intro s hs
   simp only [List.map_cons, List.foldl_cons]
   rw [ih _ (fun y hy => hs y (by simp [hy]))]
   have hx := hs x (by simp)
   obtain ⟨⟨sl⟩⟩ := s
   show ((⟨sl⟩ : Array UInt8).push (UInt8.ofNat x)).toList.map UInt8.toNat ++ ns = sl.map UInt8.toNat ++ x :: ns
   simp [UInt8.toNat_ofNat']
   omega
 have hvr : VR L g w (.str b) (.string ((b.map Int.ofNat).foldl (fun r n => r.push (UInt8.ofNat n.toNat)) ByteArray.empty)) := by
  have := VR.str (L := L) (g := g) (w := w) ((b.map Int.ofNat).foldl (fun r n => r.push (UInt8.ofNat n.toNat)) ByteArray.empty)
  rw [hfold b _ b2] at this
  exact this
 have fin : ∀ v, (Conv.bytesToString (act.eval x)).run L.P w = .ok v w → Ran L o act w v w := fun v hv => by
  left
  have : (convert src dst (act.eval x)).run L.P w = .ok v w := by
   generalize act.eval x = vx at hv
   unfold convert
   simp only [Sem.run_bind, run_underlying hs w, run_underlying hd w, Result.andThen_ok]
   cases vx <;> first | (simp only [Sem.run_bind, run_underlying he w, Result.andThen_ok]; exact hv) | (simp [Conv.bytesToString] at hv; done)
  simp only [execOp, ho, Sem.run_bind, this, Result.andThen_ok]
  rfl
 have go : ∀ (xa : Addr) (cap : Nat), act.eval x = .slice (some xa) n cap → ∃ v, Ran L o act w v w ∧ VR L g w (.str b) v := fun xa cap hv => by
  refine ⟨_, fin _ ?_, hvr⟩
  rw [hv]
  have hr := hC4 w rfl
  rw [hv] at hr
  simp only [Builtin.firstCells, Nat.mul_one] at hr
  rw [hCb] at hr
  exact run_bytesToString w xa n cap _ hr
 generalize hv : act.eval x = v at hx
 cases hx <;> first | (simp [lenA] at hn; done) | (exact absurd rfl (hna _)) | skip
 ·-- nil
  simp only [lenA, Option.some.injEq] at hn
  subst hn
  have hb0 : b = [] := by apply List.eq_nil_of_length_eq_zero; omega
  subst hb0
  exact ⟨.string .empty, fin _ (by rw [hv]; rfl), VR.str .empty⟩
 ·simp only [lenA, Option.some.injEq] at hn
  subst hn
  exact go _ _ hv
 ·simp only [lenA, Option.some.injEq] at hn
  subst hn
  rename_i ao cap hfu hno
  cases ao with
  | none =>
   have hb0 : b = [] := by apply List.eq_nil_of_length_eq_zero; omega
   subst hb0
   exact ⟨.string .empty, fin _ (by rw [hv]; rfl), VR.str .empty⟩
  | some a => exact go _ _ hv
 ·simp only [lenA, Option.some.injEq] at hn
  subst hn
  exact go _ _ hv
 ·exfalso
  unfold cellsAt at hc
  simp at hc
 ·exfalso
  unfold cellsAt at hc
  simp at hc
theorem toInt_run {o : Oper} {act : Act} {src dst : TypeId} {x : Operand} {k k' : IntKind} {n : Int} (ho : o.op = .convert src dst x) (hx : VR L g w (.int k n) (act.eval x)) (hs : ∃ d, L.P.underlying src = some d)
  (hd : L.P.underlying dst = some (.int k')) : ∃ v, Ran L o act w v w ∧ VR L g w (.int k' (wrapA k' n)) v := by
 obtain ⟨d, hs⟩ := hs
 refine ⟨.int k' (k'.wrap n), .inl ?_, by rw [wrapA_eq]; exact .int _ _⟩
 generalize hv : act.eval x = v at hx
 cases hx
 have : (convert src dst (.int k n)).run L.P w = .ok (.int k' (k'.wrap n)) w := by
  unfold convert
  simp only [Sem.run_bind, run_underlying hs w, run_underlying hd w, Result.andThen_ok]
  cases d <;> rfl
 simp only [execOp, ho, hv, Sem.run_bind, this, Result.andThen_ok]
 rfl
theorem pick_run {o : Oper} {act : Act} {c a b : Operand} {t : Bool} (ho : o.op = .pick c a b) (hc : act.eval c = .bool t) : Ran L o act w (if t then act.eval a else act.eval b) w := by
 left
 simp only [execOp, ho, hc, asBool, Sem.run_bind, Sem.run_pure, Result.andThen_ok]
def isPtr : AV → Bool
 | .ptr _ _ | .eptr _ _ _ | .vptr _ | .lptr _ _ _ => true
 | _ => false
theorem nilck_run {o : Oper} {act : Act} {x : Operand} {a : AV} {s : St} (ho : o.op = .nilCheck x) (hx : SlotR L g w Λ a (act.eval x))
  (ha : isPtr a = true) : Ran L o act w (act.eval x) w := by
 left
 generalize hv : act.eval x = v at hx
 cases a <;> first | (simp [isPtr] at ha; done) | skip
 ·cases hx; simp only [execOp, ho, hv]; rfl
 ·cases hx; simp only [execOp, ho, hv]; rfl
 ·cases hx; simp only [execOp, ho, hv]; rfl
 ·obtain ⟨b, -, rfl⟩ := hx; simp only [execOp, ho, hv]; rfl
theorem ext_run {o : Oper} {act : Act} {x : Operand} {i : Nat} {vs : List AV} {r : AV} (ho : o.op = .extract x i) (hx : VR L g w (.tup vs) (act.eval x)) (hr : vs[i]? = some r) : ∃ v, Ran L o act w v w ∧ VR L g w r v := by
 generalize hv : act.eval x = v at hx
 cases hx with
 | tup _ us hl h' =>
  have hi : i < us.size := by
   have := (List.getElem?_eq_some_iff.1 hr).1; omega
  refine ⟨us[i], .inl ?_, h' i r _ hr (Array.getElem?_eq_getElem hi)⟩
  simp only [execOp, ho, hv, Instr.extract, Array.getElem?_eq_getElem hi, Sem.run_bind, Sem.run_pure, Result.andThen_ok]
theorem mkif_run {o : Oper} {act : Act} {x : Operand} {t : TypeId} {n : Nat} {a : AV} (ho : o.op = .makeInterface t x) (hx : VR L g w a (act.eval x)) (hn : L.ty n = t) (hc : ∃ d, L.P.underlying t = some d ∧ ∀ m, d ≠ .interface m) :
  ∃ v, Ran L o act w v w ∧ VR L g w (.iface n a) v := by
 obtain ⟨d, hd, hm⟩ := hc
 refine ⟨.iface t (act.eval x), .inl ?_, by rw [← hn]; exact .iface n a _ hx⟩
 simp only [execOp, ho, Instr.makeInterface, Sem.run_bind, run_underlying hd w, Result.andThen_ok]
 cases d <;> first | rfl | (exact absurd rfl (hm _))
theorem datAll_vr {fr : Fr} {st : Nat} {act : Act} (hf : FrR L g w Λ fr st act.tmps) : ∀ (xs : List Operand) (axs : List Opd) (vs : List AV), xs.length = axs.length → (∀ (i : Nat) (x : Operand) (a : Opd), xs[i]? = some x → axs[i]? = some a → opdOk L x a = true) → datAll fr axs = some vs →
  vs.length = xs.length ∧ (∀ v ∈ vs, v.dat = true) ∧ ∀ (i : Nat) (v : AV) (x : Operand), vs[i]? = some v → xs[i]? = some x → VR L g w v (act.eval x)
 | [], [], vs, _, _, h => by simp only [datAll, Option.some.injEq] at h; subst h; simp
 | [], _ :: _, _, hl, _, _ => by simp at hl
 | _ :: _, [], _, hl, _, _ => by simp at hl
 | x :: xs, a :: axs, vs, hl, ho, h => by
  simp only [datAll, Option.bind_eq_some_iff, Option.some.injEq] at h
  obtain ⟨v, hv, vs', hvs, rfl⟩ := h
  obtain ⟨h1, h2⟩ := dat_vr (ho 0 x a rfl rfl) hf hv
  obtain ⟨e1, e2, e3⟩ := datAll_vr hf xs axs vs' (by simpa using hl) (fun i x a hx ha => ho (i + 1) x a (by simpa using hx) (by simpa using ha)) hvs
  refine ⟨by simp [e1], fun u hu => ?_, fun i u y hu hy => ?_⟩
  ·rcases List.mem_cons.1 hu with rfl | hu
   ·exact h2
   ·exact e2 u hu
  ·cases i with
   | zero => simp at hu hy; subst hu; subst hy; exact h1
   | succ i => simp at hu hy; exact e3 i u y hu hy
theorem mkfn_run {o : Oper} {act : Act} {xs : Array Operand} {f : FuncId} {n : Nat} {vs : List AV} (ho : o.op = .makeFunc (.func f) #[] xs) (hn : L.fn n = f) (hl : vs.length = xs.size)
  (hv : ∀ (i : Nat) (v : AV) (x : Operand), vs[i]? = some v → xs[i]? = some x → VR L g w v (act.eval x)) : ∃ v, Ran L o act w v w ∧ VR L g w (.fn n vs) v := by
 subst hn
 refine ⟨.func (.func (L.fn n)) #[] (xs.map act.eval), .inl ?_, .fn n vs _ (by simp [hl]) (fun i c v hc hv' => ?_)⟩
 ·simp only [execOp, ho, Instr.makeFunc, Sem.run_bind, Sem.run_pure, Result.andThen_ok, Array.map_empty]
 ·rw [Array.getElem?_map] at hv'
  simp only [Option.map_eq_some_iff] at hv'
  obtain ⟨x, hx, rfl⟩ := hv'
  exact hv i c x hc hx
end Go.Am
/- Single operations: texts and maps are gone through. Own work. -/
namespace Go.Am
variable {L : Link} {g g' : Gh} {w w' : World} {Λ Λ' : Nat → Option Nat}
def rangeTy (m : Bool) (d : TypeDesc) : Bool :=
 match d with
 | .string => !m
 | .map _ _ => m
 | _ => false
theorem range_run {s s' : St} {act : Act} {o : Oper} {t : TypeId} {x : Operand} {d : TypeDesc} {m : Bool} {a r : AV} {o' : Nat} (h : SimS L g w Λ s act.tmps) (ho' : ∀ e, g.β o' e = none) (hlt : o' < s.h.next) (hi : ∀ d, o.dst = some d → d < act.tmps.size)
  (ho : o.op = .range t x) (hu : L.P.underlying t = some d) (hd : rangeTy m d = true) (hx : VR L g w a (act.eval x)) (hr : rangeA s o' m a = some (r, s')) :
  ∃ v w', Ran L o act w v w' ∧ Post L g w Λ act o.dst r s s' (fun i => i = o') v w' (g.obj w o' 0 0) Λ := by
 have hp : ∀ C, SlotR L (g.obj w o' 0 0) (w.alloc C) Λ (.ptr o' 0) (.pointer (some ⟨w.heap.size, 0, none⟩)) := fun C => VR.ptr _ 0 w.heap.size 0 0 (by simp [Gh.obj])
 have hrun : ∀ C, (Instr.range t (act.eval x)).run L.P w = .ok (.pointer (some ⟨w.heap.size, 0, none⟩)) (w.alloc C) → Ran L o act w (.pointer (some ⟨w.heap.size, 0, none⟩)) (w.alloc C) := fun C hC => by
  left
  simp only [execOp, ho, Sem.run_bind, hC, Result.andThen_ok]
  rfl
 generalize act.eval x = vx at hx hrun
 unfold rangeA at hr
 split at hr
 ·cases m <;> simp only [cond_true, cond_false, Option.some.injEq, Prod.mk.injEq, reduceCtorEq] at hr
  obtain ⟨rfl, rfl⟩ := hr
  cases hx
  rename_i bs
  have hs : d = .string := by cases d <;> simp [rangeTy] at hd; rfl
  subst hs
  refine ⟨_, w.alloc (.stringIter bs 0), hrun _ ?_, post_obj h (More.alloc w _) ho' hlt ?_ hi (hp _) (by simp)⟩
  ·simp only [Instr.range, Sem.run_bind, run_underlying hu w, Result.andThen_ok, Sem.run_pure, run_newObj]
   rfl
  ·exact ⟨w.heap.size, bs, by simp [Gh.obj], by simp [Gh.obj], alloc_at w _, rfl⟩
 ·cases m <;> simp only [cond_true, cond_false, Option.some.injEq, Prod.mk.injEq, reduceCtorEq] at hr
  obtain ⟨rfl, rfl⟩ := hr
  cases hx
  obtain ⟨k, e, hs⟩ : ∃ k e, d = .map k e := by cases d <;> simp [rangeTy] at hd; exact ⟨_, _, rfl⟩
  subst hs
  refine ⟨_, w.alloc (.mapIter none 0 #[] 0), hrun _ ?_, post_obj h (More.alloc w _) ho' hlt ?_ hi (hp _) (by simp)⟩
  ·simp only [Instr.range, Sem.run_bind, run_underlying hu w, Result.andThen_ok, Sem.run_pure, run_newObj]
   rfl
  ·exact ⟨w.heap.size, none, by simp [Gh.obj], by simp [Gh.obj], alloc_at w _, rfl⟩
 ·rename_i q
  cases m <;> simp only [cond_true, cond_false, reduceCtorEq] at hr
  split at hr
  ·rename_i es bs ck hob
   simp only [Option.some.injEq, Prod.mk.injEq] at hr
   obtain ⟨rfl, rfl⟩ := hr
   obtain ⟨b, ms, h1, h2, h3, h4, h5⟩ := h.heap.obj _ _ hob
   cases hx with
   | mp _ b' e c hβ =>
    rw [h1] at hβ
    simp only [Option.some.injEq, Prod.mk.injEq, Addr.mk.injEq] at hβ
    obtain ⟨⟨rfl, -, -⟩, -, -⟩ := hβ
    obtain ⟨k, e', hs⟩ : ∃ k e, d = .map k e := by cases d <;> simp [rangeTy] at hd; exact ⟨_, _, rfl⟩
    subst hs
    refine ⟨_, w.alloc (.mapIter (some b) ck #[] ck), hrun _ ?_, post_obj h (More.alloc w _) ho' hlt ?_ hi (hp _) (by simp)⟩
    ·simp only [Instr.range, Sem.run_bind, run_underlying hu w, Result.andThen_ok, Sem.run_pure, run_newObj, run_getObj_map h3]
     rfl
    ·exact ⟨w.heap.size, some b, by simp [Gh.obj], by simp [Gh.obj], alloc_at w _, b, (keeps_obj (esz := 0) (cap := 0) h.heap (More.alloc w (.mapIter (some b) ck #[] ck)) ho').β _ _ _ h1, rfl⟩
  ·simp at hr
 ·simp at hr
theorem run_setObj_siter {P : Program} {r : Nat} {bs : ByteArray} {p : Nat} {x : Obj} (h : w.heap[r]? = some (.stringIter bs p)) : (setObj r x).run P w = .ok () (World.setO w r x) := by
 simp [setObj, Sem.run, h, World.setO]
theorem run_getObj_siter {P : Program} {r : Nat} {bs : ByteArray} {p : Nat} (h : w.heap[r]? = some (.stringIter bs p)) : (getObj r).run P w = .ok (.stringIter bs p) w := by
 simp [getObj, Sem.run, h]
theorem run_getObj_miter {P : Program} {r : Nat} {m : Option Nat} {a c : Nat} {b : Array Nat} (h : w.heap[r]? = some (.mapIter m a b c)) : (getObj r).run P w = .ok (.mapIter m a b c) w := by
 simp [getObj, Sem.run, h]
theorem decA_eq (bs : ByteArray) (p : Nat) : decA (bs.data.toList.map UInt8.toNat) p = Utf8.decode bs p := by
 unfold decA
 congr 1
 have : (bs.data.toList.map UInt8.toNat).map UInt8.ofNat = bs.data.toList := by
  rw [List.map_map]
  conv => rhs; rw [← List.map_id bs.data.toList]
  exact List.map_congr_left (fun x _ => by simp)
 rw [this]
theorem vr_over {g : Gh} {w : World} : VR L g w (.tup [.bool false]) (.tuple #[.bool false]) := .tup _ _ rfl (fun i c x hc hx => by
 match i, hc, hx with
 | 0, hc, hx => simp at hc hx; subst hc; subst hx; exact .bool _
 | n + 1, hc, hx => simp at hc)
theorem vr_three {g : Gh} {w : World} {a b : AV} {u v : Value} (h1 : VR L g w a u) (h2 : VR L g w b v) : VR L g w (.tup [.bool true, a, b]) (.tuple #[.bool true, u, v]) := .tup _ _ rfl (fun i c x hc hx => by
 match i, hc, hx with
 | 0, hc, hx => simp at hc hx; subst hc; subst hx; exact .bool _
 | 1, hc, hx => simp at hc hx; subst hc; subst hx; exact h1
 | 2, hc, hx => simp at hc hx; subst hc; subst hx; exact h2
 | n + 3, hc, hx => simp at hc)
theorem ptr_at {o b : Nat} {e c : Nat} {v : Value} (hβ : g.β o 0 = some (⟨b, 0, none⟩, e, c)) (hx : VR L g w (.ptr o 0) v) : v = .pointer (some ⟨b, 0, none⟩) := by
 cases hx with
 | ptr _ _ b' e' c' h' =>
  rw [hβ] at h'
  simp only [Option.some.injEq, Prod.mk.injEq, Addr.mk.injEq] at h'
  obtain ⟨⟨rfl, -, -⟩, -, -⟩ := h'
  rfl
theorem allBel_spec {n : Nat} : ∀ {l : List Nat}, allBel n l = true → ∀ b ∈ l, b < n
 | [], _, b, hb => by simp at hb
 | a :: r, h, b, hb => by
  simp only [allBel, Bool.and_eq_true, nblt, decide_eq_true_eq] at h
  rcases List.mem_cons.1 hb with rfl | hb
  ·exact h.1
  ·exact allBel_spec h.2 b hb
theorem left_rel {seen : List Nat} : ∀ (bs : List Nat) (es : List (AV × AV)) (ms : List MapEntry), ms.map (·.born) = bs → ms.length = es.length → (∀ (i : Nat) (k v : AV) (m : MapEntry), es[i]? = some (k, v) → ms[i]? = some m → VR L g w k m.key ∧ VR L g w v m.val) →
  (leftA seen bs es).length = (ms.filter fun e => !seen.contains e.born).length ∧ ∀ (i : Nat) (b : Nat) (k v : AV) (m : MapEntry), (leftA seen bs es)[i]? = some (b, k, v) → (ms.filter fun e => !seen.contains e.born)[i]? = some m → b = m.born ∧ VR L g w k m.key ∧ VR L g w v m.val
 | bs, [], [], hb, hl, hr => by
  simp only [List.map_nil] at hb
  subst hb
  exact ⟨rfl, fun i b k v m h => by simp [leftA] at h⟩
 | bs, (k, v) :: es, m :: ms, hb, hl, hr => by
  subst hb
  have ih := left_rel (seen := seen) (ms.map (·.born)) es ms rfl (by simpa using hl) (fun i k v m' h1 h2 => hr (i + 1) k v m' (by simpa using h1) (by simpa using h2))
  obtain ⟨h1, h2⟩ := hr 0 k v m rfl rfl
  have hm : (memN m.born seen) = seen.contains m.born := by
   rw [Bool.eq_iff_iff, List.contains_iff_mem]
   clear ih h1 h2 hl hr
   induction seen with
   | nil => simp [memN]
   | cons a r ihr => simp [memN, nbeq, ihr]
  simp only [List.map_cons, leftA, hm, List.filter_cons]
  cases hc : seen.contains m.born with
  | true => simpa using ih
  | false =>
   simp only [cond_false, Bool.not_false, if_true, List.length_cons]
   refine ⟨by omega, fun i b k' v' m' g1 g2 => ?_⟩
   cases i with
   | zero => simp at g1 g2; obtain ⟨rfl, rfl, rfl⟩ := g1; subst g2; exact ⟨rfl, h1, h2⟩
   | succ i => exact ih.2 i b k' v' m' (by simpa using g1) (by simpa using g2)
 | bs, [], m :: ms, _, hl, _ => by simp at hl
 | bs, _ :: es, [], _, hl, _ => by simp at hl
theorem next_one (P : Program) (w : World) (ty : TypeId) (r bm since c0 : Nat) (seen : Array Nat) (es : Array MapEntry) (clock : Nat)
  (hr : w.heap[r]? = some (.mapIter (some bm) since seen c0)) (hb : w.heap[bm]? = some (.map es clock)) (hold : ∀ x ∈ es.toList, x.born < since) (hsc : since ≤ c0) :
  (leftOf es seen = #[] → (Instr.next (.pointer (some ⟨r, 0, none⟩)) false ty).run P w = .ok (.tuple #[.bool false]) w) ∧
  ∀ e, leftOf es seen = #[e] → (Instr.next (.pointer (some ⟨r, 0, none⟩)) false ty).run P w = .ok (.tuple #[.bool true, e.key, e.val]) (World.setO w r (.mapIter (some bm) since (seen.push e.born) clock)) := by
 simp only [Instr.next, getObj, Sem.run_bind, Sem.run, hr, hb, Result.andThen, next_test_false seen es since c0 hold hsc, Bool.false_eq_true, if_false]
 unfold leftOf
 have hmem : ∀ x ∈ (Array.filter (fun e => !seen.contains e.born) es).toList, x.born < since := fun x hx => hold x (by simp at hx ⊢; exact hx.1)
 generalize Array.filter (fun e => !seen.contains e.born) es = L at hmem ⊢
 have e1 : L.filter (fun x => decide (x.born < since)) = L := Array.filter_eq_self.2 (fun x hx => by simpa using hmem x (by simpa using hx))
 have e2 : L.filter (fun x => decide (x.born ≥ since)) = #[] := by
  rw [Array.filter_eq_empty_iff]
  intro x hx
  have := hmem x (by simpa using hx)
  simp
  omega
 simp only [e1, e2, Array.append_empty]
 constructor
 ·intro h0
  subst h0
  simp [choose, Sem.run, Question.forced]
 ·intro e h0
  subst h0
  simp [choose, Sem.run, Question.forced, setObj, hr, World.setO]
theorem next_run {s s' : St} {act : Act} {o : Oper} {x : Operand} {str : Bool} {a r : AV} (h : SimS L g w Λ s act.tmps) (hi : ∀ d, o.dst = some d → d < act.tmps.size)
  (ho : o.op = .next x str) (hx : VR L g w a (act.eval x)) (hr : nextA s str a = some (r, s')) :
  ∃ v w', Ran L o act w v w' ∧ Post L g w Λ act o.dst r s s' (fun _ => False) v w' g Λ := by
 have hrun : ∀ v w1, (Instr.next (act.eval x) str o.type).run L.P w = .ok v w1 → Ran L o act w v w1 := fun v w1 hC => by
  left
  simp only [execOp, ho, Sem.run_bind, hC, Result.andThen_ok]
  rfl
 have over : (Instr.next (act.eval x) str o.type).run L.P w = .ok (.tuple #[.bool false]) w → ∃ v w', Ran L o act w v w' ∧ Post L g w Λ act o.dst (.tup [.bool false]) s s (fun _ => False) v w' g Λ := fun hC =>
  ⟨_, w, hrun _ _ hC, Post.same h hi (vr_slot vr_over) (by simp)⟩
 unfold nextA at hr
 split at hr
 ·rename_i ob
  unfold nextR at hr
  split at hr
  ·-- a text
   rename_i b p hob
   cases str <;> simp only [cond_true, cond_false, reduceCtorEq] at hr
   obtain ⟨bk, bs, h1, h2, h3, rfl⟩ := h.heap.obj _ _ hob
   have hv := ptr_at h1 hx
   have hlt : bk < w.heap.size := (Array.getElem?_eq_some_iff.1 h3).1
   have hlen : (bs.data.toList.map UInt8.toNat).length = bs.size := by simp
   rw [hv] at over hrun
   by_cases hp : p < bs.size
   ·rw [hlen, nblt, decide_eq_true hp, cond_true] at hr
    simp only [Option.some.injEq, Prod.mk.injEq] at hr
    obtain ⟨rfl, rfl⟩ := hr
    rw [decA_eq]
    refine ⟨_, World.setO w bk (.stringIter bs (p + (Utf8.decode bs p).2)), hrun (.tuple #[.bool true, goInt p, .int .i32 (Utf8.decode bs p).1]) _ ?_, post_setO h h2 ⟨0, _, h1⟩ ⟨bk, bs, h1, h2, setO_at _ _ _ hlt, rfl⟩ hi (vr_slot (vr_three (.int _ _) (.int _ _))) (by simp)⟩
    simp only [Instr.next, Sem.run_bind, run_getObj_siter h3, Result.andThen_ok, hp, if_true, run_setObj_siter h3, Sem.run_pure]
   ·rw [hlen, nblt, decide_eq_false hp, cond_false] at hr
    simp only [Option.some.injEq, Prod.mk.injEq] at hr
    obtain ⟨rfl, rfl⟩ := hr
    refine over ?_
    simp only [Instr.next, Sem.run_bind, run_getObj_siter h3, Result.andThen_ok, hp, if_false, Sem.run_pure]
  ·-- no map
   rename_i since seen st hob
   cases str <;> simp only [cond_true, cond_false, reduceCtorEq, Option.some.injEq, Prod.mk.injEq] at hr
   obtain ⟨rfl, rfl⟩ := hr
   obtain ⟨bk, bm, h1, h2, h3, rfl⟩ := h.heap.obj _ _ hob
   have hv := ptr_at h1 hx
   rw [hv] at over
   refine over ?_
   simp only [Instr.next, Sem.run_bind, run_getObj_miter h3, Result.andThen_ok, Sem.run_pure]
  ·-- a map
   rename_i m since seen st hob
   cases str <;> simp only [cond_true, cond_false, reduceCtorEq] at hr
   split at hr
   ·rename_i es bs ck hom
    obtain ⟨bk, bm, h1, h2, h3, b', h4, rfl⟩ := h.heap.obj _ _ hob
    obtain ⟨b2, ms, k1, k2, k3, ⟨k4, k5⟩, k6⟩ := h.heap.obj _ _ hom
    rw [k1] at h4
    simp only [Option.some.injEq, Prod.mk.injEq, Addr.mk.injEq] at h4
    obtain ⟨⟨rfl, -, -⟩, -, -⟩ := h4
    have hv := ptr_at h1 hx
    have hlt : bk < w.heap.size := (Array.getElem?_eq_some_iff.1 h3).1
    by_cases hc : (allBel since bs && Nat.ble since st) = true
    ·rw [hc, cond_true] at hr
     simp only [Bool.and_eq_true, nble, decide_eq_true_eq] at hc
     have hold : ∀ y ∈ ms.toList, y.born < since := fun y hy => allBel_spec hc.1 _ (by rw [← k5]; exact List.mem_map.2 ⟨y, hy, rfl⟩)
     obtain ⟨l1, l2⟩ := left_rel (seen := seen) bs es ms.toList k5 (by simpa using k4) (fun i k v m h5 h6 => k6 i k v m h5 (by simpa using h6))
     have key := next_test_false seen.toArray ms since st hold hc.2
     have eL : (leftOf ms seen.toArray).toList = ms.toList.filter fun e => !seen.contains e.born := by
      unfold leftOf
      rw [Array.toList_filter]
      congr 1
      funext e
      rw [List.contains_toArray]
     obtain ⟨n0, n1⟩ := next_one L.P w o.type bk b2 since st seen.toArray ms ck h3 k3 hold hc.2
     rw [hv] at over hrun
     generalize leftA seen bs es = la at hr l1 l2
     rw [← eL] at l1 l2
     match la, hr, l1, l2 with
     | [], hr, l1, _ =>
      simp only [Option.some.injEq, Prod.mk.injEq] at hr
      obtain ⟨rfl, rfl⟩ := hr
      exact over (n0 (by apply Array.toList_inj.1; simpa using List.length_eq_zero_iff.1 l1.symm))
     | [(b1, e)], hr, l1, l2 =>
      simp only [Option.some.injEq, Prod.mk.injEq] at hr
      obtain ⟨rfl, rfl⟩ := hr
      obtain ⟨m1, hm1⟩ := List.length_eq_one_iff.1 l1.symm
      obtain ⟨rfl, g1, g2⟩ := l2 0 b1 e.1 e.2 m1 rfl (by rw [hm1]; rfl)
      have hrn := n1 m1 (by apply Array.toList_inj.1; simpa using hm1)
      refine ⟨_, _, hrun _ _ hrn, post_setO h h2 ⟨0, _, h1⟩ ⟨bk, some b2, h1, h2, ?_, b2, k1, rfl⟩ hi (vr_slot ?_) (by simp)⟩
      ·rw [setO_at _ _ _ hlt]
       congr 2
       simp
      ·have k : Keeps g w g (World.setO w bk (.mapIter (some b2) since (seen.toArray.push m1.born) ck)) := ⟨fun _ _ _ h => h, fun i hi => ⟨hi, setO_ne _ _ _ _ (fun e => by subst e; rw [h2] at hi; simp at hi)⟩, rfl, rfl, rfl⟩
       exact (vr_three g1 g2).mono k
     | _ :: _ :: _, hr, _, _ => simp at hr
    ·simp [hc] at hr
   ·simp at hr
  ·simp at hr
 ·simp at hr
theorem lastN_spec : ∀ (l : List Nat), lastN l = l.toArray.back?
 | [] => rfl
 | [a] => rfl
 | _ :: b :: r => by
  rw [lastN, lastN_spec (b :: r)]
  simp [List.getLast?_cons]
theorem findB_rel {b : Nat} : ∀ (bs : List Nat) (es : List (AV × AV)) (ms : List MapEntry) (e : AV × AV), ms.map (·.born) = bs → ms.length = es.length → (∀ (i : Nat) (k v : AV) (m : MapEntry), es[i]? = some (k, v) → ms[i]? = some m → VR L g w k m.key ∧ VR L g w v m.val) →
  findB b bs es = some e → ∃ m, ms.find? (·.born == b) = some m ∧ VR L g w e.1 m.key ∧ VR L g w e.2 m.val
 | bs, [], [], e, hb, hl, hr, h => by
  simp only [List.map_nil] at hb
  subst hb
  simp [findB] at h
 | bs, (k, v) :: es, m :: ms, e, hb, hl, hr, h => by
  subst hb
  simp only [List.map_cons, findB, nbeq] at h
  obtain ⟨h1, h2⟩ := hr 0 k v m rfl rfl
  by_cases hc : m.born = b
  ·rw [decide_eq_true hc, cond_true] at h
   obtain rfl := Option.some.inj h
   exact ⟨m, by simp [hc], h1, h2⟩
  ·rw [decide_eq_false hc, cond_false] at h
   obtain ⟨m', g1, g2⟩ := findB_rel _ es ms e rfl (by simpa using hl) (fun i k v m' h1 h2 => hr (i + 1) k v m' (by simpa using h1) (by simpa using h2)) h
   exact ⟨m', by simp [hc, g1], g2⟩
 | bs, [], m :: ms, _, _, hl, _, _ => by simp at hl
 | bs, _ :: es, [], _, _, hl, _, _ => by simp at hl
theorem vr_two {g : Gh} {w : World} {a b : AV} {u v : Value} (h1 : VR L g w a u) (h2 : VR L g w b v) : VR L g w (.tup [a, b]) (.tuple #[u, v]) := .tup _ _ rfl (fun i c x hc hx => by
 match i, hc, hx with
 | 0, hc, hx => simp at hc hx; subst hc; subst hx; exact h1
 | 1, hc, hx => simp at hc hx; subst hc; subst hx; exact h2
 | n + 2, hc, hx => simp at hc)
theorem entry_run {s s' : St} {act : Act} {o : Oper} {x : Operand} {a r : AV} (h : SimS L g w Λ s act.tmps) (hi : ∀ d, o.dst = some d → d < act.tmps.size)
  (ho : o.op = .entry x) (hx : VR L g w a (act.eval x)) (hr : entryA s a = some (r, s')) :
  s' = s ∧ ∃ v, Ran L o act w v w ∧ VR L g w r v := by
 unfold entryA at hr
 split at hr
 ·rename_i ob
  unfold entryR at hr
  split at hr
  ·rename_i m since seen st hob
   split at hr
   ·rename_i es bs ck hom
    by_cases hc : ck = st
    ·subst hc
     simp only [nbeq, decide_true, cond_true, Option.bind_eq_some_iff, Option.some.injEq, Prod.mk.injEq] at hr
     obtain ⟨b, hb, e, he, rfl, rfl⟩ := hr
     obtain ⟨bk, bm, h1, h2, h3, b', h4, rfl⟩ := h.heap.obj _ _ hob
     obtain ⟨b2, ms, k1, k2, k3, ⟨k4, k5⟩, k6⟩ := h.heap.obj _ _ hom
     rw [k1] at h4
     simp only [Option.some.injEq, Prod.mk.injEq, Addr.mk.injEq] at h4
     obtain ⟨⟨rfl, -, -⟩, -, -⟩ := h4
     have hv := ptr_at h1 hx
     obtain ⟨m1, f1, f2, f3⟩ := findB_rel (b := b) bs es ms.toList e k5 (by simpa using k4) (fun i k v m h5 h6 => k6 i k v m h5 (by simpa using h6)) he
     rw [lastN_spec] at hb
     refine ⟨rfl, .tuple #[m1.key, m1.val], .inl ?_, vr_two f2 f3⟩
     have f1' : ms.find? (·.born == b) = some m1 := by rw [← Array.find?_toList]; exact f1
     simp only [execOp, ho, hv, Instr.entry, Sem.run_bind, run_getObj_miter h3, run_getObj_map k3, Result.andThen_ok, hb, bne_self_eq_false, Bool.false_eq_true, if_false, f1', ne_eq, not_true_eq_false, Sem.run_pure]
    ·rw [nbeq, decide_eq_false hc] at hr; simp at hr
   ·simp at hr
  ·simp at hr
 ·simp at hr
end Go.Am
/- Whether an abstract operation is a given operation of a program: a look by program; and what follows of it. -/
namespace Go.Am
variable {L : Link} {g g' : Gh} {w w' : World} {Λ Λ' : Nat → Option Nat}
def szIs (P : Program) (t : TypeId) (n : Nat) : Bool :=
 match P.info? t with
 | some i => Nat.beq i.size n
 | none => false
def bytesIs (P : Program) (t : TypeId) (n : Nat) : Bool :=
 match P.info? t with
 | some i => Nat.beq i.bytes n
 | none => false
def tyIs (P : Program) (t : TypeId) (n : Option Nat) : Bool :=
 szIs P t (sizeN n) && (match P.underlying t with
  | some (.struct _) | some (.array _ _) => n.isSome
  | some _ => n.isNone
  | none => false)
def zeroIs (P : Program) (t : TypeId) (zero : List AV) : Bool :=
 match P.info? t with
 | some i => (match i.zero with | some v => zeroOk zero v.cells.toList | none => false)
 | none => false
def zeroVIs (P : Program) (t : TypeId) (zero : AV) : Bool :=
 match P.info? t with
 | some i => (match i.zero with | some v => valOk zero v | none => false)
 | none => false
def isSliceOf (P : Program) (t : TypeId) : Option TypeId :=
 match P.underlying t with
 | some (.slice e) => some e
 | _ => none
def isStringT (P : Program) (t : TypeId) : Bool :=
 match P.underlying t with
 | some .string => true
 | _ => false
def isByte (P : Program) (t : TypeId) : Bool :=
 match P.underlying t with
 | some (.int .u8) => true
 | _ => false
theorem szIs_spec {P : Program} {t : TypeId} {n : Nat} (h : szIs P t n = true) : ∃ i, P.info? t = some i ∧ i.size = n := by
 unfold szIs at h
 split at h
 ·rw [nbeq] at h; exact ⟨_, by assumption, by simpa using h⟩
 ·simp at h
theorem bytesIs_spec {P : Program} {t : TypeId} {n : Nat} (h : bytesIs P t n = true) : ∃ i, P.info? t = some i ∧ i.bytes = n := by
 unfold bytesIs at h
 split at h
 ·rw [nbeq] at h; exact ⟨_, by assumption, by simpa using h⟩
 ·simp at h
theorem tyIs_spec {P : Program} {t : TypeId} {n : Option Nat} (h : tyIs P t n = true) : TyN P t n := by
 simp only [tyIs, Bool.and_eq_true] at h
 refine ⟨szIs_spec h.1, ?_⟩
 have h2 := h.2
 cases hu : P.underlying t with
 | none => rw [hu] at h2; simp at h2
 | some d =>
  refine ⟨d, rfl, ?_⟩
  rw [hu] at h2
  cases d <;> cases n <;> simp at h2 <;> rfl
theorem zeroIs_spec {P : Program} {t : TypeId} {z : List AV} (h : zeroIs P t z = true) : ZeroT P t z := by
 unfold zeroIs at h
 split at h
 ·split at h
  ·exact ⟨_, _, by assumption, by assumption, h⟩
  ·simp at h
 ·simp at h
theorem zeroVIs_spec {P : Program} {t : TypeId} {z : AV} (h : zeroVIs P t z = true) (w : World) : ∃ v, (zeroValue t).run P w = .ok v w ∧ valOk z v = true := by
 unfold zeroVIs at h
 split at h
 ·rename_i i hi
  split at h
  ·rename_i v hv
   exact ⟨v, by simp [zeroValue, typeInfo, hi, hv], h⟩
  ·simp at h
 ·simp at h
theorem isSliceOf_spec {P : Program} {t e : TypeId} (h : isSliceOf P t = some e) : P.underlying t = some (.slice e) := by
 unfold isSliceOf at h
 split at h
 ·obtain rfl := Option.some.inj h; assumption
 ·simp at h
theorem isStringT_spec {P : Program} {t : TypeId} (h : isStringT P t = true) : P.underlying t = some .string := by
 unfold isStringT at h
 split at h
 ·assumption
 ·simp at h
theorem isByte_spec {P : Program} {t : TypeId} (h : isByte P t = true) : P.underlying t = some (.int .u8) := by
 unfold isByte at h
 split at h
 ·assumption
 ·simp at h
def opdsOk (L : Link) : List Operand → List Opd → Bool
 | [], [] => true
 | x :: r, y :: q => opdOk L x y && opdsOk L r q
 | _, _ => false
theorem opdsOk_spec : ∀ {xs : List Operand} {ys : List Opd}, opdsOk L xs ys = true → xs.length = ys.length ∧ ∀ (i : Nat) (x : Operand) (a : Opd), xs[i]? = some x → ys[i]? = some a → opdOk L x a = true
 | [], [], _ => ⟨rfl, by simp⟩
 | [], _ :: _, h => by simp [opdsOk] at h
 | _ :: _, [], h => by simp [opdsOk] at h
 | x :: xs, y :: ys, h => by
  simp only [opdsOk, Bool.and_eq_true] at h
  obtain ⟨e1, e2⟩ := opdsOk_spec h.2
  refine ⟨by simp [e1], fun i a b ha hb => ?_⟩
  cases i with
  | zero => simp at ha hb; subst ha; subst hb; exact h.1
  | succ i => simp at ha hb; exact e2 i a b ha hb
def eqBin (a b : BinOp) : Bool := decide (a = b)
def eqUn (a b : UnOp) : Bool := decide (a = b)
def keyIs (P : Program) (kd : Nat) : TypeDesc → Bool
 | .int _ => Nat.beq kd 0
 | .string => Nat.beq kd 1
 | .pointer e => Nat.beq kd 2 && keyTy P (.pointer e)
 | _ => false
def isNone' {α : Type} : Option α → Bool
 | none => true
 | some _ => false
def zAV : Value → AV
 | .bool b => .bool b
 | .int k n => .int k n
 | .string s => .str (s.data.toList.map UInt8.toNat)
 | .pointer none => .nilp
 | .slice none 0 0 => .nils
 | .map none => .nilm
 | .nilFunc => .nilf
 | .nilIface => .nili
 | _ => .junk
def chkOp (L : Link) (op : Op) (ao : AOp) : Bool :=
 match ao with
 | .fail => true
 | .mov y => match op with
  | .move x => opdOk L x y
  | .assign x => opdOk L x y
  | _ => false
 | .pick c a b => match op with
  | .pick c' a' b' => opdOk L c' c && opdOk L a' a && opdOk L b' b
  | _ => false
 | .alloc _ zero _ => match op with
  | .alloc t => zeroIs L.P t zero
  | _ => false
 | .box _ y _ => match op with
  | .box _ x => opdOk L x y
  | _ => false
 | .load n y => match op with
  | .load t x => tyIs L.P t n && opdOk L x y
  | _ => false
 | .store n y u => match op with
  | .store t x v => szIs L.P t n && opdOk L x y && opdOk L v u
  | _ => false
 | .nilck y => match op with
  | .nilCheck x => opdOk L x y
  | _ => false
 | .fadr y off => match op with
  | .fieldAddr t x i => opdOk L x y && (match L.P.underlying t with
   | some (.struct fs) => (match fs[i]? with
    | some f => Nat.beq f.offset off && (match L.P.info? f.type with | some inf => !(Nat.beq inf.size 0) | none => false)
    | none => false)
   | _ => false)
  | _ => false
 | .fld y off n => match op with
  | .field t x i => opdOk L x y && (match L.P.underlying t with
   | some (.struct fs) => (match fs[i]? with
    | some f => Nat.beq f.offset off && tyIs L.P f.type n
    | none => false)
   | _ => false)
  | _ => false
 | .idxa arr esz y j => match op with
  | .indexAddr t x i => opdOk L x y && opdOk L i j && (match L.P.underlying t with
   | some (.slice e) => isNone' arr && szIs L.P e esz
   | some (.array n e) => (match arr with | some m => Nat.beq m n | none => false) && szIs L.P e esz
   | _ => false)
  | _ => false
 | .idx y j => match op with
  | .index t x i => opdOk L x y && opdOk L i j && isStringT L.P t
  | _ => false
 | .bin b x y => match op with
  | .binOp b' _ x' y' _ => eqBin b b' && opdOk L x' x && opdOk L y' y
  | _ => false
 | .cmp c neg x y => match op with
  | .binOp b' t x' y' _ => eqBin b' (if neg then .neq else .eql) && opdOk L x' x && opdOk L y' y && (bif Nat.ble 6 c then flatEq L.P (c - 6) t else (match L.P.underlying t with | some d => cmpTy c d | none => false)) && (!(Nat.beq c 5) || isNilIface y')
  | _ => false
 | .un u x => match op with
  | .unOp u' _ x' => eqUn u u' && opdOk L x' x
  | _ => false
 | .toInt k y => match op with
  | .convert s d x => opdOk L x y && (L.P.underlying s).isSome && (match L.P.underlying d with | some (.int k') => eqK k k' | _ => false)
  | _ => false
 | .toStr y => match op with
  | .convert s d x => opdOk L x y && (match isSliceOf L.P s with | some e => isByte L.P e | none => false) && isStringT L.P d
  | _ => false
 | .toBytes y _ => match op with
  | .convert s d x => opdOk L x y && (match isSliceOf L.P d with | some e => isByte L.P e | none => false) && (L.P.underlying s).isSome
  | _ => false
 | .slice z y l h m => match op with
  | .slice t x l' h' m' => opdOk L x y && opdOkO L l' l && opdOkO L h' h && opdOkO L m' m && (!m.isSome || h.isSome) && (match z with
   | none => isStringT L.P t
   | some z => (match isSliceOf L.P t with | some e => szIs L.P e z | none => false))
  | _ => false
 | .mark y => match op with
  | .convert s d x => Nat.beq s d && opdOk L x y && (match isSliceOf L.P s with | some e => isByte L.P e | none => false)
  | _ => false
 | .slicx z y l h => match op with
  | .slice t x l' h' none => opdOk L x y && opdOkO L l' l && opdOkO L h' (some h) && (match isSliceOf L.P t with | some e => szIs L.P e z | none => false)
  | _ => false
 | .build zero parts => match op with
  | .build t ps => zeroIs L.P t zero && (match L.P.underlying t with
   | some (.struct fs) => (match placesOf L.P fs.toList with
    | some q => partsOk L (fun i => q[i]?) ps.toList parts
    | none => false)
   | _ => false)
  | _ => false
 | .buildsl esz n zero parts _ => match op with
  | .buildSlice t m ps => Nat.beq n m && (match isSliceOf L.P t with
   | some e => zeroIs L.P e zero && Nat.beq zero.length esz && szIs L.P e esz && Nat.ble (n * esz) 16777216 && partsOk L (fun i => some (i * esz, esz)) ps.toList parts
   | none => false)
  | _ => false
 | .lits esz n zero parts => match op with
  | .buildSlice t m ps => Nat.beq n m && (match isSliceOf L.P t with
   | some e => zeroIs L.P e zero && Nat.beq zero.length esz && szIs L.P e esz && Nat.ble (n * esz) 16777216 && partsOk L (fun i => some (i * esz, esz)) ps.toList parts
   | none => false)
  | _ => false
 | .mksl esz bytes zero x y _ => match op with
  | .makeSlice t x' y' => opdOk L x' x && opdOk L y' y && Nat.blt 0 bytes && (match isSliceOf L.P t with
   | some e => zeroIs L.P e zero && Nat.beq zero.length esz && szIs L.P e esz && bytesIs L.P e bytes
   | none => false)
  | _ => false
 | .app esz bytes x y _ => match op with
  | .call { callee := .builtin .append, args := xs, argTypes := ats } => (match xs.toList with
   | [x', y'] => opdOk L x' x && opdOk L y' y && Nat.blt 0 bytes && Nat.blt 0 esz && (match ats[0]?, ats[1]? with
    | some t, some t1 => (match isSliceOf L.P t with
     | some e => szIs L.P e esz && bytesIs L.P e bytes && (match L.P.info? e with
      | some i => (match i.zero with
       | some v => (match L.P.underlying t1 with
        | some (.slice _) | some .string => zeroOk (v.cells.toList.map zAV) v.cells.toList && Nat.beq v.cells.size esz
        | _ => false)
       | none => false)
      | none => false)
     | none => false)
    | _, _ => false)
   | _ => false)
  | _ => false
 | .len c y => match op with
  | .call { callee := .builtin .len, args := xs, argTypes := ats } => (match xs.toList with
   | [x] => opdOk L x y && (match ats[0]? with
    | some t => (match L.P.underlying t with
     | some .string => Nat.beq c 0
     | some (.slice _) => Nat.beq c 1
     | some (.map _ _) => Nat.beq c 2
     | _ => false)
    | none => false)
   | _ => false)
  | _ => false
 | .mm isMax x y => match op with
  | .call { callee := .builtin b, args := xs, .. } => (match xs.toList with
   | [x', y'] => opdOk L x' x && opdOk L y' y && (match b with | .max => isMax | .min => !isMax | _ => false)
   | _ => false)
  | _ => false
 | .mapdel kd m i => match op with
  | .call { callee := .builtin .delete, args := xs, argTypes := ats } => (match xs.toList with
   | [m', i'] => opdOk L m' m && opdOk L i' i && (match ats[0]? with
    | some t => (match L.P.underlying t with
     | some (.map k _) => (match L.P.underlying k with | some d => keyIs L.P kd d | none => false)
     | _ => false)
    | none => false)
   | _ => false)
  | _ => false
 | .clr z x => match op with
  | .call { callee := .builtin .clear, args := xs, argTypes := ats } => (match xs.toList with
   | [x'] => opdOk L x' x && (match ats[0]? with
    | some t => (match isSliceOf L.P t with
     | some e => zeroIs L.P e [z]
     | none => false)
    | none => false)
   | _ => false)
  | _ => false
 | .mkmap _ => match op with
  | .makeMap _ none => true
  | _ => false
 | .lookup kd zero ok x i => match op with
  | .lookup t x' i' ok' => (ok == ok') && opdOk L x' x && opdOk L i' i && (match L.P.underlying t with
   | some (.map k e) => (match L.P.underlying k with | some d => keyIs L.P kd d | none => false) && zeroVIs L.P e zero
   | _ => false)
  | _ => false
 | .mapupd kd m i v => match op with
  | .mapUpdate t m' i' v' => opdOk L m' m && opdOk L i' i && opdOk L v' v && (match L.P.underlying t with
   | some (.map k _) => (match L.P.underlying k with | some d => keyIs L.P kd d | none => false)
   | _ => false)
  | .insert t m' i' v' => opdOk L m' m && opdOk L i' i && opdOk L v' v && (match L.P.underlying t with
   | some (.map k _) => (match L.P.underlying k with | some d => keyIs L.P kd d | none => false)
   | _ => false)
  | _ => false
 | .mkfn n caps => match op with
  | .makeFunc (.func f) first xs => first.isEmpty && Nat.beq (L.fn n) f && opdsOk L xs.toList caps
  | _ => false
 | .mkif n y => match op with
  | .makeInterface t x => Nat.beq (L.ty n) t && opdOk L x y && (match L.P.underlying t with | some (.interface _) => false | some _ => true | none => false)
  | _ => false
 | .ext y i => match op with
  | .extract x j => opdOk L x y && Nat.beq i j
  | _ => false
 | .range m y _ => match op with
  | .range t x => opdOk L x y && (match L.P.underlying t with | some d => rangeTy m d | none => false)
  | _ => false
 | .next str y => match op with
  | .next x s => opdOk L x y && (s == str)
  | _ => false
 | .entry y => match op with
  | .entry x => opdOk L x y
  | _ => false
 | _ => false
end Go.Am
/- One operation of the abstract machine, against the one of the program that it was found to be. -/
namespace Go.Am
variable {L : Link} {g g' : Gh} {w w' : World} {Λ Λ' : Nat → Option Nat}
def allocOf : AOp → Option Nat
 | .alloc false _ k | .box false _ k | .toBytes _ k | .buildsl _ _ _ _ k | .mksl _ _ _ _ _ k | .app _ _ _ _ k | .mkmap k | .range _ _ k => some k
 | _ => none
theorem Post.weaken {act : Act} {dst : Option Nat} {r : AV} {s s' : St} {al al' : Nat → Prop} {v : Value} (h : Post L g w Λ act dst r s s' al v w' g' Λ') (ha : ∀ i, al i → al' i) : Post L g w Λ act dst r s s' al' v w' g' Λ' :=
 ⟨h.heap, h.fr, h.adv, h.size, fun o h1 h2 => h.new o h1 (fun h => h2 (ha o h)), h.next⟩
def OpGoal (L : Link) (g : Gh) (w : World) (Λ : Nat → Option Nat) (act : Act) (o : Oper) (base : Nat) (ao : AOp) (r : AV) (s s' : St) : Prop :=
 ∃ v w' g' Λ', Ran L o act w v w' ∧ Post L g w Λ act o.dst r s s' (fun i => ∃ k, allocOf ao = some k ∧ i = base + k) v w' g' Λ'
theorem goal_val {s : St} {act : Act} {o : Oper} {base : Nat} {ao : AOp} {r : AV} {v : Value} (h : SimS L g w Λ s act.tmps) (hi : ∀ d, o.dst = some d → d < act.tmps.size) (hr : Ran L o act w v w) (hv : VR L g w r v) : OpGoal L g w Λ act o base ao r s s :=
 ⟨v, w, g, Λ, hr, (Post.same h hi (vr_slot hv) (vr_not_box hv)).weaken (fun _ h => h.elim)⟩
theorem goal_slot {s : St} {act : Act} {o : Oper} {base : Nat} {ao : AOp} {r : AV} {v : Value} (h : SimS L g w Λ s act.tmps) (hi : ∀ d, o.dst = some d → d < act.tmps.size) (hr : Ran L o act w v w) (hv : SlotR L g w Λ r v) (hb : ∀ t cs, r ≠ .lbox t cs) : OpGoal L g w Λ act o base ao r s s :=
 ⟨v, w, g, Λ, hr, (Post.same h hi hv hb).weaken (fun _ h => h.elim)⟩
theorem pairS_some {v r : AV} {s s' : St} (h : pairS s v = some (r, s')) : r = v ∧ s' = s := by
 simp only [pairS, Option.some.injEq, Prod.mk.injEq] at h
 exact ⟨h.1.symm, h.2.symm⟩
theorem ev_vr {x : Operand} {ax : Opd} {act : Act} {fr : Fr} {st : Nat} {v : AV} (ho : opdOk L x ax = true) (hf : FrR L g w Λ fr st act.tmps) (he : ax.ev fr = some v) (hn : ∀ a b c, v ≠ .lptr a b c) : VR L g w v (act.eval x) := by
 obtain ⟨h1, h2⟩ := ev_slot ho hf he
 cases v <;> first | exact h1 | (exact absurd rfl (h2 _ _)) | (exact absurd rfl (hn _ _ _))
section
variable {s s' : St} {act : Act} {o : Oper} {base : Nat} {r : AV}
theorem op_mov {y : Opd} (hs : SimS L g w Λ s act.tmps) (hd : ∀ d, o.dst = some d → d < act.tmps.size) (hc : chkOp L o.op (.mov y) = true) (h : aop base o.dst (.mov y) s = some (r, s')) : OpGoal L g w Λ act o base (.mov y) r s s' := by
 simp only [aop, Option.bind_eq_some_iff] at h
 obtain ⟨v, hv, h⟩ := h
 obtain ⟨rfl, rfl⟩ := pairS_some h
 simp only [chkOp] at hc
 split at hc
 ·rename_i x ho
  obtain ⟨h1, h2⟩ := ev_slot hc hs.fr hv
  exact goal_slot hs hd (ran_move (.inl ho)) h1 h2
 ·rename_i x ho
  obtain ⟨h1, h2⟩ := ev_slot hc hs.fr hv
  exact goal_slot hs hd (ran_move (.inr ho)) h1 h2
 ·simp at hc
theorem op_pick {c a b : Opd} (hs : SimS L g w Λ s act.tmps) (hd : ∀ d, o.dst = some d → d < act.tmps.size) (hc : chkOp L o.op (.pick c a b) = true) (h : aop base o.dst (.pick c a b) s = some (r, s')) : OpGoal L g w Λ act o base (.pick c a b) r s s' := by
 simp only [chkOp] at hc
 split at hc
 ·rename_i c' a' b' ho
  simp only [Bool.and_eq_true] at hc
  simp only [aop] at h
  split at h
  ·rename_i hcv
   simp only [Option.bind_eq_some_iff] at h
   obtain ⟨v, hv, h⟩ := h
   obtain ⟨rfl, rfl⟩ := pairS_some h
   obtain ⟨h1, h2⟩ := ev_slot hc.1.2 hs.fr hv
   have hcb : act.eval c' = .bool true := by
    have := ev_vr hc.1.1 hs.fr hcv (by simp)
    generalize act.eval c' = q at this; cases this; rfl
   exact goal_slot hs hd (by have := pick_run (L := L) (w := w) ho hcb; simpa using this) h1 h2
  ·rename_i hcv
   simp only [Option.bind_eq_some_iff] at h
   obtain ⟨v, hv, h⟩ := h
   obtain ⟨rfl, rfl⟩ := pairS_some h
   obtain ⟨h1, h2⟩ := ev_slot hc.2 hs.fr hv
   have hcb : act.eval c' = .bool false := by
    have := ev_vr hc.1.1 hs.fr hcv (by simp)
    generalize act.eval c' = q at this; cases this; rfl
   exact goal_slot hs hd (by have := pick_run (L := L) (w := w) ho hcb; simpa using this) h1 h2
  ·simp at h
 ·simp at hc
theorem op_alloc {loc : Bool} {zero : List AV} {k : Nat} (hs : SimS L g w Λ s act.tmps) (hd : ∀ d, o.dst = some d → d < act.tmps.size) (hc : chkOp L o.op (.alloc loc zero k) = true)
  (ha : loc = false → (∀ e, g.β (base + k) e = none) ∧ base + k < s.h.next) (h : aop base o.dst (.alloc loc zero k) s = some (r, s')) : OpGoal L g w Λ act o base (.alloc loc zero k) r s s' := by
 simp only [chkOp] at hc
 split at hc
 ·rename_i t ho
  obtain ⟨v, hz1, hz2⟩ := (zeroIs_spec hc).run w
  obtain ⟨e1, e2, e3⟩ := zero_rel (L := L) hz2
  cases loc with
  | true =>
   simp only [aop] at h
   split at h
   ·rename_i d hdd
    simp only [Option.some.injEq, Prod.mk.injEq] at h
    obtain ⟨rfl, rfl⟩ := h
    have := post_loc (d := d) hs (More.alloc w (.cells v.cells t)) (hd d hdd) e1 e2 (fun i c v hc hv => e3 g w i c v hc hv)
    exact ⟨_, _, _, _, ran_alloc ho hz1, by rw [hdd]; exact this.weaken (fun _ h => h.elim)⟩
   ·simp at h
  | false =>
   simp only [aop, Option.some.injEq, Prod.mk.injEq] at h
   obtain ⟨rfl, rfl⟩ := h
   obtain ⟨a1, a2⟩ := ha rfl
   refine ⟨_, _, _, _, ran_alloc ho hz1, (post_obj hs (More.alloc w _) a1 a2 (obj_cells hs.heap a1 e1 e2 (fun i c v hc hv => e3 g w i c v hc hv)) hd ?_ (by simp)).weaken (fun i h => ⟨k, rfl, h⟩)⟩
   exact VR.ptr _ _ w.heap.size 0 0 (by simp [Gh.obj])
 ·simp at hc
theorem op_box {loc : Bool} {y : Opd} {k : Nat} (hs : SimS L g w Λ s act.tmps) (hd : ∀ d, o.dst = some d → d < act.tmps.size) (hc : chkOp L o.op (.box loc y k) = true)
  (ha : loc = false → (∀ e, g.β (base + k) e = none) ∧ base + k < s.h.next) (h : aop base o.dst (.box loc y k) s = some (r, s')) : OpGoal L g w Λ act o base (.box loc y k) r s s' := by
 simp only [chkOp] at hc
 split at hc
 ·rename_i t x ho
  cases loc with
  | true =>
   simp only [aop, Option.bind_eq_some_iff] at h
   obtain ⟨u, hu, h⟩ := h
   obtain ⟨q1, q2⟩ := dat_vr hc hs.fr hu
   obtain ⟨e1, e2, e3⟩ := vr_cells q1 q2
   split at h
   ·rename_i d hdd
    simp only [Option.some.injEq, Prod.mk.injEq] at h
    obtain ⟨rfl, rfl⟩ := h
    have := post_loc (d := d) hs (More.alloc w (.cells (act.eval x).cells t)) (hd d hdd) e1 e2 e3
    exact ⟨_, _, _, _, ran_box ho rfl, by rw [hdd]; exact this.weaken (fun _ h => h.elim)⟩
   ·simp at h
  | false =>
   simp only [aop, Option.bind_eq_some_iff, Option.some.injEq, Prod.mk.injEq] at h
   obtain ⟨u, hu, rfl, rfl⟩ := h
   obtain ⟨q1, q2⟩ := dat_vr hc hs.fr hu
   obtain ⟨e1, e2, e3⟩ := vr_cells q1 q2
   obtain ⟨a1, a2⟩ := ha rfl
   refine ⟨_, _, _, _, ran_box ho rfl, (post_obj hs (More.alloc w _) a1 a2 (obj_cells hs.heap a1 e1 e2 e3) hd ?_ (by simp)).weaken (fun i h => ⟨k, rfl, h⟩)⟩
   exact VR.ptr _ _ w.heap.size 0 0 (by simp [Gh.obj])
 ·simp at hc
theorem op_load {n : Option Nat} {y : Opd} (hs : SimS L g w Λ s act.tmps) (hd : ∀ d, o.dst = some d → d < act.tmps.size) (hc : chkOp L o.op (.load n y) = true) (h : aop base o.dst (.load n y) s = some (r, s')) : OpGoal L g w Λ act o base (.load n y) r s s' := by
 simp only [chkOp] at hc
 split at hc
 ·rename_i t x ho
  simp only [Bool.and_eq_true] at hc
  simp only [aop, Option.bind_eq_some_iff] at h
  obtain ⟨a, ha, cs, hcs, v, hv, h⟩ := h
  obtain ⟨rfl, rfl⟩ := pairS_some h
  obtain ⟨h1, -⟩ := ev_slot hc.2 hs.fr ha
  obtain ⟨e1, b, off, e2, e3⟩ := rd_cells hs.heap hs.fr h1 hcs
  obtain ⟨u, h2, h3⟩ := ran_load (g := g) ho (tyIs_spec hc.1) e2 e1 e3 hv
  exact goal_val hs hd h2 h3
 ·simp at hc
theorem op_store {n : Nat} {y u : Opd} (hs : SimS L g w Λ s act.tmps) (hd : ∀ d, o.dst = some d → d < act.tmps.size) (hc : chkOp L o.op (.store n y u) = true) (h : aop base o.dst (.store n y u) s = some (r, s')) : OpGoal L g w Λ act o base (.store n y u) r s s' := by
 simp only [chkOp] at hc
 split at hc
 ·rename_i t x v ho
  simp only [Bool.and_eq_true] at hc
  simp only [aop, Option.bind_eq_some_iff] at h
  obtain ⟨a, ha, h⟩ := h
  rw [nbeq] at h
  by_cases hn : a.cellsOf.length = n
  ·rw [decide_eq_true hn] at h
   simp only [cond_true, Option.bind_eq_some_iff, Option.some.injEq, Prod.mk.injEq] at h
   obtain ⟨ad, had, s1, hw, rfl, rfl⟩ := h
   obtain ⟨q1, q2⟩ := dat_vr hc.2 hs.fr ha
   obtain ⟨e1, e2, e3⟩ := vr_cells q1 q2
   obtain ⟨h1, -⟩ := ev_slot hc.1.2 hs.fr had
   obtain ⟨b, off, f1, f2, f3, f4, f5, f6⟩ := wr_cells hs.heap hs.fr h1 hw (us := (act.eval v).cells.toList) (by rw [Array.length_toList, e1]) (fun z hz => by
    obtain ⟨i, hi, rfl⟩ := List.getElem_of_mem hz
    exact e2 i _ (by rw [← Array.getElem?_toList, List.getElem?_eq_getElem hi])) (fun i c z hc hz => e3 i c z hc (by simpa using hz))
   refine ⟨undef, _, g, Λ, ran_store ho (szIs_spec hc.1.1) f1 rfl (by rw [e1, hn]) (fun z hz => by
    obtain ⟨i, hi, rfl⟩ := List.getElem_of_mem hz
    exact e2 i _ (by rw [← Array.getElem?_toList, List.getElem?_eq_getElem hi])) f2, ⟨f3, FrR.setD f4 hd (VR.tup [] #[] rfl (fun i c v hc => by simp at hc)) (by simp [undefA]), f5, by rw [setCells_size]; exact Nat.le_refl _, fun _ h _ => h, f6⟩⟩
  ·rw [decide_eq_false hn] at h
   simp at h
 ·simp at hc
end
end Go.Am
/- One operation, second part. -/
namespace Go.Am
variable {L : Link} {g g' : Gh} {w w' : World} {Λ Λ' : Nat → Option Nat}
section
variable {s s' : St} {act : Act} {o : Oper} {base : Nat} {r : AV}
theorem op_nilck {y : Opd} (hs : SimS L g w Λ s act.tmps) (hd : ∀ d, o.dst = some d → d < act.tmps.size) (hc : chkOp L o.op (.nilck y) = true) (h : aop base o.dst (.nilck y) s = some (r, s')) : OpGoal L g w Λ act o base (.nilck y) r s s' := by
 simp only [chkOp] at hc
 split at hc
 ·rename_i x ho
  simp only [aop] at h
  split at h
  all_goals first | (simp at h; done) | skip
  all_goals
   rename_i hv
   simp only [Option.some.injEq, Prod.mk.injEq] at h
   obtain ⟨rfl, rfl⟩ := h
   obtain ⟨h1, h2⟩ := ev_slot hc hs.fr hv
   first
   | exact goal_slot hs hd (nilck_run (s := s) ho h1 rfl) h1 h2
   | skip
 ·simp at hc
theorem op_fadr {y : Opd} {off : Nat} (hs : SimS L g w Λ s act.tmps) (hd : ∀ d, o.dst = some d → d < act.tmps.size) (hc : chkOp L o.op (.fadr y off) = true) (h : aop base o.dst (.fadr y off) s = some (r, s')) : OpGoal L g w Λ act o base (.fadr y off) r s s' := by
 simp only [chkOp] at hc
 split at hc
 ·rename_i t x i ho
  simp only [Bool.and_eq_true] at hc
  obtain ⟨hc1, hc2⟩ := hc
  split at hc2
  ·rename_i fs hu
   split at hc2
   ·rename_i f hf
    simp only [Bool.and_eq_true, nbeq, decide_eq_true_eq] at hc2
    obtain ⟨rfl, hc3⟩ := hc2
    split at hc3
    ·rename_i inf hinf
     simp only [aop, Option.bind_eq_some_iff] at h
     obtain ⟨a, ha, v, hv, h⟩ := h
     obtain ⟨rfl, rfl⟩ := pairS_some h
     obtain ⟨h1, -⟩ := ev_slot hc1 hs.fr ha
     obtain ⟨b, q, e1, e2, e3⟩ := fieldA_slot hv h1
     exact goal_slot hs hd (ran_fieldAddr ho hu hf hinf (by simpa using hc3) e1) e2 e3
    ·simp at hc3
   ·simp at hc2
  ·simp at hc2
 ·simp at hc
theorem op_fld {y : Opd} {off : Nat} {n : Option Nat} (hs : SimS L g w Λ s act.tmps) (hd : ∀ d, o.dst = some d → d < act.tmps.size) (hc : chkOp L o.op (.fld y off n) = true) (h : aop base o.dst (.fld y off n) s = some (r, s')) : OpGoal L g w Λ act o base (.fld y off n) r s s' := by
 simp only [chkOp] at hc
 split at hc
 ·rename_i t x i ho
  simp only [Bool.and_eq_true] at hc
  obtain ⟨hc1, hc2⟩ := hc
  split at hc2
  ·rename_i fs hu
   split at hc2
   ·rename_i f hf
    simp only [Bool.and_eq_true, nbeq, decide_eq_true_eq] at hc2
    obtain ⟨hof, hty⟩ := hc2
    simp only [aop] at h
    split at h
    ·rename_i cs hcs
     simp only [Option.bind_eq_some_iff] at h
     obtain ⟨c, hsub, v, hm, h⟩ := h
     obtain ⟨rfl, rfl⟩ := pairS_some h
     have hx := ev_vr hc1 hs.fr hcs (by simp)
     obtain ⟨u, h2, h3⟩ := fld_run hsub hm hx ho rfl hu hf hof (tyIs_spec hty)
     exact goal_val hs hd h2 h3
    ·simp at h
   ·simp at hc2
  ·simp at hc2
 ·simp at hc
theorem indexA_noptr {arr : Option Nat} {esz : Nat} {x i r : AV} (h : indexA arr esz x i = some r) : ∀ a b c, i ≠ .lptr a b c := by
 intro a b c e
 subst e
 simp [indexA] at h
theorem op_idxa {arr : Option Nat} {esz : Nat} {y j : Opd} (hs : SimS L g w Λ s act.tmps) (hd : ∀ d, o.dst = some d → d < act.tmps.size) (hc : chkOp L o.op (.idxa arr esz y j) = true) (h : aop base o.dst (.idxa arr esz y j) s = some (r, s')) : OpGoal L g w Λ act o base (.idxa arr esz y j) r s s' := by
 simp only [chkOp] at hc
 split at hc
 ·rename_i t x i ho
  simp only [Bool.and_eq_true] at hc
  obtain ⟨⟨hc1, hc2⟩, hc3⟩ := hc
  simp only [aop, Option.bind_eq_some_iff] at h
  obtain ⟨a, ha, b, hb, v, hv, h⟩ := h
  obtain ⟨rfl, rfl⟩ := pairS_some h
  obtain ⟨h1, -⟩ := ev_slot hc1 hs.fr ha
  have h2 := ev_vr hc2 hs.fr hb (indexA_noptr hv)
  split at hc3
  ·rename_i e hu
   simp only [Bool.and_eq_true] at hc3
   cases arr with
   | some q => simp [isNone'] at hc3
   | none =>
    obtain ⟨u, g1, g2, g3⟩ := idxa_slice hv h1 h2 ho rfl rfl hu (szIs_spec hc3.2)
    exact goal_slot hs hd g1 g2 g3
  ·rename_i n e hu
   simp only [Bool.and_eq_true] at hc3
   cases arr with
   | none => simp at hc3
   | some q =>
    have hq : q = n := by have := hc3.1; change Nat.beq q n = true at this; rw [nbeq] at this; simpa using this
    subst hq
    obtain ⟨u, g1, g2, g3⟩ := idxa_array hv h1 h2 ho rfl rfl hu (szIs_spec hc3.2)
    exact goal_slot hs hd g1 g2 g3
  ·simp at hc3
 ·simp at hc
theorem op_idx {y j : Opd} (hs : SimS L g w Λ s act.tmps) (hd : ∀ d, o.dst = some d → d < act.tmps.size) (hc : chkOp L o.op (.idx y j) = true) (h : aop base o.dst (.idx y j) s = some (r, s')) : OpGoal L g w Λ act o base (.idx y j) r s s' := by
 simp only [chkOp] at hc
 split at hc
 ·rename_i t x i ho
  simp only [Bool.and_eq_true] at hc
  obtain ⟨⟨hc1, hc2⟩, hc3⟩ := hc
  simp only [aop] at h
  split at h
  ·rename_i b k n hb hn
   simp only [Option.bind_eq_some_iff, Option.some.injEq, Prod.mk.injEq] at h
   obtain ⟨c, hcc, rfl, rfl⟩ := h
   exact goal_val hs hd (idx_run hcc (ev_vr hc1 hs.fr hb (by simp)) (ev_vr hc2 hs.fr hn (by simp)) ho rfl rfl (isStringT_spec hc3)) (.int _ _)
  ·simp at h
 ·simp at hc
theorem binA_noptr {b : BinOp} {x y r : AV} (h : binA b x y = some r) : (∀ a b c, x ≠ .lptr a b c) ∧ ∀ a b c, y ≠ .lptr a b c := by
 constructor <;> intro a b c e <;> subst e
 ·simp [binA] at h
 ·cases x <;> simp [binA] at h
theorem op_bin {b : BinOp} {x y : Opd} (hs : SimS L g w Λ s act.tmps) (hd : ∀ d, o.dst = some d → d < act.tmps.size) (hc : chkOp L o.op (.bin b x y) = true) (h : aop base o.dst (.bin b x y) s = some (r, s')) : OpGoal L g w Λ act o base (.bin b x y) r s s' := by
 simp only [chkOp] at hc
 split at hc
 ·rename_i b' t x' y' t' ho
  simp only [Bool.and_eq_true, eqBin, decide_eq_true_eq] at hc
  obtain ⟨⟨rfl, hc1⟩, hc2⟩ := hc
  simp only [aop, Option.bind_eq_some_iff] at h
  obtain ⟨u, hu, v, hv, q, hq, h⟩ := h
  obtain ⟨rfl, rfl⟩ := pairS_some h
  obtain ⟨z, g1, g2⟩ := binA_run hq (ev_vr hc1 hs.fr hu (binA_noptr hq).1) (ev_vr hc2 hs.fr hv (binA_noptr hq).2) ho rfl rfl
  exact goal_val hs hd g1 g2
 ·simp at hc
theorem same_noptr {c : Nat} {x y : AV} {r : Bool} (h : same c x y = some r) : (∀ a b c, x ≠ .lptr a b c) ∧ ∀ a b c, y ≠ .lptr a b c := by
 constructor <;> intro a b c' e <;> subst e
 ·unfold same at h; split at h <;> first | (rename_i e; simp at e; done) | (simp at h; done) | simp_all
 ·unfold same at h; split at h <;> first | (rename_i e; simp at e; done) | (simp at h; done) | simp_all
theorem op_cmp {c : Nat} {neg : Bool} {x y : Opd} (hs : SimS L g w Λ s act.tmps) (hd : ∀ d, o.dst = some d → d < act.tmps.size) (hc : chkOp L o.op (.cmp c neg x y) = true) (h : aop base o.dst (.cmp c neg x y) s = some (r, s')) : OpGoal L g w Λ act o base (.cmp c neg x y) r s s' := by
 simp only [chkOp] at hc
 split at hc
 ·rename_i b' t x' y' t' ho
  simp only [Bool.and_eq_true, eqBin, decide_eq_true_eq] at hc
  obtain ⟨⟨⟨⟨hb, hc1⟩, hc2⟩, hc3⟩, hc4⟩ := hc
  simp only [aop, Option.bind_eq_some_iff, Option.some.injEq, Prod.mk.injEq] at h
  obtain ⟨u, hu, v, hv, q, hq, rfl, rfl⟩ := h
  by_cases h6 : 6 ≤ c
  ·rw [nble, decide_eq_true h6, cond_true] at hc3
   obtain ⟨c, rfl⟩ : ∃ k, c = k + 6 := ⟨c - 6, by omega⟩
   have g1 := cmp6_run (neg := neg) hq (ev_vr hc1 hs.fr hu (same_noptr hq).1) (ev_vr hc2 hs.fr hv (same_noptr hq).2) (hb ▸ ho) rfl rfl (by simpa using hc3)
   refine goal_val hs hd g1 ?_
   cases neg <;> exact .bool _
  rw [nble, decide_eq_false h6, cond_false] at hc3
  split at hc3
  ·rename_i d hdd
   have g1 := cmp_run (neg := neg) hq (ev_vr hc1 hs.fr hu (same_noptr hq).1) (ev_vr hc2 hs.fr hv (same_noptr hq).2) (hb ▸ ho) rfl rfl hdd hc3 (fun e => by
    subst e
    simpa [nbeq] using hc4)
   refine goal_val hs hd g1 ?_
   cases neg <;> exact .bool _
  ·simp at hc3
 ·simp at hc
theorem op_un {u : UnOp} {x : Opd} (hs : SimS L g w Λ s act.tmps) (hd : ∀ d, o.dst = some d → d < act.tmps.size) (hc : chkOp L o.op (.un u x) = true) (h : aop base o.dst (.un u x) s = some (r, s')) : OpGoal L g w Λ act o base (.un u x) r s s' := by
 simp only [chkOp] at hc
 split at hc
 ·rename_i u' t x' ho
  simp only [Bool.and_eq_true, eqUn, decide_eq_true_eq] at hc
  obtain ⟨rfl, hc1⟩ := hc
  simp only [aop, Option.bind_eq_some_iff] at h
  obtain ⟨v, hv, q, hq, h⟩ := h
  obtain ⟨rfl, rfl⟩ := pairS_some h
  have hn : ∀ a b c, v ≠ .lptr a b c := by intro a b c e; subst e; cases u <;> simp [unA] at hq
  obtain ⟨z, g1, g2⟩ := unA_run hq (ev_vr hc1 hs.fr hv hn) ho rfl
  exact goal_val hs hd g1 g2
 ·simp at hc
theorem op_toInt {k : IntKind} {y : Opd} (hs : SimS L g w Λ s act.tmps) (hd : ∀ d, o.dst = some d → d < act.tmps.size) (hc : chkOp L o.op (.toInt k y) = true) (h : aop base o.dst (.toInt k y) s = some (r, s')) : OpGoal L g w Λ act o base (.toInt k y) r s s' := by
 simp only [chkOp] at hc
 split at hc
 ·rename_i s0 d x ho
  simp only [Bool.and_eq_true] at hc
  obtain ⟨⟨hc1, hc2⟩, hc3⟩ := hc
  split at hc3
  ·rename_i k' hk
   rw [eqK_eq] at hc3
   have hk' : k = k' := by simpa using hc3
   subst hk'
   simp only [aop] at h
   split at h
   ·rename_i k2 n hn
    simp only [Option.some.injEq, Prod.mk.injEq] at h
    obtain ⟨rfl, rfl⟩ := h
    obtain ⟨z, g1, g2⟩ := toInt_run ho (ev_vr hc1 hs.fr hn (by simp)) (Option.isSome_iff_exists.1 hc2) hk
    exact goal_val hs hd g1 g2
   ·simp at h
  ·simp at hc3
 ·simp at hc
theorem op_toStr {y : Opd} (hs : SimS L g w Λ s act.tmps) (hd : ∀ d, o.dst = some d → d < act.tmps.size) (hc : chkOp L o.op (.toStr y) = true) (h : aop base o.dst (.toStr y) s = some (r, s')) : OpGoal L g w Λ act o base (.toStr y) r s s' := by
 simp only [chkOp] at hc
 split at hc
 ·rename_i s0 d x ho
  simp only [Bool.and_eq_true] at hc
  obtain ⟨⟨hc1, hc2⟩, hc3⟩ := hc
  split at hc2
  ·rename_i e he
   simp only [aop, Option.bind_eq_some_iff] at h
   obtain ⟨v, hv, h⟩ := h
   have key : (∀ l, v ≠ .str l) ∧ ∃ n, lenA s.h v = some n ∧ ∃ cs, cellsAt s.h 1 v n = some cs ∧ ∃ b, bytesOf cs = some b ∧ r = .str b ∧ s' = s := by
    cases v <;> simp only [Option.bind_eq_some_iff, Option.some.injEq, Prod.mk.injEq] at h <;> first
     | (simp at h; done)
     | (obtain ⟨n, h1, cs, h2, b, h3, rfl, rfl⟩ := h; exact ⟨by simp, n, h1, cs, h2, b, h3, rfl, rfl⟩)
   obtain ⟨k1, n, k2, cs, k3, b, k4, rfl, rfl⟩ := key
   have hn : ∀ a b c, v ≠ .lptr a b c := by intro a b c e; subst e; simp [lenA] at k2
   obtain ⟨z, g1, g2⟩ := toStr_run hs.heap ho (ev_vr hc1 hs.fr hv hn) (isSliceOf_spec he) (isByte_spec hc2) (isStringT_spec hc3) k1 k2 k3 k4
   exact goal_val hs hd g1 g2
  ·simp at hc2
 ·simp at hc
theorem op_toBytes {y : Opd} {k : Nat} (hs : SimS L g w Λ s act.tmps) (hd : ∀ d, o.dst = some d → d < act.tmps.size) (hc : chkOp L o.op (.toBytes y k) = true) (ha : (∀ e, g.β (base + k) e = none) ∧ base + k < s.h.next) (h : aop base o.dst (.toBytes y k) s = some (r, s')) : OpGoal L g w Λ act o base (.toBytes y k) r s s' := by
 simp only [chkOp] at hc
 split at hc
 ·rename_i s0 d x ho
  simp only [Bool.and_eq_true] at hc
  obtain ⟨⟨hc1, hc2⟩, hc3⟩ := hc
  split at hc2
  ·rename_i e he
   simp only [aop] at h
   split at h
   ·rename_i b hb
    simp only [newRowA, Option.some.injEq, Prod.mk.injEq] at h
    obtain ⟨rfl, rfl⟩ := h
    obtain ⟨v, w', g', g1, g2⟩ := toBytes_run hs ha.1 ha.2 hd ho (ev_vr hc1 hs.fr hb (by simp)) (Option.isSome_iff_exists.1 hc3) (isSliceOf_spec he) (isByte_spec hc2)
    exact ⟨v, w', g', _, g1, g2.weaken (fun i h => ⟨k, rfl, h⟩)⟩
   ·simp at h
  ·simp at hc2
 ·simp at hc
theorem op_slice {z : Option Nat} {y : Opd} {l h' m : Option Opd} (hs : SimS L g w Λ s act.tmps) (hd : ∀ d, o.dst = some d → d < act.tmps.size) (hc : chkOp L o.op (.slice z y l h' m) = true) (h : aop base o.dst (.slice z y l h' m) s = some (r, s')) : OpGoal L g w Λ act o base (.slice z y l h' m) r s s' := by
 simp only [chkOp] at hc
 split at hc
 ·rename_i t x lo hi mx ho
  simp only [Bool.and_eq_true] at hc
  obtain ⟨⟨⟨⟨⟨hc1, hc2⟩, hc3⟩, hc4⟩, hc5⟩, hc6⟩ := hc
  simp only [aop, Option.bind_eq_some_iff] at h
  obtain ⟨v, hv, q, hq, h⟩ := h
  obtain ⟨rfl, rfl⟩ := pairS_some h
  have hn : ∀ a b c, v ≠ .lptr a b c := by intro a b c e; subst e; cases z <;> simp [sliceA] at hq
  obtain ⟨u, g1, g2⟩ := sliceA_run hq (ev_vr hc1 hs.fr hv hn) hs.fr ho rfl (by
   cases z with
   | none => exact isStringT_spec hc6
   | some z =>
    simp only at hc6
    split at hc6
    ·rename_i e he
     obtain ⟨i, hi1, hi2⟩ := szIs_spec hc6
     exact ⟨e, i, isSliceOf_spec he, hi1, hi2⟩
    ·simp at hc6) hc2 hc3 hc4 (fun e => by
    cases m with
    | none => simp at e
    | some q => simpa using hc5)
  exact goal_val hs hd g1 g2
 ·simp at hc
theorem op_slicx {z : Nat} {y : Opd} {l : Option Opd} {h' : Opd} (hs : SimS L g w Λ s act.tmps) (hd : ∀ d, o.dst = some d → d < act.tmps.size) (hc : chkOp L o.op (.slicx z y l h') = true) (h : aop base o.dst (.slicx z y l h') s = some (r, s')) : OpGoal L g w Λ act o base (.slicx z y l h') r s s' := by
 simp only [chkOp] at hc
 split at hc
 ·rename_i t x lo hi ho
  simp only [Bool.and_eq_true] at hc
  obtain ⟨⟨⟨hc1, hc2⟩, hc3⟩, hc4⟩ := hc
  simp only [aop, Option.bind_eq_some_iff] at h
  obtain ⟨v, hv, q, hq, u, hu, h⟩ := h
  split at h
  ·rename_i e ob ep off n
   split at h
   ·rename_i z' ep' c hg
    cases hb : (Nat.beq ep' ep && Nat.beq e z && Nat.ble q u && Nat.blt 0 z && Nat.ble ((off + u) * z) c.length) with
    | false => rw [hb] at h; simp at h
    | true =>
     rw [hb] at h
     simp only [cond_true, Option.some.injEq, Prod.mk.injEq] at h
     obtain ⟨rfl, rfl⟩ := h
     simp only [Bool.and_eq_true, nbeq, nble, nblt, decide_eq_true_eq] at hb
     obtain ⟨⟨⟨⟨rfl, rfl⟩, b3⟩, b4⟩, b5⟩ := hb
     split at hc4
     ·rename_i et he
      obtain ⟨i, hi1, hi2⟩ := szIs_spec hc4
      obtain ⟨v', g1, g2⟩ := slicx_run (ev_vr hc1 hs.fr hv (by simp)) hs.fr hs.heap hg hq hu b3 b4 b5 ho rfl ⟨et, i, isSliceOf_spec he, hi1, hi2⟩ hc2 hc3
      exact goal_val hs hd g1 g2
     ·simp at hc4
   ·simp at h
  ·simp at h
 ·simp at hc
end
end Go.Am
/- One operation, third part, and all together. -/
namespace Go.Am
variable {L : Link} {g g' : Gh} {w w' : World} {Λ Λ' : Nat → Option Nat}
section
variable {s s' : St} {act : Act} {o : Oper} {base : Nat} {r : AV}
theorem op_build {zero : List AV} {parts : List (Nat × Nat × Opd)} (hs : SimS L g w Λ s act.tmps) (hd : ∀ d, o.dst = some d → d < act.tmps.size) (hc : chkOp L o.op (.build zero parts) = true) (h : aop base o.dst (.build zero parts) s = some (r, s')) : OpGoal L g w Λ act o base (.build zero parts) r s s' := by
 simp only [chkOp] at hc
 split at hc
 ·rename_i t ps ho
  simp only [Bool.and_eq_true] at hc
  obtain ⟨hz, hc2⟩ := hc
  split at hc2
  ·rename_i fs hu
   split at hc2
   ·rename_i q hq
    simp only [aop, Option.bind_eq_some_iff, Option.some.injEq, Prod.mk.injEq] at h
    obtain ⟨c, hcc, rfl, rfl⟩ := h
    obtain ⟨v, g1, g2⟩ := build_run ho hs.fr (zeroIs_spec hz) hu hq hc2 hcc
    exact goal_val hs hd g1 g2
   ·simp at hc2
  ·simp at hc2
 ·simp at hc
theorem op_buildsl {esz n k : Nat} {zero : List AV} {parts : List (Nat × Nat × Opd)} (hs : SimS L g w Λ s act.tmps) (hd : ∀ d, o.dst = some d → d < act.tmps.size) (hc : chkOp L o.op (.buildsl esz n zero parts k) = true) (ha : (∀ e, g.β (base + k) e = none) ∧ base + k < s.h.next)
  (h : aop base o.dst (.buildsl esz n zero parts k) s = some (r, s')) : OpGoal L g w Λ act o base (.buildsl esz n zero parts k) r s s' := by
 simp only [chkOp] at hc
 split at hc
 ·rename_i t m ps ho
  simp only [Bool.and_eq_true, nbeq, nble, decide_eq_true_eq] at hc
  obtain ⟨rfl, hc2⟩ := hc
  split at hc2
  ·rename_i e he
   simp only [Bool.and_eq_true, decide_eq_true_eq] at hc2
   obtain ⟨⟨⟨⟨c1, c2⟩, c3⟩, c4⟩, c5⟩ := hc2
   simp only [aop, newRowA, Option.bind_eq_some_iff, Option.some.injEq, Prod.mk.injEq] at h
   obtain ⟨c, hcc, rfl, rfl⟩ := h
   obtain ⟨v, w', g1, g2⟩ := buildsl_run hs ha.1 ha.2 hd ho (zeroIs_spec c1) c2 (szIs_spec c3) (isSliceOf_spec he) c4 c5 hcc
   exact ⟨v, w', _, _, g1, g2.weaken (fun i h => ⟨k, rfl, h⟩)⟩
  ·simp at hc2
 ·simp at hc
theorem op_lits {esz n : Nat} {zero : List AV} {parts : List (Nat × Nat × Opd)} (hs : SimS L g w Λ s act.tmps) (hd : ∀ d, o.dst = some d → d < act.tmps.size) (hc : chkOp L o.op (.lits esz n zero parts) = true)
  (h : aop base o.dst (.lits esz n zero parts) s = some (r, s')) : OpGoal L g w Λ act o base (.lits esz n zero parts) r s s' := by
 simp only [chkOp] at hc
 split at hc
 ·rename_i t m ps ho
  simp only [Bool.and_eq_true, nbeq, nble, decide_eq_true_eq] at hc
  obtain ⟨rfl, hc2⟩ := hc
  split at hc2
  ·rename_i e he
   simp only [Bool.and_eq_true, decide_eq_true_eq] at hc2
   obtain ⟨⟨⟨⟨c1, c2⟩, c3⟩, c4⟩, c5⟩ := hc2
   simp only [aop, Option.bind_eq_some_iff, Option.some.injEq, Prod.mk.injEq] at h
   obtain ⟨c, hcc, rfl, rfl⟩ := h
   obtain ⟨v, w', g1, g2⟩ := lits_run hs hd ho (zeroIs_spec c1) c2 (szIs_spec c3) (isSliceOf_spec he) c4 c5 hcc
   exact ⟨v, w', _, _, g1, g2.weaken (fun i h => h.elim)⟩
  ·simp at hc2
 ·simp at hc
theorem op_mksl {esz bytes k : Nat} {zero : List AV} {x y : Opd} (hs : SimS L g w Λ s act.tmps) (hd : ∀ d, o.dst = some d → d < act.tmps.size) (hc : chkOp L o.op (.mksl esz bytes zero x y k) = true) (ha : (∀ e, g.β (base + k) e = none) ∧ base + k < s.h.next)
  (h : aop base o.dst (.mksl esz bytes zero x y k) s = some (r, s')) : OpGoal L g w Λ act o base (.mksl esz bytes zero x y k) r s s' := by
 simp only [chkOp] at hc
 split at hc
 ·rename_i t x' y' ho
  simp only [Bool.and_eq_true, nblt, decide_eq_true_eq] at hc
  obtain ⟨⟨⟨hx, hy⟩, hb⟩, hc2⟩ := hc
  split at hc2
  ·rename_i e he
   simp only [Bool.and_eq_true, nbeq, decide_eq_true_eq] at hc2
   obtain ⟨⟨⟨c1, c2⟩, c3⟩, c4⟩ := hc2
   simp only [aop] at h
   split at h
   ·rename_i l c hl hcc
    rw [nble, nble] at h
    by_cases q : l ≤ c ∧ c * bytes ≤ two47
    ·simp only [q.1, q.2, decide_true, Bool.and_self, cond_true, newRowA, Option.some.injEq, Prod.mk.injEq] at h
     obtain ⟨rfl, rfl⟩ := h
     have v1 := ev_vr hx hs.fr hl (by simp)
     have v2 := ev_vr hy hs.fr hcc (by simp)
     have e1 : act.eval x' = .int .i64 (.ofNat l) := by generalize act.eval x' = u at v1; cases v1; rfl
     have e2 : act.eval y' = .int .i64 (.ofNat c) := by generalize act.eval y' = u at v2; cases v2; rfl
     obtain ⟨i, i1, i2⟩ := szIs_spec c3
     obtain ⟨i', i3, i4⟩ := bytesIs_spec c4
     rw [i1] at i3
     obtain rfl := Option.some.inj i3
     obtain ⟨v, w', g1, g2⟩ := mksl_run hs ha.1 ha.2 hd ho e1 e2 (zeroIs_spec c1) c2 i1 i2 i4 (isSliceOf_spec he) q.1 q.2 (Nat.le_trans (Nat.le_mul_of_pos_right _ hb) q.2)
     exact ⟨v, w', _, _, g1, g2.weaken (fun i h => ⟨k, rfl, h⟩)⟩
    ·exfalso
     apply q
     by_cases q1 : l ≤ c <;> by_cases q2 : c * bytes ≤ two47 <;> simp [q1, q2] at h ⊢
   ·simp at h
  ·simp at hc2
 ·simp at hc
theorem appA_noptr {st : St} {o' esz bytes : Nat} {x y : AV} {q : AV × St} (h : appA st o' esz bytes x y = some q) : (∀ a b c, x ≠ .lptr a b c) ∧ ∀ a b c, y ≠ .lptr a b c := by
 constructor <;> intro a b c e <;> subst e
 ·simp only [appA, Option.bind_eq_some_iff] at h
  obtain ⟨n, -, new, -, h⟩ := h
  cases hn : Nat.beq n 0 <;> rw [hn] at h <;> simp [isSl] at h
 ·simp [appA, lenA] at h
theorem op_app {esz bytes k : Nat} {x y : Opd} (hs : SimS L g w Λ s act.tmps) (hd : ∀ d, o.dst = some d → d < act.tmps.size) (hc : chkOp L o.op (.app esz bytes x y k) = true) (ha : (∀ e, g.β (base + k) e = none) ∧ base + k < s.h.next)
  (h : aop base o.dst (.app esz bytes x y k) s = some (r, s')) : OpGoal L g w Λ act o base (.app esz bytes x y k) r s s' := by
 simp only [chkOp] at hc
 split at hc
 ·rename_i xs ats ho
  split at hc
  ·rename_i x' y' hxs
   simp only [Bool.and_eq_true, nblt, decide_eq_true_eq] at hc
   obtain ⟨⟨⟨⟨hx, hy⟩, hb⟩, he0⟩, hc⟩ := hc
   split at hc
   ·rename_i t t1 ht ht1
    split at hc
    ·rename_i e he
     simp only [Bool.and_eq_true] at hc
     obtain ⟨⟨c1, c2⟩, c3⟩ := hc
     obtain ⟨i, i1, i2⟩ := szIs_spec c1
     obtain ⟨i', i3, i4⟩ := bytesIs_spec c2
     rw [i1] at i3
     obtain rfl := Option.some.inj i3
     rw [i1] at c3
     simp only at c3
     split at c3
     ·rename_i v hv
      have hxs' : xs = #[x', y'] := by
       rw [← Array.toArray_toList (xs := xs), hxs]
      subst hxs'
      simp only [aop, Option.bind_eq_some_iff] at h
      obtain ⟨a, haa, b, hbb, h⟩ := h
      obtain ⟨n1, n2⟩ := appA_noptr h
      have fin : ∀ d1, L.P.underlying t1 = some d1 → ((∃ e', d1 = .slice e') ∨ d1 = .string) → (zeroOk (v.cells.toList.map zAV) v.cells.toList && Nat.beq v.cells.size esz) = true → OpGoal L g w Λ act o base (.app esz bytes x y k) r s s' := fun d1 hu1 hn1 hz => by
       simp only [Bool.and_eq_true, nbeq, decide_eq_true_eq] at hz
       have T : AppT L.P ats esz bytes := ⟨t, t1, e, d1, i, v, ht, ht1, isSliceOf_spec he, hu1, hn1, i1, i2, i4, hb, he0, hv, ⟨_, by rw [List.length_map, Array.length_toList]; exact hz.2, hz.1⟩⟩
       obtain ⟨z, w', g', g1, g2⟩ := appA_run hs T h (ev_vr hx hs.fr haa n1) (ev_vr hy hs.fr hbb n2) ha.1 ha.2 hd ho
       exact ⟨z, w', g', _, g1, g2.weaken (fun i h => ⟨k, rfl, h⟩)⟩
      split at c3
      ·rename_i e' hu1
       exact fin _ hu1 (.inl ⟨_, rfl⟩) c3
      ·rename_i hu1
       exact fin _ hu1 (.inr rfl) c3
      ·simp at c3
     ·simp at c3
    ·simp at hc
   ·simp at hc
  ·simp at hc
 ·simp at hc
theorem op_len {c : Nat} {y : Opd} (hs : SimS L g w Λ s act.tmps) (hd : ∀ d, o.dst = some d → d < act.tmps.size) (hc : chkOp L o.op (.len c y) = true) (h : aop base o.dst (.len c y) s = some (r, s')) : OpGoal L g w Λ act o base (.len c y) r s s' := by
 simp only [chkOp] at hc
 split at hc
 ·rename_i xs ats ho
  split at hc
  ·rename_i x hxs
   have hxs' : xs = #[x] := by rw [← Array.toArray_toList (xs := xs), hxs]
   subst hxs'
   simp only [Bool.and_eq_true] at hc
   obtain ⟨hx, hc⟩ := hc
   split at hc
   ·rename_i t ht
    simp only [aop, Option.bind_eq_some_iff] at h
    obtain ⟨a, haa, h⟩ := h
    cases htag : lenTag c a with
    | false => rw [htag] at h; simp at h
    | true =>
     rw [htag] at h
     simp only [cond_true, Option.bind_eq_some_iff, Option.some.injEq, Prod.mk.injEq] at h
     obtain ⟨n, hn, rfl, rfl⟩ := h
     have hnp : ∀ p q z, a ≠ .lptr p q z := by intro p q z e; subst e; simp [lenA] at hn
     have hv := ev_vr hx hs.fr haa hnp
     have fin : ∀ d, L.P.underlying t = some d → lenTy a d → OpGoal L g w Λ act o base (.len c y) (.int .i64 (.ofNat n)) s s := fun d hu hdd =>
      goal_val hs hd (len_run hn hs.heap hv ho ht rfl hu hdd) (.int _ _)
     split at hc
     ·rename_i hu
      rw [nbeq] at hc
      obtain rfl : c = 0 := by simpa using hc
      cases a <;> simp [lenTag] at htag
      exact fin _ hu rfl
     ·rename_i e hu
      rw [nbeq] at hc
      obtain rfl : c = 1 := by simpa using hc
      cases a <;> simp [lenTag] at htag
      all_goals exact fin _ hu ⟨_, rfl⟩
     ·rename_i k e hu
      rw [nbeq] at hc
      obtain rfl : c = 2 := by simpa using hc
      cases a <;> simp [lenTag] at htag
      all_goals exact fin _ hu ⟨_, _, rfl⟩
     ·simp at hc
   ·simp at hc
  ·simp at hc
 ·simp at hc
theorem op_mm {m : Bool} {x y : Opd} (hs : SimS L g w Λ s act.tmps) (hd : ∀ d, o.dst = some d → d < act.tmps.size) (hc : chkOp L o.op (.mm m x y) = true) (h : aop base o.dst (.mm m x y) s = some (r, s')) : OpGoal L g w Λ act o base (.mm m x y) r s s' := by
 simp only [chkOp] at hc
 split at hc
 ·rename_i b xs ats ho
  split at hc
  ·rename_i x' y' hxs
   have hxs' : xs = #[x', y'] := by rw [← Array.toArray_toList (xs := xs), hxs]
   subst hxs'
   simp only [Bool.and_eq_true] at hc
   obtain ⟨⟨hx, hy⟩, hc⟩ := hc
   simp only [aop] at h
   split at h
   ·rename_i k p k' q hp hq
    simp only [Option.some.injEq, Prod.mk.injEq] at h
    obtain ⟨rfl, rfl⟩ := h
    have v1 := ev_vr hx hs.fr hp (by simp)
    have v2 := ev_vr hy hs.fr hq (by simp)
    have e1 : act.eval x' = .int k p := by generalize act.eval x' = u at v1; cases v1; rfl
    have e2 : act.eval y' = .int k' q := by generalize act.eval y' = u at v2; cases v2; rfl
    rw [ltI_eq, ltI_eq]
    split at hc
    ·subst hc
     refine goal_val hs hd (v := .int k (if q > p then q else p)) (.inl ?_) ?_
     ·simp only [execOp, ho, resolve, Sem.run_bind, Sem.run_pure, Result.andThen_ok, invoke, builtin, List.map_toArray, List.map_cons, List.map_nil, e1, e2]
      rfl
     ·have : (bif true then (bif decide (p < q) then q else p) else (bif decide (q < p) then q else p)) = if q > p then q else p := by
       by_cases c : p < q <;> simp [c]
      rw [this]; exact .int _ _
    ·have hm : m = false := by simpa using hc
     subst hm
     refine goal_val hs hd (v := .int k (if q < p then q else p)) (.inl ?_) ?_
     ·simp only [execOp, ho, resolve, Sem.run_bind, Sem.run_pure, Result.andThen_ok, invoke, builtin, List.map_toArray, List.map_cons, List.map_nil, e1, e2]
      rfl
     ·have : (bif false then (bif decide (p < q) then q else p) else (bif decide (q < p) then q else p)) = if q < p then q else p := by
       by_cases c : q < p <;> simp [c]
      rw [this]; exact .int _ _
    ·simp at hc
   ·simp at h
  ·simp at hc
 ·simp at hc
theorem op_mkmap {k : Nat} (hs : SimS L g w Λ s act.tmps) (hd : ∀ d, o.dst = some d → d < act.tmps.size) (hc : chkOp L o.op (.mkmap k) = true) (ha : (∀ e, g.β (base + k) e = none) ∧ base + k < s.h.next)
  (h : aop base o.dst (.mkmap k) s = some (r, s')) : OpGoal L g w Λ act o base (.mkmap k) r s s' := by
 simp only [chkOp] at hc
 split at hc
 ·rename_i t ho
  simp only [aop, Option.some.injEq, Prod.mk.injEq] at h
  obtain ⟨rfl, rfl⟩ := h
  obtain ⟨v, w', g1, g2⟩ := mkmap_run hs ha.1 ha.2 hd ho
  exact ⟨v, w', _, _, g1, g2.weaken (fun i h => ⟨k, rfl, h⟩)⟩
 ·simp at hc
theorem op_range {m : Bool} {y : Opd} {k : Nat} (hs : SimS L g w Λ s act.tmps) (hd : ∀ d, o.dst = some d → d < act.tmps.size) (hc : chkOp L o.op (.range m y k) = true) (ha : (∀ e, g.β (base + k) e = none) ∧ base + k < s.h.next)
  (h : aop base o.dst (.range m y k) s = some (r, s')) : OpGoal L g w Λ act o base (.range m y k) r s s' := by
 simp only [chkOp] at hc
 split at hc
 ·rename_i t x ho
  simp only [Bool.and_eq_true] at hc
  obtain ⟨hx, hc⟩ := hc
  split at hc
  ·rename_i d hu
   simp only [aop, Option.bind_eq_some_iff] at h
   obtain ⟨a, haa, h⟩ := h
   have hn : ∀ p q z, a ≠ .lptr p q z := by intro p q z e; subst e; simp [rangeA] at h
   obtain ⟨v, w', g1, g2⟩ := range_run hs ha.1 ha.2 hd ho hu hc (ev_vr hx hs.fr haa hn) h
   exact ⟨v, w', _, _, g1, g2.weaken (fun i h => ⟨k, rfl, h⟩)⟩
  ·simp at hc
 ·simp at hc
theorem op_next {str : Bool} {y : Opd} (hs : SimS L g w Λ s act.tmps) (hd : ∀ d, o.dst = some d → d < act.tmps.size) (hc : chkOp L o.op (.next str y) = true)
  (h : aop base o.dst (.next str y) s = some (r, s')) : OpGoal L g w Λ act o base (.next str y) r s s' := by
 simp only [chkOp] at hc
 split at hc
 ·rename_i x b ho
  simp only [Bool.and_eq_true, beq_iff_eq] at hc
  obtain ⟨hx, rfl⟩ := hc
  simp only [aop, Option.bind_eq_some_iff] at h
  obtain ⟨a, haa, h⟩ := h
  have hn : ∀ p q z, a ≠ .lptr p q z := by intro p q z e; subst e; simp [nextA] at h
  obtain ⟨v, w', g1, g2⟩ := next_run hs hd ho (ev_vr hx hs.fr haa hn) h
  exact ⟨v, w', _, _, g1, g2.weaken (fun i h => h.elim)⟩
 ·simp at hc
theorem op_entry {y : Opd} (hs : SimS L g w Λ s act.tmps) (hd : ∀ d, o.dst = some d → d < act.tmps.size) (hc : chkOp L o.op (.entry y) = true)
  (h : aop base o.dst (.entry y) s = some (r, s')) : OpGoal L g w Λ act o base (.entry y) r s s' := by
 simp only [chkOp] at hc
 split at hc
 ·rename_i x ho
  simp only [aop, Option.bind_eq_some_iff] at h
  obtain ⟨a, haa, h⟩ := h
  have hn : ∀ p q z, a ≠ .lptr p q z := by intro p q z e; subst e; simp [entryA] at h
  obtain ⟨rfl, v, g1, g2⟩ := entry_run hs hd ho (ev_vr hc hs.fr haa hn) h
  exact goal_val hs hd g1 g2
 ·simp at hc
theorem keyFits_of {kd : Nat} {d : TypeDesc} {a : AV} (h : keyIs L.P kd d = true) (hk : keyOk kd a = true) : keyFits d a = true ∧ keyTy L.P d = true := by
 unfold keyOk at hk
 split at hk
 ·cases d <;> simp [keyIs] at h
  exact ⟨rfl, rfl⟩
 ·cases d <;> simp [keyIs] at h
  exact ⟨rfl, rfl⟩
 ·cases d <;> simp [keyIs] at h
  exact ⟨rfl, h⟩
 ·simp at hk
theorem keyOk_place {kd : Nat} {a : AV} (hk : keyOk kd a = true) : ∀ p q z, a ≠ .lptr p q z := by
 intro p q z e
 subst e
 match kd, hk with
 | 0, hk => exact absurd hk (by simp [keyOk])
 | 1, hk => exact absurd hk (by simp [keyOk])
 | 2, hk => exact absurd hk (by simp [keyOk])
 | n + 3, hk => exact absurd hk (by simp [keyOk])
theorem op_lookup {str : Nat} {ok : Bool} {zero : AV} {x i : Opd} (hs : SimS L g w Λ s act.tmps) (hd : ∀ d, o.dst = some d → d < act.tmps.size) (hc : chkOp L o.op (.lookup str zero ok x i) = true) (h : aop base o.dst (.lookup str zero ok x i) s = some (r, s')) : OpGoal L g w Λ act o base (.lookup str zero ok x i) r s s' := by
 simp only [chkOp] at hc
 split at hc
 ·rename_i t x' i' ok' ho
  simp only [Bool.and_eq_true, beq_iff_eq] at hc
  obtain ⟨⟨⟨rfl, hx⟩, hi⟩, hc⟩ := hc
  split at hc
  ·rename_i k e hu
   simp only [Bool.and_eq_true] at hc
   obtain ⟨c1, c2⟩ := hc
   split at c1
   ·rename_i d hk
    simp only [aop, Option.bind_eq_some_iff] at h
    obtain ⟨a, haa, b, hbb, es, hes, h⟩ := h
    cases hko : keyOk str b with
    | false => rw [hko] at h; simp at h
    | true =>
     rw [hko] at h
     simp only [cond_true, Option.bind_eq_some_iff] at h
     obtain ⟨q, hq, h⟩ := h
     obtain ⟨k1, k2⟩ := keyFits_of c1 hko
     have n1 : ∀ p q z, a ≠ .lptr p q z := by intro p q z e; subst e; simp [entriesOf] at hes
     have n2 := keyOk_place hko
     have hr : r = lookR zero ok q ∧ s' = s := by
      cases q <;> simp only [Option.some.injEq, Prod.mk.injEq] at h <;> exact ⟨h.1.symm, h.2.symm⟩
     obtain ⟨hr, rfl⟩ := hr
     obtain ⟨v, g1, g2⟩ := lookup_run ⟨k, hu, hk, k2⟩ (zeroVIs_spec c2 w) ho hs.heap (ev_vr hx hs.fr haa n1) (ev_vr hi hs.fr hbb n2) hes k1 hq hr
     exact goal_val hs hd g1 g2
   ·simp at c1
  ·simp at hc
 ·simp at hc
theorem op_mapupd {str : Nat} {m i v : Opd} (hs : SimS L g w Λ s act.tmps) (hd : ∀ d, o.dst = some d → d < act.tmps.size) (hc : chkOp L o.op (.mapupd str m i v) = true) (h : aop base o.dst (.mapupd str m i v) s = some (r, s')) : OpGoal L g w Λ act o base (.mapupd str m i v) r s s' := by
 have key : ∀ t m' i' v', (o.op = .mapUpdate t m' i' v' ∨ o.op = .insert t m' i' v') → (opdOk L m' m && opdOk L i' i && opdOk L v' v && (match L.P.underlying t with
   | some (.map k _) => (match L.P.underlying k with | some d => keyIs L.P str d | none => false)
   | _ => false)) = true → OpGoal L g w Λ act o base (.mapupd str m i v) r s s' := fun t m' i' v' ho hc => by
  simp only [Bool.and_eq_true] at hc
  obtain ⟨⟨⟨hm, hi⟩, hv⟩, hc⟩ := hc
  split at hc
  ·rename_i k e hu
   split at hc
   ·rename_i d hk
    simp only [aop] at h
    split at h
    ·rename_i ob hob
     simp only [Option.bind_eq_some_iff] at h
     obtain ⟨a, haa, b, hbb, h⟩ := h
     split at h
     ·rename_i es hes
      cases hko : keyOk str a with
      | false => rw [hko] at h; simp at h
      | true =>
       rw [hko] at h
       simp only [cond_true, Option.bind_eq_some_iff, Option.some.injEq, Prod.mk.injEq] at h
       obtain ⟨es', hes', rfl, rfl⟩ := h
       obtain ⟨k1, k2⟩ := keyFits_of hc hko
       obtain ⟨z, w', g1, g2⟩ := mapupd_run hs ⟨k, hu, hk, k2⟩ ho (ev_vr hm hs.fr hob (by simp)) (dat_vr hi hs.fr haa).1 (dat_vr hv hs.fr hbb).1 hd hes k1 hes'
       exact ⟨z, w', _, _, g1, g2.weaken (fun _ h => h.elim)⟩
     ·simp at h
    ·simp at h
   ·simp at hc
  ·simp at hc
 simp only [chkOp] at hc
 split at hc
 ·rename_i t m' i' v' ho
  exact key t m' i' v' (.inl ho) hc
 ·rename_i t m' i' v' ho
  exact key t m' i' v' (.inr ho) hc
 ·simp at hc
theorem op_clr {z : AV} {y : Opd} (hs : SimS L g w Λ s act.tmps) (hd : ∀ d, o.dst = some d → d < act.tmps.size) (hc : chkOp L o.op (.clr z y) = true) (h : aop base o.dst (.clr z y) s = some (r, s')) : OpGoal L g w Λ act o base (.clr z y) r s s' := by
 simp only [chkOp] at hc
 split at hc
 ·rename_i xs ats ho
  split at hc
  ·rename_i x' hxs
   have hxs' : xs = #[x'] := by rw [← Array.toArray_toList (xs := xs), hxs]
   subst hxs'
   simp only [Bool.and_eq_true] at hc
   obtain ⟨hx, hc⟩ := hc
   split at hc
   ·rename_i t ht
    split at hc
    ·rename_i e he
     have hu := isSliceOf_spec he
     have ran : ∀ (v : Value) (w' : World), (Builtin.clear_ ats o.type #[act.eval x']).run L.P w = .ok v w' → Ran L o act w v w' := fun v w' hv => by
      left
      simp only [execOp, ho, resolve, Sem.run_bind, Sem.run_pure, Result.andThen_ok, invoke, builtin, List.map_toArray, List.map_cons, List.map_nil]
      rw [hv]; rfl
     have hund : VR L g w undefA undef := .tup [] #[] rfl (fun i c v hc => by simp at hc)
     simp only [aop] at h
     split at h
     ·rename_i hev
      simp only [Option.some.injEq, Prod.mk.injEq] at h
      obtain ⟨rfl, rfl⟩ := h
      have hv := ev_vr hx hs.fr hev (by simp)
      have e1 : act.eval x' = .slice none 0 0 := by generalize act.eval x' = u at hv; cases hv; rfl
      refine goal_val hs hd (ran undef w ?_) hund
      rw [e1]
      simp only [Builtin.clear_, ht, List.getElem?_toArray, List.getElem?_cons_zero, Sem.run_bind, run_underlying hu w, Result.andThen_ok, Sem.run_pure]
      rfl
     ·rename_i e' ob ep off len full hev
      have hv := ev_vr hx hs.fr hev (by simp)
      generalize hq : act.eval x' = u at hv
      cases hv with
      | hs _ _ _ _ _ _ b a c x cap hβ hlc hcap hxa =>
      rw [hq] at ran
      rw [nbeq] at h
      by_cases hlen : len = 0
      ·subst hlen
       simp only [decide_true, cond_true, Option.some.injEq, Prod.mk.injEq] at h
       obtain ⟨rfl, rfl⟩ := h
       refine goal_val hs hd (ran undef w ?_) hund
       simp only [Builtin.clear_, ht, List.getElem?_toArray, List.getElem?_cons_zero, Sem.run_bind, run_underlying hu w, Result.andThen_ok, Sem.run_pure]
       rfl
      ·simp only [hlen, decide_false, cond_false] at h
       rw [nbeq] at h
       by_cases he1 : e' = 1
       ·subst he1
        simp only [decide_true, cond_true, Option.bind_eq_some_iff, Option.some.injEq, Prod.mk.injEq] at h
        obtain ⟨s1, hw, rfl, rfl⟩ := h
        obtain ⟨i, v, hi, hz, hzo⟩ := zeroIs_spec hc
        obtain ⟨z1, z2, z3⟩ := zero_rel (L := L) hzo
        have hsz : v.cells.size = 1 := by simpa using z1
        have hcell : ∀ k : Nat, v.cells[k % 1]! = v.cells[0] := fun k => by
         rw [Nat.mod_one]
         exact getElem!_pos v.cells 0 (by omega)
        have hZ : (Builtin.zeroCells v.cells len).toList = List.replicate len (v.cells[0]'(by omega)) := by
         simp only [Builtin.zeroCells, hsz, Nat.mul_one]
         rw [Array.toList_map]
         refine List.ext_getElem (by simp) (fun j h1 h2 => ?_)
         simp only [List.getElem_map, List.getElem_replicate]
         exact hcell _
        have hcap' : cap ≠ 0 := by rw [hcap]; split <;> omega
        have hxx := hxa.2.2 hcap'
        have hp : SlotR L g w Λ (.eptr ob ep off) (.pointer (some ⟨b, a + off, none⟩)) := VR.eptr ob ep off b a 1 c hβ
        obtain ⟨b', o', f1, f2, f3, f4, f5, f6⟩ := wr_cells hs.heap hs.fr hp hw (us := List.replicate len (v.cells[0]'(by omega))) (by simp) (fun y hy => by
         rw [(List.mem_replicate.1 hy).2]
         exact z2 0 _ (Array.getElem?_eq_getElem (by omega))) (fun j cc y hc hy => by
         have h1 := List.mem_of_getElem? hc
         have h2 := List.mem_of_getElem? hy
         rw [(List.mem_replicate.1 h1).2, (List.mem_replicate.1 h2).2]
         exact z3 g w 0 _ _ rfl (Array.getElem?_eq_getElem (by omega)))
        simp only [Value.pointer.injEq, Option.some.injEq, Addr.mk.injEq, and_true] at f1
        obtain ⟨rfl, rfl⟩ := f1
        have hst := run_storeCells_cells (P := L.P) b (a + off) (List.replicate len (v.cells[0]'(by omega))) 0 w (fun j hj => by simpa using (f2 j hj).1) (fun j hj => by simpa using (f2 j hj).2) (fun y hy => by
         rw [(List.mem_replicate.1 hy).2]
         exact z2 0 _ (Array.getElem?_eq_getElem (by omega)))
        simp only [Nat.add_zero] at hst
        have hzv : (zeroValue e).run L.P w = .ok v w := by
         simp [zeroValue, typeInfo, hi, hz]
        refine ⟨undef, _, g, Λ, ran undef (w.setCells b (a + off) (List.replicate len (v.cells[0]'(by omega)))) ?_, ⟨f3, FrR.setD f4 hd (VR.tup [] #[] rfl (fun i c v hc => by simp at hc)) (by simp [undefA]), f5, by rw [setCells_size]; exact Nat.le_refl _, fun _ h _ => h, f6⟩⟩
        obtain ⟨len', rfl⟩ : ∃ k, len = k + 1 := ⟨len - 1, by omega⟩
        rw [hxx]
        simp only [Builtin.clear_, ht, List.getElem?_toArray, List.getElem?_cons_zero, Sem.run_bind, run_underlying hu w, Result.andThen_ok, Sem.run_pure, hzv, hZ, Nat.mul_one, hst]
        rfl
       ·simp [he1] at h
     ·simp at h
    ·simp at hc
   ·simp at hc
  ·simp at hc
 ·simp at hc
theorem op_mapdel {kd : Nat} {m i : Opd} (hs : SimS L g w Λ s act.tmps) (hd : ∀ d, o.dst = some d → d < act.tmps.size) (hc : chkOp L o.op (.mapdel kd m i) = true) (h : aop base o.dst (.mapdel kd m i) s = some (r, s')) : OpGoal L g w Λ act o base (.mapdel kd m i) r s s' := by
 simp only [chkOp] at hc
 split at hc
 ·rename_i xs ats ho
  split at hc
  ·rename_i x' y' hxs
   have hxs' : xs = #[x', y'] := by rw [← Array.toArray_toList (xs := xs), hxs]
   subst hxs'
   simp only [Bool.and_eq_true] at hc
   obtain ⟨⟨hx, hy⟩, hc⟩ := hc
   split at hc
   ·rename_i t ht
    split at hc
    ·rename_i k e hu
     split at hc
     ·rename_i d hk
      have ran : ∀ (v : Value) (w' : World), (Builtin.delete_ ats o.type #[act.eval x', act.eval y']).run L.P w = .ok v w' → Ran L o act w v w' := fun v w' hv => by
       left
       simp only [execOp, ho, resolve, Sem.run_bind, Sem.run_pure, Result.andThen_ok, invoke, builtin, List.map_toArray, List.map_cons, List.map_nil]
       rw [hv]; rfl
      simp only [aop, Option.bind_eq_some_iff] at h
      obtain ⟨a, haa, b, hbb, h⟩ := h
      cases hko : keyOk kd b with
      | false => rw [hko] at h; simp at h
      | true =>
       rw [hko] at h
       simp only [cond_true] at h
       obtain ⟨k1, k2⟩ := keyFits_of hc hko
       have hbv := ev_vr hy hs.fr hbb (keyOk_place hko)
       split at h
       ·simp only [Option.some.injEq, Prod.mk.injEq] at h
        obtain ⟨rfl, rfl⟩ := h
        have hav := ev_vr hx hs.fr haa (by simp)
        have e1 : act.eval x' = .map none := by generalize act.eval x' = u at hav; cases hav; rfl
        exact goal_val hs hd (ran undef w (by rw [e1]; exact mapdel_nil ⟨k, hu, hk, k2⟩ ht)) (.tup [] #[] rfl (fun i c v hc => by simp at hc))
       ·rename_i ob
        split at h
        ·rename_i es bs ck hes
         simp only [Option.bind_eq_some_iff, Option.some.injEq, Prod.mk.injEq] at h
         obtain ⟨p, hp, rfl, rfl⟩ := h
         obtain ⟨w', g1, g2⟩ := mapdel_run (ty := o.type) hs ⟨k, hu, hk, k2⟩ (ev_vr hx hs.fr haa (by simp)) hbv ht hd hes k1 hp
         exact ⟨undef, w', _, _, ran undef w' g1, g2.weaken (fun _ h => h.elim)⟩
        ·simp at h
       ·simp at h
     ·simp at hc
    ·simp at hc
   ·simp at hc
  ·simp at hc
 ·simp at hc
theorem op_mkfn {n : Nat} {caps : List Opd} (hs : SimS L g w Λ s act.tmps) (hd : ∀ d, o.dst = some d → d < act.tmps.size) (hc : chkOp L o.op (.mkfn n caps) = true) (h : aop base o.dst (.mkfn n caps) s = some (r, s')) : OpGoal L g w Λ act o base (.mkfn n caps) r s s' := by
 simp only [chkOp] at hc
 split at hc
 ·rename_i f first xs ho
  simp only [Bool.and_eq_true, nbeq, decide_eq_true_eq, Array.isEmpty_iff] at hc
  obtain ⟨⟨rfl, hf⟩, hc⟩ := hc
  simp only [aop, Option.bind_eq_some_iff, Option.some.injEq, Prod.mk.injEq] at h
  obtain ⟨vs, hvs, rfl, rfl⟩ := h
  obtain ⟨e1, e2⟩ := opdsOk_spec hc
  obtain ⟨d1, d2, d3⟩ := datAll_vr hs.fr xs.toList caps vs e1 e2 hvs
  obtain ⟨v, g1, g2⟩ := mkfn_run (g := g) (w := w) ho hf (by rw [d1, Array.length_toList]) (fun i v x hv hx => d3 i v x hv (by simpa using hx))
  exact goal_val hs hd g1 g2
 ·simp at hc
theorem op_mkif {n : Nat} {y : Opd} (hs : SimS L g w Λ s act.tmps) (hd : ∀ d, o.dst = some d → d < act.tmps.size) (hc : chkOp L o.op (.mkif n y) = true) (h : aop base o.dst (.mkif n y) s = some (r, s')) : OpGoal L g w Λ act o base (.mkif n y) r s s' := by
 simp only [chkOp] at hc
 split at hc
 ·rename_i t x ho
  simp only [Bool.and_eq_true, nbeq, decide_eq_true_eq] at hc
  obtain ⟨⟨hn, hx⟩, hc⟩ := hc
  simp only [aop, Option.bind_eq_some_iff, Option.some.injEq, Prod.mk.injEq] at h
  obtain ⟨a, haa, rfl, rfl⟩ := h
  obtain ⟨v, g1, g2⟩ := mkif_run ho (dat_vr hx hs.fr haa).1 hn (by
   cases hu : L.P.underlying t with
   | none => rw [hu] at hc; simp at hc
   | some d =>
    refine ⟨d, rfl, fun m e => ?_⟩
    rw [hu, e] at hc
    simp at hc)
  exact goal_val hs hd g1 g2
 ·simp at hc
theorem op_ext {y : Opd} {i : Nat} (hs : SimS L g w Λ s act.tmps) (hd : ∀ d, o.dst = some d → d < act.tmps.size) (hc : chkOp L o.op (.ext y i) = true) (h : aop base o.dst (.ext y i) s = some (r, s')) : OpGoal L g w Λ act o base (.ext y i) r s s' := by
 simp only [chkOp] at hc
 split at hc
 ·rename_i x j ho
  simp only [Bool.and_eq_true, nbeq, decide_eq_true_eq] at hc
  obtain ⟨hx, rfl⟩ := hc
  simp only [aop] at h
  split at h
  ·rename_i vs hvs
   simp only [Option.bind_eq_some_iff] at h
   obtain ⟨v, hv, h⟩ := h
   obtain ⟨rfl, rfl⟩ := pairS_some h
   obtain ⟨u, g1, g2⟩ := ext_run ho (ev_vr hx hs.fr hvs (by simp)) hv
   exact goal_val hs hd g1 g2
  ·simp at h
 ·simp at hc
theorem freeze_setO (w : World) (b n : Nat) (C : Array Value) (T : TypeId) (lo hi : Nat) (h : w.heap[b]? = some (.cells C T (lo, hi))) :
  w.freeze ⟨b, n, none⟩ 1 = World.setO w b (.cells C T (if lo == hi then (n, n + 1) else (min lo n, max hi (n + 1)))) := by
 unfold World.freeze World.setO
 rw [if_neg (by omega)]
 congr 1
 apply Array.ext_getElem?
 intro i
 rw [Array.getElem?_modify, Array.getElem?_setIfInBounds]
 have hb := (Array.getElem?_eq_some_iff.1 h).1
 by_cases e : b = i
 ·subst e
  simp only [if_true, h, Option.map_some, hb]
 ·simp only [e, if_false]
theorem op_mark {y : Opd} (hs : SimS L g w Λ s act.tmps) (hd : ∀ d, o.dst = some d → d < act.tmps.size) (hc : chkOp L o.op (.mark y) = true) (h : aop base o.dst (.mark y) s = some (r, s')) : OpGoal L g w Λ act o base (.mark y) r s s' := by
 simp only [chkOp] at hc
 split at hc
 ·rename_i sr d x ho
  simp only [Bool.and_eq_true, nbeq, decide_eq_true_eq] at hc
  obtain ⟨⟨rfl, hc2⟩, hc3⟩ := hc
  split at hc3
  ·rename_i et he
   simp only [aop, Option.bind_eq_some_iff] at h
   obtain ⟨v, hv, h⟩ := h
   split at h
   ·rename_i e ob ep off n full
    split at h
    ·rename_i z ep' c hg
     cases hb : (Nat.beq ep' ep && Nat.beq ep 0) with
     | false => rw [hb] at h; simp at h
     | true =>
      rw [hb] at h
      simp only [cond_true, Option.some.injEq, Prod.mk.injEq] at h
      obtain ⟨rfl, rfl⟩ := h
      simp only [Bool.and_eq_true, nbeq, decide_eq_true_eq] at hb
      obtain ⟨rfl, rfl⟩ := hb
      obtain ⟨b, a, cap, p1, p2, p3, p4, p5, p6, p7⟩ := hs.heap.obj _ _ hg
      have ha : a = 0 := (hs.heap.lt _ _ _ p1).2 rfl
      subst ha
      have hxv := ev_vr hc2 hs.fr hv (by simp)
      have hxv0 := hxv
      generalize hq : act.eval x = xv at hxv
      cases hxv with
      | hs _ _ _ _ _ _ b1 a1 c1 x' cap1 hβ hlc hcap hxa =>
       rw [p1] at hβ
       simp only [Option.some.injEq, Prod.mk.injEq, Addr.mk.injEq] at hβ
       obtain ⟨⟨rfl, rfl, -⟩, rfl, rfl⟩ := hβ
       obtain ⟨O, hO⟩ : ∃ O, w.heap[b]? = some O := ⟨_, Array.getElem?_eq_getElem p3⟩
       have key : ∃ O', (markStringish x').run L.P w = .ok () (World.setO w b O') ∧ (∀ i, (World.setO w b O').cell? ⟨b, i, none⟩ = w.cell? ⟨b, i, none⟩) ∧ (∀ i, i < cap * z → (World.setO w b O').frozen? ⟨b, i, none⟩ = false) ∧ FrOk (World.setO w b O') b := by
        have self : World.setO w b O = w := by
         unfold World.setO
         have : w.heap.setIfInBounds b O = w.heap := by
          apply Array.ext_getElem?
          intro i
          rw [Array.getElem?_setIfInBounds]
          by_cases e : b = i
          ·subst e; simp only [if_true, p3]; exact hO.symm
          ·simp only [e, if_false]
         rw [this]
        have stay : w.shape? b = none → _ := fun hn => (⟨O, by
         simp only [markStringish, hxa.1, Sem.run_bind, run_shape, hn, Result.andThen_ok, Sem.run_pure, self], fun i => by rw [self], fun i hi => by
          rw [self]; have := (p6 i hi).2; rwa [Nat.zero_add] at this, by rw [self]; exact p7.2⟩ : ∃ O', (markStringish x').run L.P w = .ok () (World.setO w b O') ∧ (∀ i, (World.setO w b O').cell? ⟨b, i, none⟩ = w.cell? ⟨b, i, none⟩) ∧ (∀ i, i < cap * z → (World.setO w b O').frozen? ⟨b, i, none⟩ = false) ∧ FrOk (World.setO w b O') b)
        cases O with
        | cells C T fr =>
         obtain ⟨lo, hi⟩ := fr
         have hle := p7.2 C T lo hi hO
         have hsh : w.shape? b = some (T, C.size) := by simp [World.shape?, hO]
         refine ⟨.cells C T (if lo == hi then (C.size, C.size + 1) else (min lo C.size, max hi (C.size + 1))), ?_, fun i => ?_, fun i hi' => ?_, ?_⟩
         ·simp only [markStringish, hxa.1, Sem.run_bind, run_shape, hsh, Result.andThen_ok, run_freeze]
          rw [freeze_setO w b C.size C T lo hi hO]
         ·simp [World.cell?, hO, setO_at w b _ p3]
         ·have h6 := p6 i hi'
          rw [Nat.zero_add] at h6
          have hi2 : i < C.size := by
           have := h6.1
           simp only [World.cell?, hO, Option.isSome_none, Bool.false_eq_true, if_false] at this
           rcases Nat.lt_or_ge i C.size with h | h
           ·exact h
           ·rw [Array.getElem?_eq_none h] at this; simp at this
          have hfr : ∀ j, j < cap * z → ¬ (lo ≤ j ∧ j < hi) := fun j hj => by
           have := (p6 j hj).2
           rw [Nat.zero_add] at this
           simpa [World.frozen?, hO] using this
          simp only [World.frozen?, setO_at w b _ p3]
          by_cases e : lo = hi
          ·simp [e]; omega
          ·have : ¬ lo ≤ i := fun hli => by
            have := hfr lo (by omega)
            omega
           simp [e]; omega
         ·intro C' T' lo' hi' hc
          rw [setO_at w b _ p3] at hc
          simp only [Option.some.injEq, Obj.cells.injEq] at hc
          obtain ⟨-, -, hc⟩ := hc
          split at hc <;> (obtain ⟨rfl, rfl⟩ := Prod.mk.inj hc; omega)
        | _ => exact stay (by simp [World.shape?, hO])
       obtain ⟨O', k1, k2, k3, k4⟩ := key
       have kp : Keeps g w g (World.setO w b O') := ⟨fun _ _ _ h => h, fun i hi => ⟨hi, setO_ne _ _ _ _ (fun e => by subst e; rw [p2] at hi; simp at hi)⟩, rfl, rfl, rfl⟩
       have hobj : ObjR L g (World.setO w b O') ob (.row z 0 c) := by
        refine ⟨b, 0, cap, p1, p2, by rw [setO_size]; exact p3, p4, ?_, ?_, p7.1, k4⟩
        ·intro i y hy
         obtain ⟨u, q1, q2, q3, q4⟩ := p5 i y hy
         rw [Nat.zero_add] at q1 q4 ⊢
         refine ⟨u, by rw [k2]; exact q1, q2, q3.mono kp, k3 _ ?_⟩
         have := (List.getElem?_eq_some_iff.1 hy).1
         omega
        ·intro i hi
         obtain ⟨q1, q2⟩ := p6 i hi
         rw [Nat.zero_add] at q1 ⊢
         exact ⟨by rw [k2]; exact q1, k3 _ (by omega)⟩
       refine ⟨act.eval x, World.setO w b O', g, Λ, .inl ?_, (post_setO hs p2 ⟨0, _, p1⟩ hobj hd (vr_slot (hxv0.mono kp)) (by simp)).weaken (fun _ h => h.elim)⟩
       have hu := isSliceOf_spec he
       have hby := isByte_spec hc3
       simp only [execOp, ho, hq, convert, Sem.run_bind, run_underlying hu w, Result.andThen_ok, run_underlying hby w, beq_self_eq_true, k1, Sem.run_pure]
       try rfl
    ·simp at h
   ·simp at h
  ·simp at hc3
 ·simp at hc
theorem aop_sim {ao : AOp} (hs : SimS L g w Λ s act.tmps) (hd : ∀ d, o.dst = some d → d < act.tmps.size) (hc : chkOp L o.op ao = true) (ha : ∀ k, allocOf ao = some k → (∀ e, g.β (base + k) e = none) ∧ base + k < s.h.next)
  (h : aop base o.dst ao s = some (r, s')) : OpGoal L g w Λ act o base ao r s s' := by
 cases ao with
 | mov x => exact op_mov hs hd hc h
 | pick c a b => exact op_pick hs hd hc h
 | alloc loc zero k => exact op_alloc hs hd hc (fun e => ha k (by rw [e]; rfl)) h
 | box loc x k => exact op_box hs hd hc (fun e => ha k (by rw [e]; rfl)) h
 | load n x => exact op_load hs hd hc h
 | store n x v => exact op_store hs hd hc h
 | nilck x => exact op_nilck hs hd hc h
 | fadr x off => exact op_fadr hs hd hc h
 | fld x off n => exact op_fld hs hd hc h
 | idxa arr esz x i => exact op_idxa hs hd hc h
 | idx x i => exact op_idx hs hd hc h
 | bin b x y => exact op_bin hs hd hc h
 | un u x => exact op_un hs hd hc h
 | cmp c neg x y => exact op_cmp hs hd hc h
 | toInt k x => exact op_toInt hs hd hc h
 | toStr x => exact op_toStr hs hd hc h
 | toBytes x k => exact op_toBytes hs hd hc (ha k rfl) h
 | slice z x l h' m => exact op_slice hs hd hc h
 | mark x => exact op_mark hs hd hc h
 | slicx z x l h' => exact op_slicx hs hd hc h
 | build zero parts => exact op_build hs hd hc h
 | buildsl esz n zero parts k => exact op_buildsl hs hd hc (ha k rfl) h
 | lits esz n zero parts => exact op_lits hs hd hc h
 | mksl esz bytes zero x y k => exact op_mksl hs hd hc (ha k rfl) h
 | app esz bytes x y k => exact op_app hs hd hc (ha k rfl) h
 | cpy esz d x => simp [chkOp] at hc
 | len c x => exact op_len hs hd hc h
 | mm m x y => exact op_mm hs hd hc h
 | mkmap k => exact op_mkmap hs hd hc (ha k rfl) h
 | lookup str zero ok x i => exact op_lookup hs hd hc h
 | mapupd str m i v => exact op_mapupd hs hd hc h
 | mapdel kd m i => exact op_mapdel hs hd hc h
 | clr z x => exact op_clr hs hd hc h
 | mkfn f caps => exact op_mkfn hs hd hc h
 | mkif t x => exact op_mkif hs hd hc h
 | ext x i => exact op_ext hs hd hc h
 | call f args fz => simp [chkOp] at hc
 | callv x args fz => simp [chkOp] at hc
 | range m x k => exact op_range hs hd hc (ha k rfl) h
 | next str x => exact op_next hs hd hc h
 | entry x => exact op_entry hs hd hc h
 | fail => simp [aop] at h
end
end Go.Am

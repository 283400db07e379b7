/- Programs whose names are found, as plain data of any depth. Own work. -/
import Derived.Test.YtpcopgdkcoiljaaAmAll4
import Derived.Test.YtpcopgdkcoiljaaAmAll5
set_option linter.unusedSimpArgs false
set_option linter.unusedVariables false
namespace Go.Am
def slR (sz : Nat) (nl : Bool) (ls : List (List AV)) : AV := bif nl && ls.isEmpty then .nils else .sl sz ls.length (fun i => match ls[i]? with
 | some x => x
 | none => []) false
theorem slR_slv {α : Type} [Enc α] (nl : Bool) (l : List α) : slR (Enc.sz α) nl (l.map Enc.cells) = slv nl false l := by
 unfold slR slv
 have e : (l.map Enc.cells).isEmpty = l.isEmpty := by cases l <;> rfl
 rw [e, List.length_map]
 cases nl && l.isEmpty with
 | true => rfl
 | false =>
  simp only [cond_false]
  congr 1
  funext i
  simp only [cellsAtL, List.getElem?_map]
  cases l[i]? <;> rfl
structure NameV where
 name : List UInt8
 pos : Int
 deriving Inhabited
instance encName : EncP NameV where
 sz := 2
 cells f := [strv f.name, .int .i64 f.pos]
 len _ := rfl
 pur f c hc := by
  simp only [List.mem_cons, List.not_mem_nil, or_false] at hc
  rcases hc with rfl | rfl
  ·exact ⟨fun h b n => frz_strv h b n _, rfl⟩
  ·exact ⟨fun h b n => frz_int h b n _ _, rfl⟩
@[go_sem] theorem sz_Name : Enc.sz NameV = 2 := rfl
@[go_sem] theorem cells_Name (f : NameV) : Enc.cells f = [strv f.name, .int .i64 f.pos] := rfl
structure SiteV where
 kind : Int
 file : Int
 fn : Int
 mark : Int
 type : Int
 name : List UInt8
 deriving Inhabited
instance encSite : EncP SiteV where
 sz := 6
 cells f := [.int .i64 f.kind, .int .i64 f.file, .int .i64 f.fn, .int .i64 f.mark, .int .i64 f.type, strv f.name]
 len _ := rfl
 pur f c hc := by
  simp only [List.mem_cons, List.not_mem_nil, or_false] at hc
  rcases hc with rfl | rfl | rfl | rfl | rfl | rfl
  all_goals first | exact ⟨fun h b n => frz_strv h b n _, rfl⟩ | exact ⟨fun h b n => frz_int h b n _ _, rfl⟩
@[go_sem] theorem sz_Site : Enc.sz SiteV = 6 := rfl
inductive Code where
 | mk (kind pos num site fn : Int) (name : List UInt8) (nl : Bool) (l : List Code)
namespace Code
instance : Inhabited Code := ⟨.mk 0 0 0 0 0 [] true []⟩
def kind : Code → Int | mk k _ _ _ _ _ _ _ => k
def pos : Code → Int | mk _ k _ _ _ _ _ _ => k
def site : Code → Int | mk _ _ _ k _ _ _ _ => k
def fn : Code → Int | mk _ _ _ _ k _ _ _ => k
def name : Code → List UInt8 | mk _ _ _ _ _ k _ _ => k
def l : Code → List Code | mk _ _ _ _ _ _ _ k => k
theorem ind {p : Code → Prop} (h : ∀ k a n s f nm nl l, (∀ x ∈ l, p x) → p (.mk k a n s f nm nl l)) : ∀ c, p c :=
 Code.rec (motive_1 := p) (motive_2 := fun l => ∀ x ∈ l, p x) (fun k a n s f nm nl l hl => h k a n s f nm nl l hl) (fun x hx => by simp at hx) (fun c r hc hr x hx => by
  rcases List.mem_cons.1 hx with rfl | hx
  ·exact hc
  ·exact hr x hx)
mutual
def cells : Code → List AV
 | .mk k a n s f nm nl l => [.int .i64 k, .int .i64 a, .int .i64 n, .int .i64 s, .int .i64 f, strv nm, slR 7 nl (cellsL l)]
def cellsL : List Code → List (List AV)
 | [] => []
 | c :: r => cells c :: cellsL r
end
theorem cellsL_map : ∀ l, cellsL l = l.map cells
 | [] => by simp only [cellsL, List.map_nil]
 | c :: r => by simp only [cellsL, List.map_cons, cellsL_map r]
instance enc : Enc Code where
 sz := 7
 cells := cells
 len c := by cases c; simp only [cells]; rfl
end Code
@[go_sem] theorem sz_Code : Enc.sz Code = 7 := rfl
@[go_sem] theorem cells_Code (k a n s f : Int) (nm : List UInt8) (nl : Bool) (l : List Code) : Enc.cells (Code.mk k a n s f nm nl l) = [.int .i64 k, .int .i64 a, .int .i64 n, .int .i64 s, .int .i64 f, strv nm, slv nl false l] := by
 show Code.cells _ = _
 simp only [Code.cells, Code.cellsL_map]
 rw [show slR 7 nl (l.map Code.cells) = slv nl false l from slR_slv (α := Code) nl l]
inductive Act where
 | mk (kind pos site : Int) (name : List UInt8) (e : Code) (nl : Bool) (l : List Act) (ne : Bool) (els : List Act)
namespace Act
instance : Inhabited Act := ⟨.mk 0 0 0 [] default true [] true []⟩
theorem ind {p : Act → Prop} (h : ∀ k a s nm e nl l ne els, (∀ x ∈ l, p x) → (∀ x ∈ els, p x) → p (.mk k a s nm e nl l ne els)) : ∀ c, p c :=
 Act.rec (motive_1 := p) (motive_2 := fun l => ∀ x ∈ l, p x) (fun k a s nm e nl l ne els hl he => h k a s nm e nl l ne els hl he) (fun x hx => by simp at hx) (fun c r hc hr x hx => by
  rcases List.mem_cons.1 hx with rfl | hx
  ·exact hc
  ·exact hr x hx)
mutual
def cells : Act → List AV
 | .mk k a s nm e nl l ne els => [.int .i64 k, .int .i64 a, .int .i64 s, strv nm] ++ Enc.cells e ++ [slR 13 nl (cellsL l), slR 13 ne (cellsL els)]
def cellsL : List Act → List (List AV)
 | [] => []
 | c :: r => cells c :: cellsL r
end
theorem cellsL_map : ∀ l, cellsL l = l.map cells
 | [] => by simp only [cellsL, List.map_nil]
 | c :: r => by simp only [cellsL, List.map_cons, cellsL_map r]
instance enc : Enc Act where
 sz := 13
 cells := cells
 len c := by cases c; simp only [cells, List.length_append, Enc.len]; rfl
end Act
@[go_sem] theorem sz_Act' : Enc.sz Act = 13 := rfl
theorem cells_Act0 (k a s : Int) (nm : List UInt8) (e : Code) (nl : Bool) (l : List Act) (ne : Bool) (els : List Act) : Enc.cells (Act.mk k a s nm e nl l ne els) = [.int .i64 k, .int .i64 a, .int .i64 s, strv nm] ++ Enc.cells e ++ [slv nl false l, slv ne false els] := by
 show Act.cells _ = _
 simp only [Act.cells, Act.cellsL_map]
 rw [show slR 13 nl (l.map Act.cells) = slv nl false l from slR_slv (α := Act) nl l, show slR 13 ne (els.map Act.cells) = slv ne false els from slR_slv (α := Act) ne els]
@[go_sem] theorem cells_Act' (k a s : Int) (nm : List UInt8) (k' a' n' s' f' : Int) (nm' : List UInt8) (nl' : Bool) (l' : List Code) (nl : Bool) (l : List Act) (ne : Bool) (els : List Act) : Enc.cells (Act.mk k a s nm (.mk k' a' n' s' f' nm' nl' l') nl l ne els) =
  [.int .i64 k, .int .i64 a, .int .i64 s, strv nm, .int .i64 k', .int .i64 a', .int .i64 n', .int .i64 s', .int .i64 f', strv nm', slv nl' false l', slv nl false l, slv ne false els] := by
 rw [cells_Act0, cells_Code]; rfl
structure FuncV where
 name : List UInt8
 file : Int
 pos : Int
 pn : Bool
 params : List Int
 result : Int
 pc : Int
 some : Bool
 rn : Bool
 row : List NameV
 bn : Bool
 body : List Act
 ret : Code
 deriving Inhabited
instance encFunc : Enc FuncV where
 sz := 16
 cells f := [strv f.name, .int .i64 f.file, .int .i64 f.pos, slv f.pn false f.params, .int .i64 f.result, .int .i64 f.pc, .bool f.some, slv f.rn false f.row, slv f.bn false f.body] ++ Enc.cells f.ret
 len f := by simp only [List.length_append, Enc.len]; rfl
@[go_sem] theorem sz_Func : Enc.sz FuncV = 16 := rfl
theorem cells_Func0 (f : FuncV) : Enc.cells f = [strv f.name, .int .i64 f.file, .int .i64 f.pos, slv f.pn false f.params, .int .i64 f.result, .int .i64 f.pc, .bool f.some, slv f.rn false f.row, slv f.bn false f.body] ++ Enc.cells f.ret := rfl
@[go_sem] theorem cells_Func (a : List UInt8) (b c : Int) (d : Bool) (e : List Int) (f g : Int) (h i : Bool) (j : List NameV) (k : Bool) (l : List Act) (k' a' n' s' f' : Int) (nm' : List UInt8) (nl' : Bool) (l' : List Code) : Enc.cells (FuncV.mk a b c d e f g h i j k l (.mk k' a' n' s' f' nm' nl' l')) =
  [strv a, .int .i64 b, .int .i64 c, slv d false e, .int .i64 f, .int .i64 g, .bool h, slv i false j, slv k false l, .int .i64 k', .int .i64 a', .int .i64 n', .int .i64 s', .int .i64 f', strv nm', slv nl' false l'] := by
 rw [cells_Func0, cells_Code]; rfl
structure Deed where
 pos : Int
 name : List UInt8
 fn : Int
 deriving Inhabited
instance encDeed : EncP Deed where
 sz := 3
 cells f := [.int .i64 f.pos, strv f.name, .int .i64 f.fn]
 len _ := rfl
 pur f c hc := by
  simp only [List.mem_cons, List.not_mem_nil, or_false] at hc
  rcases hc with rfl | rfl | rfl
  all_goals first | exact ⟨fun h b n => frz_strv h b n _, rfl⟩ | exact ⟨fun h b n => frz_int h b n _ _, rfl⟩
@[go_sem] theorem sz_Deed : Enc.sz Deed = 3 := rfl
@[go_sem] theorem cells_Deed (f : Deed) : Enc.cells f = [.int .i64 f.pos, strv f.name, .int .i64 f.fn] := rfl
structure ProgV where
 sn : Bool
 sites : List SiteV
 fn : Bool
 fns : List FuncV
def ProgV.av (p : ProgV) : AV := .agg [slv p.sn false p.sites, slv p.fn false p.fns]
theorem takeN_cells {α : Type} [Enc α] (x : α) {n : Nat} (h : Enc.sz α = n) : takeN n (Enc.cells x) = some (Enc.cells x) := by
 rw [← h, ← Enc.len x]
 exact takeN_all _
@[go_sem] theorem takeN_code (c : Code) : takeN 7 (Enc.cells c) = some (Enc.cells c) := takeN_cells c rfl
@[go_sem] theorem takeN_act (c : Act) : takeN 13 (Enc.cells c) = some (Enc.cells c) := takeN_cells c rfl
@[go_sem] theorem takeN_func (c : FuncV) : takeN 16 (Enc.cells c) = some (Enc.cells c) := takeN_cells c rfl
namespace Act
def kind : Act → Int | mk k _ _ _ _ _ _ _ _ => k
def pos : Act → Int | mk _ k _ _ _ _ _ _ _ => k
def site : Act → Int | mk _ _ k _ _ _ _ _ _ => k
def name : Act → List UInt8 | mk _ _ _ k _ _ _ _ _ => k
def e : Act → Code | mk _ _ _ _ k _ _ _ _ => k
def nl : Act → Bool | mk _ _ _ _ _ k _ _ _ => k
def l : Act → List Act | mk _ _ _ _ _ _ k _ _ => k
def ne : Act → Bool | mk _ _ _ _ _ _ _ k _ => k
def els : Act → List Act | mk _ _ _ _ _ _ _ _ k => k
end Act
@[go_sem] theorem take_act (x : Act) : takeN 1 (Enc.cells x) = some [.int .i64 x.kind] := by cases x; rw [cells_Act0]; rfl
@[go_sem] theorem drop_act1 (x : Act) : dropN 1 (Enc.cells x) = some (.int .i64 x.pos :: .int .i64 x.site :: strv x.name :: (Enc.cells x.e ++ [slv x.nl false x.l, slv x.ne false x.els])) := by cases x; rw [cells_Act0]; simp only [List.cons_append, List.nil_append, dropN_zero, dropN_one, dropN_succ]; rfl
@[go_sem] theorem drop_act2 (x : Act) : dropN 2 (Enc.cells x) = some (.int .i64 x.site :: strv x.name :: (Enc.cells x.e ++ [slv x.nl false x.l, slv x.ne false x.els])) := by cases x; rw [cells_Act0]; simp only [List.cons_append, List.nil_append, dropN_zero, dropN_one, dropN_succ]; rfl
@[go_sem] theorem drop_act3 (x : Act) : dropN 3 (Enc.cells x) = some (strv x.name :: (Enc.cells x.e ++ [slv x.nl false x.l, slv x.ne false x.els])) := by cases x; rw [cells_Act0]; simp only [List.cons_append, List.nil_append, dropN_zero, dropN_one, dropN_succ]; rfl
@[go_sem] theorem drop_act4 (x : Act) : dropN 4 (Enc.cells x) = some ((Enc.cells x.e ++ [slv x.nl false x.l, slv x.ne false x.els])) := by cases x; rw [cells_Act0]; simp only [List.cons_append, List.nil_append, dropN_zero, dropN_one, dropN_succ]; rfl
@[go_sem] theorem drop_act11 (x : Act) : dropN 11 (Enc.cells x) = some [slv x.nl false x.l, slv x.ne false x.els] := by
 cases x with | mk k a s nm e nl l ne els => cases e; rw [cells_Act']; rfl
@[go_sem] theorem drop_act12 (x : Act) : dropN 12 (Enc.cells x) = some [slv x.ne false x.els] := by
 cases x with | mk k a s nm e nl l ne els => cases e; rw [cells_Act']; rfl
@[go_sem] theorem take_code (c : Code) (r : List AV) : takeN 7 (Enc.cells c ++ r) = some (Enc.cells c) := by
 have := takeN_app (Enc.cells c) r
 rwa [Enc.len] at this
@[go_sem] theorem drop_func1 (x : FuncV) : dropN 1 (Enc.cells x) = some (.int .i64 x.file :: .int .i64 x.pos :: slv x.pn false x.params :: .int .i64 x.result :: .int .i64 x.pc :: .bool x.some :: slv x.rn false x.row :: slv x.bn false x.body :: Enc.cells x.ret) := by rw [cells_Func0]; simp only [List.cons_append, List.nil_append, dropN_zero, dropN_one, dropN_succ]
@[go_sem] theorem drop_func2 (x : FuncV) : dropN 2 (Enc.cells x) = some (.int .i64 x.pos :: slv x.pn false x.params :: .int .i64 x.result :: .int .i64 x.pc :: .bool x.some :: slv x.rn false x.row :: slv x.bn false x.body :: Enc.cells x.ret) := by rw [cells_Func0]; simp only [List.cons_append, List.nil_append, dropN_zero, dropN_one, dropN_succ]
@[go_sem] theorem drop_func3 (x : FuncV) : dropN 3 (Enc.cells x) = some (slv x.pn false x.params :: .int .i64 x.result :: .int .i64 x.pc :: .bool x.some :: slv x.rn false x.row :: slv x.bn false x.body :: Enc.cells x.ret) := by rw [cells_Func0]; simp only [List.cons_append, List.nil_append, dropN_zero, dropN_one, dropN_succ]
@[go_sem] theorem drop_func4 (x : FuncV) : dropN 4 (Enc.cells x) = some (.int .i64 x.result :: .int .i64 x.pc :: .bool x.some :: slv x.rn false x.row :: slv x.bn false x.body :: Enc.cells x.ret) := by rw [cells_Func0]; simp only [List.cons_append, List.nil_append, dropN_zero, dropN_one, dropN_succ]
@[go_sem] theorem drop_func5 (x : FuncV) : dropN 5 (Enc.cells x) = some (.int .i64 x.pc :: .bool x.some :: slv x.rn false x.row :: slv x.bn false x.body :: Enc.cells x.ret) := by rw [cells_Func0]; simp only [List.cons_append, List.nil_append, dropN_zero, dropN_one, dropN_succ]
@[go_sem] theorem drop_func6 (x : FuncV) : dropN 6 (Enc.cells x) = some (.bool x.some :: slv x.rn false x.row :: slv x.bn false x.body :: Enc.cells x.ret) := by rw [cells_Func0]; simp only [List.cons_append, List.nil_append, dropN_zero, dropN_one, dropN_succ]
@[go_sem] theorem drop_func7 (x : FuncV) : dropN 7 (Enc.cells x) = some (slv x.rn false x.row :: slv x.bn false x.body :: Enc.cells x.ret) := by rw [cells_Func0]; simp only [List.cons_append, List.nil_append, dropN_zero, dropN_one, dropN_succ]
@[go_sem] theorem drop_func8 (x : FuncV) : dropN 8 (Enc.cells x) = some (slv x.bn false x.body :: Enc.cells x.ret) := by rw [cells_Func0]; simp only [List.cons_append, List.nil_append, dropN_zero, dropN_one, dropN_succ]
@[go_sem] theorem drop_func9 (x : FuncV) : dropN 9 (Enc.cells x) = some (Enc.cells x.ret) := by rw [cells_Func0]; simp only [List.cons_append, List.nil_append, dropN_zero, dropN_one, dropN_succ]
@[go_sem] theorem take_func (x : FuncV) : takeN 1 (Enc.cells x) = some [strv x.name] := by rw [cells_Func0]; rfl
theorem over0_full : ∀ (c v : List AV), c.length = v.length → over0 c v = some v
 | [], [], _ => rfl
 | [], _ :: _, h => by simp at h
 | _ :: _, [], h => by simp at h
 | a :: c, b :: v, h => by rw [over0_cons, over0_full c v (by simpa using h)]; rfl
@[go_sem] theorem over0_code (x : Code) (a0 a1 a2 a3 a4 a5 a6 : AV) : over0 [a0, a1, a2, a3, a4, a5, a6] (Enc.cells x) = some (Enc.cells x) := over0_full _ _ (by rw [Enc.len]; rfl)
@[go_sem] theorem over0_act (x : Act) (a0 a1 a2 a3 a4 a5 a6 a7 a8 a9 a10 a11 a12 : AV) : over0 [a0, a1, a2, a3, a4, a5, a6, a7, a8, a9, a10, a11, a12] (Enc.cells x) = some (Enc.cells x) := over0_full _ _ (by rw [Enc.len]; rfl)
@[go_sem] theorem over0_func (x : FuncV) (a0 a1 a2 a3 a4 a5 a6 a7 a8 a9 a10 a11 a12 a13 a14 a15 : AV) : over0 [a0, a1, a2, a3, a4, a5, a6, a7, a8, a9, a10, a11, a12, a13, a14, a15] (Enc.cells x) = some (Enc.cells x) := over0_full _ _ (by rw [Enc.len]; rfl)
@[go_sem] theorem len_code (x : Code) : (Enc.cells x).length = 7 := Enc.len x
@[go_sem] theorem len_act (x : Act) : (Enc.cells x).length = 13 := Enc.len x
@[go_sem] theorem len_func (x : FuncV) : (Enc.cells x).length = 16 := Enc.len x
inductive CodeWf : Code → Prop
 | mk {k a n s f : Int} {nm : List UInt8} {nl : Bool} {l : List Code} : I64 k → I64 a → I64 s → I64 f → Len nm.length → Len l.length → (∀ x ∈ l, CodeWf x) → CodeWf (.mk k a n s f nm nl l)
inductive ActWf' : Act → Prop
 | mk {k a s : Int} {nm : List UInt8} {e : Code} {nl ne : Bool} {l els : List Act} : I64 k → I64 a → I64 s → Len nm.length → CodeWf e → Len l.length → (∀ x ∈ l, ActWf' x) → Len els.length → (∀ x ∈ els, ActWf' x) → ActWf' (.mk k a s nm e nl l ne els)
def NameWf (n : NameV) : Prop := Len n.name.length ∧ I64 n.pos
structure FuncWf (f : FuncV) : Prop where
 params : Len f.params.length ∧ ∀ x ∈ f.params, I64 x
 result : I64 f.result
 pc : I64 f.pc
 row : Len f.row.length ∧ ∀ x ∈ f.row, NameWf x
 body : Len f.body.length ∧ ∀ x ∈ f.body, ActWf' x
 ret : CodeWf f.ret
structure ProgWf (p : ProgV) : Prop where
 sites : Len p.sites.length
 fns : Len p.fns.length ∧ ∀ f ∈ p.fns, FuncWf f
end Go.Am

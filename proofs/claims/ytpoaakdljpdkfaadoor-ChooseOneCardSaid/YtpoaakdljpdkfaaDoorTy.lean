/- THE PROGRAM's SHORT FORMS OF OPERATIONS, NAMED. -/
import Derived.Test.YtpoaakdljpdkfaaDoorMem
import Derived.Test.YtpoaakdljpdkfaaDoorProg
import Derived.Test.YtpoaakdljpdkfaaDoorEnc
import Derived.KernelRfl
set_option linter.unusedSimpArgs false
namespace Go
open Go.RowKit

/-- load, store of a whole struct or array: kept shut -/
def loadK (T : TypeId) (v : Value) : Sem Next := do pure (.value (← Instr.loadAt T v))
def storeK (T : TypeId) (a v : Value) : Sem Next := do Instr.storeAt T a v; pure .skip
def buildK (T : TypeId) (parts : Array (Nat × Value)) : Sem Next := do pure (.value (← Instr.build T parts))

section
variable {P : Program}
theorem run_loadK (ty : TypeId) (n : Nat) (hu : ∀ w, (isAgg ty).run P w = .ok true w) (hs : ∀ w, (Go.sizeOf ty).run P w = .ok n w)
    (w : World) (g o : Nat) (h : o + n ≤ (w.rowD g).size) :
    (loadK ty (.pointer (some ⟨g, o, none⟩))).run P w = .ok (.value (.agg ((w.rowD g).extract o (o + n)))) w := by
  simp only [loadK, Sem.run_bind, Sem.run_pure, Result.andThen_ok, run_loadAt_rowD ty n hu hs w g o h]
theorem run_storeK (ty : TypeId) (n : Nat) (hs : ∀ w, (Go.sizeOf ty).run P w = .ok n w)
    (w : World) (g o : Nat) (vs : Array Value) (hv : vs.size = n) (h1 : ∀ v ∈ vs.toList, v.oneCell' = true) (h : o + n ≤ (w.rowD g).size) (hf : ∀ i, w.frozen? ⟨g, i, none⟩ = false) :
    (storeK ty (.pointer (some ⟨g, o, none⟩)) (.agg vs)).run P w = .ok .skip (w.setCells g o vs.toList) := by
  simp only [storeK, Sem.run_bind, Sem.run_pure, Result.andThen_ok, run_storeAt_rowD ty n hs w g o vs hv h1 h hf]

/-- a struct put together: each part laid over the zero value -/
theorem foldl_spliceL (off : Nat) : ∀ (vs : List Value) (k : Nat) (c : Array Value), ((vs.zipIdx k).foldl (fun cs p => cs.setIfInBounds (off + p.2) p.1) c) = spliceL c (off + k) vs
  | [], _, _ => rfl
  | v :: vs, k, c => by
    simp only [List.zipIdx_cons, List.foldl_cons]
    rw [foldl_spliceL off vs (k + 1)]; rfl

/-- the parts, one behind the other: place, size -/
def layAll (place : Nat → Option (Nat × Nat)) : Array Value → List (Nat × Value) → Array Value
  | c, [] => c
  | c, (i, v) :: rest => layAll place (spliceL c ((place i).getD (0, 0)).1 v.cells.toList) rest
def fitsAll (place : Nat → Option (Nat × Nat)) (size : Nat) : List (Nat × Value) → Prop
  | [] => True
  | (i, v) :: rest => (∃ o n, place i = some (o, n) ∧ v.cells.size = n ∧ o + n ≤ size) ∧ fitsAll place size rest

theorem fill_eq (place : Nat → Option (Nat × Nat)) : ∀ (parts : List (Nat × Value)) (c : Array Value), fitsAll place c.size parts → Instr.fill place c parts = some (layAll place c parts)
  | [], _, _ => rfl
  | (i, v) :: rest, c, h => by
    obtain ⟨⟨o, n, hp, hv, ho⟩, hr⟩ := h
    unfold Instr.fill layAll
    simp only [hp, hv, Option.getD_some]
    rw [if_neg (by simp; omega)]
    have e : (v.cells.zipIdx.foldl (fun cs x => cs.setIfInBounds (o + x.2) x.1) c) = spliceL c o v.cells.toList := by
      have := foldl_spliceL o v.cells.toList 0 c
      rw [Nat.add_zero] at this
      rw [← this, ← Array.foldl_toList, Array.toList_zipIdx]
    rw [show (Array.foldl (fun cs x => match x with | (c, j) => cs.setIfInBounds (o + j) c) c v.cells.zipIdx) = spliceL c o v.cells.toList from e]
    exact fill_eq place rest _ (by rw [size_spliceL]; exact hr)

theorem run_buildK (T : TypeId) (z : Array Value) (fs : Array Field) (pl : Array (Nat × Nat)) (hz : ∀ w, (zeroValue T).run P w = .ok (.agg z) w) (hu : P.underlying T = some (.struct fs))
    (hpl : ∀ w, (fs.mapM fun f => do pure (f.offset, ← Go.sizeOf f.type) : Sem (Array (Nat × Nat))).run P w = .ok pl w) (parts : Array (Nat × Value)) (hf : fitsAll (pl[·]?) z.size parts.toList) (w : World) :
    (buildK T parts).run P w = .ok (.value (.agg (layAll (pl[·]?) z parts.toList))) w := by
  unfold buildK Instr.build
  simp only [Sem.run_bind, Sem.run_pure, Result.andThen_ok, hz, run_underlying hu, hpl, Value.cells]
  rw [fill_eq _ _ _ hf]
  simp only [Sem.run_bind, Sem.run_pure, Result.andThen_ok]
end
theorem rowD_al {w : World} (c : Array Value) (t : TypeId) (n : Nat) (hn : n = w.heap.size) : (w.alloc (.cells c t)).rowD n = c := rowD_alloc_new c t (0, 0) n hn
theorem Calls.grow_of {P : Program} {f : FuncId} {args : Array Value} {w : World} {v v' : Value} (h : Calls P f args w fun e w' => e = .returned v ∧ Below w.heap.size w w') (e : v = v') : Calls P f args w fun e w' => e = .returned v' ∧ Below w.heap.size w w' := e ▸ h
theorem Calls.ext_of' {P : Program} {f : FuncId} {args : Array Value} {w g : World} {v v' : Value}
    (h : Calls P f args (w.ext g) fun e w' => e = .returned v ∧ Below (w.ext g).heap.size (w.ext g) w') (e : v = v') : Calls P f args (w.ext g) fun e w'' => e = .returned v' ∧ ∃ m, w'' = w.ext m := Calls.ext_of (e ▸ h)
theorem below_drewN (w : World) (n : Nat) : Below w.heap.size w (w.drewN n) := ⟨rfl, rfl, rfl, Nat.le_refl _, fun _ _ => rfl⟩
attribute [go_sem] rowD_al rowD_alloc_old rowD_drew rowD_drewN World.rowD_ext setCells_alloc setCells_alloc_past setCells_drew
@[go_sem] theorem rowD_setCell_o {w : World} (b i : Nat) (v : Value) (g : Nat) (h : g ≠ b) : (w.setCell ⟨b, i, none⟩ v).rowD g = w.rowD g := rowD_setCell_other _ _ _ h
@[go_sem] theorem rowD_setCells_o {w : World} (b o : Nat) (vs : List Value) (g : Nat) (h : g ≠ b) : (w.setCells b o vs).rowD g = w.rowD g := rowD_setCells_other _ _ h _ _ _
@[go_sem] theorem frozen_al {w : World} (c : Array Value) (t : TypeId) (n i : Nat) (hn : n = w.heap.size) : (w.alloc (.cells c t)).frozen? ⟨n, i, none⟩ = false := World.frozen?_alloc_at _ _ _ _ hn
@[go_sem] theorem frozen_al_old {w : World} (o : Obj) (n i : Nat) (hn : n < w.heap.size) : (w.alloc o).frozen? ⟨n, i, none⟩ = w.frozen? ⟨n, i, none⟩ := World.frozen?_alloc_past _ _ _ hn
attribute [go_sem] World.frozen?_setCells
attribute [go_sem] cell_rowD rowD_setCell_same rowD_setCells_same size_setCells
attribute [go_sem] Oper.grow Oper.growAt Oper.growUpon
theorem ret_cell {P : Program} {fn : Func} {R : Ending → World → Prop} {a : Act} {w : World} {p : Tmp} {ty : TypeId} {v : Value} {g : Nat} (h : fn.results = #[.cell p ty]) (hp : a.tmps.getD p undef = .pointer (some ⟨g, 0, none⟩)) (hd : a.defers = [])
    (hv : (loadVar ty ⟨g, 0, none⟩).run P w = .ok v w) (hR : R (.returned v) w) : bodyPost P fn R .ret a w := by
  refine bodyPost_ret ?_ hd hR
  have hp' : a.tmps[p]?.getD undef = .pointer (some ⟨g, 0, none⟩) := by simpa using hp
  simp [results, h, hp', asAddr, hv]
theorem ret_cell_tmp {P : Program} {fn : Func} {R : Ending → World → Prop} {a : Act} {w : World} {p u : Tmp} {ty : TypeId} {v : Value} {g : Nat} (h : fn.results = #[.cell p ty, .tmp u]) (hp : a.tmps.getD p undef = .pointer (some ⟨g, 0, none⟩)) (hd : a.defers = [])
    (hv : (loadVar ty ⟨g, 0, none⟩).run P w = .ok v w) (hR : R (.returned (.tuple #[v, a.tmps.getD u undef])) w) : bodyPost P fn R .ret a w := by
  refine bodyPost_ret ?_ hd hR
  have hp' : a.tmps[p]?.getD undef = .pointer (some ⟨g, 0, none⟩) := by simpa using hp
  simp [results, h, hp', asAddr, hv]
end Go

/- THE FACTS ON THE PROGRAM's TYPES THAT THE WALKS USE: how a whole struct is read, written and put together. Printed by gen_ty.py. -/
set_option linter.unusedSimpArgs false
set_option linter.unusedVariables false
namespace Go.Proofs.YtpoaakdljpdkfaaDoor
open Go.RowKit Go.Alm

theorem aggH (w : World) : (isAgg 23).run Tryd.prog w = .ok true w := by kernel_rfl
theorem sizH (w : World) : (Go.sizeOf 23).run Tryd.prog w = .ok 32 w := by kernel_rfl
theorem zerH (w : World) : (zeroValue 23).run Tryd.prog w = .ok (.agg (encH zeroH)) w := by kernel_rfl
@[go_sem ↓] theorem exLH (ρ : Operand → Value) (dst : Option Tmp) (x : Operand) (ty : TypeId) (pos : String) (after : Array Edge) (guard : Option (Nat × Bool)) : execOp ρ { dst, op := .load 23 x, type := ty, pos, after, guard } = loadK 23 (ρ x) := rfl
@[go_sem ↓] theorem exSH (ρ : Operand → Value) (dst : Option Tmp) (x : Operand) (ty : TypeId) (pos : String) (after : Array Edge) (guard : Option (Nat × Bool)) (y : Operand) : execOp ρ { dst, op := .store 23 x y, type := ty, pos, after, guard } = storeK 23 (ρ x) (ρ y) := rfl
@[go_sem] theorem rLH (w : World) (g o : Nat) (h : o + 32 ≤ (w.rowD g).size) : (loadK 23 (.pointer (some ⟨g, o, none⟩))).run Tryd.prog w = .ok (.value (.agg ((w.rowD g).extract o (o + 32)))) w := run_loadK 23 32 aggH sizH w g o h
@[go_sem] theorem rVH (w : World) (g o : Nat) (h : o + 32 ≤ (w.rowD g).size) : (loadVar 23 ⟨g, o, none⟩).run Tryd.prog w = .ok (.agg ((w.rowD g).extract o (o + 32))) w := run_loadVar_rowD 23 32 aggH sizH w g o h
@[go_sem] theorem rSH (w : World) (g o : Nat) (x : H32) (h : o + 32 ≤ (w.rowD g).size) (hf : ∀ i, w.frozen? ⟨g, i, none⟩ = false) : (storeK 23 (.pointer (some ⟨g, o, none⟩)) (.agg (encH x))).run Tryd.prog w = .ok .skip (w.setCells g o (encH x).toList) := run_storeK 23 32 sizH w g o _ (size_encH x) (one_encH x) h hf
theorem rWH (w : World) (g : Nat) (x : H32) (h : w.rowD g = encH x) : (loadVar 23 ⟨g, 0, none⟩).run Tryd.prog w = .ok (.agg (encH x)) w := by
  rw [rVH w g 0 (by rw [h, size_encH]; omega), h, show 0 + 32 = (encH x).size by rw [size_encH], Array.extract_size]
theorem aggC (w : World) : (isAgg 25).run Tryd.prog w = .ok true w := by kernel_rfl
theorem sizC (w : World) : (Go.sizeOf 25).run Tryd.prog w = .ok 4 w := by kernel_rfl
theorem zerC (w : World) : (zeroValue 25).run Tryd.prog w = .ok (.agg (encC zeroC)) w := by kernel_rfl
@[go_sem ↓] theorem exLC (ρ : Operand → Value) (dst : Option Tmp) (x : Operand) (ty : TypeId) (pos : String) (after : Array Edge) (guard : Option (Nat × Bool)) : execOp ρ { dst, op := .load 25 x, type := ty, pos, after, guard } = loadK 25 (ρ x) := rfl
@[go_sem ↓] theorem exSC (ρ : Operand → Value) (dst : Option Tmp) (x : Operand) (ty : TypeId) (pos : String) (after : Array Edge) (guard : Option (Nat × Bool)) (y : Operand) : execOp ρ { dst, op := .store 25 x y, type := ty, pos, after, guard } = storeK 25 (ρ x) (ρ y) := rfl
@[go_sem] theorem rLC (w : World) (g o : Nat) (h : o + 4 ≤ (w.rowD g).size) : (loadK 25 (.pointer (some ⟨g, o, none⟩))).run Tryd.prog w = .ok (.value (.agg ((w.rowD g).extract o (o + 4)))) w := run_loadK 25 4 aggC sizC w g o h
@[go_sem] theorem rVC (w : World) (g o : Nat) (h : o + 4 ≤ (w.rowD g).size) : (loadVar 25 ⟨g, o, none⟩).run Tryd.prog w = .ok (.agg ((w.rowD g).extract o (o + 4))) w := run_loadVar_rowD 25 4 aggC sizC w g o h
@[go_sem] theorem rSC (w : World) (g o : Nat) (x : C4) (h : o + 4 ≤ (w.rowD g).size) (hf : ∀ i, w.frozen? ⟨g, i, none⟩ = false) : (storeK 25 (.pointer (some ⟨g, o, none⟩)) (.agg (encC x))).run Tryd.prog w = .ok .skip (w.setCells g o (encC x).toList) := run_storeK 25 4 sizC w g o _ (size_encC x) (one_encC x) h hf
theorem rWC (w : World) (g : Nat) (x : C4) (h : w.rowD g = encC x) : (loadVar 25 ⟨g, 0, none⟩).run Tryd.prog w = .ok (.agg (encC x)) w := by
  rw [rVC w g 0 (by rw [h, size_encC]; omega), h, show 0 + 4 = (encC x).size by rw [size_encC], Array.extract_size]
theorem aggRg (w : World) : (isAgg 27).run Tryd.prog w = .ok true w := by kernel_rfl
theorem sizRg (w : World) : (Go.sizeOf 27).run Tryd.prog w = .ok 5 w := by kernel_rfl
theorem zerRg (w : World) : (zeroValue 27).run Tryd.prog w = .ok (.agg (encRg ring0)) w := by kernel_rfl
@[go_sem ↓] theorem exLRg (ρ : Operand → Value) (dst : Option Tmp) (x : Operand) (ty : TypeId) (pos : String) (after : Array Edge) (guard : Option (Nat × Bool)) : execOp ρ { dst, op := .load 27 x, type := ty, pos, after, guard } = loadK 27 (ρ x) := rfl
@[go_sem ↓] theorem exSRg (ρ : Operand → Value) (dst : Option Tmp) (x : Operand) (ty : TypeId) (pos : String) (after : Array Edge) (guard : Option (Nat × Bool)) (y : Operand) : execOp ρ { dst, op := .store 27 x y, type := ty, pos, after, guard } = storeK 27 (ρ x) (ρ y) := rfl
@[go_sem] theorem rLRg (w : World) (g o : Nat) (h : o + 5 ≤ (w.rowD g).size) : (loadK 27 (.pointer (some ⟨g, o, none⟩))).run Tryd.prog w = .ok (.value (.agg ((w.rowD g).extract o (o + 5)))) w := run_loadK 27 5 aggRg sizRg w g o h
@[go_sem] theorem rVRg (w : World) (g o : Nat) (h : o + 5 ≤ (w.rowD g).size) : (loadVar 27 ⟨g, o, none⟩).run Tryd.prog w = .ok (.agg ((w.rowD g).extract o (o + 5))) w := run_loadVar_rowD 27 5 aggRg sizRg w g o h
@[go_sem] theorem rSRg (w : World) (g o : Nat) (x : Rg) (h : o + 5 ≤ (w.rowD g).size) (hf : ∀ i, w.frozen? ⟨g, i, none⟩ = false) : (storeK 27 (.pointer (some ⟨g, o, none⟩)) (.agg (encRg x))).run Tryd.prog w = .ok .skip (w.setCells g o (encRg x).toList) := run_storeK 27 5 sizRg w g o _ (size_encRg x) (one_encRg x) h hf
theorem rWRg (w : World) (g : Nat) (x : Rg) (h : w.rowD g = encRg x) : (loadVar 27 ⟨g, 0, none⟩).run Tryd.prog w = .ok (.agg (encRg x)) w := by
  rw [rVRg w g 0 (by rw [h, size_encRg]; omega), h, show 0 + 5 = (encRg x).size by rw [size_encRg], Array.extract_size]
@[go_sem ↓] theorem exBRg (ρ : Operand → Value) (dst : Option Tmp) (ps : Array (Nat × Operand)) (ty : TypeId) (pos : String) (after : Array Edge) (guard : Option (Nat × Bool)) : execOp ρ { dst, op := .build 27 ps, type := ty, pos, after, guard } = buildK 27 (ps.map fun (i, x) => (i, ρ x)) := rfl
theorem bldRg (ps : Array (Nat × Value)) (hf : fitsAll ((#[(0, 1), (1, 4)] : Array (Nat × Nat))[·]?) 5 ps.toList) (w : World) : (buildK 27 ps).run Tryd.prog w = .ok (.value (.agg (layAll ((#[(0, 1), (1, 4)] : Array (Nat × Nat))[·]?) (encRg ring0) ps.toList))) w :=
  run_buildK 27 (encRg ring0) (Tryd.prog.fieldsOf 27) #[(0, 1), (1, 4)] zerRg (by kernel_rfl) (fun _ => by kernel_rfl) ps (by rw [size_encRg]; exact hf) w
@[go_sem] theorem bldRg0 (w : World) : (buildK 27 #[]).run Tryd.prog w = .ok (.value (.agg (encRg ring0))) w := bldRg #[] trivial w
@[go_sem] theorem bldRg1 (x0 : Nat) (x1 : C4) (w : World) : (buildK 27 #[(0, .int .u32 (x0 : Int)), (1, .agg (encC x1))]).run Tryd.prog w = .ok (.value (.agg (encRg ⟨x0, x1⟩))) w := by
  refine (bldRg #[(0, .int .u32 (x0 : Int)), (1, .agg (encC x1))] ⟨⟨0, 1, rfl, rfl, by omega⟩, ⟨1, 4, rfl, size_encC _, by omega⟩, trivial⟩ w).trans ?_
  simp only [layAll, List.getElem?_toArray, List.getElem?_cons_zero, List.getElem?_cons_succ, Option.getD_some, Value.cells, spliceL, set_rg_last, set_rg_counts]
theorem aggWn (w : World) : (isAgg 29).run Tryd.prog w = .ok true w := by kernel_rfl
theorem sizWn (w : World) : (Go.sizeOf 29).run Tryd.prog w = .ok 6 w := by kernel_rfl
theorem zerWn (w : World) : (zeroValue 29).run Tryd.prog w = .ok (.agg (encWn win0)) w := by kernel_rfl
@[go_sem ↓] theorem exLWn (ρ : Operand → Value) (dst : Option Tmp) (x : Operand) (ty : TypeId) (pos : String) (after : Array Edge) (guard : Option (Nat × Bool)) : execOp ρ { dst, op := .load 29 x, type := ty, pos, after, guard } = loadK 29 (ρ x) := rfl
@[go_sem ↓] theorem exSWn (ρ : Operand → Value) (dst : Option Tmp) (x : Operand) (ty : TypeId) (pos : String) (after : Array Edge) (guard : Option (Nat × Bool)) (y : Operand) : execOp ρ { dst, op := .store 29 x y, type := ty, pos, after, guard } = storeK 29 (ρ x) (ρ y) := rfl
@[go_sem] theorem rLWn (w : World) (g o : Nat) (h : o + 6 ≤ (w.rowD g).size) : (loadK 29 (.pointer (some ⟨g, o, none⟩))).run Tryd.prog w = .ok (.value (.agg ((w.rowD g).extract o (o + 6)))) w := run_loadK 29 6 aggWn sizWn w g o h
@[go_sem] theorem rVWn (w : World) (g o : Nat) (h : o + 6 ≤ (w.rowD g).size) : (loadVar 29 ⟨g, o, none⟩).run Tryd.prog w = .ok (.agg ((w.rowD g).extract o (o + 6))) w := run_loadVar_rowD 29 6 aggWn sizWn w g o h
@[go_sem] theorem rSWn (w : World) (g o : Nat) (x : Wn) (h : o + 6 ≤ (w.rowD g).size) (hf : ∀ i, w.frozen? ⟨g, i, none⟩ = false) : (storeK 29 (.pointer (some ⟨g, o, none⟩)) (.agg (encWn x))).run Tryd.prog w = .ok .skip (w.setCells g o (encWn x).toList) := run_storeK 29 6 sizWn w g o _ (size_encWn x) (one_encWn x) h hf
theorem rWWn (w : World) (g : Nat) (x : Wn) (h : w.rowD g = encWn x) : (loadVar 29 ⟨g, 0, none⟩).run Tryd.prog w = .ok (.agg (encWn x)) w := by
  rw [rVWn w g 0 (by rw [h, size_encWn]; omega), h, show 0 + 6 = (encWn x).size by rw [size_encWn], Array.extract_size]
@[go_sem ↓] theorem exBWn (ρ : Operand → Value) (dst : Option Tmp) (ps : Array (Nat × Operand)) (ty : TypeId) (pos : String) (after : Array Edge) (guard : Option (Nat × Bool)) : execOp ρ { dst, op := .build 29 ps, type := ty, pos, after, guard } = buildK 29 (ps.map fun (i, x) => (i, ρ x)) := rfl
theorem bldWn (ps : Array (Nat × Value)) (hf : fitsAll ((#[(0, 1), (1, 5)] : Array (Nat × Nat))[·]?) 6 ps.toList) (w : World) : (buildK 29 ps).run Tryd.prog w = .ok (.value (.agg (layAll ((#[(0, 1), (1, 5)] : Array (Nat × Nat))[·]?) (encWn win0) ps.toList))) w :=
  run_buildK 29 (encWn win0) (Tryd.prog.fieldsOf 29) #[(0, 1), (1, 5)] zerWn (by kernel_rfl) (fun _ => by kernel_rfl) ps (by rw [size_encWn]; exact hf) w
@[go_sem] theorem bldWn0 (w : World) : (buildK 29 #[]).run Tryd.prog w = .ok (.value (.agg (encWn win0))) w := bldWn #[] trivial w
@[go_sem] theorem bldWn1 (x0 : Nat) (x1 : Rg) (w : World) : (buildK 29 #[(0, .int .u32 (x0 : Int)), (1, .agg (encRg x1))]).run Tryd.prog w = .ok (.value (.agg (encWn ⟨x0, x1⟩))) w := by
  refine (bldWn #[(0, .int .u32 (x0 : Int)), (1, .agg (encRg x1))] ⟨⟨0, 1, rfl, rfl, by omega⟩, ⟨1, 5, rfl, size_encRg _, by omega⟩, trivial⟩ w).trans ?_
  simp only [layAll, List.getElem?_toArray, List.getElem?_cons_zero, List.getElem?_cons_succ, Option.getD_some, Value.cells, spliceL, set_wn_min, set_wn_ring]
theorem aggDt (w : World) : (isAgg 31).run Tryd.prog w = .ok true w := by kernel_rfl
theorem sizDt (w : World) : (Go.sizeOf 31).run Tryd.prog w = .ok 129 w := by kernel_rfl
theorem zerDt (w : World) : (zeroValue 31).run Tryd.prog w = .ok (.agg (encDt data0)) w := by kernel_rfl
@[go_sem ↓] theorem exLDt (ρ : Operand → Value) (dst : Option Tmp) (x : Operand) (ty : TypeId) (pos : String) (after : Array Edge) (guard : Option (Nat × Bool)) : execOp ρ { dst, op := .load 31 x, type := ty, pos, after, guard } = loadK 31 (ρ x) := rfl
@[go_sem ↓] theorem exSDt (ρ : Operand → Value) (dst : Option Tmp) (x : Operand) (ty : TypeId) (pos : String) (after : Array Edge) (guard : Option (Nat × Bool)) (y : Operand) : execOp ρ { dst, op := .store 31 x y, type := ty, pos, after, guard } = storeK 31 (ρ x) (ρ y) := rfl
@[go_sem] theorem rLDt (w : World) (g o : Nat) (h : o + 129 ≤ (w.rowD g).size) : (loadK 31 (.pointer (some ⟨g, o, none⟩))).run Tryd.prog w = .ok (.value (.agg ((w.rowD g).extract o (o + 129)))) w := run_loadK 31 129 aggDt sizDt w g o h
@[go_sem] theorem rVDt (w : World) (g o : Nat) (h : o + 129 ≤ (w.rowD g).size) : (loadVar 31 ⟨g, o, none⟩).run Tryd.prog w = .ok (.agg ((w.rowD g).extract o (o + 129))) w := run_loadVar_rowD 31 129 aggDt sizDt w g o h
@[go_sem] theorem rSDt (w : World) (g o : Nat) (x : Dt) (h : o + 129 ≤ (w.rowD g).size) (hf : ∀ i, w.frozen? ⟨g, i, none⟩ = false) : (storeK 31 (.pointer (some ⟨g, o, none⟩)) (.agg (encDt x))).run Tryd.prog w = .ok .skip (w.setCells g o (encDt x).toList) := run_storeK 31 129 sizDt w g o _ (size_encDt x) (one_encDt x) h hf
theorem rWDt (w : World) (g : Nat) (x : Dt) (h : w.rowD g = encDt x) : (loadVar 31 ⟨g, 0, none⟩).run Tryd.prog w = .ok (.agg (encDt x)) w := by
  rw [rVDt w g 0 (by rw [h, size_encDt]; omega), h, show 0 + 129 = (encDt x).size by rw [size_encDt], Array.extract_size]
@[go_sem ↓] theorem exBDt (ρ : Operand → Value) (dst : Option Tmp) (ps : Array (Nat × Operand)) (ty : TypeId) (pos : String) (after : Array Edge) (guard : Option (Nat × Bool)) : execOp ρ { dst, op := .build 31 ps, type := ty, pos, after, guard } = buildK 31 (ps.map fun (i, x) => (i, ρ x)) := rfl
theorem bldDt (ps : Array (Nat × Value)) (hf : fitsAll ((#[(0, 32), (32, 32), (64, 32), (96, 32), (128, 1)] : Array (Nat × Nat))[·]?) 129 ps.toList) (w : World) : (buildK 31 ps).run Tryd.prog w = .ok (.value (.agg (layAll ((#[(0, 32), (32, 32), (64, 32), (96, 32), (128, 1)] : Array (Nat × Nat))[·]?) (encDt data0) ps.toList))) w :=
  run_buildK 31 (encDt data0) (Tryd.prog.fieldsOf 31) #[(0, 32), (32, 32), (64, 32), (96, 32), (128, 1)] zerDt (by kernel_rfl) (fun _ => by kernel_rfl) ps (by rw [size_encDt]; exact hf) w
@[go_sem] theorem bldDt0 (w : World) : (buildK 31 #[]).run Tryd.prog w = .ok (.value (.agg (encDt data0))) w := bldDt #[] trivial w
@[go_sem] theorem bldDt1 (x0 : H32) (x1 : H32) (x2 : H32) (x3 : H32) (x4 : Nat) (w : World) : (buildK 31 #[(0, .agg (encH x0)), (1, .agg (encH x1)), (2, .agg (encH x2)), (3, .agg (encH x3)), (4, .int .u32 (x4 : Int))]).run Tryd.prog w = .ok (.value (.agg (encDt ⟨x0, x1, x2, x3, x4⟩))) w := by
  refine (bldDt #[(0, .agg (encH x0)), (1, .agg (encH x1)), (2, .agg (encH x2)), (3, .agg (encH x3)), (4, .int .u32 (x4 : Int))] ⟨⟨0, 32, rfl, size_encH _, by omega⟩, ⟨32, 32, rfl, size_encH _, by omega⟩, ⟨64, 32, rfl, size_encH _, by omega⟩, ⟨96, 32, rfl, size_encH _, by omega⟩, ⟨128, 1, rfl, rfl, by omega⟩, trivial⟩ w).trans ?_
  simp only [layAll, List.getElem?_toArray, List.getElem?_cons_zero, List.getElem?_cons_succ, Option.getD_some, Value.cells, spliceL, set_dt_ledger, set_dt_seed, set_dt_start, set_dt_lock, set_dt_length]
theorem aggPr (w : World) : (isAgg 33).run Tryd.prog w = .ok true w := by kernel_rfl
theorem sizPr (w : World) : (Go.sizeOf 33).run Tryd.prog w = .ok 258 w := by kernel_rfl
theorem zerPr (w : World) : (zeroValue 33).run Tryd.prog w = .ok (.agg (encPr pair0)) w := by kernel_rfl
@[go_sem ↓] theorem exLPr (ρ : Operand → Value) (dst : Option Tmp) (x : Operand) (ty : TypeId) (pos : String) (after : Array Edge) (guard : Option (Nat × Bool)) : execOp ρ { dst, op := .load 33 x, type := ty, pos, after, guard } = loadK 33 (ρ x) := rfl
@[go_sem ↓] theorem exSPr (ρ : Operand → Value) (dst : Option Tmp) (x : Operand) (ty : TypeId) (pos : String) (after : Array Edge) (guard : Option (Nat × Bool)) (y : Operand) : execOp ρ { dst, op := .store 33 x y, type := ty, pos, after, guard } = storeK 33 (ρ x) (ρ y) := rfl
@[go_sem] theorem rLPr (w : World) (g o : Nat) (h : o + 258 ≤ (w.rowD g).size) : (loadK 33 (.pointer (some ⟨g, o, none⟩))).run Tryd.prog w = .ok (.value (.agg ((w.rowD g).extract o (o + 258)))) w := run_loadK 33 258 aggPr sizPr w g o h
@[go_sem] theorem rVPr (w : World) (g o : Nat) (h : o + 258 ≤ (w.rowD g).size) : (loadVar 33 ⟨g, o, none⟩).run Tryd.prog w = .ok (.agg ((w.rowD g).extract o (o + 258))) w := run_loadVar_rowD 33 258 aggPr sizPr w g o h
@[go_sem] theorem rSPr (w : World) (g o : Nat) (x : Pr) (h : o + 258 ≤ (w.rowD g).size) (hf : ∀ i, w.frozen? ⟨g, i, none⟩ = false) : (storeK 33 (.pointer (some ⟨g, o, none⟩)) (.agg (encPr x))).run Tryd.prog w = .ok .skip (w.setCells g o (encPr x).toList) := run_storeK 33 258 sizPr w g o _ (size_encPr x) (one_encPr x) h hf
theorem rWPr (w : World) (g : Nat) (x : Pr) (h : w.rowD g = encPr x) : (loadVar 33 ⟨g, 0, none⟩).run Tryd.prog w = .ok (.agg (encPr x)) w := by
  rw [rVPr w g 0 (by rw [h, size_encPr]; omega), h, show 0 + 258 = (encPr x).size by rw [size_encPr], Array.extract_size]
@[go_sem ↓] theorem exBPr (ρ : Operand → Value) (dst : Option Tmp) (ps : Array (Nat × Operand)) (ty : TypeId) (pos : String) (after : Array Edge) (guard : Option (Nat × Bool)) : execOp ρ { dst, op := .build 33 ps, type := ty, pos, after, guard } = buildK 33 (ps.map fun (i, x) => (i, ρ x)) := rfl
theorem bldPr (ps : Array (Nat × Value)) (hf : fitsAll ((#[(0, 129), (129, 129)] : Array (Nat × Nat))[·]?) 258 ps.toList) (w : World) : (buildK 33 ps).run Tryd.prog w = .ok (.value (.agg (layAll ((#[(0, 129), (129, 129)] : Array (Nat × Nat))[·]?) (encPr pair0) ps.toList))) w :=
  run_buildK 33 (encPr pair0) (Tryd.prog.fieldsOf 33) #[(0, 129), (129, 129)] zerPr (by kernel_rfl) (fun _ => by kernel_rfl) ps (by rw [size_encPr]; exact hf) w
@[go_sem] theorem bldPr0 (w : World) : (buildK 33 #[]).run Tryd.prog w = .ok (.value (.agg (encPr pair0))) w := bldPr #[] trivial w
@[go_sem] theorem bldPr1 (x0 : Dt) (x1 : Dt) (w : World) : (buildK 33 #[(0, .agg (encDt x0)), (1, .agg (encDt x1))]).run Tryd.prog w = .ok (.value (.agg (encPr ⟨x0, x1⟩))) w := by
  refine (bldPr #[(0, .agg (encDt x0)), (1, .agg (encDt x1))] ⟨⟨0, 129, rfl, size_encDt _, by omega⟩, ⟨129, 129, rfl, size_encDt _, by omega⟩, trivial⟩ w).trans ?_
  simp only [layAll, List.getElem?_toArray, List.getElem?_cons_zero, List.getElem?_cons_succ, Option.getD_some, Value.cells, spliceL, set_pr_now, set_pr_next]
theorem aggSt (w : World) : (isAgg 35).run Tryd.prog w = .ok true w := by kernel_rfl
theorem sizSt (w : World) : (Go.sizeOf 35).run Tryd.prog w = .ok 363 w := by kernel_rfl
theorem zerSt (w : World) : (zeroValue 35).run Tryd.prog w = .ok (.agg (encSt state0)) w := by kernel_rfl
@[go_sem ↓] theorem exLSt (ρ : Operand → Value) (dst : Option Tmp) (x : Operand) (ty : TypeId) (pos : String) (after : Array Edge) (guard : Option (Nat × Bool)) : execOp ρ { dst, op := .load 35 x, type := ty, pos, after, guard } = loadK 35 (ρ x) := rfl
@[go_sem ↓] theorem exSSt (ρ : Operand → Value) (dst : Option Tmp) (x : Operand) (ty : TypeId) (pos : String) (after : Array Edge) (guard : Option (Nat × Bool)) (y : Operand) : execOp ρ { dst, op := .store 35 x y, type := ty, pos, after, guard } = storeK 35 (ρ x) (ρ y) := rfl
@[go_sem] theorem rLSt (w : World) (g o : Nat) (h : o + 363 ≤ (w.rowD g).size) : (loadK 35 (.pointer (some ⟨g, o, none⟩))).run Tryd.prog w = .ok (.value (.agg ((w.rowD g).extract o (o + 363)))) w := run_loadK 35 363 aggSt sizSt w g o h
@[go_sem] theorem rVSt (w : World) (g o : Nat) (h : o + 363 ≤ (w.rowD g).size) : (loadVar 35 ⟨g, o, none⟩).run Tryd.prog w = .ok (.agg ((w.rowD g).extract o (o + 363))) w := run_loadVar_rowD 35 363 aggSt sizSt w g o h
@[go_sem] theorem rSSt (w : World) (g o : Nat) (x : St) (h : o + 363 ≤ (w.rowD g).size) (hf : ∀ i, w.frozen? ⟨g, i, none⟩ = false) : (storeK 35 (.pointer (some ⟨g, o, none⟩)) (.agg (encSt x))).run Tryd.prog w = .ok .skip (w.setCells g o (encSt x).toList) := run_storeK 35 363 sizSt w g o _ (size_encSt x) (one_encSt x) h hf
theorem rWSt (w : World) (g : Nat) (x : St) (h : w.rowD g = encSt x) : (loadVar 35 ⟨g, 0, none⟩).run Tryd.prog w = .ok (.agg (encSt x)) w := by
  rw [rVSt w g 0 (by rw [h, size_encSt]; omega), h, show 0 + 363 = (encSt x).size by rw [size_encSt], Array.extract_size]
@[go_sem ↓] theorem exBSt (ρ : Operand → Value) (dst : Option Tmp) (ps : Array (Nat × Operand)) (ty : TypeId) (pos : String) (after : Array Edge) (guard : Option (Nat × Bool)) : execOp ρ { dst, op := .build 35 ps, type := ty, pos, after, guard } = buildK 35 (ps.map fun (i, x) => (i, ρ x)) := rfl
theorem bldSt (ps : Array (Nat × Value)) (hf : fitsAll ((#[(0, 32), (32, 32), (64, 32), (96, 1), (97, 1), (98, 1), (99, 6), (105, 258)] : Array (Nat × Nat))[·]?) 363 ps.toList) (w : World) : (buildK 35 ps).run Tryd.prog w = .ok (.value (.agg (layAll ((#[(0, 32), (32, 32), (64, 32), (96, 1), (97, 1), (98, 1), (99, 6), (105, 258)] : Array (Nat × Nat))[·]?) (encSt state0) ps.toList))) w :=
  run_buildK 35 (encSt state0) (Tryd.prog.fieldsOf 35) #[(0, 32), (32, 32), (64, 32), (96, 1), (97, 1), (98, 1), (99, 6), (105, 258)] zerSt (by kernel_rfl) (fun _ => by kernel_rfl) ps (by rw [size_encSt]; exact hf) w
@[go_sem] theorem bldSt0 (w : World) : (buildK 35 #[]).run Tryd.prog w = .ok (.value (.agg (encSt state0))) w := bldSt #[] trivial w
@[go_sem] theorem bldSt1 (x0 : H32) (x1 : H32) (x2 : H32) (x3 : Nat) (x4 : Nat) (x5 : Nat) (x6 : Wn) (x7 : Pr) (w : World) : (buildK 35 #[(0, .agg (encH x0)), (1, .agg (encH x1)), (2, .agg (encH x2)), (3, .int .u32 (x3 : Int)), (4, .int .u32 (x4 : Int)), (5, .int .u32 (x5 : Int)), (6, .agg (encWn x6)), (7, .agg (encPr x7))]).run Tryd.prog w = .ok (.value (.agg (encSt ⟨x0, x1, x2, x3, x4, x5, x6, x7⟩))) w := by
  refine (bldSt #[(0, .agg (encH x0)), (1, .agg (encH x1)), (2, .agg (encH x2)), (3, .int .u32 (x3 : Int)), (4, .int .u32 (x4 : Int)), (5, .int .u32 (x5 : Int)), (6, .agg (encWn x6)), (7, .agg (encPr x7))] ⟨⟨0, 32, rfl, size_encH _, by omega⟩, ⟨32, 32, rfl, size_encH _, by omega⟩, ⟨64, 32, rfl, size_encH _, by omega⟩, ⟨96, 1, rfl, rfl, by omega⟩, ⟨97, 1, rfl, rfl, by omega⟩, ⟨98, 1, rfl, rfl, by omega⟩, ⟨99, 6, rfl, size_encWn _, by omega⟩, ⟨105, 258, rfl, size_encPr _, by omega⟩, trivial⟩ w).trans ?_
  simp only [layAll, List.getElem?_toArray, List.getElem?_cons_zero, List.getElem?_cons_succ, Option.getD_some, Value.cells, spliceL, set_st_prev, set_st_ledger, set_st_draw, set_st_slot, set_st_length, set_st_count, set_st_win, set_st_epochs]
theorem aggBk (w : World) : (isAgg 37).run Tryd.prog w = .ok true w := by kernel_rfl
theorem sizBk (w : World) : (Go.sizeOf 37).run Tryd.prog w = .ok 65 w := by kernel_rfl
theorem zerBk (w : World) : (zeroValue 37).run Tryd.prog w = .ok (.agg (encBk block0)) w := by kernel_rfl
@[go_sem ↓] theorem exLBk (ρ : Operand → Value) (dst : Option Tmp) (x : Operand) (ty : TypeId) (pos : String) (after : Array Edge) (guard : Option (Nat × Bool)) : execOp ρ { dst, op := .load 37 x, type := ty, pos, after, guard } = loadK 37 (ρ x) := rfl
@[go_sem ↓] theorem exSBk (ρ : Operand → Value) (dst : Option Tmp) (x : Operand) (ty : TypeId) (pos : String) (after : Array Edge) (guard : Option (Nat × Bool)) (y : Operand) : execOp ρ { dst, op := .store 37 x y, type := ty, pos, after, guard } = storeK 37 (ρ x) (ρ y) := rfl
@[go_sem] theorem rLBk (w : World) (g o : Nat) (h : o + 65 ≤ (w.rowD g).size) : (loadK 37 (.pointer (some ⟨g, o, none⟩))).run Tryd.prog w = .ok (.value (.agg ((w.rowD g).extract o (o + 65)))) w := run_loadK 37 65 aggBk sizBk w g o h
@[go_sem] theorem rVBk (w : World) (g o : Nat) (h : o + 65 ≤ (w.rowD g).size) : (loadVar 37 ⟨g, o, none⟩).run Tryd.prog w = .ok (.agg ((w.rowD g).extract o (o + 65))) w := run_loadVar_rowD 37 65 aggBk sizBk w g o h
@[go_sem] theorem rSBk (w : World) (g o : Nat) (x : Bk) (h : o + 65 ≤ (w.rowD g).size) (hf : ∀ i, w.frozen? ⟨g, i, none⟩ = false) : (storeK 37 (.pointer (some ⟨g, o, none⟩)) (.agg (encBk x))).run Tryd.prog w = .ok .skip (w.setCells g o (encBk x).toList) := run_storeK 37 65 sizBk w g o _ (size_encBk x) (one_encBk x) h hf
theorem rWBk (w : World) (g : Nat) (x : Bk) (h : w.rowD g = encBk x) : (loadVar 37 ⟨g, 0, none⟩).run Tryd.prog w = .ok (.agg (encBk x)) w := by
  rw [rVBk w g 0 (by rw [h, size_encBk]; omega), h, show 0 + 65 = (encBk x).size by rw [size_encBk], Array.extract_size]
@[go_sem ↓] theorem exBBk (ρ : Operand → Value) (dst : Option Tmp) (ps : Array (Nat × Operand)) (ty : TypeId) (pos : String) (after : Array Edge) (guard : Option (Nat × Bool)) : execOp ρ { dst, op := .build 37 ps, type := ty, pos, after, guard } = buildK 37 (ps.map fun (i, x) => (i, ρ x)) := rfl
theorem bldBk (ps : Array (Nat × Value)) (hf : fitsAll ((#[(0, 1), (1, 32), (33, 32)] : Array (Nat × Nat))[·]?) 65 ps.toList) (w : World) : (buildK 37 ps).run Tryd.prog w = .ok (.value (.agg (layAll ((#[(0, 1), (1, 32), (33, 32)] : Array (Nat × Nat))[·]?) (encBk block0) ps.toList))) w :=
  run_buildK 37 (encBk block0) (Tryd.prog.fieldsOf 37) #[(0, 1), (1, 32), (33, 32)] zerBk (by kernel_rfl) (fun _ => by kernel_rfl) ps (by rw [size_encBk]; exact hf) w
@[go_sem] theorem bldBk0 (w : World) : (buildK 37 #[]).run Tryd.prog w = .ok (.value (.agg (encBk block0))) w := bldBk #[] trivial w
@[go_sem] theorem bldBk1 (x0 : Nat) (x1 : H32) (x2 : H32) (w : World) : (buildK 37 #[(0, .int .u32 (x0 : Int)), (1, .agg (encH x1)), (2, .agg (encH x2))]).run Tryd.prog w = .ok (.value (.agg (encBk ⟨x0, x1, x2⟩))) w := by
  refine (bldBk #[(0, .int .u32 (x0 : Int)), (1, .agg (encH x1)), (2, .agg (encH x2))] ⟨⟨0, 1, rfl, rfl, by omega⟩, ⟨1, 32, rfl, size_encH _, by omega⟩, ⟨33, 32, rfl, size_encH _, by omega⟩, trivial⟩ w).trans ?_
  simp only [layAll, List.getElem?_toArray, List.getElem?_cons_zero, List.getElem?_cons_succ, Option.getD_some, Value.cells, spliceL, set_bk_slot, set_bk_ledger, set_bk_draw]
theorem aggEb (w : World) : (isAgg 121).run Tryd.prog w = .ok true w := by kernel_rfl
theorem sizEb (w : World) : (Go.sizeOf 121).run Tryd.prog w = .ok 98 w := by kernel_rfl
theorem zerEb (w : World) : (zeroValue 121).run Tryd.prog w = .ok (.agg (encEb eblock0)) w := by kernel_rfl
@[go_sem ↓] theorem exLEb (ρ : Operand → Value) (dst : Option Tmp) (x : Operand) (ty : TypeId) (pos : String) (after : Array Edge) (guard : Option (Nat × Bool)) : execOp ρ { dst, op := .load 121 x, type := ty, pos, after, guard } = loadK 121 (ρ x) := rfl
@[go_sem ↓] theorem exSEb (ρ : Operand → Value) (dst : Option Tmp) (x : Operand) (ty : TypeId) (pos : String) (after : Array Edge) (guard : Option (Nat × Bool)) (y : Operand) : execOp ρ { dst, op := .store 121 x y, type := ty, pos, after, guard } = storeK 121 (ρ x) (ρ y) := rfl
@[go_sem] theorem rLEb (w : World) (g o : Nat) (h : o + 98 ≤ (w.rowD g).size) : (loadK 121 (.pointer (some ⟨g, o, none⟩))).run Tryd.prog w = .ok (.value (.agg ((w.rowD g).extract o (o + 98)))) w := run_loadK 121 98 aggEb sizEb w g o h
@[go_sem] theorem rVEb (w : World) (g o : Nat) (h : o + 98 ≤ (w.rowD g).size) : (loadVar 121 ⟨g, o, none⟩).run Tryd.prog w = .ok (.agg ((w.rowD g).extract o (o + 98))) w := run_loadVar_rowD 121 98 aggEb sizEb w g o h
@[go_sem] theorem rSEb (w : World) (g o : Nat) (x : Eb) (h : o + 98 ≤ (w.rowD g).size) (hf : ∀ i, w.frozen? ⟨g, i, none⟩ = false) : (storeK 121 (.pointer (some ⟨g, o, none⟩)) (.agg (encEb x))).run Tryd.prog w = .ok .skip (w.setCells g o (encEb x).toList) := run_storeK 121 98 sizEb w g o _ (size_encEb x) (one_encEb x) h hf
theorem rWEb (w : World) (g : Nat) (x : Eb) (h : w.rowD g = encEb x) : (loadVar 121 ⟨g, 0, none⟩).run Tryd.prog w = .ok (.agg (encEb x)) w := by
  rw [rVEb w g 0 (by rw [h, size_encEb]; omega), h, show 0 + 98 = (encEb x).size by rw [size_encEb], Array.extract_size]
@[go_sem ↓] theorem exBEb (ρ : Operand → Value) (dst : Option Tmp) (ps : Array (Nat × Operand)) (ty : TypeId) (pos : String) (after : Array Edge) (guard : Option (Nat × Bool)) : execOp ρ { dst, op := .build 121 ps, type := ty, pos, after, guard } = buildK 121 (ps.map fun (i, x) => (i, ρ x)) := rfl
theorem bldEb (ps : Array (Nat × Value)) (hf : fitsAll ((#[(0, 1), (1, 1), (2, 32), (34, 32), (66, 32)] : Array (Nat × Nat))[·]?) 98 ps.toList) (w : World) : (buildK 121 ps).run Tryd.prog w = .ok (.value (.agg (layAll ((#[(0, 1), (1, 1), (2, 32), (34, 32), (66, 32)] : Array (Nat × Nat))[·]?) (encEb eblock0) ps.toList))) w :=
  run_buildK 121 (encEb eblock0) (Tryd.prog.fieldsOf 121) #[(0, 1), (1, 1), (2, 32), (34, 32), (66, 32)] zerEb (by kernel_rfl) (fun _ => by kernel_rfl) ps (by rw [size_encEb]; exact hf) w
@[go_sem] theorem bldEb0 (w : World) : (buildK 121 #[]).run Tryd.prog w = .ok (.value (.agg (encEb eblock0))) w := bldEb #[] trivial w
@[go_sem] theorem bldEb1 (x0 : Nat) (x1 : Nat) (x2 : H32) (x3 : H32) (x4 : H32) (w : World) : (buildK 121 #[(0, .int .u32 (x0 : Int)), (1, .int .u32 (x1 : Int)), (2, .agg (encH x2)), (3, .agg (encH x3)), (4, .agg (encH x4))]).run Tryd.prog w = .ok (.value (.agg (encEb ⟨x0, x1, x2, x3, x4⟩))) w := by
  refine (bldEb #[(0, .int .u32 (x0 : Int)), (1, .int .u32 (x1 : Int)), (2, .agg (encH x2)), (3, .agg (encH x3)), (4, .agg (encH x4))] ⟨⟨0, 1, rfl, rfl, by omega⟩, ⟨1, 1, rfl, rfl, by omega⟩, ⟨2, 32, rfl, size_encH _, by omega⟩, ⟨34, 32, rfl, size_encH _, by omega⟩, ⟨66, 32, rfl, size_encH _, by omega⟩, trivial⟩ w).trans ?_
  simp only [layAll, List.getElem?_toArray, List.getElem?_cons_zero, List.getElem?_cons_succ, Option.getD_some, Value.cells, spliceL, set_eb_frm, set_eb_to, set_eb_prev, set_eb_ledger, set_eb_draw]
theorem aggCm (w : World) : (isAgg 159).run Tryd.prog w = .ok true w := by kernel_rfl
theorem sizCm (w : World) : (Go.sizeOf 159).run Tryd.prog w = .ok 7 w := by kernel_rfl
theorem zerCm (w : World) : (zeroValue 159).run Tryd.prog w = .ok (.agg (encCm coming0)) w := by kernel_rfl
@[go_sem ↓] theorem exLCm (ρ : Operand → Value) (dst : Option Tmp) (x : Operand) (ty : TypeId) (pos : String) (after : Array Edge) (guard : Option (Nat × Bool)) : execOp ρ { dst, op := .load 159 x, type := ty, pos, after, guard } = loadK 159 (ρ x) := rfl
@[go_sem ↓] theorem exSCm (ρ : Operand → Value) (dst : Option Tmp) (x : Operand) (ty : TypeId) (pos : String) (after : Array Edge) (guard : Option (Nat × Bool)) (y : Operand) : execOp ρ { dst, op := .store 159 x y, type := ty, pos, after, guard } = storeK 159 (ρ x) (ρ y) := rfl
@[go_sem] theorem rLCm (w : World) (g o : Nat) (h : o + 7 ≤ (w.rowD g).size) : (loadK 159 (.pointer (some ⟨g, o, none⟩))).run Tryd.prog w = .ok (.value (.agg ((w.rowD g).extract o (o + 7)))) w := run_loadK 159 7 aggCm sizCm w g o h
@[go_sem] theorem rVCm (w : World) (g o : Nat) (h : o + 7 ≤ (w.rowD g).size) : (loadVar 159 ⟨g, o, none⟩).run Tryd.prog w = .ok (.agg ((w.rowD g).extract o (o + 7))) w := run_loadVar_rowD 159 7 aggCm sizCm w g o h
@[go_sem] theorem rSCm (w : World) (g o : Nat) (x : Cm) (h : o + 7 ≤ (w.rowD g).size) (hf : ∀ i, w.frozen? ⟨g, i, none⟩ = false) : (storeK 159 (.pointer (some ⟨g, o, none⟩)) (.agg (encCm x))).run Tryd.prog w = .ok .skip (w.setCells g o (encCm x).toList) := run_storeK 159 7 sizCm w g o _ (size_encCm x) (one_encCm x) h hf
theorem rWCm (w : World) (g : Nat) (x : Cm) (h : w.rowD g = encCm x) : (loadVar 159 ⟨g, 0, none⟩).run Tryd.prog w = .ok (.agg (encCm x)) w := by
  rw [rVCm w g 0 (by rw [h, size_encCm]; omega), h, show 0 + 7 = (encCm x).size by rw [size_encCm], Array.extract_size]
@[go_sem ↓] theorem exBCm (ρ : Operand → Value) (dst : Option Tmp) (ps : Array (Nat × Operand)) (ty : TypeId) (pos : String) (after : Array Edge) (guard : Option (Nat × Bool)) : execOp ρ { dst, op := .build 159 ps, type := ty, pos, after, guard } = buildK 159 (ps.map fun (i, x) => (i, ρ x)) := rfl
theorem bldCm (ps : Array (Nat × Value)) (hf : fitsAll ((#[(0, 6), (6, 1)] : Array (Nat × Nat))[·]?) 7 ps.toList) (w : World) : (buildK 159 ps).run Tryd.prog w = .ok (.value (.agg (layAll ((#[(0, 6), (6, 1)] : Array (Nat × Nat))[·]?) (encCm coming0) ps.toList))) w :=
  run_buildK 159 (encCm coming0) (Tryd.prog.fieldsOf 159) #[(0, 6), (6, 1)] zerCm (by kernel_rfl) (fun _ => by kernel_rfl) ps (by rw [size_encCm]; exact hf) w
@[go_sem] theorem bldCm0 (w : World) : (buildK 159 #[]).run Tryd.prog w = .ok (.value (.agg (encCm coming0))) w := bldCm #[] trivial w
@[go_sem] theorem bldCm1 (x0 : Wn) (x1 : Nat) (w : World) : (buildK 159 #[(0, .agg (encWn x0)), (1, .int .u32 (x1 : Int))]).run Tryd.prog w = .ok (.value (.agg (encCm ⟨x0, x1⟩))) w := by
  refine (bldCm #[(0, .agg (encWn x0)), (1, .int .u32 (x1 : Int))] ⟨⟨0, 6, rfl, size_encWn _, by omega⟩, ⟨6, 1, rfl, rfl, by omega⟩, trivial⟩ w).trans ?_
  simp only [layAll, List.getElem?_toArray, List.getElem?_cons_zero, List.getElem?_cons_succ, Option.getD_some, Value.cells, spliceL, set_cm_win, set_cm_slot]
theorem aggPt (w : World) : (isAgg 136).run Tryd.prog w = .ok true w := by kernel_rfl
theorem sizPt (w : World) : (Go.sizeOf 136).run Tryd.prog w = .ok 726 w := by kernel_rfl
theorem zerPt (w : World) : (zeroValue 136).run Tryd.prog w = .ok (.agg (encPt pt0)) w := by kernel_rfl
@[go_sem ↓] theorem exLPt (ρ : Operand → Value) (dst : Option Tmp) (x : Operand) (ty : TypeId) (pos : String) (after : Array Edge) (guard : Option (Nat × Bool)) : execOp ρ { dst, op := .load 136 x, type := ty, pos, after, guard } = loadK 136 (ρ x) := rfl
@[go_sem ↓] theorem exSPt (ρ : Operand → Value) (dst : Option Tmp) (x : Operand) (ty : TypeId) (pos : String) (after : Array Edge) (guard : Option (Nat × Bool)) (y : Operand) : execOp ρ { dst, op := .store 136 x y, type := ty, pos, after, guard } = storeK 136 (ρ x) (ρ y) := rfl
@[go_sem] theorem rLPt (w : World) (g o : Nat) (h : o + 726 ≤ (w.rowD g).size) : (loadK 136 (.pointer (some ⟨g, o, none⟩))).run Tryd.prog w = .ok (.value (.agg ((w.rowD g).extract o (o + 726)))) w := run_loadK 136 726 aggPt sizPt w g o h
@[go_sem] theorem rVPt (w : World) (g o : Nat) (h : o + 726 ≤ (w.rowD g).size) : (loadVar 136 ⟨g, o, none⟩).run Tryd.prog w = .ok (.agg ((w.rowD g).extract o (o + 726))) w := run_loadVar_rowD 136 726 aggPt sizPt w g o h
@[go_sem] theorem rSPt (w : World) (g o : Nat) (x : Pt) (h : o + 726 ≤ (w.rowD g).size) (hf : ∀ i, w.frozen? ⟨g, i, none⟩ = false) : (storeK 136 (.pointer (some ⟨g, o, none⟩)) (.agg (encPt x))).run Tryd.prog w = .ok .skip (w.setCells g o (encPt x).toList) := run_storeK 136 726 sizPt w g o _ (size_encPt x) (one_encPt x) h hf
theorem rWPt (w : World) (g : Nat) (x : Pt) (h : w.rowD g = encPt x) : (loadVar 136 ⟨g, 0, none⟩).run Tryd.prog w = .ok (.agg (encPt x)) w := by
  rw [rVPt w g 0 (by rw [h, size_encPt]; omega), h, show 0 + 726 = (encPt x).size by rw [size_encPt], Array.extract_size]
@[go_sem ↓] theorem exBPt (ρ : Operand → Value) (dst : Option Tmp) (ps : Array (Nat × Operand)) (ty : TypeId) (pos : String) (after : Array Edge) (guard : Option (Nat × Bool)) : execOp ρ { dst, op := .build 136 ps, type := ty, pos, after, guard } = buildK 136 (ps.map fun (i, x) => (i, ρ x)) := rfl
theorem bldPt (ps : Array (Nat × Value)) (hf : fitsAll ((#[(0, 363), (363, 363)] : Array (Nat × Nat))[·]?) 726 ps.toList) (w : World) : (buildK 136 ps).run Tryd.prog w = .ok (.value (.agg (layAll ((#[(0, 363), (363, 363)] : Array (Nat × Nat))[·]?) (encPt pt0) ps.toList))) w :=
  run_buildK 136 (encPt pt0) (Tryd.prog.fieldsOf 136) #[(0, 363), (363, 363)] zerPt (by kernel_rfl) (fun _ => by kernel_rfl) ps (by rw [size_encPt]; exact hf) w
@[go_sem] theorem bldPt0 (w : World) : (buildK 136 #[]).run Tryd.prog w = .ok (.value (.agg (encPt pt0))) w := bldPt #[] trivial w
@[go_sem] theorem bldPt1 (x0 : St) (x1 : St) (w : World) : (buildK 136 #[(0, .agg (encSt x0)), (1, .agg (encSt x1))]).run Tryd.prog w = .ok (.value (.agg (encPt ⟨x0, x1⟩))) w := by
  refine (bldPt #[(0, .agg (encSt x0)), (1, .agg (encSt x1))] ⟨⟨0, 363, rfl, size_encSt _, by omega⟩, ⟨363, 363, rfl, size_encSt _, by omega⟩, trivial⟩ w).trans ?_
  simp only [layAll, List.getElem?_toArray, List.getElem?_cons_zero, List.getElem?_cons_succ, Option.getD_some, Value.cells, spliceL, set_pt_a, set_pt_b]
theorem aggKy (w : World) : (isAgg 72).run Tryd.prog w = .ok true w := by kernel_rfl
theorem sizKy (w : World) : (Go.sizeOf 72).run Tryd.prog w = .ok 65 w := by kernel_rfl
theorem zerKy (w : World) : (zeroValue 72).run Tryd.prog w = .ok (.agg (encKy key0)) w := by kernel_rfl
@[go_sem ↓] theorem exLKy (ρ : Operand → Value) (dst : Option Tmp) (x : Operand) (ty : TypeId) (pos : String) (after : Array Edge) (guard : Option (Nat × Bool)) : execOp ρ { dst, op := .load 72 x, type := ty, pos, after, guard } = loadK 72 (ρ x) := rfl
@[go_sem ↓] theorem exSKy (ρ : Operand → Value) (dst : Option Tmp) (x : Operand) (ty : TypeId) (pos : String) (after : Array Edge) (guard : Option (Nat × Bool)) (y : Operand) : execOp ρ { dst, op := .store 72 x y, type := ty, pos, after, guard } = storeK 72 (ρ x) (ρ y) := rfl
@[go_sem] theorem rLKy (w : World) (g o : Nat) (h : o + 65 ≤ (w.rowD g).size) : (loadK 72 (.pointer (some ⟨g, o, none⟩))).run Tryd.prog w = .ok (.value (.agg ((w.rowD g).extract o (o + 65)))) w := run_loadK 72 65 aggKy sizKy w g o h
@[go_sem] theorem rVKy (w : World) (g o : Nat) (h : o + 65 ≤ (w.rowD g).size) : (loadVar 72 ⟨g, o, none⟩).run Tryd.prog w = .ok (.agg ((w.rowD g).extract o (o + 65))) w := run_loadVar_rowD 72 65 aggKy sizKy w g o h
@[go_sem] theorem rSKy (w : World) (g o : Nat) (x : Ky) (h : o + 65 ≤ (w.rowD g).size) (hf : ∀ i, w.frozen? ⟨g, i, none⟩ = false) : (storeK 72 (.pointer (some ⟨g, o, none⟩)) (.agg (encKy x))).run Tryd.prog w = .ok .skip (w.setCells g o (encKy x).toList) := run_storeK 72 65 sizKy w g o _ (size_encKy x) (one_encKy x) h hf
theorem rWKy (w : World) (g : Nat) (x : Ky) (h : w.rowD g = encKy x) : (loadVar 72 ⟨g, 0, none⟩).run Tryd.prog w = .ok (.agg (encKy x)) w := by
  rw [rVKy w g 0 (by rw [h, size_encKy]; omega), h, show 0 + 65 = (encKy x).size by rw [size_encKy], Array.extract_size]
@[go_sem ↓] theorem exBKy (ρ : Operand → Value) (dst : Option Tmp) (ps : Array (Nat × Operand)) (ty : TypeId) (pos : String) (after : Array Edge) (guard : Option (Nat × Bool)) : execOp ρ { dst, op := .build 72 ps, type := ty, pos, after, guard } = buildK 72 (ps.map fun (i, x) => (i, ρ x)) := rfl
theorem bldKy (ps : Array (Nat × Value)) (hf : fitsAll ((#[(0, 1), (1, 32), (33, 32)] : Array (Nat × Nat))[·]?) 65 ps.toList) (w : World) : (buildK 72 ps).run Tryd.prog w = .ok (.value (.agg (layAll ((#[(0, 1), (1, 32), (33, 32)] : Array (Nat × Nat))[·]?) (encKy key0) ps.toList))) w :=
  run_buildK 72 (encKy key0) (Tryd.prog.fieldsOf 72) #[(0, 1), (1, 32), (33, 32)] zerKy (by kernel_rfl) (fun _ => by kernel_rfl) ps (by rw [size_encKy]; exact hf) w
@[go_sem] theorem bldKy0 (w : World) : (buildK 72 #[]).run Tryd.prog w = .ok (.value (.agg (encKy key0))) w := bldKy #[] trivial w
@[go_sem] theorem bldKy1 (x0 : Nat) (x1 : H32) (x2 : H32) (w : World) : (buildK 72 #[(0, .int .u32 (x0 : Int)), (1, .agg (encH x1)), (2, .agg (encH x2))]).run Tryd.prog w = .ok (.value (.agg (encKy ⟨x0, x1, x2⟩))) w := by
  refine (bldKy #[(0, .int .u32 (x0 : Int)), (1, .agg (encH x1)), (2, .agg (encH x2))] ⟨⟨0, 1, rfl, rfl, by omega⟩, ⟨1, 32, rfl, size_encH _, by omega⟩, ⟨33, 32, rfl, size_encH _, by omega⟩, trivial⟩ w).trans ?_
  simp only [layAll, List.getElem?_toArray, List.getElem?_cons_zero, List.getElem?_cons_succ, Option.getD_some, Value.cells, spliceL, set_ky_length, set_ky_draw, set_ky_hash]
end Go.Proofs.YtpoaakdljpdkfaaDoor

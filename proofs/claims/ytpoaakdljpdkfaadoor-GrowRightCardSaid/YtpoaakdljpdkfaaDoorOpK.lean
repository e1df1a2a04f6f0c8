/- THE PROGRAM's SHORT FORMS OF OPERATIONS, NAMED. -/
import Derived.Test.YtpoaakdljpdkfaaDoorReg
set_option linter.unusedSimpArgs false
namespace Go
open Go.RowKit

/-- load, store of a whole struct or array: kept shut -/
def loadK (T : TypeId) (v : Value) : Sem Next := do pure (.value (← Instr.loadAt T v))
def storeK (T : TypeId) (a v : Value) : Sem Next := do Instr.storeAt T a v; pure .skip
def buildK (T : TypeId) (parts : Array (Nat × Value)) : Sem Next := do pure (.value (← Instr.build T parts))

section
variable {P : Program}
theorem run_loadK (ty : TypeId) (n : Nat) (hu : ∀ w, (isAgg ty).run P w = .ok true w) (hs : ∀ w, (Go.sizeOf ty).run P w = .ok n w)
    (w : World) (g o : Nat) (h : o + n ≤ (w.rowD g).size) :
    (loadK ty (.pointer (some ⟨g, o, none⟩))).run P w = .ok (.value (.agg ((w.rowD g).extract o (o + n)))) w := by
  simp only [loadK, Sem.run_bind, Sem.run_pure, Result.andThen_ok, run_loadAt_rowD ty n hu hs w g o h]
theorem run_storeK (ty : TypeId) (n : Nat) (hs : ∀ w, (Go.sizeOf ty).run P w = .ok n w)
    (w : World) (g o : Nat) (vs : Array Value) (hv : vs.size = n) (h1 : ∀ v ∈ vs.toList, v.oneCell' = true) (h : o + n ≤ (w.rowD g).size) (hf : ∀ i, w.frozen? ⟨g, i, none⟩ = false) :
    (storeK ty (.pointer (some ⟨g, o, none⟩)) (.agg vs)).run P w = .ok .skip (w.setCells g o vs.toList) := by
  simp only [storeK, Sem.run_bind, Sem.run_pure, Result.andThen_ok, run_storeAt_rowD ty n hs w g o vs hv h1 h hf]

/-- a struct put together: each part laid over the zero value -/
theorem foldl_spliceL (off : Nat) : ∀ (vs : List Value) (k : Nat) (c : Array Value), ((vs.zipIdx k).foldl (fun cs p => cs.setIfInBounds (off + p.2) p.1) c) = spliceL c (off + k) vs
  | [], _, _ => rfl
  | v :: vs, k, c => by
    simp only [List.zipIdx_cons, List.foldl_cons]
    rw [foldl_spliceL off vs (k + 1)]; rfl

/-- the parts, one behind the other: place, size -/
def layAll (place : Nat → Option (Nat × Nat)) : Array Value → List (Nat × Value) → Array Value
  | c, [] => c
  | c, (i, v) :: rest => layAll place (spliceL c ((place i).getD (0, 0)).1 v.cells.toList) rest
def fitsAll (place : Nat → Option (Nat × Nat)) (size : Nat) : List (Nat × Value) → Prop
  | [] => True
  | (i, v) :: rest => (∃ o n, place i = some (o, n) ∧ v.cells.size = n ∧ o + n ≤ size) ∧ fitsAll place size rest

theorem fill_eq (place : Nat → Option (Nat × Nat)) : ∀ (parts : List (Nat × Value)) (c : Array Value), fitsAll place c.size parts → Instr.fill place c parts = some (layAll place c parts)
  | [], _, _ => rfl
  | (i, v) :: rest, c, h => by
    obtain ⟨⟨o, n, hp, hv, ho⟩, hr⟩ := h
    unfold Instr.fill layAll
    simp only [hp, hv, Option.getD_some]
    rw [if_neg (by simp; omega)]
    have e : (v.cells.zipIdx.foldl (fun cs x => cs.setIfInBounds (o + x.2) x.1) c) = spliceL c o v.cells.toList := by
      have := foldl_spliceL o v.cells.toList 0 c
      rw [Nat.add_zero] at this
      rw [← this, ← Array.foldl_toList, Array.toList_zipIdx]
    rw [show (Array.foldl (fun cs x => match x with | (c, j) => cs.setIfInBounds (o + j) c) c v.cells.zipIdx) = spliceL c o v.cells.toList from e]
    exact fill_eq place rest _ (by rw [size_spliceL]; exact hr)

theorem run_buildK (T : TypeId) (z : Array Value) (fs : Array Field) (pl : Array (Nat × Nat)) (hz : ∀ w, (zeroValue T).run P w = .ok (.agg z) w) (hu : P.underlying T = some (.struct fs))
    (hpl : ∀ w, (fs.mapM fun f => do pure (f.offset, ← Go.sizeOf f.type) : Sem (Array (Nat × Nat))).run P w = .ok pl w) (parts : Array (Nat × Value)) (hf : fitsAll (pl[·]?) z.size parts.toList) (w : World) :
    (buildK T parts).run P w = .ok (.value (.agg (layAll (pl[·]?) z parts.toList))) w := by
  unfold buildK Instr.build
  simp only [Sem.run_bind, Sem.run_pure, Result.andThen_ok, hz, run_underlying hu, hpl, Value.cells]
  rw [fill_eq _ _ _ hf]
  simp only [Sem.run_bind, Sem.run_pure, Result.andThen_ok]
end
theorem rowD_al {w : World} (c : Array Value) (t : TypeId) (n : Nat) (hn : n = w.heap.size) : (w.alloc (.cells c t)).rowD n = c := rowD_alloc_new c t (0, 0) n hn
theorem Calls.grow_of {P : Program} {f : FuncId} {args : Array Value} {w : World} {v v' : Value} (h : Calls P f args w fun e w' => e = .returned v ∧ Below w.heap.size w w') (e : v = v') : Calls P f args w fun e w' => e = .returned v' ∧ Below w.heap.size w w' := e ▸ h
theorem Calls.ext_of' {P : Program} {f : FuncId} {args : Array Value} {w g : World} {v v' : Value}
    (h : Calls P f args (w.ext g) fun e w' => e = .returned v ∧ Below (w.ext g).heap.size (w.ext g) w') (e : v = v') : Calls P f args (w.ext g) fun e w'' => e = .returned v' ∧ ∃ m, w'' = w.ext m := Calls.ext_of (e ▸ h)
theorem below_drewN (w : World) (n : Nat) : Below w.heap.size w (w.drewN n) := ⟨rfl, rfl, rfl, Nat.le_refl _, fun _ _ => rfl⟩
attribute [go_sem] rowD_al rowD_alloc_old rowD_drew rowD_drewN World.rowD_ext setCells_alloc setCells_alloc_past setCells_drew
@[go_sem] theorem rowD_setCell_o {w : World} (b i : Nat) (v : Value) (g : Nat) (h : g ≠ b) : (w.setCell ⟨b, i, none⟩ v).rowD g = w.rowD g := rowD_setCell_other _ _ _ h
@[go_sem] theorem rowD_setCells_o {w : World} (b o : Nat) (vs : List Value) (g : Nat) (h : g ≠ b) : (w.setCells b o vs).rowD g = w.rowD g := rowD_setCells_other _ _ h _ _ _
@[go_sem] theorem frozen_al {w : World} (c : Array Value) (t : TypeId) (n i : Nat) (hn : n = w.heap.size) : (w.alloc (.cells c t)).frozen? ⟨n, i, none⟩ = false := World.frozen?_alloc_at _ _ _ _ hn
@[go_sem] theorem frozen_al_old {w : World} (o : Obj) (n i : Nat) (hn : n < w.heap.size) : (w.alloc o).frozen? ⟨n, i, none⟩ = w.frozen? ⟨n, i, none⟩ := World.frozen?_alloc_past _ _ _ hn
attribute [go_sem] World.frozen?_setCells
attribute [go_sem] cell_rowD rowD_setCell_same rowD_setCells_same size_setCells
attribute [go_sem] Oper.grow Oper.growAt Oper.growUpon
theorem ret_cell {P : Program} {fn : Func} {R : Ending → World → Prop} {a : Act} {w : World} {p : Tmp} {ty : TypeId} {v : Value} {g : Nat} (h : fn.results = #[.cell p ty]) (hp : a.tmps.getD p undef = .pointer (some ⟨g, 0, none⟩)) (hd : a.defers = [])
    (hv : (loadVar ty ⟨g, 0, none⟩).run P w = .ok v w) (hR : R (.returned v) w) : bodyPost P fn R .ret a w := by
  refine bodyPost_ret ?_ hd hR
  have hp' : a.tmps[p]?.getD undef = .pointer (some ⟨g, 0, none⟩) := by simpa using hp
  simp [results, h, hp', asAddr, hv]
theorem ret_cell_tmp {P : Program} {fn : Func} {R : Ending → World → Prop} {a : Act} {w : World} {p u : Tmp} {ty : TypeId} {v : Value} {g : Nat} (h : fn.results = #[.cell p ty, .tmp u]) (hp : a.tmps.getD p undef = .pointer (some ⟨g, 0, none⟩)) (hd : a.defers = [])
    (hv : (loadVar ty ⟨g, 0, none⟩).run P w = .ok v w) (hR : R (.returned (.tuple #[v, a.tmps.getD u undef])) w) : bodyPost P fn R .ret a w := by
  refine bodyPost_ret ?_ hd hR
  have hp' : a.tmps[p]?.getD undef = .pointer (some ⟨g, 0, none⟩) := by simpa using hp
  simp [results, h, hp', asAddr, hv]
end Go

/- THE FACTS ON THE REFERENCE PACKAGES' STRUCTS: how a whole one is read, written and put together. Printed by gen_tyr.py. -/
import Derived.Test.YtpoaakdljpdkfaaDoorTy
set_option linter.unusedSimpArgs false
set_option linter.unusedVariables false
namespace Go.Proofs.YtpoaakdljpdkfaaDoor
open Go.RowKit Go.Alm
theorem aggRRg (w : World) : (isAgg 86).run Tryd.prog w = .ok true w := by kernel_rfl
theorem sizRRg (w : World) : (Go.sizeOf 86).run Tryd.prog w = .ok 5 w := by kernel_rfl
theorem zerRRg (w : World) : (zeroValue 86).run Tryd.prog w = .ok (.agg (encRg ring0)) w := by kernel_rfl
@[go_sem ↓] theorem exLRRg (ρ : Operand → Value) (dst : Option Tmp) (x : Operand) (ty : TypeId) (pos : String) (after : Array Edge) (guard : Option (Nat × Bool)) : execOp ρ { dst, op := .load 86 x, type := ty, pos, after, guard } = loadK 86 (ρ x) := rfl
@[go_sem ↓] theorem exSRRg (ρ : Operand → Value) (dst : Option Tmp) (x : Operand) (ty : TypeId) (pos : String) (after : Array Edge) (guard : Option (Nat × Bool)) (y : Operand) : execOp ρ { dst, op := .store 86 x y, type := ty, pos, after, guard } = storeK 86 (ρ x) (ρ y) := rfl
@[go_sem] theorem rLRRg (w : World) (g o : Nat) (h : o + 5 ≤ (w.rowD g).size) : (loadK 86 (.pointer (some ⟨g, o, none⟩))).run Tryd.prog w = .ok (.value (.agg ((w.rowD g).extract o (o + 5)))) w := run_loadK 86 5 aggRRg sizRRg w g o h
@[go_sem] theorem rVRRg (w : World) (g o : Nat) (h : o + 5 ≤ (w.rowD g).size) : (loadVar 86 ⟨g, o, none⟩).run Tryd.prog w = .ok (.agg ((w.rowD g).extract o (o + 5))) w := run_loadVar_rowD 86 5 aggRRg sizRRg w g o h
@[go_sem] theorem rSRRg (w : World) (g o : Nat) (x : Rg) (h : o + 5 ≤ (w.rowD g).size) (hf : ∀ i, w.frozen? ⟨g, i, none⟩ = false) : (storeK 86 (.pointer (some ⟨g, o, none⟩)) (.agg (encRg x))).run Tryd.prog w = .ok .skip (w.setCells g o (encRg x).toList) := run_storeK 86 5 sizRRg w g o _ (size_encRg x) (one_encRg x) h hf
theorem rWRRg (w : World) (g : Nat) (x : Rg) (h : w.rowD g = encRg x) : (loadVar 86 ⟨g, 0, none⟩).run Tryd.prog w = .ok (.agg (encRg x)) w := by
  rw [rVRRg w g 0 (by rw [h, size_encRg]; omega), h, show 0 + 5 = (encRg x).size by rw [size_encRg], Array.extract_size]
@[go_sem ↓] theorem exBRRg (ρ : Operand → Value) (dst : Option Tmp) (ps : Array (Nat × Operand)) (ty : TypeId) (pos : String) (after : Array Edge) (guard : Option (Nat × Bool)) : execOp ρ { dst, op := .build 86 ps, type := ty, pos, after, guard } = buildK 86 (ps.map fun (i, x) => (i, ρ x)) := rfl
theorem bldRRg (ps : Array (Nat × Value)) (hf : fitsAll ((#[(0, 1), (1, 4)] : Array (Nat × Nat))[·]?) 5 ps.toList) (w : World) : (buildK 86 ps).run Tryd.prog w = .ok (.value (.agg (layAll ((#[(0, 1), (1, 4)] : Array (Nat × Nat))[·]?) (encRg ring0) ps.toList))) w :=
  run_buildK 86 (encRg ring0) (Tryd.prog.fieldsOf 86) #[(0, 1), (1, 4)] zerRRg (by kernel_rfl) (fun _ => by kernel_rfl) ps (by rw [size_encRg]; exact hf) w
@[go_sem] theorem bldRRg0 (w : World) : (buildK 86 #[]).run Tryd.prog w = .ok (.value (.agg (encRg ring0))) w := bldRRg #[] trivial w
@[go_sem] theorem bldRRg1 (x0 : Nat) (x1 : C4) (w : World) : (buildK 86 #[(0, .int .u32 (x0 : Int)), (1, .agg (encC x1))]).run Tryd.prog w = .ok (.value (.agg (encRg ⟨x0, x1⟩))) w := by
  refine (bldRRg #[(0, .int .u32 (x0 : Int)), (1, .agg (encC x1))] ⟨⟨0, 1, rfl, rfl, by omega⟩, ⟨1, 4, rfl, size_encC _, by omega⟩, trivial⟩ w).trans ?_
  simp only [layAll, List.getElem?_toArray, List.getElem?_cons_zero, List.getElem?_cons_succ, Option.getD_some, Value.cells, spliceL, set_rg_last, set_rg_counts]
theorem aggRWn (w : World) : (isAgg 88).run Tryd.prog w = .ok true w := by kernel_rfl
theorem sizRWn (w : World) : (Go.sizeOf 88).run Tryd.prog w = .ok 6 w := by kernel_rfl
theorem zerRWn (w : World) : (zeroValue 88).run Tryd.prog w = .ok (.agg (encWn win0)) w := by kernel_rfl
@[go_sem ↓] theorem exLRWn (ρ : Operand → Value) (dst : Option Tmp) (x : Operand) (ty : TypeId) (pos : String) (after : Array Edge) (guard : Option (Nat × Bool)) : execOp ρ { dst, op := .load 88 x, type := ty, pos, after, guard } = loadK 88 (ρ x) := rfl
@[go_sem ↓] theorem exSRWn (ρ : Operand → Value) (dst : Option Tmp) (x : Operand) (ty : TypeId) (pos : String) (after : Array Edge) (guard : Option (Nat × Bool)) (y : Operand) : execOp ρ { dst, op := .store 88 x y, type := ty, pos, after, guard } = storeK 88 (ρ x) (ρ y) := rfl
@[go_sem] theorem rLRWn (w : World) (g o : Nat) (h : o + 6 ≤ (w.rowD g).size) : (loadK 88 (.pointer (some ⟨g, o, none⟩))).run Tryd.prog w = .ok (.value (.agg ((w.rowD g).extract o (o + 6)))) w := run_loadK 88 6 aggRWn sizRWn w g o h
@[go_sem] theorem rVRWn (w : World) (g o : Nat) (h : o + 6 ≤ (w.rowD g).size) : (loadVar 88 ⟨g, o, none⟩).run Tryd.prog w = .ok (.agg ((w.rowD g).extract o (o + 6))) w := run_loadVar_rowD 88 6 aggRWn sizRWn w g o h
@[go_sem] theorem rSRWn (w : World) (g o : Nat) (x : Wn) (h : o + 6 ≤ (w.rowD g).size) (hf : ∀ i, w.frozen? ⟨g, i, none⟩ = false) : (storeK 88 (.pointer (some ⟨g, o, none⟩)) (.agg (encWn x))).run Tryd.prog w = .ok .skip (w.setCells g o (encWn x).toList) := run_storeK 88 6 sizRWn w g o _ (size_encWn x) (one_encWn x) h hf
theorem rWRWn (w : World) (g : Nat) (x : Wn) (h : w.rowD g = encWn x) : (loadVar 88 ⟨g, 0, none⟩).run Tryd.prog w = .ok (.agg (encWn x)) w := by
  rw [rVRWn w g 0 (by rw [h, size_encWn]; omega), h, show 0 + 6 = (encWn x).size by rw [size_encWn], Array.extract_size]
@[go_sem ↓] theorem exBRWn (ρ : Operand → Value) (dst : Option Tmp) (ps : Array (Nat × Operand)) (ty : TypeId) (pos : String) (after : Array Edge) (guard : Option (Nat × Bool)) : execOp ρ { dst, op := .build 88 ps, type := ty, pos, after, guard } = buildK 88 (ps.map fun (i, x) => (i, ρ x)) := rfl
theorem bldRWn (ps : Array (Nat × Value)) (hf : fitsAll ((#[(0, 1), (1, 5)] : Array (Nat × Nat))[·]?) 6 ps.toList) (w : World) : (buildK 88 ps).run Tryd.prog w = .ok (.value (.agg (layAll ((#[(0, 1), (1, 5)] : Array (Nat × Nat))[·]?) (encWn win0) ps.toList))) w :=
  run_buildK 88 (encWn win0) (Tryd.prog.fieldsOf 88) #[(0, 1), (1, 5)] zerRWn (by kernel_rfl) (fun _ => by kernel_rfl) ps (by rw [size_encWn]; exact hf) w
@[go_sem] theorem bldRWn0 (w : World) : (buildK 88 #[]).run Tryd.prog w = .ok (.value (.agg (encWn win0))) w := bldRWn #[] trivial w
@[go_sem] theorem bldRWn1 (x0 : Nat) (x1 : Rg) (w : World) : (buildK 88 #[(0, .int .u32 (x0 : Int)), (1, .agg (encRg x1))]).run Tryd.prog w = .ok (.value (.agg (encWn ⟨x0, x1⟩))) w := by
  refine (bldRWn #[(0, .int .u32 (x0 : Int)), (1, .agg (encRg x1))] ⟨⟨0, 1, rfl, rfl, by omega⟩, ⟨1, 5, rfl, size_encRg _, by omega⟩, trivial⟩ w).trans ?_
  simp only [layAll, List.getElem?_toArray, List.getElem?_cons_zero, List.getElem?_cons_succ, Option.getD_some, Value.cells, spliceL, set_wn_min, set_wn_ring]
theorem aggRDt (w : World) : (isAgg 89).run Tryd.prog w = .ok true w := by kernel_rfl
theorem sizRDt (w : World) : (Go.sizeOf 89).run Tryd.prog w = .ok 129 w := by kernel_rfl
theorem zerRDt (w : World) : (zeroValue 89).run Tryd.prog w = .ok (.agg (encDt data0)) w := by kernel_rfl
@[go_sem ↓] theorem exLRDt (ρ : Operand → Value) (dst : Option Tmp) (x : Operand) (ty : TypeId) (pos : String) (after : Array Edge) (guard : Option (Nat × Bool)) : execOp ρ { dst, op := .load 89 x, type := ty, pos, after, guard } = loadK 89 (ρ x) := rfl
@[go_sem ↓] theorem exSRDt (ρ : Operand → Value) (dst : Option Tmp) (x : Operand) (ty : TypeId) (pos : String) (after : Array Edge) (guard : Option (Nat × Bool)) (y : Operand) : execOp ρ { dst, op := .store 89 x y, type := ty, pos, after, guard } = storeK 89 (ρ x) (ρ y) := rfl
@[go_sem] theorem rLRDt (w : World) (g o : Nat) (h : o + 129 ≤ (w.rowD g).size) : (loadK 89 (.pointer (some ⟨g, o, none⟩))).run Tryd.prog w = .ok (.value (.agg ((w.rowD g).extract o (o + 129)))) w := run_loadK 89 129 aggRDt sizRDt w g o h
@[go_sem] theorem rVRDt (w : World) (g o : Nat) (h : o + 129 ≤ (w.rowD g).size) : (loadVar 89 ⟨g, o, none⟩).run Tryd.prog w = .ok (.agg ((w.rowD g).extract o (o + 129))) w := run_loadVar_rowD 89 129 aggRDt sizRDt w g o h
@[go_sem] theorem rSRDt (w : World) (g o : Nat) (x : Dt) (h : o + 129 ≤ (w.rowD g).size) (hf : ∀ i, w.frozen? ⟨g, i, none⟩ = false) : (storeK 89 (.pointer (some ⟨g, o, none⟩)) (.agg (encDt x))).run Tryd.prog w = .ok .skip (w.setCells g o (encDt x).toList) := run_storeK 89 129 sizRDt w g o _ (size_encDt x) (one_encDt x) h hf
theorem rWRDt (w : World) (g : Nat) (x : Dt) (h : w.rowD g = encDt x) : (loadVar 89 ⟨g, 0, none⟩).run Tryd.prog w = .ok (.agg (encDt x)) w := by
  rw [rVRDt w g 0 (by rw [h, size_encDt]; omega), h, show 0 + 129 = (encDt x).size by rw [size_encDt], Array.extract_size]
@[go_sem ↓] theorem exBRDt (ρ : Operand → Value) (dst : Option Tmp) (ps : Array (Nat × Operand)) (ty : TypeId) (pos : String) (after : Array Edge) (guard : Option (Nat × Bool)) : execOp ρ { dst, op := .build 89 ps, type := ty, pos, after, guard } = buildK 89 (ps.map fun (i, x) => (i, ρ x)) := rfl
theorem bldRDt (ps : Array (Nat × Value)) (hf : fitsAll ((#[(0, 32), (32, 32), (64, 32), (96, 32), (128, 1)] : Array (Nat × Nat))[·]?) 129 ps.toList) (w : World) : (buildK 89 ps).run Tryd.prog w = .ok (.value (.agg (layAll ((#[(0, 32), (32, 32), (64, 32), (96, 32), (128, 1)] : Array (Nat × Nat))[·]?) (encDt data0) ps.toList))) w :=
  run_buildK 89 (encDt data0) (Tryd.prog.fieldsOf 89) #[(0, 32), (32, 32), (64, 32), (96, 32), (128, 1)] zerRDt (by kernel_rfl) (fun _ => by kernel_rfl) ps (by rw [size_encDt]; exact hf) w
@[go_sem] theorem bldRDt0 (w : World) : (buildK 89 #[]).run Tryd.prog w = .ok (.value (.agg (encDt data0))) w := bldRDt #[] trivial w
@[go_sem] theorem bldRDt1 (x0 : H32) (x1 : H32) (x2 : H32) (x3 : H32) (x4 : Nat) (w : World) : (buildK 89 #[(0, .agg (encH x0)), (1, .agg (encH x1)), (2, .agg (encH x2)), (3, .agg (encH x3)), (4, .int .u32 (x4 : Int))]).run Tryd.prog w = .ok (.value (.agg (encDt ⟨x0, x1, x2, x3, x4⟩))) w := by
  refine (bldRDt #[(0, .agg (encH x0)), (1, .agg (encH x1)), (2, .agg (encH x2)), (3, .agg (encH x3)), (4, .int .u32 (x4 : Int))] ⟨⟨0, 32, rfl, size_encH _, by omega⟩, ⟨32, 32, rfl, size_encH _, by omega⟩, ⟨64, 32, rfl, size_encH _, by omega⟩, ⟨96, 32, rfl, size_encH _, by omega⟩, ⟨128, 1, rfl, rfl, by omega⟩, trivial⟩ w).trans ?_
  simp only [layAll, List.getElem?_toArray, List.getElem?_cons_zero, List.getElem?_cons_succ, Option.getD_some, Value.cells, spliceL, set_dt_ledger, set_dt_seed, set_dt_start, set_dt_lock, set_dt_length]
theorem aggRPr (w : World) : (isAgg 91).run Tryd.prog w = .ok true w := by kernel_rfl
theorem sizRPr (w : World) : (Go.sizeOf 91).run Tryd.prog w = .ok 258 w := by kernel_rfl
theorem zerRPr (w : World) : (zeroValue 91).run Tryd.prog w = .ok (.agg (encPr pair0)) w := by kernel_rfl
@[go_sem ↓] theorem exLRPr (ρ : Operand → Value) (dst : Option Tmp) (x : Operand) (ty : TypeId) (pos : String) (after : Array Edge) (guard : Option (Nat × Bool)) : execOp ρ { dst, op := .load 91 x, type := ty, pos, after, guard } = loadK 91 (ρ x) := rfl
@[go_sem ↓] theorem exSRPr (ρ : Operand → Value) (dst : Option Tmp) (x : Operand) (ty : TypeId) (pos : String) (after : Array Edge) (guard : Option (Nat × Bool)) (y : Operand) : execOp ρ { dst, op := .store 91 x y, type := ty, pos, after, guard } = storeK 91 (ρ x) (ρ y) := rfl
@[go_sem] theorem rLRPr (w : World) (g o : Nat) (h : o + 258 ≤ (w.rowD g).size) : (loadK 91 (.pointer (some ⟨g, o, none⟩))).run Tryd.prog w = .ok (.value (.agg ((w.rowD g).extract o (o + 258)))) w := run_loadK 91 258 aggRPr sizRPr w g o h
@[go_sem] theorem rVRPr (w : World) (g o : Nat) (h : o + 258 ≤ (w.rowD g).size) : (loadVar 91 ⟨g, o, none⟩).run Tryd.prog w = .ok (.agg ((w.rowD g).extract o (o + 258))) w := run_loadVar_rowD 91 258 aggRPr sizRPr w g o h
@[go_sem] theorem rSRPr (w : World) (g o : Nat) (x : Pr) (h : o + 258 ≤ (w.rowD g).size) (hf : ∀ i, w.frozen? ⟨g, i, none⟩ = false) : (storeK 91 (.pointer (some ⟨g, o, none⟩)) (.agg (encPr x))).run Tryd.prog w = .ok .skip (w.setCells g o (encPr x).toList) := run_storeK 91 258 sizRPr w g o _ (size_encPr x) (one_encPr x) h hf
theorem rWRPr (w : World) (g : Nat) (x : Pr) (h : w.rowD g = encPr x) : (loadVar 91 ⟨g, 0, none⟩).run Tryd.prog w = .ok (.agg (encPr x)) w := by
  rw [rVRPr w g 0 (by rw [h, size_encPr]; omega), h, show 0 + 258 = (encPr x).size by rw [size_encPr], Array.extract_size]
@[go_sem ↓] theorem exBRPr (ρ : Operand → Value) (dst : Option Tmp) (ps : Array (Nat × Operand)) (ty : TypeId) (pos : String) (after : Array Edge) (guard : Option (Nat × Bool)) : execOp ρ { dst, op := .build 91 ps, type := ty, pos, after, guard } = buildK 91 (ps.map fun (i, x) => (i, ρ x)) := rfl
theorem bldRPr (ps : Array (Nat × Value)) (hf : fitsAll ((#[(0, 129), (129, 129)] : Array (Nat × Nat))[·]?) 258 ps.toList) (w : World) : (buildK 91 ps).run Tryd.prog w = .ok (.value (.agg (layAll ((#[(0, 129), (129, 129)] : Array (Nat × Nat))[·]?) (encPr pair0) ps.toList))) w :=
  run_buildK 91 (encPr pair0) (Tryd.prog.fieldsOf 91) #[(0, 129), (129, 129)] zerRPr (by kernel_rfl) (fun _ => by kernel_rfl) ps (by rw [size_encPr]; exact hf) w
@[go_sem] theorem bldRPr0 (w : World) : (buildK 91 #[]).run Tryd.prog w = .ok (.value (.agg (encPr pair0))) w := bldRPr #[] trivial w
@[go_sem] theorem bldRPr1 (x0 : Dt) (x1 : Dt) (w : World) : (buildK 91 #[(0, .agg (encDt x0)), (1, .agg (encDt x1))]).run Tryd.prog w = .ok (.value (.agg (encPr ⟨x0, x1⟩))) w := by
  refine (bldRPr #[(0, .agg (encDt x0)), (1, .agg (encDt x1))] ⟨⟨0, 129, rfl, size_encDt _, by omega⟩, ⟨129, 129, rfl, size_encDt _, by omega⟩, trivial⟩ w).trans ?_
  simp only [layAll, List.getElem?_toArray, List.getElem?_cons_zero, List.getElem?_cons_succ, Option.getD_some, Value.cells, spliceL, set_pr_now, set_pr_next]
theorem aggRSt (w : World) : (isAgg 93).run Tryd.prog w = .ok true w := by kernel_rfl
theorem sizRSt (w : World) : (Go.sizeOf 93).run Tryd.prog w = .ok 363 w := by kernel_rfl
theorem zerRSt (w : World) : (zeroValue 93).run Tryd.prog w = .ok (.agg (encSt state0)) w := by kernel_rfl
@[go_sem ↓] theorem exLRSt (ρ : Operand → Value) (dst : Option Tmp) (x : Operand) (ty : TypeId) (pos : String) (after : Array Edge) (guard : Option (Nat × Bool)) : execOp ρ { dst, op := .load 93 x, type := ty, pos, after, guard } = loadK 93 (ρ x) := rfl
@[go_sem ↓] theorem exSRSt (ρ : Operand → Value) (dst : Option Tmp) (x : Operand) (ty : TypeId) (pos : String) (after : Array Edge) (guard : Option (Nat × Bool)) (y : Operand) : execOp ρ { dst, op := .store 93 x y, type := ty, pos, after, guard } = storeK 93 (ρ x) (ρ y) := rfl
@[go_sem] theorem rLRSt (w : World) (g o : Nat) (h : o + 363 ≤ (w.rowD g).size) : (loadK 93 (.pointer (some ⟨g, o, none⟩))).run Tryd.prog w = .ok (.value (.agg ((w.rowD g).extract o (o + 363)))) w := run_loadK 93 363 aggRSt sizRSt w g o h
@[go_sem] theorem rVRSt (w : World) (g o : Nat) (h : o + 363 ≤ (w.rowD g).size) : (loadVar 93 ⟨g, o, none⟩).run Tryd.prog w = .ok (.agg ((w.rowD g).extract o (o + 363))) w := run_loadVar_rowD 93 363 aggRSt sizRSt w g o h
@[go_sem] theorem rSRSt (w : World) (g o : Nat) (x : St) (h : o + 363 ≤ (w.rowD g).size) (hf : ∀ i, w.frozen? ⟨g, i, none⟩ = false) : (storeK 93 (.pointer (some ⟨g, o, none⟩)) (.agg (encSt x))).run Tryd.prog w = .ok .skip (w.setCells g o (encSt x).toList) := run_storeK 93 363 sizRSt w g o _ (size_encSt x) (one_encSt x) h hf
theorem rWRSt (w : World) (g : Nat) (x : St) (h : w.rowD g = encSt x) : (loadVar 93 ⟨g, 0, none⟩).run Tryd.prog w = .ok (.agg (encSt x)) w := by
  rw [rVRSt w g 0 (by rw [h, size_encSt]; omega), h, show 0 + 363 = (encSt x).size by rw [size_encSt], Array.extract_size]
@[go_sem ↓] theorem exBRSt (ρ : Operand → Value) (dst : Option Tmp) (ps : Array (Nat × Operand)) (ty : TypeId) (pos : String) (after : Array Edge) (guard : Option (Nat × Bool)) : execOp ρ { dst, op := .build 93 ps, type := ty, pos, after, guard } = buildK 93 (ps.map fun (i, x) => (i, ρ x)) := rfl
theorem bldRSt (ps : Array (Nat × Value)) (hf : fitsAll ((#[(0, 32), (32, 32), (64, 32), (96, 1), (97, 1), (98, 1), (99, 6), (105, 258)] : Array (Nat × Nat))[·]?) 363 ps.toList) (w : World) : (buildK 93 ps).run Tryd.prog w = .ok (.value (.agg (layAll ((#[(0, 32), (32, 32), (64, 32), (96, 1), (97, 1), (98, 1), (99, 6), (105, 258)] : Array (Nat × Nat))[·]?) (encSt state0) ps.toList))) w :=
  run_buildK 93 (encSt state0) (Tryd.prog.fieldsOf 93) #[(0, 32), (32, 32), (64, 32), (96, 1), (97, 1), (98, 1), (99, 6), (105, 258)] zerRSt (by kernel_rfl) (fun _ => by kernel_rfl) ps (by rw [size_encSt]; exact hf) w
@[go_sem] theorem bldRSt0 (w : World) : (buildK 93 #[]).run Tryd.prog w = .ok (.value (.agg (encSt state0))) w := bldRSt #[] trivial w
@[go_sem] theorem bldRSt1 (x0 : H32) (x1 : H32) (x2 : H32) (x3 : Nat) (x4 : Nat) (x5 : Nat) (x6 : Wn) (x7 : Pr) (w : World) : (buildK 93 #[(0, .agg (encH x0)), (1, .agg (encH x1)), (2, .agg (encH x2)), (3, .int .u32 (x3 : Int)), (4, .int .u32 (x4 : Int)), (5, .int .u32 (x5 : Int)), (6, .agg (encWn x6)), (7, .agg (encPr x7))]).run Tryd.prog w = .ok (.value (.agg (encSt ⟨x0, x1, x2, x3, x4, x5, x6, x7⟩))) w := by
  refine (bldRSt #[(0, .agg (encH x0)), (1, .agg (encH x1)), (2, .agg (encH x2)), (3, .int .u32 (x3 : Int)), (4, .int .u32 (x4 : Int)), (5, .int .u32 (x5 : Int)), (6, .agg (encWn x6)), (7, .agg (encPr x7))] ⟨⟨0, 32, rfl, size_encH _, by omega⟩, ⟨32, 32, rfl, size_encH _, by omega⟩, ⟨64, 32, rfl, size_encH _, by omega⟩, ⟨96, 1, rfl, rfl, by omega⟩, ⟨97, 1, rfl, rfl, by omega⟩, ⟨98, 1, rfl, rfl, by omega⟩, ⟨99, 6, rfl, size_encWn _, by omega⟩, ⟨105, 258, rfl, size_encPr _, by omega⟩, trivial⟩ w).trans ?_
  simp only [layAll, List.getElem?_toArray, List.getElem?_cons_zero, List.getElem?_cons_succ, Option.getD_some, Value.cells, spliceL, set_st_prev, set_st_ledger, set_st_draw, set_st_slot, set_st_length, set_st_count, set_st_win, set_st_epochs]
end Go.Proofs.YtpoaakdljpdkfaaDoor

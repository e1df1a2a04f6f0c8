/- THE WALKS OF epoch. -/
import Derived.Test.YtpoaakdljpdkfaaDoorC13
import Derived.Test.YtpoaakdljpdkfaaDoorC5
set_option linter.unusedSimpArgs false
set_option linter.unusedVariables false
namespace Go.Proofs.YtpoaakdljpdkfaaDoor
open Go.RowKit Go.Alm
@[go_sem] theorem whole_h (x : H32) : (encH x).extract 0 32 = encH x := by rw [← size_encH x]; exact Array.extract_size
@[go_sem] theorem whole_c (x : C4) : (encC x).extract 0 4 = encC x := by rw [← size_encC x]; exact Array.extract_size
@[go_sem] theorem zcDt (x : Dt) : spliceL Tryd.zeroCells31 0 (encDt x).toList = encDt x := by
  rw [spliceL_all _ _ (by rw [Array.length_toList, size_encDt]; kernel_rfl)]
@[go_sem] theorem zcPr (x : Pr) : spliceL Tryd.zeroCells33 0 (encPr x).toList = encPr x := by
  rw [spliceL_all _ _ (by rw [Array.length_toList, size_encPr]; kernel_rfl)]
@[go_sem] theorem bldDtF (x0 : H32) (w : World) : (buildK 31 #[(0, .agg (encH x0)), (4, .int .u32 1)]).run Tryd.prog w = .ok (.value (.agg (encDt ⟨x0, zeroH, zeroH, zeroH, 1⟩))) w := by
  refine (bldDt #[(0, .agg (encH x0)), (4, .int .u32 ((1 : Nat) : Int))] ⟨⟨0, 32, rfl, size_encH _, by omega⟩, ⟨128, 1, rfl, rfl, by omega⟩, trivial⟩ w).trans ?_
  simp only [layAll, List.getElem?_toArray, List.getElem?_cons_zero, List.getElem?_cons_succ, Option.getD_some, Value.cells, spliceL, set_dt_ledger, set_dt_length]
  rfl
set_option maxRecDepth 40000 in
set_option maxHeartbeats 1000000 in
theorem First_any (h : H32) (w : World) :
    Calls Tryd.prog 68 #[.agg (encH h)] w fun e w' => e = .returned (.agg (encPr (firstP h))) ∧ Below w.heap.size w w' := by
  go_enter Tryd.func68, Tryd.ntmps68
  go_wp2_with fail
  generalize hW : World.alloc (World.alloc (World.alloc w _) _) _ = W
  have own := own_three w (encH h) (encPr (firstP h)) (encDt ⟨h, zeroH, zeroH, zeroH, 1⟩) 23 33 31
  replace own : Owns w W _ := hW ▸ own
  exact ret_cell rfl rfl rfl (rWPr _ _ (firstP h) own.at2.2.2.1) ⟨rfl, own.below⟩
end Go.Proofs.YtpoaakdljpdkfaaDoor

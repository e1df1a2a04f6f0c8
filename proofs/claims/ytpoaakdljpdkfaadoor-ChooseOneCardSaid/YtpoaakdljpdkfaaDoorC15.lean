/- THE WALKS OF epoch: turn, lock, Follow. -/
import Derived.Test.YtpoaakdljpdkfaaDoorKp
set_option linter.unusedSimpArgs false
set_option linter.unusedVariables false
namespace Go.Proofs.YtpoaakdljpdkfaaDoor
open Go.RowKit Go.Alm
@[go_sem] theorem bldDtT (x0 x1 x2 : H32) (w : World) : (buildK 31 #[(0, .agg (encH x0)), (1, .agg (encH x1)), (2, .agg (encH x2)), (4, .int .u32 1)]).run Tryd.prog w = .ok (.value (.agg (encDt ⟨x0, x1, x2, zeroH, 1⟩))) w := by
  refine (bldDt #[(0, .agg (encH x0)), (1, .agg (encH x1)), (2, .agg (encH x2)), (4, .int .u32 ((1 : Nat) : Int))] ⟨⟨0, 32, rfl, size_encH _, by omega⟩, ⟨32, 32, rfl, size_encH _, by omega⟩, ⟨64, 32, rfl, size_encH _, by omega⟩, ⟨128, 1, rfl, rfl, by omega⟩, trivial⟩ w).trans ?_
  simp only [layAll, List.getElem?_toArray, List.getElem?_cons_zero, List.getElem?_cons_succ, Option.getD_some, Value.cells, spliceL, set_dt_ledger, set_dt_seed, set_dt_start, set_dt_length]
  rfl
/-- the worlds in which turn's operations are carried out -/
structure TurnC (x : Pr) (b : Eb) (q B : Nat) (w W : World) : Prop where
  kept : Kept q w W
  ltq : q < W.heap.size
  lt : B < W.heap.size
  rowB : W.rowD B = encEb b
  row : ∃ d, W.rowD q = encPr ⟨d, x.next⟩
  fr : ∀ i, W.frozen? ⟨q, i, none⟩ = false
theorem TurnC.below {x : Pr} {b : Eb} {q B : Nat} {w W W' : World} (hq : q < w.heap.size) (h : TurnC x b q B w W) (hb : Below W.heap.size W W') : TurnC x b q B w W' :=
  ⟨h.kept.below hq hb, Nat.lt_of_lt_of_le h.ltq hb.size, Nat.lt_of_lt_of_le h.lt hb.size, (rowD_congr (hb.block _ h.lt)).trans h.rowB, by obtain ⟨d, hd⟩ := h.row; exact ⟨d, (rowD_congr (hb.block _ h.ltq)).trans hd⟩,
    fun i => (hb.frozen (p := ⟨q, i, none⟩) h.ltq).trans (h.fr i)⟩
set_option maxRecDepth 20000 in
set_option maxHeartbeats 1000000 in
theorem turn_any (x : Pr) (b : Eb) (q : Nat) (w : World) (hq : q < w.heap.size) (row : w.rowD q = encPr x) (fr : ∀ i, w.frozen? ⟨q, i, none⟩ = false) :
    Calls Tryd.prog 96 #[.pointer (some ⟨q, 0, none⟩), .agg (encEb b)] w fun e w' => e = .returned (.tuple #[]) ∧ Kept q w w' ∧ w'.rowD q = encPr ⟨x.next, ⟨b.ledger, x.next.seed, b.prev, zeroH, 1⟩⟩ := by
  go_enter Tryd.func96, Tryd.ntmps96
  go_wp2_with fail
  generalize hW : World.alloc w _ = W
  have own : Owns w W [(w.heap.size, encEb b)] := hW ▸ own_one w _ _
  clear hW
  have hC0 : TurnC x b q w.heap.size w W := ⟨Kept.of_below hq own.below, Nat.lt_of_lt_of_le hq own.below.size, own.at1.2.1, own.at1.2.2.1, ⟨x.now, (rowD_congr (own.below.block q hq)).trans row⟩, fun i => (own.below.frozen (p := ⟨q, i, none⟩) hq).trans (fr i)⟩
  clear own row fr
  refine wp_region_midC 16 3 (TurnC x b q w.heap.size w) (fun W W' h hb => h.below hq hb) (hC0.below hq ((Below.refl _ _).drew)) (by kernel_rfl) (by kernel_rfl) ?_
  simp only [List.take_succ_cons, List.take_zero, List.drop_succ_cons, List.drop_zero]
  iterate 16 (refine wpGrowC_y rfl (fun K hK => ?_); refine ⟨_, (fun W hW => by obtain ⟨k1, k2, k3, k4, ⟨d, k5⟩, k6⟩ := hW; go_simp; exact rfl), ?_⟩; go_simp; refine hK _ ?_; clear hK K)
  refine wpGrowC_nil ?_
  intro W1 hC1
  refine wpMidC_step rfl (fun W2 hb2 K hK => ?_)
  have hC2 := hC1.below hq hb2
  go_simp
  refine hK _ _ hC2 ?_; clear hK K
  refine wpMidC_step rfl (fun W3 hb3 K hK => ?_)
  have hC3 := hC2.below hq hb3
  go_simp
  refine hK _ _ hC3 ?_; clear hK K
  refine wpMidC_step rfl (fun W4 hb4 K hK => ?_)
  have hC4 := hC3.below hq hb4
  clear hC1 hb2 hC2 hb3 hC3 hb4 hC0
  have hC4' := hC4
  obtain ⟨k1, k2, k3, k4, ⟨d, k5⟩, k6⟩ := hC4'
  go_simp
  have hne : w.heap.size ≠ q := by omega
  have hC5 : TurnC x b q w.heap.size w (W4.setCells q 0 (encDt x.next).toList) :=
    ⟨Kept.setCells _ _ _ k1, by rw [size_setCells]; exact k2, by rw [size_setCells]; exact k3, by rw [rowD_setCells_other _ _ hne]; exact k4, ⟨x.next, by rw [rowD_setCells_same, k5, set_pr_now]⟩, fun i => by rw [World.frozen?_setCells]; exact k6 i⟩
  have row5 : (W4.setCells q 0 (encDt x.next).toList).rowD q = encPr ⟨x.next, x.next⟩ := by rw [rowD_setCells_same, k5, set_pr_now]
  refine hK _ _ hC5 ?_; clear hK K
  generalize World.setCells W4 _ _ _ = W5 at hC5 row5 ⊢
  clear hC4 k1 k2 k3 k4 k5 k6
  refine wpMidC_nil (fun W6 hb6 => ?_)
  have row6 : W6.rowD q = encPr ⟨x.next, x.next⟩ := (rowD_congr (hb6.block _ hC5.ltq)).trans row5
  have hC6 := hC5.below hq hb6
  clear hC5 row5 hb6
  obtain ⟨k1, k2, k3, k4, -, k6⟩ := hC6
  clear k3 k4 hne
  go_wp2_with fail
  exact bodyPost_end (results_none rfl _ _ _) rfl ⟨rfl, Kept.setCells _ _ _ k1, by rw [rowD_setCells_same, row6, set_pr_next]⟩
end Go.Proofs.YtpoaakdljpdkfaaDoor

/- THE WALKS OF choose: densities, wins, Fold. -/
import Derived.Test.YtpoaakdljpdkfaaDoorC37
set_option linter.unusedSimpArgs false
set_option linter.unusedVariables false
namespace Go.Proofs.YtpoaakdljpdkfaaDoor
open Go.RowKit Go.Alm
set_option maxRecDepth 20000 in
set_option maxHeartbeats 1000000 in
theorem densities_any (p : Pt) (w : World) (h1 : p.a.slot < 4294967296) (h2 : p.b.slot < 4294967296) : Calls Tryd.prog 75 #[.agg (encPt p)] w fun e w' => e = .returned (.tuple #[.int .u32 ((densities p.a p.b).1 : Nat), .int .u32 ((densities p.a p.b).2 : Nat)]) ∧ Below w.heap.size w w' := by
  by_cases h : p.a.slot < p.b.slot
  · have hV : ∀ _ : Unit, densities p.a p.b = (least p.a.win p.b.slot, least p.b.win p.b.slot) := fun _ => by
      unfold densities
      rw [show max p.a.slot p.b.slot = p.b.slot by omega]
    go_enter Tryd.func75, Tryd.ntmps75
    go_wp2_with fail
    generalize hW : World.alloc w _ = W
    have own : Owns w W [(w.heap.size, encPt p)] := hW ▸ own_one w _ _
    clear hW
    refine wp_region_mix [true, true, true, true, true, true, true, true, true, true, true, true] (fun W => W.rowD w.heap.size = encPt p ∧ w.heap.size < W.heap.size)
      (fun W W' h hb => ⟨(rowD_congr (hb.block _ h.2)).trans h.1, Nat.lt_of_lt_of_le h.2 hb.size⟩) ⟨own.at1.2.2.1, own.at1.2.1⟩ (by kernel_rfl) (by kernel_rfl) ?_
    intro W1 hb1 hC1
    iterate 4 (refine wpMix_q rfl (fun K hK => ?_); refine ⟨_, (fun Wq hWq => by obtain ⟨g1, l1⟩ := hWq; go_simp; exact rfl), ?_⟩; go_simp; refine hK _ ?_; clear hK K)
    refine wpMix_q rfl (fun K hK => ?_); refine ⟨_, (fun Wq hWq => by obtain ⟨g1, l1⟩ := hWq; go_simp; exact Calls.grow_of (Relative_any p.a.win p.b.slot Wq h2) rfl), ?_⟩; go_simp; refine hK _ ?_; clear hK K
    iterate 4 (refine wpMix_q rfl (fun K hK => ?_); refine ⟨_, (fun Wq hWq => by obtain ⟨g1, l1⟩ := hWq; go_simp; exact rfl), ?_⟩; go_simp; refine hK _ ?_; clear hK K)
    refine wpMix_q rfl (fun K hK => ?_); refine ⟨_, (fun Wq hWq => by obtain ⟨g1, l1⟩ := hWq; go_simp; exact Calls.grow_of (Relative_any p.b.win p.b.slot Wq h2) rfl), ?_⟩; go_simp; refine hK _ ?_; clear hK K
    iterate 2 (refine wpMix_q rfl (fun K hK => ?_); refine ⟨_, (fun Wq hWq => by obtain ⟨g1, l1⟩ := hWq; go_simp; exact rfl), ?_⟩; go_simp; refine hK _ ?_; clear hK K)
    refine wpMix_nil (fun W2 hb2 => ?_)
    go_wp2_with fail
    go_ret2
    exact ⟨by rw [hV ()]; rfl, ((own.call hb1).call hb2).below⟩
  · have hV : ∀ _ : Unit, densities p.a p.b = (least p.a.win p.a.slot, least p.b.win p.a.slot) := fun _ => by
      unfold densities
      rw [show max p.a.slot p.b.slot = p.a.slot by omega]
    go_enter Tryd.func75, Tryd.ntmps75
    go_wp2_with fail
    generalize hW : World.alloc w _ = W
    have own : Owns w W [(w.heap.size, encPt p)] := hW ▸ own_one w _ _
    clear hW
    refine wp_region_mix [true, true, true, true, true, true, true, true, true, true, true, true] (fun W => W.rowD w.heap.size = encPt p ∧ w.heap.size < W.heap.size)
      (fun W W' h hb => ⟨(rowD_congr (hb.block _ h.2)).trans h.1, Nat.lt_of_lt_of_le h.2 hb.size⟩) ⟨own.at1.2.2.1, own.at1.2.1⟩ (by kernel_rfl) (by kernel_rfl) ?_
    intro W1 hb1 hC1
    iterate 4 (refine wpMix_q rfl (fun K hK => ?_); refine ⟨_, (fun Wq hWq => by obtain ⟨g1, l1⟩ := hWq; go_simp; exact rfl), ?_⟩; go_simp; refine hK _ ?_; clear hK K)
    refine wpMix_q rfl (fun K hK => ?_); refine ⟨_, (fun Wq hWq => by obtain ⟨g1, l1⟩ := hWq; go_simp; exact Calls.grow_of (Relative_any p.a.win p.a.slot Wq h1) rfl), ?_⟩; go_simp; refine hK _ ?_; clear hK K
    iterate 4 (refine wpMix_q rfl (fun K hK => ?_); refine ⟨_, (fun Wq hWq => by obtain ⟨g1, l1⟩ := hWq; go_simp; exact rfl), ?_⟩; go_simp; refine hK _ ?_; clear hK K)
    refine wpMix_q rfl (fun K hK => ?_); refine ⟨_, (fun Wq hWq => by obtain ⟨g1, l1⟩ := hWq; go_simp; exact Calls.grow_of (Relative_any p.b.win p.a.slot Wq h1) rfl), ?_⟩; go_simp; refine hK _ ?_; clear hK K
    iterate 2 (refine wpMix_q rfl (fun K hK => ?_); refine ⟨_, (fun Wq hWq => by obtain ⟨g1, l1⟩ := hWq; go_simp; exact rfl), ?_⟩; go_simp; refine hK _ ?_; clear hK K)
    refine wpMix_nil (fun W2 hb2 => ?_)
    go_wp2_with fail
    go_ret2
    exact ⟨by rw [hV ()]; rfl, ((own.call hb1).call hb2).below⟩
theorem Densities_any (a b : St) (w : World) (h1 : a.slot < 4294967296) (h2 : b.slot < 4294967296) : Calls Tryd.prog 30 #[.agg (encSt a), .agg (encSt b)] w fun e w' => e = .returned (.tuple #[.int .u32 ((densities a b).1 : Nat), .int .u32 ((densities a b).2 : Nat)]) ∧ Below w.heap.size w w' := by
  go_enter Tryd.func30, Tryd.ntmps30
  go_wp2_with fail
  generalize hW : World.alloc (World.alloc w _) _ = W
  have own : Owns w W [(w.heap.size, encSt a), (w.heap.size + 1, encSt b)] := hW ▸ own_two w _ _ _ _
  clear hW
  refine (densities_any ⟨a, b⟩ _ h1 h2).mono ?_
  rintro e w1 ⟨rfl, hb1⟩
  simp only
  go_wp2_with fail
  go_ret2
  exact ⟨rfl, (own.call hb1).below⟩
@[go_sem ↓] theorem exBFk (ρ : Operand → Value) (dst : Option Tmp) (ps : Array (Nat × Operand)) (ty : TypeId) (pos : String) (after : Array Edge) (guard : Option (Nat × Bool)) : execOp ρ { dst, op := .build 139 ps, type := ty, pos, after, guard } = buildK 139 (ps.map fun (i, x) => (i, ρ x)) := rfl
@[go_sem] theorem bldFk (x : Pt) (w : World) : (buildK 139 #[(0, .agg (encPt x))]).run Tryd.prog w = .ok (.value (.agg (encPt x))) w := by
  refine (run_buildK 139 (encPt pt0) (Tryd.prog.fieldsOf 139) #[(0, 726)] (fun w => by kernel_rfl) (by kernel_rfl) (fun _ => by kernel_rfl) #[(0, .agg (encPt x))] ⟨⟨0, 726, rfl, size_encPt _, by rw [size_encPt]; omega⟩, trivial⟩ w).trans ?_
  simp only [layAll, List.getElem?_toArray, List.getElem?_cons_zero, List.getElem?_cons_succ, Option.getD_some, Value.cells]
  rw [spliceL_all _ _ (by rw [Array.length_toList, size_encPt, size_encPt])]
set_option maxRecDepth 20000 in
set_option maxHeartbeats 1000000 in
theorem wins_any (p : Pt) (w : World) (hk : Keyed w) (h1 : p.a.Wf) (h2 : p.b.Wf) : Calls Tryd.prog 78 #[.agg (encPt p)] w fun e w' => e = .returned (.bool (wins p.a p.b)) ∧ Below w.heap.size w w' := by
  have hV : ∀ _ : Unit, wins p.a p.b = (if near p.a p.b = false ∧ (densities p.a p.b).1 ≠ (densities p.a p.b).2 then decide ((densities p.a p.b).1 < (densities p.a p.b).2) else decide (compareK (Go.Alm.keyOf p.b) (Go.Alm.keyOf p.a) > 0)) := fun _ => rfl
  go_enter Tryd.func78, Tryd.ntmps78
  go_wp2_with fail
  have own := own_one w (encPt p) 139
  generalize World.alloc w _ = W at own ⊢
  refine (Near_any p.a p.b _ h1.slot h2.slot).mono ?_
  rintro e w1 ⟨rfl, hb1⟩
  have own1 := own.call hb1
  clear own hb1 W
  obtain ⟨-, lt0, row0, -⟩ := own1.at1
  by_cases hn : near p.a p.b = true
  · have hV' : ∀ _ : Unit, wins p.a p.b = decide (compareK (Go.Alm.keyOf p.b) (Go.Alm.keyOf p.a) > 0) := fun _ => by rw [hV (), if_neg (by simp [hn])]
    clear hV
    go_wp2_with fail
    clear lt0 row0
    refine wp_region_mix [true, true, true, true, true, true, true, true, true, true, true] (fun W => W.rowD w.heap.size = encPt p ∧ w.heap.size < W.heap.size ∧ Keyed W)
      (fun W W' h hb => ⟨(rowD_congr (hb.block _ h.2.1)).trans h.1, Nat.lt_of_lt_of_le h.2.1 hb.size, h.2.2.below hb⟩) ⟨own1.at1.2.2.1, own1.at1.2.1, hk.below own1.below⟩ (by kernel_rfl) (by kernel_rfl) ?_
    intro W1 hb1 hC1
    iterate 3 (refine wpMix_q rfl (fun K hK => ?_); refine ⟨_, (fun Wq hWq => by obtain ⟨g1, l1, hkq⟩ := hWq; go_simp; exact rfl), ?_⟩; go_simp; refine hK _ ?_; clear hK K)
    refine wpMix_q rfl (fun K hK => ?_); refine ⟨_, (fun Wq hWq => by obtain ⟨g1, l1, hkq⟩ := hWq; go_simp; exact Calls.grow_of (Of_key_any p.b Wq hkq h2) rfl), ?_⟩; go_simp; refine hK _ ?_; clear hK K
    iterate 3 (refine wpMix_q rfl (fun K hK => ?_); refine ⟨_, (fun Wq hWq => by obtain ⟨g1, l1, hkq⟩ := hWq; go_simp; exact rfl), ?_⟩; go_simp; refine hK _ ?_; clear hK K)
    refine wpMix_q rfl (fun K hK => ?_); refine ⟨_, (fun Wq hWq => by obtain ⟨g1, l1, hkq⟩ := hWq; go_simp; exact Calls.grow_of (Of_key_any p.a Wq hkq h1) rfl), ?_⟩; go_simp; refine hK _ ?_; clear hK K
    refine wpMix_q rfl (fun K hK => ?_); refine ⟨_, (fun Wq hWq => by obtain ⟨g1, l1, hkq⟩ := hWq; go_simp; exact Calls.grow_of (OCompare_any (Go.Alm.keyOf p.b) (Go.Alm.keyOf p.a) Wq) rfl), ?_⟩; go_simp; refine hK _ ?_; clear hK K
    iterate 2 (refine wpMix_q rfl (fun K hK => ?_); refine ⟨_, (fun Wq hWq => by obtain ⟨g1, l1, hkq⟩ := hWq; go_simp; exact rfl), ?_⟩; go_simp; refine hK _ ?_; clear hK K)
    refine wpMix_nil (fun W2 hb2 => ?_)
    go_wp2_with fail
    go_ret
    exact ⟨by rw [hV' ()]; try rfl, ((own1.call hb1).call hb2).below⟩
  replace hn : near p.a p.b = false := by simpa using hn
  go_wp2_with fail
  refine (densities_any p _ h1.slot h2.slot).mono ?_
  rintro e w2 ⟨rfl, hb2⟩
  have own2 := own1.call hb2
  clear own1 hb2 lt0 row0
  obtain ⟨d, hd⟩ : ∃ d, densities p.a p.b = d := ⟨_, rfl⟩
  rw [hd] at hV ⊢
  obtain ⟨d1, d2⟩ := d
  simp only at hV ⊢
  clear hd
  obtain ⟨-, lt0, row0, -⟩ := own2.at1
  by_cases hdd : d1 = d2
  · have hV' : ∀ _ : Unit, wins p.a p.b = decide (compareK (Go.Alm.keyOf p.b) (Go.Alm.keyOf p.a) > 0) := fun _ => by rw [hV (), if_neg (by simp [hdd])]
    clear hV
    have f1 : ((d1 : Int) != (d2 : Int)) = false := by simp [hdd]
    go_wp2_with fail
    clear lt0 row0
    refine wp_region_mix [true, true, true, true, true, true, true, true, true, true, true] (fun W => W.rowD w.heap.size = encPt p ∧ w.heap.size < W.heap.size ∧ Keyed W)
      (fun W W' h hb => ⟨(rowD_congr (hb.block _ h.2.1)).trans h.1, Nat.lt_of_lt_of_le h.2.1 hb.size, h.2.2.below hb⟩) ⟨own2.at1.2.2.1, own2.at1.2.1, hk.below own2.below⟩ (by kernel_rfl) (by kernel_rfl) ?_
    intro W1 hb1 hC1
    iterate 3 (refine wpMix_q rfl (fun K hK => ?_); refine ⟨_, (fun Wq hWq => by obtain ⟨g1, l1, hkq⟩ := hWq; go_simp; exact rfl), ?_⟩; go_simp; refine hK _ ?_; clear hK K)
    refine wpMix_q rfl (fun K hK => ?_); refine ⟨_, (fun Wq hWq => by obtain ⟨g1, l1, hkq⟩ := hWq; go_simp; exact Calls.grow_of (Of_key_any p.b Wq hkq h2) rfl), ?_⟩; go_simp; refine hK _ ?_; clear hK K
    iterate 3 (refine wpMix_q rfl (fun K hK => ?_); refine ⟨_, (fun Wq hWq => by obtain ⟨g1, l1, hkq⟩ := hWq; go_simp; exact rfl), ?_⟩; go_simp; refine hK _ ?_; clear hK K)
    refine wpMix_q rfl (fun K hK => ?_); refine ⟨_, (fun Wq hWq => by obtain ⟨g1, l1, hkq⟩ := hWq; go_simp; exact Calls.grow_of (Of_key_any p.a Wq hkq h1) rfl), ?_⟩; go_simp; refine hK _ ?_; clear hK K
    refine wpMix_q rfl (fun K hK => ?_); refine ⟨_, (fun Wq hWq => by obtain ⟨g1, l1, hkq⟩ := hWq; go_simp; exact Calls.grow_of (OCompare_any (Go.Alm.keyOf p.b) (Go.Alm.keyOf p.a) Wq) rfl), ?_⟩; go_simp; refine hK _ ?_; clear hK K
    iterate 2 (refine wpMix_q rfl (fun K hK => ?_); refine ⟨_, (fun Wq hWq => by obtain ⟨g1, l1, hkq⟩ := hWq; go_simp; exact rfl), ?_⟩; go_simp; refine hK _ ?_; clear hK K)
    refine wpMix_nil (fun W2 hb2 => ?_)
    go_wp2_with fail
    go_ret
    exact ⟨by rw [hV' ()]; try rfl, ((own2.call hb1).call hb2).below⟩
  · have hV' : ∀ _ : Unit, wins p.a p.b = decide (d1 < d2) := fun _ => by rw [hV (), if_pos ⟨hn, hdd⟩]
    clear hV
    have f1 : ((d1 : Int) != (d2 : Int)) = true := by simpa using (by omega : ¬ (d1 : Int) = (d2 : Int))
    by_cases hl : d1 < d2
    · go_wp2_with fail
      go_ret
      exact ⟨by rw [hV' ()]; simp [hl], own2.below⟩
    · go_wp2_with fail
      go_ret
      exact ⟨by rw [hV' ()]; simp [hl], own2.below⟩
theorem Wins_any (a b : St) (w : World) (hk : Keyed w) (h1 : a.Wf) (h2 : b.Wf) : Calls Tryd.prog 32 #[.agg (encSt a), .agg (encSt b)] w fun e w' => e = .returned (.bool (wins a b)) ∧ Below w.heap.size w w' := by
  go_enter Tryd.func32, Tryd.ntmps32
  go_wp2_with fail
  generalize hW : World.alloc (World.alloc w _) _ = W
  have own : Owns w W [(w.heap.size, encSt a), (w.heap.size + 1, encSt b)] := hW ▸ own_two w _ _ _ _
  clear hW
  refine (wins_any ⟨a, b⟩ _ (hk.below own.below) h1 h2).mono ?_
  rintro e w1 ⟨rfl, hb1⟩
  simp only
  go_wp2_with fail
  go_ret
  exact ⟨rfl, (own.call hb1).below⟩
end Go.Proofs.YtpoaakdljpdkfaaDoor

/- THE WALK OF law 13's awake. -/
import Derived.Test.YtpoaakdljpdkfaaDoorC39
import Derived.Test.YtpoaakdljpdkfaaDoorC33
import Derived.Test.YtpoaakdljpdkfaaDoorAw13
set_option linter.unusedSimpArgs false
set_option linter.unusedVariables false
namespace Go.Proofs.YtpoaakdljpdkfaaDoor
open Go.RowKit Go.Alm
@[go_sem] theorem bldBk100 (w : World) : (buildK 37 #[(0, .int .u32 100)]).run Tryd.prog w = .ok (.value (.agg (encBk ⟨100, zeroH, zeroH⟩))) w := bldBkS 100 w
@[go_sem] theorem bldBk5d (d : H32) (w : World) : (buildK 37 #[(0, .int .u32 5), (2, .agg (encH d))]).run Tryd.prog w = .ok (.value (.agg (encBk ⟨5, zeroH, d⟩))) w := bldBkD 5 d w
set_option maxRecDepth 20000 in
set_option maxHeartbeats 4000000 in
theorem awake13_any (w : World) (hk : Keyed w) : Calls Tryd.prog 28 #[] w fun e w' => e = .returned (.bool true) ∧ Below w.heap.size w w' := by
  have r0 := aw13_dens; have r1 := aw13_nab; have r2 := aw13_naf; have r3 := aw13_ga; have r4 := aw13_ag; have r5 := aw13_ab; have r6 := aw13_ba; have r7 := aw13_af; have r8 := aw13_fold
  have w1 := aw13_gwf; have w2 := aw13_awf; have w3 := aw13_bwf; have w4 := aw13_fwf
  have k0 : ∀ _ : Unit, genesis h1 = aw13g := fun _ => rfl
  have k1 : ∀ _ : Unit, child aw13g ⟨3, zeroH, zeroH⟩ = (aw13a, 0) := fun _ => Prod.ext rfl aw13_ea
  have k2 : ∀ _ : Unit, child aw13g ⟨5, zeroH, h1⟩ = (aw13b, 0) := fun _ => Prod.ext rfl aw13_eb
  have k3 : ∀ _ : Unit, child aw13g ⟨100, zeroH, zeroH⟩ = (aw13f, 0) := fun _ => Prod.ext rfl aw13_ef
  generalize aw13g = g at *
  generalize aw13a = a at *
  generalize aw13b = b at *
  generalize aw13f = f at *
  obtain ⟨xa, ra⟩ : ∃ x, wins a f = x := ⟨_, rfl⟩
  obtain ⟨xf, rf⟩ : ∃ x, wins f a = x := ⟨_, rfl⟩
  rw [ra, rf] at r7
  replace r0 : ∀ _ : Unit, _ := fun _ => r0
  replace r1 : ∀ _ : Unit, _ := fun _ => r1
  replace r2 : ∀ _ : Unit, _ := fun _ => r2
  replace r3 : ∀ _ : Unit, _ := fun _ => r3
  replace r4 : ∀ _ : Unit, _ := fun _ => r4
  replace r5 : ∀ _ : Unit, _ := fun _ => r5
  replace r6 : ∀ _ : Unit, _ := fun _ => r6
  replace r8 : ∀ _ : Unit, _ := fun _ => r8
  replace ra : ∀ _ : Unit, _ := fun _ => ra
  replace rf : ∀ _ : Unit, _ := fun _ => rf
  go_enter Tryd.func28, Tryd.ntmps28
  go_wp2_with fail
  refine (SGenesis_any h1 _).mono ?_
  rw [k0 ()]
  rintro e u1 ⟨rfl, hb1⟩
  go_wp2_with fail
  have own1 := ((Owns.nil w).call hb1).alloc (encSt g) 35
  refine (Child_any g ⟨3, zeroH, zeroH⟩ _ (hk.below own1.below) w1 (by decide)).mono ?_
  rw [k1 ()]
  rintro e u2 ⟨rfl, hb2⟩
  simp only
  have own2 := own1.call hb2
  simp only [List.nil_append] at own2
  clear own1 hb2 hb1
  generalize u1.heap.size = c1 at own2 ⊢
  obtain ⟨-, lt0, row0, -⟩ := own2.at1
  go_wp2_with fail
  have own3 := own2.alloc (encSt a) 35
  simp only [List.cons_append, List.nil_append] at own3
  refine (Child_any g ⟨5, zeroH, h1⟩ _ (hk.below own3.below) w1 (by decide)).mono ?_
  rw [k2 ()]
  rintro e u3 ⟨rfl, hb3⟩
  simp only
  have own4 := own3.call hb3
  clear own2 own3 hb3 lt0 row0
  generalize u2.heap.size = c2 at own4 ⊢
  obtain ⟨-, lt0, row0, -⟩ := own4.at1
  go_wp2_with fail
  have own5 := own4.alloc (encSt b) 35
  simp only [List.cons_append, List.nil_append] at own5
  refine (Child_any g ⟨100, zeroH, zeroH⟩ _ (hk.below own5.below) w1 (by decide)).mono ?_
  rw [k3 ()]
  rintro e u4 ⟨rfl, hb4⟩
  simp only
  have own6 := own5.call hb4
  clear own4 own5 hb4 lt0 row0
  generalize u3.heap.size = c4 at own6 ⊢
  obtain ⟨-, lt0, row0, -⟩ := own6.at2
  go_wp2_with fail
  have own7 := own6.alloc (encSt f) 35
  simp only [List.cons_append, List.nil_append] at own7
  refine (Densities_any a f _ w2.slot w4.slot).mono ?_
  rw [r0 ()]
  rintro e u5 ⟨rfl, hb5⟩
  simp only
  have own8 := own7.call hb5
  clear own6 own7 hb5 lt0 row0
  generalize u4.heap.size = c6 at own8 ⊢
  obtain ⟨-, lt0, row0, -⟩ := own8.at1
  obtain ⟨-, lt1, row1, -⟩ := own8.at2
  obtain ⟨-, lt2, row2, -⟩ := own8.at3
  go_wp2_with fail
  have own9 := own8.alloc (encSts [a, b, a]) 35
  simp only [List.cons_append, List.nil_append] at own9
  obtain ⟨-, lt9, row9, -⟩ := own9.blocks _ (List.mem_of_getElem? (i := 4) rfl)
  refine (Fold_any g [a, b, a] (some ⟨u5.heap.size, 0, none⟩) 3 _ (hk.below own9.below) w1 (by simp; exact ⟨w2, w3, w2⟩) (by simp) (.inr ⟨_, 0, rfl, lt9, by rw [row9]; exact whole_sts [a, b, a]⟩)).mono ?_
  rw [r8 ()]
  rintro e u6 ⟨rfl, hb6⟩
  simp only
  have own10 := (own9.call hb6).sub (M := [(c1, encSt g), (c2, encSt a), (c4, encSt b), (c6, encSt f)]) (by intro p hp; simp only [List.mem_cons, List.not_mem_nil, or_false] at hp ⊢; rcases hp with h | h | h | h <;> simp [h])
  clear own8 own9 hb6 lt0 row0 lt1 row1 lt2 row2 lt9 row9
  go_wp2_with fail
  have own11 := own10.alloc (encSt b) 35
  simp only [List.cons_append, List.nil_append] at own11
  generalize World.alloc u6 _ = u7 at own11 ⊢
  clear own10
  generalize u6.heap.size = c10 at own11 ⊢
  obtain ⟨-, lt10, row10, -⟩ := own11.blocks _ (List.mem_of_getElem? (i := 4) rfl)
  have f1 : decide (b = b) = true := by simp
  refine wp_region_mix [true, true, true, true, true, true, true, true, true, true, true, true, true, true, true, true, true, true, true, true, true, true, true, true, true, true, true, true, true, true, true, true, true, true, true, true, true, true, true, true, true, true, true, true, true, true, true, true, true, true, true, true, true, true, true, true, true, true] (fun W => W.rowD c1 = encSt g ∧ c1 < W.heap.size ∧ W.rowD c2 = encSt a ∧ c2 < W.heap.size ∧ W.rowD c4 = encSt b ∧ c4 < W.heap.size ∧ W.rowD c6 = encSt f ∧ c6 < W.heap.size ∧ W.rowD c10 = encSt b ∧ c10 < W.heap.size ∧ Keyed W)
    (fun W W' h hb => by obtain ⟨g1, l1, g2, l2, g4, l4, g6, l6, g10, l10, hkq⟩ := h; exact ⟨(rowD_congr (hb.block _ l1)).trans g1, Nat.lt_of_lt_of_le l1 hb.size, (rowD_congr (hb.block _ l2)).trans g2, Nat.lt_of_lt_of_le l2 hb.size, (rowD_congr (hb.block _ l4)).trans g4, Nat.lt_of_lt_of_le l4 hb.size, (rowD_congr (hb.block _ l6)).trans g6, Nat.lt_of_lt_of_le l6 hb.size, (rowD_congr (hb.block _ l10)).trans g10, Nat.lt_of_lt_of_le l10 hb.size, hkq.below hb⟩)
    ⟨own11.at1.2.2.1, own11.at1.2.1, own11.at2.2.2.1, own11.at2.2.1, own11.at3.2.2.1, own11.at3.2.1, own11.at4.2.2.1, own11.at4.2.1, row10, lt10, hk.below own11.below⟩ (by kernel_rfl) (by kernel_rfl) ?_
  intro W1 hb1 hC1
  clear lt10 row10
  iterate 2 (refine wpMix_q rfl (fun K hK => ?_); refine ⟨_, (fun Wq hWq => by obtain ⟨g1, l1, g2, l2, g4, l4, g6, l6, g10, l10, hkq⟩ := hWq; go_simp; exact rfl), ?_⟩; go_simp; refine hK _ ?_; clear hK K)
  refine wpMix_q rfl (fun K hK => ?_); refine ⟨_, (fun Wq hWq => by obtain ⟨g1, l1, g2, l2, g4, l4, g6, l6, g10, l10, hkq⟩ := hWq; go_simp; exact Calls.grow_of (r1 () ▸ Near_any a b Wq w2.slot w3.slot) rfl), ?_⟩; go_simp; refine hK _ ?_; clear hK K
  iterate 1 (refine wpMix_q rfl (fun K hK => ?_); refine ⟨_, (fun Wq hWq => by obtain ⟨g1, l1, g2, l2, g4, l4, g6, l6, g10, l10, hkq⟩ := hWq; go_simp; exact rfl), ?_⟩; go_simp; refine hK _ ?_; clear hK K)
  iterate 2 (refine wpMix_qy rfl (fun K hK => ?_); refine ⟨_, (fun Wq hWq => by obtain ⟨g1, l1, g2, l2, g4, l4, g6, l6, g10, l10, hkq⟩ := hWq; go_simp; exact rfl), ?_⟩; go_simp; refine hK _ ?_; clear hK K)
  refine wpMix_qy rfl (fun K hK => ?_); refine ⟨_, (fun Wq hWq => by obtain ⟨g1, l1, g2, l2, g4, l4, g6, l6, g10, l10, hkq⟩ := hWq; go_simp; exact Calls.grow_of (r2 () ▸ Near_any a f Wq w2.slot w4.slot) rfl), ?_⟩; go_simp; refine hK _ ?_; clear hK K
  iterate 1 (refine wpMix_qy rfl (fun K hK => ?_); refine ⟨_, (fun Wq hWq => by obtain ⟨g1, l1, g2, l2, g4, l4, g6, l6, g10, l10, hkq⟩ := hWq; go_simp; exact rfl), ?_⟩; go_simp; refine hK _ ?_; clear hK K)
  iterate 2 (refine wpMix_q rfl (fun K hK => ?_); refine ⟨_, (fun Wq hWq => by obtain ⟨g1, l1, g2, l2, g4, l4, g6, l6, g10, l10, hkq⟩ := hWq; go_simp; exact rfl), ?_⟩; go_simp; refine hK _ ?_; clear hK K)
  iterate 2 (refine wpMix_qy rfl (fun K hK => ?_); refine ⟨_, (fun Wq hWq => by obtain ⟨g1, l1, g2, l2, g4, l4, g6, l6, g10, l10, hkq⟩ := hWq; go_simp; exact rfl), ?_⟩; go_simp; refine hK _ ?_; clear hK K)
  refine wpMix_qy rfl (fun K hK => ?_); refine ⟨_, (fun Wq hWq => by obtain ⟨g1, l1, g2, l2, g4, l4, g6, l6, g10, l10, hkq⟩ := hWq; go_simp; exact Calls.grow_of (r3 () ▸ Wins_any g a Wq hkq w1 w2) rfl), ?_⟩; go_simp; refine hK _ ?_; clear hK K
  iterate 2 (refine wpMix_q rfl (fun K hK => ?_); refine ⟨_, (fun Wq hWq => by obtain ⟨g1, l1, g2, l2, g4, l4, g6, l6, g10, l10, hkq⟩ := hWq; go_simp; exact rfl), ?_⟩; go_simp; refine hK _ ?_; clear hK K)
  iterate 2 (refine wpMix_qy rfl (fun K hK => ?_); refine ⟨_, (fun Wq hWq => by obtain ⟨g1, l1, g2, l2, g4, l4, g6, l6, g10, l10, hkq⟩ := hWq; go_simp; exact rfl), ?_⟩; go_simp; refine hK _ ?_; clear hK K)
  refine wpMix_qy rfl (fun K hK => ?_); refine ⟨_, (fun Wq hWq => by obtain ⟨g1, l1, g2, l2, g4, l4, g6, l6, g10, l10, hkq⟩ := hWq; go_simp; exact Calls.grow_of (r4 () ▸ Wins_any a g Wq hkq w2 w1) rfl), ?_⟩; go_simp; refine hK _ ?_; clear hK K
  iterate 1 (refine wpMix_qy rfl (fun K hK => ?_); refine ⟨_, (fun Wq hWq => by obtain ⟨g1, l1, g2, l2, g4, l4, g6, l6, g10, l10, hkq⟩ := hWq; go_simp; exact rfl), ?_⟩; go_simp; refine hK _ ?_; clear hK K)
  iterate 2 (refine wpMix_q rfl (fun K hK => ?_); refine ⟨_, (fun Wq hWq => by obtain ⟨g1, l1, g2, l2, g4, l4, g6, l6, g10, l10, hkq⟩ := hWq; go_simp; exact rfl), ?_⟩; go_simp; refine hK _ ?_; clear hK K)
  iterate 2 (refine wpMix_qy rfl (fun K hK => ?_); refine ⟨_, (fun Wq hWq => by obtain ⟨g1, l1, g2, l2, g4, l4, g6, l6, g10, l10, hkq⟩ := hWq; go_simp; exact rfl), ?_⟩; go_simp; refine hK _ ?_; clear hK K)
  refine wpMix_qy rfl (fun K hK => ?_); refine ⟨_, (fun Wq hWq => by obtain ⟨g1, l1, g2, l2, g4, l4, g6, l6, g10, l10, hkq⟩ := hWq; go_simp; exact Calls.grow_of (r5 () ▸ Wins_any a b Wq hkq w2 w3) rfl), ?_⟩; go_simp; refine hK _ ?_; clear hK K
  iterate 2 (refine wpMix_q rfl (fun K hK => ?_); refine ⟨_, (fun Wq hWq => by obtain ⟨g1, l1, g2, l2, g4, l4, g6, l6, g10, l10, hkq⟩ := hWq; go_simp; exact rfl), ?_⟩; go_simp; refine hK _ ?_; clear hK K)
  iterate 2 (refine wpMix_qy rfl (fun K hK => ?_); refine ⟨_, (fun Wq hWq => by obtain ⟨g1, l1, g2, l2, g4, l4, g6, l6, g10, l10, hkq⟩ := hWq; go_simp; exact rfl), ?_⟩; go_simp; refine hK _ ?_; clear hK K)
  refine wpMix_qy rfl (fun K hK => ?_); refine ⟨_, (fun Wq hWq => by obtain ⟨g1, l1, g2, l2, g4, l4, g6, l6, g10, l10, hkq⟩ := hWq; go_simp; exact Calls.grow_of (r6 () ▸ Wins_any b a Wq hkq w3 w2) rfl), ?_⟩; go_simp; refine hK _ ?_; clear hK K
  iterate 1 (refine wpMix_qy rfl (fun K hK => ?_); refine ⟨_, (fun Wq hWq => by obtain ⟨g1, l1, g2, l2, g4, l4, g6, l6, g10, l10, hkq⟩ := hWq; go_simp; exact rfl), ?_⟩; go_simp; refine hK _ ?_; clear hK K)
  iterate 2 (refine wpMix_q rfl (fun K hK => ?_); refine ⟨_, (fun Wq hWq => by obtain ⟨g1, l1, g2, l2, g4, l4, g6, l6, g10, l10, hkq⟩ := hWq; go_simp; exact rfl), ?_⟩; go_simp; refine hK _ ?_; clear hK K)
  iterate 2 (refine wpMix_qy rfl (fun K hK => ?_); refine ⟨_, (fun Wq hWq => by obtain ⟨g1, l1, g2, l2, g4, l4, g6, l6, g10, l10, hkq⟩ := hWq; go_simp; exact rfl), ?_⟩; go_simp; refine hK _ ?_; clear hK K)
  iterate 2 (refine wpMix_q rfl (fun K hK => ?_); refine ⟨_, (fun Wq hWq => by obtain ⟨g1, l1, g2, l2, g4, l4, g6, l6, g10, l10, hkq⟩ := hWq; go_simp; exact rfl), ?_⟩; go_simp; refine hK _ ?_; clear hK K)
  iterate 2 (refine wpMix_qy rfl (fun K hK => ?_); refine ⟨_, (fun Wq hWq => by obtain ⟨g1, l1, g2, l2, g4, l4, g6, l6, g10, l10, hkq⟩ := hWq; go_simp; exact rfl), ?_⟩; go_simp; refine hK _ ?_; clear hK K)
  iterate 2 (refine wpMix_q rfl (fun K hK => ?_); refine ⟨_, (fun Wq hWq => by obtain ⟨g1, l1, g2, l2, g4, l4, g6, l6, g10, l10, hkq⟩ := hWq; go_simp; exact rfl), ?_⟩; go_simp; refine hK _ ?_; clear hK K)
  iterate 2 (refine wpMix_qy rfl (fun K hK => ?_); refine ⟨_, (fun Wq hWq => by obtain ⟨g1, l1, g2, l2, g4, l4, g6, l6, g10, l10, hkq⟩ := hWq; go_simp; exact rfl), ?_⟩; go_simp; refine hK _ ?_; clear hK K)
  refine wpMix_qy rfl (fun K hK => ?_); refine ⟨_, (fun Wq hWq => by obtain ⟨g1, l1, g2, l2, g4, l4, g6, l6, g10, l10, hkq⟩ := hWq; go_simp; exact Calls.grow_of (ra () ▸ Wins_any a f Wq hkq w2 w4) rfl), ?_⟩; go_simp; refine hK _ ?_; clear hK K
  iterate 2 (refine wpMix_qy rfl (fun K hK => ?_); refine ⟨_, (fun Wq hWq => by obtain ⟨g1, l1, g2, l2, g4, l4, g6, l6, g10, l10, hkq⟩ := hWq; go_simp; exact rfl), ?_⟩; go_simp; refine hK _ ?_; clear hK K)
  refine wpMix_qy rfl (fun K hK => ?_); refine ⟨_, (fun Wq hWq => by obtain ⟨g1, l1, g2, l2, g4, l4, g6, l6, g10, l10, hkq⟩ := hWq; go_simp; exact Calls.grow_of (rf () ▸ Wins_any f a Wq hkq w4 w2) rfl), ?_⟩; go_simp; refine hK _ ?_; clear hK K
  clear ra rf
  cases xa <;> cases xf
  · cases r7
  · iterate 1 (refine wpMix_qy rfl (fun K hK => ?_); refine ⟨_, (fun Wq hWq => by obtain ⟨g1, l1, g2, l2, g4, l4, g6, l6, g10, l10, hkq⟩ := hWq; go_simp; exact rfl), ?_⟩; go_simp; refine hK _ ?_; clear hK K)
    iterate 2 (refine wpMix_q rfl (fun K hK => ?_); refine ⟨_, (fun Wq hWq => by obtain ⟨g1, l1, g2, l2, g4, l4, g6, l6, g10, l10, hkq⟩ := hWq; go_simp; exact rfl), ?_⟩; go_simp; refine hK _ ?_; clear hK K)
    iterate 3 (refine wpMix_qy rfl (fun K hK => ?_); refine ⟨_, (fun Wq hWq => by obtain ⟨g1, l1, g2, l2, g4, l4, g6, l6, g10, l10, hkq⟩ := hWq; go_simp; exact rfl), ?_⟩; go_simp; refine hK _ ?_; clear hK K)
    iterate 2 (refine wpMix_q rfl (fun K hK => ?_); refine ⟨_, (fun Wq hWq => by obtain ⟨g1, l1, g2, l2, g4, l4, g6, l6, g10, l10, hkq⟩ := hWq; go_simp; exact rfl), ?_⟩; go_simp; refine hK _ ?_; clear hK K)
    iterate 2 (refine wpMix_qy rfl (fun K hK => ?_); refine ⟨_, (fun Wq hWq => by obtain ⟨g1, l1, g2, l2, g4, l4, g6, l6, g10, l10, hkq⟩ := hWq; go_simp; exact rfl), ?_⟩; go_simp; refine hK _ ?_; clear hK K)
    iterate 2 (refine wpMix_q rfl (fun K hK => ?_); refine ⟨_, (fun Wq hWq => by obtain ⟨g1, l1, g2, l2, g4, l4, g6, l6, g10, l10, hkq⟩ := hWq; go_simp; exact rfl), ?_⟩; go_simp; refine hK _ ?_; clear hK K)
    refine wpMix_nil (fun W2 hb2 => ?_)
    go_wp2_with fail
    go_ret
    exact ⟨rfl, ((own11.call hb1).call hb2).below⟩
  · iterate 1 (refine wpMix_qy rfl (fun K hK => ?_); refine ⟨_, (fun Wq hWq => by obtain ⟨g1, l1, g2, l2, g4, l4, g6, l6, g10, l10, hkq⟩ := hWq; go_simp; exact rfl), ?_⟩; go_simp; refine hK _ ?_; clear hK K)
    iterate 2 (refine wpMix_q rfl (fun K hK => ?_); refine ⟨_, (fun Wq hWq => by obtain ⟨g1, l1, g2, l2, g4, l4, g6, l6, g10, l10, hkq⟩ := hWq; go_simp; exact rfl), ?_⟩; go_simp; refine hK _ ?_; clear hK K)
    iterate 3 (refine wpMix_qy rfl (fun K hK => ?_); refine ⟨_, (fun Wq hWq => by obtain ⟨g1, l1, g2, l2, g4, l4, g6, l6, g10, l10, hkq⟩ := hWq; go_simp; exact rfl), ?_⟩; go_simp; refine hK _ ?_; clear hK K)
    iterate 2 (refine wpMix_q rfl (fun K hK => ?_); refine ⟨_, (fun Wq hWq => by obtain ⟨g1, l1, g2, l2, g4, l4, g6, l6, g10, l10, hkq⟩ := hWq; go_simp; exact rfl), ?_⟩; go_simp; refine hK _ ?_; clear hK K)
    iterate 2 (refine wpMix_qy rfl (fun K hK => ?_); refine ⟨_, (fun Wq hWq => by obtain ⟨g1, l1, g2, l2, g4, l4, g6, l6, g10, l10, hkq⟩ := hWq; go_simp; exact rfl), ?_⟩; go_simp; refine hK _ ?_; clear hK K)
    iterate 2 (refine wpMix_q rfl (fun K hK => ?_); refine ⟨_, (fun Wq hWq => by obtain ⟨g1, l1, g2, l2, g4, l4, g6, l6, g10, l10, hkq⟩ := hWq; go_simp; exact rfl), ?_⟩; go_simp; refine hK _ ?_; clear hK K)
    refine wpMix_nil (fun W2 hb2 => ?_)
    go_wp2_with fail
    go_ret
    exact ⟨rfl, ((own11.call hb1).call hb2).below⟩
  · cases r7
end Go.Proofs.YtpoaakdljpdkfaaDoor

/- THE WALK OF GrowRight. -/
import Derived.Test.YtpoaakdljpdkfaaDoorC28
set_option linter.unusedSimpArgs false
set_option linter.unusedVariables false
namespace Go.Proofs.YtpoaakdljpdkfaaDoor
open Go.RowKit Go.Alm
set_option maxRecDepth 20000 in
set_option maxHeartbeats 4000000 in
theorem GrowRight_any (s : St) (b : Bk) (w : World) (hk : Keyed w) (hs : s.Wf) (hb : b.slot < 4294967296) :
    Calls Tryd.prog 3 #[.agg (encSt s), .agg (encBk b)] w fun e w' => e = .returned (.bool true) ∧ Below w.heap.size w w' := by
  go_enter Tryd.func3, Tryd.ntmps3
  go_wp2_with fail
  generalize hW : World.alloc (World.alloc w _) _ = W
  have own : Owns w W [(w.heap.size, encSt s), (w.heap.size + 1, encBk b)] := hW ▸ own_two w _ _ _ _
  clear hW
  refine (awake10_any _ (hk.below own.below)).mono ?_
  rintro e w1 ⟨rfl, hb1⟩
  have own1 := own.call hb1
  clear own
  obtain ⟨-, lt0, row0, -⟩ := own1.at1
  obtain ⟨-, lt1, row1, -⟩ := own1.at2
  go_wp2_with fail
  refine (SRight_any s _ hs).mono ?_
  rintro e w2 ⟨rfl, hb2⟩
  have own2 := own1.call hb2
  clear own1 lt0 row0 lt1 row1
  obtain ⟨-, lt0, row0, -⟩ := own2.at1
  obtain ⟨-, lt1, row1, -⟩ := own2.at2
  by_cases hr : right s = true
  rotate_left
  · replace hr : right s = false := by simpa using hr
    go_wp2_with fail
    go_ret
    exact ⟨rfl, own2.below⟩
  go_wp2_with fail
  refine (Child_any s b _ (hk.below own2.below) hs hb).mono ?_
  rintro e w3 ⟨rfl, hb3⟩
  have own3 := own2.call hb3
  clear own2 lt0 row0 lt1 row1
  have hcwf := child_wf (s := s) hs hb
  have herr : (child s b).2 ≠ 0 → _ := child_err (s := s) (b := b)
  have hrt : (child s b).2 = 0 → _ := child_right (s := s) (b := b) hr
  generalize child s b = cc at hcwf herr hrt ⊢
  obtain ⟨c, ce⟩ := cc
  simp only at hcwf herr hrt ⊢
  by_cases he : ce = 0
  rotate_left
  · obtain ⟨h1, h2⟩ := herr he
    clear herr hrt
    subst h1
    have he' : ((ce : Int) != 0) = true := by simpa using he
    have h3 : decide (state0 = state0) = true := by simp
    obtain ⟨-, lt0, row0, -⟩ := own3.at1
    obtain ⟨-, lt1, row1, -⟩ := own3.at2
    rcases h2 with rfl | rfl | rfl
    all_goals
      go_wp2_with fail

      go_ret
      exact ⟨rfl, own3.below.alloc own3.below.size _⟩
  obtain ⟨r1, r2, r3, r4, r5, r6, r7, r8, r9, r10, r11⟩ := hrt he
  subst he
  clear herr hrt
  obtain ⟨-, lt0, row0, -⟩ := own3.at1
  obtain ⟨-, lt1, row1, -⟩ := own3.at2
  replace r1 : ∀ _ : Unit, _ := fun _ => r1
  have f2 : ((c.length : Int) == (s.length : Int) + 1) = true := by rw [r2]; simp
  have f3 : s.slot < c.slot := by rw [r5]; exact r4
  have f4 : ((c.slot : Int) == (b.slot : Int)) = true := by rw [r5]; simp
  have f5 : decide (c.prev = hashOf s) = true := by simpa using r6
  have f6 : decide (c.ledger = b.ledger) = true := by simpa using r7
  have f7 : decide (c.draw = b.draw) = true := by simpa using r8
  have f8 : c.win.min ≤ s.win.min := r9
  have hm0 : ∀ _ : Unit, IntKind.u32.wrap ((s.length : Int) + 1) = (s.length : Int) + 1 := fun _ => IntWalk.u32_in _ (by omega)
  have hm1 : c.count = s.count + 1 → IntKind.u32.wrap ((s.count : Int) + 1) = (s.count : Int) + 1 := fun h => IntWalk.u32_in _ (by omega)
  have r10' : c.count = s.count ∨ ((¬ c.count = s.count) ∧ c.count = s.count + 1) := by omega
  clear r2 r5 r6 r7 r8 r9 r10
  go_wp2_with fail
  have own6 := own3.alloc (encSt c) 35
  generalize World.alloc w3 _ = w6 at own6 ⊢
  generalize w3.heap.size = c5 at own6 ⊢
  clear own3 hb3 lt0 row0 lt1 row1
  simp only [List.cons_append, List.nil_append] at own6
  obtain ⟨-, lt0, row0, -⟩ := own6.at1
  obtain ⟨-, lt1, row1, -⟩ := own6.at2
  obtain ⟨-, lt2, row2, -⟩ := own6.at3
  have hk6 := hk.below own6.below
  refine wp_region_mix [true, true, true, true, true, true, true, true, true, true, true, true, true, true, true, true, true, true, true, true, true, true, true, true, true, true, true, true, true, true, true, true, true, true, true, true, true, true, true, true, true, true, true, true, true, true, true, true, true, true, true, true, true, true, true, true, true, true, true, true, true, true, true, true, true, true, true, true, true, true] (fun W => W.rowD w.heap.size = encSt s ∧ w.heap.size < W.heap.size ∧ W.rowD (w.heap.size + 1) = encBk b ∧ w.heap.size + 1 < W.heap.size ∧ W.rowD c5 = encSt c ∧ c5 < W.heap.size ∧ Keyed W)
    (fun W W' h hb => by obtain ⟨q1, q2, q3, q4, q5, q6, q7⟩ := h; exact ⟨(rowD_congr (hb.block _ q2)).trans q1, Nat.lt_of_lt_of_le q2 hb.size, (rowD_congr (hb.block _ q4)).trans q3, Nat.lt_of_lt_of_le q4 hb.size, (rowD_congr (hb.block _ q6)).trans q5, Nat.lt_of_lt_of_le q6 hb.size, q7.below hb⟩)
    ⟨row0, lt0, row1, lt1, row2, lt2, hk6⟩ (by kernel_rfl) (by kernel_rfl) ?_
  intro W1 hb1 hC1
  clear lt1 row1 lt2 row2 lt0 row0
  have r1' := r1 ()
  iterate 1 (refine wpMix_q rfl (fun K hK => ?_); refine ⟨_, (fun Wq hWq => by obtain ⟨g1, l1, g2, l2, g3, l3, hkq⟩ := hWq; go_simp; exact rfl), ?_⟩; go_simp; refine hK _ ?_; clear hK K)
  refine wpMix_q rfl (fun K hK => ?_); refine ⟨_, (fun Wq hWq => by obtain ⟨g1, l1, g2, l2, g3, l3, hkq⟩ := hWq; go_simp; exact Calls.grow_of (SRight_any c Wq hcwf) rfl), ?_⟩; go_simp; refine hK _ ?_; clear hK K
  iterate 1 (refine wpMix_q rfl (fun K hK => ?_); refine ⟨_, (fun Wq hWq => by obtain ⟨g1, l1, g2, l2, g3, l3, hkq⟩ := hWq; go_simp; exact rfl), ?_⟩; go_simp; refine hK _ ?_; clear hK K)
  iterate 4 (refine wpMix_qy rfl (fun K hK => ?_); refine ⟨_, (fun Wq hWq => by obtain ⟨g1, l1, g2, l2, g3, l3, hkq⟩ := hWq; go_simp; exact rfl), ?_⟩; go_simp; refine hK _ ?_; clear hK K)
  have hm := hm0 ()
  iterate 2 (refine wpMix_qy rfl (fun K hK => ?_); refine ⟨_, (fun Wq hWq => by obtain ⟨g1, l1, g2, l2, g3, l3, hkq⟩ := hWq; go_simp; exact rfl), ?_⟩; go_simp; refine hK _ ?_; clear hK K)
  clear hm
  iterate 2 (refine wpMix_q rfl (fun K hK => ?_); refine ⟨_, (fun Wq hWq => by obtain ⟨g1, l1, g2, l2, g3, l3, hkq⟩ := hWq; go_simp; exact rfl), ?_⟩; go_simp; refine hK _ ?_; clear hK K)
  iterate 5 (refine wpMix_qy rfl (fun K hK => ?_); refine ⟨_, (fun Wq hWq => by obtain ⟨g1, l1, g2, l2, g3, l3, hkq⟩ := hWq; go_simp; exact rfl), ?_⟩; go_simp; refine hK _ ?_; clear hK K)
  iterate 2 (refine wpMix_q rfl (fun K hK => ?_); refine ⟨_, (fun Wq hWq => by obtain ⟨g1, l1, g2, l2, g3, l3, hkq⟩ := hWq; go_simp; exact rfl), ?_⟩; go_simp; refine hK _ ?_; clear hK K)
  iterate 5 (refine wpMix_qy rfl (fun K hK => ?_); refine ⟨_, (fun Wq hWq => by obtain ⟨g1, l1, g2, l2, g3, l3, hkq⟩ := hWq; go_simp; exact rfl), ?_⟩; go_simp; refine hK _ ?_; clear hK K)
  iterate 2 (refine wpMix_q rfl (fun K hK => ?_); refine ⟨_, (fun Wq hWq => by obtain ⟨g1, l1, g2, l2, g3, l3, hkq⟩ := hWq; go_simp; exact rfl), ?_⟩; go_simp; refine hK _ ?_; clear hK K)
  iterate 3 (refine wpMix_qy rfl (fun K hK => ?_); refine ⟨_, (fun Wq hWq => by obtain ⟨g1, l1, g2, l2, g3, l3, hkq⟩ := hWq; go_simp; exact rfl), ?_⟩; go_simp; refine hK _ ?_; clear hK K)
  refine wpMix_qy rfl (fun K hK => ?_); refine ⟨_, (fun Wq hWq => by obtain ⟨g1, l1, g2, l2, g3, l3, hkq⟩ := hWq; go_simp; exact Calls.grow_of (Hash_any s Wq hkq hs) rfl), ?_⟩; go_simp; refine hK _ ?_; clear hK K
  iterate 1 (refine wpMix_qy rfl (fun K hK => ?_); refine ⟨_, (fun Wq hWq => by obtain ⟨g1, l1, g2, l2, g3, l3, hkq⟩ := hWq; go_simp; exact rfl), ?_⟩; go_simp; refine hK _ ?_; clear hK K)
  iterate 2 (refine wpMix_q rfl (fun K hK => ?_); refine ⟨_, (fun Wq hWq => by obtain ⟨g1, l1, g2, l2, g3, l3, hkq⟩ := hWq; go_simp; exact rfl), ?_⟩; go_simp; refine hK _ ?_; clear hK K)
  iterate 5 (refine wpMix_qy rfl (fun K hK => ?_); refine ⟨_, (fun Wq hWq => by obtain ⟨g1, l1, g2, l2, g3, l3, hkq⟩ := hWq; go_simp; exact rfl), ?_⟩; go_simp; refine hK _ ?_; clear hK K)
  iterate 2 (refine wpMix_q rfl (fun K hK => ?_); refine ⟨_, (fun Wq hWq => by obtain ⟨g1, l1, g2, l2, g3, l3, hkq⟩ := hWq; go_simp; exact rfl), ?_⟩; go_simp; refine hK _ ?_; clear hK K)
  iterate 5 (refine wpMix_qy rfl (fun K hK => ?_); refine ⟨_, (fun Wq hWq => by obtain ⟨g1, l1, g2, l2, g3, l3, hkq⟩ := hWq; go_simp; exact rfl), ?_⟩; go_simp; refine hK _ ?_; clear hK K)
  iterate 2 (refine wpMix_q rfl (fun K hK => ?_); refine ⟨_, (fun Wq hWq => by obtain ⟨g1, l1, g2, l2, g3, l3, hkq⟩ := hWq; go_simp; exact rfl), ?_⟩; go_simp; refine hK _ ?_; clear hK K)
  iterate 7 (refine wpMix_qy rfl (fun K hK => ?_); refine ⟨_, (fun Wq hWq => by obtain ⟨g1, l1, g2, l2, g3, l3, hkq⟩ := hWq; go_simp; exact rfl), ?_⟩; go_simp; refine hK _ ?_; clear hK K)
  iterate 2 (refine wpMix_q rfl (fun K hK => ?_); refine ⟨_, (fun Wq hWq => by obtain ⟨g1, l1, g2, l2, g3, l3, hkq⟩ := hWq; go_simp; exact rfl), ?_⟩; go_simp; refine hK _ ?_; clear hK K)
  iterate 4 (refine wpMix_qy rfl (fun K hK => ?_); refine ⟨_, (fun Wq hWq => by obtain ⟨g1, l1, g2, l2, g3, l3, hkq⟩ := hWq; go_simp; exact rfl), ?_⟩; go_simp; refine hK _ ?_; clear hK K)
  rcases r10' with hq | ⟨hn, hq⟩
  · have f9 : ((c.count : Int) == (s.count : Int)) = true := by rw [hq]; simp
    clear hq
    iterate 2 (refine wpMix_qy rfl (fun K hK => ?_); refine ⟨_, (fun Wq hWq => by obtain ⟨g1, l1, g2, l2, g3, l3, hkq⟩ := hWq; go_simp; exact rfl), ?_⟩; go_simp; refine hK _ ?_; clear hK K)
    iterate 6 (refine wpMix_qn rfl (fun K hK => ?_); go_simp; refine hK _ ?_; clear hK K)
    iterate 1 (refine wpMix_qy rfl (fun K hK => ?_); refine ⟨_, (fun Wq hWq => by obtain ⟨g1, l1, g2, l2, g3, l3, hkq⟩ := hWq; go_simp; exact rfl), ?_⟩; go_simp; refine hK _ ?_; clear hK K)
    iterate 2 (refine wpMix_q rfl (fun K hK => ?_); refine ⟨_, (fun Wq hWq => by obtain ⟨g1, l1, g2, l2, g3, l3, hkq⟩ := hWq; go_simp; exact rfl), ?_⟩; go_simp; refine hK _ ?_; clear hK K)
    refine wpMix_nil (fun W2 hb2 => ?_)
    go_wp2_with fail
    go_ret
    exact ⟨rfl, ((own6.call hb1).call hb2).below⟩
  · have f9 : ((c.count : Int) == (s.count : Int)) = false := by simpa using fun h => hn (by omega)
    have f10 : ((c.count : Int) == (s.count : Int) + 1) = true := by rw [hq]; simp
    replace hm1 : ∀ _ : Unit, IntKind.u32.wrap ((s.count : Int) + 1) = (s.count : Int) + 1 := fun _ => hm1 hq
    clear hq hn
    iterate 6 (refine wpMix_qy rfl (fun K hK => ?_); refine ⟨_, (fun Wq hWq => by obtain ⟨g1, l1, g2, l2, g3, l3, hkq⟩ := hWq; go_simp; exact rfl), ?_⟩; go_simp; refine hK _ ?_; clear hK K)
    have hm := hm1 ()
    iterate 2 (refine wpMix_qy rfl (fun K hK => ?_); refine ⟨_, (fun Wq hWq => by obtain ⟨g1, l1, g2, l2, g3, l3, hkq⟩ := hWq; go_simp; exact rfl), ?_⟩; go_simp; refine hK _ ?_; clear hK K)
    clear hm
    iterate 1 (refine wpMix_qy rfl (fun K hK => ?_); refine ⟨_, (fun Wq hWq => by obtain ⟨g1, l1, g2, l2, g3, l3, hkq⟩ := hWq; go_simp; exact rfl), ?_⟩; go_simp; refine hK _ ?_; clear hK K)
    iterate 2 (refine wpMix_q rfl (fun K hK => ?_); refine ⟨_, (fun Wq hWq => by obtain ⟨g1, l1, g2, l2, g3, l3, hkq⟩ := hWq; go_simp; exact rfl), ?_⟩; go_simp; refine hK _ ?_; clear hK K)
    refine wpMix_nil (fun W2 hb2 => ?_)
    go_wp2_with fail
    go_ret
    exact ⟨rfl, ((own6.call hb1).call hb2).below⟩
end Go.Proofs.YtpoaakdljpdkfaaDoor

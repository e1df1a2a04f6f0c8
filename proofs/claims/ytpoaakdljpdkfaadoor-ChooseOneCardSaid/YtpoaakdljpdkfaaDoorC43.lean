/- THE WALK OF ChooseOne. -/
import Derived.Test.YtpoaakdljpdkfaaDoorC41
import Derived.Test.YtpoaakdljpdkfaaDoorC42
set_option linter.unusedSimpArgs false
set_option linter.unusedVariables false
namespace Go.Proofs.YtpoaakdljpdkfaaDoor
open Go.RowKit Go.Alm
set_option maxRecDepth 20000 in
set_option maxHeartbeats 4000000 in
theorem ChooseOne_any (a b : St) (w : World) (hk : Keyed w) (ha : a.Wf) (hb : b.Wf) : Calls Tryd.prog 7 #[.agg (encSt a), .agg (encSt b)] w fun e w' => e = .returned (.bool true) ∧ Below w.heap.size w w' := by
  go_enter Tryd.func7, Tryd.ntmps7
  go_wp2_with fail
  generalize hW : World.alloc (World.alloc w _) _ = W
  have own : Owns w W [(w.heap.size, encSt a), (w.heap.size + 1, encSt b)] := hW ▸ own_two w _ _ _ _
  clear hW
  refine (awake13_any _ (hk.below own.below)).mono ?_
  rintro e w1 ⟨rfl, hb1⟩
  have own1 := own.call hb1
  clear own hb1
  obtain ⟨-, lt0, row0, -⟩ := own1.at1
  obtain ⟨-, lt1, row1, -⟩ := own1.at2
  go_wp2_with fail
  have own2 := own1.alloc (encSts [a, b]) 35
  simp only [List.cons_append, List.nil_append] at own2
  refine (right13_any [a, b] (some ⟨w1.heap.size, 0, none⟩) 2 _ (by simp; exact ⟨ha, hb⟩) (by simp) (.inr ⟨_, 0, rfl, own2.at3.2.1, by rw [own2.at3.2.2.1]; exact whole_sts [a, b]⟩)).mono ?_
  rintro e w3 ⟨⟨r, rfl, -⟩, hb3⟩
  have own3 := (own2.call hb3).sub (M := [(w.heap.size, encSt a), (w.heap.size + 1, encSt b)]) (by intro p hp; simp only [List.mem_cons, List.not_mem_nil, or_false] at hp ⊢; rcases hp with h | h <;> simp [h])
  clear own1 own2 hb3 lt0 row0 lt1 row1
  cases r
  · go_wp2_with fail
    go_ret
    exact ⟨rfl, own3.below⟩
  obtain ⟨-, lt0, row0, -⟩ := own3.at1
  obtain ⟨-, lt1, row1, -⟩ := own3.at2
  go_wp2_with fail
  refine (Densities_any a b _ ha.slot hb.slot).mono ?_
  rintro e w4 ⟨rfl, hb4⟩
  have own4 := own3.call hb4
  clear own3 hb4 lt0 row0 lt1 row1
  obtain ⟨-, lt0, row0, -⟩ := own4.at1
  obtain ⟨-, lt1, row1, -⟩ := own4.at2
  go_wp2_with fail
  refine (Densities_any b a _ hb.slot ha.slot).mono ?_
  rw [densities_symm b a]
  rintro e w5 ⟨rfl, hb5⟩
  have own5 := own4.call hb5
  clear own4 hb5 lt0 row0 lt1 row1
  simp only
  generalize (densities a b).1 = x
  generalize (densities a b).2 = y
  go_wp2_with fail
  obtain ⟨n, rn⟩ : ∃ n, near a b = n := ⟨_, rfl⟩
  have rn2 : near b a = n := by rw [near_symm, rn]
  replace rn : ∀ _ : Unit, _ := fun _ => rn
  replace rn2 : ∀ _ : Unit, _ := fun _ => rn2
  have f0 : (n != n) = false := by simp
  have f1 : ((x : Int) != (x : Int)) = false := by simp
  have f2 : ((y : Int) != (y : Int)) = false := by simp
  refine wp_region_mix [true, true, true, true, true, true, true, true, true, true, true, true, true, true, true, true, true, true, true, true, true, true, true, true, true, true, true, true, true, true, true, true, true] (fun W => W.rowD w.heap.size = encSt a ∧ w.heap.size < W.heap.size ∧ W.rowD (w.heap.size + 1) = encSt b ∧ w.heap.size + 1 < W.heap.size ∧ Keyed W)
    (fun W W' h hb => by obtain ⟨g1, l1, g2, l2, hkq⟩ := h; exact ⟨(rowD_congr (hb.block _ l1)).trans g1, Nat.lt_of_lt_of_le l1 hb.size, (rowD_congr (hb.block _ l2)).trans g2, Nat.lt_of_lt_of_le l2 hb.size, hkq.below hb⟩)
    ⟨own5.at1.2.2.1, own5.at1.2.1, own5.at2.2.2.1, own5.at2.2.1, hk.below own5.below⟩ (by kernel_rfl) (by kernel_rfl) ?_
  intro W1 hb1 hC1
  iterate 2 (refine wpMix_q rfl (fun K hK => ?_); refine ⟨_, (fun Wq hWq => by obtain ⟨g1, l1, g2, l2, hkq⟩ := hWq; go_simp; exact rfl), ?_⟩; go_simp; refine hK _ ?_; clear hK K)
  refine wpMix_q rfl (fun K hK => ?_); refine ⟨_, (fun Wq hWq => by obtain ⟨g1, l1, g2, l2, hkq⟩ := hWq; go_simp; exact Calls.grow_of ((rn () ▸ Near_any a b Wq ha.slot hb.slot)) rfl), ?_⟩; go_simp; refine hK _ ?_; clear hK K
  iterate 2 (refine wpMix_q rfl (fun K hK => ?_); refine ⟨_, (fun Wq hWq => by obtain ⟨g1, l1, g2, l2, hkq⟩ := hWq; go_simp; exact rfl), ?_⟩; go_simp; refine hK _ ?_; clear hK K)
  refine wpMix_q rfl (fun K hK => ?_); refine ⟨_, (fun Wq hWq => by obtain ⟨g1, l1, g2, l2, hkq⟩ := hWq; go_simp; exact Calls.grow_of ((rn2 () ▸ Near_any b a Wq hb.slot ha.slot)) rfl), ?_⟩; go_simp; refine hK _ ?_; clear hK K
  iterate 2 (refine wpMix_q rfl (fun K hK => ?_); refine ⟨_, (fun Wq hWq => by obtain ⟨g1, l1, g2, l2, hkq⟩ := hWq; go_simp; exact rfl), ?_⟩; go_simp; refine hK _ ?_; clear hK K)
  iterate 3 (refine wpMix_qy rfl (fun K hK => ?_); refine ⟨_, (fun Wq hWq => by obtain ⟨g1, l1, g2, l2, hkq⟩ := hWq; go_simp; exact rfl), ?_⟩; go_simp; refine hK _ ?_; clear hK K)
  iterate 2 (refine wpMix_q rfl (fun K hK => ?_); refine ⟨_, (fun Wq hWq => by obtain ⟨g1, l1, g2, l2, hkq⟩ := hWq; go_simp; exact rfl), ?_⟩; go_simp; refine hK _ ?_; clear hK K)
  iterate 3 (refine wpMix_qy rfl (fun K hK => ?_); refine ⟨_, (fun Wq hWq => by obtain ⟨g1, l1, g2, l2, hkq⟩ := hWq; go_simp; exact rfl), ?_⟩; go_simp; refine hK _ ?_; clear hK K)
  iterate 2 (refine wpMix_q rfl (fun K hK => ?_); refine ⟨_, (fun Wq hWq => by obtain ⟨g1, l1, g2, l2, hkq⟩ := hWq; go_simp; exact rfl), ?_⟩; go_simp; refine hK _ ?_; clear hK K)
  iterate 2 (refine wpMix_qy rfl (fun K hK => ?_); refine ⟨_, (fun Wq hWq => by obtain ⟨g1, l1, g2, l2, hkq⟩ := hWq; go_simp; exact rfl), ?_⟩; go_simp; refine hK _ ?_; clear hK K)
  refine wpMix_qy rfl (fun K hK => ?_); refine ⟨_, (fun Wq hWq => by obtain ⟨g1, l1, g2, l2, hkq⟩ := hWq; go_simp; exact Calls.grow_of ((wins_self a ▸ Wins_any a a Wq hkq ha ha)) rfl), ?_⟩; go_simp; refine hK _ ?_; clear hK K
  iterate 2 (refine wpMix_q rfl (fun K hK => ?_); refine ⟨_, (fun Wq hWq => by obtain ⟨g1, l1, g2, l2, hkq⟩ := hWq; go_simp; exact rfl), ?_⟩; go_simp; refine hK _ ?_; clear hK K)
  iterate 2 (refine wpMix_qy rfl (fun K hK => ?_); refine ⟨_, (fun Wq hWq => by obtain ⟨g1, l1, g2, l2, hkq⟩ := hWq; go_simp; exact rfl), ?_⟩; go_simp; refine hK _ ?_; clear hK K)
  refine wpMix_qy rfl (fun K hK => ?_); refine ⟨_, (fun Wq hWq => by obtain ⟨g1, l1, g2, l2, hkq⟩ := hWq; go_simp; exact Calls.grow_of ((wins_self b ▸ Wins_any b b Wq hkq hb hb)) rfl), ?_⟩; go_simp; refine hK _ ?_; clear hK K
  iterate 2 (refine wpMix_q rfl (fun K hK => ?_); refine ⟨_, (fun Wq hWq => by obtain ⟨g1, l1, g2, l2, hkq⟩ := hWq; go_simp; exact rfl), ?_⟩; go_simp; refine hK _ ?_; clear hK K)
  iterate 2 (refine wpMix_qy rfl (fun K hK => ?_); refine ⟨_, (fun Wq hWq => by obtain ⟨g1, l1, g2, l2, hkq⟩ := hWq; go_simp; exact rfl), ?_⟩; go_simp; refine hK _ ?_; clear hK K)
  refine wpMix_qy rfl (fun K hK => ?_); refine ⟨_, (fun Wq hWq => by obtain ⟨g1, l1, g2, l2, hkq⟩ := hWq; go_simp; exact Calls.grow_of ((near_self a ▸ Near_any a a Wq ha.slot ha.slot)) rfl), ?_⟩; go_simp; refine hK _ ?_; clear hK K
  iterate 1 (refine wpMix_qy rfl (fun K hK => ?_); refine ⟨_, (fun Wq hWq => by obtain ⟨g1, l1, g2, l2, hkq⟩ := hWq; go_simp; exact rfl), ?_⟩; go_simp; refine hK _ ?_; clear hK K)
  iterate 1 (refine wpMix_q rfl (fun K hK => ?_); refine ⟨_, (fun Wq hWq => by obtain ⟨g1, l1, g2, l2, hkq⟩ := hWq; go_simp; exact rfl), ?_⟩; go_simp; refine hK _ ?_; clear hK K)
  refine wpMix_nil (fun W2 hb2 => ?_)
  have own6 := (own5.call hb1).call hb2
  clear own5 hb1 hb2 hC1 f0 f1 f2
  obtain ⟨-, lt0, row0, -⟩ := own6.at1
  obtain ⟨-, lt1, row1, -⟩ := own6.at2
  obtain ⟨p, rp⟩ : ∃ p, wins a b = p := ⟨_, rfl⟩
  go_wp2_with fail
  refine (Wins_any a b _ (hk.below own6.below) ha hb).mono ?_
  rw [rp]
  rintro e w7 ⟨rfl, hb7⟩
  have own7 := own6.call hb7
  clear own6 hb7 lt0 row0 lt1 row1
  obtain ⟨-, lt0, row0, -⟩ := own7.at1
  obtain ⟨-, lt1, row1, -⟩ := own7.at2
  cases p
  · go_wp2_with fail
    clear lt0 row0 lt1 row1
    obtain ⟨q, rq⟩ : ∃ q, wins b a = q := ⟨_, rfl⟩
    have hq : hashOf a ≠ hashOf b → q = true := fun h => by
      rcases wins_one h with h' | h'
      · rw [rp] at h'; cases h'
      · rw [← rq]; exact h'
    obtain ⟨ka, rha⟩ : ∃ k, hashOf a = k := ⟨_, rfl⟩
    obtain ⟨kb, rhb⟩ : ∃ k, hashOf b = k := ⟨_, rfl⟩
    rw [rha, rhb] at hq
    replace rp : ∀ _ : Unit, _ := fun _ => rp
    replace rq : ∀ _ : Unit, _ := fun _ => rq
    replace rha : ∀ _ : Unit, _ := fun _ => rha
    replace rhb : ∀ _ : Unit, _ := fun _ => rhb
    refine wp_region_mix [true, true, true, true, true, true, true, true, true, true, true, true, true, true, true, true, true, true, true, true, true] (fun W => W.rowD w.heap.size = encSt a ∧ w.heap.size < W.heap.size ∧ W.rowD (w.heap.size + 1) = encSt b ∧ w.heap.size + 1 < W.heap.size ∧ Keyed W)
      (fun W W' h hb => by obtain ⟨g1, l1, g2, l2, hkq⟩ := h; exact ⟨(rowD_congr (hb.block _ l1)).trans g1, Nat.lt_of_lt_of_le l1 hb.size, (rowD_congr (hb.block _ l2)).trans g2, Nat.lt_of_lt_of_le l2 hb.size, hkq.below hb⟩)
      ⟨own7.at1.2.2.1, own7.at1.2.1, own7.at2.2.2.1, own7.at2.2.1, hk.below own7.below⟩ (by kernel_rfl) (by kernel_rfl) ?_
    intro W1 hb1 hC1
    by_cases hab : a = b
    · have f1 : decide (a = b) = true := by simp [hab]
      clear hab
      iterate 4 (refine wpMix_q rfl (fun K hK => ?_); refine ⟨_, (fun Wq hWq => by obtain ⟨g1, l1, g2, l2, hkq⟩ := hWq; go_simp; exact rfl), ?_⟩; go_simp; refine hK _ ?_; clear hK K)
      iterate 5 (refine wpMix_qn rfl (fun K hK => ?_); go_simp; refine hK _ ?_; clear hK K)
      iterate 2 (refine wpMix_q rfl (fun K hK => ?_); refine ⟨_, (fun Wq hWq => by obtain ⟨g1, l1, g2, l2, hkq⟩ := hWq; go_simp; exact rfl), ?_⟩; go_simp; refine hK _ ?_; clear hK K)
      iterate 3 (refine wpMix_qn rfl (fun K hK => ?_); go_simp; refine hK _ ?_; clear hK K)
      iterate 2 (refine wpMix_q rfl (fun K hK => ?_); refine ⟨_, (fun Wq hWq => by obtain ⟨g1, l1, g2, l2, hkq⟩ := hWq; go_simp; exact rfl), ?_⟩; go_simp; refine hK _ ?_; clear hK K)
      iterate 3 (refine wpMix_qn rfl (fun K hK => ?_); go_simp; refine hK _ ?_; clear hK K)
      iterate 2 (refine wpMix_q rfl (fun K hK => ?_); refine ⟨_, (fun Wq hWq => by obtain ⟨g1, l1, g2, l2, hkq⟩ := hWq; go_simp; exact rfl), ?_⟩; go_simp; refine hK _ ?_; clear hK K)
      refine wpMix_nil (fun W2 hb2 => ?_)
      go_wp2_with fail
      go_ret
      exact ⟨rfl, ((own7.call hb1).call hb2).below⟩
    have f1 : decide (a = b) = false := by simp [hab]
    by_cases hkk : ka = kb
    · have f2 : decide (ka = kb) = true := by simp [hkk]
      clear hkk hab
      iterate 4 (refine wpMix_q rfl (fun K hK => ?_); refine ⟨_, (fun Wq hWq => by obtain ⟨g1, l1, g2, l2, hkq⟩ := hWq; go_simp; exact rfl), ?_⟩; go_simp; refine hK _ ?_; clear hK K)
      iterate 1 (refine wpMix_qy rfl (fun K hK => ?_); refine ⟨_, (fun Wq hWq => by obtain ⟨g1, l1, g2, l2, hkq⟩ := hWq; go_simp; exact rfl), ?_⟩; go_simp; refine hK _ ?_; clear hK K)
      refine wpMix_qy rfl (fun K hK => ?_); refine ⟨_, (fun Wq hWq => by obtain ⟨g1, l1, g2, l2, hkq⟩ := hWq; go_simp; exact Calls.grow_of ((rha () ▸ Hash_any a Wq hkq ha)) rfl), ?_⟩; go_simp; refine hK _ ?_; clear hK K
      iterate 1 (refine wpMix_qy rfl (fun K hK => ?_); refine ⟨_, (fun Wq hWq => by obtain ⟨g1, l1, g2, l2, hkq⟩ := hWq; go_simp; exact rfl), ?_⟩; go_simp; refine hK _ ?_; clear hK K)
      refine wpMix_qy rfl (fun K hK => ?_); refine ⟨_, (fun Wq hWq => by obtain ⟨g1, l1, g2, l2, hkq⟩ := hWq; go_simp; exact Calls.grow_of ((rhb () ▸ Hash_any b Wq hkq hb)) rfl), ?_⟩; go_simp; refine hK _ ?_; clear hK K
      iterate 1 (refine wpMix_qy rfl (fun K hK => ?_); refine ⟨_, (fun Wq hWq => by obtain ⟨g1, l1, g2, l2, hkq⟩ := hWq; go_simp; exact rfl), ?_⟩; go_simp; refine hK _ ?_; clear hK K)
      iterate 2 (refine wpMix_q rfl (fun K hK => ?_); refine ⟨_, (fun Wq hWq => by obtain ⟨g1, l1, g2, l2, hkq⟩ := hWq; go_simp; exact rfl), ?_⟩; go_simp; refine hK _ ?_; clear hK K)
      iterate 3 (refine wpMix_qn rfl (fun K hK => ?_); go_simp; refine hK _ ?_; clear hK K)
      iterate 2 (refine wpMix_q rfl (fun K hK => ?_); refine ⟨_, (fun Wq hWq => by obtain ⟨g1, l1, g2, l2, hkq⟩ := hWq; go_simp; exact rfl), ?_⟩; go_simp; refine hK _ ?_; clear hK K)
      iterate 3 (refine wpMix_qn rfl (fun K hK => ?_); go_simp; refine hK _ ?_; clear hK K)
      iterate 2 (refine wpMix_q rfl (fun K hK => ?_); refine ⟨_, (fun Wq hWq => by obtain ⟨g1, l1, g2, l2, hkq⟩ := hWq; go_simp; exact rfl), ?_⟩; go_simp; refine hK _ ?_; clear hK K)
      refine wpMix_nil (fun W2 hb2 => ?_)
      go_wp2_with fail
      go_ret
      exact ⟨rfl, ((own7.call hb1).call hb2).below⟩
    have f2 : decide (ka = kb) = false := by simp [hkk]
    obtain rfl := hq hkk
    clear hkk hab
    iterate 4 (refine wpMix_q rfl (fun K hK => ?_); refine ⟨_, (fun Wq hWq => by obtain ⟨g1, l1, g2, l2, hkq⟩ := hWq; go_simp; exact rfl), ?_⟩; go_simp; refine hK _ ?_; clear hK K)
    iterate 1 (refine wpMix_qy rfl (fun K hK => ?_); refine ⟨_, (fun Wq hWq => by obtain ⟨g1, l1, g2, l2, hkq⟩ := hWq; go_simp; exact rfl), ?_⟩; go_simp; refine hK _ ?_; clear hK K)
    refine wpMix_qy rfl (fun K hK => ?_); refine ⟨_, (fun Wq hWq => by obtain ⟨g1, l1, g2, l2, hkq⟩ := hWq; go_simp; exact Calls.grow_of ((rha () ▸ Hash_any a Wq hkq ha)) rfl), ?_⟩; go_simp; refine hK _ ?_; clear hK K
    iterate 1 (refine wpMix_qy rfl (fun K hK => ?_); refine ⟨_, (fun Wq hWq => by obtain ⟨g1, l1, g2, l2, hkq⟩ := hWq; go_simp; exact rfl), ?_⟩; go_simp; refine hK _ ?_; clear hK K)
    refine wpMix_qy rfl (fun K hK => ?_); refine ⟨_, (fun Wq hWq => by obtain ⟨g1, l1, g2, l2, hkq⟩ := hWq; go_simp; exact Calls.grow_of ((rhb () ▸ Hash_any b Wq hkq hb)) rfl), ?_⟩; go_simp; refine hK _ ?_; clear hK K
    iterate 1 (refine wpMix_qy rfl (fun K hK => ?_); refine ⟨_, (fun Wq hWq => by obtain ⟨g1, l1, g2, l2, hkq⟩ := hWq; go_simp; exact rfl), ?_⟩; go_simp; refine hK _ ?_; clear hK K)
    iterate 2 (refine wpMix_q rfl (fun K hK => ?_); refine ⟨_, (fun Wq hWq => by obtain ⟨g1, l1, g2, l2, hkq⟩ := hWq; go_simp; exact rfl), ?_⟩; go_simp; refine hK _ ?_; clear hK K)
    iterate 2 (refine wpMix_qy rfl (fun K hK => ?_); refine ⟨_, (fun Wq hWq => by obtain ⟨g1, l1, g2, l2, hkq⟩ := hWq; go_simp; exact rfl), ?_⟩; go_simp; refine hK _ ?_; clear hK K)
    refine wpMix_qy rfl (fun K hK => ?_); refine ⟨_, (fun Wq hWq => by obtain ⟨g1, l1, g2, l2, hkq⟩ := hWq; go_simp; exact Calls.grow_of ((rp () ▸ Wins_any a b Wq hkq ha hb)) rfl), ?_⟩; go_simp; refine hK _ ?_; clear hK K
    iterate 2 (refine wpMix_q rfl (fun K hK => ?_); refine ⟨_, (fun Wq hWq => by obtain ⟨g1, l1, g2, l2, hkq⟩ := hWq; go_simp; exact rfl), ?_⟩; go_simp; refine hK _ ?_; clear hK K)
    iterate 2 (refine wpMix_qy rfl (fun K hK => ?_); refine ⟨_, (fun Wq hWq => by obtain ⟨g1, l1, g2, l2, hkq⟩ := hWq; go_simp; exact rfl), ?_⟩; go_simp; refine hK _ ?_; clear hK K)
    refine wpMix_qy rfl (fun K hK => ?_); refine ⟨_, (fun Wq hWq => by obtain ⟨g1, l1, g2, l2, hkq⟩ := hWq; go_simp; exact Calls.grow_of ((rq () ▸ Wins_any b a Wq hkq hb ha)) rfl), ?_⟩; go_simp; refine hK _ ?_; clear hK K
    iterate 2 (refine wpMix_q rfl (fun K hK => ?_); refine ⟨_, (fun Wq hWq => by obtain ⟨g1, l1, g2, l2, hkq⟩ := hWq; go_simp; exact rfl), ?_⟩; go_simp; refine hK _ ?_; clear hK K)
    refine wpMix_nil (fun W2 hb2 => ?_)
    go_wp2_with fail
    go_ret
    exact ⟨rfl, ((own7.call hb1).call hb2).below⟩
  · have rq : wins b a = false := wins_not_both rp
    go_wp2_with fail
    refine (Wins_any b a _ (hk.below own7.below) hb ha).mono ?_
    rw [rq]
    rintro e w8 ⟨rfl, hb8⟩
    have own8 := own7.call hb8
    clear own7 hb8 lt0 row0 lt1 row1
    go_wp2_with fail
    obtain ⟨ka, rha⟩ : ∃ k, hashOf a = k := ⟨_, rfl⟩
    obtain ⟨kb, rhb⟩ : ∃ k, hashOf b = k := ⟨_, rfl⟩
    replace rp : ∀ _ : Unit, _ := fun _ => rp
    replace rq : ∀ _ : Unit, _ := fun _ => rq
    replace rha : ∀ _ : Unit, _ := fun _ => rha
    replace rhb : ∀ _ : Unit, _ := fun _ => rhb
    refine wp_region_mix [true, true, true, true, true, true, true, true, true, true, true, true, true, true, true, true, true, true, true, true, true] (fun W => W.rowD w.heap.size = encSt a ∧ w.heap.size < W.heap.size ∧ W.rowD (w.heap.size + 1) = encSt b ∧ w.heap.size + 1 < W.heap.size ∧ Keyed W)
      (fun W W' h hb => by obtain ⟨g1, l1, g2, l2, hkq⟩ := h; exact ⟨(rowD_congr (hb.block _ l1)).trans g1, Nat.lt_of_lt_of_le l1 hb.size, (rowD_congr (hb.block _ l2)).trans g2, Nat.lt_of_lt_of_le l2 hb.size, hkq.below hb⟩)
      ⟨own8.at1.2.2.1, own8.at1.2.1, own8.at2.2.2.1, own8.at2.2.1, hk.below own8.below⟩ (by kernel_rfl) (by kernel_rfl) ?_
    intro W1 hb1 hC1
    by_cases hab : a = b
    · have f1 : decide (a = b) = true := by simp [hab]
      clear hab
      iterate 4 (refine wpMix_q rfl (fun K hK => ?_); refine ⟨_, (fun Wq hWq => by obtain ⟨g1, l1, g2, l2, hkq⟩ := hWq; go_simp; exact rfl), ?_⟩; go_simp; refine hK _ ?_; clear hK K)
      iterate 5 (refine wpMix_qn rfl (fun K hK => ?_); go_simp; refine hK _ ?_; clear hK K)
      iterate 2 (refine wpMix_q rfl (fun K hK => ?_); refine ⟨_, (fun Wq hWq => by obtain ⟨g1, l1, g2, l2, hkq⟩ := hWq; go_simp; exact rfl), ?_⟩; go_simp; refine hK _ ?_; clear hK K)
      iterate 3 (refine wpMix_qn rfl (fun K hK => ?_); go_simp; refine hK _ ?_; clear hK K)
      iterate 2 (refine wpMix_q rfl (fun K hK => ?_); refine ⟨_, (fun Wq hWq => by obtain ⟨g1, l1, g2, l2, hkq⟩ := hWq; go_simp; exact rfl), ?_⟩; go_simp; refine hK _ ?_; clear hK K)
      iterate 3 (refine wpMix_qn rfl (fun K hK => ?_); go_simp; refine hK _ ?_; clear hK K)
      iterate 2 (refine wpMix_q rfl (fun K hK => ?_); refine ⟨_, (fun Wq hWq => by obtain ⟨g1, l1, g2, l2, hkq⟩ := hWq; go_simp; exact rfl), ?_⟩; go_simp; refine hK _ ?_; clear hK K)
      refine wpMix_nil (fun W2 hb2 => ?_)
      go_wp2_with fail
      go_ret
      exact ⟨rfl, ((own8.call hb1).call hb2).below⟩
    have f1 : decide (a = b) = false := by simp [hab]
    by_cases hkk : ka = kb
    · have f2 : decide (ka = kb) = true := by simp [hkk]
      clear hkk hab
      iterate 4 (refine wpMix_q rfl (fun K hK => ?_); refine ⟨_, (fun Wq hWq => by obtain ⟨g1, l1, g2, l2, hkq⟩ := hWq; go_simp; exact rfl), ?_⟩; go_simp; refine hK _ ?_; clear hK K)
      iterate 1 (refine wpMix_qy rfl (fun K hK => ?_); refine ⟨_, (fun Wq hWq => by obtain ⟨g1, l1, g2, l2, hkq⟩ := hWq; go_simp; exact rfl), ?_⟩; go_simp; refine hK _ ?_; clear hK K)
      refine wpMix_qy rfl (fun K hK => ?_); refine ⟨_, (fun Wq hWq => by obtain ⟨g1, l1, g2, l2, hkq⟩ := hWq; go_simp; exact Calls.grow_of ((rha () ▸ Hash_any a Wq hkq ha)) rfl), ?_⟩; go_simp; refine hK _ ?_; clear hK K
      iterate 1 (refine wpMix_qy rfl (fun K hK => ?_); refine ⟨_, (fun Wq hWq => by obtain ⟨g1, l1, g2, l2, hkq⟩ := hWq; go_simp; exact rfl), ?_⟩; go_simp; refine hK _ ?_; clear hK K)
      refine wpMix_qy rfl (fun K hK => ?_); refine ⟨_, (fun Wq hWq => by obtain ⟨g1, l1, g2, l2, hkq⟩ := hWq; go_simp; exact Calls.grow_of ((rhb () ▸ Hash_any b Wq hkq hb)) rfl), ?_⟩; go_simp; refine hK _ ?_; clear hK K
      iterate 1 (refine wpMix_qy rfl (fun K hK => ?_); refine ⟨_, (fun Wq hWq => by obtain ⟨g1, l1, g2, l2, hkq⟩ := hWq; go_simp; exact rfl), ?_⟩; go_simp; refine hK _ ?_; clear hK K)
      iterate 2 (refine wpMix_q rfl (fun K hK => ?_); refine ⟨_, (fun Wq hWq => by obtain ⟨g1, l1, g2, l2, hkq⟩ := hWq; go_simp; exact rfl), ?_⟩; go_simp; refine hK _ ?_; clear hK K)
      iterate 3 (refine wpMix_qn rfl (fun K hK => ?_); go_simp; refine hK _ ?_; clear hK K)
      iterate 2 (refine wpMix_q rfl (fun K hK => ?_); refine ⟨_, (fun Wq hWq => by obtain ⟨g1, l1, g2, l2, hkq⟩ := hWq; go_simp; exact rfl), ?_⟩; go_simp; refine hK _ ?_; clear hK K)
      iterate 3 (refine wpMix_qn rfl (fun K hK => ?_); go_simp; refine hK _ ?_; clear hK K)
      iterate 2 (refine wpMix_q rfl (fun K hK => ?_); refine ⟨_, (fun Wq hWq => by obtain ⟨g1, l1, g2, l2, hkq⟩ := hWq; go_simp; exact rfl), ?_⟩; go_simp; refine hK _ ?_; clear hK K)
      refine wpMix_nil (fun W2 hb2 => ?_)
      go_wp2_with fail
      go_ret
      exact ⟨rfl, ((own8.call hb1).call hb2).below⟩
    have f2 : decide (ka = kb) = false := by simp [hkk]
    clear hkk hab
    iterate 4 (refine wpMix_q rfl (fun K hK => ?_); refine ⟨_, (fun Wq hWq => by obtain ⟨g1, l1, g2, l2, hkq⟩ := hWq; go_simp; exact rfl), ?_⟩; go_simp; refine hK _ ?_; clear hK K)
    iterate 1 (refine wpMix_qy rfl (fun K hK => ?_); refine ⟨_, (fun Wq hWq => by obtain ⟨g1, l1, g2, l2, hkq⟩ := hWq; go_simp; exact rfl), ?_⟩; go_simp; refine hK _ ?_; clear hK K)
    refine wpMix_qy rfl (fun K hK => ?_); refine ⟨_, (fun Wq hWq => by obtain ⟨g1, l1, g2, l2, hkq⟩ := hWq; go_simp; exact Calls.grow_of ((rha () ▸ Hash_any a Wq hkq ha)) rfl), ?_⟩; go_simp; refine hK _ ?_; clear hK K
    iterate 1 (refine wpMix_qy rfl (fun K hK => ?_); refine ⟨_, (fun Wq hWq => by obtain ⟨g1, l1, g2, l2, hkq⟩ := hWq; go_simp; exact rfl), ?_⟩; go_simp; refine hK _ ?_; clear hK K)
    refine wpMix_qy rfl (fun K hK => ?_); refine ⟨_, (fun Wq hWq => by obtain ⟨g1, l1, g2, l2, hkq⟩ := hWq; go_simp; exact Calls.grow_of ((rhb () ▸ Hash_any b Wq hkq hb)) rfl), ?_⟩; go_simp; refine hK _ ?_; clear hK K
    iterate 1 (refine wpMix_qy rfl (fun K hK => ?_); refine ⟨_, (fun Wq hWq => by obtain ⟨g1, l1, g2, l2, hkq⟩ := hWq; go_simp; exact rfl), ?_⟩; go_simp; refine hK _ ?_; clear hK K)
    iterate 2 (refine wpMix_q rfl (fun K hK => ?_); refine ⟨_, (fun Wq hWq => by obtain ⟨g1, l1, g2, l2, hkq⟩ := hWq; go_simp; exact rfl), ?_⟩; go_simp; refine hK _ ?_; clear hK K)
    iterate 2 (refine wpMix_qy rfl (fun K hK => ?_); refine ⟨_, (fun Wq hWq => by obtain ⟨g1, l1, g2, l2, hkq⟩ := hWq; go_simp; exact rfl), ?_⟩; go_simp; refine hK _ ?_; clear hK K)
    refine wpMix_qy rfl (fun K hK => ?_); refine ⟨_, (fun Wq hWq => by obtain ⟨g1, l1, g2, l2, hkq⟩ := hWq; go_simp; exact Calls.grow_of ((rp () ▸ Wins_any a b Wq hkq ha hb)) rfl), ?_⟩; go_simp; refine hK _ ?_; clear hK K
    iterate 2 (refine wpMix_q rfl (fun K hK => ?_); refine ⟨_, (fun Wq hWq => by obtain ⟨g1, l1, g2, l2, hkq⟩ := hWq; go_simp; exact rfl), ?_⟩; go_simp; refine hK _ ?_; clear hK K)
    iterate 3 (refine wpMix_qn rfl (fun K hK => ?_); go_simp; refine hK _ ?_; clear hK K)
    iterate 2 (refine wpMix_q rfl (fun K hK => ?_); refine ⟨_, (fun Wq hWq => by obtain ⟨g1, l1, g2, l2, hkq⟩ := hWq; go_simp; exact rfl), ?_⟩; go_simp; refine hK _ ?_; clear hK K)
    refine wpMix_nil (fun W2 hb2 => ?_)
    go_wp2_with fail
    go_ret
    exact ⟨rfl, ((own8.call hb1).call hb2).below⟩
end Go.Proofs.YtpoaakdljpdkfaaDoor

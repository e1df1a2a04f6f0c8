/- THE WALKS OF choose: near. -/
import Derived.Test.YtpoaakdljpdkfaaDoorC36
import Derived.Test.YtpoaakdljpdkfaaDoorTwo
import Derived.Test.YtpoaakdljpdkfaaDoorC27
set_option linter.unusedSimpArgs false
set_option linter.unusedVariables false
namespace Go.Proofs.YtpoaakdljpdkfaaDoor
open Go.RowKit Go.Alm
@[go_sem] theorem zcPt (x : Pt) : spliceL Tryd.zeroCells136 0 (encPt x).toList = encPt x := by
  rw [spliceL_all _ _ (by rw [Array.length_toList, size_encPt]; kernel_rfl)]
theorem zc_pt : Tryd.zeroCells136 = encPt pt0 := by kernel_rfl
set_option maxRecDepth 20000 in
set_option maxHeartbeats 1000000 in
theorem beside_any (p : Pt) (w : World) (hp : p.a.slot < 4294967296 ∧ p.b.slot < 4294967296) : Calls Tryd.prog 76 #[.agg (encPt p)] w fun e w' => e = .returned (.bool (beside p.a p.b)) ∧ Below w.heap.size w w' := by
  have hV : ∀ _ : Unit, beside p.a p.b = (decide (epochOf p.a.slot = epochOf p.b.slot) && decide (p.a.epochs.now.lock = p.b.epochs.now.lock)) := fun _ => rfl
  go_enter Tryd.func76, Tryd.ntmps76
  go_wp2_with fail
  generalize hW : World.alloc w _ = W
  have own : Owns w W [(w.heap.size, encPt p)] := hW ▸ own_one w _ _
  clear hW
  refine wp_region_mix [true, true, true, true, true, true, true, true, true, true, true, true, true, true, true, true, true, true, true, true, true, true, true] (fun W => W.rowD w.heap.size = encPt p ∧ w.heap.size < W.heap.size)
    (fun W W' h hb => ⟨(rowD_congr (hb.block _ h.2)).trans h.1, Nat.lt_of_lt_of_le h.2 hb.size⟩) ⟨own.at1.2.2.1, own.at1.2.1⟩ (by kernel_rfl) (by kernel_rfl) ?_
  intro W1 hb1 hC1
  iterate 3 (refine wpMix_q rfl (fun K hK => ?_); refine ⟨_, (fun Wq hWq => by obtain ⟨g1, l1⟩ := hWq; go_simp; exact rfl), ?_⟩; go_simp; refine hK _ ?_; clear hK K)
  refine wpMix_q rfl (fun K hK => ?_); refine ⟨_, (fun Wq hWq => by obtain ⟨g1, l1⟩ := hWq; go_simp; exact Calls.grow_of ((Epoch_any p.a.slot Wq hp.1)) rfl), ?_⟩; go_simp; refine hK _ ?_; clear hK K
  iterate 3 (refine wpMix_q rfl (fun K hK => ?_); refine ⟨_, (fun Wq hWq => by obtain ⟨g1, l1⟩ := hWq; go_simp; exact rfl), ?_⟩; go_simp; refine hK _ ?_; clear hK K)
  refine wpMix_q rfl (fun K hK => ?_); refine ⟨_, (fun Wq hWq => by obtain ⟨g1, l1⟩ := hWq; go_simp; exact Calls.grow_of ((Epoch_any p.b.slot Wq hp.2)) rfl), ?_⟩; go_simp; refine hK _ ?_; clear hK K
  by_cases h1 : epochOf p.a.slot = epochOf p.b.slot
  · have f1 : ((epochOf p.a.slot : Int) == (epochOf p.b.slot : Int)) = true := by rw [h1]; simp
    iterate 2 (refine wpMix_q rfl (fun K hK => ?_); refine ⟨_, (fun Wq hWq => by obtain ⟨g1, l1⟩ := hWq; go_simp; exact rfl), ?_⟩; go_simp; refine hK _ ?_; clear hK K)
    iterate 11 (refine wpMix_qy rfl (fun K hK => ?_); refine ⟨_, (fun Wq hWq => by obtain ⟨g1, l1⟩ := hWq; go_simp; exact rfl), ?_⟩; go_simp; refine hK _ ?_; clear hK K)
    iterate 2 (refine wpMix_q rfl (fun K hK => ?_); refine ⟨_, (fun Wq hWq => by obtain ⟨g1, l1⟩ := hWq; go_simp; exact rfl), ?_⟩; go_simp; refine hK _ ?_; clear hK K)
    refine wpMix_nil (fun W2 hb2 => ?_)
    go_wp2_with fail
    go_ret
    exact ⟨by rw [hV ()]; simp [h1], ((own.call hb1).call hb2).below⟩
  · have f1 : ((epochOf p.a.slot : Int) == (epochOf p.b.slot : Int)) = false := by simpa using fun h => h1 (by omega)
    iterate 2 (refine wpMix_q rfl (fun K hK => ?_); refine ⟨_, (fun Wq hWq => by obtain ⟨g1, l1⟩ := hWq; go_simp; exact rfl), ?_⟩; go_simp; refine hK _ ?_; clear hK K)
    iterate 11 (refine wpMix_qn rfl (fun K hK => ?_); go_simp; refine hK _ ?_; clear hK K)
    iterate 2 (refine wpMix_q rfl (fun K hK => ?_); refine ⟨_, (fun Wq hWq => by obtain ⟨g1, l1⟩ := hWq; go_simp; exact rfl), ?_⟩; go_simp; refine hK _ ?_; clear hK K)
    refine wpMix_nil (fun W2 hb2 => ?_)
    go_wp2_with fail
    go_ret
    exact ⟨by rw [hV ()]; simp [h1], ((own.call hb1).call hb2).below⟩

set_option maxRecDepth 20000 in
set_option maxHeartbeats 1000000 in
theorem behind_any (p : Pt) (w : World) (hp : p.a.slot < 4294967296 ∧ p.b.slot < 4294967296) : Calls Tryd.prog 77 #[.agg (encPt p)] w fun e w' => e = .returned (.bool (behind p.a p.b)) ∧ Below w.heap.size w w' := by
  have hV : ∀ _ : Unit, behind p.a p.b = (decide (epochOf p.a.slot < epochOf p.b.slot) && decide (epochOf p.b.slot - epochOf p.a.slot = 1) && !locking p.a.slot && decide (p.b.epochs.now.lock = p.a.epochs.next.lock)) := fun _ => rfl
  have he1 : epochOf p.a.slot < 4294967296 := Nat.lt_of_le_of_lt (Nat.div_le_self _ _) hp.1
  have he2 : epochOf p.b.slot < 4294967296 := Nat.lt_of_le_of_lt (Nat.div_le_self _ _) hp.2
  go_enter Tryd.func77, Tryd.ntmps77
  go_wp2_with fail
  generalize hW : World.alloc w _ = W
  have own : Owns w W [(w.heap.size, encPt p)] := hW ▸ own_one w _ _
  clear hW
  refine wp_region_mix [true, true, true, true, true, true, true, true, true, true] (fun W => W.rowD w.heap.size = encPt p ∧ w.heap.size < W.heap.size)
    (fun W W' h hb => ⟨(rowD_congr (hb.block _ h.2)).trans h.1, Nat.lt_of_lt_of_le h.2 hb.size⟩) ⟨own.at1.2.2.1, own.at1.2.1⟩ (by kernel_rfl) (by kernel_rfl) ?_
  intro W1 hb1 hC1
  iterate 3 (refine wpMix_q rfl (fun K hK => ?_); refine ⟨_, (fun Wq hWq => by obtain ⟨g1, l1⟩ := hWq; go_simp; exact rfl), ?_⟩; go_simp; refine hK _ ?_; clear hK K)
  refine wpMix_q rfl (fun K hK => ?_); refine ⟨_, (fun Wq hWq => by obtain ⟨g1, l1⟩ := hWq; go_simp; exact Calls.grow_of ((Epoch_any p.a.slot Wq hp.1)) rfl), ?_⟩; go_simp; refine hK _ ?_; clear hK K
  iterate 3 (refine wpMix_q rfl (fun K hK => ?_); refine ⟨_, (fun Wq hWq => by obtain ⟨g1, l1⟩ := hWq; go_simp; exact rfl), ?_⟩; go_simp; refine hK _ ?_; clear hK K)
  refine wpMix_q rfl (fun K hK => ?_); refine ⟨_, (fun Wq hWq => by obtain ⟨g1, l1⟩ := hWq; go_simp; exact Calls.grow_of ((Epoch_any p.b.slot Wq hp.2)) rfl), ?_⟩; go_simp; refine hK _ ?_; clear hK K
  iterate 2 (refine wpMix_q rfl (fun K hK => ?_); refine ⟨_, (fun Wq hWq => by obtain ⟨g1, l1⟩ := hWq; go_simp; exact rfl), ?_⟩; go_simp; refine hK _ ?_; clear hK K)
  refine wpMix_nil (fun W2 hb2 => ?_)
  have own2 := (own.call hb1).call hb2
  clear own hb1 hC1 hb2
  obtain ⟨-, lt0, row0, -⟩ := own2.at1
  by_cases h1 : epochOf p.a.slot < epochOf p.b.slot
  rotate_left
  · go_wp2_with fail
    go_ret
    exact ⟨by rw [hV ()]; simp [h1], own2.below⟩
  by_cases h2 : epochOf p.b.slot - epochOf p.a.slot = 1
  rotate_left
  · have f2 : (((epochOf p.b.slot : Nat) : Int) - ((epochOf p.a.slot : Nat) : Int) == 1) = false := by simpa using (by omega : ¬ ((epochOf p.b.slot : Nat) : Int) - ((epochOf p.a.slot : Nat) : Int) = 1)
    go_wp2_with fail
    go_ret
    exact ⟨by rw [hV ()]; simp [h2], own2.below⟩
  have f2 : (((epochOf p.b.slot : Nat) : Int) - ((epochOf p.a.slot : Nat) : Int) == 1) = true := by simpa using (by omega : ((epochOf p.b.slot : Nat) : Int) - ((epochOf p.a.slot : Nat) : Int) = 1)
  go_wp2_with fail
  refine (Locking_any p.a.slot _ hp.1).mono ?_
  rintro e w3 ⟨rfl, hb3⟩
  have own3 := own2.call hb3
  clear own2 hb3 lt0 row0
  obtain ⟨-, lt0, row0, -⟩ := own3.at1
  by_cases h3 : locking p.a.slot = true
  · go_wp2_with fail
    go_ret
    exact ⟨by rw [hV ()]; simp [h1, h2, h3], own3.below⟩
  · replace h3 : locking p.a.slot = false := by simpa using h3
    go_wp2_with fail
    go_ret
    exact ⟨by rw [hV ()]; simp [h1, h2, h3], own3.below⟩

set_option maxRecDepth 20000 in
set_option maxHeartbeats 2000000 in
theorem Near_any (a b : St) (w : World) (ha : a.slot < 4294967296) (hb : b.slot < 4294967296) : Calls Tryd.prog 31 #[.agg (encSt a), .agg (encSt b)] w fun e w' => e = .returned (.bool (near a b)) ∧ Below w.heap.size w w' := by
  have hV : ∀ _ : Unit, near a b = (beside a b || behind a b || behind b a) := fun _ => rfl
  go_enter Tryd.func31, Tryd.ntmps31
  go_wp2_with fail
  generalize hW : World.alloc (World.alloc w _) _ = W
  have own : Owns w W [(w.heap.size, encSt a), (w.heap.size + 1, encSt b)] := hW ▸ own_two w _ _ _ _
  clear hW
  refine wp_region_two 6 7 (by decide) (by decide) (by decide) (by kernel_rfl) ?_ ?_ ?_
  · intro o ho
    simp only [List.mem_cons, List.not_mem_nil, or_false] at ho
    rcases ho with rfl | rfl | rfl | rfl | rfl | rfl | rfl | rfl | rfl | rfl
    all_goals first | exact callsNot_v _ (fun _ => rfl) | exact callsNot_u _ (fun _ => rfl)
  · refine wpAny_ord [(true, 0), (true, 1), (true, 2), (true, 3), (true, 4), (true, 5), (false, 7), (false, 6), (false, 8), (false, 9)] (fun W => W.rowD w.heap.size = encSt a ∧ w.heap.size < W.heap.size ∧ W.rowD (w.heap.size + 1) = encSt b ∧ w.heap.size + 1 < W.heap.size)
      (fun W W' h hb => ⟨(rowD_congr (hb.block _ h.2.1)).trans h.1, Nat.lt_of_lt_of_le h.2.1 hb.size, (rowD_congr (hb.block _ h.2.2.2)).trans h.2.2.1, Nat.lt_of_lt_of_le h.2.2.2 hb.size⟩)
      ⟨own.at1.2.2.1, own.at1.2.1, own.at2.2.2.1, own.at2.2.1⟩ (by kernel_rfl) ?_
    intro W1 hb1 hC1
    iterate 6 (refine wpMix_q rfl (fun K hK => ?_); refine ⟨_, (fun Wq hWq => by obtain ⟨g1, l1, g2, l2⟩ := hWq; go_simp; exact rfl), ?_⟩; go_simp; refine hK _ ?_; clear hK K)
    refine wpMix_s rfl (fun W2 hb2 K hK => ?_)
    have own2 := (own.call hb1).call hb2
    clear own hb1 hC1 hb2
    unfold Oper.calm
    go_simp
    have own3 := own2.alloc Tryd.zeroCells136 136
    simp only [List.cons_append, List.nil_append] at own3
    refine hK _ _ ⟨own3.at1.2.2.1, own3.at1.2.1, own3.at2.2.2.1, own3.at2.2.1⟩ ?_
    clear hK K
    have hl0 := own2.at2.2.1
    generalize World.alloc W2 _ = W3 at own3 ⊢
    generalize W2.heap.size = c6 at own3 hl0 ⊢
    clear own2
    refine wpMix_s rfl (fun W4 hb4 K hK => ?_)
    have own4 := own3.call hb4
    clear own3 hb4
    unfold Oper.late Oper.calm
    go_simp
    have own5 := own4.alloc Tryd.zeroCells136 136
    simp only [List.cons_append, List.nil_append] at own5
    refine hK _ _ ⟨own5.at1.2.2.1, own5.at1.2.1, own5.at2.2.2.1, own5.at2.2.1⟩ ?_
    clear hK K
    have hl1 := own4.at3.2.1
    generalize World.alloc W4 _ = W5 at own5 ⊢
    generalize W4.heap.size = c5 at own5 hl1 ⊢
    clear own4
    have own5' := own5
    have hc56 : c5 ≠ c6 := by omega
    have hc5 : w.heap.size + 1 < c5 := by omega
    have hc6 : w.heap.size + 1 < c6 := by omega
    replace own5 : Owns w W5 [(w.heap.size, encSt a), (w.heap.size + 1, encSt b), (c5, Tryd.zeroCells136), (c6, Tryd.zeroCells136)] := own5'.sub (by intro p hp; simp only [List.mem_cons, List.not_mem_nil, or_false] at hp ⊢; rcases hp with h | h | h | h <;> simp [h])
    clear own5' hl0 hl1
    refine wpMix_s rfl (fun W6 hb6 K hK => ?_)
    have own6 := own5.call hb6
    clear own5 hb6
    obtain ⟨-, lt5, row5, fr5⟩ := own6.at3
    unfold Oper.calm
    go_simp
    have own7 := own6.setCells c5 0 (encPt ⟨a, b⟩).toList (by omega)
    simp only [List.map_cons, List.map_nil, if_true, if_neg (show ¬ w.heap.size = c5 by omega), if_neg (show ¬ w.heap.size + 1 = c5 by omega), if_neg (show ¬ c6 = c5 by omega), zcPt] at own7
    refine hK _ _ ⟨own7.at1.2.2.1, own7.at1.2.1, own7.at2.2.2.1, own7.at2.2.1⟩ ?_
    clear hK K own6 lt5 row5 fr5
    generalize World.setCells W6 _ _ _ = W7 at own7 ⊢
    refine wpMix_s rfl (fun W8 hb8 K hK => ?_)
    have own8 := own7.call hb8
    clear own7 hb8
    obtain ⟨-, lt5, row5, fr5⟩ := own8.at4
    unfold Oper.calm
    go_simp
    have own9 := own8.setCells c6 0 (encPt ⟨b, a⟩).toList (by omega)
    simp only [List.map_cons, List.map_nil, if_true, if_neg (show ¬ w.heap.size = c6 by omega), if_neg (show ¬ w.heap.size + 1 = c6 by omega), if_neg (show ¬ c5 = c6 by omega), zcPt] at own9
    refine hK _ _ ⟨own9.at1.2.2.1, own9.at1.2.1, own9.at2.2.2.1, own9.at2.2.1⟩ ?_
    clear hK K own8 lt5 row5 fr5
    generalize World.setCells W8 _ _ _ = W9 at own9 ⊢
    refine wpMix_nil (fun W10 hb10 => ?_)
    have own10 := (own9.call hb10).sub (M := [(c5, encPt ⟨a, b⟩), (c6, encPt ⟨b, a⟩)]) (by intro p hp; simp only [List.mem_cons, List.not_mem_nil, or_false] at hp ⊢; rcases hp with h | h <;> simp [h])
    clear own9 hb10 hc56 hc5 hc6
    obtain ⟨-, lt5, row5, -⟩ := own10.at1
    go_wp2_with fail
    refine (beside_any ⟨a, b⟩ _ ⟨ha, hb⟩).mono ?_
    rintro e w11 ⟨rfl, hb11⟩
    have own11 := own10.call hb11
    clear own10 hb11 lt5 row5
    obtain ⟨-, lt5, row5, -⟩ := own11.at1
    simp only
    by_cases k1 : beside a b = true
    · go_wp2_with fail
      go_ret
      exact ⟨by rw [hV ()]; simp [k1], own11.below⟩
    replace k1 : beside a b = false := by simpa using k1
    go_wp2_with fail
    refine (behind_any ⟨a, b⟩ _ ⟨ha, hb⟩).mono ?_
    rintro e w12 ⟨rfl, hb12⟩
    have own12 := own11.call hb12
    clear own11 hb12 lt5 row5
    obtain ⟨-, lt6, row6, -⟩ := own12.at2
    simp only
    by_cases k2 : behind a b = true
    · go_wp2_with fail
      go_ret
      exact ⟨by rw [hV ()]; simp [k2], own12.below⟩
    replace k2 : behind a b = false := by simpa using k2
    go_wp2_with fail
    refine (behind_any ⟨b, a⟩ _ ⟨hb, ha⟩).mono ?_
    rintro e w13 ⟨rfl, hb13⟩
    have own13 := own12.call hb13
    clear own12 hb13 lt6 row6
    simp only
    go_wp2_with fail
    go_ret
    exact ⟨by rw [hV ()]; simp [k1, k2], own13.below⟩
  · refine wpAny_ord [(true, 0), (true, 1), (true, 2), (true, 3), (true, 4), (true, 5), (false, 6), (false, 7), (false, 8), (false, 9)] (fun W => W.rowD w.heap.size = encSt a ∧ w.heap.size < W.heap.size ∧ W.rowD (w.heap.size + 1) = encSt b ∧ w.heap.size + 1 < W.heap.size)
      (fun W W' h hb => ⟨(rowD_congr (hb.block _ h.2.1)).trans h.1, Nat.lt_of_lt_of_le h.2.1 hb.size, (rowD_congr (hb.block _ h.2.2.2)).trans h.2.2.1, Nat.lt_of_lt_of_le h.2.2.2 hb.size⟩)
      ⟨own.at1.2.2.1, own.at1.2.1, own.at2.2.2.1, own.at2.2.1⟩ (by kernel_rfl) ?_
    intro W1 hb1 hC1
    iterate 6 (refine wpMix_q rfl (fun K hK => ?_); refine ⟨_, (fun Wq hWq => by obtain ⟨g1, l1, g2, l2⟩ := hWq; go_simp; exact rfl), ?_⟩; go_simp; refine hK _ ?_; clear hK K)
    refine wpMix_s rfl (fun W2 hb2 K hK => ?_)
    have own2 := (own.call hb1).call hb2
    clear own hb1 hC1 hb2
    unfold Oper.calm
    go_simp
    have own3 := own2.alloc Tryd.zeroCells136 136
    simp only [List.cons_append, List.nil_append] at own3
    refine hK _ _ ⟨own3.at1.2.2.1, own3.at1.2.1, own3.at2.2.2.1, own3.at2.2.1⟩ ?_
    clear hK K
    have hl0 := own2.at2.2.1
    generalize World.alloc W2 _ = W3 at own3 ⊢
    generalize W2.heap.size = c5 at own3 hl0 ⊢
    clear own2
    refine wpMix_s rfl (fun W4 hb4 K hK => ?_)
    have own4 := own3.call hb4
    clear own3 hb4
    unfold Oper.late Oper.calm
    go_simp
    have own5 := own4.alloc Tryd.zeroCells136 136
    simp only [List.cons_append, List.nil_append] at own5
    refine hK _ _ ⟨own5.at1.2.2.1, own5.at1.2.1, own5.at2.2.2.1, own5.at2.2.1⟩ ?_
    clear hK K
    have hl1 := own4.at3.2.1
    generalize World.alloc W4 _ = W5 at own5 ⊢
    generalize W4.heap.size = c6 at own5 hl1 ⊢
    clear own4
    have own5' := own5
    have hc56 : c5 ≠ c6 := by omega
    have hc5 : w.heap.size + 1 < c5 := by omega
    have hc6 : w.heap.size + 1 < c6 := by omega
    replace own5 : Owns w W5 [(w.heap.size, encSt a), (w.heap.size + 1, encSt b), (c5, Tryd.zeroCells136), (c6, Tryd.zeroCells136)] := own5'.sub (by intro p hp; simp only [List.mem_cons, List.not_mem_nil, or_false] at hp ⊢; rcases hp with h | h | h | h <;> simp [h])
    clear own5' hl0 hl1
    refine wpMix_s rfl (fun W6 hb6 K hK => ?_)
    have own6 := own5.call hb6
    clear own5 hb6
    obtain ⟨-, lt5, row5, fr5⟩ := own6.at3
    unfold Oper.calm
    go_simp
    have own7 := own6.setCells c5 0 (encPt ⟨a, b⟩).toList (by omega)
    simp only [List.map_cons, List.map_nil, if_true, if_neg (show ¬ w.heap.size = c5 by omega), if_neg (show ¬ w.heap.size + 1 = c5 by omega), if_neg (show ¬ c6 = c5 by omega), zcPt] at own7
    refine hK _ _ ⟨own7.at1.2.2.1, own7.at1.2.1, own7.at2.2.2.1, own7.at2.2.1⟩ ?_
    clear hK K own6 lt5 row5 fr5
    generalize World.setCells W6 _ _ _ = W7 at own7 ⊢
    refine wpMix_s rfl (fun W8 hb8 K hK => ?_)
    have own8 := own7.call hb8
    clear own7 hb8
    obtain ⟨-, lt5, row5, fr5⟩ := own8.at4
    unfold Oper.calm
    go_simp
    have own9 := own8.setCells c6 0 (encPt ⟨b, a⟩).toList (by omega)
    simp only [List.map_cons, List.map_nil, if_true, if_neg (show ¬ w.heap.size = c6 by omega), if_neg (show ¬ w.heap.size + 1 = c6 by omega), if_neg (show ¬ c5 = c6 by omega), zcPt] at own9
    refine hK _ _ ⟨own9.at1.2.2.1, own9.at1.2.1, own9.at2.2.2.1, own9.at2.2.1⟩ ?_
    clear hK K own8 lt5 row5 fr5
    generalize World.setCells W8 _ _ _ = W9 at own9 ⊢
    refine wpMix_nil (fun W10 hb10 => ?_)
    have own10 := (own9.call hb10).sub (M := [(c5, encPt ⟨a, b⟩), (c6, encPt ⟨b, a⟩)]) (by intro p hp; simp only [List.mem_cons, List.not_mem_nil, or_false] at hp ⊢; rcases hp with h | h <;> simp [h])
    clear own9 hb10 hc56 hc5 hc6
    obtain ⟨-, lt5, row5, -⟩ := own10.at1
    go_wp2_with fail
    refine (beside_any ⟨a, b⟩ _ ⟨ha, hb⟩).mono ?_
    rintro e w11 ⟨rfl, hb11⟩
    have own11 := own10.call hb11
    clear own10 hb11 lt5 row5
    obtain ⟨-, lt5, row5, -⟩ := own11.at1
    simp only
    by_cases k1 : beside a b = true
    · go_wp2_with fail
      go_ret
      exact ⟨by rw [hV ()]; simp [k1], own11.below⟩
    replace k1 : beside a b = false := by simpa using k1
    go_wp2_with fail
    refine (behind_any ⟨a, b⟩ _ ⟨ha, hb⟩).mono ?_
    rintro e w12 ⟨rfl, hb12⟩
    have own12 := own11.call hb12
    clear own11 hb12 lt5 row5
    obtain ⟨-, lt6, row6, -⟩ := own12.at2
    simp only
    by_cases k2 : behind a b = true
    · go_wp2_with fail
      go_ret
      exact ⟨by rw [hV ()]; simp [k2], own12.below⟩
    replace k2 : behind a b = false := by simpa using k2
    go_wp2_with fail
    refine (behind_any ⟨b, a⟩ _ ⟨hb, ha⟩).mono ?_
    rintro e w13 ⟨rfl, hb13⟩
    have own13 := own12.call hb13
    clear own12 hb13 lt6 row6
    simp only
    go_wp2_with fail
    go_ret
    exact ⟨by rw [hV ()]; simp [k1, k2], own13.below⟩
end Go.Proofs.YtpoaakdljpdkfaaDoor

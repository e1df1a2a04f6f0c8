/- THE WALKS OF window: what each of these functions answers. -/
import Derived.Test.YtpoaakdljpdkfaaDoorC4
import Derived.Test.YtpoaakdljpdkfaaDoorMem
set_option linter.unusedSimpArgs false
set_option linter.unusedVariables false
namespace Go.Proofs.YtpoaakdljpdkfaaDoor
open Go.RowKit Go.Alm

theorem WRight_any (x : Wn) (w : World) (hl : x.ring.last < 4294967296) :
    Calls Tryd.prog 56 #[.agg (encWn x)] w fun e w' => e = .returned (.bool (winRight x)) ∧ Below w.heap.size w w' := by
  unfold winRight
  generalize hV : Value.bool _ = V
  replace hV := hV.symm
  go_enter Tryd.func56, Tryd.ntmps56
  by_cases h : x.min ≤ 12
  · go_wp2_with fail
    generalize hW : World.alloc w _ = W
    have own : Owns w W [(w.heap.size, encWn x)] := hW ▸ own_one w _ _
    clear hW
    refine (RRight_any x.ring _ hl).mono ?_
    rintro e w1 ⟨rfl, hb1⟩
    go_wp2_with fail
    go_ret
    exact ⟨by rw [hV]; simp [h], (own.call hb1).below⟩
  · go_wp2_with fail
    go_ret
    exact ⟨rfl, (Below.refl _ _).alloc (Nat.le_refl _) _⟩

set_option maxRecDepth 20000 in
theorem WGenesis_any (w : World) :
    Calls Tryd.prog 67 #[] w fun e w' => e = .returned (.agg (encWn winGenesis)) ∧ Below w.heap.size w w' := by
  have hbld : ∀ w, (buildK 29 #[(0, .int .u32 12), (1, .agg (encRg ringGenesis))]).run Tryd.prog w = .ok (.value (.agg (encWn winGenesis))) w := fun w => bldWn1 12 ringGenesis w
  go_enter Tryd.func67, Tryd.ntmps67
  go_wp2_with fail
  generalize hW : World.alloc w _ = W
  have own : Owns w W [(w.heap.size, encWn win0)] := hW ▸ own_one w _ _
  clear hW
  refine (RGenesis_any _).mono ?_
  rintro e w1 ⟨rfl, hb1⟩
  have own1 := own.call hb1
  obtain ⟨-, lt, row, fr⟩ := own1.at1
  go_wp2_with fail
  exact ret_cell rfl rfl rfl (rWWn _ _ _ (by rw [rowD_setCells_same, row, all_wn])) ⟨rfl, below_setCells _ (by omega) _ _ _ _ own1.below⟩

theorem least_any (x : Cm) (w : World) (hs : x.slot < 4294967296) :
    Calls Tryd.prog 95 #[.agg (encCm x)] w fun e w' => e = .returned (.int .u32 (least x.win x.slot : Nat)) ∧ Below w.heap.size w w' := by
  have hsub : subOf x.slot < 4294967296 := by unfold subOf; omega
  unfold least
  have hB := fun w => Before_any x.win.ring (subOf x.slot) w hsub
  generalize beforeR x.win.ring (subOf x.slot) = b at hB ⊢
  obtain ⟨bn, be⟩ := b
  generalize hV : Value.int _ _ = V
  replace hV := hV.symm
  simp only at hB hV
  go_enter Tryd.func95, Tryd.ntmps95
  go_wp2_with fail
  generalize hW : World.alloc w _ = W
  have own : Owns w W [(w.heap.size, encCm x)] := hW ▸ own_one w _ _
  clear hW
  obtain ⟨-, lt, row, fr⟩ := own.at1
  refine wp_region_ext_tail 11 (by kernel_rfl) (by kernel_rfl) ?_
  simp only [List.take_succ_cons, List.take_zero, List.drop_succ_cons, List.drop_zero]
  iterate 5 (refine wpGrow_step (fun K hK => ?_); go_simp; refine hK _ ?_; clear hK K)
  refine wpGrow_step (fun K hK => ?_); go_simp
  apply Exists.intro
  refine ⟨fun _ => Calls.grow_of (Sub_any _ _ hs) rfl, hK _ ?_⟩; clear hK K
  refine wpGrow_step (fun K hK => ?_); go_simp
  apply Exists.intro
  refine ⟨fun _ => Calls.grow_of (hB _) rfl, hK _ ?_⟩; clear hK K
  iterate 4 (refine wpGrow_step (fun K hK => ?_); go_simp; refine hK _ ?_; clear hK K)
  refine wpGrow_nil ?_
  intro W1 hb1
  have own1 := own.call hb1
  clear own lt row fr
  obtain ⟨-, lt, row, fr⟩ := own1.at1
  by_cases h1 : x.slot < 12
  · rw [if_pos (Or.inl h1)] at hV
    go_wp2_with fail
    go_ret
    exact ⟨by first | rfl | (rw [hV]; rfl), own1.below⟩
  by_cases h2 : be = 0
  · subst h2
    rw [if_neg (by omega)] at hV
    by_cases h3 : bn < x.win.min
    · rw [show min x.win.min bn = bn by omega] at hV
      go_wp2_with fail
      go_ret
      exact ⟨by first | rfl | (rw [hV]; rfl), own1.below⟩
    · rw [show min x.win.min bn = x.win.min by omega] at hV
      go_wp2_with fail
      go_ret
      exact ⟨by first | rfl | (rw [hV]; rfl), own1.below⟩
  · rw [if_pos (Or.inr h2)] at hV
    have h2' : ((be : Int) != 0) = true := by simpa using h2
    go_wp2_with fail
    go_ret
    exact ⟨by first | rfl | (rw [hV]; rfl), own1.below⟩

theorem Relative_any (x : Wn) (s : Nat) (w : World) (hs : s < 4294967296) :
    Calls Tryd.prog 109 #[.agg (encWn x), .int .u32 s] w fun e w' => e = .returned (.int .u32 (least x s : Nat)) ∧ Below w.heap.size w w' := by
  go_enter Tryd.func109, Tryd.ntmps109
  go_wp2_with fail
  generalize hW : World.alloc w _ = W
  have own : Owns w W [(w.heap.size, encWn x)] := hW ▸ own_one w _ _
  clear hW
  refine (least_any ⟨x, s⟩ _ hs).mono ?_
  rintro e w1 ⟨rfl, hb1⟩
  go_wp2_with fail
  go_ret
  exact ⟨rfl, (own.call hb1).below⟩

set_option maxRecDepth 20000 in
theorem WPut_any (x : Wn) (s : Nat) (w : World) (hs : s < 4294967296) :
    Calls Tryd.prog 62 #[.agg (encWn x), .int .u32 s] w fun e w' => e = .returned (.tuple #[.agg (encWn (putW x s).1), .int .i64 ((putW x s).2 : Nat)]) ∧ Below w.heap.size w w' := by
  have hsub : subOf s < 4294967296 := by unfold subOf; omega
  unfold putW
  have hP := fun w => Put_any x.ring (subOf s) w hsub
  generalize putR x.ring (subOf s) = b at hP ⊢
  obtain ⟨bn, be⟩ := b
  simp only at hP ⊢
  generalize hV : Value.tuple _ = V
  replace hV := hV.symm
  go_enter Tryd.func62, Tryd.ntmps62
  go_wp2_with fail
  generalize hW : World.alloc (World.alloc w _) _ = W
  have own : Owns w W [(w.heap.size, encWn x), (w.heap.size + 1, encWn win0)] := hW ▸ own_two w _ _ _ _
  clear hW
  obtain ⟨-, lt, row, fr⟩ := own.at1
  refine wp_region_mid 8 2 (by kernel_rfl) (by kernel_rfl) ?_
  simp only [List.take_succ_cons, List.take_zero, List.drop_succ_cons, List.drop_zero]
  iterate 3 (refine wpGrow_step (fun K hK => ?_); go_simp; refine hK _ ?_; clear hK K)
  refine wpGrow_step (fun K hK => ?_); go_simp
  apply Exists.intro
  refine ⟨fun _ => Calls.grow_of (Sub_any _ _ hs) rfl, hK _ ?_⟩; clear hK K
  refine wpGrow_step (fun K hK => ?_); go_simp
  apply Exists.intro
  refine ⟨fun _ => Calls.grow_of (hP _) rfl, hK _ ?_⟩; clear hK K
  iterate 3 (refine wpGrow_step (fun K hK => ?_); go_simp; refine hK _ ?_; clear hK K)
  refine wpGrow_nil ?_
  intro W1 hb1
  have own1 := own.call hb1
  clear own lt row fr
  have hq := own1.at2.2.1
  refine wpMid_step rfl (fun W2 hb2 K hK => ?_)
  have own2 := (own1.call hb2).alloc (encRg ring0) 27
  have bel2 := hb1.trans (hb2.mono hb1.size)
  have hpW := bel2.size
  replace bel2 := bel2.alloc bel2.size (.cells (encRg ring0) 27)
  have hpw := Nat.lt_of_lt_of_le hq hb2.size
  simp only [List.cons_append, List.nil_append] at own2
  go_simp
  refine hK _ _ bel2 ?_; clear hK K
  show wpMid _ _ _ _ _ (World.alloc W2 (.cells (encRg ring0) 27))
  generalize World.alloc W2 _ = W3 at own2 bel2 ⊢
  generalize W2.heap.size = p at own2 hpW hpw ⊢
  have hn1 : ¬ w.heap.size = p := by omega
  have hn2 : ¬ w.heap.size + 1 = p := by omega
  refine wpMid_step rfl (fun W4 hb4 K hK => ?_)
  have own4 := own2.call hb4
  have bel4 := bel2.trans (hb4.mono bel2.size)
  obtain ⟨-, lt2, row2, fr2⟩ := own4.at3
  go_simp
  refine hK _ _ (below_setCells _ hpW _ _ _ _ bel4) ?_; clear hK K
  have own5 := own4.setCells p 0 (encRg bn).toList (by omega)
  simp only [List.map_cons, List.map_nil, if_neg hn1, if_neg hn2, if_true, all_rg] at own5
  generalize World.setCells W4 _ _ _ = W5 at own5 ⊢
  refine wpMid_nil (fun W6 hb6 => ?_)
  have own6 := own5.call hb6
  clear hP hb1 own1 hq hb2 own2 bel2 hb4 own4 bel4 lt2 row2 fr2 own5 hb6
  obtain ⟨-, lt1, row1, fr1⟩ := own6.at2
  have hb := own6.below
  have hn3 : ¬ w.heap.size = w.heap.size + 1 := by omega
  have hn4 : ¬ p = w.heap.size + 1 := by omega
  by_cases h : be = 0
  · subst h
    rw [if_neg (by simp)] at hV
    simp only at hV
    go_wp2_with fail
    clear lt1 row1 fr1 hb
    obtain ⟨-, lt0, row0, fr0⟩ := own6.at1
    obtain ⟨-, lt2, row2, fr2⟩ := own6.at3
    refine wp_region_ext_tail 6 (by kernel_rfl) (by kernel_rfl) ?_
    simp only [List.take_succ_cons, List.take_zero, List.drop_succ_cons, List.drop_zero]
    iterate 3 (refine wpGrow_step (fun K hK => ?_); go_simp; refine hK _ ?_; clear hK K)
    refine wpGrow_step (fun K hK => ?_); go_simp
    apply Exists.intro
    refine ⟨fun _ => Calls.grow_of (least_any ⟨x, s⟩ _ hs) rfl, hK _ ?_⟩; clear hK K
    iterate 2 (refine wpGrow_step (fun K hK => ?_); go_simp; refine hK _ ?_; clear hK K)
    refine wpGrow_nil ?_
    intro W7 hb7
    have own3 := own6.call hb7
    clear own6 lt0 row0 fr0 lt2 row2 fr2
    obtain ⟨-, lt0, row0, fr0⟩ := own3.at1
    obtain ⟨-, lt1, row1, fr1⟩ := own3.at2
    go_wp2_with fail
    exact ret_cell_tmp rfl rfl rfl (rWWn _ _ _ (by rw [rowD_setCells_same, row1, all_wn])) ⟨by first | rfl | (rw [hV]; rfl), below_setCells _ (by omega) _ _ _ _ own3.below⟩
  · rw [if_pos h] at hV
    simp only at hV
    have h' : ((be : Int) != 0) = true := by simpa using h
    go_wp2_with fail
    exact ret_cell_tmp rfl rfl rfl (rWWn _ _ _ (by rw [rowD_setCells_same, row1, all_wn])) ⟨by first | rfl | (rw [hV]; rfl), below_setCells _ (by omega) _ _ _ _ hb⟩

end Go.Proofs.YtpoaakdljpdkfaaDoor
